/-
  LOOPS OVER FUNCTIONS, over states of which a part is known; functions without a body.
-/
import Derived.Test.YtmgoingbogepoaaDoorAmSyRun
namespace Go.AM
open Go.RowKit

variable {P : Program} {E : Env} {K : Fr → Heap → Prop} {X : Ex → Fr → Heap → Prop}

/-- A function without a Go body. -/
theorem Cp.ext {f : FuncId} {fn : Func} {gs : List V} {g v : V} {h : Heap} (hf : P.funcs[f]? = some fn) (hb : fn.body = none) (hx : extern P fn gs Heap.empty = some (v, h)) (hr : retAll h v = some g) : Cp P E f gs g := by
  refine ⟨v, h, .of_step ⟨0, fun n _ => ?_⟩, hr⟩
  change sCall P E (run P E n) f gs Heap.empty = _
  unfold sCall
  rw [hf]
  change (match fn.body with | .none => (match extern P fn gs Heap.empty with | some (v, h') => Res.ret v h' | .none => _) | some body => _) = _
  rw [hb]
  change (match extern P fn gs Heap.empty with | some (v, h') => Res.ret v h' | .none => _) = _
  rw [hx]
/-- The slots of a loop's frame, as far as they are known. -/
def TSat (n : Nat) (L : List (Nat × V)) (tm : T V) : Prop := ∀ i, Nat.blt i n = true → isLost ((mkT n L).get undef i) = false → tm.get undef i = (mkT n L).get undef i

/-- What a loop goes over: a function that shares the heap, and its arguments. -/
noncomputable def rangeAt (E : Env) (f : Operand) (s : Fr) (l : Nat) : Option (FuncId × List V) :=
  bif knownO s f then (match ev E.glob s.tm f with
    | some fv => (match fv with
      | .func fn first cap => (match fn with
        | .func g => bif E.shared g then some (g, List.app (List.app first [.func (.yield l) [] []]) cap) else none
        | _ => none)
      | _ => none)
    | none => none) else none
/-- What a loop comes to behind its function's end. -/
def rEnd (P : Program) (E : Env) (l fn n : Nat) (ps : List Tmp) (as bd : Code) (d : Nat) (s : Fr) (K : Fr → Heap → Prop) (X : Ex → Fr → Heap → Prop) (_ : V) (h : Heap) : Prop :=
  ∃ st pd tm, h.get l = .loop st pd fn n tm ps as bd d ∧ st ≠ .busy ∧ (match pd with
    | none => K s (h.set l (.loop .exhausted none fn n tm ps as bd d))
    | some c => Wc P E c s (h.set l (.loop .exhausted (some c) fn n tm ps as bd d)) K X)
theorem Wc.range {f : Operand} {params : Array Tmp} {as bd : Code} {b : Fr} {L : List (Nat × V)} {h : Heap} {g : FuncId} {args : List V} (hro : b.round = none) (hde : b.defers = []) (ho : rangeAt E f (b.on L) (h.n + 1) = some (g, args))
    (hnn : (h.new .defs).n = h.n + 1)
    (hw : ∀ tm, TSat b.n L tm → ∃ v h', Ev P E (.call g args ((h.new .defs).new (.loop .ready none b.fn b.n tm params.toList as bd h.n))) (.ret v h') ∧ rEnd P E (h.n + 1) b.fn b.n params.toList as bd h.n ({ b with marks := h.n :: b.marks }.on L) K X v h') : Wc P E (.rangeFunc f params as bd) (b.on L) h K X := by
  intro fr hs
  have hT : TSat b.n L fr.tm := fun i hi hl => hs.slot i hi hl
  obtain ⟨v, h', ⟨N, hr⟩, st, pd, tm, hget, hst, hend⟩ := hw fr.tm hT
  unfold rangeAt at ho
  cases hk : knownO (b.on L) f with
  | false => rw [hk] at ho; cases ho
  | true =>
    rw [hk] at ho
    simp only [cond_true] at ho
    split at ho
    · rename_i fv hev
      split at ho
      · rename_i fnv first cap
        split at ho
        · rename_i g'
          cases hsh : E.shared g' with
          | false => rw [hsh] at ho; cases ho
          | true =>
            rw [hsh] at ho
            cases ho
            have hev' : ev E.glob fr.tm f = some (.func (.func g) first cap) := (ev_sat hs hk _).trans hev
            have hdef : defsOf fr h = some (h.n, h.n :: fr.marks, h.new .defs) := by
              unfold defsOf
              rw [hs.round, hs.defers]
              change (match b.round with | .none => (match b.defers with | [] => some (h.n, h.n :: fr.marks, h.new .defs) | _ => .none) | some _ => .none) = _
              rw [hro, hde]
            have hstep : ∀ n, N ≤ n → step P E (run P E n) (.code (.rangeFunc f params as bd) fr h) = endLoop (run P E n) (h.n + 1) { fr with marks := h.n :: fr.marks } (.ret v h') := by
              intro n hn
              change sRange P E (run P E n) f params as bd fr h = _
              unfold sRange
              rw [hev', hdef]
              simp only
              rw [hnn]
              change endLoop (run P E n) (h.n + 1) { fr with marks := h.n :: fr.marks } (bif E.shared g then run P E n (.call g (List.app (List.app first [.func (.yield (h.n + 1)) [] []]) cap) ((h.new .defs).new (.loop .ready none fr.fn fr.n fr.tm params.toList as bd h.n))) else _) = _
              rw [hsh, hs.fn, hs.n]
              have := hr n hn
              simp only [cond_true]
              exact congrArg _ this
            have hsat : Sat ({ b with marks := h.n :: b.marks }.on L) { fr with marks := h.n :: fr.marks } := ⟨hs.fn, hs.n, by show h.n :: fr.marks = h.n :: b.marks; rw [hs.marks]; rfl, hs.defers, hs.round, hs.dk, hs.did, hs.slot⟩
            cases pd with
            | none =>
              refine ⟨.normal, _, _, _, .of_step ⟨N, fun n hn => ?_⟩, hsat, hend⟩
              rw [hstep n hn]
              unfold endLoop
              simp only [hget]
            | some c =>
              obtain ⟨e, fr2, h2, s2, ⟨M, hr2⟩, hs2, hq⟩ := hend _ hsat
              refine ⟨e, fr2, h2, s2, .of_step ⟨max N M, fun n hn => ?_⟩, hs2, hq⟩
              rw [hstep n (by omega)]
              refine Eq.trans ?_ (hr2 n (by omega))
              unfold endLoop
              simp only [hget]
        · cases ho
      · cases ho
    · cases ho

/-- The frame of a loop's round. -/
def roundB (fn n l : Nat) : Fr := ⟨fn, n, .e, [], [], some l, none, false⟩
noncomputable def setL (n : Nat) (ps : List Tmp) (args : List V) (L : List (Nat × V)) (ks : List Nat) : Option (List (Nat × V)) :=
  match setParams ps n args (mkT n L) with
  | some t => some (keepV ⟨0, n, t, [], [], none, none, false⟩ ks)
  | none => none
theorem setParams_sat {n : Nat} (ps : List Tmp) : ∀ {args : List V} {t tm t' : T V}, (∀ i, Nat.blt i n = true → isLost (t.get undef i) = false → tm.get undef i = t.get undef i) → setParams ps n args t = some t' → ∃ tm', setParams ps n args tm = some tm' ∧ ∀ i, Nat.blt i n = true → isLost (t'.get undef i) = false → tm'.get undef i = t'.get undef i := by
  induction ps with
  | nil =>
    intro args t tm t' h hs
    cases args with
    | nil =>
      change some t = some t' at hs
      cases hs
      exact ⟨tm, rfl, h⟩
    | cons v args => cases hs
  | cons p ps IH =>
    intro args t tm t' h hs
    cases args with
    | nil => cases hs
    | cons v args =>
      change (bif Nat.blt p n then setParams ps n args (t.set undef v p) else none) = some t' at hs
      cases hp : Nat.blt p n with
      | false => rw [hp] at hs; cases hs
      | true =>
        rw [hp] at hs
        obtain ⟨tm', h1, h2⟩ := IH (t := t.set undef v p) (tm := tm.set undef v p) (fun i hi hl => by
          rw [T.get_set] at hl ⊢
          rw [T.get_set]
          split
          · rfl
          · rename_i hne
            rw [if_neg hne] at hl
            exact h i hi hl) hs
        refine ⟨tm', ?_, h2⟩
        change (bif Nat.blt p n then setParams ps n args (tm.set undef v p) else none) = some tm'
        rw [hp]; exact h1

/-- What comes behind a round. -/
def yEnd (l fn n : Nat) (tm : T V) (ps : List Tmp) (as bd : Code) (d : Nat) (C : Bool → Heap → Prop) (_ : Fr) (h : Heap) : Prop :=
  ∃ pd, h.get l = .loop .busy pd fn n tm ps as bd d ∧ C true (h.set l (.loop .ready none fn n tm ps as bd d))
def yOut (l fn n : Nat) (tm : T V) (ps : List Tmp) (as bd : Code) (d : Nat) (C : Bool → Heap → Prop) : Ex → Fr → Heap → Prop
  | .ret => fun _ h => ∃ pd, h.get l = .loop .busy pd fn n tm ps as bd d ∧ C false (h.set l (.loop .done (some .ret) fn n tm ps as bd d))
  | .exit id => fun _ h => ∃ pd, h.get l = .loop .busy pd fn n tm ps as bd d ∧ C false (h.set l (.loop .done (some (.exit id)) fn n tm ps as bd d))
  | _ => fun _ _ => False
def yBody (P : Program) (E : Env) (l fn n : Nat) (tm : T V) (ps : List Tmp) (as bd : Code) (d : Nat) (C : Bool → Heap → Prop) (s : Fr) (h : Heap) : Prop :=
  ∃ pd, h.get l = .loop .ready pd fn n tm ps as bd d ∧ Wc P E bd s (h.set l (.loop .busy pd fn n tm ps as bd d)) (yEnd l fn n tm ps as bd d C) (yOut l fn n tm ps as bd d C)
def noX (_ : Ex) (_ : Fr) (_ : Heap) : Prop := False
theorem Ev.yield {l fn n d : Nat} {tm : T V} {ps : List Tmp} {as bd : Code} {args : List V} {h : Heap} {st : LoopState} {pd0 : Option Code} {L0 : List (Nat × V)} {C : Bool → Heap → Prop} (ks : List Nat) (L1 : List (Nat × V)) (hl : h.get l = .loop st pd0 fn n tm ps as bd d) (hT : TSat n L0 tm) (hp : setL n ps args L0 ks = some L1)
    (hw : Wc P E as ((roundB fn n l).on L1) h (yBody P E l fn n tm ps as bd d C) noX) : ∃ v h', Ev P E (.yield l args h) (.ret (.bool v) h') ∧ C v h' := by
  unfold setL at hp
  cases hsp : setParams ps n args (mkT n L0) with
  | none => rw [hsp] at hp; cases hp
  | some t =>
    rw [hsp] at hp
    simp only [Option.some.injEq] at hp
    obtain ⟨tm', hs1, hs2⟩ := setParams_sat ps (fun i hi hl => hT i hi hl) hsp
    have hsat : Sat ((roundB fn n l).on L1) ⟨fn, n, tm', [], [], some l, none, false⟩ := by
      have h0 : Sat ⟨fn, n, t, [], [], some l, none, false⟩ ⟨fn, n, tm', [], [], some l, none, false⟩ := ⟨rfl, rfl, rfl, rfl, rfl, rfl, rfl, hs2⟩
      refine (Le.keep (s := ⟨fn, n, t, [], [], some l, none, false⟩) (b := roundB fn n l) (ks := ks) (L := L1) ?_ rfl rfl rfl rfl rfl rfl rfl) _ h0
      exact hp
    obtain ⟨e, fr1, h1, s1, ⟨N, hr1⟩, hsat1, hq⟩ := hw _ hsat
    cases e with
    | normal =>
      obtain ⟨pd, hg1, hb⟩ := hq
      obtain ⟨e2, fr2, h2, s2, ⟨M, hr2⟩, hsat2, hq2⟩ := hb fr1 hsat1
      have hrun : ∀ m, N ≤ m → M ≤ m → step P E (run P E m) (.yield l args h) = endRound l (.code e2 fr2 h2) := by
        intro m hN hM
        change sYield (run P E m) l args h = _
        unfold sYield
        rw [hl]
        simp only [hs1]
        rw [hr1 m hN]
        change endRound l (match h1.get l with
          | .loop st pend fn n tm ps a b d => (match st with
            | .ready => run P E m (.code bd fr1 (h1.set l (.loop .busy pend fn n tm ps a b d)))
            | _ => .none l .none)
          | _ => .none l .none) = _
        rw [hg1]
        simp only
        rw [hr2 m hM]
      cases e2 with
      | normal =>
        obtain ⟨pd2, hg2, hC⟩ := hq2
        refine ⟨true, _, .of_step ⟨max N M, fun m hm => ?_⟩, hC⟩
        rw [hrun m (by omega) (by omega)]
        unfold endRound
        simp only [hg2]
      | ret =>
        obtain ⟨pd2, hg2, hC⟩ := hq2
        refine ⟨false, _, .of_step ⟨max N M, fun m hm => ?_⟩, hC⟩
        rw [hrun m (by omega) (by omega)]
        unfold endRound
        simp only [hg2]
      | exit id =>
        obtain ⟨pd2, hg2, hC⟩ := hq2
        refine ⟨false, _, .of_step ⟨max N M, fun m hm => ?_⟩, hC⟩
        rw [hrun m (by omega) (by omega)]
        unfold endRound
        simp only [hg2]
      | goto _ => exact absurd hq2 id
      | panic _ => exact absurd hq2 id
    | _ => exact absurd hq id

/-- A round of a loop, run by an operation of the function that is gone over. -/
noncomputable def yieldAt (P : Program) (E : Env) (all : List Oper) (i : Nat) (s : Fr) (h : Heap) : Option (Nat × List V × Heap × Option Tmp) :=
  match opAt all i s with
  | none => none
  | some o => match operE (E.lit s.fn) P E.glob s.tm h o with
    | .yield l args h1 => some (l, args, h1, o.dst)
    | _ => none
theorem Evs.yield {all l : List Oper} {o : Oper} {fr fr1 : Fr} {h h1 h2 : Heap} {q : Nat} {args : List V} {v : V} {r : Res} (hw : wanted all fr o = some true) (ho : operE (E.lit fr.fn) P E.glob fr.tm h o = .yield q args h1)
    (hc : Ev P E (.yield q args h1) (.ret v h2)) (hp : fr.put o.dst v = some fr1) (hr : Evs P E all l fr1 h2 r) : Evs P E all (o :: l) fr h r := by
  obtain ⟨N, hr⟩ := hr
  obtain ⟨M, hc⟩ := hc
  refine ⟨max N M, fun n hn => ?_⟩
  change runOp P E (run P E n) all o (runOps P E (run P E n) all l) fr h = r
  unfold runOp
  rw [hw]
  change afterOp E (run P E n) false o fr (runOps P E (run P E n) all l) _ (operE (E.lit fr.fn) P E.glob fr.tm h o) = r
  rw [ho]
  change afterCall o fr (runOps P E (run P E n) all l) _ (run P E n (.yield q args h1)) = r
  rw [hc n (by omega)]
  change goOn o fr (runOps P E (run P E n) all l) v h2 = r
  unfold goOn
  rw [hp]
  exact hr n (by omega)
/-- What the function does when the round is over. -/
def yNext (P : Program) (E : Env) (all : List Oper) (i : Nat) (b : Fr) (L : List (Nat × V)) (d : Option Tmp) (K : Fr → Heap → Prop) (X : Ex → Fr → Heap → Prop) (v : Bool) (h : Heap) : Prop :=
  ∃ ks L', sumP ks ((b.on L).put d (.bool v)) = some L' ∧ Wl P E all (all.drop (i + 1)) (b.on L') h K X
theorem Wl.yield {all : List Oper} {b : Fr} {L : List (Nat × V)} {h h1 : Heap} {l fn n dd : Nat} {tm : T V} {ps : List Tmp} {ag bd : Code} {args : List V} {st : LoopState} {pd0 : Option Code} {L0 : List (Nat × V)} {d : Option Tmp} (i : Nat) (ks : List Nat) (L1 : List (Nat × V)) (hT : TSat n L0 tm) (ho : yieldAt P E all i (b.on L) h = some (l, args, h1, d)) (hl : h1.get l = .loop st pd0 fn n tm ps ag bd dd) (hp : setL n ps args L0 ks = some L1)
    (hw : Wc P E ag ((roundB fn n l).on L1) h1 (yBody P E l fn n tm ps ag bd dd (yNext P E all i b L d K X)) noX) : Wl P E all (all.drop i) (b.on L) h K X := by
  unfold yieldAt at ho
  split at ho
  · cases ho
  · rename_i o hoa
    split at ho
    · rename_i l' args' h1' hr
      cases ho
      obtain ⟨e, k1, k2⟩ := opAt_some hoa
      obtain ⟨v, h2, hev, ks', L', hput, hk⟩ := Ev.yield ks L1 hl hT hp hw
      obtain ⟨s1, hp1, hL⟩ := sumP_some hput
      rw [e]
      intro fr hs
      obtain ⟨e1, e2⟩ := knownOp_eq (P := P) (E := E) hs k1
      obtain ⟨fr1, hpf, hs1⟩ := hs.put hp1
      obtain ⟨ex, fr2, h2', s2, hr2, hs2, hq⟩ := hk fr1 ((((SameB.on b L).trans (.put hp1)).keep hL) fr1 hs1)
      exact ⟨ex, fr2, h2', s2, Evs.yield (e2.trans k2) (by rw [hs.fn, e1]; exact hr) hev hpf hr2, hs2, hq⟩
    · cases ho

theorem rEnd.mk {l fn n d : Nat} {ps : List Tmp} {as bd : Code} {s : Fr} {v : V} {h : Heap} (st : LoopState) (tm : T V) (hg : h.get l = .loop st none fn n tm ps as bd d) (hst : st ≠ .busy) (hk : K s (h.set l (.loop .exhausted none fn n tm ps as bd d))) : rEnd P E l fn n ps as bd d s K X v h := ⟨st, none, tm, hg, hst, hk⟩
theorem rEnd.mkC {l fn n d : Nat} {ps : List Tmp} {as bd : Code} {s : Fr} {v : V} {h : Heap} (st : LoopState) (c : Code) (tm : T V) (hg : h.get l = .loop st (some c) fn n tm ps as bd d) (hst : st ≠ .busy) (hk : Wc P E c s (h.set l (.loop .exhausted (some c) fn n tm ps as bd d)) K X) : rEnd P E l fn n ps as bd d s K X v h := ⟨st, some c, tm, hg, hst, hk⟩
theorem yBody.mk {l fn n d : Nat} {tm : T V} {ps : List Tmp} {as bd : Code} {C : Bool → Heap → Prop} {s : Fr} {h : Heap} (pd : Option Code) (hg : h.get l = .loop .ready pd fn n tm ps as bd d) (hw : Wc P E bd s (h.set l (.loop .busy pd fn n tm ps as bd d)) (yEnd l fn n tm ps as bd d C) (yOut l fn n tm ps as bd d C)) : yBody P E l fn n tm ps as bd d C s h := ⟨pd, hg, hw⟩
theorem yEnd.mk {l fn n d : Nat} {tm : T V} {ps : List Tmp} {as bd : Code} {C : Bool → Heap → Prop} {s : Fr} {h : Heap} (pd : Option Code) (hg : h.get l = .loop .busy pd fn n tm ps as bd d) (hC : C true (h.set l (.loop .ready none fn n tm ps as bd d))) : yEnd l fn n tm ps as bd d C s h := ⟨pd, hg, hC⟩
theorem yOut.ret {l fn n d : Nat} {tm : T V} {ps : List Tmp} {as bd : Code} {C : Bool → Heap → Prop} {s : Fr} {h : Heap} (pd : Option Code) (hg : h.get l = .loop .busy pd fn n tm ps as bd d) (hC : C false (h.set l (.loop .done (some .ret) fn n tm ps as bd d))) : yOut l fn n tm ps as bd d C .ret s h := ⟨pd, hg, hC⟩
theorem yOut.exit {l fn n d id : Nat} {tm : T V} {ps : List Tmp} {as bd : Code} {C : Bool → Heap → Prop} {s : Fr} {h : Heap} (pd : Option Code) (hg : h.get l = .loop .busy pd fn n tm ps as bd d) (hC : C false (h.set l (.loop .done (some (.exit id)) fn n tm ps as bd d))) : yOut l fn n tm ps as bd d C (.exit id) s h := ⟨pd, hg, hC⟩
theorem yNext.mk {all : List Oper} {i : Nat} {b : Fr} {L : List (Nat × V)} {d : Option Tmp} {v : Bool} {h : Heap} (ks : List Nat) (L' : List (Nat × V)) (hp : sumP ks ((b.on L).put d (.bool v)) = some L') (hk : Wl P E all (all.drop (i + 1)) (b.on L') h K X) : yNext P E all i b L d K X v h := ⟨ks, L', hp, hk⟩

/-- What comes behind a call that is walked into. -/
def cNext (P : Program) (E : Env) (all : List Oper) (i : Nat) (b : Fr) (L : List (Nat × V)) (d : Option Tmp) (K : Fr → Heap → Prop) (X : Ex → Fr → Heap → Prop) (v : V) (h : Heap) : Prop :=
  ∃ ks L', sumP ks ((b.on L).put d v) = some L' ∧ Wl P E all (all.drop (i + 1)) (b.on L') h K X
theorem cNext.mk {all : List Oper} {i : Nat} {b : Fr} {L : List (Nat × V)} {d : Option Tmp} {v : V} {h : Heap} (ks : List Nat) (L' : List (Nat × V)) (hp : sumP ks ((b.on L).put d v) = some L') (hk : Wl P E all (all.drop (i + 1)) (b.on L') h K X) : cNext P E all i b L d K X v h := ⟨ks, L', hp, hk⟩
/-- A call that shares the heap, walked into. -/
theorem Wl.callI {all : List Oper} {b : Fr} {L : List (Nat × V)} {h h1 : Heap} {f : FuncId} {args : List V} {d : Option Tmp} {fn : Func} {body : Code} (i : Nat) (hf : P.funcs[f]? = some fn) (hb : fn.body = some body) (hl : Nat.ble (List.len args) fn.ntmps = true) (ho : sharedAt P E all i (b.on L) h = some (f, args, h1, d))
    (hw : Wc P E body (argS f fn.ntmps args) h1 (retX P fn (cNext P E all i b L d K X)) (bodyX P fn (cNext P E all i b L d K X))) : Wl P E all (all.drop i) (b.on L) h K X := by
  obtain ⟨v, h', hr, ks, L', hp, hk⟩ := Ev.body hf hb hl hw
  exact Wl.callS i ks L' (v := v) (h2 := h') hr ho hp hk
/-- What comes behind a call of pure data that is walked into. -/
def pNext (P : Program) (E : Env) (all : List Oper) (i : Nat) (b : Fr) (L : List (Nat × V)) (h1 : Heap) (d : Option Tmp) (K : Fr → Heap → Prop) (X : Ex → Fr → Heap → Prop) (v : V) (h : Heap) : Prop :=
  ∃ g v' h2 ks L', retAll h v = some g ∧ thaw h1 g = (v', h2) ∧ sumP ks ((b.on L).put d v') = some L' ∧ Wl P E all (all.drop (i + 1)) (b.on L') h2 K X
theorem pNext.mk {all : List Oper} {i : Nat} {b : Fr} {L : List (Nat × V)} {h1 h2 : Heap} {d : Option Tmp} {v v' : V} {h : Heap} (g : V) (ks : List Nat) (L' : List (Nat × V)) (hg : retAll h v = some g) (ht : thaw h1 g = (v', h2)) (hp : sumP ks ((b.on L).put d v') = some L') (hk : Wl P E all (all.drop (i + 1)) (b.on L') h2 K X) : pNext P E all i b L h1 d K X v h := ⟨g, v', h2, ks, L', hg, ht, hp, hk⟩
theorem Wl.callQ {all : List Oper} {b : Fr} {L : List (Nat × V)} {h h1 : Heap} {f : FuncId} {gs : List V} {d : Option Tmp} {fn : Func} {body : Code} (i : Nat) (hf : P.funcs[f]? = some fn) (hb : fn.body = some body) (hl : Nat.ble (List.len gs) fn.ntmps = true) (ho : pureAt P E all i (b.on L) h = some (f, gs, h1, d))
    (hw : Wc P E body (argS f fn.ntmps gs) Heap.empty (retX P fn (pNext P E all i b L h1 d K X)) (bodyX P fn (pNext P E all i b L h1 d K X))) : Wl P E all (all.drop i) (b.on L) h K X := by
  obtain ⟨v, hc, hr, g, v', h2, ks, L', hg, ht, hp, hk⟩ := Ev.body hf hb hl hw
  exact Wl.callP i ks L' (g := g) ⟨v, hc, hr, hg⟩ ho ht hp hk

/-- The loop over a function in a function's body: its assignments, its rounds (the k-th). -/
def ranges : Code → List (Code × Code)
  | .seq a b => ranges a ++ ranges b
  | .cond _ a b => ranges a ++ ranges b
  | .block _ b => ranges b
  | .loop b => ranges b
  | .rangeFunc _ _ as bd => (as, bd) :: ranges bd
  | .scope b => ranges b
  | _ => []
def rAs (P : Program) (f k : Nat) : Code :=
  match P.funcs[f]? with
  | some fn => (match fn.body with
    | some b => (match (ranges b)[k]? with
      | some p => p.1
      | none => .skip)
    | none => .skip)
  | none => .skip
def rBd (P : Program) (f k : Nat) : Code :=
  match P.funcs[f]? with
  | some fn => (match fn.body with
    | some b => (match (ranges b)[k]? with
      | some p => p.2
      | none => .skip)
    | none => .skip)
  | none => .skip

end Go.AM
