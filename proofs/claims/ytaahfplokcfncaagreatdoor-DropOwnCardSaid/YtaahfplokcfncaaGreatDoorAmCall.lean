/-
  Calls: in and out.
-/
import Derived.Test.YtaahfplokcfncaaGreatDoorAmCode
import Derived.Defers
namespace Go.AM
open Go.RowKit

variable {P : Program} {E : Env} {ih : Task → Res} {B : Nat} {w0 : World}

theorem args0_get (l : List V) : ∀ (i : Nat) (t : T V) (j : Nat), (args0 l i t).get undef j = if i ≤ j ∧ j < i + l.length then l.getD (j - i) undef else t.get undef j := by
  induction l with
  | nil =>
    intro i t j
    have : ¬ (i ≤ j ∧ j < i + ([] : List V).length) := by simp only [List.length_nil]; omega
    rw [if_neg this]; rfl
  | cons v l IH =>
    intro i t j
    change (args0 l (i + 1) (t.set undef v i)).get undef j = _
    rw [IH, T.get_set]
    simp only [List.length_cons]
    by_cases h1 : i + 1 ≤ j ∧ j < i + 1 + l.length
    · rw [if_pos h1, if_pos (by omega)]
      rw [show j - i = (j - (i + 1)) + 1 by omega]; rfl
    · rw [if_neg h1]
      by_cases h2 : i = j
      · subst h2
        rw [if_pos (by omega), Nat.sub_self]
        simp
      · have h3 : ¬ j = i := fun e => h2 e.symm
        rw [if_neg (by first | exact h2 | exact h3), if_neg (by omega)]

theorem full_get (k : Nat) : ∀ j, (full k).get undef j = undef := by
  induction k with
  | zero => intro j; rfl
  | succ k IH =>
    intro j
    cases j with
    | zero => rfl
    | succ j =>
      change T.pick j (fun i => (full k).get undef i) (fun i => (full k).get undef i) = undef
      unfold T.pick
      cases Nat.beq (Nat.mod j 2) 0 <;> exact IH _

theorem enter_slots {g : Gh} {us : Array Value} {args : List V} {n k : Nat} (hs : Rs' g us args) (hn : args.length ≤ n) : Slots g n (args0 args 0 (full k)) (us ++ Array.replicate (n - us.size) Go.undef) where
  size := by simp [hs.1]; omega
  rel := fun i v hv => by
    rw [args0_get, full_get]
    rw [Array.getElem?_append] at hv
    rw [hs.1] at hv
    split at hv
    · rename_i hi
      rw [if_pos (by omega)]
      obtain ⟨y, hy⟩ := getElem?_of_lt_list args i hi
      simp only [Nat.sub_zero, List.getD_eq_getElem?_getD, hy, Option.getD_some]
      exact .inr (hs.2 i v y hv hy)
    · rename_i hi
      rw [if_neg (by omega)]
      rw [Array.getElem?_replicate] at hv
      split at hv
      · cases hv; exact .inr .undef
      · cases hv
  none := fun i hi => .inl (by rw [args0_get, full_get, if_neg (by omega)])

theorem step_mark {fr : Frame} {cs : List Frame} {w w' : World} {r : Nat} {ds : List Deferred} (hm : fr.mode ≠ .run) (hd : fr.defers = { target := .collected r, args := #[] } :: ds) (hk : (Instr.takeDeferred r).run P w = .ok [] w') :
    Go.step P (lone fr cs w) = .next (lone { fr with defers := ds } cs w') := by
  refine step_lone_go ?_
  cases hmode : fr.mode with
  | run => exact absurd hmode hm
  | returning => simp [stepG, unwind, hmode, hd, Sem.runT_eq, hk]
  | panicking chain => simp [stepG, unwind, hmode, hd, Sem.runT_eq, hk]

theorem killMarks_ok {g : Gh} (ms : List Nat) : ∀ (ds : List Deferred) (fr : Frame) (cs : List Frame) (h h' : Heap) (w : World), fr.mode ≠ .run → fr.defers = ds → MarksOk g ds ms → W B w0 g h w → killMarks ms h = some h' →
    ∃ w', Steps P (lone fr cs w) (lone { fr with defers := [] } cs w') ∧ W B w0 g h' w' := by
  induction ms with
  | nil =>
    intro ds fr cs h h' w _ hd hM hW hk
    cases hk
    have : ds = [] := by have := hM.1; simpa using this
    subst this
    exact ⟨w, by rw [← hd]; exact Steps.refl _ _, hW⟩
  | cons m ms IH =>
    intro ds fr cs h h' w hm hd hM hW hk
    cases ds with
    | nil => have := hM.1; simp at this
    | cons d ds =>
      obtain ⟨b, k, rfl, hv, hmu⟩ := hM.2 0 d m rfl rfl
      change (match h.get m with | .defs => killMarks ms (h.set m .dead) | _ => .none) = some h' at hk
      split at hk
      · rename_i ho
        have hobj := hW.obj m _ hmu
        rw [ho] at hobj
        have hobj : w.heap[b]? = some (.deferred (some [])) := hobj
        have htake := run_takeDeferred (P := P) hobj
        have hW' : W B w0 g (h.set m .dead) (blk w b (.deferred none)) := hW.setObj (x := (b, k)) hmu hv rfl trivial (noS_of hW.shut hobj (fun _ _ _ e => by cases e) (fun _ _ e => by cases e))
        obtain ⟨w', h1, h2⟩ := IH ds { fr with defers := ds } cs _ h' _ hm rfl ⟨by simpa using hM.1, fun i d m a c => hM.2 (i + 1) d m (by simpa using a) (by simpa using c)⟩ hW' hk
        exact ⟨w', .head (step_mark hm hd htake) h1, h2⟩
      · cases hk

theorem mapM_sound {α : Type} {w : World} {g : Gh} (F : α → Sem Value) (f : α → Option V) (hF : ∀ x y, f x = some y → ∃ v, (F x).run P w = .ok v w ∧ R g v y) (l : List α) :
    ∀ ys : List V, l.length = ys.length → (∀ (i : Nat) x, l[i]? = some x → ∃ y, ys[i]? = some y ∧ f x = some y) → ∃ vs : List Value, (l.mapM F).run P w = .ok vs w ∧ Rs' g vs.toArray ys := by
  induction l with
  | nil =>
    intro ys hl _
    cases ys with
    | nil => exact ⟨[], by simp, Rs'.nil⟩
    | cons _ _ => simp at hl
  | cons x l IH =>
    intro ys hl hg
    obtain ⟨y, hy, hfy⟩ := hg 0 x rfl
    cases ys with
    | nil => simp at hl
    | cons y' ys =>
      cases hy
      obtain ⟨v, h1, h2⟩ := hF x y hfy
      obtain ⟨vs, h3, h4⟩ := IH ys (by simpa using hl) (fun i x p => by
        obtain ⟨y, q, r⟩ := hg (i + 1) x (by simpa using p)
        exact ⟨y, by simpa using q, r⟩)
      refine ⟨v :: vs, ?_, ?_⟩
      · rw [List.mapM_cons]
        simp only [Sem.run_bind, h1, Result.andThen_ok, h3, Sem.run_pure]
      · refine ⟨by simpa using h4.1, fun i a b p q => ?_⟩
        cases i with
        | zero => simp at p q; subst p; subst q; exact h2
        | succ i => exact h4.2 i a b (by simpa using p) (by simpa using q)

def resOf (tmps : Array Value) : ResultVar → Sem Value
  | .tmp t => pure (tmps.getD t Go.undef)
  | .cell a t => do loadVar t (← asAddr (tmps.getD a Go.undef))

theorem run_resOf_cell {w : World} {tmps : Array Value} {a : Tmp} {t : TypeId} {v : Value} (h : (Instr.loadAt t (tmps.getD a Go.undef)).run P w = .ok v w) : (resOf tmps (.cell a t)).run P w = .ok v w := by
  have key : ∀ q : Value, (Instr.loadAt t q).run P w = .ok v w → (do loadVar t (← asAddr q) : Sem Value).run P w = .ok v w := by
    intro q h
    simp only [Instr.loadAt, Sem.run_bind] at h ⊢
    cases q with
    | pointer o =>
      cases o with
      | some ad => exact h
      | none => simp [Instr.sureAddr, stuck] at h
    | _ => simp [Instr.sureAddr, stuck] at h
  exact key _ h

theorem SlotsP.get {g : Gh} {n : Nat} {tm : T V} {tmps : Array Value} (h : SlotsP g n tm tmps) (t : Nat) : tm.get undef t = lost ∨ R g (tmps.getD t Go.undef) (tm.get undef t) := by
  rcases Nat.lt_or_ge t tmps.size with q | q
  · obtain ⟨v, hv⟩ := getElem?_of_lt_array tmps t q
    rw [getD_some' hv]
    exact h.rel t v hv
  · have e : tmps.getD t Go.undef = Go.undef := by rw [Array.getD_eq_getD_getElem?, Array.getElem?_eq_none q]; rfl
    rcases h.none t (by rw [← h.size]; exact q) with e1 | e1
    · rw [e, e1]; exact .inr R.undef
    · exact .inl e1

theorem results_sound {g : Gh} {h : Heap} {w : World} (hW : W B w0 g h w) {fn : Func} {fr : Fr} {tmps : Array Value} (hs : SlotsP g fr.n fr.tm tmps) {y : V} (hr : results P fn fr h = some y) : ∃ v, (Go.results fn tmps).run P w = .ok v w ∧ R g v y := by
  unfold results at hr
  have key : ∀ ys, mapO (result1 P fr h) fn.results.toList = some ys → ∃ vs : Array Value, (fn.results.mapM (resOf tmps)).run P w = .ok vs w ∧ Rs' g vs ys := by
    intro ys hys
    obtain ⟨p1, p2⟩ := mapO_get hys
    obtain ⟨vs, h1, h2⟩ := mapM_sound (P := P) (w := w) (g := g) (resOf tmps) (result1 P fr h) (fun x y hxy => by
      cases x with
      | tmp t =>
        obtain ⟨rfl, hn⟩ := notLost_some hxy
        exact ⟨_, rfl, (hs.get t).resolve_left hn⟩
      | cell a t =>
        have hxy : load P h t (fr.tm.get undef a) = some y := hxy
        rcases hs.get a with e | hR
        · rw [e] at hxy; cases hxy
        · obtain ⟨v, h1, h2⟩ := load_sound (P := P) hW hR hxy
          exact ⟨v, run_resOf_cell h1, h2⟩) fn.results.toList ys (by simpa using p1.symm) p2
    refine ⟨vs.toArray, ?_, h2⟩
    rw [Array.mapM_eq_mapM_toList]
    simp only [Sem.run_map, h1, Result.andThen_ok]
  have hres : Go.results fn tmps = (do let vs ← fn.results.mapM (resOf tmps); pure (if h : vs.size = 1 then vs[0] else .tuple vs)) := by
    unfold Go.results
    congr 1
  rw [hres]
  split at hr
  · rename_i v hv
    cases hr
    obtain ⟨vs, h1, h2⟩ := key _ hv
    have hsz : vs.size = 1 := by rw [h2.1]; rfl
    obtain ⟨u, hu⟩ := getElem?_of_lt_array vs 0 (by omega)
    refine ⟨u, ?_, h2.2 0 u y hu rfl⟩
    simp only [Sem.run_bind]
    rw [h1]
    simp only [Result.andThen_ok, Sem.run_pure, dif_pos hsz]
    congr 1
    rw [Array.getElem?_eq_getElem (by omega)] at hu
    simpa using hu
  · rename_i vs' hne hv
    cases hr
    obtain ⟨vs, h1, h2⟩ := key _ hv
    have hsz : vs.size ≠ 1 := by
      rw [h2.1]
      intro e
      match vs', e with
      | [v], _ => exact hne v rfl
    refine ⟨.tuple vs, ?_, .tup h2.1 h2.2⟩
    simp only [Sem.run_bind]
    rw [h1]
    simp only [Result.andThen_ok, Sem.run_pure, dif_neg hsz]
  · cases hr


/-- The functions that are called have a body and no name that the model keeps to itself; or they have none, and are known. -/
def NameOk (P : Program) : Prop := ∀ (f : FuncId) (fn : Func), P.funcs[f]? = some fn → fn.body.isSome = true → fn.name ≠ "runtime.NumGoroutine"

theorem run_callFunc (hN : NameOk P) {f : FuncId} {fn : Func} {body : Code} {us : Array Value} {w : World} (hf : P.funcs[f]? = some fn) (hb : fn.body = some body) : (callFunc f us).run P w = .ok (.enter f us) w := by
  have h1 := hN f fn hf (by rw [hb]; rfl)
  have h2 : (fn.name == "runtime.NumGoroutine") = false := by simpa using h1
  simp [callFunc, hf, h1, hb]

/-- The deferred calls of a frame that is left. -/
theorem runDefers_ok (hI : Snd P E ih) {f : FuncId} {fn : Func} (hfn : P.funcs[f]? = some fn) {fr : Fr} {us : Array Value} {g0 : Gh} {w00 : World} {start : Machine} {cs : List Frame} (hcall : (callFunc f us).run P w00 = .ok (.enter f us) w00) (hstart : start = lone (Frame.enter P f us .normal) cs w00) (fs : List (FuncId × List V)) :
    ∀ (ds : List Deferred) (p : Option V) (g : Gh) (h : Heap) (w : World) (c : Frame), c.fn = f → c.kind = .normal → c.defers = ds → SlotsP g fr.n fr.tm c.tmps → DCalls g ds fs → PanOk g c.mode p → Grown B g0 g → W B w0 g h w → GlobOk E.glob g.S →
      Steps P start (lone c cs w) → CallOk P B w0 g0 cs f us w00 (runDefers P ih f fn fr fs p h) := by
  subst hstart
  induction fs with
  | nil =>
    intro ds p g h w c hcf hck hcd hs hD hp hg hW hG hst
    have hds : ds = [] := by have := hD.1; simpa using this
    subst hds
    change CallOk P B w0 g0 cs f us w00 (endWith P f fn fr p h)
    unfold endWith
    cases p with
    | none =>
      simp only
      cases hres : AM.results P fn fr h with
      | none => trivial
      | some y =>
        obtain ⟨v, h5, h6⟩ := results_sound hW hs hres
        exact ⟨g, w, v, hg, hW, h6, .inr ⟨hcall, c, hst, hcf, hp, hcd, hck, fn, by rw [hcf]; exact hfn, h5⟩⟩
    | some y =>
      obtain ⟨v, hm, hR⟩ := hp
      exact ⟨g, w, v, hg, hW, hR, hcall, c, hst, hcf, hm, hcd, fn, by rw [hcf]; exact hfn⟩
  | cons q fs IH =>
    intro ds p g h w c hcf hck hcd hs hD hp hg hW hG hst
    cases ds with
    | nil => have := hD.1; simp at this
    | cons d ds =>
      obtain ⟨vs, cap, rfl, hR⟩ := hD.2 0 d q rfl rfl
      have hrun : c.mode ≠ .run := by
        cases p with
        | none => rw [hp]; simp
        | some y => obtain ⟨v, hm, _⟩ := hp; rw [hm]; simp
      change CallOk P B w0 g0 cs f us w00 (match ih (.dcall q.1 q.2 p h) with
        | .dret _ h' => runDefers P ih f fn fr fs .none h'
        | .none a b => .none a b
        | _ => .none f .none)
      have hd := hI.dcall { c with defers := ds } cs q.1 q.2 (vs ++ cap) p hW hG hR hp
      cases hr : ih (.dcall q.1 q.2 p h) with
      | dret did h' =>
        rw [hr] at hd
        obtain ⟨g', w', hg', hW', hent, hst'⟩ := hd
        have hstep := step_defer (P := P) (fr := c) (cs := cs) (w := w) (ds := ds) (fv := .func q.1) (cap := cap) (f := q.1) (args := vs ++ cap) hrun hcd rfl (by
          have : (invoke (.fn (.func q.1) cap) vs).run P w = (callFunc q.1 (vs ++ cap)).run P w := by simp [invoke]
          exact this.trans hent)
        have hpan : PanOk g' ({ { c with defers := ds } with mode := .returning } : Frame).mode none := rfl
        exact IH ds none g' h' w' ({ { c with defers := ds } with mode := .returning } : Frame) hcf hck rfl (hs.mono hg'.ext) (DCalls.mono ⟨by simpa using hD.1, fun i d m a b => hD.2 (i + 1) d m (by simpa using a) (by simpa using b)⟩ hg'.ext) hpan (hg.trans hg') hW' (hG.mono hg'.ext.S) (hst.trans (.head hstep hst'))
      | none _ _ => trivial
      | code _ _ _ => trivial
      | ret _ _ => trivial
      | panic _ _ => trivial

/-- A frame that is left. -/
theorem endBody_ok (hI : Snd P E ih) {f : FuncId} {fn : Func} (hfn : P.funcs[f]? = some fn) {g0 g : Gh} {h : Heap} {w w00 : World} {fr : Fr} {us : Array Value} {b : Frame} {a : Act} {todo : List Item} {mode : FrameMode} {cs : List Frame} (hcall : (callFunc f us).run P w00 = .ok (.enter f us) w00) (hbf : b.fn = f) (hbk : b.kind = .normal)
    (hf : FrOkP g b fr a) {p : Option V} (hp : PanOk g mode p) (hg : Grown B g0 g) (hW : W B w0 g h w) (hG : GlobOk E.glob g.S) (hst : Steps P (lone (Frame.enter P f us .normal) cs w00) (lone { b.atR a todo with mode := mode } cs w)) : CallOk P B w0 g0 cs f us w00 (endBody P ih f fn fr p h) := by
  have hrun : mode ≠ .run := by
    cases p with
    | none => rw [hp]; simp
    | some y => obtain ⟨v, hm, _⟩ := hp; rw [hm]; simp
  unfold endBody
  cases hk : killMarks fr.marks h with
  | none => trivial
  | some h2 =>
    simp only
    rcases hf.marks with ⟨hfs, hM⟩ | ⟨hms, hD⟩
    · obtain ⟨w2, h3, h4⟩ := killMarks_ok (P := P) fr.marks a.defers { b.atR a todo with mode := mode } cs h h2 w hrun rfl hM hW hk
      rw [hfs]
      exact runDefers_ok hI hfn hcall rfl [] [] p g h2 w2 { { b.atR a todo with mode := mode } with defers := [] } hbf hbk rfl hf.slots ⟨rfl, fun i d q x => by simp at x⟩ hp hg h4 hG (hst.trans h3)
    · rw [hms] at hk
      cases hk
      exact runDefers_ok hI hfn hcall rfl fr.defers a.defers p g h w { b.atR a todo with mode := mode } hbf hbk rfl hf.slots hD hp hg hW hG hst

theorem call_ok (hI : Snd P E ih) (hN : NameOk P) {g : Gh} {h : Heap} {w : World} (cs : List Frame) (f : FuncId) (args : List V) (us : Array Value) (hW : W B w0 g h w) (hG : GlobOk E.glob g.S) (hs : Rs' g us args) : CallOk P B w0 g cs f us w (sCall P E ih f args h) := by
  unfold sCall
  split
  · trivial
  · rename_i fn hfn
    split
    · rename_i hb
      split
      · rename_i v h' he
        obtain ⟨g', w', u, h1, h2, h3, h4⟩ := extern_ok hW hs hfn hb he
        exact ⟨g', w', u, h1, h2, h3, .inl h4⟩
      · trivial
    · rename_i body hb
      cases hle : Nat.ble (List.len args) fn.ntmps with
      | false => trivial
      | true =>
        rw [Nat.ble_eq, List.len_eq] at hle
        simp only [cond_true]
        have hcall := run_callFunc hN (us := us) (w := w) hfn hb
        let b : Frame := { (default : Frame) with fn := f, kind := .normal, roundOf := none }
        let a : Act := { tmps := us ++ Array.replicate (fn.ntmps - us.size) Go.undef, defers := [] }
        let fr0 : Fr := ⟨f, fn.ntmps, args0 args 0 (full (levels fn.ntmps)), [], [], none, none, false⟩
        have henter : Frame.enter P f us .normal = b.atR a [.code body] := by
          simp [Frame.enter, Frame.atR, hfn, hb, b, a]
        have hfr : FrOk g b fr0 a := ⟨rfl, enter_slots hs hle, rfl, DefsOk.nil g⟩
        have hc := hI.code body fr0 a b [] cs hW hG hfr
        rw [← henter] at hc
        change CallOk P B w0 g cs f us w (endCall P ih f fn (ih (.code body fr0 h)))
        cases hr : ih (.code body fr0 h) with
        | none _ _ => trivial
        | ret _ _ => rw [hr] at hc; exact hc.elim
        | panic _ _ => rw [hr] at hc; exact hc.elim
        | dret _ _ => rw [hr] at hc; exact hc.elim
        | code e fr h1 =>
          rw [hr] at hc
          obtain ⟨g', a', w', hg, hW', hf', hA⟩ := hc
          have hG' := hG.mono hg.ext.S
          cases e with
          | normal => exact endBody_ok hI hfn hcall rfl rfl (FrOk.weak hf') (p := none) (mode := .returning) rfl hg hW' hG' (Steps.trans hA (.one (stepR_end rfl)))
          | ret => obtain ⟨todo, hs'⟩ := hA; exact endBody_ok hI hfn hcall rfl rfl (FrOk.weak hf') (p := none) (mode := .returning) rfl hg hW' hG' (hs'.trans (.one (stepR_ret rfl)))
          | exit id => trivial
          | goto l => trivial
          | panic y =>
            obtain ⟨v, todo, hR, hst⟩ := hA
            exact endBody_ok hI hfn hcall rfl rfl hf' (p := some y) ⟨v, rfl, hR⟩ hg hW' hG' hst

theorem isRecover_some {o : Oper} (h : isRecover o = true) : o.guard = none ∧ ∃ ats, o.op = .call { callee := .builtin .recover, args := #[], argTypes := ats } := by
  unfold isRecover at h
  split at h
  · rename_i hg
    refine ⟨hg, ?_⟩
    split at h
    · rename_i c hc
      obtain ⟨callee, args, ats⟩ := c
      simp only at h
      split at h
      · have : args = #[] := by simpa [Array.isEmpty] using h
        subst this
        exact ⟨ats, hc⟩
      · cases h
    · cases h
  · cases h

theorem sem_recover {o : Oper} (h : isRecover o = true) (a : Act) (w : World) : (o.semAt none a.eval).run P w = .ok .recover w := by
  obtain ⟨_, ats, ho⟩ := isRecover_some h
  rw [Oper.semAt_none]
  unfold execOp
  rw [ho]
  simp [resolve, invoke, Go.builtin]

/-- A deferred call. -/
theorem dcall_ok (hI : Snd P E ih) (hN : NameOk P) {g : Gh} {h : Heap} {w : World} (c : Frame) (cs : List Frame) (f : FuncId) (args : List V) (us : Array Value) (p : Option V) (hW : W B w0 g h w) (hG : GlobOk E.glob g.S) (hs : Rs' g us args) (hp : PanOk g c.mode p) : DeferOk P B w0 g c cs f us w (sDefer P E ih f args p h) := by
  unfold sDefer
  split
  · trivial
  · rename_i fn hfn
    split
    · rename_i id ops rest hb
      split
      · trivial
      · rename_i o l hops
        cases hcnd : (isRecover o && isNil fn.results.toList && Nat.ble (List.len args) fn.ntmps) with
        | false => trivial
        | true =>
          simp only [Bool.and_eq_true] at hcnd
          obtain ⟨⟨hrec, hres⟩, hle⟩ := hcnd
          rw [Nat.ble_eq, List.len_eq] at hle
          have hres : fn.results = #[] := by
            have hnil : ∀ {α : Type} (l : List α), isNil l = true → l = [] := fun l h => by cases l with
              | nil => rfl
              | cons _ _ => cases h
            apply Array.ext'; simpa using hnil _ hres
          simp only [cond_true]
          have hcall := run_callFunc hN (us := us) (w := w) hfn hb
          let b : Frame := { (default : Frame) with fn := f, kind := .deferred, roundOf := none }
          let a : Act := { tmps := us ++ Array.replicate (fn.ntmps - us.size) Go.undef, defers := [] }
          let fr0 : Fr := ⟨f, fn.ntmps, args0 args 0 (full (levels fn.ntmps)), [], [], none, none, false⟩
          have henter : Frame.enter P f us .deferred = b.atR a [.code (.seq (.region id ops false) rest)] := by
            simp [Frame.enter, Frame.atR, hfn, hb, b, a]
          have hfr : FrOk g b fr0 a := ⟨rfl, enter_slots hs hle, rfl, DefsOk.nil g⟩
          have hsz : ops.size = l.length + 1 := by rw [← Array.length_toList, hops]; rfl
          have h0 : ops[0]? = some o := by rw [← Array.getElem?_toList, hops]; rfl
          have hw0 : Region.wanted o (yielded ops a.tmps) = true := by
            unfold Region.wanted; rw [(isRecover_some hrec).1]
          split
          · rename_i fr1 hput
            -- what recover() gives, and how the caller stands then
            obtain ⟨c', v, hRv, hst0, hset, hcd⟩ : ∃ (c' : Frame) (v : Value), R g v (orNil p) ∧ Go.step P (lone (b.atR a (.inRegion ops (0 :: List.range' 1 l.length) :: [.code rest])) (c :: cs) w) = .next (lone (b.atR (a.put o.dst v) (.inRegion ops (List.range' 1 l.length) :: [.code rest])) (c' :: cs) w) ∧ settle c'.mode = .returning ∧ { c' with mode := .returning } = ({ c with mode := .returning } : Frame) := by
              have hfin : ∀ v, (b.atR a (.inRegion ops (0 :: List.range' 1 l.length) :: [.code rest])).finish v = b.atR (a.put o.dst v) (.inRegion ops (List.range' 1 l.length) :: [.code rest]) := fun v => by rw [Frame.finish_atR, h0]; rfl
              have hsem := sem_recover (P := P) hrec a w
              have hkind : (b.atR a (.inRegion ops (0 :: List.range' 1 l.length) :: [.code rest])).kind = .deferred := rfl
              have hro : (b.atR a (.inRegion ops (0 :: List.range' 1 l.length) :: [.code rest])).roundOf = none := rfl
              cases p with
              | none =>
                refine ⟨c, .nilIface, .gnd .nili, ?_, by rw [hp]; rfl, rfl⟩
                have htr : tryRecover (b.atR a (.inRegion ops (0 :: List.range' 1 l.length) :: [.code rest])) (c :: cs) = none := by
                  have hp : c.mode = .returning := hp
                  simp [tryRecover, hkind, hp]
                refine step_lone_go ?_
                rw [stepGR_op h0 hw0, ← hfin]
                simp [stepG.apply, hsem, hro, htr, b]
              | some y =>
                obtain ⟨v, hm, hR⟩ := hp
                refine ⟨{ c with mode := .panicking [{ v, recovered := true }] }, v, hR, ?_, rfl, rfl⟩
                have htr : tryRecover (b.atR a (.inRegion ops (0 :: List.range' 1 l.length) :: [.code rest])) (c :: cs) = some (v, { c with mode := .panicking [{ v, recovered := true }] } :: cs) := by
                  simp [tryRecover, hkind, hm, onePanic]
                refine step_lone_go ?_
                rw [stepGR_op h0 hw0, ← hfin]
                simp [stepG.apply, hsem, hro, htr, b]
            have hfr1 := hfr.put hRv hput
            have hrun := runOps_ok hI (b := b) (k := [.code rest]) (cs := c' :: cs) (ops := ops) l 1 (by rw [hops]; rfl) hW hG hfr1
            have hseq := sSeq_ok (ih := ih) (c := rest) (x := .code rest) (k := []) (fun _ => rfl) hrun fun g' a' w' fr' h' hg hW' hf' => hI.code rest fr' a' b [] (c' :: cs) hW' (hG.mono hg.ext.S) hf'
            have hstart : Steps P (lone (Frame.enter P f us .deferred) (c :: cs) w) (lone (b.atR (a.put o.dst v) (.inRegion ops (List.range' 1 l.length) :: [.code rest])) (c' :: cs) w) := by
              rw [henter]
              refine .head stepR_seq (.head stepR_region ?_)
              have : List.range ops.size = 0 :: List.range' 1 l.length := by
                rw [List.range_eq_range', hsz, List.range'_succ]
              rw [this]
              exact .one hst0
            cases hr : sSeq ih rest (runOps P E ih ops.toList l fr1 h) with
            | none _ _ => trivial
            | ret _ _ => trivial
            | panic _ _ => trivial
            | dret _ _ => trivial
            | code e fr' h' =>
              rw [hr] at hseq
              obtain ⟨g', a', w', hg, hW', hf', hA⟩ := hseq
              unfold endDeferred
              simp only
              cases hnn : (isNil fr'.marks && isNil fr'.defers) with
              | false => trivial
              | true =>
                rw [Bool.and_eq_true] at hnn
                have hnil : ∀ {α : Type} (l : List α), isNil l = true → l = [] := fun l h => by cases l with
                  | nil => rfl
                  | cons _ _ => cases h
                have hm := hnil _ hnn.1
                have hd := hnil _ hnn.2
                have fin : ∀ (todo : List Item), FrOk g' b fr' a' → Steps P (lone (b.atR (a.put o.dst v) (.inRegion ops (List.range' 1 l.length) :: [.code rest])) (c' :: cs) w) (lone { b.atR a' todo with mode := .returning } (c' :: cs) w') → DeferOk P B w0 g c cs f us w (.dret true h') := by
                  intro todo hf' hs'
                  have hmk := hf'.marks
                  rw [hm, hd] at hmk
                  have hds : a'.defers = [] := by have := hmk.calls.1; simpa using this
                  have hgo : ({ b.atR a' todo with mode := .returning } : Frame).going P w' (.returned (.tuple #[])) := by
                    refine ⟨rfl, hds, fn, hfn, ?_⟩
                    simp [Go.results, hres]
                  have hlast := step_going_returned (P := P) (fr := { b.atR a' todo with mode := .returning }) (c := c') (cs := cs) (w := w') rfl hgo
                  rw [hset, hcd] at hlast
                  exact ⟨g', w', hg, hW', hcall, hstart.trans (hs'.trans (.one hlast))⟩
                cases e with
                | normal => exact fin [] hf' (Steps.trans hA (.one (stepR_end rfl)))
                | ret => obtain ⟨todo, hs'⟩ := hA; exact fin _ hf' (hs'.trans (.one (stepR_ret rfl)))
                | exit _ => trivial
                | goto _ => trivial
                | panic _ => trivial
          · trivial
    · trivial

end Go.AM
