/-
  THE MACHINE's RUN IS THE MODEL's: judgements; an operation of a region.
-/
import Derived.Test.YtaahfplokcfncaaGreatDoorAmOper
import Derived.Test.YtaahfplokcfncaaGreatDoorAmStay
import Derived.AtR
namespace Go.AM
open Go.RowKit

/-- Marks of loops over functions, among what is deferred. -/
def MarksOk (g : Gh) (ds : List Deferred) (ms : List Nat) : Prop := ds.length = ms.length ∧ ∀ (i : Nat) d m, ds[i]? = some d → ms[i]? = some m → ∃ b k, d = { target := .collected b, args := #[] } ∧ g.vr m = none ∧ g.mu m = some (b, k)

theorem MarksOk.mono {g g' : Gh} {ds : List Deferred} {ms : List Nat} (h : MarksOk g ds ms) (hx : Ext g g') : MarksOk g' ds ms :=
  ⟨h.1, fun i d m a b => (match h.2 i d m a b with | ⟨q, k, e, hv, hm⟩ => ⟨q, k, e, hx.obj _ _ hv hm⟩)⟩

def RoundOk (g : Gh) (ro : Option Nat) (r : Option Nat) : Prop :=
  match r with
  | none => ro = none
  | some l => ∃ b k, ro = some b ∧ g.vr l = none ∧ g.mu l = some (b, k)

theorem RoundOk.mono {g g' : Gh} {ro r : Option Nat} (h : RoundOk g ro r) (hx : Ext g g') : RoundOk g' ro r := by
  cases r with
  | none => exact h
  | some l => obtain ⟨b, k, e, hv, hm⟩ := h; exact ⟨b, k, e, hx.obj _ _ hv hm⟩

/-- Deferred calls. -/
def DCalls (g : Gh) (ds : List Deferred) (fs : List (FuncId × List V)) : Prop := ds.length = fs.length ∧ ∀ (i : Nat) d f, ds[i]? = some d → fs[i]? = some f → ∃ us cap, d = { target := .fn (.func f.1) cap, args := us } ∧ Rs' g (us ++ cap) f.2
theorem DCalls.mono {g g' : Gh} {ds : List Deferred} {fs : List (FuncId × List V)} (h : DCalls g ds fs) (hx : Ext g g') : DCalls g' ds fs :=
  ⟨h.1, fun i d f a b => (match h.2 i d f a b with | ⟨us, cap, e, r⟩ => ⟨us, cap, e, r.mono hx⟩)⟩

/-- What is deferred: marks of loops over functions, or calls. -/
def DefsOk (g : Gh) (ds : List Deferred) (ms : List Nat) (fs : List (FuncId × List V)) : Prop := (fs = [] ∧ MarksOk g ds ms) ∨ (ms = [] ∧ DCalls g ds fs)
theorem DefsOk.mono {g g' : Gh} {ds : List Deferred} {ms : List Nat} {fs : List (FuncId × List V)} (h : DefsOk g ds ms fs) (hx : Ext g g') : DefsOk g' ds ms fs :=
  h.imp (fun q => ⟨q.1, q.2.mono hx⟩) (fun q => ⟨q.1, q.2.mono hx⟩)
theorem DefsOk.nil (g : Gh) : DefsOk g [] [] [] := .inl ⟨rfl, rfl, fun i d m q => by simp at q⟩
theorem DefsOk.marks {g : Gh} {ds : List Deferred} {ms : List Nat} (h : DefsOk g ds ms []) : MarksOk g ds ms := by
  rcases h with ⟨_, h⟩ | ⟨rfl, h⟩
  · exact h
  · have : ds = [] := by have := h.1; simpa using this
    subst this
    exact ⟨rfl, fun i d m q => by simp at q⟩
theorem DefsOk.calls {g : Gh} {ds : List Deferred} {fs : List (FuncId × List V)} (h : DefsOk g ds [] fs) : DCalls g ds fs := by
  rcases h with ⟨rfl, h⟩ | ⟨_, h⟩
  · have : ds = [] := by have := h.1; simpa using this
    subst this
    exact ⟨rfl, fun i d m q => by simp at q⟩
  · exact h

structure FrOk (g : Gh) (b : Frame) (fr : Fr) (a : Act) : Prop where
  fn : b.fn = fr.fn
  slots : Slots g fr.n fr.tm a.tmps
  round : RoundOk g b.roundOf fr.round
  marks : DefsOk g a.defers fr.marks fr.defers

theorem FrOk.mono {g g' : Gh} {b : Frame} {fr : Fr} {a : Act} (h : FrOk g b fr a) (hx : Ext g g') : FrOk g' b fr a := ⟨h.fn, h.slots.mono hx, h.round.mono hx, h.marks.mono hx⟩

/-- The slots of a frame behind a panic: of some nothing is known. -/
structure SlotsP (g : Gh) (n : Nat) (tm : T V) (tmps : Array Value) : Prop where
  size : tmps.size = n
  rel : ∀ (i : Nat) v, tmps[i]? = some v → tm.get undef i = lost ∨ R g v (tm.get undef i)
  none : ∀ i, n ≤ i → tm.get undef i = undef ∨ tm.get undef i = lost

theorem Slots.weak {g : Gh} {n : Nat} {tm : T V} {tmps : Array Value} (h : Slots g n tm tmps) : SlotsP g n tm tmps := ⟨h.size, h.rel, h.none⟩
theorem SlotsP.mono {g g' : Gh} {n : Nat} {tm : T V} {tmps : Array Value} (h : SlotsP g n tm tmps) (hx : Ext g g') : SlotsP g' n tm tmps := ⟨h.size, fun i v e => (h.rel i v e).imp id fun q => q.mono hx, h.none⟩

structure FrOkP (g : Gh) (b : Frame) (fr : Fr) (a : Act) : Prop where
  fn : b.fn = fr.fn
  slots : SlotsP g fr.n fr.tm a.tmps
  round : RoundOk g b.roundOf fr.round
  marks : DefsOk g a.defers fr.marks fr.defers

theorem FrOk.weak {g : Gh} {b : Frame} {fr : Fr} {a : Act} (h : FrOk g b fr a) : FrOkP g b fr a := ⟨h.fn, h.slots.weak, h.round, h.marks⟩
theorem FrOkP.mono {g g' : Gh} {b : Frame} {fr : Fr} {a : Act} (h : FrOkP g b fr a) (hx : Ext g g') : FrOkP g' b fr a := ⟨h.fn, h.slots.mono hx, h.round.mono hx, h.marks.mono hx⟩

def FrE (g : Gh) (b : Frame) (fr : Fr) (a : Act) : Ex → Prop
  | .panic _ => FrOkP g b fr a
  | _ => FrOk g b fr a

def onePanic (v : Value) : List PanicEntry := [{ v, recovered := false }]

def Arr (P : Program) (m : Machine) (b : Frame) (k : List Item) (cs : List Frame) (g : Gh) (a : Act) (w : World) : Ex → Prop
  | .normal => Steps P m (lone (b.atR a k) cs w)
  | .exit id => ∃ todo, exitTo id todo = exitTo id k ∧ Steps P m (lone (b.atR a (.code (.exit id) :: todo)) cs w)
  | .goto _ => False
  | .ret => ∃ todo, Steps P m (lone (b.atR a (.code .ret :: todo)) cs w)
  | .panic y => ∃ v todo, R g v y ∧ Steps P m (lone { b.atR a todo with mode := .panicking (onePanic v) } cs w)

theorem Arr.of_steps {P : Program} {m m' : Machine} {b : Frame} {k : List Item} {cs : List Frame} {g : Gh} {a : Act} {w : World} {e : Ex} (h : Steps P m m') (h' : Arr P m' b k cs g a w e) : Arr P m b k cs g a w e := by
  cases e with
  | normal => exact h.trans h'
  | exit id => obtain ⟨t, p, q⟩ := h'; exact ⟨t, p, h.trans q⟩
  | goto l => exact h'
  | ret => obtain ⟨t, q⟩ := h'; exact ⟨t, h.trans q⟩
  | panic y => obtain ⟨v, t, p, q⟩ := h'; exact ⟨v, t, p, h.trans q⟩

def CodeOk (P : Program) (B : Nat) (w0 : World) (g : Gh) (m : Machine) (b : Frame) (k : List Item) (cs : List Frame) : Res → Prop
  | .code e fr h => ∃ g' a w, Grown B g g' ∧ W B w0 g' h w ∧ FrE g' b fr a e ∧ Arr P m b k cs g' a w e
  | .none _ _ => True
  | _ => False

theorem CodeOk.of_steps {P : Program} {B : Nat} {w0 : World} {g g' : Gh} {m m' : Machine} {b : Frame} {k : List Item} {cs : List Frame} {r : Res} (hs : Steps P m m') (hg : Grown B g g') (h : CodeOk P B w0 g' m' b k cs r) : CodeOk P B w0 g m b k cs r := by
  cases r with
  | code e fr h' => obtain ⟨g2, a, w, p, q, r, s⟩ := h; exact ⟨g2, a, w, hg.trans p, q, r, .of_steps hs s⟩
  | none _ _ => trivial
  | ret _ _ => exact h
  | panic _ _ => exact h
  | dret _ _ => exact h

def Returns (P : Program) (cs : List Frame) (f : FuncId) (us : Array Value) (w : World) (v : Value) (w' : World) : Prop :=
  (callFunc f us).run P w = .ok (.value v) w' ∨
    ((callFunc f us).run P w = .ok (.enter f us) w ∧ ∃ fr, Steps P (lone (Frame.enter P f us .normal) cs w) (lone fr cs w') ∧ fr.fn = f ∧ fr.leaving P w' (.returned v))

def Panics (P : Program) (cs : List Frame) (f : FuncId) (us : Array Value) (w : World) (v : Value) (w' : World) : Prop :=
  (callFunc f us).run P w = .ok (.enter f us) w ∧ ∃ fr, Steps P (lone (Frame.enter P f us .normal) cs w) (lone fr cs w') ∧ fr.fn = f ∧ fr.leaving P w' (.panicked (onePanic v))

def CallOk (P : Program) (B : Nat) (w0 : World) (g : Gh) (cs : List Frame) (f : FuncId) (us : Array Value) (w : World) : Res → Prop
  | .ret y h => ∃ g' w' v, Grown B g g' ∧ W B w0 g' h w' ∧ R g' v y ∧ Returns P cs f us w v w'
  | .panic y h => ∃ g' w' v, Grown B g g' ∧ W B w0 g' h w' ∧ R g' v y ∧ Panics P cs f us w v w'
  | .none _ _ => True
  | _ => False

def YReturns (P : Program) (c : Frame) (cs : List Frame) (l : Nat) (us : Array Value) (w : World) (v : Value) (w' : World) : Prop :=
  ∃ fn tmps as bd, (Instr.yield l us).run P w = .ok (.round l fn tmps as bd) w ∧ Steps P (lone (Frame.round l fn tmps as bd .normal) (c :: cs) w) (lone (c.finish v) cs w')
def YPanics (P : Program) (c : Frame) (cs : List Frame) (l : Nat) (us : Array Value) (w : World) (v : Value) (w' : World) : Prop :=
  ∃ fn tmps as bd, (Instr.yield l us).run P w = .ok (.round l fn tmps as bd) w ∧ Steps P (lone (Frame.round l fn tmps as bd .normal) (c :: cs) w) (lone (c.raise (onePanic v)) cs w')

def YieldOk (P : Program) (B : Nat) (w0 : World) (g : Gh) (c : Frame) (cs : List Frame) (l : Nat) (us : Array Value) (w : World) : Res → Prop
  | .ret y h => ∃ g' w' v, Grown B g g' ∧ W B w0 g' h w' ∧ R g' v y ∧ YReturns P c cs l us w v w'
  | .panic y h => ∃ g' w' v, Grown B g g' ∧ W B w0 g' h w' ∧ R g' v y ∧ YPanics P c cs l us w v w'
  | .none _ _ => True
  | _ => False

/-- A pure call: what it comes to hangs on data alone, and it writes nothing but what it makes. -/
def PureOk (P : Program) (G : Nat → Option V) (f : FuncId) (gs : List V) (v : V) : Prop := ∀ (S : Nat → Nat → Option Value) (w : World) (cs : List Frame) (us : Array Value), Sealed S w → GlobOk G S → Rs' (Gh.data S) us gs →
  ∃ S' w' y bs, (∀ b o v, S b o = some v → S' b o = some v) ∧ (∀ b o v, b < w.heap.size → S' b o = some v → S b o = some v) ∧ Sealed S' w' ∧ Below w.heap.size w w' ∧ RA S' w' y v bs ∧ bs.Nodup ∧ (∀ b, b ∈ bs → w.heap.size ≤ b ∧ b < w'.heap.size) ∧ Returns P cs f us w y w'
def PurePan (P : Program) (G : Nat → Option V) (f : FuncId) (gs : List V) (v : V) : Prop := ∀ (S : Nat → Nat → Option Value) (w : World) (cs : List Frame) (us : Array Value), Sealed S w → GlobOk G S → Rs' (Gh.data S) us gs →
  ∃ S' w' y, (∀ b o v, S b o = some v → S' b o = some v) ∧ (∀ b o v, b < w.heap.size → S' b o = some v → S b o = some v) ∧ Sealed S' w' ∧ Below w.heap.size w w' ∧ GR S' y v ∧ Panics P cs f us w y w'

def PrimOk (P : Program) (E : Env) : Prop := ∀ f gs v, E.prim f gs = some v → PureOk P E.glob f gs v

/-- How a frame that is left stands: it returns, or it panics. -/
def PanOk (g : Gh) (m : FrameMode) : Option V → Prop
  | none => m = .returning
  | some y => ∃ v, m = .panicking (onePanic v) ∧ R g v y
theorem PanOk.mono {g g' : Gh} {m : FrameMode} {p : Option V} (h : PanOk g m p) (hx : Ext g g') : PanOk g' m p := by
  cases p with
  | none => exact h
  | some y => obtain ⟨v, e, r⟩ := h; exact ⟨v, e, r.mono hx⟩

/-- A deferred call: behind it the frame returns. -/
def DeferOk (P : Program) (B : Nat) (w0 : World) (g : Gh) (c : Frame) (cs : List Frame) (f : FuncId) (us : Array Value) (w : World) : Res → Prop
  | .dret _ h => ∃ g' w', Grown B g g' ∧ W B w0 g' h w' ∧ (callFunc f us).run P w = .ok (.enter f us) w ∧ Steps P (lone (Frame.enter P f us .deferred) (c :: cs) w) (lone { c with mode := .returning } cs w')
  | .none _ _ => True
  | _ => False

/-- What runs a task runs it as the model does. -/
structure Snd (P : Program) (E : Env) (ih : Task → Res) : Prop where
  prim : PrimOk P E
  code : ∀ {B w0 g h w} (c : Code) (fr : Fr) (a : Act) (b : Frame) (k : List Item) (cs : List Frame), W B w0 g h w → GlobOk E.glob g.S → FrOk g b fr a → CodeOk P B w0 g (lone (b.atR a (.code c :: k)) cs w) b k cs (ih (.code c fr h))
  loop : ∀ {B w0 g h w} (c : Code) (fr : Fr) (a : Act) (b : Frame) (k : List Item) (cs : List Frame), W B w0 g h w → GlobOk E.glob g.S → FrOk g b fr a → CodeOk P B w0 g (lone (b.atR a (.inLoop c :: k)) cs w) b k cs (ih (.code (.loop c) fr h))
  dcall : ∀ {B w0 g h w} (c : Frame) (cs : List Frame) (f : FuncId) (args : List V) (us : Array Value) (p : Option V), W B w0 g h w → GlobOk E.glob g.S → Rs' g us args → PanOk g c.mode p → DeferOk P B w0 g c cs f us w (ih (.dcall f args p h))
  call : ∀ {B w0 g h w} (cs : List Frame) (f : FuncId) (args : List V) (us : Array Value), W B w0 g h w → GlobOk E.glob g.S → Rs' g us args → CallOk P B w0 g cs f us w (ih (.call f args h))
  yield : ∀ {B w0 g h w} (c : Frame) (cs : List Frame) (l b : Nat) (k : Nat × Nat) (args : List V) (us : Array Value), W B w0 g h w → GlobOk E.glob g.S → g.vr l = none → g.mu l = some (b, k) → Rs' g us args → YieldOk P B w0 g c cs b us w (ih (.yield l args h))

theorem Slots.set {g : Gh} {n : Nat} {tm : T V} {tmps : Array Value} (h : Slots g n tm tmps) {d : Tmp} (hd : d < n) {v : Value} {y : V} (hR : R g v y) : Slots g n (tm.set undef y d) (tmps.setIfInBounds d v) where
  size := by simp [h.size]
  rel := fun i u hu => by
    rw [T.get_set]
    rw [Array.getElem?_setIfInBounds] at hu
    split at hu
    · rename_i e; subst e
      split at hu
      · cases hu; simp only [if_true]; exact .inr hR
      · cases hu
    · rename_i e
      rw [if_neg (by first | exact e | exact fun q => e q.symm)]
      exact h.rel i u hu
  none := fun i hi => by
    have h1 : ¬ d = i := fun e => by subst e; exact Nat.lt_irrefl _ (Nat.lt_of_lt_of_le hd hi)
    have h2 : ¬ i = d := fun e => h1 e.symm
    rw [T.get_set]
    simp only [h1, if_false]
    exact h.none i hi

theorem FrOk.put {g : Gh} {b : Frame} {fr fr' : Fr} {a : Act} (h : FrOk g b fr a) {d : Option Tmp} {v : Value} {y : V} (hR : R g v y) (hp : fr.put d y = some fr') : FrOk g b fr' (a.put d v) := by
  cases d with
  | none => cases hp; exact h
  | some d =>
    obtain ⟨fn, n, tm, marks, defers, round, dk, did⟩ := fr
    change (Bool.rec Option.none (some (⟨fn, n, tm.set undef y d, marks, defers, round, dk, did⟩ : Fr)) (Nat.blt d n) : Option Fr) = some fr' at hp
    cases hb : Nat.blt d n with
    | false => rw [hb] at hp; cases hp
    | true =>
      rw [hb] at hp; cases hp
      rw [Nat.blt_eq] at hb
      exact ⟨h.fn, h.slots.set hb hR, h.round, h.marks⟩

theorem R.notBool {g : Gh} {v : Value} {x : V} (h : R g v x) (h1 : ∀ b, x ≠ .bool b) (h2 : x ≠ .any) : ∀ b, v ≠ .bool b := by
  intro b e
  subst e
  cases h with
  | gnd h => cases h with
    | bool b => exact h1 _ rfl
    | oslS h => cases h
  | any _ => exact h2 rfl

theorem wanted_sound {g : Gh} {b : Frame} {fr : Fr} {a : Act} (hf : FrOk g b fr a) {ops : Array Oper} {o : Oper} {t : Bool} (h : wanted ops.toList fr o = some t) : Region.wanted o (yielded ops a.tmps) = t := by
  unfold wanted at h
  unfold Region.wanted
  cases hg : o.guard with
  | none => rw [hg] at h; cases h; rfl
  | some p =>
    obtain ⟨j, want⟩ := p
    rw [hg] at h
    change wantedG (j, want) ops.toList fr.tm = some t at h
    unfold wantedG at h
    simp only
    unfold yielded
    rw [List.at_eq] at h
    simp only [Array.getElem?_toList] at h
    cases ho : ops[j]? with
    | none => rw [ho] at h; cases h; simp
    | some o' =>
      rw [ho] at h
      simp only at h
      cases hd : o'.dst with
      | none => rw [hd] at h; cases h; simp [hd]
      | some d =>
        rw [hd] at h
        simp only at h
        simp only [Option.bind_some, hd]
        cases hv : a.tmps[d]? with
        | none =>
          have hn : fr.n ≤ d := by
            rw [← hf.slots.size]
            rcases Nat.lt_or_ge d a.tmps.size with q | q
            · rw [Array.getElem?_eq_getElem q] at hv; cases hv
            · exact q
          rcases hf.slots.none d hn with e | e
          · rw [e] at h
            cases h; simp
          · rw [e] at h
            cases h
        | some v =>
          have hR := hf.slots.rel d v hv
          split at h
          · rename_i b' hb'
            rw [hb'] at hR
            have := (hR.resolve_left (fun e => by cases e)).bool_inv; subst this
            cases h
            cases b' <;> cases want <;> rfl
          · cases h
          · cases h
          · rename_i h1 h2 h3
            cases h
            have := (hR.resolve_left (fun e => h3 _ _ _ _ _ e)).notBool (fun b e => h1 b e) h2
            cases v <;> first | exact absurd rfl (this _) | simp

variable {P : Program} {E : Env} {ih : Task → Res} {B : Nat} {w0 : World}

/-- One operation, then the rest. -/
theorem goOn_ok {g g' : Gh} {h' : Heap} {w' : World} {b : Frame} {k : List Item} {cs : List Frame} {fr : Fr} {a : Act} {o : Oper} {m : Machine} {ops : Array Oper} {rest : List Nat} {next : Fr → Heap → Res}
    (hg : Grown B g g') (_hW : W B w0 g' h' w') (hG : GlobOk E.glob g.S) (hf : FrOk g b fr a) {v : Value} {y : V} (hR : R g' v y) (hs : Steps P m (lone (b.atR (a.put o.dst v) (.inRegion ops rest :: k)) cs w'))
    (hn : ∀ fr' a', GlobOk E.glob g'.S → FrOk g' b fr' a' → CodeOk P B w0 g' (lone (b.atR a' (.inRegion ops rest :: k)) cs w') b k cs (next fr' h')) : CodeOk P B w0 g m b k cs (goOn o fr next y h') := by
  unfold goOn
  cases hp : fr.put o.dst y with
  | none => trivial
  | some fr' => exact .of_steps hs hg (hn fr' _ (hG.mono hg.ext.S) ((hf.mono hg.ext).put hR hp))

theorem PureOk.of_run (hI : Snd P E ih) {f : FuncId} {gs : List V} {y v : V} {hc : Heap} (hr : ih (.call f gs Heap.empty) = .ret y hc) (ha : retAll hc y = some v) : PureOk P E.glob f gs v := by
  intro S w cs us hs hG hus
  have hc := hI.call cs f gs us (W.start hs) hG hus
  rw [hr] at hc
  obtain ⟨g', w', u, hg, hW, hR, hret⟩ := hc
  obtain ⟨S', h', bs, hg', hW', hA, hn, hb⟩ := retAll_sound hW hR ha
  have hgg := hg.trans hg'
  exact ⟨S', w', u, bs, hgg.ext.S, fun b o v hb e => hgg.keep b o v hb e, hW'.shut, hW'.low, hA, hn, hb, hret⟩
theorem PurePan.of_run (hI : Snd P E ih) {f : FuncId} {gs : List V} {y v : V} {hc h' : Heap} (hr : ih (.call f gs Heap.empty) = .panic y hc) (ha : pub [] depth hc y = some (v, h')) : PurePan P E.glob f gs v := by
  intro S w cs us hs hG hus
  have hc := hI.call cs f gs us (W.start hs) hG hus
  rw [hr] at hc
  obtain ⟨g', w', u, hg, hW, hR, hret⟩ := hc
  obtain ⟨S', hp, hA, _⟩ := pub_sound [] depth hW hR ha
  have hgg := hg.trans hp.grown
  exact ⟨S', w', u, hgg.ext.S, fun b o v hb e => hgg.keep b o v hb e, hp.world.shut, hp.world.low, hA, hret⟩

theorem PureOk.call {g : Gh} {h : Heap} {w : World} (hW : W B w0 g h w) (hG : GlobOk E.glob g.S) (cs : List Frame) {f : FuncId} {gs : List V} {us : Array Value} {v : V} (hs : us.size = gs.length ∧ ∀ (i : Nat) u x, us[i]? = some u → gs[i]? = some x → GR g.S u x) (hP : PureOk P E.glob f gs v) : CallOk P B w0 g cs f us w (thawR h v) := by
  obtain ⟨S', w', y, bs, hm, hk, hS, hl, hA, hn, hb, hret⟩ := hP _ _ cs us hW.shut hG ⟨hs.1, fun i u x p q => .gnd (hs.2 i u x p q)⟩
  obtain ⟨hg1, hW1⟩ := hW.join hl hm hk hS
  have hbase := hW.base
  obtain ⟨g2, t, hR⟩ := thaw_sound hW1 hA (fun b hb' => ⟨by have := hb b hb'; omega, (hb b hb').2, fun q x hq => by have := (hW.high q x hq).2; have := (hb b hb').1; omega⟩) hn
  exact ⟨g2, w', y, hg1.trans t.grown, t.world, hR, hret⟩
theorem PurePan.call {g : Gh} {h : Heap} {w : World} (hW : W B w0 g h w) (hG : GlobOk E.glob g.S) (cs : List Frame) {f : FuncId} {gs : List V} {us : Array Value} {v : V} (hs : us.size = gs.length ∧ ∀ (i : Nat) u x, us[i]? = some u → gs[i]? = some x → GR g.S u x) (hP : PurePan P E.glob f gs v) : CallOk P B w0 g cs f us w (.panic v h) := by
  obtain ⟨S', w', y, hm, hk, hS, hl, hA, hret⟩ := hP _ _ cs us hW.shut hG ⟨hs.1, fun i u x p q => .gnd (hs.2 i u x p q)⟩
  obtain ⟨hg1, hW1⟩ := hW.join hl hm hk hS
  exact ⟨_, w', y, hg1, hW1, .gnd hA, hret⟩

theorem CallOk.grow {g g' : Gh} {cs : List Frame} {f : FuncId} {us : Array Value} {w : World} {r : Res} (hg : Grown B g g') (h : CallOk P B w0 g' cs f us w r) : CallOk P B w0 g cs f us w r := by
  cases r with
  | ret y h1 => obtain ⟨g2, w', v, a, b, c, d⟩ := h; exact ⟨g2, w', v, hg.trans a, b, c, d⟩
  | panic y h1 => obtain ⟨g2, w', v, a, b, c, d⟩ := h; exact ⟨g2, w', v, hg.trans a, b, c, d⟩
  | none _ _ => trivial
  | code _ _ _ => exact h
  | dret _ _ => exact h

theorem PureOk.still {g : Gh} {h : Heap} {w : World} (hW : W B w0 g h w) (hG : GlobOk E.glob g.S) (cs : List Frame) {f : FuncId} {gs : List V} {us : Array Value} {v : V} (hs : us.size = gs.length ∧ ∀ (i : Nat) u x, us[i]? = some u → gs[i]? = some x → GR g.S u x) (hP : PureOk P E.glob f gs v) : CallOk P B w0 g cs f us w (stillR h v) := by
  obtain ⟨S', w', y, bs, hm, hk, hS, hl, hA, hn, hb, hret⟩ := hP _ _ cs us hW.shut hG ⟨hs.1, fun i u x p q => .gnd (hs.2 i u x p q)⟩
  obtain ⟨hg1, hW1⟩ := hW.join hl hm hk hS
  have hbase := hW.base
  obtain ⟨S2, t, hR⟩ := still_sound hW1 hA (fun b hb' => ⟨by have := hb b hb'; omega, (hb b hb').2, fun q x hq => by have := (hW.high q x hq).2; have := (hb b hb').1; omega⟩) hn
  exact ⟨_, w', y, hg1.trans t.grown, t.world, .gnd hR, hret⟩
/-- What a call that gives numbers and texts was told may be written behind it. -/
theorem PureOk.plain {g : Gh} {h h1 : Heap} {w : World} {S : Nat → Nat → Option Value} (hW : W B w0 g h w) (hW1 : W B w0 (g.say S) h1 w) (hS : ∀ b o v, g.S b o = some v → S b o = some v) (hG : GlobOk E.glob S) (cs : List Frame) {f : FuncId} {gs : List V} {us : Array Value} {v : V} (hs : us.size = gs.length ∧ ∀ (i : Nat) u x, us[i]? = some u → gs[i]? = some x → GR S u x) (hv : plainV v = true) (hP : PureOk P E.glob f gs v) : CallOk P B w0 g cs f us w (.ret v h) := by
  obtain ⟨S', w', y, bs, hm, hk, hS', hl, hA, hn, hb, hret⟩ := hP _ _ cs us hW1.shut hG ⟨hs.1, fun i u x p q => .gnd (hs.2 i u x p q)⟩
  obtain ⟨hg2, hW2⟩ := hW.join (S := g.S) hl (fun _ _ _ e => e) (fun _ _ _ _ e => e) (fun b o v e => hS' b o v (hm b o v (hS b o v e)))
  exact ⟨_, w', y, hg2, hW2, plainV_R hA hv _, hret⟩

theorem PureOk.given {g : Gh} {h h1 : Heap} {w : World} (hW : W B w0 g h w) (hG : GlobOk E.glob g.S) (cs : List Frame) {f : FuncId} {args gs : List V} {us : Array Value} {v : V} (hs : Rs' g us args) (hp : pubL (pub [] depth) args h = some (gs, h1)) (hP : PureOk P E.glob f gs v) : CallOk P B w0 g cs f us w (giveR E f (Bool.rec h1 h (E.borrow f)) v) := by
  obtain ⟨S, k, n1, g1, _⟩ := pubL_sound (pub_sound [] depth) args (vs := us.toList) hW (by simpa using hs.1) (fun i v x a b => hs.2 i v x (by simpa using a) b) hp
  have hG' : GlobOk E.glob (g.say S).S := hG.mono k.grown.ext.S
  have hgs : us.size = gs.length ∧ ∀ (i : Nat) u x, us[i]? = some u → gs[i]? = some x → GR (g.say S).S u x := ⟨by rw [n1]; exact hs.1, fun i u x a b => g1 i u x (by simpa using a) b⟩
  unfold giveR give
  cases hb : E.borrow f with
  | false =>
    refine CallOk.grow k.grown ?_
    cases hd : E.data f with
    | false => exact PureOk.call k.world hG' cs hgs hP
    | true => exact PureOk.still k.world hG' cs hgs hP
  | true =>
    cases hv : plainV v with
    | false => trivial
    | true => exact PureOk.plain hW k.world k.grown.ext.S hG' cs hgs hv hP

theorem callPure_ok (hI : Snd P E ih) {g : Gh} {h : Heap} {w : World} (hW : W B w0 g h w) (hG : GlobOk E.glob g.S) (cs : List Frame) {f : FuncId} {args : List V} {us : Array Value} (hs : Rs' g us args) : CallOk P B w0 g cs f us w (callPure E ih f args h) := by
  unfold callPure
  split
  · trivial
  · rename_i gs h1 hp
    obtain ⟨S, k, n1, g1, _⟩ := pubL_sound (pub_sound [] depth) args (vs := us.toList) hW (by simpa using hs.1) (fun i v x a b => hs.2 i v x (by simpa using a) b) hp
    have hG' : GlobOk E.glob (g.say S).S := hG.mono k.grown.ext.S
    have hgs : us.size = gs.length ∧ ∀ (i : Nat) u x, us[i]? = some u → gs[i]? = some x → GR (g.say S).S u x := ⟨by rw [n1]; exact hs.1, fun i u x a b => g1 i u x (by simpa using a) b⟩
    have give_ok : ∀ v, PureOk P E.glob f gs v → CallOk P B w0 g cs f us w (giveR E f (Bool.rec h1 h (E.borrow f)) v) := fun v hP => PureOk.given hW hG cs hs hp hP
    split
    · rename_i v hv
      exact give_ok v (hI.prim f gs v hv)
    · unfold endPure
      split
      · rename_i v hc hr
        split
        · rename_i gv ha
          exact give_ok gv (PureOk.of_run hI hr ha)
        · trivial
      · rename_i v hc hr
        split
        · rename_i gv _ ha
          cases hb : E.borrow f with
          | false => exact CallOk.grow k.grown (PurePan.call k.world hG' cs hgs (PurePan.of_run hI hr ha))
          | true => trivial
        · trivial
      · trivial
      · trivial

theorem callShared_ok (hI : Snd P E ih) {g : Gh} {h : Heap} {w : World} (hW : W B w0 g h w) (hG : GlobOk E.glob g.S) (cs : List Frame) {f : FuncId} {args : List V} {us : Array Value} (hs : Rs' g us args) : CallOk P B w0 g cs f us w (callShared E ih f args h) := by
  unfold callShared
  have hc := hI.call cs f args us hW hG hs
  cases E.pubRet f with
  | false => exact hc
  | true =>
    simp only
    unfold pubR
    split
    · rename_i v h1 hr
      rw [hr] at hc
      obtain ⟨g', w', u, hg, hW', hR, hret⟩ := hc
      split
      · rename_i v' h2 hp
        obtain ⟨S, k, q, _⟩ := pub_sound [] depth hW' hR hp
        exact ⟨_, w', u, hg.trans k.grown, k.world, .gnd q, hret⟩
      · trivial
    · exact hc

theorem callAny_shared (hI : Snd P E ih) {g : Gh} {h : Heap} {w : World} (hW : W B w0 g h w) (hG : GlobOk E.glob g.S) (cs : List Frame) {f : FuncId} {args : List V} {us : Array Value} (hs : Rs' g us args) : CallOk P B w0 g cs f us w (callAny E ih false f args h) := by
  unfold callAny
  cases E.shared f with
  | false => exact callPure_ok hI hW hG cs hs
  | true => exact callShared_ok hI hW hG cs hs

theorem apply_value {b : Frame} {a : Act} {k : List Item} {cs : List Frame} {w w' : World} {ops : Array Oper} {i : Nat} {rest : List Nat} {o : Oper} {v : Value} (ho : ops[i]? = some o) (hw : Region.wanted o (yielded ops a.tmps) = true)
    (hr : (o.semAt b.roundOf a.eval).run P w = .ok (.value v) w') : Go.step P (lone (b.atR a (.inRegion ops (i :: rest) :: k)) cs w) = .next (lone (b.atR (a.put o.dst v) (.inRegion ops rest :: k)) cs w') := by
  have hfin : (b.atR a (.inRegion ops (i :: rest) :: k)).finish v = b.atR (a.put o.dst v) (.inRegion ops rest :: k) := by rw [Frame.finish_atR, ho]; rfl
  refine step_lone_go ?_
  rw [stepGR_op ho hw, ← hfin]; simp [stepG.apply, hr]
theorem apply_skip {b : Frame} {a : Act} {k : List Item} {cs : List Frame} {w w' : World} {ops : Array Oper} {i : Nat} {rest : List Nat} {o : Oper} (ho : ops[i]? = some o) (hw : Region.wanted o (yielded ops a.tmps) = true)
    (hr : (o.semAt b.roundOf a.eval).run P w = .ok .skip w') : Go.step P (lone (b.atR a (.inRegion ops (i :: rest) :: k)) cs w) = .next (lone (b.atR (a.put o.dst Go.undef) (.inRegion ops rest :: k)) cs w') := by
  have hfin : (b.atR a (.inRegion ops (i :: rest) :: k)).finish Go.undef = b.atR (a.put o.dst Go.undef) (.inRegion ops rest :: k) := by rw [Frame.finish_atR, ho]; rfl
  refine step_lone_go ?_
  rw [stepGR_op ho hw, ← hfin]; simp [stepG.apply, hr]
theorem apply_enter {b : Frame} {a : Act} {k : List Item} {cs : List Frame} {w w' : World} {ops : Array Oper} {i : Nat} {rest : List Nat} {o : Oper} {f : FuncId} {us : Array Value} (ho : ops[i]? = some o) (hw : Region.wanted o (yielded ops a.tmps) = true)
    (hr : (o.semAt b.roundOf a.eval).run P w = .ok (.enter f us) w') : Go.step P (lone (b.atR a (.inRegion ops (i :: rest) :: k)) cs w) = .next (lone (Frame.enter P f us .normal) (b.atR a (.inRegion ops (i :: rest) :: k) :: cs) w') := by
  refine step_lone_go ?_
  rw [stepGR_op ho hw]; simp [stepG.apply, hr, Frame.atR]
theorem apply_round {b : Frame} {a : Act} {k : List Item} {cs : List Frame} {w w' : World} {ops : Array Oper} {i : Nat} {rest : List Nat} {o : Oper} {l fn : Nat} {tmps : Array Value} {as bd : Code} (ho : ops[i]? = some o) (hw : Region.wanted o (yielded ops a.tmps) = true)
    (hr : (o.semAt b.roundOf a.eval).run P w = .ok (.round l fn tmps as bd) w') : Go.step P (lone (b.atR a (.inRegion ops (i :: rest) :: k)) cs w) = .next (lone (Frame.round l fn tmps as bd .normal) (b.atR a (.inRegion ops (i :: rest) :: k) :: cs) w') := by
  refine step_lone_go ?_
  rw [stepGR_op ho hw]; simp [stepG.apply, hr]
theorem apply_panic {b : Frame} {a : Act} {k : List Item} {cs : List Frame} {w w' : World} {ops : Array Oper} {i : Nat} {rest : List Nat} {o : Oper} {v : Value} (ho : ops[i]? = some o) (hw : Region.wanted o (yielded ops a.tmps) = true)
    (hr : (o.semAt b.roundOf a.eval).run P w = .halt (.panic v) w') : Go.step P (lone (b.atR a (.inRegion ops (i :: rest) :: k)) cs w) = .next (lone { b.atR a (.inRegion ops (i :: rest) :: k) with mode := .panicking (onePanic v) } cs w') := by
  refine step_lone_go ?_
  rw [stepGR_op ho hw, ← Frame.raise_atR]; simp [stepG.apply, hr, onePanic]

/-- Behind a call. -/
theorem afterCall_ok {g g1 : Gh} {w w1 : World} {b : Frame} {k : List Item} {cs : List Frame} {fr : Fr} {a : Act} {o : Oper} {ops : Array Oper} {i : Nat} {rest : List Nat} {next : Fr → Heap → Res} {f : FuncId} {us : Array Value} {r : Res}
    (ho : ops[i]? = some o) (hw : Region.wanted o (yielded ops a.tmps) = true) (hr : (o.semAt b.roundOf a.eval).run P w = (callFunc f us).run P w1)
    (hg : Grown B g g1) (hG : GlobOk E.glob g.S) (hf : FrOk g b fr a) (hc : CallOk P B w0 g1 (b.atR a (.inRegion ops (i :: rest) :: k) :: cs) f us w1 r)
    (hn : ∀ g' h' w' fr' a', Grown B g g' → W B w0 g' h' w' → GlobOk E.glob g'.S → FrOk g' b fr' a' → CodeOk P B w0 g' (lone (b.atR a' (.inRegion ops rest :: k)) cs w') b k cs (next fr' h')) :
    CodeOk P B w0 g (lone (b.atR a (.inRegion ops (i :: rest) :: k)) cs w) b k cs (afterCall o fr next (fun v h => .code (.panic v) fr h) r) := by
  have hfin : ∀ v, (b.atR a (.inRegion ops (i :: rest) :: k)).finish v = b.atR (a.put o.dst v) (.inRegion ops rest :: k) := fun v => by rw [Frame.finish_atR, ho]; rfl
  cases r with
  | code _ _ _ => exact hc.elim
  | dret _ _ => exact hc.elim
  | none _ _ => trivial
  | ret y h' =>
    obtain ⟨g', w', v, hg', hW', hR, hret⟩ := hc
    have hgg := hg.trans hg'
    refine goOn_ok (h' := h') (w' := w') hgg hW' hG hf hR ?_ (fun fr' a' p q => hn g' h' w' fr' a' hgg hW' p q)
    rcases hret with hv | ⟨he, frx, s1, _, s2⟩
    · exact .one (apply_value ho hw (hr.trans hv))
    · refine .head (apply_enter ho hw (hr.trans he)) (s1.trans (.one ?_))
      rw [← hfin]; exact step_leave_returned s2
  | panic y h' =>
    obtain ⟨g', w', v, hg', hW', hR, he, frx, s1, _, s2⟩ := hc
    have hgg := hg.trans hg'
    refine ⟨g', a, w', hgg, hW', (hf.mono hgg.ext).weak, v, .inRegion ops (i :: rest) :: k, hR, .head (apply_enter ho hw (hr.trans he)) (s1.trans (.one ?_))⟩
    rw [← Frame.raise_atR]; exact step_leave_panicked s2

theorem afterYield_ok {g g1 : Gh} {w w1 : World} {b : Frame} {k : List Item} {cs : List Frame} {fr : Fr} {a : Act} {o : Oper} {ops : Array Oper} {i : Nat} {rest : List Nat} {next : Fr → Heap → Res} {l : Nat} {us : Array Value} {r : Res}
    (ho : ops[i]? = some o) (hw : Region.wanted o (yielded ops a.tmps) = true) (hr : (o.semAt b.roundOf a.eval).run P w = (Instr.yield l us).run P w1)
    (hg : Grown B g g1) (hG : GlobOk E.glob g.S) (hf : FrOk g b fr a) (hc : YieldOk P B w0 g1 (b.atR a (.inRegion ops (i :: rest) :: k)) cs l us w1 r)
    (hn : ∀ g' h' w' fr' a', Grown B g g' → W B w0 g' h' w' → GlobOk E.glob g'.S → FrOk g' b fr' a' → CodeOk P B w0 g' (lone (b.atR a' (.inRegion ops rest :: k)) cs w') b k cs (next fr' h')) :
    CodeOk P B w0 g (lone (b.atR a (.inRegion ops (i :: rest) :: k)) cs w) b k cs (afterCall o fr next (fun v h => .code (.panic v) fr h) r) := by
  have hfin : ∀ v, (b.atR a (.inRegion ops (i :: rest) :: k)).finish v = b.atR (a.put o.dst v) (.inRegion ops rest :: k) := fun v => by rw [Frame.finish_atR, ho]; rfl
  cases r with
  | code _ _ _ => exact hc.elim
  | dret _ _ => exact hc.elim
  | none _ _ => trivial
  | ret y h' =>
    obtain ⟨g', w', v, hg', hW', hR, fn, tmps, as, bd, he, hst⟩ := hc
    have hgg := hg.trans hg'
    refine goOn_ok (h' := h') (w' := w') hgg hW' hG hf hR ?_ (fun fr' a' p q => hn g' h' w' fr' a' hgg hW' p q)
    refine .head (apply_round ho hw (hr.trans he)) ?_
    rw [← hfin]; exact hst
  | panic y h' =>
    obtain ⟨g', w', v, hg', hW', hR, fn, tmps, as, bd, he, hst⟩ := hc
    have hgg := hg.trans hg'
    refine ⟨g', a, w', hgg, hW', (hf.mono hgg.ext).weak, v, .inRegion ops (i :: rest) :: k, hR, .head (apply_round ho hw (hr.trans he)) ?_⟩
    rw [← Frame.raise_atR]; exact hst

end Go.AM
