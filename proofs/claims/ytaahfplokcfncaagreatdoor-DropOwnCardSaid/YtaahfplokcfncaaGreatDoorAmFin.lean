/-
  FROM A RUN OF THE ABSTRACT MACHINE TO THE MODEL's CALL; calls that are known already; tables.
-/
import Derived.Test.YtaahfplokcfncaaGreatDoorAmMain
import Derived.Lib.LaidTab
import Derived.KernelRfl
namespace Go.AM
open Go.RowKit

variable {P : Program} {E : Env} {ih : Task → Res}

/-- All that lies in memory. -/
def allOf (W : World) : Nat → Nat → Option Value := look W
theorem allOf_ok (W : World) : Sealed (allOf W) W := fun _ _ _ h => h

theorem calls_of_run (hS : Snd P E ih) (hN : NameOk P) {f : FuncId} {fn : Func} {body : Code} {gs : List V} {b : Bool} {hc : Heap} (hf : P.funcs[f]? = some fn) (hb : fn.body = some body) (hr : ih (.call f gs Heap.empty) = .ret (.bool b) hc) {W : World} {us : Array Value} (hG : GlobOk E.glob (allOf W)) (hs : Rs' (Gh.data (allOf W)) us gs) :
    Calls P f us W fun e W' => e = .returned (.bool b) ∧ Below W.heap.size W W' := by
  intro cs
  have h := hS.call cs f gs us (AM.W.start (allOf_ok W)) hG hs
  rw [hr] at h
  obtain ⟨g', w', v, _, hW, hR, hret⟩ := h
  have := hR.bool_inv; subst this
  rcases hret with h | ⟨_, fr, h1, h2, h3⟩
  · rw [run_callFunc hN hf hb] at h; cases h
  · exact ⟨.returned (.bool b), w', fr, ⟨rfl, hW.low⟩, h1, h2, h3⟩

/-- Does a run give true? -/
def isTrue (r : Res) : Bool :=
  match r with
  | .ret v _ => (match v with
    | .bool b => b
    | _ => false)
  | _ => false
theorem isTrue_ret {r : Res} (h : isTrue r = true) : ∃ hc, r = .ret (.bool true) hc := by
  unfold isTrue at h
  split at h
  · split at h
    · subst h; exact ⟨_, rfl⟩
    · cases h
  · cases h

/-- What a call gave, held against what is said of it. -/
noncomputable def eqF (x y : V) : Bool :=
  match x with
  | .fsl t s p es c => (match y with
    | .fsl t' s' p' es' c' => Nat.beq t t' && Nat.beq s s' && Nat.beq p p' && optEq c c' && veqL (veq depth) es es'
    | _ => false)
  | x => veq depth x y
theorem eqF_iff (x y : V) (h : eqF x y = true) : x = y := by
  unfold eqF at h
  split at h
  · split at h
    · simp only [Bool.and_eq_true, Nat.beq_eq] at h
      obtain ⟨⟨⟨⟨h1, h2⟩, h3⟩, h4⟩, h5⟩ := h
      rw [h1, h2, h3, optEq_iff _ _ h4, veqL_iff (veq_iff depth) _ _ h5]
    · cases h
  · exact veq_iff _ _ _ h
noncomputable def eqP (x y : V) : Bool :=
  match x with
  | .agg a => (match y with
    | .agg b => veqL eqF a b
    | _ => false)
  | x => eqF x y
theorem eqP_iff (x y : V) (h : eqP x y = true) : x = y := by
  unfold eqP at h
  split at h
  · split at h
    · rw [veqL_iff eqF_iff _ _ h]
    · cases h
  · exact eqF_iff _ _ h
noncomputable def eqVal (x y : V) : Bool :=
  match x with
  | .tup a => (match y with
    | .tup b => veqL eqP a b
    | _ => false)
  | x => eqP x y
theorem eqVal_iff {x y : V} (h : eqVal x y = true) : x = y := by
  unfold eqVal at h
  split at h
  · split at h
    · rw [veqL_iff eqP_iff _ _ h]
    · cases h
  · exact eqP_iff _ _ h

noncomputable def memoCk (r : Res) (v : V) : Bool :=
  match r with
  | .ret y hc => (match retAll hc y with
    | some u => eqVal u v
    | none => false)
  | _ => false
theorem memo_pure (hS : Snd P E ih) {f : FuncId} {gs : List V} {v : V} (h : memoCk (ih (.call f gs Heap.empty)) v = true) : PureOk P E.glob f gs v := by
  unfold memoCk at h
  split at h
  · rename_i y hc hr
    split at h
    · rename_i u hu
      have := eqVal_iff h; subst this
      exact PureOk.of_run hS hr hu
    · cases h
  · cases h

/-- Calls of a text, or of nothing, whose results are known. -/
noncomputable def lookT (T : List (List UInt8 × V)) (s : List UInt8) : Option V := List.rec none (fun p _ ih => bif strEq s p.1 then some p.2 else ih) T
noncomputable def lookF {α : Type} (TT : List (FuncId × α)) (f : FuncId) : Option α := List.rec none (fun p _ ih => bif Nat.beq f p.1 then some p.2 else ih) TT
noncomputable def memoP (TT : List (FuncId × List (List UInt8 × V))) (T0 : List (FuncId × V)) (f : FuncId) (gs : List V) : Option V :=
  match gs with
  | [] => lookF T0 f
  | x :: r => match r with
    | [] => (match x with
      | .str s => (match lookF TT f with
        | some T => lookT T s
        | none => none)
      | _ => none)
    | _ => none

theorem lookT_mem {T : List (List UInt8 × V)} {s : List UInt8} {v : V} (h : lookT T s = some v) : (s, v) ∈ T := by
  induction T with
  | nil => cases h
  | cons p T IH =>
    change (bif strEq s p.1 then some p.2 else lookT T s) = some v at h
    cases hs : strEq s p.1 with
    | true =>
      rw [hs] at h; cases h
      rw [(strEq_iff _ _).1 hs]; simp
    | false => rw [hs] at h; simp [IH h]
theorem lookF_mem {α : Type} {T : List (FuncId × α)} {f : FuncId} {v : α} (h : lookF T f = some v) : (f, v) ∈ T := by
  induction T with
  | nil => cases h
  | cons p T IH =>
    change (bif Nat.beq f p.1 then some p.2 else lookF T f) = some v at h
    cases hs : Nat.beq f p.1 with
    | true =>
      rw [hs] at h; cases h
      rw [Nat.beq_eq] at hs; rw [hs]; simp
    | false => rw [hs] at h; simp [IH h]

noncomputable def ckT (P : Program) (E : Env) (n : Nat) (f : FuncId) (T : List (List UInt8 × V)) : Bool := every (fun q => memoCk (run P E n (.call f [.str q.1] Heap.empty)) q.2) T
noncomputable def ck0 (P : Program) (E : Env) (n : Nat) (T : List (FuncId × V)) : Bool := every (fun q => memoCk (run P E n (.call q.1 [] Heap.empty)) q.2) T

theorem ckT_pure {n : Nat} (hS : Snd P E (run P E n)) {f : FuncId} {T : List (List UInt8 × V)} (h : ckT P E n f T = true) : ∀ q, q ∈ T → PureOk P E.glob f [.str q.1] q.2 := fun q hq => memo_pure hS ((every_iff _ _).1 h q hq)
theorem ck0_pure {n : Nat} (hS : Snd P E (run P E n)) {T : List (FuncId × V)} (h : ck0 P E n T = true) : ∀ q, q ∈ T → PureOk P E.glob q.1 [] q.2 := fun q hq => memo_pure hS ((every_iff _ _).1 h q hq)

theorem memoP_ok {TT : List (FuncId × List (List UInt8 × V))} {T0 : List (FuncId × V)} (hE : E.prim = memoP TT T0) (h1 : ∀ p, p ∈ TT → ∀ q, q ∈ p.2 → PureOk P E.glob p.1 [.str q.1] q.2) (h0 : ∀ q, q ∈ T0 → PureOk P E.glob q.1 [] q.2) : PrimOk P E := by
  intro f gs v h
  rw [hE] at h
  unfold memoP at h
  split at h
  · exact h0 _ (lookF_mem h)
  · split at h
    · split at h
      · split at h
        · rename_i T hT
          exact h1 _ (lookF_mem hT) _ (lookT_mem h)
        · cases h
      · cases h
    · cases h

/-- Calls of whatever data, whose results are known. -/
noncomputable def lookG (T : List (List V × V)) (gs : List V) : Option V := List.rec none (fun p _ ih => bif veqL (veq depth) gs p.1 then some p.2 else ih) T
noncomputable def memoX (TG : List (FuncId × List (List V × V))) (pr : FuncId → List V → Option V) (f : FuncId) (gs : List V) : Option V :=
  match pr f gs with
  | some v => some v
  | none => match lookF TG f with
    | some T => lookG T gs
    | none => none
theorem lookG_mem {T : List (List V × V)} {gs : List V} {v : V} (h : lookG T gs = some v) : (gs, v) ∈ T := by
  induction T with
  | nil => cases h
  | cons p T IH =>
    change (bif veqL (veq depth) gs p.1 then some p.2 else lookG T gs) = some v at h
    cases hs : veqL (veq depth) gs p.1 with
    | true =>
      rw [hs] at h; cases h
      rw [veqL_iff (veq_iff depth) _ _ hs]; simp
    | false => rw [hs] at h; simp [IH h]
noncomputable def ckG (P : Program) (E : Env) (n : Nat) (f : FuncId) (T : List (List V × V)) : Bool := every (fun q => memoCk (run P E n (.call f q.1 Heap.empty)) q.2) T
theorem ckG_pure {n : Nat} (hS : Snd P E (run P E n)) {f : FuncId} {T : List (List V × V)} (h : ckG P E n f T = true) : ∀ q, q ∈ T → PureOk P E.glob f q.1 q.2 := fun q hq => memo_pure hS ((every_iff _ _).1 h q hq)
theorem memoX_ok {TG : List (FuncId × List (List V × V))} {pr : FuncId → List V → Option V} (hE : E.prim = memoX TG pr) (hp : ∀ f gs v, pr f gs = some v → PureOk P E.glob f gs v) (h1 : ∀ p, p ∈ TG → ∀ q, q ∈ p.2 → PureOk P E.glob p.1 q.1 q.2) : PrimOk P E := by
  intro f gs v h
  rw [hE] at h
  unfold memoX at h
  split at h
  · rename_i u hu; cases h; exact hp _ _ _ hu
  · split at h
    · rename_i T hT
      exact h1 _ (lookF_mem hT) _ (lookG_mem h)
    · cases h

theorem primNone_ok (hE : E.prim = fun _ _ => none) : PrimOk P E := by
  intro f gs v h; rw [hE] at h; cases h

/-- The model keeps no name of these functions to itself. -/
def namesB (l : List Func) : Bool := l.all fun fn => !(fn.body.isSome && fn.name == "runtime.NumGoroutine")
theorem nameOk_of (h : namesB P.funcs.toList = true) : NameOk P := by
  intro f fn hf hb e
  unfold namesB at h
  rw [List.all_eq_true] at h
  have := h fn (List.mem_of_getElem? (by simpa using hf))
  simp [hb, e] at this

/-- A variable that is a table of numbers. -/
theorem tab_gr {S : Nat → Nat → Option Value} {gl n : Nat} {k : IntKind} {zs : List Int} (hn : zs.length = n) (h0 : 0 < n) (h : ∀ i, i < n → S gl i = some (.int k (zs.getD i 0))) : GR S (.pointer (some ⟨gl, 0, none⟩)) (.gptr n [.agg (zs.map (V.int k))] 0) := by
  refine .gptr (base := 0) (off := 0) (fun _ j => .int k (zs.getD j 0)) h0 (fun i e he => ?_) (fun i e j x he hx => ?_) (fun i e j x he hx => ?_)
  · cases i with
    | zero => cases he; exact ⟨by simp [V.cells, hn], rfl⟩
    | succ i => simp at he
  · cases i with
    | zero =>
      cases he
      have hj := lt_of_getElem?_list hx
      simp [V.cells] at hj
      exact ⟨by simpa using h j (by omega), rfl⟩
    | succ i => simp at he
  · cases i with
    | zero =>
      cases he
      simp only [V.cells, List.getElem?_map] at hx
      cases hz : zs[j]? with
      | none => rw [hz] at hx; cases hx
      | some z => rw [hz] at hx; cases hx; simp [List.getD_eq_getElem?_getD, hz]; exact .int _ _
    | succ i => simp at he

theorem laid_mem {W : World} {l : List (String × DataW Unit)} : ∀ {ps : List MemPlace}, DataW.LaidVars P W l ps → ∀ {n : String} {d : DataW Unit}, (n, d) ∈ l → ∃ g t cs fuel p, P.globalNamed n = some g ∧ (P.globals[g]?).map (·.type) = some t ∧ W.var? P n = some cs ∧ DataW.trod (fun _ => ()) P W 0 (fun _ => true) false fuel t cs.toList = some (d, p) := by
  induction l with
  | nil => intro ps _ n d h; cases h
  | cons x l IH =>
    intro ps h n d hm
    obtain ⟨n', d'⟩ := x
    obtain ⟨g, t, cs, fuel, p, q, h1, h2, h3, h4, h5, _⟩ := h
    rcases List.mem_cons.1 hm with e | e
    · cases e; exact ⟨g, t, cs, fuel, p, h1, h2, h3, h4⟩
    · exact IH h5 e

theorem laid_cell {W : World} {l : List (String × DataW Unit)} {name : String} {k : IntKind} {zs : List Int} {g : Nat} {t e : TypeId} {n : Nat} (h : laidMet P l W) (hm : (name, Lib.tabData k zs) ∈ l)
    (hg : P.globalNamed name = some g) (hty : (P.globals[g]?).map (·.type) = some t) (ht : P.underlying t = some (.array n e)) (he : P.underlying e = some (.int k)) (hce : P.cellsOf e = 1) (hct : P.cellsOf t = n) (i : Nat) (hi : i < zs.length) : allOf W g i = some (.int k (zs.getD i 0)) := by
  obtain ⟨ps, hl, _⟩ := h
  obtain ⟨g', t', cs, fuel, p, hg', ht', hvar, hd⟩ := laid_mem hl hm
  obtain rfl := Option.some.inj (hg.symm.trans hg')
  obtain rfl := Option.some.inj (hty.symm.trans ht')
  have hT : Lib.TabIs P W name k zs := by
    unfold Lib.TabIs
    rw [hvar, ← Lib.cells_of_tab ht he hce hct hd]
  exact look_of_cell (hT.cell hg i hi) rfl

/-- A byte that is handed in, by what is left of it. -/
theorem u8_wf {n : Int} (h : (Lit.int .u8 n).wf = true) : ∃ N : Nat, n = (N : Int) ∧ N < 256 := by
  simp [Lit.wf, IntKind.min, IntKind.max, IntKind.signed, IntKind.bits] at h
  exact ⟨n.toNat, by omega, by omega⟩
theorem args1 {S : Nat → Nat → Option Value} {N m : Nat} (hN : N < 256) : Rs' (Gh.data S) #[.int .u8 (N : Int)] [.imod .u8 m (N % m)] := ⟨rfl, fun i v x a b => by
  match i with
  | 0 => cases a; cases b; exact .imod hN rfl
  | n + 1 => simp at b⟩
theorem args2 {S : Nat → Nat → Option Value} {N M m k : Nat} (hN : N < 256) (hM : M < 256) : Rs' (Gh.data S) #[.int .u8 (N : Int), .int .u8 (M : Int)] [.imod .u8 m (N % m), .imod .u8 k (M % k)] := ⟨rfl, fun i v x a b => by
  match i with
  | 0 => cases a; cases b; exact .imod hN rfl
  | 1 => cases a; cases b; exact .imod hM rfl
  | n + 2 => simp at b⟩

/-- All that is below m. -/
def below (m : Nat) : List Nat := List.range m
theorem mod_below (N : Nat) {m : Nat} (hm : 0 < m) : N % m ∈ below m := by simp [below, Nat.mod_lt _ hm]

end Go.AM
