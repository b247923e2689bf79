/-
  THE ABSTRACT MACHINE, and that its run is the model's: part 4 of 5. No condition.
-/
import Derived.Test.YtpjpgabdemdieaaGreatDoorAmAll2
import Derived.Lib.LaidTab
import Derived.KernelRfl
import Derived.ChangeSlices
import Derived.ChangeMaps5
import Derived.OpenShut
/-
  FROM A RUN OF THE ABSTRACT MACHINE TO THE MODEL's CALL; calls that are known already; tables.
-/
namespace Go.AM
open Go.RowKit

variable {P : Program} {E : Env} {ih : Task → Res}

/-- All that lies in memory. -/
def allOf (W : World) : Nat → Nat → Option Value := look W
theorem allOf_ok (W : World) : Sealed (allOf W) W := fun _ _ _ h => h

theorem calls_of_run (hS : Snd P E ih) (hN : NameOk P) {f : FuncId} {fn : Func} {body : Code} {gs : List V} {b : Bool} {hc : Heap} (hf : P.funcs[f]? = some fn) (hb : fn.body = some body) (hr : ih (.call f gs Heap.empty) = .ret (.bool b) hc) {W : World} {us : Array Value} (hG : GlobOk E.glob (allOf W)) (hs : Rs' (Gh.data (allOf W)) us gs) :
    Calls P f us W fun e W' => e = .returned (.bool b) ∧ Below W.heap.size W W' := by
  intro cs
  have h := hS.call cs f gs us (AM.W.start (allOf_ok W)) hG hs
  rw [hr] at h
  obtain ⟨g', w', v, _, hW, hR, hret⟩ := h
  have := hR.bool_inv; subst this
  rcases hret with h | ⟨_, fr, h1, h2, h3⟩
  · rw [run_callFunc hN hf hb] at h; cases h
  · exact ⟨.returned (.bool b), w', fr, ⟨rfl, hW.low.below⟩, h1, h2, h3⟩

/-- Does a run give true? -/
def isTrue (r : Res) : Bool :=
  match r with
  | .ret v _ => (match v with
    | .bool b => b
    | _ => false)
  | _ => false
theorem isTrue_ret {r : Res} (h : isTrue r = true) : ∃ hc, r = .ret (.bool true) hc := by
  unfold isTrue at h
  split at h
  · split at h
    · subst h; exact ⟨_, rfl⟩
    · cases h
  · cases h

/-- What a call gave, held against what is said of it. -/
noncomputable def eqF (x y : V) : Bool :=
  match x with
  | .fsl t s p es c => (match y with
    | .fsl t' s' p' es' c' => Nat.beq t t' && Nat.beq s s' && Nat.beq p p' && optEq c c' && veqL (veq depth) es es'
    | _ => false)
  | x => veq depth x y
theorem eqF_iff (x y : V) (h : eqF x y = true) : x = y := by
  unfold eqF at h
  split at h
  · split at h
    · simp only [Bool.and_eq_true, Nat.beq_eq] at h
      obtain ⟨⟨⟨⟨h1, h2⟩, h3⟩, h4⟩, h5⟩ := h
      rw [h1, h2, h3, optEq_iff _ _ h4, veqL_iff (veq_iff depth) _ _ h5]
    · cases h
  · exact veq_iff _ _ _ h
noncomputable def eqP (x y : V) : Bool :=
  match x with
  | .agg a => (match y with
    | .agg b => veqL eqF a b
    | _ => false)
  | x => eqF x y
theorem eqP_iff (x y : V) (h : eqP x y = true) : x = y := by
  unfold eqP at h
  split at h
  · split at h
    · rw [veqL_iff eqF_iff _ _ h]
    · cases h
  · exact eqF_iff _ _ h
noncomputable def eqVal (x y : V) : Bool :=
  match x with
  | .tup a => (match y with
    | .tup b => veqL eqP a b
    | _ => false)
  | x => eqP x y
theorem eqVal_iff {x y : V} (h : eqVal x y = true) : x = y := by
  unfold eqVal at h
  split at h
  · split at h
    · rw [veqL_iff eqP_iff _ _ h]
    · cases h
  · exact eqP_iff _ _ h

noncomputable def memoCk (r : Res) (v : V) : Bool :=
  match r with
  | .ret y hc => (match retAll hc y with
    | some u => eqVal u v
    | none => false)
  | _ => false
theorem memo_pure (hS : Snd P E ih) {f : FuncId} {gs : List V} {v : V} (h : memoCk (ih (.call f gs Heap.empty)) v = true) : PureOk P E.glob f gs v := by
  unfold memoCk at h
  split at h
  · rename_i y hc hr
    split at h
    · rename_i u hu
      have := eqVal_iff h; subst this
      exact PureOk.of_run hS hr hu
    · cases h
  · cases h

/-- Calls of a text, or of nothing, whose results are known. -/
noncomputable def lookT (T : List (List UInt8 × V)) (s : List UInt8) : Option V := List.rec none (fun p _ ih => bif strEq s p.1 then some p.2 else ih) T
noncomputable def lookF {α : Type} (TT : List (FuncId × α)) (f : FuncId) : Option α := List.rec none (fun p _ ih => bif Nat.beq f p.1 then some p.2 else ih) TT
noncomputable def memoP (TT : List (FuncId × List (List UInt8 × V))) (T0 : List (FuncId × V)) (f : FuncId) (gs : List V) : Option V :=
  match gs with
  | [] => lookF T0 f
  | x :: r => match r with
    | [] => (match x with
      | .str s => (match lookF TT f with
        | some T => lookT T s
        | none => none)
      | _ => none)
    | _ => none

theorem lookT_mem {T : List (List UInt8 × V)} {s : List UInt8} {v : V} (h : lookT T s = some v) : (s, v) ∈ T := by
  induction T with
  | nil => cases h
  | cons p T IH =>
    change (bif strEq s p.1 then some p.2 else lookT T s) = some v at h
    cases hs : strEq s p.1 with
    | true =>
      rw [hs] at h; cases h
      rw [(strEq_iff _ _).1 hs]; simp
    | false => rw [hs] at h; simp [IH h]
theorem lookF_mem {α : Type} {T : List (FuncId × α)} {f : FuncId} {v : α} (h : lookF T f = some v) : (f, v) ∈ T := by
  induction T with
  | nil => cases h
  | cons p T IH =>
    change (bif Nat.beq f p.1 then some p.2 else lookF T f) = some v at h
    cases hs : Nat.beq f p.1 with
    | true =>
      rw [hs] at h; cases h
      rw [Nat.beq_eq] at hs; rw [hs]; simp
    | false => rw [hs] at h; simp [IH h]

noncomputable def ckT (P : Program) (E : Env) (n : Nat) (f : FuncId) (T : List (List UInt8 × V)) : Bool := every (fun q => memoCk (run P E n (.call f [.str q.1] Heap.empty)) q.2) T
noncomputable def ck0 (P : Program) (E : Env) (n : Nat) (T : List (FuncId × V)) : Bool := every (fun q => memoCk (run P E n (.call q.1 [] Heap.empty)) q.2) T

theorem ckT_pure {n : Nat} (hS : Snd P E (run P E n)) {f : FuncId} {T : List (List UInt8 × V)} (h : ckT P E n f T = true) : ∀ q, q ∈ T → PureOk P E.glob f [.str q.1] q.2 := fun q hq => memo_pure hS ((every_iff _ _).1 h q hq)
theorem ck0_pure {n : Nat} (hS : Snd P E (run P E n)) {T : List (FuncId × V)} (h : ck0 P E n T = true) : ∀ q, q ∈ T → PureOk P E.glob q.1 [] q.2 := fun q hq => memo_pure hS ((every_iff _ _).1 h q hq)

theorem memoP_ok {TT : List (FuncId × List (List UInt8 × V))} {T0 : List (FuncId × V)} (hE : E.prim = memoP TT T0) (h1 : ∀ p, p ∈ TT → ∀ q, q ∈ p.2 → PureOk P E.glob p.1 [.str q.1] q.2) (h0 : ∀ q, q ∈ T0 → PureOk P E.glob q.1 [] q.2) : PrimOk P E := by
  intro f gs v h
  rw [hE] at h
  unfold memoP at h
  split at h
  · exact h0 _ (lookF_mem h)
  · split at h
    · split at h
      · split at h
        · rename_i T hT
          exact h1 _ (lookF_mem hT) _ (lookT_mem h)
        · cases h
      · cases h
    · cases h

/-- Calls of whatever data, whose results are known. -/
noncomputable def lookG (T : List (List V × V)) (gs : List V) : Option V := List.rec none (fun p _ ih => bif veqL (veq depth) gs p.1 then some p.2 else ih) T
noncomputable def memoX (TG : List (FuncId × List (List V × V))) (pr : FuncId → List V → Option V) (f : FuncId) (gs : List V) : Option V :=
  match pr f gs with
  | some v => some v
  | none => match lookF TG f with
    | some T => lookG T gs
    | none => none
theorem lookG_mem {T : List (List V × V)} {gs : List V} {v : V} (h : lookG T gs = some v) : (gs, v) ∈ T := by
  induction T with
  | nil => cases h
  | cons p T IH =>
    change (bif veqL (veq depth) gs p.1 then some p.2 else lookG T gs) = some v at h
    cases hs : veqL (veq depth) gs p.1 with
    | true =>
      rw [hs] at h; cases h
      rw [veqL_iff (veq_iff depth) _ _ hs]; simp
    | false => rw [hs] at h; simp [IH h]
noncomputable def ckG (P : Program) (E : Env) (n : Nat) (f : FuncId) (T : List (List V × V)) : Bool := every (fun q => memoCk (run P E n (.call f q.1 Heap.empty)) q.2) T
theorem ckG_pure {n : Nat} (hS : Snd P E (run P E n)) {f : FuncId} {T : List (List V × V)} (h : ckG P E n f T = true) : ∀ q, q ∈ T → PureOk P E.glob f q.1 q.2 := fun q hq => memo_pure hS ((every_iff _ _).1 h q hq)
theorem memoX_ok {TG : List (FuncId × List (List V × V))} {pr : FuncId → List V → Option V} (hE : E.prim = memoX TG pr) (hp : ∀ f gs v, pr f gs = some v → PureOk P E.glob f gs v) (h1 : ∀ p, p ∈ TG → ∀ q, q ∈ p.2 → PureOk P E.glob p.1 q.1 q.2) : PrimOk P E := by
  intro f gs v h
  rw [hE] at h
  unfold memoX at h
  split at h
  · rename_i u hu; cases h; exact hp _ _ _ hu
  · split at h
    · rename_i T hT
      exact h1 _ (lookF_mem hT) _ (lookG_mem h)
    · cases h

theorem primNone_ok (hE : E.prim = fun _ _ => none) : PrimOk P E := by
  intro f gs v h; rw [hE] at h; cases h

/-- The model keeps no name of these functions to itself. -/
def namesB (l : List Func) : Bool := l.all fun fn => !(fn.body.isSome && fn.name == "runtime.NumGoroutine")
theorem nameOk_of (h : namesB P.funcs.toList = true) : NameOk P := by
  intro f fn hf hb e
  unfold namesB at h
  rw [List.all_eq_true] at h
  have := h fn (List.mem_of_getElem? (by simpa using hf))
  simp [hb, e] at this

/-- A variable that is a table of numbers. -/
theorem tab_gr {S : Nat → Nat → Option Value} {gl n : Nat} {k : IntKind} {zs : List Int} (hn : zs.length = n) (h0 : 0 < n) (h : ∀ i, i < n → S gl i = some (.int k (zs.getD i 0))) : GR S (.pointer (some ⟨gl, 0, none⟩)) (.gptr n [.agg (zs.map (V.int k))] 0) := by
  refine .gptr (base := 0) (off := 0) (fun _ j => .int k (zs.getD j 0)) h0 (fun i e he => ?_) (fun i e j x he hx => ?_) (fun i e j x he hx => ?_)
  · cases i with
    | zero => cases he; exact ⟨by simp [V.cells, hn], rfl⟩
    | succ i => simp at he
  · cases i with
    | zero =>
      cases he
      have hj := lt_of_getElem?_list hx
      simp [V.cells] at hj
      exact ⟨by simpa using h j (by omega), rfl⟩
    | succ i => simp at he
  · cases i with
    | zero =>
      cases he
      simp only [V.cells, List.getElem?_map] at hx
      cases hz : zs[j]? with
      | none => rw [hz] at hx; cases hx
      | some z => rw [hz] at hx; cases hx; simp [List.getD_eq_getElem?_getD, hz]; exact .int _ _
    | succ i => simp at he

theorem laid_mem {W : World} {l : List (String × DataW Unit)} : ∀ {ps : List MemPlace}, DataW.LaidVars P W l ps → ∀ {n : String} {d : DataW Unit}, (n, d) ∈ l → ∃ g t cs fuel p, P.globalNamed n = some g ∧ (P.globals[g]?).map (·.type) = some t ∧ W.var? P n = some cs ∧ DataW.trod (fun _ => ()) P W 0 (fun _ => true) false fuel t cs.toList = some (d, p) := by
  induction l with
  | nil => intro ps _ n d h; cases h
  | cons x l IH =>
    intro ps h n d hm
    obtain ⟨n', d'⟩ := x
    obtain ⟨g, t, cs, fuel, p, q, h1, h2, h3, h4, h5, _⟩ := h
    rcases List.mem_cons.1 hm with e | e
    · cases e; exact ⟨g, t, cs, fuel, p, h1, h2, h3, h4⟩
    · exact IH h5 e

theorem laid_cell {W : World} {l : List (String × DataW Unit)} {name : String} {k : IntKind} {zs : List Int} {g : Nat} {t e : TypeId} {n : Nat} (h : laidMet P l W) (hm : (name, Lib.tabData k zs) ∈ l)
    (hg : P.globalNamed name = some g) (hty : (P.globals[g]?).map (·.type) = some t) (ht : P.underlying t = some (.array n e)) (he : P.underlying e = some (.int k)) (hce : P.cellsOf e = 1) (hct : P.cellsOf t = n) (i : Nat) (hi : i < zs.length) : allOf W g i = some (.int k (zs.getD i 0)) := by
  obtain ⟨ps, hl, _⟩ := h
  obtain ⟨g', t', cs, fuel, p, hg', ht', hvar, hd⟩ := laid_mem hl hm
  obtain rfl := Option.some.inj (hg.symm.trans hg')
  obtain rfl := Option.some.inj (hty.symm.trans ht')
  have hT : Lib.TabIs P W name k zs := by
    unfold Lib.TabIs
    rw [hvar, ← Lib.cells_of_tab ht he hce hct hd]
  exact look_of_cell (hT.cell hg i hi) rfl

/-- A byte that is handed in, by what is left of it. -/
theorem u8_wf {n : Int} (h : (Lit.int .u8 n).wf = true) : ∃ N : Nat, n = (N : Int) ∧ N < 256 := by
  simp [Lit.wf, IntKind.min, IntKind.max, IntKind.signed, IntKind.bits] at h
  exact ⟨n.toNat, by omega, by omega⟩
theorem args1 {S : Nat → Nat → Option Value} {N m : Nat} (hN : N < 256) : Rs' (Gh.data S) #[.int .u8 (N : Int)] [.imod .u8 m (N % m)] := ⟨rfl, fun i v x a b => by
  match i with
  | 0 => cases a; cases b; exact .imod hN rfl
  | n + 1 => simp at b⟩
theorem args2 {S : Nat → Nat → Option Value} {N M m k : Nat} (hN : N < 256) (hM : M < 256) : Rs' (Gh.data S) #[.int .u8 (N : Int), .int .u8 (M : Int)] [.imod .u8 m (N % m), .imod .u8 k (M % k)] := ⟨rfl, fun i v x a b => by
  match i with
  | 0 => cases a; cases b; exact .imod hN rfl
  | 1 => cases a; cases b; exact .imod hM rfl
  | n + 2 => simp at b⟩

/-- All that is below m. -/
def below (m : Nat) : List Nat := List.range m
theorem mod_below (N : Nat) {m : Nat} (hm : 0 < m) : N % m ∈ below m := by simp [below, Nat.mod_lt _ hm]

end Go.AM

/-
  Cases laid side by side.
-/
namespace Go.AM
theorem every_app {α : Type} {f : α → Bool} {a b : List α} (h1 : every f a = true) (h2 : every f b = true) : every f (a ++ b) = true := by
  rw [every_iff] at *
  intro x hx
  rw [List.mem_append] at hx
  exact hx.elim (h1 x) (h2 x)
def pairs (m n : Nat) : List (Nat × Nat) := (List.range m).flatMap fun x => (List.range n).map fun y => (x, y)
theorem mem_pairs {m n x y : Nat} (hx : x < m) (hy : y < n) : (x, y) ∈ pairs m n := by
  unfold pairs
  rw [List.mem_flatMap]
  exact ⟨x, by simp [hx], by simp [hy]⟩

end Go.AM

/-
  RUNS OVER UNKNOWN DATA: what single operations come to, as equations.
-/
namespace Go.AM
open Go.RowKit

variable {P : Program} {G : Nat → Option V} {tm : T V} {h : Heap}

theorem operD_move (x : Operand) : operD (.move x) P G tm h = ofOpt h (ev G tm x) := rfl
theorem operD_assign (x : Operand) : operD (.assign x) P G tm h = ofOpt h (ev G tm x) := rfl
theorem operD_pick (c a b : Operand) : operD (.pick c a b) P G tm h = oPick G tm h c a b := rfl
theorem operD_load (t : TypeId) (a : Operand) : operD (.load t a) P G tm h = o1 G tm h a (load P h t) := rfl
theorem operD_store (t : TypeId) (a x : Operand) : operD (.store t a x) P G tm h = oStore P G tm h t a x := rfl
theorem operD_binOp (op : BinOp) (t : TypeId) (x y : Operand) (u : TypeId) : operD (.binOp op t x y u) P G tm h = o2 G tm h x y (binOp P h t (isConst x || isConst y) op) := rfl
theorem operD_unOp (op : UnOp) (t : TypeId) (x : Operand) : operD (.unOp op t x) P G tm h = o1 G tm h x (unOp op) := rfl
theorem operD_convert (s d : TypeId) (x : Operand) : operD (.convert s d x) P G tm h = o1 G tm h x (convert P s d h) := rfl
theorem operD_slice (t : TypeId) (x : Operand) (lo hi mx : Option Operand) : operD (.slice t x lo hi mx) P G tm h = oSlice P G tm h t x lo hi mx := rfl
theorem operD_indexAddr (t : TypeId) (x i : Operand) : operD (.indexAddr t x i) P G tm h = o2 G tm h x i (indexAddr P h t) := rfl
theorem operD_index (t : TypeId) (x i : Operand) : operD (.index t x i) P G tm h = o2 G tm h x i (index P t) := rfl
theorem operD_extract (x : Operand) (i : Nat) : operD (.extract x i) P G tm h = o1 G tm h x (extract i) := rfl
theorem operD_call (c : Call) : operD (.call c) P G tm h = oCall P G tm h c := rfl
theorem operD_alloc (e : TypeId) : operD (.alloc e) P G tm h = oAlloc P h e := rfl
theorem operD_box (e : TypeId) (x : Operand) : operD (.box e x) P G tm h = oBox G tm h e x := rfl
theorem operD_makeFunc (f : Fn) (a b : Array Operand) : operD (.makeFunc f a b) P G tm h = oMakeFunc G tm h f a b := rfl
theorem operD_buildSlice (t : TypeId) (n : Nat) (ps : Array (Nat × Operand)) : operD (.buildSlice t n ps) P G tm h = oBuildSlice P G tm h t n ps := rfl
theorem operD_range (t : TypeId) (x : Operand) : operD (.range t x) P G tm h = oRange P G tm h t x := rfl
theorem operD_next (x : Operand) (s : Bool) : operD (.next x s) P G tm h = oNext G tm h x s := rfl

theorem ofOpt_some (v : V) : ofOpt h (some v) = .val v h := rfl
theorem o1_def (x : Operand) (f : V → Option V) : o1 G tm h x f = match ev G tm x with
    | some v => ofOpt h (f v)
    | none => .stuck := by unfold o1; cases ev G tm x <;> rfl
theorem o2_def (x y : Operand) (f : V → V → Option V) : o2 G tm h x y f = match ev G tm x with
    | some v => (match ev G tm y with
      | some w => ofOpt h (f v w)
      | none => .stuck)
    | none => .stuck := by
  unfold o2
  cases ev G tm x with
  | none => rfl
  | some v => cases hy : ev G tm y <;> simp only [hy]

theorem oPick_def (c a b : Operand) : oPick G tm h c a b = match ev G tm c with
    | some (.bool true) => ofOpt h (ev G tm a)
    | some (.bool false) => ofOpt h (ev G tm b)
    | _ => .stuck := by
  unfold oPick
  cases ev G tm c with
  | none => rfl
  | some v => cases v <;> first | rfl | (rename_i t; cases t <;> rfl)
theorem binOp_int (t : TypeId) (c : Bool) (op : BinOp) (k : IntKind) (a b : Int) : binOp P h t c op (.int k a) (.int k b) = intOp op k a b := by
  change (bif isShift op || kindEq k k then intOp op k a b else none) = _
  rw [(kindEq_iff k k).2 rfl]; simp
theorem binOp_str (t : TypeId) (c : Bool) (op : BinOp) (a b : List UInt8) : binOp P h t c op (.str a) (.str b) = strOp op a b := rfl
theorem intOp_add (k : IntKind) (a b : Int) : intOp .add k a b = okInt k (a + b) := rfl
theorem intOp_sub (k : IntKind) (a b : Int) : intOp .sub k a b = okInt k (a - b) := rfl
theorem intOp_eql (k : IntKind) (a b : Int) : intOp .eql k a b = some (.bool (decide (a = b))) := by
  change some (V.bool (ieq a b)) = _; rw [ieq_eq]; rfl
theorem intOp_neq (k : IntKind) (a b : Int) : intOp .neq k a b = some (.bool (!decide (a = b))) := by
  change some (V.bool (!ieq a b)) = _; rw [ieq_eq]; rfl
theorem intOp_lss (k : IntKind) (a b : Int) : intOp .lss k a b = some (.bool (decide (a < b))) := by
  change some (V.bool (ilt a b)) = _; rw [ilt_eq]
theorem intOp_leq (k : IntKind) (a b : Int) : intOp .leq k a b = some (.bool (decide (a ≤ b))) := by
  change some (V.bool (ile a b)) = _; rw [ile_eq]
theorem intOp_gtr (k : IntKind) (a b : Int) : intOp .gtr k a b = some (.bool (decide (b < a))) := by
  change some (V.bool (ilt b a)) = _; rw [ilt_eq]
theorem intOp_geq (k : IntKind) (a b : Int) : intOp .geq k a b = some (.bool (decide (b ≤ a))) := by
  change some (V.bool (ile b a)) = _; rw [ile_eq]
/-- A sum that is in range. -/
theorem okInt64 {n : Int} (h1 : -9223372036854775808 ≤ n) (h2 : n ≤ 9223372036854775807) : okInt .i64 n = some (.int .i64 n) := by
  rw [okInt_eq, wrap_of_holds]
  · exact h1
  · exact h2
theorem beq_eq_decide (a b : List UInt8) : (a == b) = decide (a = b) := by rw [Bool.eq_iff_iff]; simp
theorem strOp_eql (a b : List UInt8) : strOp .eql a b = some (.bool (decide (a = b))) := by
  change some (V.bool (strEq a b)) = _; rw [strEq_eq, beq_eq_decide]
theorem strOp_neq (a b : List UInt8) : strOp .neq a b = some (.bool (!decide (a = b))) := by
  change some (V.bool (!strEq a b)) = _; rw [strEq_eq, beq_eq_decide]
theorem strOp_add {a b : List UInt8} (h : a.length + b.length ≤ room) : strOp .add a b = some (.str (a ++ b)) := by
  change (bif Nat.ble (Nat.add (List.len a) (List.len b)) room then some (V.str (List.app a b)) else none) = _
  rw [List.len_eq, List.len_eq, List.app_eq]
  have : Nat.ble (Nat.add a.length b.length) room = true := by rw [Nat.ble_eq]; exact h
  rw [this]; rfl
theorem unOp_not (b : Bool) : unOp .not (.bool b) = some (.bool (!b)) := rfl

theorem natI_nat (k : IntKind) (n : Nat) : natI (.int k (n : Int)) = some n := rfl
theorem index_str {t : TypeId} {s : List UInt8} {k : IntKind} {i : Nat} (ht : isStrT P t = true) (hi : i < s.length) : index P t (.str s) (.int k (i : Int)) = some (.int .u8 (s[i].toNat : Nat)) := by
  change (match List.at s i with | some b => bif isStrT P t then some (byteV b) else none | none => none) = _
  rw [List.at_eq, List.getElem?_eq_getElem hi, ht]; rfl

theorem oCall_def (c : Call) : oCall P G tm h c = match mapO (ev G tm) c.args.toList with
  | none => .stuck
  | some args => match c.callee with
    | .builtin b => (match b with
      | .recover => .recover h
      | b => builtin P b c.argTypes.toList h args)
    | .value f => (match ev G tm f with
      | some f => callV P h f args
      | none => .stuck)
    | .invoke _ _ => .stuck := rfl
theorem len_str {t : TypeId} {s : List UInt8} (ht : isStrT P t = true) : builtin P .len [t] h [.str s] = .val (.int .i64 (s.length : Int)) h := by
  change (match lenOf P t h (.str s) with | some n => Rs.val (.int .i64 (Int.ofNat n)) h | none => .stuck) = _
  change (match (bif isStrT P t then some (List.len s) else none) with | some n => Rs.val (.int .i64 (Int.ofNat n)) h | none => .stuck) = _
  rw [ht, List.len_eq]; rfl
theorem len_gsl {t : TypeId} {sz : Nat} {es : List V} {c : Option Nat} (ht : isSliceT P t = true) : builtin P .len [t] h [.gsl sz es c] = .val (.int .i64 (es.length : Int)) h := by
  change (match (bif isSliceT P t then some (List.len es) else none) with | some n => Rs.val (.int .i64 (Int.ofNat n)) h | none => .stuck) = _
  rw [ht, List.len_eq]; rfl
theorem len_osl {t : TypeId} {sz : Nat} {es : List V} (ht : isSliceT P t = true) : builtin P .len [t] h [.osl sz es] = .val (.int .i64 (es.length : Int)) h := by
  change (match (bif isSliceT P t then some (List.len es) else none) with | some n => Rs.val (.int .i64 (Int.ofNat n)) h | none => .stuck) = _
  rw [ht, List.len_eq]; rfl
theorem len_sl {t : TypeId} {r v o n : Nat} {c : Option Nat} (ht : isSliceT P t = true) : builtin P .len [t] h [.sl r v o n c] = .val (.int .i64 (n : Int)) h := by
  change (match (bif isSliceT P t then some n else none) with | some n => Rs.val (.int .i64 (Int.ofNat n)) h | none => .stuck) = _
  rw [ht]; rfl
theorem callV_fn (g : FuncId) (args : List V) : callV P h (.func (.func g) [] []) args = .call g args h := by
  change Rs.call g (List.app (List.app [] args) []) h = _
  rw [List.app_eq, List.app_eq]; simp
theorem callV_cap (g : FuncId) (cap args : List V) : callV P h (.func (.func g) [] cap) args = .call g (args ++ cap) h := by
  change Rs.call g (List.app (List.app [] args) cap) h = _
  rw [List.app_eq, List.app_eq]; simp
/-- An element of a slice in a row of its own. -/
theorem indexAddr_sl {t e ty : TypeId} {r ver o n pub sz : Nat} {c cap : Option Nat} {k : IntKind} {i : Nat} {es : List V} (ht : sliceElem P t = some e) (hs : size P e = sz) (hz : 1 ≤ sz) (hr : h.get r = .row ver ty sz pub cap es) (hi : i < n) :
    indexAddr P h t (.sl r ver o n c) (.int k (i : Int)) = some (.ptr r ver ((o + i) * sz)) := by
  change (match sliceElem P t with | some e => bif Nat.blt i n && Nat.ble 1 (size P e) && Nat.beq (rowSz h r) (size P e) then some (V.ptr r ver (Nat.mul (Nat.add o i) (size P e))) else none | none => none) = _
  rw [ht]
  have e1 : Nat.blt i n = true := by rw [Nat.blt_eq]; exact hi
  have e2 : Nat.ble 1 sz = true := by rw [Nat.ble_eq]; exact hz
  have e3 : rowSz h r = sz := by unfold rowSz; rw [hr]
  simp only [hs, e1, e2, e3, Nat.beq_refl]
  rfl
theorem indexAddr_gsl {t e : TypeId} {sz : Nat} {c : Option Nat} {k : IntKind} {i : Nat} {es : List V} (ht : sliceElem P t = some e) (hs : size P e = sz) (hi : i < es.length) :
    indexAddr P h t (.gsl sz es c) (.int k (i : Int)) = some (.gptr sz es (i * sz)) := by
  change (match sliceElem P t with | some e => bif Nat.blt i (List.len es) && Nat.beq sz (size P e) then some (V.gptr sz es (Nat.mul i sz)) else none | none => none) = _
  rw [ht, List.len_eq]
  have e1 : Nat.blt i es.length = true := by rw [Nat.blt_eq]; exact hi
  simp only [hs, e1, Nat.beq_refl]
  rfl

/-- A text read from a row of texts. -/
theorem load_one {t ty : TypeId} {r ver i pub : Nat} {cap : Option Nat} {es : List V} {v : V} (ha : aggOf P t = some false) (hs : size P t = 1) (hr : h.get r = .row ver ty 1 pub cap es) (hi : es[i]? = some v) (hv : v.cells = [v]) : load P h t (.ptr r ver i) = some v := by
  change (match h.get r with | .row ver' _ sz _ _ es => bif Nat.beq ver ver' then packO P t (cellsAt sz es i (size P t)) else none | _ => none) = _
  rw [hr]
  change (bif Nat.beq ver ver then packO P t (cellsAt 1 es i (size P t)) else none) = _
  rw [Nat.beq_refl, hs]
  change packO P t (match List.at es i with | none => none | some e => some e.cells) = _
  rw [List.at_eq, hi]
  change pack P t v.cells = _
  rw [hv]
  unfold pack
  rw [ha]
theorem load_gone {t : TypeId} {i : Nat} {es : List V} {v : V} (ha : aggOf P t = some false) (hs : size P t = 1) (hi : es[i]? = some v) (hv : v.cells = [v]) : load P h t (.gptr 1 es i) = some v := by
  change packO P t (cellsAt 1 es i (size P t)) = _
  rw [hs]
  change packO P t (match List.at es i with | none => none | some e => some e.cells) = _
  rw [List.at_eq, hi]
  change pack P t v.cells = _
  rw [hv]
  unfold pack
  rw [ha]

theorem pub_str (n : Nat) (s : List UInt8) : pub [] (n + 1) h (.str s) = some (.str s, h) := rfl
theorem pub_int (n : Nat) (k : IntKind) (i : Int) : pub [] (n + 1) h (.int k i) = some (.int k i, h) := rfl
end Go.AM

/-
  STATES OF WHICH A PART IS KNOWN: rules for code over them. What a rule says is said of the model's own steps.
-/
namespace Go.AM
open Go.RowKit

variable {P : Program} {E : Env}

/-- A frame with a slot written; a slot's value. -/
noncomputable def Fr.st (fr : Fr) (d : Tmp) (v : V) : Fr := { fr with tm := fr.tm.set undef v d }
noncomputable def Fr.at' (fr : Fr) (i : Tmp) : V := fr.tm.get undef i
theorem Fr.at_st (fr : Fr) (d i : Tmp) (v : V) : (fr.st d v).at' i = if d = i then v else fr.at' i := T.get_set _ _ _ _ _
theorem Fr.put_st {fr : Fr} {d : Tmp} {v : V} (h : Nat.blt d fr.n = true) : fr.put (some d) v = some (fr.st d v) := by
  change Fr.putD d fr v = _
  obtain ⟨fn, n, tm, marks, defers, round, dk, did⟩ := fr
  change (Bool.rec none (some ⟨fn, n, tm.set undef v d, marks, defers, round, dk, did⟩) (Nat.blt d n) : Option Fr) = _
  change Nat.blt d n = true at h
  rw [h]
  rfl
theorem Fr.put_no {fr : Fr} {d : Tmp} {v : V} (h : Nat.blt d fr.n = false) : fr.put (some d) v = none := by
  change Fr.putD d fr v = _
  obtain ⟨fn, n, tm, marks, defers, round, dk, did⟩ := fr
  change (Bool.rec none (some ⟨fn, n, tm.set undef v d, marks, defers, round, dk, did⟩) (Nat.blt d n) : Option Fr) = _
  change Nat.blt d n = false at h
  rw [h]

/-- A slot of which nothing is known. -/
def isLost : V → Bool
  | .fsl _ _ _ _ _ => true
  | _ => false

/-- One state says no more than another one. -/
structure Le (s' s : Fr) : Prop where
  fn : s.fn = s'.fn
  n : s.n = s'.n
  marks : s.marks = s'.marks
  defers : s.defers = s'.defers
  round : s.round = s'.round
  dk : s.dk = s'.dk
  did : s.did = s'.did
  slot : ∀ i, i < s.n → s'.at' i = lost ∨ s'.at' i = s.at' i
  out : ∀ i, s.n ≤ i → s'.at' i = undef ∨ s'.at' i = lost

theorem Le.ok {s s' : Fr} (hl : Le s' s) {g : Gh} {b : Frame} {a : Act} (hf : FrOk g b s a) : FrOk g b s' a := by
  refine ⟨hf.fn.trans hl.fn, ⟨hf.slots.size.trans hl.n, fun i v hv => ?_, fun i hi => hl.out i (by rw [hl.n]; exact hi)⟩, by rw [← hl.round]; exact hf.round, by rw [← hl.marks, ← hl.defers]; exact hf.marks⟩
  have hi : i < s.n := by rw [← hf.slots.size]; exact lt_of_getElem?_array hv
  rcases hl.slot i hi with e | e
  · exact .inl e
  · change s'.at' i = lost ∨ R g v (s'.at' i)
    rw [e]; exact hf.slots.rel i v hv

/-- Slots that are known, and no others. -/
noncomputable def fullL (k : Nat) : T V := Nat.rec .e (fun _ ih => .n ih lost ih) k
noncomputable def mkT (n : Nat) (L : List (Nat × V)) : T V := List.rec (fullL (levels n)) (fun p _ ih => bif Nat.blt p.1 n then ih.set undef p.2 p.1 else ih) L
noncomputable def Fr.on (b : Fr) (L : List (Nat × V)) : Fr := { b with tm := mkT b.n L }
/-- A frame that has just begun. -/
def base (f n : Nat) : Fr := ⟨f, n, .e, [], [], none, none, false⟩

noncomputable def keepV (s : Fr) (ks : List Nat) : List (Nat × V) := List.rec [] (fun k _ ih => (k, s.at' k) :: ih) ks

theorem fullL_out (k : Nat) : ∀ i, (fullL k).get undef i = undef ∨ (fullL k).get undef i = lost := by
  induction k with
  | zero => intro i; exact .inl rfl
  | succ k IH =>
    intro i
    change T.get undef (.n (fullL k) lost (fullL k)) i = undef ∨ T.get undef (.n (fullL k) lost (fullL k)) i = lost
    cases i with
    | zero => exact .inr rfl
    | succ i =>
      rw [T.get_n_succ]
      by_cases hm : i % 2 = 0
      · rw [T.pick_even _ _ _ hm]; exact IH _
      · rw [T.pick_odd _ _ _ hm]; exact IH _
theorem fullL_get (k : Nat) : ∀ i, i < 2 ^ k - 1 → (fullL k).get undef i = lost := by
  induction k with
  | zero => intro i h; simp at h
  | succ k IH =>
    intro i h
    change T.get undef (.n (fullL k) lost (fullL k)) i = lost
    cases i with
    | zero => rfl
    | succ i =>
      rw [T.get_n_succ]
      have h2 : i / 2 < 2 ^ k - 1 := by
        have : 2 ^ (k + 1) = 2 * 2 ^ k := by rw [Nat.pow_succ]; omega
        omega
      by_cases hm : i % 2 = 0
      · rw [T.pick_even _ _ _ hm]; exact IH _ h2
      · rw [T.pick_odd _ _ _ hm]; exact IH _ h2
theorem lt_levels (n : Nat) : n ≤ 2 ^ levels n - 1 := by
  have : n < 2 ^ levels n := by unfold levels; exact Nat.lt_log2_self
  omega
theorem mkT_cons (n : Nat) (p : Nat × V) (L : List (Nat × V)) : mkT n (p :: L) = bif Nat.blt p.1 n then (mkT n L).set undef p.2 p.1 else mkT n L := rfl
theorem mkT_get (n : Nat) (L : List (Nat × V)) (i : Nat) (hi : i < n) : (mkT n L).get undef i = lost ∨ (∃ v, (i, v) ∈ L ∧ (mkT n L).get undef i = v) := by
  induction L with
  | nil => exact .inl (fullL_get _ _ (Nat.lt_of_lt_of_le hi (lt_levels n)))
  | cons p L IH =>
    rw [mkT_cons]
    have IH' : (mkT n L).get undef i = lost ∨ ∃ v, (i, v) ∈ p :: L ∧ (mkT n L).get undef i = v := IH.imp id fun ⟨v, hm, hv⟩ => ⟨v, by simp [hm], hv⟩
    cases hb : Nat.blt p.1 n with
    | false => exact IH'
    | true =>
      change ((mkT n L).set undef p.2 p.1).get undef i = lost ∨ ∃ v, (i, v) ∈ p :: L ∧ ((mkT n L).set undef p.2 p.1).get undef i = v
      rw [T.get_set]
      by_cases h : p.1 = i
      · rw [if_pos h]; exact .inr ⟨p.2, by subst h; simp, rfl⟩
      · rw [if_neg h]; exact IH'
theorem mkT_out (n : Nat) (L : List (Nat × V)) (i : Nat) (hi : n ≤ i) : (mkT n L).get undef i = undef ∨ (mkT n L).get undef i = lost := by
  induction L with
  | nil => exact fullL_out (levels n) i
  | cons p L IH =>
    rw [mkT_cons]
    cases hb : Nat.blt p.1 n with
    | false => exact IH
    | true =>
      rw [Nat.blt_eq] at hb
      change ((mkT n L).set undef p.2 p.1).get undef i = undef ∨ ((mkT n L).set undef p.2 p.1).get undef i = lost
      rw [T.get_set, if_neg (by omega)]; exact IH
theorem keepV_mem {s : Fr} {ks : List Nat} {i : Nat} {v : V} (h : (i, v) ∈ keepV s ks) : v = s.at' i := by
  induction ks with
  | nil => cases h
  | cons k ks IH =>
    change (i, v) ∈ (k, s.at' k) :: keepV s ks at h
    rcases List.mem_cons.1 h with h | h
    · cases h; rfl
    · exact IH h
theorem Le.keep {s b : Fr} {ks : List Nat} {L : List (Nat × V)} (hk : keepV s ks = L) (h1 : b.fn = s.fn) (h2 : b.n = s.n) (h3 : b.marks = s.marks) (h4 : b.defers = s.defers) (h5 : b.round = s.round) (h6 : b.dk = s.dk) (h7 : b.did = s.did) : Le (b.on L) s := by
  refine ⟨h1.symm, h2.symm, h3.symm, h4.symm, h5.symm, h6.symm, h7.symm, fun i hi => ?_, fun i hi => mkT_out b.n L i (by rw [h2]; exact hi)⟩
  change (mkT b.n L).get undef i = lost ∨ (mkT b.n L).get undef i = s.at' i
  rcases mkT_get b.n L i (by rw [h2]; exact hi) with e | ⟨v, hv, e⟩
  · exact .inl e
  · subst hk
    have := keepV_mem hv
    subst this
    exact .inr e
theorem Le.on {b : Fr} {L L' : List (Nat × V)} (ks : List Nat) (hk : keepV (b.on L) ks = L') : Le (b.on L') (b.on L) := Le.keep (b := b) hk rfl rfl rfl rfl rfl rfl rfl
theorem Le.refl {b : Fr} {L : List (Nat × V)} : Le (b.on L) (b.on L) := ⟨rfl, rfl, rfl, rfl, rfl, rfl, rfl, fun _ _ => .inr rfl, fun i hi => mkT_out b.n L i hi⟩

/-- What all that is said here rests on: the calls that have a contract, the names. -/
structure Fine (P : Program) (E : Env) : Prop where
  prim : PrimOk P E
  names : NameOk P
/-- Rows from N on were laid since. -/
def Dom (N : Nat) (g : Gh) : Prop := ∀ r, N ≤ r → g.mu r = none ∧ g.vr r = none
theorem W.domain {B : Ns} {w0 w : World} {g : Gh} {h : Heap} (hW : W B w0 g h w) : Dom h.n g := fun r hr => by
  obtain ⟨h1, h2⟩ := hW.out r hr
  exact ⟨h1, by rw [hW.ver, h2]⟩

/-- A piece of code over a state of which a part is known: it ends in order, of which K holds, or otherwise, of which X holds. -/
def KX (K : Fr → Heap → Prop) (X : Ex → Fr → Heap → Prop) : Ex → Fr → Heap → Prop
  | .normal => K
  | e => X e
/-- From where the model stands it comes to such an end. -/
def Ends (P : Program) (K : Fr → Heap → Prop) (X : Ex → Fr → Heap → Prop) (B : Ns) (w0 : World) (g0 : Gh) (b : Frame) (k : List Item) (cs : List Frame) (m : Machine) : Prop :=
  ∃ e s h g a w, Grown B g0 g ∧ W B w0 g h w ∧ FrOk g b s a ∧ Arr P m b k cs g a w e ∧ KX K X e s h
def Wc (P : Program) (E : Env) (c : Code) (s : Fr) (h : Heap) (K : Fr → Heap → Prop) (X : Ex → Fr → Heap → Prop) (N : Nat) : Prop :=
  Fine P E → ∀ {B : Ns} {w0 : World} {g0 g : Gh} {w : World} (a : Act) (b : Frame) (k : List Item) (cs : List Frame), Dom N g0 → Grown B g0 g → W B w0 g h w → GlobOk E.glob g0.S → FrOk g b s a →
    Ends P K X B w0 g0 b k cs (lone (b.atR a (.code c :: k)) cs w)
/-- What is left of a region's operations. -/
def Wl (P : Program) (E : Env) (all l : List Oper) (s : Fr) (h : Heap) (K : Fr → Heap → Prop) (X : Ex → Fr → Heap → Prop) (N : Nat) : Prop :=
  Fine P E → ∀ {B : Ns} {w0 : World} {g0 g : Gh} {w : World} (a : Act) (b : Frame) (k : List Item) (cs : List Frame) (ops : Array Oper) (i : Nat), ops.toList = all → all.drop i = l → Dom N g0 → Grown B g0 g → W B w0 g h w → GlobOk E.glob g0.S → FrOk g b s a →
    Ends P K X B w0 g0 b k cs (lone (b.atR a (.inRegion ops (List.range' i l.length) :: k)) cs w)

variable {K : Fr → Heap → Prop} {X : Ex → Fr → Heap → Prop} {N : Nat}

section ends
variable {B : Ns} {w0 : World} {g0 : Gh} {b : Frame} {k : List Item} {cs : List Frame} {m m' : Machine}
theorem Ends.steps (hs : Steps P m m') (h : Ends P K X B w0 g0 b k cs m') : Ends P K X B w0 g0 b k cs m := by
  obtain ⟨e, s, h, g, a, w, h1, h2, h3, h4, h5⟩ := h
  exact ⟨e, s, h, g, a, w, h1, h2, h3, .of_steps hs h4, h5⟩
theorem Ends.grow {g1 : Gh} (hg : Grown B g0 g1) (h : Ends P K X B w0 g1 b k cs m) : Ends P K X B w0 g0 b k cs m := by
  obtain ⟨e, s, h, g, a, w, h1, h2, h3, h4, h5⟩ := h
  exact ⟨e, s, h, g, a, w, hg.trans h1, h2, h3, h4, h5⟩
theorem Ends.mono {K' : Fr → Heap → Prop} {X' : Ex → Fr → Heap → Prop} (h : Ends P K X B w0 g0 b k cs m) (h1 : ∀ s h, K s h → K' s h) (h2 : ∀ e s h, X e s h → X' e s h) : Ends P K' X' B w0 g0 b k cs m := by
  obtain ⟨e, s, h, g, a, w, q1, q2, q3, q4, q5⟩ := h
  refine ⟨e, s, h, g, a, w, q1, q2, q3, q4, ?_⟩
  cases e with
  | normal => exact h1 _ _ q5
  | _ => exact h2 _ _ _ q5
/-- What stood below is come to, or is passed by. -/
theorem Ends.pass {K' : Fr → Heap → Prop} {x : Item} (hx : ∀ id, exitTo id (x :: k) = exitTo id k) (h : Ends P K' X B w0 g0 b (x :: k) cs m)
    (hn : ∀ s h g a w, Grown B g0 g → W B w0 g h w → FrOk g b s a → K' s h → Ends P K X B w0 g0 b k cs (lone (b.atR a (x :: k)) cs w)) : Ends P K X B w0 g0 b k cs m := by
  obtain ⟨e, s, h, g, a, w, h1, h2, h3, h4, h5⟩ := h
  cases e with
  | normal => exact .steps h4 (hn s h g a w h1 h2 h3 h5)
  | exit id => obtain ⟨todo, p, q⟩ := h4; exact ⟨.exit id, s, h, g, a, w, h1, h2, h3, ⟨todo, p.trans (hx id), q⟩, h5⟩
  | goto l => exact h4.elim
  | ret => exact ⟨.ret, s, h, g, a, w, h1, h2, h3, h4, h5⟩
  | panic y => exact ⟨.panic y, s, h, g, a, w, h1, h2, h3, h4, h5⟩
end ends

noncomputable def knownO (s : Fr) : Operand → Bool
  | .tmp t => Nat.blt t s.n && !(isLost (s.at' t))
  | _ => true

def topOf (m : Machine) : Option Frame := (m.gs[0]?).map fun g => g.frame
theorem topOf_lone (fr : Frame) (cs : List Frame) (w : World) : topOf (lone fr cs w) = some fr := rfl
/-- Two machines that do the same next come to the same. -/
theorem Steps.same {m m' m1 t : Machine} (h : Go.step P m = .next m1) (h' : Go.step P m' = .next m1) (hne : m ≠ t) (hs : Steps P m t) : Steps P m' t := by
  obtain ⟨n, hn⟩ := hs
  cases n with
  | zero => simp [runN] at hn; exact absurd hn hne
  | succ n =>
    simp only [runN, h] at hn
    exact .head h' ⟨n, hn⟩
theorem arr_same {b : Frame} {a0 a : Act} {k : List Item} {cs : List Frame} {g : Gh} {w0 w : World} {m' m1 : Machine} {c : Code} {e : Ex} (h : Go.step P (lone (b.atR a0 (.code (.loop c) :: k)) cs w0) = .next m1) (h' : Go.step P m' = .next m1) (hA : Arr P (lone (b.atR a0 (.code (.loop c) :: k)) cs w0) b k cs g a w e) : Arr P m' b k cs g a w e := by
  have ne : ∀ (fr : Frame) cs' w', (fr.todo = k ∨ (∃ id todo, fr.todo = .code (.exit id) :: todo) ∨ (∃ todo, fr.todo = .code .ret :: todo) ∨ fr.mode ≠ .run) → lone (b.atR a0 (.code (.loop c) :: k)) cs w0 ≠ lone fr cs' w' := by
    intro fr cs' w' hq e
    have e := congrArg topOf e
    rw [topOf_lone, topOf_lone] at e
    have e := Option.some.inj e
    subst e
    rcases hq with q | ⟨_, _, q⟩ | ⟨_, q⟩ | q
    · have := congrArg List.length q
      simp [Frame.atR] at this
    · simp [Frame.atR] at q
    · simp [Frame.atR] at q
    · exact q rfl
  cases e with
  | normal => exact Steps.same h h' (ne _ _ _ (.inl rfl)) hA
  | exit id => obtain ⟨todo, p, q⟩ := hA; exact ⟨todo, p, Steps.same h h' (ne _ _ _ (.inr (.inl ⟨_, _, rfl⟩))) q⟩
  | goto l => exact hA.elim
  | ret => obtain ⟨todo, q⟩ := hA; exact ⟨todo, Steps.same h h' (ne _ _ _ (.inr (.inr (.inl ⟨_, rfl⟩)))) q⟩
  | panic y => obtain ⟨v, todo, p, q⟩ := hA; exact ⟨v, todo, p, Steps.same h h' (ne _ _ _ (.inr (.inr (.inr (by simp))))) q⟩

theorem Wc.weak {c : Code} {s s' : Fr} {h : Heap} (hl : Le s' s) (hw : Wc P E c s' h K X N) : Wc P E c s h K X N := fun hF _ _ _ _ _ a b k cs hD hg hW hG hf => hw hF a b k cs hD hg hW hG (hl.ok hf)
theorem Wc.mono {c : Code} {s : Fr} {h : Heap} {K' : Fr → Heap → Prop} {X' : Ex → Fr → Heap → Prop} (hw : Wc P E c s h K X N) (h1 : ∀ s h, K s h → K' s h) (h2 : ∀ e s h, X e s h → X' e s h) : Wc P E c s h K' X' N :=
  fun hF _ _ _ _ _ a b k cs hD hg hW hG hf => (hw hF a b k cs hD hg hW hG hf).mono h1 h2
theorem Wc.seq {a b : Code} {s : Fr} {h : Heap} (ha : Wc P E a s h (fun s1 h1 => Wc P E b s1 h1 K X N) X N) : Wc P E (.seq a b) s h K X N :=
  fun hF _ _ _ _ _ ac fr k cs hD hg hW hG hf => .steps (.one stepR_seq) (.pass (fun _ => rfl) (ha hF ac fr (.code b :: k) cs hD hg hW hG hf) fun _ _ _ a' _ q1 q2 q3 q4 => q4 hF a' fr k cs hD q1 q2 hG q3)
theorem Wc.skip {s : Fr} {h : Heap} (hq : K s h) : Wc P E .skip s h K X N := fun _ _ _ _ g w a _ _ _ _ hg hW _ hf => ⟨.normal, s, h, g, a, w, hg, hW, hf, .one stepR_skip, hq⟩
theorem Wc.label {l : Nat} {s : Fr} {h : Heap} (hq : K s h) : Wc P E (.label l) s h K X N := fun _ _ _ _ g w a _ _ _ _ hg hW _ hf => ⟨.normal, s, h, g, a, w, hg, hW, hf, .one stepR_label, hq⟩
theorem Wc.ret {s : Fr} {h : Heap} (hq : X .ret s h) : Wc P E .ret s h K X N := fun _ _ _ _ g w a _ k _ _ hg hW _ hf => ⟨.ret, s, h, g, a, w, hg, hW, hf, ⟨k, Steps.refl _ _⟩, hq⟩
theorem Wc.exit {id : Nat} {s : Fr} {h : Heap} (hq : X (.exit id) s h) : Wc P E (.exit id) s h K X N := fun _ _ _ _ g w a _ k _ _ hg hW _ hf => ⟨.exit id, s, h, g, a, w, hg, hW, hf, ⟨k, rfl, Steps.refl _ _⟩, hq⟩
theorem Wc.scope {b : Code} {s : Fr} {h : Heap} (hb : Wc P E b s h K X N) : Wc P E (.scope b) s h K X N :=
  fun hF _ _ _ _ _ ac fr k cs hD hg hW hG hf => .steps (.one stepR_scope) (.pass (x := .inScope b) (fun _ => rfl) (hb hF ac fr (.inScope b :: k) cs hD hg hW hG hf) fun s1 h1 g1 a1 w1 q1 q2 q3 q4 => ⟨.normal, s1, h1, g1, a1, w1, q1, q2, q3, .one stepR_inScope, q4⟩)
theorem Wc.cond {c : Operand} {a b : Code} {s : Fr} {h : Heap} (t : Bool) (_hk : knownO s c = true) (hc : ev E.glob s.tm c = some (.bool t)) (h1 : t = true → Wc P E a s h K X N) (h2 : t = false → Wc P E b s h K X N) : Wc P E (.cond c a b) s h K X N := by
  intro hF _ _ _ _ _ ac fr k cs hD hg hW hG hf
  have hv := (ev_sound hf.slots (hG.mono hg.ext.S) hc).bool_inv
  refine .steps (.one (stepR_cond hv)) ?_
  cases t with
  | true => exact h1 rfl hF ac fr k cs hD hg hW hG hf
  | false => exact h2 rfl hF ac fr k cs hD hg hW hG hf
/-- A condition that says whether something is so. -/
theorem Wc.condP {c : Operand} {a b : Code} {s : Fr} {h : Heap} {p : Prop} [Decidable p] (hk : knownO s c = true) (hc : ev E.glob s.tm c = some (.bool (decide p))) (h1 : p → Wc P E a s h K X N) (h2 : ¬ p → Wc P E b s h K X N) : Wc P E (.cond c a b) s h K X N :=
  Wc.cond (decide p) hk hc (fun h => h1 (of_decide_eq_true h)) (fun h => h2 (of_decide_eq_false h))
theorem Wc.condN {c : Operand} {a b : Code} {s : Fr} {h : Heap} {p : Prop} [Decidable p] (hk : knownO s c = true) (hc : ev E.glob s.tm c = some (.bool (!decide p))) (h1 : ¬ p → Wc P E a s h K X N) (h2 : p → Wc P E b s h K X N) : Wc P E (.cond c a b) s h K X N :=
  Wc.cond (!decide p) hk hc (fun h => h1 (by simpa using h)) (fun h => h2 (by simpa using h))
theorem Wc.condT {c : Operand} {a b : Code} {s : Fr} {h : Heap} (hk : knownO s c = true) (hc : ev E.glob s.tm c = some (.bool true)) (h1 : Wc P E a s h K X N) : Wc P E (.cond c a b) s h K X N := Wc.cond true hk hc (fun _ => h1) (fun h => by cases h)
theorem Wc.condF {c : Operand} {a b : Code} {s : Fr} {h : Heap} (hk : knownO s c = true) (hc : ev E.glob s.tm c = some (.bool false)) (h1 : Wc P E b s h K X N) : Wc P E (.cond c a b) s h K X N := Wc.cond false hk hc (fun h => by cases h) (fun _ => h1)

/-- The ends of a block. -/
def blockX (id : Nat) (K : Fr → Heap → Prop) (X : Ex → Fr → Heap → Prop) : Ex → Fr → Heap → Prop
  | .exit id' => bif Nat.beq id' id then K else X (.exit id')
  | e => X e
theorem Wc.block {id : Nat} {b : Code} {s : Fr} {h : Heap} (hb : Wc P E b s h K (blockX id K X) N) : Wc P E (.block id b) s h K X N := by
  intro hF _ _ _ _ _ ac fr k cs hD hg hW hG hf
  refine .steps (.one stepR_block) ?_
  obtain ⟨e, s, h, g, a, w, h1, h2, h3, h4, h5⟩ := hb hF ac fr (.inBlock id :: k) cs hD hg hW hG hf
  cases e with
  | normal => exact ⟨.normal, s, h, g, a, w, h1, h2, h3, Steps.trans h4 (.one stepR_inBlock), h5⟩
  | exit id' =>
    obtain ⟨todo, p, q⟩ := h4
    change (bif Nat.beq id' id then K else X (.exit id')) s h at h5
    cases hb : Nat.beq id' id with
    | true =>
      rw [hb] at h5
      rw [Nat.beq_eq] at hb; subst hb
      have h3' : exitTo id' todo = some k := by rw [p]; simp [exitTo]
      exact ⟨.normal, s, h, g, a, w, h1, h2, h3, q.trans (.one (stepR_exit h3')), h5⟩
    | false =>
      rw [hb] at h5
      have hne : (id == id') = false := by
        simp only [beq_eq_false_iff_ne, ne_eq]
        intro e; subst e; simp at hb
      exact ⟨.exit id', s, h, g, a, w, h1, h2, h3, ⟨todo, by rw [p]; simp [exitTo, hne], q⟩, h5⟩
  | goto l => exact h4.elim
  | ret => exact ⟨.ret, s, h, g, a, w, h1, h2, h3, h4, h5⟩
  | panic y => exact ⟨.panic y, s, h, g, a, w, h1, h2, h3, h4, h5⟩
theorem blockX.here {id : Nat} {s : Fr} {h : Heap} (hq : K s h) : blockX id K X (.exit id) s h := by
  change (bif Nat.beq id id then K else X (.exit id)) s h
  rw [Nat.beq_refl]; exact hq
theorem blockX.out {id id' : Nat} {s : Fr} {h : Heap} (hi : Nat.beq id' id = false) (hq : X (.exit id') s h) : blockX id K X (.exit id') s h := by
  change (bif Nat.beq id' id then K else X (.exit id')) s h
  rw [hi]; exact hq
theorem blockX.ret {id : Nat} {s : Fr} {h : Heap} (hq : X .ret s h) : blockX id K X .ret s h := hq

/-- A loop: a family of states, what holds of them, a number that falls. -/
theorem Wc.loop {α : Type} {b : Code} {s : Fr} {h : Heap} (S : α → Fr) (H : α → Heap) (I : α → Prop) (μ : α → Nat) (a0 : α) (hs0 : Le (S a0) s) (hh0 : h = H a0) (hI0 : I a0)
    (hb : ∀ a, I a → Wc P E b (S a) (H a) (fun s h => ∃ a', Le (S a') s ∧ h = H a' ∧ I a' ∧ μ a' < μ a) X N) : Wc P E (.loop b) s h K X N := by
  intro hF B w0 g0 g w ac fr k cs hD hg hW hG hf
  refine .steps (.one stepR_loop) ?_
  have key : ∀ (n : Nat) (x : α), μ x = n → I x → ∀ {g : Gh} {w : World} (ac : Act), Grown B g0 g → W B w0 g (H x) w → FrOk g fr (S x) ac → Ends P K X B w0 g0 fr k cs (lone (fr.atR ac (.code b :: .inLoop b :: k)) cs w) := by
    intro n
    induction n using Nat.strongRecOn with
    | _ n IH =>
      intro x hx hI g w ac hg hW hf
      refine .pass (x := .inLoop b) (fun _ => rfl) (hb x hI hF ac fr (.inLoop b :: k) cs hD hg hW hG hf) fun s1 h1 g1 a1 w1 q1 q2 q3 q4 => ?_
      obtain ⟨x', hl, rfl, hI', hm⟩ := q4
      exact .steps (.one stepR_inLoop) (IH (μ x') (by omega) x' rfl hI' a1 q1 q2 (hl.ok q3))
  subst hh0
  exact key _ a0 rfl hI0 ac hg hW (hs0.ok hf)
/-- A loop's round, and the loop again. -/
theorem Wc.unroll {b : Code} {s : Fr} {h : Heap} (hb : Wc P E b s h (fun s h => Wc P E (.loop b) s h K X N) X N) : Wc P E (.loop b) s h K X N := by
  intro hF B w0 g0 g w ac fr k cs hD hg hW hG hf
  refine .steps (.one stepR_loop) (.pass (x := .inLoop b) (fun _ => rfl) (hb hF ac fr (.inLoop b :: k) cs hD hg hW hG hf) fun s1 h1 g1 a1 w1 q1 q2 q3 q4 => ?_)
  obtain ⟨e, s, h, g, a, w, r1, r2, r3, r4, r5⟩ := q4 hF a1 fr k cs hD q1 q2 hG q3
  refine ⟨e, s, h, g, a, w, r1, r2, r3, ?_, r5⟩
  exact arr_same (stepR_loop (P := P)) (stepR_inLoop (P := P)) r4

theorem Wc.region {id : Nat} {ops : Array Oper} {s : Fr} {h : Heap} (ho : Wl P E ops.toList ops.toList s h K X N) : Wc P E (.region id ops false) s h K X N := by
  intro hF B w0 g0 g w ac fr k cs hD hg hW hG hf
  refine .steps (.one stepR_region) ?_
  have := ho hF ac fr k cs ops 0 rfl (by simp) hD hg hW hG hf
  rw [Array.length_toList, ← List.range_eq_range'] at this
  exact this

/-- What a region's operation came to is laid down. -/
theorem Wl.nil {all : List Oper} {s : Fr} {h : Heap} (hq : K s h) : Wl P E all [] s h K X N := fun _ _ _ _ g w a _ _ _ _ _ _ _ _ hg hW _ hf => ⟨.normal, s, h, g, a, w, hg, hW, hf, .one stepR_region_end, hq⟩
theorem Wl.weak {all l : List Oper} {s s' : Fr} {h : Heap} (hl : Le s' s) (hw : Wl P E all l s' h K X N) : Wl P E all l s h K X N := fun hF _ _ _ _ _ a b k cs ops i h1 h2 hD hg hW hG hf => hw hF a b k cs ops i h1 h2 hD hg hW hG (hl.ok hf)

theorem ops_at {ops : Array Oper} {all l : List Oper} {o : Oper} {i : Nat} (h1 : ops.toList = all) (h2 : all.drop i = o :: l) : ops[i]? = some o ∧ all.drop (i + 1) = l := by
  subst h1
  have : (ops.toList.drop i)[0]? = some o := by rw [h2]; rfl
  rw [List.getElem?_drop] at this
  exact ⟨by simpa using this, by rw [← List.drop_drop, h2]; rfl⟩

/-- An operation that is carried out. -/
theorem sem_known {g : Gh} {b : Frame} {fr : Fr} {a : Act} (hf : FrOk g b fr a) {o : Oper} (hd : (∃ c, o.op = .defer c) → fr.round = none) : o.semAt b.roundOf a.eval = execOp a.eval o := by
  by_cases hro : fr.round = none
  · have hb : b.roundOf = none := by have := hf.round; rw [hro] at this; exact this
    rw [hb, Oper.semAt_none]
  · exact Oper.semAt_eq _ _ _ (fun c e => hro (hd ⟨c, e⟩))
theorem not_defer {lit : Bool} {G : Nat → Option V} {tm : T V} {h : Heap} {o : Oper} {r : Rs} (ho : operE lit P G tm h o = r) (hr : ∀ f args h, r ≠ .defer f args h) (hs : r ≠ .stuck) : ¬ ∃ c, o.op = .defer c := by
  rintro ⟨c, hc⟩
  rw [operE_defer hc] at ho
  rcases oDefer_rs G tm h c with e | ⟨f, args, e⟩
  · rw [e] at ho; exact hs ho.symm
  · rw [e] at ho; exact hr _ _ _ ho.symm
theorem Wl.val {all l : List Oper} {o : Oper} {s s1 : Fr} {h h1 : Heap} (v : V) (hw : wanted all s o = some true) (ho : operE (E.lit s.fn) P E.glob s.tm h o = .val v h1) (hp : s.put o.dst v = some s1) (hr : Wl P E all l s1 h1 K X N) : Wl P E all (o :: l) s h K X N := by
  intro hF B w0 g0 g w a b k cs ops i e1 e2 hD hg hW hG hf
  obtain ⟨ho', hl'⟩ := ops_at e1 e2
  subst e1
  have hgood := operE_good (P := P) (E.lit s.fn) hW hf.slots (hG.mono hg.ext.S) o
  have hsem := sem_known hf (o := o) (fun hd => absurd hd (not_defer ho (by simp) (by simp)))
  rw [ho, ← hsem] at hgood
  obtain ⟨u, w', g', e, hg', hW', hR⟩ := hgood
  rw [List.length_cons, List.range'_succ]
  exact .steps (.one (apply_value ho' (wanted_sound hf hw) e)) (hr hF _ b k cs ops (i + 1) rfl hl' hD (hg.trans hg') hW' hG ((hf.mono hg'.ext).put hR hp))
theorem Wl.store {all l : List Oper} {o : Oper} {s s1 : Fr} {h h1 : Heap} (hw : wanted all s o = some true) (ho : operE (E.lit s.fn) P E.glob s.tm h o = .skip h1) (hp : s.put o.dst undef = some s1) (hr : Wl P E all l s1 h1 K X N) : Wl P E all (o :: l) s h K X N := by
  intro hF B w0 g0 g w a b k cs ops i e1 e2 hD hg hW hG hf
  obtain ⟨ho', hl'⟩ := ops_at e1 e2
  subst e1
  have hgood := operE_good (P := P) (E.lit s.fn) hW hf.slots (hG.mono hg.ext.S) o
  have hsem := sem_known hf (o := o) (fun hd => absurd hd (not_defer ho (by simp) (by simp)))
  rw [ho, ← hsem] at hgood
  obtain ⟨w', g', e, hg', hW'⟩ := hgood
  rw [List.length_cons, List.range'_succ]
  exact .steps (.one (apply_skip ho' (wanted_sound hf hw) e)) (hr hF _ b k cs ops (i + 1) rfl hl' hD (hg.trans hg') hW' hG ((hf.mono hg'.ext).put R.undef hp))
theorem Wl.not {all l : List Oper} {o : Oper} {s s1 : Fr} {h : Heap} (hw : wanted all s o = some false) (hp : s.put o.dst undef = some s1) (hr : Wl P E all l s1 h K X N) : Wl P E all (o :: l) s h K X N := by
  intro hF B w0 g0 g w a b k cs ops i e1 e2 hD hg hW hG hf
  obtain ⟨ho', hl'⟩ := ops_at e1 e2
  subst e1
  have hwf := wanted_sound hf hw
  have hs := stepR_op_skip (P := P) (b := b) (a := a) (k := k) (cs := cs) (w := w) (ops := ops) (i := i) (rest := List.range' (i + 1) l.length) (by simp [ho']; simpa using hwf)
  simp only [ho', Option.bind_some] at hs
  rw [List.length_cons, List.range'_succ]
  exact .steps (.one hs) (hr hF _ b k cs ops (i + 1) rfl hl' hD hg hW hG (hf.put R.undef hp))

/-- What a call comes to. -/
def Cx (P : Program) (E : Env) (f : FuncId) (args : List V) (h : Heap) (R' : V → Heap → Prop) : Prop :=
  Fine P E → ∀ {B : Ns} {w0 : World} {g : Gh} {w : World} (cs : List Frame) (us : Array Value), W B w0 g h w → GlobOk E.glob g.S → Rs' g us args → ∃ v h', R' v h' ∧ CallOk P B w0 g cs f us w (.ret v h')
def Came (P : Program) (E : Env) (f : FuncId) (args : List V) (h : Heap) (v : V) (h' : Heap) : Prop :=
  Fine P E → ∀ {B : Ns} {w0 : World} {g : Gh} {w : World} (cs : List Frame) (us : Array Value), W B w0 g h w → GlobOk E.glob g.S → Rs' g us args → CallOk P B w0 g cs f us w (.ret v h')
theorem Wl.cameX {all l : List Oper} {o : Oper} {s : Fr} {h h1 : Heap} {f : FuncId} {args : List V} (hw : wanted all s o = some true) (ho : operE (E.lit s.fn) P E.glob s.tm h o = .call f args h1)
    (hc : Cx P E f args h1 (fun v h2 => ∃ s1, s.put o.dst v = some s1 ∧ Wl P E all l s1 h2 K X N)) : Wl P E all (o :: l) s h K X N := by
  intro hF B w0 g0 g w a b k cs ops i e1 e2 hD hg hW hG hf
  obtain ⟨ho', hl'⟩ := ops_at e1 e2
  subst e1
  have hgood := operE_good (P := P) (E.lit s.fn) hW hf.slots (hG.mono hg.ext.S) o
  have hsem := sem_known hf (o := o) (fun hd => absurd hd (not_defer ho (by simp) (by simp)))
  rw [ho, ← hsem] at hgood
  obtain ⟨us, w1, g1, e, hg1, hW1, hs⟩ := hgood
  rw [List.length_cons, List.range'_succ]
  obtain ⟨v, h2, ⟨s1, hp, hr⟩, g', w', u, hg', hW', hR, hret⟩ := hc hF (b.atR a (.inRegion ops (i :: List.range' (i + 1) l.length) :: k) :: cs) us hW1 (hG.mono (hg.trans hg1).ext.S) hs
  have hgg := hg1.trans hg'
  refine .steps ?_ (hr hF (a.put o.dst u) b k cs ops (i + 1) rfl hl' hD (hg.trans hgg) hW' hG ((hf.mono hgg.ext).put hR hp))
  have hfin : (b.atR a (.inRegion ops (i :: List.range' (i + 1) l.length) :: k)).finish u = b.atR (a.put o.dst u) (.inRegion ops (List.range' (i + 1) l.length) :: k) := by rw [Frame.finish_atR, ho']; rfl
  have hwf := wanted_sound hf hw
  rcases hret with hv | ⟨he, frx, s1, _, s2⟩
  · exact .one (apply_value ho' hwf (e.trans hv))
  · refine .head (apply_enter ho' hwf (e.trans he)) (s1.trans (.one ?_))
    rw [← hfin]; exact step_leave_returned s2
theorem Came.x {f : FuncId} {args : List V} {h : Heap} {v : V} {h' : Heap} {R' : V → Heap → Prop} (hc : Came P E f args h v h') (hR : R' v h') : Cx P E f args h R' := fun hF _ _ _ _ cs us hW hG hs => ⟨v, h', hR, hc hF cs us hW hG hs⟩
theorem Wl.came {all l : List Oper} {o : Oper} {s s1 : Fr} {h h1 h2 : Heap} {f : FuncId} {args : List V} {v : V} (hw : wanted all s o = some true) (ho : operE (E.lit s.fn) P E.glob s.tm h o = .call f args h1) (hc : Came P E f args h1 v h2) (hp : s.put o.dst v = some s1) (hr : Wl P E all l s1 h2 K X N) : Wl P E all (o :: l) s h K X N :=
  Wl.cameX hw ho (hc.x ⟨s1, hp, hr⟩)

/-- A call of pure data gives pure data. -/
def Cp (P : Program) (E : Env) (f : FuncId) (gs : List V) (g : V) : Prop := Fine P E → PureOk P E.glob f gs g
theorem Cp.came {f : FuncId} {args gs : List V} {h h1 h2 : Heap} {g v' : V} (_hs : E.shared f = false) (ha : pubL (pub [] depth) args h = some (gs, h1)) (_hn : E.prim f gs = none) (hc : Cp P E f gs g) (ht : give E f (Bool.rec h1 h (E.borrow f)) g = some (v', h2)) : Came P E f args h v' h2 := by
  intro hF B w0 gh w cs us hW hG hs
  have := PureOk.given hW hG cs hs ha (hc hF)
  unfold giveR at this
  rw [ht] at this
  exact this
theorem prim_came {f : FuncId} {args gs : List V} {h h1 h2 : Heap} {v v' : V} (_hs : E.shared f = false) (ha : pubL (pub [] depth) args h = some (gs, h1)) (hp : E.prim f gs = some v) (ht : give E f (Bool.rec h1 h (E.borrow f)) v = some (v', h2)) : Came P E f args h v' h2 := by
  intro hF B w0 gh w cs us hW hG hs
  have := PureOk.given hW hG cs hs ha (hF.prim f gs v hp)
  unfold giveR at this
  rw [ht] at this
  exact this
/-- A call that shares its caller's heap. -/
def Cs (P : Program) (E : Env) (f : FuncId) (args : List V) (h : Heap) (v : V) (h' : Heap) : Prop := Came P E f args h v h'
theorem Cs.came {f : FuncId} {args : List V} {h h' : Heap} {v : V} (_hs : E.shared f = true) (_hp : E.pubRet f = false) (hc : Cs P E f args h v h') : Came P E f args h v h' := hc
theorem Cs.cameP {f : FuncId} {args : List V} {h h' h2 : Heap} {v v' : V} (_hs : E.shared f = true) (_hp : E.pubRet f = true) (hc : Cs P E f args h v h') (hv : pub [] depth h' v = some (v', h2)) : Came P E f args h v' h2 := by
  intro hF B w0 gh w cs us hW hG hs
  obtain ⟨g', w', u, hg, hW', hR, hret⟩ := hc hF cs us hW hG hs
  obtain ⟨S, k, q, _⟩ := pub_sound [] depth hW' hR hv
  exact ⟨_, w', u, hg.trans k.grown, k.world, .gnd q, hret⟩

/-- A function's body, from its beginning. -/
noncomputable def argL (args : List V) : Nat → List (Nat × V) := List.rec (motive := fun _ => Nat → List (Nat × V)) (fun _ => []) (fun v _ ih i => (i, v) :: ih (Nat.succ i)) args
noncomputable def argS (f n : Nat) (args : List V) : Fr := (base f n).on (argL args 0)

theorem mem_argL {args : List V} : ∀ {i k : Nat} {v : V}, (i, v) ∈ argL args k → k ≤ i ∧ args[i - k]? = some v := by
  induction args with
  | nil => intro i k v h; cases h
  | cons x args IH =>
    intro i k v h
    change (i, v) ∈ (k, x) :: argL args (Nat.succ k) at h
    rcases List.mem_cons.1 h with h | h
    · cases h; exact ⟨Nat.le_refl _, by simp⟩
    · obtain ⟨h1, h2⟩ := IH h
      refine ⟨by omega, ?_⟩
      obtain ⟨j, rfl⟩ : ∃ j, i = k + 1 + j := ⟨i - (k + 1), by omega⟩
      rw [show k + 1 + j - k = j + 1 by omega]
      rw [show k + 1 + j - Nat.succ k = j by omega] at h2
      simpa using h2
theorem le_args (f n : Nat) (args : List V) : Le (argS f n args) ⟨f, n, args0 args 0 (full (levels n)), [], [], none, none, false⟩ := by
  refine ⟨rfl, rfl, rfl, rfl, rfl, rfl, rfl, fun i hi => ?_, fun i hi => mkT_out n (argL args 0) i hi⟩
  change (mkT n (argL args 0)).get undef i = lost ∨ (mkT n (argL args 0)).get undef i = (args0 args 0 (full (levels n))).get undef i
  rcases mkT_get n (argL args 0) i hi with e | ⟨v, hv, e⟩
  · exact .inl e
  · right
    rw [e]
    obtain ⟨_, h2⟩ := mem_argL hv
    rw [Nat.sub_zero] at h2
    have hi' : i < args.length := by
      rcases Nat.lt_or_ge i args.length with h | h
      · exact h
      · rw [List.getElem?_eq_none h] at h2; cases h2
    rw [args0_get, if_pos ⟨Nat.zero_le _, by omega⟩, Nat.sub_zero, List.getD_eq_getElem?_getD, h2]; rfl

/-- A result that is known. -/
noncomputable def resultsS (P : Program) (fn : Func) (s : Fr) (h : Heap) : Option V := results P fn s h

/-- A body that ends with a result. -/
def retX (P : Program) (fn : Func) (R : V → Heap → Prop) (s : Fr) (h : Heap) : Prop := s.defers = [] ∧ ∃ h1, killMarks s.marks h = some h1 ∧ ∃ v, resultsS P fn s h1 = some v ∧ R v h1
def bodyX (P : Program) (fn : Func) (R : V → Heap → Prop) : Ex → Fr → Heap → Prop
  | .ret => retX P fn R
  | _ => fun _ _ => False
theorem Ev.body {f : FuncId} {fn : Func} {body : Code} {args : List V} {h : Heap} {R' : V → Heap → Prop} (hf : P.funcs[f]? = some fn) (hb : fn.body = some body) (hl : Nat.ble (List.len args) fn.ntmps = true)
    (hw : Wc P E body (argS f fn.ntmps args) h (retX P fn R') (bodyX P fn R') h.n) : Cx P E f args h R' := by
  intro hF B w0 g w cs us hW hG hs
  rw [Nat.ble_eq, List.len_eq] at hl
  have hcall := run_callFunc hF.names (us := us) (w := w) hf hb
  let b : Frame := { (default : Frame) with fn := f, kind := .normal, roundOf := none }
  let a : Act := { tmps := us ++ Array.replicate (fn.ntmps - us.size) Go.undef, defers := [] }
  have henter : Frame.enter P f us .normal = b.atR a [.code body] := by simp [Frame.enter, Frame.atR, hf, hb, b, a]
  have hfr : FrOk g b ⟨f, fn.ntmps, args0 args 0 (full (levels fn.ntmps)), [], [], none, none, false⟩ a := ⟨rfl, enter_slots hs hl, rfl, DefsOk.nil g⟩
  obtain ⟨e, s, h', g', a', w', hg, hW', hf', hA, hq⟩ := hw hF a b [] cs hW.domain (Grown.refl _ _) hW hG ((le_args f fn.ntmps args).ok hfr)
  rw [← henter] at hA
  have hq' : (e = .ret ∨ e = .normal) ∧ retX P fn R' s h' := by
    cases e with
    | normal => exact ⟨.inr rfl, hq⟩
    | ret => exact ⟨.inl rfl, hq⟩
    | _ => exact absurd hq id
  obtain ⟨he, hd, h1, hm, v, hv, hR⟩ := hq'
  have hend : endBody P (run P E 0) f fn s none h' = .ret v h1 := by
    unfold endBody
    rw [hm, hd]
    change endWith P f fn s none h1 = _
    unfold endWith
    change (match resultsS P fn s h1 with | some y => Res.ret y h1 | .none => _) = _
    rw [hv]
  have hst : ∃ todo, Steps P (lone (Frame.enter P f us .normal) cs w) (lone { b.atR a' todo with mode := .returning } cs w') := by
    rcases he with rfl | rfl
    · obtain ⟨todo, hs'⟩ := hA
      exact ⟨_, hs'.trans (.one (stepR_ret rfl))⟩
    · exact ⟨_, Steps.trans hA (.one (stepR_end rfl))⟩
  obtain ⟨todo, hst⟩ := hst
  refine ⟨v, h1, hR, ?_⟩
  rw [← hend]
  exact endBody_ok (run_snd hF.names hF.prim 0) hf hcall rfl rfl (FrOk.weak hf') (p := none) (mode := .returning) rfl hg hW' (hG.mono hg.ext.S) hst
theorem Cx.pure {f : FuncId} {gs : List V} {g : V} (hc : Cx P E f gs Heap.empty (fun v h => retAll h v = some g)) : Cp P E f gs g := by
  intro hF S w cs us hs hG hus
  obtain ⟨v, h', hr, g', w', u, hg, hW, hR, hret⟩ := hc hF cs us (W.start hs) hG hus
  obtain ⟨S', h2, bs, hg', hW', hA, hn, hb⟩ := retAll_sound hW hR hr
  have hgg := hg.trans hg'
  exact ⟨S', w', u, bs, hgg.ext.S, fun b o v hb e => hgg.keep b o v hb e, hW'.shut, hW'.low.below, hA, hn, fun b q => ⟨Nat.not_lt.1 (hb b q).1, (hb b q).2⟩, hret⟩
theorem Cp.body {f : FuncId} {fn : Func} {body : Code} {gs : List V} {g : V} (hf : P.funcs[f]? = some fn) (hb : fn.body = some body) (hl : Nat.ble (List.len gs) fn.ntmps = true)
    (hw : Wc P E body (argS f fn.ntmps gs) Heap.empty (retX P fn fun v h => retAll h v = some g) (bodyX P fn fun v h => retAll h v = some g) 0) : Cp P E f gs g := (Ev.body hf hb hl hw).pure
theorem Cs.body {f : FuncId} {fn : Func} {body : Code} {args : List V} {h h' : Heap} {v : V} (hf : P.funcs[f]? = some fn) (hb : fn.body = some body) (hl : Nat.ble (List.len args) fn.ntmps = true)
    (hw : Wc P E body (argS f fn.ntmps args) h (retX P fn fun v1 h1 => v1 = v ∧ h1 = h') (bodyX P fn fun v1 h1 => v1 = v ∧ h1 = h') h.n) : Cs P E f args h v h' := by
  intro hF B w0 g w cs us hW hG hs
  obtain ⟨v1, h1, ⟨rfl, rfl⟩, hc⟩ := Ev.body hf hb hl hw hF cs us hW hG hs
  exact hc

end Go.AM

/-
  OPERATIONS OVER UNKNOWN DATA: what they come to, and what they ask for; a region's operations, run.
-/
namespace Go.AM
open Go.RowKit

variable {P : Program} {E : Env}

/-- What an operation comes to, if what it asks for is so. -/
inductive So where
  | val (v : V) (h : Heap)
  | obl (v : V) (h : Heap) (φ : Prop)
  | skip (h : Heap)
  | no

def So.ok (r : Rs) : So → Prop
  | .val v h => r = .val v h
  | .obl v h φ => φ → r = .val v h
  | .skip h => r = .skip h
  | .no => True

def inK (k : IntKind) (n : Int) : Prop :=
  match k with
  | .i8 => -128 ≤ n ∧ n ≤ 127
  | .i16 => -32768 ≤ n ∧ n ≤ 32767
  | .i32 => -2147483648 ≤ n ∧ n ≤ 2147483647
  | .i64 => -9223372036854775808 ≤ n ∧ n ≤ 9223372036854775807
  | .u8 => 0 ≤ n ∧ n ≤ 255
  | .u16 => 0 ≤ n ∧ n ≤ 65535
  | .u32 => 0 ≤ n ∧ n ≤ 4294967295
  | .u64 => 0 ≤ n ∧ n ≤ 18446744073709551615

def ofRs (r : Rs) : So :=
  match r with
  | .val v h => .val v h
  | .skip h => .skip h
  | _ => .no
def ofO (h : Heap) (o : Option V) : So :=
  match o with
  | some v => .val v h
  | none => .no

/-- A text's byte, a text's part. -/
def byteAt (s : List UInt8) (i : Int) : Int := ((s.getD i.toNat 0).toNat : Int)

noncomputable def intS (h : Heap) (op : BinOp) (k : IntKind) (a b : Int) : So :=
  match op with
  | .add => .obl (.int k (a + b)) h (inK k (a + b))
  | .sub => .obl (.int k (a - b)) h (inK k (a - b))
  | .mul => .obl (.int k (a * b)) h (inK k (a * b))
  | .quo => .obl (.int k (a / b)) h (0 ≤ a ∧ 0 < b ∧ inK k (a / b))
  | .rem => .obl (.int k (a % b)) h (0 ≤ a ∧ 0 < b)
  | .eql => .val (.bool (decide (a = b))) h
  | .neq => .val (.bool (!decide (a = b))) h
  | .lss => .val (.bool (decide (a < b))) h
  | .leq => .val (.bool (decide (a ≤ b))) h
  | .gtr => .val (.bool (decide (b < a))) h
  | .geq => .val (.bool (decide (b ≤ a))) h
  | op => ofO h (intOp op k a b)
noncomputable def strS (h : Heap) (op : BinOp) (a b : List UInt8) : So :=
  match op with
  | .add => .obl (.str (a ++ b)) h (a.length + b.length ≤ 1099511627776)
  | .eql => .val (.bool (decide (a = b))) h
  | .neq => .val (.bool (!decide (a = b))) h
  | op => ofO h (strOp op a b)
noncomputable def binS (P : Program) (h : Heap) (t : TypeId) (c : Bool) (op : BinOp) (x y : V) : So :=
  match x with
  | .int k a => match y with
    | .int k' b => bif isShift op then ofO h (intOp op k a b) else bif kindEq k k' then intS h op k a b else .no
    | _ => .no
  | .str a => match y with
    | .str b => strS h op a b
    | _ => .no
  | x => ofO h (binOp P h t c op x y)
noncomputable def unS (h : Heap) (op : UnOp) (x : V) : So :=
  match x with
  | .int k n => match op with
    | .neg => .obl (.int k (-n)) h (inK k (-n))
    | op => ofO h (unOp op (.int k n))
  | x => ofO h (unOp op x)
noncomputable def indexS (P : Program) (h : Heap) (t : TypeId) (x i : V) : So :=
  match x with
  | .str s => match i with
    | .int _ j => bif isStrT P t then .obl (.int .u8 (byteAt s j)) h (0 ≤ j ∧ j < s.length) else .no
    | _ => .no
  | x => ofO h (index P t x i)
noncomputable def indexAddrS (P : Program) (h : Heap) (t : TypeId) (x i : V) : So :=
  match x with
  | .sl r ver o n _ => match i with
    | .int _ j => match sliceElem P t with
      | some e => bif Nat.ble 1 (size P e) && Nat.beq (rowSz h r) (size P e) then .obl (.ptr r ver ((o + j.toNat) * size P e)) h (0 ≤ j ∧ j < n) else .no
      | none => .no
    | _ => .no
  | .gsl sz es _ => match i with
    | .int _ j => match sliceElem P t with
      | some e => bif Nat.beq sz (size P e) then .obl (.gptr sz es (j.toNat * sz)) h (0 ≤ j ∧ j < es.length) else .no
      | none => .no
    | _ => .no
  | .osl sz es => match i with
    | .int _ j => match sliceElem P t with
      | some e => bif Nat.beq sz (size P e) then .obl (.gptr sz es (j.toNat * sz)) h (0 ≤ j ∧ j < es.length) else .no
      | none => .no
    | _ => .no
  | x => ofO h (indexAddr P h t x i)
/-- The bound of a slice expression, if there is one; none: it can't be told. -/
def boundS : Option V → Option (Option Int)
  | none => some none
  | some (.int _ n) => some (some n)
  | _ => none
noncomputable def sliceStr (h : Heap) (s : List UInt8) (lo hi : Option Int) : So :=
  match lo with
  | none => match hi with
    | none => .val (.str s) h
    | some b => .obl (.str (s.take b.toNat)) h (0 ≤ b ∧ b ≤ s.length)
  | some a => match hi with
    | none => .obl (.str (s.drop a.toNat)) h (0 ≤ a ∧ a ≤ s.length)
    | some b => .obl (.str ((s.take b.toNat).drop a.toNat)) h (0 ≤ a ∧ a ≤ b ∧ b ≤ s.length)
def subC (c : Option Nat) (k : Nat) : Option Nat :=
  match c with
  | some c => some (c - k)
  | none => none
noncomputable def sliceGsl (h : Heap) (sz : Nat) (es : List V) (c : Option Nat) (lo hi : Option Int) : So :=
  match lo with
  | none => match hi with
    | none => .val (.gsl sz es c) h
    | some b => .obl (.gsl sz (es.take b.toNat) c) h (0 ≤ b ∧ b ≤ es.length)
  | some a => match hi with
    | none => .obl (.gsl sz (es.drop a.toNat) (subC c a.toNat)) h (0 ≤ a ∧ a ≤ es.length)
    | some b => .obl (.gsl sz ((es.take b.toNat).drop a.toNat) (subC c a.toNat)) h (0 ≤ a ∧ a ≤ b ∧ b ≤ es.length)
noncomputable def sliceOwn (h : Heap) (r ver o n : Nat) (c : Option Nat) (lo hi : Option Int) : So :=
  match lo with
  | none => match hi with
    | none => .val (.sl r ver o n c) h
    | some b => .obl (.sl r ver o b.toNat c) h (0 ≤ b ∧ b ≤ n)
  | some a => match hi with
    | none => .obl (.sl r ver (o + a.toNat) (n - a.toNat) (subC c a.toNat)) h (0 ≤ a ∧ a ≤ n)
    | some b => .obl (.sl r ver (o + a.toNat) (b.toNat - a.toNat) (subC c a.toNat)) h (0 ≤ a ∧ a ≤ b ∧ b ≤ n)
noncomputable def sliceS (P : Program) (h : Heap) (t : TypeId) (x : V) (lo hi mx : Option V) : So :=
  match mx with
  | some _ => ofO h (slice P h t x lo hi mx)
  | none => match boundS lo with
    | none => .no
    | some lo' => match boundS hi with
      | none => .no
      | some hi' => match x with
        | .str s => bif isStrT P t then sliceStr h s lo' hi' else .no
        | .gsl sz es c => match sliceElem P t with
          | some el => bif Nat.beq (size P el) sz then sliceGsl h sz es c lo' hi' else .no
          | none => .no
        | .sl r ver o n c => match sliceElem P t with
          | some el => bif Nat.ble 1 (size P el) && Nat.beq (rowSz h r) (size P el) then sliceOwn h r ver o n c lo' hi' else .no
          | none => .no
        | x => ofO h (slice P h t x lo hi none)
noncomputable def convS (P : Program) (h : Heap) (s d : TypeId) (x : V) : So :=
  match x with
  | .int _ n => match P.underlying s with
    | none => .no
    | some _ => match P.underlying d with
      | some (.int k) => .obl (.int k n) h (inK k n)
      | _ => ofO h (convert P s d h x)
  | x => ofO h (convert P s d h x)
noncomputable def lenS (P : Program) (t : TypeId) (h : Heap) (x : V) : So :=
  match x with
  | .str s => bif isStrT P t then .val (.int .i64 (s.length : Int)) h else .no
  | .gsl _ es _ => bif isSliceT P t then .val (.int .i64 (es.length : Int)) h else .no
  | .osl _ es => bif isSliceT P t then .val (.int .i64 (es.length : Int)) h else .no
  | .sl _ _ _ n _ => bif isSliceT P t then .val (.int .i64 (n : Int)) h else .no
  | x => ofRs (builtin P .len [t] h [x])
noncomputable def maxS (h : Heap) (x y : V) (d : Rs) : So :=
  match x with
  | .int k a => match y with
    | .int _ b => .val (.int k (max a b)) h
    | _ => ofRs d
  | _ => ofRs d
noncomputable def minS (h : Heap) (x y : V) (d : Rs) : So :=
  match x with
  | .int k a => match y with
    | .int _ b => .val (.int k (min a b)) h
    | _ => ofRs d
  | _ => ofRs d
/-- What is appended. -/
noncomputable def newS (_P : Program) (h : Heap) (sz : Nat) (y : V) : Option (List V) :=
  match y with
  | .gsl sz' es _ => bif Nat.beq sz sz' then some es else none
  | .osl sz' es => bif Nat.beq sz sz' then some es else none
  | y => appended h sz y
/-- append: onto a row of one's own that ends where the slice does; onto none; onto data that has no room left. -/
noncomputable def appendS' (P : Program) (t : TypeId) (h : Heap) (x y : V) (d : Rs) : So :=
  match sliceElem P t with
  | none => .no
  | some e => match newS P h (size P e) y with
    | none => .no
    | some new => bif Nat.beq (size P e) 0 || !(zeroOk P e) then .no else
      match x with
      | .sl r ver o n c => match c with
        | some _ => ofRs d
        | none => match h.get r with
          | .row ver' ty sz' pub cap es => match cap with
            | some _ => ofRs d
            | none => bif Nat.beq (size P e) sz' && Nat.beq o 0 && Nat.beq ty e then
                .obl (.sl r (Nat.succ ver) 0 (n + new.length) none) (h.set r (.row (Nat.succ ver) ty sz' pub none (es ++ new)))
                  (ver = ver' ∧ new ≠ [] ∧ n = es.length ∧ pub ≤ n ∧ n + new.length ≤ 1099511627776 ∧ (n + new.length) * P.bytesOf e ≤ 1099511627776)
              else .no
          | _ => .no
      | .nils => .obl (.sl h.n 0 0 new.length none) (newRow h e (size P e) 0 none new) (new ≠ [] ∧ new.length ≤ 1099511627776 ∧ new.length * P.bytesOf e ≤ 1099511627776)
      | .gsl sz' es c => match c with
        | some c => bif Nat.beq (size P e) sz' then .obl (.sl h.n 0 0 (es.length + new.length) none) (newRow h e sz' 0 none (es ++ new)) (new ≠ [] ∧ c < es.length + new.length ∧ es.length + new.length ≤ 1099511627776 ∧ (es.length + new.length) * P.bytesOf e ≤ 1099511627776) else .no
        | none => .no
      | _ => .no
noncomputable def appendS (P : Program) (t : TypeId) (h : Heap) (x y : V) (d : Rs) : So :=
  match y with
  | .nils => ofRs d
  | y => appendS' P t h x y d
noncomputable def builtinS (P : Program) (b : Builtin) (ts : List TypeId) (h : Heap) (args : List V) : So :=
  match b with
  | .len => match ts with
    | [t] => (match args with
      | [x] => lenS P t h x
      | _ => .no)
    | _ => .no
  | .max => match ts with
    | _ :: _ => (match args with
      | [x, y] => maxS h x y (builtin P .max ts h [x, y])
      | args => ofRs (builtin P .max ts h args))
    | _ => .no
  | .min => match ts with
    | _ :: _ => (match args with
      | [x, y] => minS h x y (builtin P .min ts h [x, y])
      | args => ofRs (builtin P .min ts h args))
    | _ => .no
  | .append => match ts with
    | [t, u] => (match args with
      | [x, y] => bif notIntT P u then appendS P t h x y (builtin P .append ts h [x, y]) else .no
      | _ => .no)
    | _ => .no
  | .recover => .no
  | b => ofRs (builtin P b ts h args)

noncomputable def pickS (h : Heap) (c : Bool) (a b : V) : So :=
  match a with
  | .int k x => match b with
    | .int k' y => bif kindEq k k' then .val (.int k (bif c then x else y)) h else ofO h (Bool.rec (some b) (some a) c)
    | b => ofO h (Bool.rec (some b) (some a) c)
  | .bool x => match b with
    | .bool y => .val (.bool (bif c then x else y)) h
    | b => ofO h (Bool.rec (some b) (some a) c)
  | .str x => match b with
    | .str y => .val (.str (bif c then x else y)) h
    | b => ofO h (Bool.rec (some b) (some a) c)
  | a => ofO h (Bool.rec (some b) (some a) c)

noncomputable def s1 (G : Nat → Option V) (tm : T V) (x : Operand) (f : V → So) : So :=
  match ev G tm x with
  | some v => f v
  | none => .no
noncomputable def s2 (G : Nat → Option V) (tm : T V) (x y : Operand) (f : V → V → So) : So :=
  match ev G tm x with
  | some v => (match ev G tm y with
    | some w => f v w
    | none => .no)
  | none => .no

/-- A call that has a contract. -/
noncomputable def primS (E : Env) (f : FuncId) (args : List V) (h : Heap) : Option (V × Heap) :=
  bif E.shared f then none else
  match pubL (pub [] depth) args h with
  | none => none
  | some (gs, h1) => match E.prim f gs with
    | some v => give E f (Bool.rec h1 h (E.borrow f)) v
    | none => none

noncomputable def operS (lit : Bool) (P : Program) (G : Nat → Option V) (tm : T V) (h : Heap) (o : Oper) : So :=
  match o.op with
  | .binOp op t x y _ => s2 G tm x y (binS P h t (isConst x || isConst y) op)
  | .unOp op _ x => s1 G tm x (unS h op)
  | .index t x i => s2 G tm x i (indexS P h t)
  | .indexAddr t x i => s2 G tm x i (indexAddrS P h t)
  | .convert s d x => s1 G tm x (convS P h s d)
  | .pick c a b => match ev G tm c with
    | some (.bool t) => s2 G tm a b (pickS h t)
    | _ => .no
  | .slice t x lo hi mx => s1 G tm x fun x => match evO G tm lo with
    | none => .no
    | some lo => match evO G tm hi with
      | none => .no
      | some hi => match evO G tm mx with
        | none => .no
        | some mx => sliceS P h t x lo hi mx
  | .call c => match c.callee with
    | .builtin b => match mapO (ev G tm) c.args.toList with
      | none => .no
      | some args => builtinS P b c.argTypes.toList h args
    | _ => ofRs (operE lit P G tm h o)
  | _ => ofRs (operE lit P G tm h o)

theorem ofRs_ok (r : Rs) : So.ok r (ofRs r) := by cases r <;> first | rfl | trivial
theorem ofO_ok (h : Heap) (o : Option V) : So.ok (ofOpt h o) (ofO h o) := by cases o <;> first | rfl | trivial
theorem okInt_in {k : IntKind} {n : Int} (h : inK k n) : okInt k n = some (.int k n) := by
  rw [okInt_eq, wrap_of_holds]
  · cases k <;> exact h.1
  · cases k <;> exact h.2
theorem ieq_pos {b : Int} (h : 0 < b) : ieq b 0 = false := by
  rw [ieq_eq, beq_eq_false_iff_ne]; omega
theorem intS_ok (h : Heap) (op : BinOp) (k : IntKind) (a b : Int) : So.ok (ofOpt h (intOp op k a b)) (intS h op k a b) := by
  cases op with
  | add => intro hk; change ofOpt h (okInt k (a + b)) = _; rw [okInt_in hk]; rfl
  | sub => intro hk; change ofOpt h (okInt k (a - b)) = _; rw [okInt_in hk]; rfl
  | mul => intro hk; change ofOpt h (okInt k (a * b)) = _; rw [okInt_in hk]; rfl
  | quo =>
    rintro ⟨h1, h2, h3⟩
    change ofOpt h (Bool.rec (okInt k (a.tdiv b)) none (ieq b 0)) = _
    rw [ieq_pos h2, Int.tdiv_eq_ediv_of_nonneg h1, okInt_in h3]; rfl
  | rem =>
    rintro ⟨h1, h2⟩
    change ofOpt h (Bool.rec (forceI k (a.tmod b)) none (ieq b 0)) = _
    rw [ieq_pos h2, Int.tmod_eq_emod_of_nonneg h1, forceI_eq]; rfl
  | eql => change ofOpt h (intOp .eql k a b) = _; rw [intOp_eql]; rfl
  | neq => change ofOpt h (intOp .neq k a b) = _; rw [intOp_neq]; rfl
  | lss => change ofOpt h (intOp .lss k a b) = _; rw [intOp_lss]; rfl
  | leq => change ofOpt h (intOp .leq k a b) = _; rw [intOp_leq]; rfl
  | gtr => change ofOpt h (intOp .gtr k a b) = _; rw [intOp_gtr]; rfl
  | geq => change ofOpt h (intOp .geq k a b) = _; rw [intOp_geq]; rfl
  | _ => exact ofO_ok h _
theorem strS_ok (h : Heap) (op : BinOp) (a b : List UInt8) : So.ok (ofOpt h (strOp op a b)) (strS h op a b) := by
  cases op with
  | add => intro hk; rw [strOp_add (a := a) (b := b) hk]; rfl
  | eql => change ofOpt h (strOp .eql a b) = _; rw [strOp_eql]; rfl
  | neq => change ofOpt h (strOp .neq a b) = _; rw [strOp_neq]; rfl
  | _ => exact ofO_ok h _
theorem binS_ok (h : Heap) (t : TypeId) (c : Bool) (op : BinOp) (x y : V) : So.ok (ofOpt h (binOp P h t c op x y)) (binS P h t c op x y) := by
  cases x with
  | int k a =>
    cases y with
    | int k' b =>
      change So.ok (ofOpt h (bif isShift op || kindEq k k' then intOp op k a b else none)) (bif isShift op then ofO h (intOp op k a b) else bif kindEq k k' then intS h op k a b else .no)
      cases h1 : isShift op with
      | true => exact ofO_ok h _
      | false =>
        cases h2 : kindEq k k' with
        | true => exact intS_ok h op k a b
        | false => trivial
    | _ => trivial
  | str a =>
    cases y with
    | str b => exact strS_ok h op a b
    | _ => trivial
  | _ => exact ofO_ok h _
theorem unS_ok (h : Heap) (op : UnOp) (x : V) : So.ok (ofOpt h (unOp op x)) (unS h op x) := by
  cases x with
  | int k n =>
    cases op with
    | neg =>
      intro hk
      change ofOpt h (okInt k (0 - n)) = _
      rw [Int.zero_sub, okInt_in hk]; rfl
    | _ => exact ofO_ok h _
  | _ => exact ofO_ok h _
theorem natI_in {k : IntKind} {j : Int} (h : 0 ≤ j) : natI (.int k j) = some j.toNat := by
  cases j with
  | ofNat n => rfl
  | negSucc n => exact absurd h (by omega)
theorem getD_at {s : List UInt8} {i : Nat} (h : i < s.length) : s[i]? = some (s.getD i 0) := by
  rw [List.getElem?_eq_getElem h, List.getD_eq_getElem?_getD, List.getElem?_eq_getElem h]; rfl
theorem indexS_ok (h : Heap) (t : TypeId) (x i : V) : So.ok (ofOpt h (index P t x i)) (indexS P h t x i) := by
  cases x with
  | str s =>
    cases i with
    | int k j =>
      change So.ok _ (bif isStrT P t then .obl (.int .u8 (byteAt s j)) h (0 ≤ j ∧ j < s.length) else .no)
      cases ht : isStrT P t with
      | false => trivial
      | true =>
        rintro ⟨h1, h2⟩
        have hi : j.toNat < s.length := by omega
        have e : index P t (.str s) (.int k j) = some (byteV (s.getD j.toNat 0)) := by
          unfold index
          rw [natI_in h1]
          change (match List.at s j.toNat with | some b => bif isStrT P t then some (byteV b) else none | none => none) = _
          rw [List.at_eq, getD_at hi, ht]; rfl
        rw [e]; rfl
    | _ => trivial
  | _ => exact ofO_ok h _
theorem indexAddrS_ok (h : Heap) (t : TypeId) (x i : V) : So.ok (ofOpt h (indexAddr P h t x i)) (indexAddrS P h t x i) := by
  cases x with
  | sl r ver o n c =>
    cases i with
    | int k j =>
      unfold indexAddrS
      simp only
      cases hs : sliceElem P t with
      | none => trivial
      | some e =>
        simp only
        cases hb : (Nat.ble 1 (size P e) && Nat.beq (rowSz h r) (size P e)) with
        | false => trivial
        | true =>
          rintro ⟨h1, h2⟩
          have e1 : Nat.blt j.toNat n = true := by rw [Nat.blt_eq]; omega
          simp only [Bool.and_eq_true] at hb
          have e : indexAddr P h t (.sl r ver o n c) (.int k j) = some (.ptr r ver ((o + j.toNat) * size P e)) := by
            unfold indexAddr
            rw [natI_in h1]
            simp only [hs, e1, hb.1, hb.2, Bool.and_self, cond_true]
            rfl
          rw [e]; rfl
    | _ => trivial
  | gsl sz es c =>
    cases i with
    | int k j =>
      unfold indexAddrS
      simp only
      cases hs : sliceElem P t with
      | none => trivial
      | some e =>
        simp only
        cases hb : Nat.beq sz (size P e) with
        | false => trivial
        | true =>
          rintro ⟨h1, h2⟩
          have e1 : Nat.blt j.toNat (List.len es) = true := by rw [Nat.blt_eq, List.len_eq]; omega
          have e : indexAddr P h t (.gsl sz es c) (.int k j) = some (.gptr sz es (j.toNat * sz)) := by
            unfold indexAddr
            rw [natI_in h1]
            simp only [hs, e1, hb, Bool.and_self, cond_true]
            rfl
          rw [e]; rfl
    | _ => trivial
  | osl sz es =>
    cases i with
    | int k j =>
      unfold indexAddrS
      simp only
      cases hs : sliceElem P t with
      | none => trivial
      | some e =>
        simp only
        cases hb : Nat.beq sz (size P e) with
        | false => trivial
        | true =>
          rintro ⟨h1, h2⟩
          have e1 : Nat.blt j.toNat (List.len es) = true := by rw [Nat.blt_eq, List.len_eq]; omega
          have e : indexAddr P h t (.osl sz es) (.int k j) = some (.gptr sz es (j.toNat * sz)) := by
            unfold indexAddr
            rw [natI_in h1]
            simp only [hs, e1, hb, Bool.and_self, cond_true]
            rfl
          rw [e]; rfl
    | _ => trivial
  | _ => exact ofO_ok h _

theorem boundOf_none (d : Nat) : boundOf d none = some d := rfl
theorem boundOf_in {d : Nat} {k : IntKind} {j : Int} (h : 0 ≤ j) : boundOf d (some (.int k j)) = some j.toNat := by
  cases j with
  | ofNat n => rfl
  | negSucc n => exact absurd h (by omega)
theorem boundS_some {o : Option V} {a : Int} (h : boundS o = some (some a)) : ∃ k, o = some (.int k a) := by
  unfold boundS at h
  split at h
  · cases h
  · cases h; exact ⟨_, rfl⟩
  · cases h
theorem boundS_none {o : Option V} (h : boundS o = some none) : o = none := by
  unfold boundS at h
  split at h
  · rfl
  · cases h
  · cases h
theorem slice_str {h : Heap} {t : TypeId} {s : List UInt8} {lo hi : Option V} {l e : Nat} (h1 : boundOf 0 lo = some l) (h2 : boundOf s.length hi = some e) (ht : isStrT P t = true) (hle : l ≤ e) (hel : e ≤ s.length) : slice P h t (.str s) lo hi none = some (.str ((s.take e).drop l)) := by
  unfold slice
  rw [h1]
  simp only [List.len_eq, h2, ht, List.takeN_eq, List.dropN_eq, Bool.true_and]
  have e1 : Nat.ble l e = true := by rw [Nat.ble_eq]; exact hle
  have e2 : Nat.ble e s.length = true := by rw [Nat.ble_eq]; exact hel
  rw [e1, e2]; rfl
theorem slice_gsl {h : Heap} {t el : TypeId} {sz : Nat} {es : List V} {c : Option Nat} {lo hi : Option V} {l e : Nat} (h1 : boundOf 0 lo = some l) (h2 : boundOf es.length hi = some e) (ht : sliceElem P t = some el) (hz : Nat.beq (size P el) sz = true) (hle : l ≤ e) (hel : e ≤ es.length) : slice P h t (.gsl sz es c) lo hi none = some (.gsl sz ((es.take e).drop l) (subO c l)) := by
  unfold slice
  rw [h1]
  simp only [List.len_eq, h2, ht, hz, cond_true]
  unfold sliceG
  simp only [List.len_eq, List.takeN_eq, List.dropN_eq]
  have e1 : Nat.ble l e = true := by rw [Nat.ble_eq]; exact hle
  have e2 : Nat.ble e es.length = true := by rw [Nat.ble_eq]; exact hel
  rw [e1, e2]; rfl
theorem slice_own {h : Heap} {t el : TypeId} {r ver o n : Nat} {c : Option Nat} {lo hi : Option V} {l e : Nat} (h1 : boundOf 0 lo = some l) (h2 : boundOf n hi = some e) (ht : sliceElem P t = some el) (hz : (Nat.ble 1 (size P el) && Nat.beq (rowSz h r) (size P el)) = true) (hle : l ≤ e) (hel : e ≤ n) : slice P h t (.sl r ver o n c) lo hi none = some (.sl r ver (o + l) (e - l) (subO c l)) := by
  unfold slice
  rw [h1]
  simp only [h2, ht, hz, cond_true]
  unfold sliceSl
  have e1 : Nat.ble l e = true := by rw [Nat.ble_eq]; exact hle
  have e2 : Nat.ble e n = true := by rw [Nat.ble_eq]; exact hel
  simp only [e1, e2]
  rfl
theorem subO_zero (c : Option Nat) : subO c 0 = c := by cases c <;> rfl
theorem subO_eq (c : Option Nat) (k : Nat) : subO c k = subC c k := by cases c <;> rfl
theorem drop_zero' {α : Type} (l : List α) : l.drop 0 = l := rfl
theorem sliceS_ok (h : Heap) (t : TypeId) (x : V) (lo hi mx : Option V) : So.ok (ofOpt h (slice P h t x lo hi mx)) (sliceS P h t x lo hi mx) := by
  cases mx with
  | some m => exact ofO_ok h _
  | none =>
    unfold sliceS
    simp only
    cases hlo : boundS lo with
    | none => trivial
    | some lo' =>
      simp only
      cases hhi : boundS hi with
      | none => trivial
      | some hi' =>
        simp only
        cases x with
        | str s =>
          simp only
          cases ht : isStrT P t with
          | false => trivial
          | true =>
            simp only [cond_true]
            cases lo' with
            | none =>
              have b1 := boundS_none hlo; subst b1
              cases hi' with
              | none =>
                have b2 := boundS_none hhi; subst b2
                change ofOpt h _ = _
                rw [slice_str (l := 0) (e := s.length) rfl rfl ht (Nat.zero_le _) (Nat.le_refl _), List.take_length]; rfl
              | some b =>
                obtain ⟨k, rfl⟩ := boundS_some hhi
                rintro ⟨h1, h2⟩
                rw [slice_str (l := 0) (e := b.toNat) rfl (boundOf_in h1) ht (Nat.zero_le _) (by omega)]; rfl
            | some a =>
              obtain ⟨k, rfl⟩ := boundS_some hlo
              cases hi' with
              | none =>
                have b2 := boundS_none hhi; subst b2
                rintro ⟨h1, h2⟩
                rw [slice_str (l := a.toNat) (e := s.length) (boundOf_in h1) rfl ht (by omega) (Nat.le_refl _), List.take_length]; rfl
              | some b =>
                obtain ⟨k2, rfl⟩ := boundS_some hhi
                rintro ⟨h1, h2, h3⟩
                rw [slice_str (l := a.toNat) (e := b.toNat) (boundOf_in h1) (boundOf_in (by omega)) ht (by omega) (by omega)]; rfl
        | gsl sz es c =>
          simp only
          cases ht : sliceElem P t with
          | none => trivial
          | some el =>
            simp only
            cases hz : Nat.beq (size P el) sz with
            | false => trivial
            | true =>
              simp only [cond_true]
              cases lo' with
              | none =>
                have b1 := boundS_none hlo; subst b1
                cases hi' with
                | none =>
                  have b2 := boundS_none hhi; subst b2
                  change ofOpt h _ = _
                  rw [slice_gsl (l := 0) (e := es.length) rfl rfl ht hz (Nat.zero_le _) (Nat.le_refl _), List.take_length, subO_zero]; rfl
                | some b =>
                  obtain ⟨k, rfl⟩ := boundS_some hhi
                  rintro ⟨h1, h2⟩
                  rw [slice_gsl (l := 0) (e := b.toNat) rfl (boundOf_in h1) ht hz (Nat.zero_le _) (by omega), subO_zero]; rfl
              | some a =>
                obtain ⟨k, rfl⟩ := boundS_some hlo
                cases hi' with
                | none =>
                  have b2 := boundS_none hhi; subst b2
                  rintro ⟨h1, h2⟩
                  rw [slice_gsl (l := a.toNat) (e := es.length) (boundOf_in h1) rfl ht hz (by omega) (Nat.le_refl _), List.take_length, subO_eq]; rfl
                | some b =>
                  obtain ⟨k2, rfl⟩ := boundS_some hhi
                  rintro ⟨h1, h2, h3⟩
                  rw [slice_gsl (l := a.toNat) (e := b.toNat) (boundOf_in h1) (boundOf_in (by omega)) ht hz (by omega) (by omega), subO_eq]; rfl
        | sl r ver o n c =>
          simp only
          cases ht : sliceElem P t with
          | none => trivial
          | some el =>
            simp only
            cases hz : (Nat.ble 1 (size P el) && Nat.beq (rowSz h r) (size P el)) with
            | false => trivial
            | true =>
              simp only [cond_true]
              cases lo' with
              | none =>
                have b1 := boundS_none hlo; subst b1
                cases hi' with
                | none =>
                  have b2 := boundS_none hhi; subst b2
                  change ofOpt h _ = _
                  rw [slice_own (l := 0) (e := n) rfl rfl ht hz (Nat.zero_le _) (Nat.le_refl _), subO_zero]; rfl
                | some b =>
                  obtain ⟨k, rfl⟩ := boundS_some hhi
                  rintro ⟨h1, h2⟩
                  rw [slice_own (l := 0) (e := b.toNat) rfl (boundOf_in h1) ht hz (Nat.zero_le _) (by omega), subO_zero]; rfl
              | some a =>
                obtain ⟨k, rfl⟩ := boundS_some hlo
                cases hi' with
                | none =>
                  have b2 := boundS_none hhi; subst b2
                  rintro ⟨h1, h2⟩
                  rw [slice_own (l := a.toNat) (e := n) (boundOf_in h1) rfl ht hz (by omega) (Nat.le_refl _), subO_eq]; rfl
                | some b =>
                  obtain ⟨k2, rfl⟩ := boundS_some hhi
                  rintro ⟨h1, h2, h3⟩
                  rw [slice_own (l := a.toNat) (e := b.toNat) (boundOf_in h1) (boundOf_in (by omega)) ht hz (by omega) (by omega), subO_eq]; rfl
        | _ => exact ofO_ok h _
theorem convS_ok (h : Heap) (s d : TypeId) (x : V) : So.ok (ofOpt h (convert P s d h x)) (convS P h s d x) := by
  cases x with
  | int k n =>
    unfold convS
    simp only
    cases hs : P.underlying s with
    | none => trivial
    | some us =>
      simp only
      split
      · rename_i k' hd
        intro hk
        have e : convert P s d h (.int k n) = some (.int k' n) := by
          unfold convert
          rw [hs, hd]
          change some (V.int k' (wrapI k' n)) = _
          rw [wrapI_eq]
          have := okInt_in hk
          rw [okInt_eq] at this
          exact this
        rw [e]; rfl
      · exact ofO_ok h _
  | _ => exact ofO_ok h _
theorem lenS_ok (t : TypeId) (h : Heap) (x : V) : So.ok (builtin P .len [t] h [x]) (lenS P t h x) := by
  cases x with
  | str s =>
    unfold lenS
    simp only
    cases ht : isStrT P t with
    | false => trivial
    | true => exact len_str ht
  | gsl sz es c =>
    unfold lenS
    simp only
    cases ht : isSliceT P t with
    | false => trivial
    | true => exact len_gsl ht
  | osl sz es =>
    unfold lenS
    simp only
    cases ht : isSliceT P t with
    | false => trivial
    | true => exact len_osl ht
  | sl r ver o n c =>
    unfold lenS
    simp only
    cases ht : isSliceT P t with
    | false => trivial
    | true => exact len_sl ht
  | _ => exact ofRs_ok _
theorem max_eq' (a b : Int) : (bif ilt a b then b else a) = max a b := by
  rw [ilt_eq]
  by_cases h : a < b
  · rw [decide_eq_true h]; show b = _; omega
  · rw [decide_eq_false h]; show a = _; omega
theorem min_eq' (a b : Int) : (bif ilt b a then b else a) = min a b := by
  rw [ilt_eq]
  by_cases h : b < a
  · rw [decide_eq_true h]; show b = _; omega
  · rw [decide_eq_false h]; show a = _; omega
theorem maxS_ok {t : TypeId} {ts : List TypeId} (h : Heap) (x y : V) : So.ok (builtin P .max (t :: ts) h [x, y]) (maxS h x y (builtin P .max (t :: ts) h [x, y])) := by
  unfold maxS
  split
  · split
    · change ofOpt h (some (V.int _ (bif ilt _ _ then _ else _))) = _
      rw [max_eq']; rfl
    · exact ofRs_ok _
  · exact ofRs_ok _
theorem minS_ok {t : TypeId} {ts : List TypeId} (h : Heap) (x y : V) : So.ok (builtin P .min (t :: ts) h [x, y]) (minS h x y (builtin P .min (t :: ts) h [x, y])) := by
  unfold minS
  split
  · split
    · change ofOpt h (some (V.int _ (bif ilt _ _ then _ else _))) = _
      rw [min_eq']; rfl
    · exact ofRs_ok _
  · exact ofRs_ok _
theorem isNil_ne {α : Type} {l : List α} (h : l ≠ []) : isNil l = false := by cases l <;> first | rfl | exact absurd rfl h
theorem newS_ok {h : Heap} {sz : Nat} {y : V} {new : List V} (hn : newS P h sz y = some new) : appended h sz y = some new := by
  unfold newS at hn
  split at hn
  · rename_i sz' es c
    change (bif Nat.beq sz sz' then some es else none) = some new
    exact hn
  · rename_i sz' es
    change (bif Nat.beq sz sz' then some es else none) = some new
    exact hn
  · exact hn
theorem freshSl_eq {h : Heap} {e sz n : Nat} {es : List V} (hz : zeroOk P e = true) (h1 : n ≤ 1099511627776) (h2 : n * P.bytesOf e ≤ 1099511627776) : freshSl P h e sz n es = .val (.sl h.n 0 0 n none) (newRow h e sz 0 none es) := by
  unfold freshSl
  have e1 : Nat.ble n room = true := by rw [Nat.ble_eq]; exact h1
  have e2 : Nat.ble (Nat.mul n (P.bytesOf e)) room = true := by rw [Nat.ble_eq]; exact h2
  rw [hz, e1, e2]; rfl
theorem append_eq {t e : TypeId} {h : Heap} {x y : V} {new : List V} (ht : sliceElem P t = some e) (hn : appended h (size P e) y = some new) (hz0 : Nat.beq (size P e) 0 = false) : append P t h x y = (bif isNil new then (match x with
            | .nils => .val x h
            | .sl _ _ _ _ _ => .val x h
            | .gsl _ _ _ => .val x h
            | _ => .stuck)
          else match x with
          | .nils => freshSl P h e (size P e) (List.len new) new
          | .gsl sz' es c => match c with
            | some c => bif Nat.beq (size P e) sz' && Nat.blt c (Nat.add (List.len es) (List.len new)) then freshSl P h e sz' (Nat.add (List.len es) (List.len new)) (List.app es new) else .stuck
            | none => .stuck
          | .sl r ver o n c => appendSl P h e (size P e) r ver o n c new (List.len new)
          | _ => .stuck) := by
  unfold append
  rw [ht]
  simp only [hn, hz0, cond_false]
  rfl
theorem appendS'_ok {t u : TypeId} (h : Heap) (x y : V) (hu : notIntT P u = true) : So.ok (builtin P .append [t, u] h [x, y]) (appendS' P t h x y (builtin P .append [t, u] h [x, y])) := by
  have e0 : builtin P .append [t, u] h [x, y] = append P t h x y := by
    change (bif notIntT P u then append P t h x y else bif intT P u then appendZ P t h x y else .stuck) = _
    rw [hu]; rfl
  unfold appendS'
  cases ht : sliceElem P t with
  | none => trivial
  | some e =>
    simp only
    cases hn : newS P h (size P e) y with
    | none => trivial
    | some new =>
      have hn := newS_ok hn
      simp only
      cases hb : (Nat.beq (size P e) 0 || !(zeroOk P e)) with
      | true => trivial
      | false =>
        simp only [Bool.or_eq_false_iff, Bool.not_eq_false'] at hb
        obtain ⟨hz0, hz⟩ := hb
        simp only [cond_false]
        have ea := append_eq (P := P) (t := t) (h := h) (x := x) ht hn hz0
        cases x with
        | sl r ver o n c =>
          simp only
          cases c with
          | some c => exact ofRs_ok _
          | none =>
            simp only
            cases hr : h.get r with
            | row ver' ty sz' pub cap es =>
              simp only
              cases cap with
              | some k => exact ofRs_ok _
              | none =>
                simp only
                cases hc : (Nat.beq (size P e) sz' && Nat.beq o 0 && Nat.beq ty e) with
                | false => trivial
                | true =>
                  rintro ⟨c1, h1, h2, h3, h4, h5⟩
                  rw [e0, ea, isNil_ne h1]
                  simp only [cond_false]
                  unfold appendSl
                  rw [hr]
                  simp only [Bool.and_eq_true, Nat.beq_eq] at hc
                  obtain ⟨⟨c2, c3⟩, c4⟩ := hc
                  subst c1 c3 c4
                  have b1 : Nat.ble (Nat.add 0 n) (List.len es) = true := by rw [Nat.ble_eq, List.len_eq]; show 0 + n ≤ _; omega
                  have b2 : Nat.ble (Nat.add n (List.len new)) room = true := by rw [Nat.ble_eq, List.len_eq]; exact h4
                  have b3 : Nat.ble (Nat.mul (Nat.add n (List.len new)) (P.bytesOf ty)) room = true := by rw [Nat.ble_eq, List.len_eq]; exact h5
                  have b4 : Nat.ble pub n = true := by rw [Nat.ble_eq]; exact h3
                  have b5 : Nat.beq (size P ty) sz' = true := by rw [Nat.beq_eq]; exact c2
                  have c2' : size P ty = sz' := c2
                  subst c2'
                  simp only [Nat.beq_refl, b1, b2, b3, b4, hz, Bool.and_self, cond_true, List.app_eq, List.takeN_eq]
                  rw [List.take_of_length_le (by omega), List.len_eq]
                  rfl
            | _ => trivial
        | nils =>
          rintro ⟨h1, h2, h3⟩
          rw [e0, ea, isNil_ne h1]
          simp only [cond_false]
          rw [List.len_eq]
          exact freshSl_eq hz h2 h3
        | gsl sz' es c =>
          simp only
          cases c with
          | none => trivial
          | some c =>
            simp only
            cases hs : Nat.beq (size P e) sz' with
            | false => trivial
            | true =>
              rintro ⟨h1, h2, h3, h4⟩
              rw [e0, ea, isNil_ne h1]
              have b1 : Nat.blt c (Nat.add es.length new.length) = true := by rw [Nat.blt_eq]; exact h2
              simp only [cond_false, cond_true, List.len_eq, hs, b1, Bool.and_self, List.app_eq]
              exact freshSl_eq hz h3 h4
        | _ => trivial
theorem appendS_ok {t u : TypeId} (h : Heap) (x y : V) (hu : notIntT P u = true) : So.ok (builtin P .append [t, u] h [x, y]) (appendS P t h x y (builtin P .append [t, u] h [x, y])) := by
  unfold appendS
  split
  · exact ofRs_ok _
  · exact appendS'_ok h x _ hu
theorem builtinS_ok (b : Builtin) (ts : List TypeId) (h : Heap) (args : List V) (hb : b ≠ .recover) : So.ok (builtin P b ts h args) (builtinS P b ts h args) := by
  unfold builtinS
  split
  · split
    · split
      · exact lenS_ok _ h _
      · trivial
    · trivial
  · split
    · split
      · exact maxS_ok h _ _
      · exact ofRs_ok _
    · trivial
  · split
    · split
      · exact minS_ok h _ _
      · exact ofRs_ok _
    · trivial
  · split
    · split
      · rename_i u _ x y
        cases hu : notIntT P u with
        | false => trivial
        | true => exact appendS_ok h x y hu
      · trivial
    · trivial
  · trivial
  · exact ofRs_ok _
theorem pickS_ok (h : Heap) (c : Bool) (a b : V) : So.ok (ofOpt h (Bool.rec (some b) (some a) c)) (pickS h c a b) := by
  unfold pickS
  split
  · split
    · rename_i k x _ k' y
      cases hk : kindEq k k' with
      | false => exact ofO_ok h _
      | true =>
        have := (kindEq_iff _ _).1 hk; subst this
        cases c <;> rfl
    · exact ofO_ok h _
  · split
    · cases c <;> rfl
    · exact ofO_ok h _
  · split
    · cases c <;> rfl
    · exact ofO_ok h _
  · exact ofO_ok h _

theorem operE_plain {lit : Bool} {G : Nat → Option V} {tm : T V} {h : Heap} {o : Oper} (hb : ∀ t len ps, o.op ≠ .buildSlice t len ps) : operE lit P G tm h o = oper P G tm h o := by
  cases lit with
  | false => rfl
  | true =>
    change orLit (operL P G tm h o) (oper P G tm h o) = _
    have : operL P G tm h o = oper P G tm h o := by
      unfold operL
      split
      · rename_i t len ps e; exact absurd e (hb t len ps)
      · rfl
    rw [this]
    unfold orLit
    split <;> rfl

theorem s1_ok {G : Nat → Option V} {tm : T V} {h : Heap} {x : Operand} {f : V → Option V} {g : V → So} (hg : ∀ v, So.ok (ofOpt h (f v)) (g v)) : So.ok (o1 G tm h x f) (s1 G tm x g) := by
  rw [o1_def]
  unfold s1
  cases ev G tm x with
  | none => trivial
  | some v => exact hg v
theorem s2_ok {G : Nat → Option V} {tm : T V} {h : Heap} {x y : Operand} {f : V → V → Option V} {g : V → V → So} (hg : ∀ v w, So.ok (ofOpt h (f v w)) (g v w)) : So.ok (o2 G tm h x y f) (s2 G tm x y g) := by
  rw [o2_def]
  unfold s2
  cases ev G tm x with
  | none => trivial
  | some v =>
    simp only
    cases ev G tm y with
    | none => trivial
    | some w => exact hg v w

theorem operS_ok (lit : Bool) (G : Nat → Option V) (tm : T V) (h : Heap) (o : Oper) : So.ok (operE lit P G tm h o) (operS lit P G tm h o) := by
  obtain ⟨dst, op, ty, pos, after, guard⟩ := o
  cases op with
  | binOp op t x y b => rw [operE_plain (fun _ _ _ e => by cases e)]; exact s2_ok fun v w => binS_ok h t _ op v w
  | unOp op t x => rw [operE_plain (fun _ _ _ e => by cases e)]; exact s1_ok fun v => unS_ok h op v
  | index t x i => rw [operE_plain (fun _ _ _ e => by cases e)]; exact s2_ok fun v w => indexS_ok h t v w
  | indexAddr t x i => rw [operE_plain (fun _ _ _ e => by cases e)]; exact s2_ok fun v w => indexAddrS_ok h t v w
  | convert s d x => rw [operE_plain (fun _ _ _ e => by cases e)]; exact s1_ok fun v => convS_ok h s d v
  | pick c a b =>
    rw [operE_plain (fun _ _ _ e => by cases e)]
    change So.ok (oPick G tm h c a b) (match ev G tm c with | some (.bool t) => s2 G tm a b (pickS h t) | _ => .no)
    unfold oPick
    cases hc : ev G tm c with
    | none => trivial
    | some v =>
      cases v with
      | bool t =>
        simp only
        unfold s2
        cases ha : ev G tm a with
        | none => trivial
        | some va =>
          simp only
          cases hb : ev G tm b with
          | none => trivial
          | some vb => exact pickS_ok h t va vb
      | _ => trivial
  | slice t x lo hi mx =>
    rw [operE_plain (fun _ _ _ e => by cases e)]
    change So.ok (oSlice P G tm h t x lo hi mx) (s1 G tm x fun x => match evO G tm lo with
      | none => .no
      | some lo => match evO G tm hi with
        | none => .no
        | some hi => match evO G tm mx with
          | none => .no
          | some mx => sliceS P h t x lo hi mx)
    unfold oSlice s1
    cases hx : ev G tm x with
    | none => trivial
    | some v =>
      simp only
      cases h1 : evO G tm lo with
      | none => trivial
      | some lo' =>
        simp only
        cases h2 : evO G tm hi with
        | none => trivial
        | some hi' =>
          simp only
          cases h3 : evO G tm mx with
          | none => trivial
          | some mx' => exact sliceS_ok h t v lo' hi' mx'
  | call c =>
    unfold operS
    simp only
    split
    · rename_i b hb
      rw [operE_plain (fun _ _ _ e => by cases e)]
      change So.ok (oCall P G tm h c) _
      rw [oCall_def]
      cases ha : mapO (ev G tm) c.args.toList with
      | none => trivial
      | some args =>
        simp only [hb]
        by_cases hr : b = .recover
        · subst hr; trivial
        · have h2 := builtinS_ok (P := P) b c.argTypes.toList h args hr
          cases b <;> first | exact h2 | exact absurd rfl hr
    · exact ofRs_ok _
  | _ => exact ofRs_ok _

end Go.AM

/-
  A REGION's OPERATIONS RUN OVER UNKNOWN DATA: as many as the kernel can; then one at a time.
-/
namespace Go.AM
open Go.RowKit

variable {P : Program} {E : Env} {K : Fr → Heap → Prop} {X : Ex → Fr → Heap → Prop} {N : Nat}

noncomputable def Alls (l : List Prop) : Prop := List.rec True (fun p _ ih => p ∧ ih) l
theorem Alls.nil : Alls [] := trivial
theorem Alls.cons {p : Prop} {l : List Prop} (h : p) (hl : Alls l) : Alls (p :: l) := ⟨h, hl⟩
theorem Alls.app {a b : List Prop} (h : Alls (a ++ b)) : Alls a ∧ Alls b := by
  induction a with
  | nil => exact ⟨trivial, h⟩
  | cons p a IH => exact ⟨⟨h.1, (IH h.2).1⟩, (IH h.2).2⟩

/-- The same frame but for its slots. -/
structure SameB (s s' : Fr) : Prop where
  fn : s'.fn = s.fn
  n : s'.n = s.n
  marks : s'.marks = s.marks
  defers : s'.defers = s.defers
  round : s'.round = s.round
  dk : s'.dk = s.dk
  did : s'.did = s.did
theorem SameB.refl (s : Fr) : SameB s s := ⟨rfl, rfl, rfl, rfl, rfl, rfl, rfl⟩
theorem SameB.trans {a b c : Fr} (h : SameB a b) (k : SameB b c) : SameB a c := ⟨k.fn.trans h.fn, k.n.trans h.n, k.marks.trans h.marks, k.defers.trans h.defers, k.round.trans h.round, k.dk.trans h.dk, k.did.trans h.did⟩
theorem SameB.put {s s1 : Fr} {d : Option Tmp} {v : V} (hp : s.put d v = some s1) : SameB s s1 := by
  cases d with
  | none =>
    change some s = some s1 at hp
    cases hp; exact .refl _
  | some d =>
    cases hb : Nat.blt d s.n with
    | false => rw [Fr.put_no hb] at hp; cases hp
    | true =>
      rw [Fr.put_st hb] at hp
      cases hp
      exact ⟨rfl, rfl, rfl, rfl, rfl, rfl, rfl⟩
theorem SameB.on (b : Fr) (L : List (Nat × V)) : SameB b (b.on L) := ⟨rfl, rfl, rfl, rfl, rfl, rfl, rfl⟩
theorem SameB.keep {b s : Fr} {ks : List Nat} {L : List (Nat × V)} (h : SameB b s) (hk : keepV s ks = L) : Le (b.on L) s :=
  Le.keep hk h.fn.symm h.n.symm h.marks.symm h.defers.symm h.round.symm h.dk.symm h.did.symm

noncomputable def putS (s : Fr) (o : Oper) (v : V) (h : Heap) (φ : List Prop) : Option (Fr × Heap × List Prop) :=
  match s.put o.dst v with
  | some s1 => some (s1, h, φ)
  | none => none
noncomputable def primO (E : Env) (s : Fr) (o : Oper) (r : Rs) : Option (Fr × Heap × List Prop) :=
  match r with
  | .call f args h1 => match primS E f args h1 with
    | some (v, h2) => putS s o v h2 []
    | none => none
  | _ => none
noncomputable def stepS (P : Program) (E : Env) (all : List Oper) (o : Oper) (s : Fr) (h : Heap) : Option (Fr × Heap × List Prop) :=
  match wanted all s o with
  | none => none
  | some t => bif t then
      (match operS (E.lit s.fn) P E.glob s.tm h o with
      | .val v h1 => putS s o v h1 []
      | .obl v h1 φ => putS s o v h1 [φ]
      | .skip h1 => putS s o undef h1 []
      | .no => primO E s o (operE (E.lit s.fn) P E.glob s.tm h o))
    else putS s o undef h []
noncomputable def runB (P : Program) (E : Env) (all : List Oper) (n : Nat) : List Oper → Fr → Heap → Option (Fr × Heap × List Prop) :=
  Nat.rec (motive := fun _ => List Oper → Fr → Heap → Option (Fr × Heap × List Prop)) (fun _ s h => some (s, h, []))
    (fun _ ih l s h => match l with
      | [] => none
      | o :: l => match stepS P E all o s h with
        | none => none
        | some (s1, h1, φ) => match ih l s1 h1 with
          | none => none
          | some (s2, h2, φs) => some (s2, h2, φ ++ φs)) n
noncomputable def sumB (ks : List Nat) (r : Option (Fr × Heap × List Prop)) : Option (List (Nat × V) × Heap × List Prop) :=
  match r with
  | some (s, h, φs) => some (keepV s ks, h, φs)
  | none => none
noncomputable def sumP (ks : List Nat) (r : Option Fr) : Option (List (Nat × V)) :=
  match r with
  | some s => some (keepV s ks)
  | none => none

theorem putS_some {s : Fr} {o : Oper} {v : V} {h : Heap} {φ : List Prop} {r : Fr × Heap × List Prop} (hp : putS s o v h φ = some r) : ∃ s1, s.put o.dst v = some s1 ∧ r = (s1, h, φ) := by
  unfold putS at hp
  split at hp
  · rename_i s1 e; cases hp; exact ⟨s1, e, rfl⟩
  · cases hp
theorem stepS_ok {all l : List Oper} {o : Oper} {s s1 : Fr} {h h1 : Heap} {φ : List Prop} (hs : stepS P E all o s h = some (s1, h1, φ)) (hφ : Alls φ) : SameB s s1 ∧ (∀ K X N, Wl P E all l s1 h1 K X N → Wl P E all (o :: l) s h K X N) := by
  unfold stepS at hs
  · cases hw : wanted all s o with
    | none => rw [hw] at hs; cases hs
    | some t =>
      rw [hw] at hs
      cases t with
      | false =>
        obtain ⟨s1', hp, e⟩ := putS_some hs
        cases e
        exact ⟨.put hp, fun K X N hr => Wl.not hw hp hr⟩
      | true =>
        simp only [cond_true] at hs
        have hok := operS_ok (P := P) (E.lit s.fn) E.glob s.tm h o
        cases ho : operS (E.lit s.fn) P E.glob s.tm h o with
        | val v h' =>
          rw [ho] at hs hok
          obtain ⟨s1', hp, e⟩ := putS_some hs
          cases e
          exact ⟨.put hp, fun K X N hr => Wl.val v hw hok hp hr⟩
        | obl v h' ψ =>
          rw [ho] at hs hok
          obtain ⟨s1', hp, e⟩ := putS_some hs
          cases e
          exact ⟨.put hp, fun K X N hr => Wl.val v hw (hok hφ.1) hp hr⟩
        | skip h' =>
          rw [ho] at hs hok
          obtain ⟨s1', hp, e⟩ := putS_some hs
          cases e
          exact ⟨.put hp, fun K X N hr => Wl.store hw hok hp hr⟩
        | no =>
          rw [ho] at hs
          simp only at hs
          cases hr : operE (E.lit s.fn) P E.glob s.tm h o with
          | call f args h' =>
            rw [hr] at hs
            change (match primS E f args h' with | some (v, h2) => putS s o v h2 [] | none => none) = some (s1, h1, φ) at hs
            cases hq : primS E f args h' with
            | none => rw [hq] at hs; cases hs
            | some p =>
              obtain ⟨v, h2⟩ := p
              rw [hq] at hs
              obtain ⟨s1', hp, e⟩ := putS_some hs
              cases e
              unfold primS at hq
              cases hsh : E.shared f with
              | true => rw [hsh] at hq; cases hq
              | false =>
                rw [hsh] at hq
                simp only [cond_false] at hq
                split at hq
                · cases hq
                · rename_i gs h1' ha
                  split at hq
                  · rename_i v1 hv1
                    exact ⟨.put hp, fun K X N hr2 => Wl.came hw hr (prim_came hsh ha hv1 hq) hp hr2⟩
                  · cases hq
          | _ => rw [hr] at hs; cases hs
theorem runB_ok {all : List Oper} (n : Nat) : ∀ {l : List Oper} {s s2 : Fr} {h h2 : Heap} {φs : List Prop}, runB P E all n l s h = some (s2, h2, φs) → Alls φs → SameB s s2 ∧ (∀ K X N, Wl P E all (l.drop n) s2 h2 K X N → Wl P E all l s h K X N) := by
  induction n with
  | zero =>
    intro l s s2 h h2 φs hr _
    change some (s, h, []) = some (s2, h2, φs) at hr
    cases hr
    exact ⟨.refl _, fun K X N hw => hw⟩
  | succ n IH =>
    intro l s s2 h h2 φs hr hφ
    cases l with
    | nil => cases hr
    | cons o l =>
      change (match stepS P E all o s h with
        | none => none
        | some (s1, h1, φ) => match runB P E all n l s1 h1 with
          | none => none
          | some (s2, h2, φs) => some (s2, h2, φ ++ φs)) = some (s2, h2, φs) at hr
      cases hs : stepS P E all o s h with
      | none => rw [hs] at hr; cases hr
      | some p =>
        obtain ⟨s1, h1, φ⟩ := p
        rw [hs] at hr
        simp only at hr
        cases hq : runB P E all n l s1 h1 with
        | none => rw [hq] at hr; cases hr
        | some q =>
          obtain ⟨s2', h2', φs'⟩ := q
          rw [hq] at hr
          cases hr
          obtain ⟨a1, a2⟩ := Alls.app hφ
          obtain ⟨b1, b2⟩ := stepS_ok (l := l) hs a1
          obtain ⟨c1, c2⟩ := IH hq a2
          exact ⟨b1.trans c1, fun K X N hw => b2 K X N (c2 K X N hw)⟩
theorem sumB_some {ks : List Nat} {r : Option (Fr × Heap × List Prop)} {L : List (Nat × V)} {h : Heap} {φs : List Prop} (hb : sumB ks r = some (L, h, φs)) : ∃ s, r = some (s, h, φs) ∧ keepV s ks = L := by
  unfold sumB at hb
  split at hb
  · cases hb; exact ⟨_, rfl, rfl⟩
  · cases hb
theorem sumP_some {ks : List Nat} {r : Option Fr} {L : List (Nat × V)} (hb : sumP ks r = some L) : ∃ s, r = some s ∧ keepV s ks = L := by
  unfold sumP at hb
  split at hb
  · cases hb; exact ⟨_, rfl, rfl⟩
  · cases hb

/-- All operations of a region. -/
theorem Wc.whole {id : Nat} {ops : Array Oper} {b : Fr} {L : List (Nat × V)} {h : Heap} (ks : List Nat) (L' : List (Nat × V)) (h' : Heap) (φs : List Prop) (hb : sumB ks (runB P E ops.toList (List.len ops.toList) ops.toList (b.on L) h) = some (L', h', φs)) (ho : Alls φs) (hk : K (b.on L') h') : Wc P E (.region id ops false) (b.on L) h K X N := by
  obtain ⟨s, hr, hL⟩ := sumB_some hb
  obtain ⟨h1, h2⟩ := runB_ok _ hr ho
  refine Wc.region (h2 K X N ?_)
  rw [List.len_eq, List.drop_length]
  exact (Wl.nil hk).weak (((SameB.on b L).trans h1).keep hL)
theorem Wc.enter {id : Nat} {ops : Array Oper} {s : Fr} {h : Heap} (ho : Wl P E ops.toList (ops.toList.drop 0) s h K X N) : Wc P E (.region id ops false) s h K X N := Wc.region ho
/-- Some of a region's operations. -/
theorem Wl.batch {all : List Oper} {b : Fr} {L : List (Nat × V)} {h : Heap} (i j : Nat) (ks : List Nat) (L' : List (Nat × V)) (h' : Heap) (φs : List Prop) (hb : sumB ks (runB P E all (j - i) (all.drop i) (b.on L) h) = some (L', h', φs)) (hij : Nat.ble i j = true) (ho : Alls φs) (hk : Wl P E all (all.drop j) (b.on L') h' K X N) : Wl P E all (all.drop i) (b.on L) h K X N := by
  obtain ⟨s, hr, hL⟩ := sumB_some hb
  obtain ⟨h1, h2⟩ := runB_ok _ hr ho
  refine h2 K X N ?_
  rw [Nat.ble_eq] at hij
  rw [List.drop_drop, show i + (j - i) = j by omega]
  exact hk.weak (((SameB.on b L).trans h1).keep hL)
theorem Wl.done {all : List Oper} {s : Fr} {h : Heap} (j : Nat) (hj : Nat.ble (List.len all) j = true) (hk : K s h) : Wl P E all (all.drop j) s h K X N := by
  rw [Nat.ble_eq, List.len_eq] at hj
  rw [List.drop_eq_nil_of_le hj]
  exact Wl.nil hk

/-- The operation at a place, if all that it looks at is known, and it is wanted. -/
noncomputable def opAt (all : List Oper) (i : Nat) (s : Fr) : Option Oper :=
  match List.at all i with
  | none => none
  | some o => match wanted all s o with
    | some true => some o
    | _ => none
theorem opAt_some {all : List Oper} {i : Nat} {s : Fr} {o : Oper} (h : opAt all i s = some o) : all.drop i = o :: all.drop (i + 1) ∧ wanted all s o = some true := by
  unfold opAt at h
  rw [List.at_eq] at h
  cases ho : all[i]? with
  | none => rw [ho] at h; cases h
  | some o' =>
    rw [ho] at h
    simp only at h
    split at h
    · rename_i hw
      cases h
      obtain ⟨hi, e⟩ := List.getElem?_eq_some_iff.1 ho
      exact ⟨by rw [List.drop_eq_getElem_cons hi, e], hw⟩
    · cases h
/-- An operation whose value is given. -/
theorem Wl.opv {all : List Oper} {b : Fr} {L : List (Nat × V)} {h h1 : Heap} {o : Oper} {v : V} (i : Nat) (ks : List Nat) (L' : List (Nat × V)) (ho : opAt all i (b.on L) = some o) (he : operE (E.lit b.fn) P E.glob (b.on L).tm h o = .val v h1) (hp : sumP ks ((b.on L).put o.dst v) = some L') (hk : Wl P E all (all.drop (i + 1)) (b.on L') h1 K X N) : Wl P E all (all.drop i) (b.on L) h K X N := by
  obtain ⟨e, h2⟩ := opAt_some ho
  obtain ⟨s1, hp1, hL⟩ := sumP_some hp
  rw [e]
  exact Wl.val v h2 he hp1 (hk.weak (((SameB.on b L).trans (.put hp1)).keep hL))

/-- A load, a call: what of, and whereto. -/
noncomputable def loadAt (E : Env) (all : List Oper) (i : Nat) (s : Fr) : Option (TypeId × V × Option Tmp) :=
  match opAt all i s with
  | none => none
  | some o => match o.op with
    | .load t x => match ev E.glob s.tm x with
      | some a => some (t, a, o.dst)
      | none => none
    | _ => none
theorem Wl.load {all : List Oper} {b : Fr} {L : List (Nat × V)} {h : Heap} {t : TypeId} {a : V} {d : Option Tmp} (i : Nat) (v : V) (ks : List Nat) (L' : List (Nat × V)) (ho : loadAt E all i (b.on L) = some (t, a, d)) (hv : load P h t a = some v) (hp : sumP ks ((b.on L).put d v) = some L') (hk : Wl P E all (all.drop (i + 1)) (b.on L') h K X N) : Wl P E all (all.drop i) (b.on L) h K X N := by
  unfold loadAt at ho
  split at ho
  · cases ho
  · rename_i o hoa
    split at ho
    · rename_i t' x hop
      split at ho
      · rename_i a' hev
        cases ho
        refine Wl.opv i ks L' hoa (v := v) (h1 := h) ?_ hp hk
        rw [operE_plain (fun _ _ _ e => by rw [hop] at e; cases e)]
        unfold oper
        rw [hop, operD_load, o1_def, hev]
        simp only [hv]
        rfl
      · cases ho
    · cases ho

noncomputable def callAt (P : Program) (E : Env) (all : List Oper) (i : Nat) (s : Fr) (h : Heap) : Option (FuncId × List V × Heap × Option Tmp) :=
  match opAt all i s with
  | none => none
  | some o => match operE (E.lit s.fn) P E.glob s.tm h o with
    | .call f args h1 => some (f, args, h1, o.dst)
    | _ => none
theorem Wl.callC {all : List Oper} {b : Fr} {L : List (Nat × V)} {h h1 h2 : Heap} {f : FuncId} {args : List V} {v : V} {d : Option Tmp} (i : Nat) (ks : List Nat) (L' : List (Nat × V)) (hc : Came P E f args h1 v h2) (ho : callAt P E all i (b.on L) h = some (f, args, h1, d)) (hp : sumP ks ((b.on L).put d v) = some L') (hk : Wl P E all (all.drop (i + 1)) (b.on L') h2 K X N) : Wl P E all (all.drop i) (b.on L) h K X N := by
  unfold callAt at ho
  split at ho
  · cases ho
  · rename_i o hoa
    split at ho
    · rename_i f' args' h1' hr
      cases ho
      obtain ⟨e, k2⟩ := opAt_some hoa
      obtain ⟨s1, hp1, hL⟩ := sumP_some hp
      rw [e]
      exact Wl.came k2 hr hc hp1 (hk.weak (((SameB.on b L).trans (.put hp1)).keep hL))
    · cases ho
/-- A call of pure data: the arguments as data, the heap then. -/
noncomputable def pureAt (P : Program) (E : Env) (all : List Oper) (i : Nat) (s : Fr) (h : Heap) : Option (FuncId × List V × Heap × Option Tmp) :=
  match callAt P E all i s h with
  | none => none
  | some (f, args, h1, d) => bif E.shared f then none else match pubL (pub [] depth) args h1 with
    | none => none
    | some (gs, h2) => match E.prim f gs with
      | none => some (f, gs, Bool.rec h2 h1 (E.borrow f), d)
      | some _ => none
theorem Wl.callP {all : List Oper} {b : Fr} {L : List (Nat × V)} {h h1 h2 : Heap} {f : FuncId} {gs : List V} {g v : V} {d : Option Tmp} (i : Nat) (ks : List Nat) (L' : List (Nat × V)) (hc : Cp P E f gs g) (ho : pureAt P E all i (b.on L) h = some (f, gs, h1, d)) (ht : give E f h1 g = some (v, h2)) (hp : sumP ks ((b.on L).put d v) = some L') (hk : Wl P E all (all.drop (i + 1)) (b.on L') h2 K X N) : Wl P E all (all.drop i) (b.on L) h K X N := by
  unfold pureAt at ho
  split at ho
  · cases ho
  · rename_i f' args h1' d' hca
    cases hs : E.shared f' with
    | true => rw [hs] at ho; cases ho
    | false =>
      rw [hs] at ho
      simp only [cond_false] at ho
      split at ho
      · cases ho
      · rename_i gs' h2' ha
        split at ho
        · rename_i hn
          cases ho
          exact Wl.callC i ks L' (hc.came hs ha hn ht) hca hp hk
        · cases ho
/-- A call that shares the heap. -/
noncomputable def sharedAt (P : Program) (E : Env) (all : List Oper) (i : Nat) (s : Fr) (h : Heap) : Option (FuncId × List V × Heap × Option Tmp) :=
  match callAt P E all i s h with
  | none => none
  | some (f, args, h1, d) => bif E.shared f && !(E.pubRet f) then some (f, args, h1, d) else none
theorem Wl.callS {all : List Oper} {b : Fr} {L : List (Nat × V)} {h h1 h2 : Heap} {f : FuncId} {args : List V} {v : V} {d : Option Tmp} (i : Nat) (ks : List Nat) (L' : List (Nat × V)) (hc : Cs P E f args h1 v h2) (ho : sharedAt P E all i (b.on L) h = some (f, args, h1, d)) (hp : sumP ks ((b.on L).put d v) = some L') (hk : Wl P E all (all.drop (i + 1)) (b.on L') h2 K X N) : Wl P E all (all.drop i) (b.on L) h K X N := by
  unfold sharedAt at ho
  split at ho
  · cases ho
  · rename_i f' args' h1' d' hca
    cases hs : (E.shared f' && !(E.pubRet f')) with
    | false => rw [hs] at ho; cases ho
    | true =>
      rw [hs] at ho
      cases ho
      simp only [Bool.and_eq_true, Bool.not_eq_true'] at hs
      exact Wl.callC i ks L' (hc.came hs.1 hs.2) hca hp hk

/-- A heap, by what was laid in it. -/
noncomputable def hp (l : List Obj) : Heap := List.rec (motive := fun _ => Heap → Heap) (fun h => h) (fun o _ ih h => ih (h.new o)) l Heap.empty

/-- What a slot holds is made plain. -/
theorem Wl.known {all l : List Oper} {b : Fr} {L : List (Nat × V)} {h : Heap} (L' : List (Nat × V)) (hL : L = L') (hk : Wl P E all l (b.on L') h K X N) : Wl P E all l (b.on L) h K X N := by
  subst hL; exact hk
theorem Wc.known {c : Code} {b : Fr} {L : List (Nat × V)} {h : Heap} (L' : List (Nat × V)) (hL : L = L') (hk : Wc P E c (b.on L') h K X N) : Wc P E c (b.on L) h K X N := by
  subst hL; exact hk
theorem retX.mk {fn : Func} {R : V → Heap → Prop} {b : Fr} {L : List (Nat × V)} {h : Heap} (v : V) (hm : b.marks = [] ∧ b.defers = []) (hv : resultsS P fn (b.on L) h = some v) (hR : R v h) : retX P fn R (b.on L) h := ⟨hm.2, h, by show killMarks b.marks h = some h; rw [hm.1]; rfl, v, hv, hR⟩
theorem retX.marks {fn : Func} {R : V → Heap → Prop} {b : Fr} {L : List (Nat × V)} {h : Heap} (h1 : Heap) (v : V) (hd : b.defers = []) (hm : killMarks b.marks h = some h1) (hv : resultsS P fn (b.on L) h1 = some v) (hR : R v h1) : retX P fn R (b.on L) h := ⟨hd, h1, hm, v, hv, hR⟩

/-- A text that is gone over: the rune at a place, and how many bytes it has. -/
def runeAt (s : List UInt8) (pos : Nat) : Nat := (Utf8.decode ⟨⟨s⟩⟩ pos).1
def lenAt (s : List UInt8) (pos : Nat) : Nat := (Utf8.decode ⟨⟨s⟩⟩ pos).2
noncomputable def nextAt (E : Env) (all : List Oper) (i : Nat) (s : Fr) (h : Heap) : Option (Nat × List UInt8 × Nat × Option Tmp) :=
  match opAt all i s with
  | none => none
  | some o => match o.op with
    | .next it isString => bif isString then (match ev E.glob s.tm it with
      | some (.iter r) => match h.get r with
        | .siter x pos => some (r, x, pos, o.dst)
        | _ => none
      | _ => none) else none
    | _ => none
theorem Wl.next {all : List Oper} {b : Fr} {L : List (Nat × V)} {h : Heap} {d : Option Tmp} (i r : Nat) (x : List UInt8) (pos : Nat) (h1 : Heap) (ks : List Nat) (L1 L2 : List (Nat × V)) (ho : nextAt E all i (b.on L) h = some (r, x, pos, d)) (hh : h.set r (.siter x (pos + lenAt x pos)) = h1)
    (hp1 : sumP ks ((b.on L).put d (.tup [.bool true, .int .i64 (pos : Int), .int .i32 (runeAt x pos : Int)])) = some L1) (hp2 : sumP ks ((b.on L).put d (.tup [.bool false])) = some L2)
    (hk1 : pos < x.length → Wl P E all (all.drop (i + 1)) (b.on L1) h1 K X N) (hk2 : x.length ≤ pos → Wl P E all (all.drop (i + 1)) (b.on L2) h K X N) : Wl P E all (all.drop i) (b.on L) h K X N := by
  unfold nextAt at ho
  split at ho
  · cases ho
  · rename_i o hoa
    split at ho
    · rename_i it isString hop
      cases isString with
      | false => cases ho
      | true =>
        simp only [cond_true] at ho
        split at ho
        · rename_i r' hev
          split at ho
          · rename_i x' pos' hget
            cases ho
            have hE : operE (E.lit b.fn) P E.glob (b.on L).tm h o = oNext E.glob (b.on L).tm h it true := by
              rw [operE_plain (fun _ _ _ e => by rw [hop] at e; cases e)]
              unfold oper
              rw [hop]; rfl
            have hN : oNext E.glob (b.on L).tm h it true = bif Nat.blt pos (List.len x) then .val (.tup [.bool true, .int .i64 (Int.ofNat pos), .int .i32 (Int.ofNat (Utf8.decode ⟨⟨x⟩⟩ pos).1)]) (h.set r (.siter x (Nat.add pos (Utf8.decode ⟨⟨x⟩⟩ pos).2))) else .val (.tup [.bool false]) h := by
              unfold oNext
              simp only [cond_true, hev, hget]
            by_cases hlt : pos < x.length
            · refine Wl.opv i ks L1 hoa (v := .tup [.bool true, .int .i64 (pos : Int), .int .i32 (runeAt x pos : Int)]) (h1 := h1) ?_ hp1 (hk1 hlt)
              have e1 : Nat.blt pos (List.len x) = true := by rw [Nat.blt_eq, List.len_eq]; exact hlt
              rw [hE, hN, e1, ← hh]; rfl
            · refine Wl.opv i ks L2 hoa (v := .tup [.bool false]) (h1 := h) ?_ hp2 (hk2 (by omega))
              have e1 : Nat.blt pos (List.len x) = false := by
                rw [Bool.eq_false_iff]; intro q; rw [Nat.blt_eq, List.len_eq] at q; exact hlt q
              rw [hE, hN, e1]; rfl
          · cases ho
        · cases ho
    · cases ho

/-- Two ways through what is left of a region meet at its end. -/
theorem Wl.join {all l : List Oper} {s b : Fr} {h : Heap} {p : Prop} [Decidable p] (L' : List (Nat × V)) (h' : Heap) (h1 : p → Wl P E all l s h (fun s1 h1 => Le (b.on L') s1 ∧ h1 = h') X N) (h2 : ¬ p → Wl P E all l s h (fun s1 h1 => Le (b.on L') s1 ∧ h1 = h') X N) (hk : K (b.on L') h') : Wl P E all l s h K X N := by
  intro hF B w0 g0 g w a fr k cs ops i e1 e2 hD hg hW hG hf
  have key : Wl P E all l s h (fun s1 h1 => Le (b.on L') s1 ∧ h1 = h') X N := by
    by_cases hp : p
    · exact h1 hp
    · exact h2 hp
  obtain ⟨e, s1, hh, g1, a1, w1, q1, q2, q3, q4, q5⟩ := key hF a fr k cs ops i e1 e2 hD hg hW hG hf
  cases e with
  | normal =>
    obtain ⟨hl, he⟩ := q5
    subst he
    exact ⟨.normal, _, _, g1, a1, w1, q1, q2, hl.ok q3, q4, hk⟩
  | exit id => exact ⟨.exit id, s1, hh, g1, a1, w1, q1, q2, q3, q4, q5⟩
  | goto l => exact q4.elim
  | ret => exact ⟨.ret, s1, hh, g1, a1, w1, q1, q2, q3, q4, q5⟩
  | panic y => exact ⟨.panic y, s1, hh, g1, a1, w1, q1, q2, q3, q4, q5⟩
/-- Two ways that do not meet. -/
theorem Wl.split {all l : List Oper} {s : Fr} {h : Heap} {p : Prop} [Decidable p] (h1 : p → Wl P E all l s h K X N) (h2 : ¬ p → Wl P E all l s h K X N) : Wl P E all l s h K X N := by
  by_cases hp : p
  · exact h1 hp
  · exact h2 hp
theorem decAnd {p q : Prop} [Decidable p] [Decidable q] (h : p) : decide (p ∧ q) = decide q := by simp [h]
theorem decAndF {p q : Prop} [Decidable p] [Decidable q] (h : ¬ p) : decide (p ∧ q) = false := by simp [h]
theorem decOr {p q : Prop} [Decidable p] [Decidable q] (h : p) : decide (p ∨ q) = true := by simp [h]
theorem decOrF {p q : Prop} [Decidable p] [Decidable q] (h : ¬ p) : decide (p ∨ q) = decide q := by simp [h]
theorem decAndN {p q : Prop} [Decidable p] [Decidable q] (h : p) : decide (p ∧ ¬ q) = !decide q := by simp [h]
theorem decOrN {p q : Prop} [Decidable p] [Decidable q] (h : ¬ p) : decide (p ∨ ¬ q) = !decide q := by simp [h]
theorem Le.on' {b : Fr} {L L' : List (Nat × V)} (ks : List Nat) (L1 : List (Nat × V)) (hk : keepV (b.on L) ks = L1) (he : L1 = L') : Le (b.on L') (b.on L) := by
  subst he; exact Le.on ks hk

end Go.AM

/-
  LOOPS OVER FUNCTIONS, over states of which a part is known; functions without a body.
-/
namespace Go.AM
open Go.RowKit

variable {P : Program} {E : Env} {K : Fr → Heap → Prop} {X : Ex → Fr → Heap → Prop} {N : Nat}

/-- A function without a Go body. -/
theorem Cp.ext {f : FuncId} {fn : Func} {gs : List V} {g v : V} {h : Heap} (hf : P.funcs[f]? = some fn) (hb : fn.body = none) (hx : extern P fn gs Heap.empty = some (v, h)) (hr : retAll h v = some g) : Cp P E f gs g :=
  Cx.pure fun _ _ _ _ _ _ _ hW _ hs => ⟨v, h, hr, by
    obtain ⟨g', w', u, h1, h2, h3, h4⟩ := extern_ok hW hs hf hb hx
    exact ⟨g', w', u, h1, h2, h3, .inl h4⟩⟩
theorem Cs.ext {f : FuncId} {fn : Func} {args : List V} {v : V} {h h' : Heap} (hf : P.funcs[f]? = some fn) (hb : fn.body = none) (hx : extern P fn args h = some (v, h')) : Cs P E f args h v h' := fun _ _ _ _ _ _ _ hW _ hs => by
  obtain ⟨g', w', u, h1, h2, h3, h4⟩ := extern_ok hW hs hf hb hx
  exact ⟨g', w', u, h1, h2, h3, .inl h4⟩
/-- The slots of a loop's frame, as far as they are known. -/
def TSat (n : Nat) (L : List (Nat × V)) (tm : T V) : Prop := ∀ i, i < n → (mkT n L).get undef i = lost ∨ tm.get undef i = (mkT n L).get undef i

/-- What a loop goes over: a function that shares the heap, and its arguments. -/
noncomputable def rangeAt (E : Env) (f : Operand) (s : Fr) (l : Nat) : Option (FuncId × List V) :=
  bif knownO s f then (match ev E.glob s.tm f with
    | some fv => (match fv with
      | .func fn first cap => (match fn with
        | .func g => bif E.shared g then some (g, List.app (List.app first [.func (.yield l) [] []]) cap) else none
        | _ => none)
      | _ => none)
    | none => none) else none
/-- What a loop comes to behind its function's end. -/
def rEnd (P : Program) (E : Env) (l fn n : Nat) (ps : List Tmp) (as bd : Code) (d : Nat) (s : Fr) (K : Fr → Heap → Prop) (X : Ex → Fr → Heap → Prop) (N : Nat) (_ : V) (h : Heap) : Prop :=
  ∃ st pd tm, h.get l = .loop st pd fn n tm ps as bd d ∧ st ≠ .busy ∧ (match pd with
    | none => K s (h.set l (.loop .exhausted none fn n tm ps as bd d))
    | some c => Wc P E c s (h.set l (.loop .exhausted (some c) fn n tm ps as bd d)) K X N)
theorem Wc.range {f : Operand} {params : Array Tmp} {as bd : Code} {b : Fr} {L : List (Nat × V)} {h : Heap} {q : FuncId} {args : List V} (hro : b.round = none) (hde : b.defers = []) (ho : rangeAt E f (b.on L) (h.n + 1) = some (q, args))
    (_hnn : (h.new .defs).n = h.n + 1)
    (hw : ∀ tm, TSat b.n L tm → tm = mkT b.n L → Cx P E q args ((h.new .defs).new (.loop .ready none b.fn b.n tm params.toList as bd h.n)) (rEnd P E (h.n + 1) b.fn b.n params.toList as bd h.n ({ b with marks := h.n :: b.marks }.on L) K X N)) : Wc P E (.rangeFunc f params as bd) (b.on L) h K X N := by
  intro hF B w0 g0 g w a bf k cs hD hg hW hG hf
  have hGg := hG.mono hg.ext.S
  unfold rangeAt at ho
  cases hk : knownO (b.on L) f with
  | false => rw [hk] at ho; cases ho
  | true =>
    rw [hk] at ho
    simp only [cond_true] at ho
    split at ho
    · rename_i fv hfv
      split at ho
      · rename_i fnv first cap
        split at ho
        · rename_i q'
          cases hsh : E.shared q' with
          | false => rw [hsh] at ho; cases ho
          | true =>
            rw [hsh] at ho
            cases ho
            have hro' : bf.roundOf = none := by have := hf.round; change RoundOk g bf.roundOf b.round at this; rw [hro] at this; exact this
            have hmk0 := hf.marks
            change DefsOk g a.defers b.marks b.defers at hmk0
            rw [hde] at hmk0
            have hmk0 := hmk0.marks
            let o1 : Go.Obj := .deferred (some [])
            let Lp : Loop := { state := .ready, pending := none, fn := bf.fn, tmps := a.tmps, params := params, assign := as, body := bd, defers := w.heap.size }
            let w1 : World := { w with heap := w.heap.push o1 }
            let w2 : World := { w1 with heap := w1.heap.push (.loop Lp) }
            let g1 := g.new h.n (w.heap.size, 0, 0) none
            have hW1 : W B w0 g1 (h.new .defs) w1 := hW.alloc o1 .defs 0 0 (heap_push_new w _)
            have hn1 : (h.new .defs).n = h.n + 1 := Heap.n_new _ _
            let g2 := g1.new (h.new .defs).n (w1.heap.size, 0, 0) none
            have hx1 : Grown B g g1 := Grown.new hW _ _
            have hx2 : Grown B g1 g2 := Grown.new hW1 _ _
            have hgg := hx1.trans hx2
            have hdv : g2.vr h.n = none ∧ g2.mu h.n = some (w.heap.size, 0, 0) := by
              have : ¬ h.n = h.n + 1 := by omega
              simp [g2, g1, Gh.new, hn1]
            have hlv : g2.vr (h.new .defs).n = none ∧ g2.mu (h.new .defs).n = some (w1.heap.size, 0, 0) := by simp [g2, Gh.new]
            have hW2 : W B w0 g2 ((h.new .defs).new (.loop .ready none b.fn b.n (mkT b.n L) params.toList as bd h.n)) w2 := by
              refine hW1.alloc (.loop Lp) (.loop .ready none b.fn b.n (mkT b.n L) params.toList as bd h.n) 0 0 ?_
              exact ⟨hf.slots.none, Lp, heap_push_new w1 _, rfl, rfl, hf.fn, hf.slots.size, fun i v hv => (hf.slots.rel i v hv).imp id fun q => q.mono hgg.ext, rfl, rfl, rfl, hdv.1, _, hdv.2⟩
            have henter : (Instr.enterLoop bf.fn a.tmps params as bd bf.roundOf).run P w = .ok (w1.heap.size, [{ target := .collected w.heap.size, args := #[] }]) w2 := by
              rw [hro', run_enterLoop_outer]
              have : w1.heap.size = w.heap.size + 1 := by simp [w1]
              rw [this]; rfl
            have hfR : R g2 (a.eval f) (.func (.func q) first cap) := (ev_sound hf.slots hGg hfv).mono hgg.ext
            have hargs : Rs' g2 #[.func (.yield w1.heap.size) #[] #[]] [.func (.yield (h.new .defs).n) [] []] := ⟨rfl, fun i v x hv hx => by
              cases i with
              | zero => cases hv; cases hx; exact .yield hlv.1 hlv.2
              | succ i => simp at hv⟩
            have hgood := callV_good (P := P) hW2 hfR hargs
            have hgood' : Good P B w0 g2 ((do let d ← resolve a.eval (yieldCall f w1.heap.size) 0; invoke d.target d.args : Sem Next).run P w2) (.call q (List.app (List.app first [.func (.yield (h.n + 1)) [] []]) cap) ((h.new .defs).new (.loop .ready none b.fn b.n (mkT b.n L) params.toList as bd h.n))) := by
              have e : resolve a.eval (yieldCall f w1.heap.size) 0 = Deferred.ofValue (a.eval f) #[.func (.yield w1.heap.size) #[] #[]] := by simp [resolve, yieldCall, Act.eval]
              rw [e, ← hn1]; exact hgood
            obtain ⟨us, w3, g3, e, hg3, hW3, hs3⟩ := hgood'
            have hg03 := hgg.trans hg3
            have hfr : ∀ {g' : Gh}, Grown B g3 g' → FrOk g' bf ({ b with marks := h.n :: b.marks }.on L) { a with defers := [{ target := .collected w.heap.size, args := #[] }] ++ a.defers } := fun hg' => by
              have hall := hg03.trans hg'
              have hm := (hg3.trans hg').ext.obj _ _ hdv.1 hdv.2
              have hmk := hmk0.mono hall.ext
              refine ⟨hf.fn, hf.slots.mono hall.ext, hf.round.mono hall.ext, .inl ⟨hde, by show _ = (h.n :: b.marks).length; simp [hmk.1], fun i d m p q => ?_⟩⟩
              cases i with
              | zero => cases p; cases q; exact ⟨_, _, rfl, hm.1, hm.2⟩
              | succ i => exact hmk.2 i d m (by simpa using p) (by exact q)
            obtain ⟨y, h4, ⟨st, pe, tm, hget, hst, hend⟩, g4, w4, v, hg4, hW4, hR4, hret⟩ := hw (mkT b.n L) (fun i _ => .inr rfl) rfl hF (bf.atR { a with defers := [{ target := .collected w.heap.size, args := #[] }] ++ a.defers } (.inRangeFunc w1.heap.size :: k) :: cs) us hW3 (hGg.mono hg03.ext.S) hs3
            have hsteps : Steps P (lone (bf.atR a (.code (.rangeFunc f params as bd) :: k)) cs w) (lone (bf.atR { a with defers := [{ target := .collected w.heap.size, args := #[] }] ++ a.defers } (.endRangeFunc w1.heap.size :: k)) cs w4) := by
              rcases hret with hv | ⟨he, frx, s1, _, s2⟩
              · exact .one (step_range_value henter (e.trans hv))
              · exact .head (step_range_enter henter (e.trans he)) (s1.trans (.one (step_leave_returned s2)))
            obtain ⟨hlv4, hlm4⟩ := (hg3.trans hg4).ext.obj _ _ hlv.1 hlv.2
            rw [hn1] at hlv4 hlm4
            obtain ⟨L4, q1, q2, q3, hW5⟩ := W.setLoop (st' := .exhausted) (pe' := pe) hW4 hlv4 hlm4 hget
            have hendL : (Instr.endLoop w1.heap.size).run P w4 = .ok pe (w4.putObj w1.heap.size (.loop { L4 with state := .exhausted, pending := pe })) := by
              have := run_endLoop (P := P) q1 (by rw [q2]; exact hst)
              rw [q3] at this; exact this
            have hgall := hg.trans (hg03.trans hg4)
            have hall := hsteps.trans (.one (step_endRange hendL))
            cases pe with
            | none => exact ⟨.normal, _, _, g4, _, _, hgall, hW5, hfr hg4, hall, hend⟩
            | some c => exact .steps hall (hend hF _ bf k cs hD hgall hW5 hG (hfr hg4))
        · cases ho
      · cases ho
    · cases ho

/-- The frame of a loop's round. -/
def roundB (fn n l : Nat) : Fr := ⟨fn, n, .e, [], [], some l, none, false⟩
noncomputable def setL (n : Nat) (ps : List Tmp) (args : List V) (L : List (Nat × V)) (ks : List Nat) : Option (List (Nat × V)) :=
  match setParams ps n args (mkT n L) with
  | some t => some (keepV ⟨0, n, t, [], [], none, none, false⟩ ks)
  | none => none
theorem setParams_sat {n : Nat} (ps : List Tmp) : ∀ {args : List V} {t tm t' : T V}, (∀ i, i < n → t.get undef i = lost ∨ tm.get undef i = t.get undef i) → setParams ps n args t = some t' → ∃ tm', setParams ps n args tm = some tm' ∧ ∀ i, i < n → t'.get undef i = lost ∨ tm'.get undef i = t'.get undef i := by
  induction ps with
  | nil =>
    intro args t tm t' h hs
    cases args with
    | nil =>
      change some t = some t' at hs
      cases hs
      exact ⟨tm, rfl, h⟩
    | cons v args => cases hs
  | cons p ps IH =>
    intro args t tm t' h hs
    cases args with
    | nil => cases hs
    | cons v args =>
      change (bif Nat.blt p n then setParams ps n args (t.set undef v p) else none) = some t' at hs
      cases hp : Nat.blt p n with
      | false => rw [hp] at hs; cases hs
      | true =>
        rw [hp] at hs
        obtain ⟨tm', h1, h2⟩ := IH (t := t.set undef v p) (tm := tm.set undef v p) (fun i hi => by
          rw [T.get_set, T.get_set]
          split
          · exact .inr rfl
          · exact h i hi) hs
        refine ⟨tm', ?_, h2⟩
        change (bif Nat.blt p n then setParams ps n args (tm.set undef v p) else none) = some tm'
        rw [hp]; exact h1

/-- What comes behind a round. -/
def yEnd (l fn n : Nat) (tm : T V) (ps : List Tmp) (as bd : Code) (d : Nat) (C : Bool → Heap → Prop) (_ : Fr) (h : Heap) : Prop :=
  ∃ pd, h.get l = .loop .busy pd fn n tm ps as bd d ∧ C true (h.set l (.loop .ready none fn n tm ps as bd d))
def yOut (l fn n : Nat) (tm : T V) (ps : List Tmp) (as bd : Code) (d : Nat) (C : Bool → Heap → Prop) : Ex → Fr → Heap → Prop
  | .ret => fun _ h => ∃ pd, h.get l = .loop .busy pd fn n tm ps as bd d ∧ C false (h.set l (.loop .done (some .ret) fn n tm ps as bd d))
  | .exit id => fun _ h => ∃ pd, h.get l = .loop .busy pd fn n tm ps as bd d ∧ C false (h.set l (.loop .done (some (.exit id)) fn n tm ps as bd d))
  | _ => fun _ _ => False
def yBody (P : Program) (E : Env) (l fn n : Nat) (tm : T V) (ps : List Tmp) (as bd : Code) (d : Nat) (C : Bool → Heap → Prop) (N : Nat) (s : Fr) (h : Heap) : Prop :=
  ∃ pd, h.get l = .loop .ready pd fn n tm ps as bd d ∧ Wc P E bd s (h.set l (.loop .busy pd fn n tm ps as bd d)) (yEnd l fn n tm ps as bd d C) (yOut l fn n tm ps as bd d C) N
def noX (_ : Ex) (_ : Fr) (_ : Heap) : Prop := False
/-- What a round comes to: does the loop go on? -/
def Yx (P : Program) (E : Env) (l : Nat) (args : List V) (h : Heap) (R' : Bool → Heap → Prop) : Prop :=
  Fine P E → ∀ {B : Ns} {w0 : World} {g : Gh} {w : World} (c : Frame) (cs : List Frame) (b : Nat) (k : Nat × Nat) (us : Array Value), W B w0 g h w → GlobOk E.glob g.S → g.vr l = none → g.mu l = some (b, k) → Rs' g us args → ∃ v h', R' v h' ∧ YieldOk P B w0 g c cs b us w (.ret (.bool v) h')
theorem Ev.yield {l fn n d : Nat} {tm : T V} {ps : List Tmp} {as bd : Code} {args : List V} {h : Heap} {st : LoopState} {pd0 : Option Code} {L0 : List (Nat × V)} {C : Bool → Heap → Prop} (ks : List Nat) (L1 : List (Nat × V)) (hl : h.get l = .loop st pd0 fn n tm ps as bd d) (hT : TSat n L0 tm) (hp : setL n ps args L0 ks = some L1)
    (hw : Wc P E as ((roundB fn n l).on L1) h (yBody P E l fn n tm ps as bd d C h.n) noX h.n) : Yx P E l args h C := by
  intro hF B w0 g w c cs b k us hW hG hv hm hs
  have hobj := hW.obj l _ hm
  rw [hl] at hobj
  obtain ⟨hz, Lp, h1, h2, h3, h4, h5, h6, h7, h8, h9, h10, kd, h11⟩ := hobj
  unfold setL at hp
  cases hsp : setParams ps n args (mkT n L0) with
  | none => rw [hsp] at hp; cases hp
  | some t =>
    rw [hsp] at hp
    simp only [Option.some.injEq] at hp
    obtain ⟨tm', htm, hsat⟩ := setParams_sat ps hT hsp
    have hus : us.toList.length = args.length := by simpa using hs.1
    obtain ⟨hlen, hslots⟩ := setParams_ok ps us.toList args tm tm' Lp.tmps hus (fun i v x a q => hs.2 i v x (by simpa using a) q) ⟨h5, h6, hz⟩ htm
    have hround := run_yield (P := P) (args := us) h1 (by rw [hs.1, hlen, ← h7]; simp)
    have htmps : (Lp.params.zip us).foldl (fun tmps (t, a) => tmps.setIfInBounds t a) Lp.tmps = (ps.zip us.toList).foldl (fun (t : Array Value) (p : Tmp × Value) => t.setIfInBounds p.1 p.2) Lp.tmps := by
      rw [← Array.foldl_toList, Array.toList_zip, h7]
    rw [htmps] at hround
    let bf : Frame := { (default : Frame) with fn := fn, kind := .normal, roundOf := some b }
    let a : Act := { tmps := (ps.zip us.toList).foldl (fun (t : Array Value) (p : Tmp × Value) => t.setIfInBounds p.1 p.2) Lp.tmps, defers := [] }
    have hfr0 : Frame.round b fn a.tmps as bd .normal = bf.atR a [.code as, .beginRound, .code bd] := rfl
    have hf0 : FrOk g bf ⟨fn, n, tm', [], [], some l, none, false⟩ a := ⟨rfl, hslots, ⟨b, k, rfl, hv, hm⟩, DefsOk.nil g⟩
    have hle : Le ((roundB fn n l).on L1) ⟨fn, n, tm', [], [], some l, none, false⟩ := by
      refine ⟨rfl, rfl, rfl, rfl, rfl, rfl, rfl, fun i hi => ?_, fun i hi => mkT_out n L1 i hi⟩
      change (mkT n L1).get undef i = lost ∨ (mkT n L1).get undef i = tm'.get undef i
      rcases mkT_get n L1 i hi with e | ⟨v, hv', e⟩
      · exact .inl e
      · rw [← hp] at hv'
        have := keepV_mem hv'
        change v = t.get undef i at this
        subst this
        rcases hsat i hi with q | q
        · left; rw [e, q]
        · right; rw [e, q]
    rw [h4, h8, h9] at hround
    obtain ⟨e, s1, hh1, g1, a1, w1, q1, q2, q3, q4, q5⟩ := hw hF a bf [.beginRound, .code bd] (c :: cs) hW.domain (Grown.refl _ _) hW hG (hle.ok hf0)
    rw [← hfr0] at q4
    cases e with
    | normal =>
      obtain ⟨pd, hg1, hb⟩ := q5
      obtain ⟨hv1, hm1⟩ := q1.ext.obj _ _ hv hm
      obtain ⟨L1', r1, r2, r3, hW2⟩ := W.setLoop (st' := .busy) (pe' := pd) q2 hv1 hm1 hg1
      have hb1 := run_beginRound (P := P) r1 r2
      have hL1 : ({ L1' with state := .busy, pending := pd } : Loop) = { L1' with state := .busy } := by rw [← r3]
      rw [hL1] at hW2
      have hst2 : Steps P (lone (Frame.round b fn a.tmps as bd .normal) (c :: cs) w) (lone (bf.atR a1 [.code bd]) (c :: cs) _) := Steps.trans q4 (.one (stepR_beginRound (b := bf) rfl hb1))
      obtain ⟨e2, s2, hh2, g2, a2, w2, t1, t2, t3, t4, t5⟩ := hb hF a1 bf [] (c :: cs) hW.domain q1 hW2 hG q3
      obtain ⟨hv2, hm2⟩ := t1.ext.obj _ _ hv hm
      have last : ∀ (j : Option Code) (st : LoopState) (pe2 : Option Code), hh2.get l = .loop .busy pe2 fn n tm ps as bd d → (st = if j.isNone then .ready else .done) → ∃ w', (Instr.endRound b j).run P w2 = .ok (.bool j.isNone) w' ∧ W B w0 g2 (hh2.set l (.loop st j fn n tm ps as bd d)) w' := by
        intro j st pe2 hget2 hst
        obtain ⟨L2, u1, u2, u3, hW3⟩ := W.setLoop (st' := st) (pe' := j) t2 hv2 hm2 hget2
        exact ⟨_, endRound_eq u1 j st hst, hW3⟩
      cases e2 with
      | normal =>
        obtain ⟨pd2, hg2, hC⟩ := t5
        obtain ⟨w', e1, e2⟩ := last none .ready pd2 hg2 rfl
        exact ⟨true, _, hC, g2, w', _, t1, e2, .gnd (.bool _), fn, _, as, bd, hround, hst2.trans (Steps.trans t4 (.one (stepR_round_end (b := bf) rfl rfl e1)))⟩
      | ret =>
        obtain ⟨pd2, hg2, hC⟩ := t5
        obtain ⟨todo, hA3⟩ := t4
        obtain ⟨w', e1, e2⟩ := last (some .ret) .done pd2 hg2 rfl
        exact ⟨false, _, hC, g2, w', _, t1, e2, .gnd (.bool _), fn, _, as, bd, hround, hst2.trans (Steps.trans hA3 (.one (stepR_round_ret (b := bf) rfl rfl e1)))⟩
      | exit id =>
        obtain ⟨pd2, hg2, hC⟩ := t5
        obtain ⟨todo, hx, hA3⟩ := t4
        obtain ⟨w', e1, e2⟩ := last (some (.exit id)) .done pd2 hg2 rfl
        exact ⟨false, _, hC, g2, w', _, t1, e2, .gnd (.bool _), fn, _, as, bd, hround, hst2.trans (Steps.trans hA3 (.one (stepR_round_exit (b := bf) rfl rfl hx e1)))⟩
      | goto _ => exact absurd t5 id
      | panic _ => exact absurd t5 id
    | _ => exact absurd q5 id

/-- A round of a loop, run by an operation of the function that is gone over. -/
noncomputable def yieldAt (P : Program) (E : Env) (all : List Oper) (i : Nat) (s : Fr) (h : Heap) : Option (Nat × List V × Heap × Option Tmp) :=
  match opAt all i s with
  | none => none
  | some o => match operE (E.lit s.fn) P E.glob s.tm h o with
    | .yield l args h1 => some (l, args, h1, o.dst)
    | _ => none
/-- What the function does when the round is over. -/
def yNext (P : Program) (E : Env) (all : List Oper) (i : Nat) (b : Fr) (L : List (Nat × V)) (d : Option Tmp) (K : Fr → Heap → Prop) (X : Ex → Fr → Heap → Prop) (N : Nat) (v : Bool) (h : Heap) : Prop :=
  ∃ ks L', sumP ks ((b.on L).put d (.bool v)) = some L' ∧ Wl P E all (all.drop (i + 1)) (b.on L') h K X N
theorem Wl.yieldX {all : List Oper} {b : Fr} {L : List (Nat × V)} {h h1 : Heap} {l : Nat} {args : List V} {d : Option Tmp} (i : Nat) (ho : yieldAt P E all i (b.on L) h = some (l, args, h1, d)) (hw : Yx P E l args h1 (yNext P E all i b L d K X N)) : Wl P E all (all.drop i) (b.on L) h K X N := by
  unfold yieldAt at ho
  split at ho
  · cases ho
  · rename_i o hoa
    split at ho
    · rename_i l' args' h1' hr
      cases ho
      obtain ⟨e, k2⟩ := opAt_some hoa
      rw [e]
      intro hF B w0 g0 g w a bf k cs ops i' e1 e2 hD hg hW hG hf
      obtain ⟨ho', hl'⟩ := ops_at e1 e2
      subst e1
      have hgood := operE_good (P := P) (E.lit (b.on L).fn) hW hf.slots (hG.mono hg.ext.S) o
      have hr' : operE (E.lit (b.on L).fn) P E.glob (b.on L).tm h o = .yield l args h1 := hr
      have hsem := sem_known hf (o := o) (fun hd => absurd hd (not_defer hr' (by simp) (by simp)))
      rw [hr', ← hsem] at hgood
      obtain ⟨us, q, kk, w1, g1, e, hg1, hW1, hv, hm, hs⟩ := hgood
      rw [List.length_cons, List.range'_succ]
      obtain ⟨v, h2, ⟨ks', L', hput, hk⟩, g', w', u, hg', hW', hR, fn, tmps, as, bd, he, hst⟩ := hw hF (bf.atR a (.inRegion ops (i' :: List.range' (i' + 1) (List.drop (i + 1) ops.toList).length) :: k)) cs q kk us hW1 (hG.mono (hg.trans hg1).ext.S) hv hm hs
      obtain ⟨s1, hp1, hL⟩ := sumP_some hput
      have hgg := hg1.trans hg'
      have hk' := hk.weak (((SameB.on b L).trans (.put hp1)).keep hL)
      have hR := hR.bool_inv
      subst hR
      refine .steps ?_ (hk' hF (a.put o.dst (.bool v)) bf k cs ops (i' + 1) rfl hl' hD (hg.trans hgg) hW' hG ((hf.mono hgg.ext).put (.gnd (.bool v)) hp1))
      have hfin : (bf.atR a (.inRegion ops (i' :: List.range' (i' + 1) (List.drop (i + 1) ops.toList).length) :: k)).finish (.bool v) = bf.atR (a.put o.dst (.bool v)) (.inRegion ops (List.range' (i' + 1) (List.drop (i + 1) ops.toList).length) :: k) := by rw [Frame.finish_atR, ho']; rfl
      refine .head (apply_round ho' (wanted_sound hf k2) (e.trans he)) ?_
      rw [← hfin]; exact hst
    · cases ho
theorem Wl.yield {all : List Oper} {b : Fr} {L : List (Nat × V)} {h h1 : Heap} {l fn n dd : Nat} {tm : T V} {ps : List Tmp} {ag bd : Code} {args : List V} {st : LoopState} {pd0 : Option Code} {L0 : List (Nat × V)} {d : Option Tmp} (i : Nat) (ks : List Nat) (L1 : List (Nat × V)) (hT : TSat n L0 tm) (ho : yieldAt P E all i (b.on L) h = some (l, args, h1, d)) (hl : h1.get l = .loop st pd0 fn n tm ps ag bd dd) (hp : setL n ps args L0 ks = some L1)
    (hw : Wc P E ag ((roundB fn n l).on L1) h1 (yBody P E l fn n tm ps ag bd dd (yNext P E all i b L d K X N) h1.n) noX h1.n) : Wl P E all (all.drop i) (b.on L) h K X N :=
  Wl.yieldX i ho (Ev.yield ks L1 hl hT hp hw)

theorem rEnd.mk {l fn n d : Nat} {ps : List Tmp} {as bd : Code} {s : Fr} {v : V} {h : Heap} (st : LoopState) (tm : T V) (hg : h.get l = .loop st none fn n tm ps as bd d) (hst : st ≠ .busy) (hk : K s (h.set l (.loop .exhausted none fn n tm ps as bd d))) : rEnd P E l fn n ps as bd d s K X N v h := ⟨st, none, tm, hg, hst, hk⟩
theorem rEnd.mkC {l fn n d : Nat} {ps : List Tmp} {as bd : Code} {s : Fr} {v : V} {h : Heap} (st : LoopState) (c : Code) (tm : T V) (hg : h.get l = .loop st (some c) fn n tm ps as bd d) (hst : st ≠ .busy) (hk : Wc P E c s (h.set l (.loop .exhausted (some c) fn n tm ps as bd d)) K X N) : rEnd P E l fn n ps as bd d s K X N v h := ⟨st, some c, tm, hg, hst, hk⟩
theorem yBody.mk {l fn n d : Nat} {tm : T V} {ps : List Tmp} {as bd : Code} {C : Bool → Heap → Prop} {s : Fr} {h : Heap} (pd : Option Code) (hg : h.get l = .loop .ready pd fn n tm ps as bd d) (hw : Wc P E bd s (h.set l (.loop .busy pd fn n tm ps as bd d)) (yEnd l fn n tm ps as bd d C) (yOut l fn n tm ps as bd d C) N) : yBody P E l fn n tm ps as bd d C N s h := ⟨pd, hg, hw⟩
theorem yEnd.mk {l fn n d : Nat} {tm : T V} {ps : List Tmp} {as bd : Code} {C : Bool → Heap → Prop} {s : Fr} {h : Heap} (pd : Option Code) (hg : h.get l = .loop .busy pd fn n tm ps as bd d) (hC : C true (h.set l (.loop .ready none fn n tm ps as bd d))) : yEnd l fn n tm ps as bd d C s h := ⟨pd, hg, hC⟩
theorem yOut.ret {l fn n d : Nat} {tm : T V} {ps : List Tmp} {as bd : Code} {C : Bool → Heap → Prop} {s : Fr} {h : Heap} (pd : Option Code) (hg : h.get l = .loop .busy pd fn n tm ps as bd d) (hC : C false (h.set l (.loop .done (some .ret) fn n tm ps as bd d))) : yOut l fn n tm ps as bd d C .ret s h := ⟨pd, hg, hC⟩
theorem yOut.exit {l fn n d id : Nat} {tm : T V} {ps : List Tmp} {as bd : Code} {C : Bool → Heap → Prop} {s : Fr} {h : Heap} (pd : Option Code) (hg : h.get l = .loop .busy pd fn n tm ps as bd d) (hC : C false (h.set l (.loop .done (some (.exit id)) fn n tm ps as bd d))) : yOut l fn n tm ps as bd d C (.exit id) s h := ⟨pd, hg, hC⟩
theorem yNext.mk {all : List Oper} {i : Nat} {b : Fr} {L : List (Nat × V)} {d : Option Tmp} {v : Bool} {h : Heap} (ks : List Nat) (L' : List (Nat × V)) (hp : sumP ks ((b.on L).put d (.bool v)) = some L') (hk : Wl P E all (all.drop (i + 1)) (b.on L') h K X N) : yNext P E all i b L d K X N v h := ⟨ks, L', hp, hk⟩

/-- What comes behind a call that is walked into. -/
def cNext (P : Program) (E : Env) (all : List Oper) (i : Nat) (b : Fr) (L : List (Nat × V)) (d : Option Tmp) (K : Fr → Heap → Prop) (X : Ex → Fr → Heap → Prop) (N : Nat) (v : V) (h : Heap) : Prop :=
  ∃ ks L', sumP ks ((b.on L).put d v) = some L' ∧ Wl P E all (all.drop (i + 1)) (b.on L') h K X N
theorem cNext.mk {all : List Oper} {i : Nat} {b : Fr} {L : List (Nat × V)} {d : Option Tmp} {v : V} {h : Heap} (ks : List Nat) (L' : List (Nat × V)) (hp : sumP ks ((b.on L).put d v) = some L') (hk : Wl P E all (all.drop (i + 1)) (b.on L') h K X N) : cNext P E all i b L d K X N v h := ⟨ks, L', hp, hk⟩
/-- A call, whatever it comes to. -/
theorem Wl.callX {all : List Oper} {b : Fr} {L : List (Nat × V)} {h h1 : Heap} {f : FuncId} {args : List V} {d : Option Tmp} (i : Nat) (ho : callAt P E all i (b.on L) h = some (f, args, h1, d)) (hc : Cx P E f args h1 (cNext P E all i b L d K X N)) : Wl P E all (all.drop i) (b.on L) h K X N := by
  unfold callAt at ho
  split at ho
  · cases ho
  · rename_i o hoa
    split at ho
    · rename_i f' args' h1' hr
      cases ho
      obtain ⟨e, k2⟩ := opAt_some hoa
      rw [e]
      refine Wl.cameX k2 hr fun hF _ _ _ _ cs us hW hG hs => ?_
      obtain ⟨v, h', ⟨ks, L', hp, hk⟩, hx⟩ := hc hF cs us hW hG hs
      obtain ⟨s1, hp1, hL⟩ := sumP_some hp
      exact ⟨v, h', ⟨s1, hp1, hk.weak (((SameB.on b L).trans (.put hp1)).keep hL)⟩, hx⟩
    · cases ho
/-- A call that shares the heap, walked into. -/
theorem Wl.callI {all : List Oper} {b : Fr} {L : List (Nat × V)} {h h1 : Heap} {f : FuncId} {args : List V} {d : Option Tmp} {fn : Func} {body : Code} (i : Nat) (hf : P.funcs[f]? = some fn) (hb : fn.body = some body) (hl : Nat.ble (List.len args) fn.ntmps = true) (ho : sharedAt P E all i (b.on L) h = some (f, args, h1, d))
    (hw : Wc P E body (argS f fn.ntmps args) h1 (retX P fn (cNext P E all i b L d K X N)) (bodyX P fn (cNext P E all i b L d K X N)) h1.n) : Wl P E all (all.drop i) (b.on L) h K X N := by
  refine Wl.callX i ?_ (Ev.body hf hb hl hw)
  unfold sharedAt at ho
  split at ho
  · cases ho
  · rename_i f' args' h1' d' hca
    cases hs : (E.shared f' && !(E.pubRet f')) with
    | false => rw [hs] at ho; cases ho
    | true =>
      rw [hs] at ho
      cases ho
      exact hca
/-- The loop over a function in a function's body: its assignments, its rounds (the k-th). -/
def ranges : Code → List (Code × Code)
  | .seq a b => ranges a ++ ranges b
  | .cond _ a b => ranges a ++ ranges b
  | .block _ b => ranges b
  | .loop b => ranges b
  | .rangeFunc _ _ as bd => (as, bd) :: ranges bd
  | .scope b => ranges b
  | _ => []
def rAs (P : Program) (f k : Nat) : Code :=
  match P.funcs[f]? with
  | some fn => (match fn.body with
    | some b => (match (ranges b)[k]? with
      | some p => p.1
      | none => .skip)
    | none => .skip)
  | none => .skip
def rBd (P : Program) (f k : Nat) : Code :=
  match P.funcs[f]? with
  | some fn => (match fn.body with
    | some b => (match (ranges b)[k]? with
      | some p => p.2
      | none => .skip)
    | none => .skip)
  | none => .skip

end Go.AM

/-
  ARGUMENTS THAT ARE TEXTS, OR SLICES OF BYTES; from what a walk comes to, to the model's call.
-/
namespace Go.AM
open Go.RowKit Go.ChangeShapes Go.WideShapes

variable {P : Program} {E : Env}

/-- A walk that ends with true is a call of the model's that does. -/
theorem calls_of_true (hN : NameOk P) (hP : PrimOk P E) {f : FuncId} {fn : Func} {body : Code} {gs : List V} (hf : P.funcs[f]? = some fn) (hb : fn.body = some body) (hr : Cx P E f gs Heap.empty (fun v _ => v = .bool true)) {W : World} {us : Array Value} (hG : GlobOk E.glob (allOf W)) (hs : Rs' (Gh.data (allOf W)) us gs) :
    Calls P f us W fun e W' => e = .returned (.bool true) ∧ Below W.heap.size W W' := by
  intro cs
  obtain ⟨v, h', rfl, g', w', u, _, hW, hR, hret⟩ := hr ⟨hP, hN⟩ cs us (AM.W.start (allOf_ok W)) hG hs
  have := hR.bool_inv; subst this
  rcases hret with h | ⟨_, fr, h1, h2, h3⟩
  · rw [run_callFunc hN hf hb] at h; cases h
  · exact ⟨.returned (.bool true), w', fr, ⟨rfl, hW.low.below⟩, h1, h2, h3⟩

/-- Arguments, one after the other. -/
theorem args_nil {g : Gh} : Rs' g #[] [] := ⟨rfl, fun i v x a _ => by simp at a⟩
theorem args_cons {g : Gh} {v : Value} {x : V} {us : List Value} {xs : List V} (h : R g v x) (hs : Rs' g us.toArray xs) : Rs' g (v :: us).toArray (x :: xs) := by
  refine ⟨by have := hs.1; simp at this ⊢; exact this, fun i u y a b => ?_⟩
  cases i with
  | zero => simp at a b; subst a; subst b; exact h
  | succ i => exact hs.2 i u y (by simpa using a) (by simpa using b)

theorem text_R {g : Gh} (s : ByteArray) : R g (.string s) (.str s.data.toList) := .gnd (.str rfl)
theorem byte_R {g : Gh} {N m : Nat} (hN : N < 256) : R g (.int .u8 (N : Int)) (.imod .u8 m (N % m)) := .imod hN rfl
theorem int_R {g : Gh} (k : IntKind) (n : Int) : R g (.int k n) (.int k n) := .gnd (.int k n)

/-- Bytes, as data. -/
def bV (b : UInt8) : V := .int .u8 (b.toNat : Int)
/-- What a slice of bytes may be. -/
def Bs (x : V) (l : List UInt8) : Prop := (x = .nils ∧ l = []) ∨ x = .gsl 1 (l.map bV) none

theorem bytes_list {zs : List Int} (hw : ∀ n ∈ zs, (Lit.int .u8 n).wf = true) : ∃ l : List UInt8, zs.map (V.int .u8) = l.map bV := by
  refine ⟨zs.map fun n => UInt8.ofNat n.toNat, ?_⟩
  rw [List.map_map]
  refine List.map_congr_left fun n hn => ?_
  have := bounds_u8 (hw n hn)
  show V.int .u8 n = V.int .u8 ((UInt8.ofNat n.toNat).toNat : Int)
  rw [UInt8.toNat_ofNat', Nat.mod_eq_of_lt (by omega)]
  congr 1; omega
theorem bytes_R {W : World} {b off len cap : Nat} {zs : List Int} (hl : len ≤ cap) (hz : zs.length = cap) (hcell : ∀ i, i < zs.length → W.cell? ⟨b, off + i, none⟩ = some (.int .u8 (zs.getD i 0))) : R (Gh.data (allOf W)) (.slice (some ⟨b, off, none⟩) len cap) (.gsl 1 ((zs.take len).map (V.int .u8)) none) := by
  have hlen : ((zs.take len).map (V.int .u8)).length = len := by simp; omega
  have hel : ∀ (i : Nat) e, ((zs.take len).map (V.int .u8))[i]? = some e → i < zs.length ∧ e = .int .u8 (zs.getD i 0) := by
    intro i e he
    have hi : i < len := by have := lt_of_getElem?_list he; omega
    refine ⟨by omega, ?_⟩
    rw [List.getElem?_map, List.getElem?_take_of_lt hi] at he
    rw [List.getD_eq_getElem?_getD]
    cases hq : zs[i]? with
    | none => rw [hq] at he; cases he
    | some z => rw [hq] at he; cases he; rfl
  have := GR.gsl (S := allOf W) (b := b) (off := off) (sz := 1) (cap := cap) (c := none) (es := (zs.take len).map (V.int .u8)) (fun i _ => .int .u8 (zs.getD i 0)) Nat.one_pos
    (fun i e he => by obtain ⟨_, rfl⟩ := hel i e he; exact ⟨rfl, rfl⟩)
    (fun i e j x he hx => by
      obtain ⟨hi, rfl⟩ := hel i e he
      cases j with
      | zero => exact ⟨by rw [Nat.mul_one, Nat.add_zero]; exact look_of_cell (hcell i hi) rfl, rfl⟩
      | succ j => simp [V.cells] at hx)
    (fun _ e => by cases e) (by omega)
    (fun i e j x he hx => by
      obtain ⟨hi, rfl⟩ := hel i e he
      cases j with
      | zero => simp [V.cells] at hx; subst hx; exact .int _ _
      | succ j => simp [V.cells] at hx)
  rw [hlen] at this
  exact .gnd this

section
variable {H : Type} {enc : TypeId × Value → H}
theorem okWide_slice' {w : World} {r : Reach} {base : Nat} {t e : TypeId} {v : Value} (ht : P.underlying t = some (.slice e)) (h : Value.okWide P w r base t v) : v = .slice none 0 0 ∨ ∃ a len cap, v = .slice (some a) len cap ∧ a.spot = none := by
  simp only [Value.okWide, ht, Cell.okWide] at h
  unfold Cell.ok at h
  rw [ht] at h
  split at h <;> simp_all
  exact h.2.2.2.1
/-- A SLICE OF BYTES, OPENED: what the machine has for it; how it reads behind a call that turned nothing. -/
theorem open_bytes {W : World} {r : Reach} {b0 : Nat} {t e : TypeId} {v : Value} {d : DataW H} {ps : List MemPlace} (ht : P.underlying t = some (.slice e)) (he : P.underlying e = some (.int .u8)) (hc : P.cellsOf e = 1)
    (hval : Value.okWide P W r b0 t v) (hd : DataW.Trod enc P W 0 (fun _ => true) true t v d ps) :
    (∃ x l, Bs x l ∧ R (Gh.data (allOf W)) v x) ∧ ∀ W', Below W.heap.size W W' → ∃ ps', DataW.Trod enc P W' 0 (fun b => decide (b < W.heap.size)) true t v d ps' := by
  obtain ⟨fuel, hf⟩ := hd
  rcases okWide_slice' ht hval with rfl | ⟨a, len, cap, rfl, hsp⟩
  · refine ⟨⟨.nils, [], .inl ⟨rfl, rfl⟩, .gnd .nils⟩, fun W' hb => ⟨[], 1, ?_⟩⟩
    rcases open_ints ht he hc hf with ⟨_, e2⟩ | ⟨a, len, cap, zs, e1, _⟩
    · cases e2
      simp [DataW.trod, Value.cells, ht]
    · simp [Value.cells] at e1
  · rcases open_ints ht he hc hf with ⟨e1, _⟩ | ⟨a', len', cap', zs, e1, _, hl, hm, hz, e2, hcell, hw⟩
    · simp [Value.cells] at e1
    · simp only [Value.cells, List.cons.injEq, Value.slice.injEq, Option.some.injEq, and_true] at e1
      obtain ⟨rfl, rfl, rfl⟩ := e1
      obtain ⟨b, off, spot⟩ := a
      simp only at hsp; subst hsp
      simp only [if_true] at hz
      have hcell' : ∀ i, i < zs.length → W.cell? ⟨b, off + i, none⟩ = some (.int .u8 (zs.getD i 0)) := fun i hi => by rw [← add_plain]; exact hcell i hi
      refine ⟨?_, fun W' hb => ?_⟩
      · obtain ⟨l, hl'⟩ := bytes_list (zs := zs.take len) fun n hn => hw n (List.mem_of_mem_take hn)
        refine ⟨_, l, .inr rfl, ?_⟩
        rw [← hl']
        exact bytes_R hl hz hcell'
      · simp only [Prod.mk.injEq] at e2
        obtain ⟨rfl, rfl⟩ := e2
        have hblk : 0 < zs.length → b < W.heap.size := fun h0 => by
          have := hcell' 0 h0
          unfold World.cell? at this
          rcases Nat.lt_or_ge b W.heap.size with h | h
          · exact h
          · simp [Array.getElem?_eq_none h] at this
        refine ⟨_, 2, shut_ints' 0 ht he hc (Nat.zero_le _) hl hm ?_ (fun i hi => ?_) hw⟩
        · by_cases hb' : b < W.heap.size
          · simp only [decide_eq_true hb', if_true]; exact hz
          · have : zs.length = 0 := by
              rcases Nat.eq_zero_or_pos zs.length with h | h
              · exact h
              · exact absurd (hblk h) hb'
            split <;> omega
        · have := hblk (by omega)
          rw [← hcell' i hi]
          exact hb.cell (p := ⟨b, off + i, none⟩) this
end

end Go.AM

/-
  OTHER VIEWS OF THE SAME STATE: rows that nothing names any more are left out, the others numbered anew; what is known of values may be less.
-/
namespace Go.AM
open Go.RowKit

variable {P : Program} {E : Env} {K : Fr → Heap → Prop} {X : Ex → Fr → Heap → Prop} {N : Nat}

/-- The second state tells of all worlds that the first one tells of. -/
structure Vw (N : Nat) (s : Fr) (h : Heap) (s' : Fr) (h' : Heap) : Prop where
  of : ∀ {B : Ns} {w0 w : World} {g0 g : Gh} {b : Frame} {a : Act}, Dom N g0 → Grown B g0 g → W B w0 g h w → FrOk g b s a → ∃ g', Grown B g0 g' ∧ W B w0 g' h' w ∧ FrOk g' b s' a
theorem Vw.le {s s' : Fr} {h : Heap} (hl : Le s' s) : Vw N s h s' h := ⟨fun _ hg hW hf => ⟨_, hg, hW, hl.ok hf⟩⟩
theorem Vw.trans {s1 s2 s3 : Fr} {h1 h2 h3 : Heap} (p : Vw N s1 h1 s2 h2) (q : Vw N s2 h2 s3 h3) : Vw N s1 h1 s3 h3 := ⟨fun hD hg hW hf => by
  obtain ⟨g1, a1, a2, a3⟩ := p.of hD hg hW hf
  exact q.of hD a1 a2 a3⟩
theorem Wc.view {c : Code} {s s' : Fr} {h h' : Heap} (hv : Vw N s h s' h') (hw : Wc P E c s' h' K X N) : Wc P E c s h K X N := fun hF _ _ _ _ _ a b k cs hD hg hW hG hf => by
  obtain ⟨g', q1, q2, q3⟩ := hv.of hD hg hW hf
  exact hw hF a b k cs hD q1 q2 hG q3
theorem Wl.view {all l : List Oper} {s s' : Fr} {h h' : Heap} (hv : Vw N s h s' h') (hw : Wl P E all l s' h' K X N) : Wl P E all l s h K X N := fun hF _ _ _ _ _ a b k cs ops i e1 e2 hD hg hW hG hf => by
  obtain ⟨g', q1, q2, q3⟩ := hv.of hD hg hW hf
  exact hw hF a b k cs ops i e1 e2 hD q1 q2 hG q3
/-- A loop, whose state is viewed anew behind each round. -/
theorem Wc.loopV {α : Type} {b : Code} {s : Fr} {h : Heap} (S : α → Fr) (H : α → Heap) (I : α → Prop) (μ : α → Nat) (a0 : α) (hs0 : Vw N s h (S a0) (H a0)) (hI0 : I a0)
    (hb : ∀ a, I a → Wc P E b (S a) (H a) (fun s h => ∃ a', Vw N s h (S a') (H a') ∧ I a' ∧ μ a' < μ a) X N) : Wc P E (.loop b) s h K X N := by
  refine .view hs0 ?_
  intro hF B w0 g0 g w ac fr k cs hD hg hW hG hf
  refine .steps (.one stepR_loop) ?_
  have key : ∀ (n : Nat) (x : α), μ x = n → I x → ∀ {g : Gh} {w : World} (ac : Act), Grown B g0 g → W B w0 g (H x) w → FrOk g fr (S x) ac → Ends P K X B w0 g0 fr k cs (lone (fr.atR ac (.code b :: .inLoop b :: k)) cs w) := by
    intro n
    induction n using Nat.strongRecOn with
    | _ n IH =>
      intro x hx hI g w ac hg hW hf
      refine .pass (x := .inLoop b) (fun _ => rfl) (hb x hI hF ac fr (.inLoop b :: k) cs hD hg hW hG hf) fun s1 h1 g1 a1 w1 q1 q2 q3 q4 => ?_
      obtain ⟨x', hv, hI', hm⟩ := q4
      obtain ⟨g2, r1, r2, r3⟩ := hv.of hD q1 q2 q3
      exact .steps (.one stepR_inLoop) (IH (μ x') (by omega) x' rfl hI' a1 r1 r2 r3)
  exact key _ a0 rfl hI0 ac hg hW hf

/-- Less is said of a value. -/
def Wk (x x' : V) : Prop := ∀ (g : Gh) (v : Value), R g v x → R g v x'
theorem Wk.refl (x : V) : Wk x x := fun _ _ h => h
theorem Wk.trans {x y z : V} (p : Wk x y) (q : Wk y z) : Wk x z := fun g v h => q g v (p g v h)
theorem Wk.nils (sz : Nat) : Wk .nils (.osl sz []) := fun g v h => by have := h.nils_inv; subst this; exact .gnd .oslN
theorem Wk.gsl {sz : Nat} {es : List V} {c : Option Nat} : Wk (.gsl sz es c) (.osl sz es) := fun g v h => by
  have := h.gsl_inv
  cases this with
  | gsl val hsz hc hS hcap hle hh => exact .gnd (.oslS (.gsl val hsz hc hS (fun _ e => by cases e) hle hh))
theorem Wk.agg {xs ys : List V} (hn : xs.length = ys.length) (h : ∀ (i : Nat) x y, xs[i]? = some x → ys[i]? = some y → Wk x y) : Wk (.agg xs) (.agg ys) := fun g v hR => by
  obtain ⟨cs, rfl, h1, h2, h3⟩ := hR.agg_inv
  refine .agg (h1.trans hn) h2 fun i v y p q => ?_
  obtain ⟨x, hx⟩ := getElem?_of_lt_list xs i (by rw [hn]; exact lt_of_getElem?_list q)
  exact h i x y hx q g v (h3 i v x p hx)
theorem Wk.aggCons {x y : V} {xs ys : List V} (h : Wk x y) (t : Wk (.agg xs) (.agg ys)) (hn : xs.length = ys.length) : Wk (.agg (x :: xs)) (.agg (y :: ys)) := fun g v hR => by
  obtain ⟨cs, rfl, h1, h2, h3⟩ := hR.agg_inv
  obtain ⟨c, cs', hcs⟩ : ∃ c cs', cs.toList = c :: cs' := by
    cases hc : cs.toList with
    | nil => have := congrArg List.length hc; simp at this; simp [this] at h1
    | cons c cs' => exact ⟨c, cs', rfl⟩
  have e : cs = (c :: cs').toArray := by rw [← hcs]
  subst e
  have ht := t g (.agg cs'.toArray) (.agg (by simpa using h1) (fun i v hv => h2 (i + 1) v (by simpa using hv)) (fun i v x p q => h3 (i + 1) v x (by simpa using p) (by simpa using q)))
  obtain ⟨cs2, e2, _, _, k3⟩ := ht.agg_inv
  cases e2
  refine .agg (by simpa [hn] using h1) h2 fun i v z p q => ?_
  cases i with
  | zero => simp at p q; subst p; subst q; exact h g _ (h3 0 _ _ rfl rfl)
  | succ i => exact k3 i v z (by simpa using p) (by simpa using q)

/-- A slot of which less is said. -/
theorem Vw.slots {b : Fr} {L L' : List (Nat × V)} {h : Heap} (hw : ∀ i x', (i, x') ∈ L' → Wk ((b.on L).at' i) x' ∧ (b.on L).at' i ≠ lost) : Vw N (b.on L) h (b.on L') h := by
  refine ⟨fun _ hg hW hf => ?_⟩
  refine ⟨_, hg, hW, hf.fn, ⟨hf.slots.size, fun i v hv => ?_, fun i hi => mkT_out b.n L' i hi⟩, hf.round, hf.marks⟩
  have hi : i < b.n := by have := lt_of_getElem?_array hv; rw [hf.slots.size] at this; exact this
  rcases mkT_get b.n L' i hi with e | ⟨x', hm, e⟩
  · exact .inl e
  · obtain ⟨h1, h2⟩ := hw i x' hm
    right
    change R _ v ((mkT b.n L').get undef i)
    rw [e]
    exact h1 _ _ ((hf.slots.rel i v hv).resolve_left h2)

/-- An element of a row of which less is said. -/
structure Wke (e e' : V) : Prop where
  len : e'.cells.length = e.cells.length
  flat : e'.flat = true
  cells : ∀ (j : Nat) x x', e.cells[j]? = some x → e'.cells[j]? = some x' → Wk x x'
theorem Wke.refl {e : V} (h : e.flat = true) : Wke e e := ⟨rfl, h, fun j x x' p q => by rw [p] at q; cases q; exact .refl _⟩
/-- A row of which less is said. -/
theorem Vw.row {s : Fr} {h : Heap} (r : Nat) {ver ty sz pub : Nat} {cap : Option Nat} {es : List V} (es' : List V) (hg : h.get r = .row ver ty sz pub cap es) (hp : pub ≤ es'.length) (hl : es'.length ≤ es.length) (hw : ∀ (i : Nat) e e', es[i]? = some e → es'[i]? = some e' → Wke e e') : Vw N s h s (h.set r (.row ver ty sz pub cap es')) := by
  refine ⟨fun _ hg0 hW hf => ?_⟩
  obtain ⟨hv, b, k, C, fr, hm, hrow, _⟩ := hW.row hg
  refine ⟨_, hg0, ?_, hf⟩
  have hr : r < h.n := by
    rcases Nat.lt_or_ge r h.n with q | q
    · exact q
    · have := (hW.out r q).2; rw [this] at hg; cases hg
  refine ⟨hW.low, hW.base, hW.shut, hW.dom, fun q hq => ?_, fun q => ?_, fun q x hx => ?_, hW.inj, hW.high⟩
  · rw [Heap.get_set, if_neg (by rw [Heap.n_set] at hq; omega)]
    exact hW.out q hq
  · rw [Heap.get_set]
    by_cases e : r = q
    · subst e; rw [if_pos rfl, hv]
    · rw [if_neg e]; exact hW.ver q
  · rw [Heap.get_set]
    by_cases e : r = q
    · subst e
      rw [if_pos rfl]
      rw [hm] at hx; cases hx
      refine ⟨rfl, C, fr, hrow.at_, hrow.csize, hrow.pos, Nat.le_trans hl hrow.fits, hp, hrow.caps, fun i e' he' => ?_, fun i e' j x' he' hx' => ?_, hrow.shut, hrow.ice⟩
      · obtain ⟨e, he⟩ := getElem?_of_lt_list es i (Nat.lt_of_lt_of_le (lt_of_getElem?_list he') hl)
        obtain ⟨a1, a2, _⟩ := hw i e e' he he'
        exact ⟨a1.trans (hrow.elems i e he).1, a2⟩
      · obtain ⟨e, he⟩ := getElem?_of_lt_list es i (Nat.lt_of_lt_of_le (lt_of_getElem?_list he') hl)
        obtain ⟨a1, _, a3⟩ := hw i e e' he he'
        obtain ⟨x, hx⟩ := getElem?_of_lt_list e.cells j (by rw [← a1]; exact lt_of_getElem?_list hx')
        obtain ⟨v, p1, p2, p3⟩ := hrow.cells i e j x he hx
        exact ⟨v, p1, p2, a3 j x x' hx hx' _ _ p3⟩
    · rw [if_neg e]; exact hW.obj q x hx

/-- A row's element, published. -/
theorem Vw.pubElem {s : Fr} {h h1 : Heap} (r : Nat) {ver ty sz pb : Nat} {cap : Option Nat} {es : List V} (i : Nat) {e e' : V} (hg : h.get r = .row ver ty sz pb cap es) (hi : es[i]? = some e) (ha : ∀ vs, e ≠ .agg vs) (hp : pub [r] depth h e = some (e', h1)) : Vw N s h s (h1.set r (.row ver ty sz pb cap (es.set i e'))) := by
  refine ⟨fun {B w0 w g0 g b0 a0} _ hg0 hW hf => ?_⟩
  obtain ⟨_, b', k', C', fr', hm', hrow', _⟩ := hW.row hg
  obtain ⟨v, p1, p2, p3⟩ := hrow'.cells i e 0 e hi (by rw [cells_single ha]; rfl)
  obtain ⟨S, hP, hGR, hf1, hl1, ha1⟩ := pub_sound [r] depth hW p3 hp
  have hW1 := hP.world
  have hg1 : h1.get r = .row ver ty sz pb cap es := (hP.kept.row r (by simp)).trans hg
  obtain ⟨hv, b, k, C, fr, hm, hrow, _⟩ := hW1.row hg1
  have hme : some (b', k', sz) = some (b, k, sz) := hm'.symm.trans hm
  cases hme
  have hC : C' = C := by
    have := hrow'.at_.symm.trans hrow.at_
    exact (Go.Obj.cells.inj (Option.some.inj this)).1
  subst hC
  have hc' : e'.cells = [e'] := cells_single (ha1 ha)
  refine ⟨g.say S, hg0.trans hP.grown, ?_, hf.mono hP.grown.ext⟩
  have hr : r < h1.n := by
    rcases Nat.lt_or_ge r h1.n with q | q
    · exact q
    · have := (hW1.out r q).2; rw [this] at hg1; cases hg1
  refine ⟨hW1.low, hW1.base, hW1.shut, hW1.dom, fun q hq => ?_, fun q => ?_, fun q x hx => ?_, hW1.inj, hW1.high⟩
  · rw [Heap.get_set, if_neg (by rw [Heap.n_set] at hq; omega)]
    exact hW1.out q hq
  · rw [Heap.get_set]
    by_cases e : r = q
    · subst e; rw [if_pos rfl, hv]
    · rw [if_neg e]; exact hW1.ver q
  · rw [Heap.get_set]
    by_cases e2 : r = q
    · subst e2
      rw [if_pos rfl]
      rw [hm] at hx; cases hx
      refine ⟨rfl, C', fr, hrow.at_, hrow.csize, hrow.pos, by rw [List.length_set]; exact hrow.fits, by rw [List.length_set]; exact hrow.pubs, hrow.caps, fun q x hq => ?_, fun q x j y hq hy => ?_, hrow.shut, hrow.ice⟩
      · rw [List.getElem?_set] at hq
        by_cases hqi : i = q
        · subst hqi
          rw [if_pos rfl] at hq
          split at hq
          · cases hq
            have := hrow.elems i e hi
            exact ⟨hl1.trans this.1, hf1.trans this.2⟩
          · cases hq
        · rw [if_neg hqi] at hq
          exact hrow.elems q x hq
      · rw [List.getElem?_set] at hq
        by_cases hqi : i = q
        · subst hqi
          rw [if_pos rfl] at hq
          split at hq
          · cases hq
            rw [hc'] at hy
            cases j with
            | zero =>
              cases hy
              exact ⟨v, p1, p2, .gnd hGR⟩
            | succ j => simp at hy
          · cases hq
        · rw [if_neg hqi] at hq
          exact hrow.cells q x j y hq hy
    · rw [if_neg e2]; exact hW1.obj q x hx

/-- Rows, numbered anew: which are kept, in order; those whose elements are data alone are marked. -/
abbrev Ren := List (Nat × Bool)
noncomputable def posOf (ρ : Ren) (r : Nat) : Option Nat := List.rec (motive := fun _ => Nat → Option Nat) (fun _ => none) (fun p _ ih j => bif Nat.beq p.1 r then some j else ih (Nat.succ j)) ρ 0
/-- A cell's value, by the new numbers; versions begin anew from row N on. -/
noncomputable def verN (N j ver : Nat) : Nat := bif Nat.blt j N then ver else 0
noncomputable def renP (N : Nat) (ρ : Ren) (h : Heap) (r _ver : Nat) (k : Nat → Nat → V) : V :=
  match posOf ρ r with
  | none => .any
  | some j => match h.get r with
    | .row ver' _ _ _ _ _ => k j (verN N j ver')
    | _ => .any
/-- What has to be so: no name of a row is an old one. -/
noncomputable def oldP (ρ : Ren) (h : Heap) (r ver : Nat) : List Prop :=
  match posOf ρ r with
  | none => []
  | some _ => match h.get r with
    | .row ver' _ _ _ _ _ => [ver = ver']
    | _ => []
noncomputable def oldL (f : V → List Prop) (l : List V) : List Prop := List.rec [] (fun v _ ih => List.app (f v) ih) l
noncomputable def oldV (ρ : Ren) (h : Heap) (d : Nat) : V → List Prop :=
  Nat.rec (motive := fun _ => V → List Prop) (fun _ => []) (fun _ ih v => match v with
    | .ptr r ver _ => oldP ρ h r ver
    | .sl r ver _ _ _ => oldP ρ h r ver
    | .agg vs => oldL ih vs
    | .tup vs => oldL ih vs
    | .iface _ x => ih x
    | .func _ a b => List.app (oldL ih a) (oldL ih b)
    | _ => []) d
noncomputable def renV (N : Nat) (ρ : Ren) (h : Heap) (d : Nat) : V → Option V :=
  Nat.rec (motive := fun _ => V → Option V) (fun _ => none) (fun _ ih v => match v with
    | .int a b => some (.int a b)
    | .bool b => some (.bool b)
    | .str s => some (.str s)
    | .nilp => some .nilp
    | .nils => some .nils
    | .nilm => some .nilm
    | .nilf => some .nilf
    | .nili => some .nili
    | .gsl a b c => some (.gsl a b c)
    | .osl a b => some (.osl a b)
    | .gmap a b => some (.gmap a b)
    | .gptr a b c => some (.gptr a b c)
    | .imod a b c => some (.imod a b c)
    | .any => some .any
    | .ptr r ver off => some (renP N ρ h r ver fun j v => .ptr j v off)
    | .sl r ver o n c => some (renP N ρ h r ver fun j v => .sl j v o n c)
    | .agg vs => (match mapO ih vs with
      | some l => some (.agg l)
      | none => none)
    | .tup vs => (match mapO ih vs with
      | some l => some (.tup l)
      | none => none)
    | .iface t x => (match ih x with
      | some y => some (.iface t y)
      | none => none)
    | .func f a b => (match f with
      | .func _ => (match mapO ih a with
        | some a' => (match mapO ih b with
          | some b' => some (.func f a' b')
          | none => none)
        | none => none)
      | .yield l => (match a with
        | [] => (match b with
          | [] => (match posOf ρ l with
            | some j => some (.func (.yield j) [] [])
            | none => none)
          | _ => none)
        | _ => none)
      | _ => none)
    | .iter r => (match posOf ρ r with
      | some j => some (.iter j)
      | none => some .any)
    | _ => none) d

/-- Names no row from N on. -/
noncomputable def stV (N d : Nat) : V → Bool :=
  Nat.rec (motive := fun _ => V → Bool) (fun _ => false) (fun _ ih v => match v with
    | .ptr r _ _ => Nat.blt r N
    | .sl r _ _ _ _ => Nat.blt r N
    | .agg vs => every ih vs
    | .tup vs => every ih vs
    | .iface _ x => ih x
    | .func f a b => (match f with
      | .func _ => every ih a && every ih b
      | .yield l => Nat.blt l N
      | _ => false)
    | .iter r => Nat.blt r N
    | .map _ => false
    | .fsl _ _ _ _ _ => false
    | _ => true) d
/-- A loop's frame names no row from N on. -/
def StT (N n : Nat) (tm : T V) : Prop := ∀ i, i < n → tm.get undef i = lost ∨ stV N 5 (tm.get undef i) = true

theorem StT.of {N n : Nat} {L : List (Nat × V)} (h : every (fun p => stV N 5 p.2) L = true) : StT N n (mkT n L) := fun i hi => by
  rcases mkT_get n L i hi with e | ⟨v, hm, e⟩
  · exact .inl e
  · right; rw [e]; exact (every_iff _ _).1 h _ hm

structure RenOk (N : Nat) (ρ : Ren) (h : Heap) (g g' : Gh) : Prop where
  S : g'.S = g.S
  mu : ∀ j p, ρ[j]? = some p → g'.mu j = g.mu p.1
  vr : ∀ j p v, ρ[j]? = some p → g.vr p.1 = some v → g'.vr j = some (verN N j v)
  ver : ∀ r, g.vr r = match h.get r with | .row v _ _ _ _ _ => some v | _ => none
  vn : ∀ j p, ρ[j]? = some p → g.vr p.1 = none → g'.vr j = none
  low : ∀ r, r < N → ∃ p, ρ[r]? = some p ∧ p.1 = r

theorem posOf_some {ρ : Ren} {r j : Nat} (h : posOf ρ r = some j) : ∃ p, ρ[j]? = some p ∧ p.1 = r := by
  have key : ∀ (ρ : Ren) (k : Nat), (List.rec (motive := fun _ => Nat → Option Nat) (fun _ => none) (fun p _ ih j => bif Nat.beq p.1 r then some j else ih (Nat.succ j)) ρ k : Option Nat) = some j → k ≤ j ∧ ∃ p, ρ[j - k]? = some p ∧ p.1 = r := by
    intro ρ
    induction ρ with
    | nil => intro k h; cases h
    | cons p ρ IH =>
      intro k h
      change (bif Nat.beq p.1 r then some k else (List.rec (motive := fun _ => Nat → Option Nat) (fun _ => none) (fun p _ ih j => bif Nat.beq p.1 r then some j else ih (Nat.succ j)) ρ (Nat.succ k) : Option Nat)) = some j at h
      cases hb : Nat.beq p.1 r with
      | true =>
        rw [hb] at h; cases h
        rw [Nat.beq_eq] at hb
        exact ⟨Nat.le_refl _, p, by simp, hb⟩
      | false =>
        rw [hb] at h
        obtain ⟨h1, q, h2, h3⟩ := IH _ h
        refine ⟨by omega, q, ?_, h3⟩
        obtain ⟨m, rfl⟩ : ∃ m, j = k + 1 + m := ⟨j - (k + 1), by omega⟩
        rw [show k + 1 + m - Nat.succ k = m by omega] at h2
        rw [show k + 1 + m - k = m + 1 by omega]
        simpa using h2
  obtain ⟨_, p, h1, h2⟩ := key ρ 0 h
  exact ⟨p, h1, h2⟩

theorem alls_app {a b : List Prop} (h : Alls (List.app a b)) : Alls a ∧ Alls b := by rw [List.app_eq] at h; exact Alls.app h
theorem oldL_mem {f : V → List Prop} {l : List V} (h : Alls (oldL f l)) : ∀ x, x ∈ l → Alls (f x) := by
  induction l with
  | nil => intro x hx; cases hx
  | cons y l IH =>
    have h : Alls (List.app (f y) (oldL f l)) := h
    obtain ⟨h1, h2⟩ := alls_app h
    intro x hx
    rcases List.mem_cons.1 hx with rfl | hx
    · exact h1
    · exact IH h2 x hx
theorem renP_one {N : Nat} {ρ : Ren} {h : Heap} {g g' : Gh} (hr : RenOk N ρ h g g') {r ver ver' : Nat} {v : Value} {k : Nat → Nat → V} (hφ : Alls (oldP ρ h r ver)) (hv : g.vr r = some ver') (ho : v.oneCell' = true) (hk : ∀ j v', ver = ver' → g'.vr j = some v' → g'.mu j = g.mu r → R g' v (k j v')) : R g' v (renP N ρ h r ver k) := by
  unfold renP
  unfold oldP at hφ
  split
  · exact .any ho
  · rename_i j hp
    rw [hp] at hφ
    obtain ⟨p, h1, rfl⟩ := posOf_some hp
    split
    · rename_i ver2 a1 a2 a3 a4 a5 hg
      rw [hg] at hφ
      have hb : ver = ver2 := hφ.1
      have := hr.ver p.1
      rw [hg, hv] at this
      cases this
      exact hk _ _ hb (hr.vr j p _ h1 hv) (hr.mu j p h1)
    · exact .any ho
theorem renV_R {N : Nat} {ρ : Ren} {h : Heap} {g g' : Gh} (hr : RenOk N ρ h g g') (d : Nat) : ∀ {v : Value} {x y : V}, Alls (oldV ρ h d x) → R g v x → renV N ρ h d x = some y → R g' v y := by
  induction d with
  | zero => intro v x y _ _ h; cases h
  | succ d IH =>
    intro v x y hφ hR hy
    have lst : ∀ {xs ys : List V} {us : Array Value}, (∀ x, x ∈ xs → Alls (oldV ρ h d x)) → mapO (renV N ρ h d) xs = some ys → us.size = xs.length → (∀ (i : Nat) v x, us[i]? = some v → xs[i]? = some x → R g v x) → us.size = ys.length ∧ ∀ (i : Nat) v x, us[i]? = some v → ys[i]? = some x → R g' v x := by
      intro xs ys us hx' hm hs hR
      obtain ⟨p1, p2⟩ := mapO_get hm
      refine ⟨by rw [hs, p1], fun i v y a c => ?_⟩
      obtain ⟨x, hx⟩ := getElem?_of_lt_list xs i (by rw [← p1]; exact lt_of_getElem?_list c)
      obtain ⟨y', hy', hf⟩ := p2 i x hx
      rw [c] at hy'; cases hy'
      exact IH (hx' x (List.mem_of_getElem? hx)) (hR i v x a hx) hf
    have dat : GR g.S v x → R g' v x := fun hg => .gnd (by rw [hr.S]; exact hg)
    cases x with
    | int a c => cases hy; have := hR.int_inv; subst this; exact .gnd (.int _ _)
    | bool b => cases hy; have := hR.bool_inv; subst this; exact .gnd (.bool _)
    | str s => cases hy; obtain ⟨s, rfl, h⟩ := hR.str_inv; exact .gnd (.str h)
    | nilp => cases hy; have := hR.nilp_inv; subst this; exact .gnd .nilp
    | nils => cases hy; have := hR.nils_inv; subst this; exact .gnd .nils
    | nilm => cases hy; have := hR.nilm_inv; subst this; exact .gnd .nilm
    | nilf => cases hy; have := hR.nilf_inv; subst this; exact .gnd .nilf
    | nili => cases hy; have := hR.nili_inv; subst this; exact .gnd .nili
    | gsl a b c => cases hy; exact dat hR.gsl_inv
    | osl a b => cases hy; exact dat (by cases hR with | gnd h => exact h)
    | gptr a b c => cases hy; exact dat hR.gptr_inv
    | gmap a b => cases hy; exact dat hR.gmap_inv
    | imod a b c => cases hy; obtain ⟨N', rfl, h1, h2⟩ := hR.imod_inv; exact .imod h1 h2
    | any => cases hy; exact .any hR.any_inv
    | ptr r ver off =>
      cases hy
      obtain ⟨a, ver', rfl, hv, hle, hp⟩ := hR.ptr_inv
      refine renP_one hr hφ hv rfl fun j v' e hv' hm' => ?_
      obtain ⟨k, sz, h1, h2, h3⟩ := hp e
      exact .ptr hv' (Nat.le_refl _) fun _ => ⟨k, sz, hm'.trans h1, h2, h3⟩
    | sl r ver o n c =>
      cases hy
      obtain ⟨a, cap, ver', rfl, hv, hle, hn, hc, hp⟩ := hR.sl_inv
      refine renP_one hr hφ hv rfl fun j v' e hv' hm' => ?_
      obtain ⟨k, sz, h1, h2⟩ := hp e
      exact .sl hv' (Nat.le_refl _) hn hc fun _ => ⟨k, sz, hm'.trans h1, h2⟩
    | agg vs =>
      change (match mapO (renV N ρ h d) vs with | some l => some (V.agg l) | none => none) = some y at hy
      split at hy
      · rename_i l hl
        cases hy
        obtain ⟨cs, rfl, h1, h2, h3⟩ := hR.agg_inv
        obtain ⟨q1, q2⟩ := lst (oldL_mem hφ) hl h1 h3
        exact .agg q1 h2 q2
      · cases hy
    | tup vs =>
      change (match mapO (renV N ρ h d) vs with | some l => some (V.tup l) | none => none) = some y at hy
      split at hy
      · rename_i l hl
        cases hy
        obtain ⟨cs, rfl, h1, h3⟩ := hR.tup_inv
        obtain ⟨q1, q2⟩ := lst (oldL_mem hφ) hl h1 h3
        exact .tup q1 q2
      · cases hy
    | iface t x =>
      change (match renV N ρ h d x with | some y => some (V.iface t y) | none => none) = some y at hy
      split at hy
      · rename_i y' hy'
        cases hy
        obtain ⟨u, rfl, hu⟩ := hR.iface_inv
        exact .iface (IH hφ hu hy')
      · cases hy
    | func f a b =>
      cases f with
      | func f =>
        change (match mapO (renV N ρ h d) a with | some a' => (match mapO (renV N ρ h d) b with | some b' => some (V.func (.func f) a' b') | none => none) | none => none) = some y at hy
        split at hy
        · rename_i a' ha
          split at hy
          · rename_i b' hb
            cases hy
            obtain ⟨c, e, rfl, h1, h2, h3, h4⟩ := hR.func_inv (fun l => by simp)
            obtain ⟨p1, p2⟩ := alls_app hφ
            obtain ⟨q1, q2⟩ := lst (oldL_mem p1) ha h1 h3
            obtain ⟨q3, q4⟩ := lst (oldL_mem p2) hb h2 h4
            exact .func (fun l => by simp) q1 q3 q2 q4
          · cases hy
        · cases hy
      | yield l =>
        obtain ⟨b', k', rfl, rfl, rfl, hv, hm⟩ := hR.yield_inv
        change (match posOf ρ l with | some j => some (V.func (.yield j) [] []) | none => none) = some y at hy
        split at hy
        · rename_i j hj
          cases hy
          obtain ⟨p, h1, rfl⟩ := posOf_some hj
          exact .yield (hr.vn j p h1 hv) ((hr.mu j p h1).trans hm)
        · cases hy
      | _ => cases hy
    | iter r =>
      obtain ⟨b', k', rfl, hv, hm⟩ := hR.iter_inv
      change (match posOf ρ r with | some j => some (V.iter j) | none => some .any) = some y at hy
      split at hy
      · rename_i j hj
        cases hy
        obtain ⟨p, h1, rfl⟩ := posOf_some hj
        exact .iter (hr.vn j p h1 hv) ((hr.mu j p h1).trans hm)
      · cases hy; exact .any rfl
    | _ => cases hy
theorem stV_R {N : Nat} {ρ : Ren} {h : Heap} {g g' : Gh} (hr : RenOk N ρ h g g') (d : Nat) : ∀ {v : Value} {x : V}, stV N d x = true → R g v x → R g' v x := by
  induction d with
  | zero => intro v x h _; cases h
  | succ d IH =>
    intro v x hs hR
    have dat : GR g.S v x → R g' v x := fun hg => .gnd (by rw [hr.S]; exact hg)
    have lst : ∀ {xs : List V} {us : Array Value}, every (stV N d) xs = true → (∀ (i : Nat) v x, us[i]? = some v → xs[i]? = some x → R g v x) → ∀ (i : Nat) v x, us[i]? = some v → xs[i]? = some x → R g' v x :=
      fun he hR i v x a c => IH ((every_iff _ _).1 he x (List.mem_of_getElem? c)) (hR i v x a c)
    have lowv : ∀ r v, Nat.blt r N = true → g.vr r = some v → g'.vr r = some v := fun r v hb hv => by
      obtain ⟨p, hp, hpr⟩ := hr.low r (by rwa [Nat.blt_eq] at hb)
      have := hr.vr r p v hp (by rw [hpr]; exact hv)
      rw [this]
      unfold verN
      rw [hb]; rfl
    have lowm : ∀ r, Nat.blt r N = true → g'.mu r = g.mu r := fun r hb => by
      obtain ⟨p, hp, hpr⟩ := hr.low r (by rwa [Nat.blt_eq] at hb)
      rw [hr.mu r p hp, hpr]
    have lown : ∀ r, Nat.blt r N = true → g.vr r = none → g'.vr r = none := fun r hb hv => by
      obtain ⟨p, hp, hpr⟩ := hr.low r (by rwa [Nat.blt_eq] at hb)
      exact hr.vn r p hp (by rw [hpr]; exact hv)
    cases x with
    | int a c => have := hR.int_inv; subst this; exact .gnd (.int _ _)
    | bool b => have := hR.bool_inv; subst this; exact .gnd (.bool _)
    | str s => obtain ⟨s, rfl, h⟩ := hR.str_inv; exact .gnd (.str h)
    | nilp => have := hR.nilp_inv; subst this; exact .gnd .nilp
    | nils => have := hR.nils_inv; subst this; exact .gnd .nils
    | nilm => have := hR.nilm_inv; subst this; exact .gnd .nilm
    | nilf => have := hR.nilf_inv; subst this; exact .gnd .nilf
    | nili => have := hR.nili_inv; subst this; exact .gnd .nili
    | gsl a b c => exact dat hR.gsl_inv
    | osl a b => exact dat (by cases hR with | gnd h => exact h)
    | gptr a b c => exact dat hR.gptr_inv
    | gmap a b => exact dat hR.gmap_inv
    | imod a b c => obtain ⟨N', rfl, h1, h2⟩ := hR.imod_inv; exact .imod h1 h2
    | any => exact .any hR.any_inv
    | ptr r ver off =>
      obtain ⟨a, ver', rfl, hv, hle, hp⟩ := hR.ptr_inv
      exact .ptr (lowv r _ hs hv) hle fun e => by
        obtain ⟨k, sz, h1, h2, h3⟩ := hp e
        exact ⟨k, sz, (lowm r hs).trans h1, h2, h3⟩
    | sl r ver o n c =>
      obtain ⟨a, cap, ver', rfl, hv, hle, hn, hc, hp⟩ := hR.sl_inv
      exact .sl (lowv r _ hs hv) hle hn hc fun e => by
        obtain ⟨k, sz, h1, h2⟩ := hp e
        exact ⟨k, sz, (lowm r hs).trans h1, h2⟩
    | agg vs =>
      obtain ⟨cs, rfl, h1, h2, h3⟩ := hR.agg_inv
      exact .agg h1 h2 (lst hs h3)
    | tup vs =>
      obtain ⟨cs, rfl, h1, h3⟩ := hR.tup_inv
      exact .tup h1 (lst hs h3)
    | iface t x =>
      obtain ⟨u, rfl, hu⟩ := hR.iface_inv
      exact .iface (IH hs hu)
    | func f a b =>
      cases f with
      | func f =>
        obtain ⟨c, e, rfl, h1, h2, h3, h4⟩ := hR.func_inv (fun l => by simp)
        have hs : (every (stV N d) a && every (stV N d) b) = true := hs
        rw [Bool.and_eq_true] at hs
        exact .func (fun l => by simp) h1 h2 (lst hs.1 h3) (lst hs.2 h4)
      | yield l =>
        obtain ⟨b', k', rfl, rfl, rfl, hv, hm⟩ := hR.yield_inv
        exact .yield (lown l hs hv) ((lowm l hs).trans hm)
      | _ => cases hs
    | iter r =>
      obtain ⟨b', k', rfl, hv, hm⟩ := hR.iter_inv
      exact .iter (lown r hs hv) ((lowm r hs).trans hm)
    | _ => cases hs

/-- What a row holds, by the new numbers. -/
noncomputable def renE (N : Nat) (ρ : Ren) (h : Heap) (e : V) : Option V :=
  match e with
  | .agg vs => (match mapO (renV N ρ h 4) vs with
    | some l => some (.agg l)
    | none => none)
  | .tup _ => none
  | .fsl _ _ _ _ _ => none
  | e => renV N ρ h 4 e
noncomputable def oldE (ρ : Ren) (h : Heap) (e : V) : List Prop :=
  match e with
  | .agg vs => oldL (oldV ρ h 4) vs
  | e => oldV ρ h 4 e
noncomputable def renO (N : Nat) (ρ : Ren) (h : Heap) (j : Nat) (p : Nat × Bool) : Option Obj :=
  match h.get p.1 with
  | .row ver ty sz pub cap es => bif p.2 then some (.row (verN N j ver) ty sz pub cap es) else
    (match mapO (renE N ρ h) es with
    | some es' => some (.row (verN N j ver) ty sz pub cap es')
    | none => none)
  | .siter s pos => some (.siter s pos)
  | .dead => some .dead
  | .defs => some .defs
  | .loop st pd fn n tm ps a b d => bif Nat.blt d N then some (.loop st pd fn n tm ps a b d) else none
  | _ => none
/-- What has to be so of a row: it is data alone; or none of its names is an old one. -/
noncomputable def oldO (N : Nat) (ρ : Ren) (h : Heap) (p : Nat × Bool) : List Prop :=
  match h.get p.1 with
  | .row _ _ _ _ _ es => bif p.2 then [∀ e, e ∈ es → groundL (ground 3) e.cells = true] else oldL (oldE ρ h) es
  | .loop _ _ _ n tm _ _ _ _ => [StT N n tm]
  | _ => []
noncomputable def renOs (N : Nat) (ρ : Ren) (h : Heap) (l : Ren) : Nat → Option (List Obj) :=
  List.rec (motive := fun _ => Nat → Option (List Obj)) (fun _ => some []) (fun p _ ih j => match renO N ρ h j p with
    | none => none
    | some o => match ih (Nat.succ j) with
      | none => none
      | some os => some (o :: os)) l
noncomputable def oldA (N : Nat) (ρ : Ren) (h : Heap) (l : Ren) : List Prop := List.rec [] (fun p _ ih => List.app (oldO N ρ h p) ih) l
noncomputable def oldS (ρ : Ren) (h : Heap) (L : List (Nat × V)) : List Prop := List.rec [] (fun p _ ih => List.app (oldV ρ h 5 p.2) ih) L
/-- The first rows stay; no row stands there twice; all are there. -/
noncomputable def renRows (N n : Nat) (l : Ren) : Nat → List Nat → Bool :=
  List.rec (motive := fun _ => Nat → List Nat → Bool) (fun j _ => Nat.ble N j) (fun p _ ih j seen => bif (bif Nat.blt j N then Nat.beq p.1 j && !p.2 else true) && !(memN p.1 seen) && Nat.blt p.1 n then ih (Nat.succ j) (p.1 :: seen) else false) l
noncomputable def renL (N : Nat) (ρ : Ren) (h : Heap) (L : List (Nat × V)) : Option (List (Nat × V)) :=
  List.rec (some []) (fun p _ ih => match renV N ρ h 5 p.2 with
    | none => none
    | some y => match ih with
      | none => none
      | some l => some ((p.1, y) :: l)) L

theorem renRows_ok {N n : Nat} (l : Ren) : ∀ (j : Nat) (seen : List Nat), renRows N n l j seen = true → N ≤ j + l.length ∧ (∀ (i : Nat) (p : Nat × Bool), l[i]? = some p → p.1 < n ∧ ¬ p.1 ∈ seen ∧ (j + i < N → p.1 = j + i ∧ p.2 = false)) ∧ (∀ (i i' : Nat) (p p' : Nat × Bool), l[i]? = some p → l[i']? = some p' → p.1 = p'.1 → i = i') := by
  induction l with
  | nil =>
    intro j seen h
    change Nat.ble N j = true at h
    rw [Nat.ble_eq] at h
    exact ⟨by simpa using h, fun i p e => by simp at e, fun i i' p p' e => by simp at e⟩
  | cons p l IH =>
    intro j seen h
    change (bif (bif Nat.blt j N then Nat.beq p.1 j && !p.2 else true) && !(memN p.1 seen) && Nat.blt p.1 n then renRows N n l (Nat.succ j) (p.1 :: seen) else false) = true at h
    cases hb : ((bif Nat.blt j N then Nat.beq p.1 j && !p.2 else true) && !(memN p.1 seen) && Nat.blt p.1 n) with
    | false => rw [hb] at h; cases h
    | true =>
      rw [hb] at h
      simp only [Bool.and_eq_true, Bool.not_eq_true', Nat.blt_eq] at hb
      obtain ⟨⟨h1, h2⟩, h3⟩ := hb
      obtain ⟨a1, a2, a3⟩ := IH _ _ h
      have hns : ¬ p.1 ∈ seen := fun q => by rw [← memN_iff, h2] at q; cases q
      refine ⟨by simp only [List.length_cons]; omega, fun i q e => ?_, fun i i' q q' e e' hq => ?_⟩
      · cases i with
        | zero =>
          simp at e; subst e
          refine ⟨h3, hns, fun hj => ?_⟩
          have : Nat.blt j N = true := by rw [Nat.blt_eq]; simpa using hj
          rw [this] at h1
          simpa using h1
        | succ i =>
          obtain ⟨b1, b2, b3⟩ := a2 i q (by simpa using e)
          exact ⟨b1, fun q => b2 (by simp [q]), fun hj => by have := b3 (by omega); exact ⟨by omega, this.2⟩⟩
      · cases i with
        | zero =>
          cases i' with
          | zero => rfl
          | succ i' =>
            simp at e; subst e
            exact absurd (by rw [← hq]; simp) (a2 i' q' (by simpa using e')).2.1
        | succ i =>
          cases i' with
          | zero =>
            simp at e'; subst e'
            exact absurd (by rw [hq]; simp) (a2 i q (by simpa using e)).2.1
          | succ i' => rw [a3 i i' q q' (by simpa using e) (by simpa using e') hq]

noncomputable def hpF (l : List Obj) : Heap → Heap := List.rec (motive := fun _ => Heap → Heap) (fun h => h) (fun o _ ih h => ih (h.new o)) l
theorem hpF_n (l : List Obj) : ∀ h : Heap, (hpF l h).n = h.n + l.length := by
  induction l with
  | nil => intro h; rfl
  | cons o l IH =>
    intro h
    change (hpF l (h.new o)).n = _
    rw [IH, Heap.n_new, List.length_cons]; omega
theorem hpF_get (l : List Obj) : ∀ (h : Heap) (r : Nat), (hpF l h).get r = if h.n ≤ r ∧ r < h.n + l.length then l.getD (r - h.n) .dead else h.get r := by
  induction l with
  | nil =>
    intro h r
    rw [if_neg (by simp)]; rfl
  | cons o l IH =>
    intro h r
    change (hpF l (h.new o)).get r = _
    rw [IH, Heap.n_new, Heap.get_new, List.length_cons]
    by_cases h1 : h.n + 1 ≤ r ∧ r < h.n + 1 + l.length
    · rw [if_pos h1, if_pos (by omega), show r - h.n = (r - (h.n + 1)) + 1 by omega]; rfl
    · rw [if_neg h1]
      by_cases h2 : h.n = r
      · subst h2
        rw [if_pos rfl, if_pos (by omega), Nat.sub_self]; rfl
      · rw [if_neg h2, if_neg (by omega)]
theorem hp_n (l : List Obj) : (hp l).n = l.length := by
  have := hpF_n l Heap.empty
  change (hp l).n = 0 + l.length at this
  omega
theorem hp_get (l : List Obj) (r : Nat) : (hp l).get r = l.getD r .dead := by
  have := hpF_get l Heap.empty r
  change (hp l).get r = if 0 ≤ r ∧ r < 0 + l.length then l.getD (r - 0) .dead else Obj.dead at this
  rw [this]
  split
  · rw [Nat.sub_zero]
  · rename_i h1
    rw [List.getD_eq_getElem?_getD, List.getElem?_eq_none (by omega)]; rfl
theorem renOs_get {N : Nat} {ρ : Ren} {h : Heap} (l : Ren) : ∀ (j : Nat) (os : List Obj), renOs N ρ h l j = some os → os.length = l.length ∧ ∀ i p, l[i]? = some p → ∃ o, os[i]? = some o ∧ renO N ρ h (j + i) p = some o := by
  induction l with
  | nil => intro j os h; cases h; exact ⟨rfl, fun i p e => by simp at e⟩
  | cons p l IH =>
    intro j os hh
    change (match renO N ρ h j p with | none => none | some o => match renOs N ρ h l (Nat.succ j) with | none => none | some os => some (o :: os)) = some os at hh
    split at hh
    · cases hh
    · rename_i o ho
      split at hh
      · cases hh
      · rename_i os' hos
        cases hh
        obtain ⟨h1, h2⟩ := IH _ _ hos
        refine ⟨by simp [h1], fun i q e => ?_⟩
        cases i with
        | zero => simp at e; subst e; exact ⟨o, rfl, ho⟩
        | succ i =>
          obtain ⟨o', a, b⟩ := h2 i q (by simpa using e)
          exact ⟨o', by simpa using a, by rw [← b]; congr 1; omega⟩
theorem oldA_ok {N : Nat} {ρ : Ren} {h : Heap} (l : Ren) (ho : Alls (oldA N ρ h l)) : ∀ p, p ∈ l → Alls (oldO N ρ h p) := by
  induction l with
  | nil => intro p hp; cases hp
  | cons q l IH =>
    have ho : Alls (List.app (oldO N ρ h q) (oldA N ρ h l)) := ho
    obtain ⟨h1, h2⟩ := alls_app ho
    intro p hp
    rcases List.mem_cons.1 hp with rfl | hp
    · exact h1
    · exact IH h2 p hp
theorem oldS_ok {ρ : Ren} {h : Heap} (L : List (Nat × V)) (ho : Alls (oldS ρ h L)) : ∀ i x, (i, x) ∈ L → Alls (oldV ρ h 5 x) := by
  induction L with
  | nil => intro i x hp; cases hp
  | cons q L IH =>
    have ho : Alls (List.app (oldV ρ h 5 q.2) (oldS ρ h L)) := ho
    obtain ⟨h1, h2⟩ := alls_app ho
    intro i x hp
    rcases List.mem_cons.1 hp with rfl | hp
    · exact h1
    · exact IH h2 i x hp

theorem renE_ok {N : Nat} {ρ : Ren} {h : Heap} {g g' : Gh} (hr : RenOk N ρ h g g') {e e' : V} (hφ : Alls (oldE ρ h e)) (he : renE N ρ h e = some e') : e'.cells.length = e.cells.length ∧ e'.flat = true ∧ ∀ (j : Nat) y y' v, e.cells[j]? = some y → e'.cells[j]? = some y' → R g v y → R g' v y' := by
  unfold renE at he
  split at he
  · rename_i vs
    split at he
    · rename_i l hl
      cases he
      obtain ⟨m1, m2⟩ := mapO_get hl
      refine ⟨m1, rfl, fun j y y' v p q hR => ?_⟩
      obtain ⟨y2, a, b⟩ := m2 j y p
      have q : l[j]? = some y' := q
      rw [q] at a; cases a
      exact renV_R hr 4 (oldL_mem (show Alls (oldL (oldV ρ h 4) vs) from hφ) y (List.mem_of_getElem? p)) hR b
    · cases he
  · cases he
  · cases he
  · rename_i h1 h2 h3
    have c1 : e.cells = [e] := by cases e <;> first | rfl | exact absurd rfl (h1 _)
    have key : e'.cells = [e'] ∧ e'.flat = true := by
      have hP : ∀ r ver (k : Nat → Nat → V), (∀ j v, (k j v).cells = [k j v] ∧ (k j v).flat = true) → (renP N ρ h r ver k).cells = [renP N ρ h r ver k] ∧ (renP N ρ h r ver k).flat = true := by
        intro r ver k hk
        unfold renP
        split
        · exact ⟨rfl, rfl⟩
        · split
          · exact hk _ _
          · exact ⟨rfl, rfl⟩
      cases e with
      | agg vs => exact absurd rfl (h1 _)
      | tup vs => exact absurd rfl (h2 _)
      | fsl a b c d f => exact absurd rfl (h3 _ _ _ _ _)
      | ptr r ver off => cases he; exact hP _ _ _ fun _ _ => ⟨rfl, rfl⟩
      | sl r ver o n c => cases he; exact hP _ _ _ fun _ _ => ⟨rfl, rfl⟩
      | iface t x =>
        change (match renV N ρ h 3 x with | some y => some (V.iface t y) | none => none) = some e' at he
        split at he
        · cases he; exact ⟨rfl, rfl⟩
        · cases he
      | func f a b =>
        cases f with
        | func f =>
          change (match mapO (renV N ρ h 3) a with | some a' => (match mapO (renV N ρ h 3) b with | some b' => some (V.func (.func f) a' b') | none => none) | none => none) = some e' at he
          split at he
          · split at he
            · cases he; exact ⟨rfl, rfl⟩
            · cases he
          · cases he
        | yield l =>
          cases a with
          | nil => cases b with
            | nil =>
              change (match posOf ρ l with | some j => some (V.func (.yield j) [] []) | none => none) = some e' at he
              split at he
              · cases he; exact ⟨rfl, rfl⟩
              · cases he
            | cons _ _ => cases he
          | cons _ _ => cases he
        | _ => cases he
      | map r => cases he
      | iter r =>
        change (match posOf ρ r with | some j => some (V.iter j) | none => some .any) = some e' at he
        split at he
        · cases he; exact ⟨rfl, rfl⟩
        · cases he; exact ⟨rfl, rfl⟩
      | _ => cases he; exact ⟨rfl, rfl⟩
    have e4 : oldE ρ h e = oldV ρ h 4 e := by cases e <;> first | rfl | exact absurd rfl (h1 _)
    rw [e4] at hφ
    rw [c1, key.1]
    refine ⟨rfl, key.2, fun j y y' v p q hR => ?_⟩
    cases j with
    | zero => simp at p q; subst p; subst q; exact renV_R hr 4 hφ hR he
    | succ j => simp at p
theorem renL_mem {N : Nat} {ρ : Ren} {h : Heap} {L : List (Nat × V)} : ∀ {L' : List (Nat × V)} {i : Nat} {y : V}, renL N ρ h L = some L' → (i, y) ∈ L' → ∃ x, (i, x) ∈ L ∧ renV N ρ h 5 x = some y := by
  induction L with
  | nil => intro L' i y h hm; cases h; cases hm
  | cons p L IH =>
    intro L' i y hh hm
    change (match renV N ρ h 5 p.2 with | none => none | some y => match renL N ρ h L with | none => none | some l => some ((p.1, y) :: l)) = some L' at hh
    split at hh
    · cases hh
    · rename_i y0 hy0
      split at hh
      · cases hh
      · rename_i l hl
        cases hh
        rcases List.mem_cons.1 hm with e | e
        · cases e; exact ⟨p.2, by simp, hy0⟩
        · obtain ⟨x, h1, h2⟩ := IH hl e
          exact ⟨x, by simp [h1], h2⟩

/-- WHAT NOTHING NAMES ANY MORE IS LEFT OUT. -/
theorem Vw.gc {b : Fr} {L : List (Nat × V)} {h : Heap} (ρ : Ren) (ks : List Nat) (L1 L' : List (Nat × V)) (os : List Obj) (hb : b.marks = [] ∧ b.defers = [] ∧ b.round = none) (hr : renRows N h.n ρ 0 [] = true) (hos : renOs N ρ h ρ 0 = some os) (hL1 : keepV (b.on L) ks = L1) (hL : renL N ρ h L1 = some L') (φs : List Prop) (hφ : List.app (oldA N ρ h ρ) (oldS ρ h L1) = φs) (ho : Alls φs) : Vw N (b.on L) h (b.on L') (hp os) := by
  refine ⟨fun {B w0 w g0 g bf a} hD hg hW hf => ?_⟩
  subst hφ
  obtain ⟨hoA, hoS⟩ := alls_app ho
  obtain ⟨r1, r2, r3⟩ := renRows_ok ρ 0 [] hr
  obtain ⟨o1, o2⟩ := renOs_get ρ 0 os hos
  let g' : Gh := ⟨fun j => match ρ[j]? with | some p => g.mu p.1 | none => none, fun j => match ρ[j]? with | some p => (match g.vr p.1 with | some v => some (verN N j v) | none => none) | none => none, g.S⟩
  have hlow : ∀ r, r < N → ∃ p, ρ[r]? = some p ∧ p.1 = r := by
    intro r hr
    obtain ⟨p, hp⟩ := getElem?_of_lt_list ρ r (by omega)
    exact ⟨p, hp, by have := ((r2 r p hp).2.2 (by omega)).1; omega⟩
  have hren : RenOk N ρ h g g' := ⟨rfl, fun j p e => by simp [g', e], fun j p v e hv => by simp [g', e, hv], hW.ver, fun j p e hv => by simp [g', e, hv], hlow⟩
  have hvN : ∀ r v, r < N → verN N r v = v := by
    intro r v hr
    unfold verN
    have : Nat.blt r N = true := by rw [Nat.blt_eq]; exact hr
    rw [this]; rfl
  have hdom0 : ∀ r, (g0.mu r ≠ none ∨ g0.vr r ≠ none) → r < N := by
    intro r hr
    rcases Nat.lt_or_ge r N with q | q
    · exact q
    · obtain ⟨e1, e2⟩ := hD r q
      rcases hr with hr | hr
      · exact absurd e1 hr
      · exact absurd e2 hr
  refine ⟨g', ⟨⟨hg.ext.S, fun r v e => ?_, fun r x e e' => ?_⟩, hg.keep⟩, ?_, ?_⟩
  · have hrN := hdom0 r (.inr (by rw [e]; simp))
    obtain ⟨v', e1, e2, e3⟩ := hg.ext.row r v e
    obtain ⟨p, hp, hpr⟩ := hlow r hrN
    refine ⟨v', ?_, e2, fun q => ?_⟩
    · have := hren.vr r p v' hp (by rw [hpr]; exact e1)
      rw [this, hvN r v' hrN]
    · rw [hren.mu r p hp, hpr]; exact e3 q
  · have hrN := hdom0 r (.inl (by rw [e']; simp))
    obtain ⟨e1, e2⟩ := hg.ext.obj r x e e'
    obtain ⟨p, hp, hpr⟩ := hlow r hrN
    refine ⟨?_, by rw [hren.mu r p hp, hpr]; exact e2⟩
    simp [g', hp, hpr, e1]
  · refine ⟨hW.low, hW.base, hW.shut, fun r hr => ?_, fun r hr => ?_, fun r => ?_, fun r x hx => ?_, fun r r' x x' hx hx' he => ?_, fun r x hx => ?_⟩
    · rw [hp_n, o1] at hr
      obtain ⟨p, hp⟩ := getElem?_of_lt_list ρ r hr
      obtain ⟨x, hx⟩ := hW.dom p.1 (r2 r p hp).1
      exact ⟨x, by rw [hren.mu r p hp]; exact hx⟩
    · rw [hp_n, o1] at hr
      refine ⟨?_, ?_⟩
      · simp [g', List.getElem?_eq_none hr]
      · rw [hp_get, List.getD_eq_getElem?_getD, List.getElem?_eq_none (by rw [o1]; exact hr)]; rfl
    · rw [hp_get, List.getD_eq_getElem?_getD]
      rcases Nat.lt_or_ge r ρ.length with hlt | hge
      · obtain ⟨p, hp⟩ := getElem?_of_lt_list ρ r hlt
        obtain ⟨o, ho, hro⟩ := o2 r p hp
        rw [ho, Nat.zero_add] at *
        have hv := hW.ver p.1
        change (match ρ[r]? with | some p => (match g.vr p.1 with | some v => some (verN N r v) | none => none) | none => none) = _
        rw [hp]
        simp only [Option.getD_some]
        unfold renO at hro
        cases hgp : h.get p.1 with
        | row ver ty sz pub cap es =>
          rw [hgp] at hv hro
          simp only at hv hro
          rw [hv]
          cases h2 : p.2 with
          | true => rw [h2] at hro; cases hro; rfl
          | false =>
            rw [h2] at hro
            simp only [cond_false] at hro
            split at hro
            · cases hro; rfl
            · cases hro
        | siter s pos => rw [hgp] at hv hro; cases hro; rw [hv]
        | dead => rw [hgp] at hv hro; cases hro; rw [hv]
        | defs => rw [hgp] at hv hro; cases hro; rw [hv]
        | loop st pd fn n tm ps a b d =>
          rw [hgp] at hv hro
          obtain ⟨_, hro⟩ := bif_some hro rfl
          cases hro; rw [hv]
        | _ => rw [hgp] at hro; cases hro
      · rw [List.getElem?_eq_none (by rw [o1]; exact hge)]
        simp [g', List.getElem?_eq_none hge]
    · have hlt : r < ρ.length := by
        rcases Nat.lt_or_ge r ρ.length with q | q
        · exact q
        · simp [g', List.getElem?_eq_none q] at hx
      obtain ⟨p, hp⟩ := getElem?_of_lt_list ρ r hlt
      rw [hren.mu r p hp] at hx
      obtain ⟨o, ho, hro⟩ := o2 r p hp
      rw [hp_get, List.getD_eq_getElem?_getD, ho, Option.getD_some]
      have hobj := hW.obj p.1 x hx
      unfold renO at hro
      cases hgp : h.get p.1 with
      | row ver ty sz pub cap es =>
        rw [hgp] at hobj hro
        obtain ⟨e1, C, fr, hrow⟩ := hobj
        simp only at hro
        cases h2 : p.2 with
        | true =>
          rw [h2] at hro; cases hro
          have hob := oldA_ok ρ hoA p (List.mem_of_getElem? hp)
          unfold oldO at hob
          rw [hgp] at hob
          simp only [h2, cond_true] at hob
          have hob := hob.1
          refine ⟨e1, C, fr, hrow.at_, hrow.csize, hrow.pos, hrow.fits, hrow.pubs, hrow.caps, hrow.elems, fun i e j y he hy => ?_, hrow.shut, hrow.ice⟩
          obtain ⟨v, a1, a2, a3⟩ := hrow.cells i e j y he hy
          have hG3 : GR g.S v y := ground_GR 3 a3 ((groundL_iff _ _).1 (hob e (List.mem_of_getElem? he)) y (List.mem_of_getElem? hy))
          exact ⟨v, a1, a2, .gnd hG3⟩
        | false =>
          rw [h2] at hro
          simp only [cond_false] at hro
          split at hro
          · rename_i es' hes
            cases hro
            obtain ⟨m1, m2⟩ := mapO_get hes
            have hob := oldA_ok ρ hoA p (List.mem_of_getElem? hp)
            unfold oldO at hob
            rw [hgp] at hob
            simp only [h2, cond_false] at hob
            refine ⟨e1, C, fr, hrow.at_, hrow.csize, hrow.pos, by rw [m1]; exact hrow.fits, by rw [m1]; exact hrow.pubs, hrow.caps, fun i e' he' => ?_, fun i e' j y' he' hy' => ?_, hrow.shut, hrow.ice⟩
            · obtain ⟨e, he⟩ := getElem?_of_lt_list es i (by rw [← m1]; exact lt_of_getElem?_list he')
              obtain ⟨e2, q1, q2⟩ := m2 i e he
              rw [he'] at q1; cases q1
              obtain ⟨b1, b2⟩ := hrow.elems i e he
              obtain ⟨c1, c2, _⟩ := renE_ok hren (oldL_mem hob e (List.mem_of_getElem? he)) q2
              exact ⟨c1.trans b1, c2⟩
            · obtain ⟨e, he⟩ := getElem?_of_lt_list es i (by rw [← m1]; exact lt_of_getElem?_list he')
              obtain ⟨e2, q1, q2⟩ := m2 i e he
              rw [he'] at q1; cases q1
              obtain ⟨c1, _, c3⟩ := renE_ok hren (oldL_mem hob e (List.mem_of_getElem? he)) q2
              obtain ⟨y, hy⟩ := getElem?_of_lt_list e.cells j (by rw [← c1]; exact lt_of_getElem?_list hy')
              obtain ⟨v, a1, a2, a3⟩ := hrow.cells i e j y he hy
              exact ⟨v, a1, a2, c3 j y y' v hy hy' a3⟩
          · cases hro
      | siter s pos => rw [hgp] at hobj hro; cases hro; exact hobj
      | dead => cases h1 : o <;> rw [hgp] at hro <;> cases hro <;> cases h1; trivial
      | defs => rw [hgp] at hobj hro; cases hro; exact hobj
      | loop st pd fn n tm ps a b d =>
        have hob := oldA_ok ρ hoA p (List.mem_of_getElem? hp)
        unfold oldO at hob
        rw [hgp] at hob hobj hro
        obtain ⟨hd, hro⟩ := bif_some hro rfl
        cases hro
        have hst : StT N n tm := hob.1
        obtain ⟨hz, Lp, h1, h2, h3, h4, h5, h6, h7, h8, h9, h10, k, h11⟩ := hobj
        have hdl := hd
        rw [Nat.blt_eq] at hdl
        obtain ⟨pd', hpd, hpd1⟩ := hlow d hdl
        refine ⟨hz, Lp, h1, h2, h3, h4, h5, fun i v hv => ?_, h7, h8, h9, hren.vn d pd' hpd (by rw [hpd1]; exact h10), k, (hren.mu d pd' hpd).trans (by rw [hpd1]; exact h11)⟩
        have hi : i < n := by rw [← h5]; exact lt_of_getElem?_array hv
        rcases hst i hi with q | q
        · exact .inl q
        · rcases h6 i v hv with q2 | q2
          · exact .inl q2
          · exact .inr (stV_R hren 5 q q2)
      | _ => rw [hgp] at hro; cases hro
    · have hlt : ∀ {q y}, g'.mu q = some y → ∃ p, ρ[q]? = some p := by
        intro q y hy
        rcases Nat.lt_or_ge q ρ.length with h1 | h1
        · exact getElem?_of_lt_list ρ q h1
        · simp [g', List.getElem?_eq_none h1] at hy
      obtain ⟨p, hp⟩ := hlt hx
      obtain ⟨p', hp'⟩ := hlt hx'
      rw [hren.mu r p hp] at hx
      rw [hren.mu r' p' hp'] at hx'
      exact r3 r r' p p' hp hp' (hW.inj _ _ _ _ hx hx' he)
    · have hlt : r < ρ.length := by
        rcases Nat.lt_or_ge r ρ.length with q | q
        · exact q
        · simp [g', List.getElem?_eq_none q] at hx
      obtain ⟨p, hp⟩ := getElem?_of_lt_list ρ r hlt
      rw [hren.mu r p hp] at hx
      exact hW.high _ _ hx
  · obtain ⟨hb1, hb2, hb3⟩ := hb
    refine ⟨hf.fn, ⟨hf.slots.size, fun i v hv => ?_, fun i hi => mkT_out b.n L' i hi⟩, ?_, ?_⟩
    · have hi : i < b.n := by have := lt_of_getElem?_array hv; rw [hf.slots.size] at this; exact this
      rcases mkT_get b.n L' i hi with e | ⟨y, hm, e⟩
      · exact .inl e
      · right
        change R g' v ((mkT b.n L').get undef i)
        rw [e]
        obtain ⟨x, hx, hxy⟩ := renL_mem hL hm
        have hold := oldS_ok _ hoS _ _ hx
        rw [← hL1] at hx
        have := keepV_mem hx
        subst this
        have hne : (b.on L).at' i ≠ lost := fun q => by rw [q] at hxy; cases hxy
        exact renV_R hren 5 hold ((hf.slots.rel i v hv).resolve_left hne) hxy
    · have := hf.round
      change RoundOk g bf.roundOf b.round at this
      change RoundOk g' bf.roundOf b.round
      rw [hb3] at this ⊢
      exact this
    · have := hf.marks
      change DefsOk g a.defers b.marks b.defers at this
      change DefsOk g' a.defers b.marks b.defers
      rw [hb1, hb2] at this ⊢
      have h0 : a.defers = [] := by have := this.calls.1; simpa using this
      rw [h0]; exact DefsOk.nil g'

theorem Vw.eq {s s' : Fr} {h h' : Heap} (hs : s = s') (hh : h = h') : Vw N s h s' h' := by
  subst hs hh
  exact ⟨fun _ hg hW hf => ⟨_, hg, hW, hf⟩⟩
/-- Two heaps in which the same lies. -/
theorem Vw.ext {s : Fr} {h h' : Heap} (hn : h.n = h'.n) (hg : ∀ r, h.get r = h'.get r) : Vw N s h s h' := ⟨fun _ hg0 hW hf =>
  ⟨_, hg0, ⟨hW.low, hW.base, hW.shut, fun r hr => hW.dom r (by rw [hn]; exact hr), fun r hr => by rw [← hg r]; exact hW.out r (by rw [hn]; exact hr), fun r => by rw [← hg r]; exact hW.ver r, fun r x hx => by rw [← hg r]; exact hW.obj r x hx, hW.inj, hW.high⟩, hf⟩⟩

/-- The result of a pure call as data of which less is said. -/
theorem ra_data {S : Nat → Nat → Option Value} {w : World} {v : Value} {x : V} (h : GR S v x) : RA S w v x [] := by
  have lst : ∀ (xs : List V) (vs : List Value), vs.length = xs.length → (∀ (i : Nat) v x, vs[i]? = some v → xs[i]? = some x → GR S v x) → RL S w vs xs [] := by
    intro xs
    induction xs with
    | nil => intro vs hn _; cases vs with | nil => exact .nil | cons _ _ => simp at hn
    | cons x xs IH =>
      intro vs hn h
      cases vs with
      | nil => simp at hn
      | cons v vs => exact .cons (b := []) (bs := []) (.data (h 0 v x rfl rfl)) (IH vs (by simpa using hn) fun i v x p q => h (i + 1) v x (by simpa using p) (by simpa using q))
  have part : ∀ {v : Value} {x : V}, GR S v x → RP S w v x [] := by
    intro v x h
    by_cases ha : ∃ l, x = .agg l
    · obtain ⟨l, rfl⟩ := ha
      cases h with
      | agg hn h1 h => exact .agg h1 (lst l _ (by simpa using hn) fun i v x p q => h i v x (by simpa using p) q)
    · exact .one (fun l e => ha ⟨l, e⟩) (.data h)
  by_cases ht : ∃ l, x = .tup l
  · obtain ⟨l, rfl⟩ := ht
    cases h with
    | tup hn h =>
      refine .tup ?_
      have : ∀ (xs : List V) (vs : List Value), vs.length = xs.length → (∀ (i : Nat) v x, vs[i]? = some v → xs[i]? = some x → GR S v x) → RPL S w vs xs [] := by
        intro xs
        induction xs with
        | nil => intro vs hn _; cases vs with | nil => exact .nil | cons _ _ => simp at hn
        | cons x xs IH =>
          intro vs hn h
          cases vs with
          | nil => simp at hn
          | cons v vs => exact .cons (b := []) (bs := []) (part (h 0 v x rfl rfl)) (IH vs (by simpa using hn) fun i v x p q => h (i + 1) v x (by simpa using p) (by simpa using q))
      exact this l _ (by simpa using hn) fun i v x p q => h i v x (by simpa using p) q
  · exact .one (fun l e => ht ⟨l, e⟩) (part h)
/-- Less is said of data. -/
def Gk (x x' : V) : Prop := ∀ (S : Nat → Nat → Option Value) (v : Value), GR S v x → GR S v x'
theorem Cp.data {f : FuncId} {gs : List V} {g g' : V} (hc : Cp P E f gs g) (hg : Gk (still g) g') : Cp P E f gs g' := by
  intro hF S w cs us hs hG hus
  obtain ⟨S', w', y, bs, hm, hk, hS, hl, hA, hn, hb, hret⟩ := hc hF S w cs us hs hG hus
  have hW : W (lo w.heap.size) w (Gh.data S') Heap.empty w' := { W.start (w := w') hS with low := .of hl, base := fun _ hb => Nat.lt_of_lt_of_le hb hl.size, high := fun r x e => by cases e }
  obtain ⟨S2, t, hR⟩ := still_sound hW hA (fun b hb' => ⟨Nat.not_lt.2 (hb b hb').1, (hb b hb').2, fun q x hq => by cases hq⟩) hn
  exact ⟨S2, w', y, [], fun b o v e => t.grown.ext.S b o v (hm b o v e), fun b o v hb' e => hk b o v hb' (t.grown.keep b o v hb' e), t.world.shut, hl, ra_data (hg _ _ hR), List.nodup_nil, (fun b hb' => by cases hb'), hret⟩
theorem Gk.refl (x : V) : Gk x x := fun _ _ h => h
theorem Gk.nils (sz : Nat) : Gk .nils (.osl sz []) := fun S v h => by cases h; exact .oslN
theorem Gk.gsl {sz : Nat} {es : List V} {c : Option Nat} : Gk (.gsl sz es c) (.osl sz es) := fun S v h => by
  cases h with
  | gsl val hsz hc hS hcap hle hh => exact .oslS (.gsl val hsz hc hS (fun _ e => by cases e) hle hh)
theorem Gk.agg {xs ys : List V} (hn : xs.length = ys.length) (h : ∀ (i : Nat) x y, xs[i]? = some x → ys[i]? = some y → Gk x y) : Gk (.agg xs) (.agg ys) := fun S v hR => by
  cases hR with
  | agg h1 h2 h3 =>
    refine .agg (h1.trans hn) h2 fun i v y p q => ?_
    obtain ⟨x, hx⟩ := getElem?_of_lt_list xs i (by rw [hn]; exact lt_of_getElem?_list q)
    exact h i x y hx q S v (h3 i v x p hx)

/-- Less is said of arguments. -/
def Wks (xs ys : List V) : Prop := xs.length = ys.length ∧ ∀ (i : Nat) x y, xs[i]? = some x → ys[i]? = some y → Wk x y
theorem Wks.nil : Wks [] [] := ⟨rfl, fun i x y h _ => by simp at h⟩
theorem Wks.cons {x y : V} {xs ys : List V} (h : Wk x y) (t : Wks xs ys) : Wks (x :: xs) (y :: ys) := by
  refine ⟨by simp [t.1], fun i a b p q => ?_⟩
  cases i with
  | zero => simp at p q; subst p; subst q; exact h
  | succ i => exact t.2 i a b (by simpa using p) (by simpa using q)
theorem Cp.args {f : FuncId} {gs gs' : List V} {g : V} (hw : Wks gs gs') (hc : Cp P E f gs' g) : Cp P E f gs g := by
  intro hF S w cs us hs hG hus
  refine hc hF S w cs us hs hG ⟨hus.1.trans hw.1, fun i v y p q => ?_⟩
  obtain ⟨x, hx⟩ := getElem?_of_lt_list gs i (by rw [hw.1]; exact lt_of_getElem?_list q)
  exact hw.2 i x y hx q _ v (hus.2 i v x p hx)
theorem Wk.aggs {xs ys : List V} (h : Wks xs ys) : Wk (.agg xs) (.agg ys) := .agg h.1 h.2
/-- A walk's result as data of which less is said. -/
theorem Cx.pureG {f : FuncId} {gs : List V} {g : V} (hc : Cx P E f gs Heap.empty (fun v h => ∃ g0, retAll h v = some g0 ∧ Gk (still g0) g)) : Cp P E f gs g := by
  intro hF S w cs us hs hG hus
  obtain ⟨v, h', ⟨g0, hr, hgk⟩, g', w', u, hg, hW, hR, hret⟩ := hc hF cs us (W.start hs) hG hus
  obtain ⟨S', h2, bs, hg', hW', hA, hn, hb⟩ := retAll_sound hW hR hr
  have hgg := hg.trans hg'
  have hW2 : W (lo w.heap.size) w (Gh.data S') Heap.empty w' := { W.start (w := w') hW'.shut with low := hW'.low, base := fun _ hb => Nat.lt_of_lt_of_le hb hW'.low.size, high := fun r x e => by cases e }
  obtain ⟨S2, t, hR2⟩ := still_sound hW2 hA (fun b hb' => ⟨(hb b hb').1, (hb b hb').2, fun q x hq => by cases hq⟩) hn
  exact ⟨S2, w', u, [], fun b o v e => t.grown.ext.S b o v (hgg.ext.S b o v e), fun b o v hb' e => hgg.keep b o v hb' (t.grown.keep b o v hb' e), t.world.shut, hW'.low.below, ra_data (hgk _ _ hR2), List.nodup_nil, (fun b hb' => by cases hb'), hret⟩
theorem Cp.bodyG {f : FuncId} {fn : Func} {body : Code} {gs : List V} {g : V} (hf : P.funcs[f]? = some fn) (hb : fn.body = some body) (hl : Nat.ble (List.len gs) fn.ntmps = true)
    (hw : Wc P E body (argS f fn.ntmps gs) Heap.empty (retX P fn fun v h => ∃ g0, retAll h v = some g0 ∧ Gk (still g0) g) (bodyX P fn fun v h => ∃ g0, retAll h v = some g0 ∧ Gk (still g0) g) 0) : Cp P E f gs g := (Ev.body hf hb hl hw).pureG

end Go.AM

/-
  ROWS OF PLAIN DATA OVER UNKNOWN CONTENTS: handed over whole; read at a place.
-/
namespace Go.AM
open Go.RowKit

variable {P : Program} {E : Env}

theorem pubL_map {α : Type} {g : Heap → V → Option (V × Heap)} {f : α → V} (hf : ∀ a h, g h (f a) = some (f a, h)) (l : List α) (h : Heap) : pubL g (l.map f) h = some (l.map f, h) := by
  induction l with
  | nil => rfl
  | cons a l IH =>
    change (match g h (f a) with
      | none => none
      | some (v', h1) => match pubL g (l.map f) h1 with
        | none => none
        | some (l', h2) => some (v' :: l', h2)) = _
    rw [hf]
    simp only [IH, List.map_cons]
theorem pub_text (seen : List Nat) (a : List UInt8) (h : Heap) : pub seen depth h (.str a) = some (.str a, h) := rfl
theorem retAll_row {α : Type} {f : α → V} (hf : ∀ seen a h, pub seen depth h (f a) = some (f a, h)) {h : Heap} {r ver n ty sz pb : Nat} {cap : Option Nat} {l : List α} {es : List V} (hg : h.get r = .row ver ty sz pb cap es) (he : es = l.map f) (hn : n = l.length) : retAll h (.sl r ver 0 n none) = some (.fsl ty sz pb (l.map f) cap) := by
  subst he hn
  have e : retV h [] (.sl r ver 0 l.length none) = some (.fsl ty sz pb (l.map f) cap, h, [r]) := by
    change (match h.get r with
      | .row ver' ty sz _ cap es =>
        bif Nat.beq ver ver' && Nat.beq 0 0 && Nat.beq l.length (List.len es) && noCap none && !(memN r []) then
          match pubL (pub [r] depth) es h with
          | some (es', h1) => match h1.get r with
            | .row _ _ _ pb _ _ => some (V.fsl ty sz pb es' cap, h1, [r])
            | _ => none
          | none => none
        else match pub [] depth h (.sl r ver 0 l.length none) with
          | some (v', h') => some (v', h', [])
          | none => none
      | _ => none) = _
    rw [hg]
    simp only [Nat.beq_refl, List.len_eq, List.length_map]
    rw [pubL_map (hf [r])]
    simp only [hg]
    rfl
  change (match retV h [] (.sl r ver 0 l.length none) with
    | some (v', _) => some v'
    | none => none) = _
  rw [e]
/-- A row's element. -/
theorem load_at {α : Type} {f : α → V} (hc : ∀ a, (f a).cells = [f a]) {h : Heap} {t ty r ver i k pub : Nat} {cap : Option Nat} {l : List α} (d : α) (ha : aggOf P t = some false) (hs : size P t = 1) (hr : h.get r = .row ver ty 1 pub cap (l.map f)) (he : i = k * 1) (hk : k < l.length) : load P h t (.ptr r ver i) = some (f (l.getD k d)) := by
  subst he
  rw [Nat.mul_one]
  refine load_one ha hs hr ?_ (hc _)
  rw [List.getElem?_map, List.getElem?_eq_getElem hk, List.getD_eq_getElem?_getD, List.getElem?_eq_getElem hk]; rfl
theorem load_gat {α : Type} {f : α → V} (hc : ∀ a, (f a).cells = [f a]) {h : Heap} {t i k : Nat} {l : List α} (d : α) (ha : aggOf P t = some false) (hs : size P t = 1) (he : i = k * 1) (hk : k < l.length) : load P h t (.gptr 1 (l.map f) i) = some (f (l.getD k d)) := by
  subst he
  rw [Nat.mul_one]
  refine load_gone ha hs ?_ (hc _)
  rw [List.getElem?_map, List.getElem?_eq_getElem hk, List.getD_eq_getElem?_getD, List.getElem?_eq_getElem hk]; rfl

theorem gnd_map {α : Type} {f : α → V} (hf : ∀ a, groundL (ground 3) (f a).cells = true) (l : List α) : ∀ e, e ∈ l.map f → groundL (ground 3) e.cells = true := fun e he => by
  obtain ⟨a, _, rfl⟩ := List.mem_map.1 he
  exact hf a
theorem gnd_app {a b : List V} (ha : ∀ e, e ∈ a → groundL (ground 3) e.cells = true) (hb : ∀ e, e ∈ b → groundL (ground 3) e.cells = true) : ∀ e, e ∈ a ++ b → groundL (ground 3) e.cells = true := fun e he => by
  rcases List.mem_append.1 he with h | h
  · exact ha e h
  · exact hb e h
theorem gnd_one {x : V} (h : groundL (ground 3) x.cells = true) : ∀ e, e ∈ [x] → groundL (ground 3) e.cells = true := fun e he => by
  simp only [List.mem_singleton] at he
  subst he; exact h
theorem gnd_take {a : List V} (ha : ∀ e, e ∈ a → groundL (ground 3) e.cells = true) (n : Nat) : ∀ e, e ∈ a.take n → groundL (ground 3) e.cells = true := fun e he => ha e (List.mem_of_mem_take he)
/-- The parts of a piece of code behind the m-th. -/
def tailC : Nat → Code → Code
  | 0, .seq _ b => b
  | m + 1, .seq _ b => tailC m b
  | _, _ => .skip
theorem Wc.use {P : Program} {E : Env} {N : Nat} {X : Ex → Fr → Heap → Prop} {K : Fr → Heap → Prop} {c c' : Code} {s Q : Fr} {h H : Heap} (hb : Wc P E c' Q H K X N) (hc : c' = c) (hh : h = H) (hl : Le Q s) : Wc P E c s h K X N := by
  subst hc hh
  exact hb.weak hl
theorem Vw.first {α : Type} {N : Nat} {s s1 : Fr} {h h1 : Heap} {S : α → Fr} {H : α → Heap} {Q : α → Prop} (hv : Vw N s h s1 h1) (hx : ∃ a, Vw N s1 h1 (S a) (H a) ∧ Q a) : ∃ a, Vw N s h (S a) (H a) ∧ Q a := by
  obtain ⟨a, p, q⟩ := hx
  exact ⟨a, hv.trans p, q⟩

/-- A slot's value is published. -/
theorem Vw.pub {N : Nat} {b : Fr} {L : List (Nat × V)} {h h1 : Heap} (i : Nat) (x x' : V) (ks : List Nat) (L' : List (Nat × V)) (hx : (b.on L).at' i = x) (hn : Nat.blt i b.n = true) (hp : pub [] depth h x = some (x', h1)) (hl : x ≠ lost) (hk : sumP ks ((b.on L).put (some i) x') = some L') : Vw N (b.on L) h (b.on L') h1 := by
  refine ⟨fun {B w0 w g0 g bf a} hD hg hW hf => ?_⟩
  have hi : i < b.n := by rw [← Nat.blt_eq]; exact hn
  obtain ⟨v, hv⟩ := getElem?_of_lt_array a.tmps i (by rw [hf.slots.size]; exact hi)
  have hR : R g v x := by
    rcases hf.slots.rel i v hv with e | e
    · exfalso
      have e : (b.on L).at' i = lost := e
      rw [hx] at e; exact absurd e hl
    · have e : R g v ((b.on L).at' i) := e
      rw [hx] at e; exact e
  obtain ⟨S, q, hG, _⟩ := pub_sound [] depth hW hR hp
  have hf' := hf.mono q.grown.ext
  obtain ⟨s1, hs1, hk1⟩ := sumP_some hk
  have e1 : s1 = ⟨b.fn, b.n, T.set undef x' (b.on L).tm i, b.marks, b.defers, b.round, b.dk, b.did⟩ := by
    change Bool.rec none (some _) (Nat.blt i b.n) = some s1 at hs1
    rw [hn] at hs1
    cases hs1; rfl
  have hf1 : FrOk (g.say S) bf s1 a := by
    subst e1
    refine ⟨hf'.fn, ⟨hf'.slots.size, fun j u hj => ?_, fun j hj => ?_⟩, hf'.round, hf'.marks⟩
    · rw [T.get_set]
      split
      · rename_i e
        subst e
        rw [hv] at hj; cases hj
        exact .inr (.gnd hG)
      · exact hf'.slots.rel j u hj
    · rw [T.get_set, if_neg (by have hj : b.n ≤ j := hj; omega)]
      exact hf'.slots.none j hj
  have hs : SameB b s1 := (SameB.on b L).trans (SameB.put hs1)
  exact ⟨_, hg.trans q.grown, q.world, (hs.keep hk1).ok hf1⟩

/-- Data that names nothing of the heap. -/
def Pd (e : V) : Prop := ∀ (h : Heap), AM.pub [] 39 h e = some (e, h)
theorem pd_map {α : Type} {f : α → V} (hf : ∀ a h, AM.pub [] 39 h (f a) = some (f a, h)) (l : List α) : ∀ e, e ∈ l.map f → Pd e := fun e he => by
  obtain ⟨a, _, rfl⟩ := List.mem_map.1 he
  exact hf a
theorem pd_app {a b : List V} (ha : ∀ e, e ∈ a → Pd e) (hb : ∀ e, e ∈ b → Pd e) : ∀ e, e ∈ a ++ b → Pd e := fun e he => (List.mem_append.1 he).elim (ha e) (hb e)
theorem pd_one {x : V} (h : Pd x) : ∀ e, e ∈ [x] → Pd e := fun e he => by
  simp only [List.mem_singleton] at he
  subst he; exact h
theorem pd_nil : ∀ e, e ∈ ([] : List V) → Pd e := fun e he => by cases he
theorem pd_cons {x : V} {l : List V} (h : Pd x) (hl : ∀ e, e ∈ l → Pd e) : ∀ e, e ∈ x :: l → Pd e := fun e he => by
  rcases List.mem_cons.1 he with rfl | he
  · exact h
  · exact hl e he
theorem pd_take {l : List V} (n : Nat) (h : ∀ e, e ∈ l → Pd e) : ∀ e, e ∈ l.take n → Pd e := fun e he => h e (List.mem_of_mem_take he)
theorem pd_drop {l : List V} (n : Nat) (h : ∀ e, e ∈ l → Pd e) : ∀ e, e ∈ l.drop n → Pd e := fun e he => h e (List.mem_of_mem_drop he)
theorem pubL_pd {l : List V} (hl : ∀ e, e ∈ l → Pd e) (h : Heap) : pubL (AM.pub [] 39) l h = some (l, h) := by
  induction l with
  | nil => rfl
  | cons x l IH =>
    rw [pubL_cons, hl x (by simp)]
    simp only [IH fun e he => hl e (by simp [he])]
/-- A whole row of such data is published. -/
theorem pub_row {h : Heap} {r ver n ty sz pb : Nat} {cap c : Option Nat} {es : List V} (hg : h.get r = .row ver ty sz pb cap es) (hn : n = es.length) (hp : ∀ e, e ∈ es → Pd e) : AM.pub [] depth h (.sl r ver 0 n c) = some (.gsl sz es (match c with | some c => some c | none => subO cap 0), h.set r (.row ver ty sz (Nat.max pb (Nat.add 0 n)) cap es)) := by
  subst hn
  change pubSl (AM.pub [] 39) [] h r ver 0 es.length c = _
  unfold pubSl
  rw [hg]
  simp only
  have e1 : (Nat.beq ver ver && !(memN r []) && Nat.ble (Nat.add 0 es.length) (List.len es)) = true := by
    rw [Nat.beq_refl, List.len_eq]
    simp [memN]
  have e2 : List.takeN (List.dropN es 0) es.length = es := by rw [List.takeN_eq, List.dropN_eq, List.drop_zero, List.take_length]
  rw [e1, e2, pubL_pd hp]
  simp only [cond_true, hg, Nat.beq_refl]
  rfl

/-- A piece of code comes to a state that can be viewed as a given one. -/
theorem Wc.mid {P : Program} {E : Env} {N : Nat} {X : Ex → Fr → Heap → Prop} {K : Fr → Heap → Prop} {c c' : Code} {s : Fr} {h : Heap} (S' : Fr) (H' : Heap) (hv : Wc P E c s h (fun s1 h1 => Vw N s1 h1 S' H') X N) (hb : Wc P E c' S' H' K X N) : Wc P E c s h (fun s1 h1 => Wc P E c' s1 h1 K X N) X N :=
  hv.mono (fun _ _ q => Wc.view q hb) (fun _ _ _ q => q)
/-- An append, by an equation. -/
noncomputable def appAt (P : Program) (E : Env) (all : List Oper) (i : Nat) (s : Fr) : Option (TypeId × V × V × Option Tmp) :=
  match opAt all i s with
  | none => none
  | some o => match o.op with
    | .call c => (match c.callee with
      | .builtin b => (match b with
        | .append => (match c.argTypes.toList with
          | [t, u] => bif notIntT P u then (match mapO (ev E.glob s.tm) c.args.toList with
            | some [x, y] => some (t, x, y, o.dst)
            | _ => none) else none
          | _ => none)
        | _ => none)
      | _ => none)
    | _ => none
theorem Wl.append {P : Program} {E : Env} {N : Nat} {X : Ex → Fr → Heap → Prop} {K : Fr → Heap → Prop} {all : List Oper} {b : Fr} {L : List (Nat × V)} {h h1 : Heap} {t : TypeId} {x y v : V} {d : Option Tmp} (i : Nat) (ks : List Nat) (L' : List (Nat × V)) (ho : appAt P E all i (b.on L) = some (t, x, y, d)) (hv : AM.append P t h x y = .val v h1) (hp : sumP ks ((b.on L).put d v) = some L') (hk : Wl P E all (all.drop (i + 1)) (b.on L') h1 K X N) : Wl P E all (all.drop i) (b.on L) h K X N := by
  unfold appAt at ho
  split at ho
  · cases ho
  · rename_i o hoa
    split at ho
    · rename_i c hop
      split at ho
      · rename_i bb hcal
        split at ho
        · split at ho
          · rename_i t' u hts
            obtain ⟨hu, ho⟩ := bif_some ho rfl
            split at ho
            · rename_i x' y' hm
              cases ho
              refine Wl.opv i ks L' hoa (v := v) (h1 := h1) ?_ hp hk
              rw [operE_plain (fun _ _ _ e => by rw [hop] at e; cases e)]
              unfold oper
              rw [hop, operD_call]
              unfold oCall
              rw [hm, hcal]
              simp only
              rw [hts]
              change (bif notIntT P u then AM.append P t h x y else bif intT P u then appendZ P t h x y else .stuck) = _
              rw [hu]; exact hv
            · cases ho
          · cases ho
        · cases ho
      · cases ho
    · cases ho
theorem elems_zero {h : Heap} {sz r ver o ty pub : Nat} {c cap : Option Nat} {es : List V} (hg : h.get r = .row ver ty sz pub cap es) (ho : o ≤ es.length) : elems h sz (.sl r ver o 0 c) = some [] := by
  unfold elems
  simp only [hg]
  have e : (Nat.beq ver ver && Nat.beq sz sz && Nat.ble (Nat.add o 0) (List.len es)) = true := by
    rw [Nat.beq_refl, Nat.beq_refl, List.len_eq]
    simpa using ho
  rw [e, List.takeN_eq]; rfl
theorem append_nils {P : Program} {h : Heap} {t e sz r ver o ty pub : Nat} {c cap : Option Nat} {es : List V} (ht : sliceElem P t = some e) (hs : size P e = sz) (h0 : Nat.beq sz 0 = false) (hg : h.get r = .row ver ty sz pub cap es) (ho : o ≤ es.length) : AM.append P t h .nils (.sl r ver o 0 c) = .val .nils h := by
  subst hs
  have e : appended h (size P e) (.sl r ver o 0 c) = some [] := elems_zero (c := c) hg ho
  have := append_eq (P := P) (x := V.nils) ht e h0
  rw [this]; rfl
theorem append_none {P : Program} {h : Heap} {t e sz r ver o n ty pub : Nat} {c cap : Option Nat} {es : List V} (ht : sliceElem P t = some e) (hs : size P e = sz) (h0 : Nat.beq sz 0 = false) (hg : h.get r = .row ver ty sz pub cap es) (hn : n = 0) (ho : o ≤ es.length) : AM.append P t h .nils (.sl r ver o n c) = .val .nils h := by
  subst hn
  exact append_nils ht hs h0 hg ho
theorem append_some {P : Program} {h : Heap} {t e sz r ver o n m ty pub : Nat} {c cap : Option Nat} {es es' : List V} (ht : sliceElem P t = some e) (hs : size P e = sz) (h0 : Nat.beq sz 0 = false) (hz : zeroOk P e = true) (hg : h.get r = .row ver ty sz pub cap es) (hnm : n = m) (hm : 0 < m) (ho : o + m ≤ es.length) (he : (es.drop o).take m = es') (hr : m ≤ 1099511627776) (hb : m * P.bytesOf e ≤ 1099511627776) :
    AM.append P t h .nils (.sl r ver o n c) = .val (.sl h.n 0 0 m none) (newRow h e sz 0 none es') := by
  subst hs hnm
  have e1 : appended h (size P e) (.sl r ver o n c) = some es' := by
    change elems h (size P e) (.sl r ver o n c) = _
    unfold elems
    simp only [hg]
    have e : (Nat.beq ver ver && Nat.beq (size P e) (size P e) && Nat.ble (Nat.add o n) (List.len es)) = true := by
      rw [Nat.beq_refl, Nat.beq_refl, List.len_eq]
      simpa using ho
    rw [e, List.takeN_eq, List.dropN_eq, he]; rfl
  have hl : es'.length = n := by rw [← he, List.length_take, List.length_drop]; omega
  have hne : es' ≠ [] := fun q => by rw [q] at hl; simp at hl; omega
  have := append_eq (P := P) (x := V.nils) ht e1 h0
  rw [this, isNil_ne hne]
  simp only [cond_false]
  rw [List.len_eq, hl]
  exact freshSl_eq hz hr hb
theorem Wk.any {x : V} : Wk x x := .refl x
/-- One slot of which less is said. -/
theorem Vw.slot {N : Nat} {b : Fr} {L L' : List (Nat × V)} {h : Heap} (i : Nat) (x x' : V) (ks : List Nat) (hx : (b.on L).at' i = x) (hw : Wk x x') (hl : x ≠ lost) (hn : Nat.blt i b.n = true) (hk : sumP ks ((b.on L).put (some i) x') = some L') : Vw N (b.on L) h (b.on L') h := by
  refine ⟨fun {B w0 w g0 g bf a} hD hg hW hf => ?_⟩
  have hi : i < b.n := by rw [← Nat.blt_eq]; exact hn
  obtain ⟨s1, hs1, hk1⟩ := sumP_some hk
  have e1 : s1 = ⟨b.fn, b.n, T.set undef x' (b.on L).tm i, b.marks, b.defers, b.round, b.dk, b.did⟩ := by
    change Bool.rec none (some _) (Nat.blt i b.n) = some s1 at hs1
    rw [hn] at hs1
    cases hs1; rfl
  have hf1 : FrOk g bf s1 a := by
    subst e1
    refine ⟨hf.fn, ⟨hf.slots.size, fun j u hj => ?_, fun j hj => ?_⟩, hf.round, hf.marks⟩
    · rw [T.get_set]
      split
      · rename_i e
        subst e
        rcases hf.slots.rel i u hj with q | q
        · exfalso
          have q : (b.on L).at' i = lost := q
          rw [hx] at q; exact hl q
        · have q : R g u ((b.on L).at' i) := q
          rw [hx] at q; exact .inr (hw g u q)
      · exact hf.slots.rel j u hj
    · rw [T.get_set, if_neg (by have hj : b.n ≤ j := hj; omega)]
      exact hf.slots.none j hj
  have hs : SameB b s1 := (SameB.on b L).trans (SameB.put hs1)
  exact ⟨_, hg, hW, (hs.keep hk1).ok hf1⟩

end Go.AM

