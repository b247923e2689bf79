/-
  THE ABSTRACT MACHINE, and that its run is the model's: part 4 of 4. No condition.
-/
import Derived.Test.YtlkbeldimoinjaaGreatDoorAmAll2
import Derived.Lib.LaidTab
import Derived.KernelRfl
/-
  FROM A RUN OF THE ABSTRACT MACHINE TO THE MODEL's CALL; calls that are known already; tables.
-/
namespace Go.AM
open Go.RowKit

variable {P : Program} {E : Env} {ih : Task → Res}

/-- All that lies in memory. -/
def allOf (W : World) : Nat → Nat → Option Value := look W
theorem allOf_ok (W : World) : Sealed (allOf W) W := fun _ _ _ h => h

theorem calls_of_run (hS : Snd P E ih) (hN : NameOk P) {f : FuncId} {fn : Func} {body : Code} {gs : List V} {b : Bool} {hc : Heap} (hf : P.funcs[f]? = some fn) (hb : fn.body = some body) (hr : ih (.call f gs Heap.empty) = .ret (.bool b) hc) {W : World} {us : Array Value} (hG : GlobOk E.glob (allOf W)) (hs : Rs' (Gh.data (allOf W)) us gs) :
    Calls P f us W fun e W' => e = .returned (.bool b) ∧ Below W.heap.size W W' := by
  intro cs
  have h := hS.call cs f gs us (AM.W.start (allOf_ok W)) hG hs
  rw [hr] at h
  obtain ⟨g', w', v, _, hW, hR, hret⟩ := h
  have := hR.bool_inv; subst this
  rcases hret with h | ⟨_, fr, h1, h2, h3⟩
  · rw [run_callFunc hN hf hb] at h; cases h
  · exact ⟨.returned (.bool b), w', fr, ⟨rfl, hW.low⟩, h1, h2, h3⟩

/-- Does a run give true? -/
def isTrue (r : Res) : Bool :=
  match r with
  | .ret v _ => (match v with
    | .bool b => b
    | _ => false)
  | _ => false
theorem isTrue_ret {r : Res} (h : isTrue r = true) : ∃ hc, r = .ret (.bool true) hc := by
  unfold isTrue at h
  split at h
  · split at h
    · subst h; exact ⟨_, rfl⟩
    · cases h
  · cases h

/-- What a call gave, held against what is said of it. -/
noncomputable def eqF (x y : V) : Bool :=
  match x with
  | .fsl t s p es c => (match y with
    | .fsl t' s' p' es' c' => Nat.beq t t' && Nat.beq s s' && Nat.beq p p' && optEq c c' && veqL (veq depth) es es'
    | _ => false)
  | x => veq depth x y
theorem eqF_iff (x y : V) (h : eqF x y = true) : x = y := by
  unfold eqF at h
  split at h
  · split at h
    · simp only [Bool.and_eq_true, Nat.beq_eq] at h
      obtain ⟨⟨⟨⟨h1, h2⟩, h3⟩, h4⟩, h5⟩ := h
      rw [h1, h2, h3, optEq_iff _ _ h4, veqL_iff (veq_iff depth) _ _ h5]
    · cases h
  · exact veq_iff _ _ _ h
noncomputable def eqP (x y : V) : Bool :=
  match x with
  | .agg a => (match y with
    | .agg b => veqL eqF a b
    | _ => false)
  | x => eqF x y
theorem eqP_iff (x y : V) (h : eqP x y = true) : x = y := by
  unfold eqP at h
  split at h
  · split at h
    · rw [veqL_iff eqF_iff _ _ h]
    · cases h
  · exact eqF_iff _ _ h
noncomputable def eqVal (x y : V) : Bool :=
  match x with
  | .tup a => (match y with
    | .tup b => veqL eqP a b
    | _ => false)
  | x => eqP x y
theorem eqVal_iff {x y : V} (h : eqVal x y = true) : x = y := by
  unfold eqVal at h
  split at h
  · split at h
    · rw [veqL_iff eqP_iff _ _ h]
    · cases h
  · exact eqP_iff _ _ h

noncomputable def memoCk (r : Res) (v : V) : Bool :=
  match r with
  | .ret y hc => (match retAll hc y with
    | some u => eqVal u v
    | none => false)
  | _ => false
theorem memo_pure (hS : Snd P E ih) {f : FuncId} {gs : List V} {v : V} (h : memoCk (ih (.call f gs Heap.empty)) v = true) : PureOk P E.glob f gs v := by
  unfold memoCk at h
  split at h
  · rename_i y hc hr
    split at h
    · rename_i u hu
      have := eqVal_iff h; subst this
      exact PureOk.of_run hS hr hu
    · cases h
  · cases h

/-- Calls of a text, or of nothing, whose results are known. -/
noncomputable def lookT (T : List (List UInt8 × V)) (s : List UInt8) : Option V := List.rec none (fun p _ ih => bif strEq s p.1 then some p.2 else ih) T
noncomputable def lookF {α : Type} (TT : List (FuncId × α)) (f : FuncId) : Option α := List.rec none (fun p _ ih => bif Nat.beq f p.1 then some p.2 else ih) TT
noncomputable def memoP (TT : List (FuncId × List (List UInt8 × V))) (T0 : List (FuncId × V)) (f : FuncId) (gs : List V) : Option V :=
  match gs with
  | [] => lookF T0 f
  | x :: r => match r with
    | [] => (match x with
      | .str s => (match lookF TT f with
        | some T => lookT T s
        | none => none)
      | _ => none)
    | _ => none

theorem lookT_mem {T : List (List UInt8 × V)} {s : List UInt8} {v : V} (h : lookT T s = some v) : (s, v) ∈ T := by
  induction T with
  | nil => cases h
  | cons p T IH =>
    change (bif strEq s p.1 then some p.2 else lookT T s) = some v at h
    cases hs : strEq s p.1 with
    | true =>
      rw [hs] at h; cases h
      rw [(strEq_iff _ _).1 hs]; simp
    | false => rw [hs] at h; simp [IH h]
theorem lookF_mem {α : Type} {T : List (FuncId × α)} {f : FuncId} {v : α} (h : lookF T f = some v) : (f, v) ∈ T := by
  induction T with
  | nil => cases h
  | cons p T IH =>
    change (bif Nat.beq f p.1 then some p.2 else lookF T f) = some v at h
    cases hs : Nat.beq f p.1 with
    | true =>
      rw [hs] at h; cases h
      rw [Nat.beq_eq] at hs; rw [hs]; simp
    | false => rw [hs] at h; simp [IH h]

noncomputable def ckT (P : Program) (E : Env) (n : Nat) (f : FuncId) (T : List (List UInt8 × V)) : Bool := every (fun q => memoCk (run P E n (.call f [.str q.1] Heap.empty)) q.2) T
noncomputable def ck0 (P : Program) (E : Env) (n : Nat) (T : List (FuncId × V)) : Bool := every (fun q => memoCk (run P E n (.call q.1 [] Heap.empty)) q.2) T

theorem ckT_pure {n : Nat} (hS : Snd P E (run P E n)) {f : FuncId} {T : List (List UInt8 × V)} (h : ckT P E n f T = true) : ∀ q, q ∈ T → PureOk P E.glob f [.str q.1] q.2 := fun q hq => memo_pure hS ((every_iff _ _).1 h q hq)
theorem ck0_pure {n : Nat} (hS : Snd P E (run P E n)) {T : List (FuncId × V)} (h : ck0 P E n T = true) : ∀ q, q ∈ T → PureOk P E.glob q.1 [] q.2 := fun q hq => memo_pure hS ((every_iff _ _).1 h q hq)

theorem memoP_ok {TT : List (FuncId × List (List UInt8 × V))} {T0 : List (FuncId × V)} (hE : E.prim = memoP TT T0) (h1 : ∀ p, p ∈ TT → ∀ q, q ∈ p.2 → PureOk P E.glob p.1 [.str q.1] q.2) (h0 : ∀ q, q ∈ T0 → PureOk P E.glob q.1 [] q.2) : PrimOk P E := by
  intro f gs v h
  rw [hE] at h
  unfold memoP at h
  split at h
  · exact h0 _ (lookF_mem h)
  · split at h
    · split at h
      · split at h
        · rename_i T hT
          exact h1 _ (lookF_mem hT) _ (lookT_mem h)
        · cases h
      · cases h
    · cases h

/-- Calls of whatever data, whose results are known. -/
noncomputable def lookG (T : List (List V × V)) (gs : List V) : Option V := List.rec none (fun p _ ih => bif veqL (veq depth) gs p.1 then some p.2 else ih) T
noncomputable def memoX (TG : List (FuncId × List (List V × V))) (pr : FuncId → List V → Option V) (f : FuncId) (gs : List V) : Option V :=
  match pr f gs with
  | some v => some v
  | none => match lookF TG f with
    | some T => lookG T gs
    | none => none
theorem lookG_mem {T : List (List V × V)} {gs : List V} {v : V} (h : lookG T gs = some v) : (gs, v) ∈ T := by
  induction T with
  | nil => cases h
  | cons p T IH =>
    change (bif veqL (veq depth) gs p.1 then some p.2 else lookG T gs) = some v at h
    cases hs : veqL (veq depth) gs p.1 with
    | true =>
      rw [hs] at h; cases h
      rw [veqL_iff (veq_iff depth) _ _ hs]; simp
    | false => rw [hs] at h; simp [IH h]
noncomputable def ckG (P : Program) (E : Env) (n : Nat) (f : FuncId) (T : List (List V × V)) : Bool := every (fun q => memoCk (run P E n (.call f q.1 Heap.empty)) q.2) T
theorem ckG_pure {n : Nat} (hS : Snd P E (run P E n)) {f : FuncId} {T : List (List V × V)} (h : ckG P E n f T = true) : ∀ q, q ∈ T → PureOk P E.glob f q.1 q.2 := fun q hq => memo_pure hS ((every_iff _ _).1 h q hq)
theorem memoX_ok {TG : List (FuncId × List (List V × V))} {pr : FuncId → List V → Option V} (hE : E.prim = memoX TG pr) (hp : ∀ f gs v, pr f gs = some v → PureOk P E.glob f gs v) (h1 : ∀ p, p ∈ TG → ∀ q, q ∈ p.2 → PureOk P E.glob p.1 q.1 q.2) : PrimOk P E := by
  intro f gs v h
  rw [hE] at h
  unfold memoX at h
  split at h
  · rename_i u hu; cases h; exact hp _ _ _ hu
  · split at h
    · rename_i T hT
      exact h1 _ (lookF_mem hT) _ (lookG_mem h)
    · cases h

theorem primNone_ok (hE : E.prim = fun _ _ => none) : PrimOk P E := by
  intro f gs v h; rw [hE] at h; cases h

/-- The model keeps no name of these functions to itself. -/
def namesB (l : List Func) : Bool := l.all fun fn => !(fn.body.isSome && fn.name == "runtime.NumGoroutine")
theorem nameOk_of (h : namesB P.funcs.toList = true) : NameOk P := by
  intro f fn hf hb e
  unfold namesB at h
  rw [List.all_eq_true] at h
  have := h fn (List.mem_of_getElem? (by simpa using hf))
  simp [hb, e] at this

/-- A variable that is a table of numbers. -/
theorem tab_gr {S : Nat → Nat → Option Value} {gl n : Nat} {k : IntKind} {zs : List Int} (hn : zs.length = n) (h0 : 0 < n) (h : ∀ i, i < n → S gl i = some (.int k (zs.getD i 0))) : GR S (.pointer (some ⟨gl, 0, none⟩)) (.gptr n [.agg (zs.map (V.int k))] 0) := by
  refine .gptr (base := 0) (off := 0) (fun _ j => .int k (zs.getD j 0)) h0 (fun i e he => ?_) (fun i e j x he hx => ?_) (fun i e j x he hx => ?_)
  · cases i with
    | zero => cases he; exact ⟨by simp [V.cells, hn], rfl⟩
    | succ i => simp at he
  · cases i with
    | zero =>
      cases he
      have hj := lt_of_getElem?_list hx
      simp [V.cells] at hj
      exact ⟨by simpa using h j (by omega), rfl⟩
    | succ i => simp at he
  · cases i with
    | zero =>
      cases he
      simp only [V.cells, List.getElem?_map] at hx
      cases hz : zs[j]? with
      | none => rw [hz] at hx; cases hx
      | some z => rw [hz] at hx; cases hx; simp [List.getD_eq_getElem?_getD, hz]; exact .int _ _
    | succ i => simp at he

theorem laid_mem {W : World} {l : List (String × DataW Unit)} : ∀ {ps : List MemPlace}, DataW.LaidVars P W l ps → ∀ {n : String} {d : DataW Unit}, (n, d) ∈ l → ∃ g t cs fuel p, P.globalNamed n = some g ∧ (P.globals[g]?).map (·.type) = some t ∧ W.var? P n = some cs ∧ DataW.trod (fun _ => ()) P W 0 (fun _ => true) false fuel t cs.toList = some (d, p) := by
  induction l with
  | nil => intro ps _ n d h; cases h
  | cons x l IH =>
    intro ps h n d hm
    obtain ⟨n', d'⟩ := x
    obtain ⟨g, t, cs, fuel, p, q, h1, h2, h3, h4, h5, _⟩ := h
    rcases List.mem_cons.1 hm with e | e
    · cases e; exact ⟨g, t, cs, fuel, p, h1, h2, h3, h4⟩
    · exact IH h5 e

theorem laid_cell {W : World} {l : List (String × DataW Unit)} {name : String} {k : IntKind} {zs : List Int} {g : Nat} {t e : TypeId} {n : Nat} (h : laidMet P l W) (hm : (name, Lib.tabData k zs) ∈ l)
    (hg : P.globalNamed name = some g) (hty : (P.globals[g]?).map (·.type) = some t) (ht : P.underlying t = some (.array n e)) (he : P.underlying e = some (.int k)) (hce : P.cellsOf e = 1) (hct : P.cellsOf t = n) (i : Nat) (hi : i < zs.length) : allOf W g i = some (.int k (zs.getD i 0)) := by
  obtain ⟨ps, hl, _⟩ := h
  obtain ⟨g', t', cs, fuel, p, hg', ht', hvar, hd⟩ := laid_mem hl hm
  obtain rfl := Option.some.inj (hg.symm.trans hg')
  obtain rfl := Option.some.inj (hty.symm.trans ht')
  have hT : Lib.TabIs P W name k zs := by
    unfold Lib.TabIs
    rw [hvar, ← Lib.cells_of_tab ht he hce hct hd]
  exact look_of_cell (hT.cell hg i hi) rfl

/-- A byte that is handed in, by what is left of it. -/
theorem u8_wf {n : Int} (h : (Lit.int .u8 n).wf = true) : ∃ N : Nat, n = (N : Int) ∧ N < 256 := by
  simp [Lit.wf, IntKind.min, IntKind.max, IntKind.signed, IntKind.bits] at h
  exact ⟨n.toNat, by omega, by omega⟩
theorem args1 {S : Nat → Nat → Option Value} {N m : Nat} (hN : N < 256) : Rs' (Gh.data S) #[.int .u8 (N : Int)] [.imod .u8 m (N % m)] := ⟨rfl, fun i v x a b => by
  match i with
  | 0 => cases a; cases b; exact .imod hN rfl
  | n + 1 => simp at b⟩
theorem args2 {S : Nat → Nat → Option Value} {N M m k : Nat} (hN : N < 256) (hM : M < 256) : Rs' (Gh.data S) #[.int .u8 (N : Int), .int .u8 (M : Int)] [.imod .u8 m (N % m), .imod .u8 k (M % k)] := ⟨rfl, fun i v x a b => by
  match i with
  | 0 => cases a; cases b; exact .imod hN rfl
  | 1 => cases a; cases b; exact .imod hM rfl
  | n + 2 => simp at b⟩

/-- All that is below m. -/
def below (m : Nat) : List Nat := List.range m
theorem mod_below (N : Nat) {m : Nat} (hm : 0 < m) : N % m ∈ below m := by simp [below, Nat.mod_lt _ hm]

end Go.AM

/-
  Cases laid side by side.
-/
namespace Go.AM
theorem every_app {α : Type} {f : α → Bool} {a b : List α} (h1 : every f a = true) (h2 : every f b = true) : every f (a ++ b) = true := by
  rw [every_iff] at *
  intro x hx
  rw [List.mem_append] at hx
  exact hx.elim (h1 x) (h2 x)
def pairs (m n : Nat) : List (Nat × Nat) := (List.range m).flatMap fun x => (List.range n).map fun y => (x, y)
theorem mem_pairs {m n x y : Nat} (hx : x < m) (hy : y < n) : (x, y) ∈ pairs m n := by
  unfold pairs
  rw [List.mem_flatMap]
  exact ⟨x, by simp [hx], by simp [hy]⟩

end Go.AM

/-
  RUNS OVER UNKNOWN DATA: what single operations come to, as equations.
-/
namespace Go.AM
open Go.RowKit

variable {P : Program} {G : Nat → Option V} {tm : T V} {h : Heap}

theorem operD_move (x : Operand) : operD (.move x) P G tm h = ofOpt h (ev G tm x) := rfl
theorem operD_assign (x : Operand) : operD (.assign x) P G tm h = ofOpt h (ev G tm x) := rfl
theorem operD_pick (c a b : Operand) : operD (.pick c a b) P G tm h = oPick G tm h c a b := rfl
theorem operD_load (t : TypeId) (a : Operand) : operD (.load t a) P G tm h = o1 G tm h a (load P h t) := rfl
theorem operD_store (t : TypeId) (a x : Operand) : operD (.store t a x) P G tm h = oStore P G tm h t a x := rfl
theorem operD_binOp (op : BinOp) (t : TypeId) (x y : Operand) (u : TypeId) : operD (.binOp op t x y u) P G tm h = o2 G tm h x y (binOp P h t (isConst x || isConst y) op) := rfl
theorem operD_unOp (op : UnOp) (t : TypeId) (x : Operand) : operD (.unOp op t x) P G tm h = o1 G tm h x (unOp op) := rfl
theorem operD_convert (s d : TypeId) (x : Operand) : operD (.convert s d x) P G tm h = o1 G tm h x (convert P s d h) := rfl
theorem operD_slice (t : TypeId) (x : Operand) (lo hi mx : Option Operand) : operD (.slice t x lo hi mx) P G tm h = oSlice P G tm h t x lo hi mx := rfl
theorem operD_indexAddr (t : TypeId) (x i : Operand) : operD (.indexAddr t x i) P G tm h = o2 G tm h x i (indexAddr P h t) := rfl
theorem operD_index (t : TypeId) (x i : Operand) : operD (.index t x i) P G tm h = o2 G tm h x i (index P t) := rfl
theorem operD_extract (x : Operand) (i : Nat) : operD (.extract x i) P G tm h = o1 G tm h x (extract i) := rfl
theorem operD_call (c : Call) : operD (.call c) P G tm h = oCall P G tm h c := rfl
theorem operD_alloc (e : TypeId) : operD (.alloc e) P G tm h = oAlloc P h e := rfl
theorem operD_box (e : TypeId) (x : Operand) : operD (.box e x) P G tm h = oBox G tm h e x := rfl
theorem operD_makeFunc (f : Fn) (a b : Array Operand) : operD (.makeFunc f a b) P G tm h = oMakeFunc G tm h f a b := rfl
theorem operD_buildSlice (t : TypeId) (n : Nat) (ps : Array (Nat × Operand)) : operD (.buildSlice t n ps) P G tm h = oBuildSlice P G tm h t n ps := rfl
theorem operD_range (t : TypeId) (x : Operand) : operD (.range t x) P G tm h = oRange P G tm h t x := rfl
theorem operD_next (x : Operand) (s : Bool) : operD (.next x s) P G tm h = oNext G tm h x s := rfl

theorem ofOpt_some (v : V) : ofOpt h (some v) = .val v h := rfl
theorem o1_def (x : Operand) (f : V → Option V) : o1 G tm h x f = match ev G tm x with
    | some v => ofOpt h (f v)
    | none => .stuck := by unfold o1; cases ev G tm x <;> rfl
theorem o2_def (x y : Operand) (f : V → V → Option V) : o2 G tm h x y f = match ev G tm x with
    | some v => (match ev G tm y with
      | some w => ofOpt h (f v w)
      | none => .stuck)
    | none => .stuck := by
  unfold o2
  cases ev G tm x with
  | none => rfl
  | some v => cases hy : ev G tm y <;> simp only [hy]

theorem oPick_def (c a b : Operand) : oPick G tm h c a b = match ev G tm c with
    | some (.bool true) => ofOpt h (ev G tm a)
    | some (.bool false) => ofOpt h (ev G tm b)
    | _ => .stuck := by
  unfold oPick
  cases ev G tm c with
  | none => rfl
  | some v => cases v <;> first | rfl | (rename_i t; cases t <;> rfl)
theorem binOp_int (t : TypeId) (c : Bool) (op : BinOp) (k : IntKind) (a b : Int) : binOp P h t c op (.int k a) (.int k b) = intOp op k a b := by
  change (bif isShift op || kindEq k k then intOp op k a b else none) = _
  rw [(kindEq_iff k k).2 rfl]; simp
theorem binOp_str (t : TypeId) (c : Bool) (op : BinOp) (a b : List UInt8) : binOp P h t c op (.str a) (.str b) = strOp op a b := rfl
theorem intOp_add (k : IntKind) (a b : Int) : intOp .add k a b = okInt k (a + b) := rfl
theorem intOp_sub (k : IntKind) (a b : Int) : intOp .sub k a b = okInt k (a - b) := rfl
theorem intOp_eql (k : IntKind) (a b : Int) : intOp .eql k a b = some (.bool (decide (a = b))) := by
  change some (V.bool (ieq a b)) = _; rw [ieq_eq]; rfl
theorem intOp_neq (k : IntKind) (a b : Int) : intOp .neq k a b = some (.bool (!decide (a = b))) := by
  change some (V.bool (!ieq a b)) = _; rw [ieq_eq]; rfl
theorem intOp_lss (k : IntKind) (a b : Int) : intOp .lss k a b = some (.bool (decide (a < b))) := by
  change some (V.bool (ilt a b)) = _; rw [ilt_eq]
theorem intOp_leq (k : IntKind) (a b : Int) : intOp .leq k a b = some (.bool (decide (a ≤ b))) := by
  change some (V.bool (ile a b)) = _; rw [ile_eq]
theorem intOp_gtr (k : IntKind) (a b : Int) : intOp .gtr k a b = some (.bool (decide (b < a))) := by
  change some (V.bool (ilt b a)) = _; rw [ilt_eq]
theorem intOp_geq (k : IntKind) (a b : Int) : intOp .geq k a b = some (.bool (decide (b ≤ a))) := by
  change some (V.bool (ile b a)) = _; rw [ile_eq]
/-- A sum that is in range. -/
theorem okInt64 {n : Int} (h1 : -9223372036854775808 ≤ n) (h2 : n ≤ 9223372036854775807) : okInt .i64 n = some (.int .i64 n) := by
  rw [okInt_eq, wrap_of_holds]
  · exact h1
  · exact h2
theorem beq_eq_decide (a b : List UInt8) : (a == b) = decide (a = b) := by rw [Bool.eq_iff_iff]; simp
theorem strOp_eql (a b : List UInt8) : strOp .eql a b = some (.bool (decide (a = b))) := by
  change some (V.bool (strEq a b)) = _; rw [strEq_eq, beq_eq_decide]
theorem strOp_neq (a b : List UInt8) : strOp .neq a b = some (.bool (!decide (a = b))) := by
  change some (V.bool (!strEq a b)) = _; rw [strEq_eq, beq_eq_decide]
theorem strOp_add {a b : List UInt8} (h : a.length + b.length ≤ room) : strOp .add a b = some (.str (a ++ b)) := by
  change (bif Nat.ble (Nat.add (List.len a) (List.len b)) room then some (V.str (List.app a b)) else none) = _
  rw [List.len_eq, List.len_eq, List.app_eq]
  have : Nat.ble (Nat.add a.length b.length) room = true := by rw [Nat.ble_eq]; exact h
  rw [this]; rfl
theorem unOp_not (b : Bool) : unOp .not (.bool b) = some (.bool (!b)) := rfl

theorem natI_nat (k : IntKind) (n : Nat) : natI (.int k (n : Int)) = some n := rfl
theorem index_str {t : TypeId} {s : List UInt8} {k : IntKind} {i : Nat} (ht : isStrT P t = true) (hi : i < s.length) : index P t (.str s) (.int k (i : Int)) = some (.int .u8 (s[i].toNat : Nat)) := by
  change (match List.at s i with | some b => bif isStrT P t then some (byteV b) else none | none => none) = _
  rw [List.at_eq, List.getElem?_eq_getElem hi, ht]; rfl

theorem oCall_def (c : Call) : oCall P G tm h c = match mapO (ev G tm) c.args.toList with
  | none => .stuck
  | some args => match c.callee with
    | .builtin b => (match b with
      | .recover => .recover h
      | b => builtin P b c.argTypes.toList h args)
    | .value f => (match ev G tm f with
      | some f => callV P h f args
      | none => .stuck)
    | .invoke _ _ => .stuck := rfl
theorem len_str {t : TypeId} {s : List UInt8} (ht : isStrT P t = true) : builtin P .len [t] h [.str s] = .val (.int .i64 (s.length : Int)) h := by
  change (match lenOf P t h (.str s) with | some n => Rs.val (.int .i64 (Int.ofNat n)) h | none => .stuck) = _
  change (match (bif isStrT P t then some (List.len s) else none) with | some n => Rs.val (.int .i64 (Int.ofNat n)) h | none => .stuck) = _
  rw [ht, List.len_eq]; rfl
theorem len_gsl {t : TypeId} {sz : Nat} {es : List V} {c : Option Nat} (ht : isSliceT P t = true) : builtin P .len [t] h [.gsl sz es c] = .val (.int .i64 (es.length : Int)) h := by
  change (match (bif isSliceT P t then some (List.len es) else none) with | some n => Rs.val (.int .i64 (Int.ofNat n)) h | none => .stuck) = _
  rw [ht, List.len_eq]; rfl
theorem len_osl {t : TypeId} {sz : Nat} {es : List V} (ht : isSliceT P t = true) : builtin P .len [t] h [.osl sz es] = .val (.int .i64 (es.length : Int)) h := by
  change (match (bif isSliceT P t then some (List.len es) else none) with | some n => Rs.val (.int .i64 (Int.ofNat n)) h | none => .stuck) = _
  rw [ht, List.len_eq]; rfl
theorem len_sl {t : TypeId} {r v o n : Nat} {c : Option Nat} (ht : isSliceT P t = true) : builtin P .len [t] h [.sl r v o n c] = .val (.int .i64 (n : Int)) h := by
  change (match (bif isSliceT P t then some n else none) with | some n => Rs.val (.int .i64 (Int.ofNat n)) h | none => .stuck) = _
  rw [ht]; rfl
theorem callV_fn (g : FuncId) (args : List V) : callV P h (.func (.func g) [] []) args = .call g args h := by
  change Rs.call g (List.app (List.app [] args) []) h = _
  rw [List.app_eq, List.app_eq]; simp
theorem callV_cap (g : FuncId) (cap args : List V) : callV P h (.func (.func g) [] cap) args = .call g (args ++ cap) h := by
  change Rs.call g (List.app (List.app [] args) cap) h = _
  rw [List.app_eq, List.app_eq]; simp
/-- An element of a slice in a row of its own. -/
theorem indexAddr_sl {t e ty : TypeId} {r ver o n pub sz : Nat} {c cap : Option Nat} {k : IntKind} {i : Nat} {es : List V} (ht : sliceElem P t = some e) (hs : size P e = sz) (hz : 1 ≤ sz) (hr : h.get r = .row ver ty sz pub cap es) (hi : i < n) :
    indexAddr P h t (.sl r ver o n c) (.int k (i : Int)) = some (.ptr r ver ((o + i) * sz)) := by
  change (match sliceElem P t with | some e => bif Nat.blt i n && Nat.ble 1 (size P e) && Nat.beq (rowSz h r) (size P e) then some (V.ptr r ver (Nat.mul (Nat.add o i) (size P e))) else none | none => none) = _
  rw [ht]
  have e1 : Nat.blt i n = true := by rw [Nat.blt_eq]; exact hi
  have e2 : Nat.ble 1 sz = true := by rw [Nat.ble_eq]; exact hz
  have e3 : rowSz h r = sz := by unfold rowSz; rw [hr]
  simp only [hs, e1, e2, e3, Nat.beq_refl]
  rfl
theorem indexAddr_gsl {t e : TypeId} {sz : Nat} {c : Option Nat} {k : IntKind} {i : Nat} {es : List V} (ht : sliceElem P t = some e) (hs : size P e = sz) (hi : i < es.length) :
    indexAddr P h t (.gsl sz es c) (.int k (i : Int)) = some (.gptr sz es (i * sz)) := by
  change (match sliceElem P t with | some e => bif Nat.blt i (List.len es) && Nat.beq sz (size P e) then some (V.gptr sz es (Nat.mul i sz)) else none | none => none) = _
  rw [ht, List.len_eq]
  have e1 : Nat.blt i es.length = true := by rw [Nat.blt_eq]; exact hi
  simp only [hs, e1, Nat.beq_refl]
  rfl

/-- A text read from a row of texts. -/
theorem load_one {t ty : TypeId} {r ver i pub : Nat} {cap : Option Nat} {es : List V} {v : V} (ha : aggOf P t = some false) (hs : size P t = 1) (hr : h.get r = .row ver ty 1 pub cap es) (hi : es[i]? = some v) (hv : v.cells = [v]) : load P h t (.ptr r ver i) = some v := by
  change (match h.get r with | .row ver' _ sz _ _ es => bif Nat.beq ver ver' then packO P t (cellsAt sz es i (size P t)) else none | _ => none) = _
  rw [hr]
  change (bif Nat.beq ver ver then packO P t (cellsAt 1 es i (size P t)) else none) = _
  rw [Nat.beq_refl, hs]
  change packO P t (match List.at es i with | none => none | some e => some e.cells) = _
  rw [List.at_eq, hi]
  change pack P t v.cells = _
  rw [hv]
  unfold pack
  rw [ha]
theorem load_gone {t : TypeId} {i : Nat} {es : List V} {v : V} (ha : aggOf P t = some false) (hs : size P t = 1) (hi : es[i]? = some v) (hv : v.cells = [v]) : load P h t (.gptr 1 es i) = some v := by
  change packO P t (cellsAt 1 es i (size P t)) = _
  rw [hs]
  change packO P t (match List.at es i with | none => none | some e => some e.cells) = _
  rw [List.at_eq, hi]
  change pack P t v.cells = _
  rw [hv]
  unfold pack
  rw [ha]

theorem pub_str (n : Nat) (s : List UInt8) : pub [] (n + 1) h (.str s) = some (.str s, h) := rfl
theorem pub_int (n : Nat) (k : IntKind) (i : Int) : pub [] (n + 1) h (.int k i) = some (.int k i, h) := rfl
end Go.AM

/-
  STATES OF WHICH A PART IS KNOWN: rules for code over them. What a rule says is said of the model's own steps.
-/
namespace Go.AM
open Go.RowKit

variable {P : Program} {E : Env}

/-- A frame with a slot written; a slot's value. -/
noncomputable def Fr.st (fr : Fr) (d : Tmp) (v : V) : Fr := { fr with tm := fr.tm.set undef v d }
noncomputable def Fr.at' (fr : Fr) (i : Tmp) : V := fr.tm.get undef i
theorem Fr.at_st (fr : Fr) (d i : Tmp) (v : V) : (fr.st d v).at' i = if d = i then v else fr.at' i := T.get_set _ _ _ _ _
theorem Fr.put_st {fr : Fr} {d : Tmp} {v : V} (h : Nat.blt d fr.n = true) : fr.put (some d) v = some (fr.st d v) := by
  change Fr.putD d fr v = _
  obtain ⟨fn, n, tm, marks, defers, round, dk, did⟩ := fr
  change (Bool.rec none (some ⟨fn, n, tm.set undef v d, marks, defers, round, dk, did⟩) (Nat.blt d n) : Option Fr) = _
  change Nat.blt d n = true at h
  rw [h]
  rfl
theorem Fr.put_no {fr : Fr} {d : Tmp} {v : V} (h : Nat.blt d fr.n = false) : fr.put (some d) v = none := by
  change Fr.putD d fr v = _
  obtain ⟨fn, n, tm, marks, defers, round, dk, did⟩ := fr
  change (Bool.rec none (some ⟨fn, n, tm.set undef v d, marks, defers, round, dk, did⟩) (Nat.blt d n) : Option Fr) = _
  change Nat.blt d n = false at h
  rw [h]

/-- A slot of which nothing is known. -/
def isLost : V → Bool
  | .fsl _ _ _ _ _ => true
  | _ => false

/-- One state says no more than another one. -/
structure Le (s' s : Fr) : Prop where
  fn : s.fn = s'.fn
  n : s.n = s'.n
  marks : s.marks = s'.marks
  defers : s.defers = s'.defers
  round : s.round = s'.round
  dk : s.dk = s'.dk
  did : s.did = s'.did
  slot : ∀ i, i < s.n → s'.at' i = lost ∨ s'.at' i = s.at' i
  out : ∀ i, s.n ≤ i → s'.at' i = undef ∨ s'.at' i = lost

theorem Le.ok {s s' : Fr} (hl : Le s' s) {g : Gh} {b : Frame} {a : Act} (hf : FrOk g b s a) : FrOk g b s' a := by
  refine ⟨hf.fn.trans hl.fn, ⟨hf.slots.size.trans hl.n, fun i v hv => ?_, fun i hi => hl.out i (by rw [hl.n]; exact hi)⟩, by rw [← hl.round]; exact hf.round, by rw [← hl.marks, ← hl.defers]; exact hf.marks⟩
  have hi : i < s.n := by rw [← hf.slots.size]; exact lt_of_getElem?_array hv
  rcases hl.slot i hi with e | e
  · exact .inl e
  · change s'.at' i = lost ∨ R g v (s'.at' i)
    rw [e]; exact hf.slots.rel i v hv

/-- Slots that are known, and no others. -/
noncomputable def fullL (k : Nat) : T V := Nat.rec .e (fun _ ih => .n ih lost ih) k
noncomputable def mkT (n : Nat) (L : List (Nat × V)) : T V := List.rec (fullL (levels n)) (fun p _ ih => bif Nat.blt p.1 n then ih.set undef p.2 p.1 else ih) L
noncomputable def Fr.on (b : Fr) (L : List (Nat × V)) : Fr := { b with tm := mkT b.n L }
/-- A frame that has just begun. -/
def base (f n : Nat) : Fr := ⟨f, n, .e, [], [], none, none, false⟩

noncomputable def keepV (s : Fr) (ks : List Nat) : List (Nat × V) := List.rec [] (fun k _ ih => (k, s.at' k) :: ih) ks

theorem fullL_out (k : Nat) : ∀ i, (fullL k).get undef i = undef ∨ (fullL k).get undef i = lost := by
  induction k with
  | zero => intro i; exact .inl rfl
  | succ k IH =>
    intro i
    change T.get undef (.n (fullL k) lost (fullL k)) i = undef ∨ T.get undef (.n (fullL k) lost (fullL k)) i = lost
    cases i with
    | zero => exact .inr rfl
    | succ i =>
      rw [T.get_n_succ]
      by_cases hm : i % 2 = 0
      · rw [T.pick_even _ _ _ hm]; exact IH _
      · rw [T.pick_odd _ _ _ hm]; exact IH _
theorem fullL_get (k : Nat) : ∀ i, i < 2 ^ k - 1 → (fullL k).get undef i = lost := by
  induction k with
  | zero => intro i h; simp at h
  | succ k IH =>
    intro i h
    change T.get undef (.n (fullL k) lost (fullL k)) i = lost
    cases i with
    | zero => rfl
    | succ i =>
      rw [T.get_n_succ]
      have h2 : i / 2 < 2 ^ k - 1 := by
        have : 2 ^ (k + 1) = 2 * 2 ^ k := by rw [Nat.pow_succ]; omega
        omega
      by_cases hm : i % 2 = 0
      · rw [T.pick_even _ _ _ hm]; exact IH _ h2
      · rw [T.pick_odd _ _ _ hm]; exact IH _ h2
theorem lt_levels (n : Nat) : n ≤ 2 ^ levels n - 1 := by
  have : n < 2 ^ levels n := by unfold levels; exact Nat.lt_log2_self
  omega
theorem mkT_cons (n : Nat) (p : Nat × V) (L : List (Nat × V)) : mkT n (p :: L) = bif Nat.blt p.1 n then (mkT n L).set undef p.2 p.1 else mkT n L := rfl
theorem mkT_get (n : Nat) (L : List (Nat × V)) (i : Nat) (hi : i < n) : (mkT n L).get undef i = lost ∨ (∃ v, (i, v) ∈ L ∧ (mkT n L).get undef i = v) := by
  induction L with
  | nil => exact .inl (fullL_get _ _ (Nat.lt_of_lt_of_le hi (lt_levels n)))
  | cons p L IH =>
    rw [mkT_cons]
    have IH' : (mkT n L).get undef i = lost ∨ ∃ v, (i, v) ∈ p :: L ∧ (mkT n L).get undef i = v := IH.imp id fun ⟨v, hm, hv⟩ => ⟨v, by simp [hm], hv⟩
    cases hb : Nat.blt p.1 n with
    | false => exact IH'
    | true =>
      change ((mkT n L).set undef p.2 p.1).get undef i = lost ∨ ∃ v, (i, v) ∈ p :: L ∧ ((mkT n L).set undef p.2 p.1).get undef i = v
      rw [T.get_set]
      by_cases h : p.1 = i
      · rw [if_pos h]; exact .inr ⟨p.2, by subst h; simp, rfl⟩
      · rw [if_neg h]; exact IH'
theorem mkT_out (n : Nat) (L : List (Nat × V)) (i : Nat) (hi : n ≤ i) : (mkT n L).get undef i = undef ∨ (mkT n L).get undef i = lost := by
  induction L with
  | nil => exact fullL_out (levels n) i
  | cons p L IH =>
    rw [mkT_cons]
    cases hb : Nat.blt p.1 n with
    | false => exact IH
    | true =>
      rw [Nat.blt_eq] at hb
      change ((mkT n L).set undef p.2 p.1).get undef i = undef ∨ ((mkT n L).set undef p.2 p.1).get undef i = lost
      rw [T.get_set, if_neg (by omega)]; exact IH
theorem keepV_mem {s : Fr} {ks : List Nat} {i : Nat} {v : V} (h : (i, v) ∈ keepV s ks) : v = s.at' i := by
  induction ks with
  | nil => cases h
  | cons k ks IH =>
    change (i, v) ∈ (k, s.at' k) :: keepV s ks at h
    rcases List.mem_cons.1 h with h | h
    · cases h; rfl
    · exact IH h
theorem Le.keep {s b : Fr} {ks : List Nat} {L : List (Nat × V)} (hk : keepV s ks = L) (h1 : b.fn = s.fn) (h2 : b.n = s.n) (h3 : b.marks = s.marks) (h4 : b.defers = s.defers) (h5 : b.round = s.round) (h6 : b.dk = s.dk) (h7 : b.did = s.did) : Le (b.on L) s := by
  refine ⟨h1.symm, h2.symm, h3.symm, h4.symm, h5.symm, h6.symm, h7.symm, fun i hi => ?_, fun i hi => mkT_out b.n L i (by rw [h2]; exact hi)⟩
  change (mkT b.n L).get undef i = lost ∨ (mkT b.n L).get undef i = s.at' i
  rcases mkT_get b.n L i (by rw [h2]; exact hi) with e | ⟨v, hv, e⟩
  · exact .inl e
  · subst hk
    have := keepV_mem hv
    subst this
    exact .inr e
theorem Le.on {b : Fr} {L L' : List (Nat × V)} (ks : List Nat) (hk : keepV (b.on L) ks = L') : Le (b.on L') (b.on L) := Le.keep (b := b) hk rfl rfl rfl rfl rfl rfl rfl
theorem Le.refl {b : Fr} {L : List (Nat × V)} : Le (b.on L) (b.on L) := ⟨rfl, rfl, rfl, rfl, rfl, rfl, rfl, fun _ _ => .inr rfl, fun i hi => mkT_out b.n L i hi⟩

/-- What all that is said here rests on: the calls that have a contract, the names. -/
structure Fine (P : Program) (E : Env) : Prop where
  prim : PrimOk P E
  names : NameOk P
/-- Rows from N on were laid since. -/
def Dom (N : Nat) (g : Gh) : Prop := ∀ r, N ≤ r → g.mu r = none ∧ g.vr r = none
theorem W.domain {B : Nat} {w0 w : World} {g : Gh} {h : Heap} (hW : W B w0 g h w) : Dom h.n g := fun r hr => by
  obtain ⟨h1, h2⟩ := hW.out r hr
  exact ⟨h1, by rw [hW.ver, h2]⟩

/-- A piece of code over a state of which a part is known: it ends in order, of which K holds, or otherwise, of which X holds. -/
def KX (K : Fr → Heap → Prop) (X : Ex → Fr → Heap → Prop) : Ex → Fr → Heap → Prop
  | .normal => K
  | e => X e
/-- From where the model stands it comes to such an end. -/
def Ends (P : Program) (K : Fr → Heap → Prop) (X : Ex → Fr → Heap → Prop) (B : Nat) (w0 : World) (g0 : Gh) (b : Frame) (k : List Item) (cs : List Frame) (m : Machine) : Prop :=
  ∃ e s h g a w, Grown B g0 g ∧ W B w0 g h w ∧ FrOk g b s a ∧ Arr P m b k cs g a w e ∧ KX K X e s h
def Wc (P : Program) (E : Env) (c : Code) (s : Fr) (h : Heap) (K : Fr → Heap → Prop) (X : Ex → Fr → Heap → Prop) (N : Nat) : Prop :=
  Fine P E → ∀ {B : Nat} {w0 : World} {g0 g : Gh} {w : World} (a : Act) (b : Frame) (k : List Item) (cs : List Frame), Dom N g0 → Grown B g0 g → W B w0 g h w → GlobOk E.glob g0.S → FrOk g b s a →
    Ends P K X B w0 g0 b k cs (lone (b.atR a (.code c :: k)) cs w)
/-- What is left of a region's operations. -/
def Wl (P : Program) (E : Env) (all l : List Oper) (s : Fr) (h : Heap) (K : Fr → Heap → Prop) (X : Ex → Fr → Heap → Prop) (N : Nat) : Prop :=
  Fine P E → ∀ {B : Nat} {w0 : World} {g0 g : Gh} {w : World} (a : Act) (b : Frame) (k : List Item) (cs : List Frame) (ops : Array Oper) (i : Nat), ops.toList = all → all.drop i = l → Dom N g0 → Grown B g0 g → W B w0 g h w → GlobOk E.glob g0.S → FrOk g b s a →
    Ends P K X B w0 g0 b k cs (lone (b.atR a (.inRegion ops (List.range' i l.length) :: k)) cs w)

variable {K : Fr → Heap → Prop} {X : Ex → Fr → Heap → Prop} {N : Nat}

section ends
variable {B : Nat} {w0 : World} {g0 : Gh} {b : Frame} {k : List Item} {cs : List Frame} {m m' : Machine}
theorem Ends.steps (hs : Steps P m m') (h : Ends P K X B w0 g0 b k cs m') : Ends P K X B w0 g0 b k cs m := by
  obtain ⟨e, s, h, g, a, w, h1, h2, h3, h4, h5⟩ := h
  exact ⟨e, s, h, g, a, w, h1, h2, h3, .of_steps hs h4, h5⟩
theorem Ends.grow {g1 : Gh} (hg : Grown B g0 g1) (h : Ends P K X B w0 g1 b k cs m) : Ends P K X B w0 g0 b k cs m := by
  obtain ⟨e, s, h, g, a, w, h1, h2, h3, h4, h5⟩ := h
  exact ⟨e, s, h, g, a, w, hg.trans h1, h2, h3, h4, h5⟩
theorem Ends.mono {K' : Fr → Heap → Prop} {X' : Ex → Fr → Heap → Prop} (h : Ends P K X B w0 g0 b k cs m) (h1 : ∀ s h, K s h → K' s h) (h2 : ∀ e s h, X e s h → X' e s h) : Ends P K' X' B w0 g0 b k cs m := by
  obtain ⟨e, s, h, g, a, w, q1, q2, q3, q4, q5⟩ := h
  refine ⟨e, s, h, g, a, w, q1, q2, q3, q4, ?_⟩
  cases e with
  | normal => exact h1 _ _ q5
  | _ => exact h2 _ _ _ q5
/-- What stood below is come to, or is passed by. -/
theorem Ends.pass {K' : Fr → Heap → Prop} {x : Item} (hx : ∀ id, exitTo id (x :: k) = exitTo id k) (h : Ends P K' X B w0 g0 b (x :: k) cs m)
    (hn : ∀ s h g a w, Grown B g0 g → W B w0 g h w → FrOk g b s a → K' s h → Ends P K X B w0 g0 b k cs (lone (b.atR a (x :: k)) cs w)) : Ends P K X B w0 g0 b k cs m := by
  obtain ⟨e, s, h, g, a, w, h1, h2, h3, h4, h5⟩ := h
  cases e with
  | normal => exact .steps h4 (hn s h g a w h1 h2 h3 h5)
  | exit id => obtain ⟨todo, p, q⟩ := h4; exact ⟨.exit id, s, h, g, a, w, h1, h2, h3, ⟨todo, p.trans (hx id), q⟩, h5⟩
  | goto l => exact h4.elim
  | ret => exact ⟨.ret, s, h, g, a, w, h1, h2, h3, h4, h5⟩
  | panic y => exact ⟨.panic y, s, h, g, a, w, h1, h2, h3, h4, h5⟩
end ends

noncomputable def knownO (s : Fr) : Operand → Bool
  | .tmp t => Nat.blt t s.n && !(isLost (s.at' t))
  | _ => true

def topOf (m : Machine) : Option Frame := (m.gs[0]?).map fun g => g.frame
theorem topOf_lone (fr : Frame) (cs : List Frame) (w : World) : topOf (lone fr cs w) = some fr := rfl
/-- Two machines that do the same next come to the same. -/
theorem Steps.same {m m' m1 t : Machine} (h : Go.step P m = .next m1) (h' : Go.step P m' = .next m1) (hne : m ≠ t) (hs : Steps P m t) : Steps P m' t := by
  obtain ⟨n, hn⟩ := hs
  cases n with
  | zero => simp [runN] at hn; exact absurd hn hne
  | succ n =>
    simp only [runN, h] at hn
    exact .head h' ⟨n, hn⟩
theorem arr_same {b : Frame} {a0 a : Act} {k : List Item} {cs : List Frame} {g : Gh} {w0 w : World} {m' m1 : Machine} {c : Code} {e : Ex} (h : Go.step P (lone (b.atR a0 (.code (.loop c) :: k)) cs w0) = .next m1) (h' : Go.step P m' = .next m1) (hA : Arr P (lone (b.atR a0 (.code (.loop c) :: k)) cs w0) b k cs g a w e) : Arr P m' b k cs g a w e := by
  have ne : ∀ (fr : Frame) cs' w', (fr.todo = k ∨ (∃ id todo, fr.todo = .code (.exit id) :: todo) ∨ (∃ todo, fr.todo = .code .ret :: todo) ∨ fr.mode ≠ .run) → lone (b.atR a0 (.code (.loop c) :: k)) cs w0 ≠ lone fr cs' w' := by
    intro fr cs' w' hq e
    have e := congrArg topOf e
    rw [topOf_lone, topOf_lone] at e
    have e := Option.some.inj e
    subst e
    rcases hq with q | ⟨_, _, q⟩ | ⟨_, q⟩ | q
    · have := congrArg List.length q
      simp [Frame.atR] at this
    · simp [Frame.atR] at q
    · simp [Frame.atR] at q
    · exact q rfl
  cases e with
  | normal => exact Steps.same h h' (ne _ _ _ (.inl rfl)) hA
  | exit id => obtain ⟨todo, p, q⟩ := hA; exact ⟨todo, p, Steps.same h h' (ne _ _ _ (.inr (.inl ⟨_, _, rfl⟩))) q⟩
  | goto l => exact hA.elim
  | ret => obtain ⟨todo, q⟩ := hA; exact ⟨todo, Steps.same h h' (ne _ _ _ (.inr (.inr (.inl ⟨_, rfl⟩)))) q⟩
  | panic y => obtain ⟨v, todo, p, q⟩ := hA; exact ⟨v, todo, p, Steps.same h h' (ne _ _ _ (.inr (.inr (.inr (by simp))))) q⟩

theorem Wc.weak {c : Code} {s s' : Fr} {h : Heap} (hl : Le s' s) (hw : Wc P E c s' h K X N) : Wc P E c s h K X N := fun hF _ _ _ _ _ a b k cs hD hg hW hG hf => hw hF a b k cs hD hg hW hG (hl.ok hf)
theorem Wc.mono {c : Code} {s : Fr} {h : Heap} {K' : Fr → Heap → Prop} {X' : Ex → Fr → Heap → Prop} (hw : Wc P E c s h K X N) (h1 : ∀ s h, K s h → K' s h) (h2 : ∀ e s h, X e s h → X' e s h) : Wc P E c s h K' X' N :=
  fun hF _ _ _ _ _ a b k cs hD hg hW hG hf => (hw hF a b k cs hD hg hW hG hf).mono h1 h2
theorem Wc.seq {a b : Code} {s : Fr} {h : Heap} (ha : Wc P E a s h (fun s1 h1 => Wc P E b s1 h1 K X N) X N) : Wc P E (.seq a b) s h K X N :=
  fun hF _ _ _ _ _ ac fr k cs hD hg hW hG hf => .steps (.one stepR_seq) (.pass (fun _ => rfl) (ha hF ac fr (.code b :: k) cs hD hg hW hG hf) fun _ _ _ a' _ q1 q2 q3 q4 => q4 hF a' fr k cs hD q1 q2 hG q3)
theorem Wc.skip {s : Fr} {h : Heap} (hq : K s h) : Wc P E .skip s h K X N := fun _ _ _ _ g w a _ _ _ _ hg hW _ hf => ⟨.normal, s, h, g, a, w, hg, hW, hf, .one stepR_skip, hq⟩
theorem Wc.label {l : Nat} {s : Fr} {h : Heap} (hq : K s h) : Wc P E (.label l) s h K X N := fun _ _ _ _ g w a _ _ _ _ hg hW _ hf => ⟨.normal, s, h, g, a, w, hg, hW, hf, .one stepR_label, hq⟩
theorem Wc.ret {s : Fr} {h : Heap} (hq : X .ret s h) : Wc P E .ret s h K X N := fun _ _ _ _ g w a _ k _ _ hg hW _ hf => ⟨.ret, s, h, g, a, w, hg, hW, hf, ⟨k, Steps.refl _ _⟩, hq⟩
theorem Wc.exit {id : Nat} {s : Fr} {h : Heap} (hq : X (.exit id) s h) : Wc P E (.exit id) s h K X N := fun _ _ _ _ g w a _ k _ _ hg hW _ hf => ⟨.exit id, s, h, g, a, w, hg, hW, hf, ⟨k, rfl, Steps.refl _ _⟩, hq⟩
theorem Wc.scope {b : Code} {s : Fr} {h : Heap} (hb : Wc P E b s h K X N) : Wc P E (.scope b) s h K X N :=
  fun hF _ _ _ _ _ ac fr k cs hD hg hW hG hf => .steps (.one stepR_scope) (.pass (x := .inScope b) (fun _ => rfl) (hb hF ac fr (.inScope b :: k) cs hD hg hW hG hf) fun s1 h1 g1 a1 w1 q1 q2 q3 q4 => ⟨.normal, s1, h1, g1, a1, w1, q1, q2, q3, .one stepR_inScope, q4⟩)
theorem Wc.cond {c : Operand} {a b : Code} {s : Fr} {h : Heap} (t : Bool) (_hk : knownO s c = true) (hc : ev E.glob s.tm c = some (.bool t)) (h1 : t = true → Wc P E a s h K X N) (h2 : t = false → Wc P E b s h K X N) : Wc P E (.cond c a b) s h K X N := by
  intro hF _ _ _ _ _ ac fr k cs hD hg hW hG hf
  have hv := (ev_sound hf.slots (hG.mono hg.ext.S) hc).bool_inv
  refine .steps (.one (stepR_cond hv)) ?_
  cases t with
  | true => exact h1 rfl hF ac fr k cs hD hg hW hG hf
  | false => exact h2 rfl hF ac fr k cs hD hg hW hG hf
/-- A condition that says whether something is so. -/
theorem Wc.condP {c : Operand} {a b : Code} {s : Fr} {h : Heap} {p : Prop} [Decidable p] (hk : knownO s c = true) (hc : ev E.glob s.tm c = some (.bool (decide p))) (h1 : p → Wc P E a s h K X N) (h2 : ¬ p → Wc P E b s h K X N) : Wc P E (.cond c a b) s h K X N :=
  Wc.cond (decide p) hk hc (fun h => h1 (of_decide_eq_true h)) (fun h => h2 (of_decide_eq_false h))
theorem Wc.condN {c : Operand} {a b : Code} {s : Fr} {h : Heap} {p : Prop} [Decidable p] (hk : knownO s c = true) (hc : ev E.glob s.tm c = some (.bool (!decide p))) (h1 : ¬ p → Wc P E a s h K X N) (h2 : p → Wc P E b s h K X N) : Wc P E (.cond c a b) s h K X N :=
  Wc.cond (!decide p) hk hc (fun h => h1 (by simpa using h)) (fun h => h2 (by simpa using h))
theorem Wc.condT {c : Operand} {a b : Code} {s : Fr} {h : Heap} (hk : knownO s c = true) (hc : ev E.glob s.tm c = some (.bool true)) (h1 : Wc P E a s h K X N) : Wc P E (.cond c a b) s h K X N := Wc.cond true hk hc (fun _ => h1) (fun h => by cases h)
theorem Wc.condF {c : Operand} {a b : Code} {s : Fr} {h : Heap} (hk : knownO s c = true) (hc : ev E.glob s.tm c = some (.bool false)) (h1 : Wc P E b s h K X N) : Wc P E (.cond c a b) s h K X N := Wc.cond false hk hc (fun h => by cases h) (fun _ => h1)

/-- The ends of a block. -/
def blockX (id : Nat) (K : Fr → Heap → Prop) (X : Ex → Fr → Heap → Prop) : Ex → Fr → Heap → Prop
  | .exit id' => bif Nat.beq id' id then K else X (.exit id')
  | e => X e
theorem Wc.block {id : Nat} {b : Code} {s : Fr} {h : Heap} (hb : Wc P E b s h K (blockX id K X) N) : Wc P E (.block id b) s h K X N := by
  intro hF _ _ _ _ _ ac fr k cs hD hg hW hG hf
  refine .steps (.one stepR_block) ?_
  obtain ⟨e, s, h, g, a, w, h1, h2, h3, h4, h5⟩ := hb hF ac fr (.inBlock id :: k) cs hD hg hW hG hf
  cases e with
  | normal => exact ⟨.normal, s, h, g, a, w, h1, h2, h3, Steps.trans h4 (.one stepR_inBlock), h5⟩
  | exit id' =>
    obtain ⟨todo, p, q⟩ := h4
    change (bif Nat.beq id' id then K else X (.exit id')) s h at h5
    cases hb : Nat.beq id' id with
    | true =>
      rw [hb] at h5
      rw [Nat.beq_eq] at hb; subst hb
      have h3' : exitTo id' todo = some k := by rw [p]; simp [exitTo]
      exact ⟨.normal, s, h, g, a, w, h1, h2, h3, q.trans (.one (stepR_exit h3')), h5⟩
    | false =>
      rw [hb] at h5
      have hne : (id == id') = false := by
        simp only [beq_eq_false_iff_ne, ne_eq]
        intro e; subst e; simp at hb
      exact ⟨.exit id', s, h, g, a, w, h1, h2, h3, ⟨todo, by rw [p]; simp [exitTo, hne], q⟩, h5⟩
  | goto l => exact h4.elim
  | ret => exact ⟨.ret, s, h, g, a, w, h1, h2, h3, h4, h5⟩
  | panic y => exact ⟨.panic y, s, h, g, a, w, h1, h2, h3, h4, h5⟩
theorem blockX.here {id : Nat} {s : Fr} {h : Heap} (hq : K s h) : blockX id K X (.exit id) s h := by
  change (bif Nat.beq id id then K else X (.exit id)) s h
  rw [Nat.beq_refl]; exact hq
theorem blockX.out {id id' : Nat} {s : Fr} {h : Heap} (hi : Nat.beq id' id = false) (hq : X (.exit id') s h) : blockX id K X (.exit id') s h := by
  change (bif Nat.beq id' id then K else X (.exit id')) s h
  rw [hi]; exact hq
theorem blockX.ret {id : Nat} {s : Fr} {h : Heap} (hq : X .ret s h) : blockX id K X .ret s h := hq

/-- A loop: a family of states, what holds of them, a number that falls. -/
theorem Wc.loop {α : Type} {b : Code} {s : Fr} {h : Heap} (S : α → Fr) (H : α → Heap) (I : α → Prop) (μ : α → Nat) (a0 : α) (hs0 : Le (S a0) s) (hh0 : h = H a0) (hI0 : I a0)
    (hb : ∀ a, I a → Wc P E b (S a) (H a) (fun s h => ∃ a', Le (S a') s ∧ h = H a' ∧ I a' ∧ μ a' < μ a) X N) : Wc P E (.loop b) s h K X N := by
  intro hF B w0 g0 g w ac fr k cs hD hg hW hG hf
  refine .steps (.one stepR_loop) ?_
  have key : ∀ (n : Nat) (x : α), μ x = n → I x → ∀ {g : Gh} {w : World} (ac : Act), Grown B g0 g → W B w0 g (H x) w → FrOk g fr (S x) ac → Ends P K X B w0 g0 fr k cs (lone (fr.atR ac (.code b :: .inLoop b :: k)) cs w) := by
    intro n
    induction n using Nat.strongRecOn with
    | _ n IH =>
      intro x hx hI g w ac hg hW hf
      refine .pass (x := .inLoop b) (fun _ => rfl) (hb x hI hF ac fr (.inLoop b :: k) cs hD hg hW hG hf) fun s1 h1 g1 a1 w1 q1 q2 q3 q4 => ?_
      obtain ⟨x', hl, rfl, hI', hm⟩ := q4
      exact .steps (.one stepR_inLoop) (IH (μ x') (by omega) x' rfl hI' a1 q1 q2 (hl.ok q3))
  subst hh0
  exact key _ a0 rfl hI0 ac hg hW (hs0.ok hf)
/-- A loop's round, and the loop again. -/
theorem Wc.unroll {b : Code} {s : Fr} {h : Heap} (hb : Wc P E b s h (fun s h => Wc P E (.loop b) s h K X N) X N) : Wc P E (.loop b) s h K X N := by
  intro hF B w0 g0 g w ac fr k cs hD hg hW hG hf
  refine .steps (.one stepR_loop) (.pass (x := .inLoop b) (fun _ => rfl) (hb hF ac fr (.inLoop b :: k) cs hD hg hW hG hf) fun s1 h1 g1 a1 w1 q1 q2 q3 q4 => ?_)
  obtain ⟨e, s, h, g, a, w, r1, r2, r3, r4, r5⟩ := q4 hF a1 fr k cs hD q1 q2 hG q3
  refine ⟨e, s, h, g, a, w, r1, r2, r3, ?_, r5⟩
  exact arr_same (stepR_loop (P := P)) (stepR_inLoop (P := P)) r4

theorem Wc.region {id : Nat} {ops : Array Oper} {s : Fr} {h : Heap} (ho : Wl P E ops.toList ops.toList s h K X N) : Wc P E (.region id ops false) s h K X N := by
  intro hF B w0 g0 g w ac fr k cs hD hg hW hG hf
  refine .steps (.one stepR_region) ?_
  have := ho hF ac fr k cs ops 0 rfl (by simp) hD hg hW hG hf
  rw [Array.length_toList, ← List.range_eq_range'] at this
  exact this

/-- What a region's operation came to is laid down. -/
theorem Wl.nil {all : List Oper} {s : Fr} {h : Heap} (hq : K s h) : Wl P E all [] s h K X N := fun _ _ _ _ g w a _ _ _ _ _ _ _ _ hg hW _ hf => ⟨.normal, s, h, g, a, w, hg, hW, hf, .one stepR_region_end, hq⟩
theorem Wl.weak {all l : List Oper} {s s' : Fr} {h : Heap} (hl : Le s' s) (hw : Wl P E all l s' h K X N) : Wl P E all l s h K X N := fun hF _ _ _ _ _ a b k cs ops i h1 h2 hD hg hW hG hf => hw hF a b k cs ops i h1 h2 hD hg hW hG (hl.ok hf)

theorem ops_at {ops : Array Oper} {all l : List Oper} {o : Oper} {i : Nat} (h1 : ops.toList = all) (h2 : all.drop i = o :: l) : ops[i]? = some o ∧ all.drop (i + 1) = l := by
  subst h1
  have : (ops.toList.drop i)[0]? = some o := by rw [h2]; rfl
  rw [List.getElem?_drop] at this
  exact ⟨by simpa using this, by rw [← List.drop_drop, h2]; rfl⟩

/-- An operation that is carried out. -/
theorem sem_known {g : Gh} {b : Frame} {fr : Fr} {a : Act} (hf : FrOk g b fr a) {o : Oper} (hd : (∃ c, o.op = .defer c) → fr.round = none) : o.semAt b.roundOf a.eval = execOp a.eval o := by
  by_cases hro : fr.round = none
  · have hb : b.roundOf = none := by have := hf.round; rw [hro] at this; exact this
    rw [hb, Oper.semAt_none]
  · exact Oper.semAt_eq _ _ _ (fun c e => hro (hd ⟨c, e⟩))
theorem not_defer {lit : Bool} {G : Nat → Option V} {tm : T V} {h : Heap} {o : Oper} {r : Rs} (ho : operE lit P G tm h o = r) (hr : ∀ f args h, r ≠ .defer f args h) (hs : r ≠ .stuck) : ¬ ∃ c, o.op = .defer c := by
  rintro ⟨c, hc⟩
  rw [operE_defer hc] at ho
  rcases oDefer_rs G tm h c with e | ⟨f, args, e⟩
  · rw [e] at ho; exact hs ho.symm
  · rw [e] at ho; exact hr _ _ _ ho.symm
theorem Wl.val {all l : List Oper} {o : Oper} {s s1 : Fr} {h h1 : Heap} (v : V) (hw : wanted all s o = some true) (ho : operE (E.lit s.fn) P E.glob s.tm h o = .val v h1) (hp : s.put o.dst v = some s1) (hr : Wl P E all l s1 h1 K X N) : Wl P E all (o :: l) s h K X N := by
  intro hF B w0 g0 g w a b k cs ops i e1 e2 hD hg hW hG hf
  obtain ⟨ho', hl'⟩ := ops_at e1 e2
  subst e1
  have hgood := operE_good (P := P) (E.lit s.fn) hW hf.slots (hG.mono hg.ext.S) o
  have hsem := sem_known hf (o := o) (fun hd => absurd hd (not_defer ho (by simp) (by simp)))
  rw [ho, ← hsem] at hgood
  obtain ⟨u, w', g', e, hg', hW', hR⟩ := hgood
  rw [List.length_cons, List.range'_succ]
  exact .steps (.one (apply_value ho' (wanted_sound hf hw) e)) (hr hF _ b k cs ops (i + 1) rfl hl' hD (hg.trans hg') hW' hG ((hf.mono hg'.ext).put hR hp))
theorem Wl.store {all l : List Oper} {o : Oper} {s s1 : Fr} {h h1 : Heap} (hw : wanted all s o = some true) (ho : operE (E.lit s.fn) P E.glob s.tm h o = .skip h1) (hp : s.put o.dst undef = some s1) (hr : Wl P E all l s1 h1 K X N) : Wl P E all (o :: l) s h K X N := by
  intro hF B w0 g0 g w a b k cs ops i e1 e2 hD hg hW hG hf
  obtain ⟨ho', hl'⟩ := ops_at e1 e2
  subst e1
  have hgood := operE_good (P := P) (E.lit s.fn) hW hf.slots (hG.mono hg.ext.S) o
  have hsem := sem_known hf (o := o) (fun hd => absurd hd (not_defer ho (by simp) (by simp)))
  rw [ho, ← hsem] at hgood
  obtain ⟨w', g', e, hg', hW'⟩ := hgood
  rw [List.length_cons, List.range'_succ]
  exact .steps (.one (apply_skip ho' (wanted_sound hf hw) e)) (hr hF _ b k cs ops (i + 1) rfl hl' hD (hg.trans hg') hW' hG ((hf.mono hg'.ext).put R.undef hp))
theorem Wl.not {all l : List Oper} {o : Oper} {s s1 : Fr} {h : Heap} (hw : wanted all s o = some false) (hp : s.put o.dst undef = some s1) (hr : Wl P E all l s1 h K X N) : Wl P E all (o :: l) s h K X N := by
  intro hF B w0 g0 g w a b k cs ops i e1 e2 hD hg hW hG hf
  obtain ⟨ho', hl'⟩ := ops_at e1 e2
  subst e1
  have hwf := wanted_sound hf hw
  have hs := stepR_op_skip (P := P) (b := b) (a := a) (k := k) (cs := cs) (w := w) (ops := ops) (i := i) (rest := List.range' (i + 1) l.length) (by simp [ho']; simpa using hwf)
  simp only [ho', Option.bind_some] at hs
  rw [List.length_cons, List.range'_succ]
  exact .steps (.one hs) (hr hF _ b k cs ops (i + 1) rfl hl' hD hg hW hG (hf.put R.undef hp))

/-- What a call comes to. -/
def Cx (P : Program) (E : Env) (f : FuncId) (args : List V) (h : Heap) (R' : V → Heap → Prop) : Prop :=
  Fine P E → ∀ {B : Nat} {w0 : World} {g : Gh} {w : World} (cs : List Frame) (us : Array Value), W B w0 g h w → GlobOk E.glob g.S → Rs' g us args → ∃ v h', R' v h' ∧ CallOk P B w0 g cs f us w (.ret v h')
def Came (P : Program) (E : Env) (f : FuncId) (args : List V) (h : Heap) (v : V) (h' : Heap) : Prop :=
  Fine P E → ∀ {B : Nat} {w0 : World} {g : Gh} {w : World} (cs : List Frame) (us : Array Value), W B w0 g h w → GlobOk E.glob g.S → Rs' g us args → CallOk P B w0 g cs f us w (.ret v h')
theorem Wl.cameX {all l : List Oper} {o : Oper} {s : Fr} {h h1 : Heap} {f : FuncId} {args : List V} (hw : wanted all s o = some true) (ho : operE (E.lit s.fn) P E.glob s.tm h o = .call f args h1)
    (hc : Cx P E f args h1 (fun v h2 => ∃ s1, s.put o.dst v = some s1 ∧ Wl P E all l s1 h2 K X N)) : Wl P E all (o :: l) s h K X N := by
  intro hF B w0 g0 g w a b k cs ops i e1 e2 hD hg hW hG hf
  obtain ⟨ho', hl'⟩ := ops_at e1 e2
  subst e1
  have hgood := operE_good (P := P) (E.lit s.fn) hW hf.slots (hG.mono hg.ext.S) o
  have hsem := sem_known hf (o := o) (fun hd => absurd hd (not_defer ho (by simp) (by simp)))
  rw [ho, ← hsem] at hgood
  obtain ⟨us, w1, g1, e, hg1, hW1, hs⟩ := hgood
  rw [List.length_cons, List.range'_succ]
  obtain ⟨v, h2, ⟨s1, hp, hr⟩, g', w', u, hg', hW', hR, hret⟩ := hc hF (b.atR a (.inRegion ops (i :: List.range' (i + 1) l.length) :: k) :: cs) us hW1 (hG.mono (hg.trans hg1).ext.S) hs
  have hgg := hg1.trans hg'
  refine .steps ?_ (hr hF (a.put o.dst u) b k cs ops (i + 1) rfl hl' hD (hg.trans hgg) hW' hG ((hf.mono hgg.ext).put hR hp))
  have hfin : (b.atR a (.inRegion ops (i :: List.range' (i + 1) l.length) :: k)).finish u = b.atR (a.put o.dst u) (.inRegion ops (List.range' (i + 1) l.length) :: k) := by rw [Frame.finish_atR, ho']; rfl
  have hwf := wanted_sound hf hw
  rcases hret with hv | ⟨he, frx, s1, _, s2⟩
  · exact .one (apply_value ho' hwf (e.trans hv))
  · refine .head (apply_enter ho' hwf (e.trans he)) (s1.trans (.one ?_))
    rw [← hfin]; exact step_leave_returned s2
theorem Came.x {f : FuncId} {args : List V} {h : Heap} {v : V} {h' : Heap} {R' : V → Heap → Prop} (hc : Came P E f args h v h') (hR : R' v h') : Cx P E f args h R' := fun hF _ _ _ _ cs us hW hG hs => ⟨v, h', hR, hc hF cs us hW hG hs⟩
theorem Wl.came {all l : List Oper} {o : Oper} {s s1 : Fr} {h h1 h2 : Heap} {f : FuncId} {args : List V} {v : V} (hw : wanted all s o = some true) (ho : operE (E.lit s.fn) P E.glob s.tm h o = .call f args h1) (hc : Came P E f args h1 v h2) (hp : s.put o.dst v = some s1) (hr : Wl P E all l s1 h2 K X N) : Wl P E all (o :: l) s h K X N :=
  Wl.cameX hw ho (hc.x ⟨s1, hp, hr⟩)

/-- A call of pure data gives pure data. -/
def Cp (P : Program) (E : Env) (f : FuncId) (gs : List V) (g : V) : Prop := Fine P E → PureOk P E.glob f gs g
theorem Cp.came {f : FuncId} {args gs : List V} {h h1 h2 : Heap} {g v' : V} (_hs : E.shared f = false) (ha : pubL (pub [] depth) args h = some (gs, h1)) (_hn : E.prim f gs = none) (hc : Cp P E f gs g) (ht : give E f (Bool.rec h1 h (E.borrow f)) g = some (v', h2)) : Came P E f args h v' h2 := by
  intro hF B w0 gh w cs us hW hG hs
  have := PureOk.given hW hG cs hs ha (hc hF)
  unfold giveR at this
  rw [ht] at this
  exact this
theorem prim_came {f : FuncId} {args gs : List V} {h h1 h2 : Heap} {v v' : V} (_hs : E.shared f = false) (ha : pubL (pub [] depth) args h = some (gs, h1)) (hp : E.prim f gs = some v) (ht : give E f (Bool.rec h1 h (E.borrow f)) v = some (v', h2)) : Came P E f args h v' h2 := by
  intro hF B w0 gh w cs us hW hG hs
  have := PureOk.given hW hG cs hs ha (hF.prim f gs v hp)
  unfold giveR at this
  rw [ht] at this
  exact this
/-- A call that shares its caller's heap. -/
def Cs (P : Program) (E : Env) (f : FuncId) (args : List V) (h : Heap) (v : V) (h' : Heap) : Prop := Came P E f args h v h'
theorem Cs.came {f : FuncId} {args : List V} {h h' : Heap} {v : V} (_hs : E.shared f = true) (_hp : E.pubRet f = false) (hc : Cs P E f args h v h') : Came P E f args h v h' := hc
theorem Cs.cameP {f : FuncId} {args : List V} {h h' h2 : Heap} {v v' : V} (_hs : E.shared f = true) (_hp : E.pubRet f = true) (hc : Cs P E f args h v h') (hv : pub [] depth h' v = some (v', h2)) : Came P E f args h v' h2 := by
  intro hF B w0 gh w cs us hW hG hs
  obtain ⟨g', w', u, hg, hW', hR, hret⟩ := hc hF cs us hW hG hs
  obtain ⟨S, k, q, _⟩ := pub_sound [] depth hW' hR hv
  exact ⟨_, w', u, hg.trans k.grown, k.world, .gnd q, hret⟩

/-- A function's body, from its beginning. -/
noncomputable def argL (args : List V) : Nat → List (Nat × V) := List.rec (motive := fun _ => Nat → List (Nat × V)) (fun _ => []) (fun v _ ih i => (i, v) :: ih (Nat.succ i)) args
noncomputable def argS (f n : Nat) (args : List V) : Fr := (base f n).on (argL args 0)

theorem mem_argL {args : List V} : ∀ {i k : Nat} {v : V}, (i, v) ∈ argL args k → k ≤ i ∧ args[i - k]? = some v := by
  induction args with
  | nil => intro i k v h; cases h
  | cons x args IH =>
    intro i k v h
    change (i, v) ∈ (k, x) :: argL args (Nat.succ k) at h
    rcases List.mem_cons.1 h with h | h
    · cases h; exact ⟨Nat.le_refl _, by simp⟩
    · obtain ⟨h1, h2⟩ := IH h
      refine ⟨by omega, ?_⟩
      obtain ⟨j, rfl⟩ : ∃ j, i = k + 1 + j := ⟨i - (k + 1), by omega⟩
      rw [show k + 1 + j - k = j + 1 by omega]
      rw [show k + 1 + j - Nat.succ k = j by omega] at h2
      simpa using h2
theorem le_args (f n : Nat) (args : List V) : Le (argS f n args) ⟨f, n, args0 args 0 (full (levels n)), [], [], none, none, false⟩ := by
  refine ⟨rfl, rfl, rfl, rfl, rfl, rfl, rfl, fun i hi => ?_, fun i hi => mkT_out n (argL args 0) i hi⟩
  change (mkT n (argL args 0)).get undef i = lost ∨ (mkT n (argL args 0)).get undef i = (args0 args 0 (full (levels n))).get undef i
  rcases mkT_get n (argL args 0) i hi with e | ⟨v, hv, e⟩
  · exact .inl e
  · right
    rw [e]
    obtain ⟨_, h2⟩ := mem_argL hv
    rw [Nat.sub_zero] at h2
    have hi' : i < args.length := by
      rcases Nat.lt_or_ge i args.length with h | h
      · exact h
      · rw [List.getElem?_eq_none h] at h2; cases h2
    rw [args0_get, if_pos ⟨Nat.zero_le _, by omega⟩, Nat.sub_zero, List.getD_eq_getElem?_getD, h2]; rfl

/-- A result that is known. -/
noncomputable def resultsS (P : Program) (fn : Func) (s : Fr) (h : Heap) : Option V := results P fn s h

/-- A body that ends with a result. -/
def retX (P : Program) (fn : Func) (R : V → Heap → Prop) (s : Fr) (h : Heap) : Prop := s.defers = [] ∧ ∃ h1, killMarks s.marks h = some h1 ∧ ∃ v, resultsS P fn s h1 = some v ∧ R v h1
def bodyX (P : Program) (fn : Func) (R : V → Heap → Prop) : Ex → Fr → Heap → Prop
  | .ret => retX P fn R
  | _ => fun _ _ => False
theorem Ev.body {f : FuncId} {fn : Func} {body : Code} {args : List V} {h : Heap} {R' : V → Heap → Prop} (hf : P.funcs[f]? = some fn) (hb : fn.body = some body) (hl : Nat.ble (List.len args) fn.ntmps = true)
    (hw : Wc P E body (argS f fn.ntmps args) h (retX P fn R') (bodyX P fn R') h.n) : Cx P E f args h R' := by
  intro hF B w0 g w cs us hW hG hs
  rw [Nat.ble_eq, List.len_eq] at hl
  have hcall := run_callFunc hF.names (us := us) (w := w) hf hb
  let b : Frame := { (default : Frame) with fn := f, kind := .normal, roundOf := none }
  let a : Act := { tmps := us ++ Array.replicate (fn.ntmps - us.size) Go.undef, defers := [] }
  have henter : Frame.enter P f us .normal = b.atR a [.code body] := by simp [Frame.enter, Frame.atR, hf, hb, b, a]
  have hfr : FrOk g b ⟨f, fn.ntmps, args0 args 0 (full (levels fn.ntmps)), [], [], none, none, false⟩ a := ⟨rfl, enter_slots hs hl, rfl, DefsOk.nil g⟩
  obtain ⟨e, s, h', g', a', w', hg, hW', hf', hA, hq⟩ := hw hF a b [] cs hW.domain (Grown.refl _ _) hW hG ((le_args f fn.ntmps args).ok hfr)
  rw [← henter] at hA
  have hq' : (e = .ret ∨ e = .normal) ∧ retX P fn R' s h' := by
    cases e with
    | normal => exact ⟨.inr rfl, hq⟩
    | ret => exact ⟨.inl rfl, hq⟩
    | _ => exact absurd hq id
  obtain ⟨he, hd, h1, hm, v, hv, hR⟩ := hq'
  have hend : endBody P (run P E 0) f fn s none h' = .ret v h1 := by
    unfold endBody
    rw [hm, hd]
    change endWith P f fn s none h1 = _
    unfold endWith
    change (match resultsS P fn s h1 with | some y => Res.ret y h1 | .none => _) = _
    rw [hv]
  have hst : ∃ todo, Steps P (lone (Frame.enter P f us .normal) cs w) (lone { b.atR a' todo with mode := .returning } cs w') := by
    rcases he with rfl | rfl
    · obtain ⟨todo, hs'⟩ := hA
      exact ⟨_, hs'.trans (.one (stepR_ret rfl))⟩
    · exact ⟨_, Steps.trans hA (.one (stepR_end rfl))⟩
  obtain ⟨todo, hst⟩ := hst
  refine ⟨v, h1, hR, ?_⟩
  rw [← hend]
  exact endBody_ok (run_snd hF.names hF.prim 0) hf hcall rfl rfl (FrOk.weak hf') (p := none) (mode := .returning) rfl hg hW' (hG.mono hg.ext.S) hst
theorem Cx.pure {f : FuncId} {gs : List V} {g : V} (hc : Cx P E f gs Heap.empty (fun v h => retAll h v = some g)) : Cp P E f gs g := by
  intro hF S w cs us hs hG hus
  obtain ⟨v, h', hr, g', w', u, hg, hW, hR, hret⟩ := hc hF cs us (W.start hs) hG hus
  obtain ⟨S', h2, bs, hg', hW', hA, hn, hb⟩ := retAll_sound hW hR hr
  have hgg := hg.trans hg'
  exact ⟨S', w', u, bs, hgg.ext.S, fun b o v hb e => hgg.keep b o v hb e, hW'.shut, hW'.low, hA, hn, hb, hret⟩
theorem Cp.body {f : FuncId} {fn : Func} {body : Code} {gs : List V} {g : V} (hf : P.funcs[f]? = some fn) (hb : fn.body = some body) (hl : Nat.ble (List.len gs) fn.ntmps = true)
    (hw : Wc P E body (argS f fn.ntmps gs) Heap.empty (retX P fn fun v h => retAll h v = some g) (bodyX P fn fun v h => retAll h v = some g) 0) : Cp P E f gs g := (Ev.body hf hb hl hw).pure
theorem Cs.body {f : FuncId} {fn : Func} {body : Code} {args : List V} {h h' : Heap} {v : V} (hf : P.funcs[f]? = some fn) (hb : fn.body = some body) (hl : Nat.ble (List.len args) fn.ntmps = true)
    (hw : Wc P E body (argS f fn.ntmps args) h (retX P fn fun v1 h1 => v1 = v ∧ h1 = h') (bodyX P fn fun v1 h1 => v1 = v ∧ h1 = h') h.n) : Cs P E f args h v h' := by
  intro hF B w0 g w cs us hW hG hs
  obtain ⟨v1, h1, ⟨rfl, rfl⟩, hc⟩ := Ev.body hf hb hl hw hF cs us hW hG hs
  exact hc

end Go.AM

/-
  The next entry of a map, whichever it is.
-/
namespace Go.AM
open Go.RowKit

variable {P : Program} {E : Env} {K : Fr → Heap → Prop} {X : Ex → Fr → Heap → Prop} {N : Nat}

theorem Wl.nextO {all l : List Oper} {o : Oper} {s : Fr} {h : Heap} {it : Operand} {r : Nat} {left : List (V × V)} {cur : Option (V × V)} (hw : wanted all s o = some true) (hop : o.op = .next it false) (hev : ev E.glob s.tm it = some (.iter r)) (hget : h.get r = .miter left cur)
    (h0 : left = [] → ∃ s1, s.put o.dst (.tup [.bool false]) = some s1 ∧ Wl P E all l s1 h K X N)
    (h1 : ∀ k p, left[k]? = some p → ∃ s1, s.put o.dst (.tup [.bool true, p.1, p.2]) = some s1 ∧ Wl P E all l s1 (h.set r (.miter (left.eraseIdx k) (some p))) K X N) : Wl P E all (o :: l) s h K X N := by
  intro hF B w0 g0 g w a b k cs ops i e1 e2 hD hg hW hG hf
  obtain ⟨ho', hl'⟩ := ops_at e1 e2
  subst e1
  have hsem := sem_known hf (o := o) (fun hd => by
    obtain ⟨c, hc⟩ := hd
    rw [hop] at hc; cases hc)
  have hx : execOp a.eval o = vNext (Instr.next (a.eval it) false o.type) := by unfold execOp; rw [hop]; rfl
  obtain ⟨n0, n1⟩ := nextM_sound (P := P) (ty := o.type) hW (ev_sound hf.slots (hG.mono hg.ext.S) hev) hget
  have key : ∀ {v : V} {h2 : Heap}, ValOk B w0 g ((Instr.next (a.eval it) false o.type).run P w) v h2 → (∃ s1, s.put o.dst v = some s1 ∧ Wl P E ops.toList l s1 h2 K X N) → Ends P K X B w0 g0 b k cs (lone (b.atR a (.inRegion ops (List.range' i (o :: l).length) :: k)) cs w) := by
    intro v h2 hv ⟨s1, hp, hr⟩
    have hgood := good_v hv
    rw [← hx, ← hsem] at hgood
    obtain ⟨u, w', g', e, hg', hW', hR⟩ := hgood
    rw [List.length_cons, List.range'_succ]
    exact .steps (.one (apply_value ho' (wanted_sound hf hw) e)) (hr hF _ b k cs ops (i + 1) rfl hl' hD (hg.trans hg') hW' hG ((hf.mono hg'.ext).put hR hp))
  by_cases hl : left = []
  · exact key (n0 hl) (h0 hl)
  · obtain ⟨j, p, hj, hv⟩ := n1 hl
    exact key hv (h1 j p hj)

end Go.AM

/-
  A LOOP OVER A MAP, run by the kernel in whichever order its entries come.
-/
namespace Go.AM
open Go.RowKit

variable {P : Program} {E : Env}

def isNextM : Op → Bool
  | .next _ s => !s
  | _ => false
noncomputable def hasNext (c : Code) : Bool :=
  Code.rec (motive := fun _ => Bool) false (fun _ ops draw => !draw && !every (fun o => !isNextM o.op) ops.toList) (fun _ _ x y => x || y) (fun _ _ _ x y => x || y) (fun _ _ x => x) (fun _ x => x) (fun _ _ _ _ x y => x || y) (fun _ => false) (fun _ x => x) (fun _ => false) (fun _ => false) false (fun _ => false) c

noncomputable def exPut (o : Oper) (fr : Fr) (v : V) (k : Fr → Bool) : Bool :=
  match fr.put o.dst v with
  | some fr' => k fr'
  | none => false
noncomputable def exNext (E : Env) (o : Oper) (fr : Fr) (h : Heap) (k : Fr → Heap → Bool) : Bool :=
  match o.op with
  | .next it s => bif s then false else (match ev E.glob fr.tm it with
    | some (.iter r) => (match h.get r with
      | .miter left _ => bif emptyL left then exPut o fr (.tup [.bool false]) (fun fr' => k fr' h)
          else every (fun i => match left[i]? with
            | some p => exPut o fr (.tup [.bool true, p.1, p.2]) (fun fr' => k fr' (h.set r (.miter (left.eraseIdx i) (some p))))
            | none => true) (List.range left.length)
      | _ => false)
    | _ => false)
  | _ => false
noncomputable def exStep (P : Program) (E : Env) (n : Nat) (o : Oper) (fr : Fr) (h : Heap) (k : Fr → Heap → Bool) : Bool :=
  match operE (E.lit fr.fn) P E.glob fr.tm h o with
  | .val v h' => exPut o fr v (fun fr' => k fr' h')
  | .skip h' => exPut o fr undef (fun fr' => k fr' h')
  | .call f args h' => (match callAny E (run P E n) false f args h' with
    | .ret v h2 => exPut o fr v (fun fr' => k fr' h2)
    | _ => false)
  | _ => false
noncomputable def exL (P : Program) (E : Env) (n : Nat) (all l : List Oper) : Fr → Heap → (Fr → Heap → Bool) → Bool :=
  List.rec (motive := fun _ => Fr → Heap → (Fr → Heap → Bool) → Bool) (fun fr h k => k fr h)
    (fun o _ ih fr h k => match wanted all fr o with
      | none => false
      | some t => bif t then (bif isNextM o.op then exNext E o fr h (fun fr h => ih fr h k) else exStep P E n o fr h (fun fr h => ih fr h k))
        else exPut o fr undef (fun fr' => ih fr' h k)) l

abbrev ExK := Ex → Fr → Heap → Bool
noncomputable def exRun (k : ExK) (r : Res) : Bool :=
  match r with
  | .code e fr h => (match e with
    | .panic _ => false
    | .normal => k .normal fr h
    | .ret => k .ret fr h
    | .exit id => k (.exit id) fr h
    | _ => false)
  | _ => false
noncomputable def exSeq (f : Fr → Heap → Bool) (k : ExK) : ExK := fun e fr h => match e with
  | .normal => f fr h
  | .panic _ => false
  | .ret => k .ret fr h
  | .exit id => k (.exit id) fr h
  | _ => false
noncomputable def exBlock (id : Nat) (k : ExK) : ExK := fun e fr h => match e with
  | .normal => k .normal fr h
  | .ret => k .ret fr h
  | .exit id' => bif Nat.beq id' id then k .normal fr h else k (.exit id') fr h
  | _ => false
noncomputable def exC (P : Program) (E : Env) (n m : Nat) : Code → Fr → Heap → ExK → Bool :=
  Nat.rec (motive := fun _ => Code → Fr → Heap → ExK → Bool) (fun _ _ _ _ => false) (fun _ ih c fr h k =>
    bif hasNext c then (match c with
      | .region _ ops draw => bif draw then false else exL P E n ops.toList ops.toList fr h (fun fr h => k .normal fr h)
      | .seq a b => ih a fr h (exSeq (fun fr h => ih b fr h k) k)
      | .cond c a b => (match ev E.glob fr.tm c with
        | some (.bool t) => bif t then ih a fr h k else ih b fr h k
        | _ => false)
      | .block id b => ih b fr h (exBlock id k)
      | .loop b => ih b fr h (exSeq (fun fr h => ih (.loop b) fr h k) k)
      | .scope b => ih b fr h k
      | _ => false)
    else exRun k (run P E n (.code c fr h))) m

variable {K : Fr → Heap → Prop} {X : Ex → Fr → Heap → Prop} {N : Nat}

theorem Wc.condAny {c : Operand} {a b : Code} {s : Fr} {h : Heap} (t : Bool) (hc : ev E.glob s.tm c = some (.bool t)) (h1 : t = true → Wc P E a s h K X N) (h2 : t = false → Wc P E b s h K X N) : Wc P E (.cond c a b) s h K X N := by
  intro hF _ _ _ _ _ ac fr k cs hD hg hW hG hf
  have hv := (ev_sound hf.slots (hG.mono hg.ext.S) hc).bool_inv
  refine .steps (.one (stepR_cond hv)) ?_
  cases t with
  | true => exact h1 rfl hF ac fr k cs hD hg hW hG hf
  | false => exact h2 rfl hF ac fr k cs hD hg hW hG hf
theorem exPut_some {o : Oper} {fr : Fr} {v : V} {k : Fr → Bool} (h : exPut o fr v k = true) : ∃ fr', fr.put o.dst v = some fr' ∧ k fr' = true := by
  unfold exPut at h
  split at h
  · rename_i fr' hp; exact ⟨fr', hp, h⟩
  · cases h

theorem exL_ok {n : Nat} {all : List Oper} {k : Fr → Heap → Bool} (hk : ∀ s h, k s h = true → K s h) : ∀ (l : List Oper) {s : Fr} {h : Heap}, exL P E n all l s h k = true → Wl P E all l s h K X N := by
  intro l
  induction l with
  | nil => intro s h hx; exact Wl.nil (hk s h hx)
  | cons o l IH =>
    intro s h hx
    change (match wanted all s o with
      | none => false
      | some t => bif t then (bif isNextM o.op then exNext E o s h (fun fr h => exL P E n all l fr h k) else exStep P E n o s h (fun fr h => exL P E n all l fr h k))
        else exPut o s undef (fun fr' => exL P E n all l fr' h k)) = true at hx
    cases hw : wanted all s o with
    | none => rw [hw] at hx; cases hx
    | some t =>
      rw [hw] at hx
      cases t with
      | false =>
        obtain ⟨s1, hp, h1⟩ := exPut_some hx
        exact Wl.not hw hp (IH h1)
      | true =>
        change (bif isNextM o.op then exNext E o s h (fun fr h => exL P E n all l fr h k) else exStep P E n o s h (fun fr h => exL P E n all l fr h k)) = true at hx
        cases hn : isNextM o.op with
        | true =>
          rw [hn] at hx
          change exNext E o s h (fun fr h => exL P E n all l fr h k) = true at hx
          unfold exNext at hx
          split at hx
          · rename_i it sb hop
            cases sb with
            | true => cases hx
            | false =>
              change (match ev E.glob s.tm it with
                | some (.iter r) => _
                | _ => false) = true at hx
              split at hx
              · rename_i r hev
                split at hx
                · rename_i left cur hget
                  refine Wl.nextO hw hop hev hget (fun e => ?_) (fun i p hi => ?_)
                  · subst e
                    obtain ⟨s1, hp, h1⟩ := exPut_some hx
                    exact ⟨s1, hp, IH h1⟩
                  · cases left with
                    | nil => simp at hi
                    | cons q left =>
                      have hall := (every_iff _ _).1 hx i (List.mem_range.2 (lt_of_getElem?_list hi))
                      simp only [hi] at hall
                      obtain ⟨s1, hp, h1⟩ := exPut_some hall
                      exact ⟨s1, hp, IH h1⟩
                · cases hx
              · cases hx
          · cases hx
        | false =>
          rw [hn] at hx
          change exStep P E n o s h (fun fr h => exL P E n all l fr h k) = true at hx
          unfold exStep at hx
          split at hx
          · rename_i v h' ho
            obtain ⟨s1, hp, h1⟩ := exPut_some hx
            exact Wl.val v hw ho hp (IH h1)
          · rename_i h' ho
            obtain ⟨s1, hp, h1⟩ := exPut_some hx
            exact Wl.store hw ho hp (IH h1)
          · rename_i f args h' ho
            split at hx
            · rename_i v h2 hc
              obtain ⟨s1, hp, h1⟩ := exPut_some hx
              refine Wl.came hw ho (v := v) (h2 := h2) (fun hF B w0 g w cs us hW hG hs => ?_) hp (IH h1)
              have := callAny_shared (run_snd hF.names hF.prim n) hW hG cs hs (f := f)
              rw [hc] at this
              exact this
            · cases hx
          · cases hx

theorem exRun_ok {n : Nat} {c : Code} {s : Fr} {h : Heap} {k : ExK} (hk : ∀ e s h, k e s h = true → KX K X e s h) (hx : exRun k (run P E n (.code c s h)) = true) : Wc P E c s h K X N := by
  intro hF B w0 g0 g w a b kk cs hD hg hW hG hf
  have hr := (run_snd hF.names hF.prim n).code c s a b kk cs hW (hG.mono hg.ext.S) hf
  unfold exRun at hx
  split at hx
  · rename_i e s1 h1 hrr
    rw [hrr] at hr
    obtain ⟨g', a', w', r1, r2, r3, r4⟩ := hr
    split at hx
    · cases hx
    · exact ⟨.normal, s1, h1, g', a', w', hg.trans r1, r2, r3, r4, hk _ _ _ hx⟩
    · exact ⟨.ret, s1, h1, g', a', w', hg.trans r1, r2, r3, r4, hk _ _ _ hx⟩
    · rename_i id; exact ⟨.exit id, s1, h1, g', a', w', hg.trans r1, r2, r3, r4, hk _ _ _ hx⟩
    · cases hx
  · cases hx

theorem exC_ok {n : Nat} : ∀ (m : Nat) {c : Code} {s : Fr} {h : Heap} {k : ExK} {K : Fr → Heap → Prop} {X : Ex → Fr → Heap → Prop}, (∀ e s h, k e s h = true → KX K X e s h) → exC P E n m c s h k = true → Wc P E c s h K X N := by
  intro m
  induction m with
  | zero => intro c s h k K X _ hx; cases hx
  | succ m IH =>
    intro c s h k K X hk hx
    have hseq : ∀ {b : Code} {f : Fr → Heap → Bool}, (∀ s h, f s h = true → Wc P E b s h K X N) → ∀ e s h, exSeq f k e s h = true → KX (fun s h => Wc P E b s h K X N) X e s h := by
      intro b f hf e s h he
      unfold exSeq at he
      cases e with
      | normal => exact hf s h he
      | ret => exact hk _ _ _ he
      | exit id => exact hk _ _ _ he
      | _ => cases he
    change (bif hasNext c then _ else _) = true at hx
    cases hn : hasNext c with
    | false => rw [hn] at hx; exact exRun_ok hk hx
    | true =>
      rw [hn] at hx
      cases c with
      | region id ops draw =>
        cases draw with
        | true => cases hx
        | false => exact Wc.region (exL_ok (fun s h q => hk .normal s h q) _ hx)
      | seq a b => exact Wc.seq (IH (hseq fun s h q => IH hk q) hx)
      | cond c a b =>
        change (match ev E.glob s.tm c with
          | some (.bool t) => bif t then exC P E n m a s h k else exC P E n m b s h k
          | _ => false) = true at hx
        split at hx
        · rename_i t hev
          refine Wc.condAny t hev (fun e => ?_) (fun e => ?_)
          · subst e; exact IH hk hx
          · subst e; exact IH hk hx
        · cases hx
      | block id b =>
        refine Wc.block (IH (fun e s h he => ?_) hx)
        unfold exBlock at he
        cases e with
        | normal => exact hk _ _ _ he
        | ret => exact hk .ret _ _ he
        | exit id' =>
          change (bif Nat.beq id' id then k .normal s h else k (.exit id') s h) = true at he
          cases hb : Nat.beq id' id with
          | true =>
            rw [hb] at he
            have := Nat.eq_of_beq_eq_true hb; subst this
            exact blockX.here (hk .normal _ _ he)
          | false => rw [hb] at he; exact blockX.out hb (hk (.exit id') _ _ he)
        | _ => cases he
      | loop b => exact Wc.unroll (IH (hseq fun s h q => IH hk q) hx)
      | scope b => exact Wc.scope (IH hk hx)
      | _ => cases hx

def exEnd : Ex → Bool
  | .normal => true
  | .ret => true
  | _ => false
noncomputable def exRet (P : Program) (fn : Func) (g : V) (e : Ex) (fr : Fr) (h : Heap) : Bool :=
  bif exEnd e && isNil fr.defers then (match killMarks fr.marks h with
    | some h1 => (match results P fn fr h1 with
      | some v => (match retAll h1 v with
        | some u => eqVal u g
        | none => false)
      | none => false)
    | none => false)
  else false
noncomputable def ordCk (P : Program) (E : Env) (n m : Nat) (f : FuncId) (gs : List V) (g : V) : Bool :=
  match P.funcs[f]? with
  | some fn => (match fn.body with
    | some body => bif Nat.ble (List.len gs) fn.ntmps then exC P E n m body (argS f fn.ntmps gs) Heap.empty (exRet P fn g) else false
    | none => false)
  | none => false

theorem exRet_ok {fn : Func} {g : V} {e : Ex} {s : Fr} {h : Heap} (hx : exRet P fn g e s h = true) : (e = .normal ∨ e = .ret) ∧ retX P fn (fun v h => retAll h v = some g) s h := by
  unfold exRet at hx
  cases hb : (exEnd e && isNil s.defers) with
  | false => rw [hb] at hx; cases hx
  | true =>
    rw [hb] at hx
    simp only [Bool.and_eq_true] at hb
    refine ⟨?_, ?_, ?_⟩
    · cases e with
      | normal => exact .inl rfl
      | ret => exact .inr rfl
      | _ => cases hb.1
    · have := hb.2
      cases hd : s.defers with
      | nil => rfl
      | cons _ _ => rw [hd] at this; cases this
    · change (match killMarks s.marks h with
        | some h1 => (match results P fn s h1 with
          | some v => (match retAll h1 v with
            | some u => eqVal u g
            | none => false)
          | none => false)
        | none => false) = true at hx
      split at hx
      · rename_i h1 hk
        split at hx
        · rename_i v hv
          split at hx
          · rename_i u hu
            have := eqVal_iff hx; subst this
            exact ⟨h1, hk, v, hv, hu⟩
          · cases hx
        · cases hx
      · cases hx

theorem ordCk_pure {n m : Nat} {f : FuncId} {gs : List V} {g : V} (h : ordCk P E n m f gs g = true) : Cp P E f gs g := by
  unfold ordCk at h
  split at h
  · rename_i fn hf
    split at h
    · rename_i body hb
      cases hl : Nat.ble (List.len gs) fn.ntmps with
      | false => rw [hl] at h; cases h
      | true =>
        rw [hl] at h
        refine Cp.body hf hb hl (exC_ok m (fun e s h hx => ?_) h)
        obtain ⟨he, hr⟩ := exRet_ok hx
        rcases he with rfl | rfl
        · exact hr
        · exact hr
    · cases h
  · cases h

/-- A table of calls of whatever data, each run in every order. -/
noncomputable def ckO (P : Program) (E : Env) (n m : Nat) (f : FuncId) (T : List (List V × V)) : Bool := every (fun q => ordCk P E n m f q.1 q.2) T
theorem ckO_pure {n m : Nat} (hF : Fine P E) {f : FuncId} {T : List (List V × V)} (h : ckO P E n m f T = true) : ∀ q, q ∈ T → PureOk P E.glob f q.1 q.2 := fun q hq => ordCk_pure ((every_iff _ _).1 h q hq) hF

end Go.AM

