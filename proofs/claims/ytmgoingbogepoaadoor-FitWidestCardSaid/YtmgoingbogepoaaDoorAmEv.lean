/-
  A task comes to a result, with fuel enough: the rules by which runs over unknown data are put together.
-/
import Derived.Test.YtmgoingbogepoaaDoorAmFin
namespace Go.AM
open Go.RowKit

variable {P : Program} {E : Env}

/-- A task comes to this, with fuel enough. -/
def Ev (P : Program) (E : Env) (t : Task) (r : Res) : Prop := ∃ N, ∀ n, N ≤ n → run P E n t = r

theorem Ev.of_step {t : Task} {r : Res} (h : ∃ N, ∀ n, N ≤ n → step P E (run P E n) t = r) : Ev P E t r := by
  obtain ⟨N, h⟩ := h
  refine ⟨N + 1, fun n hn => ?_⟩
  obtain ⟨m, rfl⟩ : ∃ m, n = m + 1 := ⟨n - 1, by omega⟩
  exact h m (by omega)

theorem Ev.seq {a b : Code} {fr fr1 : Fr} {h h1 : Heap} {r : Res} (ha : Ev P E (.code a fr h) (.code .normal fr1 h1)) (hb : Ev P E (.code b fr1 h1) r) : Ev P E (.code (.seq a b) fr h) r := by
  obtain ⟨N, ha⟩ := ha
  obtain ⟨M, hb⟩ := hb
  refine .of_step ⟨max N M, fun n hn => ?_⟩
  change sSeq (run P E n) b (run P E n (.code a fr h)) = r
  rw [ha n (by omega)]
  exact hb n (by omega)
theorem Ev.seqOut {a b : Code} {fr fr1 : Fr} {h h1 : Heap} {e : Ex} (he : e ≠ .normal) (ha : Ev P E (.code a fr h) (.code e fr1 h1)) : Ev P E (.code (.seq a b) fr h) (.code e fr1 h1) := by
  obtain ⟨N, ha⟩ := ha
  refine .of_step ⟨N, fun n hn => ?_⟩
  change sSeq (run P E n) b (run P E n (.code a fr h)) = _
  rw [ha n hn]
  cases e <;> first | rfl | exact absurd rfl he
theorem Ev.cond {c : Operand} {a b : Code} {fr : Fr} {h : Heap} {t : Bool} {r : Res} (hc : ev E.glob fr.tm c = some (.bool t)) (ha : Ev P E (.code (if t then a else b) fr h) r) : Ev P E (.code (.cond c a b) fr h) r := by
  obtain ⟨N, ha⟩ := ha
  refine .of_step ⟨N, fun n hn => ?_⟩
  change sCond E (run P E n) c a b fr h = r
  unfold sCond
  rw [hc]
  rw [← ha n hn]
  cases t <;> rfl
theorem Ev.block {id : Nat} {b : Code} {fr fr1 : Fr} {h h1 : Heap} {e : Ex} (hb : Ev P E (.code b fr h) (.code e fr1 h1)) : Ev P E (.code (.block id b) fr h) (sBlock id (.code e fr1 h1)) := by
  obtain ⟨N, hb⟩ := hb
  refine .of_step ⟨N, fun n hn => ?_⟩
  change sBlock id (run P E n (.code b fr h)) = _
  rw [hb n hn]
theorem Ev.loop {b : Code} {fr fr1 : Fr} {h h1 : Heap} {r : Res} (hb : Ev P E (.code b fr h) (.code .normal fr1 h1)) (hr : Ev P E (.code (.loop b) fr1 h1) r) : Ev P E (.code (.loop b) fr h) r := by
  obtain ⟨N, hb⟩ := hb
  obtain ⟨M, hr⟩ := hr
  refine .of_step ⟨max N M, fun n hn => ?_⟩
  change sSeq (run P E n) (.loop b) (run P E n (.code b fr h)) = r
  rw [hb n (by omega)]
  exact hr n (by omega)
theorem Ev.loopOut {b : Code} {fr fr1 : Fr} {h h1 : Heap} {e : Ex} (he : e ≠ .normal) (hb : Ev P E (.code b fr h) (.code e fr1 h1)) : Ev P E (.code (.loop b) fr h) (.code e fr1 h1) := by
  obtain ⟨N, hb⟩ := hb
  refine .of_step ⟨N, fun n hn => ?_⟩
  change sSeq (run P E n) (.loop b) (run P E n (.code b fr h)) = _
  rw [hb n hn]
  cases e <;> first | rfl | exact absurd rfl he
theorem Ev.skip {fr : Fr} {h : Heap} : Ev P E (.code .skip fr h) (.code .normal fr h) := .of_step ⟨0, fun _ _ => rfl⟩
theorem Ev.ret {fr : Fr} {h : Heap} : Ev P E (.code .ret fr h) (.code .ret fr h) := .of_step ⟨0, fun _ _ => rfl⟩
theorem Ev.exit {id : Nat} {fr : Fr} {h : Heap} : Ev P E (.code (.exit id) fr h) (.code (.exit id) fr h) := .of_step ⟨0, fun _ _ => rfl⟩
theorem Ev.scope {b : Code} {fr : Fr} {h : Heap} {r : Res} (hb : Ev P E (.code b fr h) r) : Ev P E (.code (.scope b) fr h) r := by
  obtain ⟨N, hb⟩ := hb
  exact .of_step ⟨N, fun n hn => hb n hn⟩

/-- The operations of a region, one after the other. -/
def Evs (P : Program) (E : Env) (all l : List Oper) (fr : Fr) (h : Heap) (r : Res) : Prop := ∃ N, ∀ n, N ≤ n → runOps P E (run P E n) all l fr h = r

theorem Ev.region {id : Nat} {ops : Array Oper} {fr : Fr} {h : Heap} {r : Res} (ho : Evs P E ops.toList ops.toList fr h r) : Ev P E (.code (.region id ops false) fr h) r := by
  obtain ⟨N, ho⟩ := ho
  exact .of_step ⟨N, fun n hn => ho n hn⟩

theorem Evs.nil {all : List Oper} {fr : Fr} {h : Heap} : Evs P E all [] fr h (.code .normal fr h) := ⟨0, fun _ _ => rfl⟩
theorem Evs.val {all l : List Oper} {o : Oper} {fr fr1 : Fr} {h h1 : Heap} {v : V} {r : Res} (hw : wanted all fr o = some true) (ho : operE (E.lit fr.fn) P E.glob fr.tm h o = .val v h1) (hp : fr.put o.dst v = some fr1) (hr : Evs P E all l fr1 h1 r) : Evs P E all (o :: l) fr h r := by
  obtain ⟨N, hr⟩ := hr
  refine ⟨N, fun n hn => ?_⟩
  change runOp P E (run P E n) all o (runOps P E (run P E n) all l) fr h = r
  unfold runOp
  rw [hw]
  change afterOp E (run P E n) false o fr (runOps P E (run P E n) all l) _ (operE (E.lit fr.fn) P E.glob fr.tm h o) = r
  rw [ho]
  change goOn o fr (runOps P E (run P E n) all l) v h1 = r
  unfold goOn
  rw [hp]
  exact hr n hn
theorem Evs.skip {all l : List Oper} {o : Oper} {fr fr1 : Fr} {h : Heap} {r : Res} (hw : wanted all fr o = some false) (hp : fr.put o.dst undef = some fr1) (hr : Evs P E all l fr1 h r) : Evs P E all (o :: l) fr h r := by
  obtain ⟨N, hr⟩ := hr
  refine ⟨N, fun n hn => ?_⟩
  change runOp P E (run P E n) all o (runOps P E (run P E n) all l) fr h = r
  unfold runOp
  rw [hw]
  change goOn o fr (runOps P E (run P E n) all l) undef h = r
  unfold goOn
  rw [hp]
  exact hr n hn
theorem Evs.store {all l : List Oper} {o : Oper} {fr fr1 : Fr} {h h1 : Heap} {r : Res} (hw : wanted all fr o = some true) (ho : operE (E.lit fr.fn) P E.glob fr.tm h o = .skip h1) (hp : fr.put o.dst undef = some fr1) (hr : Evs P E all l fr1 h1 r) : Evs P E all (o :: l) fr h r := by
  obtain ⟨N, hr⟩ := hr
  refine ⟨N, fun n hn => ?_⟩
  change runOp P E (run P E n) all o (runOps P E (run P E n) all l) fr h = r
  unfold runOp
  rw [hw]
  change afterOp E (run P E n) false o fr (runOps P E (run P E n) all l) _ (operE (E.lit fr.fn) P E.glob fr.tm h o) = r
  rw [ho]
  change goOn o fr (runOps P E (run P E n) all l) undef h1 = r
  unfold goOn
  rw [hp]
  exact hr n hn

theorem Evs.call {all l : List Oper} {o : Oper} {fr fr1 : Fr} {h h1 h2 : Heap} {f : FuncId} {args : List V} {v : V} {r : Res} (hw : wanted all fr o = some true) (ho : operE (E.lit fr.fn) P E.glob fr.tm h o = .call f args h1)
    (hc : ∃ N, ∀ n, N ≤ n → callAny E (run P E n) false f args h1 = .ret v h2) (hp : fr.put o.dst v = some fr1) (hr : Evs P E all l fr1 h2 r) : Evs P E all (o :: l) fr h r := by
  obtain ⟨N, hr⟩ := hr
  obtain ⟨M, hc⟩ := hc
  refine ⟨max N M, fun n hn => ?_⟩
  change runOp P E (run P E n) all o (runOps P E (run P E n) all l) fr h = r
  unfold runOp
  rw [hw]
  change afterOp E (run P E n) false o fr (runOps P E (run P E n) all l) _ (operE (E.lit fr.fn) P E.glob fr.tm h o) = r
  rw [ho]
  change afterCall o fr (runOps P E (run P E n) all l) _ (callAny E (run P E n) false f args h1) = r
  rw [hc n (by omega)]
  change goOn o fr (runOps P E (run P E n) all l) v h2 = r
  unfold goOn
  rw [hp]
  exact hr n (by omega)
theorem callAny_prim {f : FuncId} {args gs : List V} {h h1 h2 : Heap} {v v' : V} (hs : E.shared f = false) (ha : pubL (pub [] depth) args h = some (gs, h1)) (hp : E.prim f gs = some v) (ht : thaw h1 v = (v', h2)) : ∃ N, ∀ n, N ≤ n → callAny E (run P E n) false f args h = .ret v' h2 := by
  refine ⟨0, fun n _ => ?_⟩
  unfold callAny
  rw [hs]
  change callPure E (run P E n) f args h = _
  unfold callPure
  rw [ha]
  change (match E.prim f gs with | some v => thawR h1 v | .none => _) = _
  rw [hp]
  change thawR h1 v = _
  unfold thawR
  rw [ht]

end Go.AM
