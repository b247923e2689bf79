/-
  What an operation hangs on: the slots that it looks at; and those that leave the heap as it is.
-/
import Derived.Test.YtaahfplokcfncaaGreatDoorAmStill
namespace Go.AM
open Go.RowKit

variable {P : Program} {E : Env} {ih : Task → Res}

theorem mem_tmpsOf {l : List Operand} {t : Tmp} (h : Operand.tmp t ∈ l) : t ∈ tmpsOf l := by
  unfold tmpsOf
  rw [List.mem_filterMap]
  exact ⟨_, h, rfl⟩

theorem ev_congr {G : Nat → Option V} {tm tm' : T V} {l : List Operand} (h : ∀ t, t ∈ tmpsOf l → tm.get undef t = tm'.get undef t) {x : Operand} (hx : x ∈ l) : ev G tm x = ev G tm' x := by
  cases x with
  | tmp t => exact congrArg notLost (h t (mem_tmpsOf hx))
  | _ => rfl

theorem mapO_congr {α β : Type} {f f' : α → Option β} {l : List α} (h : ∀ x, x ∈ l → f x = f' x) : mapO f l = mapO f' l := by
  induction l with
  | nil => rfl
  | cons x l ih =>
    rw [mapO_cons, mapO_cons, h x (by simp), ih fun y hy => h y (by simp [hy])]

theorem o1_eq (G : Nat → Option V) (tm : T V) (h : Heap) (x : Operand) (f : V → Option V) : o1 G tm h x f = match ev G tm x with | none => .stuck | some v => ofOpt h (f v) := by
  unfold o1; cases ev G tm x <;> rfl
theorem o2_eq (G : Nat → Option V) (tm : T V) (h : Heap) (x y : Operand) (f : V → V → Option V) : o2 G tm h x y f = match ev G tm x with | none => .stuck | some v => (match ev G tm y with | none => .stuck | some u => ofOpt h (f v u)) := by
  unfold o2
  cases ev G tm x with
  | none => rfl
  | some v => cases h2 : ev G tm y <;> simp only [h2]

theorem operL_congr {G : Nat → Option V} {tm tm' : T V} (h : Heap) {o : Oper} (ht : ∀ t, t ∈ tmpsOf o.op.operands.toList → tm.get undef t = tm'.get undef t) : operL P G tm h o = operL P G tm' h o := by
  have hx : ∀ x, x ∈ o.op.operands.toList → ev G tm x = ev G tm' x := fun x hx => ev_congr ht hx
  obtain ⟨dst, op, ty, pos, after, guard⟩ := o
  simp only at hx
  unfold operL oper
  simp only
  cases op with
  | move x => change oMove G tm h x = oMove G tm' h x; unfold oMove; rw [hx x (by simp [Op.operands])]
  | assign x => change oMove G tm h x = oMove G tm' h x; unfold oMove; rw [hx x (by simp [Op.operands])]
  | pick c a b =>
    change oPick G tm h c a b = oPick G tm' h c a b
    unfold oPick
    rw [hx c (by simp [Op.operands]), hx a (by simp [Op.operands]), hx b (by simp [Op.operands])]
  | alloc e => rfl
  | box e x =>
    change oBox G tm h e x = oBox G tm' h e x
    unfold oBox
    rw [hx x (by simp [Op.operands])]
  | build t ps =>
    change oBuild P G tm h t ps = oBuild P G tm' h t ps
    have : evP G tm ps.toList = evP G tm' ps.toList := by
      unfold evP
      refine mapO_congr fun p hp => ?_
      rw [hx p.2 (by simp only [Op.operands, List.mem_map]; exact ⟨p, hp, rfl⟩)]
    unfold oBuild
    rw [this]
  | buildSlice t len ps =>
    have : evP G tm ps.toList = evP G tm' ps.toList := by
      unfold evP
      refine mapO_congr fun p hp => ?_
      rw [hx p.2 (by simp only [Op.operands, List.mem_map]; exact ⟨p, hp, rfl⟩)]
    change oLit P G tm h t len ps = oLit P G tm' h t len ps
    unfold oLit
    rw [this]
  | insert t m k v =>
    change oMapUpdate P G tm h t m k v = oMapUpdate P G tm' h t m k v
    unfold oMapUpdate
    rw [hx m (by simp [Op.operands]), hx k (by simp [Op.operands]), hx v (by simp [Op.operands])]
  | load t x => change o1 _ _ _ _ _ = o1 _ _ _ _ _; rw [o1_eq, o1_eq, hx x (by simp [Op.operands])]
  | store t x y =>
    change oStore P G tm h t x y = oStore P G tm' h t x y
    unfold oStore
    rw [hx x (by simp [Op.operands]), hx y (by simp [Op.operands])]
  | nilCheck x => change o1 _ _ _ _ _ = o1 _ _ _ _ _; rw [o1_eq, o1_eq, hx x (by simp [Op.operands])]
  | binOp op t x y b => change o2 _ _ _ _ _ _ = o2 _ _ _ _ _ _; rw [o2_eq, o2_eq, hx x (by simp [Op.operands]), hx y (by simp [Op.operands])]
  | unOp op t x => change o1 _ _ _ _ _ = o1 _ _ _ _ _; rw [o1_eq, o1_eq, hx x (by simp [Op.operands])]
  | convert s d x => change o1 _ _ _ _ _ = o1 _ _ _ _ _; rw [o1_eq, o1_eq, hx x (by simp [Op.operands])]
  | makeInterface t x => change o1 _ _ _ _ _ = o1 _ _ _ _ _; rw [o1_eq, o1_eq, hx x (by simp [Op.operands])]
  | makeFunc f a b =>
    change oMakeFunc G tm h f a b = oMakeFunc G tm' h f a b
    have h1 : mapO (ev G tm) a.toList = mapO (ev G tm') a.toList := mapO_congr fun x hx' => hx x (by simp [Op.operands] at hx' ⊢; exact .inl hx')
    have h2 : mapO (ev G tm) b.toList = mapO (ev G tm') b.toList := mapO_congr fun x hx' => hx x (by simp [Op.operands] at hx' ⊢; exact .inr hx')
    unfold oMakeFunc
    rw [h1, h2]
  | makeMap t r => rfl
  | makeSlice t l c =>
    change oMakeSlice P G tm h t l c = oMakeSlice P G tm' h t l c
    unfold oMakeSlice
    rw [hx l (by simp [Op.operands]), hx c (by simp [Op.operands])]
  | slice t x lo hi mx =>
    change oSlice P G tm h t x lo hi mx = oSlice P G tm' h t x lo hi mx
    have hO : ∀ y : Option Operand, (∀ z, y = some z → z ∈ (Op.slice t x lo hi mx).operands.toList) → evO G tm y = evO G tm' y := by
      intro y hy
      cases y with
      | none => rfl
      | some z => unfold evO; simp only; rw [hx z (hy z rfl)]
    unfold oSlice
    rw [hx x (by simp [Op.operands]), hO lo (fun z e => by subst e; simp [Op.operands]), hO hi (fun z e => by subst e; simp [Op.operands]), hO mx (fun z e => by subst e; simp [Op.operands])]
  | fieldAddr t x f =>
    change oFieldAddr P G tm h t x f = oFieldAddr P G tm' h t x f
    unfold oFieldAddr
    split
    · rw [o1_eq, o1_eq, hx x (by simp [Op.operands])]
    · rfl
  | field t x f =>
    change oField P G tm h t x f = oField P G tm' h t x f
    unfold oField
    split
    · rw [o1_eq, o1_eq, hx x (by simp [Op.operands])]
    · rfl
  | indexAddr t x i => change o2 _ _ _ _ _ _ = o2 _ _ _ _ _ _; rw [o2_eq, o2_eq, hx x (by simp [Op.operands]), hx i (by simp [Op.operands])]
  | index t x i => change o2 _ _ _ _ _ _ = o2 _ _ _ _ _ _; rw [o2_eq, o2_eq, hx x (by simp [Op.operands]), hx i (by simp [Op.operands])]
  | lookup t x i ok => change o2 _ _ _ _ _ _ = o2 _ _ _ _ _ _; rw [o2_eq, o2_eq, hx x (by simp [Op.operands]), hx i (by simp [Op.operands])]
  | mapUpdate t m k v =>
    change oMapUpdate P G tm h t m k v = oMapUpdate P G tm' h t m k v
    unfold oMapUpdate
    rw [hx m (by simp [Op.operands]), hx k (by simp [Op.operands]), hx v (by simp [Op.operands])]
  | range t x =>
    change oRange P G tm h t x = oRange P G tm' h t x
    unfold oRange
    rw [hx x (by simp [Op.operands])]
  | next x s =>
    change oNext G tm h x s = oNext G tm' h x s
    unfold oNext
    rw [hx x (by simp [Op.operands])]
  | entry x =>
    change oEntry G tm h x = oEntry G tm' h x
    unfold oEntry
    rw [hx x (by simp [Op.operands])]
  | typeAssert x xt t ok => change o1 _ _ _ _ _ = o1 _ _ _ _ _; rw [o1_eq, o1_eq, hx x (by simp [Op.operands])]
  | extract x i => change o1 _ _ _ _ _ = o1 _ _ _ _ _; rw [o1_eq, o1_eq, hx x (by simp [Op.operands])]
  | call c =>
    change oCall P G tm h c = oCall P G tm' h c
    have h1 : mapO (ev G tm) c.args.toList = mapO (ev G tm') c.args.toList := mapO_congr fun x hx' => hx x (by simp [Op.operands, Call.operands] at hx' ⊢; exact .inr hx')
    unfold oCall
    rw [h1]
    cases hc : c.callee with
    | builtin b => rfl
    | value f => simp only; rw [hx f (by simp [Op.operands, Call.operands, hc])]
    | invoke r m => rfl
  | defer c =>
    change oDefer G tm h c = oDefer G tm' h c
    have h1 : mapO (ev G tm) c.args.toList = mapO (ev G tm') c.args.toList := mapO_congr fun x hx' => hx x (by simp [Op.operands, Call.operands] at hx' ⊢; exact .inr hx')
    unfold oDefer
    rw [h1]
    cases hc : c.callee with
    | builtin b => rfl
    | value f => simp only; rw [hx f (by simp [Op.operands, Call.operands, hc])]
    | invoke r m => rfl
  | panic x =>
    change oPanic G tm h x = oPanic G tm' h x
    unfold oPanic
    rw [hx x (by simp [Op.operands])]
  | _ => rfl

theorem doOp_congr {tm tm' : T V} (h : Heap) {o : Oper} (ht : ∀ t, t ∈ tmpsOf o.op.operands.toList → tm.get undef t = tm'.get undef t) : doOp P E ih tm h o = doOp P E ih tm' h o := by
  unfold doOp; rw [operL_congr h ht]

theorem wanted_congr {all : List Oper} {fr fr' : Fr} {o : Oper} (ht : ∀ t, t ∈ guardSlot all o → fr.tm.get undef t = fr'.tm.get undef t) : wanted all fr o = wanted all fr' o := by
  unfold wanted
  unfold guardSlot at ht
  cases hg : o.guard with
  | none => rfl
  | some p =>
    obtain ⟨j, want⟩ := p
    rw [hg] at ht
    simp only at ht
    change wantedG (j, want) all fr.tm = wantedG (j, want) all fr'.tm
    unfold wantedG
    simp only
    cases ho : List.at all j with
    | none => rfl
    | some x =>
      rw [ho] at ht
      simp only
      cases hd : x.dst with
      | none => rfl
      | some d => simp only; rw [ht d (by simp [hd])]

/-- What leaves the heap as it is. -/
def Same (h : Heap) (r : Rs) : Prop := r = .stuck ∨ ∃ v, r = .val v h
theorem Same.opt (h : Heap) (o : Option V) : Same h (ofOpt h o) := by
  cases o with
  | none => exact .inl rfl
  | some v => exact .inr ⟨v, rfl⟩
theorem Same.stuck (h : Heap) : Same h .stuck := .inl rfl
theorem Same.val (h : Heap) (v : V) : Same h (.val v h) := .inr ⟨v, rfl⟩
theorem Same.o1 (G : Nat → Option V) (tm : T V) (h : Heap) (x : Operand) (f : V → Option V) : Same h (AM.o1 G tm h x f) := by
  rw [o1_eq]; split
  · exact .stuck h
  · exact .opt h _
theorem Same.o2 (G : Nat → Option V) (tm : T V) (h : Heap) (x y : Operand) (f : V → V → Option V) : Same h (AM.o2 G tm h x y f) := by
  rw [o2_eq]; split
  · exact .stuck h
  · split
    · exact .stuck h
    · exact .opt h _
theorem Same.bif {h : Heap} {b : Bool} {r r' : Rs} (h1 : Same h r) (h2 : Same h r') : Same h (bif b then r else r') := by cases b <;> assumption
theorem bCap_same (P : Program) (t : TypeId) (h : Heap) (x : V) : Same h (bCap P t h x) := by
  unfold bCap
  refine .bif (.stuck h) ?_
  split
  · exact .val h _
  · split
    · exact .val h _
    · split
      · split
        · exact .bif (.val h _) (.stuck h)
        · exact .stuck h
      · exact .stuck h
  · exact .stuck h

theorem bData_same (h : Heap) (x : V) : Same h (bData h x) := by
  unfold bData
  split
  · exact .val h _
  · split
    · exact .bif (.val h _) (.stuck h)
    · exact .stuck h
  · exact .stuck h

theorem builtin_same (P : Program) {b : Builtin} (hb : b = .len ∨ b = .cap ∨ b = .max ∨ b = .min ∨ b = .unsafeSliceData) (ts : List TypeId) (h : Heap) (args : List V) : Same h (AM.builtin P b ts h args) := by
  unfold AM.builtin
  split
  · exact .stuck h
  · split
    · exact .stuck h
    · rcases hb with rfl | rfl | rfl | rfl | rfl <;> simp only
      · split
        · split
          · exact .val h _
          · exact .stuck h
        · exact .stuck h
      · split
        · exact bCap_same P _ h _
        · exact .stuck h
      · exact .opt h _
      · exact .opt h _
      · split
        · exact bData_same h _
        · exact .stuck h

theorem lit_same (P : Program) (G : Nat → Option V) (tm : T V) (h : Heap) (t : TypeId) (len : Nat) (ps : Array (Nat × Operand)) : Same h (oLit P G tm h t len ps) := by
  unfold oLit
  split
  · exact .stuck h
  · split
    · exact .stuck h
    · split
      · exact .stuck h
      · refine .bif (.stuck h) ?_
        split
        · exact .bif (.val h _) (.stuck h)
        · exact .stuck h

/-- A pure call: its name and arguments hang on the slots alone. -/
theorem pure_call {E : Env} {o : Oper} (hp : isPure E o.op = true) (P : Program) (G : Nat → Option V) (tm : T V) : (∀ h, operL P G tm h o = .stuck) ∨ ∃ f args, E.shared f = false ∧ ∀ h, operL P G tm h o = .call f args h := by
  obtain ⟨dst, op, ty, pos, after, guard⟩ := o
  cases op with
  | call c =>
    obtain ⟨callee, args, ats⟩ := c
    unfold isPure at hp
    simp only at hp
    split at hp
    · rename_i f
      have hs : E.shared f = false := by simpa using hp
      have e : ∀ h, operL P G tm h { dst := dst, op := .call { callee := .value (.func f), args := args, argTypes := ats }, type := ty, pos := pos, after := after, guard := guard } = oCall P G tm h { callee := .value (.func f), args := args, argTypes := ats } := fun h => rfl
      unfold oCall at e
      simp only at e
      cases ha : mapO (ev G tm) args.toList with
      | none => left; intro h; rw [e h, ha]
      | some as =>
        right
        refine ⟨f, List.app (List.app [] as) [], hs, fun h => ?_⟩
        rw [e h, ha]
        rfl
    · cases hp
  | _ => cases hp

theorem read_same {E : Env} {o : Oper} (hr : isRead E o.op = true) (hp : ¬ isPure E o.op = true) (P : Program) (G : Nat → Option V) (tm : T V) (h : Heap) : Same h (operL P G tm h o) := by
  · obtain ⟨dst, op, ty, pos, after, guard⟩ := o
    simp only at hr hp
    cases op with
    | move x => exact .opt h _
    | assign x => exact .opt h _
    | pick c a b =>
      change Same h (oPick G tm h c a b)
      unfold oPick
      split
      · exact .opt h _
      · exact .stuck h
    | build t ps =>
      change Same h (oBuild P G tm h t ps)
      unfold oBuild
      split
      · exact .opt h _
      · exact .stuck h
    | buildSlice t len ps => exact lit_same P G tm h t len ps
    | load t x => exact .o1 ..
    | nilCheck x => exact .o1 ..
    | binOp op t x y b => exact .o2 ..
    | unOp op t x => exact .o1 ..
    | convert s d x => exact .o1 ..
    | makeInterface t x => exact .o1 ..
    | makeFunc f a b =>
      change Same h (oMakeFunc G tm h f a b)
      unfold oMakeFunc
      split
      · exact .stuck h
      · split
        · split
          · exact .val h _
          · exact .stuck h
        · exact .stuck h
    | slice t x lo hi mx =>
      change Same h (oSlice P G tm h t x lo hi mx)
      unfold oSlice
      split
      · exact .stuck h
      · split
        · exact .stuck h
        · split
          · exact .stuck h
          · split
            · exact .stuck h
            · exact .opt h _
    | fieldAddr t x f =>
      change Same h (oFieldAddr P G tm h t x f)
      unfold oFieldAddr
      split
      · exact .bif (.stuck h) (.o1 ..)
      · exact .stuck h
    | field t x f =>
      change Same h (oField P G tm h t x f)
      unfold oField
      split
      · exact .o1 ..
      · exact .stuck h
    | indexAddr t x i => exact .o2 ..
    | index t x i => exact .o2 ..
    | lookup t x i ok => exact .o2 ..
    | typeAssert x xt t ok => exact .o1 ..
    | extract x i => exact .o1 ..
    | call c =>
      obtain ⟨callee, args, ats⟩ := c
      change Same h (oCall P G tm h _)
      have key : ∀ b : Builtin, (b = .len ∨ b = .cap ∨ b = .max ∨ b = .min ∨ b = .unsafeSliceData) → Same h (oCall P G tm h { callee := .builtin b, args := args, argTypes := ats }) := by
        intro b hb
        unfold oCall
        simp only
        split
        · exact .stuck h
        · rcases hb with rfl | rfl | rfl | rfl | rfl <;> exact builtin_same P (by simp) _ h _
      simp only [isRead] at hr
      split at hr
      · exact key _ (by simp)
      · exact key _ (by simp)
      · exact key _ (by simp)
      · exact key _ (by simp)
      · exact key _ (by simp)
      · exact absurd hr hp
      · cases hr
    | _ => cases hr

theorem callStill_heap {h1 h2 : Heap} {f : FuncId} {args : List V} (v : V) (h' : Heap) (hr : callStill E ih f args h1 = .ret v h') : h' = h1 ∧ callStill E ih f args h2 = .ret v h2 := by
  unfold callStill at hr ⊢
  cases hg : groundL (ground 3) args with
  | false => rw [hg] at hr; cases hr
  | true =>
    rw [hg] at hr
    simp only [cond_true] at hr ⊢
    cases hu : E.prim f args with
    | some u =>
      rw [hu] at hr
      cases hr; exact ⟨rfl, rfl⟩
    | none =>
      rw [hu] at hr
      simp only at hr ⊢
      unfold endPure at hr ⊢
      cases he : ih (.call f args Heap.empty) with
      | ret u hc =>
        rw [he] at hr
        simp only at hr ⊢
        cases hgv : retAll hc u with
        | none => rw [hgv] at hr; cases hr
        | some gv => rw [hgv] at hr; cases hr; exact ⟨rfl, rfl⟩
      | panic u hc =>
        rw [he] at hr
        simp only at hr
        split at hr <;> cases hr
      | none _ _ => rw [he] at hr; cases hr
      | code _ _ _ => rw [he] at hr; cases hr
      | dret _ _ => rw [he] at hr; cases hr

/-- A read leaves the heap as it is. -/
theorem doOp_read {o : Oper} (hr : isRead E o.op = true) {tm : T V} {h h' : Heap} {v : V} (hd : doOp P E ih tm h o = .val v h') : h' = h := by
  by_cases hp : isPure E o.op = true
  · unfold doOp at hd
    rcases pure_call hp P E.glob tm with q | ⟨f', a', hsh, q⟩
    · rw [q] at hd; cases hd
    · rw [q] at hd
      simp only at hd
      have : callAny E ih true f' a' h = callStill E ih f' a' h := by unfold callAny; rw [hsh]
      rw [this] at hd
      cases hc : callStill E ih f' a' h with
      | ret y h2 => rw [hc] at hd; cases hd; exact (callStill_heap (h2 := h) _ _ hc).1
      | panic y h2 => rw [hc] at hd; cases hd
      | _ => rw [hc] at hd; cases hd
  · unfold doOp at hd
    rcases read_same hr hp P E.glob tm h with q | ⟨v', q⟩
    · rw [q] at hd; cases hd
    · rw [q] at hd; cases hd; rfl

/-- A pure call comes to the same in whatever heap. -/
theorem doOp_pure {o : Oper} (hp : isPure E o.op = true) {tm : T V} {h h' : Heap} {v : V} (hd : doOp P E ih tm h o = .val v h') (h2 : Heap) : doOp P E ih tm h2 o = .val v h2 := by
  unfold doOp at hd ⊢
  rcases pure_call hp P E.glob tm with q | ⟨f', a', hsh, q⟩
  · rw [q] at hd; cases hd
  · rw [q] at hd ⊢
    simp only at hd ⊢
    have e1 : ∀ h, callAny E ih true f' a' h = callStill E ih f' a' h := fun h => by unfold callAny; rw [hsh]
    rw [e1] at hd ⊢
    cases hc : callStill E ih f' a' h with
    | ret y h3 =>
      rw [hc] at hd; cases hd
      rw [(callStill_heap (h2 := h2) _ _ hc).2]; rfl
    | panic y h3 => rw [hc] at hd; cases hd
    | _ => rw [hc] at hd; cases hd

theorem isPure_read {o : Op} (h : isPure E o = true) : isRead E o = true := by
  cases o with
  | call c =>
    unfold isPure at h
    unfold isRead
    simp only at h ⊢
    split at h
    · rename_i f hf; rw [hf]; exact h
    · cases h
  | _ => cases h

end Go.AM
