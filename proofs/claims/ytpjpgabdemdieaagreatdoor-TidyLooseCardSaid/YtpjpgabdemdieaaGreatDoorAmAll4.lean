/-
  THE ABSTRACT MACHINE, and that its run is the model's: part 5 of 5. No condition.
-/
import Derived.Test.YtpjpgabdemdieaaGreatDoorAmAll3
/-
  REGIONS THAT DRAW THEIR ORDER, over unknown data: what the text's order gives any order gives, where each read is ordered with each writing.
-/
namespace Go.AM
open Go.RowKit

variable {P : Program} {E : Env} {K : Fr → Heap → Prop} {X : Ex → Fr → Heap → Prop} {N : Nat} {ih : Task → Res}

/-- One operation, in the text's order. -/
noncomputable def dOne (P : Program) (E : Env) (ih : Task → Res) (all : List Oper) (o : Oper) (fr : Fr) (h : Heap) : Option (Fr × Heap) :=
  match wanted all fr o with
  | none => none
  | some t => match t with
    | false => (match fr.put o.dst undef with
      | some fr' => some (fr', h)
      | none => none)
    | true => match doOp P E ih fr.tm h o with
      | .val v h' => (match fr.put o.dst v with
        | some fr' => some (fr', bif isRead E o.op then h else h')
        | none => none)
      | _ => none
noncomputable def dTx (P : Program) (E : Env) (ih : Task → Res) (all : List Oper) (l : List Oper) : Fr → Heap → Option (Fr × Heap) :=
  List.rec (motive := fun _ => Fr → Heap → Option (Fr × Heap)) (fun fr h => some (fr, h)) (fun o _ ihl fr h => match dOne P E ih all o fr h with
    | some (fr', h') => ihl fr' h'
    | none => none) l

def okS (r : Nat × Nat) (e : Nat × Option Nat) : Bool := tb e.1 r.1 || nxAt r.2 e.2
/-- Operations whose value hangs on slots alone. -/
def freeOp (P : Program) (o : Op) : Bool :=
  match o with
  | .move _ => true
  | .assign _ => true
  | .binOp b _ _ _ _ => (match b with
    | .eql => false
    | .neq => false
    | _ => true)
  | .slice t _ _ _ _ => isStrT P t
  | .fieldAddr .. => true
  | .build .. => true
  | .extract .. => true
  | _ => false
theorem ofOpt_free {h : Heap} {r : Option V} {v : V} {h' : Heap} (e : (match ofOpt h r with
    | .val v h' => Outc.val v h'
    | .skip h' => .val undef h'
    | .call f args h' => orOf (callAny E ih true f args h')
    | .yield l args h' => orOf (ih (.yield l args h'))
    | .panic v h' => .panic v h'
    | _ => .stuck) = .val v h') : r = some v := by
  cases r with
  | none => cases e
  | some x => cases e; rfl
theorem ofOpt_any {h2 : Heap} {r : Option V} {v : V} (e : r = some v) : ∃ h3, (match ofOpt h2 r with
    | .val v h' => Outc.val v h'
    | .skip h' => .val undef h'
    | .call f args h' => orOf (callAny E ih true f args h')
    | .yield l args h' => orOf (ih (.yield l args h'))
    | .panic v h' => .panic v h'
    | _ => .stuck) = .val v h3 := by
  subst e; exact ⟨h2, rfl⟩
theorem binOp_free {t : TypeId} {c : Bool} {b : BinOp} (h1 : b ≠ .eql) (h2 : b ≠ .neq) (h h' : Heap) (x y : V) : binOp P h t c b x y = binOp P h' t c b x y := by
  have e : ∀ h : Heap, eqOp P h t c b x y = none := fun h => by
    unfold eqOp
    cases b <;> first | rfl | exact absurd rfl h1 | exact absurd rfl h2
  cases x <;> first | rfl | (exact (e h).trans (e h').symm)
theorem slice_free {t : TypeId} (hs : isStrT P t = true) (h h' : Heap) (x : V) (lo hi mx : Option V) : slice P h t x lo hi mx = slice P h' t x lo hi mx := by
  have e : sliceElem P t = none := by
    unfold isStrT at hs
    unfold sliceElem
    split
    · rename_i q; rw [q] at hs; cases hs
    · rfl
  unfold slice
  split
  · rfl
  · split
    · rfl
    · cases x with
      | sl r ver o n c =>
        simp only [e]
        cases boundOf n hi <;> rfl
      | _ => first | rfl | simp only [e]
theorem free_any {o : Oper} (hf : freeOp P o.op = true) {tm : T V} {h h' : Heap} {v : V} (hd : doOp P E ih tm h o = .val v h') (h2 : Heap) : ∃ h3, doOp P E ih tm h2 o = .val v h3 := by
  unfold freeOp at hf
  have ho : ∀ h, (∀ t len ps, o.op ≠ .buildSlice t len ps) → operL P E.glob tm h o = operD o.op P E.glob tm h := fun h hb => by
    unfold operL
    split
    · rename_i t len ps q; exact absurd q (hb t len ps)
    · rfl
  unfold doOp at hd ⊢
  split at hf
  · rename_i x q
    rw [ho _ (fun _ _ _ r => by rw [q] at r; cases r), q, operD_move] at hd ⊢
    exact ofOpt_any (ofOpt_free hd)
  · rename_i x q
    rw [ho _ (fun _ _ _ r => by rw [q] at r; cases r), q, operD_assign] at hd ⊢
    exact ofOpt_any (ofOpt_free hd)
  · rename_i b t x y u q
    rw [ho _ (fun _ _ _ r => by rw [q] at r; cases r), q, operD_binOp, o2_def] at hd ⊢
    have hb : b ≠ .eql ∧ b ≠ .neq := by
      constructor <;> intro r <;> rw [r] at hf <;> cases hf
    cases hx : ev E.glob tm x with
    | none => rw [hx] at hd; cases hd
    | some x' =>
      cases hy : ev E.glob tm y with
      | none => rw [hx, hy] at hd; cases hd
      | some y' =>
        rw [hx, hy] at hd
        simp only at hd ⊢
        rw [binOp_free hb.1 hb.2 h2 h]
        exact ofOpt_any (ofOpt_free hd)
  · rename_i t x lo hi mx q
    rw [ho _ (fun _ _ _ r => by rw [q] at r; cases r), q, operD_slice] at hd ⊢
    unfold oSlice at hd ⊢
    cases hx : ev E.glob tm x with
    | none => rw [hx] at hd; cases hd
    | some x' =>
      cases hl : evO E.glob tm lo with
      | none => rw [hx, hl] at hd; cases hd
      | some l' =>
        cases hh : evO E.glob tm hi with
        | none => rw [hx, hl, hh] at hd; cases hd
        | some h'' =>
          cases hm : evO E.glob tm mx with
          | none => rw [hx, hl, hh, hm] at hd; cases hd
          | some m' =>
            rw [hx, hl, hh, hm] at hd
            simp only at hd ⊢
            rw [slice_free hf h2 h]
            exact ofOpt_any (ofOpt_free hd)
  · rename_i t x f q
    have hF : ∀ h, operD o.op P E.glob tm h = oFieldAddr P E.glob tm h t x f := fun h => by rw [q]; rfl
    rw [ho _ (fun _ _ _ r => by rw [q] at r; cases r), hF] at hd ⊢
    unfold oFieldAddr at hd ⊢
    cases hfo : fieldOff P t f with
    | none => rw [hfo] at hd; cases hd
    | some ft =>
      obtain ⟨ft, k⟩ := ft
      rw [hfo] at hd
      simp only at hd ⊢
      cases hz : Nat.beq (size P ft) 0 with
      | true => rw [hz] at hd; cases hd
      | false =>
        rw [hz] at hd
        simp only [cond_false, o1_def] at hd ⊢
        cases hx : ev E.glob tm x with
        | none => rw [hx] at hd; cases hd
        | some x' =>
          rw [hx] at hd
          exact ofOpt_any (ofOpt_free hd)
  · rename_i t ps q
    have hF : ∀ h, operD o.op P E.glob tm h = oBuild P E.glob tm h t ps := fun h => by rw [q]; rfl
    rw [ho _ (fun _ _ _ r => by rw [q] at r; cases r), hF] at hd ⊢
    unfold oBuild at hd ⊢
    cases hp : evP E.glob tm ps.toList with
    | none => rw [hp] at hd; cases hd
    | some l =>
      rw [hp] at hd
      exact ofOpt_any (ofOpt_free hd)
  · rename_i x i q
    rw [ho _ (fun _ _ _ r => by rw [q] at r; cases r), q, operD_extract, o1_def] at hd ⊢
    cases hx : ev E.glob tm x with
    | none => rw [hx] at hd; cases hd
    | some x' =>
      rw [hx] at hd
      exact ofOpt_any (ofOpt_free hd)
  · cases hf

/-- A row that is laid turns no other one: what was loaded ahead of the first writing stays so. -/
def isAl : Op → Bool
  | .alloc _ => true
  | .box .. => true
  | _ => false
def isLd : Op → Bool
  | .load .. => true
  | _ => false
abbrev CurR := List ((Nat × Nat) × Bool)
noncomputable def outsR (al : Bool) (cur : CurR) : List (Nat × Nat) := List.rec [] (fun x _ ih => bif al && x.2 then ih else x.1 :: ih) cur
noncomputable def keepR (al : Bool) (cur : CurR) : CurR := List.rec [] (fun x _ ih => bif al && x.2 then x :: ih else ih) cur
theorem outs_or {al : Bool} {cur : CurR} {x : (Nat × Nat) × Bool} (h : x ∈ cur) : x.1 ∈ outsR al cur ∨ (al = true ∧ x.2 = true ∧ x ∈ keepR al cur) := by
  induction cur with
  | nil => cases h
  | cons y cur IH =>
    change x.1 ∈ (bif al && y.2 then outsR al cur else y.1 :: outsR al cur) ∨ (al = true ∧ x.2 = true ∧ x ∈ (bif al && y.2 then y :: keepR al cur else keepR al cur))
    cases hb : (al && y.2) with
    | true =>
      rw [Bool.and_eq_true] at hb
      rcases List.mem_cons.1 h with rfl | h
      · exact .inr ⟨hb.1, hb.2, by simp⟩
      · rcases IH h with q | ⟨q1, q2, q3⟩
        · exact .inl q
        · exact .inr ⟨q1, q2, by simp [q3]⟩
    | false =>
      rcases List.mem_cons.1 h with rfl | h
      · exact .inl (by simp)
      · rcases IH h with q | ⟨q1, q2, q3⟩
        · exact .inl (by simp [q])
        · exact .inr ⟨q1, q2, q3⟩
theorem load_new {h : Heap} {t : TypeId} {a v : V} {ob : Obj} (hcl : ∀ r, h.n ≤ r → h.get r = .dead) (hl : AM.load P h t a = some v) : AM.load P (h.new ob) t a = some v := by
  unfold AM.load at hl ⊢
  split at hl
  · rename_i r ver off
    have hr : ¬ h.n = r := fun e => by
      rw [hcl r (by omega)] at hl
      cases hl
    rw [Heap.get_new, if_neg hr]
    exact hl
  · exact hl
  · cases hl
theorem ld_new {o : Oper} (hf : isLd o.op = true) {tm : T V} {h h' : Heap} {ob : Obj} {v : V} (hcl : ∀ r, h.n ≤ r → h.get r = .dead) (hd : doOp P E ih tm h o = .val v h') : doOp P E ih tm (h.new ob) o = .val v (h.new ob) := by
  unfold isLd at hf
  split at hf
  · rename_i t x q
    have ho : ∀ h, operL P E.glob tm h o = operD o.op P E.glob tm h := fun h => by
      unfold operL
      split
      · rename_i t len ps q2; rw [q] at q2; cases q2
      · rfl
    unfold doOp at hd ⊢
    rw [ho, q, operD_load, o1_def] at hd ⊢
    cases hx : ev E.glob tm x with
    | none => rw [hx] at hd; cases hd
    | some x' =>
      rw [hx] at hd
      have := load_new (ob := ob) hcl (ofOpt_free hd)
      simp only [this]
      rfl
  · cases hf
theorem boxed_new {h h' : Heap} {e : TypeId} {z v : V} (hd : (match boxed h e z with
    | .val v h' => Outc.val v h'
    | .skip h' => .val undef h'
    | .call f args h' => orOf (callAny E ih true f args h')
    | .yield l args h' => orOf (ih (.yield l args h'))
    | .panic v h' => .panic v h'
    | _ => .stuck) = .val v h') : ∃ ob, h' = h.new ob := by
  unfold boxed at hd
  cases hb : (z.flat && !(Nat.beq (List.len z.cells) 0)) with
  | false => rw [hb] at hd; cases hd
  | true => rw [hb] at hd; cases hd; exact ⟨_, rfl⟩
theorem al_new {o : Oper} (hf : isAl o.op = true) {tm : T V} {h h' : Heap} {v : V} (hd : doOp P E ih tm h o = .val v h') : ∃ ob, h' = h.new ob := by
  unfold isAl at hf
  split at hf
  · rename_i t q
    have ho : operL P E.glob tm h o = oAlloc P h t := by
      unfold operL
      split
      · rename_i t len ps q2; rw [q] at q2; cases q2
      · unfold oper; rw [q]; rfl
    unfold doOp at hd
    rw [ho] at hd
    unfold oAlloc at hd
    cases hz : zero P t with
    | none => rw [hz] at hd; cases hd
    | some z =>
      rw [hz] at hd
      exact boxed_new hd
  · rename_i t x q
    have ho : operL P E.glob tm h o = oBox E.glob tm h t x := by
      unfold operL
      split
      · rename_i t len ps q2; rw [q] at q2; cases q2
      · unfold oper; rw [q]; rfl
    unfold doOp at hd
    rw [ho] at hd
    unfold oBox at hd
    cases hz : ev E.glob tm x with
    | none => rw [hz] at hd; cases hd
    | some z =>
      rw [hz] at hd
      exact boxed_new hd
  · cases hf

/-- Is each read ordered with each writing? -/
noncomputable def statD (P : Program) (E : Env) (l : List DOp) : Nat → List (Nat × Option Nat) → List (Nat × Nat) → CurR → Bool :=
  List.rec (motive := fun _ => Nat → List (Nat × Option Nat) → List (Nat × Nat) → CurR → Bool)
    (fun pb _ old _ => every (fun r => okS r (pb, none)) old)
    (fun d _ ihl pb past old cur => bif d.w then (bif every (fun r => okS r (pb, some d.i)) old then ihl d.b ((pb, some d.i) :: past) (List.app (outsR (isNil past && isAl d.o.op) cur) old) (keepR (isNil past && isAl d.o.op) cur) else false)
      else bif isPure E d.o.op || freeOp P d.o.op then ihl pb past old cur else (bif every (fun e => okS (d.i, d.b) e) past then ihl pb past old (((d.i, d.b), isLd d.o.op) :: cur) else false)) l

theorem dPut_some {o : Oper} {v : V} {fr fr1 : Fr} (k : Fr → DR) (h : fr.put o.dst v = some fr1) : dPut o v fr k = k fr1 := by
  unfold dPut
  rw [h]
theorem bif_and {a b : Bool} (h : (bif a then b else false) = true) : a = true ∧ b = true := by cases a <;> simp_all
theorem dTx_run {all : List Oper} (l : List Oper) : ∀ {fr fr2 : Fr} {h h2 : Heap} (i : Nat) (tbl : List Nat) (pb : Nat) (past : List (Nat × Option Nat)) (old : List (Nat × Nat)) (cur : CurR) (hs : List Hp) (rs : List Rc),
    statD P E (mkOps E all l i tbl) pb past old cur = true → dTx P E ih all l fr h = some (fr2, h2) → (∀ e, e ∈ hs → (e.pb, e.nx) ∈ past) → (∀ r, r ∈ rs → (∀ hq, ∃ hz, doOp P E ih r.tm hq r.o = .val r.v hz) ∨ (r.i, r.b) ∈ old ∨ (((r.i, r.b), isLd r.o.op) ∈ cur ∧ doOp P E ih r.tm h r.o = .val r.v h)) → CkP P E ih hs rs → (past = [] → ∀ r, h.n ≤ r → h.get r = .dead) →
    ∃ hs' rs', dRun P E ih all (mkOps E all l i tbl) fr h pb hs rs none = .done fr2 h2 hs' rs' none ∧ CkP P E ih hs' rs' := by
  induction l with
  | nil =>
    intro fr fr2 h h2 i tbl pb past old cur hs rs hst hx he hr hck hcl
    cases hx
    refine ⟨⟨pb, h, none⟩ :: hs, rs, rfl, fun r hrm e hem => ?_⟩
    rcases List.mem_cons.1 hem with rfl | hem
    · rcases hr r hrm with q | q | ⟨_, q⟩
      · exact .inr (.inr (q _))
      · have := (every_iff _ _).1 hst _ q
        unfold okS at this
        rw [Bool.or_eq_true] at this
        exact this.imp id .inl
      · exact .inr (.inr ⟨_, q⟩)
    · exact hck r hrm e hem
  | cons o l IH =>
    intro fr fr2 h h2 i tbl pb past old cur hs rs hst hx he hr hck hcl
    change (match dOne P E ih all o fr h with | some (fr', h') => dTx P E ih all l fr' h' | none => none) = some (fr2, h2) at hx
    let d : DOp := ⟨o, i, !(isRead E o.op), bitsOf tbl o.after.toList, looks all o⟩
    change (bif d.w then (bif every (fun r => okS r (pb, some d.i)) old then statD P E (mkOps E all l (Nat.succ i) (List.app tbl [d.b])) d.b ((pb, some d.i) :: past) (List.app (outsR (isNil past && isAl d.o.op) cur) old) (keepR (isNil past && isAl d.o.op) cur) else false)
      else bif isPure E d.o.op || freeOp P d.o.op then statD P E (mkOps E all l (Nat.succ i) (List.app tbl [d.b])) pb past old cur else (bif every (fun e => okS (d.i, d.b) e) past then statD P E (mkOps E all l (Nat.succ i) (List.app tbl [d.b])) pb past old (((d.i, d.b), isLd d.o.op) :: cur) else false)) = true at hst
    change ∃ hs' rs', dStep P E ih all d (dRun P E ih all (mkOps E all l (Nat.succ i) (List.app tbl [d.b]))) fr h pb hs rs none = .done fr2 h2 hs' rs' none ∧ CkP P E ih hs' rs'
    unfold dStep
    simp only [panAt, cond_false]
    unfold dOne at hx
    cases hrd : isRead E o.op with
    | false =>
      have hdw : d.w = true := by show (!(isRead E o.op)) = true; rw [hrd]; rfl
      rw [hdw] at hst
      simp only [cond_true] at hst
      obtain ⟨hst1, hst2⟩ := bif_and hst
      have hck2 : CkP P E ih (⟨pb, h, some d.i⟩ :: hs) rs := fun r hrm e hem => by
        rcases List.mem_cons.1 hem with rfl | hem
        · rcases hr r hrm with q | q | ⟨_, q⟩
          · exact .inr (.inr (q _))
          · have := (every_iff _ _).1 hst1 _ q
            unfold okS at this
            rw [Bool.or_eq_true] at this
            exact this.imp id .inl
          · exact .inr (.inr ⟨_, q⟩)
        · exact hck r hrm e hem
      have go : ∀ fr' h', dTx P E ih all l fr' h' = some (fr2, h2) → (isAl o.op = true → h' = h ∨ ∃ ob, h' = h.new ob) → ∃ hs' rs', dRun P E ih all (mkOps E all l (Nat.succ i) (List.app tbl [d.b])) fr' h' d.b (⟨pb, h, some d.i⟩ :: hs) rs none = .done fr2 h2 hs' rs' none ∧ CkP P E ih hs' rs' := fun fr' h' hx' hal =>
        IH (Nat.succ i) _ d.b _ _ _ _ _ hst2 hx' (fun e hem => by
          rcases List.mem_cons.1 hem with rfl | hem
          · simp
          · simp [he e hem]) (fun r hrm => by
          rw [List.app_eq, List.mem_append]
          rcases hr r hrm with q | q | ⟨q, qd⟩
          · exact .inl q
          · exact .inr (.inl (.inr q))
          · rcases outs_or (al := isNil past && isAl d.o.op) q with o1 | ⟨o1, o2, o3⟩
            · exact .inr (.inl (.inl o1))
            · rw [Bool.and_eq_true] at o1
              have hp : past = [] := by
                cases past with
                | nil => rfl
                | cons _ _ => cases o1.1
              refine .inr (.inr ⟨o3, ?_⟩)
              rcases hal o1.2 with rfl | ⟨ob, rfl⟩
              · exact qd
              · exact ld_new o2 (hcl hp) qd) hck2 (fun q => by cases q)
      cases hw : wanted all fr o with
      | none => rw [hw] at hx; cases hx
      | some t =>
        rw [hw] at hx
        cases t with
        | false =>
          simp only [cond_false, hdw, cond_true, noPan] at hx ⊢
          split at hx
          · rename_i a b hab
            split at hab
            · rename_i fr' hput
              cases hab
              rw [dPut_some _ hput]
              exact go _ _ hx (fun _ => .inl rfl)
            · cases hab
          · cases hx
        | true =>
          simp only [cond_true] at hx ⊢
          unfold dVal
          split at hx
          · rename_i a b hab
            split at hab
            · rename_i v h' hdo
              split at hab
              · rename_i fr' hput
                cases hab
                rw [hrd] at hx
                have hdo' : doOp P E ih fr.tm h d.o = .val v h' := hdo
                simp only [hdo', hdw, cond_true, noPan]
                rw [dPut_some _ hput]
                exact go _ _ hx (fun q => .inr (al_new q hdo))
              · cases hab
            · cases hab
          · cases hx
    | true =>
      have hdw : d.w = false := by show (!(isRead E o.op)) = false; rw [hrd]; rfl
      rw [hdw] at hst
      simp only [cond_false] at hst
      cases hw : wanted all fr o with
      | none => rw [hw] at hx; cases hx
      | some t =>
        rw [hw] at hx
        have hst' : ∃ cur', statD P E (mkOps E all l (Nat.succ i) (List.app tbl [d.b])) pb past old cur' = true ∧ (∀ x, x ∈ cur → x ∈ cur') ∧ ((isPure E o.op || freeOp P o.op) = false → ((d.i, d.b), isLd d.o.op) ∈ cur' ∧ every (fun e => okS (d.i, d.b) e) past = true) := by
          cases hp : (isPure E o.op || freeOp P o.op) with
          | true => exact ⟨cur, by rw [show (isPure E d.o.op || freeOp P d.o.op) = true from hp] at hst; exact hst, fun _ h => h, fun q => by cases q⟩
          | false =>
            rw [show (isPure E d.o.op || freeOp P d.o.op) = false from hp] at hst
            simp only [cond_false] at hst
            obtain ⟨q1, q2⟩ := bif_and hst
            exact ⟨((d.i, d.b), isLd d.o.op) :: cur, q2, fun x hx => by simp [hx], fun _ => ⟨by simp, q1⟩⟩
        obtain ⟨cur', hst2, hcur, hnew⟩ := hst'
        cases t with
        | false =>
          simp only [cond_false, hdw] at hx ⊢
          split at hx
          · rename_i a b hab
            split at hab
            · rename_i fr' hput
              cases hab
              rw [dPut_some _ hput]
              exact IH (Nat.succ i) _ pb past old cur' hs rs hst2 hx he (fun r hrm => (hr r hrm).imp id fun q => q.imp id fun ⟨q1, q2⟩ => ⟨hcur _ q1, q2⟩) hck hcl
            · cases hab
          · cases hx
        | true =>
          simp only [cond_true] at hx ⊢
          unfold dVal
          split at hx
          · rename_i a b hab
            split at hab
            · rename_i v h' hdo
              split at hab
              · rename_i fr' hput
                cases hab
                rw [hrd] at hx
                have hdo' : doOp P E ih fr.tm h d.o = .val v h' := hdo
                simp only [hdo', hdw, cond_false]
                rw [dPut_some _ hput]
                cases hp : isPure E o.op with
                | true =>
                  simp only [show isPure E d.o.op = true from hp, cond_true]
                  exact IH (Nat.succ i) _ pb past old cur' hs rs hst2 hx he (fun r hrm => (hr r hrm).imp id fun q => q.imp id fun ⟨q1, q2⟩ => ⟨hcur _ q1, q2⟩) hck hcl
                | false =>
                  simp only [show isPure E d.o.op = false from hp, cond_false]
                  have hh := doOp_read hrd hdo
                  subst hh
                  refine IH (Nat.succ i) _ pb past old cur' hs _ hst2 hx he (fun r hrm => ?_) (fun r hrm e hem => ?_) hcl
                  · rcases List.mem_cons.1 hrm with rfl | hrm
                    · cases hfr : freeOp P o.op with
                      | true => exact .inl fun hq => free_any hfr hdo hq
                      | false => exact .inr (.inr ⟨(hnew (by rw [hp, hfr]; rfl)).1, hdo⟩)
                    · exact (hr r hrm).imp id fun q => q.imp id fun ⟨q1, q2⟩ => ⟨hcur _ q1, q2⟩
                  · rcases List.mem_cons.1 hrm with rfl | hrm
                    · cases hfr : freeOp P o.op with
                      | true => exact .inr (.inr (free_any hfr hdo _))
                      | false =>
                        have := (every_iff _ _).1 (hnew (by rw [hp, hfr]; rfl)).2 _ (he e hem)
                        unfold okS at this
                        rw [Bool.or_eq_true] at this
                        exact this.imp id .inl
                    · exact hck r hrm e hem
              · cases hab
            · cases hab
          · cases hx

/-- Known calls: one of pure data, one that shares the heap. -/
noncomputable def knE (E : Env) (f : FuncId) (gs : List V) (g : V) : Env := { E with prim := fun f' gs' => open Classical in if f' = f ∧ gs' = gs then some g else E.prim f' gs' }
noncomputable def knI (f : FuncId) (args : List V) (h : Heap) (v : V) (h' : Heap) : Task → Res := fun t => open Classical in if t = .call f args h then .ret v h' else .none 0 none
theorem knE_ok {f : FuncId} {gs : List V} {g : V} (hP : PrimOk P E) (hc : PureOk P E.glob f gs g) : PrimOk P (knE E f gs g) := by
  intro f' gs' v hv
  unfold knE at hv
  simp only at hv
  split at hv
  · rename_i e
    cases hv
    obtain ⟨rfl, rfl⟩ := e
    exact hc
  · exact hP f' gs' v hv
theorem knI_ok {f : FuncId} {args : List V} {h h' : Heap} {v : V} (hP : PrimOk P E) (hc : ∀ {B : Ns} {w0 : World} {g : Gh} {w : World} (cs : List Frame) (us : Array Value), W B w0 g h w → GlobOk E.glob g.S → Rs' g us args → CallOk P B w0 g cs f us w (.ret v h')) : Snd P E (knI f args h v h') := by
  have hno : ∀ t, t ≠ .call f args h → knI f args h v h' t = .none 0 none := fun t ht => by unfold knI; rw [if_neg ht]
  refine ⟨hP, fun _ _ _ _ _ _ _ _ _ => ?_, fun _ _ _ _ _ _ _ _ _ => ?_, fun _ _ _ _ _ _ _ _ _ _ => ?_, fun {B w0 g h1 w} cs f1 args1 us hW hG hs => ?_, fun _ _ _ _ _ _ _ _ _ _ _ _ => ?_⟩
  · rw [hno _ (by simp)]; trivial
  · rw [hno _ (by simp)]; trivial
  · rw [hno _ (by simp)]; trivial
  · by_cases e : (Task.call f1 args1 h1) = .call f args h
    · cases e
      unfold knI
      rw [if_pos rfl]
      exact hc cs us hW hG hs
    · rw [hno _ e]; trivial
  · rw [hno _ (by simp)]; trivial
noncomputable def noI : Task → Res := fun _ => .none 0 none
theorem noI_ok (hP : PrimOk P E) : Snd P E noI := ⟨hP, fun _ _ _ _ _ _ _ _ _ => trivial, fun _ _ _ _ _ _ _ _ _ => trivial, fun _ _ _ _ _ _ _ _ _ _ => trivial, fun _ _ _ _ _ _ _ => trivial, fun _ _ _ _ _ _ _ _ _ _ _ _ => trivial⟩

theorem knE_self {f : FuncId} {gs : List V} {g : V} : (knE E f gs g).prim f gs = some g := by
  unfold knE
  simp
theorem knI_self {f : FuncId} {args : List V} {h h' : Heap} {v : V} : knI f args h v h' (.call f args h) = .ret v h' := by
  unfold knI
  rw [if_pos rfl]

theorem Le.trans {a b c : Fr} (h1 : Le a b) (h2 : Le b c) : Le a c :=
  ⟨h2.fn.trans h1.fn, h2.n.trans h1.n, h2.marks.trans h1.marks, h2.defers.trans h1.defers, h2.round.trans h1.round, h2.dk.trans h1.dk, h2.did.trans h1.did, fun i hi => by
    rcases h1.slot i (by rw [← h2.n]; exact hi) with e | e
    · exact .inl e
    · rcases h2.slot i hi with e' | e'
      · exact .inl (e.trans e')
      · exact .inr (e.trans e'), fun i hi => h1.out i (by rw [← h2.n]; exact hi)⟩
theorem Le.put {s' s s1' : Fr} {d : Option Tmp} {v : V} (hl : Le s' s) (hp : s'.put d v = some s1') : ∃ s1, s.put d v = some s1 ∧ Le s1' s1 := by
  cases d with
  | none =>
    change some s' = some s1' at hp
    cases hp
    exact ⟨s, rfl, hl⟩
  | some d =>
    cases hb : Nat.blt d s'.n with
    | false => rw [Fr.put_no hb] at hp; cases hp
    | true =>
      rw [Fr.put_st hb] at hp
      cases hp
      have hb' : Nat.blt d s.n = true := by rw [hl.n]; exact hb
      refine ⟨_, Fr.put_st hb', hl.fn, hl.n, hl.marks, hl.defers, hl.round, hl.dk, hl.did, fun i hi => ?_, fun i hi => ?_⟩
      · rw [Fr.at_st, Fr.at_st]
        split
        · exact .inr rfl
        · exact hl.slot i hi
      · have hi' : s.n ≤ i := hi
        have hd : d < s.n := by rw [Nat.blt_eq] at hb'; exact hb'
        rw [Fr.at_st, if_neg (by intro q; subst q; exact absurd hd (Nat.not_lt.2 hi'))]
        exact hl.out i hi'
/-- All slots that an operation looks at are known. -/
noncomputable def knownOp (all : List Oper) (s : Fr) (o : Oper) : Bool := every (fun t => Nat.blt t s.n && !(isLost (s.at' t))) (List.app (tmpsOf o.op.operands.toList) (guardSlot all o))
theorem knownOp_eq {all : List Oper} {S s : Fr} {o : Oper} (hl : Le S s) (hk : knownOp all S o = true) : (∀ G h, operL P G s.tm h o = operL P G S.tm h o) ∧ wanted all s o = wanted all S o := by
  have hk := (every_iff _ _).1 hk
  have hk' : ∀ t, t ∈ tmpsOf o.op.operands.toList ∨ t ∈ guardSlot all o → s.tm.get undef t = S.tm.get undef t := by
    intro t ht
    have := hk t (by rw [List.app_eq, List.mem_append]; exact ht)
    simp only [Bool.and_eq_true, Bool.not_eq_true', Nat.blt_eq] at this
    rcases hl.slot t (by rw [hl.n]; exact this.1) with e | e
    · have h2 := this.2
      rw [e] at h2; cases h2
    · exact e.symm
  exact ⟨fun G h => operL_congr h fun t ht => hk' t (.inl ht), wanted_congr fun t ht => hk' t (.inr ht)⟩
theorem dOne_le {all : List Oper} {o : Oper} {S s S1 : Fr} {h h1 : Heap} (hl : Le S s) (hk : knownOp all S o = true) (ho : dOne P E ih all o S h = some (S1, h1)) : ∃ s1, dOne P E ih all o s h = some (s1, h1) ∧ Le S1 s1 := by
  obtain ⟨e1, e2⟩ := knownOp_eq (P := P) hl hk
  have e3 : doOp P E ih s.tm h o = doOp P E ih S.tm h o := by
    unfold doOp
    rw [e1]
  unfold dOne at ho ⊢
  rw [e2, e3]
  cases hw : wanted all S o with
  | none => rw [hw] at ho; cases ho
  | some t =>
    rw [hw] at ho
    cases t with
    | false =>
      simp only at ho ⊢
      split at ho
      · rename_i S' hp
        cases ho
        obtain ⟨s1, hp1, hl1⟩ := hl.put hp
        rw [hp1]; exact ⟨s1, rfl, hl1⟩
      · cases ho
    | true =>
      simp only at ho ⊢
      split at ho
      · split at ho
        · rename_i S' hp
          cases ho
          obtain ⟨s1, hp1, hl1⟩ := hl.put hp
          rw [hp1]; exact ⟨s1, rfl, hl1⟩
        · cases ho
      · cases ho

/-- What is left of such a region, in the text's order. -/
def Dl (P : Program) (E : Env) (ih : Task → Res) (all l : List Oper) (S : Fr) (h : Heap) (K : Fr → Heap → Prop) : Prop := ∀ s, Le S s → ∃ s2 h2 S2, dTx P E ih all l s h = some (s2, h2) ∧ Le S2 s2 ∧ K S2 h2
theorem Dl.weak {all l : List Oper} {S S' : Fr} {h : Heap} (hl : Le S' S) (hw : Dl P E ih all l S' h K) : Dl P E ih all l S h K := fun s hs => hw s (hl.trans hs)

noncomputable def drawn (P : Program) (E : Env) (all : List Oper) : Bool :=
  P.follows .mixedOrders && (match drawInfo E all with
  | some l => statD P E l 0 [] [] []
  | none => false)
theorem drawn_some {all : List Oper} (h : drawn P E all = true) : P.follows .mixedOrders = true ∧ drawInfo E all = some (mkOps E all all 0 []) ∧ statD P E (mkOps E all all 0 []) 0 [] [] [] = true := by
  unfold drawn at h
  rw [Bool.and_eq_true] at h
  obtain ⟨h1, h⟩ := h
  refine ⟨h1, ?_⟩
  split at h
  · rename_i l hl
    have e : l = mkOps E all all 0 [] := by
      unfold drawInfo at hl
      obtain ⟨_, hl⟩ := bif_some hl rfl
      cases hl; rfl
    subst e
    exact ⟨hl, h⟩
  · cases h
theorem Wc.drawnG {id : Nat} {ops : Array Oper} {s : Fr} {h : Heap} {E' : Env} (hE : E'.glob = E.glob) (hS : Fine P E → Snd P E' ih) (hd : drawn P E' ops.toList = true) (hw : Dl P E' ih ops.toList (ops.toList.drop 0) s h K) : Wc P E (.region id ops true) s h K X N := by
  intro hF B w0 g0 g w a b k cs hD hg hW hG hf
  obtain ⟨h1, h2, h3⟩ := drawn_some hd
  obtain ⟨s2, hh2, S2, hx, hl, hk⟩ := hw s ⟨rfl, rfl, rfl, rfl, rfl, rfl, rfl, fun _ _ => .inr rfl, fun i hi => hf.slots.none i hi⟩
  obtain ⟨hs', rs', hr, hck⟩ := dTx_run ops.toList 0 [] 0 [] [] [] [] [] h3 hx (fun e he => by cases he) (fun r hr => by cases hr) (fun r hr => by cases hr) (fun _ r hr => (hW.out r hr).2)
  obtain ⟨g', a', w', q1, q2, q3, q4⟩ := draw_done (hS hF) (k := k) (cs := cs) (id := id) hW (by rw [hE]; exact hG.mono hg.ext.S) hf h1 h2 hr (.inr hck)
  exact ⟨.normal, S2, hh2, g', a', w', hg.trans q1, q2, hl.ok q3, q4, hk⟩
theorem Wc.drawn0 {id : Nat} {ops : Array Oper} {s : Fr} {h : Heap} (hd : AM.drawn P E ops.toList = true) (hw : Dl P E noI ops.toList (ops.toList.drop 0) s h K) : Wc P E (.region id ops true) s h K X N :=
  Wc.drawnG rfl (fun hF => noI_ok hF.prim) hd hw
theorem Wc.drawnP {id : Nat} {ops : Array Oper} {s : Fr} {h : Heap} (f : FuncId) (gs : List V) (g : V) (hc : Cp P E f gs g) (hd : AM.drawn P (knE E f gs g) ops.toList = true) (hw : Dl P (knE E f gs g) noI ops.toList (ops.toList.drop 0) s h K) : Wc P E (.region id ops true) s h K X N :=
  Wc.drawnG (E' := knE E f gs g) rfl (fun hF => noI_ok (knE_ok hF.prim (hc hF))) hd hw
theorem Wc.drawnS {id : Nat} {ops : Array Oper} {s : Fr} {h : Heap} (f : FuncId) (gs : List V) (g : V) (hc : Cp P E f gs g) (f1 : FuncId) (args : List V) (h1 : Heap) (v : V) (h2 : Heap) (hc1 : Came P E f1 args h1 v h2) (hd : AM.drawn P (knE E f gs g) ops.toList = true) (hw : Dl P (knE E f gs g) (knI f1 args h1 v h2) ops.toList (ops.toList.drop 0) s h K) : Wc P E (.region id ops true) s h K X N :=
  Wc.drawnG (E' := knE E f gs g) rfl (fun hF => knI_ok (knE_ok hF.prim (hc hF)) (fun cs us hW hG hs => hc1 hF cs us hW hG hs)) hd hw

theorem Wc.drawnT {id : Nat} {ops : Array Oper} {s : Fr} {h : Heap} (f1 : FuncId) (args : List V) (h1 : Heap) (v : V) (h2 : Heap) (hc1 : Came P E f1 args h1 v h2) (hd : AM.drawn P E ops.toList = true) (hw : Dl P E (knI f1 args h1 v h2) ops.toList (ops.toList.drop 0) s h K) : Wc P E (.region id ops true) s h K X N :=
  Wc.drawnG rfl (fun hF => knI_ok hF.prim (fun cs us hW hG hs => hc1 hF cs us hW hG hs)) hd hw
noncomputable def turnsAt (E : Env) (all : List Oper) (i : Nat) : Bool :=
  match List.at all i with
  | some o => !(isRead E o.op)
  | none => false

theorem Dl.done {all : List Oper} {S : Fr} {h : Heap} (j : Nat) (hj : Nat.ble (List.len all) j = true) (hk : K S h) : Dl P E ih all (all.drop j) S h K := by
  intro s hs
  rw [Nat.ble_eq, List.len_eq] at hj
  rw [List.drop_eq_nil_of_le hj]
  exact ⟨s, h, S, rfl, hs, hk⟩
theorem Dl.one {all l : List Oper} {o : Oper} {S S1 : Fr} {h h1 : Heap} (hk : knownOp all S o = true) (ho : dOne P E ih all o S h = some (S1, h1)) (hr : Dl P E ih all l S1 h1 K) : Dl P E ih all (o :: l) S h K := by
  intro s hs
  obtain ⟨s1, e1, hl1⟩ := dOne_le hs hk ho
  obtain ⟨s2, h2, S2, hx, hl2, hkk⟩ := hr s1 hl1
  refine ⟨s2, h2, S2, ?_, hl2, hkk⟩
  change (match dOne P E ih all o s h with | some (fr', h') => dTx P E ih all l fr' h' | none => none) = _
  rw [e1]; exact hx

/-- An operation that calls nothing. -/
noncomputable def litD (P : Program) (G : Nat → Option V) (tm : T V) (h : Heap) (o : Oper) : So :=
  match o.op with
  | .buildSlice _ _ _ => (match operL P G tm h o with
    | .val v h' => .val v h'
    | _ => .no)
  | _ => operS true P G tm h o
theorem litD_ok (G : Nat → Option V) (tm : T V) (h : Heap) (o : Oper) : So.ok (operL P G tm h o) (litD P G tm h o) := by
  by_cases hb : ∃ t len ps, o.op = .buildSlice t len ps
  · obtain ⟨t, len, ps, hb⟩ := hb
    unfold litD
    rw [hb]
    simp only
    cases operL P G tm h o with
    | val v h' => rfl
    | _ => trivial
  · have hb' : ∀ t len ps, o.op ≠ .buildSlice t len ps := fun t len ps e => hb ⟨t, len, ps, e⟩
    have e1 : litD P G tm h o = operS true P G tm h o := by
      unfold litD
      split
      · rename_i t len ps e; exact absurd e (hb' t len ps)
      · rfl
    have e2 : operL P G tm h o = operE true P G tm h o := by
      rw [operE_plain hb']
      unfold operL
      split
      · rename_i t len ps e; exact absurd e (hb' t len ps)
      · rfl
    rw [e1, e2]
    exact operS_ok (P := P) true G tm h o
noncomputable def putD (E : Env) (s : Fr) (o : Oper) (v : V) (h h' : Heap) (φ : List Prop) : Option (Fr × Heap × List Prop) :=
  match s.put o.dst v with
  | some s1 => some (s1, (bif isRead E o.op then h else h'), φ)
  | none => none
noncomputable def stepD (P : Program) (E : Env) (all : List Oper) (o : Oper) (s : Fr) (h : Heap) : Option (Fr × Heap × List Prop) :=
  bif knownOp all s o then
  match wanted all s o with
  | none => none
  | some t => bif t then
      (match litD P E.glob s.tm h o with
      | .val v h1 => putD E s o v h h1 []
      | .obl v h1 φ => putD E s o v h h1 [φ]
      | .skip h1 => putD E s o undef h h1 []
      | .no => none)
    else (match s.put o.dst undef with
      | some s1 => some (s1, h, [])
      | none => none)
  else none
noncomputable def runD (P : Program) (E : Env) (all : List Oper) (n : Nat) : List Oper → Fr → Heap → Option (Fr × Heap × List Prop) :=
  Nat.rec (motive := fun _ => List Oper → Fr → Heap → Option (Fr × Heap × List Prop)) (fun _ s h => some (s, h, []))
    (fun _ ih l s h => match l with
      | [] => none
      | o :: l => match stepD P E all o s h with
        | none => none
        | some (s1, h1, φ) => match ih l s1 h1 with
          | none => none
          | some (s2, h2, φs) => some (s2, h2, φ ++ φs)) n
theorem bif_some' {α : Type} {b : Bool} {x : Option α} {y : α} (h : (bif b then x else none) = some y) : b = true ∧ x = some y := by cases b <;> simp_all
theorem putD_some {s : Fr} {o : Oper} {v : V} {h h' : Heap} {φ : List Prop} {r : Fr × Heap × List Prop} (hp : putD E s o v h h' φ = some r) : ∃ s1, s.put o.dst v = some s1 ∧ r = (s1, (bif isRead E o.op then h else h'), φ) := by
  unfold putD at hp
  split at hp
  · rename_i s1 e; cases hp; exact ⟨s1, e, rfl⟩
  · cases hp
theorem stepD_ok {all : List Oper} {o : Oper} {s s1 : Fr} {h h1 : Heap} {φ : List Prop} (hs : stepD P E all o s h = some (s1, h1, φ)) (hφ : Alls φ) : knownOp all s o = true ∧ SameB s s1 ∧ dOne P E ih all o s h = some (s1, h1) := by
  unfold stepD at hs
  obtain ⟨hkn, hs⟩ := bif_some' hs
  refine ⟨hkn, ?_⟩
  unfold dOne
  cases hw : wanted all s o with
  | none => rw [hw] at hs; cases hs
  | some t =>
    rw [hw] at hs
    cases t with
    | false =>
      simp only [cond_false] at hs ⊢
      split at hs
      · rename_i s1' hp; cases hs; exact ⟨.put hp, rfl⟩
      · cases hs
    | true =>
      simp only [cond_true] at hs ⊢
      have hok := litD_ok (P := P) E.glob s.tm h o
      have fin : ∀ v h', operL P E.glob s.tm h o = .val v h' ∨ (operL P E.glob s.tm h o = .skip h' ∧ v = undef) → doOp P E ih s.tm h o = .val v h' := fun v h' q => by
        unfold doOp
        rcases q with q | ⟨q, rfl⟩ <;> rw [q]
      cases ho : litD P E.glob s.tm h o with
      | val v h' =>
        rw [ho] at hs hok
        obtain ⟨s1', hp, e⟩ := putD_some hs
        cases e
        rw [fin v h' (.inl hok)]
        simp only [hp]
        exact ⟨.put hp, trivial⟩
      | obl v h' ψ =>
        rw [ho] at hs hok
        obtain ⟨s1', hp, e⟩ := putD_some hs
        cases e
        rw [fin v h' (.inl (hok hφ.1))]
        simp only [hp]
        exact ⟨.put hp, trivial⟩
      | skip h' =>
        rw [ho] at hs hok
        obtain ⟨s1', hp, e⟩ := putD_some hs
        cases e
        rw [fin undef h' (.inr ⟨hok, rfl⟩)]
        simp only [hp]
        exact ⟨.put hp, trivial⟩
      | no => rw [ho] at hs; cases hs
theorem runD_ok {all : List Oper} (n : Nat) : ∀ {l : List Oper} {s s2 : Fr} {h h2 : Heap} {φs : List Prop}, runD P E all n l s h = some (s2, h2, φs) → Alls φs → SameB s s2 ∧ ∀ K, Dl P E ih all (l.drop n) s2 h2 K → Dl P E ih all l s h K := by
  induction n with
  | zero =>
    intro l s s2 h h2 φs hr _
    change some (s, h, []) = some (s2, h2, φs) at hr
    cases hr
    exact ⟨.refl _, fun K hk => hk⟩
  | succ n IH =>
    intro l s s2 h h2 φs hr hφ
    cases l with
    | nil => cases hr
    | cons o l =>
      change (match stepD P E all o s h with
        | none => none
        | some (s1, h1, φ) => match runD P E all n l s1 h1 with
          | none => none
          | some (s2, h2, φs) => some (s2, h2, φ ++ φs)) = some (s2, h2, φs) at hr
      cases hs : stepD P E all o s h with
      | none => rw [hs] at hr; cases hr
      | some p =>
        obtain ⟨s1, h1, φ⟩ := p
        rw [hs] at hr
        simp only at hr
        cases hq : runD P E all n l s1 h1 with
        | none => rw [hq] at hr; cases hr
        | some q =>
          obtain ⟨s2', h2', φs'⟩ := q
          rw [hq] at hr
          cases hr
          obtain ⟨a1, a2⟩ := Alls.app hφ
          obtain ⟨b1, b2, b3⟩ := stepD_ok (ih := ih) hs a1
          obtain ⟨c1, c2⟩ := IH hq a2
          exact ⟨b2.trans c1, fun K hk => Dl.one b1 b3 (c2 K hk)⟩
/-- Some of its operations. -/
theorem Dl.batch {all : List Oper} {b : Fr} {L : List (Nat × V)} {h : Heap} (i j : Nat) (ks : List Nat) (L' : List (Nat × V)) (h' : Heap) (φs : List Prop) (hb : sumB ks (runD P E all (j - i) (all.drop i) (b.on L) h) = some (L', h', φs)) (hij : Nat.ble i j = true) (ho : Alls φs) (hk : Dl P E ih all (all.drop j) (b.on L') h' K) : Dl P E ih all (all.drop i) (b.on L) h K := by
  obtain ⟨s', hr, hL⟩ := sumB_some hb
  rw [Nat.ble_eq] at hij
  obtain ⟨h1, h2⟩ := runD_ok (ih := ih) (j - i) hr ho
  refine h2 K ?_
  rw [List.drop_drop, show i + (j - i) = j by omega]
  exact hk.weak (((SameB.on b L).trans h1).keep hL)

/-- A load among them. -/
noncomputable def loadD (E : Env) (all : List Oper) (i : Nat) (s : Fr) : Option (TypeId × V × Option Tmp) :=
  match List.at all i with
  | none => none
  | some o => bif knownOp all s o then (match wanted all s o with
    | some true => (match o.op with
      | .load t x => (match ev E.glob s.tm x with
        | some a => some (t, a, o.dst)
        | none => none)
      | _ => none)
    | _ => none) else none
theorem Dl.load {all : List Oper} {b : Fr} {L : List (Nat × V)} {h : Heap} {t : TypeId} {a : V} {d : Option Tmp} (i : Nat) (v : V) (ks : List Nat) (L' : List (Nat × V)) (ho : loadD E all i (b.on L) = some (t, a, d)) (hv : AM.load P h t a = some v) (hp : sumP ks ((b.on L).put d v) = some L') (hk : Dl P E ih all (all.drop (i + 1)) (b.on L') h K) : Dl P E ih all (all.drop i) (b.on L) h K := by
  unfold loadD at ho
  rw [List.at_eq] at ho
  cases hoa : all[i]? with
  | none => rw [hoa] at ho; cases ho
  | some o =>
    rw [hoa] at ho
    simp only at ho
    obtain ⟨hkn, ho⟩ := bif_some' ho
    split at ho
    · rename_i hw
      split at ho
      · rename_i t' x hop
        split at ho
        · rename_i a' hev
          cases ho
          obtain ⟨s1, hp1, hL⟩ := sumP_some hp
          obtain ⟨hi, e⟩ := List.getElem?_eq_some_iff.1 hoa
          rw [List.drop_eq_getElem_cons hi, e]
          refine Dl.one (S1 := s1) (h1 := h) hkn ?_ (hk.weak (((SameB.on b L).trans (.put hp1)).keep hL))
          have e1 : operL P E.glob (b.on L).tm h o = .val v h := by
            have e2 : operL P E.glob (b.on L).tm h o = oper P E.glob (b.on L).tm h o := by
              unfold operL
              rw [hop]
            rw [e2]
            unfold oper
            rw [hop, operD_load, o1_def, hev]
            simp only [hv]
            rfl
          unfold dOne doOp
          rw [hw, e1]
          simp only [hp1]
          cases isRead E o.op <;> rfl
        · cases ho
      · cases ho
    · cases ho
/-- A call among them. -/
noncomputable def callD (P : Program) (E : Env) (all : List Oper) (i : Nat) (s : Fr) (h : Heap) : Option (FuncId × List V × Heap × Option Tmp) :=
  match List.at all i with
  | none => none
  | some o => bif knownOp all s o then (match wanted all s o with
    | some true => (match operL P E.glob s.tm h o with
      | .call f args h1 => some (f, args, h1, o.dst)
      | _ => none)
    | _ => none) else none
theorem callD_some {all : List Oper} {i : Nat} {s : Fr} {h h1 : Heap} {f : FuncId} {args : List V} {d : Option Tmp} (hc : callD P E all i s h = some (f, args, h1, d)) : ∃ o, all.drop i = o :: all.drop (i + 1) ∧ knownOp all s o = true ∧ wanted all s o = some true ∧ operL P E.glob s.tm h o = .call f args h1 ∧ o.dst = d := by
  unfold callD at hc
  rw [List.at_eq] at hc
  cases ho : all[i]? with
  | none => rw [ho] at hc; cases hc
  | some o =>
    rw [ho] at hc
    simp only at hc
    obtain ⟨hk, hc⟩ := bif_some' hc
    split at hc
    · rename_i hw
      split at hc
      · rename_i f' a' h' hr
        cases hc
        obtain ⟨hi, e⟩ := List.getElem?_eq_some_iff.1 ho
        exact ⟨o, by rw [List.drop_eq_getElem_cons hi, e], hk, hw, hr, rfl⟩
      · cases hc
    · cases hc
theorem Dl.callP {all : List Oper} {b : Fr} {L : List (Nat × V)} {h h1 : Heap} {f : FuncId} {gs : List V} {g v : V} {d : Option Tmp} (i : Nat) (ks : List Nat) (L' : List (Nat × V)) (ho : callD P E all i (b.on L) h = some (f, gs, h1, d)) (hh : h1 = h) (hs : E.shared f = false) (hg : groundL (ground 3) gs = true) (hp : E.prim f gs = some g) (hv : still g = v) (hput : sumP ks ((b.on L).put d v) = some L') (hk : Dl P E ih all (all.drop (i + 1)) (b.on L') h K) : Dl P E ih all (all.drop i) (b.on L) h K := by
  obtain ⟨o, e, h1', h2, h3, h4⟩ := callD_some ho
  obtain ⟨s1, hp1, hL⟩ := sumP_some hput
  subst hh hv h4
  rw [e]
  refine Dl.one (S1 := s1) (h1 := h1) h1' ?_ (hk.weak (((SameB.on b L).trans (.put hp1)).keep hL))
  unfold dOne doOp
  rw [h2, h3]
  have e5 : callAny E ih true f gs h1 = .ret (still g) h1 := by
    unfold callAny
    rw [hs]
    change callStill E ih f gs h1 = _
    unfold callStill
    rw [hg]
    simp only [cond_true, hp]
    rfl
  simp only [e5, orOf, hp1]
  cases isRead E o.op <;> rfl
theorem Dl.callS {all : List Oper} {b : Fr} {L : List (Nat × V)} {h h1 h2 : Heap} {f : FuncId} {args : List V} {v : V} {d : Option Tmp} (i : Nat) (ks : List Nat) (L' : List (Nat × V)) (ho : callD P E all i (b.on L) h = some (f, args, h1, d)) (hs : E.shared f = true) (hpr : E.pubRet f = false) (hw : turnsAt E all i = true) (hi : ih (.call f args h1) = .ret v h2) (hput : sumP ks ((b.on L).put d v) = some L') (hk : Dl P E ih all (all.drop (i + 1)) (b.on L') h2 K) : Dl P E ih all (all.drop i) (b.on L) h K := by
  obtain ⟨o, e, h1', hw', h3, h4⟩ := callD_some ho
  obtain ⟨s1, hp1, hL⟩ := sumP_some hput
  subst h4
  have hr : isRead E o.op = false := by
    have : (all.drop i)[0]? = some o := by rw [e]; rfl
    rw [List.getElem?_drop] at this
    have : all[i]? = some o := by simpa using this
    unfold turnsAt at hw
    rw [List.at_eq, this] at hw
    simpa using hw
  rw [e]
  refine Dl.one (S1 := s1) (h1 := h2) h1' ?_ (hk.weak (((SameB.on b L).trans (.put hp1)).keep hL))
  unfold dOne doOp
  rw [hw', h3]
  have e5 : callAny E ih true f args h1 = .ret v h2 := by
    unfold callAny
    rw [hs]
    change callShared E ih f args h1 = _
    unfold callShared
    rw [hpr]
    exact hi
  simp only [e5, orOf, hp1, hr, cond_false]

end Go.AM

