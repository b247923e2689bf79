/-
  ROWS OF PLAIN DATA OVER UNKNOWN CONTENTS: handed over whole; read at a place.
-/
import Derived.Test.YtmgoingbogepoaaDoorAmSyArg
namespace Go.AM
open Go.RowKit

variable {P : Program} {E : Env}

theorem pubL_map {α : Type} {g : Heap → V → Option (V × Heap)} {f : α → V} (hf : ∀ a h, g h (f a) = some (f a, h)) (l : List α) (h : Heap) : pubL g (l.map f) h = some (l.map f, h) := by
  induction l with
  | nil => rfl
  | cons a l IH =>
    change (match g h (f a) with
      | none => none
      | some (v', h1) => match pubL g (l.map f) h1 with
        | none => none
        | some (l', h2) => some (v' :: l', h2)) = _
    rw [hf]
    simp only [IH, List.map_cons]
theorem pub_text (seen : List Nat) (a : List UInt8) (h : Heap) : pub seen depth h (.str a) = some (.str a, h) := rfl
theorem retAll_row {α : Type} {f : α → V} (hf : ∀ seen a h, pub seen depth h (f a) = some (f a, h)) {h : Heap} {r ver n ty sz pb : Nat} {cap : Option Nat} {l : List α} {es : List V} (hg : h.get r = .row ver ty sz pb cap es) (he : es = l.map f) (hn : n = l.length) : retAll h (.sl r ver 0 n none) = some (.fsl ty sz pb (l.map f) cap) := by
  subst he hn
  have e : retV h [] (.sl r ver 0 l.length none) = some (.fsl ty sz pb (l.map f) cap, h, [r]) := by
    change (match h.get r with
      | .row ver' ty sz _ cap es =>
        bif Nat.beq ver ver' && Nat.beq 0 0 && Nat.beq l.length (List.len es) && noCap none && !(memN r []) then
          match pubL (pub [r] depth) es h with
          | some (es', h1) => match h1.get r with
            | .row _ _ _ pb _ _ => some (V.fsl ty sz pb es' cap, h1, [r])
            | _ => none
          | none => none
        else match pub [] depth h (.sl r ver 0 l.length none) with
          | some (v', h') => some (v', h', [])
          | none => none
      | _ => none) = _
    rw [hg]
    simp only [Nat.beq_refl, List.len_eq, List.length_map]
    rw [pubL_map (hf [r])]
    simp only [hg]
    rfl
  change (match retV h [] (.sl r ver 0 l.length none) with
    | some (v', _) => some v'
    | none => none) = _
  rw [e]
/-- A row's element. -/
theorem load_at {α : Type} {f : α → V} (hc : ∀ a, (f a).cells = [f a]) {h : Heap} {t ty r ver i k pub : Nat} {cap : Option Nat} {l : List α} (d : α) (ha : aggOf P t = some false) (hs : size P t = 1) (hr : h.get r = .row ver ty 1 pub cap (l.map f)) (he : i = k * 1) (hk : k < l.length) : load P h t (.ptr r ver i) = some (f (l.getD k d)) := by
  subst he
  rw [Nat.mul_one]
  refine load_one ha hs hr ?_ (hc _)
  rw [List.getElem?_map, List.getElem?_eq_getElem hk, List.getD_eq_getElem?_getD, List.getElem?_eq_getElem hk]; rfl
theorem load_gat {α : Type} {f : α → V} (hc : ∀ a, (f a).cells = [f a]) {h : Heap} {t i k : Nat} {l : List α} (d : α) (ha : aggOf P t = some false) (hs : size P t = 1) (he : i = k * 1) (hk : k < l.length) : load P h t (.gptr 1 (l.map f) i) = some (f (l.getD k d)) := by
  subst he
  rw [Nat.mul_one]
  refine load_gone ha hs ?_ (hc _)
  rw [List.getElem?_map, List.getElem?_eq_getElem hk, List.getD_eq_getElem?_getD, List.getElem?_eq_getElem hk]; rfl

/-- A REGION THAT DRAWS ITS ORDER, of which no operation turns the heap. -/
def notLit (o : Oper) : Bool :=
  match o.op with
  | .buildSlice _ _ _ => false
  | _ => true
noncomputable def drawnOk (E : Env) (all : List Oper) : Bool :=
  (match drawInfo E all with
  | some l => noWriters l
  | none => false) && every (fun o => !(isPure E o.op) && notLit o) all

theorem operL_plain {lit : Bool} {G : Nat → Option V} {tm : T V} {h : Heap} {o : Oper} (hb : notLit o = true) : operL P G tm h o = operE lit P G tm h o := by
  have hb' : ∀ t len ps, o.op ≠ .buildSlice t len ps := fun t len ps e => by
    unfold notLit at hb
    rw [e] at hb
    cases hb
  rw [operE_plain hb']
  unfold operL
  split
  · rename_i t len ps e; exact absurd e (hb' t len ps)
  · rfl
theorem dPut_some {o : Oper} {v : V} {fr fr1 : Fr} (k : Fr → DR) (h : fr.put o.dst v = some fr1) : dPut o v fr k = k fr1 := by
  unfold dPut
  rw [h]
theorem drawn_run {all : List Oper} {ihr : Task → Res} (l : List Oper) : ∀ {fr fr2 : Fr} {h h2 : Heap} (i : Nat) (tbl : List Nat), (∀ o, o ∈ l → (!(isPure E o.op) && notLit o) = true) → noWriters (mkOps E all l i tbl) = true → runOps P E ihr all l fr h = .code .normal fr2 h2 →
    h2 = h ∧ ∀ (ihr' : Task → Res) pb hs rs, ∃ hs' rs', dRun P E ihr' all (mkOps E all l i tbl) fr h pb hs rs none = .done fr2 h hs' rs' none := by
  induction l with
  | nil =>
    intro fr fr2 h h2 i tbl _ _ hr
    cases hr
    exact ⟨rfl, fun ihr' pb hs rs => ⟨_, _, rfl⟩⟩
  | cons o l IH =>
    intro fr fr2 h h2 i tbl hp hn hr
    have hn' := (every_iff _ _).1 hn
    have hn2 : noWriters (mkOps E all l (Nat.succ i) (List.app tbl [bitsOf tbl o.after.toList])) = true := (every_iff _ _).2 fun d hd => hn' d (List.mem_cons_of_mem _ hd)
    have hrd : isRead E o.op = true := by
      have := hn' ⟨o, i, !(isRead E o.op), bitsOf tbl o.after.toList, looks all o⟩ List.mem_cons_self
      simpa only [Bool.not_not] using this
    have hpo := hp o List.mem_cons_self
    simp only [Bool.and_eq_true, Bool.not_eq_true'] at hpo
    have hp2 : ∀ o, o ∈ l → (!(isPure E o.op) && notLit o) = true := fun o ho => hp o (List.mem_cons_of_mem _ ho)
    have go : ∀ v fr1, fr.put o.dst v = some fr1 → (wanted all fr o = some true ∧ operL P E.glob fr.tm h o = .val v h ∨ wanted all fr o = some false ∧ v = undef) → runOps P E ihr all l fr1 h = .code .normal fr2 h2 →
        h2 = h ∧ ∀ (ihr' : Task → Res) pb hs rs, ∃ hs' rs', dRun P E ihr' all (mkOps E all (o :: l) i tbl) fr h pb hs rs none = .done fr2 h hs' rs' none := by
      intro v fr1 hput hc hr1
      obtain ⟨c1, c2⟩ := IH (Nat.succ i) _ hp2 hn2 hr1
      refine ⟨c1, fun ihr' pb hs rs => ?_⟩
      have hd : ∀ ih, ∃ rs', dStep P E ihr' all ⟨o, i, !(isRead E o.op), bitsOf tbl o.after.toList, looks all o⟩ ih fr h pb hs rs none = ih fr1 h pb hs rs' none := by
        intro ih
        rcases hc with ⟨hw, ho⟩ | ⟨hw, rfl⟩
        · have hdo : doOp P E ihr' fr.tm h o = .val v h := by
            unfold doOp
            rw [ho]
          refine ⟨bif isPure E o.op then rs else ⟨o, i, bitsOf tbl o.after.toList, fr.tm, v⟩ :: rs, ?_⟩
          unfold dStep
          simp only [panAt, cond_false, hw, cond_true]
          unfold dVal
          simp only [hdo, hrd, Bool.not_true, cond_false]
          exact dPut_some _ hput
        · refine ⟨rs, ?_⟩
          unfold dStep
          simp only [panAt, cond_false, hw, hrd, Bool.not_true]
          exact dPut_some _ hput
      obtain ⟨rs', e⟩ := hd (dRun P E ihr' all (mkOps E all l (Nat.succ i) (List.app tbl [bitsOf tbl o.after.toList])))
      obtain ⟨hs', rs'', e'⟩ := c2 ihr' pb hs rs'
      exact ⟨hs', rs'', e.trans e'⟩
    change runOp P E ihr all o (runOps P E ihr all l) fr h = .code .normal fr2 h2 at hr
    unfold runOp at hr
    cases hw : wanted all fr o with
    | none => rw [hw] at hr; cases hr
    | some t =>
      rw [hw] at hr
      cases t with
      | false =>
        change goOn o fr (runOps P E ihr all l) undef h = .code .normal fr2 h2 at hr
        unfold goOn at hr
        cases hput : fr.put o.dst undef with
        | none => rw [hput] at hr; cases hr
        | some fr1 => rw [hput] at hr; exact go undef fr1 hput (.inr ⟨hw, rfl⟩) hr
      | true =>
        change afterOp E ihr false o fr (runOps P E ihr all l) _ (operE (E.lit fr.fn) P E.glob fr.tm h o) = .code .normal fr2 h2 at hr
        rw [← operL_plain hpo.2] at hr
        rcases read_same hrd (by rw [hpo.1]; decide) P E.glob fr.tm h with q | ⟨v, q⟩
        · rw [q] at hr; cases hr
        · rw [q] at hr
          change goOn o fr (runOps P E ihr all l) v h = .code .normal fr2 h2 at hr
          unfold goOn at hr
          cases hput : fr.put o.dst v with
          | none => rw [hput] at hr; cases hr
          | some fr1 => rw [hput] at hr; exact go v fr1 hput (.inl ⟨hw, q⟩) hr
theorem Wc.drawn {K : Fr → Heap → Prop} {X : Ex → Fr → Heap → Prop} {id : Nat} {ops : Array Oper} {s : Fr} {h : Heap} (hm : P.follows .mixedOrders = true) (hd : drawnOk E ops.toList = true) (hw : Wc P E (.region id ops false) s h K (fun _ _ _ => False)) : Wc P E (.region id ops true) s h K X := by
  intro fr hs
  obtain ⟨e, fr1, h1, s1, ⟨N, hr⟩, hs1, hq⟩ := hw fr hs
  cases e with
  | normal =>
    unfold drawnOk at hd
    simp only [Bool.and_eq_true] at hd
    obtain ⟨hd, hp⟩ := hd
    have hl : ∃ l, drawInfo E ops.toList = some l ∧ noWriters l = true ∧ l = mkOps E ops.toList ops.toList 0 [] := by
      split at hd
      · rename_i l e
        refine ⟨l, e, hd, ?_⟩
        unfold drawInfo at e
        cases hc : (every edgesOk (mkOps E ops.toList ops.toList 0 []) && pairsOk (mkOps E ops.toList ops.toList 0 [])) with
        | false => rw [hc] at e; cases e
        | true => rw [hc] at e; cases e; rfl
      · cases hd
    obtain ⟨l, e1, e2, e3⟩ := hl
    rw [e3] at e2
    have hN := hr (N + 1) (by omega)
    change runOps P E (run P E N) ops.toList ops.toList fr h = .code .normal fr1 h1 at hN
    obtain ⟨rfl, c2⟩ := drawn_run ops.toList 0 [] ((every_iff _ _).1 hp) e2 hN
    refine ⟨.normal, fr1, _, s1, .of_step ⟨0, fun n _ => ?_⟩, hs1, hq⟩
    obtain ⟨hs', rs', e⟩ := c2 (run P E n) 0 [] []
    change sDraw P E (run P E n) ops.toList fr h1 = _
    unfold sDraw
    rw [hm]
    simp only [cond_true, e1]
    rw [e3, e]
    unfold endDraw
    simp only [e2, Bool.true_or, cond_true]
  | _ => exact (show False from hq).elim

/-- A loop's round, and the loop again. -/
theorem Wc.unroll {K : Fr → Heap → Prop} {X : Ex → Fr → Heap → Prop} {b : Code} {s : Fr} {h : Heap} (hb : Wc P E b s h (fun s h => Wc P E (.loop b) s h K X) X) : Wc P E (.loop b) s h K X := by
  intro fr hs
  obtain ⟨e, fr1, h1, s1, hr, hs1, hq⟩ := hb fr hs
  cases e with
  | normal =>
    obtain ⟨e2, fr2, h2, s2, hr2, hs2, hq2⟩ := hq fr1 hs1
    exact ⟨e2, fr2, h2, s2, hr.loop hr2, hs2, hq2⟩
  | exit _ => exact ⟨_, fr1, h1, s1, hr.loopOut (by simp), hs1, hq⟩
  | goto _ => exact ⟨_, fr1, h1, s1, hr.loopOut (by simp), hs1, hq⟩
  | ret => exact ⟨_, fr1, h1, s1, hr.loopOut (by simp), hs1, hq⟩
  | panic _ => exact ⟨_, fr1, h1, s1, hr.loopOut (by simp), hs1, hq⟩


end Go.AM
