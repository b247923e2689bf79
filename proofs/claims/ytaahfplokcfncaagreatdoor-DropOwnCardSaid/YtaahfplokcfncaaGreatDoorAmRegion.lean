/-
  A region that does not draw its order.
-/
import Derived.Test.YtaahfplokcfncaaGreatDoorAmLit
namespace Go.AM
open Go.RowKit

variable {P : Program} {E : Env} {ih : Task → Res} {B : Nat} {w0 : World}

theorem doDefer_eq {o : Oper} {fr : Fr} {next : Fr → Heap → Res} {f : FuncId} {args : List V} {h : Heap} : (fr.round = none ∧ fr.marks = [] ∧ doDefer o fr next f args h = goOn o { fr with defers := (f, args) :: fr.defers } next undef h) ∨ doDefer o fr next f args h = .none fr.fn (some o) := by
  obtain ⟨fn, n, tm, marks, defers, round, dk, did⟩ := fr
  cases round with
  | some _ => exact .inr rfl
  | none =>
    cases marks with
    | nil => exact .inl ⟨rfl, rfl, rfl⟩
    | cons _ _ => exact .inr rfl

theorem apply_defer {b : Frame} {a : Act} {k : List Item} {cs : List Frame} {w w' : World} {ops : Array Oper} {i : Nat} {rest : List Nat} {o : Oper} {d : Deferred} (ho : ops[i]? = some o) (hw : Region.wanted o (yielded ops a.tmps) = true)
    (hr : (o.semAt b.roundOf a.eval).run P w = .ok (.defer d) w') : Go.step P (lone (b.atR a (.inRegion ops (i :: rest) :: k)) cs w) = .next (lone (b.atR { a.put o.dst Go.undef with defers := d :: a.defers } (.inRegion ops rest :: k)) cs w') := by
  have hfin : ({ b.atR a (.inRegion ops (i :: rest) :: k) with defers := d :: a.defers } : Frame).finish Go.undef = b.atR { a.put o.dst Go.undef with defers := d :: a.defers } (.inRegion ops rest :: k) := by
    have := Frame.finish_atR (b := b) (a := { a with defers := d :: a.defers }) (ops := ops) (i := i) (rest := rest) (k := k) (v := Go.undef)
    have e : ({ b.atR a (.inRegion ops (i :: rest) :: k) with defers := d :: a.defers } : Frame) = b.atR { a with defers := d :: a.defers } (.inRegion ops (i :: rest) :: k) := rfl
    rw [e, this, ho]
    cases hd : o.dst <;> simp [Act.put, hd]
  refine step_lone_go ?_
  rw [stepGR_op ho hw, ← hfin]; simp [stepG.apply, hr, Frame.atR]

theorem operL_defer {c : Call} {o : Oper} (hc : o.op = .defer c) (G : Nat → Option V) (tm : T V) (h : Heap) : operL P G tm h o = oDefer G tm h c := by
  unfold operL; rw [hc]; exact oper_defer hc
theorem operE_defer {c : Call} {o : Oper} (hc : o.op = .defer c) (lit : Bool) (G : Nat → Option V) (tm : T V) (h : Heap) : operE lit P G tm h o = oDefer G tm h c := by
  cases lit with
  | false => exact oper_defer hc
  | true =>
    change orLit (operL P G tm h o) (oper P G tm h o) = _
    rw [operL_defer hc, oper_defer hc]
    unfold orLit
    split <;> rfl
theorem operE_good {g : Gh} {h : Heap} {w : World} {G : Nat → Option V} {n : Nat} {tm : T V} {a : Act} (lit : Bool) (hW : W B w0 g h w) (hs : Slots g n tm a.tmps) (hG : GlobOk G g.S) (o : Oper) : Good P B w0 g ((execOp a.eval o).run P w) (operE lit P G tm h o) := by
  cases lit with
  | false => exact oper_good hW hs hG o
  | true =>
    change Good P B w0 g _ (orLit (operL P G tm h o) (oper P G tm h o))
    unfold orLit
    split
    · exact oper_good hW hs hG o
    · exact operL_good hW hs hG o

/-- An operation that is carried out, then the rest. -/
theorem afterOp_ok (hI : Snd P E ih) {g : Gh} {h : Heap} {w : World} {b : Frame} {k : List Item} {cs : List Frame} {fr : Fr} {a : Act} {o : Oper} {ops : Array Oper} {i : Nat} {rest : List Nat} {next : Fr → Heap → Res}
    (ho : ops[i]? = some o) (hw : Region.wanted o (yielded ops a.tmps) = true) (hW : W B w0 g h w) (hG : GlobOk E.glob g.S) (hf : FrOk g b fr a)
    (hn : ∀ g' h' w' fr' a', Grown B g g' → W B w0 g' h' w' → GlobOk E.glob g'.S → FrOk g' b fr' a' → CodeOk P B w0 g' (lone (b.atR a' (.inRegion ops rest :: k)) cs w') b k cs (next fr' h')) :
    CodeOk P B w0 g (lone (b.atR a (.inRegion ops (i :: rest) :: k)) cs w) b k cs (afterOp E ih false o fr next (fun v h => .code (.panic v) fr h) (operE (E.lit fr.fn) P E.glob fr.tm h o)) := by
  generalize E.lit fr.fn = lit
  by_cases hd : (∃ c, o.op = .defer c) ∧ fr.round ≠ none
  · obtain ⟨⟨c, hc⟩, hro⟩ := hd
    rw [operE_defer hc]
    rcases oDefer_rs E.glob fr.tm h c with e | ⟨f, args, e⟩
    · rw [e]; trivial
    · rw [e]
      change CodeOk P B w0 g _ b k cs (doDefer o fr next f args h)
      rcases doDefer_eq (o := o) (fr := fr) (next := next) (f := f) (args := args) (h := h) with ⟨hro', _, _⟩ | e2
      · exact absurd hro' hro
      · rw [e2]; trivial
  · have hsem : o.semAt b.roundOf a.eval = execOp a.eval o := by
      by_cases hro : fr.round = none
      · have hb : b.roundOf = none := by have := hf.round; rw [hro] at this; exact this
        rw [hb, Oper.semAt_none]
      · exact Oper.semAt_eq _ _ _ (fun c e => hd ⟨⟨c, e⟩, hro⟩)
    have hgood := operE_good (P := P) lit hW hf.slots hG o
    rw [← hsem] at hgood
    cases hr : operE lit P E.glob fr.tm h o with
    | val y h' =>
      rw [hr] at hgood
      obtain ⟨v, w', g', e, hg, hW', hR⟩ := hgood
      exact goOn_ok (h' := h') (w' := w') hg hW' hG hf hR (.one (apply_value ho hw e)) (fun fr' a' p q => hn g' h' w' fr' a' hg hW' p q)
    | skip h' =>
      rw [hr] at hgood
      obtain ⟨w', g', e, hg, hW'⟩ := hgood
      exact goOn_ok (h' := h') (w' := w') hg hW' hG hf R.undef (.one (apply_skip ho hw e)) (fun fr' a' p q => hn g' h' w' fr' a' hg hW' p q)
    | call f args h' =>
      rw [hr] at hgood
      obtain ⟨us, w', g', e, hg, hW', hs⟩ := hgood
      exact afterCall_ok ho hw e hg hG hf (callAny_shared hI hW' (hG.mono hg.ext.S) _ hs) hn
    | yield l args h' =>
      rw [hr] at hgood
      obtain ⟨us, q, kk, w', g', e, hg, hW', hv, hm, hs⟩ := hgood
      exact afterYield_ok ho hw e hg hG hf (hI.yield _ _ l q kk args us hW' (hG.mono hg.ext.S) hv hm hs) hn
    | panic y h' =>
      rw [hr] at hgood
      obtain ⟨v, w', g', e, hg, hW', hR⟩ := hgood
      exact ⟨g', a, w', hg, hW', (hf.mono hg.ext).weak, v, _, hR, .one (apply_panic ho hw e)⟩
    | defer f args h' =>
      rw [hr] at hgood
      obtain ⟨us, cap, w', g', e, hg, hW', hs⟩ := hgood
      change CodeOk P B w0 g _ b k cs (doDefer o fr next f args h')
      rcases doDefer_eq (o := o) (fr := fr) (next := next) (f := f) (args := args) (h := h') with ⟨hro, hma, e2⟩ | e2
      · rw [e2]
        have hfm := hf.mono hg.ext
        have hf2 : FrOk g' b { fr with defers := (f, args) :: fr.defers } { a with defers := { target := .fn (.func f) cap, args := us } :: a.defers } := by
          refine ⟨hfm.fn, hfm.slots, hfm.round, .inr ⟨hma, ?_⟩⟩
          have hdc := hfm.marks
          rw [hma] at hdc
          have hdc := hdc.calls
          refine ⟨by simp [hdc.1], fun i d q hd hq => ?_⟩
          cases i with
          | zero => simp at hd hq; subst hd; subst hq; exact ⟨us, cap, rfl, hs⟩
          | succ i => exact hdc.2 i d q (by simpa using hd) (by simpa using hq)
        unfold goOn
        cases hp : ({ fr with defers := (f, args) :: fr.defers } : Fr).put o.dst undef with
        | none => trivial
        | some fr' =>
          have hput : ({ a with defers := ({ target := .fn (.func f) cap, args := us } : Deferred) :: a.defers } : Act).put o.dst Go.undef = { a.put o.dst Go.undef with defers := { target := .fn (.func f) cap, args := us } :: a.defers } := by
            cases o.dst <;> rfl
          have hf3 := hf2.put R.undef hp
          rw [hput] at hf3
          exact .of_steps (.one (apply_defer ho hw e)) hg (hn g' h' w' fr' _ hg hW' (hG.mono hg.ext.S) hf3)
      · rw [e2]; trivial
    | recover h' => trivial
    | stuck => trivial

theorem runOps_ok (hI : Snd P E ih) {b : Frame} {k : List Item} {cs : List Frame} {ops : Array Oper} : ∀ (l : List Oper) (i : Nat), ops.toList.drop i = l → ∀ {g : Gh} {h : Heap} {w : World} {fr : Fr} {a : Act}, W B w0 g h w → GlobOk E.glob g.S → FrOk g b fr a →
    CodeOk P B w0 g (lone (b.atR a (.inRegion ops (List.range' i l.length) :: k)) cs w) b k cs (runOps P E ih ops.toList l fr h) := by
  intro l
  induction l with
  | nil =>
    intro i _ g h w fr a hW hG hf
    exact ⟨g, a, w, Grown.refl _ _, hW, hf, .one stepR_region_end⟩
  | cons o l IH =>
    intro i hl g h w fr a hW hG hf
    have ho : ops[i]? = some o := by
      have : (ops.toList.drop i)[0]? = some o := by rw [hl]; rfl
      rw [List.getElem?_drop] at this
      simpa using this
    have hl' : ops.toList.drop (i + 1) = l := by
      rw [← List.drop_drop, hl]; rfl
    rw [List.length_cons, List.range'_succ]
    change CodeOk P B w0 g _ b k cs (runOp P E ih ops.toList o (runOps P E ih ops.toList l) fr h)
    unfold runOp
    cases hwt : wanted ops.toList fr o with
    | none => trivial
    | some t =>
      have hw := wanted_sound hf hwt
      cases t with
      | true => exact afterOp_ok hI ho hw hW hG hf fun g' h' w' fr' a' hg hW' hG' hf' => IH (i + 1) hl' hW' hG' hf'
      | false =>
        have hs := stepR_op_skip (P := P) (b := b) (a := a) (k := k) (cs := cs) (w := w) (ops := ops) (i := i) (rest := List.range' (i + 1) l.length) (by simp [ho]; simpa using hw)
        simp only [ho, Option.bind_some] at hs
        exact goOn_ok (h' := h) (w' := w) (Grown.refl _ _) hW hG hf R.undef (.one hs) (fun fr' a' p q => IH (i + 1) hl' hW p q)

theorem region_ok (hI : Snd P E ih) {b : Frame} {k : List Item} {cs : List Frame} {ops : Array Oper} {id : Nat} {g : Gh} {h : Heap} {w : World} {fr : Fr} {a : Act} (hW : W B w0 g h w) (hG : GlobOk E.glob g.S) (hf : FrOk g b fr a) :
    CodeOk P B w0 g (lone (b.atR a (.code (.region id ops false) :: k)) cs w) b k cs (sRegion P E ih ops false fr h) := by
  refine .of_steps (.one stepR_region) (Grown.refl _ _) ?_
  have := runOps_ok hI (k := k) (cs := cs) (ops := ops) ops.toList 0 (by simp) hW hG hf
  rw [Array.length_toList, ← List.range_eq_range'] at this
  exact this

end Go.AM
