/-
  Operations of a region that draws its order: literals, pure calls; what an operation comes to on its own.
-/
import Derived.Test.YtaahfplokcfncaaGreatDoorAmRegion
namespace Go.AM
open Go.RowKit

variable {P : Program} {E : Env} {ih : Task → Res} {B : Nat} {w0 : World}

theorem callStill_ok (hI : Snd P E ih) {g : Gh} {h : Heap} {w : World} (hW : W B w0 g h w) (hG : GlobOk E.glob g.S) (cs : List Frame) {f : FuncId} {args : List V} {us : Array Value} (hs : Rs' g us args) : CallOk P B w0 g cs f us w (callStill E ih f args h) := by
  unfold callStill
  cases hgr : groundL (ground 3) args with
  | false => trivial
  | true =>
    have hgr := (groundL_iff _ _).1 hgr
    have hgs : us.size = args.length ∧ ∀ (i : Nat) u x, us[i]? = some u → args[i]? = some x → GR g.S u x := ⟨hs.1, fun i u x p q => ground_GR 3 (hs.2 i u x p q) (hgr x (List.mem_of_getElem? q))⟩
    simp only [cond_true]
    split
    · rename_i v hv
      exact PureOk.still hW hG cs hgs (hI.prim f args v hv)
    · unfold endPure
      split
      · rename_i v hc hr
        split
        · rename_i gv ha
          exact PureOk.still hW hG cs hgs (PureOk.of_run hI hr ha)
        · trivial
      · rename_i v hc hr
        split
        · rename_i gv _ ha
          exact PurePan.call hW hG cs hgs (PurePan.of_run hI hr ha)
        · trivial
      · trivial
      · trivial

theorem callAny_ok (hI : Snd P E ih) (lit : Bool) {g : Gh} {h : Heap} {w : World} (hW : W B w0 g h w) (hG : GlobOk E.glob g.S) (cs : List Frame) {f : FuncId} {args : List V} {us : Array Value} (hs : Rs' g us args) : CallOk P B w0 g cs f us w (callAny E ih lit f args h) := by
  cases lit with
  | false => exact callAny_shared hI hW hG cs hs
  | true =>
    unfold callAny
    cases E.shared f with
    | false => exact callStill_ok hI hW hG cs hs
    | true => exact callShared_ok hI hW hG cs hs

/-- What an operation comes to is what the model's step comes to. -/
def OutOk (P : Program) (B : Nat) (w0 : World) (g : Gh) (m : Machine) (b : Frame) (a : Act) (o : Oper) (ops : Array Oper) (rest : List Nat) (k : List Item) (cs : List Frame) : Outc → Prop
  | .val y h => ∃ g' w v, Grown B g g' ∧ W B w0 g' h w ∧ R g' v y ∧ Steps P m (lone (b.atR (a.put o.dst v) (.inRegion ops rest :: k)) cs w)
  | .panic y h => ∃ g' w v todo, Grown B g g' ∧ W B w0 g' h w ∧ R g' v y ∧ Steps P m (lone { b.atR a todo with mode := .panicking (onePanic v) } cs w)
  | .stuck => True

theorem doOp_ok (hI : Snd P E ih) {g : Gh} {h : Heap} {w : World} {b : Frame} {k : List Item} {cs : List Frame} {fr : Fr} {a : Act} {o : Oper} {ops : Array Oper} {i : Nat} {rest : List Nat}
    (ho : ops[i]? = some o) (hw : Region.wanted o (yielded ops a.tmps) = true) (hW : W B w0 g h w) (hG : GlobOk E.glob g.S) (hf : FrOk g b fr a) :
    OutOk P B w0 g (lone (b.atR a (.inRegion ops (i :: rest) :: k)) cs w) b a o ops rest k cs (doOp P E ih fr.tm h o) := by
  by_cases hd : ∃ c, o.op = .defer c
  · obtain ⟨c, hc⟩ := hd
    have : operL P E.glob fr.tm h o = oDefer E.glob fr.tm h c := by
      unfold operL; rw [hc]; exact oper_defer hc
    unfold doOp; rw [this]
    rcases oDefer_rs E.glob fr.tm h c with e | ⟨f, args, e⟩ <;> rw [e] <;> trivial
  · have hsem : o.semAt b.roundOf a.eval = execOp a.eval o := Oper.semAt_eq _ _ _ (fun c e => hd ⟨c, e⟩)
    have hgood := operL_good (P := P) hW hf.slots hG o
    rw [← hsem] at hgood
    have hfin : ∀ v, (b.atR a (.inRegion ops (i :: rest) :: k)).finish v = b.atR (a.put o.dst v) (.inRegion ops rest :: k) := fun v => by rw [Frame.finish_atR, ho]; rfl
    unfold doOp
    cases hr : operL P E.glob fr.tm h o with
    | val y h' =>
      rw [hr] at hgood
      obtain ⟨v, w', g', e, hg, hW', hR⟩ := hgood
      exact ⟨g', w', v, hg, hW', hR, .one (apply_value ho hw e)⟩
    | skip h' =>
      rw [hr] at hgood
      obtain ⟨w', g', e, hg, hW'⟩ := hgood
      exact ⟨g', w', _, hg, hW', R.undef, .one (apply_skip ho hw e)⟩
    | call f args h' =>
      rw [hr] at hgood
      obtain ⟨us, w', g', e, hg, hW', hs⟩ := hgood
      have hc := callAny_ok hI true hW' (hG.mono hg.ext.S) (b.atR a (.inRegion ops (i :: rest) :: k) :: cs) hs (f := f)
      simp only
      cases hres : callAny E ih true f args h' with
      | ret y h2 =>
        rw [hres] at hc
        obtain ⟨g2, w2, v, hg2, hW2, hR, hret⟩ := hc
        refine ⟨g2, w2, v, hg.trans hg2, hW2, hR, ?_⟩
        rcases hret with hv | ⟨he, frx, s1, _, s2⟩
        · exact .one (apply_value ho hw (e.trans hv))
        · refine .head (apply_enter ho hw (e.trans he)) (s1.trans (.one ?_))
          rw [← hfin]; exact step_leave_returned s2
      | panic y h2 =>
        rw [hres] at hc
        obtain ⟨g2, w2, v, hg2, hW2, hR, he, frx, s1, _, s2⟩ := hc
        refine ⟨g2, w2, v, .inRegion ops (i :: rest) :: k, hg.trans hg2, hW2, hR, .head (apply_enter ho hw (e.trans he)) (s1.trans (.one ?_))⟩
        rw [← Frame.raise_atR]; exact step_leave_panicked s2
      | none _ _ => trivial
      | code _ _ _ => trivial
      | dret _ _ => trivial
    | panic y h' =>
      rw [hr] at hgood
      obtain ⟨v, w', g', e, hg, hW', hR⟩ := hgood
      exact ⟨g', w', v, _, hg, hW', hR, .one (apply_panic ho hw e)⟩
    | yield l args h' =>
      rw [hr] at hgood
      obtain ⟨us, q, kk, w', g', e, hg, hW', hv, hm, hs⟩ := hgood
      have hc := hI.yield (b.atR a (.inRegion ops (i :: rest) :: k)) cs l q kk args us hW' (hG.mono hg.ext.S) hv hm hs
      simp only
      cases hres : ih (.yield l args h') with
      | ret y h2 =>
        rw [hres] at hc
        obtain ⟨g2, w2, v, hg2, hW2, hR, fn, tmps, as, bd, he, hst⟩ := hc
        refine ⟨g2, w2, v, hg.trans hg2, hW2, hR, .head (apply_round ho hw (e.trans he)) ?_⟩
        rw [← hfin]; exact hst
      | panic y h2 =>
        rw [hres] at hc
        obtain ⟨g2, w2, v, hg2, hW2, hR, fn, tmps, as, bd, he, hst⟩ := hc
        refine ⟨g2, w2, v, .inRegion ops (i :: rest) :: k, hg.trans hg2, hW2, hR, .head (apply_round ho hw (e.trans he)) ?_⟩
        rw [← Frame.raise_atR]; exact hst
      | none _ _ => trivial
      | code _ _ _ => trivial
      | dret _ _ => trivial
    | defer f args h' => trivial
    | recover h' => trivial
    | stuck => trivial

end Go.AM
