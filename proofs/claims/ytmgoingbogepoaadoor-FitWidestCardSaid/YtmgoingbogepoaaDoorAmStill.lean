/-
  Operations of a region that draws its order: literals, pure calls; what an operation comes to on its own.
-/
import Derived.Test.YtmgoingbogepoaaDoorAmRegion
namespace Go.AM
open Go.RowKit

variable {P : Program} {E : Env} {ih : Task → Res} {B : Nat} {w0 : World}

/-- More is said of blocks that nothing names. -/
theorem W.sayFree {g : Gh} {h : Heap} {w : World} (hW : W B w0 g h w) {S : Nat → Nat → Option Value} (hm : ∀ b o v, g.S b o = some v → S b o = some v) (hk : ∀ q x, g.mu q = some x → ∀ o v, S x.1 o = some v → g.S x.1 o = some v) (hs : Sealed S w) : W B w0 (g.say S) h w :=
  ⟨hW.low, hW.base, hs, hW.dom, hW.out, hW.ver, fun r x hr => (hW.obj r x hr).mono (Ext.say hm) rfl (hk r x hr), hW.inj, hW.high⟩

structure StillOk (B : Nat) (w0 : World) (g : Gh) (h : Heap) (w : World) (bs : List Nat) (S : Nat → Nat → Option Value) : Prop where
  grown : Grown B g (g.say S)
  world : W B w0 (g.say S) h w
  keep : ∀ b, ¬ b ∈ bs → ∀ o v, S b o = some v → g.S b o = some v

theorem StillOk.refl {g : Gh} {h : Heap} {w : World} (hW : W B w0 g h w) : StillOk B w0 g h w [] g.S := ⟨Grown.refl _ _, hW, fun _ _ _ _ e => e⟩
theorem StillOk.trans {g : Gh} {h : Heap} {w : World} {b1 b2 : List Nat} {S S' : Nat → Nat → Option Value} (p : StillOk B w0 g h w b1 S) (q : StillOk B w0 (g.say S) h w b2 S') : StillOk B w0 g h w (b1 ++ b2) S' :=
  ⟨p.grown.trans q.grown, q.world, fun b hb o v e => p.keep b (fun h => hb (by simp [h])) o v (q.keep b (fun h => hb (by simp [h])) o v e)⟩
theorem StillOk.more {g : Gh} {h : Heap} {w : World} {b1 b2 : List Nat} {S : Nat → Nat → Option Value} (p : StillOk B w0 g h w b1 S) (hn : (b1 ++ b2).Nodup) : More b2 g.S S :=
  ⟨p.grown.ext.S, fun b hb o v e => p.keep b (fun h => by rw [List.nodup_append] at hn; exact hn.2.2 b h b hb rfl) o v e⟩
theorem StillOk.more1 {g : Gh} {h : Heap} {w : World} {b1 b2 : List Nat} {S : Nat → Nat → Option Value} (p : StillOk B w0 g h w b2 S) (hn : (b1 ++ b2).Nodup) : More b1 g.S S :=
  ⟨p.grown.ext.S, fun b hb o v e => p.keep b (fun h => by rw [List.nodup_append] at hn; exact hn.2.2 b hb b h rfl) o v e⟩

theorem still1_sound {g : Gh} {h : Heap} {w : World} {v : Value} {x : V} {bs : List Nat} (hW : W B w0 g h w) (hR : RR g.S w v x bs) (hF : Free B g w bs) : ∃ S, StillOk B w0 g h w bs S ∧ GR S v (still1 x) := by
  cases hR with
  | data hR =>
    have e : still1 x = x := by cases hR <;> rfl
    rw [e]; exact ⟨g.S, .refl hW, hR⟩
  | whole hrow hg hb hs ho =>
    rename_i b k sz ty pub cap es C fr a
    obtain ⟨hB, hlt, hfree⟩ := hF b (by simp)
    have hm : ∀ b' o v, g.S b' o = some v → said g.S b 0 (es.length * sz) C b' o = some v := fun b' o v hv => by
      unfold said
      split
      · rename_i hc
        obtain ⟨rfl, _⟩ := hc
        obtain ⟨C1, T1, f1, h1, h2⟩ := cell?_block (hW.shut _ _ _ hv)
        rw [hrow.at_] at h1; cases h1; exact h2
      · exact hv
    have hk : ∀ b', b' ≠ b → ∀ o v, said g.S b 0 (es.length * sz) C b' o = some v → g.S b' o = some v := fun b' hb' o v hv => by
      unfold said at hv
      rw [if_neg (fun q => hb' q.1)] at hv; exact hv
    have hW' := hW.sayFree (S := said g.S b 0 (es.length * sz) C) hm (fun q x hq => hk x.1 (hfree q x hq)) (fun b' o v hv => by
      unfold said at hv
      split at hv
      · rename_i hc
        obtain ⟨rfl, _⟩ := hc
        exact cell?_mk hrow.at_ hv
      · exact hW.shut b' o v hv)
    refine ⟨_, ⟨⟨Ext.say hm, fun b' o v hb' e => hk b' (by omega) o v e⟩, hW', fun b' hb' => hk b' (by simpa using hb')⟩, ?_⟩
    change GR _ _ (.gsl sz es cap)
    rw [Addr.eta hs, hb]
    refine .gsl (fun i j => C.getD (i * sz + j) Go.undef) hrow.pos hrow.elems (fun i e j x p q => ?_) (fun c' e => (hrow.caps c' e)) hrow.fits (fun i e j x p q => ?_)
    · obtain ⟨u, p1, p2, _⟩ := hrow.cells i e j x p q
      rw [getD_some' p1]
      refine ⟨?_, p2⟩
      have hi := lt_of_getElem?_list p
      have hj : j < sz := by rw [← (hrow.elems i e p).1]; exact lt_of_getElem?_list q
      have hl := idx_lt hi hj
      have hoff : a.off = 0 := ho (by have := hrow.fits; omega)
      unfold said
      rw [hoff, Nat.zero_add, if_pos ⟨rfl, Nat.zero_le _, hl⟩]; exact p1
    · obtain ⟨u, p1, r⟩ := hg i e j x p q
      rw [getD_some' p1]
      exact r.mono hm

theorem mapL_cons (f : V → V) (x : V) (l : List V) : mapL f (x :: l) = f x :: mapL f l := rfl

theorem Free.say {g : Gh} {w : World} {bs : List Nat} (h : Free B g w bs) (S : Nat → Nat → Option Value) : Free B (g.say S) w bs := h
theorem Free.rest {g : Gh} {w : World} {b1 b2 : List Nat} (h : Free B g w (b1 ++ b2)) : Free B g w b2 := fun b hb => h b (by simp [hb])

theorem stillL_sound {w : World} {h : Heap} (l : List V) : ∀ {g : Gh} {vs : List Value} {bs : List Nat}, RL g.S w vs l bs → W B w0 g h w → Free B g w bs → bs.Nodup →
    ∃ S', StillOk B w0 g h w bs S' ∧ vs.length = (mapL still1 l).length ∧ ∀ (i : Nat) v x, vs[i]? = some v → (mapL still1 l)[i]? = some x → GR S' v x := by
  induction l with
  | nil => intro g vs bs hR hW _ _; cases hR; exact ⟨g.S, .refl hW, rfl, fun i v x e => by simp at e⟩
  | cons x l ih =>
    intro g vs bs hR hW hF hn
    cases hR with
    | cons h1 t =>
      rename_i v vs b bs
      obtain ⟨S1, t1, r1⟩ := still1_sound hW h1 hF.left
      obtain ⟨S2, t2, n2, r2⟩ := ih (g := g.say S1) (t.more (t1.more hn) (fun _ q => q)) t1.world (hF.rest.say S1) (by rw [List.nodup_append] at hn; exact hn.2.1)
      rw [mapL_cons]
      refine ⟨S2, t1.trans t2, by simp [n2], fun i u y p q => ?_⟩
      cases i with
      | zero => simp at p q; subst p; subst q; exact r1.mono t2.grown.ext.S
      | succ i => exact r2 i u y (by simpa using p) (by simpa using q)

theorem stillPart_sound {g : Gh} {h : Heap} {w : World} {v : Value} {x : V} {bs : List Nat} (hW : W B w0 g h w) (hR : RP g.S w v x bs) (hF : Free B g w bs) (hn : bs.Nodup) : ∃ S, StillOk B w0 g h w bs S ∧ GR S v (stillPart x) := by
  cases hR with
  | one hx hR =>
    have e : stillPart x = still1 x := by cases x <;> first | rfl | exact absurd rfl (hx _)
    rw [e]; exact still1_sound hW hR hF
  | agg h1 hR =>
    obtain ⟨S, t, n', r⟩ := stillL_sound _ hR hW hF hn
    exact ⟨S, t, .agg (by simpa using n') h1 fun i v x p q => r i v x (by simpa using p) q⟩

theorem stillPL_sound {w : World} {h : Heap} (l : List V) : ∀ {g : Gh} {vs : List Value} {bs : List Nat}, RPL g.S w vs l bs → W B w0 g h w → Free B g w bs → bs.Nodup →
    ∃ S', StillOk B w0 g h w bs S' ∧ vs.length = (mapL stillPart l).length ∧ ∀ (i : Nat) v x, vs[i]? = some v → (mapL stillPart l)[i]? = some x → GR S' v x := by
  induction l with
  | nil => intro g vs bs hR hW _ _; cases hR; exact ⟨g.S, .refl hW, rfl, fun i v x e => by simp at e⟩
  | cons x l ih =>
    intro g vs bs hR hW hF hn
    cases hR with
    | cons h1 t =>
      rename_i v vs b bs
      obtain ⟨S1, t1, r1⟩ := stillPart_sound hW h1 hF.left (by rw [List.nodup_append] at hn; exact hn.1)
      obtain ⟨S2, t2, n2, r2⟩ := ih (g := g.say S1) (t.more (t1.more hn) (fun _ q => q)) t1.world (hF.rest.say S1) (by rw [List.nodup_append] at hn; exact hn.2.1)
      rw [mapL_cons]
      refine ⟨S2, t1.trans t2, by simp [n2], fun i u y p q => ?_⟩
      cases i with
      | zero => simp at p q; subst p; subst q; exact r1.mono t2.grown.ext.S
      | succ i => exact r2 i u y (by simpa using p) (by simpa using q)

theorem still_sound {g : Gh} {h : Heap} {w : World} {v : Value} {x : V} {bs : List Nat} (hW : W B w0 g h w) (hR : RA g.S w v x bs) (hF : Free B g w bs) (hn : bs.Nodup) : ∃ S, StillOk B w0 g h w bs S ∧ GR S v (still x) := by
  cases hR with
  | one hx hR =>
    have e : still x = stillPart x := by cases x <;> first | rfl | exact absurd rfl (hx _)
    rw [e]; exact stillPart_sound hW hR hF hn
  | tup hR =>
    obtain ⟨S, t, n', r⟩ := stillPL_sound _ hR hW hF hn
    exact ⟨S, t, .tup (by simpa using n') fun i v x p q => r i v x (by simpa using p) q⟩

theorem PureOk.callStill {g : Gh} {h : Heap} {w : World} (hW : W B w0 g h w) (hG : GlobOk E.glob g.S) (cs : List Frame) {f : FuncId} {gs : List V} {us : Array Value} {v : V} (hs : us.size = gs.length ∧ ∀ (i : Nat) u x, us[i]? = some u → gs[i]? = some x → GR g.S u x) (hP : PureOk P E.glob f gs v) : CallOk P B w0 g cs f us w (stillR h v) := by
  obtain ⟨S', w', y, bs, hm, hk, hS, hl, hA, hn, hb, hret⟩ := hP _ _ cs us hW.shut hG ⟨hs.1, fun i u x p q => .gnd (hs.2 i u x p q)⟩
  obtain ⟨hg1, hW1⟩ := hW.join hl hm hk hS
  have hbase := hW.base
  obtain ⟨S2, t, hR⟩ := still_sound hW1 hA (fun b hb' => ⟨by have := hb b hb'; omega, (hb b hb').2, fun q x hq => by have := (hW.high q x hq).2; have := (hb b hb').1; omega⟩) hn
  exact ⟨_, w', y, hg1.trans t.grown, t.world, .gnd hR, hret⟩

theorem callStill_ok (hI : Snd P E ih) {g : Gh} {h : Heap} {w : World} (hW : W B w0 g h w) (hG : GlobOk E.glob g.S) (cs : List Frame) {f : FuncId} {args : List V} {us : Array Value} (hs : Rs' g us args) : CallOk P B w0 g cs f us w (callStill E ih f args h) := by
  unfold callStill
  cases hgr : groundL (ground 3) args with
  | false => trivial
  | true =>
    have hgr := (groundL_iff _ _).1 hgr
    have hgs : us.size = args.length ∧ ∀ (i : Nat) u x, us[i]? = some u → args[i]? = some x → GR g.S u x := ⟨hs.1, fun i u x p q => ground_GR 3 (hs.2 i u x p q) (hgr x (List.mem_of_getElem? q))⟩
    simp only [cond_true]
    split
    · rename_i v hv
      exact PureOk.callStill hW hG cs hgs (hI.prim f args v hv)
    · unfold endPure
      split
      · rename_i v hc hr
        split
        · rename_i gv ha
          exact PureOk.callStill hW hG cs hgs (PureOk.of_run hI hr ha)
        · trivial
      · rename_i v hc hr
        split
        · rename_i gv _ ha
          exact PurePan.call hW hG cs hgs (PurePan.of_run hI hr ha)
        · trivial
      · trivial
      · trivial

theorem callAny_ok (hI : Snd P E ih) (lit : Bool) {g : Gh} {h : Heap} {w : World} (hW : W B w0 g h w) (hG : GlobOk E.glob g.S) (cs : List Frame) {f : FuncId} {args : List V} {us : Array Value} (hs : Rs' g us args) : CallOk P B w0 g cs f us w (callAny E ih lit f args h) := by
  cases lit with
  | false => exact callAny_shared hI hW hG cs hs
  | true =>
    unfold callAny
    cases E.shared f with
    | false => exact callStill_ok hI hW hG cs hs
    | true => exact callShared_ok hI hW hG cs hs

/-- What an operation comes to is what the model's step comes to. -/
def OutOk (P : Program) (B : Nat) (w0 : World) (g : Gh) (m : Machine) (b : Frame) (a : Act) (o : Oper) (ops : Array Oper) (rest : List Nat) (k : List Item) (cs : List Frame) : Outc → Prop
  | .val y h => ∃ g' w v, Grown B g g' ∧ W B w0 g' h w ∧ R g' v y ∧ Steps P m (lone (b.atR (a.put o.dst v) (.inRegion ops rest :: k)) cs w)
  | .panic y h => ∃ g' w v todo, Grown B g g' ∧ W B w0 g' h w ∧ R g' v y ∧ Steps P m (lone { b.atR a todo with mode := .panicking (onePanic v) } cs w)
  | .stuck => True

theorem doOp_ok (hI : Snd P E ih) {g : Gh} {h : Heap} {w : World} {b : Frame} {k : List Item} {cs : List Frame} {fr : Fr} {a : Act} {o : Oper} {ops : Array Oper} {i : Nat} {rest : List Nat}
    (ho : ops[i]? = some o) (hw : Region.wanted o (yielded ops a.tmps) = true) (hW : W B w0 g h w) (hG : GlobOk E.glob g.S) (hf : FrOk g b fr a) :
    OutOk P B w0 g (lone (b.atR a (.inRegion ops (i :: rest) :: k)) cs w) b a o ops rest k cs (doOp P E ih fr.tm h o) := by
  by_cases hd : ∃ c, o.op = .defer c
  · obtain ⟨c, hc⟩ := hd
    have : operL P E.glob fr.tm h o = oDefer E.glob fr.tm h c := by
      unfold operL; rw [hc]; exact oper_defer hc
    unfold doOp; rw [this]
    rcases oDefer_rs E.glob fr.tm h c with e | ⟨f, args, e⟩ <;> rw [e] <;> trivial
  · have hsem : o.semAt b.roundOf a.eval = execOp a.eval o := Oper.semAt_eq _ _ _ (fun c e => hd ⟨c, e⟩)
    have hgood := operL_good (P := P) hW hf.slots hG o
    rw [← hsem] at hgood
    have hfin : ∀ v, (b.atR a (.inRegion ops (i :: rest) :: k)).finish v = b.atR (a.put o.dst v) (.inRegion ops rest :: k) := fun v => by rw [Frame.finish_atR, ho]; rfl
    unfold doOp
    cases hr : operL P E.glob fr.tm h o with
    | val y h' =>
      rw [hr] at hgood
      obtain ⟨v, w', g', e, hg, hW', hR⟩ := hgood
      exact ⟨g', w', v, hg, hW', hR, .one (apply_value ho hw e)⟩
    | skip h' =>
      rw [hr] at hgood
      obtain ⟨w', g', e, hg, hW'⟩ := hgood
      exact ⟨g', w', _, hg, hW', R.undef, .one (apply_skip ho hw e)⟩
    | call f args h' =>
      rw [hr] at hgood
      obtain ⟨us, w', g', e, hg, hW', hs⟩ := hgood
      have hc := callAny_ok hI true hW' (hG.mono hg.ext.S) (b.atR a (.inRegion ops (i :: rest) :: k) :: cs) hs (f := f)
      simp only
      cases hres : callAny E ih true f args h' with
      | ret y h2 =>
        rw [hres] at hc
        obtain ⟨g2, w2, v, hg2, hW2, hR, hret⟩ := hc
        refine ⟨g2, w2, v, hg.trans hg2, hW2, hR, ?_⟩
        rcases hret with hv | ⟨he, frx, s1, _, s2⟩
        · exact .one (apply_value ho hw (e.trans hv))
        · refine .head (apply_enter ho hw (e.trans he)) (s1.trans (.one ?_))
          rw [← hfin]; exact step_leave_returned s2
      | panic y h2 =>
        rw [hres] at hc
        obtain ⟨g2, w2, v, hg2, hW2, hR, he, frx, s1, _, s2⟩ := hc
        refine ⟨g2, w2, v, .inRegion ops (i :: rest) :: k, hg.trans hg2, hW2, hR, .head (apply_enter ho hw (e.trans he)) (s1.trans (.one ?_))⟩
        rw [← Frame.raise_atR]; exact step_leave_panicked s2
      | none _ _ => trivial
      | code _ _ _ => trivial
      | dret _ _ => trivial
    | panic y h' =>
      rw [hr] at hgood
      obtain ⟨v, w', g', e, hg, hW', hR⟩ := hgood
      exact ⟨g', w', v, _, hg, hW', hR, .one (apply_panic ho hw e)⟩
    | yield l args h' => trivial
    | defer f args h' => trivial
    | recover h' => trivial
    | stuck => trivial

end Go.AM
