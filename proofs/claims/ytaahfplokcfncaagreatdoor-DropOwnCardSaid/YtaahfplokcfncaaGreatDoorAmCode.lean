/-
  Code: one step of the machine's run.
-/
import Derived.Test.YtaahfplokcfncaaGreatDoorAmDrawRun
namespace Go.AM
open Go.RowKit

variable {P : Program} {E : Env} {ih : Task → Res} {B : Nat} {w0 : World}

theorem stepR_scope {b : Frame} {a : Act} {k : List Item} {cs : List Frame} {w : World} {c : Code} : Go.step P (lone (b.atR a (.code (.scope c) :: k)) cs w) = .next (lone (b.atR a (.code c :: .inScope c :: k)) cs w) :=
  step_lone_go (by simp [stepG, stepG.exec, Frame.atR])
theorem stepR_inScope {b : Frame} {a : Act} {k : List Item} {cs : List Frame} {w : World} {c : Code} : Go.step P (lone (b.atR a (.inScope c :: k)) cs w) = .next (lone (b.atR a k) cs w) :=
  step_lone_go (by simp [stepG, stepG.exec, Frame.atR])

def thenDo (next : Fr → Heap → Res) (r : Res) : Res :=
  match r with
  | .code e fr h => (match e with
    | .normal => next fr h
    | _ => .code e fr h)
  | r => r
theorem sSeq_eq (c : Code) (r : Res) : sSeq ih c r = thenDo (fun fr h => ih (.code c fr h)) r := by
  cases r with
  | code e fr h => cases e <;> rfl
  | _ => rfl
theorem thenDo_id (r : Res) : thenDo (fun fr h => .code .normal fr h) r = r := by
  cases r with
  | code e fr h => cases e <;> rfl
  | _ => rfl

/-- Behind a piece of code: what stood below is come to, or is passed by. -/
theorem CodeOk.pass {g : Gh} {m : Machine} {b : Frame} {x : Item} {k : List Item} {cs : List Frame} {r : Res} (hx : ∀ id, exitTo id (x :: k) = exitTo id k) (h : CodeOk P B w0 g m b (x :: k) cs r)
    (next : Fr → Heap → Res) (hn : ∀ g' a w fr h', Grown B g g' → W B w0 g' h' w → FrOk g' b fr a → CodeOk P B w0 g' (lone (b.atR a (x :: k)) cs w) b k cs (next fr h')) :
    CodeOk P B w0 g m b k cs (thenDo next r) := by
  cases r with
  | code e fr h' =>
    obtain ⟨g', a, w, hg, hW, hf, hA⟩ := h
    cases e with
    | normal => exact .of_steps hA hg (hn g' a w fr h' hg hW hf)
    | exit id => obtain ⟨todo, h1, h2⟩ := hA; exact ⟨g', a, w, hg, hW, hf, todo, h1.trans (hx id), h2⟩
    | goto l => exact hA.elim
    | ret => exact ⟨g', a, w, hg, hW, hf, hA⟩
    | panic y => exact ⟨g', a, w, hg, hW, hf, hA⟩
  | none _ _ => trivial
  | ret _ _ => exact h
  | panic _ _ => exact h
  | dret _ _ => exact h

theorem sSeq_ok {g : Gh} {m : Machine} {b : Frame} {x : Item} {k : List Item} {cs : List Frame} {r : Res} {c : Code} (hx : ∀ id, exitTo id (x :: k) = exitTo id k) (h : CodeOk P B w0 g m b (x :: k) cs r)
    (hn : ∀ g' a w fr h', Grown B g g' → W B w0 g' h' w → FrOk g' b fr a → CodeOk P B w0 g' (lone (b.atR a (x :: k)) cs w) b k cs (ih (.code c fr h'))) : CodeOk P B w0 g m b k cs (sSeq ih c r) := by
  rw [sSeq_eq]
  exact CodeOk.pass hx h _ hn

theorem sBlock_ok {g : Gh} {m : Machine} {b : Frame} {id : Nat} {k : List Item} {cs : List Frame} {r : Res} (h : CodeOk P B w0 g m b (.inBlock id :: k) cs r) : CodeOk P B w0 g m b k cs (sBlock id r) := by
  cases r with
  | code e fr h' =>
    obtain ⟨g', a, w, hg, hW, hf, hA⟩ := h
    cases e with
    | normal => exact ⟨g', a, w, hg, hW, hf, Steps.trans hA (.one stepR_inBlock)⟩
    | exit id' =>
      obtain ⟨todo, h1, h2⟩ := hA
      unfold sBlock
      simp only
      cases hb : Nat.beq id' id with
      | true =>
        rw [Nat.beq_eq] at hb; subst hb
        have h3 : exitTo id' todo = some k := by rw [h1]; simp [exitTo]
        exact ⟨g', a, w, hg, hW, hf, h2.trans (.one (stepR_exit h3))⟩
      | false =>
        have hne : (id == id') = false := by
          simp only [beq_eq_false_iff_ne, ne_eq]
          intro e; subst e; simp at hb
        exact ⟨g', a, w, hg, hW, hf, todo, by rw [h1]; simp [exitTo, hne], h2⟩
    | goto l => exact hA.elim
    | ret => exact ⟨g', a, w, hg, hW, hf, hA⟩
    | panic y => exact ⟨g', a, w, hg, hW, hf, hA⟩
  | none _ _ => trivial
  | ret _ _ => exact h
  | panic _ _ => exact h
  | dret _ _ => exact h

theorem W.setLoop {g : Gh} {h : Heap} {w : World} (hW : W B w0 g h w) {l b fn n d : Nat} {k : Nat × Nat} {st st' : LoopState} {pe pe' : Option Code} {tm : T V} {ps : List Tmp} {as bd : Code} (hv : g.vr l = none) (hm : g.mu l = some (b, k)) (hg : h.get l = .loop st pe fn n tm ps as bd d) :
    ∃ L : Loop, w.heap[b]? = some (.loop L) ∧ L.state = st ∧ L.pending = pe ∧ W B w0 g (h.set l (.loop st' pe' fn n tm ps as bd d)) (w.putObj b (.loop { L with state := st', pending := pe' })) := by
  have hobj := hW.obj l _ hm
  rw [hg] at hobj
  obtain ⟨hz, L, h1, h2, h3, h4, h5, h6, h7, h8, h9, h10, k', h11⟩ := hobj
  refine ⟨L, h1, h2, h3, ?_⟩
  exact hW.setObj (x := (b, k)) (o := .loop { L with state := st', pending := pe' }) hm hv rfl ⟨hz, _, blk_at w b _ (block_lt h1), rfl, rfl, h4, h5, h6, h7, h8, h9, h10, k', h11⟩ (noS_of hW.shut h1 (fun _ _ _ e => by cases e) (fun _ _ e => by cases e))

def yieldCall (f : Operand) (l : Nat) : Call := { callee := .value f, args := #[.const (.func (.yield l) #[] #[])], argTypes := #[] }

theorem step_range_value {b : Frame} {a : Act} {k : List Item} {cs : List Frame} {w w1 w2 : World} {f : Operand} {ps : Array Tmp} {as bd : Code} {l : Nat} {mark : List Deferred} {v : Value}
    (he : (Instr.enterLoop b.fn a.tmps ps as bd b.roundOf).run P w = .ok (l, mark) w1) (hs : (do let d ← resolve a.eval (yieldCall f l) 0; invoke d.target d.args : Sem Next).run P w1 = .ok (.value v) w2) :
    Go.step P (lone (b.atR a (.code (.rangeFunc f ps as bd) :: k)) cs w) = .next (lone (b.atR { a with defers := mark ++ a.defers } (.endRangeFunc l :: k)) cs w2) := by
  have hev : ({ fn := b.fn, tmps := a.tmps, todo := .inRangeFunc l :: k, defers := mark ++ a.defers, mode := .run, kind := b.kind, roundOf := b.roundOf } : Frame).eval = a.eval := by funext x; cases x <;> rfl
  refine step_lone_go ?_
  simp only [yieldCall] at hs
  simp only [stepG, stepG.exec, Frame.atR, Sem.runT_eq, he, stepG.apply, hev, hs, if_true]
  simp [Frame.finish]

theorem step_range_enter {b : Frame} {a : Act} {k : List Item} {cs : List Frame} {w w1 w2 : World} {f : Operand} {ps : Array Tmp} {as bd : Code} {l : Nat} {mark : List Deferred} {q : FuncId} {us : Array Value}
    (he : (Instr.enterLoop b.fn a.tmps ps as bd b.roundOf).run P w = .ok (l, mark) w1) (hs : (do let d ← resolve a.eval (yieldCall f l) 0; invoke d.target d.args : Sem Next).run P w1 = .ok (.enter q us) w2) :
    Go.step P (lone (b.atR a (.code (.rangeFunc f ps as bd) :: k)) cs w) = .next (lone (Frame.enter P q us .normal) (b.atR { a with defers := mark ++ a.defers } (.inRangeFunc l :: k) :: cs) w2) := by
  have hev : ({ fn := b.fn, tmps := a.tmps, todo := .inRangeFunc l :: k, defers := mark ++ a.defers, mode := .run, kind := b.kind, roundOf := b.roundOf } : Frame).eval = a.eval := by funext x; cases x <;> rfl
  refine step_lone_go ?_
  simp only [yieldCall] at hs
  simp only [stepG, stepG.exec, Frame.atR, Sem.runT_eq, he, stepG.apply, hev, hs, if_true]
  simp

theorem step_endRange {b : Frame} {a : Act} {k : List Item} {cs : List Frame} {w w1 : World} {l : Nat} {j : Option Code} (he : (Instr.endLoop l).run P w = .ok j w1) :
    Go.step P (lone (b.atR a (.endRangeFunc l :: k)) cs w) = .next (lone (b.atR a ((j.map Item.code).toList ++ k)) cs w1) := by
  refine step_lone_go ?_
  simp [stepG, stepG.exec, Frame.atR, Sem.runT_eq, he]

theorem rangeFunc_ok (hI : Snd P E ih) {g : Gh} {h : Heap} {w : World} {f : Operand} {ps : Array Tmp} {as bd : Code} {fr : Fr} {a : Act} {b : Frame} {k : List Item} {cs : List Frame} (hW : W B w0 g h w) (hG : GlobOk E.glob g.S) (hf : FrOk g b fr a) :
    CodeOk P B w0 g (lone (b.atR a (.code (.rangeFunc f ps as bd) :: k)) cs w) b k cs (sRange P E ih f ps as bd fr h) := by
  unfold sRange
  split
  · trivial
  · rename_i fv hfv
    split
    · trivial
    · rename_i d marks h1 hd
      have hround : fr.round = none := by
        cases hr : fr.round with
        | none => rfl
        | some l => unfold defsOf at hd; rw [hr] at hd; cases hd
      have hro : b.roundOf = none := by have := hf.round; rw [hround] at this; exact this
      have hdf : fr.defers = [] := by
        unfold defsOf at hd
        rw [hround] at hd
        cases hq : fr.defers with
        | nil => rfl
        | cons _ _ => rw [hq] at hd; cases hd
      have hmk0 := hf.marks
      rw [hdf] at hmk0
      have hmk0 := hmk0.marks
      unfold defsOf at hd
      rw [hround, hdf] at hd
      cases hd
      let o1 : Go.Obj := .deferred (some [])
      let L : Loop := { state := .ready, pending := none, fn := b.fn, tmps := a.tmps, params := ps, assign := as, body := bd, defers := w.heap.size }
      let w1 : World := { w with heap := w.heap.push o1 }
      let w2 : World := { w1 with heap := w1.heap.push (.loop L) }
      let g1 := g.new h.n (w.heap.size, 0, 0) none
      have hW1 : W B w0 g1 (h.new .defs) w1 := hW.alloc o1 .defs 0 0 (heap_push_new w _)
      have hn1 : (h.new .defs).n = h.n + 1 := Heap.n_new _ _
      let g2 := g1.new (h.new .defs).n (w1.heap.size, 0, 0) none
      have hx1 : Grown B g g1 := Grown.new hW _ _
      have hx2 : Grown B g1 g2 := Grown.new hW1 _ _
      have hgg := hx1.trans hx2
      have hdv : g2.vr h.n = none ∧ g2.mu h.n = some (w.heap.size, 0, 0) := by
        have : ¬ h.n = h.n + 1 := by omega
        simp [g2, g1, Gh.new, hn1]
      have hlv : g2.vr (h.new .defs).n = none ∧ g2.mu (h.new .defs).n = some (w1.heap.size, 0, 0) := by simp [g2, Gh.new]
      have hW2 : W B w0 g2 ((h.new .defs).new (.loop .ready none fr.fn fr.n fr.tm ps.toList as bd h.n)) w2 := by
        refine hW1.alloc (.loop L) (.loop .ready none fr.fn fr.n fr.tm ps.toList as bd h.n) 0 0 ?_
        exact ⟨hf.slots.none, L, heap_push_new w1 _, rfl, rfl, hf.fn, hf.slots.size, fun i v hv => (hf.slots.rel i v hv).imp id fun q => q.mono hgg.ext, rfl, rfl, rfl, hdv.1, _, hdv.2⟩
      have henter : (Instr.enterLoop b.fn a.tmps ps as bd b.roundOf).run P w = .ok (w1.heap.size, [{ target := .collected w.heap.size, args := #[] }]) w2 := by
        rw [hro, run_enterLoop_outer]
        have : w1.heap.size = w.heap.size + 1 := by simp [w1]
        rw [this]; rfl
      have hfR : R g2 (a.eval f) fv := (ev_sound hf.slots hG hfv).mono hgg.ext
      have hargs : Rs' g2 #[.func (.yield w1.heap.size) #[] #[]] [.func (.yield (h.new .defs).n) [] []] := ⟨rfl, fun i v x hv hx => by
        cases i with
        | zero => cases hv; cases hx; exact .yield hlv.1 hlv.2
        | succ i => simp at hv⟩
      have hgood := callV_good (P := P) hW2 hfR hargs
      have hgood' : Good P B w0 g2 ((do let d ← resolve a.eval (yieldCall f w1.heap.size) 0; invoke d.target d.args : Sem Next).run P w2) (callV P ((h.new .defs).new (.loop .ready none fr.fn fr.n fr.tm ps.toList as bd h.n)) fv [.func (.yield (h.new .defs).n) [] []]) := by
        have e : resolve a.eval (yieldCall f w1.heap.size) 0 = Deferred.ofValue (a.eval f) #[.func (.yield w1.heap.size) #[] #[]] := by simp [resolve, yieldCall, Act.eval]
        rw [e]; exact hgood
      split
      · rename_i q args h2 hcall
        rw [hcall] at hgood'
        obtain ⟨us, w3, g3, e, hg3, hW3, hs3⟩ := hgood'
        have hg03 := hgg.trans hg3
        cases hsh : E.shared q with
        | false => trivial
        | true =>
          simp only [cond_true]
          have hfr : ∀ {g' : Gh}, Grown B g3 g' → FrOk g' b { fr with marks := h.n :: fr.marks } { a with defers := [{ target := .collected w.heap.size, args := #[] }] ++ a.defers } := fun hg' => by
            have hall := hg03.trans hg'
            have hm := (hg3.trans hg').ext.obj _ _ hdv.1 hdv.2
            have hmk := hmk0.mono hall.ext
            refine ⟨hf.fn, hf.slots.mono hall.ext, hf.round.mono hall.ext, .inl ⟨hdf, by simp [hmk.1], fun i d m p q => ?_⟩⟩
            cases i with
            | zero => cases p; cases q; exact ⟨_, _, rfl, hm.1, hm.2⟩
            | succ i => exact hmk.2 i d m (by simpa using p) (by simpa using q)
          have hc := hI.call (b.atR { a with defers := [{ target := .collected w.heap.size, args := #[] }] ++ a.defers } (.inRangeFunc w1.heap.size :: k) :: cs) q args us hW3 (hG.mono hg03.ext.S) hs3
          cases hr : ih (.call q args h2) with
          | code _ _ _ => rw [hr] at hc; exact hc.elim
          | dret _ _ => rw [hr] at hc; exact hc.elim
          | none _ _ => trivial
          | panic y h4 =>
            rw [hr] at hc
            obtain ⟨g4, w4, v, hg4, hW4, hR4, he, frx, s1, _, s2⟩ := hc
            refine ⟨g4, _, w4, hg03.trans hg4, hW4, (hfr hg4).weak, v, .inRangeFunc w1.heap.size :: k, hR4, .head (step_range_enter henter (e.trans he)) (s1.trans (.one ?_))⟩
            exact step_leave_panicked s2
          | ret y h4 =>
            rw [hr] at hc
            obtain ⟨g4, w4, v, hg4, hW4, hR4, hret⟩ := hc
            have hst : Steps P (lone (b.atR a (.code (.rangeFunc f ps as bd) :: k)) cs w) (lone (b.atR { a with defers := [{ target := .collected w.heap.size, args := #[] }] ++ a.defers } (.endRangeFunc w1.heap.size :: k)) cs w4) := by
              rcases hret with hv | ⟨he, frx, s1, _, s2⟩
              · exact .one (step_range_value henter (e.trans hv))
              · exact .head (step_range_enter henter (e.trans he)) (s1.trans (.one (step_leave_returned s2)))
            obtain ⟨hlv4, hlm4⟩ := (hg3.trans hg4).ext.obj _ _ hlv.1 hlv.2
            unfold endLoop
            simp only
            split
            · rename_i st pe fn n tm ps' as' bd' d' hget
              obtain ⟨L4, q1, q2, q3, hW5⟩ := W.setLoop (st' := .exhausted) (pe' := pe) hW4 hlv4 hlm4 hget
              have hend : st ≠ .busy → (Instr.endLoop w1.heap.size).run P w4 = .ok pe (w4.putObj w1.heap.size (.loop { L4 with state := .exhausted, pending := pe })) := fun hb => by
                have := run_endLoop (P := P) q1 (by rw [q2]; exact hb)
                rw [q3] at this; exact this
              cases pe with
              | none =>
                have fin : st ≠ .busy → CodeOk P B w0 g (lone (b.atR a (.code (.rangeFunc f ps as bd) :: k)) cs w) b k cs (.code .normal { fr with marks := h.n :: fr.marks } (h4.set (h.new .defs).n (.loop .exhausted none fn n tm ps' as' bd' d'))) := fun hb =>
                  ⟨g4, _, _, hg03.trans hg4, hW5, hfr hg4, hst.trans (.one (step_endRange (hend hb)))⟩
                cases st with
                | busy => trivial
                | ready => exact fin (by simp)
                | done => exact fin (by simp)
                | exhausted => exact fin (by simp)
              | some c =>
                have fin : st ≠ .busy → CodeOk P B w0 g (lone (b.atR a (.code (.rangeFunc f ps as bd) :: k)) cs w) b k cs (ih (.code c { fr with marks := h.n :: fr.marks } (h4.set (h.new .defs).n (.loop .exhausted (some c) fn n tm ps' as' bd' d')))) := fun hb =>
                  .of_steps (hst.trans (.one (step_endRange (hend hb)))) (hg03.trans hg4) (hI.code c _ _ b k cs hW5 (hG.mono (hg03.trans hg4).ext.S) (hfr hg4))
                cases st with
                | busy => trivial
                | ready => exact fin (by simp)
                | done => exact fin (by simp)
                | exhausted => exact fin (by simp)
            · trivial
      · trivial

theorem code_ok (hI : Snd P E ih) {g : Gh} {h : Heap} {w : World} (c : Code) (fr : Fr) (a : Act) (b : Frame) (k : List Item) (cs : List Frame) (hW : W B w0 g h w) (hG : GlobOk E.glob g.S) (hf : FrOk g b fr a) :
    CodeOk P B w0 g (lone (b.atR a (.code c :: k)) cs w) b k cs (sCode P E ih c fr h) := by
  cases c with
  | skip => exact ⟨g, a, w, Grown.refl _ _, hW, hf, .one stepR_skip⟩
  | region id ops draw =>
    cases draw with
    | true => exact draw_ok hI hW hG hf
    | false => exact region_ok hI hW hG hf
  | seq x y =>
    refine .of_steps (.one stepR_seq) (Grown.refl _ _) ?_
    exact sSeq_ok (fun _ => rfl) (hI.code x fr a b (.code y :: k) cs hW hG hf) fun g' a' w' fr' h' hg hW' hf' => hI.code y fr' a' b k cs hW' (hG.mono hg.ext.S) hf'
  | cond x y z =>
    show CodeOk P B w0 g _ b k cs (sCond E ih x y z fr h)
    unfold sCond
    split
    · rename_i t ht
      have hv := (ev_sound hf.slots hG ht).bool_inv
      refine .of_steps (.one (stepR_cond hv)) (Grown.refl _ _) ?_
      cases t with
      | true => exact hI.code y fr a b k cs hW hG hf
      | false => exact hI.code z fr a b k cs hW hG hf
    · trivial
  | block id x =>
    refine .of_steps (.one stepR_block) (Grown.refl _ _) ?_
    exact sBlock_ok (hI.code x fr a b (.inBlock id :: k) cs hW hG hf)
  | loop x =>
    refine .of_steps (.one stepR_loop) (Grown.refl _ _) ?_
    exact sSeq_ok (fun _ => rfl) (hI.code x fr a b (.inLoop x :: k) cs hW hG hf) fun g' a' w' fr' h' hg hW' hf' => hI.loop x fr' a' b k cs hW' (hG.mono hg.ext.S) hf'
  | rangeFunc f ps as bd => exact rangeFunc_ok hI hW hG hf
  | exit id => exact ⟨g, a, w, Grown.refl _ _, hW, hf, k, rfl, Steps.refl _ _⟩
  | scope x =>
    refine .of_steps (.one stepR_scope) (Grown.refl _ _) ?_
    have h1 := hI.code x fr a b (.inScope x :: k) cs hW hG hf
    have := CodeOk.pass (P := P) (x := .inScope x) (k := k) (fun _ => rfl) h1 (fun fr h => .code .normal fr h) (fun g' a' w' fr' h' hg hW' hf' => ⟨g', a', w', Grown.refl _ _, hW', hf', .one stepR_inScope⟩)
    rw [thenDo_id] at this
    exact this
  | label l => exact ⟨g, a, w, Grown.refl _ _, hW, hf, .one stepR_label⟩
  | goto l => trivial
  | ret => exact ⟨g, a, w, Grown.refl _ _, hW, hf, k, Steps.refl _ _⟩
  | refuse s => trivial

theorem loop_ok (hI : Snd P E ih) {g : Gh} {h : Heap} {w : World} (c : Code) (fr : Fr) (a : Act) (b : Frame) (k : List Item) (cs : List Frame) (hW : W B w0 g h w) (hG : GlobOk E.glob g.S) (hf : FrOk g b fr a) :
    CodeOk P B w0 g (lone (b.atR a (.inLoop c :: k)) cs w) b k cs (sCode P E ih (.loop c) fr h) := by
  refine .of_steps (.one stepR_inLoop) (Grown.refl _ _) ?_
  exact sSeq_ok (fun _ => rfl) (hI.code c fr a b (.inLoop c :: k) cs hW hG hf) fun g' a' w' fr' h' hg hW' hf' => hI.loop c fr' a' b k cs hW' (hG.mono hg.ext.S) hf'

end Go.AM
