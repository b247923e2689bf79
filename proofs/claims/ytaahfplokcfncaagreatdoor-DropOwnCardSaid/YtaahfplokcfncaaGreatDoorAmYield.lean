/-
  A round of a loop over a function.
-/
import Derived.Test.YtaahfplokcfncaaGreatDoorAmCall
namespace Go.AM
open Go.RowKit

variable {P : Program} {E : Env} {ih : Task → Res} {B : Nat} {w0 : World}

theorem setParams_ok {g : Gh} {n : Nat} (ps : List Tmp) : ∀ (us : List Value) (args : List V) (tm tm' : T V) (tmps : Array Value), us.length = args.length → (∀ (i : Nat) v x, us[i]? = some v → args[i]? = some x → R g v x) → Slots g n tm tmps → setParams ps n args tm = some tm' →
    args.length = ps.length ∧ Slots g n tm' ((ps.zip us).foldl (fun (t : Array Value) (p : Tmp × Value) => t.setIfInBounds p.1 p.2) tmps) := by
  induction ps with
  | nil =>
    intro us args tm tm' tmps hl hr hs h
    cases args with
    | nil => cases h; exact ⟨rfl, hs⟩
    | cons _ _ => cases h
  | cons p ps IH =>
    intro us args tm tm' tmps hl hr hs h
    cases args with
    | nil => cases h
    | cons x args =>
      cases us with
      | nil => simp at hl
      | cons u us =>
        change (bif Nat.blt p n then setParams ps n args (tm.set undef x p) else .none) = some tm' at h
        obtain ⟨hb, h⟩ := bif_some h rfl
        rw [Nat.blt_eq] at hb
        obtain ⟨h1, h2⟩ := IH us args _ tm' (tmps.setIfInBounds p u) (by simpa using hl) (fun i v x a c => hr (i + 1) v x (by simpa using a) (by simpa using c)) (hs.set hb (hr 0 u x rfl rfl)) h
        exact ⟨by simp [h1], by simpa using h2⟩

theorem endRound_eq {w : World} {b : Nat} {L : Loop} (h : w.heap[b]? = some (.loop L)) (j : Option Code) (st : LoopState) (hst : st = if j.isNone then .ready else .done) : (Instr.endRound b j).run P w = .ok (.bool j.isNone) (w.putObj b (.loop { L with state := st, pending := j })) := by
  rw [run_endRound j h, hst]

theorem yield_ok (hI : Snd P E ih) {g : Gh} {h : Heap} {w : World} (c : Frame) (cs : List Frame) (l b : Nat) (k : Nat × Nat) (args : List V) (us : Array Value) (hW : W B w0 g h w) (hG : GlobOk E.glob g.S) (hv : g.vr l = none) (hm : g.mu l = some (b, k)) (hs : Rs' g us args) :
    YieldOk P B w0 g c cs b us w (sYield ih l args h) := by
  unfold sYield
  split
  · rename_i st pe fn n tm ps as bd d hget
    have hobj := hW.obj l _ hm
    rw [hget] at hobj
    obtain ⟨hz, L, h1, h2, h3, h4, h5, h6, h7, h8, h9, h10, kd, h11⟩ := hobj
    split
    · trivial
    · rename_i tm' htm
      have hus : us.toList.length = args.length := by simpa using hs.1
      obtain ⟨hlen, hslots⟩ := setParams_ok ps us.toList args tm tm' L.tmps hus (fun i v x a q => hs.2 i v x (by simpa using a) q) ⟨h5, h6, hz⟩ htm
      have hround := run_yield (P := P) (args := us) h1 (by rw [hs.1, hlen, ← h7]; simp)
      have htmps : (L.params.zip us).foldl (fun tmps (t, a) => tmps.setIfInBounds t a) L.tmps = (ps.zip us.toList).foldl (fun (t : Array Value) (p : Tmp × Value) => t.setIfInBounds p.1 p.2) L.tmps := by
        rw [← Array.foldl_toList, Array.toList_zip, h7]
      rw [htmps] at hround
      let bf : Frame := { (default : Frame) with fn := fn, kind := .normal, roundOf := some b }
      let a : Act := { tmps := (ps.zip us.toList).foldl (fun (t : Array Value) (p : Tmp × Value) => t.setIfInBounds p.1 p.2) L.tmps, defers := [] }
      have hfr0 : Frame.round b fn a.tmps as bd .normal = bf.atR a [.code as, .beginRound, .code bd] := rfl
      have hf0 : FrOk g bf ⟨fn, n, tm', [], [], some l, none, false⟩ a := ⟨rfl, hslots, ⟨b, k, rfl, hv, hm⟩, DefsOk.nil g⟩
      rw [h4, h8, h9] at hround
      have hc := hI.code as _ a bf [.beginRound, .code bd] (c :: cs) hW hG hf0
      rw [← hfr0] at hc
      cases hr : ih (.code as ⟨fn, n, tm', [], [], some l, none, false⟩ h) with
      | none _ _ => trivial
      | ret _ _ => rw [hr] at hc; exact hc.elim
      | panic _ _ => rw [hr] at hc; exact hc.elim
      | dret _ _ => rw [hr] at hc; exact hc.elim
      | code e fr h1' =>
        rw [hr] at hc
        obtain ⟨g1, a1, w1, hg1, hW1, hf1, hA⟩ := hc
        cases e with
        | normal =>
          obtain ⟨hv1, hm1⟩ := hg1.ext.obj _ _ hv hm
          change YieldOk P B w0 g c cs b us w (endRound l (match h1'.get l with | .loop st pend fn n tm ps a b d => (match st with | .ready => ih (.code bd fr (h1'.set l (.loop .busy pend fn n tm ps a b d))) | _ => .none l .none) | _ => .none l .none))
          split
          · rename_i st1 pe1 fn1 n1 tm1 ps1 as1 bd1 d1 hget1
            split
            · obtain ⟨L1, q1, q2, q3, hW2⟩ := W.setLoop (st' := .busy) (pe' := pe1) hW1 hv1 hm1 hget1
              have hb1 := run_beginRound (P := P) q1 q2
              have hL1 : ({ L1 with state := .busy, pending := pe1 } : Loop) = { L1 with state := .busy } := by rw [← q3]
              rw [hL1] at hW2
              have hst2 : Steps P (lone (Frame.round b fn a.tmps as bd .normal) (c :: cs) w) (lone (bf.atR a1 [.code bd]) (c :: cs) _) := Steps.trans hA (.one (stepR_beginRound (b := bf) rfl hb1))
              have hc2 := hI.code bd fr a1 bf [] (c :: cs) hW2 (hG.mono hg1.ext.S) hf1
              cases hr2 : ih (.code bd fr (h1'.set l (.loop .busy pe1 fn1 n1 tm1 ps1 as1 bd1 d1))) with
              | none _ _ => trivial
              | ret _ _ => rw [hr2] at hc2; exact hc2.elim
              | panic _ _ => rw [hr2] at hc2; exact hc2.elim
              | dret _ _ => rw [hr2] at hc2; exact hc2.elim
              | code e2 fr2 h2 =>
                rw [hr2] at hc2
                obtain ⟨g2, a2, w2, hg2, hW2', hf2, hA2⟩ := hc2
                obtain ⟨hv2, hm2⟩ := hg2.ext.obj _ _ hv1 hm1
                have hgg := hg1.trans hg2
                unfold endRound
                simp only
                split
                · rename_i st2 pe2 fn2 n2 tm2 ps2 as2 bd2 d2 hget2
                  split
                  · have last : ∀ (j : Option Code) (st : LoopState), (st = if j.isNone then .ready else .done) → ∃ v w', (Instr.endRound b j).run P w2 = .ok (.bool j.isNone) w' ∧ W B w0 g2 (h2.set l (.loop st j fn2 n2 tm2 ps2 as2 bd2 d2)) w' ∧ v = Value.bool j.isNone := by
                      intro j st hst
                      obtain ⟨L2, q1, q2, q3, hW3⟩ := W.setLoop (st' := st) (pe' := j) hW2' hv2 hm2 hget2
                      exact ⟨_, _, endRound_eq q1 j st hst, hW3, rfl⟩
                    cases e2 with
                    | normal =>
                      obtain ⟨v, w', e1, e2, rfl⟩ := last none .ready rfl
                      exact ⟨g2, w', _, hgg, e2, .gnd (.bool _), fn, _, as, bd, hround, hst2.trans (Steps.trans hA2 (.one (stepR_round_end (b := bf) rfl rfl e1)))⟩
                    | ret =>
                      obtain ⟨todo, hA3⟩ := hA2
                      obtain ⟨v, w', e1, e2, rfl⟩ := last (some .ret) .done rfl
                      exact ⟨g2, w', _, hgg, e2, .gnd (.bool _), fn, _, as, bd, hround, hst2.trans (Steps.trans hA3 (.one (stepR_round_ret (b := bf) rfl rfl e1)))⟩
                    | exit id =>
                      obtain ⟨todo, hx, hA3⟩ := hA2
                      obtain ⟨v, w', e1, e2, rfl⟩ := last (some (.exit id)) .done rfl
                      exact ⟨g2, w', _, hgg, e2, .gnd (.bool _), fn, _, as, bd, hround, hst2.trans (Steps.trans hA3 (.one (stepR_round_exit (b := bf) rfl rfl hx e1)))⟩
                    | goto l => trivial
                    | panic y => trivial
                  · trivial
                · trivial
            · trivial
          · trivial
        | exit id => trivial
        | goto l => trivial
        | ret => trivial
        | panic y => trivial
  · trivial

end Go.AM
