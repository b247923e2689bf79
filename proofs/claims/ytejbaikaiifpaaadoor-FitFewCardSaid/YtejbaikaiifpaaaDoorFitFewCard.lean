/-
  subeditorlaw13.FitFew PROVED, WHATEVER THE INPUT: the law gives true, and its arguments read as before. Its card's condition alone: the listed package-level variables hold what the program's text lays.
-/
import Derived.Test.YtejbaikaiifpaaaDoorCards
import Derived.Test.YtejbaikaiifpaaaDoorTie
import Derived.Test.YtejbaikaiifpaaaDoorFewP10
import Derived.WalkKit
import Derived.ProofKit
import Derived.OpenShut
import Derived.Deep.DeepHandedRow
import Derived.Deep.DeepWitnessRowRef
import Derived.LaidMore
namespace Go.Proofs.YtejbaikaiifpaaaDoor.fitFew
open Go.ChangeShapes Go.WideShapes Go.ChangeAt Go.ChangeMaps Go.RowKit Go.AM
set_option maxRecDepth 100000

theorem own : ownKnob Tryd.prog.godebug = none := by kernel_rfl
theorem cellsB : Tryd.prog.cellsOf 5 = 1 := by kernel_rfl

theorem contract (H : Type) (enc : TypeId × Value → H) (W : World) (base : Nat) (args : Array Value) (ds gs : List (DataW H)) (before : List MemPlace)
    (hval : ∀ (j : Nat) t v, Tryd.f6.params[j]? = some t → args[j]? = some v → Value.okWide Tryd.prog W .any base t v)
    (hW : DataW.Whole enc Tryd.prog Tryd.f6.params.toList Rows.fitFewSpec.vars false W args.toList ds gs before) :
    Calls Tryd.prog 6 args W fun e W' => ∃ v, e = .returned v ∧ Rows.fitFewSpec.post enc Tryd.prog Tryd.f6 false true false false W args v W' := by
  have hW' := hW
  obtain ⟨p, q, hA0, hV, rfl, hfz, hnd⟩ := hW
  have hA : DataW.TrodAll enc Tryd.prog W 0 (fun _ => true) true Tryd.f6.params.toList args.toList ds p := hA0
  rw [Tryd.params6] at hA hval
  obtain ⟨v0, vs0, d0, ds0, p0, q0, hargs0, rfl, rfl, h0, r0⟩ := trodAll_cons hA
  obtain ⟨v1, vs1, d1, ds1, p1, q1, hargs1, rfl, rfl, h1, r1⟩ := trodAll_cons r0
  obtain ⟨v2, vs2, d2, ds2, p2, q2, hargs2, rfl, rfl, h2, r2⟩ := trodAll_cons r1
  obtain ⟨rfl, rfl, rfl⟩ := trodAll_nil r2
  obtain rfl : args = #[v0, v1, v2] := by cases args; simp_all
  obtain ⟨rfl, rfl⟩ := trodVars_none hV
  obtain ⟨⟨x0, l0, hx0, hR0⟩, sh0⟩ := open_bytes Tryd.underlying22 Tryd.underlying5 cellsB (hval 0 22 v0 rfl rfl) h0
  obtain ⟨n1, rfl, rfl, rfl, w1⟩ := open_int Tryd.underlying5 (hval 1 5 v1 rfl rfl) h1
  obtain ⟨N1, rfl, hN1⟩ := u8_wf w1
  obtain ⟨n2, rfl, rfl, rfl, w2⟩ := open_int Tryd.underlying5 (hval 2 5 v2 rfl rfl) h2
  obtain ⟨N2, rfl, hN2⟩ := u8_wf w2
  clear hA0
  refine (calls_of_true names primU Tryd.func6 (show Tryd.f6.body = some _ from rfl) (fitFew_walk x0 l0 hx0 N1 hN1 N2 hN2) globU (args_cons hR0 (args_cons (int_R _ _) (args_cons (int_R _ _) (args_nil))))).mono fun e W' ⟨he, hb⟩ => ?_
  subst he
  obtain ⟨ps0, hp0⟩ := sh0 W' hb
  exact ⟨_, rfl, _, _, _, [], _, [], hW', trodAll_cons_mk (shut_bool Tryd.underlying4 _) trodAll_mk0, trodAll_cons_mk hp0 (trodAll_cons_mk (shut_int Tryd.underlying5 w1) (trodAll_cons_mk (shut_int Tryd.underlying5 w2) (trodAll_mk0))), rfl, hb.frame _, fun h => by cases h⟩

/-- A WORLD FOR THE WITNESS: the settled one, the variables holding what their initialisers lay. -/
noncomputable def laidWorld (os : Os) : World :=
  let w0 := World.holding Tryd.prog os ⟨#[], #[], []⟩
  let put (h : Array Go.Obj) (g : Nat) (cs : Array Value) : Array Go.Obj := h.modify g fun
    | .cells _ t frozen => .cells cs t frozen
    | o => o
  let h0 := w0.heap
  let h1 := put h0 2 #[.int .u8 128, .int .u8 191, .int .u8 160, .int .u8 191, .int .u8 128, .int .u8 159, .int .u8 144, .int .u8 191, .int .u8 128, .int .u8 143, .int .u8 0, .int .u8 0, .int .u8 0, .int .u8 0, .int .u8 0, .int .u8 0, .int .u8 0, .int .u8 0, .int .u8 0, .int .u8 0, .int .u8 0, .int .u8 0, .int .u8 0, .int .u8 0, .int .u8 0, .int .u8 0, .int .u8 0, .int .u8 0, .int .u8 0, .int .u8 0, .int .u8 0, .int .u8 0]
  let h2 := put h1 1 (Go.Pinned.utf8FirstZ.map fun (z : Nat) => Value.int .u8 (z : Int)).toArray
  { w0 with heap := h2 }
theorem laid_met (os : Os) : laidMet Tryd.prog Rows.fitFewRow.laid ((laidWorld os).forCall (fun _ _ => 0) ⟨#[], #[.slice none 0 0, .int .u8 0, .int .u8 0], []⟩).memory :=
  laidMet_of_run' 8 (by kernel_rfl) (by kernel_rfl)
theorem reads (os : Os) {H : Type} (enc : TypeId × Value → H) : ∃ places, DataW.whole enc Tryd.prog ((laidWorld os).forCall (fun _ _ => 0) ⟨#[], #[.slice none 0 0, .int .u8 0, .int .u8 0], []⟩).memory Tryd.f6.params.toList Rows.fitFewSpec.vars false (#[.slice none 0 0, .int .u8 0, .int .u8 0] : Array Value).toList 8 = some ([.nil, .lit (.int .u8 0), .lit (.int .u8 0)], [], places) :=
  ⟨[], by kernel_rfl⟩

set_option maxRecDepth 100000 in
theorem lifted (os : Os) (started : os.Started) (H : Type) (enc : TypeId × Value → H) (F : Stop.Interp) :
    ReturnsInHanded {} Tryd.checked os 6 .any ((OpenSpec.ofChange Rows.fitFewSpec).preRow enc Tryd.prog Tryd.f6 Rows.fitFewRow.domain false Rows.fitFewRow.laid) (((OpenSpec.ofChange Rows.fitFewSpec).at F).post enc Tryd.prog Tryd.f6 false true false false) := by
  obtain ⟨places, hx⟩ := reads os enc
  refine returnsInHanded_of_row (C := Tryd.checked) (s := OpenSpec.ofChange Rows.fitFewSpec) own started (by kernel_rfl) Tryd.func6
    (witness_row_atRef (enc := enc) (C := Tryd.checked) false (laidWorld os) #[.slice none 0 0, .int .u8 0, .int .u8 0] rfl (by kernel_rfl) (by kernel_rfl) (by kernel_rfl)
      (OpenSpec.preRow_of_cond 8 hx (by kernel_rfl) (fun k hk => by cases hk) (by kernel_rfl) (laid_met os))) ?_
  intro W base args ds gs before hval hW _ _ _ hL _ _
  exact contract H enc W base args ds gs before hval hW

theorem fact0 : (Rows.fitFewRow.wf (OpenSpec.ofChange (OpenSpec.ofChange Rows.fitFewSpec).bare)) = true := by kernel_rfl
theorem fact1 : (laidOutB Tryd.prog) = true := by kernel_rfl
theorem fact2 : (mapsRowed Tryd.prog) = true := by kernel_rfl
theorem fact3 : (Tryd.f6.params.all (Tryd.prog.readableRec ·)) = true := by kernel_rfl
theorem fact4 : (namedTie Tryd.prog Rows.fitFewRow.named (OpenSpec.ofChange Rows.fitFewSpec).bare.vars) = true := by kernel_rfl
theorem fact5 : ((Rows.fitFewRow.stops == [])) = true := by kernel_rfl
theorem fact6 : ((Tryd.prog.stops == [])) = true := by kernel_rfl
theorem fact7 : ((Rows.fitFewRow.knobs == [])) = true := by kernel_rfl
theorem fact8 : ((Tryd.prog.stopKnobs == [])) = true := by kernel_rfl
theorem fact9 : ((Rows.fitFewRow.inPlace == Tryd.prog.inPlace 6)) = true := by kernel_rfl
theorem fact10 : ((Rows.fitFewRow.unfollowed == Tryd.prog.unfollowed 6)) = true := by kernel_rfl
theorem fact11 : ((Rows.fitFewRow.recurses == Tryd.prog.recurses 6)) = true := by kernel_rfl
theorem fact12 : ((Rows.fitFewRow.named == Tryd.prog.varsNamed 6)) = true := by kernel_rfl
theorem fact13 : ((Rows.fitFewRow.maps == (Tryd.f6.params.toList ++ (OpenSpec.ofChange Rows.fitFewSpec).bare.plain.varTypes Tryd.prog).any (Tryd.prog.mapsRec ·))) = true := by kernel_rfl
theorem fact14 : ((Rows.fitFewRow.ifaces == (Tryd.f6.params.toList ++ (OpenSpec.ofChange Rows.fitFewSpec).bare.plain.varTypes Tryd.prog).any (Tryd.prog.ifacesRec ·))) = true := by kernel_rfl
theorem fact15 : ((Rows.fitFewRow.mapsOut == Tryd.prog.mapsAmong Tryd.f6.resultTypes.toList)) = true := by kernel_rfl
theorem fact16 : ((Rows.fitFewRow.loops == (Tryd.f6.params.toList ++ (OpenSpec.ofChange Rows.fitFewSpec).bare.plain.varTypes Tryd.prog).any (Tryd.prog.loopsFrom ·))) = true := by kernel_rfl
theorem fact17 : ((Rows.fitFewRow.wideKeys == (Tryd.f6.params.toList ++ (OpenSpec.ofChange Rows.fitFewSpec).bare.plain.varTypes Tryd.prog ++ Tryd.f6.resultTypes.toList).any (Tryd.prog.wideKeysFrom ·))) = true := by kernel_rfl
theorem fact18 : ((OpenSpec.ofChange Rows.fitFewSpec).bare.vars.all (Tryd.prog.varReadable ·)) = true := by kernel_rfl
theorem fact19 : (Tryd.f6.resultTypes.all (fun t => Tryd.prog.readableRec t && decide (t < Tryd.prog.types.size))) = true := by kernel_rfl
theorem fact20 : ((Rows.fitFewRow.ifacesOut == Tryd.f6.resultTypes.toList.any (Tryd.prog.ifacesRec ·))) = true := by kernel_rfl
theorem fact21 : ((Rows.fitFewRow.loopsOut == Tryd.f6.resultTypes.toList.any (Tryd.prog.loopsFrom ·))) = true := by kernel_rfl
theorem fact22 : ((Rows.fitFewRow.plainKeys == Tryd.prog.plainKeys)) = true := by kernel_rfl
theorem fact23 : (Rows.fitFewRow.shortTexts.isNone) = true := by kernel_rfl
theorem fact24 : (Tryd.prog.stopsHeard) = true := by kernel_rfl
theorem fact25 : (Tryd.prog.mayEnter) = true := by kernel_rfl
theorem fact26 : ((Rows.fitFewRow.lifted == Tryd.prog.liftsFinal)) = true := by kernel_rfl
theorem fact27 : ((Tryd.prog.make == some Rows.fitFewRow.make)) = true := by kernel_rfl
theorem fact28 : ((Rows.fitFewRow.kinds == (if Rows.fitFewRow.domain.isEmpty then [] else Tryd.f6.params.toList.map fun t => match Tryd.prog.underlying t with | some (.int k) => some k | _ => none))) = true := by kernel_rfl
theorem fact29 : ((Rows.fitFewRow.pinned == Rows.fitFewRow.pinnedBy)) = true := by kernel_rfl
theorem fact30 : ((Rows.fitFewRow.veiled == (Tryd.f6.params.toList ++ (OpenSpec.ofChange Rows.fitFewSpec).bare.plain.varTypes Tryd.prog ++ Tryd.f6.resultTypes.toList).any (Tryd.prog.veiledRec ·))) = true := by kernel_rfl
theorem fact31 : (Rows.fitFewRow.veiledFits Tryd.prog Tryd.f6.params.toList (Tryd.f6.params.toList ++ (OpenSpec.ofChange Rows.fitFewSpec).bare.plain.varTypes Tryd.prog ++ Tryd.f6.resultTypes.toList)) = true := by kernel_rfl
theorem both {a b : Bool} (ha : a = true) (hb : b = true) : (a && b) = true := by rw [ha, hb]; rfl
theorem closed : joinedFacts Tryd.prog 6 Tryd.f6 (OpenSpec.ofChange Rows.fitFewSpec).bare Rows.fitFewRow = true :=
  both (both (both (both (both (both (both (both (both (both (both (both (both (both (both (both (both (both (both (both (both (both (both (both (both (both (both (both (both (both (both (fact0) fact1) fact2) fact3) fact4) fact5) fact6) fact7) fact8) fact9) fact10) fact11) fact12) fact13) fact14) fact15) fact16) fact17) fact18) fact19) fact20) fact21) fact22) fact23) fact24) fact25) fact26) fact27) fact28) fact29) fact30) fact31
theorem calledSo : Tryd.prog.funcNamed "subeditor/subeditorlaw13.FitFew" = some 6 := by kernel_rfl
theorem inst : Tryd.f6.isInstance Tryd.prog Rows.fitFewRow.origin Rows.fitFewRow.targs := of_decide_eq_true (by kernel_rfl)
theorem noWrap : Tryd.f6.isWrapper Tryd.prog Rows.fitFewRow.wrapper Rows.fitFewRow.mainSum := by unfold Func.isWrapper; first | (rw [if_pos (by decide +kernel)]; kernel_rfl) | (rw [if_neg (by decide +kernel)]; exact ⟨rfl, rfl⟩)
theorem said : Rows.FitFewSaid :=
  OpenClaim.holds_of_cond 6 Tryd.f6 rfl rfl rfl rfl rfl rfl rfl ⟨rfl, rfl, rfl, rfl, rfl⟩ rfl rfl rfl rfl rfl calledSo Tryd.func6 closed inst noWrap
    (fun os started H enc _ F => by rw [OpenClaim.pre_eq_preRow]; exact lifted os started H enc F)

theorem plain (f : FuncId) (fn : Func) (hf : Tryd.pinned.checked.prog.funcNamed "subeditor/subeditorlaw13.FitFew" = some f) (hfn : Tryd.pinned.checked.prog.funcs[f]? = some fn) :
    false = Tryd.pinned.checked.prog.looks [] ∧ ∀ (j : Nat) t, fn.params[j]? = some t → Tryd.pinned.checked.prog.wantsStandIn t = false := by
  obtain rfl : f = 6 := Option.some.inj ((show Tryd.prog.funcNamed "subeditor/subeditorlaw13.FitFew" = some 6 by kernel_rfl).symm.trans hf) |>.symm
  obtain rfl : fn = Tryd.f6 := (Option.some.inj (Tryd.func6.symm.trans hfn)).symm
  refine ⟨by kernel_rfl, fun j t ht => ?_⟩
  rw [Tryd.params6] at ht
  match j, ht with
  | 0, ht =>
    obtain rfl := Option.some.inj (show some 22 = some t from ht)
    exact (show Tryd.prog.wantsStandIn 22 = false by kernel_rfl)
  | 1, ht =>
    obtain rfl := Option.some.inj (show some 5 = some t from ht)
    exact (show Tryd.prog.wantsStandIn 5 = false by kernel_rfl)
  | 2, ht =>
    obtain rfl := Option.some.inj (show some 5 = some t from ht)
    exact (show Tryd.prog.wantsStandIn 5 = false by kernel_rfl)
  | _ + 3, ht => simp at ht

/-- THE CARD. -/
theorem card : Rows.FitFewCardSaid :=
  Claim7.holds_tied_plain_at .later [] _ _ _ _ said (fun _ h => by cases h) (by kernel_rfl) (fun _ h => by cases h) fitFew_row_tie rfl ⟨rfl, rfl⟩ (by kernel_rfl) rfl plain (by kernel_rfl)
end Go.Proofs.YtejbaikaiifpaaaDoor.fitFew
