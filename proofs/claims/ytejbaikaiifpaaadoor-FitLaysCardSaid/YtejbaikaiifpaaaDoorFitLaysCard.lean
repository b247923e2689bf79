/-
  subeditorlaw13.FitLays PROVED, WHATEVER THE INPUT: the law gives true, and its arguments read as before. Its card's condition alone: the listed package-level variables hold what the program's text lays.
-/
import Derived.Test.YtejbaikaiifpaaaDoorCards
import Derived.Test.YtejbaikaiifpaaaDoorTie
import Derived.Test.YtejbaikaiifpaaaDoorLaysP11
import Derived.WalkKit
import Derived.ProofKit
import Derived.OpenShut
import Derived.Deep.DeepHandedRow
import Derived.Deep.DeepWitnessRowRef
import Derived.LaidMore
namespace Go.Proofs.YtejbaikaiifpaaaDoor.fitLays
open Go.ChangeShapes Go.WideShapes Go.ChangeAt Go.ChangeMaps Go.RowKit Go.AM
set_option maxRecDepth 100000

theorem own : ownKnob Tryd.prog.godebug = none := by kernel_rfl
theorem cellsB : Tryd.prog.cellsOf 5 = 1 := by kernel_rfl

theorem contract (H : Type) (enc : TypeId × Value → H) (W : World) (base : Nat) (args : Array Value) (ds gs : List (DataW H)) (before : List MemPlace)
    (hval : ∀ (j : Nat) t v, Tryd.f3.params[j]? = some t → args[j]? = some v → Value.okWide Tryd.prog W .any base t v)
    (hW : DataW.Whole enc Tryd.prog Tryd.f3.params.toList Rows.fitLaysSpec.vars false W args.toList ds gs before) :
    Calls Tryd.prog 3 args W fun e W' => ∃ v, e = .returned v ∧ Rows.fitLaysSpec.post enc Tryd.prog Tryd.f3 false true false false W args v W' := by
  have hW' := hW
  obtain ⟨p, q, hA0, hV, rfl, hfz, hnd⟩ := hW
  have hA : DataW.TrodAll enc Tryd.prog W 0 (fun _ => true) true Tryd.f3.params.toList args.toList ds p := hA0
  rw [Tryd.params3] at hA hval
  obtain ⟨v0, vs0, d0, ds0, p0, q0, hargs0, rfl, rfl, h0, r0⟩ := trodAll_cons hA
  obtain ⟨v1, vs1, d1, ds1, p1, q1, hargs1, rfl, rfl, h1, r1⟩ := trodAll_cons r0
  obtain ⟨v2, vs2, d2, ds2, p2, q2, hargs2, rfl, rfl, h2, r2⟩ := trodAll_cons r1
  obtain ⟨v3, vs3, d3, ds3, p3, q3, hargs3, rfl, rfl, h3, r3⟩ := trodAll_cons r2
  obtain ⟨v4, vs4, d4, ds4, p4, q4, hargs4, rfl, rfl, h4, r4⟩ := trodAll_cons r3
  obtain ⟨rfl, rfl, rfl⟩ := trodAll_nil r4
  obtain rfl : args = #[v0, v1, v2, v3, v4] := by cases args; simp_all
  obtain ⟨rfl, rfl⟩ := trodVars_none hV
  obtain ⟨⟨x0, l0, hx0, hR0⟩, sh0⟩ := xb5 Tryd.underlying22 Tryd.underlying5 cellsB (hval 0 22 v0 rfl rfl) h0
  obtain ⟨n1, rfl, rfl, rfl, w1⟩ := open_int Tryd.underlying3 (hval 1 3 v1 rfl rfl) h1
  have b1 := Go.bounds_i64 w1
  obtain ⟨n2, rfl, rfl, rfl, w2⟩ := open_int Tryd.underlying3 (hval 2 3 v2 rfl rfl) h2
  have b2 := Go.bounds_i64 w2
  obtain ⟨n3, rfl, rfl, rfl, w3⟩ := open_int Tryd.underlying5 (hval 3 5 v3 rfl rfl) h3
  obtain ⟨N3, rfl, hN3⟩ := j84 w3
  obtain ⟨s4, rfl, rfl, rfl, w4⟩ := open_string Tryd.underlying9 (hval 4 9 v4 rfl rfl) h4
  clear hA0
  refine (zp7 names j88 Tryd.func3 (show Tryd.f3.body = some _ from rfl) (zu6 x0 l0 hx0 n1 b1.1 b1.2 n2 b2.1 b2.2 N3 hN3 s4.data.toList (by have h := w4; unfold maxLen at h; exact h)) j90 (qk2 hR0 (qk2 (xc6 _ _) (qk2 (xc6 _ _) (qk2 (xc6 _ _) (qk2 (j34 s4) (xu7))))))).mono fun e W' ⟨he, hb⟩ => ?_
  subst he
  obtain ⟨ps0, hp0⟩ := sh0 W' hb
  exact ⟨_, rfl, _, _, _, [], _, [], hW', trodAll_cons_mk (shut_bool Tryd.underlying4 _) trodAll_mk0, trodAll_cons_mk hp0 (trodAll_cons_mk (shut_int Tryd.underlying3 w1) (trodAll_cons_mk (shut_int Tryd.underlying3 w2) (trodAll_cons_mk (shut_int Tryd.underlying5 w3) (trodAll_cons_mk (shut_string Tryd.underlying9 w4) (trodAll_mk0))))), rfl, hb.frame _, fun h => by cases h⟩

/-- A WORLD FOR THE WITNESS: the settled one, the variables holding what their initialisers lay. -/
noncomputable def z59 (os : Os) : World :=
  let w0 := World.holding Tryd.prog os ⟨#[], #[], []⟩
  let put (h : Array Go.Obj) (g : Nat) (cs : Array Value) : Array Go.Obj := h.modify g fun
    | .cells _ t frozen => .cells cs t frozen
    | o => o
  let h0 := w0.heap
  let h1 := put h0 2 #[.int .u8 128, .int .u8 191, .int .u8 160, .int .u8 191, .int .u8 128, .int .u8 159, .int .u8 144, .int .u8 191, .int .u8 128, .int .u8 143, .int .u8 0, .int .u8 0, .int .u8 0, .int .u8 0, .int .u8 0, .int .u8 0, .int .u8 0, .int .u8 0, .int .u8 0, .int .u8 0, .int .u8 0, .int .u8 0, .int .u8 0, .int .u8 0, .int .u8 0, .int .u8 0, .int .u8 0, .int .u8 0, .int .u8 0, .int .u8 0, .int .u8 0, .int .u8 0]
  let h2 := put h1 1 (Go.Pinned.utf8FirstZ.map fun (z : Nat) => Value.int .u8 (z : Int)).toArray
  { w0 with heap := h2 }
theorem xp7 (os : Os) : laidMet Tryd.prog Rows.fitLaysRow.laid ((z59 os).forCall (fun _ _ => 0) ⟨#[], #[.slice none 0 0, .int .i64 0, .int .i64 0, .int .u8 0, .string ⟨#[]⟩], []⟩).memory :=
  laidMet_of_run' 8 (by kernel_rfl) (by kernel_rfl)
theorem reads (os : Os) {H : Type} (enc : TypeId × Value → H) : ∃ places, DataW.whole enc Tryd.prog ((z59 os).forCall (fun _ _ => 0) ⟨#[], #[.slice none 0 0, .int .i64 0, .int .i64 0, .int .u8 0, .string ⟨#[]⟩], []⟩).memory Tryd.f3.params.toList Rows.fitLaysSpec.vars false (#[.slice none 0 0, .int .i64 0, .int .i64 0, .int .u8 0, .string ⟨#[]⟩] : Array Value).toList 8 = some ([.nil, .lit (.int .i64 0), .lit (.int .i64 0), .lit (.int .u8 0), .lit (.string [])], [], places) :=
  ⟨[], by kernel_rfl⟩

set_option maxRecDepth 100000 in
theorem j39 (os : Os) (started : os.Started) (H : Type) (enc : TypeId × Value → H) (F : Stop.Interp) :
    ReturnsInHanded {} Tryd.checked os 3 .any ((OpenSpec.ofChange Rows.fitLaysSpec).preRow enc Tryd.prog Tryd.f3 Rows.fitLaysRow.domain false Rows.fitLaysRow.laid) (((OpenSpec.ofChange Rows.fitLaysSpec).at F).post enc Tryd.prog Tryd.f3 false true false false) := by
  obtain ⟨places, hx⟩ := reads os enc
  refine returnsInHanded_of_row (C := Tryd.checked) (s := OpenSpec.ofChange Rows.fitLaysSpec) own started (by kernel_rfl) Tryd.func3
    (witness_row_atRef (enc := enc) (C := Tryd.checked) false (z59 os) #[.slice none 0 0, .int .i64 0, .int .i64 0, .int .u8 0, .string ⟨#[]⟩] rfl (by kernel_rfl) (by kernel_rfl) (by kernel_rfl)
      (OpenSpec.preRow_of_cond 8 hx (by kernel_rfl) (fun k hk => by cases hk) (by kernel_rfl) (xp7 os))) ?_
  intro W base args ds gs before hval hW _ _ _ hL _ _
  exact contract H enc W base args ds gs before hval hW

theorem jb4 : (Rows.fitLaysRow.wf (OpenSpec.ofChange (OpenSpec.ofChange Rows.fitLaysSpec).bare)) = true := by kernel_rfl
theorem j91 : (laidOutB Tryd.prog) = true := by kernel_rfl
theorem j89 : (mapsRowed Tryd.prog) = true := by kernel_rfl
theorem ja5 : (Tryd.f3.params.all (Tryd.prog.readableRec ·)) = true := by kernel_rfl
theorem jb1 : (namedTie Tryd.prog Rows.fitLaysRow.named (OpenSpec.ofChange Rows.fitLaysSpec).bare.vars) = true := by kernel_rfl
theorem j80 : ((Rows.fitLaysRow.stops == [])) = true := by kernel_rfl
theorem jb2 : ((Tryd.prog.stops == [])) = true := by kernel_rfl
theorem j79 : ((Rows.fitLaysRow.knobs == [])) = true := by kernel_rfl
theorem j98 : ((Tryd.prog.stopKnobs == [])) = true := by kernel_rfl
theorem ja6 : ((Rows.fitLaysRow.inPlace == Tryd.prog.inPlace 3)) = true := by kernel_rfl
theorem j68 : ((Rows.fitLaysRow.unfollowed == Tryd.prog.unfollowed 3)) = true := by kernel_rfl
theorem j71 : ((Rows.fitLaysRow.recurses == Tryd.prog.recurses 3)) = true := by kernel_rfl
theorem j60 : ((Rows.fitLaysRow.named == Tryd.prog.varsNamed 3)) = true := by kernel_rfl
theorem j52 : ((Rows.fitLaysRow.maps == (Tryd.f3.params.toList ++ (OpenSpec.ofChange Rows.fitLaysSpec).bare.plain.varTypes Tryd.prog).any (Tryd.prog.mapsRec ·))) = true := by kernel_rfl
theorem j55 : ((Rows.fitLaysRow.ifaces == (Tryd.f3.params.toList ++ (OpenSpec.ofChange Rows.fitLaysSpec).bare.plain.varTypes Tryd.prog).any (Tryd.prog.ifacesRec ·))) = true := by kernel_rfl
theorem j43 : ((Rows.fitLaysRow.mapsOut == Tryd.prog.mapsAmong Tryd.f3.resultTypes.toList)) = true := by kernel_rfl
theorem j57 : ((Rows.fitLaysRow.loops == (Tryd.f3.params.toList ++ (OpenSpec.ofChange Rows.fitLaysSpec).bare.plain.varTypes Tryd.prog).any (Tryd.prog.loopsFrom ·))) = true := by kernel_rfl
theorem j46 : ((Rows.fitLaysRow.wideKeys == (Tryd.f3.params.toList ++ (OpenSpec.ofChange Rows.fitLaysSpec).bare.plain.varTypes Tryd.prog ++ Tryd.f3.resultTypes.toList).any (Tryd.prog.wideKeysFrom ·))) = true := by kernel_rfl
theorem j31 : ((OpenSpec.ofChange Rows.fitLaysSpec).bare.vars.all (Tryd.prog.varReadable ·)) = true := by kernel_rfl
theorem j61 : (Tryd.f3.resultTypes.all (fun t => Tryd.prog.readableRec t && decide (t < Tryd.prog.types.size))) = true := by kernel_rfl
theorem j37 : ((Rows.fitLaysRow.ifacesOut == Tryd.f3.resultTypes.toList.any (Tryd.prog.ifacesRec ·))) = true := by kernel_rfl
theorem j59 : ((Rows.fitLaysRow.loopsOut == Tryd.f3.resultTypes.toList.any (Tryd.prog.loopsFrom ·))) = true := by kernel_rfl
theorem j32 : ((Rows.fitLaysRow.plainKeys == Tryd.prog.plainKeys)) = true := by kernel_rfl
theorem j54 : (Rows.fitLaysRow.shortTexts.isNone) = true := by kernel_rfl
theorem j58 : (Tryd.prog.stopsHeard) = true := by kernel_rfl
theorem j42 : (Tryd.prog.mayEnter) = true := by kernel_rfl
theorem j72 : ((Rows.fitLaysRow.lifted == Tryd.prog.liftsFinal)) = true := by kernel_rfl
theorem j49 : ((Tryd.prog.make == some Rows.fitLaysRow.make)) = true := by kernel_rfl
theorem j65 : ((Rows.fitLaysRow.kinds == (if Rows.fitLaysRow.domain.isEmpty then [] else Tryd.f3.params.toList.map fun t => match Tryd.prog.underlying t with | some (.int k) => some k | _ => none))) = true := by kernel_rfl
theorem j48 : ((Rows.fitLaysRow.pinned == Rows.fitLaysRow.pinnedBy)) = true := by kernel_rfl
theorem j62 : ((Rows.fitLaysRow.veiled == (Tryd.f3.params.toList ++ (OpenSpec.ofChange Rows.fitLaysSpec).bare.plain.varTypes Tryd.prog ++ Tryd.f3.resultTypes.toList).any (Tryd.prog.veiledRec ·))) = true := by kernel_rfl
theorem j47 : (Rows.fitLaysRow.veiledFits Tryd.prog Tryd.f3.params.toList (Tryd.f3.params.toList ++ (OpenSpec.ofChange Rows.fitLaysSpec).bare.plain.varTypes Tryd.prog ++ Tryd.f3.resultTypes.toList)) = true := by kernel_rfl
theorem both {a b : Bool} (ha : a = true) (hb : b = true) : (a && b) = true := by rw [ha, hb]; rfl
theorem closed : joinedFacts Tryd.prog 3 Tryd.f3 (OpenSpec.ofChange Rows.fitLaysSpec).bare Rows.fitLaysRow = true :=
  both (both (both (both (both (both (both (both (both (both (both (both (both (both (both (both (both (both (both (both (both (both (both (both (both (both (both (both (both (both (both (jb4) j91) j89) ja5) jb1) j80) jb2) j79) j98) ja6) j68) j71) j60) j52) j55) j43) j57) j46) j31) j61) j37) j59) j32) j54) j58) j42) j72) j49) j65) j48) j62) j47
theorem xt9 : Tryd.prog.funcNamed "subeditor/subeditorlaw13.FitLays" = some 3 := by kernel_rfl
theorem inst : Tryd.f3.isInstance Tryd.prog Rows.fitLaysRow.origin Rows.fitLaysRow.targs := of_decide_eq_true (by kernel_rfl)
theorem j36 : Tryd.f3.isWrapper Tryd.prog Rows.fitLaysRow.wrapper Rows.fitLaysRow.mainSum := by unfold Func.isWrapper; first | (rw [if_pos (by decide +kernel)]; kernel_rfl) | (rw [if_neg (by decide +kernel)]; exact ⟨rfl, rfl⟩)
theorem said : Rows.FitLaysSaid :=
  OpenClaim.holds_of_cond 3 Tryd.f3 rfl rfl rfl rfl rfl rfl rfl ⟨rfl, rfl, rfl, rfl, rfl⟩ rfl rfl rfl rfl rfl xt9 Tryd.func3 closed inst j36
    (fun os started H enc _ F => by rw [OpenClaim.pre_eq_preRow]; exact j39 os started H enc F)

theorem z81 (f : FuncId) (fn : Func) (hf : Tryd.pinned.checked.prog.funcNamed "subeditor/subeditorlaw13.FitLays" = some f) (hfn : Tryd.pinned.checked.prog.funcs[f]? = some fn) :
    false = Tryd.pinned.checked.prog.looks [] ∧ ∀ (j : Nat) t, fn.params[j]? = some t → Tryd.pinned.checked.prog.wantsStandIn t = false := by
  obtain rfl : f = 3 := Option.some.inj ((show Tryd.prog.funcNamed "subeditor/subeditorlaw13.FitLays" = some 3 by kernel_rfl).symm.trans hf) |>.symm
  obtain rfl : fn = Tryd.f3 := (Option.some.inj (Tryd.func3.symm.trans hfn)).symm
  refine ⟨by kernel_rfl, fun j t ht => ?_⟩
  rw [Tryd.params3] at ht
  match j, ht with
  | 0, ht =>
    obtain rfl := Option.some.inj (show some 22 = some t from ht)
    exact (show Tryd.prog.wantsStandIn 22 = false by kernel_rfl)
  | 1, ht =>
    obtain rfl := Option.some.inj (show some 3 = some t from ht)
    exact (show Tryd.prog.wantsStandIn 3 = false by kernel_rfl)
  | 2, ht =>
    obtain rfl := Option.some.inj (show some 3 = some t from ht)
    exact (show Tryd.prog.wantsStandIn 3 = false by kernel_rfl)
  | 3, ht =>
    obtain rfl := Option.some.inj (show some 5 = some t from ht)
    exact (show Tryd.prog.wantsStandIn 5 = false by kernel_rfl)
  | 4, ht =>
    obtain rfl := Option.some.inj (show some 9 = some t from ht)
    exact (show Tryd.prog.wantsStandIn 9 = false by kernel_rfl)
  | _ + 5, ht => simp at ht

/-- THE CARD. -/
theorem card : Rows.FitLaysCardSaid :=
  Claim7.holds_tied_plain_at .later [] _ _ _ _ said (fun _ h => by cases h) (by kernel_rfl) (fun _ h => by cases h) fitLays_row_tie rfl ⟨rfl, rfl⟩ (by kernel_rfl) rfl z81 (by kernel_rfl)
end Go.Proofs.YtejbaikaiifpaaaDoor.fitLays
