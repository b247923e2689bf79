/-
  subeditorlaw08.ParseDeep PROVED, WHATEVER THE INPUT: the law gives true, and its arguments read as before. Its card's condition alone: the listed package-level variables hold what the program's text lays.
-/
import Derived.Test.YtjdahgihdceebaaGreatDoorCards
import Derived.Test.YtjdahgihdceebaaGreatDoorTie
import Derived.Test.YtjdahgihdceebaaGreatDoorFd10
import Derived.WalkKit
import Derived.ProofKit
import Derived.OpenShut
import Derived.Deep.DeepHandedRow
import Derived.Deep.DeepWitnessRowRef
import Derived.LaidMore
import Derived.Lib.LaidTab
namespace Go.Proofs.YtjdahgihdceebaaGreatDoor.parseDeep
open Go.ChangeShapes Go.WideShapes Go.ChangeAt Go.ChangeMaps Go.RowKit Go.AM
set_option maxRecDepth 100000

theorem own : ownKnob Tryz.prog.godebug = none := by kernel_rfl
theorem cellsB : Tryz.prog.cellsOf 5 = 1 := by kernel_rfl

theorem gA : Tryz.prog.globalNamed "strings.asciiSpace" = some 0 := by kernel_rfl
theorem gAType : (Tryz.prog.globals[0]?).map (·.type) = some 189 := by kernel_rfl
theorem cellsA : Tryz.prog.cellsOf 189 = 256 := by kernel_rfl
/-- WHAT THE ROW's LIST GIVES: the table of the blanks. -/
theorem table {W : World} (h : laidMetH Tryz.prog Rows.parseDeepRow.laid W) : ∀ i, i < 256 → allOf W 0 i = some (.int .u8 (asciiZ.getD i 0)) := by
  intro i hi
  have hl : laidMet Tryz.prog Rows.parseDeepRow.laid W := h
  exact laid_cell hl (show ("strings.asciiSpace", Lib.tabData .u8 asciiZ) ∈ Rows.parseDeepRow.laid by
    have e : Rows.parseDeepRow.laid[2]? = some ("strings.asciiSpace", Lib.tabData .u8 asciiZ) := by kernel_rfl
    exact List.mem_of_getElem? e) gA gAType Tryz.underlying189 Tryz.underlying5 cellsB cellsA i (by rw [show asciiZ.length = 256 by kernel_rfl]; exact hi)

theorem contract (H : Type) (enc : TypeId × Value → H) (W : World) (base : Nat) (args : Array Value) (ds gs : List (DataW H)) (before : List MemPlace)
    (hval : ∀ (j : Nat) t v, Tryz.f6.params[j]? = some t → args[j]? = some v → Value.okWide Tryz.prog W .any base t v)
    (hW : DataW.Whole enc Tryz.prog Tryz.f6.params.toList Rows.parseDeepSpec.vars false W args.toList ds gs before) (hL : laidMetH Tryz.prog Rows.parseDeepRow.laid W) :
    Calls Tryz.prog 6 args W fun e W' => ∃ v, e = .returned v ∧ Rows.parseDeepSpec.post enc Tryz.prog Tryz.f6 false true false false W args v W' := by
  have hW' := hW
  obtain ⟨p, q, hA0, hV, rfl, hfz, hnd⟩ := hW
  have hA : DataW.TrodAll enc Tryz.prog W 0 (fun _ => true) true Tryz.f6.params.toList args.toList ds p := hA0
  rw [Tryz.params6] at hA hval
  obtain ⟨v0, vs0, d0, ds0, p0, q0, hargs0, rfl, rfl, h0, r0⟩ := trodAll_cons hA
  obtain ⟨v1, vs1, d1, ds1, p1, q1, hargs1, rfl, rfl, h1, r1⟩ := trodAll_cons r0
  obtain ⟨rfl, rfl, rfl⟩ := trodAll_nil r1
  obtain rfl : args = #[v0, v1] := by cases args; simp_all
  obtain ⟨rfl, rfl⟩ := trodVars_none hV
  obtain ⟨n0, rfl, rfl, rfl, w0⟩ := open_int Tryz.underlying33 (hval 0 33 v0 rfl rfl) h0
  have b0 := Go.bounds_u16 w0
  obtain ⟨⟨x1, l1, hx1, hR1⟩, sh1⟩ := open_bytes Tryz.underlying22 Tryz.underlying5 cellsB (hval 1 22 v1 rfl rfl) h1
  clear hA0
  refine (calls_of_true names primP Tryz.func6 (show Tryz.f6.body = some _ from rfl) (parseDeep_walk n0 b0.1 b0.2 x1 l1 hx1) (globOk (table hL)) (args_cons (int_R _ _) (args_cons hR1 (args_nil)))).mono fun e W' ⟨he, hb⟩ => ?_
  subst he
  obtain ⟨ps1, hp1⟩ := sh1 W' hb
  exact ⟨_, rfl, _, _, _, [], _, [], hW', trodAll_cons_mk (shut_bool Tryz.underlying4 _) trodAll_mk0, trodAll_cons_mk (shut_int Tryz.underlying33 w0) (trodAll_cons_mk hp1 (trodAll_mk0)), rfl, hb.frame _, fun h => by cases h⟩

/-- A WORLD FOR THE WITNESS: the settled one, blocks more, the variables holding what their initialisers lay. -/
noncomputable def laidWorld (os : Os) : World :=
  let N := (World.settled Tryz.prog os).heap.size
  let w0 := World.holding Tryz.prog os ⟨#[.cells #[.int .u16 9, .int .u16 13, .int .u16 1, .int .u16 32, .int .u16 133, .int .u16 101, .int .u16 160, .int .u16 5760, .int .u16 5600, .int .u16 8192, .int .u16 8202, .int .u16 1, .int .u16 8232, .int .u16 8233, .int .u16 1, .int .u16 8239, .int .u16 8287, .int .u16 48, .int .u16 12288, .int .u16 12288, .int .u16 1] 206, .cells #[.slice (some ⟨N, 0, none⟩) 7 7, .slice none 0 0, .int .i64 2] 204], #[], []⟩
  let put (h : Array Go.Obj) (g : Nat) (cs : Array Value) : Array Go.Obj := h.modify g fun
    | .cells _ t frozen => .cells cs t frozen
    | o => o
  let h0 := w0.heap
  let h1 := put h0 4 #[.int .u8 128, .int .u8 191, .int .u8 160, .int .u8 191, .int .u8 128, .int .u8 159, .int .u8 144, .int .u8 191, .int .u8 128, .int .u8 143, .int .u8 0, .int .u8 0, .int .u8 0, .int .u8 0, .int .u8 0, .int .u8 0, .int .u8 0, .int .u8 0, .int .u8 0, .int .u8 0, .int .u8 0, .int .u8 0, .int .u8 0, .int .u8 0, .int .u8 0, .int .u8 0, .int .u8 0, .int .u8 0, .int .u8 0, .int .u8 0, .int .u8 0, .int .u8 0]
  let h2 := put h1 2 #[.pointer (some ⟨N + 1, 0, none⟩)]
  let h3 := put h2 0 (asciiZ.map fun z => Value.int .u8 z).toArray
  let h4 := put h3 3 (Go.Pinned.utf8FirstZ.map fun (z : Nat) => Value.int .u8 (z : Int)).toArray
  { w0 with heap := h4 }
theorem laid_met (os : Os) : laidMet Tryz.prog Rows.parseDeepRow.laid ((laidWorld os).forCall (fun _ _ => 0) ⟨#[], #[.int .u16 0, .slice none 0 0], []⟩).memory :=
  laidMet_of_run' 8 (by kernel_rfl) (by kernel_rfl)
theorem reads (os : Os) {H : Type} (enc : TypeId × Value → H) : ∃ places, DataW.whole enc Tryz.prog ((laidWorld os).forCall (fun _ _ => 0) ⟨#[], #[.int .u16 0, .slice none 0 0], []⟩).memory Tryz.f6.params.toList Rows.parseDeepSpec.vars false (#[.int .u16 0, .slice none 0 0] : Array Value).toList 8 = some ([.lit (.int .u16 0), .nil], [], places) :=
  ⟨[], by kernel_rfl⟩

set_option maxRecDepth 100000 in
theorem lifted (os : Os) (started : os.Started) (H : Type) (enc : TypeId × Value → H) (F : Stop.Interp) :
    ReturnsInHanded {} Tryz.checked os 6 .any ((OpenSpec.ofChange Rows.parseDeepSpec).preRow enc Tryz.prog Tryz.f6 Rows.parseDeepRow.domain false Rows.parseDeepRow.laid) (((OpenSpec.ofChange Rows.parseDeepSpec).at F).post enc Tryz.prog Tryz.f6 false true false false) := by
  obtain ⟨places, hx⟩ := reads os enc
  refine returnsInHanded_of_row (C := Tryz.checked) (s := OpenSpec.ofChange Rows.parseDeepSpec) own started (by kernel_rfl) Tryz.func6
    (witness_row_atRef (enc := enc) (C := Tryz.checked) false (laidWorld os) #[.int .u16 0, .slice none 0 0] rfl (by kernel_rfl) (by kernel_rfl) (by kernel_rfl)
      (OpenSpec.preRow_of_cond 8 hx (by kernel_rfl) (fun k hk => by cases hk) (by kernel_rfl) (laid_met os))) ?_
  intro W base args ds gs before hval hW _ _ _ hL _ _
  exact contract H enc W base args ds gs before hval hW hL

theorem fact0 : (Rows.parseDeepRow.wf (OpenSpec.ofChange (OpenSpec.ofChange Rows.parseDeepSpec).bare)) = true := by kernel_rfl
theorem fact1 : (laidOutB Tryz.prog) = true := by kernel_rfl
theorem fact2 : (mapsRowed Tryz.prog) = true := by kernel_rfl
theorem fact3 : (Tryz.f6.params.all (Tryz.prog.readableRec ·)) = true := by kernel_rfl
theorem fact4 : (namedTie Tryz.prog Rows.parseDeepRow.named (OpenSpec.ofChange Rows.parseDeepSpec).bare.vars) = true := by kernel_rfl
theorem fact5 : ((Rows.parseDeepRow.stops == [])) = true := by kernel_rfl
theorem fact6 : ((Tryz.prog.stops == [])) = true := by kernel_rfl
theorem fact7 : ((Rows.parseDeepRow.knobs == [])) = true := by kernel_rfl
theorem fact8 : ((Tryz.prog.stopKnobs == [])) = true := by kernel_rfl
theorem fact9 : ((Rows.parseDeepRow.inPlace == Tryz.prog.inPlace 6)) = true := by kernel_rfl
theorem fact10 : ((Rows.parseDeepRow.unfollowed == Tryz.prog.unfollowed 6)) = true := by kernel_rfl
theorem fact11 : ((Rows.parseDeepRow.recurses == Tryz.prog.recurses 6)) = true := by kernel_rfl
theorem fact12 : ((Rows.parseDeepRow.named == Tryz.prog.varsNamed 6)) = true := by kernel_rfl
theorem fact13 : ((Rows.parseDeepRow.maps == (Tryz.f6.params.toList ++ (OpenSpec.ofChange Rows.parseDeepSpec).bare.plain.varTypes Tryz.prog).any (Tryz.prog.mapsRec ·))) = true := by kernel_rfl
theorem fact14 : ((Rows.parseDeepRow.ifaces == (Tryz.f6.params.toList ++ (OpenSpec.ofChange Rows.parseDeepSpec).bare.plain.varTypes Tryz.prog).any (Tryz.prog.ifacesRec ·))) = true := by kernel_rfl
theorem fact15 : ((Rows.parseDeepRow.mapsOut == Tryz.prog.mapsAmong Tryz.f6.resultTypes.toList)) = true := by kernel_rfl
theorem fact16 : ((Rows.parseDeepRow.loops == (Tryz.f6.params.toList ++ (OpenSpec.ofChange Rows.parseDeepSpec).bare.plain.varTypes Tryz.prog).any (Tryz.prog.loopsFrom ·))) = true := by kernel_rfl
theorem fact17 : ((Rows.parseDeepRow.wideKeys == (Tryz.f6.params.toList ++ (OpenSpec.ofChange Rows.parseDeepSpec).bare.plain.varTypes Tryz.prog ++ Tryz.f6.resultTypes.toList).any (Tryz.prog.wideKeysFrom ·))) = true := by kernel_rfl
theorem fact18 : ((OpenSpec.ofChange Rows.parseDeepSpec).bare.vars.all (Tryz.prog.varReadable ·)) = true := by kernel_rfl
theorem fact19 : (Tryz.f6.resultTypes.all (fun t => Tryz.prog.readableRec t && decide (t < Tryz.prog.types.size))) = true := by kernel_rfl
theorem fact20 : ((Rows.parseDeepRow.ifacesOut == Tryz.f6.resultTypes.toList.any (Tryz.prog.ifacesRec ·))) = true := by kernel_rfl
theorem fact21 : ((Rows.parseDeepRow.loopsOut == Tryz.f6.resultTypes.toList.any (Tryz.prog.loopsFrom ·))) = true := by kernel_rfl
theorem fact22 : ((Rows.parseDeepRow.plainKeys == Tryz.prog.plainKeys)) = true := by kernel_rfl
theorem fact23 : (Rows.parseDeepRow.shortTexts.isNone) = true := by kernel_rfl
theorem fact24 : (Tryz.prog.stopsHeard) = true := by kernel_rfl
theorem fact25 : (Tryz.prog.mayEnter) = true := by kernel_rfl
theorem fact26 : ((Rows.parseDeepRow.lifted == Tryz.prog.liftsFinal)) = true := by kernel_rfl
theorem fact27 : ((Tryz.prog.make == some Rows.parseDeepRow.make)) = true := by kernel_rfl
theorem fact28 : ((Rows.parseDeepRow.kinds == (if Rows.parseDeepRow.domain.isEmpty then [] else Tryz.f6.params.toList.map fun t => match Tryz.prog.underlying t with | some (.int k) => some k | _ => none))) = true := by kernel_rfl
theorem fact29 : ((Rows.parseDeepRow.pinned == Rows.parseDeepRow.pinnedBy)) = true := by kernel_rfl
theorem fact30 : ((Rows.parseDeepRow.veiled == (Tryz.f6.params.toList ++ (OpenSpec.ofChange Rows.parseDeepSpec).bare.plain.varTypes Tryz.prog ++ Tryz.f6.resultTypes.toList).any (Tryz.prog.veiledRec ·))) = true := by kernel_rfl
theorem fact31 : (Rows.parseDeepRow.veiledFits Tryz.prog Tryz.f6.params.toList (Tryz.f6.params.toList ++ (OpenSpec.ofChange Rows.parseDeepSpec).bare.plain.varTypes Tryz.prog ++ Tryz.f6.resultTypes.toList)) = true := by kernel_rfl
theorem both {a b : Bool} (ha : a = true) (hb : b = true) : (a && b) = true := by rw [ha, hb]; rfl
theorem closed : joinedFacts Tryz.prog 6 Tryz.f6 (OpenSpec.ofChange Rows.parseDeepSpec).bare Rows.parseDeepRow = true :=
  both (both (both (both (both (both (both (both (both (both (both (both (both (both (both (both (both (both (both (both (both (both (both (both (both (both (both (both (both (both (both (fact0) fact1) fact2) fact3) fact4) fact5) fact6) fact7) fact8) fact9) fact10) fact11) fact12) fact13) fact14) fact15) fact16) fact17) fact18) fact19) fact20) fact21) fact22) fact23) fact24) fact25) fact26) fact27) fact28) fact29) fact30) fact31
theorem calledSo : Tryz.prog.funcNamed "subeditor/subeditorlaw08.ParseDeep" = some 6 := by kernel_rfl
theorem inst : Tryz.f6.isInstance Tryz.prog Rows.parseDeepRow.origin Rows.parseDeepRow.targs := of_decide_eq_true (by kernel_rfl)
theorem noWrap : Tryz.f6.isWrapper Tryz.prog Rows.parseDeepRow.wrapper Rows.parseDeepRow.mainSum := by unfold Func.isWrapper; first | (rw [if_pos (by decide +kernel)]; kernel_rfl) | (rw [if_neg (by decide +kernel)]; exact ⟨rfl, rfl⟩)
theorem said : Rows.ParseDeepSaid :=
  OpenClaim.holds_of_cond 6 Tryz.f6 rfl rfl rfl rfl rfl rfl rfl ⟨rfl, rfl, rfl, rfl, rfl⟩ rfl rfl rfl rfl rfl calledSo Tryz.func6 closed inst noWrap
    (fun os started H enc _ F => by rw [OpenClaim.pre_eq_preRow]; exact lifted os started H enc F)

theorem plain (f : FuncId) (fn : Func) (hf : Tryz.pinned.checked.prog.funcNamed "subeditor/subeditorlaw08.ParseDeep" = some f) (hfn : Tryz.pinned.checked.prog.funcs[f]? = some fn) :
    true = Tryz.pinned.checked.prog.looks [] ∧ ∀ (j : Nat) t, fn.params[j]? = some t → Tryz.pinned.checked.prog.wantsStandIn t = false := by
  obtain rfl : f = 6 := Option.some.inj ((show Tryz.prog.funcNamed "subeditor/subeditorlaw08.ParseDeep" = some 6 by kernel_rfl).symm.trans hf) |>.symm
  obtain rfl : fn = Tryz.f6 := (Option.some.inj (Tryz.func6.symm.trans hfn)).symm
  refine ⟨by kernel_rfl, fun j t ht => ?_⟩
  rw [Tryz.params6] at ht
  match j, ht with
  | 0, ht =>
    obtain rfl := Option.some.inj (show some 33 = some t from ht)
    exact (show Tryz.prog.wantsStandIn 33 = false by kernel_rfl)
  | 1, ht =>
    obtain rfl := Option.some.inj (show some 22 = some t from ht)
    exact (show Tryz.prog.wantsStandIn 22 = false by kernel_rfl)
  | _ + 2, ht => simp at ht

/-- THE CARD. -/
theorem card : Rows.ParseDeepCardSaid :=
  Claim7.holds_tied_plain_at .later [] _ _ _ _ said (fun _ h => by cases h) (by kernel_rfl) (fun _ h => by cases h) parseDeep_row_tie rfl ⟨rfl, rfl⟩ (by kernel_rfl) rfl plain (by kernel_rfl)
end Go.Proofs.YtjdahgihdceebaaGreatDoor.parseDeep
