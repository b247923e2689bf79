/-
  subeditorlaw15.TidySpreads PROVED, WHATEVER THE INPUT: the law gives true, and its arguments read as before. Its card's condition alone: the listed package-level variables hold what the program's text lays.
-/
import Derived.Test.YtcfdhkmbooipbaaGreatDoorCards
import Derived.Test.YtcfdhkmbooipbaaGreatDoorTie
import Derived.Test.YtcfdhkmbooipbaaGreatDoorTt10
import Derived.WalkKit
import Derived.ProofKit
import Derived.OpenShut
import Derived.Deep.DeepHandedRow
import Derived.Deep.DeepWitnessRowRef
import Derived.LaidMore
import Derived.Lib.LaidTab
namespace Go.Proofs.YtcfdhkmbooipbaaGreatDoor.tidySpreads
open Go.ChangeShapes Go.WideShapes Go.ChangeAt Go.ChangeMaps Go.RowKit Go.AM
set_option maxRecDepth 100000

theorem own : ownKnob Tryz.prog.godebug = none := by kernel_rfl
theorem cellsB : Tryz.prog.cellsOf 5 = 1 := by kernel_rfl

theorem gA : Tryz.prog.globalNamed "strings.asciiSpace" = some 3 := by kernel_rfl
theorem gAType : (Tryz.prog.globals[3]?).map (·.type) = some 282 := by kernel_rfl
theorem cellsA : Tryz.prog.cellsOf 282 = 256 := by kernel_rfl
/-- WHAT THE ROW's LIST GIVES: the table of the blanks. -/
theorem table {W : World} (h : laidMetH Tryz.prog Rows.tidySpreadsRow.laid W) : ∀ i, i < 256 → allOf W 3 i = some (.int .u8 (asciiZ.getD i 0)) := by
  intro i hi
  have hl : laidMet Tryz.prog Rows.tidySpreadsRow.laid W := h
  exact laid_cell hl (show ("strings.asciiSpace", Lib.tabData .u8 asciiZ) ∈ Rows.tidySpreadsRow.laid by
    have e : Rows.tidySpreadsRow.laid[2]? = some ("strings.asciiSpace", Lib.tabData .u8 asciiZ) := by kernel_rfl
    exact List.mem_of_getElem? e) gA gAType Tryz.underlying282 Tryz.underlying5 cellsB cellsA i (by rw [show asciiZ.length = 256 by kernel_rfl]; exact hi)

theorem contract (H : Type) (enc : TypeId × Value → H) (W : World) (base : Nat) (args : Array Value) (ds gs : List (DataW H)) (before : List MemPlace)
    (hval : ∀ (j : Nat) t v, Tryz.f3.params[j]? = some t → args[j]? = some v → Value.okWide Tryz.prog W .any base t v)
    (hW : DataW.Whole enc Tryz.prog Tryz.f3.params.toList Rows.tidySpreadsSpec.vars false W args.toList ds gs before) (hL : laidMetH Tryz.prog Rows.tidySpreadsRow.laid W) :
    Calls Tryz.prog 3 args W fun e W' => ∃ v, e = .returned v ∧ Rows.tidySpreadsSpec.post enc Tryz.prog Tryz.f3 false true false false W args v W' := by
  have hW' := hW
  obtain ⟨p, q, hA0, hV, rfl, hfz, hnd⟩ := hW
  have hA : DataW.TrodAll enc Tryz.prog W 0 (fun _ => true) true Tryz.f3.params.toList args.toList ds p := hA0
  rw [Tryz.params3] at hA hval
  obtain ⟨v0, vs0, d0, ds0, p0, q0, hargs0, rfl, rfl, h0, r0⟩ := trodAll_cons hA
  obtain ⟨v1, vs1, d1, ds1, p1, q1, hargs1, rfl, rfl, h1, r1⟩ := trodAll_cons r0
  obtain ⟨v2, vs2, d2, ds2, p2, q2, hargs2, rfl, rfl, h2, r2⟩ := trodAll_cons r1
  obtain ⟨rfl, rfl, rfl⟩ := trodAll_nil r2
  obtain rfl : args = #[v0, v1, v2] := by cases args; simp_all
  obtain ⟨rfl, rfl⟩ := trodVars_none hV
  obtain ⟨⟨x0, l0, hx0, hR0⟩, sh0⟩ := open_bytes Tryz.underlying22 Tryz.underlying5 cellsB (hval 0 22 v0 rfl rfl) h0
  obtain ⟨⟨x1, l1, hx1, hR1⟩, sh1⟩ := open_bytes Tryz.underlying22 Tryz.underlying5 cellsB (hval 1 22 v1 rfl rfl) h1
  have k2 := h2
  obtain ⟨fu2, hf2⟩ := h2
  have e2 := slice_cells Tryz.underlying23 (hval 2 23 v2 rfl rfl)
  obtain ⟨w2, m2, _, l2, _, G2⟩ := open_marks Tryz.underlying23 Tryz.underlying4 (by kernel_rfl) hf2
  clear hA0
  refine (calls_of_true names primP Tryz.func3 (show Tryz.f3.body = some _ from rfl) (tidySpreads_walk x0 l0 hx0 (bytes_len Tryz.underlying22 (hval 0 22 v0 rfl rfl) hx0 hR0) x1 l1 hx1 (bytes_len Tryz.underlying22 (hval 1 22 v1 rfl rfl) hx1 hR1) l2) (globOk (table hL)) (args_cons hR0 (args_cons hR1 (args_cons (arg_R e2 m2 G2) (args_nil))))).mono fun e W' ⟨he, hb⟩ => ?_
  subst he
  obtain ⟨ps0, hp0⟩ := sh0 W' hb
  obtain ⟨ps1, hp1⟩ := sh1 W' hb
  have kept2 := Below.trod (show laidOutB Tryz.prog = true by kernel_rfl) (show Tryz.prog.readableRec 23 = true by kernel_rfl) (of_decide_eq_true (by kernel_rfl)) k2 hb (fun x hx => by simpa using hW'.lt x (by simp [hx]))
  exact ⟨_, rfl, _, _, _, [], _, [], hW', trodAll_cons_mk (shut_bool Tryz.underlying4 _) trodAll_mk0, trodAll_cons_mk hp0 (trodAll_cons_mk hp1 (trodAll_cons_mk kept2 (trodAll_mk0))), rfl, hb.frame _, fun h => by cases h⟩

/-- A WORLD FOR THE WITNESS: the settled one, blocks more, the variables holding what their initialisers lay. -/
noncomputable def laidWorld (os : Os) : World :=
  let N := (World.settled Tryz.prog os).heap.size
  let w0 := World.holding Tryz.prog os ⟨#[.cells #[.int .u16 9, .int .u16 13, .int .u16 1, .int .u16 32, .int .u16 133, .int .u16 101, .int .u16 160, .int .u16 5760, .int .u16 5600, .int .u16 8192, .int .u16 8202, .int .u16 1, .int .u16 8232, .int .u16 8233, .int .u16 1, .int .u16 8239, .int .u16 8287, .int .u16 48, .int .u16 12288, .int .u16 12288, .int .u16 1] 308, .cells #[.slice (some ⟨N, 0, none⟩) 7 7, .slice none 0 0, .int .i64 2] 306], #[], []⟩
  let put (h : Array Go.Obj) (g : Nat) (cs : Array Value) : Array Go.Obj := h.modify g fun
    | .cells _ t frozen => .cells cs t frozen
    | o => o
  let h0 := w0.heap
  let h1 := put h0 2 #[.int .u8 128, .int .u8 191, .int .u8 160, .int .u8 191, .int .u8 128, .int .u8 159, .int .u8 144, .int .u8 191, .int .u8 128, .int .u8 143, .int .u8 0, .int .u8 0, .int .u8 0, .int .u8 0, .int .u8 0, .int .u8 0, .int .u8 0, .int .u8 0, .int .u8 0, .int .u8 0, .int .u8 0, .int .u8 0, .int .u8 0, .int .u8 0, .int .u8 0, .int .u8 0, .int .u8 0, .int .u8 0, .int .u8 0, .int .u8 0, .int .u8 0, .int .u8 0]
  let h2 := put h1 4 #[.pointer (some ⟨N + 1, 0, none⟩)]
  let h3 := put h2 3 (asciiZ.map fun z => Value.int .u8 z).toArray
  let h4 := put h3 1 (Go.Pinned.utf8FirstZ.map fun (z : Nat) => Value.int .u8 (z : Int)).toArray
  { w0 with heap := h4 }
theorem laid_met (os : Os) : laidMet Tryz.prog Rows.tidySpreadsRow.laid ((laidWorld os).forCall (fun _ _ => 0) ⟨#[], #[.slice none 0 0, .slice none 0 0, .slice none 0 0], []⟩).memory :=
  laidMet_of_run' 8 (by kernel_rfl) (by kernel_rfl)
theorem reads (os : Os) {H : Type} (enc : TypeId × Value → H) : ∃ places, DataW.whole enc Tryz.prog ((laidWorld os).forCall (fun _ _ => 0) ⟨#[], #[.slice none 0 0, .slice none 0 0, .slice none 0 0], []⟩).memory Tryz.f3.params.toList Rows.tidySpreadsSpec.vars false (#[.slice none 0 0, .slice none 0 0, .slice none 0 0] : Array Value).toList 8 = some ([.nil, .nil, .nil], [], places) :=
  ⟨[], by kernel_rfl⟩

set_option maxRecDepth 100000 in
theorem lifted (os : Os) (started : os.Started) (H : Type) (enc : TypeId × Value → H) (F : Stop.Interp) :
    ReturnsInHanded {} Tryz.checked os 3 .any ((OpenSpec.ofChange Rows.tidySpreadsSpec).preRow enc Tryz.prog Tryz.f3 Rows.tidySpreadsRow.domain false Rows.tidySpreadsRow.laid) (((OpenSpec.ofChange Rows.tidySpreadsSpec).at F).post enc Tryz.prog Tryz.f3 false true false false) := by
  obtain ⟨places, hx⟩ := reads os enc
  refine returnsInHanded_of_row (C := Tryz.checked) (s := OpenSpec.ofChange Rows.tidySpreadsSpec) own started (by kernel_rfl) Tryz.func3
    (witness_row_atRef (enc := enc) (C := Tryz.checked) false (laidWorld os) #[.slice none 0 0, .slice none 0 0, .slice none 0 0] rfl (by kernel_rfl) (by kernel_rfl) (by kernel_rfl)
      (OpenSpec.preRow_of_cond 8 hx (by kernel_rfl) (fun k hk => by cases hk) (by kernel_rfl) (laid_met os))) ?_
  intro W base args ds gs before hval hW _ _ _ hL _ _
  exact contract H enc W base args ds gs before hval hW hL

theorem fact0 : (Rows.tidySpreadsRow.wf (OpenSpec.ofChange (OpenSpec.ofChange Rows.tidySpreadsSpec).bare)) = true := by kernel_rfl
theorem fact1 : (laidOutB Tryz.prog) = true := by kernel_rfl
theorem fact2 : (mapsRowed Tryz.prog) = true := by kernel_rfl
theorem fact3 : (Tryz.f3.params.all (Tryz.prog.readableRec ·)) = true := by kernel_rfl
theorem fact4 : (namedTie Tryz.prog Rows.tidySpreadsRow.named (OpenSpec.ofChange Rows.tidySpreadsSpec).bare.vars) = true := by kernel_rfl
theorem fact5 : ((Rows.tidySpreadsRow.stops == [])) = true := by kernel_rfl
theorem fact6 : ((Tryz.prog.stops == [])) = true := by kernel_rfl
theorem fact7 : ((Rows.tidySpreadsRow.knobs == [])) = true := by kernel_rfl
theorem fact8 : ((Tryz.prog.stopKnobs == [])) = true := by kernel_rfl
theorem fact9 : ((Rows.tidySpreadsRow.inPlace == Tryz.prog.inPlace 3)) = true := by kernel_rfl
theorem fact10 : ((Rows.tidySpreadsRow.unfollowed == Tryz.prog.unfollowed 3)) = true := by kernel_rfl
theorem fact11 : ((Rows.tidySpreadsRow.recurses == Tryz.prog.recurses 3)) = true := by kernel_rfl
theorem fact12 : ((Rows.tidySpreadsRow.named == Tryz.prog.varsNamed 3)) = true := by kernel_rfl
theorem fact13 : ((Rows.tidySpreadsRow.maps == (Tryz.f3.params.toList ++ (OpenSpec.ofChange Rows.tidySpreadsSpec).bare.plain.varTypes Tryz.prog).any (Tryz.prog.mapsRec ·))) = true := by kernel_rfl
theorem fact14 : ((Rows.tidySpreadsRow.ifaces == (Tryz.f3.params.toList ++ (OpenSpec.ofChange Rows.tidySpreadsSpec).bare.plain.varTypes Tryz.prog).any (Tryz.prog.ifacesRec ·))) = true := by kernel_rfl
theorem fact15 : ((Rows.tidySpreadsRow.mapsOut == Tryz.prog.mapsAmong Tryz.f3.resultTypes.toList)) = true := by kernel_rfl
theorem fact16 : ((Rows.tidySpreadsRow.loops == (Tryz.f3.params.toList ++ (OpenSpec.ofChange Rows.tidySpreadsSpec).bare.plain.varTypes Tryz.prog).any (Tryz.prog.loopsFrom ·))) = true := by kernel_rfl
theorem fact17 : ((Rows.tidySpreadsRow.wideKeys == (Tryz.f3.params.toList ++ (OpenSpec.ofChange Rows.tidySpreadsSpec).bare.plain.varTypes Tryz.prog ++ Tryz.f3.resultTypes.toList).any (Tryz.prog.wideKeysFrom ·))) = true := by kernel_rfl
theorem fact18 : ((OpenSpec.ofChange Rows.tidySpreadsSpec).bare.vars.all (Tryz.prog.varReadable ·)) = true := by kernel_rfl
theorem fact19 : (Tryz.f3.resultTypes.all (fun t => Tryz.prog.readableRec t && decide (t < Tryz.prog.types.size))) = true := by kernel_rfl
theorem fact20 : ((Rows.tidySpreadsRow.ifacesOut == Tryz.f3.resultTypes.toList.any (Tryz.prog.ifacesRec ·))) = true := by kernel_rfl
theorem fact21 : ((Rows.tidySpreadsRow.loopsOut == Tryz.f3.resultTypes.toList.any (Tryz.prog.loopsFrom ·))) = true := by kernel_rfl
theorem fact22 : ((Rows.tidySpreadsRow.plainKeys == Tryz.prog.plainKeys)) = true := by kernel_rfl
theorem fact23 : (Rows.tidySpreadsRow.shortTexts.isNone) = true := by kernel_rfl
theorem fact24 : (Tryz.prog.stopsHeard) = true := by kernel_rfl
theorem fact25 : (Tryz.prog.mayEnter) = true := by kernel_rfl
theorem fact26 : ((Rows.tidySpreadsRow.lifted == Tryz.prog.liftsFinal)) = true := by kernel_rfl
theorem fact27 : ((Tryz.prog.make == some Rows.tidySpreadsRow.make)) = true := by kernel_rfl
theorem fact28 : ((Rows.tidySpreadsRow.kinds == (if Rows.tidySpreadsRow.domain.isEmpty then [] else Tryz.f3.params.toList.map fun t => match Tryz.prog.underlying t with | some (.int k) => some k | _ => none))) = true := by kernel_rfl
theorem fact29 : ((Rows.tidySpreadsRow.pinned == Rows.tidySpreadsRow.pinnedBy)) = true := by kernel_rfl
theorem fact30 : ((Rows.tidySpreadsRow.veiled == (Tryz.f3.params.toList ++ (OpenSpec.ofChange Rows.tidySpreadsSpec).bare.plain.varTypes Tryz.prog ++ Tryz.f3.resultTypes.toList).any (Tryz.prog.veiledRec ·))) = true := by kernel_rfl
theorem fact31 : (Rows.tidySpreadsRow.veiledFits Tryz.prog Tryz.f3.params.toList (Tryz.f3.params.toList ++ (OpenSpec.ofChange Rows.tidySpreadsSpec).bare.plain.varTypes Tryz.prog ++ Tryz.f3.resultTypes.toList)) = true := by kernel_rfl
theorem both {a b : Bool} (ha : a = true) (hb : b = true) : (a && b) = true := by rw [ha, hb]; rfl
theorem closed : joinedFacts Tryz.prog 3 Tryz.f3 (OpenSpec.ofChange Rows.tidySpreadsSpec).bare Rows.tidySpreadsRow = true :=
  both (both (both (both (both (both (both (both (both (both (both (both (both (both (both (both (both (both (both (both (both (both (both (both (both (both (both (both (both (both (both (fact0) fact1) fact2) fact3) fact4) fact5) fact6) fact7) fact8) fact9) fact10) fact11) fact12) fact13) fact14) fact15) fact16) fact17) fact18) fact19) fact20) fact21) fact22) fact23) fact24) fact25) fact26) fact27) fact28) fact29) fact30) fact31
theorem calledSo : Tryz.prog.funcNamed "subeditor/subeditorlaw15.TidySpreads" = some 3 := by kernel_rfl
theorem inst : Tryz.f3.isInstance Tryz.prog Rows.tidySpreadsRow.origin Rows.tidySpreadsRow.targs := of_decide_eq_true (by kernel_rfl)
theorem noWrap : Tryz.f3.isWrapper Tryz.prog Rows.tidySpreadsRow.wrapper Rows.tidySpreadsRow.mainSum := by unfold Func.isWrapper; first | (rw [if_pos (by decide +kernel)]; kernel_rfl) | (rw [if_neg (by decide +kernel)]; exact ⟨rfl, rfl⟩)
theorem said : Rows.TidySpreadsSaid :=
  OpenClaim.holds_of_cond 3 Tryz.f3 rfl rfl rfl rfl rfl rfl rfl ⟨rfl, rfl, rfl, rfl, rfl⟩ rfl rfl rfl rfl rfl calledSo Tryz.func3 closed inst noWrap
    (fun os started H enc _ F => by rw [OpenClaim.pre_eq_preRow]; exact lifted os started H enc F)

theorem plain (f : FuncId) (fn : Func) (hf : Tryz.pinned.checked.prog.funcNamed "subeditor/subeditorlaw15.TidySpreads" = some f) (hfn : Tryz.pinned.checked.prog.funcs[f]? = some fn) :
    true = Tryz.pinned.checked.prog.looks [] ∧ ∀ (j : Nat) t, fn.params[j]? = some t → Tryz.pinned.checked.prog.wantsStandIn t = false := by
  obtain rfl : f = 3 := Option.some.inj ((show Tryz.prog.funcNamed "subeditor/subeditorlaw15.TidySpreads" = some 3 by kernel_rfl).symm.trans hf) |>.symm
  obtain rfl : fn = Tryz.f3 := (Option.some.inj (Tryz.func3.symm.trans hfn)).symm
  refine ⟨by kernel_rfl, fun j t ht => ?_⟩
  rw [Tryz.params3] at ht
  match j, ht with
  | 0, ht =>
    obtain rfl := Option.some.inj (show some 22 = some t from ht)
    exact (show Tryz.prog.wantsStandIn 22 = false by kernel_rfl)
  | 1, ht =>
    obtain rfl := Option.some.inj (show some 22 = some t from ht)
    exact (show Tryz.prog.wantsStandIn 22 = false by kernel_rfl)
  | 2, ht =>
    obtain rfl := Option.some.inj (show some 23 = some t from ht)
    exact (show Tryz.prog.wantsStandIn 23 = false by kernel_rfl)
  | _ + 3, ht => simp at ht

/-- THE CARD. -/
theorem card : Rows.TidySpreadsCardSaid :=
  Claim7.holds_tied_plain_at .later [] _ _ _ _ said (fun _ h => by cases h) (by kernel_rfl) (fun _ h => by cases h) tidySpreads_row_tie rfl ⟨rfl, rfl⟩ (by kernel_rfl) rfl plain (by kernel_rfl)
end Go.Proofs.YtcfdhkmbooipbaaGreatDoor.tidySpreads
