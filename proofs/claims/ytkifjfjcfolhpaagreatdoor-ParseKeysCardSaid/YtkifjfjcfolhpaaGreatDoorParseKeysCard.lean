/-
  subeditorlaw08.ParseKeys PROVED, WHATEVER THE INPUT: the law gives true, and its arguments read as before. Its card's condition alone: the listed package-level variables hold what the program's text lays.
-/
import Derived.Test.YtkifjfjcfolhpaaGreatDoorCards
import Derived.Test.YtkifjfjcfolhpaaGreatDoorTie
import Derived.WalkKit
import Derived.ProofKit
import Derived.OpenShut
import Derived.Deep.DeepHandedRow
import Derived.Deep.DeepWitnessRowRef
import Derived.LaidMore
import Derived.Lib.LaidTab
import Derived.Test.YtkifjfjcfolhpaaGreatDoorAmCases
import Derived.Test.YtkifjfjcfolhpaaGreatDoorParseKeysC0
import Derived.Test.YtkifjfjcfolhpaaGreatDoorParseKeysC1
import Derived.Test.YtkifjfjcfolhpaaGreatDoorParseKeysC2
import Derived.Test.YtkifjfjcfolhpaaGreatDoorParseKeysC3
namespace Go.Proofs.YtkifjfjcfolhpaaGreatDoor.parseKeys
open Go.ChangeShapes Go.WideShapes Go.ChangeAt Go.RowKit Go.AM
set_option maxRecDepth 100000

theorem own : ownKnob Tryz.prog.godebug = none := by kernel_rfl
theorem gA : Tryz.prog.globalNamed "strings.asciiSpace" = some 1 := by kernel_rfl
theorem gAType : (Tryz.prog.globals[1]?).map (·.type) = some 178 := by kernel_rfl
theorem cellsA : Tryz.prog.cellsOf 178 = 256 := by kernel_rfl
theorem cellsB : Tryz.prog.cellsOf 5 = 1 := by kernel_rfl

/-- WHAT THE ROW's LIST GIVES: the table of the blanks. -/
theorem table {W : World} (h : laidMetH Tryz.prog Rows.parseKeysRow.laid W) : ∀ i, i < 256 → allOf W 1 i = some (.int .u8 (asciiZ.getD i 0)) := by
  intro i hi
  have hl : laidMet Tryz.prog Rows.parseKeysRow.laid W := h
  exact laid_cell hl (show ("strings.asciiSpace", Lib.tabData .u8 asciiZ) ∈ Rows.parseKeysRow.laid by
    have e : Rows.parseKeysRow.laid[2]? = some ("strings.asciiSpace", Lib.tabData .u8 asciiZ) := by kernel_rfl
    exact List.mem_of_getElem? e) gA gAType Tryz.underlying178 Tryz.underlying5 cellsB cellsA i (by rw [show asciiZ.length = 256 by kernel_rfl]; exact hi)

theorem full : below 18 = ParseKeysL0 ++ (ParseKeysL1 ++ (ParseKeysL2 ++ (ParseKeysL3 ++ (ParseKeysL4 ++ (ParseKeysL5 ++ (ParseKeysL6 ++ (ParseKeysL7 ++ (ParseKeysL8 ++ (ParseKeysL9 ++ (ParseKeysL10 ++ (ParseKeysL11 ++ (ParseKeysL12 ++ (ParseKeysL13 ++ (ParseKeysL14 ++ (ParseKeysL15 ++ (ParseKeysL16 ++ (ParseKeysL17))))))))))))))))) := by kernel_rfl
theorem ran (x : Nat) (hx : x < 18) : ∃ hc, AM.run Tryz.prog E3 1000000 (.call 7 [.imod .u8 18 x] Heap.empty) = .ret (.bool true) hc := by
  have hm : x ∈ below 18 := by simp [below, hx]
  rw [full] at hm
  exact isTrue_ret ((every_iff _ _).1 (every_app ParseKeys_c0 (every_app ParseKeys_c1 (every_app ParseKeys_c2 (every_app ParseKeys_c3 (every_app ParseKeys_c4 (every_app ParseKeys_c5 (every_app ParseKeys_c6 (every_app ParseKeys_c7 (every_app ParseKeys_c8 (every_app ParseKeys_c9 (every_app ParseKeys_c10 (every_app ParseKeys_c11 (every_app ParseKeys_c12 (every_app ParseKeys_c13 (every_app ParseKeys_c14 (every_app ParseKeys_c15 (every_app ParseKeys_c16 (ParseKeys_c17)))))))))))))))))) x hm)

/-- THE CALL. -/
theorem walk (W : World) (hlaid : laidMetH Tryz.prog Rows.parseKeysRow.laid W) (N : Nat) (hN : N < 256) : Calls Tryz.prog 7 #[.int .u8 (N : Int)] W fun e W' => e = .returned (.bool true) ∧ Below W.heap.size W W' := by
  obtain ⟨hc, hr⟩ := ran (N % 18) (Nat.mod_lt _ (by decide))
  exact calls_of_run snd3 names Tryz.func7 (show Tryz.f7.body = some _ from rfl) hr (globOk (table hlaid)) (args1 hN)

theorem contract (H : Type) (enc : TypeId × Value → H) (W : World) (base : Nat) (args : Array Value) (ds gs : List (DataW H)) (before : List MemPlace)
    (hval : ∀ (j : Nat) t v, Tryz.f7.params[j]? = some t → args[j]? = some v → Value.okWide Tryz.prog W .any base t v)
    (hW : DataW.Whole enc Tryz.prog Tryz.f7.params.toList Rows.parseKeysSpec.vars false W args.toList ds gs before) (hL : laidMetH Tryz.prog Rows.parseKeysRow.laid W) :
    Calls Tryz.prog 7 args W fun e W' => ∃ v, e = .returned v ∧ Rows.parseKeysSpec.post enc Tryz.prog Tryz.f7 false true false false W args v W' := by
  have hW' := hW
  obtain ⟨p, q, hA0, hV, rfl, hfz, hnd⟩ := hW
  have hA : DataW.TrodAll enc Tryz.prog W 0 (fun _ => true) true Tryz.f7.params.toList args.toList ds p := hA0
  rw [Tryz.params7] at hA hval
  obtain ⟨v0, vs0, d0, ds0, p0, q0, hargs, rfl, rfl, h0, r0⟩ := trodAll_cons hA
  obtain ⟨rfl, rfl, rfl⟩ := trodAll_nil r0
  obtain rfl : args = #[v0] := by cases args; simp_all
  obtain ⟨rfl, rfl⟩ := trodVars_none hV
  obtain ⟨n0, rfl, rfl, rfl, w0⟩ := open_int Tryz.underlying5 (hval 0 5 v0 rfl rfl) h0
  obtain ⟨N0, rfl, hN0⟩ := u8_wf w0
  clear hA0
  simp only [List.append_nil] at hW'
  refine (walk W hL N0 hN0).mono fun e W' ⟨he, hb⟩ => ?_
  subst he
  exact ⟨_, rfl, _, _, _, [], [], [], hW', trodAll_cons_mk (shut_bool Tryz.underlying4 _) trodAll_mk0, trodAll_cons_mk (shut_int Tryz.underlying5 w0) (trodAll_mk0), rfl, hb.frame _, fun h => by cases h⟩

/-- A WORLD FOR THE WITNESS: the settled one, two blocks more, the variables holding what their initialisers lay. -/
noncomputable def laidWorld (os : Os) : World :=
  let N := (World.settled Tryz.prog os).heap.size
  let w0 := World.holding Tryz.prog os ⟨#[.cells #[.int .u16 9, .int .u16 13, .int .u16 1, .int .u16 32, .int .u16 133, .int .u16 101, .int .u16 160, .int .u16 5760, .int .u16 5600, .int .u16 8192, .int .u16 8202, .int .u16 1, .int .u16 8232, .int .u16 8233, .int .u16 1, .int .u16 8239, .int .u16 8287, .int .u16 48, .int .u16 12288, .int .u16 12288, .int .u16 1] 200, .cells #[.slice (some ⟨N, 0, none⟩) 7 7, .slice none 0 0, .int .i64 2] 198], #[], []⟩
  let put (h : Array Go.Obj) (g : Nat) (cs : Array Value) : Array Go.Obj := h.modify g fun
    | .cells _ t frozen => .cells cs t frozen
    | o => o
  let h1 := put w0.heap 3 #[.int .u8 128, .int .u8 191, .int .u8 160, .int .u8 191, .int .u8 128, .int .u8 159, .int .u8 144, .int .u8 191, .int .u8 128, .int .u8 143, .int .u8 0, .int .u8 0, .int .u8 0, .int .u8 0, .int .u8 0, .int .u8 0, .int .u8 0, .int .u8 0, .int .u8 0, .int .u8 0, .int .u8 0, .int .u8 0, .int .u8 0, .int .u8 0, .int .u8 0, .int .u8 0, .int .u8 0, .int .u8 0, .int .u8 0, .int .u8 0, .int .u8 0, .int .u8 0]
  let h2 := put h1 4 #[.pointer (some ⟨N + 1, 0, none⟩)]
  let h3 := put h2 1 (asciiZ.map fun z => Value.int .u8 z).toArray
  let h4 := put h3 2 (Go.Pinned.utf8FirstZ.map fun (z : Nat) => Value.int .u8 (z : Int)).toArray
  { w0 with heap := h4 }
theorem laid_met (os : Os) : laidMet Tryz.prog Rows.parseKeysRow.laid ((laidWorld os).forCall (fun _ _ => 0) ⟨#[], #[.int .u8 0], []⟩).memory :=
  laidMet_of_run' 8 (by kernel_rfl) (by kernel_rfl)
theorem reads (os : Os) {H : Type} (enc : TypeId × Value → H) : ∃ places, DataW.whole enc Tryz.prog ((laidWorld os).forCall (fun _ _ => 0) ⟨#[], #[.int .u8 0], []⟩).memory Tryz.f7.params.toList Rows.parseKeysSpec.vars false #[Value.int .u8 0].toList 8 = some ([.lit (.int .u8 0)], [], places) :=
  ⟨[], by kernel_rfl⟩

set_option maxRecDepth 100000 in
theorem lifted (os : Os) (started : os.Started) (H : Type) (enc : TypeId × Value → H) (F : Stop.Interp) :
    ReturnsInHanded {} Tryz.checked os 7 .any ((OpenSpec.ofChange Rows.parseKeysSpec).preRow enc Tryz.prog Tryz.f7 Rows.parseKeysRow.domain false Rows.parseKeysRow.laid) (((OpenSpec.ofChange Rows.parseKeysSpec).at F).post enc Tryz.prog Tryz.f7 false true false false) := by
  obtain ⟨places, hx⟩ := reads os enc
  refine returnsInHanded_of_row (C := Tryz.checked) (s := OpenSpec.ofChange Rows.parseKeysSpec) own started (by kernel_rfl) Tryz.func7
    (witness_row_atRef (enc := enc) (C := Tryz.checked) false (laidWorld os) #[.int .u8 0] rfl (by kernel_rfl) (by kernel_rfl) (by kernel_rfl)
      (OpenSpec.preRow_of_cond 8 hx (by kernel_rfl) (fun k hk => by cases hk) (by kernel_rfl) (laid_met os))) ?_
  intro W base args ds gs before hval hW _ _ _ hL _ _
  exact contract H enc W base args ds gs before hval hW hL

theorem said : Rows.ParseKeysSaid :=
  OpenClaim.holds_of_cond 7 Tryz.f7 rfl rfl rfl rfl rfl rfl rfl ⟨rfl, rfl, rfl, rfl, rfl⟩ rfl rfl rfl rfl rfl (by kernel_rfl) Tryz.func7 (by kernel_rfl)
    (of_decide_eq_true (by kernel_rfl)) (by unfold Func.isWrapper; first | (rw [if_pos (by decide +kernel)]; kernel_rfl) | (rw [if_neg (by decide +kernel)]; exact ⟨rfl, rfl⟩))
    (fun os started H enc _ F => by rw [OpenClaim.pre_eq_preRow]; exact lifted os started H enc F)

theorem plain (f : FuncId) (fn : Func) (hf : Tryz.pinned.checked.prog.funcNamed "subeditor/subeditorlaw08.ParseKeys" = some f) (hfn : Tryz.pinned.checked.prog.funcs[f]? = some fn) :
    true = Tryz.pinned.checked.prog.looks [] ∧ ∀ (j : Nat) t, fn.params[j]? = some t → Tryz.pinned.checked.prog.wantsStandIn t = false := by
  obtain rfl : f = 7 := Option.some.inj ((show Tryz.prog.funcNamed "subeditor/subeditorlaw08.ParseKeys" = some 7 by kernel_rfl).symm.trans hf) |>.symm
  obtain rfl : fn = Tryz.f7 := (Option.some.inj (Tryz.func7.symm.trans hfn)).symm
  refine ⟨by kernel_rfl, fun j t ht => ?_⟩
  rw [Tryz.params7] at ht
  obtain rfl : t = 5 := by simpa using Array.mem_of_getElem? ht
  exact (show Tryz.prog.wantsStandIn 5 = false by kernel_rfl)

/-- THE CARD. -/
theorem card : Rows.ParseKeysCardSaid :=
  Claim7.holds_tied_plain_at .later [] _ _ _ _ said (fun _ h => by cases h) (by kernel_rfl) (fun _ h => by cases h) parseKeys_row_tie rfl ⟨rfl, rfl⟩ (by kernel_rfl) rfl plain (by kernel_rfl)
end Go.Proofs.YtkifjfjcfolhpaaGreatDoor.parseKeys
