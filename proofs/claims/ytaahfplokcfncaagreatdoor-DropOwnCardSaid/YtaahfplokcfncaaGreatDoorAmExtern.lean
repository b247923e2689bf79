/-
  Functions without a Go body.
-/
import Derived.Test.YtaahfplokcfncaaGreatDoorAmOper
import Derived.Test.YtaahfplokcfncaaGreatDoorAmRun
import Derived.Laws.Externs
import Derived.Lib.Bytealg
import Derived.Lib.MakeNoZero
namespace Go.AM
open Go.RowKit

theorem findNext_none {fn : Func} {n : String} (h1 : fn.name = n) (h2 : fn.origin = "") (h3 : Extern.allNextRows.lookup n = none) (h4 : Extern.allNextRows.lookup "" = none) : Extern.findNext fn = none := by
  simp [Extern.findNext, h1, h2, h3, h4]
theorem find_plain {fn : Func} {n : String} {e : Array Value → Sem Value} (h1 : fn.name = n) (h3 : Extern.allGenericRows.lookup n = none) (h4 : Extern.allTypedRows.lookup n = none) (h5 : Extern.allRows.lookup n = some e) : Extern.find fn = some e := by
  simp [Extern.find, h1, h3, h4, h5]

theorem next_empty : Extern.allNextRows.lookup "" = none := by kernel_rfl
theorem noEscape_next : Extern.allNextRows.lookup "internal/abi.NoEscape" = none := by kernel_rfl
theorem noEscape_gen : Extern.allGenericRows.lookup "internal/abi.NoEscape" = none := by kernel_rfl
theorem noEscape_typed : Extern.allTypedRows.lookup "internal/abi.NoEscape" = none := by kernel_rfl
theorem noEscape_row : Extern.allRows.lookup "internal/abi.NoEscape" = some Extern.AbiNoEscape.same := by kernel_rfl

theorem count_next : Extern.allNextRows.lookup "internal/bytealg.CountString" = none := by kernel_rfl
theorem count_gen : Extern.allGenericRows.lookup "internal/bytealg.CountString" = none := by kernel_rfl
theorem count_typed : Extern.allTypedRows.lookup "internal/bytealg.CountString" = none := by kernel_rfl
theorem count_row : Extern.allRows.lookup "internal/bytealg.CountString" = some Extern.BytealgCount.count := by kernel_rfl
theorem index_next : Extern.allNextRows.lookup "internal/bytealg.IndexByteString" = none := by kernel_rfl
theorem index_gen : Extern.allGenericRows.lookup "internal/bytealg.IndexByteString" = none := by kernel_rfl
theorem index_typed : Extern.allTypedRows.lookup "internal/bytealg.IndexByteString" = none := by kernel_rfl
theorem index_row : Extern.allRows.lookup "internal/bytealg.IndexByteString" = some Extern.BytealgIndexByte.indexByte := by kernel_rfl

theorem run_ext {P : Program} {f : FuncId} {fn : Func} {e : Array Value → Sem Value} {n : String} {us : Array Value} {w w' : World} {v : Value} (hf : P.funcs[f]? = some fn) (hb : fn.body = none) (h1 : fn.name = n) (h2 : fn.origin = "") (hne : n ≠ "runtime.NumGoroutine") (h3 : Extern.allNextRows.lookup n = none)
    (h4 : Extern.allGenericRows.lookup n = none) (h5 : Extern.allTypedRows.lookup n = none) (h6 : Extern.allRows.lookup n = some e) (he : (e us).run P w = .ok v w') : (callFunc f us).run P w = .ok (.value v) w' := by
  rw [run_callFunc_extern hf (by rw [h1]; simpa using hne) (by rw [hb]; rfl) (findNext_none h1 h2 h3 next_empty) (find_plain h1 h4 h5 h6), he]
  rfl

theorem make_next : Extern.allNextRows.lookup "internal/bytealg.MakeNoZero" = none := by kernel_rfl
theorem make_gen : Extern.allGenericRows.lookup "internal/bytealg.MakeNoZero" = none := by kernel_rfl
theorem make_typed : Extern.allTypedRows.lookup "internal/bytealg.MakeNoZero" = some Extern.BytealgMakeNoZero.makeNoZero := by kernel_rfl
theorem run_extT {P : Program} {f : FuncId} {fn : Func} {e : Array TypeId → Array TypeId → Array Value → Sem Value} {n : String} {us : Array Value} {w w' : World} {v : Value} (hf : P.funcs[f]? = some fn) (hb : fn.body = none) (h1 : fn.name = n) (h2 : fn.origin = "") (hne : n ≠ "runtime.NumGoroutine") (h3 : Extern.allNextRows.lookup n = none)
    (h4 : Extern.allGenericRows.lookup n = none) (h5 : Extern.allTypedRows.lookup n = some e) (he : (e fn.params fn.resultTypes us).run P w = .ok v w') : (callFunc f us).run P w = .ok (.value v) w' := by
  have hx : Extern.find fn = some (e fn.params fn.resultTypes) := by simp [Extern.find, h1, h4, h5]
  rw [run_callFunc_extern hf (by rw [h1]; simpa using hne) (by rw [hb]; rfl) (findNext_none h1 h2 h3 next_empty) hx, he]
  rfl

theorem countByte_eq (c : UInt8) (l : List UInt8) : countByte c l = l.countP (fun b => b == c) := by
  induction l with
  | nil => rfl
  | cons b l ih =>
    change (bif byteEq b c then Nat.succ (countByte c l) else countByte c l) = _
    have hb : byteEq b c = (b == c) := by
      rw [Bool.eq_iff_iff, beq_iff_eq]
      unfold byteEq
      rw [Nat.beq_eq]
      exact UInt8.toNat_inj
    rw [hb, ih, List.countP_cons]
    cases h : (b == c) <;> rfl

theorem foldl_count (c : UInt8) (l : List UInt8) : ∀ n : Nat, l.foldl (fun n x => if x == c then n + 1 else n) n = n + l.countP (fun b => b == c) := by
  induction l with
  | nil => intro n; rfl
  | cons b l ih =>
    intro n
    rw [List.foldl_cons, ih, List.countP_cons]
    cases h : (b == c) <;> simp <;> omega

theorem byteEq_eq (b c : UInt8) : byteEq b c = (b == c) := by
  rw [Bool.eq_iff_iff, beq_iff_eq]
  unfold byteEq
  rw [Nat.beq_eq]
  exact UInt8.toNat_inj

theorem findByte_eq (c : UInt8) (l : List UInt8) : ∀ i : Nat, findByte c l i = if Lib.indexByte l c == -1 then -1 else Lib.indexByte l c + i := by
  induction l with
  | nil => intro i; rfl
  | cons b l ih =>
    intro i
    change (bif byteEq b c then Int.ofNat i else findByte c l (i + 1)) = _
    rw [byteEq_eq, ih]
    have hge := Lib.indexByte_ge l c
    have hu : Lib.indexByte (b :: l) c = if b == c then 0 else if Lib.indexByte l c == -1 then -1 else Lib.indexByte l c + 1 := rfl
    rw [hu]
    cases h : (b == c) with
    | true => simp
    | false =>
      simp only [cond_false, Bool.false_eq_true, if_false]
      by_cases h1 : Lib.indexByte l c = -1
      · simp [h1]
      · have h2 : (Lib.indexByte l c == -1) = false := by simpa using h1
        rw [h2]
        simp only [Bool.false_eq_true, if_false]
        have h3 : (Lib.indexByte l c + 1 == -1) = false := by simp; omega
        rw [h3]
        simp only [Bool.false_eq_true, if_false]
        omega

theorem extern_ok {P : Program} {B : Nat} {w0 : World} {g : Gh} {h : Heap} {w : World} {f : FuncId} {fn : Func} {args : List V} {us : Array Value} {y : V} {h' : Heap} (hW : W B w0 g h w) (hs : Rs' g us args) (hf : P.funcs[f]? = some fn) (hb : fn.body = none) (he : extern P fn args h = some (y, h')) :
    ∃ g' w' v, Grown B g g' ∧ W B w0 g' h' w' ∧ R g' v y ∧ (callFunc f us).run P w = .ok (.value v) w' := by
  unfold extern at he
  split at he
  · cases he
  · rename_i ho
    have ho : fn.origin = "" := by simpa using ho
    split at he
    · rename_i hn
      unfold xSame at he
      split at he
      · rename_i v
        cases he
        obtain ⟨u, hu⟩ := getElem?_of_lt_array us 0 (by rw [hs.1]; simp)
        have e : us = #[u] := by
          have hl : us.size = 1 := by rw [hs.1]; rfl
          apply Array.ext (by simp [hl])
          intro i hi _
          have : i = 0 := by omega
          subst this
          rw [Array.getElem?_eq_getElem (by omega)] at hu
          simpa using hu
        refine ⟨g, w, u, Grown.refl _ _, hW, hs.2 0 u _ hu rfl, ?_⟩
        rw [e]
        exact run_ext hf hb hn ho (by decide) noEscape_next noEscape_gen noEscape_typed noEscape_row rfl
      · cases he
    · have two : ∀ s c, args = [.str s, .int .u8 c] → ∃ b : ByteArray, us = #[.string b, .int .u8 c] ∧ b.data.toList = s := fun s c ea => by
        subst ea
        have hl : us.size = 2 := hs.1
        obtain ⟨u0, h0⟩ := getElem?_of_lt_array us 0 (by omega)
        obtain ⟨u1, h1⟩ := getElem?_of_lt_array us 1 (by omega)
        obtain ⟨b, rfl, hb'⟩ := (hs.2 0 u0 _ h0 rfl).str_inv
        have := (hs.2 1 u1 _ h1 rfl).int_inv; subst this
        refine ⟨b, ?_, hb'⟩
        apply Array.ext (by simp [hl])
        intro i hi _
        rw [Array.getElem?_eq_getElem (by omega)] at h0 h1
        match i, hi with
        | 0, _ => simpa using h0
        | 1, _ => simpa using h1
        | n + 2, hi => omega
      split at he
      · rename_i hn
        unfold xCount at he
        split at he
        · rename_i s c
          cases he
          obtain ⟨b, rfl, rfl⟩ := two s c rfl
          refine ⟨g, w, _, Grown.refl _ _, hW, ?_, run_ext hf hb hn ho (by decide) count_next count_gen count_typed count_row (Lib.run_countString b c w)⟩
          rw [countByte_eq]
          exact .gnd (.int _ _)
        · cases he
      · split at he
        · rename_i hn
          unfold xIndexByte at he
          split at he
          · rename_i s c
            cases he
            obtain ⟨b, rfl, rfl⟩ := two s c rfl
            refine ⟨g, w, _, Grown.refl _ _, hW, ?_, run_ext hf hb hn ho (by decide) index_next index_gen index_typed index_row (Lib.run_indexByteString b c w)⟩
            rw [findByte_eq]
            have : (if Lib.indexByte b.data.toList (UInt8.ofNat c.toNat) == -1 then -1 else Lib.indexByte b.data.toList (UInt8.ofNat c.toNat) + ((0 : Nat) : Int)) = Lib.indexByte b.data.toList c.toNat.toUInt8 := by
              split
              · rename_i q; exact (by simpa using q : _ = _).symm
              · simp
            rw [this]
            exact .gnd (.int _ _)
          · cases he
        · split at he
          · rename_i hn
            unfold xMake at he
            split at he
            · rename_i n
              split at he
              · rename_i t hrt
                split at he
                · rename_i e hse
                  obtain ⟨hc, he⟩ := bif_some he rfl
                  cases he
                  simp only [Bool.and_eq_true, Nat.ble_eq, Nat.beq_eq] at hc
                  obtain ⟨hn1, hn2⟩ := hc
                  have hus : us = #[.int .i64 (n : Int)] := by
                    have hl : us.size = 1 := hs.1
                    obtain ⟨u0, h0⟩ := getElem?_of_lt_array us 0 (by omega)
                    have := (hs.2 0 u0 _ h0 rfl).int_inv; subst this
                    apply Array.ext (by simp [hl])
                    intro i hi _
                    rw [Array.getElem?_eq_getElem (by omega)] at h0
                    have : i = 0 := by omega
                    subst this
                    simpa using h0
                  have hrt' : fn.resultTypes = #[t] := by
                    have : fn.resultTypes = fn.resultTypes.toList.toArray := by simp
                    rw [this, hrt]
                  obtain ⟨cs, hrun, hle, _⟩ := Lib.run_makeNoZero (P := P) w fn.params t e (sliceElem_some hse) n (by omega)
                  have hW2 : W B w0 g h w.drew.drew := (hW.drew (w.drawn + 1)).drew (w.drawn + 1 + 1)
                  refine ⟨g.new h.n (w.heap.size, cs.size, 1) (some 0), _, _, Grown.new hW _ _, W.newRow hW2 (C := cs) (K := cs.size) (sz := 1) (ty := e) (cap := none) (es := []) (by simp) Nat.one_pos (Nat.zero_le _) (fun c e => by cases e) (fun i e q => by simp at q) (fun i e j x q => by simp at q), R.newSl hle, ?_⟩
                  rw [hus]
                  refine run_extT hf hb hn ho (by decide) make_next make_gen make_typed ?_
                  rw [hrt', hrun]
                  rfl
                · cases he
              · cases he
            · cases he
          · cases he

end Go.AM
