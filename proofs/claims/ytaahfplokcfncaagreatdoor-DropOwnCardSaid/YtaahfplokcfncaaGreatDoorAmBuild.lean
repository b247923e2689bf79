/-
  Values built of parts; rows written out; variables of one's own.
-/
import Derived.Test.YtaahfplokcfncaaGreatDoorAmFresh
namespace Go.AM
open Go.RowKit

/-- Cells at hand, and what the machine says of them. -/
structure CellsOk (g : Gh) (cs : Array Value) (vs : List V) : Prop where
  size : cs.size = vs.length
  one : ∀ (i : Nat) v, cs[i]? = some v → v.oneCell' = true
  rel : ∀ (i : Nat) v x, cs[i]? = some v → vs[i]? = some x → R g v x

theorem CellsOk.agg {g : Gh} {cs : Array Value} {vs : List V} (h : CellsOk g cs vs) : R g (.agg cs) (.agg vs) := .agg h.size h.one h.rel
theorem R.cellsOk {g : Gh} {v : Value} {x : V} (h : R g v x) (hf : x.flat = true) : CellsOk g v.cells x.cells := ⟨(h.cells hf).1.1, (h.cells hf).2, (h.cells hf).1.2⟩

theorem splice_get (cs new : List V) (j i : Nat) (h : j + new.length ≤ cs.length) : (splice cs j new)[i]? = if j ≤ i ∧ i < j + new.length then new[i - j]? else cs[i]? := by
  unfold splice
  rw [List.app_eq, List.app_eq, List.takeN_eq, List.dropN_eq, List.len_eq]
  have hl : (cs.take j).length = j := by simp; omega
  rw [List.getElem?_append, hl, List.getElem?_append, List.getElem?_take, List.getElem?_drop]
  by_cases h1 : i < j
  · rw [if_pos h1, if_pos h1, if_neg (by omega)]
  · rw [if_neg h1]
    by_cases h2 : i < j + new.length
    · rw [if_pos (by omega), if_pos (by omega)]
    · rw [if_neg (by omega), if_neg (by omega)]
      congr 1
      show j + new.length + (i - j - new.length) = i
      omega
theorem splice_length (cs new : List V) (j : Nat) (h : j + new.length ≤ cs.length) : (splice cs j new).length = cs.length := by
  unfold splice
  rw [List.app_eq, List.app_eq, List.takeN_eq, List.dropN_eq, List.len_eq]
  simp only [List.length_append, List.length_take, List.length_drop]
  show min j cs.length + (new.length + (cs.length - (j + new.length))) = cs.length
  omega

theorem CellsOk.over {g : Gh} {cs : Array Value} {vs : List V} (h : CellsOk g cs vs) {c : Array Value} {new : List V} (hc : CellsOk g c new) {off : Nat} (hfit : off + new.length ≤ vs.length) : CellsOk g (over cs off c.toList) (splice vs off new) := by
  have hn : c.toList.length = new.length := by simp [hc.size]
  have hget := over_get cs off c.toList (by rw [hn, h.size]; exact hfit)
  refine ⟨by rw [over_size, splice_length _ _ _ hfit]; exact h.size, fun i v hv => ?_, fun i v x hv hx => ?_⟩
  · rw [hget] at hv
    split at hv
    · exact hc.one _ v (by simpa using hv)
    · exact h.one i v hv
  · rw [hget] at hv
    rw [splice_get _ _ _ _ hfit] at hx
    rw [hn] at hv
    split at hv
    · rename_i hi
      rw [if_pos hi] at hx
      exact hc.rel _ v x (by simpa using hv) hx
    · rename_i hi
      rw [if_neg hi] at hx
      exact h.rel i v x hv hx

theorem foldl_over (l : List Value) (off n : Nat) (cs : Array Value) : (l.zipIdx n).foldl (fun (cs : Array Value) (p : Value × Nat) => cs.setIfInBounds (off + p.2) p.1) cs = over cs (off + n) l := by
  induction l generalizing n cs with
  | nil => rfl
  | cons v l ih =>
    simp only [List.zipIdx_cons, List.foldl_cons]
    rw [ih]; rfl

theorem fold_over (c : Array Value) (off : Nat) (cs : Array Value) : c.zipIdx.foldl (fun cs (x, j) => cs.setIfInBounds (off + j) x) cs = over cs off c.toList := by
  rw [← Array.foldl_toList, Array.toList_zipIdx]
  exact foldl_over c.toList off 0 cs

/-- Parts: numbers, values. -/
def PartsOk (g : Gh) (us : List (Nat × Value)) (ps : List (Nat × V)) : Prop := us.length = ps.length ∧ ∀ (i : Nat) u p, us[i]? = some u → ps[i]? = some p → u.1 = p.1 ∧ R g u.2 p.2

theorem PartsOk.tail {g : Gh} {u : Nat × Value} {p : Nat × V} {us : List (Nat × Value)} {ps : List (Nat × V)} (h : PartsOk g (u :: us) (p :: ps)) : u.1 = p.1 ∧ R g u.2 p.2 ∧ PartsOk g us ps :=
  ⟨(h.2 0 u p rfl rfl).1, (h.2 0 u p rfl rfl).2, by simpa using h.1, fun i a b x y => h.2 (i + 1) a b (by simpa using x) (by simpa using y)⟩

theorem fill_sound {P : Program} {g : Gh} {t : TypeId} (place : Nat → Option (Nat × Nat)) (hpl : ∀ i x, placeOf P t i = some x → place i = some x) (ps : List (Nat × V)) :
    ∀ (us : List (Nat × Value)) (cs : Array Value) (vs : List V) (r : List V), PartsOk g us ps → CellsOk g cs vs → fillParts P t ps vs = some r → ∃ c, Instr.fill place cs us = some c ∧ CellsOk g c r := by
  induction ps with
  | nil =>
    intro us cs vs r hp hc hr
    cases us with
    | nil => cases hr; exact ⟨cs, rfl, hc⟩
    | cons u us => have := hp.1; simp at this
  | cons p ps ih =>
    intro us cs vs r hp hc hr
    cases us with
    | nil => have := hp.1; simp at this
    | cons u us =>
      obtain ⟨i, v⟩ := u
      obtain ⟨h1, h2, h3⟩ := hp.tail
      simp only at h1; subst h1
      change (match placeOf P t p.1 with | some (off, sz) => bif p.2.flat && Nat.beq (List.len p.2.cells) sz && Nat.ble (Nat.add off sz) (List.len vs) then fillParts P t ps (splice vs off p.2.cells) else none | none => none) = some r at hr
      cases hq : placeOf P t p.1 with
      | none => rw [hq] at hr; cases hr
      | some x =>
        obtain ⟨off, sz⟩ := x
        rw [hq] at hr
        obtain ⟨hb, hr⟩ := bif_some hr rfl
        simp only [Bool.and_eq_true, Nat.beq_eq, Nat.ble_eq, List.len_eq] at hb
        obtain ⟨⟨hb1, hb2⟩, hb3⟩ := hb
        change off + sz ≤ vs.length at hb3
        have hcv := h2.cellsOk hb1
        obtain ⟨c, e1, e2⟩ := ih us (over cs off v.cells.toList) _ r h3 (hc.over hcv (by omega)) hr
        refine ⟨c, ?_, e2⟩
        simp only [Instr.fill, hpl _ _ hq]
        have hs : v.cells.size = p.2.cells.length := hcv.size
        have hs' := hc.size
        have hcond : ¬ ((decide (v.cells.size ≠ sz) || decide (off + v.cells.size > cs.size)) = true) := by
          simp only [Bool.or_eq_true, decide_eq_true_eq, not_or]; exact ⟨by omega, by omega⟩
        rw [if_neg hcond, fold_over]
        exact e1

theorem run_mapM_array {P : Program} {w : World} {α β : Type} (f : α → Sem β) (φ : α → β) (xs : Array α) (h : ∀ x ∈ xs.toList, (f x).run P w = .ok (φ x) w) : (xs.mapM f).run P w = .ok (xs.map φ) w := by
  rw [Array.mapM_eq_mapM_toList]
  simp only [Sem.run_map]
  have key : ∀ l : List α, (∀ x ∈ l, (f x).run P w = .ok (φ x) w) → (l.mapM f).run P w = .ok (l.map φ) w := by
    intro l hl
    induction l with
    | nil => simp
    | cons x l ih =>
      rw [List.mapM_cons]
      simp only [Sem.run_bind, hl x (by simp), Result.andThen_ok, ih (fun y hy => hl y (by simp [hy])), Sem.run_pure, List.map_cons]
  rw [key _ h]
  simp only [Result.andThen_ok]
  congr 1
  apply Array.ext'
  simp

theorem hasInfo_some {P : Program} {t : TypeId} (h : hasInfo P t = true) : ∃ i, P.info? t = some i := by
  unfold hasInfo at h
  split at h
  · exact ⟨_, by assumption⟩
  · cases h
theorem allF_iff (f : Field → Bool) (l : List Field) : allF f l = true ↔ ∀ x ∈ l, f x = true := by
  induction l with
  | nil => simp only [List.not_mem_nil, false_implies, implies_true, iff_true]; rfl
  | cons a l ih =>
    show (bif f a then allF f l else false) = true ↔ _
    cases h : f a with
    | true => simp [ih, h]
    | false => simp [h]

theorem build_sound {P : Program} {w : World} {g : Gh} {t : TypeId} {us : Array (Nat × Value)} {ps : List (Nat × V)} {y : V} (hp : PartsOk g us.toList ps) (h : buildParts P t ps = some y) : ∃ v, (Instr.build t us).run P w = .ok v w ∧ R g v y := by
  unfold buildParts at h
  split at h
  · rename_i z hz
    obtain ⟨hb, h⟩ := bif_some h rfl
    split at h
    · rename_i cs hcs
      cases h
      obtain ⟨i, zv, hi, hzv, hg⟩ := zero_some hz
      obtain ⟨z', rfl, hcz⟩ : ∃ z', zv = .agg z' ∧ CellsOk g z' z := by
        have hR : R g zv (.agg z) := .gnd (hg g.S)
        obtain ⟨c, rfl, a, b, d⟩ := hR.agg_inv
        exact ⟨c, rfl, a, b, d⟩
      unfold partsOk at hb
      split at hb
      · rename_i fs hu
        rw [allF_iff] at hb
        have hm := run_mapM_array (P := P) (w := w) (fun f : Field => do pure (f.offset, ← sizeOf f.type)) (fun f => (f.offset, size P f.type)) fs (fun f hf => by
          obtain ⟨j, hj⟩ := hasInfo_some (hb f hf)
          simp [run_size hj])
        obtain ⟨c, h1, h2⟩ := fill_sound (P := P) (g := g) (t := t) (fun i => (fs.map fun f => (f.offset, size P f.type))[i]?) (fun i x hx => by
          unfold placeOf at hx
          rw [hu] at hx
          simp only at hx
          split at hx
          · rename_i f hf; cases hx; simp [hf]
          · cases hx) ps us.toList z' z cs hp hcz hcs
        refine ⟨.agg c, ?_, h2.agg⟩
        simp only [Instr.build, Sem.run_bind, run_zero hi hzv, Result.andThen_ok, run_underlying hu]
        simp only [Value.cells]
        rw [hm]
        simp only [Result.andThen_ok]
        rw [h1]
        simp
      · rename_i n e hu
        obtain ⟨j, hj⟩ := hasInfo_some hb
        obtain ⟨c, h1, h2⟩ := fill_sound (P := P) (g := g) (t := t) (fun i => some (i * size P e, size P e)) (fun i x hx => by
          unfold placeOf at hx
          rw [hu] at hx
          exact hx) ps us.toList z' z cs hp hcz hcs
        refine ⟨.agg c, ?_, h2.agg⟩
        simp only [Instr.build, Sem.run_bind, run_zero hi hzv, Result.andThen_ok, run_underlying hu, run_size hj]
        simp only [Value.cells]
        rw [h1]
        simp
      · cases hb
    · cases h
  · cases h

end Go.AM
