/-
  Reading and writing memory: what the model's own words do to a block whose cells are known.
-/
import Derived.Test.YtaahfplokcfncaaGreatDoorAmTurn
import Derived.ChangeKeysEq
namespace Go.AM
open Go.RowKit

theorem Addr.add_mk (b o n : Nat) : (⟨b, o, none⟩ : Addr).add n = ⟨b, o + n, none⟩ := by
  unfold Addr.add; split
  · rename_i h; simp [h]
  · rfl
theorem Addr.eta {a : Addr} (h : a.spot = none) : a = ⟨a.block, a.off, none⟩ := by cases a; simp at h; simp [h]

/-- A block laid anew. -/
def blk (w : World) (b : Nat) (o : Go.Obj) : World := { w with heap := w.heap.setIfInBounds b o }

theorem blk_at (w : World) (b : Nat) (o : Go.Obj) (h : b < w.heap.size) : (blk w b o).heap[b]? = some o := by simp [blk, h]
theorem blk_other (w : World) (b q : Nat) (o : Go.Obj) (h : q ≠ b) : (blk w b o).heap[q]? = w.heap[q]? := by
  simp only [blk]; rw [Array.getElem?_setIfInBounds]; rw [if_neg (fun e => h e.symm)]
theorem blk_size (w : World) (b : Nat) (o : Go.Obj) : (blk w b o).heap.size = w.heap.size := by simp [blk]
theorem blk_blk (w : World) (b : Nat) (o o' : Go.Obj) : blk (blk w b o) b o' = blk w b o' := by
  simp only [blk]
  congr 1
  apply Array.ext_getElem?
  intro i
  simp only [Array.getElem?_setIfInBounds, Array.size_setIfInBounds]
  split <;> rfl
theorem blk_self (w : World) (b : Nat) (o : Go.Obj) (h : w.heap[b]? = some o) : blk w b o = w := by
  have : w.heap.setIfInBounds b o = w.heap := by
    apply Array.ext_getElem?
    intro i
    rw [Array.getElem?_setIfInBounds]
    split
    · rename_i e; subst e; rw [if_pos (block_lt h), h]
    · rfl
  simp [blk, this]
theorem Below.blk {B : Nat} (w : World) (b : Nat) (o : Go.Obj) (hb : B ≤ b) : Below B w (blk w b o) :=
  ⟨rfl, rfl, rfl, by rw [blk_size]; exact Nat.le_refl _, fun k hk => blk_other w b k o (by omega)⟩
theorem setCell_blk {w : World} {b o : Nat} {C : Array Value} {T : TypeId} {fr : Nat × Nat} (v : Value) (h : w.heap[b]? = some (.cells C T fr)) :
    w.setCell ⟨b, o, none⟩ v = blk w b (.cells (C.setIfInBounds o v) T fr) := by
  simp only [World.setCell, blk]
  congr 1
  apply Array.ext_getElem?
  intro i
  rw [Array.getElem?_modify, Array.getElem?_setIfInBounds]
  split
  · rename_i e; subst e; rw [if_pos (block_lt h)]; simp [h]
  · rfl
theorem look_blk_other {w : World} {b q o : Nat} (x : Go.Obj) (h : q ≠ b) : look (blk w b x) q o = look w q o := by
  unfold look; simp only [blk_other w b q x h]
theorem cell?_blk_other {w : World} {b q o : Nat} (x : Go.Obj) (h : q ≠ b) : (blk w b x).cell? ⟨q, o, none⟩ = w.cell? ⟨q, o, none⟩ := by
  unfold World.cell?; simp only [blk_other w b q x h]

/-- Cells 'new' laid over a row from cell 'i' on. -/
def over (C : Array Value) (i : Nat) : List Value → Array Value
  | [] => C
  | v :: l => over (C.setIfInBounds i v) (i + 1) l
theorem over_size (C : Array Value) (i : Nat) (l : List Value) : (over C i l).size = C.size := by
  induction l generalizing C i with
  | nil => rfl
  | cons v l ih => rw [over, ih]; simp
theorem over_get (C : Array Value) (i : Nat) (l : List Value) (h : i + l.length ≤ C.size) (k : Nat) :
    (over C i l)[k]? = if i ≤ k ∧ k < i + l.length then l[k - i]? else C[k]? := by
  induction l generalizing C i with
  | nil => rw [over, if_neg (by simp only [List.length_nil]; omega)]
  | cons v l ih =>
    simp only [List.length_cons] at h
    rw [over, ih _ _ (by simp; omega)]
    by_cases h1 : k = i
    · subst h1
      rw [if_neg (by omega), if_pos (by simp), Array.getElem?_setIfInBounds, if_pos rfl, if_pos (by omega)]
      simp
    · by_cases h2 : i + 1 ≤ k ∧ k < i + 1 + l.length
      · rw [if_pos h2, if_pos (by simp; omega)]
        have : k - i = (k - (i + 1)) + 1 := by omega
        rw [this]; simp
      · rw [if_neg h2, if_neg (by simp; omega), Array.getElem?_setIfInBounds, if_neg (fun e => h1 e.symm)]

theorem frozen?_mk {w : World} {b o : Nat} {C : Array Value} {T : TypeId} {fr : Nat × Nat} (h : w.heap[b]? = some (.cells C T fr)) : w.frozen? ⟨b, o, none⟩ = (decide (fr.1 ≤ o) && decide (o < fr.2)) := by
  unfold World.frozen?; simp [h]

theorem run_storeCells {P : Program} {b o : Nat} {T : TypeId} {fr : Nat × Nat} : ∀ (vs : List Value) (i : Nat) (C : Array Value) (w : World), w.heap[b]? = some (.cells C T fr) → o + i + vs.length ≤ C.size →
    (∀ v ∈ vs, v.oneCell' = true) → (∀ k, o + i ≤ k → k < o + i + vs.length → ¬ (fr.1 ≤ k ∧ k < fr.2)) →
    (storeCells ⟨b, o, none⟩ vs i).run P w = .ok () (blk w b (.cells (over C (o + i) vs) T fr))
  | [], i, C, w, h, _, _, _ => by
    simp only [storeCells, over]
    rw [blk_self w b _ h]; rfl
  | v :: l, i, C, w, h, hn, h1, hf => by
    simp only [List.length_cons] at hn hf
    have hc : w.cell? ⟨b, o + i, none⟩ = some C[o + i] := cell?_mk h (by simp)
    have hfr : w.frozen? ⟨b, o + i, none⟩ = false := by
      rw [frozen?_mk h]
      have := hf (o + i) (Nat.le_refl _) (by omega)
      simp only [Bool.and_eq_false_iff, decide_eq_false_iff_not]; omega
    simp only [storeCells, Sem.run_bind, Addr.add_mk]
    rw [run_store _ _ _ _ _ (h1 v (by simp)), hc]
    simp only [hfr, Bool.false_eq_true, if_false, Result.andThen_ok]
    rw [setCell_blk v h, run_storeCells l (i + 1) (C.setIfInBounds (o + i) v) _ (blk_at w b _ (block_lt h)) (by simp; omega) (fun u hu => h1 u (by simp [hu])) (fun k a c => hf k (by omega) (by omega)), blk_blk]
    rfl

/-- The kind of a type, as the model asks it. -/
theorem aggOf_some {P : Program} {t : TypeId} {b : Bool} (h : aggOf P t = some b) (w : World) : (Go.isAgg t).run P w = .ok b w := by
  unfold aggOf at h
  unfold Go.isAgg
  split at h
  · rename_i fs e; cases h; simp [run_underlying e]
  · rename_i n el e; cases h; simp [run_underlying e]
  · rename_i d e1 e2 e
    cases h
    simp only [Sem.run_bind, run_underlying e, Result.andThen_ok]
    cases d <;> first | rfl | exact absurd rfl (e1 _ ) | exact absurd e (e1 _) | exact absurd e (e2 _ _)
  · cases h

theorem info_of_underlying {P : Program} {t : TypeId} {d : TypeDesc} (h : P.underlying t = some d) : ∃ i, P.info? t = some i := by
  unfold Program.underlying at h
  cases hi : P.info? t with
  | none => simp [hi] at h
  | some i => exact ⟨i, rfl⟩

theorem aggOf_info {P : Program} {t : TypeId} {b : Bool} (h : aggOf P t = some b) : ∃ i, P.info? t = some i := by
  unfold aggOf at h
  cases hu : P.underlying t with
  | none => simp [hu] at h
  | some d => exact info_of_underlying hu

theorem run_size {P : Program} {t : TypeId} {i : TypeInfo} (h : P.info? t = some i) (w : World) : (sizeOf t).run P w = .ok (size P t) w := run_sizeOf w h

/-- Cells that are read, and packed as a type has them. -/
theorem run_loadVar_cells {P : Program} {w : World} {t : TypeId} {a : Addr} {cs : List V} {y : V} {g : Gh} {vs : List Value} (hp : pack P t cs = some y) (hl : vs.length = cs.length)
    (hc : ∀ (j : Nat) v, vs[j]? = some v → w.cell? (a.add j) = some v ∧ v.oneCell' = true) (hR : ∀ (j : Nat) v x, vs[j]? = some v → cs[j]? = some x → R g v x) :
    ∃ v, (loadVar t a).run P w = .ok v w ∧ R g v y := by
  unfold pack at hp
  split at hp
  · cases hp
  · rename_i hk
    cases hb : Nat.beq (List.len cs) (size P t) with
    | false => rw [hb] at hp; cases hp
    | true =>
      rw [hb] at hp; cases hp
      rw [Nat.beq_eq, List.len_eq] at hb
      obtain ⟨i, hi⟩ := aggOf_info hk
      refine ⟨.agg vs.toArray, ?_, .agg (by simp [hl]) (fun i v hv => (hc i v (by simpa using hv)).2) (fun i v x hv hx => hR i v x (by simpa using hv) hx)⟩
      unfold loadVar
      simp only [Sem.run_bind, aggOf_some hk, Result.andThen_ok, if_true, run_size hi]
      have := run_loadCells_list (P := P) w a vs (fun j v hv => (hc j v hv).1)
      rw [← hb, ← hl, this]
      rfl
  · rename_i hk
    split at hp
    · rename_i x
      cases hp
      match vs, hl with
      | [v], _ =>
        refine ⟨v, ?_, hR 0 v _ rfl rfl⟩
        unfold loadVar
        have h0 := (hc 0 v rfl).1
        have h0' : w.cell? a = some v := by simpa [Addr.add] using h0
        simp only [Sem.run_bind, aggOf_some hk, Result.andThen_ok, Bool.false_eq_true, if_false, run_load, h0']
    · cases hp

end Go.AM
