/-
  Slices that are written out, of data: data at once.
-/
import Derived.Test.YtaahfplokcfncaaGreatDoorAmStep
namespace Go.AM
open Go.RowKit

variable {P : Program} {E : Env} {ih : Task → Res} {B : Nat} {w0 : World}

theorem groundL_iff (f : V → Bool) (l : List V) : groundL f l = true ↔ ∀ x, x ∈ l → f x = true := by
  induction l with
  | nil => simp [groundL]
  | cons x l ih =>
    change (bif f x then groundL f l else false) = true ↔ _
    cases h : f x <;> simp [ih, h]

theorem ground_succ (k : Nat) (v : V) : ground (k + 1) v = match v with
    | .int _ _ => true
    | .bool _ => true
    | .str _ => true
    | .nilp => true
    | .nils => true
    | .nilm => true
    | .nilf => true
    | .nili => true
    | .gsl _ _ _ => true
    | .osl _ _ => true
    | .gptr _ _ _ => true
    | .gmap _ _ => true
    | .func f a b => match f with
      | .func _ => bif groundL (ground k) a then groundL (ground k) b else false
      | _ => false
    | .agg vs => groundL (ground k) vs
    | .iface _ x => ground k x
    | _ => false := rfl

theorem ground_GR {g : Gh} (k : Nat) : ∀ {v : Value} {x : V}, R g v x → ground k x = true → GR g.S v x := by
  induction k with
  | zero => intro v x _ h; cases h
  | succ k ih =>
    intro v x hR hg
    rw [ground_succ] at hg
    cases hR with
    | gnd h => exact h
    | func hf ha hb h1 h2 =>
      rename_i f a b xs ys
      cases f with
      | func f =>
        change (bif groundL (ground k) xs then groundL (ground k) ys else false) = true at hg
        obtain ⟨g1, g2⟩ : groundL (ground k) xs = true ∧ groundL (ground k) ys = true := by
          cases e : groundL (ground k) xs with
          | true => rw [e] at hg; exact ⟨rfl, hg⟩
          | false => rw [e] at hg; cases hg
        exact .func ha hb (fun i v x p q => ih (h1 i v x p q) ((groundL_iff _ _).1 g1 x (List.mem_of_getElem? q))) (fun i v x p q => ih (h2 i v x p q) ((groundL_iff _ _).1 g2 x (List.mem_of_getElem? q)))
      | _ => cases hg
    | iface h => exact .iface (ih h hg)
    | agg hn h1 h =>
      have hg := (groundL_iff _ _).1 hg
      exact .agg hn h1 fun i v x p q => ih (h i v x p q) (hg x (List.mem_of_getElem? q))
    | _ => cases hg

theorem ground_cells {k : Nat} {e x : V} {j : Nat} (h : ground k e = true) (hx : e.cells[j]? = some x) : ∃ k', ground k' x = true := by
  cases k with
  | zero => cases h
  | succ k =>
    by_cases ha : ∃ vs, e = .agg vs
    · obtain ⟨vs, rfl⟩ := ha
      rw [ground_succ] at h
      exact ⟨k, (groundL_iff _ _).1 h x (List.mem_of_getElem? hx)⟩
    · rw [cells_single fun vs he => ha ⟨vs, he⟩] at hx
      cases j with
      | zero => cases hx; exact ⟨_, h⟩
      | succ j => simp at hx

theorem lit_good {g : Gh} {h : Heap} {w : World} {G : Nat → Option V} {n : Nat} {tm : T V} {a : Act} (hW : W B w0 g h w) (hs : Slots g n tm a.tmps) (hG : GlobOk G g.S) {t : TypeId} {len : Nat} {ps : Array (Nat × Operand)} :
    Good P B w0 g ((vNext (Instr.buildSlice t len (ps.map fun (i, x) => (i, a.eval x)))).run P w) (oLit P G tm h t len ps) := by
  unfold oLit
  split
  · trivial
  · rename_i l hl
    split
    · trivial
    · rename_i e he
      split
      · trivial
      · rename_i z hz
        cases hb : (Nat.beq (size P e) 0 || !(Nat.ble (Nat.mul len (size P e)) 65536) || !(Nat.beq (List.len z.cells) (size P e)) || !z.flat) with
        | true => trivial
        | false =>
          simp only [cond_false]
          split
          · rename_i es hes
            cases hgr : groundL (ground 3) es with
            | false => trivial
            | true =>
              have hgr := (groundL_iff _ _).1 hgr
              simp only [Bool.or_eq_false_iff, Bool.not_eq_false', Nat.ble_eq, Nat.beq_eq, List.len_eq] at hb
              obtain ⟨⟨⟨h1, h2⟩, h3⟩, h4⟩ := hb
              have h0 : size P e ≠ 0 := fun q => by rw [q] at h1; cases h1
              obtain ⟨C, h5, h6, h7⟩ := elemsRow_sound (P := P) hW (evP_sound hs hG hl) he hz h0 h2 h3 h4 hes
              have hCs : C.size = len * size P e := by rw [← h7]; simpa using h6.size
              have hw' : ({ w with heap := w.heap.push (.cells C e) } : World).heap[w.heap.size]? = some (.cells C e (0, 0)) := heap_push_new w _
              have hm : ∀ b o v, g.S b o = some v → said g.S w.heap.size 0 (len * size P e) C b o = some v := fun b o v hv => by
                unfold said
                rw [if_neg (fun q => hW.noS (Nat.le_of_eq q.1.symm) hv)]; exact hv
              have hk : ∀ b o v, b < w.heap.size → said g.S w.heap.size 0 (len * size P e) C b o = some v → g.S b o = some v := fun b o v hb hv => by
                unfold said at hv
                rw [if_neg (fun q => by omega)] at hv; exact hv
              obtain ⟨hg1, hW1⟩ := hW.join (S := said g.S w.heap.size 0 (len * size P e) C) (w' := { w with heap := w.heap.push (.cells C e) }) (Below.push _ w _ (Nat.le_refl _)) hm hk (fun b o v hv => by
                unfold said at hv
                split at hv
                · rename_i hc
                  obtain ⟨rfl, _⟩ := hc
                  exact look_cells hw' (cellO_some hv).1 (cellO_some hv).2
                · exact look_push _ (hW.shut b o v hv))
              refine good_v ⟨.slice (some ⟨w.heap.size, 0, none⟩) len len, _, _, h5, hg1, hW1, .gnd ?_⟩
              have hcell : ∀ (i : Nat) x (j : Nat) y, es[i]? = some x → x.cells[j]? = some y → ∃ v, C[i * size P e + j]? = some v ∧ v.oneCell' = true ∧ R g v y := fun i x j y a b => by
                obtain ⟨v, p, q, r⟩ := h6.rel i x j y a b
                exact ⟨v, by simpa using p, q, r⟩
              have e0 : Value.slice (some ⟨w.heap.size, 0, none⟩) len len = Value.slice (some ⟨w.heap.size, 0, none⟩) es.length len := by rw [h7]
              rw [e0]
              refine .gsl (fun i j => C.getD (i * size P e + j) Go.undef) (Nat.pos_of_ne_zero h0) h6.elems (fun i x j y a b => ?_) (fun c' e => by cases e; rfl) (by omega) (fun i x j y a b => ?_)
              · obtain ⟨v, p, q, _⟩ := hcell i x j y a b
                rw [getD_some' p]
                refine ⟨?_, q⟩
                have hi := lt_of_getElem?_list a
                have hj : j < size P e := by rw [← (h6.elems i x a).1]; exact lt_of_getElem?_list b
                have := idx_lt (n := len) (by omega : i < len) hj
                show said g.S w.heap.size 0 (len * size P e) C w.heap.size (0 + i * size P e + j) = some v
                unfold said
                rw [Nat.zero_add, if_pos ⟨rfl, Nat.zero_le _, this⟩]; exact cellO_mk p q
              · obtain ⟨v, p, _, r⟩ := hcell i x j y a b
                rw [getD_some' p]
                obtain ⟨k', hk'⟩ := ground_cells (hgr x (List.mem_of_getElem? a)) b
                exact (ground_GR k' r hk').mono hm
          · trivial

theorem operL_good {g : Gh} {h : Heap} {w : World} {G : Nat → Option V} {n : Nat} {tm : T V} {a : Act} (hW : W B w0 g h w) (hs : Slots g n tm a.tmps) (hG : GlobOk G g.S) (o : Oper) : Good P B w0 g ((execOp a.eval o).run P w) (operL P G tm h o) := by
  unfold operL
  split
  · rename_i t len ps ho
    unfold execOp
    rw [ho]
    exact lit_good hW hs hG
  · exact oper_good hW hs hG o

end Go.AM
