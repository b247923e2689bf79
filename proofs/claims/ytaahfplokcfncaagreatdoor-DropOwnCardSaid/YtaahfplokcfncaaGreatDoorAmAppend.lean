/-
  The elements of a slice; append.
-/
import Derived.Test.YtaahfplokcfncaaGreatDoorAmPure
import Derived.Laws.AppendOwn
namespace Go.AM
open Go.RowKit

/-- Elements, as cells that lie one after the other. -/
structure EsOk (g : Gh) (sz : Nat) (cells : List Value) (es : List V) : Prop where
  size : cells.length = es.length * sz
  elems : ∀ (i : Nat) e, es[i]? = some e → e.cells.length = sz ∧ e.flat = true
  rel : ∀ (i : Nat) e (j : Nat) x, es[i]? = some e → e.cells[j]? = some x → ∃ v, cells[i * sz + j]? = some v ∧ v.oneCell' = true ∧ R g v x

theorem EsOk.nil {g : Gh} {sz : Nat} : EsOk g sz [] [] := ⟨by simp, fun i e h => by simp at h, fun i e j x h => by simp at h⟩

theorem EsOk.one {g : Gh} {sz : Nat} {cells : List Value} {es : List V} (h : EsOk g sz cells es) : ∀ (j : Nat) v, cells[j]? = some v → v.oneCell' = true := by
  intro j v hv
  have hj : j < es.length * sz := by rw [← h.size]; exact lt_of_getElem?_list hv
  have hsz : 0 < sz := by
    rcases Nat.eq_zero_or_pos sz with h0 | h0
    · rw [h0] at hj; omega
    · exact h0
  have hi : j / sz < es.length := Nat.div_lt_of_lt_mul (by rw [Nat.mul_comm]; exact hj)
  obtain ⟨e, he⟩ := getElem?_of_lt_list es _ hi
  obtain ⟨hl, _⟩ := h.elems _ _ he
  obtain ⟨x, hx⟩ := getElem?_of_lt_list e.cells (j % sz) (by rw [hl]; exact Nat.mod_lt _ hsz)
  obtain ⟨u, hu, h1, _⟩ := h.rel _ _ _ _ he hx
  have : j / sz * sz + j % sz = j := by have := Nat.div_add_mod j sz; rw [Nat.mul_comm] at this; exact this
  rw [this, hv] at hu; cases hu; exact h1

theorem EsOk.app {g : Gh} {sz : Nat} {c1 c2 : List Value} {e1 e2 : List V} (h1 : EsOk g sz c1 e1) (h2 : EsOk g sz c2 e2) : EsOk g sz (c1 ++ c2) (e1 ++ e2) where
  size := by simp [h1.size, h2.size, Nat.add_mul]
  elems := fun i e he => by
    rw [List.getElem?_append] at he
    split at he
    · exact h1.elems i e he
    · exact h2.elems _ e he
  rel := fun i e j x he hx => by
    rw [List.getElem?_append] at he
    split at he
    · rename_i hi
      obtain ⟨v, hv, p⟩ := h1.rel i e j x he hx
      exact ⟨v, by rw [List.getElem?_append_left (lt_of_getElem?_list hv)]; exact hv, p⟩
    · rename_i hi
      obtain ⟨v, hv, p⟩ := h2.rel _ e j x he hx
      refine ⟨v, ?_, p⟩
      have : i * sz + j = c1.length + ((i - e1.length) * sz + j) := by
        rw [h1.size, ← Nat.add_assoc, ← Nat.add_mul]
        congr 2; omega
      rw [this, List.getElem?_append_right (by omega)]
      rw [show c1.length + ((i - e1.length) * sz + j) - c1.length = (i - e1.length) * sz + j by omega]
      exact hv

theorem EsOk.mono {g g' : Gh} {sz : Nat} {c : List Value} {es : List V} (h : EsOk g sz c es) (hx : Ext g g') : EsOk g' sz c es :=
  ⟨h.size, h.elems, fun i e j x a b => (match h.rel i e j x a b with | ⟨v, p, q, r⟩ => ⟨v, p, q, r.mono hx⟩)⟩

/-- A part of a row. -/
theorem RowOk.es {g : Gh} {w : World} {b k sz ty pub : Nat} {cap : Option Nat} {es : List V} {C : Array Value} {fr : Nat × Nat} (h : RowOk g w b k sz ty pub cap es C fr) {o n : Nat} (hn : o + n ≤ es.length) :
    EsOk g sz ((C.toList.drop (o * sz)).take (n * sz)) ((es.drop o).take n) where
  size := by
    have h1 := h.csize
    have h2 := h.fits
    have : (o + n) * sz ≤ k * sz := Nat.mul_le_mul_right _ (by omega)
    rw [Nat.add_mul] at this
    have h3 : min n (es.length - o) = n := by omega
    simp only [List.length_take, List.length_drop, Array.length_toList, h3]
    omega
  elems := fun i e he => by
    rw [List.getElem?_take] at he
    split at he
    · rw [List.getElem?_drop] at he; exact h.elems _ e he
    · cases he
  rel := fun i e j x he hx => by
    rw [List.getElem?_take] at he
    split at he
    · rename_i hi
      rw [List.getElem?_drop] at he
      obtain ⟨v, hv, p⟩ := h.cells _ e j x he hx
      have hj : j < sz := by rw [← (h.elems _ e he).1]; exact lt_of_getElem?_list hx
      refine ⟨v, ?_, p⟩
      rw [List.getElem?_take, if_pos (idx_lt hi hj), List.getElem?_drop]
      rw [Nat.add_mul] at hv
      rw [show o * sz + (i * sz + j) = o * sz + i * sz + j by omega]
      simpa using hv
    · cases he

theorem elemsG_sound {B : Nat} {w0 : World} {g : Gh} {h : Heap} {w : World} (hW : W B w0 g h w) {sz : Nat} {vx : Value} {es : List V} {c : Option Nat} (hg : GR g.S vx (.gsl sz es c)) :
    ∃ a cap cells, vx = .slice a es.length cap ∧ es.length ≤ cap ∧ (∀ (j : Nat) v, cells[j]? = some v → ∃ a', a = some a' ∧ w.cell? (a'.add j) = some v) ∧ EsOk g sz cells es := by
  cases hg with
  | gsl val hsz hc hS hcap hle hh =>
    rename_i b off cap
    refine ⟨_, cap, (List.range (es.length * sz)).map fun q => val (q / sz) (q % sz), rfl, hle, ?_, ?_⟩
    · intro j v hv
      refine ⟨_, rfl, ?_⟩
      simp only [List.getElem?_map] at hv
      cases hj : (List.range (es.length * sz))[j]? with
      | none => rw [hj] at hv; cases hv
      | some q =>
        rw [hj] at hv; cases hv
        have hjl := lt_of_getElem?_list hj
        simp at hjl
        rw [List.getElem?_range hjl] at hj; cases hj
        have hi : j / sz < es.length := Nat.div_lt_of_lt_mul (by rw [Nat.mul_comm]; exact hjl)
        obtain ⟨e, he⟩ := getElem?_of_lt_list es _ hi
        obtain ⟨x, hx⟩ := getElem?_of_lt_list e.cells (j % sz) (by rw [(hc _ _ he).1]; exact Nat.mod_lt _ hsz)
        have := look_cell (hW.shut _ _ _ (hS _ _ _ _ he hx).1) (hS _ _ _ _ he hx).2
        rw [Addr.add_mk]
        have hjj : j / sz * sz + j % sz = j := by have := Nat.div_add_mod j sz; rw [Nat.mul_comm] at this; exact this
        rw [Nat.add_assoc, hjj] at this; exact this
    · refine ⟨by simp, hc, fun i e j x he hx => ?_⟩
      have hj : j < sz := by rw [← (hc _ _ he).1]; exact lt_of_getElem?_list hx
      have hi := lt_of_getElem?_list he
      refine ⟨val i j, ?_, (hS _ _ _ _ he hx).2, .gnd (hh _ _ _ _ he hx)⟩
      rw [List.getElem?_map, List.getElem?_range (idx_lt hi hj)]
      have h1 : (i * sz + j) / sz = i := by
        rw [Nat.mul_comm, Nat.mul_add_div (by omega), Nat.div_eq_of_lt hj]; rfl
      have h2 : (i * sz + j) % sz = j := by
        rw [Nat.mul_comm, Nat.mul_add_mod, Nat.mod_eq_of_lt hj]
      simp [h1, h2]
theorem elems_sound {B : Nat} {w0 : World} {g : Gh} {h : Heap} {w : World} (hW : W B w0 g h w) {sz : Nat} {x : V} {vx : Value} {es : List V} (_hsz : 0 < sz) (hx : R g vx x) (he : elems h sz x = some es) :
    ∃ a cap cells, vx = .slice a es.length cap ∧ es.length ≤ cap ∧ (∀ (j : Nat) v, cells[j]? = some v → ∃ a', a = some a' ∧ w.cell? (a'.add j) = some v) ∧ EsOk g sz cells es := by
  unfold elems at he
  split at he
  · cases he
    have := hx.nils_inv; subst this
    exact ⟨none, 0, [], rfl, Nat.le_refl _, fun j v hv => by simp at hv, .nil⟩
  · rename_i sz' es' c
    obtain ⟨hb, he⟩ := bif_some he rfl
    cases he
    rw [Nat.beq_eq] at hb; subst hb
    exact elemsG_sound hW hx.gsl_inv
  · rename_i sz' es'
    obtain ⟨hb, he⟩ := bif_some he rfl
    cases he
    rw [Nat.beq_eq] at hb; subst hb
    rcases hx.osl_inv with ⟨rfl, rfl⟩ | hg
    · exact ⟨none, 0, [], rfl, Nat.le_refl _, fun j v hv => by simp at hv, .nil⟩
    · exact elemsG_sound hW hg
  · rename_i r ver o n c
    split at he
    · rename_i ver' ty sz' pub cap' es' hr
      obtain ⟨hb, he⟩ := bif_some he rfl
      cases he
      simp only [Bool.and_eq_true, Nat.beq_eq, Nat.ble_eq, List.len_eq] at hb
      obtain ⟨⟨rfl, rfl⟩, hb3⟩ := hb
      change o + n ≤ es'.length at hb3
      obtain ⟨hv2, b, k, C, fr, hm, hrow, _⟩ := hW.row hr
      obtain ⟨a, cap, ver', rfl, hvr, hle', hn, hc, hp⟩ := hx.sl_inv
      rw [hv2] at hvr; cases hvr
      obtain ⟨k', sz', hm', ho, hsp, hok, hk⟩ := hp rfl
      rw [hm] at hm'; cases hm'
      rw [List.takeN_eq, List.dropN_eq]
      have hln : ((es'.drop o).take n).length = n := by simp; omega
      rw [hln]
      refine ⟨_, cap, _, rfl, hn, ?_, hrow.es hb3⟩
      intro j v hv
      refine ⟨a, rfl, ?_⟩
      rw [List.getElem?_take] at hv
      split at hv
      · rename_i hj
        rw [List.getElem?_drop] at hv
        have hnp : 0 < n := by
          rcases Nat.eq_zero_or_pos n with h0 | h0
          · rw [h0] at hj; omega
          · exact h0
        rw [Addr.eta hsp, Addr.add_mk, ho (by omega)]
        exact cell?_mk hrow.at_ (by simpa using hv)
      · cases hv
    · cases he
  · cases he

theorem mapB_eq (s : List UInt8) : mapB s = s.map byteV := by
  induction s with
  | nil => rfl
  | cons x s ih => show byteV x :: mapB s = _; rw [ih]; rfl

theorem cell?_heap {w w' : World} {a : Addr} {v : Value} (hh : w'.heap = w.heap) (h : w.cell? a = some v) : w'.cell? a = some v := by
  unfold World.cell? at *; rw [hh]; exact h

theorem appended_sound {P : Program} {B : Nat} {w0 : World} {g : Gh} {h : Heap} {w : World} (hW : W B w0 g h w) {sz : Nat} {x : V} {vx : Value} {es : List V} (hsz : 0 < sz) (hx : R g vx x) (he : appended h sz x = some es) :
    ∃ cells, (∀ w', (Builtin.lenOf vx).run P w' = .ok es.length w') ∧ (∀ w' n, n ≤ es.length → w'.heap = w.heap → (Builtin.firstCells sz n vx).run P w' = .ok ((cells.take (n * sz)).toArray) w') ∧ EsOk g sz cells es := by
  unfold appended at he
  split at he
  · rename_i s
    obtain ⟨b, rfl, rfl⟩ := hx.str_inv
    obtain ⟨hb, he⟩ := bif_some he rfl
    cases he
    rw [Nat.beq_eq] at hb; subst hb
    refine ⟨b.data.toList.map fun c => .int .u8 (c.toNat : Int), ?_, ?_, ?_⟩
    · intro w'; simp [Builtin.lenOf, mapB_eq]
    · intro w' n hn _
      simp only [Builtin.firstCells, Sem.run_pure, Nat.mul_one]
      congr 1
      apply Array.ext'
      simp [ByteArray.data_extract, List.extract_eq_take_drop]
    · rw [mapB_eq]
      refine ⟨by simp, fun i e he => ?_, fun i e j x he hx => ?_⟩
      · rw [List.getElem?_map] at he
        cases hc : b.data.toList[i]? with
        | none => rw [hc] at he; cases he
        | some c => rw [hc] at he; cases he; exact ⟨rfl, rfl⟩
      · rw [List.getElem?_map] at he
        cases hc : b.data.toList[i]? with
        | none => rw [hc] at he; cases he
        | some c =>
          rw [hc] at he; cases he
          have hj : j = 0 := by have := lt_of_getElem?_list hx; simp [byteV, V.cells] at this; exact this
          subst hj
          cases hx
          exact ⟨.int .u8 c.toNat, by rw [Nat.mul_one, Nat.add_zero, List.getElem?_map, hc]; rfl, rfl, .gnd (.int _ _)⟩
  · obtain ⟨a, cap, cells, rfl, hcap, hat, hes⟩ := elems_sound hW hsz hx he
    refine ⟨cells, fun w' => by simp [Builtin.lenOf], fun w' n hn hh => ?_, hes⟩
    cases a with
    | none =>
      have : cells = [] := by
        cases cells with
        | nil => rfl
        | cons c cs => obtain ⟨_, h, _⟩ := hat 0 c rfl; cases h
      subst this
      simp [Builtin.firstCells]
    | some a =>
      refine run_firstCells_some w' sz n a _ _ (cells.take (n * sz)) ?_ ?_
      · rw [List.length_take, hes.size]
        have : n * sz ≤ es.length * sz := Nat.mul_le_mul_right _ hn
        omega
      · intro j v hv
        rw [List.getElem?_take] at hv
        split at hv
        · obtain ⟨a', e, h'⟩ := hat j v hv
          cases e
          exact cell?_heap hh h'
        · cases hv

end Go.AM
