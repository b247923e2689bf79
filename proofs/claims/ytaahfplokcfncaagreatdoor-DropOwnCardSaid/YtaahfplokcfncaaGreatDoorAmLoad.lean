/-
  A load, and a store, of the abstract machine is the model's.
-/
import Derived.Test.YtaahfplokcfncaaGreatDoorAmMem
namespace Go.AM
open Go.RowKit

theorem bif_some {α : Type} {b : Bool} {x y : Option α} {r : α} (h : (bif b then x else y) = some r) (hy : y = none) : b = true ∧ x = some r := by
  cases b with
  | true => exact ⟨rfl, h⟩
  | false => rw [hy] at h; cases h

theorem cellsAt_some {sz k off : Nat} {es cs : List V} (h : cellsAt sz es off k = some cs) (hsz : 0 < sz) (he : ∀ (i : Nat) e, es[i]? = some e → e.cells.length = sz) :
    ∃ e, es[off / sz]? = some e ∧ off % sz + k ≤ e.cells.length ∧ cs = (e.cells.drop (off % sz)).take k := by
  unfold cellsAt at h
  cases h1 : Nat.beq sz 1 with
  | true =>
    rw [h1] at h
    simp only [cond_true] at h
    rw [Nat.beq_eq] at h1; subst h1
    obtain ⟨hk, h⟩ := bif_some h rfl
    rw [Nat.beq_eq] at hk; subst hk
    rw [List.at_eq] at h
    cases hx : es[off]? with
    | none => rw [hx] at h; cases h
    | some e =>
      rw [hx] at h; cases h
      have hl := he _ _ hx
      refine ⟨e, by rw [Nat.div_one]; exact hx, by rw [Nat.mod_one, hl]; omega, ?_⟩
      rw [Nat.mod_one, List.drop_zero, List.take_of_length_le (by omega)]
  | false =>
    rw [h1] at h
    change (match List.at es (off / sz) with | none => none | some e => bif Nat.ble (off % sz + k) (List.len e.cells) then some (List.takeN (List.dropN e.cells (off % sz)) k) else none) = some cs at h
    rw [List.at_eq] at h
    cases hx : es[off / sz]? with
    | none => rw [hx] at h; cases h
    | some e =>
      rw [hx] at h
      obtain ⟨hk, h⟩ := bif_some h rfl
      cases h
      rw [Nat.ble_eq, List.len_eq] at hk
      exact ⟨e, rfl, hk, by rw [List.takeN_eq, List.dropN_eq]⟩

theorem packO_some {P : Program} {t : TypeId} {o : Option (List V)} {y : V} (h : packO P t o = some y) : ∃ cs, o = some cs ∧ pack P t cs = some y := by
  cases o with
  | none => cases h
  | some cs => exact ⟨cs, rfl, h⟩

/-- A load out of an element whose cells are known. -/
theorem load_from {P : Program} {w : World} {t : TypeId} {g : Gh} {b base i j0 sz : Nat} {e y : V} {cs : List V} (f : Nat → Value)
    (hf : ∀ (j : Nat) x, e.cells[j]? = some x → w.cell? ⟨b, base + i * sz + j, none⟩ = some (f j) ∧ (f j).oneCell' = true ∧ R g (f j) x)
    (hk : j0 + size P t ≤ e.cells.length) (hcs : cs = (e.cells.drop j0).take (size P t)) (hp : pack P t cs = some y) :
    ∃ v, (loadVar t ⟨b, base + i * sz + j0, none⟩).run P w = .ok v w ∧ R g v y := by
  have hlen : cs.length = size P t := by rw [hcs]; simp; omega
  have hget : ∀ j, j < size P t → ∃ x, e.cells[j0 + j]? = some x ∧ cs[j]? = some x := by
    intro j hj
    obtain ⟨x, hx⟩ := getElem?_of_lt_list e.cells (j0 + j) (by omega)
    refine ⟨x, hx, ?_⟩
    rw [hcs, List.getElem?_take, if_pos hj, List.getElem?_drop]; exact hx
  refine run_loadVar_cells (vs := (List.range (size P t)).map fun j => f (j0 + j)) hp (by simp [hlen]) (fun j v hv => ?_) (fun j v x hv hx => ?_)
  · simp only [List.getElem?_map] at hv
    by_cases hj : j < size P t
    · rw [List.getElem?_range hj] at hv
      simp at hv; subst hv
      obtain ⟨x, hx, _⟩ := hget j hj
      obtain ⟨p, q, _⟩ := hf _ x hx
      rw [Addr.add_mk]
      have e : base + i * sz + j0 + j = base + i * sz + (j0 + j) := by omega
      rw [e]; exact ⟨p, q⟩
    · rw [List.getElem?_eq_none (by simp; omega)] at hv; simp at hv
  · simp only [List.getElem?_map] at hv
    by_cases hj : j < size P t
    · rw [List.getElem?_range hj] at hv
      simp at hv; subst hv
      obtain ⟨x', hx', hx''⟩ := hget j hj
      have e := Option.some.inj (hx''.symm.trans hx)
      exact e ▸ (hf _ x' hx').2.2
    · rw [List.getElem?_eq_none (by simp; omega)] at hv; simp at hv

/-- A row that a pointer names, as it stands. -/
theorem W.row {B : Nat} {w0 : World} {g : Gh} {h : Heap} {w : World} (hW : W B w0 g h w) {r ver ty sz pub : Nat} {cap : Option Nat} {es : List V} (hr : h.get r = .row ver ty sz pub cap es) :
    g.vr r = some ver ∧ ∃ b k C fr, g.mu r = some (b, k, sz) ∧ RowOk g w b k sz ty pub cap es C fr ∧ r < h.n := by
  have hv : g.vr r = some ver := by rw [hW.ver', hr]; rfl
  have hn : r < h.n := by
    rcases Nat.lt_or_ge r h.n with h' | h'
    · exact h'
    · rw [(hW.out r h').2] at hr; cases hr
  obtain ⟨⟨b, k, s⟩, hm⟩ := hW.dom r hn
  have ho := hW.obj r _ hm
  rw [hr] at ho
  obtain ⟨e, C, fr, hrow⟩ := ho
  simp only at e; subst e
  exact ⟨hv, b, k, C, fr, hm, hrow, hn⟩

theorem load_sound {P : Program} {B : Nat} {w0 : World} {g : Gh} {h : Heap} {w : World} (hW : W B w0 g h w) {t : TypeId} {a y : V} {va : Value} (hR : R g va a) (hl : load P h t a = some y) :
    ∃ v, (Instr.loadAt t va).run P w = .ok v w ∧ R g v y := by
  cases a with
  | ptr r ver off =>
    obtain ⟨ad, ver', rfl, hv, hle, hp⟩ := hR.ptr_inv
    simp only [load] at hl
    split at hl
    · rename_i ver2 ty sz pub cap es hr
      obtain ⟨hb, hl2⟩ := bif_some hl rfl
      rw [Nat.beq_eq] at hb; subst hb
      obtain ⟨hv2, b, k, C, fr, hm, hrow, _⟩ := hW.row hr
      rw [hv2] at hv; cases hv
      obtain ⟨k', sz', hm', ho, hs⟩ := hp rfl
      rw [hm] at hm'
      simp only [Option.some.injEq, Prod.mk.injEq] at hm'
      obtain ⟨hb', rfl, rfl⟩ := hm'
      obtain ⟨cs, hc, hpk⟩ := packO_some hl2
      obtain ⟨e, he, hk, hcs⟩ := cellsAt_some hc hrow.pos (fun i e he => (hrow.elems i e he).1)
      have had : ad = ⟨b, 0 + off / sz * sz + off % sz, none⟩ := by
        rw [Addr.eta hs, ← hb', ho]; congr 1
        have := Nat.div_add_mod off sz
        rw [Nat.mul_comm] at this; omega
      obtain ⟨v, h1, h2⟩ := load_from (P := P) (w := w) (t := t) (g := g) (b := b) (base := 0) (i := off / sz) (j0 := off % sz) (sz := sz) (e := e) (y := y) (cs := cs) (fun j => C.getD (off / sz * sz + j) Go.undef)
        (fun j x hx => by
          obtain ⟨v, p, q, s⟩ := hrow.cells _ _ _ _ he hx
          have : C.getD (off / sz * sz + j) Go.undef = v := by simp [Array.getD_eq_getD_getElem?, p]
          rw [this]
          exact ⟨cell?_mk hrow.at_ (by rw [Nat.zero_add]; exact p), q, s⟩) hk hcs hpk
      refine ⟨v, ?_, h2⟩
      simp only [Instr.loadAt, Instr.sureAddr, Sem.run_bind, Sem.run_pure, Result.andThen_ok]
      rw [had]; exact h1
    · cases hl
  | gptr sz es off =>
    have hg := hR.gptr_inv
    cases hg with
    | gptr val hsz hc hS hh =>
      rename_i b base
      simp only [load] at hl
      obtain ⟨cs, hc', hpk⟩ := packO_some hl
      obtain ⟨e, he, hk, hcs⟩ := cellsAt_some hc' hsz (fun i e he => (hc i e he).1)
      obtain ⟨v, h1, h2⟩ := load_from (P := P) (w := w) (t := t) (g := g) (b := b) (base := base) (i := off / sz) (j0 := off % sz) (sz := sz) (e := e) (y := y) (cs := cs) (fun j => val (off / sz) j)
        (fun j x hx => ⟨look_cell (hW.shut _ _ _ (hS _ _ _ _ he hx).1) (hS _ _ _ _ he hx).2, (hS _ _ _ _ he hx).2, .gnd (hh _ _ _ _ he hx)⟩) hk hcs hpk
      refine ⟨v, ?_, h2⟩
      simp only [Instr.loadAt, Instr.sureAddr, Sem.run_bind, Sem.run_pure, Result.andThen_ok]
      have : base + off = base + off / sz * sz + off % sz := by
        have := Nat.div_add_mod off sz
        rw [Nat.mul_comm] at this; omega
      rw [this]; exact h1
  | _ => cases hl

/-- A store. -/
theorem putCells_some {e e' : V} {j : Nat} {new : List V} (h : putCells e j new = some e') (hf : e.flat = true) (hn : new ≠ [] ∨ ∃ cs, e = .agg cs) (h1 : ∀ x ∈ new, x.flat = true ∧ x.cells = [x]) :
    j + new.length ≤ e.cells.length ∧ e'.cells.length = e.cells.length ∧ e'.flat = true ∧ ∀ (k : Nat) x, e'.cells[k]? = some x → (j ≤ k ∧ k < j + new.length ∧ new[k - j]? = some x) ∨ (¬ (j ≤ k ∧ k < j + new.length) ∧ e.cells[k]? = some x) := by
  unfold putCells at h
  split at h
  · rename_i cs
    obtain ⟨hb, h⟩ := bif_some h rfl
    cases h
    rw [Nat.ble_eq, List.len_eq, List.len_eq] at hb
    change j + new.length ≤ cs.length at hb
    have hsp : (V.agg (splice cs j new)).cells = cs.take j ++ (new ++ cs.drop (j + new.length)) := by
      show splice cs j new = _
      unfold splice; rw [List.app_eq, List.app_eq, List.takeN_eq, List.dropN_eq, List.len_eq]; rfl
    rw [hsp]
    refine ⟨hb, by simp [V.cells]; omega, rfl, fun k x hx => ?_⟩
    have htk : (cs.take j).length = j := by simp; omega
    by_cases hk1 : k < j
    · right
      refine ⟨by omega, ?_⟩
      rw [List.getElem?_append_left (by omega)] at hx
      rw [List.getElem?_take, if_pos hk1] at hx; exact hx
    · rw [List.getElem?_append_right (by omega), htk] at hx
      by_cases hk2 : k < j + new.length
      · left
        refine ⟨by omega, hk2, ?_⟩
        rw [List.getElem?_append_left (by omega)] at hx; exact hx
      · right
        refine ⟨by omega, ?_⟩
        rw [List.getElem?_append_right (by omega), List.getElem?_drop] at hx
        have : j + new.length + (k - j - new.length) = k := by omega
        rw [this] at hx; exact hx
  · rename_i hne
    split at h
    · split at h
      · rename_i v
        cases h
        have hc : e.cells = [e] := by cases e <;> first | rfl | exact absurd rfl (hne _)
        obtain ⟨p, q⟩ := h1 _ (List.mem_singleton.2 rfl)
        rw [hc, q]
        refine ⟨by simp, rfl, p, fun k x hx => ?_⟩
        left
        cases k with
        | zero => simp at hx; subst hx; exact ⟨Nat.le_refl _, by simp, rfl⟩
        | succ k => simp at hx
      · cases h
    · cases h

theorem scalar_cells {g : Gh} {v : Value} {x : V} (h : R g v x) (h1 : v.oneCell' = true) : x.flat = true ∧ x.cells = [x] := by
  cases x with
  | agg vs => obtain ⟨cs, rfl, _⟩ := h.agg_inv; simp [Value.oneCell'] at h1
  | tup vs => obtain ⟨cs, rfl, _⟩ := h.tup_inv; simp [Value.oneCell'] at h1
  | fsl => exact (h.fsl_inv).elim
  | _ => exact ⟨rfl, rfl⟩

end Go.AM
