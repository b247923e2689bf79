/-
  A store of the abstract machine is the model's.
-/
import Derived.Test.YtaahfplokcfncaaGreatDoorAmLoad
namespace Go.AM
open Go.RowKit

theorem idx_ne {i i' j j' sz : Nat} (h : i ≠ i') (hj : j < sz) (hj' : j' < sz) : i * sz + j ≠ i' * sz + j' := by
  intro e
  have h1 : (i * sz + j) / sz = i := by
    rw [Nat.mul_comm, Nat.mul_add_div (by omega), Nat.div_eq_of_lt hj]; rfl
  have h2 : (i' * sz + j') / sz = i' := by
    rw [Nat.mul_comm, Nat.mul_add_div (by omega), Nat.div_eq_of_lt hj']; rfl
  rw [e, h2] at h1; exact h h1.symm
theorem idx_lt {i n j sz : Nat} (h : i < n) (hj : j < sz) : i * sz + j < n * sz := by
  have : (i + 1) * sz ≤ n * sz := Nat.mul_le_mul_right sz h
  rw [Nat.succ_mul] at this; omega
theorem idx_ge {i n j sz : Nat} (h : n ≤ i) : n * sz ≤ i * sz + j := Nat.le_trans (Nat.mul_le_mul_right sz h) (Nat.le_add_right _ _)

theorem size_info {P : Program} {t : TypeId} (h : 1 ≤ size P t) : ∃ i, P.info? t = some i := by
  unfold size Program.cellsOf at h
  cases hi : P.info? t with
  | none => simp [hi] at h
  | some i => exact ⟨i, rfl⟩

/-- A row's elements turned, its place and its version as they were. -/
theorem W.setRow {B : Nat} {w0 : World} {g : Gh} {h : Heap} {w : World} (hW : W B w0 g h w) {r ver ty sz pub : Nat} {cap : Option Nat} {es : List V} {b k : Nat} {C C' : Array Value} {fr fr' : Nat × Nat} {es' : List V} {pub' : Nat}
    (hr : h.get r = .row ver ty sz pub cap es) (hm : g.mu r = some (b, k, sz)) (hrow : RowOk g w b k sz ty pub cap es C fr)
    (hrow' : RowOk g (blk w b (.cells C' ty fr')) b k sz ty pub' cap es' C' fr')
    (hkeep : ∀ o v, g.S b o = some v → C[o]? = some v → C'[o]? = some v) : W B w0 g (h.set r (.row ver ty sz pub' cap es')) (blk w b (.cells C' ty fr')) := by
  have hn := hW.live hm
  refine hW.turn r (b, k, sz) (Below.blk w b _ (hW.high r _ hm).1) (Ext.refl g) (.inl ⟨Heap.n_set _ _ _, hn⟩) (fun _ _ => rfl) (fun q hq => by rw [Heap.get_set, if_neg (fun e => hq e.symm)]) (fun _ _ => rfl) hm
    (by rw [hW.ver', hr, Heap.get_set, if_pos rfl]; rfl) ?_ (by rw [Heap.get_set, if_pos rfl]; exact ⟨rfl, C', fr', hrow'⟩) ⟨(hW.high r _ hm).1, by rw [blk_size]; exact (hW.high r _ hm).2⟩ ?_
  · intro q x hq hx
    have hne : x.1 ≠ b := fun e => hq (hW.inj q r x _ hx hm e)
    exact ⟨hne, blk_other w b x.1 _ hne, fun _ _ h => h⟩
  · intro b' o v hv
    by_cases e : b' = b
    · subst e
      have h1 := hW.shut _ o v hv
      obtain ⟨h3, h4⟩ := look_at hrow.at_ h1
      exact look_cells (blk_at w _ _ (block_lt hrow.at_)) (hkeep o v hv h3) h4
    · rw [look_blk_other _ e]; exact hW.shut b' o v hv

theorem store_sound {P : Program} {B : Nat} {w0 : World} {g : Gh} {h h' : Heap} {w : World} (hW : W B w0 g h w) {t : TypeId} {a x : V} {va vx : Value} (hR : R g va a) (hx : R g vx x) (hl : store P h t a x = some h') :
    ∃ w', (Instr.storeAt t va vx).run P w = .ok () w' ∧ W B w0 g h' w' := by
  cases a with
  | ptr r ver off =>
    obtain ⟨ad, ver', rfl, hv, hle, hp⟩ := hR.ptr_inv
    simp only [store] at hl
    split at hl
    · rename_i ver2 ty sz pub cap es hr
      obtain ⟨hb, hl2⟩ := bif_some hl rfl
      simp only [Bool.and_eq_true] at hb
      obtain ⟨⟨⟨⟨hb1, hflat⟩, hsz⟩, hpub⟩, hone⟩ := hb
      rw [Nat.beq_eq] at hb1 hsz; rw [Nat.ble_eq] at hpub hone; rw [List.len_eq] at hsz
      subst hb1
      obtain ⟨hv2, b, k, C, fr, hm, hrow, _⟩ := hW.row hr
      rw [hv2] at hv; cases hv
      obtain ⟨k', sz', hm', ho, hs⟩ := hp rfl
      rw [hm] at hm'
      simp only [Option.some.injEq, Prod.mk.injEq] at hm'
      obtain ⟨hb', rfl, rfl⟩ := hm'
      change pub ≤ off / sz at hpub
      split at hl2
      · rename_i e hat
        split at hl2
        · rename_i e' hput
          cases hl2
          rw [List.at_eq] at hat
          change es[off / sz]? = some e at hat
          change putCells e (off % sz) x.cells = some e' at hput
          obtain ⟨hel, hef⟩ := hrow.elems _ _ hat
          obtain ⟨⟨hcn, hcR⟩, hc1⟩ := hx.cells hflat
          have hscal : ∀ y ∈ x.cells, y.flat = true ∧ y.cells = [y] := fun y hy => by
            obtain ⟨i, hi⟩ := List.getElem?_of_mem hy
            obtain ⟨u, hu⟩ := getElem?_of_lt_array vx.cells i (by rw [hcn]; exact lt_of_getElem?_list hi)
            exact scalar_cells (hcR i u y hu hi) (hc1 i u hu)
          have hne : x.cells ≠ [] := fun e => by rw [e] at hsz; simp at hsz; omega
          obtain ⟨hfit, hlen, hfl, hget⟩ := putCells_some hput hef (.inl hne) hscal
          rw [hel] at hfit
          have hi : off / sz < es.length := lt_of_getElem?_list hat
          have hoff : off = off / sz * sz + off % sz := by
            have := Nat.div_add_mod off sz
            rw [Nat.mul_comm] at this; omega
          have hend : off + x.cells.length ≤ C.size := by
            rw [hrow.csize]
            have : (off / sz + 1) * sz ≤ k * sz := Nat.mul_le_mul_right sz (Nat.lt_of_lt_of_le hi hrow.fits)
            rw [Nat.succ_mul] at this; omega
          have hlow : pub * sz ≤ off := by rw [hoff]; exact idx_ge hpub
          obtain ⟨inf, hinf⟩ := size_info hone
          have hrun := run_storeCells (P := P) (b := b) (o := off) (T := ty) (fr := fr) vx.cells.toList 0 C w hrow.at_ (by simp [hcn]; omega)
            (fun v hv => by
              obtain ⟨i, hi⟩ := List.getElem?_of_mem hv
              exact hc1 i v (by simpa using hi))
            (fun q h1 h2 => by rcases hrow.ice with h | ⟨h, h'⟩ <;> omega)
          refine ⟨blk w b (.cells (over C (off + 0) vx.cells.toList) ty fr), ?_, ?_⟩
          · simp only [Instr.storeAt, Instr.sureAddr, Sem.run_bind, Sem.run_pure, Result.andThen_ok, storeVar, run_size hinf]
            rw [if_neg (by rw [hcn, hsz]; simp)]
            rw [Addr.eta hs, ← hb', ho]; exact hrun
          · rw [List.setN_eq]
            change W B w0 g (h.set r (.row ver ty sz pub cap (es.set (off / sz) e'))) _
            have hovg := over_get C (off + 0) vx.cells.toList (by simp [hcn]; omega)
            simp only [Nat.add_zero, Array.length_toList, hcn] at hovg
            refine hW.setRow hr hm hrow ⟨blk_at w _ _ (block_lt hrow.at_), by rw [over_size]; exact hrow.csize, hrow.pos, by simp; exact hrow.fits, by simp; exact hrow.pubs, hrow.caps, ?_, ?_, hrow.shut, hrow.ice⟩ ?_
            · intro i e2 he2
              rw [List.getElem?_set] at he2
              split at he2
              · (try rw [if_pos hi] at he2); cases he2; exact ⟨hlen.trans hel, hfl⟩
              · exact hrow.elems i e2 he2
            · intro i e2 j y he2 hy
              rw [List.getElem?_set] at he2
              split at he2
              · rename_i hii
                (try rw [if_pos hi] at he2); cases he2
                subst hii
                rw [Nat.add_zero, hovg]
                rcases hget j y hy with ⟨a1, a2, a3⟩ | ⟨a1, a2⟩
                · rw [if_pos (by omega)]
                  have : off / sz * sz + j - off = j - off % sz := by omega
                  rw [this]
                  obtain ⟨u, hu⟩ := getElem?_of_lt_array vx.cells (j - off % sz) (by rw [hcn]; exact lt_of_getElem?_list a3)
                  exact ⟨u, by simpa using hu, hc1 _ u hu, hcR _ u y hu a3⟩
                · rw [if_neg (by omega)]
                  exact hrow.cells _ _ _ _ hat a2
              · rename_i hii
                rw [Nat.add_zero, hovg]
                have hj : j < sz := by rw [← (hrow.elems i e2 he2).1]; exact lt_of_getElem?_list hy
                rw [if_neg]
                · exact hrow.cells _ _ _ _ he2 hy
                · intro hc
                  have hq : i * sz + j - off / sz * sz < sz := by omega
                  have := idx_ne (i := i) (i' := off / sz) (j := j) (j' := i * sz + j - off / sz * sz) (sz := sz) (fun e => hii e.symm) hj hq
                  omega
            · intro o v hv hc
              have := hrow.shut o v hv
              rw [Nat.add_zero, hovg, if_neg (by omega)]; exact hc
        · cases hl2
      · cases hl2
    · cases hl
  | _ => cases hl

end Go.AM
