/-
  Builtins: cap, copy, clear, unsafe.SliceData, unsafe.String.
-/
import Derived.Test.YtaahfplokcfncaaGreatDoorAmConv
import Derived.Lib.UnsafeStr
namespace Go.AM
open Go.RowKit

variable {P : Program} {B : Nat} {w0 : World} {g : Gh} {h : Heap} {w : World}

/-- Elements laid over a row's, from the o-th on. -/
theorem overRow (hW : W B w0 g h w) {r ver ty sz pub : Nat} {cap : Option Nat} {es : List V} {b k : Nat} {C : Array Value} {fr : Nat × Nat} (hr : h.get r = .row ver ty sz pub cap es) (hm : g.mu r = some (b, k, sz)) (hrow : RowOk g w b k sz ty pub cap es C fr)
    {o : Nat} {cells : List Value} {new : List V} (hes : EsOk g sz cells new) (hfit : o + new.length ≤ es.length) (hpub : pub ≤ o) :
    (storeCells ⟨b, o * sz, none⟩ cells).run P w = .ok () (blk w b (.cells (over C (o * sz) cells) ty fr)) ∧
      W B w0 g (h.set r (.row ver ty sz pub cap (es.take o ++ (new ++ es.drop (o + new.length))))) (blk w b (.cells (over C (o * sz) cells) ty fr)) := by
  have hend : o * sz + cells.length ≤ C.size := by
    rw [hrow.csize, hes.size]
    have : (o + new.length) * sz ≤ k * sz := Nat.mul_le_mul_right _ (Nat.le_trans hfit hrow.fits)
    rw [Nat.add_mul] at this; exact this
  have hlow : pub * sz ≤ o * sz := Nat.mul_le_mul_right _ hpub
  have hone : ∀ v ∈ cells, v.oneCell' = true := fun v hv => by
    obtain ⟨i, hi⟩ := List.getElem?_of_mem hv
    exact hes.one i v hi
  have hrun := run_storeCells (P := P) (b := b) (o := o * sz) (T := ty) (fr := fr) cells 0 C w hrow.at_ (by simpa using hend) hone (fun q h1 h2 => by rcases hrow.ice with h | ⟨h, h'⟩ <;> omega)
  refine ⟨by simpa using hrun, ?_⟩
  have hget := over_get C (o * sz) cells hend
  have hel : ∀ (i : Nat), (es.take o ++ (new ++ es.drop (o + new.length)))[i]? = if i < o then es[i]? else if i < o + new.length then new[i - o]? else es[i]? := by
    intro i
    have hl : (es.take o).length = o := by simp; omega
    rw [List.getElem?_append, hl]
    by_cases h1 : i < o
    · rw [if_pos h1, if_pos h1, List.getElem?_take, if_pos h1]
    · rw [if_neg h1, if_neg h1, List.getElem?_append]
      by_cases h2 : i < o + new.length
      · rw [if_pos (by omega), if_pos h2]
      · rw [if_neg (by omega), if_neg h2, List.getElem?_drop]
        congr 1; omega
  refine hW.setRow hr hm hrow ⟨blk_at w _ _ (block_lt hrow.at_), by rw [over_size]; exact hrow.csize, hrow.pos, ?_, ?_, hrow.caps, ?_, ?_, hrow.shut, hrow.ice⟩ ?_
  · have := hrow.fits; simp only [List.length_append, List.length_take, List.length_drop]; omega
  · have := hrow.pubs; simp only [List.length_append, List.length_take, List.length_drop]; omega
  · intro i e he
    rw [hel] at he
    split at he
    · exact hrow.elems i e he
    · split at he
      · exact hes.elems _ e he
      · exact hrow.elems i e he
  · intro i e j x he hx
    rw [hel] at he
    rw [hget]
    split at he
    · rename_i hi
      have hj : j < sz := by rw [← (hrow.elems i e he).1]; exact lt_of_getElem?_list hx
      have := idx_lt hi hj
      rw [if_neg (by omega)]
      exact hrow.cells _ _ _ _ he hx
    · rename_i hi
      split at he
      · rename_i hi2
        have hj : j < sz := by rw [← (hes.elems _ e he).1]; exact lt_of_getElem?_list hx
        have e1 : i * sz + j - o * sz = (i - o) * sz + j := by
          have : i * sz = (i - o) * sz + o * sz := by rw [← Nat.add_mul]; congr 1; omega
          omega
        have h3 : o * sz ≤ i * sz := Nat.mul_le_mul_right _ (by omega)
        have h4 : (i - o) * sz + j < new.length * sz := idx_lt (by omega) hj
        rw [hes.size, if_pos (by omega), e1]
        exact hes.rel _ _ _ _ he hx
      · rename_i hi2
        have h3 : (o + new.length) * sz ≤ i * sz := Nat.mul_le_mul_right _ (by omega)
        rw [Nat.add_mul] at h3
        rw [hes.size, if_neg (by omega)]
        exact hrow.cells _ _ _ _ he hx
  · intro q v hv hc
    have := hrow.shut q v hv
    rw [hget, if_neg (by omega)]; exact hc

/-- A slice of the machine's own, as it stands. -/
theorem slRow (hW : W B w0 g h w) {v : Value} {r ver o n ver' ty sz pub : Nat} {c cap : Option Nat} {es : List V} (hR : R g v (.sl r ver o n c)) (hr : h.get r = .row ver' ty sz pub cap es) (hv : ver = ver') :
    ∃ a cp b k C fr, v = .slice (some a) n cp ∧ n ≤ cp ∧ (∀ c', c = some c' → cp = c') ∧ a.block = b ∧ a.spot = none ∧ (0 < cp → a.off = o * sz) ∧ o + cp ≤ k ∧ (c = none → o + cp = k) ∧ g.mu r = some (b, k, sz) ∧ RowOk g w b k sz ty pub cap es C fr := by
  subst hv
  obtain ⟨hv2, b, k, C, fr, hm, hrow, _⟩ := hW.row hr
  obtain ⟨a, cp, vr', rfl, hvr, hle', hn, hc, hp⟩ := hR.sl_inv
  rw [hv2] at hvr; cases hvr
  obtain ⟨k', sz', hm', ho, hsp, hok, hk⟩ := hp rfl
  rw [hm] at hm'
  simp only [Option.some.injEq, Prod.mk.injEq] at hm'
  obtain ⟨hb', rfl, rfl⟩ := hm'
  exact ⟨a, cp, b, k, C, fr, rfl, hn, hc, hb'.symm, hsp, ho, hok, hk, hm, hrow⟩

def ValR (B : Nat) (w0 : World) (g : Gh) (r : Result Value) : Rs → Prop
  | .val y h => ValOk B w0 g r y h
  | .stuck => True
  | _ => False

theorem ValR.bif {b : Bool} {r : Result Value} {x : Rs} (h : b = true → ValR B w0 g r x) : ValR B w0 g r (bif b then x else .stuck) := by
  cases b with
  | true => exact h rfl
  | false => trivial

theorem bCap_sound (hW : W B w0 g h w) {t ty : TypeId} {ts : List TypeId} {v : Value} {x : V} (hR : R g v x) : ValR B w0 g ((Builtin.cap_ (t :: ts).toArray ty [v].toArray).run P w) (bCap P t h x) := by
  unfold bCap
  cases ht : isSliceT P t with
  | false => trivial
  | true =>
    obtain ⟨e, hu⟩ := isSliceT_some ht
    have run : ∀ a n c, v = .slice a n c → (Builtin.cap_ (t :: ts).toArray ty [v].toArray).run P w = .ok (.int .i64 (Int.ofNat c)) w := by
      rintro a n c rfl
      simp [Builtin.cap_, run_underlying hu, goInt]
    simp only [Bool.not_true, cond_false]
    split
    · have := hR.nils_inv
      exact ⟨_, w, g, run _ _ _ this, Grown.refl _ _, hW, .gnd (.int _ _)⟩
    · rename_i r ver o n c
      split
      · rename_i c
        obtain ⟨a, cp, ver', e, _, _, _, hc, _⟩ := hR.sl_inv
        have := hc c rfl; subst this
        exact ⟨_, w, g, run _ _ _ e, Grown.refl _ _, hW, .gnd (.int _ _)⟩
      · split
        · rename_i ver' ty' sz pub cap es hr
          split
          · rename_i k
            refine .bif fun hv => ?_
            rw [Nat.beq_eq] at hv
            obtain ⟨a, cp, b, k', C, fr, e, hn, hc, hb, hs, ho, hk, hk', hm, hrow⟩ := slRow hW hR hr hv
            have h1 := hrow.caps k rfl
            have h2 := hk' rfl
            have h3 : cp = Nat.sub k o := by show cp = k - o; omega
            subst h3
            exact ⟨_, w, g, run _ _ _ e, Grown.refl _ _, hW, .gnd (.int _ _)⟩
          · trivial
        · trivial
    · trivial

theorem bData_sound (hW : W B w0 g h w) {ts : Array TypeId} {ty : TypeId} {v : Value} {x : V} (hR : R g v x) : ValR B w0 g ((Builtin.unsafeSliceData_ ts ty #[v]).run P w) (bData h x) := by
  unfold bData
  split
  · have := hR.nils_inv; subst this
    exact ⟨_, w, g, Lib.run_unsafeSliceData_nil w ts ty 0 0, Grown.refl _ _, hW, .gnd .nilp⟩
  · rename_i r ver o n c
    split
    · rename_i ver' ty' sz pub cap es hr
      refine .bif fun hv => ?_
      simp only [Bool.and_eq_true, Nat.beq_eq, Nat.blt_eq] at hv
      obtain ⟨⟨hv, hn0⟩, _⟩ := hv
      obtain ⟨a, cp, b, k', C, fr, rfl, hn, hc, hb, hs, ho, hk, hk', hm, hrow⟩ := slRow hW hR hr hv
      subst hv
      have hvr : g.vr r = some ver := by rw [hW.ver', hr]; rfl
      refine ⟨_, w, g, Lib.run_unsafeSliceData_row w ts ty a n cp (by omega), Grown.refl _ _, hW, .ptr hvr (Nat.le_refl _) fun _ => ⟨k', sz, by rw [hb]; exact hm, ho (by omega), hs⟩⟩
    · trivial
  · trivial

theorem EsOk.take {sz : Nat} {cells : List Value} {es : List V} (hes : EsOk g sz cells es) (n : Nat) : EsOk g sz (cells.take (n * sz)) (es.take n) where
  size := by
    rw [List.length_take, List.length_take, hes.size]
    rcases Nat.le_total n es.length with h | h
    · have : n * sz ≤ es.length * sz := Nat.mul_le_mul_right _ h
      rw [Nat.min_eq_left this, Nat.min_eq_left h]
    · have : es.length * sz ≤ n * sz := Nat.mul_le_mul_right _ h
      rw [Nat.min_eq_right this, Nat.min_eq_right h]
  elems := fun i e he => by
    rw [List.getElem?_take] at he
    split at he
    · exact hes.elems i e he
    · cases he
  rel := fun i e j x he hx => by
    rw [List.getElem?_take] at he
    split at he
    · rename_i hi
      obtain ⟨v, hv, p⟩ := hes.rel i e j x he hx
      have hj : j < sz := by rw [← (hes.elems i e he).1]; exact lt_of_getElem?_list hx
      exact ⟨v, by rw [List.getElem?_take, if_pos (idx_lt hi hj)]; exact hv, p⟩
    · cases he

theorem copy_sound (hW : W B w0 g h w) {t ty : TypeId} {ts : List TypeId} {v v' : Value} {d x : V} (hR : R g v d) (hx : R g v' x) : ValR B w0 g ((Builtin.copy_ (t :: ts).toArray ty [v, v'].toArray).run P w) (AM.copy P t h d x) := by
  unfold AM.copy
  split
  · trivial
  · rename_i e he
    have hu := sliceElem_some he
    obtain ⟨inf, hinf⟩ : ∃ i, P.info? e = some i ∨ size P e = 0 := by
      cases hi : P.info? e with
      | some i => exact ⟨i, .inl rfl⟩
      | none => exact ⟨default, .inr (by simp [size, Program.cellsOf, hi])⟩
    cases hz : Nat.beq (size P e) 0 with
    | true => trivial
    | false =>
      have hz0 : size P e ≠ 0 := fun q => by rw [q] at hz; cases hz
      have hinf : P.info? e = some inf := by rcases hinf with h | h; exact h; exact absurd h hz0
      simp only [cond_false]
      split
      · trivial
      · rename_i new hnew
        obtain ⟨cells, hlen, hfirst, hes⟩ := appended_sound (P := P) hW (by omega) hx hnew
        have run : ∀ a dn cp, v = .slice a dn cp → (Builtin.copy_ (t :: ts).toArray ty [v, v'].toArray).run P w = ((match a with | some a => storeCells a (cells.take (Nat.min new.length dn * size P e)) | none => pure ()) >>= fun _ => pure (goInt (Nat.min new.length dn)) : Sem Value).run P w := by
          rintro a dn cp rfl
          have h1 := hlen w
          have h2 := hfirst w (Nat.min new.length dn) (Nat.min_le_left _ _) rfl
          simp only [Builtin.copy_, List.getElem?_toArray, List.getElem?_cons_zero, List.getElem?_cons_succ, Sem.run_bind, run_underlying hu, Result.andThen_ok, h1, run_size hinf, h2]
          cases a <;> simp
        split
        · have e := hR.nils_inv
          refine ⟨_, w, g, (run _ _ _ e).trans ?_, Grown.refl _ _, hW, .gnd (.int _ _)⟩
          simp [goInt]
        · rename_i r ver o dn c
          split
          · rename_i ver' ty' sz pub cap es hr
            refine .bif fun hv => ?_
            simp only [Bool.and_eq_true, Nat.beq_eq, Nat.ble_eq, List.len_eq] at hv
            obtain ⟨⟨⟨hv, hpub⟩, hsz⟩, hfit⟩ := hv
            obtain ⟨a, cp, b, k', C, fr, e1, hn, hc, hb, hs, ho, hk, hk', hm, hrow⟩ := slRow hW hR hr hv
            have hfit : o + dn ≤ es.length := hfit
            subst hsz
            have hmin : Nat.min new.length dn = (new.take dn).length := by rw [List.length_take]; exact Nat.min_comm _ _
            have htk : EsOk g (size P e) (cells.take (Nat.min new.length dn * size P e)) (new.take dn) := by
              have := hes.take dn
              have e2 : cells.take (dn * size P e) = cells.take (Nat.min new.length dn * size P e) := by
                rcases Nat.le_total new.length dn with hq | hq
                · have h3 : new.length * size P e ≤ dn * size P e := Nat.mul_le_mul_right _ hq
                  rw [show Nat.min new.length dn = new.length from Nat.min_eq_left hq, List.take_of_length_le (by rw [hes.size]; exact h3), List.take_of_length_le (by rw [hes.size]; omega)]
                · rw [show Nat.min new.length dn = dn from Nat.min_eq_right hq]
              rw [← e2]; exact this
            obtain ⟨hrun, hW'⟩ := overRow (P := P) hW hr hm hrow htk (by rw [List.length_take]; omega) hpub
            rw [List.takeN_eq, List.app_eq, List.app_eq, List.takeN_eq, List.dropN_eq, List.len_eq]
            have e3 : Nat.add o (Nat.min dn new.length) = o + (new.take dn).length := by rw [List.length_take]; rfl
            rw [e3]
            refine ⟨goInt (Nat.min new.length dn), _, g, (run _ _ _ e1).trans ?_, Grown.refl _ _, by subst hv; exact hW', ?_⟩
            · have hst : (storeCells a (cells.take (Nat.min new.length dn * size P e))).run P w = .ok () (blk w b (.cells (over C (o * size P e) (cells.take (Nat.min new.length dn * size P e))) ty' fr)) := by
                rcases Nat.eq_zero_or_pos cp with h0 | h0
                · have : Nat.min new.length dn = 0 := by rw [show dn = 0 by omega]; exact Nat.min_zero _
                  rw [this, Nat.zero_mul, List.take_zero]
                  simp only [storeCells, over]
                  rw [blk_self w b _ hrow.at_]; rfl
                · have : a = ⟨b, o * size P e, none⟩ := by rw [Addr.eta hs, hb, ho h0]
                  rw [this]; exact hrun
              simp [hst]
            · have : Nat.min dn new.length = Nat.min new.length dn := Nat.min_comm _ _
              rw [this]; exact .gnd (.int _ _)
          · trivial
        · trivial

theorem zeroCells_get (z : Array Value) (n i j : Nat) (hi : i < n) (hj : j < z.size) : (Builtin.zeroCells z n)[i * z.size + j]? = z[j]? := by
  unfold Builtin.zeroCells
  have h1 : i * z.size + j < n * z.size := idx_lt hi hj
  have h2 : (i * z.size + j) % z.size = j := by rw [Nat.mul_comm, Nat.mul_add_mod, Nat.mod_eq_of_lt hj]
  simp [h1, h2, hj]

theorem zeroes_es {zv : Value} {z : V} {sz : Nat} (hR : R g zv z) (hf : z.flat = true) (hsz : z.cells.length = sz) (n : Nat) : EsOk g sz (Builtin.zeroCells zv.cells n).toList (List.replicate n z) := by
  obtain ⟨⟨hn, hrel⟩, h1⟩ := hR.cells hf
  refine ⟨?_, fun i e he => ?_, fun i e j x he hx => ?_⟩
  · simp [size_zeroCells, hn, hsz]
  · have := List.eq_of_mem_replicate (List.mem_of_getElem? he)
    subst this; exact ⟨hsz, hf⟩
  · have hi := lt_of_getElem?_list he
    have := List.eq_of_mem_replicate (List.mem_of_getElem? he)
    subst this
    simp at hi
    have hj := lt_of_getElem?_list hx
    obtain ⟨v, hv⟩ := getElem?_of_lt_array zv.cells j (by rw [hn]; exact hj)
    refine ⟨v, ?_, h1 j v hv, hrel j v x hv hx⟩
    rw [Array.getElem?_toList, ← hsz, ← hn, zeroCells_get _ _ _ _ hi (by rw [hn]; exact hj)]; exact hv

theorem bClear_sound (hW : W B w0 g h w) {t ty : TypeId} {ts : List TypeId} {v : Value} {x : V} (hR : R g v x) : ValR B w0 g ((Builtin.clear_ (t :: ts).toArray ty [v].toArray).run P w) (bClear P t h x) := by
  unfold bClear
  cases ht : isSliceT P t with
  | false => trivial
  | true =>
    obtain ⟨e, hu⟩ := isSliceT_some ht
    simp only [Bool.not_true, cond_false]
    have tupR : R g (.tuple #[]) (.tup []) := .gnd (.tup rfl fun i v x a => by simp at a)
    have run0 : ∀ a c, v = .slice a 0 c → (Builtin.clear_ (t :: ts).toArray ty [v].toArray).run P w = .ok (.tuple #[]) w := by
      rintro a c rfl
      cases a <;> simp [Builtin.clear_, run_underlying hu]
    split
    · exact ⟨_, w, g, run0 _ _ hR.nils_inv, Grown.refl _ _, hW, tupR⟩
    · rename_i sz es c
      refine .bif fun hv => ?_
      rw [isNil_iff] at hv; subst hv
      have hg := hR.gsl_inv
      cases hg with
      | gsl => exact ⟨_, w, g, run0 _ _ rfl, Grown.refl _ _, hW, tupR⟩
    · rename_i r ver o n c
      cases hn : Nat.beq n 0 with
      | true =>
        rw [Nat.beq_eq] at hn; subst hn
        obtain ⟨a, cp, ver', e, _⟩ := hR.sl_inv
        exact ⟨_, w, g, run0 _ _ e, Grown.refl _ _, hW, tupR⟩
      | false =>
        have hn0 : n ≠ 0 := fun q => by rw [q] at hn; cases hn
        simp only [cond_false]
        split
        · rename_i ver' ty' sz pub cap es hr
          split
          · rename_i e' he
            have hu' := sliceElem_some he
            split
            · rename_i z hz
              refine .bif fun hv => ?_
              simp only [Bool.and_eq_true, Nat.beq_eq, Nat.ble_eq, List.len_eq] at hv
              obtain ⟨⟨⟨⟨⟨hv, hpub⟩, hsz⟩, hzl⟩, hzf⟩, hfit⟩ := hv
              have hfit : o + n ≤ es.length := hfit
              obtain ⟨a, cp, b, k', C, fr, e1, hn', hc, hb, hs, ho, hk, hk', hm, hrow⟩ := slRow hW hR hr hv
              obtain ⟨i, zv, hi, hzv, hg⟩ := zero_some hz
              have hzs := zeroes_es (g := g) (.gnd (hg _)) hzf hzl n
              obtain ⟨hrun, hW'⟩ := overRow (P := P) hW hr hm hrow hzs (by simpa using hfit) hpub
              rw [List.takeN_eq, List.app_eq, List.app_eq, List.dropN_eq, List.rep_eq]
              rw [List.length_replicate] at hW'
              have ha : a = ⟨b, o * sz, none⟩ := by rw [Addr.eta hs, hb, ho (by omega)]
              refine ⟨_, _, g, ?_, Grown.refl _ _, by subst hv; exact hW', tupR⟩
              rw [e1, ha]
              obtain ⟨m, rfl⟩ : ∃ m, n = m + 1 := ⟨n - 1, by omega⟩
              simp [Builtin.clear_, run_underlying hu', run_zero hi hzv, hrun]
            · trivial
          · trivial
        · trivial
    · trivial

theorem byteOf'_some {x : V} {b : UInt8} (h : byteOf' x = some b) : x = .int .u8 b.toNat := by
  unfold byteOf' at h
  split at h
  · rename_i n
    obtain ⟨hn, h⟩ := bif_some h rfl
    cases h
    rw [Nat.blt_eq] at hn
    simp [Nat.mod_eq_of_lt hn]
  · cases h

theorem bStringOf_sound (hW : W B w0 g h w) {t it ty : TypeId} {v v' : Value} {p n : V} (hR : R g v p) (hn : R g v' n) : ValR B w0 g ((Builtin.unsafeString_ [t, it].toArray ty [v, v'].toArray).run P w) (bStringOf P h t p n) := by
  unfold bStringOf
  split
  · rename_i n
    have := hn.int_inv; subst this
    split
    · refine .bif fun hv => ?_
      rw [Nat.beq_eq] at hv; subst hv
      have := hR.nilp_inv; subst this
      exact ⟨_, w, g, Lib.run_unsafeString_none w t it ty none, Grown.refl _ _, hW, .gnd (.str rfl)⟩
    · rename_i r ver off
      split
      · rename_i ver' ty' sz pub cap es hr
        split
        · rename_i u hu
          refine .bif fun hv => ?_
          simp only [Bool.and_eq_true, Nat.beq_eq, Nat.ble_eq, Nat.blt_eq, List.len_eq] at hv
          obtain ⟨⟨⟨⟨⟨⟨⟨hv, hoff⟩, hsz⟩, hty⟩, hn0⟩, hne⟩, hroom⟩, htu⟩ := hv
          subst hv; subst hoff; subst hsz; subst htu
          split
          · rename_i s hs
            rw [List.takeN_eq] at hs
            obtain ⟨hl, hget⟩ := mapO_get hs
            obtain ⟨hv2, b, k, C, fr, hm, hrow, _⟩ := hW.row hr
            obtain ⟨ad, ver', rfl, hvr, hle, hp⟩ := hR.ptr_inv
            rw [hv2] at hvr; cases hvr
            obtain ⟨k', sz', hm', ho, hsp⟩ := hp rfl
            rw [hm] at hm'
            simp only [Option.some.injEq, Prod.mk.injEq] at hm'
            obtain ⟨hb', rfl, rfl⟩ := hm'
            have had : ad = ⟨b, 0, none⟩ := by rw [Addr.eta hsp, ← hb', ho]
            subst had
            have hsl : s.length = n := by rw [hl, List.length_take]; omega
            have hcell : ∀ (j : Nat) (x : UInt8), s[j]? = some x → C[j]? = some (.int .u8 x.toNat) := by
              intro j x hx
              have hj : j < n := by rw [← hsl]; exact lt_of_getElem?_list hx
              obtain ⟨e, he⟩ := getElem?_of_lt_list (es.take n) j (by rw [List.length_take]; omega)
              obtain ⟨y, hy, hf⟩ := hget j e he
              rw [hx] at hy; cases hy
              have hee := byteOf'_some hf
              subst hee
              rw [List.getElem?_take, if_pos hj] at he
              obtain ⟨u, p, _, q⟩ := hrow.cells j _ 0 _ he rfl
              have := q.int_inv; subst this
              simpa using p
            have hCs : C.size = k := by have := hrow.csize; simpa using this
            have hfits := hrow.fits
            have hshape : w.shape? b = some (ty', C.size) := by simp [World.shape?, hrow.at_]
            have hrun := Lib.run_unsafeString_row (P := P) w t it ty ty' hu hty b C.size hshape s (fun e => by subst e; simp at hsl; omega) (by omega) (by have : n ≤ 1099511627776 := hroom; omega)
              (fun j x hx => by rw [Addr.add_mk]; exact cell?_mk hrow.at_ (by simpa using hcell j x hx))
            rw [hsl] at hrun
            have hice : fr.1 = fr.2 ∨ (fr.1 = 0 ∧ fr.2 ≤ pub) := by have := hrow.ice; simpa using this
            obtain ⟨fr', hfr', hfz⟩ : ∃ fr' : Nat × Nat, w.freeze ⟨b, 0, none⟩ n = blk w b (.cells C ty' fr') ∧ (fr'.1 = fr'.2 ∨ (fr'.1 = 0 ∧ fr'.2 ≤ Nat.max pub n)) := by
              refine ⟨if fr.1 == fr.2 then (0, 0 + n) else (min fr.1 0, max fr.2 (0 + n)), ?_, ?_⟩
              · unfold World.freeze blk
                rw [if_neg (by omega)]
                congr 1
                apply Array.ext_getElem?
                intro i
                rw [Array.getElem?_modify, Array.getElem?_setIfInBounds]
                split
                · rename_i e; subst e; rw [if_pos (block_lt hrow.at_)]; simp [hrow.at_]
                · rfl
              · have hmx : pub ≤ Nat.max pub n := Nat.le_max_left _ _
                have hmx' : n ≤ Nat.max pub n := Nat.le_max_right _ _
                split
                · exact .inr ⟨rfl, by simpa using hmx'⟩
                · rename_i hne'
                  have : ¬ fr.1 = fr.2 := by simpa using hne'
                  rcases hice with q | ⟨q, q'⟩
                  · exact absurd q this
                  · refine .inr ⟨by simp, ?_⟩
                    show max fr.2 (0 + n) ≤ Nat.max pub n
                    omega
            rw [hfr'] at hrun
            have hW' := hW.setRow (C' := C) (fr' := fr') (es' := es) (pub' := Nat.max pub n) hr hm hrow
              ⟨blk_at w _ _ (block_lt hrow.at_), hrow.csize, hrow.pos, hrow.fits, Nat.max_le.2 ⟨hrow.pubs, hne⟩, hrow.caps, hrow.elems, hrow.cells, fun o v hv => by
                have h1 := hrow.shut o v hv
                have hmx : pub ≤ Nat.max pub n := Nat.le_max_left _ _
                omega, by simpa using hfz⟩ (fun _ _ _ e => e)
            exact ⟨_, _, g, hrun, Grown.refl _ _, hW', .gnd (.str (by simp))⟩
          · trivial
        · trivial
      · trivial
    · trivial
  · trivial

end Go.AM
