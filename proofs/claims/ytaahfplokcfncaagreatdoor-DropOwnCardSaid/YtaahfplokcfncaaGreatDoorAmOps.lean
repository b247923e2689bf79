/-
  Operands, addresses, slices, fields: the abstract machine's are the model's.
-/
import Derived.Test.YtaahfplokcfncaaGreatDoorAmEq
namespace Go.AM
open Go.RowKit

theorem allL_iff (f : V → Bool) (l : List V) : allL f l = true ↔ ∀ x ∈ l, f x = true := by
  induction l with
  | nil => simp only [List.not_mem_nil, false_implies, implies_true, iff_true]; rfl
  | cons a l ih =>
    show (bif f a then allL f l else false) = true ↔ _
    cases h : f a with
    | true => simp [ih, h]
    | false => simp [h]

theorem GR.one {S : Nat → Nat → Option Value} {v : Value} {x : V} (h : GR S v x) (hs : x.single = true) : v.oneCell' = true := by
  cases h <;> first | rfl | (cases hs; done) | (rename_i h; cases h; rfl)

theorem ofValue_sound {S : Nat → Nat → Option Value} (n : Nat) : ∀ {v : Value} {x : V}, ofValue n v = some x → GR S v x := by
  induction n with
  | zero => intro v x h; cases h
  | succ n ih =>
    intro v x h
    cases v with
    | int k n => cases h; exact .int _ _
    | bool b => cases h; exact .bool _
    | string s => cases h; exact .str rfl
    | pointer a => cases a <;> cases h; exact .nilp
    | slice a n c =>
      cases a with
      | some _ => cases h
      | none =>
        obtain ⟨hb, h⟩ := bif_some h rfl
        cases h
        simp only [Bool.and_eq_true, Nat.beq_eq] at hb
        obtain ⟨rfl, rfl⟩ := hb
        exact .nils
    | map m => cases m <;> cases h; exact .nilm
    | nilFunc => cases h; exact .nilf
    | nilIface => cases h; exact .nili
    | agg cs =>
      change (match mapO (ofValue n) cs.toList with | some vs => bif allL V.single vs then some (.agg vs) else none | none => none) = some x at h
      cases hm : mapO (ofValue n) cs.toList with
      | none => rw [hm] at h; cases h
      | some vs =>
        rw [hm] at h
        obtain ⟨hb, h⟩ := bif_some h rfl
        cases h
        rw [allL_iff] at hb
        obtain ⟨h1, h2⟩ := mapO_get hm
        have hrel : ∀ (i : Nat) v x, cs[i]? = some v → vs[i]? = some x → GR S v x := fun i v x hv hx => by
          obtain ⟨y, hy, hf⟩ := h2 i v (by simpa using hv)
          rw [hy] at hx; cases hx
          exact ih hf
        refine .agg (by simpa using h1.symm) (fun i v hv => ?_) hrel
        obtain ⟨y, hy, hf⟩ := h2 i v (by simpa using hv)
        exact (ih hf).one (hb y (List.mem_of_getElem? hy))
    | iface t v =>
      change (match ofValue n v with | some v => some (V.iface t v) | none => none) = some x at h
      cases hm : ofValue n v with
      | none => rw [hm] at h; cases h
      | some y => rw [hm] at h; cases h; exact .iface (ih hm)
    | _ => cases h

/-- What the machine is told of the variables holds of the sealed cells. -/
def GlobOk (G : Nat → Option V) (S : Nat → Nat → Option Value) : Prop := ∀ gl x, G gl = some x → GR S (.pointer (some ⟨gl, 0, none⟩)) x
theorem GlobOk.mono {G : Nat → Option V} {S S' : Nat → Nat → Option Value} (hS : ∀ b o v, S b o = some v → S' b o = some v) (h : GlobOk G S) : GlobOk G S' := fun gl x e => (h gl x e).mono hS

/-- A frame's slots. -/
structure Slots (g : Gh) (n : Nat) (tm : T V) (tmps : Array Value) : Prop where
  size : tmps.size = n
  rel : ∀ (i : Nat) v, tmps[i]? = some v → tm.get undef i = lost ∨ R g v (tm.get undef i)
  none : ∀ i, n ≤ i → tm.get undef i = undef ∨ tm.get undef i = lost
theorem Slots.mono {g g' : Gh} {n : Nat} {tm : T V} {tmps : Array Value} (h : Slots g n tm tmps) (hx : Ext g g') : Slots g' n tm tmps := ⟨h.size, fun i v e => (h.rel i v e).imp id fun q => q.mono hx, h.none⟩

theorem R.undef {g : Gh} : R g Go.undef AM.undef := .gnd (.tup rfl (fun i v x h => by simp at h))

theorem Slots.get {g : Gh} {n : Nat} {tm : T V} {tmps : Array Value} (h : Slots g n tm tmps) (t : Nat) : tm.get undef t = lost ∨ R g (tmps.getD t Go.undef) (tm.get undef t) := by
  rcases Nat.lt_or_ge t n with h' | h'
  · obtain ⟨v, hv⟩ := getElem?_of_lt_array tmps t (by rw [h.size]; exact h')
    have : tmps.getD t Go.undef = v := by simp [Array.getD_eq_getD_getElem?, hv]
    rw [this]; exact h.rel t v hv
  · rcases h.none t h' with e | e
    · rw [e]
      right
      have : tmps.getD t Go.undef = Go.undef := by simp [Array.getD_eq_getD_getElem?, Array.getElem?_eq_none (by rw [h.size]; exact h')]
      rw [this]; exact .undef
    · exact .inl e

theorem notLost_some {v y : V} (h : notLost v = some y) : y = v ∧ v ≠ lost := by
  unfold notLost at h
  split at h
  · cases h
  · rename_i hn
    cases h
    exact ⟨rfl, fun e => by subst e; exact hn _ _ _ _ _ rfl⟩
theorem ev_sound {G : Nat → Option V} {g : Gh} {n : Nat} {tm : T V} {a : Act} {x : Operand} {y : V} (hs : Slots g n tm a.tmps) (hG : GlobOk G g.S) (h : ev G tm x = some y) : R g (a.eval x) y := by
  cases x with
  | tmp t =>
    obtain ⟨rfl, hn⟩ := notLost_some h
    exact (hs.get t).resolve_left hn
  | const v => exact .gnd (ofValue_sound 3 h)
  | global gl => exact .gnd (hG gl y h)
  | func f => cases h; exact .gnd (.fn f)

theorem evs_sound {G : Nat → Option V} {g : Gh} {n : Nat} {tm : T V} {a : Act} {xs : List Operand} {ys : List V} (hs : Slots g n tm a.tmps) (hG : GlobOk G g.S) (h : mapO (ev G tm) xs = some ys) :
    Rs' g (xs.map a.eval).toArray ys := by
  obtain ⟨h1, h2⟩ := mapO_get h
  refine ⟨by simp [h1], fun i v x hv hx => ?_⟩
  simp only [List.getElem?_toArray, List.getElem?_map] at hv
  cases hi : xs[i]? with
  | none => rw [hi] at hv; cases hv
  | some o =>
    rw [hi] at hv; simp at hv; subst hv
    obtain ⟨y, hy, hf⟩ := h2 i o hi
    rw [hy] at hx; cases hx
    exact ev_sound hs hG hf

/-- Numbers that index. -/
theorem natI_sound {g : Gh} {v : Value} {x : V} {i : Nat} (hR : R g v x) (h : natI x = some i) : ∃ k, v = .int k (i : Int) := by
  cases x with
  | int k n =>
    have := hR.int_inv; subst this
    cases n with
    | ofNat m => cases h; exact ⟨k, rfl⟩
    | negSucc m => cases h
  | _ => cases h

theorem sliceElem_some {P : Program} {t e : TypeId} (h : sliceElem P t = some e) : P.underlying t = some (.slice e) := by
  unfold sliceElem at h
  split at h
  · rename_i e' hu; cases h; exact hu
  · cases h
theorem arrayOf_some {P : Program} {t e : TypeId} {n : Nat} (h : arrayOf P t = some (n, e)) : P.underlying t = some (.array n e) := by
  unfold arrayOf at h
  split at h
  · rename_i hu; cases h; exact hu
  · cases h
theorem fieldOff_some {P : Program} {t ft : TypeId} {f k : Nat} (h : fieldOff P t f = some (ft, k)) : ∃ fs fl, P.underlying t = some (.struct fs) ∧ fs[f]? = some fl ∧ fl.type = ft ∧ fl.offset = k := by
  unfold fieldOff at h
  split at h
  · rename_i fs hu
    split at h
    · rename_i fl hf; cases h; exact ⟨fs, fl, hu, hf, rfl, rfl⟩
    · cases h
  · cases h

/-- A place moved within its element. -/
theorem addOff_sound {B : Nat} {w0 : World} {g : Gh} {h : Heap} {w : World} (_hW : W B w0 g h w) {a y : V} {va : Value} {k : Nat} (hR : R g va a) (he : addOff a k = some y) : ∃ ad, va = .pointer (some ad) ∧ R g (.pointer (some (ad.add k))) y := by
  cases a with
  | ptr r ver off =>
    cases he
    obtain ⟨ad, ver', rfl, hv, hle, hp⟩ := hR.ptr_inv
    refine ⟨ad, rfl, ?_⟩
    change R g _ (.ptr r ver (off + k))
    refine .ptr hv hle fun e => ?_
    obtain ⟨k', sz, hm, ho, hs⟩ := hp e
    refine ⟨k', sz, ?_, ?_, ?_⟩
    · unfold Addr.add; split <;> exact hm
    · unfold Addr.add; split
      · rename_i h0; rw [ho, h0]; rfl
      · simp [ho]
    · unfold Addr.add; split
      · exact hs
      · rfl
  | gptr sz es off =>
    cases he
    have hg := hR.gptr_inv
    cases hg with
    | gptr val hsz hc hS hh =>
      refine ⟨_, rfl, ?_⟩
      rw [Addr.add_mk, Nat.add_assoc]
      exact .gnd (.gptr val hsz hc hS hh)
  | _ => cases he

theorem fieldAddr_sound {P : Program} {B : Nat} {w0 : World} {g : Gh} {h : Heap} {w : World} (hW : W B w0 g h w) {t ft : TypeId} {f k : Nat} {a y : V} {va : Value} (hR : R g va a) (hf : fieldOff P t f = some (ft, k)) (hz : size P ft ≠ 0) (he : addOff a k = some y) :
    ∃ v, (Instr.fieldAt t va f).run P w = .ok v w ∧ R g v y := by
  obtain ⟨fs, fl, hu, hfl, rfl, rfl⟩ := fieldOff_some hf
  obtain ⟨ad, rfl, hR'⟩ := addOff_sound hW hR he
  obtain ⟨inf, hinf⟩ := size_info (P := P) (t := fl.type) (by omega)
  refine ⟨_, ?_, hR'⟩
  simp only [Instr.fieldAt, Sem.run_bind, run_underlying hu, Result.andThen_ok, hfl, Instr.sureAddr, Sem.run_pure, fieldPlace, run_size hinf, Sem.run_ite]
  rw [if_neg hz]
  simp

theorem W.rowSz {B : Nat} {w0 : World} {g : Gh} {h : Heap} {w : World} (hW : W B w0 g h w) {r ver b k sz : Nat} (hv : g.vr r = some ver) (hm : g.mu r = some (b, k, sz)) : AM.rowSz h r = sz := by
  have h1 := hW.ver' r
  rw [hv] at h1
  unfold AM.rowSz
  cases hr : h.get r with
  | row v ty s p c es =>
    obtain ⟨_, b', k', C, fr, hm', _⟩ := hW.row hr
    rw [hm] at hm'; cases hm'; rfl
  | _ => rw [hr] at h1; cases h1

theorem indexArr_sound {P : Program} {B : Nat} {w0 : World} {g : Gh} {h : Heap} {w : World} (hW : W B w0 g h w) {t e : TypeId} {a y : V} {va : Value} {k : IntKind} {len n : Nat} (ha : R g va a)
    (hl : arrayOf P t = some (len, e)) (hlt : n < len) (hpos : 0 < size P e) (hadd : addOff a (n * size P e) = some y) : ∃ v, (Instr.indexAt t va (.int k (n : Int))).run P w = .ok v w ∧ R g v y := by
  have hu := arrayOf_some hl
  obtain ⟨ad, rfl, hR'⟩ := addOff_sound hW ha hadd
  obtain ⟨inf, hinf⟩ := size_info (P := P) (t := e) hpos
  refine ⟨_, ?_, hR'⟩
  simp only [Instr.indexAt, asIntOf, Sem.run_bind, Sem.run_pure, Result.andThen_ok, run_underlying hu, Instr.sureAddr]
  rw [Sem.run_ite, if_pos ⟨by omega, by omega⟩]
  simp only [Sem.run_bind, run_size hinf, Result.andThen_ok, Sem.run_pure]
  simp

theorem indexGsl_sound {P : Program} {g : Gh} {w : World} {t e : TypeId} {vx : Value} {sz : Nat} {es : List V} {c : Option Nat} {k : IntKind} {n : Nat} (hg : GR g.S vx (.gsl sz es c)) (hse : sliceElem P t = some e) (hb1 : n < es.length) (hz : sz = size P e) :
    ∃ v, (Instr.indexAt t vx (.int k (n : Int))).run P w = .ok v w ∧ R g v (.gptr sz es (n * sz)) := by
  subst hz
  have hu := sliceElem_some hse
  cases hg with
  | gsl val hsz hc hS hcap hle hh =>
    obtain ⟨inf, hinf⟩ := size_info (P := P) (t := e) hsz
    refine ⟨_, ?_, .gnd (.gptr val hsz hc hS hh)⟩
    simp only [Instr.indexAt, asIntOf, Sem.run_bind, Sem.run_pure, Result.andThen_ok, run_underlying hu]
    rw [Sem.run_ite, if_pos ⟨by omega, by omega⟩]
    simp only [Sem.run_bind, run_size hinf, Result.andThen_ok, Sem.run_pure, Addr.add_mk]
    simp
theorem indexAddr_sound {P : Program} {B : Nat} {w0 : World} {g : Gh} {h : Heap} {w : World} (hW : W B w0 g h w) {t : TypeId} {x i y : V} {vx vi : Value} (hx : R g vx x) (hi : R g vi i) (he : indexAddr P h t x i = some y) :
    ∃ v, (Instr.indexAt t vx vi).run P w = .ok v w ∧ R g v y := by
  unfold indexAddr at he
  split at he
  · cases he
  · rename_i n hn
    obtain ⟨k, rfl⟩ := natI_sound hi hn
    split at he
    · rename_i r ver o m c
      split at he
      · rename_i e hse
        obtain ⟨hb, he⟩ := bif_some he rfl
        cases he
        simp only [Bool.and_eq_true, Nat.blt_eq, Nat.ble_eq, Nat.beq_eq] at hb
        obtain ⟨⟨hb1, hb2⟩, hb3⟩ := hb
        have hu := sliceElem_some hse
        obtain ⟨ad, cap, ver', rfl, hv, hle, hcap, hc, hp⟩ := hx.sl_inv
        obtain ⟨inf, hinf⟩ := size_info (P := P) (t := e) hb2
        refine ⟨.pointer (some (ad.add (n * size P e))), ?_, ?_⟩
        · simp only [Instr.indexAt, asIntOf, Sem.run_bind, Sem.run_pure, Result.andThen_ok, run_underlying hu]
          rw [Sem.run_ite, if_pos ⟨by omega, by omega⟩]
          simp only [Sem.run_bind, run_size hinf, Result.andThen_ok, Sem.run_pure]
          simp
        · change R g _ (.ptr r ver ((o + n) * size P e))
          refine .ptr hv hle fun e' => ?_
          obtain ⟨k', sz, hm, ho, hs, _⟩ := hp e'
          rw [hW.rowSz hv hm] at hb3
          subst hb3
          rw [Addr.eta hs, Addr.add_mk, ho (by omega), Nat.add_mul]
          exact ⟨k', _, hm, rfl, rfl⟩
      · cases he
    · rename_i sz es c
      split at he
      · rename_i e hse
        obtain ⟨hb, he⟩ := bif_some he rfl
        cases he
        simp only [Bool.and_eq_true, Nat.blt_eq, Nat.beq_eq, List.len_eq] at hb
        exact indexGsl_sound hx.gsl_inv hse hb.1 hb.2
      · cases he
    · rename_i sz es
      split at he
      · rename_i e hse
        obtain ⟨hb, he⟩ := bif_some he rfl
        cases he
        simp only [Bool.and_eq_true, Nat.blt_eq, Nat.beq_eq, List.len_eq] at hb
        rcases hx.osl_inv with ⟨_, rfl⟩ | hg
        · exact absurd hb.1 (Nat.not_lt_zero _)
        · exact indexGsl_sound hg hse hb.1 hb.2
      · cases he
    · split at he
      · rename_i len e hl
        obtain ⟨hb, he⟩ := bif_some he rfl
        simp only [Bool.and_eq_true, Nat.blt_eq, Nat.ble_eq] at hb
        exact indexArr_sound hW hx hl hb.1 hb.2 he
      · cases he

theorem List.len_drop {α : Type} (l : List α) (a b : Nat) : ((l.take b).drop a).length = min b l.length - a := by simp

/-- Fields, elements of a value at hand. -/
theorem pack_part {P : Program} {w : World} {g : Gh} {t : TypeId} {cs : Array Value} {vs : List V} {off : Nat} {y : V} (hn : cs.size = vs.length) (h1 : ∀ (i : Nat) v, cs[i]? = some v → v.oneCell' = true)
    (hr : ∀ (i : Nat) v x, cs[i]? = some v → vs[i]? = some x → R g v x) (hp : pack P t (List.takeN (List.dropN vs off) (size P t)) = some y) : ∃ v, (part t cs off).run P w = .ok v w ∧ R g v y := by
  rw [List.takeN_eq, List.dropN_eq] at hp
  unfold pack at hp
  split at hp
  · cases hp
  · rename_i hk
    obtain ⟨hb, hp⟩ := bif_some hp rfl
    cases hp
    rw [Nat.beq_eq, List.len_eq] at hb
    obtain ⟨inf, hinf⟩ := aggOf_info hk
    refine ⟨.agg (cs.extract off (off + size P t)), ?_, .agg ?_ (fun i v hv => ?_) (fun i v x hv hx => ?_)⟩
    · simp only [part, Sem.run_bind, aggOf_some hk, Result.andThen_ok, if_true, run_size hinf, Sem.run_pure]
    · simp at hb ⊢; omega
    · rw [Array.getElem?_extract] at hv
      split at hv
      · exact h1 _ v hv
      · cases hv
    · rw [Array.getElem?_extract] at hv
      split at hv
      · rw [List.getElem?_take] at hx
        split at hx
        · rw [List.getElem?_drop] at hx
          exact hr _ v x hv hx
        · cases hx
      · cases hv
  · rename_i hk
    split at hp
    · rename_i x heq
      cases hp
      have h0 : vs[off]? = some y := by
        have : ((vs.drop off).take (size P t))[0]? = some y := by rw [heq]; rfl
        rw [List.getElem?_take] at this
        split at this
        · rw [List.getElem?_drop] at this; exact this
        · cases this
      obtain ⟨v, hv⟩ := getElem?_of_lt_array cs off (by rw [hn]; exact lt_of_getElem?_list h0)
      refine ⟨v, ?_, hr _ v y hv h0⟩
      simp [part, aggOf_some hk, hv]
    · cases hp

theorem field_sound {P : Program} {w : World} {g : Gh} {t ft : TypeId} {f k : Nat} {vs : List V} {v : Value} {y : V} (hR : R g v (.agg vs)) (hf : fieldOff P t f = some (ft, k)) (hp : pack P ft (List.takeN (List.dropN vs k) (size P ft)) = some y) :
    ∃ u, (Instr.field t v f).run P w = .ok u w ∧ R g u y := by
  obtain ⟨fs, fl, hu, hfl, rfl, rfl⟩ := fieldOff_some hf
  obtain ⟨cs, rfl, hn, h1, hr⟩ := hR.agg_inv
  obtain ⟨u, h2, h3⟩ := pack_part (P := P) (w := w) hn h1 hr hp
  refine ⟨u, ?_, h3⟩
  simp only [Instr.field, Sem.run_bind, run_underlying hu, Result.andThen_ok, hfl, asAgg, Sem.run_pure]
  exact h2

theorem isStrT_some {P : Program} {t : TypeId} (h : isStrT P t = true) : P.underlying t = some .string := by
  unfold isStrT at h
  split at h
  · assumption
  · cases h
theorem isSliceT_some {P : Program} {t : TypeId} (h : isSliceT P t = true) : ∃ e, P.underlying t = some (.slice e) := by
  unfold isSliceT at h
  split at h
  · exact ⟨_, by assumption⟩
  · cases h
theorem isMapT_some {P : Program} {t : TypeId} (h : isMapT P t = true) : ∃ k e, P.underlying t = some (.map k e) := by
  unfold isMapT at h
  split at h
  · exact ⟨_, _, by assumption⟩
  · cases h
theorem pack_info {P : Program} {t : TypeId} {cs : List V} {y : V} (h : pack P t cs = some y) : ∃ i, P.info? t = some i := by
  unfold pack at h
  split at h
  · cases h
  · exact aggOf_info (by assumption)
  · exact aggOf_info (by assumption)

theorem index_sound {P : Program} {w : World} {g : Gh} {t : TypeId} {x i y : V} {vx vi : Value} (hx : R g vx x) (hi : R g vi i) (he : index P t x i = some y) :
    ∃ v, (Instr.index t vx vi).run P w = .ok v w ∧ R g v y := by
  unfold index at he
  split at he
  · cases he
  · rename_i n hn
    obtain ⟨k, rfl⟩ := natI_sound hi hn
    split at he
    · rename_i s
      obtain ⟨b, rfl, rfl⟩ := hx.str_inv
      split at he
      · rename_i c hc
        obtain ⟨hb, he⟩ := bif_some he rfl
        cases he
        rw [List.at_eq] at hc
        have hget : b[n]? = some c := by
          have hlt : n < b.size := by
            have := lt_of_getElem?_list hc
            simpa using this
          rw [getElem?_pos b n hlt]
          rw [show b[n] = b.data[n] from rfl]
          have h2 : b.data[n]? = some c := by simpa using hc
          rw [Array.getElem?_eq_getElem (by exact hlt)] at h2
          exact h2
        refine ⟨.int .u8 c.toNat, ?_, .gnd (.int _ _)⟩
        simp only [Instr.index, asIntOf, Sem.run_bind, Sem.run_pure, Result.andThen_ok, run_underlying (isStrT_some hb)]
        simp [hget]
      · cases he
    · rename_i cs
      split at he
      · rename_i len e hl
        obtain ⟨hb, he⟩ := bif_some he rfl
        rw [Nat.blt_eq] at hb
        obtain ⟨c, rfl, hn', h1, hr⟩ := hx.agg_inv
        have hp : 0 < size P e ∨ size P e = 0 := by omega
        obtain ⟨u, h2, h3⟩ := pack_part (P := P) (w := w) hn' h1 hr he
        have hu' := arrayOf_some hl
        have hinf : ∃ i, P.info? e = some i := pack_info he
        obtain ⟨inf, hinf⟩ := hinf
        refine ⟨u, ?_, h3⟩
        simp only [Instr.index, asIntOf, Sem.run_bind, Sem.run_pure, Result.andThen_ok, run_underlying hu']
        rw [Sem.run_ite, if_pos ⟨by omega, by omega⟩]
        simp only [Sem.run_bind, run_size hinf, Result.andThen_ok]
        exact h2
      · cases he
    · cases he

end Go.AM
