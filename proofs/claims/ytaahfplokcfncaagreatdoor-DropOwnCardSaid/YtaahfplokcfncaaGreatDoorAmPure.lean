/-
  len, extract, max, min, conversions, zero values, building: the abstract machine's are the model's.
-/
import Derived.Test.YtaahfplokcfncaaGreatDoorAmSlice
namespace Go.AM
open Go.RowKit

theorem lenOf_sound {P : Program} {B : Nat} {w0 : World} {g : Gh} {h : Heap} {w : World} (hW : W B w0 g h w) {t ty : TypeId} {ts : List TypeId} {x : V} {vx : Value} {n : Nat} (hx : R g vx x) (hl : lenOf P t h x = some n) :
    (Builtin.len_ (t :: ts).toArray ty #[vx]).run P w = .ok (.int .i64 (n : Int)) w := by
  unfold lenOf at hl
  split at hl
  · obtain ⟨s, rfl, rfl⟩ := hx.str_inv
    obtain ⟨hb, hl⟩ := bif_some hl rfl
    cases hl
    simp [Builtin.len_, run_underlying (isStrT_some hb), goInt, List.len_eq]
  · have := hx.nils_inv; subst this
    obtain ⟨hb, hl⟩ := bif_some hl rfl
    cases hl
    obtain ⟨e, hu⟩ := isSliceT_some hb
    simp [Builtin.len_, run_underlying hu, goInt]
  · obtain ⟨a, cap, _, rfl, _⟩ := hx.sl_inv
    obtain ⟨hb, hl⟩ := bif_some hl rfl
    cases hl
    obtain ⟨e, hu⟩ := isSliceT_some hb
    simp [Builtin.len_, run_underlying hu, goInt]
  · have hg := hx.gsl_inv
    obtain ⟨hb, hl⟩ := bif_some hl rfl
    cases hl
    obtain ⟨e, hu⟩ := isSliceT_some hb
    cases hg
    simp [Builtin.len_, run_underlying hu, goInt, List.len_eq]
  · obtain ⟨hb, hl⟩ := bif_some hl rfl
    cases hl
    obtain ⟨e, hu⟩ := isSliceT_some hb
    rcases hx.osl_inv with ⟨rfl, rfl⟩ | hg
    · simp [Builtin.len_, run_underlying hu, goInt, List.len_eq]
    · cases hg
      simp [Builtin.len_, run_underlying hu, goInt, List.len_eq]
  · have := hx.nilm_inv; subst this
    obtain ⟨hb, hl⟩ := bif_some hl rfl
    cases hl
    obtain ⟨k, e, hu⟩ := isMapT_some hb
    simp [Builtin.len_, run_underlying hu, goInt]
  · rename_i r
    obtain ⟨b, k, rfl, hv, hm⟩ := hx.map_inv
    split at hl
    · rename_i es hr
      obtain ⟨hb, hl⟩ := bif_some hl rfl
      cases hl
      obtain ⟨k, e, hu⟩ := isMapT_some hb
      have := hW.obj r _ hm
      rw [hr] at this
      obtain ⟨_, E, clock, h1, h2, _⟩ := this
      simp [Builtin.len_, run_underlying hu, goInt, List.len_eq, getObj, Sem.run, h1, h2]
    · cases hl
  · rename_i ks vs
    obtain ⟨hb, hl⟩ := bif_some hl rfl
    cases hl
    obtain ⟨k, e, hu⟩ := isMapT_some hb
    have h' := hx.gmap_inv
    cases h' with
    | gmap hS hk hv h1 h2 =>
      have h3 := gmap_heap (w := w) (fun o v e => hW.shut _ _ _ (hS o v e))
      simp [Builtin.len_, run_underlying hu, goInt, List.len_eq, getObj, Sem.run, h3, hk]
  · cases hl

theorem extract_sound {P : Program} {w : World} {g : Gh} {x y : V} {vx : Value} {i : Nat} (hx : R g vx x) (hl : extract i x = some y) : ∃ v, (Instr.extract vx i).run P w = .ok v w ∧ R g v y := by
  unfold extract at hl
  split at hl
  · obtain ⟨cs, rfl, hn, hr⟩ := hx.tup_inv
    rw [List.at_eq] at hl
    obtain ⟨v, hv⟩ := getElem?_of_lt_array cs i (by rw [hn]; exact lt_of_getElem?_list hl)
    exact ⟨v, by simp [Instr.extract, hv], hr i v y hv hl⟩
  · cases hl

theorem max2_sound {P : Program} {w : World} {g : Gh} {x y z : V} {vx vy : Value} (hx : R g vx x) (hy : R g vy y) (h : max2 x y = some z) : ∃ v, (Builtin.max2 vx vy).run P w = .ok v w ∧ R g v z := by
  unfold max2 at h
  split at h
  · rename_i k a k' b
    cases h
    have := hx.int_inv; subst this
    have := hy.int_inv; subst this
    refine ⟨_, rfl, ?_⟩
    rcases Int.lt_or_le a b with h' | h'
    · rw [if_pos h', (ilt_iff a b).2 h']; exact .gnd (.int _ _)
    · rw [if_neg (by omega)]
      have : ilt a b = false := by
        cases hq : ilt a b with
        | true => have := (ilt_iff a b).1 hq; omega
        | false => rfl
      rw [this]; exact .gnd (.int _ _)
  · cases h
theorem min2_sound {P : Program} {w : World} {g : Gh} {x y z : V} {vx vy : Value} (hx : R g vx x) (hy : R g vy y) (h : min2 x y = some z) : ∃ v, (Builtin.min2 vx vy).run P w = .ok v w ∧ R g v z := by
  unfold min2 at h
  split at h
  · rename_i k a k' b
    cases h
    have := hx.int_inv; subst this
    have := hy.int_inv; subst this
    refine ⟨_, rfl, ?_⟩
    rcases Int.lt_or_le b a with h' | h'
    · rw [if_pos h', (ilt_iff b a).2 h']; exact .gnd (.int _ _)
    · rw [if_neg (by omega)]
      have : ilt b a = false := by
        cases hq : ilt b a with
        | true => have := (ilt_iff b a).1 hq; omega
        | false => rfl
      rw [this]; exact .gnd (.int _ _)
  · cases h

theorem foldO_sound {P : Program} {w : World} {g : Gh} (F : Value → Value → Sem Value) (f : V → V → Option V) (hf : ∀ {x y z vx vy}, R g vx x → R g vy y → f x y = some z → ∃ v, (F vx vy).run P w = .ok v w ∧ R g v z) (l : List V) :
    ∀ (us : List Value) (x : V) (vx : Value) (z : V), us.length = l.length → (∀ (i : Nat) v y, us[i]? = some v → l[i]? = some y → R g v y) → R g vx x → foldO f l x = some z → ∃ v, (us.foldlM F vx).run P w = .ok v w ∧ R g v z := by
  induction l with
  | nil =>
    intro us x vx z hn _ hx h
    cases us with
    | nil => cases h; exact ⟨vx, by simp, hx⟩
    | cons _ _ => simp at hn
  | cons y l ih =>
    intro us x vx z hn hr hx h
    cases us with
    | nil => simp at hn
    | cons u us =>
      change (match f x y with | some b => foldO f l b | none => none) = some z at h
      cases hb : f x y with
      | none => rw [hb] at h; cases h
      | some b =>
        rw [hb] at h
        obtain ⟨v, h1, h2⟩ := hf hx (hr 0 u y rfl rfl) hb
        obtain ⟨v', h3, h4⟩ := ih us b v z (by simpa using hn) (fun i a c p q => hr (i + 1) a c (by simpa using p) (by simpa using q)) h2 h
        exact ⟨v', by simp [List.foldlM_cons, h1, h3], h4⟩

theorem zero_some {P : Program} {t : TypeId} {z : V} (h : zero P t = some z) : ∃ i v, P.info? t = some i ∧ i.zero = some v ∧ ∀ S, GR S v z := by
  unfold zero at h
  split at h
  · rename_i i hi
    split at h
    · rename_i v hv
      exact ⟨i, v, hi, hv, fun S => ofValue_sound 3 h⟩
    · cases h
  · cases h

theorem run_zero {P : Program} {w : World} {t : TypeId} {i : TypeInfo} {v : Value} (hi : P.info? t = some i) (hv : i.zero = some v) : (zeroValue t).run P w = .ok v w := by
  simp [zeroValue, typeInfo, hi, hv]

theorem byteOf_some {x : V} {b : UInt8} (h : byteOf x = some b) : ∃ n, x = .int .u8 n ∧ b = UInt8.ofNat n.toNat := by
  unfold byteOf at h
  split at h
  · cases h; exact ⟨_, rfl, rfl⟩
  · cases h

end Go.AM
