/-
  Slice expressions; len, extract, max, min: the abstract machine's are the model's.
-/
import Derived.Test.YtaahfplokcfncaaGreatDoorAmOps
namespace Go.AM
open Go.RowKit

/-- Operands that may be left out. -/
inductive OR (g : Gh) : Option Value → Option V → Prop
  | none : OR g none none
  | some {v : Value} {x : V} (h : R g v x) : OR g (some v) (some x)

theorem run_sliceBound {P : Program} {w : World} {k : IntKind} {n y : Nat} {c : BoundsCode} (h : n ≤ y) : (Instr.sliceBound (.int k (n : Int)) y c).run P w = .ok n w := by
  simp only [Instr.sliceBound, asIntOf, Sem.run_bind, Sem.run_pure, Result.andThen_ok]
  rw [Sem.run_ite, if_pos ⟨by omega, by omega⟩]
  simp

theorem boundOf_some {g : Gh} {d n : Nat} {v : Option Value} {x : Option V} (hR : OR g v x) (h : boundOf d x = some n) : (v = none ∧ n = d) ∨ ∃ k, v = some (.int k (n : Int)) := by
  cases hR with
  | none => cases h; exact .inl ⟨rfl, rfl⟩
  | some hr =>
    right
    unfold boundOf at h
    split at h
    · rename_i e; cases e
    · rename_i k m e
      cases h; cases e
      exact ⟨k, by rw [hr.int_inv]; rfl⟩
    · cases h

def maxOf (hi mx : Option V) : Option (Option Nat) :=
  match mx with
  | none => some none
  | some (.int _ (.ofNat m)) => (match hi with
    | some _ => some (some m)
    | none => none)
  | _ => none

theorem run_bounds {P : Program} {w : World} {g : Gh} {b : Bool} {len cap l e : Nat} {lo hi mx : Option V} {lo' hi' mx' : Option Value} {m : Option Nat} (h1 : OR g lo' lo) (h2 : OR g hi' hi) (h3 : OR g mx' mx)
    (hl : boundOf 0 lo = some l) (he : boundOf len hi = some e) (hm : maxOf hi mx = some m) (hle : l ≤ e) (hlc : len ≤ cap) (hem : e ≤ m.getD cap) (hmc : m.getD cap ≤ cap) :
    (Instr.sliceBounds b len cap lo' hi' mx').run P w = .ok (l, e, m.getD cap) w ∧ (mx' = none ↔ m = none) := by
  rcases boundOf_some h1 hl with ⟨rfl, rfl⟩ | ⟨kl, rfl⟩
  · cases h3 with
    | none =>
      cases hm
      simp only [Option.getD_none] at hem hmc
      rcases boundOf_some h2 he with ⟨rfl, rfl⟩ | ⟨kh, rfl⟩
      · simp [Instr.sliceBounds, Sem.run_pure]
      · simp [Instr.sliceBounds, Result.andThen_ok, run_sliceBound hem]
    | some hr =>
      unfold maxOf at hm
      split at hm
      · rename_i e; cases e
      · rename_i k n e0
        cases e0
        have := hr.int_inv; subst this
        split at hm
        · cases hm
          simp only [Option.getD_some] at hem hmc
          rcases boundOf_some h2 he with ⟨rfl, _⟩ | ⟨kh, rfl⟩
          · cases h2
          · simp [Instr.sliceBounds, Sem.run_bind, Result.andThen_ok, run_sliceBound hem, run_sliceBound hmc]
        · cases hm
      · cases hm
  · cases h3 with
    | none =>
      cases hm
      simp only [Option.getD_none] at hem hmc
      rcases boundOf_some h2 he with ⟨rfl, rfl⟩ | ⟨kh, rfl⟩
      · simp [Instr.sliceBounds, Result.andThen_ok, run_sliceBound hle]
      · simp [Instr.sliceBounds, Sem.run_bind, Result.andThen_ok, run_sliceBound hem, run_sliceBound hle]
    | some hr =>
      unfold maxOf at hm
      split at hm
      · rename_i e; cases e
      · rename_i k n e0
        cases e0
        have := hr.int_inv; subst this
        split at hm
        · cases hm
          simp only [Option.getD_some] at hem hmc
          rcases boundOf_some h2 he with ⟨rfl, _⟩ | ⟨kh, rfl⟩
          · cases h2
          · simp [Instr.sliceBounds, Sem.run_bind, Result.andThen_ok, run_sliceBound hem, run_sliceBound hmc, run_sliceBound hle]
        · cases hm
      · cases hm

theorem addr_if {a : Addr} {m l sz : Nat} : (if m = l then some a else (some a).map (·.add (l * sz))) = some (if m = l then a else a.add (l * sz)) := by split <;> rfl

theorem sl_part {g : Gh} {a : Addr} {r ver o n cap l e : Nat} {c c' : Option Nat} {m : Nat} {s : Nat} {h : Heap} {B : Nat} {w0 w : World} (_hW : W B w0 g h w) (hx : R g (.slice (some a) n cap) (.sl r ver o n c)) (hs : ∀ b k sz, g.mu r = some (b, k, sz) → g.vr r = some ver → sz = s)
    (hle : l ≤ e) (hem : e ≤ m) (hmc : m ≤ cap) (hc1 : ∀ q, c' = some q → m - l = q) (hc2 : c' = none → m = cap ∧ c = none) :
    R g (.slice (some (if m = l then a else a.add (l * s))) (e - l) (m - l)) (.sl r ver (o + l) (e - l) c') := by
  obtain ⟨a', cap', ver', hv, hvr, hle', hn, hc, hp⟩ := hx.sl_inv
  cases hv
  refine .sl hvr hle' (by omega) hc1 fun ev => ?_
  obtain ⟨k, sz, hm, ho, hsp, hok, hk⟩ := hp ev
  have hsz := hs _ _ _ hm (ev ▸ hvr)
  subst hsz
  refine ⟨k, sz, ?_, ?_, ?_, by omega, ?_⟩
  · split
    · exact hm
    · rw [Addr.eta hsp, Addr.add_mk]; exact hm
  · intro hpos
    rw [if_neg (by omega), Addr.eta hsp, Addr.add_mk, ho (by omega), Nat.add_mul]
  · split
    · exact hsp
    · rw [Addr.eta hsp, Addr.add_mk]
  · intro hcn
    obtain ⟨h1, h2⟩ := hc2 hcn
    have := hk h2
    omega

theorem slice_sound {P : Program} {B : Nat} {w0 : World} {g : Gh} {h : Heap} {w : World} (hW : W B w0 g h w) {t : TypeId} {x y : V} {vx : Value} {lo hi mx : Option V} {lo' hi' mx' : Option Value} (hx : R g vx x) (h1 : OR g lo' lo) (h2 : OR g hi' hi) (h3 : OR g mx' mx) (hl : slice P h t x lo hi mx = some y) :
    ∃ v, (Instr.slice t vx lo' hi' mx').run P w = .ok v w ∧ R g v y := by
  unfold slice at hl
  split at hl
  · cases hl
  · rename_i l hlo
    change (match maxOf hi mx with | none => none | some m => _) = _ at hl
    split at hl
    · cases hl
    · rename_i m hm
      split at hl
      · rename_i s
        obtain ⟨b, rfl, rfl⟩ := hx.str_inv
        split at hl
        · rename_i e he
          obtain ⟨hb, hl⟩ := bif_some hl rfl
          cases hl
          simp only [Bool.and_eq_true, Nat.ble_eq, List.len_eq] at hb
          obtain ⟨⟨hb1, hb2⟩, hb3⟩ := hb
          rw [List.len_eq] at he
          have hsz : b.data.toList.length = b.size := by simp
          rw [hsz] at hb3 he
          obtain ⟨hr, hmx⟩ := run_bounds (P := P) (w := w) (b := false) (cap := b.size) h1 h2 h3 hlo he hm hb2 (Nat.le_refl _) (by simpa using hb3) (by simp)
          have hmx' : mx' = none := hmx.2 rfl
          subst hmx'
          refine ⟨.string (b.extract l e), ?_, .gnd (.str ?_)⟩
          · simp only [Instr.slice, Sem.run_bind, run_underlying (isStrT_some hb1), Result.andThen_ok]
            simp [hr]
          · rw [List.dropN_eq, List.takeN_eq]
            simp [ByteArray.data_extract, Array.toList_extract, List.extract_eq_take_drop]
            rw [List.drop_take]
        · cases hl
      · have := hx.nils_inv
        subst this
        have key : ∀ (el : TypeId) (m' : Option Nat), maxOf hi mx = some m' → boundOf 0 hi = some 0 → sliceElem P t = some el → l = 0 → m'.getD 0 = 0 → size P el ≥ 0 → (∃ i, P.info? el = some i) → ∃ v, (Instr.slice t (.slice none 0 0) lo' hi' mx').run P w = .ok v w ∧ R g v .nils := by
          intro el m' hm' he hse hl0 hm0 _ hinf
          subst hl0
          obtain ⟨inf, hinf⟩ := hinf
          obtain ⟨hr, hmx⟩ := run_bounds (P := P) (w := w) (b := true) (len := 0) (cap := 0) h1 h2 h3 hlo he hm' (Nat.le_refl _) (Nat.le_refl _) (by omega) (by omega)
          refine ⟨.slice none 0 0, ?_, .gnd .nils⟩
          simp only [Instr.slice, Sem.run_bind, run_underlying (sliceElem_some hse), Result.andThen_ok, hr, run_size hinf, Sem.run_pure, hm0]
          simp
        split at hl
        · rename_i el he hse
          obtain ⟨hb, hl⟩ := bif_some hl rfl
          cases hl
          simp only [Bool.and_eq_true, Nat.ble_eq, Nat.beq_eq] at hb
          exact key el _ hm he hse hb.1 rfl (Nat.zero_le _) (size_info hb.2)
        · rename_i el he hse
          obtain ⟨hb, hl⟩ := bif_some hl rfl
          cases hl
          simp only [Bool.and_eq_true, Nat.ble_eq, Nat.beq_eq] at hb
          exact key el _ hm he hse hb.1 rfl (Nat.zero_le _) (size_info hb.2)
        · cases hl
      · rename_i r ver o n c
        split at hl
        · rename_i e el he hse
          obtain ⟨hb, hl⟩ := bif_some hl rfl
          simp only [Bool.and_eq_true, Nat.ble_eq, Nat.beq_eq] at hb
          obtain ⟨hb1, hb2⟩ := hb
          obtain ⟨inf, hinf⟩ := size_info hb1
          obtain ⟨a, cap, ver', rfl, hvr, hle', hn, hc, hp⟩ := hx.sl_inv
          have hrs : ∀ b k sz, g.mu r = some (b, k, sz) → g.vr r = some ver → sz = size P el := fun b k sz hm hv => by rw [← hb2]; exact (hW.rowSz hv hm).symm
          unfold sliceSl at hl
          split at hl
          · obtain ⟨hb, hl⟩ := bif_some hl rfl
            cases hl
            simp only [Bool.and_eq_true, Nat.ble_eq] at hb
            obtain ⟨hr, hmx⟩ := run_bounds (P := P) (w := w) (b := true) (len := n) (cap := cap) h1 h2 h3 hlo he hm hb.1 hn (by simp; omega) (by simp)
            refine ⟨_, ?_, sl_part hW (m := cap) (s := size P el) hx hrs hb.1 (by omega) (Nat.le_refl _) ?_ ?_⟩
            · simp only [Instr.slice, Sem.run_bind, run_underlying (sliceElem_some hse), Result.andThen_ok, hr, run_size hinf, Sem.run_pure, Option.getD_none]
              rw [addr_if]
            · intro q hq
              cases c with
              | none => cases hq
              | some c0 => cases hq; rw [hc _ rfl]; rfl
            · intro hcn
              cases c with
              | none => exact ⟨rfl, rfl⟩
              | some c0 => cases hcn
          · rename_i m0 _
            obtain ⟨hb, hl⟩ := bif_some hl rfl
            cases hl
            simp only [Bool.and_eq_true, Nat.ble_eq] at hb
            obtain ⟨⟨hb1', hb2'⟩, hb3'⟩ := hb
            obtain ⟨hr, hmx⟩ := run_bounds (P := P) (w := w) (b := true) (len := n) (cap := cap) h1 h2 h3 hlo he hm hb1' hn (by simp; omega) (by simp; omega)
            refine ⟨_, ?_, sl_part hW (m := m0) (s := size P el) hx hrs hb1' hb2' (by omega) ?_ ?_⟩
            · simp only [Instr.slice, Sem.run_bind, run_underlying (sliceElem_some hse), Result.andThen_ok, hr, run_size hinf, Sem.run_pure, Option.getD_some]
              rw [addr_if]
            · intro q hq; cases hq; rfl
            · intro hcn; cases hcn
        · cases hl
      · rename_i sz es c
        split at hl
        · rename_i e el he hse
          obtain ⟨hb, hl⟩ := bif_some hl rfl
          rw [Nat.beq_eq] at hb
          have hg := hx.gsl_inv
          rw [List.len_eq] at he
          cases hg with
          | gsl val hsz hc hS hcap hlen hh =>
            rename_i bb off cap
            obtain ⟨inf, hinf⟩ := size_info (P := P) (t := el) (by omega)
            have part : ∀ (m0 : Nat) (c' : Option Nat), l ≤ e → e ≤ m0 → m0 ≤ cap → e ≤ es.length → (∀ q, c' = some q → m0 - l = q) →
                R g (.slice (some (if m0 = l then ⟨bb, off, none⟩ else (⟨bb, off, none⟩ : Addr).add (l * size P el))) (e - l) (m0 - l)) (.gsl sz (List.dropN (List.takeN es e) l) c') := by
              intro m0 c' q1 q2 q3 q4 q5
              rw [List.dropN_eq, List.takeN_eq]
              have hln : e - l = ((es.take e).drop l).length := by simp; omega
              have hget : ∀ (i : Nat) x, ((es.take e).drop l)[i]? = some x → es[l + i]? = some x := fun i x hi => by
                rw [List.getElem?_drop, List.getElem?_take] at hi
                split at hi
                · exact hi
                · cases hi
              rw [hln]
              by_cases hml : m0 = l
              · have : (es.take e).drop l = [] := by apply List.eq_nil_of_length_eq_zero; omega
                rw [if_pos hml, this]
                exact .gnd (.gsl (fun _ _ => Go.undef) hsz (fun i x hi => by simp at hi) (fun i x j y hi => by simp at hi) q5 (by simp) (fun i x j y hi => by simp at hi))
              · rw [if_neg hml, Addr.add_mk, hb]
                refine .gnd (.gsl (fun i j => val (l + i) j) hsz (fun i x hi => hc _ _ (hget i x hi)) (fun i x j y hi hj => ?_) q5 (by omega) (fun i x j y hi hj => hh _ _ _ _ (hget i x hi) hj))
                have := hS _ _ _ _ (hget i x hi) hj
                rw [Nat.add_mul] at this
                rw [show off + l * sz + i * sz + j = off + (l * sz + i * sz) + j by omega]
                exact this
            unfold sliceG at hl
            split at hl
            · obtain ⟨hb', hl⟩ := bif_some hl rfl
              cases hl
              simp only [Bool.and_eq_true, Nat.ble_eq, List.len_eq] at hb'
              obtain ⟨hr, hmx⟩ := run_bounds (P := P) (w := w) (b := true) (len := es.length) (cap := cap) h1 h2 h3 hlo he hm hb'.1 hlen (by simp; omega) (by simp)
              refine ⟨_, ?_, part cap _ hb'.1 (by omega) (Nat.le_refl _) hb'.2 ?_⟩
              · simp only [Instr.slice, Sem.run_bind, run_underlying (sliceElem_some hse), Result.andThen_ok, hr, run_size hinf, Sem.run_pure, Option.getD_none]
                rw [addr_if]
              · intro q hq
                cases c with
                | none => cases hq
                | some c0 => cases hq; rw [hcap _ rfl]; rfl
            · rename_i m0 _
              obtain ⟨hb', hl⟩ := bif_some hl rfl
              cases hl
              simp only [Bool.and_eq_true, Nat.ble_eq, List.len_eq] at hb'
              obtain ⟨⟨q1, q2⟩, q3⟩ := hb'
              obtain ⟨hr, hmx⟩ := run_bounds (P := P) (w := w) (b := true) (len := es.length) (cap := cap) h1 h2 h3 hlo he hm q1 hlen (by simp; omega) (by simp; omega)
              refine ⟨_, ?_, part m0 _ q1 q2 (by omega) (by omega) ?_⟩
              · simp only [Instr.slice, Sem.run_bind, run_underlying (sliceElem_some hse), Result.andThen_ok, hr, run_size hinf, Sem.run_pure, Option.getD_some]
                rw [addr_if]
              · intro q hq; cases hq; rfl
        · cases hl
      · cases hl

end Go.AM
