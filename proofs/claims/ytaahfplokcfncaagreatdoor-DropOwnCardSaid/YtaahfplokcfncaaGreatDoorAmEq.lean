/-
  '==' of the abstract machine is the model's.
-/
import Derived.Test.YtaahfplokcfncaaGreatDoorAmArith
import Derived.Laws.StructEq
namespace Go.AM
open Go.RowKit

theorem eqNil_some {f : V → Option Bool} {x y : V} {b : Bool} (h : eqNil f x y = some b) : ∃ p q, f x = some p ∧ f y = some q ∧ ((p = true ∧ b = q) ∨ (p = false ∧ q = true ∧ b = false)) := by
  unfold eqNil at h
  cases hx : f x with
  | none => rw [hx] at h; cases h
  | some p =>
    rw [hx] at h
    cases hy : f y with
    | none => rw [hy] at h; cases h
    | some q =>
      rw [hy] at h
      refine ⟨p, q, rfl, rfl, ?_⟩
      cases p with
      | true => simp at h; exact .inl ⟨rfl, h.symm⟩
      | false => cases q <;> simp at h; exact .inr ⟨rfl, rfl, h⟩

theorem isNilS_sound {g : Gh} {v : Value} {x : V} {p : Bool} (hR : R g v x) (h : isNilS x = some p) : (p = true ∧ v = .slice none 0 0) ∨ (p = false ∧ ∃ a n c, v = .slice (some a) n c) := by
  cases x with
  | nils => cases h; exact .inl ⟨rfl, hR.nils_inv⟩
  | sl => cases h; obtain ⟨a, c, _, rfl, _⟩ := hR.sl_inv; exact .inr ⟨rfl, _, _, _, rfl⟩
  | gsl => cases h; have h' := hR.gsl_inv; cases h'; exact .inr ⟨rfl, _, _, _, rfl⟩
  | _ => cases h
theorem isNilM_sound {g : Gh} {v : Value} {x : V} {p : Bool} (hR : R g v x) (h : isNilM x = some p) : (p = true ∧ v = .map none) ∨ (p = false ∧ ∃ a, v = .map (some a)) := by
  cases x with
  | nilm => cases h; exact .inl ⟨rfl, hR.nilm_inv⟩
  | map => cases h; obtain ⟨b, _, rfl, _⟩ := hR.map_inv; exact .inr ⟨rfl, _, rfl⟩
  | gmap => cases h; have h' := hR.gmap_inv; cases h'; exact .inr ⟨rfl, _, rfl⟩
  | _ => cases h
theorem func_shape {g : Gh} {v : Value} {f : Fn} {xs ys : List V} (hR : R g v (.func f xs ys)) : ∃ f' a b, v = .func f' a b := by
  cases f with
  | yield l => obtain ⟨b, k, rfl, _⟩ := hR.yield_inv; exact ⟨_, _, _, rfl⟩
  | func f => obtain ⟨a, b, rfl, _⟩ := hR.func_inv (fun l => by simp); exact ⟨_, _, _, rfl⟩
  | method f => obtain ⟨a, b, rfl, _⟩ := hR.func_inv (fun l => by simp); exact ⟨_, _, _, rfl⟩
  | methodOf t f => obtain ⟨a, b, rfl, _⟩ := hR.func_inv (fun l => by simp); exact ⟨_, _, _, rfl⟩
  | via t p f q => obtain ⟨a, b, rfl, _⟩ := hR.func_inv (fun l => by simp); exact ⟨_, _, _, rfl⟩
theorem isNilF_sound {g : Gh} {v : Value} {x : V} {p : Bool} (hR : R g v x) (h : isNilF x = some p) : (p = true ∧ v = .nilFunc) ∨ (p = false ∧ ∃ f a b, v = .func f a b) := by
  cases x with
  | nilf => cases h; exact .inl ⟨rfl, hR.nilf_inv⟩
  | func => cases h; exact .inr ⟨rfl, func_shape hR⟩
  | _ => cases h
theorem isNilI_sound {g : Gh} {v : Value} {x : V} {p : Bool} (hR : R g v x) (h : isNilI x = some p) : (p = true ∧ v = .nilIface) ∨ (p = false ∧ ∃ t a, v = .iface t a) := by
  cases x with
  | nili => cases h; exact .inl ⟨rfl, hR.nili_inv⟩
  | iface => cases h; obtain ⟨y, rfl, _⟩ := hR.iface_inv; exact .inr ⟨rfl, _, _, rfl⟩
  | _ => cases h

theorem bool_rec_eq (a b : Bool) : Bool.rec (motive := fun _ => Bool) (!b) b a = (a == b) := by cases a <;> cases b <;> rfl

/-- Numbers, texts, bools. -/
theorem eqS_sound {P : Program} {g : Gh} {w : World} {t : TypeId} {d : Nat} {vx vy : Value} {x y : V} {b : Bool} (ht : fitsT P t x = true) (hx : R g vx x) (hy : R g vy y) (h : eqS x y = some b) :
    (Op.equalIn (d + 1) t vx vy).run P w = .ok b w := by
  unfold fitsT at ht
  cases x with
  | int k a =>
    cases y with
    | int k' b' =>
      have := hx.int_inv; subst this
      have := hy.int_inv; subst this
      obtain ⟨hk', h⟩ := bif_some h rfl
      cases h
      have := (kindEq_iff _ _).1 hk'; subst this
      split at ht
      · rename_i hu; rw [run_equalIn_int w d t k _ a b' hu, ieq_eq]
      · cases ht
      · cases ht
      · cases ht
    | _ => cases h
  | bool a =>
    cases y with
    | bool b' =>
      have := hx.bool_inv; subst this
      have := hy.bool_inv; subst this
      cases h
      split at ht
      · cases ht
      · cases ht
      · rename_i hu; rw [run_equalIn_bool' w d t a b' hu, bool_rec_eq]
      · cases ht
    | _ => cases h
  | str a =>
    cases y with
    | str b' =>
      obtain ⟨s, rfl, rfl⟩ := hx.str_inv
      obtain ⟨s', rfl, rfl⟩ := hy.str_inv
      cases h
      split at ht
      · cases ht
      · rename_i hu; rw [run_equalIn_string w d t s s' hu, strEq_eq, toList_eq, toList_eq]
      · cases ht
      · cases ht
    | _ => cases h
  | _ => cases h

theorem fitsT_agg {P : Program} {t : TypeId} {x : V} (h : fitsT P t x = true) : aggOf P t = some false := by
  unfold fitsT at h
  unfold aggOf
  split at h <;> first | (rename_i hu; simp [hu]; done) | cases h

theorem run_part_cell {P : Program} {w : World} {t : TypeId} {cs : Array Value} {off : Nat} {v : Value} (ht : aggOf P t = some false) (h : cs[off]? = some v) : (part t cs off).run P w = .ok v w := by
  simp [part, aggOf_some ht, h]

theorem eqFields_sound {P : Program} {g : Gh} {w : World} {d : Nat} {xs ys : List V} {cx cy : Array Value} (hx : Rs' g cx xs) (hy : Rs' g cy ys) : ∀ (fs : List Field) (b : Bool), eqFields P fs xs ys = some b →
    (Op.eqFields (d + 1) cx cy fs).run P w = .ok b w
  | [], b, h => by cases h; rfl
  | f :: fs, b, h => by
    change (match List.at xs f.offset with
    | none => none
    | some x => match List.at ys f.offset with
      | none => none
      | some y => bif fitsT P f.type x && !(f.name == "_") then (match eqS x y with
        | none => none
        | some true => eqFields P fs xs ys
        | some false => match eqFields P fs xs ys with
          | none => none
          | some _ => some false) else none) = some b at h
    rw [List.at_eq, List.at_eq] at h
    cases h1 : xs[f.offset]? with
    | none => rw [h1] at h; cases h
    | some x =>
      cases h2 : ys[f.offset]? with
      | none => rw [h1, h2] at h; cases h
      | some y =>
        rw [h1, h2] at h
        obtain ⟨hb, h⟩ := bif_some h rfl
        simp only [Bool.and_eq_true, Bool.not_eq_true', beq_eq_false_iff_ne] at hb
        obtain ⟨v, hv, hR⟩ := hx.at h1
        obtain ⟨u, hu, hR'⟩ := hy.at h2
        have hp := fitsT_agg hb.1
        cases h3 : eqS x y with
        | none => rw [h3] at h; cases h
        | some c =>
          rw [h3] at h
          have hrun := eqS_sound (P := P) (w := w) (d := d) hb.1 hR hR' h3
          simp only [Op.eqFields]
          rw [if_pos hb.2]
          simp only [Sem.run_bind, run_part_cell hp hv, run_part_cell hp hu, Result.andThen_ok, hrun]
          cases c with
          | true =>
            simp only [Bool.not_true, Bool.false_eq_true, if_false]
            exact eqFields_sound hx hy fs b h
          | false =>
            simp only [Bool.not_false, if_true]
            cases h4 : eqFields P fs xs ys with
            | none => rw [h4] at h; cases h
            | some q => rw [h4] at h; cases h; rfl

theorem eqGuard_of {P : Program} {w : World} (op : BinOp) (t : TypeId) (X Y : Operand) (a b : Value) (h1 : a = .nilIface → b = .nilIface → False) (h2 : ∀ x y, a = .agg x → b = .agg y → False) : (eqGuard op t X Y a b).run P w = .ok () w := by
  unfold eqGuard
  split <;> split
  all_goals first | rfl | (split <;> first | rfl | exact (h1 rfl rfl).elim | exact (h2 _ _ rfl rfl).elim)

theorem eqGuard_nil {P : Program} {w : World} (op : BinOp) (t : TypeId) (X Y : Operand) (h : (isConst X || isConst Y) = true) : (eqGuard op t X Y .nilIface .nilIface).run P w = .ok () w := by
  unfold eqGuard
  split <;> split
  all_goals first | rfl | (simp only; rw [if_pos (by cases X <;> cases Y <;> first | rfl | cases h)]; rfl)

set_option maxHeartbeats 1000000 in
theorem eqT_sound' {P : Program} {B : Nat} {w0 : World} {g : Gh} {h : Heap} {w : World} (hW : W B w0 g h w) {t : TypeId} {X Y : Operand} {op : BinOp} {vx vy : Value} {x y : V} {b : Bool}
    (hx : R g vx x) (hy : R g vy y) (he : eqT P h t (isConst X || isConst Y) x y = some b) (d : Nat) :
    (eqGuard op t X Y vx vy).run P w = .ok () w ∧ (Op.equalIn (d + 2) t vx vy).run P w = .ok b w := by
  unfold eqT at he
  split at he
  · cases he
  · rename_i D hu
    split at he
    · split at he
      · rename_i a
        split at he
        · rename_i b'
          cases he
          have := hx.bool_inv; subst this
          have := hy.bool_inv; subst this
          exact ⟨eqGuard_of _ _ _ _ _ _ (by simp) (by simp), by rw [run_equalIn_bool' w _ t a b' hu, bool_rec_eq]⟩
        · cases he
      · cases he
    · rename_i e
      split at he
      · rename_i inf hinf
        unfold eqPtr at he
        split at he
        · have := hx.nilp_inv; subst this
          split at he <;> first | cases he | skip
          · have := hy.nilp_inv; subst this
            exact ⟨eqGuard_of _ _ _ _ _ _ (by simp) (by simp), by rw [Op.equalIn, Sem.run_bind, run_underlying hu, Result.andThen_ok]; rfl⟩
          · obtain ⟨a, _, rfl, _⟩ := hy.ptr_inv
            exact ⟨eqGuard_of _ _ _ _ _ _ (by simp) (by simp), by rw [Op.equalIn, Sem.run_bind, run_underlying hu, Result.andThen_ok]; rfl⟩
          · have h' := hy.gptr_inv
            cases h'
            exact ⟨eqGuard_of _ _ _ _ _ _ (by simp) (by simp), by rw [Op.equalIn, Sem.run_bind, run_underlying hu, Result.andThen_ok]; rfl⟩
        · rename_i r v o
          obtain ⟨a, ver', rfl, hv, hle, hp⟩ := hx.ptr_inv
          split at he
          · cases he
            have := hy.nilp_inv; subst this
            exact ⟨eqGuard_of _ _ _ _ _ _ (by simp) (by simp), by rw [Op.equalIn, Sem.run_bind, run_underlying hu, Result.andThen_ok]; rfl⟩
          · rename_i r' v' o'
            obtain ⟨a', ver'', rfl, hv', hle', hp'⟩ := hy.ptr_inv
            split at he
            · rename_i ver ty sz pub cap es hr
              obtain ⟨hb, he⟩ := bif_some he rfl
              cases he
              simp only [Bool.and_eq_true, Nat.beq_eq] at hb
              obtain ⟨⟨⟨rfl, rfl⟩, rfl⟩, rfl⟩ := hb
              obtain ⟨hv2, b, k, C, fr, hm, hrow, _⟩ := hW.row hr
              rw [hv2] at hv hv'; cases hv; cases hv'
              obtain ⟨k1, s1, m1, o1, p1⟩ := hp rfl
              obtain ⟨k2, s2, m2, o2, p2⟩ := hp' rfl
              have hab : a = a' := by
                rw [Addr.eta p1, Addr.eta p2, o1, o2]
                rw [m1] at m2
                simp only [Option.some.injEq, Prod.mk.injEq] at m2
                rw [m2.1]
              subst hab
              refine ⟨eqGuard_of _ _ _ _ _ _ (by simp) (by simp), ?_⟩
              simp only [Op.equalIn, Sem.run_bind, run_underlying hu, Result.andThen_ok, run_size hinf, Sem.run_ite]
              split
              · simp [sameAddr]
              · simp
            · cases he
          · cases he
        · have h' := hx.gptr_inv
          cases h'
          split at he
          · cases he
            have := hy.nilp_inv; subst this
            exact ⟨eqGuard_of _ _ _ _ _ _ (by simp) (by simp), by rw [Op.equalIn, Sem.run_bind, run_underlying hu, Result.andThen_ok]; rfl⟩
          · cases he
        · cases he
      · cases he
    · obtain ⟨p, q, hp, hq, hpq⟩ := eqNil_some he
      rcases isNilS_sound hx hp with ⟨rfl, rfl⟩ | ⟨rfl, a, n, c, rfl⟩ <;> rcases isNilS_sound hy hq with ⟨rfl, rfl⟩ | ⟨rfl, a', n', c', rfl⟩ <;> simp at hpq <;> subst hpq <;>
        exact ⟨eqGuard_of _ _ _ _ _ _ (by simp) (by simp), by rw [Op.equalIn, Sem.run_bind, run_underlying hu, Result.andThen_ok]; rfl⟩
    · obtain ⟨p, q, hp, hq, hpq⟩ := eqNil_some he
      rcases isNilM_sound hx hp with ⟨rfl, rfl⟩ | ⟨rfl, a, rfl⟩ <;> rcases isNilM_sound hy hq with ⟨rfl, rfl⟩ | ⟨rfl, a', rfl⟩ <;> simp at hpq <;> subst hpq <;>
        exact ⟨eqGuard_of _ _ _ _ _ _ (by simp) (by simp), by rw [Op.equalIn, Sem.run_bind, run_underlying hu, Result.andThen_ok]; rfl⟩
    · obtain ⟨p, q, hp, hq, hpq⟩ := eqNil_some he
      rcases isNilF_sound hx hp with ⟨rfl, rfl⟩ | ⟨rfl, f, a, c, rfl⟩ <;> rcases isNilF_sound hy hq with ⟨rfl, rfl⟩ | ⟨rfl, f', a', c', rfl⟩ <;> simp at hpq <;> subst hpq <;>
        exact ⟨eqGuard_of _ _ _ _ _ _ (by simp) (by simp), by rw [Op.equalIn, Sem.run_bind, run_underlying hu, Result.andThen_ok]; rfl⟩
    · split at he
      · obtain ⟨hc, he⟩ := bif_some he rfl
        cases he
        have := hx.nili_inv; subst this
        have := hy.nili_inv; subst this
        exact ⟨eqGuard_nil op t X Y hc, by rw [Op.equalIn, Sem.run_bind, run_underlying hu, Result.andThen_ok]; rfl⟩
      · rename_i hnn
        obtain ⟨p, q, hp, hq, hpq⟩ := eqNil_some he
        rcases isNilI_sound hx hp with ⟨rfl, rfl⟩ | ⟨rfl, f, a, rfl⟩ <;> rcases isNilI_sound hy hq with ⟨rfl, rfl⟩ | ⟨rfl, f', a', rfl⟩ <;> simp at hpq <;> subst hpq
        · exfalso
          cases x <;> first | cases hp | skip
          cases y <;> first | cases hq | skip
          exact hnn rfl rfl
        · exact ⟨eqGuard_of _ _ _ _ _ _ (by simp) (by simp), by rw [Op.equalIn, Sem.run_bind, run_underlying hu, Result.andThen_ok]; rfl⟩
        · exact ⟨eqGuard_of _ _ _ _ _ _ (by simp) (by simp), by rw [Op.equalIn, Sem.run_bind, run_underlying hu, Result.andThen_ok]; rfl⟩
    · rename_i fs
      cases hst : P.stoodInHeld t || P.eqGuardType P.depth t with
      | true => rw [hst] at he; cases he
      | false =>
        rw [hst] at he
        simp only [Bool.or_eq_false_iff] at hst
        simp only [cond_false] at he
        split at he
        · rename_i xs
          split at he
          · rename_i ys
            obtain ⟨cx, rfl, hx1, hx2, hx3⟩ := hx.agg_inv
            obtain ⟨cy, rfl, hy1, hy2, hy3⟩ := hy.agg_inv
            refine ⟨run_eqGuard_agg w op t X Y cx cy hst.2, ?_⟩
            have hf : P.fieldsOf t = fs := by simp [Program.fieldsOf, hu]
            rw [run_equalIn_struct w (d + 1) t cx cy (by rw [hf]; exact hu) hst.1, hf]
            exact eqFields_sound (d := d) ⟨hx1, hx3⟩ ⟨hy1, hy3⟩ _ _ he
          · cases he
        · cases he
    · cases he

theorem eqT_sound {P : Program} {B : Nat} {w0 : World} {g : Gh} {h : Heap} {w : World} (hW : W B w0 g h w) {t : TypeId} {X Y : Operand} {op : BinOp} {vx vy : Value} {x y : V} {b : Bool}
    (hx : R g vx x) (hy : R g vy y) (he : eqT P h t (isConst X || isConst Y) x y = some b) :
    (eqGuard op t X Y vx vy).run P w = .ok () w ∧ (Op.equal t vx vy).run P w = .ok b w := eqT_sound' hW hx hy he 9998

set_option maxHeartbeats 1000000 in
theorem binOp_sound {P : Program} {B : Nat} {w0 : World} {g : Gh} {h : Heap} {w : World} (hW : W B w0 g h w) {t : TypeId} {X Y : Operand} {op : BinOp} {vx vy : Value} {x y z : V}
    (hx : R g vx x) (hy : R g vy y) (he : binOp P h t (isConst X || isConst Y) op x y = some z) :
    ∃ v, (do eqGuard op t X Y vx vy; Go.binOp op t vx vy : Sem Value).run P w = .ok v w ∧ R g v z := by
  have heq : ∀ {x : V}, R g vx x → (∀ k n, x ≠ .int k n) → (∀ s, x ≠ .str s) → eqOp P h t (isConst X || isConst Y) op x y = some z →
      ∃ v, (do eqGuard op t X Y vx vy; Go.binOp op t vx vy : Sem Value).run P w = .ok v w ∧ R g v z := by
    intro x hx hi hs he
    unfold eqOp at he
    have shape : ∀ b, eqT P h t (isConst X || isConst Y) x y = some b → (∀ k a, vx ≠ .int k a) ∧ (∀ s, vx ≠ .string s) ∧ (∀ k a, vx ≠ .float k a) ∧ (∀ k a c, vx ≠ .complex k a c) := by
      intro b hb
      unfold eqT at hb
      split at hb
      · cases hb
      · split at hb
        · split at hb
          · have := hx.bool_inv; subst this; simp
          · cases hb
        · split at hb
          · unfold eqPtr at hb
            split at hb
            · have := hx.nilp_inv; subst this; simp
            · obtain ⟨a, _, rfl, _⟩ := hx.ptr_inv; simp
            · have h' := hx.gptr_inv; cases h'; simp
            · cases hb
          · cases hb
        · obtain ⟨p, q, hp, hq, hpq⟩ := eqNil_some hb
          rcases isNilS_sound hx hp with ⟨rfl, rfl⟩ | ⟨rfl, a, n, c, rfl⟩ <;> simp
        · obtain ⟨p, q, hp, hq, hpq⟩ := eqNil_some hb
          rcases isNilM_sound hx hp with ⟨rfl, rfl⟩ | ⟨rfl, a, rfl⟩ <;> simp
        · obtain ⟨p, q, hp, hq, hpq⟩ := eqNil_some hb
          rcases isNilF_sound hx hp with ⟨rfl, rfl⟩ | ⟨rfl, a, n, c, rfl⟩ <;> simp
        · split at hb
          · have := hx.nili_inv; subst this; simp
          · obtain ⟨p, q, hp, hq, hpq⟩ := eqNil_some hb
            rcases isNilI_sound hx hp with ⟨rfl, rfl⟩ | ⟨rfl, a, n, rfl⟩ <;> simp
        · cases hst : P.stoodInHeld t || P.eqGuardType P.depth t with
          | true => rw [hst] at hb; cases hb
          | false =>
            rw [hst] at hb
            simp only [cond_false] at hb
            split at hb
            · obtain ⟨cx, rfl, _⟩ := hx.agg_inv; simp
            · cases hb
        · cases hb
    cases op with
    | eql =>
      simp only at he
      cases hb : eqT P h t (isConst X || isConst Y) x y with
      | none => rw [hb] at he; cases he
      | some b =>
        rw [hb] at he; cases he
        obtain ⟨h1, h2⟩ := eqT_sound (op := .eql) hW hx hy hb
        obtain ⟨s1, s2, s3, s4⟩ := shape b hb
        refine ⟨.bool b, ?_, .bool⟩
        simp only [Sem.run_bind, h1, Result.andThen_ok]
        cases vx <;> first | exact absurd rfl (s1 _ _) | exact absurd rfl (s2 _) | exact absurd rfl (s3 _ _) | exact absurd rfl (s4 _ _ _) | (simp only [Go.binOp, Sem.run_bind, h2, Result.andThen_ok, Sem.run_pure])
    | neq =>
      simp only at he
      cases hb : eqT P h t (isConst X || isConst Y) x y with
      | none => rw [hb] at he; cases he
      | some b =>
        rw [hb] at he; cases he
        obtain ⟨h1, h2⟩ := eqT_sound (op := .neq) hW hx hy hb
        obtain ⟨s1, s2, s3, s4⟩ := shape b hb
        refine ⟨.bool (!b), ?_, .bool⟩
        simp only [Sem.run_bind, h1, Result.andThen_ok]
        cases vx <;> first | exact absurd rfl (s1 _ _) | exact absurd rfl (s2 _) | exact absurd rfl (s3 _ _) | exact absurd rfl (s4 _ _ _) | (simp only [Go.binOp, Sem.run_bind, h2, Result.andThen_ok, Sem.run_pure])
    | _ => cases he
  cases x with
  | int k a =>
    cases y with
    | int k' b =>
      have := hx.int_inv; subst this
      have := hy.int_inv; subst this
      obtain ⟨hk, he⟩ := bif_some he rfl
      obtain ⟨v, h1, h2⟩ := intOp_sound (P := P) (g := g) (w := w) (t := t) he (by
        rcases Bool.or_eq_true _ _ ▸ hk with h | h
        · exact .inl h
        · exact .inr ((kindEq_iff _ _).1 h))
      refine ⟨v, ?_, h2⟩
      have hg : (eqGuard op t X Y (.int k a) (.int k' b)).run P w = .ok () w := eqGuard_of _ _ _ _ _ _ (by simp) (by simp)
      simp only [Sem.run_bind, hg, Result.andThen_ok, h1]
    | _ => cases he
  | str a =>
    cases y with
    | str b =>
      obtain ⟨s, rfl, rfl⟩ := hx.str_inv
      obtain ⟨u, rfl, rfl⟩ := hy.str_inv
      obtain ⟨v, h1, h2⟩ := strOp_sound (P := P) (g := g) (w := w) (t := t) he
      refine ⟨v, ?_, h2⟩
      have hg : (eqGuard op t X Y (.string s) (.string u)).run P w = .ok () w := eqGuard_of _ _ _ _ _ _ (by simp) (by simp)
      simp only [Sem.run_bind, hg, Result.andThen_ok, h1]
    | _ => cases he
  | imod k m r =>
    obtain ⟨N, rfl, hN, rfl⟩ := hx.imod_inv
    have he : remMod op k m (N % m) y = some z := he
    unfold remMod at he
    split at he
    · split at he
      · rename_i d k'
        have := hy.int_inv; subst this
        obtain ⟨hb, he2⟩ := bif_some he rfl
        simp only [Bool.and_eq_true, Nat.blt_eq, Nat.beq_eq] at hb
        obtain ⟨⟨hk, hd⟩, hm⟩ := hb
        have := (kindEq_iff _ _).1 hk; subst this
        rw [forceI_eq] at he2
        have hmd : m % d = 0 := hm
        have hrem : (N % m) % d = N % d := Nat.mod_mod_of_dvd N (Nat.dvd_of_mod_eq_zero hmd)
        have h3 : intOp .rem k (N : Int) (d : Int) = some z := by
          change remI k (N : Int) (d : Int) = some z
          unfold remI
          have h0 : ieq (d : Int) 0 = false := by
            cases hq : ieq (d : Int) 0 with
            | false => rfl
            | true => rw [ieq_iff] at hq; omega
          rw [h0]
          change forceI k ((N : Int).tmod (d : Int)) = some z
          rw [forceI_eq, ← he2]
          have : (N : Int).tmod (d : Int) = Int.ofNat (Nat.mod (N % m) d) := by
            rw [show Nat.mod (N % m) d = (N % m) % d from rfl, hrem]
            exact (Int.ofNat_tmod N d).symm
          rw [this]
        obtain ⟨v, h1, h2⟩ := intOp_sound (P := P) (g := g) (w := w) (t := t) h3 (.inr rfl)
        refine ⟨v, ?_, h2⟩
        have hg : (eqGuard .rem t X Y (.int k (N : Int)) (.int k (d : Int))).run P w = .ok () w := eqGuard_of _ _ _ _ _ _ (by simp) (by simp)
        have h1 : (Go.binOp .rem t (.int k (N : Int)) (.int k (d : Int))).run P w = .ok v w := h1
        have e : ((Int.ofNat d : Int)) = (d : Int) := rfl
        rw [e]
        simp only [Sem.run_bind, hg, Result.andThen_ok, h1]
      · cases he
    · cases he
  | _ => exact heq hx (fun _ _ e => by cases e) (fun _ e => by cases e) he

end Go.AM
