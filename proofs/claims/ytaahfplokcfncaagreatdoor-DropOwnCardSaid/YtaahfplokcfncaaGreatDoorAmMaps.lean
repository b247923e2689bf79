/-
  Maps; slices that are made.
-/
import Derived.Test.YtaahfplokcfncaaGreatDoorAmBuilt
import Derived.Laws.MakeOwn
namespace Go.AM
open Go.RowKit

variable {P : Program} {B : Nat} {w0 : World} {g : Gh} {h : Heap} {w : World}

theorem mapKV_some {t kt e : TypeId} (h : mapKV P t = some (kt, e)) : P.underlying t = some (.map kt e) := by
  unfold mapKV at h
  split at h
  · cases h; assumption
  · cases h

/-- A type of numbers, texts, bools, and a value of it. -/
theorem fitsT_some {t : TypeId} {x : V} (h : fitsT P t x = true) : (∃ k k' n, P.underlying t = some (.int k) ∧ x = .int k' n) ∨ (∃ s, P.underlying t = some .string ∧ x = .str s) ∨ (∃ b, P.underlying t = some .bool ∧ x = .bool b) := by
  unfold fitsT at h
  split at h
  · rename_i k hu
    cases x with
    | int k' n => exact .inl ⟨_, _, _, hu, rfl⟩
    | _ => cases h
  · rename_i hu
    cases x with
    | str s => exact .inr (.inl ⟨_, hu, rfl⟩)
    | _ => cases h
  · rename_i hu
    cases x with
    | bool b => exact .inr (.inr ⟨_, hu, rfl⟩)
    | _ => cases h
  · cases h

theorem run_checkKeyN {t : TypeId} {v : Value} {x : V} (hf : fitsT P t x = true) (empty : Bool) (n : Nat) : (Instr.checkKey empty (n + 1) t v).run P w = .ok () w := by
  rcases fitsT_some hf with ⟨k, _, _, hu, _⟩ | ⟨_, hu, _⟩ | ⟨_, hu, _⟩ <;> cases v <;> simp [Instr.checkKey, run_underlying hu]
theorem run_checkKey' {t : TypeId} {v : Value} {x : V} (hf : fitsT P t x = true) (empty : Bool) : (Instr.checkKey empty 10000 t v).run P w = .ok () w := run_checkKeyN hf empty 9999

theorem bytes_beq (a b : ByteArray) : (a == b) = strEq a.data.toList b.data.toList := by
  have e : (a == b) = (a.data == b.data) := rfl
  rw [e, strEq_eq, Bool.eq_iff_iff]
  simp only [beq_iff_eq]
  exact ⟨fun h => by rw [h], fun h => Array.ext' h⟩

/-- Two keys, held against one another. -/
theorem sameNow_sound {t : TypeId} {d : TypeDesc} {v u : Value} {x y : V} {b : Bool} (hu : P.underlying t = some d) (hf : fitsT P t x = true) (hx : R g v x) (hy : R g u y) (he : eqS x y = some b) : Instr.sameNow d v u = some b := by
  rcases fitsT_some hf with ⟨k, k', n, hu', rfl⟩ | ⟨s, hu', rfl⟩ | ⟨c, hu', rfl⟩
  · rw [hu] at hu'; cases hu'
    have := hx.int_inv; subst this
    cases y with
    | int k2 m =>
      have := hy.int_inv; subst this
      obtain ⟨hk, he⟩ := bif_some he rfl
      cases he
      have := (kindEq_iff _ _).1 hk; subst this
      simp [Instr.sameNow, ieq_eq]
    | _ => cases he
  · rw [hu] at hu'; cases hu'
    obtain ⟨a, rfl, rfl⟩ := hx.str_inv
    cases y with
    | str l =>
      obtain ⟨c, rfl, rfl⟩ := hy.str_inv
      cases he
      simp only [Instr.sameNow, bytes_beq]
    | _ => cases he
  · rw [hu] at hu'; cases hu'
    have := hx.bool_inv; subst this
    cases y with
    | bool c2 =>
      have := hy.bool_inv; subst this
      cases he
      cases c <;> cases c2 <;> rfl
    | _ => cases he

theorem sameBits_sound {t : TypeId} {v u : Value} {x y : V} (hf : fitsT P t x = true) (hx : R g v x) (hy : R g u y) (he : eqS x y = some true) : Instr.sameBits 10000 u v = true := by
  rcases fitsT_some hf with ⟨k, k', n, hu', rfl⟩ | ⟨s, hu', rfl⟩ | ⟨c, hu', rfl⟩
  · have := hx.int_inv; subst this
    cases y with
    | int k2 m =>
      have := hy.int_inv; subst this
      obtain ⟨hk, he_⟩ := bif_some he rfl
      have := (kindEq_iff _ _).1 hk; subst this
      have := (ieq_iff n m).1 (Option.some.inj he_); subst this
      simp [Instr.sameBits]
    | _ => cases he
  · obtain ⟨a, rfl, rfl⟩ := hx.str_inv
    cases y with
    | str l =>
      obtain ⟨c, rfl, rfl⟩ := hy.str_inv
      have he' : strEq a.data.toList c.data.toList = true := Option.some.inj he
      have := (strEq_iff _ _).1 he'
      simp only [Instr.sameBits, bytes_beq]
      rw [this]; exact (strEq_iff _ _).2 rfl
    | _ => cases he
  · have := hx.bool_inv; subst this
    cases y with
    | bool c2 =>
      have := hy.bool_inv; subst this
      cases c <;> cases c2 <;> first | rfl | cases he
    | _ => cases he

theorem findKey_cons (k : V) (p : V × V) (l : List (V × V)) : findKey k (p :: l) = match eqS k p.1 with
    | some true => some (some p.2)
    | some false => findKey k l
    | none => none := rfl
theorem putKey_cons (k v : V) (p : V × V) (l : List (V × V)) : putKey k v (p :: l) = match eqS k p.1 with
    | some true => some ((k, v) :: l)
    | some false => match putKey k v l with
      | some l' => some (p :: l')
      | none => none
    | none => none := rfl

def EntsOk (g : Gh) (E : List MapEntry) (es : List (V × V)) : Prop := E.length = es.length ∧ ∀ (i : Nat) e p, E[i]? = some e → es[i]? = some p → R g e.key p.1 ∧ R g e.val p.2

theorem EntsOk.tail {e : MapEntry} {p : V × V} {E : List MapEntry} {es : List (V × V)} (h : EntsOk g (e :: E) (p :: es)) : (R g e.key p.1 ∧ R g e.val p.2) ∧ EntsOk g E es :=
  ⟨h.2 0 e p rfl rfl, by simpa using h.1, fun i a b x y => h.2 (i + 1) a b (by simpa using x) (by simpa using y)⟩
theorem EntsOk.cons {e : MapEntry} {p : V × V} {E : List MapEntry} {es : List (V × V)} (h0 : R g e.key p.1 ∧ R g e.val p.2) (h : EntsOk g E es) : EntsOk g (e :: E) (p :: es) :=
  ⟨by simp [h.1], fun i a b x y => by
    cases i with
    | zero => simp at x y; subst x; subst y; exact h0
    | succ i => exact h.2 i a b (by simpa using x) (by simpa using y)⟩

theorem findNow_sound {t : TypeId} {d : TypeDesc} {v : Value} {x : V} (hu : P.underlying t = some d) (hf : fitsT P t x = true) (hx : R g v x) (es : List (V × V)) : ∀ (E : List MapEntry) (i : Nat) (r : Option V), EntsOk g E es → findKey x es = some r →
    match r with
    | none => Instr.findNow d v E i = some none
    | some y => ∃ j u, Instr.findNow d v E i = some (some (j, u)) ∧ R g u y := by
  induction es with
  | nil =>
    intro E i r hE hr
    cases E with
    | nil => cases hr; rfl
    | cons _ _ => have := hE.1; simp at this
  | cons p es ih =>
    intro E i r hE hr
    cases E with
    | nil => have := hE.1; simp at this
    | cons e E =>
      obtain ⟨⟨hk, hv⟩, ht⟩ := hE.tail
      rw [findKey_cons] at hr
      split at hr
      · rename_i he
        cases hr
        exact ⟨i, e.val, by simp [Instr.findNow, sameNow_sound hu hf hx hk he], hv⟩
      · rename_i he
        have := ih E (i + 1) r ht hr
        have e1 : Instr.findNow d v (e :: E) i = Instr.findNow d v E (i + 1) := by simp [Instr.findNow, sameNow_sound hu hf hx hk he]
        rw [e1]; exact this
      · cases hr

theorem run_findKey {t : TypeId} {d : TypeDesc} {v : Value} {E : List MapEntry} {r : Option (Nat × Value)} (hu : P.underlying t = some d) (hn : Instr.findNow d v E 0 = some r) : (Instr.findKey t v E).run P w = .ok r w := by
  simp [Instr.findKey, run_underlying hu, hn]

theorem tup2 {a b : Value} {x y : V} (h1 : R g a x) (h2 : R g b y) : R g (.tuple #[a, b]) (.tup [x, y]) := .tup rfl fun i v x hv hx => by
  match i with
  | 0 => cases hv; cases hx; exact h1
  | 1 => cases hv; cases hx; exact h2
  | n + 2 => simp at hx

/-- The model's look-up behind the search. -/
theorem lookup_fin {t kt e : TypeId} {d : TypeDesc} {ok em : Bool} {vm vk : Value} {k y : V} {E : List MapEntry} {es : List (V × V)} (hf : fitsT P kt k = true) (hd : P.underlying kt = some d) (hk : R g vk k) (hE : EntsOk g E es) (hr : found P ok e (findKey k es) = some y)
    (hrun : (Instr.lookup t vm vk ok).run P w = ((Instr.checkKey em 10000 kt vk).run P w).andThen fun _ w' => ((Instr.findKey kt vk E).run P w').andThen fun r w'' => Sem.run P (match r with
        | some (_, v) => pure (if ok = true then .tuple #[v, .bool true] else v)
        | none => (fun a => if ok = true then Value.tuple #[a, .bool false] else a) <$> zeroValue e) w'') : ∃ v, (Instr.lookup t vm vk ok).run P w = .ok v w ∧ R g v y := by
  rw [hrun, run_checkKey' hf em]
  cases hfk : findKey k es with
  | none => rw [hfk] at hr; cases hr
  | some o =>
    rw [hfk] at hr
    have hfn := findNow_sound hd hf hk es E 0 o hE hfk
    cases o with
    | none =>
      have hfn : Instr.findNow d vk E 0 = some none := hfn
      simp only [Result.andThen_ok, run_findKey hd hfn]
      unfold found at hr
      simp only at hr
      split at hr
      · rename_i z hz
        obtain ⟨i, zv, hi, hzv, hg⟩ := zero_some hz
        cases ok with
        | true => cases hr; exact ⟨.tuple #[zv, .bool false], by simp [run_zero hi hzv], tup2 (.gnd (hg _)) (.gnd (.bool _))⟩
        | false => cases hr; exact ⟨zv, by simp [run_zero hi hzv], .gnd (hg _)⟩
      · cases hr
    | some x =>
      obtain ⟨j, u, hfn, hu⟩ := hfn
      simp only [Result.andThen_ok, run_findKey hd hfn]
      cases ok with
      | true => cases hr; exact ⟨.tuple #[u, .bool true], by simp, tup2 hu (.gnd (.bool _))⟩
      | false => cases hr; exact ⟨u, by simp, hu⟩

theorem zipV_cons (k v : V) (ks vs : List V) : zipV (k :: ks) (v :: vs) = (k, v) :: zipV ks vs := rfl
theorem zipV_len : ∀ {ks vs : List V}, ks.length = vs.length → (zipV ks vs).length = ks.length := by
  intro ks
  induction ks with
  | nil => intro vs _; rfl
  | cons k ks IH =>
    intro vs h
    cases vs with
    | nil => simp at h
    | cons v vs => rw [zipV_cons, List.length_cons, List.length_cons, IH (by simpa using h)]
theorem zipV_get : ∀ {ks vs : List V} {i : Nat} {p : V × V}, (zipV ks vs)[i]? = some p → ks[i]? = some p.1 ∧ vs[i]? = some p.2 := by
  intro ks
  induction ks with
  | nil => intro vs i p h; change ([] : List (V × V))[i]? = some p at h; simp at h
  | cons k ks IH =>
    intro vs i p h
    cases vs with
    | nil => change ([] : List (V × V))[i]? = some p at h; simp at h
    | cons v vs =>
      rw [zipV_cons] at h
      cases i with
      | zero => simp at h; subst h; exact ⟨rfl, rfl⟩
      | succ i => exact IH (by simpa using h)

theorem lookup_sound (hW : W B w0 g h w) {t : TypeId} {ok : Bool} {vm vk : Value} {m k y : V} (hm : R g vm m) (hk : R g vk k) (hl : lookup P h t ok m k = some y) : ∃ v, (Instr.lookup t vm vk ok).run P w = .ok v w ∧ R g v y := by
  unfold lookup at hl
  split at hl
  · cases hl
  · rename_i kt e hkv
    have hu := mapKV_some hkv
    obtain ⟨hf, hl1⟩ := bif_some hl rfl
    clear hl
    obtain ⟨d, hd⟩ : ∃ d, P.underlying kt = some d := by
      rcases fitsT_some hf with ⟨_, _, _, hu', _⟩ | ⟨_, hu', _⟩ | ⟨_, hu', _⟩ <;> exact ⟨_, hu'⟩
    split at hl1
    · have := hm.nilm_inv; subst this
      refine lookup_fin (em := true) (E := []) (es := []) hf hd hk ⟨rfl, fun i e p a => by simp at a⟩ hl1 ?_
      simp [Instr.lookup, run_underlying hu]
      rfl
    · rename_i r
      split at hl1
      · rename_i es hr
        obtain ⟨b, kk, rfl, hv, hmu⟩ := hm.map_inv
        have hobj := hW.obj r _ hmu
        rw [hr] at hobj
        obtain ⟨_, E, clock, h1, h2, h3, _⟩ := hobj
        have h1 : w.heap[b]? = some (.map E clock) := h1
        have hE : EntsOk g E.toList es := ⟨by simpa using h2, fun i e p a b => h3 i e p (by simpa using a) b⟩
        refine lookup_fin (em := E.isEmpty) hf hd hk hE hl1 ?_
        simp [Instr.lookup, run_underlying hu, getObj, Sem.run, h1]
        rfl
      · cases hl1
    · rename_i ks vs
      have h' := hm.gmap_inv
      cases h' with
      | gmap hS hkn hvn h1 h2 =>
        rename_i b c E
        have h3 := gmap_heap (w := w) (fun o v e => hW.shut _ _ _ (hS o v e))
        have hE : EntsOk g E.toList (zipV ks vs) := ⟨by rw [zipV_len (by omega)]; simp [hkn], fun i e p a b => by
          obtain ⟨p1, p2⟩ := zipV_get b
          have q1 : E[i]? = some e := by simpa using a
          exact ⟨.gnd (h1 i e _ q1 p1), .gnd (h2 i e _ q1 p2)⟩⟩
        refine lookup_fin (em := E.isEmpty) hf hd hk hE hl1 ?_
        simp [Instr.lookup, run_underlying hu, getObj, Sem.run, h3]
        rfl
    · cases hl1

theorem run_getObj_at {b : Nat} {E : Array MapEntry} {c : Nat} (h1 : w.heap[b]? = some (.map E c)) : (Sem.getObj b Sem.pure).run P w = .ok (.map E c) w := by simp [Sem.run, h1]

theorem EntsOk.modify {E : List MapEntry} {es : List (V × V)} (h : EntsOk g E es) {i : Nat} {k v : Value} {x y : V} (hk : R g k x) (hv : R g v y) : EntsOk g (E.modify i fun e => { e with key := k, val := v }) (es.set i (x, y)) := by
  refine ⟨by simp [h.1], fun j e p hj hp => ?_⟩
  rw [List.getElem?_modify] at hj
  rw [List.getElem?_set] at hp
  cases he : E[j]? with
  | none => rw [he] at hj; simp at hj
  | some e0 =>
    rw [he] at hj
    simp only [Option.map_eq_map, Option.map_some, Option.some.injEq] at hj
    split at hp
    · rename_i hij
      subst hij
      rw [if_pos rfl] at hj
      split at hp
      · cases hp; subst hj; exact ⟨hk, hv⟩
      · cases hp
    · rename_i hij
      rw [if_neg hij] at hj
      subst hj
      exact h.2 j _ p he hp

theorem putKey_sound {t : TypeId} {d : TypeDesc} {v : Value} {x y : V} (hu : P.underlying t = some d) (hf : fitsT P t x = true) (hx : R g v x) (es : List (V × V)) : ∀ (E : List MapEntry) (i : Nat) (es' : List (V × V)), EntsOk g E es → putKey x y es = some es' →
    (Instr.findNow d v E i = some none ∧ es' = es ++ [(x, y)]) ∨ (∃ j u e, Instr.findNow d v E i = some (some (i + j, u)) ∧ E[j]? = some e ∧ Instr.sameBits 10000 e.key v = true ∧ es' = es.set j (x, y)) := by
  induction es with
  | nil =>
    intro E i es' hE hr
    cases E with
    | nil => cases hr; exact .inl ⟨rfl, rfl⟩
    | cons _ _ => have := hE.1; simp at this
  | cons p es ih =>
    intro E i es' hE hr
    cases E with
    | nil => have := hE.1; simp at this
    | cons e E =>
      obtain ⟨⟨hk, hv⟩, ht⟩ := hE.tail
      rw [putKey_cons] at hr
      split at hr
      · rename_i he
        cases hr
        exact .inr ⟨0, e.val, e, by simp [Instr.findNow, sameNow_sound hu hf hx hk he], rfl, sameBits_sound hf hx hk he, rfl⟩
      · rename_i he
        have e1 : Instr.findNow d v (e :: E) i = Instr.findNow d v E (i + 1) := by simp [Instr.findNow, sameNow_sound hu hf hx hk he]
        rw [e1]
        split at hr
        · rename_i l' hl
          cases hr
          rcases ih E (i + 1) l' ht hl with ⟨a, rfl⟩ | ⟨j, u, e', a, b, c, rfl⟩
          · exact .inl ⟨a, rfl⟩
          · refine .inr ⟨j + 1, u, e', ?_, by simpa using b, c, rfl⟩
            rw [a]
            have : i + 1 + j = i + (j + 1) := by omega
            rw [this]
        · cases hr
      · cases hr

theorem BornOk.push {E : Array MapEntry} {c : Nat} (h : BornOk E c) (k v : Value) : BornOk (E.push { key := k, val := v, born := c }) (c + 1) := by
  have hp : ∀ (i : Nat) e, (E.push { key := k, val := v, born := c })[i]? = some e → (i = E.size ∧ e.born = c) ∨ (E[i]? = some e) := fun i e he => by
    rw [Array.getElem?_push] at he
    split at he
    · rename_i q; cases he; exact .inl ⟨q, rfl⟩
    · exact .inr he
  refine ⟨fun i e he => ?_, fun i j e e' he he' hb => ?_⟩
  · rcases hp i e he with ⟨_, q⟩ | q
    · omega
    · have := h.1 i e q; omega
  · rcases hp i e he with ⟨q1, q2⟩ | q <;> rcases hp j e' he' with ⟨q3, q4⟩ | q'
    · omega
    · have := h.1 j e' q'; omega
    · have := h.1 i e q; omega
    · exact h.2 i j e e' q q' hb
theorem BornOk.modify {E : Array MapEntry} {c : Nat} (h : BornOk E c) (j : Nat) (k v : Value) : BornOk (E.modify j fun e => { e with key := k, val := v }) c := by
  have hp : ∀ (i : Nat) e, (E.modify j fun e => { e with key := k, val := v })[i]? = some e → ∃ e0, E[i]? = some e0 ∧ e0.born = e.born := fun i e he => by
    rw [Array.getElem?_modify] at he
    cases he0 : E[i]? with
    | none => rw [he0] at he; simp at he
    | some e0 =>
      rw [he0] at he
      refine ⟨e0, rfl, ?_⟩
      split at he <;> · cases he; rfl
  refine ⟨fun i e he => ?_, fun i i' e e' he he' hb => ?_⟩
  · obtain ⟨e0, q1, q2⟩ := hp i e he
    have := h.1 i e0 q1; omega
  · obtain ⟨e0, q1, q2⟩ := hp i e he
    obtain ⟨e1, q3, q4⟩ := hp i' e' he'
    exact h.2 i i' e0 e1 q1 q3 (by omega)

theorem BornOk.pair {E : Array MapEntry} {c : Nat} (h : BornOk E c) : E.toList.Pairwise fun x y => x.born ≠ y.born := by
  rw [List.pairwise_iff_getElem]
  intro i j hi hj hij e
  have := h.2 i j E.toList[i] E.toList[j] (by simp at hi ⊢) (by simp at hj ⊢) e
  omega

/-- A map of the machine's own is not written any more. -/
theorem W.sealMap {r b : Nat} {kk : Nat × Nat} {es : List (V × V)} (hW : W B w0 g h w) (hr : h.get r = .map es) (hm : g.mu r = some (b, kk)) (hvr : g.vr r = none) :
    ∃ E c, w.heap[b]? = some (.map E c) ∧ BornOk E c ∧ E.size = es.length ∧ (∀ (i : Nat) e p, E[i]? = some e → es[i]? = some p → R g e.key p.1 ∧ R g e.val p.2) ∧
      ∃ S, (∀ b' o v, g.S b' o = some v → S b' o = some v) ∧ (∀ b', b' ≠ b → ∀ o v, S b' o = some v → g.S b' o = some v) ∧ (∀ o v, mapLook E c o = some v → S b o = some v) ∧ Grown B g (g.say S) ∧ W B w0 (g.say S) (h.set r .dead) w := by
  have hobj := hW.obj r _ hm
  rw [hr] at hobj
  obtain ⟨hno, E, c, e1, e2, e3, e4⟩ := hobj
  have e1 : w.heap[b]? = some (.map E c) := e1
  have hno : ∀ o v, g.S b o ≠ some v := hno
  have hB := hW.high r _ hm
  refine ⟨E, c, e1, e4, e2, e3, fun b' o => if b' = b then mapLook E c o else g.S b' o, ?_⟩
  have hext : ∀ b' o v, g.S b' o = some v → (if b' = b then mapLook E c o else g.S b' o) = some v := fun b' o v e => by
    split
    · rename_i q; subst q; exact absurd e (hno o v)
    · exact e
  have hoth : ∀ b', b' ≠ b → ∀ o v, (if b' = b then mapLook E c o else g.S b' o) = some v → g.S b' o = some v := fun b' hb o v e => by
    rw [if_neg hb] at e; exact e
  have hx : Ext g (g.say fun b' o => if b' = b then mapLook E c o else g.S b' o) := Ext.say hext
  refine ⟨hext, hoth, fun o v e => by show (if b = b then mapLook E c o else g.S b o) = some v; rw [if_pos rfl]; exact e, ⟨hx, fun b' o v hb' hv => hoth b' (fun q => by have h1 : B ≤ b := hB.1; omega) o v hv⟩, ?_⟩
  refine hW.turn r (b, kk) ⟨rfl, rfl, rfl, Nat.le_refl _, fun _ _ => rfl⟩ hx (.inl ⟨Heap.n_set _ _ _, hW.live hm⟩) (fun _ _ => rfl) (fun q hq => by rw [Heap.get_set, if_neg (fun e => hq e.symm)]) (fun _ _ => rfl) hm
    (by rw [Heap.get_set, if_pos rfl]; exact hvr) (fun q x hq hx' => ?_) (by rw [Heap.get_set, if_pos rfl]; trivial) hB ?_
  · have hne : x.1 ≠ b := fun e => hq (hW.inj q r x _ hx' hm e)
    exact ⟨hne, rfl, fun i v => hoth x.1 hne i v⟩
  · intro b' o v hv
    by_cases q : b' = b
    · subst q
      have hv : (if b' = b' then mapLook E c o else g.S b' o) = some v := hv
      rw [if_pos rfl] at hv
      rw [look_map e1]; exact hv
    · exact hW.shut _ _ _ (hoth b' q o v hv)

/-- A range over a map. -/
theorem rangeM_sound {t k e : TypeId} {r : Nat} {es : List (V × V)} {vx : Value} (hW : W B w0 g h w) (hu : P.underlying t = some (.map k e)) (hR : R g vx (.map r)) (hr : h.get r = .map es) : ValOk B w0 g ((Instr.range t vx).run P w) (.iter h.n) ((h.set r .dead).new (.miter es none)) := by
  obtain ⟨b, kk, rfl, hvr, hm⟩ := hR.map_inv
  obtain ⟨E, c, e1, e2, e3, e4, S, s1, s2, s3, s4, hW2⟩ := hW.sealMap hr hm hvr
  have hn : (h.set r .dead).n = h.n := Heap.n_set _ _ _
  refine ⟨.pointer (some ⟨w.heap.size, 0, none⟩), { w with heap := w.heap.push (.mapIter (some b) c #[] c) }, (g.say S).new h.n (w.heap.size, 0, 0) none, ?_, s4.trans (by rw [← hn]; exact Grown.new hW2 _ _), ?_, ?_⟩
  · simp [Instr.range, run_underlying hu, getObj, Sem.run, e1]; try rfl
  · have ft : (E.toList.filter fun e => !(#[] : Array Nat).contains e.born) = E.toList := List.filter_eq_self.2 (fun e _ => by simp)
    have := hW2.alloc (.mapIter (some b) c #[] c) (.miter es none) 0 0 (.inr ⟨b, E, c, c, #[], c, heap_push_new w _, s3, e2, e2, e2, by rw [ft]; simpa using e3, fun i e p a q => by
      rw [ft] at a
      have a' : E[i]? = some e := by simpa using a
      exact ⟨((e4 i e p a' q).1.mono s4.ext).mono (Ext.new hW2 _ _), ((e4 i e p a' q).2.mono s4.ext).mono (Ext.new hW2 _ _)⟩, fun p q => by cases q⟩)
    rw [hn] at this
    exact this
  · exact .iter (k := (0, 0)) (by simp [Gh.new]) (by simp [Gh.new])
theorem rangeN_sound {t k e : TypeId} {vx : Value} (hW : W B w0 g h w) (hu : P.underlying t = some (.map k e)) (hR : R g vx .nilm) : ValOk B w0 g ((Instr.range t vx).run P w) (.iter h.n) (h.new (.miter [] none)) := by
  have := hR.nilm_inv; subst this
  refine ⟨.pointer (some ⟨w.heap.size, 0, none⟩), { w with heap := w.heap.push (.mapIter none 0 #[] 0) }, g.new h.n (w.heap.size, 0, 0) none, ?_, Grown.new hW _ _, ?_, ?_⟩
  · simp [Instr.range, run_underlying hu]; try rfl
  · exact hW.alloc (.mapIter none 0 #[] 0) (.miter [] none) 0 0 (.inl ⟨rfl, rfl, 0, #[], 0, heap_push_new w _⟩)
  · exact .iter (k := (0, 0)) (by simp [Gh.new]) (by simp [Gh.new])

theorem run_choose_map {α : Type} {n : Nat} (hn : 0 < n) (f : Nat → Sem α) : ∃ k d, k < n ∧ ((Sem.choose (.mapNext n) Sem.pure).bind f).run P w = (f k).run P { w with drawn := d } := by
  by_cases h1 : n ≤ 1
  · refine ⟨0, w.drawn, hn, ?_⟩
    simp [Sem.bind, Sem.run, Question.forced, h1]
  · refine ⟨w.tape w.drawn (.mapNext n) % n, w.drawn + 1, Nat.mod_lt _ hn, ?_⟩
    simp [Sem.bind, Sem.run, Question.forced, Question.cut, h1]

/-- The entries but one. -/
theorem filter_erase {L : List MapEntry} : ∀ {k : Nat} {e : MapEntry}, (∀ (i j : Nat) x y, L[i]? = some x → L[j]? = some y → x.born = y.born → i = j) → L[k]? = some e → (L.filter fun x => !(x.born == e.born)) = L.eraseIdx k := by
  induction L with
  | nil => intro k e _ h; simp at h
  | cons a L IH =>
    intro k e hd hk
    have hd' : ∀ (i j : Nat) x y, L[i]? = some x → L[j]? = some y → x.born = y.born → i = j := fun i j x y p q r => by
      have := hd (i + 1) (j + 1) x y (by simpa using p) (by simpa using q) r; omega
    cases k with
    | zero =>
      simp at hk; subst hk
      rw [List.filter_cons, if_neg (by simp), List.eraseIdx_cons_zero, List.filter_eq_self]
      intro x hx
      obtain ⟨i, hi⟩ := List.getElem?_of_mem hx
      have : x.born ≠ a.born := fun q => by have := hd (i + 1) 0 x a (by simpa using hi) rfl q; omega
      simp [this]
    | succ k =>
      have hk' : L[k]? = some e := by simpa using hk
      have : a.born ≠ e.born := fun q => by have := hd 0 (k + 1) a e rfl hk q; omega
      rw [List.filter_cons, if_pos (by simp [this]), List.eraseIdx_cons_succ, IH hd' hk']

theorem tup1 {a : Value} {x : V} (h1 : R g a x) : R g (.tuple #[a]) (.tup [x]) := .tup rfl fun i v x hv hx => by
  match i with
  | 0 => cases hv; cases hx; exact h1
  | n + 1 => simp at hx
theorem tup3 {a b c : Value} {x y z : V} (h1 : R g a x) (h2 : R g b y) (h3 : R g c z) : R g (.tuple #[a, b, c]) (.tup [x, y, z]) := .tup rfl fun i v x hv hx => by
  match i with
  | 0 => cases hv; cases hx; exact h1
  | 1 => cases hv; cases hx; exact h2
  | 2 => cases hv; cases hx; exact h3
  | n + 3 => simp at hx

/-- The next entry of a map, whichever it is. -/
theorem nextM_sound {ty : TypeId} {r : Nat} {left : List (V × V)} {cur : Option (V × V)} {vx : Value} (hW : W B w0 g h w) (hR : R g vx (.iter r)) (hr : h.get r = .miter left cur) :
    (left = [] → ValOk B w0 g ((Instr.next vx false ty).run P w) (.tup [.bool false]) h) ∧
    (left ≠ [] → ∃ k p, left[k]? = some p ∧ ValOk B w0 g ((Instr.next vx false ty).run P w) (.tup [.bool true, p.1, p.2]) (h.set r (.miter (left.eraseIdx k) (some p)))) := by
  obtain ⟨b, kk, rfl, hv, hm⟩ := hR.iter_inv
  have hobj := hW.obj r _ hm
  rw [hr] at hobj
  rcases hobj with ⟨hl, _, s, n, t, h1⟩ | ⟨m, E, c, s, n, t, h1, h2, h3, h4, h5, h6, h7, _⟩
  · have h1 : w.heap[b]? = some (.mapIter none s n t) := h1
    refine ⟨fun _ => ⟨.tuple #[.bool false], w, g, ?_, Grown.refl _ _, hW, tup1 (.gnd (.bool _))⟩, fun q => absurd hl q⟩
    simp [Instr.next, getObj, Sem.run, h1]
  · have h1 : w.heap[b]? = some (.mapIter (some m) s n t) := h1
    have hm' := gmap_heap (w := w) (fun o v e => hW.shut _ _ _ (h2 o v e))
    have hborn : ∀ e, e ∈ E.toList → e.born < s ∧ e.born < t := fun e he => by
      obtain ⟨i, hi⟩ := List.getElem?_of_mem he
      have hi : E[i]? = some e := by simpa using hi
      exact ⟨h3.1 i e hi, h4.1 i e hi⟩
    obtain ⟨A, hA⟩ : ∃ A : Array MapEntry, A = E.filter fun e => !n.contains e.born := ⟨_, rfl⟩
    have hAl : A.toList = E.toList.filter fun e => !n.contains e.born := by rw [hA]; simp
    have hAm : ∀ e, e ∈ A.toList → e ∈ E.toList := fun e he => by rw [hAl] at he; exact (List.mem_filter.1 he).1
    have hold : A.filter (fun e => decide (e.born < s)) = A := by
      apply Array.ext'
      simp only [Array.toList_filter]
      rw [List.filter_eq_self]
      intro e he; exact decide_eq_true (hborn e (hAm e he)).1
    have hnew : A.filter (fun e => decide (e.born ≥ s)) = #[] := by
      apply Array.ext'
      simp only [Array.toList_filter]
      rw [List.filter_eq_nil_iff]
      intro e he; have := (hborn e (hAm e he)).1; simp; omega
    have hcond : (!n.isEmpty && !E.isEmpty && E.all (fun e => decide (e.born ≥ t))) = false := by
      cases hE : E.isEmpty with
      | true => simp
      | false =>
        have : E.all (fun e => decide (e.born ≥ t)) = false := by
          rw [Array.all_eq_false']
          have hne : 0 < E.size := by
            rcases Nat.eq_zero_or_pos E.size with q | q
            · rw [Array.isEmpty_iff_size_eq_zero.2 q] at hE; cases hE
            · exact q
          refine ⟨E[0], Array.getElem_mem hne, ?_⟩
          have := (hborn E[0] (by simp)).2
          simp; omega
        rw [this]; simp
    rw [← hAl] at h6 h7
    have h6 : A.size = left.length := by simpa using h6
    refine ⟨fun hl => ?_, fun hl => ?_⟩
    · subst hl
      have hA0 : A = #[] := Array.eq_empty_of_size_eq_zero (by simpa using h6)
      refine ⟨.tuple #[.bool false], w, g, ?_, Grown.refl _ _, hW, tup1 (.gnd (.bool _))⟩
      simp only [Instr.next, getObj, Sem.run_bind, Sem.run, h1, hm', Result.andThen_ok]
      rw [← hA, hold, hnew, hcond, hA0]
      simp [choose, Sem.run, Question.forced]
    · have hpos : 0 < A.size := by
        rw [h6]; exact List.length_pos_iff.2 hl
      have hne : A.isEmpty = false := by
        cases hE : A.isEmpty with
        | false => rfl
        | true => rw [Array.isEmpty_iff_size_eq_zero] at hE; omega
      obtain ⟨k, d, hk, hrun⟩ := run_choose_map (P := P) (w := w) (n := A.size) hpos (fun i => match (A.map some)[i]? with
        | some (some e) => (do
          setObj b (.mapIter (some m) s (n.push e.born) c)
          pure (Value.tuple #[Value.bool true, e.key, e.val]) : Sem Value)
        | some none => pure (Value.tuple #[Value.bool false])
        | none => stuck "Next: no such candidate")
      have hek : A[k]? = some A[k] := by simp [hk]
      have hpl : k < left.length := by omega
      have hp : left[k]? = some left[k] := by simp [hpl]
      refine ⟨k, left[k], hp, .tuple #[.bool true, A[k].key, A[k].val], blk { w with drawn := d } b (.mapIter (some m) s (n.push A[k].born) c), g, ?_, Grown.refl _ _, ?_, ?_⟩
      · simp only [Instr.next, getObj, Sem.run_bind, Sem.run, h1, hm', Result.andThen_ok]
        rw [← hA, hold, hnew, hcond]
        simp only [hne, Bool.false_eq_true, if_false, Array.empty_append, Array.append_empty, Array.size_map]
        refine Eq.trans (b := _) hrun ?_
        have hb : w.heap[b]? = some (.mapIter (some m) s n t) := h1
        rw [Array.getElem?_map, hek]
        simp [setObj, Sem.run, hb, blk]
      · have hW1 := hW.drew d
        refine hW1.setObj hm hv rfl ?_ (noS_of hW.shut h1 (fun _ _ _ e => by cases e) (fun _ _ e => by cases e))
        have hbk : (blk { w with drawn := d } b (.mapIter (some m) s (n.push A[k].born) c)).heap[b]? = some (.mapIter (some m) s (n.push A[k].born) c) := blk_at { w with drawn := d } b _ (block_lt h1)
        have hf : (E.toList.filter fun e => !(n.push A[k].born).contains e.born) = A.toList.eraseIdx k := by
          rw [← filter_erase (L := A.toList) (k := k) (e := A[k]) (fun i j x y p q r => ?_) (by simp [hk]), hAl, List.filter_filter]
          · congr 1
            funext e
            by_cases q : e.born = A[k].born <;> simp [q, Bool.and_comm]
          · have hpw : A.toList.Pairwise fun x y => x.born ≠ y.born := by rw [hAl]; exact h5.pair.filter _
            rw [List.pairwise_iff_getElem] at hpw
            obtain ⟨hi, ei⟩ := List.getElem?_eq_some_iff.1 p
            obtain ⟨hj, ej⟩ := List.getElem?_eq_some_iff.1 q
            rcases Nat.lt_trichotomy i j with hij | hij | hij
            · exact absurd (by rw [ei, ej]; exact r) (hpw i j hi hj hij)
            · exact hij
            · exact absurd (by rw [ei, ej]; exact r.symm) (hpw j i hj hi hij)
        have hal : A.toList[k]? = some A[k] := by simp [hk]
        refine .inr ⟨m, E, c, s, n.push A[k].born, c, hbk, h2, h3, h5, h5, by rw [hf]; simp [List.length_eraseIdx, h6, hpl], fun i e p q r => ?_, fun p q => ?_⟩
        rotate_left
        · cases q
          refine ⟨rfl, A[k].born, A[k], by simp, ?_, (h7 k _ _ hal hp).1, (h7 k _ _ hal hp).2⟩
          have hin : A[k] ∈ E.toList := hAm _ (by simp)
          rw [← Array.find?_toList, List.find?_eq_some_iff_append]
          refine ⟨by simp, ?_⟩
          obtain ⟨as, bs, hab⟩ := List.append_of_mem hin
          refine ⟨as, bs, hab, fun x hx => ?_⟩
          have hpw : E.toList.Pairwise fun x y => x.born ≠ y.born := h5.pair
          rw [hab, List.pairwise_append] at hpw
          have := hpw.2.2 x hx A[k] (by simp)
          simpa using this
        rw [hf] at q
        rw [List.getElem?_eraseIdx] at q r
        split at q
        · rename_i hi
          rw [if_pos hi] at r
          exact h7 i e p q r
        · rename_i hi
          rw [if_neg hi] at r
          exact h7 (i + 1) e p q r
      · have hal : A.toList[k]? = some A[k] := by simp [hk]
        exact tup3 (.gnd (.bool _)) (h7 k _ _ hal hp).1 (h7 k _ _ hal hp).2

/-- The entry at which an iterator stands. -/
theorem entry_sound {r : Nat} {left : List (V × V)} {p : V × V} {vx : Value} (hW : W B w0 g h w) (hR : R g vx (.iter r)) (hr : h.get r = .miter left (some p)) : ValOk B w0 g ((Instr.entry vx).run P w) (.tup [p.1, p.2]) h := by
  obtain ⟨b, kk, rfl, hv, hm⟩ := hR.iter_inv
  have hobj := hW.obj r _ hm
  rw [hr] at hobj
  rcases hobj with ⟨_, e, _⟩ | ⟨m, E, c, s, n, t, h1, h2, h3, h4, h5, h6, h7, h8⟩
  · cases e
  · have h1 : w.heap[b]? = some (.mapIter (some m) s n t) := h1
    have hm' := gmap_heap (w := w) (fun o v e => hW.shut _ _ _ (h2 o v e))
    obtain ⟨q1, st, e, q2, q3, q4, q5⟩ := h8 p rfl
    subst q1
    refine ⟨.tuple #[e.key, e.val], w, g, ?_, Grown.refl _ _, hW, .tup rfl fun i v x hv hx => ?_⟩
    · simp [Instr.entry, getObj, Sem.run, h1, hm', q2, q3]
    · match i with
      | 0 => cases hv; cases hx; exact q4
      | 1 => cases hv; cases hx; exact q5
      | n + 2 => simp at hx

theorem mapPut_sound (hW : W B w0 g h w) {t : TypeId} {vm vk vx : Value} {m k x : V} {h' : Heap} (hm : R g vm m) (hk : R g vk k) (hx : R g vx x) (hl : mapPut P h t m k x = .skip h') : ∃ w', (Instr.mapUpdate t vm vk vx).run P w = .ok () w' ∧ W B w0 g h' w' := by
  unfold mapPut at hl
  split at hl
  · cases hl
  · rename_i kt e hkv
    have hu := mapKV_some hkv
    split at hl
    · rename_i r
      split at hl
      · rename_i es hr
        cases hb : fitsT P kt k && x.flat with
        | false => rw [hb] at hl; cases hl
        | true =>
          rw [hb] at hl
          simp only [cond_true] at hl
          rw [Bool.and_eq_true] at hb
          obtain ⟨hf, hfl⟩ := hb
          split at hl
          · rename_i es' hes
            cases hl
            obtain ⟨b, kk, rfl, hv, hmu⟩ := hm.map_inv
            have hobj := hW.obj r _ hmu
            rw [hr] at hobj
            obtain ⟨hno, E, clock, h1, h2, h3, hbo⟩ := hobj
            have h1 : w.heap[b]? = some (.map E clock) := h1
            have hE : EntsOk g E.toList es := ⟨by simpa using h2, fun i e p a b => h3 i e p (by simpa using a) b⟩
            obtain ⟨d, hd⟩ : ∃ d, P.underlying kt = some d := by
              rcases fitsT_some hf with ⟨_, _, _, hu', _⟩ | ⟨_, hu', _⟩ | ⟨_, hu', _⟩ <;> exact ⟨_, hu'⟩
            have hset : ∀ o, (setObj b o).run P w = .ok () (blk w b o) := fun o => by simp [setObj, Sem.run, h1]; rfl
            have hobjs : ∀ (E' : Array MapEntry) (c' : Nat) (es2 : List (V × V)), EntsOk g E'.toList es2 → BornOk E' c' → W B w0 g (h.set r (.map es2)) (blk w b (.map E' c')) := fun E' c' es2 hE' hb' =>
              hW.setObj (x := (b, kk)) hmu hv rfl ⟨hno, E', c', blk_at w b _ (block_lt h1), by simpa using hE'.1, fun i e p a b => hE'.2 i e p (by simpa using a) b, hb'⟩ hno
            rcases putKey_sound hd hf hk es E.toList 0 es' hE hes with ⟨a, rfl⟩ | ⟨j, u, e', a, hj, hsb, rfl⟩
            · refine ⟨blk w b (.map (E.push { key := vk, val := vx, born := clock }) (clock + 1)), ?_, hobjs _ _ _ ?_ (hbo.push vk vx)⟩
              · simp [Instr.mapUpdate, run_underlying hu, getObj, run_getObj_at h1, run_checkKey' hf, run_findKey hd a, hset]
              · rw [Array.toList_push]
                refine ⟨by simp [h2], fun i e p hi hp => ?_⟩
                rw [List.getElem?_append] at hi hp
                have hl2 := hE.1
                split at hi
                · rename_i hlt
                  rw [if_pos (by omega)] at hp
                  exact hE.2 i e p hi hp
                · rename_i hlt
                  rw [if_neg (by omega)] at hp
                  rw [hl2] at hi
                  cases hq : i - es.length with
                  | zero => rw [hq] at hi hp; simp at hi hp; subst hi; subst hp; exact ⟨hk, hx⟩
                  | succ q => rw [hq] at hi; simp at hi
            · rw [Nat.zero_add] at a
              refine ⟨blk w b (.map (E.modify j fun e => { e with key := vk, val := vx }) clock), ?_, hobjs _ _ _ ?_ (hbo.modify j vk vx)⟩
              · have hj' : E[j]? = some e' := by simpa using hj
                simp [Instr.mapUpdate, run_underlying hu, getObj, run_getObj_at h1, run_checkKey' hf, run_findKey hd a, hset, hj', Instr.keyThatStays, hsb]
              · rw [Array.toList_modify]
                exact hE.modify hk hx
          · cases hl
      · cases hl
    · cases hl

theorem makeSlice_sound (hW : W B w0 g h w) {t : TypeId} {vl vc : Value} {kl kc : IntKind} {l c : Nat} {e : TypeId} {z : V} (he : sliceElem P t = some e) (hz : zero P e = some z) (hl : R g vl (.int kl (.ofNat l))) (hc : R g vc (.int kc (.ofNat c)))
    (hle : l ≤ c) (hb : c * (P.bytesOf e + 1) ≤ 16777216) (h0 : size P e ≠ 0) (h1 : z.cells.length = size P e) (hf : z.flat = true) :
    ValOk B w0 g ((Instr.makeSlice t vl vc).run P w) (.sl h.n 0 0 l none) (newRow h e (size P e) 0 (some c) (List.rep z l)) := by
  have := hl.int_inv; subst this
  have := hc.int_inv; subst this
  obtain ⟨i, zv, hi, hzv, hg⟩ := zero_some hz
  have hR : R g zv z := .gnd (hg g.S)
  have hu := sliceElem_some he
  have hsz : size P e = i.size := by simp [size, Program.cellsOf, hi]
  have hby : P.bytesOf e = i.bytes := by simp [Program.bytesOf, hi]
  rw [hby, Nat.mul_add, Nat.mul_one] at hb
  have hrun := run_make (P := P) w t e i zv hu hi hzv kl kc (l : Int) (c : Int) (by omega) (by omega) (by
    have : ((i.bytes * c : Nat) : Int) ≤ 281474976710656 := by rw [Nat.mul_comm]; omega
    rwa [Int.natCast_mul] at this) (by omega)
  simp only [Int.toNat_natCast] at hrun
  have hzo := zeros_ok (n := c) (hR.cellsOk hf) h1 hf (Nat.pos_of_ne_zero h0)
  refine ⟨_, _, g.new h.n (w.heap.size, c, size P e) (some 0), hrun, Grown.new hW _ _, hW.newRow (by rw [size_madeCells, hsz]) (Nat.pos_of_ne_zero h0) (by rw [List.rep_eq]; simpa using hle) (fun c' e => by cases e; rfl) ?_ ?_, R.newSl hle⟩
  · intro q x hx
    rw [List.rep_eq] at hx
    have := List.eq_of_mem_replicate (List.mem_of_getElem? hx)
    subst this; exact ⟨h1, hf⟩
  · intro q x j y hx hy
    rw [List.rep_eq] at hx
    have hq := lt_of_getElem?_list hx
    rw [List.length_replicate] at hq
    obtain ⟨v, a, b, d⟩ := hzo.rel q x j y (by rw [List.rep_eq, List.getElem?_replicate, if_pos (by omega)]; rw [List.getElem?_replicate, if_pos hq] at hx; exact hx) hy
    refine ⟨v, ?_, b, d⟩
    rw [hsz] at a ⊢
    have : (madeCells zv.cells (c * i.size))[q * i.size + j]? = (madeCells zv.cells (c * i.size)).toList[q * i.size + j]? := by simp
    rw [this]; exact a

end Go.AM
