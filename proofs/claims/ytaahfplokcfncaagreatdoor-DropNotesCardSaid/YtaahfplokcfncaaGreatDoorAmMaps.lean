/-
  Maps; slices that are made.
-/
import Derived.Test.YtaahfplokcfncaaGreatDoorAmBuilt
import Derived.Laws.MakeOwn
namespace Go.AM
open Go.RowKit

variable {P : Program} {B : Nat} {w0 : World} {g : Gh} {h : Heap} {w : World}

theorem mapKV_some {t kt e : TypeId} (h : mapKV P t = some (kt, e)) : P.underlying t = some (.map kt e) := by
  unfold mapKV at h
  split at h
  · cases h; assumption
  · cases h

/-- A type of numbers, texts, bools, and a value of it. -/
theorem fitsT_some {t : TypeId} {x : V} (h : fitsT P t x = true) : (∃ k k' n, P.underlying t = some (.int k) ∧ x = .int k' n) ∨ (∃ s, P.underlying t = some .string ∧ x = .str s) ∨ (∃ b, P.underlying t = some .bool ∧ x = .bool b) := by
  unfold fitsT at h
  split at h
  · rename_i k hu
    cases x with
    | int k' n => exact .inl ⟨_, _, _, hu, rfl⟩
    | _ => cases h
  · rename_i hu
    cases x with
    | str s => exact .inr (.inl ⟨_, hu, rfl⟩)
    | _ => cases h
  · rename_i hu
    cases x with
    | bool b => exact .inr (.inr ⟨_, hu, rfl⟩)
    | _ => cases h
  · cases h

theorem run_checkKeyN {t : TypeId} {v : Value} {x : V} (hf : fitsT P t x = true) (empty : Bool) (n : Nat) : (Instr.checkKey empty (n + 1) t v).run P w = .ok () w := by
  rcases fitsT_some hf with ⟨k, _, _, hu, _⟩ | ⟨_, hu, _⟩ | ⟨_, hu, _⟩ <;> cases v <;> simp [Instr.checkKey, run_underlying hu]
theorem run_checkKey' {t : TypeId} {v : Value} {x : V} (hf : fitsT P t x = true) (empty : Bool) : (Instr.checkKey empty 10000 t v).run P w = .ok () w := run_checkKeyN hf empty 9999

theorem bytes_beq (a b : ByteArray) : (a == b) = strEq a.data.toList b.data.toList := by
  have e : (a == b) = (a.data == b.data) := rfl
  rw [e, strEq_eq, Bool.eq_iff_iff]
  simp only [beq_iff_eq]
  exact ⟨fun h => by rw [h], fun h => Array.ext' h⟩

/-- Two keys, held against one another. -/
theorem sameNow_sound {t : TypeId} {d : TypeDesc} {v u : Value} {x y : V} {b : Bool} (hu : P.underlying t = some d) (hf : fitsT P t x = true) (hx : R g v x) (hy : R g u y) (he : eqS x y = some b) : Instr.sameNow d v u = some b := by
  rcases fitsT_some hf with ⟨k, k', n, hu', rfl⟩ | ⟨s, hu', rfl⟩ | ⟨c, hu', rfl⟩
  · rw [hu] at hu'; cases hu'
    have := hx.int_inv; subst this
    cases y with
    | int k2 m =>
      have := hy.int_inv; subst this
      obtain ⟨hk, he⟩ := bif_some he rfl
      cases he
      have := (kindEq_iff _ _).1 hk; subst this
      simp [Instr.sameNow, ieq_eq]
    | _ => cases he
  · rw [hu] at hu'; cases hu'
    obtain ⟨a, rfl, rfl⟩ := hx.str_inv
    cases y with
    | str l =>
      obtain ⟨c, rfl, rfl⟩ := hy.str_inv
      cases he
      simp only [Instr.sameNow, bytes_beq]
    | _ => cases he
  · rw [hu] at hu'; cases hu'
    have := hx.bool_inv; subst this
    cases y with
    | bool c2 =>
      have := hy.bool_inv; subst this
      cases he
      cases c <;> cases c2 <;> rfl
    | _ => cases he

theorem sameBits_sound {t : TypeId} {v u : Value} {x y : V} (hf : fitsT P t x = true) (hx : R g v x) (hy : R g u y) (he : eqS x y = some true) : Instr.sameBits 10000 u v = true := by
  rcases fitsT_some hf with ⟨k, k', n, hu', rfl⟩ | ⟨s, hu', rfl⟩ | ⟨c, hu', rfl⟩
  · have := hx.int_inv; subst this
    cases y with
    | int k2 m =>
      have := hy.int_inv; subst this
      obtain ⟨hk, he_⟩ := bif_some he rfl
      have := (kindEq_iff _ _).1 hk; subst this
      have := (ieq_iff n m).1 (Option.some.inj he_); subst this
      simp [Instr.sameBits]
    | _ => cases he
  · obtain ⟨a, rfl, rfl⟩ := hx.str_inv
    cases y with
    | str l =>
      obtain ⟨c, rfl, rfl⟩ := hy.str_inv
      have he' : strEq a.data.toList c.data.toList = true := Option.some.inj he
      have := (strEq_iff _ _).1 he'
      simp only [Instr.sameBits, bytes_beq]
      rw [this]; exact (strEq_iff _ _).2 rfl
    | _ => cases he
  · have := hx.bool_inv; subst this
    cases y with
    | bool c2 =>
      have := hy.bool_inv; subst this
      cases c <;> cases c2 <;> first | rfl | cases he
    | _ => cases he

theorem findKey_cons (k : V) (p : V × V) (l : List (V × V)) : findKey k (p :: l) = match eqS k p.1 with
    | some true => some (some p.2)
    | some false => findKey k l
    | none => none := rfl
theorem putKey_cons (k v : V) (p : V × V) (l : List (V × V)) : putKey k v (p :: l) = match eqS k p.1 with
    | some true => some ((k, v) :: l)
    | some false => match putKey k v l with
      | some l' => some (p :: l')
      | none => none
    | none => none := rfl

def EntsOk (g : Gh) (E : List MapEntry) (es : List (V × V)) : Prop := E.length = es.length ∧ ∀ (i : Nat) e p, E[i]? = some e → es[i]? = some p → R g e.key p.1 ∧ R g e.val p.2

theorem EntsOk.tail {e : MapEntry} {p : V × V} {E : List MapEntry} {es : List (V × V)} (h : EntsOk g (e :: E) (p :: es)) : (R g e.key p.1 ∧ R g e.val p.2) ∧ EntsOk g E es :=
  ⟨h.2 0 e p rfl rfl, by simpa using h.1, fun i a b x y => h.2 (i + 1) a b (by simpa using x) (by simpa using y)⟩
theorem EntsOk.cons {e : MapEntry} {p : V × V} {E : List MapEntry} {es : List (V × V)} (h0 : R g e.key p.1 ∧ R g e.val p.2) (h : EntsOk g E es) : EntsOk g (e :: E) (p :: es) :=
  ⟨by simp [h.1], fun i a b x y => by
    cases i with
    | zero => simp at x y; subst x; subst y; exact h0
    | succ i => exact h.2 i a b (by simpa using x) (by simpa using y)⟩

theorem findNow_sound {t : TypeId} {d : TypeDesc} {v : Value} {x : V} (hu : P.underlying t = some d) (hf : fitsT P t x = true) (hx : R g v x) (es : List (V × V)) : ∀ (E : List MapEntry) (i : Nat) (r : Option V), EntsOk g E es → findKey x es = some r →
    match r with
    | none => Instr.findNow d v E i = some none
    | some y => ∃ j u, Instr.findNow d v E i = some (some (j, u)) ∧ R g u y := by
  induction es with
  | nil =>
    intro E i r hE hr
    cases E with
    | nil => cases hr; rfl
    | cons _ _ => have := hE.1; simp at this
  | cons p es ih =>
    intro E i r hE hr
    cases E with
    | nil => have := hE.1; simp at this
    | cons e E =>
      obtain ⟨⟨hk, hv⟩, ht⟩ := hE.tail
      rw [findKey_cons] at hr
      split at hr
      · rename_i he
        cases hr
        exact ⟨i, e.val, by simp [Instr.findNow, sameNow_sound hu hf hx hk he], hv⟩
      · rename_i he
        have := ih E (i + 1) r ht hr
        have e1 : Instr.findNow d v (e :: E) i = Instr.findNow d v E (i + 1) := by simp [Instr.findNow, sameNow_sound hu hf hx hk he]
        rw [e1]; exact this
      · cases hr

theorem run_findKey {t : TypeId} {d : TypeDesc} {v : Value} {E : List MapEntry} {r : Option (Nat × Value)} (hu : P.underlying t = some d) (hn : Instr.findNow d v E 0 = some r) : (Instr.findKey t v E).run P w = .ok r w := by
  simp [Instr.findKey, run_underlying hu, hn]

theorem tup2 {a b : Value} {x y : V} (h1 : R g a x) (h2 : R g b y) : R g (.tuple #[a, b]) (.tup [x, y]) := .tup rfl fun i v x hv hx => by
  match i with
  | 0 => cases hv; cases hx; exact h1
  | 1 => cases hv; cases hx; exact h2
  | n + 2 => simp at hx

/-- The model's look-up behind the search. -/
theorem lookup_fin {t kt e : TypeId} {d : TypeDesc} {ok em : Bool} {vm vk : Value} {k y : V} {E : List MapEntry} {es : List (V × V)} (hf : fitsT P kt k = true) (hd : P.underlying kt = some d) (hk : R g vk k) (hE : EntsOk g E es) (hr : found P ok e (findKey k es) = some y)
    (hrun : (Instr.lookup t vm vk ok).run P w = ((Instr.checkKey em 10000 kt vk).run P w).andThen fun _ w' => ((Instr.findKey kt vk E).run P w').andThen fun r w'' => Sem.run P (match r with
        | some (_, v) => pure (if ok = true then .tuple #[v, .bool true] else v)
        | none => (fun a => if ok = true then Value.tuple #[a, .bool false] else a) <$> zeroValue e) w'') : ∃ v, (Instr.lookup t vm vk ok).run P w = .ok v w ∧ R g v y := by
  rw [hrun, run_checkKey' hf em]
  cases hfk : findKey k es with
  | none => rw [hfk] at hr; cases hr
  | some o =>
    rw [hfk] at hr
    have hfn := findNow_sound hd hf hk es E 0 o hE hfk
    cases o with
    | none =>
      have hfn : Instr.findNow d vk E 0 = some none := hfn
      simp only [Result.andThen_ok, run_findKey hd hfn]
      unfold found at hr
      simp only at hr
      split at hr
      · rename_i z hz
        obtain ⟨i, zv, hi, hzv, hg⟩ := zero_some hz
        cases ok with
        | true => cases hr; exact ⟨.tuple #[zv, .bool false], by simp [run_zero hi hzv], tup2 (.gnd (hg _)) (.gnd (.bool _))⟩
        | false => cases hr; exact ⟨zv, by simp [run_zero hi hzv], .gnd (hg _)⟩
      · cases hr
    | some x =>
      obtain ⟨j, u, hfn, hu⟩ := hfn
      simp only [Result.andThen_ok, run_findKey hd hfn]
      cases ok with
      | true => cases hr; exact ⟨.tuple #[u, .bool true], by simp, tup2 hu (.gnd (.bool _))⟩
      | false => cases hr; exact ⟨u, by simp, hu⟩

theorem zipV_cons (k v : V) (ks vs : List V) : zipV (k :: ks) (v :: vs) = (k, v) :: zipV ks vs := rfl
theorem zipV_len : ∀ {ks vs : List V}, ks.length = vs.length → (zipV ks vs).length = ks.length := by
  intro ks
  induction ks with
  | nil => intro vs _; rfl
  | cons k ks IH =>
    intro vs h
    cases vs with
    | nil => simp at h
    | cons v vs => rw [zipV_cons, List.length_cons, List.length_cons, IH (by simpa using h)]
theorem zipV_get : ∀ {ks vs : List V} {i : Nat} {p : V × V}, (zipV ks vs)[i]? = some p → ks[i]? = some p.1 ∧ vs[i]? = some p.2 := by
  intro ks
  induction ks with
  | nil => intro vs i p h; change ([] : List (V × V))[i]? = some p at h; simp at h
  | cons k ks IH =>
    intro vs i p h
    cases vs with
    | nil => change ([] : List (V × V))[i]? = some p at h; simp at h
    | cons v vs =>
      rw [zipV_cons] at h
      cases i with
      | zero => simp at h; subst h; exact ⟨rfl, rfl⟩
      | succ i => exact IH (by simpa using h)

theorem lookup_sound (hW : W B w0 g h w) {t : TypeId} {ok : Bool} {vm vk : Value} {m k y : V} (hm : R g vm m) (hk : R g vk k) (hl : lookup P h t ok m k = some y) : ∃ v, (Instr.lookup t vm vk ok).run P w = .ok v w ∧ R g v y := by
  unfold lookup at hl
  split at hl
  · cases hl
  · rename_i kt e hkv
    have hu := mapKV_some hkv
    obtain ⟨hf, hl1⟩ := bif_some hl rfl
    clear hl
    obtain ⟨d, hd⟩ : ∃ d, P.underlying kt = some d := by
      rcases fitsT_some hf with ⟨_, _, _, hu', _⟩ | ⟨_, hu', _⟩ | ⟨_, hu', _⟩ <;> exact ⟨_, hu'⟩
    split at hl1
    · have := hm.nilm_inv; subst this
      refine lookup_fin (em := true) (E := []) (es := []) hf hd hk ⟨rfl, fun i e p a => by simp at a⟩ hl1 ?_
      simp [Instr.lookup, run_underlying hu]
      rfl
    · rename_i r
      split at hl1
      · rename_i es hr
        obtain ⟨b, kk, rfl, hv, hmu⟩ := hm.map_inv
        have hobj := hW.obj r _ hmu
        rw [hr] at hobj
        obtain ⟨_, E, clock, h1, h2, h3⟩ := hobj
        have h1 : w.heap[b]? = some (.map E clock) := h1
        have hE : EntsOk g E.toList es := ⟨by simpa using h2, fun i e p a b => h3 i e p (by simpa using a) b⟩
        refine lookup_fin (em := E.isEmpty) hf hd hk hE hl1 ?_
        simp [Instr.lookup, run_underlying hu, getObj, Sem.run, h1]
        rfl
      · cases hl1
    · rename_i ks vs
      have h' := hm.gmap_inv
      cases h' with
      | gmap hS hkn hvn h1 h2 =>
        obtain ⟨E', c, h3, h4, h5⟩ := gmap_heap (w := w) (fun o v e => hW.shut _ _ _ (hS o v e))
        have hE : EntsOk g E'.toList (zipV ks vs) := ⟨by rw [zipV_len (by omega)]; simp [h4, hkn], fun i e' p a b => by
          obtain ⟨e, q1, q2, q3⟩ := h5 i e' (by simpa using a)
          obtain ⟨p1, p2⟩ := zipV_get b
          rw [← q2, ← q3]
          exact ⟨.gnd (h1 i e _ q1 p1), .gnd (h2 i e _ q1 p2)⟩⟩
        refine lookup_fin (em := E'.isEmpty) hf hd hk hE hl1 ?_
        simp [Instr.lookup, run_underlying hu, getObj, Sem.run, h3]
        rfl
    · cases hl1

theorem run_getObj_at {b : Nat} {E : Array MapEntry} {c : Nat} (h1 : w.heap[b]? = some (.map E c)) : (Sem.getObj b Sem.pure).run P w = .ok (.map E c) w := by simp [Sem.run, h1]

theorem EntsOk.modify {E : List MapEntry} {es : List (V × V)} (h : EntsOk g E es) {i : Nat} {k v : Value} {x y : V} (hk : R g k x) (hv : R g v y) : EntsOk g (E.modify i fun e => { e with key := k, val := v }) (es.set i (x, y)) := by
  refine ⟨by simp [h.1], fun j e p hj hp => ?_⟩
  rw [List.getElem?_modify] at hj
  rw [List.getElem?_set] at hp
  cases he : E[j]? with
  | none => rw [he] at hj; simp at hj
  | some e0 =>
    rw [he] at hj
    simp only [Option.map_eq_map, Option.map_some, Option.some.injEq] at hj
    split at hp
    · rename_i hij
      subst hij
      rw [if_pos rfl] at hj
      split at hp
      · cases hp; subst hj; exact ⟨hk, hv⟩
      · cases hp
    · rename_i hij
      rw [if_neg hij] at hj
      subst hj
      exact h.2 j _ p he hp

theorem putKey_sound {t : TypeId} {d : TypeDesc} {v : Value} {x y : V} (hu : P.underlying t = some d) (hf : fitsT P t x = true) (hx : R g v x) (es : List (V × V)) : ∀ (E : List MapEntry) (i : Nat) (es' : List (V × V)), EntsOk g E es → putKey x y es = some es' →
    (Instr.findNow d v E i = some none ∧ es' = es ++ [(x, y)]) ∨ (∃ j u e, Instr.findNow d v E i = some (some (i + j, u)) ∧ E[j]? = some e ∧ Instr.sameBits 10000 e.key v = true ∧ es' = es.set j (x, y)) := by
  induction es with
  | nil =>
    intro E i es' hE hr
    cases E with
    | nil => cases hr; exact .inl ⟨rfl, rfl⟩
    | cons _ _ => have := hE.1; simp at this
  | cons p es ih =>
    intro E i es' hE hr
    cases E with
    | nil => have := hE.1; simp at this
    | cons e E =>
      obtain ⟨⟨hk, hv⟩, ht⟩ := hE.tail
      rw [putKey_cons] at hr
      split at hr
      · rename_i he
        cases hr
        exact .inr ⟨0, e.val, e, by simp [Instr.findNow, sameNow_sound hu hf hx hk he], rfl, sameBits_sound hf hx hk he, rfl⟩
      · rename_i he
        have e1 : Instr.findNow d v (e :: E) i = Instr.findNow d v E (i + 1) := by simp [Instr.findNow, sameNow_sound hu hf hx hk he]
        rw [e1]
        split at hr
        · rename_i l' hl
          cases hr
          rcases ih E (i + 1) l' ht hl with ⟨a, rfl⟩ | ⟨j, u, e', a, b, c, rfl⟩
          · exact .inl ⟨a, rfl⟩
          · refine .inr ⟨j + 1, u, e', ?_, by simpa using b, c, rfl⟩
            rw [a]
            have : i + 1 + j = i + (j + 1) := by omega
            rw [this]
        · cases hr
      · cases hr

theorem mapPut_sound (hW : W B w0 g h w) {t : TypeId} {vm vk vx : Value} {m k x : V} {h' : Heap} (hm : R g vm m) (hk : R g vk k) (hx : R g vx x) (hl : mapPut P h t m k x = .skip h') : ∃ w', (Instr.mapUpdate t vm vk vx).run P w = .ok () w' ∧ W B w0 g h' w' := by
  unfold mapPut at hl
  split at hl
  · cases hl
  · rename_i kt e hkv
    have hu := mapKV_some hkv
    split at hl
    · rename_i r
      split at hl
      · rename_i es hr
        cases hb : fitsT P kt k && x.flat with
        | false => rw [hb] at hl; cases hl
        | true =>
          rw [hb] at hl
          simp only [cond_true] at hl
          rw [Bool.and_eq_true] at hb
          obtain ⟨hf, hfl⟩ := hb
          split at hl
          · rename_i es' hes
            cases hl
            obtain ⟨b, kk, rfl, hv, hmu⟩ := hm.map_inv
            have hobj := hW.obj r _ hmu
            rw [hr] at hobj
            obtain ⟨hno, E, clock, h1, h2, h3⟩ := hobj
            have h1 : w.heap[b]? = some (.map E clock) := h1
            have hE : EntsOk g E.toList es := ⟨by simpa using h2, fun i e p a b => h3 i e p (by simpa using a) b⟩
            obtain ⟨d, hd⟩ : ∃ d, P.underlying kt = some d := by
              rcases fitsT_some hf with ⟨_, _, _, hu', _⟩ | ⟨_, hu', _⟩ | ⟨_, hu', _⟩ <;> exact ⟨_, hu'⟩
            have hset : ∀ o, (setObj b o).run P w = .ok () (blk w b o) := fun o => by simp [setObj, Sem.run, h1]; rfl
            have hobjs : ∀ (E' : Array MapEntry) (c' : Nat) (es2 : List (V × V)), EntsOk g E'.toList es2 → W B w0 g (h.set r (.map es2)) (blk w b (.map E' c')) := fun E' c' es2 hE' =>
              hW.setObj (x := (b, kk)) hmu hv rfl ⟨hno, E', c', blk_at w b _ (block_lt h1), by simpa using hE'.1, fun i e p a b => hE'.2 i e p (by simpa using a) b⟩ hno
            rcases putKey_sound hd hf hk es E.toList 0 es' hE hes with ⟨a, rfl⟩ | ⟨j, u, e', a, hj, hsb, rfl⟩
            · refine ⟨blk w b (.map (E.push { key := vk, val := vx, born := clock }) (clock + 1)), ?_, hobjs _ _ _ ?_⟩
              · simp [Instr.mapUpdate, run_underlying hu, getObj, run_getObj_at h1, run_checkKey' hf, run_findKey hd a, hset]
              · rw [Array.toList_push]
                refine ⟨by simp [h2], fun i e p hi hp => ?_⟩
                rw [List.getElem?_append] at hi hp
                have hl2 := hE.1
                split at hi
                · rename_i hlt
                  rw [if_pos (by omega)] at hp
                  exact hE.2 i e p hi hp
                · rename_i hlt
                  rw [if_neg (by omega)] at hp
                  rw [hl2] at hi
                  cases hq : i - es.length with
                  | zero => rw [hq] at hi hp; simp at hi hp; subst hi; subst hp; exact ⟨hk, hx⟩
                  | succ q => rw [hq] at hi; simp at hi
            · rw [Nat.zero_add] at a
              refine ⟨blk w b (.map (E.modify j fun e => { e with key := vk, val := vx }) clock), ?_, hobjs _ _ _ ?_⟩
              · have hj' : E[j]? = some e' := by simpa using hj
                simp [Instr.mapUpdate, run_underlying hu, getObj, run_getObj_at h1, run_checkKey' hf, run_findKey hd a, hset, hj', Instr.keyThatStays, hsb]
              · rw [Array.toList_modify]
                exact hE.modify hk hx
          · cases hl
      · cases hl
    · cases hl

theorem makeSlice_sound (hW : W B w0 g h w) {t : TypeId} {vl vc : Value} {kl kc : IntKind} {l c : Nat} {e : TypeId} {z : V} (he : sliceElem P t = some e) (hz : zero P e = some z) (hl : R g vl (.int kl (.ofNat l))) (hc : R g vc (.int kc (.ofNat c)))
    (hle : l ≤ c) (hb : c * (P.bytesOf e + 1) ≤ 16777216) (h0 : size P e ≠ 0) (h1 : z.cells.length = size P e) (hf : z.flat = true) :
    ValOk B w0 g ((Instr.makeSlice t vl vc).run P w) (.sl h.n 0 0 l none) (newRow h e (size P e) 0 (some c) (List.rep z l)) := by
  have := hl.int_inv; subst this
  have := hc.int_inv; subst this
  obtain ⟨i, zv, hi, hzv, hg⟩ := zero_some hz
  have hR : R g zv z := .gnd (hg g.S)
  have hu := sliceElem_some he
  have hsz : size P e = i.size := by simp [size, Program.cellsOf, hi]
  have hby : P.bytesOf e = i.bytes := by simp [Program.bytesOf, hi]
  rw [hby, Nat.mul_add, Nat.mul_one] at hb
  have hrun := run_make (P := P) w t e i zv hu hi hzv kl kc (l : Int) (c : Int) (by omega) (by omega) (by
    have : ((i.bytes * c : Nat) : Int) ≤ 281474976710656 := by rw [Nat.mul_comm]; omega
    rwa [Int.natCast_mul] at this) (by omega)
  simp only [Int.toNat_natCast] at hrun
  have hzo := zeros_ok (n := c) (hR.cellsOk hf) h1 hf (Nat.pos_of_ne_zero h0)
  refine ⟨_, _, g.new h.n (w.heap.size, c, size P e) (some 0), hrun, Grown.new hW _ _, hW.newRow (by rw [size_madeCells, hsz]) (Nat.pos_of_ne_zero h0) (by rw [List.rep_eq]; simpa using hle) (fun c' e => by cases e; rfl) ?_ ?_, R.newSl hle⟩
  · intro q x hx
    rw [List.rep_eq] at hx
    have := List.eq_of_mem_replicate (List.mem_of_getElem? hx)
    subst this; exact ⟨h1, hf⟩
  · intro q x j y hx hy
    rw [List.rep_eq] at hx
    have hq := lt_of_getElem?_list hx
    rw [List.length_replicate] at hq
    obtain ⟨v, a, b, d⟩ := hzo.rel q x j y (by rw [List.rep_eq, List.getElem?_replicate, if_pos (by omega)]; rw [List.getElem?_replicate, if_pos hq] at hx; exact hx) hy
    refine ⟨v, ?_, b, d⟩
    rw [hsz] at a ⊢
    have : (madeCells zv.cells (c * i.size))[q * i.size + j]? = (madeCells zv.cells (c * i.size)).toList[q * i.size + j]? := by simp
    rw [this]; exact a

end Go.AM
