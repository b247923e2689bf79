/-
  AN OPERATION OF THE ABSTRACT MACHINE IS THE MODEL's.
-/
import Derived.Test.YtaahfplokcfncaaGreatDoorAmMaps
import Derived.Laws.Build
import Derived.RangeFuncRecord
namespace Go.AM
open Go.RowKit

/-- What the model's operation comes to, by the machine's word. -/
def Good (P : Program) (B : Nat) (w0 : World) (g : Gh) (r : Result Next) : Rs → Prop
  | .val y h => ∃ v w g', r = .ok (.value v) w ∧ Grown B g g' ∧ W B w0 g' h w ∧ R g' v y
  | .skip h => ∃ w g', r = .ok .skip w ∧ Grown B g g' ∧ W B w0 g' h w
  | .call f args h => ∃ us w g', r = (callFunc f us).run P w ∧ Grown B g g' ∧ W B w0 g' h w ∧ Rs' g' us args
  | .yield l args h => ∃ us b k w g', r = (Instr.yield b us).run P w ∧ Grown B g g' ∧ W B w0 g' h w ∧ g'.vr l = none ∧ g'.mu l = some (b, k) ∧ Rs' g' us args
  | .panic y h => ∃ v w g', r = .halt (.panic v) w ∧ Grown B g g' ∧ W B w0 g' h w ∧ R g' v y
  | .defer f args h => ∃ us cap w g', r = .ok (.defer { target := .fn (.func f) cap, args := us }) w ∧ Grown B g g' ∧ W B w0 g' h w ∧ Rs' g' (us ++ cap) args
  | .recover h => ∃ w g', r = .ok .recover w ∧ Grown B g g' ∧ W B w0 g' h w
  | .stuck => True

section
variable {P : Program} {B : Nat} {w0 : World} {g : Gh} {h : Heap} {w : World} {G : Nat → Option V} {n : Nat} {tm : T V} {a : Act}

def vNext (s : Sem Value) : Sem Next := do pure (.value (← s))

theorem good_v {s : Sem Value} {y : V} {h' : Heap} (hv : ValOk B w0 g (s.run P w) y h') : Good P B w0 g ((vNext s).run P w) (.val y h') := by
  obtain ⟨v, w', g', e, h1, h2, h3⟩ := hv
  exact ⟨v, w', g', by simp [vNext, e], h1, h2, h3⟩

theorem good_rs {s : Sem Value} {r : Rs} (hr : ∀ y h', r = .val y h' → ValOk B w0 g (s.run P w) y h') (ho : r = .stuck ∨ ∃ y h', r = .val y h') : Good P B w0 g ((vNext s).run P w) r := by
  rcases ho with rfl | ⟨y, h', rfl⟩
  · trivial
  · exact good_v (hr y h' rfl)

theorem good_valR {s : Sem Value} {r : Rs} (hv : ValR B w0 g (s.run P w) r) : Good P B w0 g ((vNext s).run P w) r := by
  cases r with
  | val y h' => exact good_v hv
  | stuck => trivial
  | _ => exact hv.elim

theorem good_opt (hW : W B w0 g h w) {s : Sem Value} {o : Option V} (hs : ∀ y, o = some y → ∃ v, s.run P w = .ok v w ∧ R g v y) : Good P B w0 g ((vNext s).run P w) (ofOpt h o) := by
  cases o with
  | none => trivial
  | some y =>
    obtain ⟨v, h1, h2⟩ := hs y rfl
    exact good_v ⟨v, w, g, h1, Grown.refl _ _, hW, h2⟩

theorem good_o1 (hW : W B w0 g h w) (hs : Slots g n tm a.tmps) (hG : GlobOk G g.S) {s : Value → Sem Value} {x : Operand} {f : V → Option V} (hf : ∀ v x y, R g v x → f x = some y → ∃ u, (s v).run P w = .ok u w ∧ R g u y) : Good P B w0 g ((vNext (s (a.eval x))).run P w) (o1 G tm h x f) := by
  unfold o1
  cases he : ev G tm x with
  | none => trivial
  | some v =>
    exact good_opt hW fun y hy => hf _ _ _ (ev_sound hs hG he) hy

theorem good_o2 (hW : W B w0 g h w) (hs : Slots g n tm a.tmps) (hG : GlobOk G g.S) {s : Value → Value → Sem Value} {x y : Operand} {f : V → V → Option V} (hf : ∀ v x u y z, R g v x → R g u y → f x y = some z → ∃ t, (s v u).run P w = .ok t w ∧ R g t z) :
    Good P B w0 g ((vNext (s (a.eval x) (a.eval y))).run P w) (o2 G tm h x y f) := by
  unfold o2
  cases he : ev G tm x with
  | none => trivial
  | some v =>
    cases he' : ev G tm y with
    | none => simp only [he']; trivial
    | some u =>
      simp only [he']
      exact good_opt hW fun z hz => hf _ _ _ _ _ (ev_sound hs hG he) (ev_sound hs hG he') hz

theorem evP_sound (hs : Slots g n tm a.tmps) (hG : GlobOk G g.S) {ps : Array (Nat × Operand)} {l : List (Nat × V)} (he : evP G tm ps.toList = some l) : PartsOk g (ps.map fun (i, x) => (i, a.eval x)).toList l := by
  obtain ⟨h1, h2⟩ := mapO_get he
  refine ⟨by simp [h1], fun i u p hu hp => ?_⟩
  simp only [Array.toList_map, List.getElem?_map] at hu
  cases hi : ps.toList[i]? with
  | none => rw [hi] at hu; cases hu
  | some o =>
    rw [hi] at hu; cases hu
    obtain ⟨y, hy, hf⟩ := h2 i o hi
    rw [hp] at hy; cases hy
    split at hf
    · rename_i y' hy'
      cases hf
      exact ⟨rfl, ev_sound hs hG hy'⟩
    · cases hf

theorem evO_sound (hs : Slots g n tm a.tmps) (hG : GlobOk G g.S) {x : Option Operand} {y : Option V} (he : evO G tm x = some y) : OR g (x.map a.eval) y := by
  cases x with
  | none => cases he; exact .none
  | some x =>
    unfold evO at he
    simp only at he
    split at he
    · rename_i v hv; cases he; exact .some (ev_sound hs hG hv)
    · cases he

theorem notNil_sound {P : Program} {w : World} {g : Gh} {v : Value} {x y : V} (hR : R g v x) (hn : notNil x = some y) : (match v with
    | .pointer none | .nilIface | .nilFunc => (runtimePanic .nilDeref : Sem Next)
    | .func (.method name) first captured =>
      match (first[0]? : Option Value) with
      | some .nilIface => runtimePanic .nilDeref
      | some (.iface t w) => do
        if (← nilAhead ((← program).types.size + Made.depth) t w name) != some false then
          unsupported (.noEntry "op/nilCheck.the method's receiver behind this interface value is a nil pointer, or cannot be seen to be none, and the arguments act or may panic (ledger 612)")
        pure (.value (.func (.method name) first captured))
      | _ => pure (.value (.func (.method name) first captured))
    | x => pure (.value x)).run P w = .ok (.value v) w ∧ R g v y := by
  unfold notNil at hn
  split at hn
  · cases hn
    obtain ⟨ad, _, rfl, _⟩ := hR.ptr_inv
    exact ⟨rfl, hR⟩
  · cases hn
    have hg := hR.gptr_inv
    cases hg
    exact ⟨rfl, hR⟩
  · rename_i f p q
    split at hn
    · cases hn
    · rename_i hm
      cases hn
      cases f with
      | yield l => obtain ⟨b, k, rfl, _⟩ := hR.yield_inv; exact ⟨rfl, hR⟩
      | func f => obtain ⟨c, d, rfl, _⟩ := hR.func_inv (fun l => by simp); exact ⟨rfl, hR⟩
      | method f => exact absurd rfl (hm f)
      | methodOf t f => obtain ⟨c, d, rfl, _⟩ := hR.func_inv (fun l => by simp); exact ⟨rfl, hR⟩
      | via t p f q => obtain ⟨c, d, rfl, _⟩ := hR.func_inv (fun l => by simp); exact ⟨rfl, hR⟩
  · cases hn

theorem notIfaceT_some {P : Program} {t : TypeId} (h : notIfaceT P t = true) : P.concrete t = true := by
  unfold notIfaceT at h
  unfold Program.concrete
  split at h
  · cases h
  · rename_i d hd hu
    rw [hu]
    cases d <;> first | rfl | exact absurd rfl (hd _)
  · cases h

theorem typeAssert_sound {P : Program} {w : World} {g : Gh} {v : Value} {x y : V} {xt t : TypeId} {ok : Bool} (hR : R g v x) (ht : AM.typeAssert P x t ok = some y) : ∃ u, (Instr.typeAssert v xt t ok).run P w = .ok u w ∧ R g u y := by
  have tup2 : ∀ {a b : Value} {x y : V}, R g a x → R g b y → R g (.tuple #[a, b]) (.tup [x, y]) := fun h1 h2 => .tup rfl fun i v x hv hx => by
    match i with
    | 0 => cases hv; cases hx; exact h1
    | 1 => cases hv; cases hx; exact h2
    | n + 2 => simp at hx
  unfold AM.typeAssert at ht
  split at ht
  · cases ht
  · cases ht
  · rename_i d hne hu
    have hni : ∀ ms, d ≠ .interface ms := fun ms e => hne ms (by rw [e])
    split at ht
    · have := hR.nili_inv; subst this
      obtain ⟨hb, ht⟩ := bif_some ht rfl
      subst hb
      split at ht
      · rename_i z hz
        cases ht
        obtain ⟨i, zv, hi, hzv, hg⟩ := zero_some hz
        refine ⟨.tuple #[zv, .bool false], ?_, tup2 (.gnd (hg _)) (.gnd (.bool _))⟩
        cases d <;> first | exact absurd rfl (hni _) | simp [Instr.typeAssert, run_underlying hu, run_zero hi hzv]
      · cases ht
    · rename_i t' x'
      obtain ⟨v', rfl, hv'⟩ := hR.iface_inv
      cases hq : Nat.beq t' t with
      | true =>
        rw [hq] at ht
        rw [Nat.beq_eq] at hq; subst hq
        cases ok with
        | true =>
          cases ht
          refine ⟨.tuple #[v', .bool true], ?_, tup2 hv' (.gnd (.bool _))⟩
          cases d <;> first | exact absurd rfl (hni _) | simp [Instr.typeAssert, run_underlying hu]
        | false =>
          cases ht
          refine ⟨v', ?_, hv'⟩
          cases d <;> first | exact absurd rfl (hni _) | simp [Instr.typeAssert, run_underlying hu]
      | false =>
        rw [hq] at ht
        have hne' : t' ≠ t := fun e => by subst e; simp at hq
        simp only [cond_false] at ht
        obtain ⟨hb, ht⟩ := bif_some ht rfl
        subst hb
        split at ht
        · rename_i z hz
          cases ht
          obtain ⟨i, zv, hi, hzv, hg⟩ := zero_some hz
          refine ⟨.tuple #[zv, .bool false], ?_, tup2 (.gnd (hg _)) (.gnd (.bool _))⟩
          cases d <;> first | exact absurd rfl (hni _) | simp [Instr.typeAssert, run_underlying hu, run_zero hi hzv, hne']
        · cases ht
    · cases ht
theorem appL (x y : List V) : List.app x y = x ++ y := List.app_eq x y

theorem Rs'.append {g : Gh} {a b : Array Value} {x y : List V} (h : Rs' g a x) (k : Rs' g b y) : Rs' g (a ++ b) (x ++ y) := by
  refine ⟨by simp [h.1, k.1], fun i v z hv hz => ?_⟩
  rw [Array.getElem?_append] at hv
  rw [List.getElem?_append] at hz
  rw [h.1] at hv
  split at hv
  · rename_i hi; rw [if_pos hi] at hz; exact h.2 i v z hv hz
  · rename_i hi; rw [if_neg hi] at hz; exact k.2 _ v z hv hz

theorem Rs'.nil {g : Gh} : Rs' g #[] [] := ⟨rfl, fun i v x h => by simp at h⟩

theorem isPtr_some {P : Program} {t : TypeId} (h : isPtr P t = true) : ∃ e, P.underlying t = some (.pointer e) := by
  unfold isPtr at h
  split at h
  · exact ⟨_, by assumption⟩
  · cases h

/-- A function's value that is called. -/
theorem callV_good (hW : W B w0 g h w) {vf : Value} {f : V} {us : Array Value} {args : List V} (hR : R g vf f) (hs : Rs' g us args) :
    Good P B w0 g ((do let d ← Deferred.ofValue vf us; invoke d.target d.args : Sem Next).run P w) (callV P h f args) := by
  unfold callV
  split
  · rename_i fn first cap
    split
    · rename_i q
      obtain ⟨c, d, rfl, h1, h2, h3, h4⟩ := hR.func_inv (fun l => by simp)
      refine ⟨c ++ us ++ d, w, g, ?_, Grown.refl _ _, hW, ?_⟩
      · simp [Deferred.ofValue, invoke]
      · rw [appL, appL]
        exact (Rs'.append ⟨h1, h3⟩ hs).append ⟨h2, h4⟩
    · rename_i t path q byPtr
      cases hb : (path.isEmpty && byPtr && isPtr P t) with
      | false => trivial
      | true =>
        simp only [Bool.and_eq_true] at hb
        obtain ⟨⟨hb1, rfl⟩, hb3⟩ := hb
        simp only [cond_true]
        split
        · rename_i r ver off
          obtain ⟨c, d, rfl, h1, h2, h3, h4⟩ := hR.func_inv (fun l => by simp)
          obtain ⟨e, hu⟩ := isPtr_some hb3
          have hp : path.toList = [] := by simpa using hb1
          refine ⟨c ++ us, w, g, ?_, Grown.refl _ _, hW, ?_⟩
          · obtain ⟨x, hx⟩ := getElem?_of_lt_array c 0 (by rw [h1]; simp)
            have hc : c = #[x] := by
              have hcs : c.size = 1 := by rw [h1]; rfl
              apply Array.ext (by simp [hcs])
              intro i hi _
              have : i = 0 := by omega
              subst this
              rw [Array.getElem?_eq_getElem (by omega)] at hx
              simpa using hx
            subst hc
            have h0 : (#[x] ++ us)[0]? = some x := by rw [Array.getElem?_append]; simp
            simp [Deferred.ofValue, invoke, receiverVia, hp, follow, receiverAt, run_underlying hu, Place.get, h0]
          · rw [appL]; exact Rs'.append ⟨h1, h3⟩ hs
        · trivial
    · rename_i l
      obtain ⟨b, k, rfl, rfl, rfl, hv, hm⟩ := hR.yield_inv
      refine ⟨us, b, k, w, g, ?_, Grown.refl _ _, hW, hv, hm, ?_⟩
      · simp [Deferred.ofValue, invoke]
      · rw [appL]; exact hs
    · trivial
  · trivial

theorem append_rs (P : Program) (h : Heap) (t : TypeId) (s x : V) : append P t h s x = .stuck ∨ ∃ y h', append P t h s x = .val y h' := by
  have fr : ∀ (e sz n : Nat) (es : List V), freshSl P h e sz n es = .stuck ∨ ∃ y h', freshSl P h e sz n es = .val y h' := by
    intro e sz n es; unfold freshSl
    cases (zeroOk P e && Nat.ble n room && Nat.ble (Nat.mul n (P.bytesOf e)) room) with
    | true => exact .inr ⟨_, _, rfl⟩
    | false => exact .inl rfl
  have bf : ∀ (b : Bool) (r : Rs), (r = .stuck ∨ ∃ y h', r = .val y h') → (bif b then r else .stuck) = .stuck ∨ ∃ y h', (bif b then r else .stuck) = .val y h' := fun b r hr => by
    cases b with
    | true => exact hr
    | false => exact .inl rfl
  unfold append
  split
  · exact .inl rfl
  · split
    · exact .inl rfl
    · rename_i e _ _ new _
      cases Nat.beq (size P e) 0 with
      | true => exact .inl rfl
      | false =>
        simp only [cond_false]
        cases isNil new with
        | true =>
          simp only [cond_true]
          split
          · exact .inr ⟨_, _, rfl⟩
          · exact .inr ⟨_, _, rfl⟩
          · exact .inr ⟨_, _, rfl⟩
          · exact .inl rfl
        | false =>
          simp only [cond_false]
          split
          · exact fr _ _ _ _
          · split
            · exact bf _ _ (fr _ _ _ _)
            · exact .inl rfl
          · unfold appendSl
            split
            · apply bf
              split
              · rename_i c' _
                cases Nat.ble (Nat.add _ (List.len new)) c' with
                | true => exact bf _ _ (.inr ⟨_, _, rfl⟩)
                | false => exact fr _ _ _ _
              · exact bf _ _ (.inr ⟨_, _, rfl⟩)
            · exact .inl rfl
          · exact .inl rfl

theorem builtin_good (hW : W B w0 g h w) {b : Builtin} {ts : Array TypeId} {ty : TypeId} {cs : Array Bool} {us : Array Value} {args : List V} (hb : b ≠ .recover) (hs : Rs' g us args) : Good P B w0 g ((Go.builtin b ts ty cs us).run P w) (AM.builtin P b ts.toList h args) := by
  unfold AM.builtin
  split
  · trivial
  · rename_i t ts' hts
    split
    · trivial
    · rename_i x rest
      obtain ⟨us', hus⟩ : ∃ us' : List Value, us = us'.toArray := ⟨us.toList, rfl⟩
      subst hus
      have hts2 : ts = (t :: ts').toArray := by apply Array.ext'; simpa using hts
      subst hts2
      cases us' with
      | nil => have := hs.1; simp at this
      | cons v vs =>
        have hx : R g v x := hs.2 0 v x rfl rfl
        have hlen : vs.length = rest.length := by have := hs.1; simpa using this
        have hrest : ∀ (i : Nat) u y, vs[i]? = some u → rest[i]? = some y → R g u y := fun i u y a b => hs.2 (i + 1) u y (by simpa using a) (by simpa using b)
        have two : ∀ y, rest = [y] → ∃ u, vs = [u] ∧ R g u y := fun y e => by
          subst e
          cases vs with
          | nil => simp at hlen
          | cons u us =>
            cases us with
            | nil => exact ⟨u, rfl, hrest 0 u y rfl rfl⟩
            | cons _ _ => simp at hlen
        have one : rest = [] → vs = [] := fun e => by
          subst e
          cases vs with
          | nil => rfl
          | cons _ _ => simp at hlen
        split
        · split
          · rw [one rfl]
            split
            · rename_i n hn
              exact good_v ⟨_, w, g, lenOf_sound hW hx hn, Grown.refl _ _, hW, .gnd (.int _ _)⟩
            · trivial
          · trivial
        · split
          · rename_i y
            obtain ⟨u, rfl, hu⟩ := two y rfl
            split
            · rename_i ut
              cases hq : notIntT P ut with
              | false => trivial
              | true => exact good_rs (s := Builtin.append_ #[t, ut] ty #[v, u]) (fun y' h' e => append_sound hW hx hu hq e) (append_rs P h t x y)
            · trivial
          · trivial
        · split
          · rw [one rfl]
            exact good_valR (s := Builtin.cap_ _ ty _) (bCap_sound hW hx)
          · trivial
        · split
          · rename_i y
            obtain ⟨u, rfl, hu⟩ := two y rfl
            exact good_valR (s := Builtin.copy_ _ ty _) (copy_sound hW hx hu)
          · trivial
        · refine good_opt hW fun y hy => ?_
          obtain ⟨u, h1, h2⟩ := foldO_sound (P := P) (w := w) Builtin.max2 max2 (fun a b c => max2_sound a b c) rest vs x v y hlen hrest hx hy
          exact ⟨u, by simpa [Builtin.max_] using h1, h2⟩
        · refine good_opt hW fun y hy => ?_
          obtain ⟨u, h1, h2⟩ := foldO_sound (P := P) (w := w) Builtin.min2 min2 (fun a b c => min2_sound a b c) rest vs x v y hlen hrest hx hy
          exact ⟨u, by simpa [Builtin.min_] using h1, h2⟩
        · split
          · rw [one rfl]
            exact good_valR (s := Builtin.clear_ _ ty _) (bClear_sound hW hx)
          · trivial
        · split
          · rw [one rfl]
            exact good_valR (s := Builtin.unsafeSliceData_ _ ty _) (bData_sound hW hx)
          · trivial
        · split
          · rename_i y
            obtain ⟨u, rfl, hu⟩ := two y rfl
            split
            · exact good_valR (s := Builtin.unsafeString_ _ ty _) (bStringOf_sound hW hx hu)
            · trivial
          · trivial
        · trivial

theorem R.bool' {g : Gh} {v : Value} {b : Bool} (h : R g v (.bool b)) : v = .bool b := h.bool_inv

theorem pick_good (hW : W B w0 g h w) (hs : Slots g n tm a.tmps) (hG : GlobOk G g.S) {c x y : Operand} : Good P B w0 g ((do pure (.value (if ← asBool (a.eval c) then a.eval x else a.eval y)) : Sem Next).run P w) (oPick G tm h c x y) := by
  unfold oPick
  split
  · rename_i t he
    have hb := (ev_sound hs hG he).bool_inv
    rw [hb]
    cases t with
    | true =>
      cases hx : ev G tm x with
      | none => simp only []; trivial
      | some v => simp only []; exact ⟨a.eval x, w, g, by simp [asBool], Grown.refl _ _, hW, ev_sound hs hG hx⟩
    | false =>
      cases hx : ev G tm y with
      | none => simp only []; trivial
      | some v => simp only []; exact ⟨a.eval y, w, g, by simp [asBool], Grown.refl _ _, hW, ev_sound hs hG hx⟩
  · trivial

theorem boxed_rs (h : Heap) (e : TypeId) (z : V) : boxed h e z = .stuck ∨ ∃ y h', boxed h e z = .val y h' := by
  unfold boxed
  cases (z.flat && !(Nat.beq (List.len z.cells) 0)) with
  | true => exact .inr ⟨_, _, rfl⟩
  | false => exact .inl rfl
theorem alloc_rs (P : Program) (h : Heap) (e : TypeId) : oAlloc P h e = .stuck ∨ ∃ y h', oAlloc P h e = .val y h' := by
  unfold oAlloc
  split
  · exact boxed_rs _ _ _
  · exact .inl rfl

theorem resolve_value (ρ : Operand → Value) (f : Operand) (args : Array Operand) (ats : Array TypeId) (ty : TypeId) : resolve ρ { callee := .value f, args := args, argTypes := ats } ty = Deferred.ofValue (ρ f) (args.map ρ) := rfl

theorem args_sound (hs : Slots g n tm a.tmps) (hG : GlobOk G g.S) {xs : Array Operand} {ys : List V} (he : mapO (ev G tm) xs.toList = some ys) : Rs' g (xs.map a.eval) ys := by
  have := evs_sound hs hG he
  have e : (xs.toList.map a.eval).toArray = xs.map a.eval := by apply Array.ext'; simp
  rw [e] at this; exact this

theorem call_good (hW : W B w0 g h w) (hs : Slots g n tm a.tmps) (hG : GlobOk G g.S) {c : Call} {ty : TypeId} : Good P B w0 g ((do let d ← resolve a.eval c ty; invoke d.target d.args : Sem Next).run P w) (oCall P G tm h c) := by
  obtain ⟨callee, args, ats⟩ := c
  unfold oCall
  simp only
  split
  · trivial
  · rename_i ys hys
    have hargs := args_sound hs hG hys
    split
    · rename_i b
      split
      · exact ⟨w, g, by simp [resolve, invoke, Go.builtin], Grown.refl _ _, hW⟩
      · rename_i b' hb
        have := builtin_good (P := P) (ts := ats) (ty := ty) (cs := args.map fun | .const _ => true | _ => false) hW (b := b) (by intro e; subst e; exact hb rfl) hargs
        have e : (do let d ← resolve a.eval { callee := .builtin b, args := args, argTypes := ats } ty; invoke d.target d.args : Sem Next).run P w = (Go.builtin b ats ty (args.map fun | .const _ => true | _ => false) (args.map a.eval)).run P w := by
          simp [resolve, invoke]; rfl
        rw [e]; exact this
    · rename_i f
      split
      · rename_i fv hf
        exact callV_good hW (ev_sound hs hG hf) hargs
      · trivial
    · trivial

theorem buildSlice_good (hW : W B w0 g h w) (hs : Slots g n tm a.tmps) (hG : GlobOk G g.S) {t : TypeId} {len : Nat} {ps : Array (Nat × Operand)} : Good P B w0 g ((vNext (Instr.buildSlice t len (ps.map fun (i, x) => (i, a.eval x)))).run P w) (oBuildSlice P G tm h t len ps) := by
  unfold oBuildSlice
  split
  · trivial
  · rename_i l hl
    split
    · trivial
    · rename_i e he
      split
      · trivial
      · rename_i z hz
        cases hb : (Nat.beq (size P e) 0 || !(Nat.ble (Nat.mul len (size P e)) 65536) || !(Nat.beq (List.len z.cells) (size P e)) || !z.flat) with
        | true => trivial
        | false =>
          simp only [cond_false]
          split
          · rename_i es hes
            simp only [Bool.or_eq_false_iff, Bool.not_eq_false', Nat.ble_eq, Nat.beq_eq, List.len_eq] at hb
            obtain ⟨⟨⟨h1, h2⟩, h3⟩, h4⟩ := hb
            exact good_v (buildSlice_sound hW (evP_sound hs hG hl) he hz (fun q => by rw [q] at h1; cases h1) h2 h3 h4 hes)
          · trivial

theorem build_good (hW : W B w0 g h w) (hs : Slots g n tm a.tmps) (hG : GlobOk G g.S) {t : TypeId} {ps : Array (Nat × Operand)} : Good P B w0 g ((vNext (Instr.build t (ps.map fun (i, x) => (i, a.eval x)))).run P w) (oBuild P G tm h t ps) := by
  unfold oBuild
  split
  · rename_i l hl
    exact good_opt hW fun y hy => build_sound (evP_sound hs hG hl) hy
  · trivial

theorem move_good (hW : W B w0 g h w) (hs : Slots g n tm a.tmps) (hG : GlobOk G g.S) {x : Operand} : Good P B w0 g ((pure (.value (a.eval x)) : Sem Next).run P w) (oMove G tm h x) := by
  unfold oMove
  cases he : ev G tm x with
  | none => trivial
  | some v => exact ⟨_, w, g, rfl, Grown.refl _ _, hW, ev_sound hs hG he⟩

theorem box_good (hW : W B w0 g h w) (hs : Slots g n tm a.tmps) (hG : GlobOk G g.S) {e : TypeId} {x : Operand} : Good P B w0 g ((vNext (Instr.box e (a.eval x))).run P w) (oBox G tm h e x) := by
  unfold oBox
  split
  · rename_i z hz
    exact good_rs (fun y h' e' => boxed_sound hW (ev_sound hs hG hz) e') (boxed_rs h e z)
  · trivial

theorem store_good (hW : W B w0 g h w) (hs : Slots g n tm a.tmps) (hG : GlobOk G g.S) {t : TypeId} {x y : Operand} : Good P B w0 g ((do Instr.storeAt t (a.eval x) (a.eval y); pure .skip : Sem Next).run P w) (oStore P G tm h t x y) := by
  unfold oStore
  split
  · rename_i av hav
    split
    · rename_i xv hxv
      split
      · rename_i h' hst
        obtain ⟨w', h1, h2⟩ := store_sound (P := P) hW (ev_sound hs hG hav) (ev_sound hs hG hxv) hst
        exact ⟨w', g, by simp [h1], Grown.refl _ _, h2⟩
      · trivial
    · trivial
  · trivial

theorem makeFunc_good (hW : W B w0 g h w) (hs : Slots g n tm a.tmps) (hG : GlobOk G g.S) {f : Fn} {x y : Array Operand} : Good P B w0 g ((vNext (Instr.makeFunc f (x.map a.eval) (y.map a.eval))).run P w) (oMakeFunc G tm h f x y) := by
  unfold oMakeFunc
  split
  · trivial
  · rename_i f' hf
    split
    · rename_i p hp
      split
      · rename_i q hq
        have h1 := args_sound hs hG hp
        have h2 := args_sound hs hG hq
        exact good_v ⟨_, w, g, rfl, Grown.refl _ _, hW, .func hf h1.1 h2.1 h1.2 h2.2⟩
      · trivial
    · trivial

theorem makeMap_good (hW : W B w0 g h w) {t : TypeId} {r : Option Operand} : Good P B w0 g ((vNext (Instr.makeMap t (r.map a.eval))).run P w) (oMakeMap h r) := by
  unfold oMakeMap
  split
  · refine good_v ⟨.map (some w.heap.size), { w with heap := w.heap.push (.map #[] 0) }, g.new h.n (w.heap.size, 0, 0) none, ?_, Grown.new hW _ _, ?_, ?_⟩
    · simp [Instr.makeMap]; try rfl
    · exact hW.alloc (.map #[] 0) (.map []) 0 0 ⟨fun o v => hW.noS (Nat.le_refl _), #[], 0, heap_push_new w _, rfl, (fun i e p q => by simp at q), (fun i e q => by simp at q), fun i j e e' q => by simp at q⟩
    · exact .map (k := (0, 0)) (by simp [Gh.new]) (by simp [Gh.new])
  · trivial

theorem slice_type {P : Program} {h : Heap} {t : TypeId} {x y : V} {lo hi mx : Option V} (hs : slice P h t x lo hi mx = some y) : P.underlying t = some .string ∨ ∃ e, P.underlying t = some (.slice e) := by
  by_cases h1 : isStrT P t = true
  · exact .inl (isStrT_some h1)
  · cases h2 : sliceElem P t with
    | some e => exact .inr ⟨e, sliceElem_some h2⟩
    | none =>
      exfalso
      have h1' : isStrT P t = false := by simpa using h1
      unfold slice at hs
      split at hs
      · cases hs
      · split at hs
        · cases hs
        · split at hs
          · split at hs
            · rw [h1'] at hs; cases hs
            · cases hs
          · rw [h2] at hs; split at hs <;> simp_all
          · rw [h2] at hs; split at hs <;> simp_all
          · rw [h2] at hs; split at hs <;> simp_all
          · cases hs

theorem sliceAt_eq {P : Program} {w : World} {t : TypeId} {v : Value} {lo hi mx : Option Value} (h : P.underlying t = some .string ∨ ∃ e, P.underlying t = some (.slice e)) : (Instr.sliceAt t v lo hi mx).run P w = (Instr.slice t v lo hi mx).run P w := by
  rcases h with h | ⟨e, h⟩ <;> simp [Instr.sliceAt, run_underlying h]

theorem slice_good (hW : W B w0 g h w) (hs : Slots g n tm a.tmps) (hG : GlobOk G g.S) {t : TypeId} {x : Operand} {lo hi mx : Option Operand} : Good P B w0 g ((vNext (Instr.sliceAt t (a.eval x) (lo.map a.eval) (hi.map a.eval) (mx.map a.eval))).run P w) (oSlice P G tm h t x lo hi mx) := by
  unfold oSlice
  split
  · trivial
  · rename_i xv hx
    split
    · trivial
    · rename_i lov hlo
      split
      · trivial
      · rename_i hiv hhi
        split
        · trivial
        · rename_i mxv hmx
          exact good_opt hW fun y hy => by
            rw [sliceAt_eq (slice_type hy)]
            exact slice_sound hW (ev_sound hs hG hx) (evO_sound hs hG hlo) (evO_sound hs hG hhi) (evO_sound hs hG hmx) hy

theorem fieldAddr_good (hW : W B w0 g h w) (hs : Slots g n tm a.tmps) (hG : GlobOk G g.S) {t : TypeId} {x : Operand} {f : Nat} : Good P B w0 g ((vNext (Instr.fieldAt t (a.eval x) f)).run P w) (oFieldAddr P G tm h t x f) := by
  unfold oFieldAddr
  split
  · rename_i ft k hf
    cases hz : Nat.beq (size P ft) 0 with
    | true => trivial
    | false => exact good_o1 (s := fun v => Instr.fieldAt t v f) hW hs hG fun v x y hR hy => fieldAddr_sound hW hR hf (fun q => by rw [q] at hz; cases hz) hy
  · trivial

theorem field_good (hW : W B w0 g h w) (hs : Slots g n tm a.tmps) (hG : GlobOk G g.S) {t : TypeId} {x : Operand} {f : Nat} : Good P B w0 g ((vNext (Instr.field t (a.eval x) f)).run P w) (oField P G tm h t x f) := by
  unfold oField
  split
  · rename_i ft k hf
    refine good_o1 (s := fun v => Instr.field t v f) hW hs hG fun v x y hR hy => ?_
    split at hy
    · exact field_sound hR hf hy
    · cases hy
  · trivial

theorem range_good (hW : W B w0 g h w) (hs : Slots g n tm a.tmps) (hG : GlobOk G g.S) {t : TypeId} {x : Operand} : Good P B w0 g ((vNext (Instr.range t (a.eval x))).run P w) (oRange P G tm h t x) := by
  unfold oRange
  split
  · rename_i hu
    split
    · rename_i s hs'
      exact good_v (range_sound hW hu (ev_sound hs hG hs'))
    · trivial
  · rename_i hu
    split
    · rename_i r hx
      split
      · rename_i es hr
        exact good_v (rangeM_sound hW hu (ev_sound hs hG hx) hr)
      · trivial
    · rename_i hx
      exact good_v (rangeN_sound hW hu (ev_sound hs hG hx))
    · trivial
  · trivial

theorem entry_good (hW : W B w0 g h w) (hs : Slots g n tm a.tmps) (hG : GlobOk G g.S) {x : Operand} : Good P B w0 g ((vNext (Instr.entry (a.eval x))).run P w) (oEntry G tm h x) := by
  unfold oEntry
  split
  · rename_i r hr
    split
    · split
      · rename_i left p ho
        exact good_v (entry_sound hW (ev_sound hs hG hr) ho)
      · trivial
    · trivial
  · trivial

theorem next_good (hW : W B w0 g h w) (hs : Slots g n tm a.tmps) (hG : GlobOk G g.S) {x : Operand} {b : Bool} {ty : TypeId} : Good P B w0 g ((vNext (Instr.next (a.eval x) b ty)).run P w) (oNext G tm h x b) := by
  unfold oNext
  cases b with
  | false =>
    simp only [cond_false]
    split
    · rename_i r hr
      split
      · rename_i left cur ho
        obtain ⟨h1, h2⟩ := nextM_sound (P := P) (ty := ty) hW (ev_sound hs hG hr) ho
        cases left with
        | nil => exact good_v (h1 rfl)
        | cons p rest =>
          cases rest with
          | nil =>
            obtain ⟨k, q, hk, hv⟩ := h2 (by simp)
            cases k with
            | zero => cases hk; exact good_v hv
            | succ k => simp at hk
          | cons _ _ => trivial
      · trivial
    · trivial
  | true =>
    simp only [cond_true]
    split
    · rename_i r hr
      split
      · rename_i s pos ho
        obtain ⟨h1, h2⟩ := next_sound (P := P) (ty := ty) hW (ev_sound hs hG hr) ho
        cases hb : Nat.blt pos (List.len s) with
        | true => exact good_v (h1 hb)
        | false => exact good_v (h2 hb)
      · trivial
    · trivial

theorem panic_good (hW : W B w0 g h w) (hs : Slots g n tm a.tmps) (hG : GlobOk G g.S) {x : Operand} : Good P B w0 g ((vNext (Instr.panic (a.eval x))).run P w) (oPanic G tm h x) := by
  unfold oPanic
  split
  · rename_i t y hx
    have hR := ev_sound hs hG hx
    obtain ⟨v, e, hv⟩ := hR.iface_inv
    rw [e] at hR ⊢
    exact ⟨_, w, g, by simp [vNext, Instr.panic, goPanic], Grown.refl _ _, hW, hR⟩
  · trivial

theorem nilCheck_good (hW : W B w0 g h w) (hs : Slots g n tm a.tmps) (hG : GlobOk G g.S) {x : Operand} (r : Result Next) (hr : ∀ v y, R g (a.eval x) v → notNil v = some y → r = .ok (.value (a.eval x)) w ∧ R g (a.eval x) y) : Good P B w0 g r (o1 G tm h x notNil) := by
  unfold o1
  cases he : ev G tm x with
  | none => trivial
  | some v =>
    show Good P B w0 g _ (ofOpt h (notNil v))
    cases hn : notNil v with
    | none => trivial
    | some y =>
      obtain ⟨h1, h2⟩ := hr v y (ev_sound hs hG he) hn
      exact ⟨_, w, g, h1, Grown.refl _ _, hW, h2⟩

theorem mapPut_rs (P : Program) (h : Heap) (t : TypeId) (m k x : V) : mapPut P h t m k x = .stuck ∨ ∃ h', mapPut P h t m k x = .skip h' := by
  unfold mapPut
  split
  · exact .inl rfl
  · split
    · split
      · have bf : ∀ (b : Bool) (r : Rs), (r = .stuck ∨ ∃ h', r = .skip h') → (bif b then r else .stuck) = .stuck ∨ ∃ h', (bif b then r else .stuck) = .skip h' := fun b r hr => by
          cases b with
          | true => exact hr
          | false => exact .inl rfl
        apply bf
        split
        · exact .inr ⟨_, rfl⟩
        · exact .inl rfl
      · exact .inl rfl
    · exact .inl rfl

theorem mapUpdate_good (hW : W B w0 g h w) (hs : Slots g n tm a.tmps) (hG : GlobOk G g.S) {t : TypeId} {x y z : Operand} : Good P B w0 g ((do Instr.mapUpdate t (a.eval x) (a.eval y) (a.eval z); pure .skip : Sem Next).run P w) (oMapUpdate P G tm h t x y z) := by
  unfold oMapUpdate
  split
  · rename_i m hm
    split
    · rename_i k hk
      split
      · rename_i v hv
        rcases mapPut_rs P h t m k v with e | ⟨h', e⟩
        · rw [e]; trivial
        · rw [e]
          obtain ⟨w', h1, h2⟩ := mapPut_sound (P := P) hW (ev_sound hs hG hm) (ev_sound hs hG hk) (ev_sound hs hG hv) e
          exact ⟨w', g, by simp [h1], Grown.refl _ _, h2⟩
      · trivial
    · trivial
  · trivial

theorem makeSlice_good (hW : W B w0 g h w) (hs : Slots g n tm a.tmps) (hG : GlobOk G g.S) {t : TypeId} {x y : Operand} : Good P B w0 g ((vNext (Instr.makeSlice t (a.eval x) (a.eval y))).run P w) (oMakeSlice P G tm h t x y) := by
  unfold oMakeSlice
  split
  · trivial
  · rename_i e he
    split
    · trivial
    · rename_i z hz
      split
      · rename_i kl l hl
        split
        · rename_i kc c hc
          cases hb : (Nat.ble l c && Nat.ble (Nat.mul c (Nat.add (P.bytesOf e) 1)) 16777216 && !(Nat.beq (size P e) 0) && Nat.beq (List.len z.cells) (size P e) && z.flat) with
          | false => trivial
          | true =>
            simp only [Bool.and_eq_true, Bool.not_eq_true', Nat.ble_eq, Nat.beq_eq, List.len_eq] at hb
            obtain ⟨⟨⟨⟨h1, h2⟩, h3⟩, h4⟩, h5⟩ := hb
            exact good_v (makeSlice_sound hW he hz (ev_sound hs hG hl) (ev_sound hs hG hc) h1 h2 (fun q => by rw [q] at h3; cases h3) h4 h5)
        · trivial
      · trivial

theorem oper_defer {o : Oper} {c : Call} (ho : o.op = .defer c) : oper P G tm h o = oDefer G tm h c := by
  unfold oper; rw [ho]; rfl
theorem oDefer_rs (G : Nat → Option V) (tm : T V) (h : Heap) (c : Call) : oDefer G tm h c = .stuck ∨ ∃ f args, oDefer G tm h c = .defer f args h := by
  unfold oDefer
  split
  · exact .inl rfl
  · split
    · split
      · split
        · exact .inr ⟨_, _, rfl⟩
        · exact .inl rfl
      · exact .inl rfl
    · exact .inl rfl

theorem defer_good (hW : W B w0 g h w) (hs : Slots g n tm a.tmps) (hG : GlobOk G g.S) {c : Call} {ty : TypeId} : Good P B w0 g ((do pure (.defer (← resolve a.eval c ty)) : Sem Next).run P w) (oDefer G tm h c) := by
  obtain ⟨callee, args, ats⟩ := c
  unfold oDefer
  simp only
  split
  · trivial
  · rename_i ys hys
    have hargs := args_sound hs hG hys
    split
    · rename_i f
      split
      · rename_i fn first cap hf
        split
        · rename_i q
          obtain ⟨c, d, e, h1, h2, h3, h4⟩ := (ev_sound hs hG hf).func_inv (fun l => by simp)
          refine ⟨c ++ args.map a.eval, d, w, g, ?_, Grown.refl _ _, hW, ?_⟩
          · rw [Sem.run_bind, resolve_value, e]
            simp [Deferred.ofValue]
          · rw [appL, appL]
            exact (Rs'.append ⟨h1, h3⟩ hargs).append ⟨h2, h4⟩
        · trivial
      · trivial
    · trivial

theorem oper_good (hW : W B w0 g h w) (hs : Slots g n tm a.tmps) (hG : GlobOk G g.S) (o : Oper) : Good P B w0 g ((execOp a.eval o).run P w) (oper P G tm h o) := by
  unfold oper execOp
  cases ho : o.op with
  | move x => exact move_good hW hs hG
  | assign x => exact move_good hW hs hG
  | pick c x y => exact pick_good hW hs hG
  | alloc e => exact good_rs (s := Instr.alloc e true (.tuple #[])) (fun y h' e' => alloc_sound hW e') (alloc_rs P h e)
  | box e x => exact box_good hW hs hG
  | build t ps => exact build_good hW hs hG
  | buildSlice t len ps => exact buildSlice_good hW hs hG
  | load t x => exact good_o1 (s := Instr.loadAt t) hW hs hG fun v x y hR hy => load_sound hW hR hy
  | store t x y => exact store_good hW hs hG
  | nilCheck x => exact nilCheck_good hW hs hG _ fun v y hR hn => notNil_sound hR hn
  | binOp op t x y b => exact good_o2 (s := fun v u => do eqGuard op t x y v u; Go.binOp op t v u) hW hs hG fun v x u y z h1 h2 hz => binOp_sound hW h1 h2 hz
  | unOp op t x => exact good_o1 (s := Op.unary op) hW hs hG fun v x y hR hy => unOp_sound hR hy
  | convert s d x => exact good_o1 (s := Go.convert s d) hW hs hG fun v x y hR hy => convert_sound hW hR hy
  | makeInterface t x =>
    refine good_o1 (s := Instr.makeInterface t) hW hs hG fun v x y hR hy => ?_
    obtain ⟨hb, hy⟩ := bif_some hy rfl
    cases hy
    simp only [Bool.and_eq_true] at hb
    exact ⟨_, run_makeInterface w t v (notIfaceT_some hb.2), .iface hR⟩
  | makeFunc f x y => exact makeFunc_good hW hs hG
  | makeMap t r => exact makeMap_good hW
  | slice t x lo hi mx => exact slice_good hW hs hG
  | fieldAddr t x f => exact fieldAddr_good hW hs hG
  | field t x f => exact field_good hW hs hG
  | indexAddr t x i => exact good_o2 (s := Instr.indexAt t) hW hs hG fun v x u y z h1 h2 hz => indexAddr_sound hW h1 h2 hz
  | index t x i => exact good_o2 (s := Instr.index t) hW hs hG fun v x u y z h1 h2 hz => index_sound h1 h2 hz
  | range t x => exact range_good hW hs hG
  | next it s => exact next_good hW hs hG
  | entry it => exact entry_good hW hs hG
  | typeAssert x xt t ok => exact good_o1 (s := fun v => Instr.typeAssert v xt t ok) hW hs hG fun v x y hR hy => typeAssert_sound hR hy
  | extract x i => exact good_o1 (s := fun v => Instr.extract v i) hW hs hG fun v x y hR hy => extract_sound hR hy
  | lookup t x i ok => exact good_o2 (s := fun v u => Instr.lookup t v u ok) hW hs hG fun v x u y z h1 h2 hz => lookup_sound hW h1 h2 hz
  | mapUpdate t m k x => exact mapUpdate_good hW hs hG
  | insert t m k x => exact mapUpdate_good hW hs hG
  | makeSlice t l c => exact makeSlice_good hW hs hG
  | call c => exact call_good hW hs hG
  | defer c => exact defer_good hW hs hG
  | panic x => exact panic_good hW hs hG
  | _ => trivial
end

end Go.AM
