/-
  Publishing: what is read of the heap becomes data, and nobody writes it any more.
-/
import Derived.Test.YtaahfplokcfncaaGreatDoorAmExtern
namespace Go.AM
open Go.RowKit

/-- The cells of a row's part, said. -/
def said (S : Nat → Nat → Option Value) (b lo hi : Nat) (C : Array Value) : Nat → Nat → Option Value := fun b' i => if b' = b ∧ lo ≤ i ∧ i < hi then cellO C i else S b' i

theorem W.say {B : Nat} {w0 : World} {g : Gh} {h : Heap} {w : World} (hW : W B w0 g h w) {r ver ty sz pub : Nat} {cap : Option Nat} {es : List V} {b k : Nat} {C : Array Value} {fr : Nat × Nat} (hr : h.get r = .row ver ty sz pub cap es) (hm : g.mu r = some (b, k, sz)) (hrow : RowOk g w b k sz ty pub cap es C fr) {o n : Nat} (hn : o + n ≤ es.length) :
    Grown B g (g.say (said g.S b (o * sz) ((o + n) * sz) C)) ∧ W B w0 (g.say (said g.S b (o * sz) ((o + n) * sz) C)) (h.set r (.row ver ty sz (Nat.max pub (o + n)) cap es)) w := by
  have hB := hW.high r _ hm
  have hext : ∀ b' i v, g.S b' i = some v → said g.S b (o * sz) ((o + n) * sz) C b' i = some v := by
    intro b' i v hv
    unfold said
    split
    · rename_i hc
      obtain ⟨rfl, _⟩ := hc
      obtain ⟨h1, h2⟩ := look_at hrow.at_ (hW.shut _ _ _ hv)
      exact cellO_mk h1 h2
    · exact hv
  have hx := Ext.say hext
  have hoth : ∀ b', b' ≠ b → ∀ i v, said g.S b (o * sz) ((o + n) * sz) C b' i = some v → g.S b' i = some v := by
    intro b' hb i v hv
    unfold said at hv
    rw [if_neg (fun q => hb q.1)] at hv; exact hv
  refine ⟨⟨hx, fun b' i v hb hv => hoth b' (by have : B ≤ b := hB.1; omega) i v hv⟩, ?_⟩
  have hrow' : RowOk (g.say (said g.S b (o * sz) ((o + n) * sz) C)) w b k sz ty (Nat.max pub (o + n)) cap es C fr := by
    have h1 : pub * sz ≤ Nat.max pub (o + n) * sz := Nat.mul_le_mul_right _ (Nat.le_max_left _ _)
    have h2 : (o + n) * sz ≤ Nat.max pub (o + n) * sz := Nat.mul_le_mul_right _ (Nat.le_max_right _ _)
    refine ⟨hrow.at_, hrow.csize, hrow.pos, hrow.fits, Nat.max_le.2 ⟨hrow.pubs, hn⟩, hrow.caps, hrow.elems, fun i e j y he hy => (match hrow.cells i e j y he hy with | ⟨v, a, q, c⟩ => ⟨v, a, q, c.mono hx⟩), fun i v hv => ?_, ?_⟩
    · change said g.S b (o * sz) ((o + n) * sz) C b i = some v at hv
      unfold said at hv
      split at hv
      · rename_i hc; omega
      · have := hrow.shut i v hv; omega
    · rcases hrow.ice with h | ⟨h, h'⟩
      · exact .inl h
      · exact .inr ⟨h, by omega⟩
  refine hW.turn r (b, k, sz) ⟨rfl, rfl, rfl, Nat.le_refl _, fun _ _ => rfl⟩ hx (.inl ⟨Heap.n_set _ _ _, hW.live hm⟩) (fun _ _ => rfl) (fun q hq => by rw [Heap.get_set, if_neg (fun e => hq e.symm)]) (fun _ _ => rfl) hm
    (by rw [Heap.get_set, if_pos rfl]; show g.vr r = _; rw [hW.ver', hr]; rfl) (fun q x hq hx' => ?_) (by rw [Heap.get_set, if_pos rfl]; exact ⟨rfl, C, fr, hrow'⟩) hB ?_
  · have hne : x.1 ≠ b := fun e => hq (hW.inj q r x _ hx' hm e)
    exact ⟨hne, rfl, fun i v => hoth x.1 hne i v⟩
  · intro b' i v hv
    unfold Gh.say said at hv
    simp only at hv
    split at hv
    · rename_i hc
      obtain ⟨rfl, _⟩ := hc
      exact look_cells hrow.at_ (cellO_some hv).1 (cellO_some hv).2
    · exact hW.shut _ _ _ hv

/-- What publishing leaves as it was. -/
structure Kept (seen : List Nat) (g : Gh) (S : Nat → Nat → Option Value) (h h' : Heap) : Prop where
  n : h'.n = h.n
  row : ∀ r, r ∈ seen → h'.get r = h.get r
  shut : ∀ r, r ∈ seen → ∀ y, g.mu r = some y → ∀ o v, S y.1 o = some v → g.S y.1 o = some v
  same : ∀ r ver ty sz pub cap es, h.get r = .row ver ty sz pub cap es → ∃ pub', h'.get r = .row ver ty sz pub' cap es
  mp : ∀ r es, h.get r = .map es → h'.get r = .map es ∨ h'.get r = .dead
  dead : ∀ r, h.get r = .dead → h'.get r = .dead

theorem Kept.refl (seen : List Nat) (g : Gh) (h : Heap) : Kept seen g g.S h h := ⟨rfl, fun _ _ => rfl, fun _ _ _ _ _ _ e => e, fun _ _ _ _ pub _ _ e => ⟨pub, e⟩, fun _ _ e => .inl e, fun _ e => e⟩
theorem Kept.trans {seen : List Nat} {g : Gh} {S S' : Nat → Nat → Option Value} {h h' h'' : Heap} (a : Kept seen g S h h') (b : Kept seen (g.say S) S' h' h'') : Kept seen g S' h h'' :=
  ⟨b.n.trans a.n, fun r hr => (b.row r hr).trans (a.row r hr), fun r hr y hy o v e => a.shut r hr y hy o v (b.shut r hr y hy o v e), fun r ver ty sz pub cap es e => by
    obtain ⟨p, e'⟩ := a.same r ver ty sz pub cap es e
    exact b.same r ver ty sz p cap es e', fun r es e => (a.mp r es e).elim (fun q => b.mp r es q) (fun q => .inr (b.dead r q)), fun r e => b.dead r (a.dead r e)⟩

/-- A value, and what was published of it, lie in as many cells. -/
def Shape (x x' : V) : Prop := x'.flat = x.flat ∧ x'.cells.length = x.cells.length ∧ ((∀ vs, x ≠ .agg vs) → ∀ vs, x' ≠ .agg vs)

structure PubOk (seen : List Nat) (B : Nat) (w0 : World) (g : Gh) (h h' : Heap) (w : World) (S : Nat → Nat → Option Value) : Prop where
  grown : Grown B g (g.say S)
  world : W B w0 (g.say S) h' w
  kept : Kept seen g S h h'

theorem Gh.say_self (g : Gh) : g.say g.S = g := rfl
theorem Gh.say_say (g : Gh) (S S' : Nat → Nat → Option Value) : (g.say S).say S' = g.say S' := rfl

theorem PubOk.refl {seen : List Nat} {B : Nat} {w0 : World} {g : Gh} {h : Heap} {w : World} (hW : W B w0 g h w) : PubOk seen B w0 g h h w g.S := ⟨Grown.refl _ _, hW, Kept.refl _ _ _⟩
theorem PubOk.trans {seen : List Nat} {B : Nat} {w0 : World} {g : Gh} {h h' h'' : Heap} {w : World} {S S' : Nat → Nat → Option Value} (a : PubOk seen B w0 g h h' w S) (b : PubOk seen B w0 (g.say S) h' h'' w S') : PubOk seen B w0 g h h'' w S' :=
  ⟨a.grown.trans b.grown, b.world, a.kept.trans b.kept⟩

def PubF (seen : List Nat) (f : Heap → V → Option (V × Heap)) : Prop := ∀ {B : Nat} {w0 : World} {g : Gh} {h : Heap} {w : World} {v : Value} {x x' : V} {h' : Heap}, W B w0 g h w → R g v x → f h x = some (x', h') →
  ∃ S, PubOk seen B w0 g h h' w S ∧ GR S v x' ∧ Shape x x'

theorem pubL_nil (f : Heap → V → Option (V × Heap)) (h : Heap) : pubL f [] h = some ([], h) := rfl
theorem pubL_cons (f : Heap → V → Option (V × Heap)) (v : V) (l : List V) (h : Heap) : pubL f (v :: l) h = match f h v with
    | none => none
    | some (v', h1) => match pubL f l h1 with
      | none => none
      | some (l', h2) => some (v' :: l', h2) := rfl

theorem pubL_sound {seen : List Nat} {f : Heap → V → Option (V × Heap)} (hf : PubF seen f) (l : List V) : ∀ {B : Nat} {w0 : World} {g : Gh} {h : Heap} {w : World} {vs : List Value} {l' : List V} {h' : Heap}, W B w0 g h w → vs.length = l.length →
    (∀ (i : Nat) v x, vs[i]? = some v → l[i]? = some x → R g v x) → pubL f l h = some (l', h') →
    ∃ S, PubOk seen B w0 g h h' w S ∧ l'.length = l.length ∧ (∀ (i : Nat) v x, vs[i]? = some v → l'[i]? = some x → GR S v x) ∧ ∀ (i : Nat) x x', l[i]? = some x → l'[i]? = some x' → Shape x x' := by
  induction l with
  | nil =>
    intro B w0 g h w vs l' h' hW hn hR hp
    rw [pubL_nil] at hp; cases hp
    exact ⟨g.S, .refl hW, rfl, fun i v x _ hx => by simp at hx, fun i x x' hx => by simp at hx⟩
  | cons a l ih =>
    intro B w0 g h w vs l' h' hW hn hR hp
    rw [pubL_cons] at hp
    cases vs with
    | nil => simp at hn
    | cons u us =>
      split at hp
      · cases hp
      · rename_i a' h1 ha
        split at hp
        · cases hp
        · rename_i l1 h2 hl
          cases hp
          obtain ⟨S1, k1, g1, s1⟩ := hf hW (hR 0 u a rfl rfl) ha
          obtain ⟨S2, k2, n2, g2, s2⟩ := ih (vs := us) k1.world (by simpa using hn) (fun i v x p q => (hR (i + 1) v x (by simpa using p) (by simpa using q)).mono k1.grown.ext) hl
          refine ⟨S2, k1.trans k2, by simp [n2], fun i v x p q => ?_, fun i x x' p q => ?_⟩
          · cases i with
            | zero => simp at p q; subst p; subst q; exact g1.mono k2.grown.ext.S
            | succ i => exact g2 i v x (by simpa using p) (by simpa using q)
          · cases i with
            | zero => simp at p q; subst p; subst q; exact s1
            | succ i => exact s2 i x x' (by simpa using p) (by simpa using q)

/-- An element's value, out of a row's cells. -/
def elemVal (C : Array Value) (base : Nat) : V → Value
  | .agg vs => .agg ((List.range vs.length).map fun j => C.getD (base + j) Go.undef).toArray
  | _ => C.getD base Go.undef

theorem cells_single {e : V} (h : ∀ vs, e ≠ .agg vs) : e.cells = [e] := by
  cases e <;> first | rfl | exact absurd rfl (h _)
theorem elemVal_single (C : Array Value) (base : Nat) {e : V} (h : ∀ vs, e ≠ .agg vs) : elemVal C base e = C.getD base Go.undef := by
  cases e <;> first | rfl | exact absurd rfl (h _)
theorem getD_some' {C : Array Value} {i : Nat} {v : Value} (h : C[i]? = some v) : C.getD i Go.undef = v := by simp [Array.getD_eq_getD_getElem?, h]

theorem elemVal_R {g : Gh} {C : Array Value} {base : Nat} {e : V} (h : ∀ (j : Nat) x, e.cells[j]? = some x → ∃ v, C[base + j]? = some v ∧ v.oneCell' = true ∧ R g v x) : R g (elemVal C base e) e := by
  by_cases ha : ∃ vs, e = .agg vs
  · obtain ⟨vs, rfl⟩ := ha
    have key : ∀ (i : Nat) v, ((List.range vs.length).map fun j => C.getD (base + j) Go.undef).toArray[i]? = some v → ∃ x, vs[i]? = some x ∧ v.oneCell' = true ∧ R g v x := by
      intro i v hv
      simp only [List.getElem?_toArray, List.getElem?_map] at hv
      by_cases hi : i < vs.length
      · rw [List.getElem?_range hi] at hv
        simp at hv; subst hv
        obtain ⟨x, hx⟩ := getElem?_of_lt_list vs i hi
        obtain ⟨v, p, q, r⟩ := h i x hx
        have := getD_some' p
        simp only [Array.getD_eq_getD_getElem?] at this
        rw [this]; exact ⟨x, hx, q, r⟩
      · rw [List.getElem?_eq_none (by simp; omega)] at hv; simp at hv
    refine .agg (by simp) (fun i v hv => ?_) (fun i v x hv hx => ?_)
    · obtain ⟨_, _, q, _⟩ := key i v hv; exact q
    · obtain ⟨x', hx', _, r⟩ := key i v hv
      rw [hx] at hx'; cases hx'; exact r
  · have hs : ∀ vs, e ≠ .agg vs := fun vs he => ha ⟨vs, he⟩
    rw [elemVal_single C base hs]
    obtain ⟨v, p, _, r⟩ := h 0 e (by rw [cells_single hs]; rfl)
    have p : C[base]? = some v := p
    rw [getD_some' p]; exact r

theorem elemVal_GR {S : Nat → Nat → Option Value} {C : Array Value} {base : Nat} {e e' : V} (hsh : Shape e e') (h : GR S (elemVal C base e) e') (j : Nat) (x : V) (hx : e'.cells[j]? = some x) : GR S (C.getD (base + j) Go.undef) x := by
  by_cases ha : ∃ vs, e = .agg vs
  · obtain ⟨vs, rfl⟩ := ha
    simp only [elemVal] at h
    cases h with
    | oslS h => cases h
    | agg hn h1 h =>
      rename_i vs'
      have hj := lt_of_getElem?_list hx
      simp only [V.cells] at hx hj
      simp at hn
      refine h j _ x ?_ hx
      simp only [List.getElem?_toArray, List.getElem?_map]
      rw [List.getElem?_range (by omega)]; rfl
  · have hs : ∀ vs, e ≠ .agg vs := fun vs he => ha ⟨vs, he⟩
    rw [elemVal_single C base hs] at h
    rw [cells_single (hsh.2.2 hs)] at hx
    cases j with
    | zero => cases hx; exact h
    | succ j => simp at hx

theorem Gh.say_mono {g : Gh} {B : Nat} {S : Nat → Nat → Option Value} (h : Grown B g (g.say S)) : ∀ b o v, g.S b o = some v → S b o = some v := h.ext.S

theorem pubSl_sound {seen : List Nat} {f : Heap → V → Option (V × Heap)} (hf : PubF seen f) {B : Nat} {w0 : World} {g : Gh} {h : Heap} {w : World} {v : Value} {r ver o n : Nat} {c : Option Nat} {x' : V} {h' : Heap} (hW : W B w0 g h w) (hR : R g v (.sl r ver o n c)) (hp : pubSl f seen h r ver o n c = some (x', h')) :
    ∃ S, PubOk seen B w0 g h h' w S ∧ GR S v x' ∧ Shape (.sl r ver o n c) x' := by
  unfold pubSl at hp
  split at hp
  · rename_i ver' ty sz pub0 cap es hr
    obtain ⟨hb, hp1⟩ := bif_some hp rfl
    clear hp
    simp only [Bool.and_eq_true, Bool.not_eq_true', Nat.beq_eq, Nat.ble_eq, List.len_eq] at hb
    obtain ⟨⟨rfl, hseen⟩, hle⟩ := hb
    have hle : o + n ≤ es.length := hle
    split at hp1
    · rename_i es' h1 hes
      split at hp1
      · rename_i v2 t2 s2 pb2 c2 e2 hr2
        obtain ⟨hb2, hp2⟩ := bif_some hp1 rfl
        cases hp2
        obtain ⟨hv, b, k, C, fr, hm, hrow, hlt⟩ := hW.row hr
        rw [List.takeN_eq, List.dropN_eq] at hes
        have hel : ∀ (i : Nat) e, ((es.drop o).take n)[i]? = some e → i < n ∧ es[o + i]? = some e := by
          intro i e he
          rw [List.getElem?_take] at he
          split at he
          · rw [List.getElem?_drop] at he; exact ⟨by assumption, he⟩
          · cases he
        have hlen : ((es.drop o).take n).length = n := by simp; omega
        obtain ⟨S1, k1, n1, g1, s1⟩ := pubL_sound hf ((es.drop o).take n) (vs := (List.range n).map fun i => elemVal C ((o + i) * sz) (es.getD (o + i) undef)) hW (by rw [hlen]; simp) (fun i u e hu he => by
          obtain ⟨hi, he⟩ := hel i e he
          simp only [List.getElem?_map] at hu
          rw [List.getElem?_range hi] at hu
          simp only [Option.map_some, Option.some.injEq] at hu
          subst hu
          have : es.getD (o + i) undef = e := by simp [List.getD_eq_getElem?_getD, he]
          rw [this]
          exact elemVal_R fun j x hx => hrow.cells _ _ _ _ he hx) hes
        obtain ⟨pb', hr2'⟩ := k1.kept.same _ _ _ _ _ _ _ hr
        rw [hr2] at hr2'
        cases hr2'
        have hm1 : (g.say S1).mu r = some (b, k, sz) := hm
        obtain ⟨_, b1, k1', C1, fr1, hm1', hrow1, _⟩ := k1.world.row hr2
        rw [hm1] at hm1'; cases hm1'
        have hC : C1 = C := by
          have := hrow1.at_
          rw [hrow.at_] at this; cases this; rfl
        subst hC
        obtain ⟨hg2, hW2⟩ := k1.world.say hr2 hm1 hrow1 (o := o) (n := n) hle
        have hns : r ∉ seen := fun e => by rw [(memN_iff r seen).2 e] at hseen; cases hseen
        have hrs : ∀ q, q ∈ seen → ¬ r = q := fun q hq e => hns (e ▸ hq)
        refine ⟨said S1 b (o * sz) ((o + n) * sz) C1, k1.trans ⟨hg2, hW2, ?_⟩, ?_, ?_⟩
        · refine ⟨Heap.n_set _ _ _, fun q hq => by rw [Heap.get_set, if_neg (hrs q hq)], fun q hq y hy i u hu => ?_, fun q ver ty sz pub cap es e => ?_, fun q es e => ?_, fun q e => ?_⟩
          · unfold said at hu
            split at hu
            · rename_i hc
              have hy' : g.mu q = some y := hy
              exact absurd (hW.inj r q _ _ hm hy' hc.1.symm) (hrs q hq)
            · exact hu
          · rw [Heap.get_set]
            split
            · rename_i e'; subst e'; rw [hr2] at e; cases e; exact ⟨_, rfl⟩
            · exact ⟨_, e⟩
          · rw [Heap.get_set]
            split
            · rename_i e'; subst e'; rw [hr2] at e; cases e
            · exact .inl e
          · rw [Heap.get_set]
            split
            · rename_i e'; subst e'; rw [hr2] at e; cases e
            · exact e
        · obtain ⟨a, cp, vr', rfl, hv', hle', hn, hc, hpt⟩ := hR.sl_inv
          rw [hv] at hv'; cases hv'
          obtain ⟨k2, sz2, hm2, ho, hs, hk, hck⟩ := hpt rfl
          rw [hm] at hm2
          simp only [Option.some.injEq, Prod.mk.injEq] at hm2
          obtain ⟨hb', rfl, rfl⟩ := hm2
          have hnl : es'.length = n := by rw [n1, hlen]
          have hel' : ∀ (i : Nat) e', es'[i]? = some e' → ∃ e, i < n ∧ es[o + i]? = some e ∧ Shape e e' ∧ GR S1 (elemVal C1 ((o + i) * sz) e) e' := by
            intro i e' he'
            have hi : i < n := by rw [← hnl]; exact lt_of_getElem?_list he'
            obtain ⟨e, he⟩ := getElem?_of_lt_list ((es.drop o).take n) i (by omega)
            obtain ⟨_, he2⟩ := hel i e he
            refine ⟨e, hi, he2, s1 i e e' he he', ?_⟩
            refine g1 i _ e' ?_ he'
            simp only [List.getElem?_map]
            rw [List.getElem?_range hi]
            simp [List.getD_eq_getElem?_getD, he2]
          have hext := hg2.ext.S
          have hoff : 0 < n → a.off = o * sz := fun h => ho (by omega)
          have hmul : ∀ i, (o + i) * sz = o * sz + i * sz := fun i => Nat.add_mul o i sz
          rw [Addr.eta hs, ← hb']
          subst hnl
          refine .gsl (fun i j => C1.getD ((o + i) * sz + j) Go.undef) hrow.pos (fun i e' he' => ?_) (fun i e' j x he' hx => ?_) (fun c' e => ?_) (by omega) (fun i e' j x he' hx => ?_)
          · obtain ⟨e, hi, he, hsh, _⟩ := hel' i e' he'
            rw [hsh.1, hsh.2.1]; exact hrow.elems _ _ he
          · obtain ⟨e, hi, he, hsh, _⟩ := hel' i e' he'
            have hj : j < sz := by rw [← (hrow.elems _ _ he).1, ← hsh.2.1]; exact lt_of_getElem?_list hx
            obtain ⟨y, hy⟩ := getElem?_of_lt_list e.cells j (by rw [← hsh.2.1]; exact lt_of_getElem?_list hx)
            obtain ⟨u, p, q, _⟩ := hrow.cells _ _ _ _ he hy
            rw [hoff (by omega)]
            have hlo : o * sz + i * sz + j < (o + es'.length) * sz := by
              have : (i + 1) * sz ≤ es'.length * sz := Nat.mul_le_mul_right _ hi
              rw [Nat.add_mul] at this
              rw [Nat.add_mul]; omega
            rw [getD_some' p]
            refine ⟨?_, q⟩
            unfold said
            rw [if_pos ⟨rfl, by omega, hlo⟩, ← hmul]; exact cellO_mk p q
          · cases c with
            | some c => cases e; exact hc _ rfl
            | none =>
              have hk' := hck rfl
              cases cap with
              | none => cases e
              | some kk =>
                cases e
                have := hrow.caps _ rfl
                change cp = kk - o
                omega
          · obtain ⟨e, hi, he, hsh, hgr⟩ := hel' i e' he'
            exact (elemVal_GR hsh hgr j x hx).mono hext
        · exact ⟨rfl, rfl, fun _ vs e => by cases e⟩
      · cases hp1
    · cases hp1
  · cases hp

theorem Shape.refl (x : V) : Shape x x := ⟨rfl, rfl, fun h => h⟩

theorem pub_succ (seen : List Nat) (k : Nat) (h : Heap) (v : V) : pub seen (k + 1) h v = match v with
    | .int a b => some (.int a b, h)
    | .bool b => some (.bool b, h)
    | .str s => some (.str s, h)
    | .nilp => some (.nilp, h)
    | .nils => some (.nils, h)
    | .nilm => some (.nilm, h)
    | .nilf => some (.nilf, h)
    | .nili => some (.nili, h)
    | .gsl a b c => some (.gsl a b c, h)
    | .osl a b => some (.osl a b, h)
    | .gptr a b c => some (.gptr a b c, h)
    | .func f a b => match f with
      | .func _ => pubFn f (pubL (pub seen k) b) (pubL (pub seen k) a h)
      | _ => none
    | .agg vs => pubA .agg (pubL (pub seen k) vs h)
    | .tup vs => pubA .tup (pubL (pub seen k) vs h)
    | .iface t x => match pub seen k h x with
      | some (x', h') => some (.iface t x', h')
      | none => none
    | .sl r ver o n c => pubSl (pub seen k) seen h r ver o n c
    | .ptr r ver off => pubPt (pub seen k) seen h r ver off
    | .gmap a b => some (.gmap a b, h)
    | .map r => pubMp (pub seen k) seen h r
    | _ => none := rfl

theorem pubA_some {w : List V → V} {o : Option (List V × Heap)} {x : V} {h : Heap} (e : pubA w o = some (x, h)) : ∃ l, o = some (l, h) ∧ x = w l := by
  cases o with
  | none => cases e
  | some p => obtain ⟨l, h'⟩ := p; cases e; exact ⟨l, rfl, rfl⟩

theorem pubFn_some {f : Fn} {k : Heap → Option (List V × Heap)} {o : Option (List V × Heap)} {x : V} {h : Heap} (e : pubFn f k o = some (x, h)) : ∃ a h1 b, o = some (a, h1) ∧ k h1 = some (b, h) ∧ x = .func f a b := by
  cases o with
  | none => cases e
  | some p =>
    obtain ⟨a, h1⟩ := p
    simp only [pubFn] at e
    split at e
    · rename_i b h2 e2
      cases e
      exact ⟨a, h1, b, rfl, e2, rfl⟩
    · cases e

theorem pubPt_sound {seen : List Nat} {f : Heap → V → Option (V × Heap)} (hf : PubF seen f) {B : Nat} {w0 : World} {g : Gh} {h : Heap} {w : World} {v : Value} {r ver off : Nat} {x' : V} {h' : Heap} (hW : W B w0 g h w) (hR : R g v (.ptr r ver off)) (hp : pubPt f seen h r ver off = some (x', h')) :
    ∃ S, PubOk seen B w0 g h h' w S ∧ GR S v x' ∧ Shape (.ptr r ver off) x' := by
  unfold pubPt at hp
  split at hp
  · rename_i x h1 hs
    split at hp
    · rename_i sz es c
      cases hp
      cases hr : h.get r with
      | row ver' ty sz' pb cap es' =>
        have hl : rowLen h r = es'.length := by unfold rowLen; rw [hr]; exact List.len_eq _
        rw [hl] at hs
        obtain ⟨hv, b, k, C, fr, hm, hrow, hlt⟩ := hW.row hr
        obtain ⟨a, vr', rfl, hv', hle', hpt⟩ := hR.ptr_inv
        rw [hv] at hv'; cases hv'
        have hver : ver = ver' := by
          unfold pubSl at hs
          rw [hr] at hs
          obtain ⟨hb, _⟩ := bif_some hs rfl
          simp only [Bool.and_eq_true, Nat.beq_eq] at hb
          exact hb.1.1
        obtain ⟨k2, sz2, hm2, ho, hsp⟩ := hpt hver
        rw [hm] at hm2
        simp only [Option.some.injEq, Prod.mk.injEq] at hm2
        obtain ⟨hb', rfl, rfl⟩ := hm2
        have hR' : R g (.slice (some ⟨b, 0, none⟩) es'.length k) (.sl r ver 0 es'.length none) :=
          .sl hv hle' hrow.fits (fun c' e => by cases e) fun _ => ⟨k, sz', hm, fun _ => by simp, rfl, by omega, fun _ => by omega⟩
        obtain ⟨S, k1, g1, s1⟩ := pubSl_sound hf hW hR' hs
        refine ⟨S, k1, ?_, rfl, rfl, fun _ vs e => by cases e⟩
        rw [Addr.eta hsp, ← hb', ho]
        clear hR' hs
        generalize es'.length = L at g1
        cases g1 with
        | gsl val hsz hc hS hcap hle h =>
          have := GR.gptr (S := S) (b := b) (base := 0) (off := off) val hsz hc (fun i e j x p q => hS i e j x p q) h
          rw [Nat.zero_add] at this
          exact this
      | _ =>
        unfold pubSl at hs
        rw [hr] at hs
        cases hs
    · cases hp
  · cases hp

theorem fstL_get {es : List (V × V)} {i : Nat} {x : V} (h : (fstL es)[i]? = some x) : ∃ p, es[i]? = some p ∧ x = p.1 := by
  induction es generalizing i with
  | nil => change ([] : List V)[i]? = some x at h; simp at h
  | cons p es IH =>
    change (p.1 :: fstL es)[i]? = some x at h
    cases i with
    | zero => simp at h; exact ⟨p, rfl, h.symm⟩
    | succ i => exact IH (by simpa using h)
theorem sndL_get {es : List (V × V)} {i : Nat} {x : V} (h : (sndL es)[i]? = some x) : ∃ p, es[i]? = some p ∧ x = p.2 := by
  induction es generalizing i with
  | nil => change ([] : List V)[i]? = some x at h; simp at h
  | cons p es IH =>
    change (p.2 :: sndL es)[i]? = some x at h
    cases i with
    | zero => simp at h; exact ⟨p, rfl, h.symm⟩
    | succ i => exact IH (by simpa using h)
theorem fstL_len (es : List (V × V)) : (fstL es).length = es.length := by
  induction es with
  | nil => rfl
  | cons p es IH => change (p.1 :: fstL es).length = _; rw [List.length_cons, List.length_cons, IH]
theorem sndL_len (es : List (V × V)) : (sndL es).length = es.length := by
  induction es with
  | nil => rfl
  | cons p es IH => change (p.2 :: sndL es).length = _; rw [List.length_cons, List.length_cons, IH]

theorem pubMp_sound {seen : List Nat} {f : Heap → V → Option (V × Heap)} (hf : PubF seen f) {B : Nat} {w0 : World} {g : Gh} {h : Heap} {w : World} {v : Value} {r : Nat} {x' : V} {h' : Heap} (hW : W B w0 g h w) (hR : R g v (.map r)) (hp : pubMp f seen h r = some (x', h')) :
    ∃ S, PubOk seen B w0 g h h' w S ∧ GR S v x' ∧ Shape (.map r) x' := by
  unfold pubMp at hp
  split at hp
  · rename_i es hr
    cases hs : memN r seen with
    | true => rw [hs] at hp; cases hp
    | false =>
      rw [hs] at hp
      simp only [cond_false] at hp
      have hns : r ∉ seen := fun e => by rw [(memN_iff r seen).2 e] at hs; cases hs
      split at hp
      · cases hp
      · rename_i ks h1 hk
        split at hp
        · cases hp
        · rename_i vs h2 hv
          split at hp
          · rename_i es2 hr2
            cases hp
            obtain ⟨b, kk, rfl, hvr, hm⟩ := hR.map_inv
            have hobj := hW.obj r _ hm
            rw [hr] at hobj
            obtain ⟨_, E, clock, e1, e2, e3, _⟩ := hobj
            have e1 : w.heap[b]? = some (.map E clock) := e1
            obtain ⟨S1, k1, n1, g1, _⟩ := pubL_sound hf (fstL es) (vs := E.toList.map (·.key)) hW (by simp [fstL_len, e2]) (fun i u x hu hx => by
              obtain ⟨p, hp1, rfl⟩ := fstL_get hx
              rw [List.getElem?_map] at hu
              cases he : E.toList[i]? with
              | none => rw [he] at hu; cases hu
              | some e =>
                rw [he] at hu; cases hu
                exact (e3 i e p (by simpa using he) hp1).1) hk
            obtain ⟨S2, k2, n2, g2, _⟩ := pubL_sound hf (sndL es) (vs := E.toList.map (·.val)) k1.world (by simp [sndL_len, e2]) (fun i u x hu hx => by
              obtain ⟨p, hp1, rfl⟩ := sndL_get hx
              rw [List.getElem?_map] at hu
              cases he : E.toList[i]? with
              | none => rw [he] at hu; cases hu
              | some e =>
                rw [he] at hu; cases hu
                exact (e3 i e p (by simpa using he) hp1).2.mono k1.grown.ext) hv
            have k12 := k1.trans k2
            have hW2 : W B w0 (g.say S2) h2 w := k12.world
            have hm2 : (g.say S2).mu r = some (b, kk) := hm
            obtain ⟨E2, c2, q1, _, _, _, S3, hext, hoth, hat, hg3, hW3⟩ := hW2.sealMap hr2 hm2 hvr
            rw [e1] at q1
            cases q1
            refine ⟨S3, k12.trans ⟨hg3, hW3, ⟨Heap.n_set _ _ _, fun q hq => by rw [Heap.get_set, if_neg (fun (e : r = q) => hns (by rw [e]; exact hq))], fun q hq y hy o u hu => ?_, fun q ver ty sz pub cap es' e => ?_, fun q es' e => ?_, fun q e => ?_⟩⟩, ?_, rfl, rfl, fun _ vs e => by cases e⟩
            · have hy' : g.mu q = some y := hy
              exact hoth y.1 (fun e => hns (by rw [← hW2.inj q r y _ hy' hm2 e]; exact hq)) o u hu
            · rw [Heap.get_set]
              split
              · rename_i q'; subst q'; rw [hr2] at e; cases e
              · exact ⟨_, e⟩
            · rw [Heap.get_set]
              split
              · exact .inr rfl
              · exact .inl e
            · rw [Heap.get_set]
              split
              · rfl
              · exact e
            · have hl1 : E.size = ks.length := by rw [n1, fstL_len, e2]
              have hl2 : E.size = vs.length := by rw [n2, sndL_len, e2]
              refine .gmap (E := E) (c := clock) hat hl1 hl2 (fun i e x he hx => ?_) (fun i e x he hx => ?_)
              · exact ((g1 i e.key x (by rw [List.getElem?_map]; simp [he]) hx).mono k2.grown.ext.S).mono hext
              · exact (g2 i e.val x (by rw [List.getElem?_map]; simp [he]) hx).mono hext
          · cases hp
  · cases hp

theorem pub_sound (seen : List Nat) (k : Nat) : PubF seen (pub seen k) := by
  induction k with
  | zero => intro B w0 g h w v x x' h' _ _ hp; cases hp
  | succ k ih =>
    intro B w0 g h w v x x' h' hW hR hp
    rw [pub_succ] at hp
    cases x with
    | int a b => cases hp; have := hR.int_inv; subst this; exact ⟨g.S, .refl hW, .int _ _, .refl _⟩
    | bool b => cases hp; have := hR.bool_inv; subst this; exact ⟨g.S, .refl hW, .bool _, .refl _⟩
    | str s => cases hp; obtain ⟨s, rfl, h⟩ := hR.str_inv; exact ⟨g.S, .refl hW, .str h, .refl _⟩
    | nilp => cases hp; have := hR.nilp_inv; subst this; exact ⟨g.S, .refl hW, .nilp, .refl _⟩
    | nils => cases hp; have := hR.nils_inv; subst this; exact ⟨g.S, .refl hW, .nils, .refl _⟩
    | nilm => cases hp; have := hR.nilm_inv; subst this; exact ⟨g.S, .refl hW, .nilm, .refl _⟩
    | nilf => cases hp; have := hR.nilf_inv; subst this; exact ⟨g.S, .refl hW, .nilf, .refl _⟩
    | nili => cases hp; have := hR.nili_inv; subst this; exact ⟨g.S, .refl hW, .nili, .refl _⟩
    | gsl a b c => cases hp; exact ⟨g.S, .refl hW, hR.gsl_inv, .refl _⟩
    | gptr a b c => cases hp; exact ⟨g.S, .refl hW, hR.gptr_inv, .refl _⟩
    | osl a b => cases hp; exact ⟨g.S, .refl hW, (by cases hR with | gnd h => exact h), .refl _⟩
    | func f a b =>
      cases f with
      | func f =>
        obtain ⟨xs, h1, ys, hx, hy, rfl⟩ := pubFn_some hp
        obtain ⟨c, d, rfl, n1, n2, r1, r2⟩ := hR.func_inv (fun l => by simp)
        obtain ⟨S1, k1, m1, g1, _⟩ := pubL_sound ih a (vs := c.toList) hW (by simpa using n1) (fun i v x p q => r1 i v x (by simpa using p) q) hx
        obtain ⟨S2, k2, m2, g2, _⟩ := pubL_sound ih b (vs := d.toList) k1.world (by simpa using n2) (fun i v x p q => (r2 i v x (by simpa using p) q).mono k1.grown.ext) hy
        exact ⟨S2, k1.trans k2, .func (by rw [n1, m1]) (by rw [n2, m2]) (fun i v x p q => (g1 i v x (by simpa using p) q).mono k2.grown.ext.S) (fun i v x p q => g2 i v x (by simpa using p) q), rfl, rfl, fun _ vs e => by cases e⟩
      | _ => cases hp
    | agg vs =>
      obtain ⟨l, hl, rfl⟩ := pubA_some hp
      obtain ⟨cs, rfl, hn, h1, h⟩ := hR.agg_inv
      obtain ⟨S, p, n', q, s⟩ := pubL_sound ih vs (vs := cs.toList) hW (by simpa using hn) (fun i v x a b => h i v x (by simpa using a) b) hl
      refine ⟨S, p, .agg (by rw [hn, n']) h1 (fun i v x a b => q i v x (by simpa using a) b), rfl, by simpa [V.cells] using n', fun hne => absurd rfl (hne vs)⟩
    | tup vs =>
      obtain ⟨l, hl, rfl⟩ := pubA_some hp
      obtain ⟨cs, rfl, hn, h⟩ := hR.tup_inv
      obtain ⟨S, p, n', q, s⟩ := pubL_sound ih vs (vs := cs.toList) hW (by simpa using hn) (fun i v x a b => h i v x (by simpa using a) b) hl
      exact ⟨S, p, .tup (by rw [hn, n']) (fun i v x a b => q i v x (by simpa using a) b), rfl, rfl, fun _ vs e => by cases e⟩
    | iface t x =>
      obtain ⟨y, rfl, hy⟩ := hR.iface_inv
      simp only at hp
      split at hp
      · rename_i x1 h1 hx
        cases hp
        obtain ⟨S, p, q, _⟩ := ih hW hy hx
        exact ⟨S, p, .iface q, rfl, rfl, fun _ vs e => by cases e⟩
      · cases hp
    | sl r ver o n c => exact pubSl_sound ih hW hR hp
    | ptr r ver off => exact pubPt_sound ih hW hR hp
    | fsl => cases hp
    | gmap a b => cases hp; exact ⟨g.S, .refl hW, hR.gmap_inv, .refl _⟩
    | map r => exact pubMp_sound ih hW hR hp
    | iter => cases hp
    | any => cases hp
    | imod => cases hp

end Go.AM
