/-
  What a pure call hands back: data, and rows that are handed over whole.
-/
import Derived.Test.YtaahfplokcfncaaGreatDoorAmPub
namespace Go.AM
open Go.RowKit

/-- A ghost that says nothing but what is sealed. -/
def Gh.data (S : Nat → Nat → Option Value) : Gh := ⟨fun _ => none, fun _ => none, S⟩

theorem Ext.data {S : Nat → Nat → Option Value} {g : Gh} (h : ∀ b o v, S b o = some v → g.S b o = some v) : Ext (Gh.data S) g :=
  ⟨h, fun _ _ e => (by cases e), fun _ _ _ e => (by cases e)⟩

def Sealed (S : Nat → Nat → Option Value) (w : World) : Prop := ∀ b o v, S b o = some v → look w b o = some v

/-- More is sealed, but at none of these blocks. -/
structure More (bs : List Nat) (S S' : Nat → Nat → Option Value) : Prop where
  more : ∀ b o v, S b o = some v → S' b o = some v
  keep : ∀ b, b ∈ bs → ∀ o v, S' b o = some v → S b o = some v

theorem RowOk.more {S S' : Nat → Nat → Option Value} {bs : List Nat} (h : More bs S S') {w : World} {b k sz ty pub : Nat} {cap : Option Nat} {es : List V} {C : Array Value} {fr : Nat × Nat} (hb : b ∈ bs) (r : RowOk (Gh.data S) w b k sz ty pub cap es C fr) : RowOk (Gh.data S') w b k sz ty pub cap es C fr :=
  ⟨r.at_, r.csize, r.pos, r.fits, r.pubs, r.caps, r.elems, fun i e j x he hx => (match r.cells i e j x he hx with | ⟨v, p, q, s⟩ => ⟨v, p, q, s.mono (Ext.data h.more)⟩), fun o v hv => r.shut o v (h.keep b hb o v hv), r.ice⟩

/-- One value: data, or a row as a whole; which blocks it takes along. -/
inductive RR (S : Nat → Nat → Option Value) (w : World) : Value → V → List Nat → Prop
  | data {v : Value} {x : V} (h : GR S v x) : RR S w v x []
  | whole {b k sz ty pub : Nat} {cap : Option Nat} {es : List V} {C : Array Value} {fr : Nat × Nat} {a : Addr} (h : RowOk (Gh.data S) w b k sz ty pub cap es C fr) (hg : ∀ (i : Nat) e (j : Nat) x, es[i]? = some e → e.cells[j]? = some x → ∃ v, C[i * sz + j]? = some v ∧ GR S v x) (hb : a.block = b) (hs : a.spot = none) (ho : 0 < k → a.off = 0) :
      RR S w (.slice (some a) es.length k) (.fsl ty sz pub es cap) [b]

theorem RR.more {S S' : Nat → Nat → Option Value} {w : World} {v : Value} {x : V} {bs cs : List Nat} (h : RR S w v x bs) (hm : More cs S S') (hs : ∀ b, b ∈ bs → b ∈ cs) : RR S' w v x bs := by
  cases h with
  | data h => exact .data (h.mono hm.more)
  | whole h hg hb hs' ho => exact .whole (h.more hm (hs _ (by simp))) (fun i e j x p q => (match hg i e j x p q with | ⟨v, a, b⟩ => ⟨v, a, b.mono hm.more⟩)) hb hs' ho

inductive RL (S : Nat → Nat → Option Value) (w : World) : List Value → List V → List Nat → Prop
  | nil : RL S w [] [] []
  | cons {v : Value} {vs : List Value} {x : V} {xs : List V} {b bs : List Nat} (h : RR S w v x b) (t : RL S w vs xs bs) : RL S w (v :: vs) (x :: xs) (b ++ bs)

theorem RL.more {S S' : Nat → Nat → Option Value} {w : World} {v : List Value} {x : List V} {bs cs : List Nat} (h : RL S w v x bs) (hm : More cs S S') : (∀ b, b ∈ bs → b ∈ cs) → RL S' w v x bs := by
  induction h with
  | nil => intro _; exact .nil
  | cons h t ih => intro hs; exact .cons (h.more hm fun b hb => hs b (by simp [hb])) (ih fun b hb => hs b (by simp [hb]))

/-- A part: a value, or a struct of values. -/
inductive RP (S : Nat → Nat → Option Value) (w : World) : Value → V → List Nat → Prop
  | one {v : Value} {x : V} {bs : List Nat} (hx : ∀ l, x ≠ .agg l) (h : RR S w v x bs) : RP S w v x bs
  | agg {cs : Array Value} {xs : List V} {bs : List Nat} (h1 : ∀ (i : Nat) v, cs[i]? = some v → v.oneCell' = true) (h : RL S w cs.toList xs bs) : RP S w (.agg cs) (.agg xs) bs

theorem RP.more {S S' : Nat → Nat → Option Value} {w : World} {v : Value} {x : V} {bs cs : List Nat} (h : RP S w v x bs) (hm : More cs S S') (hs : ∀ b, b ∈ bs → b ∈ cs) : RP S' w v x bs := by
  cases h with
  | one hx h => exact .one hx (h.more hm hs)
  | agg h1 h => exact .agg h1 (h.more hm hs)

inductive RPL (S : Nat → Nat → Option Value) (w : World) : List Value → List V → List Nat → Prop
  | nil : RPL S w [] [] []
  | cons {v : Value} {vs : List Value} {x : V} {xs : List V} {b bs : List Nat} (h : RP S w v x b) (t : RPL S w vs xs bs) : RPL S w (v :: vs) (x :: xs) (b ++ bs)

theorem RPL.more {S S' : Nat → Nat → Option Value} {w : World} {v : List Value} {x : List V} {bs cs : List Nat} (h : RPL S w v x bs) (hm : More cs S S') : (∀ b, b ∈ bs → b ∈ cs) → RPL S' w v x bs := by
  induction h with
  | nil => intro _; exact .nil
  | cons h t ih => intro hs; exact .cons (h.more hm fun b hb => hs b (by simp [hb])) (ih fun b hb => hs b (by simp [hb]))

/-- A result: a part, or parts. -/
inductive RA (S : Nat → Nat → Option Value) (w : World) : Value → V → List Nat → Prop
  | one {v : Value} {x : V} {bs : List Nat} (hx : ∀ l, x ≠ .tup l) (h : RP S w v x bs) : RA S w v x bs
  | tup {cs : Array Value} {xs : List V} {bs : List Nat} (h : RPL S w cs.toList xs bs) : RA S w (.tuple cs) (.tup xs) bs

/-- The rows that are seen lie in these blocks. -/
def Cover (g : Gh) (seen bs : List Nat) : Prop := ∀ b, b ∈ bs → ∃ r, r ∈ seen ∧ ∃ y, g.mu r = some y ∧ y.1 = b

structure RetOk (B : Nat) (w0 : World) (w : World) (g : Gh) (h h' : Heap) (seen seen' : List Nat) (BS bs : List Nat) (S : Nat → Nat → Option Value) : Prop where
  pub : PubOk seen B w0 g h h' w S
  cover : Cover g seen' (bs ++ BS)
  nodup : bs.Nodup
  new : ∀ b, b ∈ bs → b ∉ BS
  high : ∀ b, b ∈ bs → B ≤ b ∧ b < w.heap.size
  sub : ∀ r, r ∈ seen → r ∈ seen'

theorem Kept.weak {seen seen' : List Nat} {g : Gh} {S : Nat → Nat → Option Value} {h h' : Heap} (k : Kept seen' g S h h') (hs : ∀ r, r ∈ seen → r ∈ seen') : Kept seen g S h h' :=
  ⟨k.n, fun r hr => k.row r (hs r hr), fun r hr => k.shut r (hs r hr), k.same, k.mp, k.dead⟩
theorem PubOk.weak {seen seen' : List Nat} {B : Nat} {w0 : World} {g : Gh} {h h' : Heap} {w : World} {S : Nat → Nat → Option Value} (k : PubOk seen' B w0 g h h' w S) (hs : ∀ r, r ∈ seen → r ∈ seen') : PubOk seen B w0 g h h' w S := ⟨k.grown, k.world, k.kept.weak hs⟩

theorem PubOk.more {seen : List Nat} {B : Nat} {w0 : World} {g : Gh} {h h' : Heap} {w : World} {S : Nat → Nat → Option Value} (k : PubOk seen B w0 g h h' w S) {bs : List Nat} (hc : Cover g seen bs) : More bs g.S S :=
  ⟨k.grown.ext.S, fun b hb o v hv => by
    obtain ⟨r, hr, y, hy, rfl⟩ := hc b hb
    exact k.kept.shut r hr y hy o v hv⟩

theorem RetOk.trans {B : Nat} {w0 : World} {w : World} {g : Gh} {h h' h'' : Heap} {s s' s'' : List Nat} {BS b1 b2 : List Nat} {S S' : Nat → Nat → Option Value} (p : RetOk B w0 w g h h' s s' BS b1 S) (q : RetOk B w0 w (g.say S) h' h'' s' s'' (b1 ++ BS) b2 S') :
    RetOk B w0 w g h h'' s s'' BS (b1 ++ b2) S' where
  pub := p.pub.trans (q.pub.weak p.sub)
  cover := fun b hb => by
    have : b ∈ b2 ++ (b1 ++ BS) := by simp at hb ⊢; rcases hb with h | h | h <;> simp [h]
    exact q.cover b this
  nodup := by
    rw [List.nodup_append]
    refine ⟨p.nodup, q.nodup, fun a ha b hb e => ?_⟩
    subst e
    exact q.new a hb (by simp [ha])
  new := fun b hb => by
    rw [List.mem_append] at hb
    rcases hb with hb | hb
    · exact p.new b hb
    · exact fun hB => q.new b hb (by simp [hB])
  high := fun b hb => by
    rw [List.mem_append] at hb
    rcases hb with hb | hb
    · exact p.high b hb
    · exact q.high b hb
  sub := fun r hr => q.sub r (p.sub r hr)

/-- The rest leaves what is handed over already as it is. -/
theorem RetOk.more {B : Nat} {w0 : World} {w : World} {g : Gh} {h h' h'' : Heap} {s s' s'' : List Nat} {BS b1 b2 : List Nat} {S S' : Nat → Nat → Option Value} (p : RetOk B w0 w g h h' s s' BS b1 S) (q : RetOk B w0 w (g.say S) h' h'' s' s'' (b1 ++ BS) b2 S') : More b1 S S' :=
  let m := q.pub.more (bs := b1 ++ BS) p.cover
  ⟨m.more, fun b hb => m.keep b (by simp [hb])⟩

theorem RetOk.refl {B : Nat} {w0 : World} {w : World} {g : Gh} {h : Heap} {s BS : List Nat} (hW : W B w0 g h w) (hc : Cover g s BS) : RetOk B w0 w g h h s s BS [] g.S :=
  ⟨.refl hW, hc, by simp, by simp, by simp, fun _ h => h⟩

theorem RetOk.data {B : Nat} {w0 : World} {w : World} {g : Gh} {h h' : Heap} {s BS : List Nat} {S : Nat → Nat → Option Value} (hp : PubOk s B w0 g h h' w S) (hc : Cover g s BS) : RetOk B w0 w g h h' s s BS [] S :=
  ⟨hp, hc, by simp, by simp, by simp, fun _ h => h⟩

theorem retV_sound {B : Nat} {w0 : World} {g : Gh} {h : Heap} {w : World} {v : Value} {x x' : V} {h' : Heap} {seen seen' BS : List Nat} (hW : W B w0 g h w) (hR : R g v x) (hc : Cover g seen BS) (hr : retV h seen x = some (x', h', seen')) :
    ∃ S bs, RetOk B w0 w g h h' seen seen' BS bs S ∧ RR S w v x' bs ∧ ((∀ l, x ≠ .agg l) → ∀ l, x' ≠ .agg l) ∧ ((∀ l, x ≠ .tup l) → ∀ l, x' ≠ .tup l) := by
  have dat : (match pub seen depth h x with | some (v', h') => some (v', h', seen) | none => none) = some (x', h', seen') → ∃ S bs, RetOk B w0 w g h h' seen seen' BS bs S ∧ RR S w v x' bs ∧ ((∀ l, x ≠ .agg l) → ∀ l, x' ≠ .agg l) ∧ ((∀ l, x ≠ .tup l) → ∀ l, x' ≠ .tup l) := by
    intro he
    split at he
    · rename_i y h1 hp
      cases he
      obtain ⟨S, p, q, s⟩ := pub_sound seen depth hW hR hp
      refine ⟨S, [], .data p hc, .data q, s.2.2, fun hx l e => ?_⟩
      subst e
      have hf := s.1
      cases x with
      | tup l => exact hx l rfl
      | fsl => exact hR.fsl_inv
      | _ => cases hf
    · cases he
  unfold retV at hr
  split at hr
  · rename_i r ver o n c
    split at hr
    · rename_i ver' ty sz pub0 cap es ho
      cases hb : (Nat.beq ver ver' && Nat.beq o 0 && Nat.beq n (List.len es) && noCap c && !(memN r seen)) with
      | false =>
        rw [hb] at hr
        exact dat hr
      | true =>
        rw [hb] at hr
        simp only [cond_true] at hr
        simp only [Bool.and_eq_true, Bool.not_eq_true', Nat.beq_eq, List.len_eq] at hb
        obtain ⟨⟨⟨⟨hv1, ho0⟩, hn0⟩, hc0⟩, hseen⟩ := hb
        have hn0 : n = es.length := hn0
        have ho0 : o = 0 := ho0
        have hv1 : ver = ver' := hv1
        subst hv1; subst ho0; subst hn0
        have hc1 : c = none := by cases c with | none => rfl | some _ => cases hc0
        subst hc1
        split at hr
        · rename_i es' h1 hes
          split at hr
          · rename_i v2 t2 s2 pb2 c2 e2 hr2
            cases hr
            obtain ⟨hv, b, k, C, fr, hm, hrow, hlt⟩ := hW.row ho
            obtain ⟨S1, k1, n1, g1, s1⟩ := pubL_sound (pub_sound (r :: seen) depth) es (vs := (List.range es.length).map fun i => elemVal C (i * sz) (es.getD i undef)) hW (by simp) (fun i u e hu he => by
              have hi := lt_of_getElem?_list he
              simp only [List.getElem?_map] at hu
              rw [List.getElem?_range hi] at hu
              simp only [Option.map_some, Option.some.injEq] at hu
              subst hu
              have : es.getD i undef = e := by simp [List.getD_eq_getElem?_getD, he]
              rw [this]
              exact elemVal_R fun j x hx => hrow.cells _ _ _ _ he hx) hes
            have hsame := k1.kept.row r (by simp)
            rw [ho, hr2] at hsame
            cases hsame
            have hns : r ∉ seen := fun e => by rw [(memN_iff r seen).2 e] at hseen; cases hseen
            obtain ⟨a, cp, vr', rfl, hv', hle', hn, hcc, hpt⟩ := hR.sl_inv
            rw [hv] at hv'; cases hv'
            obtain ⟨k2, sz2, hm2, hoff, hs, hk, hck⟩ := hpt rfl
            rw [hm] at hm2
            simp only [Option.some.injEq, Prod.mk.injEq] at hm2
            obtain ⟨hb', rfl, rfl⟩ := hm2
            have hcap : cp = k := by have := hck rfl; omega
            subst hcap
            have hB := hW.high r _ hm
            have hshut := k1.kept.shut r (by simp) _ hm
            have hel' : ∀ (i : Nat) e', es'[i]? = some e' → ∃ e, es[i]? = some e ∧ Shape e e' ∧ GR S1 (elemVal C (i * sz) e) e' := by
              intro i e' he'
              have hi : i < es.length := by rw [← n1]; exact lt_of_getElem?_list he'
              obtain ⟨e, he⟩ := getElem?_of_lt_list es i hi
              refine ⟨e, he, s1 i e e' he he', ?_⟩
              refine g1 i _ e' ?_ he'
              simp only [List.getElem?_map]
              rw [List.getElem?_range hi]
              simp [List.getD_eq_getElem?_getD, he]
            have hrow' : RowOk (Gh.data S1) w b cp sz ty pub0 cap es' C fr := by
              refine ⟨hrow.at_, hrow.csize, hrow.pos, by rw [n1]; exact hrow.fits, by rw [n1]; exact hrow.pubs, hrow.caps, fun i e' he' => ?_, fun i e' j x he' hx => ?_, fun o v hv => hrow.shut o v (hshut o v hv), hrow.ice⟩
              · obtain ⟨e, he, hsh, _⟩ := hel' i e' he'
                rw [hsh.1, hsh.2.1]; exact hrow.elems _ _ he
              · obtain ⟨e, he, hsh, hgr⟩ := hel' i e' he'
                obtain ⟨y, hy⟩ := getElem?_of_lt_list e.cells j (by rw [← hsh.2.1]; exact lt_of_getElem?_list hx)
                obtain ⟨u, p, q, _⟩ := hrow.cells _ _ _ _ he hy
                have := elemVal_GR hsh hgr j x hx
                rw [getD_some' p] at this
                exact ⟨u, p, q, .gnd this⟩
            refine ⟨S1, [b], ⟨k1.weak (fun r hr => by simp [hr]), ?_, by simp, ?_, ?_, fun r hr => by simp [hr]⟩, ?_, ⟨fun _ vs e => (by cases e), fun _ vs e => (by cases e)⟩⟩
            · intro q hq
              simp only [List.cons_append, List.nil_append, List.mem_cons] at hq
              rcases hq with rfl | hq
              · exact ⟨r, by simp, _, hm, rfl⟩
              · obtain ⟨r', h1, h2⟩ := hc q hq
                exact ⟨r', by simp [h1], h2⟩
            · intro q hq hB'
              simp only [List.mem_cons, List.not_mem_nil, or_false] at hq
              subst hq
              obtain ⟨r', h1, y, h2, h3⟩ := hc q hB'
              have := hW.inj r' r _ _ h2 hm h3
              subst this
              exact hns h1
            · intro q hq
              simp only [List.mem_cons, List.not_mem_nil, or_false] at hq
              subst hq; exact hB
            · rw [← n1]
              refine .whole hrow' (fun i e' j x he' hx => ?_) hb'.symm hs (fun h => by have := hoff h; omega)
              obtain ⟨e, he, hsh, hgr⟩ := hel' i e' he'
              obtain ⟨y, hy⟩ := getElem?_of_lt_list e.cells j (by rw [← hsh.2.1]; exact lt_of_getElem?_list hx)
              obtain ⟨u, p, q, _⟩ := hrow.cells _ _ _ _ he hy
              have := elemVal_GR hsh hgr j x hx
              rw [getD_some' p] at this
              exact ⟨u, p, this⟩
          · cases hr
        · cases hr
    · cases hr
  · rename_i x hx
    exact dat hr

theorem retL_cons (v : V) (l : List V) (h : Heap) (seen : List Nat) : retL (v :: l) h seen = match retV h seen v with
    | none => none
    | some (v', h1, s1) => match retL l h1 s1 with
      | none => none
      | some (l', h2, s2) => some (v' :: l', h2, s2) := rfl

theorem retL_sound {B : Nat} {w0 : World} {w : World} (l : List V) : ∀ {g : Gh} {h : Heap} {vs : List Value} {l' : List V} {h' : Heap} {seen seen' BS : List Nat}, W B w0 g h w → vs.length = l.length → (∀ (i : Nat) v x, vs[i]? = some v → l[i]? = some x → R g v x) →
    Cover g seen BS → retL l h seen = some (l', h', seen') → ∃ S bs, RetOk B w0 w g h h' seen seen' BS bs S ∧ RL S w vs l' bs := by
  induction l with
  | nil =>
    intro g h vs l' h' seen seen' BS hW hn hR hc hr
    cases hr
    cases vs with
    | nil => exact ⟨g.S, [], .refl hW hc, .nil⟩
    | cons _ _ => simp at hn
  | cons a l ih =>
    intro g h vs l' h' seen seen' BS hW hn hR hc hr
    rw [retL_cons] at hr
    cases vs with
    | nil => simp at hn
    | cons u us =>
      split at hr
      · cases hr
      · rename_i a' h1 sn1 ha
        split at hr
        · cases hr
        · rename_i l1 h2 sn2 hl
          cases hr
          obtain ⟨S1, b1, r1, q1, _⟩ := retV_sound hW (hR 0 u a rfl rfl) hc ha
          obtain ⟨S2, b2, r2, q2⟩ := ih (vs := us) r1.pub.world (by simpa using hn) (fun i v x p q => (hR (i + 1) v x (by simpa using p) (by simpa using q)).mono r1.pub.grown.ext) r1.cover hl
          exact ⟨S2, b1 ++ b2, r1.trans r2, .cons (q1.more (r1.more r2) fun _ h => h) q2⟩

theorem retPart_sound {B : Nat} {w0 : World} {g : Gh} {h : Heap} {w : World} {v : Value} {x x' : V} {h' : Heap} {seen seen' BS : List Nat} (hW : W B w0 g h w) (hR : R g v x) (hc : Cover g seen BS) (hr : retPart h seen x = some (x', h', seen')) :
    ∃ S bs, RetOk B w0 w g h h' seen seen' BS bs S ∧ RP S w v x' bs ∧ ((∀ l, x ≠ .tup l) → ∀ l, x' ≠ .tup l) := by
  unfold retPart at hr
  split at hr
  · rename_i vs
    split at hr
    · rename_i l h1 s1 hl
      cases hr
      obtain ⟨cs, rfl, hn, h1, h⟩ := hR.agg_inv
      obtain ⟨S, bs, p, q⟩ := retL_sound vs (vs := cs.toList) hW (by simpa using hn) (fun i v x a b => h i v x (by simpa using a) b) hc hl
      exact ⟨S, bs, p, .agg h1 q, fun _ l e => by cases e⟩
    · cases hr
  · rename_i x hx
    obtain ⟨S, bs, p, q, r, t⟩ := retV_sound hW hR hc hr
    exact ⟨S, bs, p, .one (r hx) q, t⟩

theorem retParts_cons (v : V) (l : List V) (h : Heap) (seen : List Nat) : retParts (v :: l) h seen = match retPart h seen v with
    | none => none
    | some (v', h1, s1) => match retParts l h1 s1 with
      | none => none
      | some (l', h2, s2) => some (v' :: l', h2, s2) := rfl

theorem retParts_sound {B : Nat} {w0 : World} {w : World} (l : List V) : ∀ {g : Gh} {h : Heap} {vs : List Value} {l' : List V} {h' : Heap} {seen seen' BS : List Nat}, W B w0 g h w → vs.length = l.length → (∀ (i : Nat) v x, vs[i]? = some v → l[i]? = some x → R g v x) →
    Cover g seen BS → retParts l h seen = some (l', h', seen') → ∃ S bs, RetOk B w0 w g h h' seen seen' BS bs S ∧ RPL S w vs l' bs := by
  induction l with
  | nil =>
    intro g h vs l' h' seen seen' BS hW hn hR hc hr
    cases hr
    cases vs with
    | nil => exact ⟨g.S, [], .refl hW hc, .nil⟩
    | cons _ _ => simp at hn
  | cons a l ih =>
    intro g h vs l' h' seen seen' BS hW hn hR hc hr
    rw [retParts_cons] at hr
    cases vs with
    | nil => simp at hn
    | cons u us =>
      split at hr
      · cases hr
      · rename_i a' h1 sn1 ha
        split at hr
        · cases hr
        · rename_i l1 h2 sn2 hl
          cases hr
          obtain ⟨S1, b1, r1, q1, _⟩ := retPart_sound hW (hR 0 u a rfl rfl) hc ha
          obtain ⟨S2, b2, r2, q2⟩ := ih (vs := us) r1.pub.world (by simpa using hn) (fun i v x p q => (hR (i + 1) v x (by simpa using p) (by simpa using q)).mono r1.pub.grown.ext) r1.cover hl
          exact ⟨S2, b1 ++ b2, r1.trans r2, .cons (q1.more (r1.more r2) fun _ h => h) q2⟩

theorem retAll_sound {B : Nat} {w0 : World} {g : Gh} {h : Heap} {w : World} {v : Value} {x x' : V} (hW : W B w0 g h w) (hR : R g v x) (hr : retAll h x = some x') :
    ∃ S h' bs, Grown B g (g.say S) ∧ W B w0 (g.say S) h' w ∧ RA S w v x' bs ∧ bs.Nodup ∧ ∀ b, b ∈ bs → B ≤ b ∧ b < w.heap.size := by
  have hc : Cover g [] [] := fun b hb => by simp at hb
  unfold retAll at hr
  split at hr
  · rename_i vs
    split at hr
    · rename_i l hs hl
      cases hr
      obtain ⟨cs, rfl, hn, h⟩ := hR.tup_inv
      obtain ⟨h1, s1⟩ := hs
      obtain ⟨S, bs, p, q⟩ := retParts_sound vs (vs := cs.toList) hW (by simpa using hn) (fun i v x a b => h i v x (by simpa using a) b) hc hl
      exact ⟨S, _, bs, p.pub.grown, p.pub.world, .tup q, p.nodup, p.high⟩
    · cases hr
  · rename_i x hx
    split at hr
    · rename_i y hs hl
      cases hr
      obtain ⟨h1, s1⟩ := hs
      obtain ⟨S, bs, p, q, t⟩ := retPart_sound hW hR hc hl
      exact ⟨S, _, bs, p.pub.grown, p.pub.world, .one (t hx) q, p.nodup, p.high⟩
    · cases hr

/-- The caller's side: blocks that nothing of the caller's names. -/
def Free (B : Nat) (g : Gh) (w : World) (bs : List Nat) : Prop := ∀ b, b ∈ bs → B ≤ b ∧ b < w.heap.size ∧ ∀ q x, g.mu q = some x → x.1 ≠ b

structure ThawOk (B : Nat) (w0 : World) (g : Gh) (h h' : Heap) (w : World) (bs : List Nat) (g' : Gh) : Prop where
  grown : Grown B g g'
  world : W B w0 g' h' w
  S : g'.S = g.S
  mu : ∀ q x, g'.mu q = some x → g.mu q = some x ∨ x.1 ∈ bs

theorem ThawOk.refl {B : Nat} {w0 : World} {g : Gh} {h : Heap} {w : World} (hW : W B w0 g h w) : ThawOk B w0 g h h w [] g := ⟨Grown.refl _ _, hW, rfl, fun _ _ h => .inl h⟩

theorem ThawOk.trans {B : Nat} {w0 : World} {g g' g'' : Gh} {h h' h'' : Heap} {w : World} {b1 b2 : List Nat} (p : ThawOk B w0 g h h' w b1 g') (q : ThawOk B w0 g' h' h'' w b2 g'') : ThawOk B w0 g h h'' w (b1 ++ b2) g'' :=
  ⟨p.grown.trans q.grown, q.world, q.S.trans p.S, fun r x hr => by
    rcases q.mu r x hr with h | h
    · rcases p.mu r x h with h | h
      · exact .inl h
      · exact .inr (by simp [h])
    · exact .inr (by simp [h])⟩

theorem Free.left {B : Nat} {g : Gh} {w : World} {b1 b2 : List Nat} (h : Free B g w (b1 ++ b2)) : Free B g w b1 := fun b hb => h b (by simp [hb])
theorem Free.right {B : Nat} {w0 : World} {g g' : Gh} {h h' : Heap} {w : World} {b1 b2 : List Nat} (hf : Free B g w (b1 ++ b2)) (hn : (b1 ++ b2).Nodup) (t : ThawOk B w0 g h h' w b1 g') : Free B g' w b2 := fun b hb => by
  obtain ⟨p, q, r⟩ := hf b (by simp [hb])
  refine ⟨p, q, fun z x hz => ?_⟩
  rcases t.mu z x hz with e | e
  · exact r z x e
  · rw [List.nodup_append] at hn
    intro e'; subst e'
    exact hn.2.2 _ e _ hb rfl

theorem thaw1_sound {B : Nat} {w0 : World} {g : Gh} {h : Heap} {w : World} {v : Value} {x : V} {bs : List Nat} (hW : W B w0 g h w) (hR : RR g.S w v x bs) (hF : Free B g w bs) : ∃ g', ThawOk B w0 g h (thaw1 h x).2 w bs g' ∧ R g' v (thaw1 h x).1 := by
  cases hR with
  | data hR =>
    have e : thaw1 h x = (x, h) := by cases hR <;> rfl
    rw [e]; exact ⟨g, .refl hW, .gnd hR⟩
  | whole hrow hg hb hs ho =>
    rename_i b k sz ty pub cap es C fr a
    obtain ⟨hB, hlt, hfree⟩ := hF b (by simp)
    change ∃ g', ThawOk B w0 g h (h.new (.row 0 ty sz pub cap es)) w [b] g' ∧ R g' _ (.sl h.n 0 0 (List.len es) none)
    refine ⟨g.new h.n (b, k, sz) (some 0), ⟨⟨Ext.new hW _ _, fun _ _ _ _ e => e⟩, ?_, rfl, fun q x hq => ?_⟩, ?_⟩
    · have hx : Ext (Gh.data g.S) (g.new h.n (b, k, sz) (some 0)) := Ext.data fun _ _ _ e => e
      refine hW.turn h.n (b, k, sz) ⟨rfl, rfl, rfl, Nat.le_refl _, fun _ _ => rfl⟩ (Ext.new hW _ _) (.inr ⟨Heap.n_new _ _, rfl⟩) (fun q hq => by simp [Gh.new, hq]) (fun q hq => by rw [Heap.get_new, if_neg (fun e => hq e.symm)])
        (fun q hq => by simp [Gh.new, hq]) (by simp [Gh.new]) (by simp [Gh.new, Heap.get_new, verOf]) (fun q x hq hm => ⟨hfree q x hm, rfl, fun _ _ e => e⟩) ?_ ⟨hB, hlt⟩ hW.shut
      rw [Heap.get_new, if_pos rfl]
      exact ⟨rfl, C, fr, hrow.at_, hrow.csize, hrow.pos, hrow.fits, hrow.pubs, hrow.caps, hrow.elems, fun i e j y he hy => (match hrow.cells i e j y he hy with | ⟨v, p, q, s⟩ => ⟨v, p, q, s.mono hx⟩), hrow.shut, hrow.ice⟩
    · by_cases e : q = h.n
      · simp only [Gh.new, e, if_true, Option.some.injEq] at hq
        subst hq; exact .inr (by simp)
      · simp only [Gh.new, if_neg e] at hq
        exact .inl hq
    · rw [List.len_eq]
      refine .sl (ver' := 0) (by simp [Gh.new]) (Nat.le_refl _) hrow.fits (fun _ e => by cases e) fun _ => ⟨k, sz, by simp [Gh.new, hb], fun hk => by rw [ho hk]; simp, hs, by omega, fun _ => by omega⟩

theorem thawL_cons (v : V) (l : List V) (h : Heap) : thawL (v :: l) h = match thaw1 h v with
    | (v', h1) => match thawL l h1 with
      | (l', h2) => (v' :: l', h2) := rfl

theorem thawL_sound {B : Nat} {w0 : World} {w : World} {S : Nat → Nat → Option Value} {vs : List Value} {l : List V} {bs : List Nat} (hR : RL S w vs l bs) : ∀ {g : Gh} {h : Heap}, W B w0 g h w → g.S = S → Free B g w bs → bs.Nodup →
    ∃ g', ThawOk B w0 g h (thawL l h).2 w bs g' ∧ Rs' g' vs.toArray (thawL l h).1 := by
  induction hR with
  | nil => intro g h hW _ _ _; exact ⟨g, .refl hW, rfl, fun i v x e => by simp at e⟩
  | cons h1 t ih =>
    rename_i v vs x xs b bs
    intro g h hW hS hF hn
    subst hS
    obtain ⟨g1, t1, r1⟩ := thaw1_sound hW h1 hF.left
    obtain ⟨g2, t2, r2⟩ := ih t1.world t1.S (hF.right hn t1) (by rw [List.nodup_append] at hn; exact hn.2.1)
    rw [thawL_cons]
    refine ⟨g2, t1.trans t2, by simpa using r2.1, fun i v x p q => ?_⟩
    cases i with
    | zero => simp at p q; subst p; subst q; exact r1.mono t2.grown.ext
    | succ i => exact r2.2 i v x (by simpa using p) (by simpa using q)

theorem thawPart_sound {B : Nat} {w0 : World} {g : Gh} {h : Heap} {w : World} {v : Value} {x : V} {bs : List Nat} (hW : W B w0 g h w) (hR : RP g.S w v x bs) (hF : Free B g w bs) (hn : bs.Nodup) : ∃ g', ThawOk B w0 g h (thawPart h x).2 w bs g' ∧ R g' v (thawPart h x).1 := by
  cases hR with
  | one hx hR =>
    have e : thawPart h x = thaw1 h x := by cases x <;> first | rfl | exact absurd rfl (hx _)
    rw [e]; exact thaw1_sound hW hR hF
  | agg h1 hR =>
    rename_i cs xs
    obtain ⟨g', t, r⟩ := thawL_sound hR hW rfl hF hn
    have e : thawPart h (.agg xs) = (.agg (thawL xs h).1, (thawL xs h).2) := rfl
    rw [e]
    exact ⟨g', t, .agg (by have := r.1; simpa using this) h1 fun i v x p q => r.2 i v x (by simpa using p) q⟩

theorem thawParts_cons (v : V) (l : List V) (h : Heap) : thawParts (v :: l) h = match thawPart h v with
    | (v', h1) => match thawParts l h1 with
      | (l', h2) => (v' :: l', h2) := rfl

theorem thawParts_sound {B : Nat} {w0 : World} {w : World} {S : Nat → Nat → Option Value} {vs : List Value} {l : List V} {bs : List Nat} (hR : RPL S w vs l bs) : ∀ {g : Gh} {h : Heap}, W B w0 g h w → g.S = S → Free B g w bs → bs.Nodup →
    ∃ g', ThawOk B w0 g h (thawParts l h).2 w bs g' ∧ Rs' g' vs.toArray (thawParts l h).1 := by
  induction hR with
  | nil => intro g h hW _ _ _; exact ⟨g, .refl hW, rfl, fun i v x e => by simp at e⟩
  | cons h1 t ih =>
    rename_i v vs x xs b bs
    intro g h hW hS hF hn
    subst hS
    obtain ⟨g1, t1, r1⟩ := thawPart_sound hW h1 hF.left (by rw [List.nodup_append] at hn; exact hn.1)
    obtain ⟨g2, t2, r2⟩ := ih t1.world t1.S (hF.right hn t1) (by rw [List.nodup_append] at hn; exact hn.2.1)
    rw [thawParts_cons]
    refine ⟨g2, t1.trans t2, by simpa using r2.1, fun i v x p q => ?_⟩
    cases i with
    | zero => simp at p q; subst p; subst q; exact r1.mono t2.grown.ext
    | succ i => exact r2.2 i v x (by simpa using p) (by simpa using q)

theorem thaw_sound {B : Nat} {w0 : World} {g : Gh} {h : Heap} {w : World} {v : Value} {x : V} {bs : List Nat} (hW : W B w0 g h w) (hR : RA g.S w v x bs) (hF : Free B g w bs) (hn : bs.Nodup) : ∃ g', ThawOk B w0 g h (thaw h x).2 w bs g' ∧ R g' v (thaw h x).1 := by
  cases hR with
  | one hx hR =>
    have e : thaw h x = thawPart h x := by cases x <;> first | rfl | exact absurd rfl (hx _)
    rw [e]; exact thawPart_sound hW hR hF hn
  | tup hR =>
    rename_i cs xs
    obtain ⟨g', t, r⟩ := thawParts_sound hR hW rfl hF hn
    have e : thaw h (.tup xs) = (.tup (thawParts xs h).1, (thawParts xs h).2) := rfl
    rw [e]
    exact ⟨g', t, .tup (by have := r.1; simpa using this) fun i v x p q => r.2 i v x (by simpa using p) q⟩

/-- A world that a pure call has made, and the caller's heap. -/
theorem W.join {B : Nat} {w0 : World} {g : Gh} {h : Heap} {w w' : World} (hW : W B w0 g h w) (hl : Below w.heap.size w w') {S : Nat → Nat → Option Value} (hm : ∀ b o v, g.S b o = some v → S b o = some v) (hk : ∀ b o v, b < w.heap.size → S b o = some v → g.S b o = some v) (hs : Sealed S w') :
    Grown B g (g.say S) ∧ W B w0 (g.say S) h w' := by
  have hb := hW.base
  refine ⟨⟨Ext.say hm, fun b o v hb' e => hk b o v (by omega) e⟩, ?_⟩
  have hl' : Below B w w' := ⟨hl.os, hl.tape, hl.output, hl.size, fun k hk => hl.block k (by omega)⟩
  exact ⟨hW.low.trans hl', Nat.le_trans hW.base hl.size, hs, hW.dom, hW.out, hW.ver, fun r x hr => (hW.obj r x hr).mono (Ext.say hm) (hl.block _ (hW.high r x hr).2) (fun o v e => hk _ o v (hW.high r x hr).2 e), hW.inj, fun r x hr => ⟨(hW.high r x hr).1, Nat.lt_of_lt_of_le (hW.high r x hr).2 hl.size⟩⟩

/-- The heap of a pure call, as it begins. -/
theorem W.start {S : Nat → Nat → Option Value} {w : World} (hs : Sealed S w) : W w.heap.size w (Gh.data S) Heap.empty w where
  low := ⟨rfl, rfl, rfl, Nat.le_refl _, fun _ _ => rfl⟩
  base := Nat.le_refl _
  shut := hs
  dom := fun r hr => absurd hr (Nat.not_lt_zero _)
  out := fun r _ => ⟨rfl, rfl⟩
  ver := fun r => rfl
  obj := fun r x e => by cases e
  inj := fun r r' x x' e => by cases e
  high := fun r x e => by cases e

end Go.AM
