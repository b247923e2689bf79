/-
  What a pure call hands back, made data at once; plain numbers and texts.
-/
import Derived.Test.YtaahfplokcfncaaGreatDoorAmHand
namespace Go.AM
open Go.RowKit

variable {B : Nat} {w0 : World}

/-- More is said of blocks that nothing names. -/
theorem W.sayFree {g : Gh} {h : Heap} {w : World} (hW : W B w0 g h w) {S : Nat → Nat → Option Value} (hm : ∀ b o v, g.S b o = some v → S b o = some v) (hk : ∀ q x, g.mu q = some x → ∀ o v, S x.1 o = some v → g.S x.1 o = some v) (hs : Sealed S w) : W B w0 (g.say S) h w :=
  ⟨hW.low, hW.base, hs, hW.dom, hW.out, hW.ver, fun r x hr => (hW.obj r x hr).mono (Ext.say hm) rfl (hk r x hr), hW.inj, hW.high⟩

structure StillOk (B : Nat) (w0 : World) (g : Gh) (h : Heap) (w : World) (bs : List Nat) (S : Nat → Nat → Option Value) : Prop where
  grown : Grown B g (g.say S)
  world : W B w0 (g.say S) h w
  keep : ∀ b, ¬ b ∈ bs → ∀ o v, S b o = some v → g.S b o = some v

theorem StillOk.refl {g : Gh} {h : Heap} {w : World} (hW : W B w0 g h w) : StillOk B w0 g h w [] g.S := ⟨Grown.refl _ _, hW, fun _ _ _ _ e => e⟩
theorem StillOk.trans {g : Gh} {h : Heap} {w : World} {b1 b2 : List Nat} {S S' : Nat → Nat → Option Value} (p : StillOk B w0 g h w b1 S) (q : StillOk B w0 (g.say S) h w b2 S') : StillOk B w0 g h w (b1 ++ b2) S' :=
  ⟨p.grown.trans q.grown, q.world, fun b hb o v e => p.keep b (fun h => hb (by simp [h])) o v (q.keep b (fun h => hb (by simp [h])) o v e)⟩
theorem StillOk.more {g : Gh} {h : Heap} {w : World} {b1 b2 : List Nat} {S : Nat → Nat → Option Value} (p : StillOk B w0 g h w b1 S) (hn : (b1 ++ b2).Nodup) : More b2 g.S S :=
  ⟨p.grown.ext.S, fun b hb o v e => p.keep b (fun h => by rw [List.nodup_append] at hn; exact hn.2.2 b h b hb rfl) o v e⟩
theorem StillOk.more1 {g : Gh} {h : Heap} {w : World} {b1 b2 : List Nat} {S : Nat → Nat → Option Value} (p : StillOk B w0 g h w b2 S) (hn : (b1 ++ b2).Nodup) : More b1 g.S S :=
  ⟨p.grown.ext.S, fun b hb o v e => p.keep b (fun h => by rw [List.nodup_append] at hn; exact hn.2.2 b hb b h rfl) o v e⟩

theorem still1_sound {g : Gh} {h : Heap} {w : World} {v : Value} {x : V} {bs : List Nat} (hW : W B w0 g h w) (hR : RR g.S w v x bs) (hF : Free B g w bs) : ∃ S, StillOk B w0 g h w bs S ∧ GR S v (still1 x) := by
  cases hR with
  | data hR =>
    have e : still1 x = x := by cases hR <;> rfl
    rw [e]; exact ⟨g.S, .refl hW, hR⟩
  | whole hrow hg hb hs ho =>
    rename_i b k sz ty pub cap es C fr a
    obtain ⟨hB, hlt, hfree⟩ := hF b (by simp)
    have hm : ∀ b' o v, g.S b' o = some v → said g.S b 0 (es.length * sz) C b' o = some v := fun b' o v hv => by
      unfold said
      split
      · rename_i hc
        obtain ⟨rfl, _⟩ := hc
        obtain ⟨h1, h2⟩ := look_at hrow.at_ (hW.shut _ _ _ hv)
        exact cellO_mk h1 h2
      · exact hv
    have hk : ∀ b', b' ≠ b → ∀ o v, said g.S b 0 (es.length * sz) C b' o = some v → g.S b' o = some v := fun b' hb' o v hv => by
      unfold said at hv
      rw [if_neg (fun q => hb' q.1)] at hv; exact hv
    have hW' := hW.sayFree (S := said g.S b 0 (es.length * sz) C) hm (fun q x hq => hk x.1 (hfree q x hq)) (fun b' o v hv => by
      unfold said at hv
      split at hv
      · rename_i hc
        obtain ⟨rfl, _⟩ := hc
        exact look_cells hrow.at_ (cellO_some hv).1 (cellO_some hv).2
      · exact hW.shut b' o v hv)
    refine ⟨_, ⟨⟨Ext.say hm, fun b' o v hb' e => hk b' (by omega) o v e⟩, hW', fun b' hb' => hk b' (by simpa using hb')⟩, ?_⟩
    change GR _ _ (.gsl sz es cap)
    rw [Addr.eta hs, hb]
    refine .gsl (fun i j => C.getD (i * sz + j) Go.undef) hrow.pos hrow.elems (fun i e j x p q => ?_) (fun c' e => (hrow.caps c' e)) hrow.fits (fun i e j x p q => ?_)
    · obtain ⟨u, p1, p2, _⟩ := hrow.cells i e j x p q
      rw [getD_some' p1]
      refine ⟨?_, p2⟩
      have hi := lt_of_getElem?_list p
      have hj : j < sz := by rw [← (hrow.elems i e p).1]; exact lt_of_getElem?_list q
      have hl := idx_lt hi hj
      have hoff : a.off = 0 := ho (by have := hrow.fits; omega)
      unfold said
      rw [hoff, Nat.zero_add, if_pos ⟨rfl, Nat.zero_le _, hl⟩]; exact cellO_mk p1 p2
    · obtain ⟨u, p1, r⟩ := hg i e j x p q
      rw [getD_some' p1]
      exact r.mono hm

theorem mapL_cons (f : V → V) (x : V) (l : List V) : mapL f (x :: l) = f x :: mapL f l := rfl

theorem Free.say {g : Gh} {w : World} {bs : List Nat} (h : Free B g w bs) (S : Nat → Nat → Option Value) : Free B (g.say S) w bs := h
theorem Free.rest {g : Gh} {w : World} {b1 b2 : List Nat} (h : Free B g w (b1 ++ b2)) : Free B g w b2 := fun b hb => h b (by simp [hb])

theorem stillL_sound {w : World} {h : Heap} (l : List V) : ∀ {g : Gh} {vs : List Value} {bs : List Nat}, RL g.S w vs l bs → W B w0 g h w → Free B g w bs → bs.Nodup →
    ∃ S', StillOk B w0 g h w bs S' ∧ vs.length = (mapL still1 l).length ∧ ∀ (i : Nat) v x, vs[i]? = some v → (mapL still1 l)[i]? = some x → GR S' v x := by
  induction l with
  | nil => intro g vs bs hR hW _ _; cases hR; exact ⟨g.S, .refl hW, rfl, fun i v x e => by simp at e⟩
  | cons x l ih =>
    intro g vs bs hR hW hF hn
    cases hR with
    | cons h1 t =>
      rename_i v vs b bs
      obtain ⟨S1, t1, r1⟩ := still1_sound hW h1 hF.left
      obtain ⟨S2, t2, n2, r2⟩ := ih (g := g.say S1) (t.more (t1.more hn) (fun _ q => q)) t1.world (hF.rest.say S1) (by rw [List.nodup_append] at hn; exact hn.2.1)
      rw [mapL_cons]
      refine ⟨S2, t1.trans t2, by simp [n2], fun i u y p q => ?_⟩
      cases i with
      | zero => simp at p q; subst p; subst q; exact r1.mono t2.grown.ext.S
      | succ i => exact r2 i u y (by simpa using p) (by simpa using q)

theorem stillPart_sound {g : Gh} {h : Heap} {w : World} {v : Value} {x : V} {bs : List Nat} (hW : W B w0 g h w) (hR : RP g.S w v x bs) (hF : Free B g w bs) (hn : bs.Nodup) : ∃ S, StillOk B w0 g h w bs S ∧ GR S v (stillPart x) := by
  cases hR with
  | one hx hR =>
    have e : stillPart x = still1 x := by cases x <;> first | rfl | exact absurd rfl (hx _)
    rw [e]; exact still1_sound hW hR hF
  | agg h1 hR =>
    obtain ⟨S, t, n', r⟩ := stillL_sound _ hR hW hF hn
    exact ⟨S, t, .agg (by simpa using n') h1 fun i v x p q => r i v x (by simpa using p) q⟩

theorem stillPL_sound {w : World} {h : Heap} (l : List V) : ∀ {g : Gh} {vs : List Value} {bs : List Nat}, RPL g.S w vs l bs → W B w0 g h w → Free B g w bs → bs.Nodup →
    ∃ S', StillOk B w0 g h w bs S' ∧ vs.length = (mapL stillPart l).length ∧ ∀ (i : Nat) v x, vs[i]? = some v → (mapL stillPart l)[i]? = some x → GR S' v x := by
  induction l with
  | nil => intro g vs bs hR hW _ _; cases hR; exact ⟨g.S, .refl hW, rfl, fun i v x e => by simp at e⟩
  | cons x l ih =>
    intro g vs bs hR hW hF hn
    cases hR with
    | cons h1 t =>
      rename_i v vs b bs
      obtain ⟨S1, t1, r1⟩ := stillPart_sound hW h1 hF.left (by rw [List.nodup_append] at hn; exact hn.1)
      obtain ⟨S2, t2, n2, r2⟩ := ih (g := g.say S1) (t.more (t1.more hn) (fun _ q => q)) t1.world (hF.rest.say S1) (by rw [List.nodup_append] at hn; exact hn.2.1)
      rw [mapL_cons]
      refine ⟨S2, t1.trans t2, by simp [n2], fun i u y p q => ?_⟩
      cases i with
      | zero => simp at p q; subst p; subst q; exact r1.mono t2.grown.ext.S
      | succ i => exact r2 i u y (by simpa using p) (by simpa using q)

theorem still_sound {g : Gh} {h : Heap} {w : World} {v : Value} {x : V} {bs : List Nat} (hW : W B w0 g h w) (hR : RA g.S w v x bs) (hF : Free B g w bs) (hn : bs.Nodup) : ∃ S, StillOk B w0 g h w bs S ∧ GR S v (still x) := by
  cases hR with
  | one hx hR =>
    have e : still x = stillPart x := by cases x <;> first | rfl | exact absurd rfl (hx _)
    rw [e]; exact stillPart_sound hW hR hF hn
  | tup hR =>
    obtain ⟨S, t, n', r⟩ := stillPL_sound _ hR hW hF hn
    exact ⟨S, t, .tup (by simpa using n') fun i v x p q => r i v x (by simpa using p) q⟩

theorem every_iff {α : Type} (f : α → Bool) (l : List α) : every f l = true ↔ ∀ x, x ∈ l → f x = true := by
  induction l with
  | nil => simp [every]
  | cons x l ih =>
    change (bif f x then every f l else false) = true ↔ _
    cases h : f x <;> simp [ih, h]

theorem plain_R {S : Nat → Nat → Option Value} {w : World} {v : Value} {x : V} {bs : List Nat} (hR : RR S w v x bs) (hp : plain1 x = true) (g : Gh) : R g v x := by
  cases hR with
  | data hR =>
    cases x <;> first | (cases hp; done) | (cases hR; first | exact .gnd (.int _ _) | exact .gnd (.bool _) | exact .gnd (.str ‹_›))
  | whole _ _ _ _ _ => cases hp
theorem plainP_R {S : Nat → Nat → Option Value} {w : World} {v : Value} {x : V} {bs : List Nat} (hR : RP S w v x bs) (hp : plain1 x = true) (g : Gh) : R g v x := by
  cases hR with
  | one _ hR => exact plain_R hR hp g
  | agg _ _ => cases hp
theorem plainPL_R {S : Nat → Nat → Option Value} {w : World} {vs : List Value} {xs : List V} {bs : List Nat} (hR : RPL S w vs xs bs) (hp : ∀ x, x ∈ xs → plain1 x = true) (g : Gh) : vs.length = xs.length ∧ ∀ (i : Nat) v x, vs[i]? = some v → xs[i]? = some x → R g v x := by
  induction hR with
  | nil => exact ⟨rfl, fun i v x p => by simp at p⟩
  | cons h t ih =>
    obtain ⟨e, r⟩ := ih fun x hx => hp x (by simp [hx])
    refine ⟨by simp [e], fun i v x p q => ?_⟩
    cases i with
    | zero => simp at p q; subst p; subst q; exact plainP_R h (hp _ (by simp)) g
    | succ i => exact r i v x (by simpa using p) (by simpa using q)
theorem plainV_R {S : Nat → Nat → Option Value} {w : World} {v : Value} {x : V} {bs : List Nat} (hR : RA S w v x bs) (hp : plainV x = true) (g : Gh) : R g v x := by
  cases hR with
  | one hx hR =>
    have e : plainV x = plain1 x := by cases x <;> first | rfl | exact absurd rfl (hx _)
    rw [e] at hp; exact plainP_R hR hp g
  | tup hR =>
    rename_i cs xs
    obtain ⟨e, r⟩ := plainPL_R hR (fun x hx => (every_iff _ _).1 (show every plain1 xs = true from hp) x hx) g
    exact .tup (by simpa using e) fun i v x p q => r i v x (by simpa using p) q

end Go.AM
