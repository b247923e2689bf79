/-
  New rows; append.
-/
import Derived.Test.YtaahfplokcfncaaGreatDoorAmAppend
namespace Go.AM
open Go.RowKit

/-- A world grown: what was told stays, and below B nothing new is said of the memory that nobody writes. -/
structure Grown (B : Nat) (g g' : Gh) : Prop where
  ext : Ext g g'
  keep : ∀ b o v, b < B → g'.S b o = some v → g.S b o = some v
theorem Grown.refl (B : Nat) (g : Gh) : Grown B g g := ⟨Ext.refl g, fun _ _ _ _ h => h⟩
theorem Grown.trans {B : Nat} {a b c : Gh} (h : Grown B a b) (k : Grown B b c) : Grown B a c := ⟨h.ext.trans k.ext, fun _ _ _ hb e => h.keep _ _ _ hb (k.keep _ _ _ hb e)⟩

theorem W.noS {B : Nat} {w0 : World} {g : Gh} {h : Heap} {w : World} (hW : W B w0 g h w) {b o : Nat} {v : Value} (hb : w.heap.size ≤ b) : g.S b o ≠ some v := fun e => by
  have := look_lt (hW.shut _ _ _ e); omega

theorem W.newRow {B : Nat} {w0 : World} {g : Gh} {h : Heap} {w : World} (hW : W B w0 g h w) {ty sz K : Nat} {cap : Option Nat} {es : List V} {C : Array Value} (hC : C.size = K * sz) (hsz : 0 < sz) (hK : es.length ≤ K) (hcap : ∀ c, cap = some c → K = c)
    (hes : ∀ (i : Nat) e, es[i]? = some e → e.cells.length = sz ∧ e.flat = true) (hrel : ∀ (i : Nat) e (j : Nat) x, es[i]? = some e → e.cells[j]? = some x → ∃ v, C[i * sz + j]? = some v ∧ v.oneCell' = true ∧ R g v x) :
    W B w0 (g.new h.n (w.heap.size, K, sz) (some 0)) (AM.newRow h ty sz 0 cap es) { w with heap := w.heap.push (.cells C ty) } := by
  refine hW.alloc (.cells C ty) (.row 0 ty sz 0 cap es) K sz ⟨rfl, C, (0, 0), ⟨heap_push_new w _, hC, hsz, hK, Nat.zero_le _, hcap, hes, fun i e j x he hx => ?_, fun o v e => absurd e (hW.noS (Nat.le_refl _)), .inl rfl⟩⟩
  obtain ⟨v, a, b, c⟩ := hrel i e j x he hx
  exact ⟨v, a, b, c.mono (Ext.new hW _ _)⟩

theorem Grown.new {B : Nat} {w0 : World} {g : Gh} {h : Heap} {w : World} (hW : W B w0 g h w) (x : Nat × Nat × Nat) (v : Option Nat) : Grown B g (g.new h.n x v) := ⟨Ext.new hW x v, fun _ _ _ _ e => e⟩

theorem R.newSl {g : Gh} {n b K sz m : Nat} (hm : m ≤ K) : R (g.new n (b, K, sz) (some 0)) (.slice (some ⟨b, 0, none⟩) m K) (.sl n 0 0 m none) :=
  .sl (ver' := 0) (by simp [Gh.new]) (Nat.le_refl _) hm (fun _ e => by cases e) fun _ => ⟨K, sz, by simp [Gh.new], fun _ => by simp, rfl, by omega, fun _ => by omega⟩

theorem zeroOk_some {P : Program} {e : TypeId} (h : zeroOk P e = true) : ∃ i z, P.info? e = some i ∧ i.zero = some z ∧ z.cells.size = i.size := by
  unfold zeroOk at h
  split at h
  · rename_i i hi
    split at h
    · rename_i z hz
      rw [Nat.beq_eq] at h
      exact ⟨i, z, hi, hz, h⟩
    · cases h
  · cases h

section
variable {P : Program} {w : World} {ts : Array TypeId} {ty t u e : TypeId} {d : TypeDesc} {inf : TypeInfo}

theorem run_append_fits (h0 : ts[0]? = some t) (h1 : ts[1]? = some u) (ht : P.underlying t = some (.slice e)) (hu : P.underlying u = some d) (hd : ∀ k, d ≠ .int k) (hi : P.info? e = some inf)
    {base : Option Addr} {sLen sCap n : Nat} {x : Value} {news : List Value} (hn : ∀ w', (Builtin.lenOf x).run P w' = .ok n w') (hf : (Builtin.firstCells inf.size n x).run P w = .ok news.toArray w) (hle : sLen + n ≤ sCap) {w' : World}
    (hst : match base with | some a => (storeCells (a.add (sLen * inf.size)) news).run P w = .ok () w' | none => w' = w) :
    (Builtin.append_ ts ty #[.slice base sLen sCap, x]).run P w = .ok (.slice base (sLen + n) sCap) w' := by
  have step := fun (b : Option Addr) (w' : World) (hst : match b with | some a => (storeCells (a.add (sLen * inf.size)) news).run P w = .ok () w' | none => w' = w) =>
    show (Builtin.append_ ts ty #[.slice b sLen sCap, x]).run P w = .ok (.slice b (sLen + n) sCap) w' by
      unfold Builtin.append_
      simp only [h0, h1, List.getElem?_toArray, List.getElem?_cons_zero, List.getElem?_cons_succ, Sem.run_bind, run_underlying ht, run_underlying hu, Result.andThen_ok, Sem.run_pure]
      cases b with
      | none => simp only at hst; subst hst; simp [sizeOf, typeInfo, hi, hn, hf, hle]
      | some a => simp only at hst; simp [sizeOf, typeInfo, hi, hn, hf, hle, hst]
  exact step base w' hst

theorem run_append_grows (h0 : ts[0]? = some t) (h1 : ts[1]? = some u) (ht : P.underlying t = some (.slice e)) (hu : P.underlying u = some d) (hd : ∀ k, d ≠ .int k) (hi : P.info? e = some inf) {z : Value} (hz : inf.zero = some z)
    {base : Option Addr} {sLen sCap n : Nat} {x : Value} {olds news : List Value} (hn : ∀ w', (Builtin.lenOf x).run P w' = .ok n w') (ho : (Builtin.firstCells inf.size sLen (.slice base sLen sCap)).run P w.drew = .ok olds.toArray w.drew) (hf : (Builtin.firstCells inf.size n x).run P w.drew = .ok news.toArray w.drew)
    (hlt : sCap < sLen + n) (h63 : sLen + n ≤ 9223372036854775807) (hfit : Builtin.nextslicecap (sLen + n) sCap * inf.bytes ≤ 281474976710656) :
    (Builtin.append_ ts ty #[.slice base sLen sCap, x]).run P w = .ok (.slice (some ⟨w.heap.size, 0, none⟩) (sLen + n) (grownCap w (sLen + n) sCap e))
      (w.drew.alloc (.cells (olds.toArray ++ news.toArray ++ Builtin.zeroCells z.cells (grownCap w (sLen + n) sCap e - (sLen + n))) e)) := by
  have hle : ¬ (sLen + n ≤ sCap) := by omega
  have h63' : ¬ (9223372036854775807 < ((sLen : Int) + (n : Int))) := by omega
  have h48' : ¬ (281474976710656 < Builtin.nextslicecap (sLen + n) sCap * inf.bytes) := by omega
  unfold Builtin.append_
  simp only [h0, h1, List.getElem?_toArray, List.getElem?_cons_zero, List.getElem?_cons_succ, Sem.run_bind, run_underlying ht, run_underlying hu, Result.andThen_ok, Sem.run_pure]
  simp [sizeOf, typeInfo, zeroValue, hi, hz, hn, hf, ho, hle, h63', h48', Question.forced, Go.newRow, grownCap]
  congr 2
  apply Array.ext'
  simp [List.append_assoc]
end

theorem bif_rs {b : Bool} {x : Rs} {y : V} {h : Heap} (e : (bif b then x else .stuck) = .val y h) : b = true ∧ x = .val y h := by
  cases b with
  | true => exact ⟨rfl, e⟩
  | false => cases e

theorem notIntT_some {P : Program} {u : TypeId} (h : notIntT P u = true) : ∃ d, P.underlying u = some d ∧ ∀ k, d ≠ .int k := by
  unfold notIntT at h
  split at h
  · cases h
  · rename_i d hne hu; exact ⟨d, hu, fun k e => hne k e⟩
  · cases h

theorem sizeCells {P : Program} {e : TypeId} {inf : TypeInfo} (hi : P.info? e = some inf) : size P e = inf.size := by simp [size, Program.cellsOf, hi]
theorem bytesOf_info {P : Program} {e : TypeId} {inf : TypeInfo} (hi : P.info? e = some inf) : P.bytesOf e = inf.bytes := by simp [Program.bytesOf, hi]

/-- What an operation that makes a value comes to. -/
def ValOk (B : Nat) (w0 : World) (g : Gh) (r : Result Value) (y : V) (h : Heap) : Prop := ∃ v w g', r = .ok v w ∧ Grown B g g' ∧ W B w0 g' h w ∧ R g' v y

theorem W.alloc_eq (w : World) (o : Go.Obj) : w.alloc o = { w with heap := w.heap.push o } := rfl

/-- A fresh row holds what was there and what was added. -/
theorem fresh_sound {P : Program} {B : Nat} {w0 : World} {g : Gh} {h : Heap} {w : World} (hW : W B w0 g h w) {ts : Array TypeId} {ty t u e : TypeId} {d : TypeDesc} (h0 : ts[0]? = some t) (h1 : ts[1]? = some u) (ht : P.underlying t = some (.slice e)) (hu : P.underlying u = some d) (hd : ∀ k, d ≠ .int k)
    {base : Option Addr} {sLen sCap n : Nat} {x : Value} {olds news : List Value} {eo en : List V} (hn : ∀ w', (Builtin.lenOf x).run P w' = .ok n w') (hen : n = en.length) (heo : sLen = eo.length) (hpos : 0 < size P e)
    (ho : ∀ w', w'.heap = w.heap → (Builtin.firstCells (size P e) sLen (.slice base sLen sCap)).run P w' = .ok olds.toArray w') (hf : ∀ w', w'.heap = w.heap → (Builtin.firstCells (size P e) n x).run P w' = .ok news.toArray w')
    (hlt : sCap < sLen + n) (hes : EsOk g (size P e) olds eo) (hes' : EsOk g (size P e) news en) {y : V} {h' : Heap} (hr : freshSl P h e (size P e) (sLen + n) (eo ++ en) = .val y h') :
    ValOk B w0 g ((Builtin.append_ ts ty #[.slice base sLen sCap, x]).run P w) y h' := by
  unfold freshSl at hr
  obtain ⟨hb, hr⟩ := bif_rs hr
  cases hr
  simp only [Bool.and_eq_true, Nat.ble_eq] at hb
  obtain ⟨⟨hb1, hb2⟩, hb3⟩ := hb
  obtain ⟨inf, z, hi, hz, hzs⟩ := zeroOk_some hb1
  have hsz := sizeCells hi
  rw [bytesOf_info hi] at hb3
  change (sLen + n) * inf.bytes ≤ room at hb3
  have hroom : room = 1099511627776 := rfl
  have hrun := run_append_grows (P := P) (w := w) (ts := ts) (ty := ty) h0 h1 ht hu hd hi hz hn (hsz ▸ ho w.drew rfl) (hsz ▸ hf w.drew rfl) hlt (by omega) (growslice_fits hlt (by omega))
  have hcap := grownCap_ge w (sLen + n) sCap e
  obtain ⟨K, hK⟩ : ∃ K, grownCap w (sLen + n) sCap e = K := ⟨_, rfl⟩
  rw [hK] at hrun hcap
  have hesA := hes.app hes'
  have hln : (eo ++ en).length = sLen + n := by simp [heo, hen]
  refine ⟨_, _, g.new h.n (w.heap.size, K, size P e) (some 0), hrun, Grown.new hW _ _, ?_, R.newSl hcap⟩
  refine W.newRow (hW.drew (w.drawn + 1)) (C := olds.toArray ++ news.toArray ++ Builtin.zeroCells z.cells (K - (sLen + n))) ?_ hpos (by omega) (fun c e => by cases e) hesA.elems ?_
  · have h2 := hesA.size
    rw [hln] at h2
    simp only [List.length_append] at h2
    simp only [Array.size_append, List.size_toArray, size_zeroCells, hzs, ← hsz]
    rw [h2, ← Nat.add_mul]
    congr 1; omega
  · intro i e' j x' he hx
    obtain ⟨v, hv, h2, h3⟩ := hesA.rel i e' j x' he hx
    refine ⟨v, ?_, h2, h3⟩
    have hlt' := lt_of_getElem?_list hv
    rw [show olds.toArray ++ news.toArray = (olds ++ news).toArray by simp, Array.getElem?_append_left (by simpa using hlt')]
    simpa using hv

/-- A row's first elements kept, others behind them, in place. -/
theorem W.setTail {B : Nat} {w0 : World} {g : Gh} {h : Heap} {w : World} (_hW : W B w0 g h w) {r ver ty sz pub : Nat} {cap : Option Nat} {es : List V} {b k : Nat} {C : Array Value} {fr : Nat × Nat} (_hr : h.get r = .row ver ty sz pub cap es) (_hm : g.mu r = some (b, k, sz)) (hrow : RowOk g w b k sz ty pub cap es C fr)
    {q : Nat} {news : List Value} {en : List V} (hq : q ≤ es.length) (hpub : pub ≤ q) (hk : q + en.length ≤ k) (hen : EsOk g sz news en) :
    RowOk g (blk w b (.cells (over C (q * sz) news) ty fr)) b k sz ty pub cap (es.take q ++ en) (over C (q * sz) news) fr ∧ (∀ o v, g.S b o = some v → C[o]? = some v → (over C (q * sz) news)[o]? = some v) := by
  have hfit : q * sz + news.length ≤ C.size := by
    rw [hrow.csize, hen.size, ← Nat.add_mul]; exact Nat.mul_le_mul_right _ hk
  have hget := over_get C (q * sz) news hfit
  have hln : (es.take q).length = q := by simp; omega
  refine ⟨⟨blk_at w _ _ (block_lt hrow.at_), by rw [over_size]; exact hrow.csize, hrow.pos, by simp; omega, by simp; omega, hrow.caps, ?_, ?_, hrow.shut, hrow.ice⟩, ?_⟩
  · intro i e he
    rw [List.getElem?_append] at he
    split at he
    · rw [List.getElem?_take] at he
      split at he
      · exact hrow.elems i e he
      · cases he
    · exact hen.elems _ e he
  · intro i e j x he hx
    rw [hget]
    rw [List.getElem?_append] at he
    split at he
    · rename_i hi
      rw [hln] at hi
      rw [List.getElem?_take, if_pos hi] at he
      have hj : j < sz := by rw [← (hrow.elems i e he).1]; exact lt_of_getElem?_list hx
      have := idx_lt hi hj
      rw [if_neg (by omega)]
      exact hrow.cells i e j x he hx
    · rename_i hi
      rw [hln] at hi he
      obtain ⟨v, hv, p⟩ := hen.rel _ e j x he hx
      have h1 : q * sz ≤ i * sz + j := idx_ge (by omega)
      have h2 : i * sz + j - q * sz = (i - q) * sz + j := by rw [Nat.sub_mul]; have : q * sz ≤ i * sz := Nat.mul_le_mul_right _ (by omega); omega
      have h3 := lt_of_getElem?_list hv
      rw [if_pos (by omega), h2]
      exact ⟨v, hv, p⟩
  · intro o v hS hC
    have h1 := hrow.shut o v hS
    have h2 : pub * sz ≤ q * sz := Nat.mul_le_mul_right _ hpub
    rw [hget, if_neg (by omega)]; exact hC

theorem run_tail {P : Program} {g : Gh} {w : World} {b k sz ty pub : Nat} {cap : Option Nat} {es : List V} {C : Array Value} {fr : Nat × Nat} (hrow : RowOk g w b k sz ty pub cap es C fr) {q : Nat} {news : List Value} {en : List V} (hpub : pub ≤ q) (hk : q + en.length ≤ k) (hen : EsOk g sz news en) :
    (storeCells ⟨b, q * sz, none⟩ news).run P w = .ok () (blk w b (.cells (over C (q * sz) news) ty fr)) := by
  have h1 : (q + en.length) * sz ≤ k * sz := Nat.mul_le_mul_right _ hk
  rw [Nat.add_mul] at h1
  have h2 : pub * sz ≤ q * sz := Nat.mul_le_mul_right _ hpub
  have h3 := hen.size
  have := run_storeCells (P := P) (b := b) (o := q * sz) (T := ty) (fr := fr) news 0 C w hrow.at_ (by rw [hrow.csize]; omega) (fun v hv => by
      obtain ⟨i, hi⟩ := List.getElem?_of_mem hv
      exact hen.one i v hi)
    (fun q' e1 e2 => by rcases hrow.ice with h | ⟨h, h'⟩ <;> omega)
  simpa using this

/-- The ghost with a row's version counted up, the row perhaps elsewhere. -/
def Gh.bump (g : Gh) (r ver : Nat) (x : Nat × Nat × Nat) : Gh := ⟨fun q => if q = r then some x else g.mu q, fun q => if q = r then some (ver + 1) else g.vr q, g.S⟩

theorem Grown.bump {B : Nat} {g : Gh} {r ver : Nat} (x : Nat × Nat × Nat) (hv : g.vr r = some ver) : Grown B g (g.bump r ver x) where
  ext := {
    S := fun _ _ _ e => e
    row := fun q v hq => by
      by_cases e : q = r
      · subst e; rw [hv] at hq; cases hq
        exact ⟨ver + 1, by simp [Gh.bump], Nat.le_succ _, fun e => by omega⟩
      · exact ⟨v, by simp [Gh.bump, e, hq], Nat.le_refl _, fun _ => by simp [Gh.bump, e]⟩
    obj := fun q y hq hm => by
      have e : q ≠ r := by rintro rfl; rw [hv] at hq; cases hq
      simp [Gh.bump, e, hq, hm] }
  keep := fun _ _ _ _ e => e

theorem W.bump {B : Nat} {w0 : World} {g : Gh} {h : Heap} {w w' : World} (hW : W B w0 g h w) {r ver ty sz pub : Nat} {cap : Option Nat} {es : List V} (hr : h.get r = .row ver ty sz pub cap es) (hlow : Below B w w')
    {b' k' pub' : Nat} {cap' : Option Nat} {es' : List V} {C' : Array Value} {fr' : Nat × Nat} (hrow : RowOk (g.bump r ver (b', k', sz)) w' b' k' sz ty pub' cap' es' C' fr')
    (hother : ∀ q x, q ≠ r → g.mu q = some x → x.1 ≠ b' ∧ w'.heap[x.1]? = w.heap[x.1]?) (hB : B ≤ b') (hS : ∀ b o v, g.S b o = some v → look w' b o = some v) :
    W B w0 (g.bump r ver (b', k', sz)) (h.set r (.row (ver + 1) ty sz pub' cap' es')) w' := by
  obtain ⟨hv, b, k, C, fr, hm, _⟩ := hW.row hr
  refine hW.turn r (b', k', sz) hlow (Grown.bump (B := B) _ hv).ext (.inl ⟨Heap.n_set _ _ _, hW.live hm⟩) (fun q e => by simp [Gh.bump, e]) (fun q hq => by rw [Heap.get_set, if_neg (fun e => hq e.symm)]) (fun q e => by simp [Gh.bump, e])
    (by simp [Gh.bump]) (by rw [Heap.get_set, if_pos rfl]; simp [Gh.bump, verOf]) (fun q x hq hx => ⟨(hother q x hq hx).1, (hother q x hq hx).2, fun _ _ e => e⟩) (by rw [Heap.get_set, if_pos rfl]; exact ⟨rfl, C', fr', hrow⟩) ⟨hB, block_lt hrow.at_⟩ hS

theorem RowOk.mono {g g' : Gh} {w : World} {b k sz ty pub : Nat} {cap : Option Nat} {es : List V} {C : Array Value} {fr : Nat × Nat} (h : RowOk g w b k sz ty pub cap es C fr) (hx : Ext g g') (hS : ∀ o v, g'.S b o = some v → g.S b o = some v) : RowOk g' w b k sz ty pub cap es C fr :=
  ⟨h.at_, h.csize, h.pos, h.fits, h.pubs, h.caps, h.elems, fun i e j x a c => (match h.cells i e j x a c with | ⟨v, p, q, r⟩ => ⟨v, p, q, r.mono hx⟩), fun o v e => h.shut o v (hS o v e), h.ice⟩

theorem List.app_eq' (a b : List V) : List.app a b = a ++ b := List.app_eq a b

theorem isNil_iff {l : List V} : isNil l = true ↔ l = [] := by cases l <;> simp [isNil]

theorem R.gsl_cap {g : Gh} {a : Option Addr} {n cap sz c0 : Nat} {es : List V} (h : R g (.slice a n cap) (.gsl sz es (some c0))) : cap = c0 := by
  have hg := h.gsl_inv
  cases hg with
  | gsl val hsz' hc hS hcap hle hh => exact hcap _ rfl

theorem append_sound {P : Program} {B : Nat} {w0 : World} {g : Gh} {h h' : Heap} {w : World} (hW : W B w0 g h w) {t u ty : TypeId} {s x y : V} {vs vx : Value} (hs : R g vs s) (hx : R g vx x) (hu : notIntT P u = true) (ha : append P t h s x = .val y h') :
    ValOk B w0 g ((Builtin.append_ #[t, u] ty #[vs, vx]).run P w) y h' := by
  unfold append at ha
  split at ha
  · cases ha
  · rename_i e hse
    have ht := sliceElem_some hse
    obtain ⟨d, hud, hd⟩ := notIntT_some hu
    split at ha
    · cases ha
    · rename_i new happ
      cases h0 : Nat.beq (size P e) 0 with
      | true => rw [h0] at ha; cases ha
      | false =>
        rw [h0] at ha
        have hpos : 0 < size P e := by
          rcases Nat.eq_zero_or_pos (size P e) with q | q
          · rw [q] at h0; cases h0
          · exact q
        obtain ⟨inf, hi⟩ := size_info hpos
        have hsz := sizeCells hi
        obtain ⟨news, hlen, hfc, hes⟩ := appended_sound (P := P) hW hpos hx happ
        have hfull : ∀ w', w'.heap = w.heap → (Builtin.firstCells (size P e) new.length vx).run P w' = .ok news.toArray w' := fun w' hh => by
          have := hfc w' new.length (Nat.le_refl _) hh
          rw [← hes.size, List.take_length] at this; exact this
        cases hn : isNil new with
        | true =>
          rw [hn] at ha
          simp only [cond_true, cond_false] at ha
          rw [isNil_iff] at hn; subst hn
          have hnews : news = [] := by apply List.eq_nil_of_length_eq_zero; rw [hes.size]; simp
          subst hnews
          have fin : ∀ (base : Option Addr) (n cap : Nat), n ≤ cap → (Builtin.append_ #[t, u] ty #[.slice base n cap, vx]).run P w = .ok (.slice base n cap) w := by
            intro base n cap hle
            have := run_append_fits (P := P) (w := w) (ts := #[t, u]) (ty := ty) (t := t) (u := u) (base := base) (sLen := n) (sCap := cap) (n := 0) (x := vx) (news := []) rfl rfl ht hud hd hi hlen (hsz ▸ hfull w rfl) (by omega) (w' := w) (by cases base <;> simp [storeCells])
            simpa using this
          have same : ∀ v, R g v y → (Builtin.append_ #[t, u] ty #[vs, vx]).run P w = .ok v w → h' = h → ValOk B w0 g ((Builtin.append_ #[t, u] ty #[vs, vx]).run P w) y h' := fun v hR hrun e => by
            subst e; exact ⟨v, w, g, hrun, Grown.refl _ _, hW, hR⟩
          split at ha
          · cases ha
            have := hs.nils_inv; subst this
            exact same _ hs (fin _ _ _ (Nat.le_refl _)) rfl
          · cases ha
            obtain ⟨a, cap, ver', rfl, _, _, hle, _⟩ := hs.sl_inv
            exact same _ hs (fin _ _ _ hle) rfl
          · cases ha
            have hg := hs.gsl_inv
            cases hg with
            | gsl val hsz' hc hS hcap hle hh => exact same _ hs (fin _ _ _ hle) rfl
          · cases ha
        | false =>
          rw [hn] at ha
          simp only [cond_false] at ha
          have hnpos : 0 < new.length := by
            cases new with
            | nil => cases hn
            | cons => simp
          split at ha
          · have := hs.nils_inv; subst this
            rw [List.len_eq] at ha
            refine fresh_sound (ts := #[t, u]) (t := t) (u := u) (eo := []) (olds := []) hW rfl rfl ht hud hd hlen rfl rfl hpos (fun w' _ => ?_) hfull (by omega) .nil hes (by simpa using ha)
            exact run_firstCells_none w' _ _ _ _
          · rename_i sz' es c
            split at ha
            · rename_i c0
              cases hb : (Nat.beq (size P e) sz' && Nat.blt c0 (Nat.add (List.len es) (List.len new))) with
              | false => rw [hb] at ha; cases ha
              | true =>
                rw [hb] at ha
                simp only [Bool.and_eq_true, Nat.beq_eq, Nat.blt_eq, List.len_eq] at hb ha
                obtain ⟨hb1, hb2⟩ := hb
                obtain ⟨a, cap, olds, rfl, hcap, hat, heo⟩ := elems_sound hW hpos hs (es := es) (by simp [elems, hb1])
                have hg := hs.gsl_inv
                have hcc : cap = c0 := R.gsl_cap hs
                rw [List.app_eq', ← hb1] at ha
                refine fresh_sound (ts := #[t, u]) (t := t) (u := u) (eo := es) (olds := olds) hW rfl rfl ht hud hd hlen rfl rfl hpos (fun w' hh => ?_) hfull (by rw [hcc]; exact hb2) heo hes ha
                cases a with
                | none =>
                  have : olds = [] := by
                    cases olds with
                    | nil => rfl
                    | cons q qs => obtain ⟨_, q1, _⟩ := hat 0 q rfl; cases q1
                  subst this; exact run_firstCells_none w' _ _ _ _
                | some a => exact run_firstCells_some w' _ _ a _ _ olds heo.size (fun j v hv => by obtain ⟨a', q1, q2⟩ := hat j v hv; cases q1; exact cell?_heap hh q2)
            · cases ha
          · rename_i r ver o n c
            unfold appendSl at ha
            rw [List.len_eq] at ha
            split at ha
            · rename_i ver2 ty2 sz2 pub cap2 es hr
              have hba := bif_rs ha
              clear ha
              obtain ⟨hb, ha⟩ := hba
              simp only [Bool.and_eq_true, Nat.beq_eq, Nat.ble_eq, List.len_eq] at hb
              obtain ⟨⟨⟨⟨⟨rfl, rfl⟩, hon⟩, hzo⟩, hb4⟩, hb5⟩ := hb
              change o + n ≤ es.length at hon
              change n + new.length ≤ room at hb4
              change (n + new.length) * P.bytesOf e ≤ room at hb5
              obtain ⟨hv2, b, k, C, fr, hm, hrow, hhigh⟩ := hW.row hr
              obtain ⟨a, cap, ver', rfl, hvr, hle', hncap, hc, hp⟩ := hs.sl_inv
              rw [hv2] at hvr; cases hvr
              obtain ⟨k', sz', hm', ho, hsp, hok, hk⟩ := hp rfl
              rw [hm] at hm'
              simp only [Option.some.injEq, Prod.mk.injEq] at hm'
              obtain ⟨hbk, rfl, rfl⟩ := hm'
              have heo := hrow.es hon
              have hold : ∀ w', w'.heap = w.heap → (Builtin.firstCells (size P e) n (.slice (some a) n cap)).run P w' = .ok ((C.toList.drop (o * size P e)).take (n * size P e)).toArray w' := fun w' hh => by
                have hl1 : ((es.drop o).take n).length = n := by simp; omega
                refine run_firstCells_some w' _ n a n cap _ (by rw [heo.size, hl1]) (fun j v hv => ?_)
                rw [List.getElem?_take] at hv
                split at hv
                · rename_i hj
                  rw [List.getElem?_drop] at hv
                  have hnp : 0 < n := by
                    rcases Nat.eq_zero_or_pos n with h0 | h0
                    · rw [h0] at hj; omega
                    · exact h0
                  rw [Addr.eta hsp, Addr.add_mk, ho (by omega), ← hbk]
                  exact cell?_heap hh (cell?_mk hrow.at_ (by simpa using hv))
                · cases hv
              have hln : ((es.drop o).take n).length = n := by simp; omega
              rw [List.dropN_eq, List.takeN_eq, List.app_eq', List.app_eq'] at ha
              split at ha
              · rename_i c' hc'
                have hcap : c' = cap := by
                  split at hc'
                  · rename_i c0
                    cases hc'; exact (hc _ rfl).symm
                  · split at hc'
                    · rename_i k2
                      cases hc'
                      have h1 := hrow.caps _ rfl
                      have h2 := hk rfl
                      change k2 - o = cap
                      omega
                    · cases hc'
                subst hcap
                cases hfit : Nat.ble (Nat.add n new.length) c' with
                | true =>
                  rw [hfit] at ha
                  simp only [cond_true] at ha
                  obtain ⟨hb6, ha⟩ := bif_rs ha
                  cases ha
                  rw [Nat.ble_eq] at hfit
                  rw [Nat.beq_eq, List.len_eq] at hb6
                  change n + new.length ≤ c' at hfit
                  change o + n = es.length at hb6
                  have hkk : o + n + new.length ≤ k := by omega
                  obtain ⟨hrow', hkeep⟩ := W.setTail hW hr hm hrow (q := o + n) (news := news) (en := new) (by omega) (by have := hrow.pubs; omega) hkk hes
                  have hst := run_tail (P := P) hrow (q := o + n) (news := news) (en := new) (by have := hrow.pubs; omega) hkk hes
                  have hrun := run_append_fits (P := P) (w := w) (ts := #[t, u]) (ty := ty) (t := t) (u := u) (base := some a) (sLen := n) (sCap := c') (n := new.length) (x := vx) (news := news) rfl rfl ht hud hd hi hlen (hsz ▸ hfull w rfl) hfit
                    (w' := blk w b (.cells (over C ((o + n) * size P e) news) ty2 fr)) (by
                      simp only
                      rw [Addr.eta hsp, Addr.add_mk, ho (by omega), ← hbk, ← hsz, ← Nat.add_mul]; exact hst)
                  rw [show es.take (o + n) = es by rw [hb6, List.take_length]] at hrow'
                  refine ⟨_, _, g, hrun, Grown.refl _ _, hW.setRow hr hm hrow hrow' hkeep, .sl hv2 (Nat.le_refl _) hfit hc fun _ => ⟨k, _, by rw [← hbk]; exact hm, ho, hsp, hok, hk⟩⟩
                | false =>
                  rw [hfit] at ha
                  simp only [cond_false] at ha
                  have hfit' : ¬ (n + new.length ≤ c') := fun q => by rw [show Nat.ble (Nat.add n new.length) c' = true by rw [Nat.ble_eq]; exact q] at hfit; cases hfit
                  exact fresh_sound (ts := #[t, u]) (t := t) (u := u) (eo := (es.drop o).take n) hW rfl rfl ht hud hd hlen rfl hln.symm hpos hold hfull (by omega) heo hes ha
              · rename_i hc'
                obtain ⟨hb6, ha⟩ := bif_rs ha
                cases ha
                simp only [Bool.and_eq_true, Nat.beq_eq, Nat.ble_eq] at hb6
                obtain ⟨⟨rfl, hpub⟩, rfl⟩ := hb6
                have hcn : c = none := by
                  cases c with
                  | none => rfl
                  | some c0 => cases hc'
                subst hcn
                have hk' := hk rfl
                rw [List.takeN_eq, List.app_eq']
                by_cases hfit : n + new.length ≤ cap
                · have hkk : n + new.length ≤ k := by omega
                  obtain ⟨hrow', hkeep⟩ := W.setTail hW hr hm hrow (q := n) (news := news) (en := new) (by omega) hpub hkk hes
                  have hst := run_tail (P := P) hrow (q := n) (news := news) (en := new) hpub hkk hes
                  have hrun := run_append_fits (P := P) (w := w) (ts := #[t, u]) (ty := ty) (t := t) (u := u) (base := some a) (sLen := n) (sCap := cap) (n := new.length) (x := vx) (news := news) rfl rfl ht hud hd hi hlen (hsz ▸ hfull w rfl) hfit
                    (w' := blk w b (.cells (over C (n * size P ty2) news) ty2 fr)) (by
                      simp only
                      rw [Addr.eta hsp, Addr.add_mk, ho (by omega), ← hbk, ← hsz, Nat.zero_mul, Nat.zero_add]; exact hst)
                  refine ⟨_, _, g.bump r ver (b, k, size P ty2), hrun, Grown.bump _ hv2, hW.bump hr (Below.blk w b _ (hW.high r _ hm).1) (cap' := none) ⟨hrow'.at_, hrow'.csize, hrow'.pos, hrow'.fits, hrow'.pubs, fun c e => (by cases e), hrow'.elems, (hrow'.mono (Grown.bump (B := B) _ hv2).ext (fun _ _ e => e)).cells, hrow'.shut, hrow'.ice⟩ ?_ (hW.high r _ hm).1 ?_,
                    .sl (ver' := ver + 1) (by simp [Gh.bump]) (Nat.le_refl _) hfit (fun _ e => by cases e) fun _ => ⟨k, size P ty2, by simp [Gh.bump, hbk], fun hp => ho hp, hsp, hok, fun _ => hk'⟩⟩
                  · intro q x' hq hx'
                    have hne : x'.1 ≠ b := fun e => hq (hW.inj q r x' _ hx' hm e)
                    exact ⟨hne, blk_other w b x'.1 _ hne⟩
                  · intro b' o' v hv
                    by_cases e : b' = b
                    · subst e
                      have h1 := hW.shut _ o' v hv
                      obtain ⟨h3, h4⟩ := look_at hrow.at_ h1
                      exact look_cells (blk_at w _ _ (block_lt hrow.at_)) (hkeep o' v hv h3) h4
                    · rw [look_blk_other _ e]; exact hW.shut b' o' v hv
                · obtain ⟨inf', z, hi', hz, hzs⟩ := zeroOk_some hzo
                  rw [hi] at hi'; cases hi'
                  have hroom : room = 1099511627776 := rfl
                  rw [bytesOf_info hi] at hb5
                  have hrun := run_append_grows (P := P) (w := w) (ts := #[t, u]) (ty := ty) (t := t) (u := u) rfl rfl ht hud hd hi hz hlen (hsz ▸ hold w.drew rfl) (hsz ▸ hfull w.drew rfl) (by omega) (by omega) (growslice_fits (by omega) (by omega))
                  rw [← hsz] at hrun
                  have hcap := grownCap_ge w (n + new.length) cap ty2
                  obtain ⟨K, hK⟩ : ∃ K, grownCap w (n + new.length) cap ty2 = K := ⟨_, rfl⟩
                  rw [hK] at hrun hcap
                  simp only [List.drop_zero] at hln heo hrun
                  obtain ⟨L, hL⟩ : ∃ L, (C.toList.drop (0 * size P ty2)).take (n * size P ty2) = L := ⟨_, rfl⟩
                  rw [hL] at hrun heo
                  have hesA := (heo.app hes).mono (Grown.bump (B := B) (r := r) (ver := ver) (w.heap.size, K, size P ty2) hv2).ext
                  have hlnA : (es.take n ++ new).length = n + new.length := by simp only [List.length_append, hln]
                  obtain ⟨Z, hZ⟩ : ∃ Z, Builtin.zeroCells z.cells (K - (n + new.length)) = Z := ⟨_, rfl⟩
                  have hZs : Z.size = (K - (n + new.length)) * size P ty2 := by rw [← hZ, size_zeroCells, hzs, ← hsz]
                  rw [hZ] at hrun
                  refine ⟨_, _, g.bump r ver (w.heap.size, K, size P ty2), hrun, Grown.bump _ hv2, hW.bump hr (w' := w.drew.alloc _) (cap' := none) (Below.trans (b := w.drew) ⟨rfl, rfl, rfl, Nat.le_refl _, fun _ _ => rfl⟩ (Below.push B w.drew _ hW.base)) (C' := _) (fr' := (0, 0)) ⟨heap_push_new w.drew _, ?_, hpos, by omega, by omega, fun c e => (by cases e), hesA.elems, ?_, fun o' v e => absurd e (hW.noS (Nat.le_refl _)), .inl rfl⟩ ?_ hW.base ?_,
                    .sl (ver' := ver + 1) (by simp [Gh.bump]) (Nat.le_refl _) hcap (fun _ e => by cases e) fun _ => ⟨K, size P ty2, by simp [Gh.bump], fun _ => by simp, rfl, by omega, fun _ => by omega⟩⟩
                  · have h2 := hesA.size
                    rw [hlnA] at h2
                    simp only [List.length_append] at h2
                    simp only [Array.size_append, List.size_toArray, hZs]
                    rw [h2, ← Nat.add_mul]
                    congr 1; omega
                  · intro i e' j x' he hx
                    obtain ⟨v, hv, h2, h3⟩ := hesA.rel i e' j x' he hx
                    refine ⟨v, ?_, h2, h3⟩
                    have hlt' := lt_of_getElem?_list hv
                    rw [show L.toArray ++ news.toArray = (L ++ news).toArray by simp, Array.getElem?_append_left (by simpa using hlt')]
                    simpa using hv
                  · intro q x' hq hx'
                    have := (hW.high q x' hx').2
                    exact ⟨by omega, heap_push_old w.drew _ x'.1 this⟩
                  · intro b' o' v hv
                    exact look_push (w := w.drew) _ (look_heap rfl (hW.shut b' o' v hv))
            · cases ha
          · cases ha

end Go.AM
