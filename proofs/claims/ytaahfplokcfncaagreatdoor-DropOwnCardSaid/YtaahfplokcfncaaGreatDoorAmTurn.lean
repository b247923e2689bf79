/-
  One thing of the machine's heap is made, or turned: what stays.
-/
import Derived.Test.YtaahfplokcfncaaGreatDoorAmRel
namespace Go.AM
open Go.RowKit

def verOf : Obj → Option Nat
  | .row v _ _ _ _ _ => some v
  | _ => none

theorem W.ver' {B : Nat} {w0 : World} {g : Gh} {h : Heap} {w : World} (hW : W B w0 g h w) (r : Nat) : g.vr r = verOf (h.get r) := by
  rw [hW.ver r]; cases h.get r <;> rfl

theorem W.turn {B : Nat} {w0 : World} {g g' : Gh} {h h' : Heap} {w w' : World} (hW : W B w0 g h w) (r : Nat) (x' : Nat × Nat × Nat)
    (hlow : Below B w w') (hx : Ext g g')
    (hn : h'.n = h.n ∧ r < h.n ∨ h'.n = h.n + 1 ∧ r = h.n)
    (hmu : ∀ q, q ≠ r → g'.mu q = g.mu q) (hget : ∀ q, q ≠ r → h'.get q = h.get q) (hvr : ∀ q, q ≠ r → g'.vr q = g.vr q)
    (hmr : g'.mu r = some x') (hvrr : g'.vr r = verOf (h'.get r))
    (hother : ∀ q x, q ≠ r → g.mu q = some x → x.1 ≠ x'.1 ∧ w'.heap[x.1]? = w.heap[x.1]? ∧ ∀ o v, g'.S x.1 o = some v → g.S x.1 o = some v)
    (hobj : ObjOk g' w' x' (h'.get r)) (hB : B ≤ x'.1 ∧ x'.1 < w'.heap.size)
    (hS : ∀ b o v, g'.S b o = some v → look w' b o = some v) : W B w0 g' h' w' where
  low := hW.low.trans hlow
  base := Nat.le_trans hW.base hlow.size
  shut := hS
  dom := fun q hq => by
    by_cases e : q = r
    · subst e; exact ⟨_, hmr⟩
    · rw [hmu q e]; exact hW.dom q (by omega)
  out := fun q hq => by
    have e : q ≠ r := by omega
    rw [hmu q e, hget q e]; exact hW.out q (by omega)
  ver := fun q => by
    by_cases e : q = r
    · subst e; rw [hvrr]; cases h'.get q <;> rfl
    · rw [hvr q e, hget q e]; exact hW.ver q
  obj := fun q x hq => by
    by_cases e : q = r
    · subst e; rw [hmr] at hq; cases hq; exact hobj
    · rw [hmu q e] at hq
      rw [hget q e]
      obtain ⟨_, h2, h3⟩ := hother q x e hq
      exact (hW.obj q x hq).mono hx h2 h3
  inj := fun p q x y hp hq hxy => by
    by_cases e : p = r
    · by_cases e' : q = r
      · rw [e, e']
      · subst e; rw [hmr] at hp; cases hp; rw [hmu q e'] at hq
        exact absurd hxy.symm (hother q y e' hq).1
    · by_cases e' : q = r
      · subst e'; rw [hmr] at hq; cases hq; rw [hmu p e] at hp
        exact absurd hxy (hother p x e hp).1
      · rw [hmu p e] at hp; rw [hmu q e'] at hq; exact hW.inj p q x y hp hq hxy
  high := fun q x hq => by
    by_cases e : q = r
    · subst e; rw [hmr] at hq; cases hq; exact hB
    · rw [hmu q e] at hq; exact ⟨(hW.high q x hq).1, Nat.lt_of_lt_of_le (hW.high q x hq).2 hlow.size⟩

theorem ObjOk.lt {g : Gh} {w : World} {x : Nat × Nat × Nat} {o : Obj} (h : ObjOk g w x o) (hd : o ≠ .dead) : x.1 < w.heap.size := by
  cases o with
  | row => obtain ⟨_, C, fr, hr⟩ := h; exact block_lt hr.at_
  | map => obtain ⟨_, E, clock, h1, _, _⟩ := h; exact block_lt h1
  | siter => obtain ⟨ba, h1, _⟩ := h; exact block_lt h1
  | miter => rcases h with ⟨_, _, _, _, _, h1⟩ | ⟨_, _, _, _, _, _, h1, _⟩ <;> exact block_lt h1
  | loop => obtain ⟨_, L, h1, _⟩ := h; exact block_lt h1
  | defs => exact block_lt h
  | dead => exact absurd rfl hd

/-- The ghost with more cells that nobody writes. -/
def Gh.say (g : Gh) (S : Nat → Nat → Option Value) : Gh := ⟨g.mu, g.vr, S⟩
theorem Ext.say {g : Gh} {S : Nat → Nat → Option Value} (h : ∀ b o v, g.S b o = some v → S b o = some v) : Ext g (g.say S) := ⟨h, fun _r v e => ⟨v, e, Nat.le_refl _, fun _ => rfl⟩, fun _ _ h h' => ⟨h, h'⟩⟩

/-- Draws, and whatever else leaves the blocks alone. -/
theorem W.same {B : Nat} {w0 : World} {g : Gh} {h : Heap} {w w' : World} (hW : W B w0 g h w) (hh : w'.heap = w.heap) (ho : w'.os = w.os) (ht : w'.tape = w.tape) (hu : w'.output = w.output) : W B w0 g h w' where
  low := hW.low.trans ⟨ho, ht, hu, by rw [hh]; exact Nat.le_refl _, fun _ _ => by rw [hh]⟩
  base := by rw [hh]; exact hW.base
  shut := fun b o v hv => look_heap (by rw [hh]) (hW.shut b o v hv)
  dom := hW.dom
  out := hW.out
  ver := hW.ver
  obj := fun r x hr => (hW.obj r x hr).mono (Ext.refl g) (by rw [hh]) (fun _ _ h => h)
  inj := hW.inj
  high := fun r x hr => by rw [hh]; exact hW.high r x hr

theorem W.drew {B : Nat} {w0 : World} {g : Gh} {h : Heap} {w : World} (hW : W B w0 g h w) (n : Nat) : W B w0 g h { w with drawn := n } := hW.same rfl rfl rfl rfl

/-- The ghost with one more thing, at the world's next block. -/
def Gh.new (g : Gh) (n : Nat) (x : Nat × Nat × Nat) (v : Option Nat) : Gh := ⟨fun r => if r = n then some x else g.mu r, fun r => if r = n then v else g.vr r, g.S⟩

theorem W.live {B : Nat} {w0 : World} {g : Gh} {h : Heap} {w : World} (hW : W B w0 g h w) {r : Nat} {x : Nat × Nat × Nat} (hr : g.mu r = some x) : r < h.n := by
  rcases Nat.lt_or_ge r h.n with h' | h'
  · exact h'
  · rw [(hW.out r h').1] at hr; cases hr

theorem Ext.new {B : Nat} {w0 : World} {g : Gh} {h : Heap} {w : World} (hW : W B w0 g h w) (x : Nat × Nat × Nat) (v : Option Nat) : Ext g (g.new h.n x v) where
  S := fun _ _ _ e => e
  row := fun r v' hv => by
    have hr : r ≠ h.n := by
      rintro rfl
      rw [hW.ver' , (hW.out _ (Nat.le_refl _)).2] at hv; cases hv
    exact ⟨v', by simp [Gh.new, hr, hv], Nat.le_refl _, fun _ => by simp [Gh.new, hr]⟩
  obj := fun r x' hv hm => by
    have hr : r ≠ h.n := by have := hW.live hm; omega
    simp [Gh.new, hr, hv, hm]

theorem heap_push_old (w : World) (o : Go.Obj) (k : Nat) (h : k < w.heap.size) : ({ w with heap := w.heap.push o } : World).heap[k]? = w.heap[k]? := by
  show (w.heap.push o)[k]? = _
  rw [Array.getElem?_push, if_neg (by omega)]
theorem heap_push_new (w : World) (o : Go.Obj) : ({ w with heap := w.heap.push o } : World).heap[w.heap.size]? = some o := by
  show (w.heap.push o)[w.heap.size]? = _
  simp

theorem Below.push (B : Nat) (w : World) (o : Go.Obj) (hB : B ≤ w.heap.size) : Below B w { w with heap := w.heap.push o } :=
  ⟨rfl, rfl, rfl, by simp, fun k hk => heap_push_old w o k (by omega)⟩

theorem cell?_push {w : World} {b o : Nat} {v : Value} (x : Go.Obj) (h : w.cell? ⟨b, o, none⟩ = some v) : ({ w with heap := w.heap.push x } : World).cell? ⟨b, o, none⟩ = some v := by
  obtain ⟨C, T, fr, h1, h2⟩ := cell?_block h
  exact cell?_mk ((heap_push_old w x b (block_lt h1)).trans h1) h2

theorem look_push {w : World} {b o : Nat} {v : Value} (x : Go.Obj) (h : look w b o = some v) : look ({ w with heap := w.heap.push x } : World) b o = some v :=
  look_heap (heap_push_old w x b (look_lt h)) h

/-- A new thing, in the world's next block. -/
theorem W.alloc {B : Nat} {w0 : World} {g : Gh} {h : Heap} {w : World} (hW : W B w0 g h w) (o : Go.Obj) (obj : Obj) (k sz : Nat)
    (hobj : ObjOk (g.new h.n (w.heap.size, k, sz) (verOf obj)) { w with heap := w.heap.push o } (w.heap.size, k, sz) obj) :
    W B w0 (g.new h.n (w.heap.size, k, sz) (verOf obj)) (h.new obj) { w with heap := w.heap.push o } := by
  refine hW.turn h.n (w.heap.size, k, sz) (Below.push B w o hW.base) (Ext.new hW _ _) (.inr ⟨Heap.n_new _ _, rfl⟩) (fun q hq => by simp [Gh.new, hq]) (fun q hq => by rw [Heap.get_new, if_neg (fun e => hq e.symm)])
    (fun q hq => by simp [Gh.new, hq]) (by simp [Gh.new]) (by simp [Gh.new, Heap.get_new]) ?_ (by rw [Heap.get_new, if_pos rfl]; exact hobj) ⟨hW.base, by simp⟩ (fun b o' v hv => look_push o (hW.shut b o' v hv))
  intro q x hq hm
  have := (hW.high q x hm).2
  exact ⟨by simp; omega, heap_push_old w o x.1 this, fun _ _ h => h⟩

end Go.AM
