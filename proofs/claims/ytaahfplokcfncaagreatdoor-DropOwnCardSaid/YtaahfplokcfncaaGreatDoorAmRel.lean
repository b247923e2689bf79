/-
  How the abstract machine's values and heap stand to the model's.
-/
import Derived.Test.YtaahfplokcfncaaGreatDoorAmBase
import Derived.Below
namespace Go.AM
open Go.RowKit

/-- Where the machine's things lie (block, elements there is room for, cells of an element); a row's version; the cells that nobody writes any more. -/
structure Gh where
  mu : Nat → Option (Nat × Nat × Nat)
  vr : Nat → Option Nat
  S : Nat → Nat → Option Value

/-- What a map holds: how many, its clock, and each pair. -/
def mapLook (E : Array MapEntry) (c : Nat) : Nat → Option Value
  | 0 => some (.tuple #[.int .i64 (E.size : Int), .int .i64 (c : Int)])
  | i + 1 => match E[i]? with
    | some e => some (.tuple #[e.key, e.val, .int .i64 (e.born : Int)])
    | none => none
/-- Entries' births: no two are the same, all lie behind the clock. -/
def BornOk (E : Array MapEntry) (c : Nat) : Prop := (∀ (i : Nat) e, E[i]? = some e → e.born < c) ∧ ∀ (i j : Nat) e e', E[i]? = some e → E[j]? = some e' → e.born = e'.born → i = j
/-- Data: what it says hangs on the sealed cells alone. -/
inductive GR (S : Nat → Nat → Option Value) : Value → V → Prop
  | int (k : IntKind) (n : Int) : GR S (.int k n) (.int k n)
  | bool (b : Bool) : GR S (.bool b) (.bool b)
  | str {s : ByteArray} {l : List UInt8} (h : s.data.toList = l) : GR S (.string s) (.str l)
  | nilp : GR S (.pointer none) .nilp
  | nils : GR S (.slice none 0 0) .nils
  | nilm : GR S (.map none) .nilm
  | nilf : GR S .nilFunc .nilf
  | nili : GR S .nilIface .nili
  | func {f : FuncId} {a b : Array Value} {xs ys : List V} (ha : a.size = xs.length) (hb : b.size = ys.length)
      (h1 : ∀ (i : Nat) v x, a[i]? = some v → xs[i]? = some x → GR S v x) (h2 : ∀ (i : Nat) v x, b[i]? = some v → ys[i]? = some x → GR S v x) : GR S (.func (.func f) a b) (.func (.func f) xs ys)
  | iface {t : TypeId} {v : Value} {x : V} (h : GR S v x) : GR S (.iface t v) (.iface t x)
  | agg {cs : Array Value} {vs : List V} (hn : cs.size = vs.length) (h1 : ∀ (i : Nat) v, cs[i]? = some v → v.oneCell' = true)
      (h : ∀ (i : Nat) v x, cs[i]? = some v → vs[i]? = some x → GR S v x) : GR S (.agg cs) (.agg vs)
  | tup {cs : Array Value} {vs : List V} (hn : cs.size = vs.length)
      (h : ∀ (i : Nat) v x, cs[i]? = some v → vs[i]? = some x → GR S v x) : GR S (.tuple cs) (.tup vs)
  | gptr {b base off sz : Nat} {es : List V} (val : Nat → Nat → Value) (hsz : 0 < sz) (hc : ∀ (i : Nat) e, es[i]? = some e → e.cells.length = sz ∧ e.flat = true)
      (hS : ∀ (i : Nat) e (j : Nat) x, es[i]? = some e → e.cells[j]? = some x → S b (base + i * sz + j) = some (val i j) ∧ (val i j).oneCell' = true)
      (h : ∀ (i : Nat) e (j : Nat) x, es[i]? = some e → e.cells[j]? = some x → GR S (val i j) x) : GR S (.pointer (some ⟨b, base + off, none⟩)) (.gptr sz es off)
  | gsl {b off sz cap : Nat} {c : Option Nat} {es : List V} (val : Nat → Nat → Value) (hsz : 0 < sz) (hc : ∀ (i : Nat) e, es[i]? = some e → e.cells.length = sz ∧ e.flat = true)
      (hS : ∀ (i : Nat) e (j : Nat) x, es[i]? = some e → e.cells[j]? = some x → S b (off + i * sz + j) = some (val i j) ∧ (val i j).oneCell' = true)
      (hcap : ∀ c', c = some c' → cap = c') (hle : es.length ≤ cap)
      (h : ∀ (i : Nat) e (j : Nat) x, es[i]? = some e → e.cells[j]? = some x → GR S (val i j) x) : GR S (.slice (some ⟨b, off, none⟩) es.length cap) (.gsl sz es c)
  | gmap {b c : Nat} {E : Array MapEntry} {ks vs : List V} (hS : ∀ o v, mapLook E c o = some v → S b o = some v) (hk : E.size = ks.length) (hv : E.size = vs.length)
      (h1 : ∀ (i : Nat) e x, E[i]? = some e → ks[i]? = some x → GR S e.key x) (h2 : ∀ (i : Nat) e x, E[i]? = some e → vs[i]? = some x → GR S e.val x) : GR S (.map (some b)) (.gmap ks vs)
  | oslN {sz : Nat} : GR S (.slice none 0 0) (.osl sz [])
  | oslS {v : Value} {sz : Nat} {es : List V} (h : GR S v (.gsl sz es none)) : GR S v (.osl sz es)

theorem GR.mono {S S' : Nat → Nat → Option Value} (hS : ∀ b o v, S b o = some v → S' b o = some v) {v : Value} {x : V} (h : GR S v x) : GR S' v x := by
  induction h with
  | int k n => exact .int k n
  | bool b => exact .bool b
  | str h => exact .str h
  | nilp => exact .nilp
  | nils => exact .nils
  | nilm => exact .nilm
  | nilf => exact .nilf
  | nili => exact .nili
  | func ha hb _ _ i1 i2 => exact .func ha hb i1 i2
  | iface _ ih => exact .iface ih
  | agg hn h1 _ ih => exact .agg hn h1 ih
  | tup hn _ ih => exact .tup hn ih
  | gptr val hsz hc hs _ ih => exact .gptr val hsz hc (fun i e j x he hx => ⟨hS _ _ _ (hs i e j x he hx).1, (hs i e j x he hx).2⟩) ih
  | gsl val hsz hc hs hcap hle _ ih => exact .gsl val hsz hc (fun i e j x he hx => ⟨hS _ _ _ (hs i e j x he hx).1, (hs i e j x he hx).2⟩) hcap hle ih
  | gmap hs hk hv _ _ i1 i2 => exact .gmap (fun o v e => hS _ _ _ (hs o v e)) hk hv i1 i2
  | oslN => exact .oslN
  | oslS _ ih => exact .oslS ih

theorem GR.fn {S : Nat → Nat → Option Value} (f : FuncId) : GR S (.func (.func f) #[] #[]) (.func (.func f) [] []) := .func rfl rfl (fun i v x a => by simp at a) (fun i v x a => by simp at a)

/-- Values. What names an older version of a row is told of loosely: nobody reads through it. -/
inductive R (g : Gh) : Value → V → Prop
  | gnd {v : Value} {x : V} (h : GR g.S v x) : R g v x
  | ptr {a : Addr} {r ver off ver' : Nat} (hv : g.vr r = some ver') (hle : ver ≤ ver')
      (h : ver = ver' → ∃ k sz, g.mu r = some (a.block, k, sz) ∧ a.off = off ∧ a.spot = none) : R g (.pointer (some a)) (.ptr r ver off)
  | sl {a : Addr} {r ver o n ver' cap : Nat} {c : Option Nat} (hv : g.vr r = some ver') (hle : ver ≤ ver') (hn : n ≤ cap) (hc : ∀ c', c = some c' → cap = c')
      (h : ver = ver' → ∃ k sz, g.mu r = some (a.block, k, sz) ∧ (0 < cap → a.off = o * sz) ∧ a.spot = none ∧ o + cap ≤ k ∧ (c = none → o + cap = k)) : R g (.slice (some a) n cap) (.sl r ver o n c)
  | map {b r : Nat} {k : Nat × Nat} (hv : g.vr r = none) (h : g.mu r = some (b, k)) : R g (.map (some b)) (.map r)
  | iter {b r : Nat} {k : Nat × Nat} (hv : g.vr r = none) (h : g.mu r = some (b, k)) : R g (.pointer (some ⟨b, 0, none⟩)) (.iter r)
  | func {f : Fn} {a b : Array Value} {xs ys : List V} (hf : ∀ l, f ≠ .yield l) (ha : a.size = xs.length) (hb : b.size = ys.length)
      (h1 : ∀ (i : Nat) v x, a[i]? = some v → xs[i]? = some x → R g v x) (h2 : ∀ (i : Nat) v x, b[i]? = some v → ys[i]? = some x → R g v x) : R g (.func f a b) (.func f xs ys)
  | yield {b l : Nat} {k : Nat × Nat} (hv : g.vr l = none) (h : g.mu l = some (b, k)) : R g (.func (.yield b) #[] #[]) (.func (.yield l) [] [])
  | iface {t : TypeId} {v : Value} {x : V} (h : R g v x) : R g (.iface t v) (.iface t x)
  | agg {cs : Array Value} {vs : List V} (hn : cs.size = vs.length) (h1 : ∀ (i : Nat) v, cs[i]? = some v → v.oneCell' = true)
      (h : ∀ (i : Nat) v x, cs[i]? = some v → vs[i]? = some x → R g v x) : R g (.agg cs) (.agg vs)
  | tup {cs : Array Value} {vs : List V} (hn : cs.size = vs.length)
      (h : ∀ (i : Nat) v x, cs[i]? = some v → vs[i]? = some x → R g v x) : R g (.tuple cs) (.tup vs)
  | any {v : Value} (h : v.oneCell' = true) : R g v .any
  | imod {k : IntKind} {N m r : Nat} (h1 : N < 256) (h2 : N % m = r) : R g (.int k (N : Int)) (.imod k m r)

/-- What may become of it as the run goes on. -/
structure Ext (g g' : Gh) : Prop where
  S : ∀ b o v, g.S b o = some v → g'.S b o = some v
  row : ∀ r v, g.vr r = some v → ∃ v', g'.vr r = some v' ∧ v ≤ v' ∧ (v = v' → g'.mu r = g.mu r)
  obj : ∀ r x, g.vr r = none → g.mu r = some x → g'.vr r = none ∧ g'.mu r = some x

theorem Ext.refl (g : Gh) : Ext g g := ⟨fun _ _ _ h => h, fun _ v h => ⟨v, h, Nat.le_refl _, fun _ => rfl⟩, fun _ _ h h' => ⟨h, h'⟩⟩
theorem Ext.trans {a b c : Gh} (h : Ext a b) (k : Ext b c) : Ext a c :=
  ⟨fun _ _ _ e => k.S _ _ _ (h.S _ _ _ e), fun r v e => by
    obtain ⟨v', e', l, m⟩ := h.row r v e
    obtain ⟨v'', e'', l', m'⟩ := k.row r v' e'
    exact ⟨v'', e'', Nat.le_trans l l', fun hv => by
      have e1 : v = v' := by omega
      have e2 : v' = v'' := by omega
      rw [m' e2, m e1]⟩, fun r x e e' => let ⟨p, q⟩ := h.obj r x e e'; k.obj r x p q⟩

theorem R.mono {g g' : Gh} (hx : Ext g g') {v : Value} {x : V} (h : R g v x) : R g' v x := by
  induction h with
  | gnd h => exact .gnd (h.mono hx.S)
  | ptr hv hle h =>
    obtain ⟨v', e', l, m⟩ := hx.row _ _ hv
    refine .ptr e' (Nat.le_trans hle l) fun e => ?_
    have e1 := Nat.le_antisymm hle (by omega)
    have e2 := Nat.le_antisymm l (by omega)
    rw [m e2]; exact h e1
  | sl hv hle hn hc h =>
    obtain ⟨v', e', l, m⟩ := hx.row _ _ hv
    refine .sl e' (Nat.le_trans hle l) hn hc fun e => ?_
    have e1 := Nat.le_antisymm hle (by omega)
    have e2 := Nat.le_antisymm l (by omega)
    rw [m e2]; exact h e1
  | map hv h => obtain ⟨a, b⟩ := hx.obj _ _ hv h; exact .map a b
  | iter hv h => obtain ⟨a, b⟩ := hx.obj _ _ hv h; exact .iter a b
  | func hf ha hb _ _ i1 i2 => exact .func hf ha hb i1 i2
  | yield hv h => obtain ⟨a, b⟩ := hx.obj _ _ hv h; exact .yield a b
  | iface _ ih => exact .iface ih
  | agg hn h1 _ ih => exact .agg hn h1 ih
  | tup hn _ ih => exact .tup hn ih
  | any h => exact .any h
  | imod h1 h2 => exact .imod h1 h2

section inv
variable {g : Gh} {v : Value}
theorem R.int_inv {k : IntKind} {n : Int} (h : R g v (.int k n)) : v = .int k n := by cases h with | gnd h => cases h; rfl
theorem R.bool_inv {b : Bool} (h : R g v (.bool b)) : v = .bool b := by cases h with | gnd h => cases h; rfl
theorem R.str_inv {l : List UInt8} (h : R g v (.str l)) : ∃ s : ByteArray, v = .string s ∧ s.data.toList = l := by
  cases h with | gnd h => cases h with | str h => exact ⟨_, rfl, h⟩
theorem R.nilp_inv (h : R g v .nilp) : v = .pointer none := by cases h with | gnd h => cases h; rfl
theorem R.nils_inv (h : R g v .nils) : v = .slice none 0 0 := by cases h with | gnd h => cases h; rfl
theorem R.nilm_inv (h : R g v .nilm) : v = .map none := by cases h with | gnd h => cases h; rfl
theorem R.nilf_inv (h : R g v .nilf) : v = .nilFunc := by cases h with | gnd h => cases h; rfl
theorem R.nili_inv (h : R g v .nili) : v = .nilIface := by cases h with | gnd h => cases h; rfl
theorem R.ptr_inv {r ver off : Nat} (h : R g v (.ptr r ver off)) : ∃ a ver', v = .pointer (some a) ∧ g.vr r = some ver' ∧ ver ≤ ver' ∧
    (ver = ver' → ∃ k sz, g.mu r = some (a.block, k, sz) ∧ a.off = off ∧ a.spot = none) := by
  cases h with
  | gnd h => cases h
  | ptr hv hle h => exact ⟨_, _, rfl, hv, hle, h⟩
theorem R.sl_inv {r ver o n : Nat} {c : Option Nat} (h : R g v (.sl r ver o n c)) : ∃ a cap ver', v = .slice (some a) n cap ∧ g.vr r = some ver' ∧ ver ≤ ver' ∧ n ≤ cap ∧ (∀ c', c = some c' → cap = c') ∧
    (ver = ver' → ∃ k sz, g.mu r = some (a.block, k, sz) ∧ (0 < cap → a.off = o * sz) ∧ a.spot = none ∧ o + cap ≤ k ∧ (c = none → o + cap = k)) := by
  cases h with
  | gnd h => cases h
  | sl hv hle hn hc h => exact ⟨_, _, _, rfl, hv, hle, hn, hc, h⟩
theorem R.map_inv {r : Nat} (h : R g v (.map r)) : ∃ b k, v = .map (some b) ∧ g.vr r = none ∧ g.mu r = some (b, k) := by
  cases h with
  | gnd h => cases h
  | map hv h => exact ⟨_, _, rfl, hv, h⟩
theorem R.iter_inv {r : Nat} (h : R g v (.iter r)) : ∃ b k, v = .pointer (some ⟨b, 0, none⟩) ∧ g.vr r = none ∧ g.mu r = some (b, k) := by
  cases h with
  | gnd h => cases h
  | iter hv h => exact ⟨_, _, rfl, hv, h⟩
theorem R.iface_inv {t : TypeId} {x : V} (h : R g v (.iface t x)) : ∃ y, v = .iface t y ∧ R g y x := by
  cases h with
  | gnd h => cases h with | iface h => exact ⟨_, rfl, .gnd h⟩
  | iface h => exact ⟨_, rfl, h⟩
theorem R.agg_inv {vs : List V} (h : R g v (.agg vs)) : ∃ cs, v = .agg cs ∧ cs.size = vs.length ∧ (∀ (i : Nat) v, cs[i]? = some v → v.oneCell' = true) ∧ ∀ (i : Nat) v x, cs[i]? = some v → vs[i]? = some x → R g v x := by
  cases h with
  | gnd h => cases h with | agg hn h1 h => exact ⟨_, rfl, hn, h1, fun i v x a b => .gnd (h i v x a b)⟩
  | agg hn h1 h => exact ⟨_, rfl, hn, h1, h⟩
theorem R.tup_inv {vs : List V} (h : R g v (.tup vs)) : ∃ cs, v = .tuple cs ∧ cs.size = vs.length ∧ ∀ (i : Nat) v x, cs[i]? = some v → vs[i]? = some x → R g v x := by
  cases h with
  | gnd h => cases h with | tup hn h => exact ⟨_, rfl, hn, fun i v x a b => .gnd (h i v x a b)⟩
  | tup hn h => exact ⟨_, rfl, hn, h⟩
theorem GR.osl_inv {S : Nat → Nat → Option Value} {sz : Nat} {es : List V} (h : GR S v (.osl sz es)) : (v = .slice none 0 0 ∧ es = []) ∨ GR S v (.gsl sz es none) := by
  cases h with
  | oslN => exact .inl ⟨rfl, rfl⟩
  | oslS h => exact .inr h
theorem R.osl_inv {sz : Nat} {es : List V} (h : R g v (.osl sz es)) : (v = .slice none 0 0 ∧ es = []) ∨ GR g.S v (.gsl sz es none) := by cases h with | gnd h => exact h.osl_inv
theorem R.gsl_inv {sz : Nat} {es : List V} {c : Option Nat} (h : R g v (.gsl sz es c)) : GR g.S v (.gsl sz es c) := by cases h with | gnd h => exact h
theorem R.gptr_inv {sz off : Nat} {es : List V} (h : R g v (.gptr sz es off)) : GR g.S v (.gptr sz es off) := by cases h with | gnd h => exact h
theorem R.gmap_inv {ks vs : List V} (h : R g v (.gmap ks vs)) : GR g.S v (.gmap ks vs) := by cases h with | gnd h => exact h
theorem R.any_inv (h : R g v .any) : v.oneCell' = true := by
  cases h with
  | gnd h => cases h
  | any h => exact h
theorem R.imod_inv {k : IntKind} {m r : Nat} (h : R g v (.imod k m r)) : ∃ N : Nat, v = .int k (N : Int) ∧ N < 256 ∧ N % m = r := by
  cases h with
  | gnd h => cases h
  | imod h1 h2 => exact ⟨_, rfl, h1, h2⟩
theorem R.fsl_inv {ty sz p : Nat} {es : List V} {c : Option Nat} (h : R g v (.fsl ty sz p es c)) : False := by
  cases h with
  | gnd h => cases h
theorem R.func_inv {f : Fn} {xs ys : List V} (hf : ∀ l, f ≠ .yield l) (h : R g v (.func f xs ys)) : ∃ a b, v = .func f a b ∧ a.size = xs.length ∧ b.size = ys.length ∧
    (∀ (i : Nat) v x, a[i]? = some v → xs[i]? = some x → R g v x) ∧ (∀ (i : Nat) v x, b[i]? = some v → ys[i]? = some x → R g v x) := by
  cases h with
  | gnd h => cases h with | func ha hb h1 h2 => exact ⟨_, _, rfl, ha, hb, fun i v x p q => .gnd (h1 i v x p q), fun i v x p q => .gnd (h2 i v x p q)⟩
  | func _ ha hb h1 h2 => exact ⟨_, _, rfl, ha, hb, h1, h2⟩
  | yield hv h => exact absurd rfl (hf _)
theorem R.yield_inv {l : Nat} {xs ys : List V} (h : R g v (.func (.yield l) xs ys)) : ∃ b k, v = .func (.yield b) #[] #[] ∧ xs = [] ∧ ys = [] ∧ g.vr l = none ∧ g.mu l = some (b, k) := by
  cases h with
  | gnd h => cases h
  | func hf => exact absurd rfl (hf _)
  | yield hv h => exact ⟨_, _, rfl, rfl, rfl, hv, h⟩
end inv

/-- Lists of values. -/
def Rs' (g : Gh) (a : Array Value) (l : List V) : Prop := a.size = l.length ∧ ∀ (i : Nat) v x, a[i]? = some v → l[i]? = some x → R g v x
theorem Rs'.mono {g g' : Gh} (hx : Ext g g') {a : Array Value} {l : List V} (h : Rs' g a l) : Rs' g' a l := ⟨h.1, fun i v x p q => (h.2 i v x p q).mono hx⟩

theorem getElem?_of_lt_array {α : Type} (a : Array α) (i : Nat) (h : i < a.size) : ∃ v, a[i]? = some v := ⟨a[i], by simp [h]⟩
theorem getElem?_of_lt_list {α : Type} (a : List α) (i : Nat) (h : i < a.length) : ∃ v, a[i]? = some v := ⟨a[i], by simp [h]⟩
theorem lt_of_getElem?_list {α : Type} {a : List α} {i : Nat} {v : α} (h : a[i]? = some v) : i < a.length := by
  rcases Nat.lt_or_ge i a.length with h' | h'
  · exact h'
  · rw [List.getElem?_eq_none h'] at h; cases h
theorem lt_of_getElem?_array {α : Type} {a : Array α} {i : Nat} {v : α} (h : a[i]? = some v) : i < a.size := by
  rcases Nat.lt_or_ge i a.size with h' | h'
  · exact h'
  · rw [Array.getElem?_eq_none h'] at h; cases h

theorem Rs'.at {g : Gh} {a : Array Value} {l : List V} (h : Rs' g a l) {i : Nat} {x : V} (hx : l[i]? = some x) : ∃ v, a[i]? = some v ∧ R g v x := by
  obtain ⟨v, hv⟩ := getElem?_of_lt_array a i (by rw [h.1]; exact lt_of_getElem?_list hx)
  exact ⟨v, hv, h.2 i v x hv hx⟩
theorem Rs'.at' {g : Gh} {a : Array Value} {l : List V} (h : Rs' g a l) {i : Nat} {v : Value} (hv : a[i]? = some v) : ∃ x, l[i]? = some x ∧ R g v x := by
  obtain ⟨x, hx⟩ := getElem?_of_lt_list l i (by rw [← h.1]; exact lt_of_getElem?_array hv)
  exact ⟨x, hx, h.2 i v x hv hx⟩

/-- The cells of a value that may stand in memory. -/
theorem R.cells {g : Gh} {v : Value} {x : V} (h : R g v x) (hf : x.flat = true) : Rs' g v.cells x.cells ∧ ∀ (i : Nat) u, v.cells[i]? = some u → u.oneCell' = true := by
  have one : v.oneCell' = true → v.cells = #[v] → x.cells = [x] → Rs' g v.cells x.cells ∧ ∀ (i : Nat) u, v.cells[i]? = some u → u.oneCell' = true := by
    intro h1 h2 h3
    rw [h2, h3]
    refine ⟨⟨rfl, fun i v' x' hv hx => ?_⟩, fun i u hu => ?_⟩
    · cases i with
      | zero => simp at hv hx; subst hv; subst hx; exact h
      | succ k => simp at hv
    · cases i with
      | zero => simp at hu; subst hu; exact h1
      | succ k => simp at hu
  cases x with
  | agg vs =>
    obtain ⟨cs, rfl, hn, h1, h⟩ := h.agg_inv
    exact ⟨⟨hn, h⟩, h1⟩
  | tup vs => cases hf
  | fsl => cases hf
  | int k n => have := h.int_inv; subst this; exact one rfl rfl rfl
  | bool b => have := h.bool_inv; subst this; exact one rfl rfl rfl
  | str l => obtain ⟨s, rfl, _⟩ := h.str_inv; exact one rfl rfl rfl
  | nilp => have := h.nilp_inv; subst this; exact one rfl rfl rfl
  | nils => have := h.nils_inv; subst this; exact one rfl rfl rfl
  | nilm => have := h.nilm_inv; subst this; exact one rfl rfl rfl
  | nilf => have := h.nilf_inv; subst this; exact one rfl rfl rfl
  | nili => have := h.nili_inv; subst this; exact one rfl rfl rfl
  | ptr r ver off => obtain ⟨a, _, rfl, _⟩ := h.ptr_inv; exact one rfl rfl rfl
  | sl r ver o n c => obtain ⟨a, _, _, rfl, _⟩ := h.sl_inv; exact one rfl rfl rfl
  | map r => obtain ⟨b, _, rfl, _⟩ := h.map_inv; exact one rfl rfl rfl
  | iter r => obtain ⟨b, _, rfl, _⟩ := h.iter_inv; exact one rfl rfl rfl
  | gptr sz es off => have h' := h.gptr_inv; cases h'; exact one rfl rfl rfl
  | gsl sz es c => have h' := h.gsl_inv; cases h'; exact one rfl rfl rfl
  | gmap ks vs => have h' := h.gmap_inv; cases h'; exact one rfl rfl rfl
  | osl sz es =>
    rcases h.osl_inv with ⟨rfl, _⟩ | h'
    · exact one rfl rfl rfl
    · cases h'; exact one rfl rfl rfl
  | iface t y => obtain ⟨y', rfl, _⟩ := h.iface_inv; exact one rfl rfl rfl
  | imod k m r => obtain ⟨N, rfl, _⟩ := h.imod_inv; exact one rfl rfl rfl
  | any =>
    have h1 := h.any_inv
    refine one h1 ?_ rfl
    cases v <;> first | rfl | (simp [Value.oneCell'] at h1)
  | func f xs ys =>
    cases f with
    | yield l => obtain ⟨b, k, rfl, _⟩ := h.yield_inv; exact one rfl rfl rfl
    | func f => obtain ⟨a, b, rfl, _⟩ := h.func_inv (fun l => by simp); exact one rfl rfl rfl
    | method f => obtain ⟨a, b, rfl, _⟩ := h.func_inv (fun l => by simp); exact one rfl rfl rfl
    | methodOf t f => obtain ⟨a, b, rfl, _⟩ := h.func_inv (fun l => by simp); exact one rfl rfl rfl
    | via t p f q => obtain ⟨a, b, rfl, _⟩ := h.func_inv (fun l => by simp); exact one rfl rfl rfl

/-- A row as it lies in memory. -/
structure RowOk (g : Gh) (w : World) (b k sz ty pub : Nat) (cap : Option Nat) (es : List V) (C : Array Value) (fr : Nat × Nat) : Prop where
  at_ : w.heap[b]? = some (.cells C ty fr)
  csize : C.size = k * sz
  pos : 0 < sz
  fits : es.length ≤ k
  pubs : pub ≤ es.length
  caps : ∀ c, cap = some c → k = c
  elems : ∀ (i : Nat) e, es[i]? = some e → e.cells.length = sz ∧ e.flat = true
  cells : ∀ (i : Nat) e (j : Nat) x, es[i]? = some e → e.cells[j]? = some x → ∃ v, C[i * sz + j]? = some v ∧ v.oneCell' = true ∧ R g v x
  shut : ∀ o v, g.S b o = some v → o < pub * sz
  ice : fr.1 = fr.2 ∨ (fr.1 = 0 ∧ fr.2 ≤ pub * sz)

def ObjOk (g : Gh) (w : World) (x : Nat × Nat × Nat) (o : Obj) : Prop :=
  match o with
  | .row _ ty sz pub cap es => x.2.2 = sz ∧ ∃ C fr, RowOk g w x.1 x.2.1 sz ty pub cap es C fr
  | .map es => (∀ o v, g.S x.1 o ≠ some v) ∧ ∃ E clock, w.heap[x.1]? = some (.map E clock) ∧ E.size = es.length ∧ (∀ (i : Nat) e p, E[i]? = some e → es[i]? = some p → R g e.key p.1 ∧ R g e.val p.2) ∧ BornOk E clock
  | .miter left cur => (left = [] ∧ cur = none ∧ ∃ since seen stepped, w.heap[x.1]? = some (.mapIter none since seen stepped)) ∨
      ∃ m E c since seen stepped, w.heap[x.1]? = some (.mapIter (some m) since seen stepped) ∧ (∀ o v, mapLook E c o = some v → g.S m o = some v) ∧ BornOk E since ∧ BornOk E stepped ∧ BornOk E c ∧
        (E.toList.filter fun e => !seen.contains e.born).length = left.length ∧ (∀ (i : Nat) e p, (E.toList.filter fun e => !seen.contains e.born)[i]? = some e → left[i]? = some p → R g e.key p.1 ∧ R g e.val p.2) ∧
        ∀ p, cur = some p → stepped = c ∧ ∃ st e, seen.back? = some st ∧ E.find? (·.born == st) = some e ∧ R g e.key p.1 ∧ R g e.val p.2
  | .siter s pos => ∃ ba : ByteArray, w.heap[x.1]? = some (.stringIter ba pos) ∧ ba.data.toList = s
  | .loop st pend fn n tm ps a b d => (∀ i, n ≤ i → tm.get undef i = undef ∨ tm.get undef i = lost) ∧ ∃ L : Loop, w.heap[x.1]? = some (.loop L) ∧ L.state = st ∧ L.pending = pend ∧ L.fn = fn ∧ L.tmps.size = n ∧ (∀ (i : Nat) v, L.tmps[i]? = some v → tm.get undef i = lost ∨ R g v (tm.get undef i)) ∧
      L.params.toList = ps ∧ L.assign = a ∧ L.body = b ∧ g.vr d = none ∧ ∃ k, g.mu d = some (L.defers, k)
  | .defs => w.heap[x.1]? = some (.deferred (some []))
  | .dead => True

/-- What lies in a block of cells. -/
def cellO (C : Array Value) (o : Nat) : Option Value :=
  match C[o]? with
  | some v => if v.oneCell' = true then some v else none
  | none => none
theorem cellO_mk {C : Array Value} {o : Nat} {v : Value} (hv : C[o]? = some v) (h1 : v.oneCell' = true) : cellO C o = some v := by
  unfold cellO; rw [hv]; simp [h1]
theorem cellO_some {C : Array Value} {o : Nat} {v : Value} (h : cellO C o = some v) : C[o]? = some v ∧ v.oneCell' = true := by
  unfold cellO at h
  split at h
  · rename_i u hu
    split at h
    · cases h; exact ⟨hu, by assumption⟩
    · cases h
  · cases h
/-- What lies at a place of memory: a cell; a part of a map. -/
def look (w : World) (b o : Nat) : Option Value :=
  match w.heap[b]? with
  | some (.cells C _ _) => cellO C o
  | some (.map E c) => mapLook E c o
  | _ => none
theorem mapLook_tup {E : Array MapEntry} {c o : Nat} {v : Value} (h : mapLook E c o = some v) : v.oneCell' = false := by
  cases o with
  | zero => cases h; rfl
  | succ i =>
    simp only [mapLook] at h
    cases he : E[i]? with
    | none => rw [he] at h; cases h
    | some e => rw [he] at h; cases h; rfl
theorem look_cells {w : World} {b o : Nat} {v : Value} {C : Array Value} {T : TypeId} {fr : Nat × Nat} (h : w.heap[b]? = some (.cells C T fr)) (hv : C[o]? = some v) (h1 : v.oneCell' = true) : look w b o = some v := by
  unfold look; rw [h]; exact cellO_mk hv h1
theorem look_at {w : World} {b o : Nat} {v : Value} {C : Array Value} {T : TypeId} {fr : Nat × Nat} (h : w.heap[b]? = some (.cells C T fr)) (hv : look w b o = some v) : C[o]? = some v ∧ v.oneCell' = true := by
  unfold look at hv; rw [h] at hv
  exact cellO_some hv
theorem look_block {w : World} {b o : Nat} {v : Value} (h : look w b o = some v) (h1 : v.oneCell' = true) : ∃ C T fr, w.heap[b]? = some (.cells C T fr) ∧ C[o]? = some v := by
  unfold look at h
  split at h
  · rename_i C T fr e
    exact ⟨C, T, fr, e, (cellO_some h).1⟩
  · rw [mapLook_tup h] at h1; cases h1
  · cases h
theorem look_map {w : World} {b o : Nat} {E : Array MapEntry} {c : Nat} (h : w.heap[b]? = some (.map E c)) : look w b o = mapLook E c o := by
  unfold look; rw [h]
theorem look_lt {w : World} {b o : Nat} {v : Value} (h : look w b o = some v) : b < w.heap.size := by
  rcases Nat.lt_or_ge b w.heap.size with h' | h'
  · exact h'
  · unfold look at h
    rw [Array.getElem?_eq_none h'] at h; cases h
theorem look_cell {w : World} {b o : Nat} {v : Value} (h : look w b o = some v) (h1 : v.oneCell' = true) : w.cell? ⟨b, o, none⟩ = some v := by
  obtain ⟨C, T, fr, e, hu⟩ := look_block h h1
  unfold World.cell?; simp [e, hu]
theorem look_heap {w w' : World} {b o : Nat} {v : Value} (hh : w'.heap[b]? = w.heap[b]?) (h : look w b o = some v) : look w' b o = some v := by
  unfold look at *; rw [hh]; exact h
theorem look_of_cell {w : World} {b o : Nat} {v : Value} (h : w.cell? ⟨b, o, none⟩ = some v) (h1 : v.oneCell' = true) : look w b o = some v := by
  unfold World.cell? at h
  split at h
  · rename_i C T fr e
    simp at h
    exact look_cells e h h1
  · cases h

/-- The world, from block B on the run's own; 'w0': as the run began. -/
structure W (B : Nat) (w0 : World) (g : Gh) (h : Heap) (w : World) : Prop where
  low : Below B w0 w
  base : B ≤ w.heap.size
  shut : ∀ b o v, g.S b o = some v → look w b o = some v
  dom : ∀ r, r < h.n → ∃ x, g.mu r = some x
  out : ∀ r, h.n ≤ r → g.mu r = none ∧ h.get r = .dead
  ver : ∀ r, g.vr r = match h.get r with | .row v _ _ _ _ _ => some v | _ => none
  obj : ∀ r x, g.mu r = some x → ObjOk g w x (h.get r)
  inj : ∀ r r' x x', g.mu r = some x → g.mu r' = some x' → x.1 = x'.1 → r = r'
  high : ∀ r x, g.mu r = some x → B ≤ x.1 ∧ x.1 < w.heap.size

/-- A map that nobody writes any more, in memory. -/
theorem gmap_heap {w : World} {b c : Nat} {E : Array MapEntry} (h : ∀ o v, mapLook E c o = some v → look w b o = some v) : w.heap[b]? = some (.map E c) := by
  have h0 := h 0 _ rfl
  cases hb : w.heap[b]? with
  | none => unfold look at h0; rw [hb] at h0; cases h0
  | some x =>
    cases x with
    | cells C T fr => have := (look_at hb h0).2; cases this
    | map E' c' =>
      rw [look_map hb] at h0
      simp only [mapLook, Option.some.injEq, Value.tuple.injEq] at h0
      have hn : E'.size = E.size ∧ c' = c := by simp at h0; omega
      obtain ⟨hn, rfl⟩ := hn
      have he : E' = E := by
        refine Array.ext hn fun i hi hi' => ?_
        have h1 := h (i + 1) (.tuple #[E[i].key, E[i].val, .int .i64 (E[i].born : Int)]) (by simp only [mapLook, Array.getElem?_eq_getElem hi'])
        rw [look_map hb] at h1
        simp only [mapLook, Array.getElem?_eq_getElem hi, Option.some.injEq, Value.tuple.injEq] at h1
        have h2 : E'[i].key = E[i].key ∧ E'[i].val = E[i].val ∧ E'[i].born = E[i].born := by
          simp at h1; exact ⟨h1.1, h1.2.1, by omega⟩
        revert h2
        generalize E'[i] = x
        generalize E[i] = y
        intro h2
        cases x; cases y
        simp only at h2
        rw [h2.1, h2.2.1, h2.2.2]
      rw [he]
    | _ => unfold look at h0; rw [hb] at h0; cases h0

theorem cell?_block {w : World} {b o : Nat} {v : Value} (h : w.cell? ⟨b, o, none⟩ = some v) : ∃ C T fr, w.heap[b]? = some (.cells C T fr) ∧ C[o]? = some v := by
  unfold World.cell? at h
  split at h
  · rename_i C T fr e
    simp at h
    exact ⟨C, T, fr, e, h⟩
  · cases h
theorem cell?_mk {w : World} {b o : Nat} {v : Value} {C : Array Value} {T : TypeId} {fr : Nat × Nat} (h : w.heap[b]? = some (.cells C T fr)) (hv : C[o]? = some v) : w.cell? ⟨b, o, none⟩ = some v := by
  unfold World.cell?; simp [h, hv]
theorem block_lt {w : World} {b : Nat} {o : Go.Obj} (h : w.heap[b]? = some o) : b < w.heap.size := lt_of_getElem?_array h

theorem ObjOk.mono {g g' : Gh} {w w' : World} {x : Nat × Nat × Nat} {o : Obj} (h : ObjOk g w x o) (hx : Ext g g') (hw : w'.heap[x.1]? = w.heap[x.1]?)
    (hS : ∀ o v, g'.S x.1 o = some v → g.S x.1 o = some v) : ObjOk g' w' x o := by
  cases o with
  | row ver ty sz pub cap es =>
    obtain ⟨e, C, fr, hr⟩ := h
    exact ⟨e, C, fr, ⟨hw.trans hr.at_, hr.csize, hr.pos, hr.fits, hr.pubs, hr.caps, hr.elems,
      fun i e j y he hy => (match hr.cells i e j y he hy with | ⟨v, a, b, c⟩ => ⟨v, a, b, c.mono hx⟩), fun o v hv => hr.shut o v (hS o v hv), hr.ice⟩⟩
  | map es =>
    obtain ⟨h0, E, clock, h1, h2, h3, h4⟩ := h
    exact ⟨fun o v e => h0 o v (hS o v e), E, clock, hw.trans h1, h2, fun i e p a b => ⟨(h3 i e p a b).1.mono hx, (h3 i e p a b).2.mono hx⟩, h4⟩
  | miter left cur =>
    rcases h with ⟨e, ec, s, n, t, h1⟩ | ⟨m, E, c, s, n, t, h1, h2, h3, h4, h5, h6, h7, h8⟩
    · exact .inl ⟨e, ec, s, n, t, hw.trans h1⟩
    · exact .inr ⟨m, E, c, s, n, t, hw.trans h1, fun o v e => hx.S _ _ _ (h2 o v e), h3, h4, h5, h6, fun i e p a b => ⟨(h7 i e p a b).1.mono hx, (h7 i e p a b).2.mono hx⟩, fun p q => by
        obtain ⟨q1, st, e, q2, q3, q4, q5⟩ := h8 p q
        exact ⟨q1, st, e, q2, q3, q4.mono hx, q5.mono hx⟩⟩
  | siter s pos => obtain ⟨ba, h1, h2⟩ := h; exact ⟨ba, hw.trans h1, h2⟩
  | loop st pend fn n tm ps a b d =>
    obtain ⟨hz, L, h1, h2, h3, h4, h5, h6, h7, h8, h9, h10, k, h11⟩ := h
    obtain ⟨p, q⟩ := hx.obj _ _ h10 h11
    exact ⟨hz, L, hw.trans h1, h2, h3, h4, h5, fun i v hv => (h6 i v hv).imp id fun q => q.mono hx, h7, h8, h9, p, k, q⟩
  | defs => exact hw.trans h
  | dead => trivial

end Go.AM
