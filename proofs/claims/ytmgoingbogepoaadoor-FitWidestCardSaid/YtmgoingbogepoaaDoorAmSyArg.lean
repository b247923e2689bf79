/-
  ARGUMENTS THAT ARE TEXTS, OR SLICES OF BYTES; from what a walk comes to, to the model's call.
-/
import Derived.Test.YtmgoingbogepoaaDoorAmSyFn
import Derived.Test.YtmgoingbogepoaaDoorAmCases
import Derived.ChangeSlices
import Derived.ChangeMaps5
import Derived.OpenShut
namespace Go.AM
open Go.RowKit Go.ChangeShapes Go.WideShapes

variable {P : Program} {E : Env}

/-- A walk that ends with true is a call of the model's that does. -/
theorem calls_of_true (hN : NameOk P) (hP : PrimOk P E) {f : FuncId} {fn : Func} {body : Code} {gs : List V} (hf : P.funcs[f]? = some fn) (hb : fn.body = some body) (hr : ∃ v h', Ev P E (.call f gs Heap.empty) (.ret v h') ∧ v = .bool true) {W : World} {us : Array Value} (hG : GlobOk E.glob (allOf W)) (hs : Rs' (Gh.data (allOf W)) us gs) :
    Calls P f us W fun e W' => e = .returned (.bool true) ∧ Below W.heap.size W W' := by
  obtain ⟨v, h', ⟨N, hr⟩, rfl⟩ := hr
  exact calls_of_run (run_snd hN hP N) hN hf hb (hr N (Nat.le_refl _)) hG hs

/-- Arguments, one after the other. -/
theorem args_nil {g : Gh} : Rs' g #[] [] := ⟨rfl, fun i v x a _ => by simp at a⟩
theorem args_cons {g : Gh} {v : Value} {x : V} {us : List Value} {xs : List V} (h : R g v x) (hs : Rs' g us.toArray xs) : Rs' g (v :: us).toArray (x :: xs) := by
  refine ⟨by have := hs.1; simp at this ⊢; exact this, fun i u y a b => ?_⟩
  cases i with
  | zero => simp at a b; subst a; subst b; exact h
  | succ i => exact hs.2 i u y (by simpa using a) (by simpa using b)

theorem text_R {g : Gh} (s : ByteArray) : R g (.string s) (.str s.data.toList) := .gnd (.str rfl)
theorem byte_R {g : Gh} {N m : Nat} (hN : N < 256) : R g (.int .u8 (N : Int)) (.imod .u8 m (N % m)) := .imod hN rfl
theorem int_R {g : Gh} (k : IntKind) (n : Int) : R g (.int k n) (.int k n) := .gnd (.int k n)

/-- Bytes, as data. -/
def bV (b : UInt8) : V := .int .u8 (b.toNat : Int)
/-- What a slice of bytes may be. -/
def Bs (x : V) (l : List UInt8) : Prop := (x = .nils ∧ l = []) ∨ x = .gsl 1 (l.map bV) none

theorem bytes_list {zs : List Int} (hw : ∀ n ∈ zs, (Lit.int .u8 n).wf = true) : ∃ l : List UInt8, zs.map (V.int .u8) = l.map bV := by
  refine ⟨zs.map fun n => UInt8.ofNat n.toNat, ?_⟩
  rw [List.map_map]
  refine List.map_congr_left fun n hn => ?_
  have := bounds_u8 (hw n hn)
  show V.int .u8 n = V.int .u8 ((UInt8.ofNat n.toNat).toNat : Int)
  rw [UInt8.toNat_ofNat', Nat.mod_eq_of_lt (by omega)]
  congr 1; omega
theorem bytes_R {W : World} {b off len cap : Nat} {zs : List Int} (hl : len ≤ cap) (hz : zs.length = cap) (hcell : ∀ i, i < zs.length → W.cell? ⟨b, off + i, none⟩ = some (.int .u8 (zs.getD i 0))) : R (Gh.data (allOf W)) (.slice (some ⟨b, off, none⟩) len cap) (.gsl 1 ((zs.take len).map (V.int .u8)) none) := by
  have hlen : ((zs.take len).map (V.int .u8)).length = len := by simp; omega
  have hel : ∀ (i : Nat) e, ((zs.take len).map (V.int .u8))[i]? = some e → i < zs.length ∧ e = .int .u8 (zs.getD i 0) := by
    intro i e he
    have hi : i < len := by have := lt_of_getElem?_list he; omega
    refine ⟨by omega, ?_⟩
    rw [List.getElem?_map, List.getElem?_take_of_lt hi] at he
    rw [List.getD_eq_getElem?_getD]
    cases hq : zs[i]? with
    | none => rw [hq] at he; cases he
    | some z => rw [hq] at he; cases he; rfl
  have := GR.gsl (S := allOf W) (b := b) (off := off) (sz := 1) (cap := cap) (c := none) (es := (zs.take len).map (V.int .u8)) (fun i _ => .int .u8 (zs.getD i 0)) Nat.one_pos
    (fun i e he => by obtain ⟨_, rfl⟩ := hel i e he; exact ⟨rfl, rfl⟩)
    (fun i e j x he hx => by
      obtain ⟨hi, rfl⟩ := hel i e he
      cases j with
      | zero => exact ⟨by rw [Nat.mul_one, Nat.add_zero]; exact hcell i hi, rfl⟩
      | succ j => simp [V.cells] at hx)
    (fun _ e => by cases e) (by omega)
    (fun i e j x he hx => by
      obtain ⟨hi, rfl⟩ := hel i e he
      cases j with
      | zero => simp [V.cells] at hx; subst hx; exact .int _ _
      | succ j => simp [V.cells] at hx)
  rw [hlen] at this
  exact .gnd this

section
variable {H : Type} {enc : TypeId × Value → H}
theorem okWide_slice' {w : World} {r : Reach} {base : Nat} {t e : TypeId} {v : Value} (ht : P.underlying t = some (.slice e)) (h : Value.okWide P w r base t v) : v = .slice none 0 0 ∨ ∃ a len cap, v = .slice (some a) len cap ∧ a.spot = none := by
  simp only [Value.okWide, ht, Cell.okWide] at h
  unfold Cell.ok at h
  rw [ht] at h
  split at h <;> simp_all
  exact h.2.2.2.1
/-- A SLICE OF BYTES, OPENED: what the machine has for it; how it reads behind a call that turned nothing. -/
theorem open_bytes {W : World} {r : Reach} {b0 : Nat} {t e : TypeId} {v : Value} {d : DataW H} {ps : List MemPlace} (ht : P.underlying t = some (.slice e)) (he : P.underlying e = some (.int .u8)) (hc : P.cellsOf e = 1)
    (hval : Value.okWide P W r b0 t v) (hd : DataW.Trod enc P W 0 (fun _ => true) true t v d ps) :
    (∃ x l, Bs x l ∧ R (Gh.data (allOf W)) v x) ∧ ∀ W', Below W.heap.size W W' → ∃ ps', DataW.Trod enc P W' 0 (fun b => decide (b < W.heap.size)) true t v d ps' := by
  obtain ⟨fuel, hf⟩ := hd
  rcases okWide_slice' ht hval with rfl | ⟨a, len, cap, rfl, hsp⟩
  · refine ⟨⟨.nils, [], .inl ⟨rfl, rfl⟩, .gnd .nils⟩, fun W' hb => ⟨[], 1, ?_⟩⟩
    rcases open_ints ht he hc hf with ⟨_, e2⟩ | ⟨a, len, cap, zs, e1, _⟩
    · cases e2
      simp [DataW.trod, Value.cells, ht]
    · simp [Value.cells] at e1
  · rcases open_ints ht he hc hf with ⟨e1, _⟩ | ⟨a', len', cap', zs, e1, _, hl, hm, hz, e2, hcell, hw⟩
    · simp [Value.cells] at e1
    · simp only [Value.cells, List.cons.injEq, Value.slice.injEq, Option.some.injEq, and_true] at e1
      obtain ⟨rfl, rfl, rfl⟩ := e1
      obtain ⟨b, off, spot⟩ := a
      simp only at hsp; subst hsp
      simp only [if_true] at hz
      have hcell' : ∀ i, i < zs.length → W.cell? ⟨b, off + i, none⟩ = some (.int .u8 (zs.getD i 0)) := fun i hi => by rw [← add_plain]; exact hcell i hi
      refine ⟨?_, fun W' hb => ?_⟩
      · obtain ⟨l, hl'⟩ := bytes_list (zs := zs.take len) fun n hn => hw n (List.mem_of_mem_take hn)
        refine ⟨_, l, .inr rfl, ?_⟩
        rw [← hl']
        exact bytes_R hl hz hcell'
      · simp only [Prod.mk.injEq] at e2
        obtain ⟨rfl, rfl⟩ := e2
        have hblk : 0 < zs.length → b < W.heap.size := fun h0 => by
          have := hcell' 0 h0
          unfold World.cell? at this
          rcases Nat.lt_or_ge b W.heap.size with h | h
          · exact h
          · simp [Array.getElem?_eq_none h] at this
        refine ⟨_, 2, shut_ints' 0 ht he hc (Nat.zero_le _) hl hm ?_ (fun i hi => ?_) hw⟩
        · by_cases hb' : b < W.heap.size
          · simp only [decide_eq_true hb', if_true]; exact hz
          · have : zs.length = 0 := by
              rcases Nat.eq_zero_or_pos zs.length with h | h
              · exact h
              · exact absurd (hblk h) hb'
            split <;> omega
        · have := hblk (by omega)
          rw [← hcell' i hi]
          exact hb.cell (p := ⟨b, off + i, none⟩) this
end

end Go.AM
