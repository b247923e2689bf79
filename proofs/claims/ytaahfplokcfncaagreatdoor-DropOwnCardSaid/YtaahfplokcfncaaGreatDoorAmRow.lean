/-
  Rows written out; variables of one's own; an iterator over a text.
-/
import Derived.Test.YtaahfplokcfncaaGreatDoorAmBuild
namespace Go.AM
open Go.RowKit

theorem EsOk.set {g : Gh} {sz : Nat} {C : Array Value} {es : List V} (h : EsOk g sz C.toList es) {c : Array Value} {e : V} {i : Nat} (hc : CellsOk g c e.cells) (hl : e.cells.length = sz) (hf : e.flat = true) (hi : i < es.length) :
    EsOk g sz (over C (i * sz) c.toList).toList (es.set i e) := by
  have hcl : c.toList.length = sz := by simp [hc.size, hl]
  have hC : C.size = es.length * sz := by simpa using h.size
  have hfit : i * sz + c.toList.length ≤ C.size := by
    rw [hC, hcl]
    have : (i + 1) * sz ≤ es.length * sz := Nat.mul_le_mul_right _ hi
    rw [Nat.succ_mul] at this; exact this
  have hget := over_get C (i * sz) c.toList hfit
  refine ⟨by simp [over_size, hC], fun k x hk => ?_, fun k x j y hk hy => ?_⟩
  · rw [List.getElem?_set] at hk
    split at hk
    · (try rw [if_pos (by omega)] at hk); cases hk; exact ⟨hl, hf⟩
    · exact h.elems k x hk
  · rw [Array.getElem?_toList, hget, hcl]
    rw [List.getElem?_set] at hk
    split at hk
    · rename_i hik
      subst hik
      (try rw [if_pos (by omega)] at hk); cases hk
      have hj : j < sz := by rw [← hl]; exact lt_of_getElem?_list hy
      rw [if_pos (by omega), show i * sz + j - i * sz = j by omega]
      obtain ⟨v, hv⟩ := getElem?_of_lt_array c j (by rw [hc.size]; exact lt_of_getElem?_list hy)
      exact ⟨v, by simpa using hv, hc.one j v hv, hc.rel j v y hv hy⟩
    · rename_i hik
      have hj : j < sz := by rw [← (h.elems k x hk).1]; exact lt_of_getElem?_list hy
      rw [if_neg]
      · obtain ⟨v, hv, p⟩ := h.rel k x j y hk hy
        exact ⟨v, by simpa using hv, p⟩
      · intro hcc
        have := idx_ne (i := k) (i' := i) (j := j) (j' := k * sz + j - i * sz) (sz := sz) (fun e => hik e.symm) hj (by omega)
        omega

theorem fillElems_sound {g : Gh} {sz : Nat} (ps : List (Nat × V)) :
    ∀ (us : List (Nat × Value)) (C : Array Value) (es r : List V), PartsOk g us ps → EsOk g sz C.toList es → fillElems sz ps es = some r → ∃ c, Instr.fill (fun i => some (i * sz, sz)) C us = some c ∧ EsOk g sz c.toList r ∧ r.length = es.length := by
  induction ps with
  | nil =>
    intro us C es r hp hc hr
    cases us with
    | nil => cases hr; exact ⟨C, rfl, hc, rfl⟩
    | cons u us => have := hp.1; simp at this
  | cons p ps ih =>
    intro us C es r hp hc hr
    cases us with
    | nil => have := hp.1; simp at this
    | cons u us =>
      obtain ⟨i, v⟩ := u
      obtain ⟨h1, h2, h3⟩ := hp.tail
      simp only at h1; subst h1
      obtain ⟨hb, hr⟩ := bif_some (show (bif p.2.flat && Nat.beq (List.len p.2.cells) sz && Nat.blt p.1 (List.len es) then fillElems sz ps (List.setN p.2 es p.1) else none) = some r from hr) rfl
      simp only [Bool.and_eq_true, Nat.beq_eq, Nat.blt_eq, List.len_eq] at hb
      obtain ⟨⟨hb1, hb2⟩, hb3⟩ := hb
      have hcv := h2.cellsOk hb1
      rw [List.setN_eq] at hr
      obtain ⟨c, e1, e2, e3⟩ := ih us (over C (p.1 * sz) v.cells.toList) _ r h3 (hc.set hcv hb2 hb1 hb3) hr
      refine ⟨c, ?_, e2, by rw [e3]; simp⟩
      simp only [Instr.fill]
      have hs : v.cells.size = p.2.cells.length := hcv.size
      have hC : C.size = es.length * sz := by simpa using hc.size
      have hfit : p.1 * sz + sz ≤ C.size := by
        rw [hC]
        have : (p.1 + 1) * sz ≤ es.length * sz := Nat.mul_le_mul_right _ hb3
        rw [Nat.succ_mul] at this; exact this
      have hcond : ¬ ((decide (v.cells.size ≠ sz) || decide (p.1 * sz + v.cells.size > C.size)) = true) := by
        simp only [Bool.or_eq_true, decide_eq_true_eq, not_or]; exact ⟨by omega, by omega⟩
      rw [if_neg hcond, fold_over]
      exact e1

theorem zeros_ok {g : Gh} {zc : Array Value} {z : V} {sz n : Nat} (h : CellsOk g zc z.cells) (hl : z.cells.length = sz) (hf : z.flat = true) (_hsz : 0 < sz) : EsOk g sz ((Array.range (n * sz)).map (zc[· % zc.size]!)).toList (List.rep z n) := by
  rw [List.rep_eq]
  have hzs : zc.size = sz := by rw [h.size, hl]
  refine ⟨by simp, fun i e he => ?_, fun i e j x he hx => ?_⟩
  · rw [List.getElem?_replicate] at he
    split at he
    · cases he; exact ⟨hl, hf⟩
    · cases he
  · rw [List.getElem?_replicate] at he
    split at he
    · rename_i hi
      cases he
      have hj : j < sz := by rw [← hl]; exact lt_of_getElem?_list hx
      obtain ⟨v, hv⟩ := getElem?_of_lt_array zc j (by omega)
      refine ⟨v, ?_, h.one j v hv, h.rel j v x hv hx⟩
      have hlt := idx_lt hi hj
      simp only [Array.toList_map, List.getElem?_map, Array.toList_range, List.getElem?_range hlt, Option.map_some]
      have h2 : (i * sz + j) % zc.size = j := by
        rw [hzs, Nat.mul_comm, Nat.mul_add_mod, Nat.mod_eq_of_lt hj]
      rw [h2]
      congr 1
      simp [getElem!_def, hv]
    · cases he

theorem elemsRow_sound {P : Program} {B : Nat} {w0 : World} {g : Gh} {h : Heap} {w : World} (_hW : W B w0 g h w) {t e : TypeId} {len : Nat} {us : Array (Nat × Value)} {ps : List (Nat × V)} {z : V} {es : List V} (hp : PartsOk g us.toList ps) (hse : sliceElem P t = some e) (hz : zero P e = some z)
    (h0 : size P e ≠ 0) (h1 : len * size P e ≤ 65536) (h2 : z.cells.length = size P e) (h3 : z.flat = true) (hf : fillElems (size P e) ps (List.rep z len) = some es) :
    ∃ C, (Instr.buildSlice t len us).run P w = .ok (.slice (some ⟨w.heap.size, 0, none⟩) len len) { w with heap := w.heap.push (.cells C e) } ∧ EsOk g (size P e) C.toList es ∧ es.length = len := by
  obtain ⟨i, zv, hi, hzv, hg⟩ := zero_some hz
  have hR : R g zv z := .gnd (hg g.S)
  have hzo := zeros_ok (n := len) (hR.cellsOk h3) h2 h3 (Nat.pos_of_ne_zero h0)
  obtain ⟨c, e1, e2, e3⟩ := fillElems_sound ps us.toList _ _ es hp hzo hf
  refine ⟨c, ?_, e2, by rw [e3, List.rep_eq]; simp⟩
  have hu := sliceElem_some hse
  have hn : ¬ (len * size P e > 2 ^ 24) := by omega
  by_cases hlen : len * size P e = 0
  · have hl0 : len = 0 := by
      rcases Nat.mul_eq_zero.1 hlen with q | q
      · exact q
      · exact absurd q h0
    subst hl0
    rw [Nat.zero_mul] at e1
    simp only [Instr.buildSlice, Sem.run_bind, run_underlying hu, Result.andThen_ok, run_size hi, Nat.zero_mul, if_true]
    have hmap : ∀ f : Nat → Value, (Array.range 0).map f = #[] := fun f => by apply Array.ext'; simp
    rw [hmap] at e1
    simp [hmap, e1, Go.newRow]; try rfl
  · simp only [Instr.buildSlice, Sem.run_bind, run_underlying hu, Result.andThen_ok, run_size hi, if_neg hn, Sem.run_pure, if_neg hlen, run_zero hi hzv]
    rw [e1]
    simp [Go.newRow]; try rfl

/-- A variable of one's own. -/
theorem boxed_sound {P : Program} {B : Nat} {w0 : World} {g : Gh} {h h' : Heap} {w : World} (hW : W B w0 g h w) {e : TypeId} {v : Value} {z y : V} (hR : R g v z) (hb : boxed h e z = .val y h') : ValOk B w0 g ((Instr.box e v).run P w) y h' := by
  unfold boxed at hb
  have hq := bif_rs hb
  clear hb
  obtain ⟨hb, hv⟩ := hq
  cases hv
  simp only [Bool.and_eq_true, Bool.not_eq_true', List.len_eq] at hb
  obtain ⟨hf, hn⟩ := hb
  have hc := hR.cellsOk hf
  have hpos : 0 < z.cells.length := by
    rcases Nat.eq_zero_or_pos z.cells.length with q | q
    · rw [q] at hn; cases hn
    · exact q
  refine ⟨.pointer (some ⟨w.heap.size, 0, none⟩), { w with heap := w.heap.push (.cells v.cells e) }, g.new h.n (w.heap.size, 1, z.cells.length) (some 0), ?_, Grown.new hW _ _, ?_, ?_⟩
  · simp [Instr.box, newVar, Go.newRow]; try rfl
  · rw [List.len_eq]
    refine hW.newRow (by rw [hc.size]; omega) hpos (by simp) (fun c e => by cases e; rfl) (fun i x hx => ?_) (fun i x j y hx hy => ?_)
    · cases i with
      | zero => cases hx; exact ⟨rfl, hf⟩
      | succ i => cases hx
    · cases i with
      | zero =>
        cases hx
        obtain ⟨u, hu⟩ := getElem?_of_lt_array v.cells j (by rw [hc.size]; exact lt_of_getElem?_list hy)
        exact ⟨u, by simpa using hu, hc.one j u hu, hc.rel j u y hu hy⟩
      | succ i => cases hx
  · exact .ptr (ver' := 0) (by simp [Gh.new]) (Nat.le_refl _) fun _ => ⟨1, z.cells.length, by simp [Gh.new], rfl, rfl⟩

theorem alloc_sound {P : Program} {B : Nat} {w0 : World} {g : Gh} {h h' : Heap} {w : World} (hW : W B w0 g h w) {e : TypeId} {y : V} (hb : oAlloc P h e = .val y h') : ValOk B w0 g ((Instr.alloc e true (.tuple #[])).run P w) y h' := by
  unfold oAlloc at hb
  split at hb
  · rename_i z hz
    obtain ⟨i, zv, hi, hzv, hg⟩ := zero_some hz
    have := boxed_sound (P := P) hW (.gnd (hg g.S)) hb
    obtain ⟨v, w', g', h1, h2⟩ := this
    refine ⟨v, w', g', ?_, h2⟩
    rw [← h1]
    simp [Instr.alloc, Instr.box, run_zero hi hzv]
  · cases hb

theorem buildSlice_sound {P : Program} {B : Nat} {w0 : World} {g : Gh} {h : Heap} {w : World} (hW : W B w0 g h w) {t e : TypeId} {len : Nat} {us : Array (Nat × Value)} {ps : List (Nat × V)} {z : V} {es : List V} (hp : PartsOk g us.toList ps) (hse : sliceElem P t = some e) (hz : zero P e = some z)
    (h0 : size P e ≠ 0) (h1 : len * size P e ≤ 65536) (h2 : z.cells.length = size P e) (h3 : z.flat = true) (hf : fillElems (size P e) ps (List.rep z len) = some es) :
    ValOk B w0 g ((Instr.buildSlice t len us).run P w) (.sl h.n 0 0 len none) (newRow h e (size P e) 0 (some len) es) := by
  obtain ⟨C, h4, h5, h6⟩ := elemsRow_sound hW hp hse hz h0 h1 h2 h3 hf
  refine ⟨_, _, g.new h.n (w.heap.size, len, size P e) (some 0), h4, Grown.new hW _ _, hW.newRow (by rw [← h6]; simpa using h5.size) (Nat.pos_of_ne_zero h0) (by omega) (fun c e => by cases e; rfl) h5.elems (fun i x j y a b => ?_), R.newSl (Nat.le_refl _)⟩
  obtain ⟨v, p, q, r⟩ := h5.rel i x j y a b
  exact ⟨v, by simpa using p, q, r⟩

theorem range_sound {P : Program} {B : Nat} {w0 : World} {g : Gh} {h : Heap} {w : World} (hW : W B w0 g h w) {t : TypeId} {s : List UInt8} {vx : Value} (hu : P.underlying t = some .string) (hR : R g vx (.str s)) : ValOk B w0 g ((Instr.range t vx).run P w) (.iter h.n) (h.new (.siter s 0)) := by
  obtain ⟨b, rfl, rfl⟩ := hR.str_inv
  refine ⟨.pointer (some ⟨w.heap.size, 0, none⟩), { w with heap := w.heap.push (.stringIter b 0) }, g.new h.n (w.heap.size, 0, 0) none, ?_, Grown.new hW _ _, ?_, ?_⟩
  · simp [Instr.range, run_underlying hu]; try rfl
  · exact hW.alloc (.stringIter b 0) (.siter b.data.toList 0) 0 0 ⟨b, heap_push_new w _, rfl⟩
  · exact .iter (k := (0, 0)) (by simp [Gh.new]) (by simp [Gh.new])

/-- A thing that is no row, turned. -/
theorem W.setObj {B : Nat} {w0 : World} {g : Gh} {h : Heap} {w : World} (hW : W B w0 g h w) {r : Nat} {x : Nat × Nat × Nat} (hm : g.mu r = some x) (hv : g.vr r = none) {o : Go.Obj} {obj : Obj} (hov : verOf obj = none) (hobj : ObjOk g (blk w x.1 o) x obj) (hS : ∀ o v, g.S x.1 o ≠ some v) :
    W B w0 g (h.set r obj) (blk w x.1 o) := by
  refine hW.turn r x (Below.blk w x.1 _ (hW.high r _ hm).1) (Ext.refl g) (.inl ⟨Heap.n_set _ _ _, hW.live hm⟩) (fun _ _ => rfl) (fun q hq => by rw [Heap.get_set, if_neg (fun e => hq e.symm)]) (fun _ _ => rfl) hm
    (by rw [Heap.get_set, if_pos rfl, hov, hv]) ?_ (by rw [Heap.get_set, if_pos rfl]; exact hobj) ⟨(hW.high r _ hm).1, by rw [blk_size]; exact (hW.high r _ hm).2⟩ ?_
  · intro q y hq hy
    have hne : y.1 ≠ x.1 := fun e => hq (hW.inj q r y _ hy hm e)
    exact ⟨hne, blk_other w x.1 y.1 _ hne, fun _ _ h => h⟩
  · intro b' o' v hv'
    have e : b' ≠ x.1 := fun e => hS o' v (by rw [← e]; exact hv')
    rw [look_blk_other _ e]; exact hW.shut b' o' v hv'

theorem noS_of {w : World} {g : Gh} {b : Nat} {o : Go.Obj} (hsh : ∀ b o v, g.S b o = some v → look w b o = some v) (hb : w.heap[b]? = some o) (ho : ∀ C T fr, o ≠ .cells C T fr) (hm : ∀ E c, o ≠ .map E c) : ∀ q v, g.S b q ≠ some v := fun q v e => by
  have h := hsh _ _ _ e
  unfold look at h
  rw [hb] at h
  split at h
  · rename_i e1; cases e1; exact ho _ _ _ rfl
  · rename_i e1; cases e1; exact hm _ _ rfl
  · cases h

theorem next_sound {P : Program} {B : Nat} {w0 : World} {g : Gh} {h : Heap} {w : World} (hW : W B w0 g h w) {ty : TypeId} {r pos : Nat} {s : List UInt8} {vx : Value} (hR : R g vx (.iter r)) (hr : h.get r = .siter s pos) :
    (Nat.blt pos (List.len s) = true → ValOk B w0 g ((Instr.next vx true ty).run P w) (.tup [.bool true, .int .i64 (Int.ofNat pos), .int .i32 (Int.ofNat (Utf8.decode ⟨⟨s⟩⟩ pos).1)]) (h.set r (.siter s (Nat.add pos (Utf8.decode ⟨⟨s⟩⟩ pos).2)))) ∧
    (Nat.blt pos (List.len s) = false → ValOk B w0 g ((Instr.next vx true ty).run P w) (.tup [.bool false]) h) := by
  obtain ⟨b, k, rfl, hv, hm⟩ := hR.iter_inv
  have hobj := hW.obj r _ hm
  rw [hr] at hobj
  obtain ⟨ba, h1, h2⟩ := hobj
  subst h2
  have hba : (⟨⟨ba.data.toList⟩⟩ : ByteArray) = ba := rfl
  have hsz : ba.data.toList.length = ba.size := by simp
  rw [List.len_eq, hsz]
  refine ⟨fun hlt => ?_, fun hge => ?_⟩
  · rw [Nat.blt_eq] at hlt
    rw [hba]
    refine ⟨.tuple #[.bool true, goInt pos, .int .i32 (Utf8.decode ba pos).1], blk w b (.stringIter ba (pos + (Utf8.decode ba pos).2)), g, ?_, Grown.refl _ _, ?_, .gnd (.tup (by simp) ?_)⟩
    · simp [Instr.next, getObj, setObj, Sem.run, h1, hlt]; try rfl
    · exact hW.setObj hm hv rfl ⟨ba, blk_at w b _ (block_lt h1), rfl⟩ (noS_of hW.shut h1 (fun _ _ _ e => by cases e) (fun _ _ e => by cases e))
    · intro i v x hv hx
      match i with
      | 0 => cases hv; cases hx; exact .bool _
      | 1 => cases hv; cases hx; exact .int _ _
      | 2 => cases hv; cases hx; exact .int _ _
      | n + 3 => simp at hx
  · have hge' : ¬ pos < ba.size := fun q => by rw [show Nat.blt pos ba.size = true by rw [Nat.blt_eq]; exact q] at hge; cases hge
    refine ⟨.tuple #[.bool false], w, g, ?_, Grown.refl _ _, hW, .gnd (.tup (by simp) ?_)⟩
    · simp [Instr.next, getObj, Sem.run, h1, hge']
    · intro i v x hv hx
      match i with
      | 0 => cases hv; cases hx; exact .bool _
      | n + 1 => simp at hx

end Go.AM
