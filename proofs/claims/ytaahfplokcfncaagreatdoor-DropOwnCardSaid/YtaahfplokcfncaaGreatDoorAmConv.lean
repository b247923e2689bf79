/-
  Conversions.
-/
import Derived.Test.YtaahfplokcfncaaGreatDoorAmRow
import Derived.Laws.BytesArg
namespace Go.AM
open Go.RowKit

theorem shape_mk {w : World} {b : Nat} {C : Array Value} {T : TypeId} {fr : Nat × Nat} (h : w.heap[b]? = some (.cells C T fr)) : w.shape? b = some (T, C.size) := by
  unfold World.shape?; simp [h]

theorem wrapI_sound (k : IntKind) (n : Int) : wrapI k n = k.wrap n := wrapI_eq k n

theorem mapO_bytes {es : List V} {bs : List UInt8} (h : mapO byteOf es = some bs) : ∃ ns : List Int, es = ns.map (V.int .u8) ∧ bs = ns.map fun n => UInt8.ofNat n.toNat := by
  obtain ⟨hl, hg⟩ := mapO_get h
  have hn : ∀ e ∈ es, ∃ n, e = V.int .u8 n := fun e he => by
    obtain ⟨i, hi⟩ := List.getElem?_of_mem he
    obtain ⟨y, _, hy⟩ := hg i e hi
    obtain ⟨n, rfl, _⟩ := byteOf_some hy
    exact ⟨n, rfl⟩
  refine ⟨es.map fun e => match e with | .int _ n => n | _ => 0, ?_, ?_⟩
  · rw [List.map_map]
    conv => lhs; rw [← List.map_id es]
    refine List.map_congr_left fun e he => ?_
    obtain ⟨n, rfl⟩ := hn e he
    rfl
  · rw [List.map_map]
    apply List.ext_getElem?
    intro i
    rw [List.getElem?_map]
    cases hi : es[i]? with
    | none =>
      have : es.length ≤ i := by
        rcases Nat.lt_or_ge i es.length with q | q
        · rw [List.getElem?_eq_getElem q] at hi; cases hi
        · exact q
      rw [List.getElem?_eq_none (by omega)]; rfl
    | some e =>
      obtain ⟨y, hy, hb⟩ := hg i e hi
      obtain ⟨n, rfl, rfl⟩ := byteOf_some hb
      rw [hy]; rfl

theorem EsOk.nums {g : Gh} {cells : List Value} {ns : List Int} (h : EsOk g 1 cells (ns.map (V.int .u8))) : cells = ns.map (Value.int .u8) := by
  apply List.ext_getElem?
  intro i
  have hl : cells.length = ns.length := by have := h.size; simpa using this
  cases hi : ns[i]? with
  | none =>
    have : ns.length ≤ i := by
      rcases Nat.lt_or_ge i ns.length with q | q
      · rw [List.getElem?_eq_getElem q] at hi; cases hi
      · exact q
    rw [List.getElem?_eq_none (by omega), List.getElem?_eq_none (by simpa using this)]
  | some n =>
    obtain ⟨v, hv, _, hR⟩ := h.rel i (.int .u8 n) 0 (.int .u8 n) (by simp [hi]) rfl
    rw [Nat.mul_one, Nat.add_zero] at hv
    rw [hv, hR.int_inv]; simp [hi]

theorem bytesToString_sound {P : Program} {B : Nat} {w0 : World} {g : Gh} {h : Heap} {w : World} (hW : W B w0 g h w) {x : V} {vx : Value} {es : List V} {bs : List UInt8} (hx : R g vx x) (he : elems h 1 x = some es) (hb : mapO byteOf es = some bs) :
    ∃ a n c, vx = .slice a n c ∧ ∃ s, (Conv.bytesToString vx).run P w = .ok (.string s) w ∧ s.data.toList = bs := by
  obtain ⟨a, cap, cells, rfl, hcap, hat, hes⟩ := elems_sound hW (by omega) hx he
  obtain ⟨ns, rfl, rfl⟩ := mapO_bytes hb
  refine ⟨_, _, _, rfl, ?_⟩
  have hcells := hes.nums
  cases a with
  | none =>
    have : ns = [] := by
      cases ns with
      | nil => rfl
      | cons n ns => rw [hcells] at hat; obtain ⟨_, q, _⟩ := hat 0 _ rfl; cases q
    subst this
    exact ⟨.empty, by simp [Conv.bytesToString], rfl⟩
  | some a =>
    have hl : (loadCells a (ns.map (V.int .u8)).length).run P w = .ok (ns.map (Value.int .u8)).toArray w := by
      have := run_loadCells_list (P := P) w a cells (fun j v hv => by obtain ⟨a', q, q'⟩ := hat j v hv; cases q; exact q')
      rw [hcells] at this
      simpa using this
    refine ⟨_, run_bytesToString w a _ cap ns hl, ?_⟩
    rw [foldl_push_bytes]
    simp [ByteArray.empty, ByteArray.emptyWithCapacity]
    try rfl

theorem ptrOut_sound {P : Program} {B : Nat} {w0 : World} {g : Gh} {h : Heap} {w : World} (hW : W B w0 g h w) {src dst t : TypeId} {r v o : Nat} {vx : Value} (hx : R g vx (.ptr r v o)) (hs : P.underlying src = some (.pointer t)) (hd : P.underlying dst = some .unsafePointer)
    (hp : ptrIn h r v o = true) (hz : 1 ≤ size P t) : (Go.convert src dst vx).run P w = .ok vx w := by
  obtain ⟨a, ver', rfl, hvr, hle, hpp⟩ := hx.ptr_inv
  unfold ptrIn at hp
  split at hp
  · rename_i ver ty sz pub cap es hr
    simp only [Bool.and_eq_true, Nat.beq_eq, Nat.blt_eq, List.len_eq] at hp
    obtain ⟨rfl, hlt⟩ := hp
    obtain ⟨hv2, b, k, C, fr, hm, hrow, _⟩ := hW.row hr
    rw [hv2] at hvr; cases hvr
    obtain ⟨k', sz', hm', ho, hsp⟩ := hpp rfl
    rw [hm] at hm'; cases hm'
    obtain ⟨inf, hi⟩ := size_info hz
    have hshape := shape_mk hrow.at_
    have hlt' : a.off < C.size := by
      rw [hrow.csize]
      have : es.length * sz ≤ k * sz := Nat.mul_le_mul_right _ hrow.fits
      change o < es.length * sz at hlt
      omega
    have hnz : size P t ≠ 0 := by omega
    simp [Go.convert, run_underlying hs, run_underlying hd, Conv.unsafePointer, Conv.seenAt, viewAt, hshape, cellsIn, run_size hi, hnz]
    intro q; omega
  · cases hp

theorem fieldLies_ex {P : Program} {ty : TypeId} {r : Nat} {u : TypeId} (h : fieldLies P ty r u = true) : ∃ fs, P.underlying ty = some (.struct fs) ∧ P.stoodInHeld ty = false ∧ ∃ f, f ∈ fs ∧ f.offset = r ∧ 1 ≤ P.cellsOf f.type ∧ sameLayout P P.depth f.type u = true := by
  unfold fieldLies at h
  split at h
  · rename_i fs hu
    simp only [Bool.and_eq_true, Bool.not_eq_true'] at h
    obtain ⟨h1, h2⟩ := h
    have key : ∀ l : List Field, (List.rec (motive := fun _ => Bool) false (fun f _ ih => bif Nat.beq f.offset r && Nat.ble 1 (size P f.type) && sameLayout P P.depth f.type u then true else ih) l : Bool) = true → ∃ f, f ∈ l ∧ f.offset = r ∧ 1 ≤ P.cellsOf f.type ∧ sameLayout P P.depth f.type u = true := by
      intro l
      induction l with
      | nil => intro q; cases q
      | cons f l IH =>
        intro q
        change (bif Nat.beq f.offset r && Nat.ble 1 (size P f.type) && sameLayout P P.depth f.type u then true else _) = true at q
        cases hc : (Nat.beq f.offset r && Nat.ble 1 (size P f.type) && sameLayout P P.depth f.type u) with
        | true =>
          simp only [Bool.and_eq_true, Nat.beq_eq, Nat.ble_eq] at hc
          exact ⟨f, List.mem_cons_self, hc.1.1, hc.1.2, hc.2⟩
        | false =>
          rw [hc] at q
          obtain ⟨g, hg, hh⟩ := IH q
          exact ⟨g, List.mem_cons_of_mem _ hg, hh⟩
    obtain ⟨f, hf, hh⟩ := key _ h2
    exact ⟨fs, hu, h1, f, by simpa using hf, hh⟩
  · cases h
theorem ptrBack_sound {P : Program} {B : Nat} {w0 : World} {g : Gh} {h : Heap} {w : World} (hW : W B w0 g h w) {src dst u : TypeId} {r v o : Nat} {vx : Value} (hx : R g vx (.ptr r v o)) (hs : P.underlying src = some .unsafePointer) (hd : P.underlying dst = some (.pointer u))
    (hp : ptrLies P h r v o u = true) : (Go.convert src dst vx).run P w = .ok vx w := by
  obtain ⟨a, ver', rfl, hvr, hle, hpp⟩ := hx.ptr_inv
  unfold ptrLies at hp
  split at hp
  · rename_i ver ty sz pub cap es hr
    simp only [Bool.and_eq_true, Bool.or_eq_true, Nat.beq_eq, Nat.blt_eq, Nat.ble_eq, List.len_eq] at hp
    obtain ⟨⟨⟨⟨⟨rfl, hsz⟩, hlay⟩, hlt⟩, hdep⟩, hinf⟩ := hp
    obtain ⟨hv2, b, k, C, fr, hm, hrow, _⟩ := hW.row hr
    rw [hv2] at hvr; cases hvr
    obtain ⟨k', sz', hm', ho, hsp⟩ := hpp rfl
    rw [hm] at hm'; cases hm'
    obtain ⟨inf, hi⟩ := hasInfo_some hinf
    have hshape := shape_mk hrow.at_
    change o / sz < es.length at hlt
    have hcnt : C.size / sz = k := by rw [hrow.csize]; exact Nat.mul_div_cancel k hrow.pos
    have hcell : P.cellsOf ty = sz := hsz
    have h0 : ¬ sz = 0 := by have := hrow.pos; omega
    have h1 : o / sz + 1 ≤ k := by have := hrow.fits; omega
    have hrowAt : ∀ d, 2 ≤ d → rowAt P (fun x => sameLayout P P.depth x u) d ty k a.off 1 = true := by
      intro d hd
      obtain ⟨d, rfl⟩ : ∃ d', d = d' + 2 := ⟨d - 2, by omega⟩
      rcases hlay with ⟨hmod, hlay⟩ | hlay
      · change o % sz = 0 at hmod
        simp only [rowAt, hcell, if_neg h0, ho, hmod, hlay]
        simp [h1]
      · obtain ⟨fs, hu, hst, f, hf, hfo, hfc, hfl⟩ := fieldLies_ex hlay
        change f.offset = o % sz at hfo
        have hin : rowAt P (fun x => sameLayout P P.depth x u) (d + 1) f.type 1 (o % sz - f.offset) 1 = true := by
          have e : o % sz - f.offset = 0 := by omega
          have h2 : ¬ P.cellsOf f.type = 0 := by omega
          rw [e]
          simp only [rowAt, if_neg h2, Nat.zero_div, Nat.zero_mod, hfl]
          rfl
        rw [rowAt]
        simp only [hcell, if_neg h0, ho, hu, hst]
        rw [Bool.or_eq_true]
        refine .inr ?_
        simp only [Bool.and_eq_true, decide_eq_true_eq, Bool.not_false, true_and]
        refine ⟨by omega, ?_⟩
        rw [Array.any_eq_true]
        obtain ⟨i, hi, e⟩ := Array.mem_iff_getElem.1 hf
        refine ⟨i, hi, ?_⟩
        rw [e]
        simp only [Bool.and_eq_true, decide_eq_true_eq]
        exact ⟨⟨by omega, by omega⟩, hin⟩
    have hlies : liesAt P P.depth ty k a.off u 1 = true := by
      cases hd' : P.depth with
      | zero => rw [hd'] at hdep; omega
      | succ d =>
        have := hrowAt P.depth hdep
        rw [hd'] at this
        unfold liesAt
        rw [hd']
        simp only [this, Bool.true_or]
    have hva : ∀ w', w' = w → (variablesAt a u 1).run P w' = .ok true w' := fun w' e => by
      subst e; simp [variablesAt, hshape, hcell, hcnt, hlies]
    simp [Go.convert, run_underlying hs, run_underlying hd, Conv.unsafePointer, Conv.seenAt, viewAt, hshape, run_size hi, hva w rfl]
  · cases hp

theorem isU8_some {P : Program} {e : TypeId} (h : isU8 P e = true) : P.underlying e = some (.int .u8) := by
  unfold isU8 at h
  split at h
  · assumption
  · cases h

theorem convert_sound {P : Program} {B : Nat} {w0 : World} {g : Gh} {h : Heap} {w : World} (hW : W B w0 g h w) {src dst : TypeId} {x y : V} {vx : Value} (hx : R g vx x) (hc : AM.convert P src dst h x = some y) : ∃ v, (Go.convert src dst vx).run P w = .ok v w ∧ R g v y := by
  unfold AM.convert at hc
  split at hc
  · cases hc
  · rename_i s hs
    split at hc
    · cases hc
    · rename_i d hd
      split at hc
      · rename_i k n
        have := hx.int_inv; subst this
        split at hc
        · cases hc
          refine ⟨_, ?_, .gnd (.int _ _)⟩
          simp [Go.convert, run_underlying hs, run_underlying hd, Conv.intToInt, wrapI_sound]
        · split at hc
          · cases hc
            refine ⟨.string (Utf8.encode n), ?_, .gnd (.str rfl)⟩
            simp [Go.convert, run_underlying hs, run_underlying hd, Conv.intToString]
          · cases hc
        · cases hc
      · rename_i k0 m r
        obtain ⟨N, rfl, hN, rfl⟩ := hx.imod_inv
        split at hc
        · rename_i k
          cases hk : kindEq k .i8 with
          | true => rw [hk] at hc; cases hc
          | false =>
            rw [hk] at hc
            cases hc
            have hw : k.wrap (N : Int) = (N : Int) := by
              refine wrap_of_holds k _ ?_ ?_
              · cases k <;> simp [IntKind.min, IntKind.signed, IntKind.bits] <;> omega
              · cases k <;> first | (cases hk; done) | (simp [IntKind.max, IntKind.signed, IntKind.bits]; omega)
            refine ⟨.int k (N : Int), ?_, .imod hN rfl⟩
            simp [Go.convert, run_underlying hs, run_underlying hd, Conv.intToInt, hw]
        · cases hc
      · obtain ⟨b, rfl, rfl⟩ := hx.str_inv
        split at hc
        · cases hc
          exact ⟨.string b, by simp [Go.convert, run_underlying hs, run_underlying hd], hx⟩
        · cases hc
      · split at hc
        · obtain ⟨hb, hc⟩ := bif_some hc rfl
          cases hc
          exact ⟨vx, ptrBack_sound hW hx hs hd hb, hx⟩
        · obtain ⟨hb, hc⟩ := bif_some hc rfl
          cases hc
          simp only [Bool.and_eq_true, Nat.ble_eq] at hb
          exact ⟨vx, ptrOut_sound hW hx hs hd hb.1 hb.2, hx⟩
        · cases hc
      · split at hc
        · rename_i e
          split at hc
          · rename_i es hu he
            split at hc
            · rename_i bs hbs
              cases hc
              obtain ⟨a, n, c, rfl, str, h1, h2⟩ := bytesToString_sound (P := P) hW hx he hbs
              exact ⟨.string str, by rw [run_convert_bytes_string w src dst e a n c hs (isU8_some hu) hd]; exact h1, .gnd (.str h2)⟩
            · cases hc
          · cases hc
        · cases hc

end Go.AM
