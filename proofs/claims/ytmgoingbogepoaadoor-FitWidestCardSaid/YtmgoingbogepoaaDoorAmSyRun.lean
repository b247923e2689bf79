/-
  A REGION's OPERATIONS RUN OVER UNKNOWN DATA: as many as the kernel can; then one at a time.
-/
import Derived.Test.YtmgoingbogepoaaDoorAmSyOp
namespace Go.AM
open Go.RowKit

variable {P : Program} {E : Env} {K : Fr → Heap → Prop} {X : Ex → Fr → Heap → Prop}

noncomputable def Alls (l : List Prop) : Prop := List.rec True (fun p _ ih => p ∧ ih) l
theorem Alls.nil : Alls [] := trivial
theorem Alls.cons {p : Prop} {l : List Prop} (h : p) (hl : Alls l) : Alls (p :: l) := ⟨h, hl⟩
theorem Alls.app {a b : List Prop} (h : Alls (a ++ b)) : Alls a ∧ Alls b := by
  induction a with
  | nil => exact ⟨trivial, h⟩
  | cons p a IH => exact ⟨⟨h.1, (IH h.2).1⟩, (IH h.2).2⟩

/-- The same frame but for its slots. -/
structure SameB (s s' : Fr) : Prop where
  fn : s'.fn = s.fn
  n : s'.n = s.n
  marks : s'.marks = s.marks
  defers : s'.defers = s.defers
  round : s'.round = s.round
  dk : s'.dk = s.dk
  did : s'.did = s.did
theorem SameB.refl (s : Fr) : SameB s s := ⟨rfl, rfl, rfl, rfl, rfl, rfl, rfl⟩
theorem SameB.trans {a b c : Fr} (h : SameB a b) (k : SameB b c) : SameB a c := ⟨k.fn.trans h.fn, k.n.trans h.n, k.marks.trans h.marks, k.defers.trans h.defers, k.round.trans h.round, k.dk.trans h.dk, k.did.trans h.did⟩
theorem SameB.put {s s1 : Fr} {d : Option Tmp} {v : V} (hp : s.put d v = some s1) : SameB s s1 := by
  cases d with
  | none =>
    change some s = some s1 at hp
    cases hp; exact .refl _
  | some d =>
    cases hb : Nat.blt d s.n with
    | false => rw [Fr.put_no hb] at hp; cases hp
    | true =>
      rw [Fr.put_st hb] at hp
      cases hp
      exact ⟨rfl, rfl, rfl, rfl, rfl, rfl, rfl⟩
theorem SameB.on (b : Fr) (L : List (Nat × V)) : SameB b (b.on L) := ⟨rfl, rfl, rfl, rfl, rfl, rfl, rfl⟩
theorem SameB.keep {b s : Fr} {ks : List Nat} {L : List (Nat × V)} (h : SameB b s) (hk : keepV s ks = L) : Le (b.on L) s :=
  Le.keep hk h.fn.symm h.n.symm h.marks.symm h.defers.symm h.round.symm h.dk.symm h.did.symm

noncomputable def putS (s : Fr) (o : Oper) (v : V) (h : Heap) (φ : List Prop) : Option (Fr × Heap × List Prop) :=
  match s.put o.dst v with
  | some s1 => some (s1, h, φ)
  | none => none
noncomputable def primO (E : Env) (s : Fr) (o : Oper) (r : Rs) : Option (Fr × Heap × List Prop) :=
  match r with
  | .call f args h1 => match primS E f args h1 with
    | some (v, h2) => putS s o v h2 []
    | none => none
  | _ => none
noncomputable def stepS (P : Program) (E : Env) (all : List Oper) (o : Oper) (s : Fr) (h : Heap) : Option (Fr × Heap × List Prop) :=
  bif knownOp all s o then
    match wanted all s o with
    | none => none
    | some t => bif t then
        (match operS (E.lit s.fn) P E.glob s.tm h o with
        | .val v h1 => putS s o v h1 []
        | .obl v h1 φ => putS s o v h1 [φ]
        | .skip h1 => putS s o undef h1 []
        | .no => primO E s o (operE (E.lit s.fn) P E.glob s.tm h o))
      else putS s o undef h []
  else none
noncomputable def runB (P : Program) (E : Env) (all : List Oper) (n : Nat) : List Oper → Fr → Heap → Option (Fr × Heap × List Prop) :=
  Nat.rec (motive := fun _ => List Oper → Fr → Heap → Option (Fr × Heap × List Prop)) (fun _ s h => some (s, h, []))
    (fun _ ih l s h => match l with
      | [] => none
      | o :: l => match stepS P E all o s h with
        | none => none
        | some (s1, h1, φ) => match ih l s1 h1 with
          | none => none
          | some (s2, h2, φs) => some (s2, h2, φ ++ φs)) n
noncomputable def sumB (ks : List Nat) (r : Option (Fr × Heap × List Prop)) : Option (List (Nat × V) × Heap × List Prop) :=
  match r with
  | some (s, h, φs) => some (keepV s ks, h, φs)
  | none => none
noncomputable def sumP (ks : List Nat) (r : Option Fr) : Option (List (Nat × V)) :=
  match r with
  | some s => some (keepV s ks)
  | none => none

theorem putS_some {s : Fr} {o : Oper} {v : V} {h : Heap} {φ : List Prop} {r : Fr × Heap × List Prop} (hp : putS s o v h φ = some r) : ∃ s1, s.put o.dst v = some s1 ∧ r = (s1, h, φ) := by
  unfold putS at hp
  split at hp
  · rename_i s1 e; cases hp; exact ⟨s1, e, rfl⟩
  · cases hp
theorem stepS_ok {all l : List Oper} {o : Oper} {s s1 : Fr} {h h1 : Heap} {φ : List Prop} (hs : stepS P E all o s h = some (s1, h1, φ)) (hφ : Alls φ) : SameB s s1 ∧ (∀ K X, Wl P E all l s1 h1 K X → Wl P E all (o :: l) s h K X) := by
  unfold stepS at hs
  cases hk : knownOp all s o with
  | false => rw [hk] at hs; cases hs
  | true =>
    rw [hk] at hs
    simp only [cond_true] at hs
    cases hw : wanted all s o with
    | none => rw [hw] at hs; cases hs
    | some t =>
      rw [hw] at hs
      cases t with
      | false =>
        obtain ⟨s1', hp, e⟩ := putS_some hs
        cases e
        exact ⟨.put hp, fun K X hr => Wl.not hk hw hp hr⟩
      | true =>
        simp only [cond_true] at hs
        have hok := operS_ok (P := P) (E.lit s.fn) E.glob s.tm h o
        cases ho : operS (E.lit s.fn) P E.glob s.tm h o with
        | val v h' =>
          rw [ho] at hs hok
          obtain ⟨s1', hp, e⟩ := putS_some hs
          cases e
          exact ⟨.put hp, fun K X hr => Wl.val v hk hw hok hp hr⟩
        | obl v h' ψ =>
          rw [ho] at hs hok
          obtain ⟨s1', hp, e⟩ := putS_some hs
          cases e
          exact ⟨.put hp, fun K X hr => Wl.val v hk hw (hok hφ.1) hp hr⟩
        | skip h' =>
          rw [ho] at hs hok
          obtain ⟨s1', hp, e⟩ := putS_some hs
          cases e
          exact ⟨.put hp, fun K X hr => Wl.store hk hw hok hp hr⟩
        | no =>
          rw [ho] at hs
          simp only at hs
          cases hr : operE (E.lit s.fn) P E.glob s.tm h o with
          | call f args h' =>
            rw [hr] at hs
            change (match primS E f args h' with | some (v, h2) => putS s o v h2 [] | none => none) = some (s1, h1, φ) at hs
            cases hq : primS E f args h' with
            | none => rw [hq] at hs; cases hs
            | some p =>
              obtain ⟨v, h2⟩ := p
              rw [hq] at hs
              obtain ⟨s1', hp, e⟩ := putS_some hs
              cases e
              unfold primS at hq
              cases hsh : E.shared f with
              | true => rw [hsh] at hq; cases hq
              | false =>
                rw [hsh] at hq
                simp only [cond_false] at hq
                split at hq
                · cases hq
                · rename_i gs h1' ha
                  split at hq
                  · rename_i v1 hv1
                    exact ⟨.put hp, fun K X hr2 => Wl.came hk hw hr (prim_came hsh ha hv1 (Option.some.inj hq)) hp hr2⟩
                  · cases hq
          | _ => rw [hr] at hs; cases hs
theorem runB_ok {all : List Oper} (n : Nat) : ∀ {l : List Oper} {s s2 : Fr} {h h2 : Heap} {φs : List Prop}, runB P E all n l s h = some (s2, h2, φs) → Alls φs → SameB s s2 ∧ (∀ K X, Wl P E all (l.drop n) s2 h2 K X → Wl P E all l s h K X) := by
  induction n with
  | zero =>
    intro l s s2 h h2 φs hr _
    change some (s, h, []) = some (s2, h2, φs) at hr
    cases hr
    exact ⟨.refl _, fun K X hw => hw⟩
  | succ n IH =>
    intro l s s2 h h2 φs hr hφ
    cases l with
    | nil => cases hr
    | cons o l =>
      change (match stepS P E all o s h with
        | none => none
        | some (s1, h1, φ) => match runB P E all n l s1 h1 with
          | none => none
          | some (s2, h2, φs) => some (s2, h2, φ ++ φs)) = some (s2, h2, φs) at hr
      cases hs : stepS P E all o s h with
      | none => rw [hs] at hr; cases hr
      | some p =>
        obtain ⟨s1, h1, φ⟩ := p
        rw [hs] at hr
        simp only at hr
        cases hq : runB P E all n l s1 h1 with
        | none => rw [hq] at hr; cases hr
        | some q =>
          obtain ⟨s2', h2', φs'⟩ := q
          rw [hq] at hr
          cases hr
          obtain ⟨a1, a2⟩ := Alls.app hφ
          obtain ⟨b1, b2⟩ := stepS_ok (l := l) hs a1
          obtain ⟨c1, c2⟩ := IH hq a2
          exact ⟨b1.trans c1, fun K X hw => b2 K X (c2 K X hw)⟩
theorem sumB_some {ks : List Nat} {r : Option (Fr × Heap × List Prop)} {L : List (Nat × V)} {h : Heap} {φs : List Prop} (hb : sumB ks r = some (L, h, φs)) : ∃ s, r = some (s, h, φs) ∧ keepV s ks = L := by
  unfold sumB at hb
  split at hb
  · cases hb; exact ⟨_, rfl, rfl⟩
  · cases hb
theorem sumP_some {ks : List Nat} {r : Option Fr} {L : List (Nat × V)} (hb : sumP ks r = some L) : ∃ s, r = some s ∧ keepV s ks = L := by
  unfold sumP at hb
  split at hb
  · cases hb; exact ⟨_, rfl, rfl⟩
  · cases hb

/-- All operations of a region. -/
theorem Wc.whole {id : Nat} {ops : Array Oper} {b : Fr} {L : List (Nat × V)} {h : Heap} (ks : List Nat) (L' : List (Nat × V)) (h' : Heap) (φs : List Prop) (hb : sumB ks (runB P E ops.toList (List.len ops.toList) ops.toList (b.on L) h) = some (L', h', φs)) (ho : Alls φs) (hk : K (b.on L') h') : Wc P E (.region id ops false) (b.on L) h K X := by
  obtain ⟨s, hr, hL⟩ := sumB_some hb
  obtain ⟨h1, h2⟩ := runB_ok _ hr ho
  refine Wc.region (h2 K X ?_)
  rw [List.len_eq, List.drop_length]
  exact (Wl.nil hk).weak (((SameB.on b L).trans h1).keep hL)
theorem Wc.enter {id : Nat} {ops : Array Oper} {s : Fr} {h : Heap} (ho : Wl P E ops.toList (ops.toList.drop 0) s h K X) : Wc P E (.region id ops false) s h K X := Wc.region ho
/-- Some of a region's operations. -/
theorem Wl.batch {all : List Oper} {b : Fr} {L : List (Nat × V)} {h : Heap} (i j : Nat) (ks : List Nat) (L' : List (Nat × V)) (h' : Heap) (φs : List Prop) (hb : sumB ks (runB P E all (j - i) (all.drop i) (b.on L) h) = some (L', h', φs)) (hij : Nat.ble i j = true) (ho : Alls φs) (hk : Wl P E all (all.drop j) (b.on L') h' K X) : Wl P E all (all.drop i) (b.on L) h K X := by
  obtain ⟨s, hr, hL⟩ := sumB_some hb
  obtain ⟨h1, h2⟩ := runB_ok _ hr ho
  refine h2 K X ?_
  rw [Nat.ble_eq] at hij
  rw [List.drop_drop, show i + (j - i) = j by omega]
  exact hk.weak (((SameB.on b L).trans h1).keep hL)
theorem Wl.done {all : List Oper} {s : Fr} {h : Heap} (j : Nat) (hj : Nat.ble (List.len all) j = true) (hk : K s h) : Wl P E all (all.drop j) s h K X := by
  rw [Nat.ble_eq, List.len_eq] at hj
  rw [List.drop_eq_nil_of_le hj]
  exact Wl.nil hk

/-- The operation at a place, if all that it looks at is known, and it is wanted. -/
noncomputable def opAt (all : List Oper) (i : Nat) (s : Fr) : Option Oper :=
  match List.at all i with
  | none => none
  | some o => bif knownOp all s o then (match wanted all s o with
    | some true => some o
    | _ => none) else none
theorem opAt_some {all : List Oper} {i : Nat} {s : Fr} {o : Oper} (h : opAt all i s = some o) : all.drop i = o :: all.drop (i + 1) ∧ knownOp all s o = true ∧ wanted all s o = some true := by
  unfold opAt at h
  rw [List.at_eq] at h
  cases ho : all[i]? with
  | none => rw [ho] at h; cases h
  | some o' =>
    rw [ho] at h
    simp only at h
    cases hk : knownOp all s o' with
    | false => rw [hk] at h; cases h
    | true =>
      rw [hk] at h
      simp only [cond_true] at h
      split at h
      · rename_i hw
        cases h
        obtain ⟨hi, e⟩ := List.getElem?_eq_some_iff.1 ho
        exact ⟨by rw [List.drop_eq_getElem_cons hi, e], hk, hw⟩
      · cases h
/-- An operation whose value is given. -/
theorem Wl.opv {all : List Oper} {b : Fr} {L : List (Nat × V)} {h h1 : Heap} {o : Oper} {v : V} (i : Nat) (ks : List Nat) (L' : List (Nat × V)) (ho : opAt all i (b.on L) = some o) (he : operE (E.lit b.fn) P E.glob (b.on L).tm h o = .val v h1) (hp : sumP ks ((b.on L).put o.dst v) = some L') (hk : Wl P E all (all.drop (i + 1)) (b.on L') h1 K X) : Wl P E all (all.drop i) (b.on L) h K X := by
  obtain ⟨e, h1, h2⟩ := opAt_some ho
  obtain ⟨s1, hp1, hL⟩ := sumP_some hp
  rw [e]
  exact Wl.val v h1 h2 he hp1 (hk.weak (((SameB.on b L).trans (.put hp1)).keep hL))

/-- A load, a call: what of, and whereto. -/
noncomputable def loadAt (E : Env) (all : List Oper) (i : Nat) (s : Fr) : Option (TypeId × V × Option Tmp) :=
  match opAt all i s with
  | none => none
  | some o => match o.op with
    | .load t x => match ev E.glob s.tm x with
      | some a => some (t, a, o.dst)
      | none => none
    | _ => none
theorem Wl.load {all : List Oper} {b : Fr} {L : List (Nat × V)} {h : Heap} {t : TypeId} {a : V} {d : Option Tmp} (i : Nat) (v : V) (ks : List Nat) (L' : List (Nat × V)) (ho : loadAt E all i (b.on L) = some (t, a, d)) (hv : load P h t a = some v) (hp : sumP ks ((b.on L).put d v) = some L') (hk : Wl P E all (all.drop (i + 1)) (b.on L') h K X) : Wl P E all (all.drop i) (b.on L) h K X := by
  unfold loadAt at ho
  split at ho
  · cases ho
  · rename_i o hoa
    split at ho
    · rename_i t' x hop
      split at ho
      · rename_i a' hev
        cases ho
        refine Wl.opv i ks L' hoa (v := v) (h1 := h) ?_ hp hk
        rw [operE_plain (fun _ _ _ e => by rw [hop] at e; cases e)]
        unfold oper
        rw [hop, operD_load, o1_def, hev]
        simp only [hv]
        rfl
      · cases ho
    · cases ho

noncomputable def callAt (P : Program) (E : Env) (all : List Oper) (i : Nat) (s : Fr) (h : Heap) : Option (FuncId × List V × Heap × Option Tmp) :=
  match opAt all i s with
  | none => none
  | some o => match operE (E.lit s.fn) P E.glob s.tm h o with
    | .call f args h1 => some (f, args, h1, o.dst)
    | _ => none
theorem Wl.callC {all : List Oper} {b : Fr} {L : List (Nat × V)} {h h1 h2 : Heap} {f : FuncId} {args : List V} {v : V} {d : Option Tmp} (i : Nat) (ks : List Nat) (L' : List (Nat × V)) (hc : Came P E f args h1 v h2) (ho : callAt P E all i (b.on L) h = some (f, args, h1, d)) (hp : sumP ks ((b.on L).put d v) = some L') (hk : Wl P E all (all.drop (i + 1)) (b.on L') h2 K X) : Wl P E all (all.drop i) (b.on L) h K X := by
  unfold callAt at ho
  split at ho
  · cases ho
  · rename_i o hoa
    split at ho
    · rename_i f' args' h1' hr
      cases ho
      obtain ⟨e, k1, k2⟩ := opAt_some hoa
      obtain ⟨s1, hp1, hL⟩ := sumP_some hp
      rw [e]
      exact Wl.came k1 k2 hr hc hp1 (hk.weak (((SameB.on b L).trans (.put hp1)).keep hL))
    · cases ho
/-- A call of pure data: the arguments as data, the heap then. -/
noncomputable def pureAt (P : Program) (E : Env) (all : List Oper) (i : Nat) (s : Fr) (h : Heap) : Option (FuncId × List V × Heap × Option Tmp) :=
  match callAt P E all i s h with
  | none => none
  | some (f, args, h1, d) => bif E.shared f then none else match pubL (pub [] depth) args h1 with
    | none => none
    | some (gs, h2) => match E.prim f gs with
      | none => some (f, gs, h2, d)
      | some _ => none
theorem Wl.callP {all : List Oper} {b : Fr} {L : List (Nat × V)} {h h1 h2 : Heap} {f : FuncId} {gs : List V} {g v : V} {d : Option Tmp} (i : Nat) (ks : List Nat) (L' : List (Nat × V)) (hc : Cp P E f gs g) (ho : pureAt P E all i (b.on L) h = some (f, gs, h1, d)) (ht : thaw h1 g = (v, h2)) (hp : sumP ks ((b.on L).put d v) = some L') (hk : Wl P E all (all.drop (i + 1)) (b.on L') h2 K X) : Wl P E all (all.drop i) (b.on L) h K X := by
  unfold pureAt at ho
  split at ho
  · cases ho
  · rename_i f' args h1' d' hca
    cases hs : E.shared f' with
    | true => rw [hs] at ho; cases ho
    | false =>
      rw [hs] at ho
      simp only [cond_false] at ho
      split at ho
      · cases ho
      · rename_i gs' h2' ha
        split at ho
        · rename_i hn
          cases ho
          exact Wl.callC i ks L' (hc.came hs ha hn ht) hca hp hk
        · cases ho
/-- A call that shares the heap. -/
noncomputable def sharedAt (P : Program) (E : Env) (all : List Oper) (i : Nat) (s : Fr) (h : Heap) : Option (FuncId × List V × Heap × Option Tmp) :=
  match callAt P E all i s h with
  | none => none
  | some (f, args, h1, d) => bif E.shared f && !(E.pubRet f) then some (f, args, h1, d) else none
theorem Wl.callS {all : List Oper} {b : Fr} {L : List (Nat × V)} {h h1 h2 : Heap} {f : FuncId} {args : List V} {v : V} {d : Option Tmp} (i : Nat) (ks : List Nat) (L' : List (Nat × V)) (hc : Cs P E f args h1 v h2) (ho : sharedAt P E all i (b.on L) h = some (f, args, h1, d)) (hp : sumP ks ((b.on L).put d v) = some L') (hk : Wl P E all (all.drop (i + 1)) (b.on L') h2 K X) : Wl P E all (all.drop i) (b.on L) h K X := by
  unfold sharedAt at ho
  split at ho
  · cases ho
  · rename_i f' args' h1' d' hca
    cases hs : (E.shared f' && !(E.pubRet f')) with
    | false => rw [hs] at ho; cases ho
    | true =>
      rw [hs] at ho
      cases ho
      simp only [Bool.and_eq_true, Bool.not_eq_true'] at hs
      exact Wl.callC i ks L' (hc.came hs.1 hs.2) hca hp hk

/-- A heap, by what was laid in it. -/
noncomputable def hp (l : List Obj) : Heap := List.rec (motive := fun _ => Heap → Heap) (fun h => h) (fun o _ ih h => ih (h.new o)) l Heap.empty

/-- What a slot holds is made plain. -/
theorem Wl.known {all l : List Oper} {b : Fr} {L : List (Nat × V)} {h : Heap} (L' : List (Nat × V)) (hL : L = L') (hk : Wl P E all l (b.on L') h K X) : Wl P E all l (b.on L) h K X := by
  subst hL; exact hk
theorem Wc.known {c : Code} {b : Fr} {L : List (Nat × V)} {h : Heap} (L' : List (Nat × V)) (hL : L = L') (hk : Wc P E c (b.on L') h K X) : Wc P E c (b.on L) h K X := by
  subst hL; exact hk
theorem retX.mk {fn : Func} {R : V → Heap → Prop} {b : Fr} {L : List (Nat × V)} {h : Heap} (v : V) (hm : b.marks = [] ∧ b.defers = []) (hv : resultsS P fn (b.on L) h = some v) (hR : R v h) : retX P fn R (b.on L) h := ⟨hm.2, h, by show killMarks b.marks h = some h; rw [hm.1]; rfl, v, hv, hR⟩
theorem retX.marks {fn : Func} {R : V → Heap → Prop} {b : Fr} {L : List (Nat × V)} {h : Heap} (h1 : Heap) (v : V) (hd : b.defers = []) (hm : killMarks b.marks h = some h1) (hv : resultsS P fn (b.on L) h1 = some v) (hR : R v h1) : retX P fn R (b.on L) h := ⟨hd, h1, hm, v, hv, hR⟩

/-- A text that is gone over: the rune at a place, and how many bytes it has. -/
def runeAt (s : List UInt8) (pos : Nat) : Nat := (Utf8.decode ⟨⟨s⟩⟩ pos).1
def lenAt (s : List UInt8) (pos : Nat) : Nat := (Utf8.decode ⟨⟨s⟩⟩ pos).2
noncomputable def nextAt (E : Env) (all : List Oper) (i : Nat) (s : Fr) (h : Heap) : Option (Nat × List UInt8 × Nat × Option Tmp) :=
  match opAt all i s with
  | none => none
  | some o => match o.op with
    | .next it isString => bif isString then (match ev E.glob s.tm it with
      | some (.iter r) => match h.get r with
        | .siter x pos => some (r, x, pos, o.dst)
        | _ => none
      | _ => none) else none
    | _ => none
theorem Wl.next {all : List Oper} {b : Fr} {L : List (Nat × V)} {h : Heap} {d : Option Tmp} (i r : Nat) (x : List UInt8) (pos : Nat) (h1 : Heap) (ks : List Nat) (L1 L2 : List (Nat × V)) (ho : nextAt E all i (b.on L) h = some (r, x, pos, d)) (hh : h.set r (.siter x (pos + lenAt x pos)) = h1)
    (hp1 : sumP ks ((b.on L).put d (.tup [.bool true, .int .i64 (pos : Int), .int .i32 (runeAt x pos : Int)])) = some L1) (hp2 : sumP ks ((b.on L).put d (.tup [.bool false])) = some L2)
    (hk1 : pos < x.length → Wl P E all (all.drop (i + 1)) (b.on L1) h1 K X) (hk2 : x.length ≤ pos → Wl P E all (all.drop (i + 1)) (b.on L2) h K X) : Wl P E all (all.drop i) (b.on L) h K X := by
  unfold nextAt at ho
  split at ho
  · cases ho
  · rename_i o hoa
    split at ho
    · rename_i it isString hop
      cases isString with
      | false => cases ho
      | true =>
        simp only [cond_true] at ho
        split at ho
        · rename_i r' hev
          split at ho
          · rename_i x' pos' hget
            cases ho
            have hE : operE (E.lit b.fn) P E.glob (b.on L).tm h o = oNext E.glob (b.on L).tm h it true := by
              rw [operE_plain (fun _ _ _ e => by rw [hop] at e; cases e)]
              unfold oper
              rw [hop]; rfl
            have hN : oNext E.glob (b.on L).tm h it true = bif Nat.blt pos (List.len x) then .val (.tup [.bool true, .int .i64 (Int.ofNat pos), .int .i32 (Int.ofNat (Utf8.decode ⟨⟨x⟩⟩ pos).1)]) (h.set r (.siter x (Nat.add pos (Utf8.decode ⟨⟨x⟩⟩ pos).2))) else .val (.tup [.bool false]) h := by
              unfold oNext
              simp only [cond_true, hev, hget]
            by_cases hlt : pos < x.length
            · refine Wl.opv i ks L1 hoa (v := .tup [.bool true, .int .i64 (pos : Int), .int .i32 (runeAt x pos : Int)]) (h1 := h1) ?_ hp1 (hk1 hlt)
              have e1 : Nat.blt pos (List.len x) = true := by rw [Nat.blt_eq, List.len_eq]; exact hlt
              rw [hE, hN, e1, ← hh]; rfl
            · refine Wl.opv i ks L2 hoa (v := .tup [.bool false]) (h1 := h) ?_ hp2 (hk2 (by omega))
              have e1 : Nat.blt pos (List.len x) = false := by
                rw [Bool.eq_false_iff]; intro q; rw [Nat.blt_eq, List.len_eq] at q; exact hlt q
              rw [hE, hN, e1]; rfl
          · cases ho
        · cases ho
    · cases ho

/-- Two ways through what is left of a region meet at its end. -/
theorem Wl.join {all l : List Oper} {s b : Fr} {h : Heap} {p : Prop} [Decidable p] (L' : List (Nat × V)) (h' : Heap) (h1 : p → Wl P E all l s h (fun s1 h1 => Le (b.on L') s1 ∧ h1 = h') X) (h2 : ¬ p → Wl P E all l s h (fun s1 h1 => Le (b.on L') s1 ∧ h1 = h') X) (hk : K (b.on L') h') : Wl P E all l s h K X := by
  intro fr hs
  have key : Wl P E all l s h (fun s1 h1 => Le (b.on L') s1 ∧ h1 = h') X := by
    by_cases hp : p
    · exact h1 hp
    · exact h2 hp
  obtain ⟨e, fr1, hh, s1, hr, hs1, hq⟩ := key fr hs
  cases e with
  | normal =>
    obtain ⟨hl, he⟩ := hq
    subst he
    exact ⟨.normal, fr1, _, _, hr, hl fr1 hs1, hk⟩
  | _ => exact ⟨_, fr1, hh, s1, hr, hs1, hq⟩
/-- Two ways that do not meet. -/
theorem Wl.split {all l : List Oper} {s : Fr} {h : Heap} {p : Prop} [Decidable p] (h1 : p → Wl P E all l s h K X) (h2 : ¬ p → Wl P E all l s h K X) : Wl P E all l s h K X := by
  by_cases hp : p
  · exact h1 hp
  · exact h2 hp
theorem decAnd {p q : Prop} [Decidable p] [Decidable q] (h : p) : decide (p ∧ q) = decide q := by simp [h]
theorem decAndF {p q : Prop} [Decidable p] [Decidable q] (h : ¬ p) : decide (p ∧ q) = false := by simp [h]
theorem decOr {p q : Prop} [Decidable p] [Decidable q] (h : p) : decide (p ∨ q) = true := by simp [h]
theorem decOrF {p q : Prop} [Decidable p] [Decidable q] (h : ¬ p) : decide (p ∨ q) = decide q := by simp [h]
theorem decAndN {p q : Prop} [Decidable p] [Decidable q] (h : p) : decide (p ∧ ¬ q) = !decide q := by simp [h]
theorem decOrN {p q : Prop} [Decidable p] [Decidable q] (h : ¬ p) : decide (p ∨ ¬ q) = !decide q := by simp [h]
theorem Le.on' {b : Fr} {L L' : List (Nat × V)} (ks : List Nat) (L1 : List (Nat × V)) (hk : keepV (b.on L) ks = L1) (he : L1 = L') : Le (b.on L') (b.on L) := by
  subst he; exact Le.on ks hk

end Go.AM
