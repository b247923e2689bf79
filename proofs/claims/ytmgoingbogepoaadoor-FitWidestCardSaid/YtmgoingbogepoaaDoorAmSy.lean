/-
  STATES OF WHICH A PART IS KNOWN: rules for code over them.
-/
import Derived.Test.YtmgoingbogepoaaDoorAmSymOp
namespace Go.AM
open Go.RowKit

variable {P : Program} {E : Env}

/-- A frame with a slot written; a slot's value. -/
noncomputable def Fr.st (fr : Fr) (d : Tmp) (v : V) : Fr := { fr with tm := fr.tm.set undef v d }
noncomputable def Fr.at' (fr : Fr) (i : Tmp) : V := fr.tm.get undef i
theorem Fr.at_st (fr : Fr) (d i : Tmp) (v : V) : (fr.st d v).at' i = if d = i then v else fr.at' i := T.get_set _ _ _ _ _
theorem Fr.put_st {fr : Fr} {d : Tmp} {v : V} (h : Nat.blt d fr.n = true) : fr.put (some d) v = some (fr.st d v) := by
  change Fr.putD d fr v = _
  obtain ⟨fn, n, tm, marks, defers, round, dk, did⟩ := fr
  change (Bool.rec none (some ⟨fn, n, tm.set undef v d, marks, defers, round, dk, did⟩) (Nat.blt d n) : Option Fr) = _
  change Nat.blt d n = true at h
  rw [h]
  rfl
theorem Fr.put_no {fr : Fr} {d : Tmp} {v : V} (h : Nat.blt d fr.n = false) : fr.put (some d) v = none := by
  change Fr.putD d fr v = _
  obtain ⟨fn, n, tm, marks, defers, round, dk, did⟩ := fr
  change (Bool.rec none (some ⟨fn, n, tm.set undef v d, marks, defers, round, dk, did⟩) (Nat.blt d n) : Option Fr) = _
  change Nat.blt d n = false at h
  rw [h]

/-- A slot of which nothing is known. -/
def isLost : V → Bool
  | .fsl _ _ _ _ _ => true
  | _ => false

/-- What is known of a frame holds of it. -/
structure Sat (s fr : Fr) : Prop where
  fn : fr.fn = s.fn
  n : fr.n = s.n
  marks : fr.marks = s.marks
  defers : fr.defers = s.defers
  round : fr.round = s.round
  dk : fr.dk = s.dk
  did : fr.did = s.did
  slot : ∀ i, Nat.blt i s.n = true → isLost (s.at' i) = false → fr.at' i = s.at' i

theorem Sat.refl (s : Fr) : Sat s s := ⟨rfl, rfl, rfl, rfl, rfl, rfl, rfl, fun _ _ _ => rfl⟩
theorem Sat.st {s fr : Fr} (h : Sat s fr) (d : Tmp) (v : V) : Sat (s.st d v) (fr.st d v) :=
  ⟨h.fn, h.n, h.marks, h.defers, h.round, h.dk, h.did, fun i hi hl => by
    rw [Fr.at_st] at hl ⊢
    rw [Fr.at_st]
    split
    · rfl
    · rename_i hd
      rw [if_neg hd] at hl
      exact h.slot i hi hl⟩
theorem Sat.put {s fr s1 : Fr} {d : Option Tmp} {v : V} (h : Sat s fr) (hp : s.put d v = some s1) : ∃ fr1, fr.put d v = some fr1 ∧ Sat s1 fr1 := by
  cases d with
  | none =>
    have : s1 = s := by
      change some s = some s1 at hp
      cases hp; rfl
    subst this
    exact ⟨fr, rfl, h⟩
  | some d =>
    cases hb : Nat.blt d s.n with
    | false => rw [Fr.put_no hb] at hp; cases hp
    | true =>
      rw [Fr.put_st hb] at hp
      cases hp
      exact ⟨_, Fr.put_st (by rw [h.n]; exact hb), h.st d v⟩

/-- One state says no more than another one. -/
def Le (s' s : Fr) : Prop := ∀ fr, Sat s fr → Sat s' fr

/-- Slots that are known, and no others. -/
noncomputable def fullL (k : Nat) : T V := Nat.rec .e (fun _ ih => .n ih lost ih) k
noncomputable def mkT (n : Nat) (L : List (Nat × V)) : T V := List.rec (fullL (levels n)) (fun p _ ih => ih.set undef p.2 p.1) L
noncomputable def Fr.on (b : Fr) (L : List (Nat × V)) : Fr := { b with tm := mkT b.n L }
/-- A frame that has just begun. -/
def base (f n : Nat) : Fr := ⟨f, n, .e, [], [], none, none, false⟩

noncomputable def keepV (s : Fr) (ks : List Nat) : List (Nat × V) := List.rec [] (fun k _ ih => (k, s.at' k) :: ih) ks

theorem fullL_get (k : Nat) : ∀ i, i < 2 ^ k - 1 → (fullL k).get undef i = lost := by
  induction k with
  | zero => intro i h; simp at h
  | succ k IH =>
    intro i h
    change T.get undef (.n (fullL k) lost (fullL k)) i = lost
    cases i with
    | zero => rfl
    | succ i =>
      rw [T.get_n_succ]
      have h2 : i / 2 < 2 ^ k - 1 := by
        have : 2 ^ (k + 1) = 2 * 2 ^ k := by rw [Nat.pow_succ]; omega
        omega
      by_cases hm : i % 2 = 0
      · rw [T.pick_even _ _ _ hm]; exact IH _ h2
      · rw [T.pick_odd _ _ _ hm]; exact IH _ h2
theorem lt_levels (n : Nat) : n ≤ 2 ^ levels n - 1 := by
  have : n < 2 ^ levels n := by unfold levels; exact Nat.lt_log2_self
  omega
theorem mkT_get (n : Nat) (L : List (Nat × V)) (i : Nat) (hi : i < n) : (mkT n L).get undef i = lost ∨ (∃ v, (i, v) ∈ L ∧ (mkT n L).get undef i = v) := by
  induction L with
  | nil => exact .inl (fullL_get _ _ (Nat.lt_of_lt_of_le hi (lt_levels n)))
  | cons p L IH =>
    change ((mkT n L).set undef p.2 p.1).get undef i = lost ∨ ∃ v, (i, v) ∈ p :: L ∧ ((mkT n L).set undef p.2 p.1).get undef i = v
    rw [T.get_set]
    by_cases h : p.1 = i
    · rw [if_pos h]; exact .inr ⟨p.2, by subst h; simp, rfl⟩
    · rw [if_neg h]
      rcases IH with h | ⟨v, hm, hv⟩
      · exact .inl h
      · exact .inr ⟨v, by simp [hm], hv⟩
theorem keepV_mem {s : Fr} {ks : List Nat} {i : Nat} {v : V} (h : (i, v) ∈ keepV s ks) : v = s.at' i := by
  induction ks with
  | nil => cases h
  | cons k ks IH =>
    change (i, v) ∈ (k, s.at' k) :: keepV s ks at h
    rcases List.mem_cons.1 h with h | h
    · cases h; rfl
    · exact IH h
theorem Le.keep {s b : Fr} {ks : List Nat} {L : List (Nat × V)} (hk : keepV s ks = L) (h1 : b.fn = s.fn) (h2 : b.n = s.n) (h3 : b.marks = s.marks) (h4 : b.defers = s.defers) (h5 : b.round = s.round) (h6 : b.dk = s.dk) (h7 : b.did = s.did) : Le (b.on L) s := by
  intro fr h
  refine ⟨h.fn.trans h1.symm, h.n.trans h2.symm, h.marks.trans h3.symm, h.defers.trans h4.symm, h.round.trans h5.symm, h.dk.trans h6.symm, h.did.trans h7.symm, fun i hi hl => ?_⟩
  have hi' : i < b.n := by
    change Nat.blt i b.n = true at hi
    rw [Nat.blt_eq] at hi; exact hi
  have hm := mkT_get b.n L i hi'
  change isLost ((mkT b.n L).get undef i) = false at hl
  change fr.at' i = (mkT b.n L).get undef i
  rcases hm with e | ⟨v, hv, e⟩
  · rw [e] at hl; cases hl
  · rw [e] at hl ⊢
    subst hk
    have := keepV_mem hv
    subst this
    exact h.slot i (by rw [Nat.blt_eq, ← h2]; exact hi') hl
theorem Le.refl (s : Fr) : Le s s := fun _ h => h
theorem Le.trans {a b c : Fr} (h1 : Le a b) (h2 : Le b c) : Le a c := fun fr h => h1 fr (h2 fr h)
theorem Le.on {b : Fr} {L L' : List (Nat × V)} (ks : List Nat) (hk : keepV (b.on L) ks = L') : Le (b.on L') (b.on L) := Le.keep (b := b) hk rfl rfl rfl rfl rfl rfl rfl

/-- A piece of code over a state of which a part is known: it ends in order, of which K holds, or otherwise, of which X holds. -/
def KX (K : Fr → Heap → Prop) (X : Ex → Fr → Heap → Prop) : Ex → Fr → Heap → Prop
  | .normal => K
  | e => X e
def Wc (P : Program) (E : Env) (c : Code) (s : Fr) (h : Heap) (K : Fr → Heap → Prop) (X : Ex → Fr → Heap → Prop) : Prop :=
  ∀ fr, Sat s fr → ∃ e fr' h' s', Ev P E (.code c fr h) (.code e fr' h') ∧ Sat s' fr' ∧ KX K X e s' h'
/-- What is left of a region's operations. -/
def Wl (P : Program) (E : Env) (all l : List Oper) (s : Fr) (h : Heap) (K : Fr → Heap → Prop) (X : Ex → Fr → Heap → Prop) : Prop :=
  ∀ fr, Sat s fr → ∃ e fr' h' s', Evs P E all l fr h (.code e fr' h') ∧ Sat s' fr' ∧ KX K X e s' h'

variable {K : Fr → Heap → Prop} {X : Ex → Fr → Heap → Prop}

noncomputable def knownO (s : Fr) : Operand → Bool
  | .tmp t => Nat.blt t s.n && !(isLost (s.at' t))
  | _ => true
theorem ev_sat {s fr : Fr} (h : Sat s fr) {x : Operand} (hk : knownO s x = true) (G : Nat → Option V) : ev G fr.tm x = ev G s.tm x := by
  cases x with
  | tmp t =>
    unfold knownO at hk
    simp only [Bool.and_eq_true, Bool.not_eq_true'] at hk
    exact congrArg some (h.slot t hk.1 hk.2)
  | _ => rfl

theorem Wc.weak {c : Code} {s s' : Fr} {h : Heap} (hl : Le s' s) (hw : Wc P E c s' h K X) : Wc P E c s h K X := fun fr hs => hw fr (hl fr hs)
theorem Wc.mono {c : Code} {s : Fr} {h : Heap} {K' : Fr → Heap → Prop} {X' : Ex → Fr → Heap → Prop} (hw : Wc P E c s h K X) (h1 : ∀ s h, K s h → K' s h) (h2 : ∀ e s h, X e s h → X' e s h) : Wc P E c s h K' X' := by
  intro fr hs
  obtain ⟨e, fr1, h1', s1, hr, hs1, hq⟩ := hw fr hs
  refine ⟨e, fr1, h1', s1, hr, hs1, ?_⟩
  cases e with
  | normal => exact h1 _ _ hq
  | _ => exact h2 _ _ _ hq
theorem Wc.seq {a b : Code} {s : Fr} {h : Heap} (ha : Wc P E a s h (fun s1 h1 => Wc P E b s1 h1 K X) X) : Wc P E (.seq a b) s h K X := by
  intro fr hs
  obtain ⟨e, fr1, h1, s1, hr, hs1, hq⟩ := ha fr hs
  cases e with
  | normal =>
    obtain ⟨e2, fr2, h2, s2, hr2, hs2, hq2⟩ := hq fr1 hs1
    exact ⟨e2, fr2, h2, s2, hr.seq hr2, hs2, hq2⟩
  | exit _ => exact ⟨_, fr1, h1, s1, hr.seqOut (by simp), hs1, hq⟩
  | goto _ => exact ⟨_, fr1, h1, s1, hr.seqOut (by simp), hs1, hq⟩
  | ret => exact ⟨_, fr1, h1, s1, hr.seqOut (by simp), hs1, hq⟩
  | panic _ => exact ⟨_, fr1, h1, s1, hr.seqOut (by simp), hs1, hq⟩
theorem Wc.skip {s : Fr} {h : Heap} (hq : K s h) : Wc P E .skip s h K X := fun fr hs => ⟨.normal, fr, h, s, Ev.skip, hs, hq⟩
theorem Wc.ret {s : Fr} {h : Heap} (hq : X .ret s h) : Wc P E .ret s h K X := fun fr hs => ⟨.ret, fr, h, s, Ev.ret, hs, hq⟩
theorem Wc.exit {id : Nat} {s : Fr} {h : Heap} (hq : X (.exit id) s h) : Wc P E (.exit id) s h K X := fun fr hs => ⟨.exit id, fr, h, s, Ev.exit, hs, hq⟩
theorem Wc.scope {b : Code} {s : Fr} {h : Heap} (hb : Wc P E b s h K X) : Wc P E (.scope b) s h K X := by
  intro fr hs
  obtain ⟨e, fr1, h1, s1, hr, hs1, hq⟩ := hb fr hs
  exact ⟨e, fr1, h1, s1, hr.scope, hs1, hq⟩
theorem Wc.cond {c : Operand} {a b : Code} {s : Fr} {h : Heap} (t : Bool) (hk : knownO s c = true) (hc : ev E.glob s.tm c = some (.bool t)) (h1 : t = true → Wc P E a s h K X) (h2 : t = false → Wc P E b s h K X) : Wc P E (.cond c a b) s h K X := by
  intro fr hs
  have hc' : ev E.glob fr.tm c = some (.bool t) := (ev_sat hs hk _).trans hc
  cases t with
  | true =>
    obtain ⟨e, fr1, h1', s1, hr, hs1, hq⟩ := h1 rfl fr hs
    exact ⟨e, fr1, h1', s1, Ev.cond hc' hr, hs1, hq⟩
  | false =>
    obtain ⟨e, fr1, h1', s1, hr, hs1, hq⟩ := h2 rfl fr hs
    exact ⟨e, fr1, h1', s1, Ev.cond hc' hr, hs1, hq⟩
/-- A condition that says whether something is so. -/
theorem Wc.condP {c : Operand} {a b : Code} {s : Fr} {h : Heap} {p : Prop} [Decidable p] (hk : knownO s c = true) (hc : ev E.glob s.tm c = some (.bool (decide p))) (h1 : p → Wc P E a s h K X) (h2 : ¬ p → Wc P E b s h K X) : Wc P E (.cond c a b) s h K X :=
  Wc.cond (decide p) hk hc (fun h => h1 (of_decide_eq_true h)) (fun h => h2 (of_decide_eq_false h))
theorem Wc.condN {c : Operand} {a b : Code} {s : Fr} {h : Heap} {p : Prop} [Decidable p] (hk : knownO s c = true) (hc : ev E.glob s.tm c = some (.bool (!decide p))) (h1 : ¬ p → Wc P E a s h K X) (h2 : p → Wc P E b s h K X) : Wc P E (.cond c a b) s h K X :=
  Wc.cond (!decide p) hk hc (fun h => h1 (by simpa using h)) (fun h => h2 (by simpa using h))
theorem Wc.condT {c : Operand} {a b : Code} {s : Fr} {h : Heap} (hk : knownO s c = true) (hc : ev E.glob s.tm c = some (.bool true)) (h1 : Wc P E a s h K X) : Wc P E (.cond c a b) s h K X := Wc.cond true hk hc (fun _ => h1) (fun h => by cases h)
theorem Wc.condF {c : Operand} {a b : Code} {s : Fr} {h : Heap} (hk : knownO s c = true) (hc : ev E.glob s.tm c = some (.bool false)) (h1 : Wc P E b s h K X) : Wc P E (.cond c a b) s h K X := Wc.cond false hk hc (fun h => by cases h) (fun _ => h1)

/-- The ends of a block. -/
def blockX (id : Nat) (K : Fr → Heap → Prop) (X : Ex → Fr → Heap → Prop) : Ex → Fr → Heap → Prop
  | .exit id' => bif Nat.beq id' id then K else X (.exit id')
  | e => X e
theorem Wc.block {id : Nat} {b : Code} {s : Fr} {h : Heap} (hb : Wc P E b s h K (blockX id K X)) : Wc P E (.block id b) s h K X := by
  intro fr hs
  obtain ⟨e, fr1, h1, s1, hr, hs1, hq⟩ := hb fr hs
  have hr' : Ev P E (.code (.block id b) fr h) (sBlock id (.code e fr1 h1)) := Ev.block hr
  cases e with
  | normal => exact ⟨_, fr1, h1, s1, hr', hs1, hq⟩
  | exit id' =>
    change Ev P E _ (bif Nat.beq id' id then .code .normal fr1 h1 else .code (.exit id') fr1 h1) at hr'
    change (bif Nat.beq id' id then K else X (.exit id')) s1 h1 at hq
    cases hb : Nat.beq id' id with
    | true => rw [hb] at hr' hq; exact ⟨_, fr1, h1, s1, hr', hs1, hq⟩
    | false => rw [hb] at hr' hq; exact ⟨_, fr1, h1, s1, hr', hs1, hq⟩
  | goto _ => exact ⟨_, fr1, h1, s1, hr', hs1, hq⟩
  | ret => exact ⟨_, fr1, h1, s1, hr', hs1, hq⟩
  | panic _ => exact ⟨_, fr1, h1, s1, hr', hs1, hq⟩
theorem blockX.here {id : Nat} {s : Fr} {h : Heap} (hq : K s h) : blockX id K X (.exit id) s h := by
  change (bif Nat.beq id id then K else X (.exit id)) s h
  rw [Nat.beq_refl]; exact hq
theorem blockX.out {id id' : Nat} {s : Fr} {h : Heap} (hi : Nat.beq id' id = false) (hq : X (.exit id') s h) : blockX id K X (.exit id') s h := by
  change (bif Nat.beq id' id then K else X (.exit id')) s h
  rw [hi]; exact hq
theorem blockX.ret {id : Nat} {s : Fr} {h : Heap} (hq : X .ret s h) : blockX id K X .ret s h := hq

/-- A loop: a family of states, what holds of them, a number that falls. -/
theorem Wc.loop {α : Type} {b : Code} {s : Fr} {h : Heap} (S : α → Fr) (H : α → Heap) (I : α → Prop) (μ : α → Nat) (a0 : α) (hs0 : Le (S a0) s) (hh0 : h = H a0) (hI0 : I a0)
    (hb : ∀ a, I a → Wc P E b (S a) (H a) (fun s h => ∃ a', Le (S a') s ∧ h = H a' ∧ I a' ∧ μ a' < μ a) X) : Wc P E (.loop b) s h K X := by
  have key : ∀ (n : Nat) (a : α), μ a = n → I a → Wc P E (.loop b) (S a) (H a) K X := by
    intro n
    induction n using Nat.strongRecOn with
    | _ n IH =>
      intro a ha hI fr hs
      obtain ⟨e, fr1, h1, s1, hr, hs1, hq⟩ := hb a hI fr hs
      cases e with
      | normal =>
        obtain ⟨a', hl, rfl, hI', hm⟩ := hq
        obtain ⟨e2, fr2, h2, s2, hr2, hs2, hq2⟩ := IH (μ a') (by omega) a' rfl hI' fr1 (hl fr1 hs1)
        exact ⟨e2, fr2, h2, s2, hr.loop hr2, hs2, hq2⟩
      | exit _ => exact ⟨_, fr1, h1, s1, hr.loopOut (by simp), hs1, hq⟩
      | goto _ => exact ⟨_, fr1, h1, s1, hr.loopOut (by simp), hs1, hq⟩
      | ret => exact ⟨_, fr1, h1, s1, hr.loopOut (by simp), hs1, hq⟩
      | panic _ => exact ⟨_, fr1, h1, s1, hr.loopOut (by simp), hs1, hq⟩
  subst hh0
  exact (key _ a0 rfl hI0).weak hs0

theorem Wc.region {id : Nat} {ops : Array Oper} {s : Fr} {h : Heap} (ho : Wl P E ops.toList ops.toList s h K X) : Wc P E (.region id ops false) s h K X := by
  intro fr hs
  obtain ⟨e, fr1, h1, s1, hr, hs1, hq⟩ := ho fr hs
  exact ⟨e, fr1, h1, s1, Ev.region hr, hs1, hq⟩

theorem Wl.nil {all : List Oper} {s : Fr} {h : Heap} (hq : K s h) : Wl P E all [] s h K X := fun fr hs => ⟨.normal, fr, h, s, Evs.nil, hs, hq⟩
theorem Wl.weak {all l : List Oper} {s s' : Fr} {h : Heap} (hl : Le s' s) (hw : Wl P E all l s' h K X) : Wl P E all l s h K X := fun fr hs => hw fr (hl fr hs)

noncomputable def knownOp (all : List Oper) (s : Fr) (o : Oper) : Bool := every (fun t => Nat.blt t s.n && !(isLost (s.at' t))) (List.app (tmpsOf o.op.operands.toList) (guardSlot all o))

theorem oper_congr {G : Nat → Option V} {tm tm' : T V} (h : Heap) {o : Oper} (ht : ∀ t, t ∈ tmpsOf o.op.operands.toList → tm.get undef t = tm'.get undef t) : oper P G tm h o = oper P G tm' h o := by
  by_cases hb : ∃ t len ps, o.op = .buildSlice t len ps
  · obtain ⟨t, len, ps, hb⟩ := hb
    obtain ⟨dst, op, ty, pos, after, guard⟩ := o
    simp only at hb ht
    subst hb
    change oBuildSlice P G tm h t len ps = oBuildSlice P G tm' h t len ps
    have hx : ∀ x, x ∈ (Op.buildSlice t len ps).operands.toList → ev G tm x = ev G tm' x := fun x hx => ev_congr ht hx
    have : evP G tm ps.toList = evP G tm' ps.toList := by
      unfold evP
      refine mapO_congr fun p hp => ?_
      rw [hx p.2 (by simp only [Op.operands, List.mem_map]; exact ⟨p, hp, rfl⟩)]
    unfold oBuildSlice
    rw [this]
  · have := operL_congr (P := P) (G := G) h ht
    unfold operL at this
    split at this
    · rename_i t len ps e; exact absurd ⟨t, len, ps, e⟩ hb
    · exact this
theorem operE_congr {G : Nat → Option V} {tm tm' : T V} (lit : Bool) (h : Heap) {o : Oper} (ht : ∀ t, t ∈ tmpsOf o.op.operands.toList → tm.get undef t = tm'.get undef t) : operE lit P G tm h o = operE lit P G tm' h o := by
  unfold operE
  rw [oper_congr h ht, operL_congr h ht]

theorem knownOp_eq {all : List Oper} {s fr : Fr} {o : Oper} (hs : Sat s fr) (hk : knownOp all s o = true) :
    (∀ lit h, operE lit P E.glob fr.tm h o = operE lit P E.glob s.tm h o) ∧ wanted all fr o = wanted all s o := by
  have hk := (every_iff _ _).1 hk
  have hk' : ∀ t, t ∈ tmpsOf o.op.operands.toList ∨ t ∈ guardSlot all o → fr.tm.get undef t = s.tm.get undef t := by
    intro t ht
    have := hk t (by rw [List.app_eq, List.mem_append]; exact ht)
    simp only [Bool.and_eq_true, Bool.not_eq_true'] at this
    exact hs.slot t this.1 this.2
  exact ⟨fun lit h => operE_congr lit h fun t ht => hk' t (.inl ht), wanted_congr fun t ht => hk' t (.inr ht)⟩

/-- An operation that gives a value. -/
theorem Wl.val {all l : List Oper} {o : Oper} {s s1 : Fr} {h h1 : Heap} (v : V) (hk : knownOp all s o = true) (hw : wanted all s o = some true) (ho : operE (E.lit s.fn) P E.glob s.tm h o = .val v h1) (hp : s.put o.dst v = some s1) (hr : Wl P E all l s1 h1 K X) : Wl P E all (o :: l) s h K X := by
  intro fr hs
  obtain ⟨e1, e2⟩ := knownOp_eq (P := P) (E := E) hs hk
  obtain ⟨fr1, hp1, hs1⟩ := hs.put hp
  obtain ⟨e, fr2, h2, s2, hr2, hs2, hq⟩ := hr fr1 hs1
  exact ⟨e, fr2, h2, s2, Evs.val (e2.trans hw) (by rw [hs.fn, e1]; exact ho) hp1 hr2, hs2, hq⟩
theorem Wl.store {all l : List Oper} {o : Oper} {s s1 : Fr} {h h1 : Heap} (hk : knownOp all s o = true) (hw : wanted all s o = some true) (ho : operE (E.lit s.fn) P E.glob s.tm h o = .skip h1) (hp : s.put o.dst undef = some s1) (hr : Wl P E all l s1 h1 K X) : Wl P E all (o :: l) s h K X := by
  intro fr hs
  obtain ⟨e1, e2⟩ := knownOp_eq (P := P) (E := E) hs hk
  obtain ⟨fr1, hp1, hs1⟩ := hs.put hp
  obtain ⟨e, fr2, h2, s2, hr2, hs2, hq⟩ := hr fr1 hs1
  exact ⟨e, fr2, h2, s2, Evs.store (e2.trans hw) (by rw [hs.fn, e1]; exact ho) hp1 hr2, hs2, hq⟩
theorem Wl.not {all l : List Oper} {o : Oper} {s s1 : Fr} {h : Heap} (hk : knownOp all s o = true) (hw : wanted all s o = some false) (hp : s.put o.dst undef = some s1) (hr : Wl P E all l s1 h K X) : Wl P E all (o :: l) s h K X := by
  intro fr hs
  obtain ⟨_, e2⟩ := knownOp_eq (P := P) (E := E) hs hk
  obtain ⟨fr1, hp1, hs1⟩ := hs.put hp
  obtain ⟨e, fr2, h2, s2, hr2, hs2, hq⟩ := hr fr1 hs1
  exact ⟨e, fr2, h2, s2, Evs.skip (e2.trans hw) hp1 hr2, hs2, hq⟩

/-- What a call comes to, on whichever way. -/
def Came (P : Program) (E : Env) (f : FuncId) (args : List V) (h : Heap) (v : V) (h' : Heap) : Prop := ∃ N, ∀ n, N ≤ n → callAny E (run P E n) false f args h = .ret v h'
theorem Wl.came {all l : List Oper} {o : Oper} {s s1 : Fr} {h h1 h2 : Heap} {f : FuncId} {args : List V} {v : V} (hk : knownOp all s o = true) (hw : wanted all s o = some true) (ho : operE (E.lit s.fn) P E.glob s.tm h o = .call f args h1) (hc : Came P E f args h1 v h2) (hp : s.put o.dst v = some s1) (hr : Wl P E all l s1 h2 K X) : Wl P E all (o :: l) s h K X := by
  intro fr hs
  obtain ⟨e1, e2⟩ := knownOp_eq (P := P) (E := E) hs hk
  obtain ⟨fr1, hp1, hs1⟩ := hs.put hp
  obtain ⟨e, fr2, h2', s2, hr2, hs2, hq⟩ := hr fr1 hs1
  exact ⟨e, fr2, h2', s2, Evs.call (e2.trans hw) (by rw [hs.fn, e1]; exact ho) hc hp1 hr2, hs2, hq⟩

/-- A call of pure data gives pure data. -/
def Cp (P : Program) (E : Env) (f : FuncId) (gs : List V) (g : V) : Prop := ∃ v hc, Ev P E (.call f gs Heap.empty) (.ret v hc) ∧ retAll hc v = some g
theorem Cp.came {f : FuncId} {args gs : List V} {h h1 h2 : Heap} {g v' : V} (hs : E.shared f = false) (ha : pubL (pub [] depth) args h = some (gs, h1)) (hn : E.prim f gs = none) (hc : Cp P E f gs g) (ht : thaw h1 g = (v', h2)) : Came P E f args h v' h2 := by
  obtain ⟨v, hc, ⟨N, hr⟩, hg⟩ := hc
  refine ⟨N, fun n hn' => ?_⟩
  unfold callAny
  rw [hs]
  change callPure E (run P E n) f args h = _
  unfold callPure
  rw [ha]
  change (match E.prim f gs with | some v => thawR h1 v | .none => endPure thawR h1 f (run P E n (.call f gs Heap.empty))) = _
  rw [hn, hr n hn']
  change (match retAll hc v with | some g => thawR h1 g | .none => _) = _
  rw [hg]
  change thawR h1 g = _
  unfold thawR
  rw [ht]
theorem prim_came {f : FuncId} {args gs : List V} {h h1 h2 : Heap} {v v' : V} (hs : E.shared f = false) (ha : pubL (pub [] depth) args h = some (gs, h1)) (hp : E.prim f gs = some v) (ht : thaw h1 v = (v', h2)) : Came P E f args h v' h2 := callAny_prim hs ha hp ht
/-- A call that shares its caller's heap. -/
def Cs (P : Program) (E : Env) (f : FuncId) (args : List V) (h : Heap) (v : V) (h' : Heap) : Prop := Ev P E (.call f args h) (.ret v h')
theorem Cs.came {f : FuncId} {args : List V} {h h' : Heap} {v : V} (hs : E.shared f = true) (hp : E.pubRet f = false) (hc : Cs P E f args h v h') : Came P E f args h v h' := by
  obtain ⟨N, hr⟩ := hc
  refine ⟨N, fun n hn => ?_⟩
  unfold callAny
  rw [hs]
  change callShared E (run P E n) f args h = _
  unfold callShared
  rw [hp]
  exact hr n hn
theorem Cs.cameP {f : FuncId} {args : List V} {h h' h2 : Heap} {v v' : V} (hs : E.shared f = true) (hp : E.pubRet f = true) (hc : Cs P E f args h v h') (hv : pub [] depth h' v = some (v', h2)) : Came P E f args h v' h2 := by
  obtain ⟨N, hr⟩ := hc
  refine ⟨N, fun n hn => ?_⟩
  unfold callAny
  rw [hs]
  change callShared E (run P E n) f args h = _
  unfold callShared
  rw [hp]
  change pubR f (run P E n (.call f args h)) = _
  rw [hr n hn]
  change (match pub [] depth h' v with | some (v', h') => Res.ret v' h' | .none => _) = _
  rw [hv]

/-- A function's body, from its beginning. -/
noncomputable def argL (args : List V) : Nat → List (Nat × V) := List.rec (motive := fun _ => Nat → List (Nat × V)) (fun _ => []) (fun v _ ih i => (i, v) :: ih (Nat.succ i)) args
noncomputable def argS (f n : Nat) (args : List V) : Fr := (base f n).on (argL args 0)

theorem mem_argL {args : List V} : ∀ {i k : Nat} {v : V}, (i, v) ∈ argL args k → k ≤ i ∧ args[i - k]? = some v := by
  induction args with
  | nil => intro i k v h; cases h
  | cons x args IH =>
    intro i k v h
    change (i, v) ∈ (k, x) :: argL args (Nat.succ k) at h
    rcases List.mem_cons.1 h with h | h
    · cases h; exact ⟨Nat.le_refl _, by simp⟩
    · obtain ⟨h1, h2⟩ := IH h
      refine ⟨by omega, ?_⟩
      obtain ⟨j, rfl⟩ : ∃ j, i = k + 1 + j := ⟨i - (k + 1), by omega⟩
      rw [show k + 1 + j - k = j + 1 by omega]
      rw [show k + 1 + j - Nat.succ k = j by omega] at h2
      simpa using h2
theorem sat_args (f n : Nat) (args : List V) : Sat (argS f n args) ⟨f, n, args0 args 0 (full (levels n)), [], [], none, none, false⟩ := by
  refine ⟨rfl, rfl, rfl, rfl, rfl, rfl, rfl, fun i hi hl => ?_⟩
  change Nat.blt i n = true at hi
  rw [Nat.blt_eq] at hi
  have hm := mkT_get n (argL args 0) i hi
  change isLost ((mkT n (argL args 0)).get undef i) = false at hl
  change (args0 args 0 (full (levels n))).get undef i = (mkT n (argL args 0)).get undef i
  rcases hm with e | ⟨v, hv, e⟩
  · rw [e] at hl; cases hl
  · rw [e]
    obtain ⟨_, h2⟩ := mem_argL hv
    rw [Nat.sub_zero] at h2
    have hi' : i < args.length := by
      rcases Nat.lt_or_ge i args.length with h | h
      · exact h
      · rw [List.getElem?_eq_none h] at h2; cases h2
    rw [args0_get, if_pos ⟨Nat.zero_le _, by omega⟩, Nat.sub_zero, List.getD_eq_getElem?_getD, h2]; rfl

/-- A result that is known. -/
noncomputable def resultS (P : Program) (s : Fr) (h : Heap) (r : ResultVar) : Option V :=
  match r with
  | .tmp t => bif knownO s (.tmp t) then notLost (s.at' t) else none
  | .cell a t => bif knownO s (.tmp a) then load P h t (s.at' a) else none
noncomputable def resultsS (P : Program) (fn : Func) (s : Fr) (h : Heap) : Option V :=
  match mapO (resultS P s h) fn.results.toList with
  | some [v] => some v
  | some vs => some (.tup vs)
  | .none => .none
theorem mapO_mono {α β : Type} {f f' : α → Option β} : ∀ {l : List α} {ys : List β}, (∀ x y, f x = some y → f' x = some y) → mapO f l = some ys → mapO f' l = some ys := by
  intro l
  induction l with
  | nil => intro ys _ h; exact h
  | cons x l IH =>
    intro ys hf h
    rw [mapO_cons] at h ⊢
    cases hx : f x with
    | none => rw [hx] at h; cases h
    | some y =>
      rw [hx] at h
      rw [hf x y hx]
      cases hl : mapO f l with
      | none => rw [hl] at h; cases h
      | some zs => rw [hl] at h; rw [IH hf hl]; exact h
theorem resultsS_ok {fn : Func} {s fr : Fr} {h : Heap} {v : V} (hs : Sat s fr) (hv : resultsS P fn s h = some v) : results P fn fr h = some v := by
  have key : ∀ vs, mapO (resultS P s h) fn.results.toList = some vs → mapO (result1 P fr h) fn.results.toList = some vs := fun vs => mapO_mono fun r y hr => by
    cases r with
    | tmp t =>
      change (bif knownO s (.tmp t) then notLost (s.at' t) else none) = some y at hr
      cases hk : knownO s (.tmp t) with
      | false => rw [hk] at hr; cases hr
      | true =>
        rw [hk] at hr
        have := Option.some.inj (ev_sat hs hk (fun _ => none))
        change notLost (fr.tm.get undef t) = some y
        rw [this]; exact hr
    | cell a t =>
      change (bif knownO s (.tmp a) then load P h t (s.at' a) else none) = some y at hr
      cases hk : knownO s (.tmp a) with
      | false => rw [hk] at hr; cases hr
      | true =>
        rw [hk] at hr
        have := Option.some.inj (ev_sat hs hk (fun _ => none))
        change load P h t (fr.tm.get undef a) = some y
        rw [this]; exact hr
  unfold resultsS at hv
  unfold results
  cases hm : mapO (resultS P s h) fn.results.toList with
  | none => rw [hm] at hv; cases hv
  | some vs => rw [hm] at hv; rw [key vs hm]; exact hv

/-- A body that ends with a result. -/
def retX (P : Program) (fn : Func) (R : V → Heap → Prop) (s : Fr) (h : Heap) : Prop := s.defers = [] ∧ ∃ h1, killMarks s.marks h = some h1 ∧ ∃ v, resultsS P fn s h1 = some v ∧ R v h1
def bodyX (P : Program) (fn : Func) (R : V → Heap → Prop) : Ex → Fr → Heap → Prop
  | .ret => retX P fn R
  | _ => fun _ _ => False
theorem Ev.body {f : FuncId} {fn : Func} {body : Code} {args : List V} {h : Heap} {R : V → Heap → Prop} (hf : P.funcs[f]? = some fn) (hb : fn.body = some body) (hl : Nat.ble (List.len args) fn.ntmps = true)
    (hw : Wc P E body (argS f fn.ntmps args) h (retX P fn R) (bodyX P fn R)) : ∃ v h', Ev P E (.call f args h) (.ret v h') ∧ R v h' := by
  obtain ⟨e, fr, h', s', ⟨N, hr⟩, hs, hq⟩ := hw _ (sat_args f fn.ntmps args)
  have hq' : (e = .ret ∨ e = .normal) ∧ retX P fn R s' h' := by
    cases e with
    | normal => exact ⟨.inr rfl, hq⟩
    | ret => exact ⟨.inl rfl, hq⟩
    | _ => exact absurd hq id
  obtain ⟨he, hd, h1, hm, v, hv, hR⟩ := hq'
  refine ⟨v, h1, .of_step ⟨N, fun n hn => ?_⟩, hR⟩
  change sCall P E (run P E n) f args h = _
  unfold sCall
  rw [hf]
  change (match fn.body with | .none => _ | some body => bif Nat.ble (List.len args) fn.ntmps then endCall P (run P E n) f fn (run P E n (.code body _ h)) else _) = _
  rw [hb]
  change (bif Nat.ble (List.len args) fn.ntmps then endCall P (run P E n) f fn (run P E n (.code body _ h)) else _) = _
  rw [hl, hr n hn]
  change endCall P (run P E n) f fn (.code e fr h') = _
  have : endBody P (run P E n) f fn fr none h' = .ret v h1 := by
    unfold endBody
    rw [hs.marks, hs.defers, hm, hd]
    change endWith P f fn fr none h1 = _
    unfold endWith
    rw [resultsS_ok hs hv]
  rcases he with rfl | rfl <;> exact this
theorem Cp.body {f : FuncId} {fn : Func} {body : Code} {gs : List V} {g : V} (hf : P.funcs[f]? = some fn) (hb : fn.body = some body) (hl : Nat.ble (List.len gs) fn.ntmps = true)
    (hw : Wc P E body (argS f fn.ntmps gs) Heap.empty (retX P fn fun v h => retAll h v = some g) (bodyX P fn fun v h => retAll h v = some g)) : Cp P E f gs g := Ev.body hf hb hl hw
theorem Cs.body {f : FuncId} {fn : Func} {body : Code} {args : List V} {h h' : Heap} {v : V} (hf : P.funcs[f]? = some fn) (hb : fn.body = some body) (hl : Nat.ble (List.len args) fn.ntmps = true)
    (hw : Wc P E body (argS f fn.ntmps args) h (retX P fn fun v1 h1 => v1 = v ∧ h1 = h') (bodyX P fn fun v1 h1 => v1 = v ∧ h1 = h')) : Cs P E f args h v h' := by
  obtain ⟨v1, h1, hr, rfl, rfl⟩ := Ev.body hf hb hl hw
  exact hr

end Go.AM
