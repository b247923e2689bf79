/-
  A region that draws its order: in whatever order, what the text's order gives.
-/
import Derived.Test.YtaahfplokcfncaaGreatDoorAmOrder
namespace Go.AM
open Go.RowKit

variable {P : Program} {E : Env} {ih : Task → Res} {B : Nat} {w0 : World}

theorem put_get {fr fr' : Fr} {d : Option Tmp} {v : V} (h : fr.put d v = some fr') : fr' = { fr with tm := fr'.tm } ∧ (∀ t, fr'.tm.get undef t = if d = some t then v else fr.tm.get undef t) ∧ (∀ t, d = some t → t < fr.n) := by
  cases d with
  | none => cases h; exact ⟨rfl, fun t => by simp, fun t e => by cases e⟩
  | some d =>
    obtain ⟨fn, n, tm, marks, defers, round, dk, did⟩ := fr
    change (Bool.rec Option.none (some (⟨fn, n, tm.set undef v d, marks, defers, round, dk, did⟩ : Fr)) (Nat.blt d n) : Option Fr) = some fr' at h
    cases hb : Nat.blt d n with
    | false => rw [hb] at h; cases h
    | true =>
      rw [hb] at h; cases h
      rw [Nat.blt_eq] at hb
      refine ⟨rfl, fun t => ?_, fun t e => by cases e; exact hb⟩
      simp only [T.get_set, Option.some.injEq]

theorem put_some {fr : Fr} {d : Option Tmp} {v : V} (h : ∀ t, d = some t → t < fr.n) : ∃ fr', fr.put d v = some fr' := by
  cases d with
  | none => exact ⟨fr, rfl⟩
  | some d =>
    obtain ⟨fn, n, tm, marks, defers, round, dk, did⟩ := fr
    refine ⟨⟨fn, n, tm.set undef v d, marks, defers, round, dk, did⟩, ?_⟩
    change (Bool.rec Option.none (some (⟨fn, n, tm.set undef v d, marks, defers, round, dk, did⟩ : Fr)) (Nat.blt d n) : Option Fr) = _
    have : Nat.blt d n = true := by rw [Nat.blt_eq]; exact h d rfl
    rw [this]

/-- What a slot holds behind some of the writes: the last one's. -/
def wr (Wt : Nat → Option (Nat × V)) (D : Nat → Bool) (f : Nat → V) (t : Nat) : Nat → V
  | 0 => f t
  | n + 1 => if D n = true then (match Wt n with
    | some (d, v) => if d = t then v else wr Wt D f t n
    | none => wr Wt D f t n) else wr Wt D f t n

theorem wr_congr {Wt : Nat → Option (Nat × V)} {D D' : Nat → Bool} {f : Nat → V} {t n : Nat} (h : ∀ j v, j < n → Wt j = some (t, v) → D j = D' j) : wr Wt D f t n = wr Wt D' f t n := by
  induction n with
  | zero => rfl
  | succ n IH =>
    have ih := IH fun j v hj => h j v (by omega)
    simp only [wr]
    rw [ih]
    cases hw : Wt n with
    | none => simp
    | some p =>
      obtain ⟨d, v⟩ := p
      simp only
      by_cases e : d = t
      · subst e
        rw [h n v (by omega) hw]
      · simp [e]

theorem wr_add {Wt : Nat → Option (Nat × V)} {D D' : Nat → Bool} {f : Nat → V} {t n i d : Nat} {v : V} (hi : i < n) (hw : Wt i = some (d, v)) (hD : ∀ j, D' j = if j = i then true else D j) (hl : ∀ j u, i < j → j < n → Wt j = some (d, u) → D j = false) :
    wr Wt D' f t n = if d = t then v else wr Wt D f t n := by
  by_cases e : d = t
  · subst e
    rw [if_pos rfl]
    induction n with
    | zero => omega
    | succ n IH =>
      simp only [wr]
      by_cases hin : i = n
      · subst hin
        have hDi : D' i = true := by rw [hD, if_pos rfl]
        rw [if_pos hDi, hw]
        simp
      · have hl' := IH (by omega) fun j u hj hjn => hl j u hj (by omega)
        have hDn : D' n = D n := by rw [hD, if_neg (fun e => hin e.symm)]
        rw [hl', hDn]
        cases hwn : Wt n with
        | none => simp
        | some p =>
          obtain ⟨d', u⟩ := p
          by_cases e : d' = d
          · subst e
            rw [hl n u (by omega) (by omega) hwn]
            simp
          · simp [e]
  · rw [if_neg e]
    refine wr_congr fun j u hj hwj => ?_
    rw [hD]
    split
    · rename_i hji
      subst hji
      rw [hw] at hwj
      cases hwj
      exact absurd rfl e
    · rfl

theorem wr_prefix {Wt : Nat → Option (Nat × V)} {f : Nat → V} {t i n : Nat} (hi : i ≤ n) : wr Wt (fun j => decide (j < i)) f t n = wr Wt (fun _ => true) f t i := by
  induction n with
  | zero =>
    have : i = 0 := by omega
    subst this; rfl
  | succ n IH =>
    by_cases e : i = n + 1
    · subst e
      exact wr_congr fun j v hj _ => by simp [hj]
    · simp only [wr]
      rw [if_neg (by simp; omega)]
      exact IH (by omega)

section
variable {all : List Oper} {l : List DOp} {fr : Fr} {h : Heap} {fr' : Fr} {h' : Heap} {hps : List Hp} {rcs : List Rc} {pan' : Option Pn} {F : Nat → Fr} {H : Nat → Heap} {Q : Nat → Option Nat} {K : Nat → Kd}

def writes (l : List DOp) (K : Nat → Kd) (i : Nat) : Option (Nat × V) :=
  match l[i]?, K i with
  | some d, .val v => d.o.dst.map fun t => (t, v)
  | _, _ => none

theorem writes_some {i t : Nat} {v : V} (hw : writes l K i = some (t, v)) : ∃ d, l[i]? = some d ∧ K i = .val v ∧ d.o.dst = some t := by
  unfold writes at hw
  split at hw
  · rename_i d v' hd hk
    cases hdst : d.o.dst with
    | none => rw [hdst] at hw; cases hw
    | some t' => rw [hdst] at hw; cases hw; exact ⟨d, hd, hk, hdst⟩
  · cases hw

theorem StepOk.slots {d : DOp} {q q' : Option Nat} {k : Kd} (hs : StepOk P E ih all d fr h q k fr' h' q') : ((k = .no ∨ ∃ v hp, k = .pan v hp) ∧ fr' = fr) ∨ ∃ v, k = .val v ∧ fr.put d.o.dst v = some fr' := by
  cases hs with
  | no => exact .inl ⟨.inl rfl, rfl⟩
  | skip _ _ hput _ => exact .inr ⟨_, rfl, hput⟩
  | val _ _ _ hput _ _ => exact .inr ⟨_, rfl, hput⟩
  | pan => exact .inl ⟨.inr ⟨_, _, rfl⟩, rfl⟩
theorem StepOk.where_ {d : DOp} {q q' : Option Nat} {k : Kd} (hs : StepOk P E ih all d fr h q k fr' h' q') : q' = q ∨ (q = none ∧ q' = some d.i ∧ ∃ v hp, k = .pan v hp) := by
  cases hs with
  | no => exact .inl rfl
  | skip => exact .inl rfl
  | val => exact .inl rfl
  | pan => exact .inr ⟨rfl, rfl, _, _, rfl⟩
theorem StepOk.heap {d : DOp} {q q' : Option Nat} {k : Kd} (hs : StepOk P E ih all d fr h q k fr' h' q') (hw : d.w = false) : h' = h := by
  cases hs with
  | no => rfl
  | skip => rfl
  | val _ _ _ _ _ hr => exact hr hw
  | pan => rfl

/-- The text's slots. -/
theorem Log.slots (L : Log P E ih all l fr h 0 [] [] none fr' h' hps rcs pan' F H Q K) (i : Nat) (hi : i ≤ l.length) : F i = { fr with tm := (F i).tm } ∧ ∀ t, (F i).tm.get undef t = wr (writes l K) (fun _ => true) (fun t => fr.tm.get undef t) t i := by
  induction i with
  | zero => rw [L.f0]; exact ⟨rfl, fun t => rfl⟩
  | succ i IH =>
    obtain ⟨h1, h2⟩ := IH (by omega)
    obtain ⟨d, hd⟩ := getElem?_of_lt_list l i (by omega)
    have hs := L.step i d hd
    have dn : K i = .no ∨ (∃ v hp, K i = .pan v hp) → F (i + 1) = F i → F (i + 1) = { fr with tm := (F (i + 1)).tm } ∧ ∀ t, (F (i + 1)).tm.get undef t = wr (writes l K) (fun _ => true) (fun t => fr.tm.get undef t) t (i + 1) := by
      intro hk he
      have : writes l K i = none := by
        unfold writes; rw [hd]
        rcases hk with hk | ⟨v, hp, hk⟩ <;> rw [hk]
      refine ⟨by rw [he]; exact h1, fun t => ?_⟩
      simp only [wr, this, if_true]
      rw [he]; exact h2 t
    have pt : ∀ v, K i = .val v → (F i).put d.o.dst v = some (F (i + 1)) → F (i + 1) = { fr with tm := (F (i + 1)).tm } ∧ ∀ t, (F (i + 1)).tm.get undef t = wr (writes l K) (fun _ => true) (fun t => fr.tm.get undef t) t (i + 1) := by
      intro v hk hp
      obtain ⟨q1, q2, q3⟩ := put_get hp
      refine ⟨?_, fun t => ?_⟩
      · rw [q1, h1]
      · rw [q2]
        simp only [wr, if_true]
        have hw : writes l K i = d.o.dst.map fun t => (t, v) := by unfold writes; rw [hd, hk]
        rw [hw]
        cases hdst : d.o.dst with
        | none => simp [h2 t]
        | some u => simp [h2 t]
    rcases hs.slots with ⟨a, b⟩ | ⟨v, a, b⟩
    · exact dn a b
    · exact pt v a b

/-- Where it panicked. -/
theorem Log.panicked (L : Log P E ih all l fr h 0 [] [] none fr' h' hps rcs pan' F H Q K) (hat : ∀ (i : Nat) d, l[i]? = some d → d.i = i) (i : Nat) (hi : i ≤ l.length) : ∀ p, Q i = some p → p < i ∧ ∃ v hp, K p = .pan v hp := by
  induction i with
  | zero => intro p hp; rw [L.q0] at hp; cases hp
  | succ i IH =>
    have IH := IH (by omega)
    obtain ⟨d, hd⟩ := getElem?_of_lt_list l i (by omega)
    have hs := L.step i d hd
    have hdi := hat i d hd
    intro p hp
    rcases hs.where_ with a | ⟨_, a, v, hp', b⟩
    · rw [a] at hp; obtain ⟨a, b⟩ := IH p hp; exact ⟨by omega, b⟩
    · rw [a] at hp; cases hp
      exact ⟨by omega, v, hp', by rw [hdi]; exact b⟩

theorem Log.after (L : Log P E ih all l fr h 0 [] [] none fr' h' hps rcs pan' F H Q K) (i j p : Nat) (hij : i ≤ j) (hj : j ≤ l.length) (hp : Q i = some p) : Q j = some p := by
  induction j with
  | zero =>
    have : i = 0 := by omega
    subst this; exact hp
  | succ j IH =>
    by_cases e : i = j + 1
    · subst e; exact hp
    · have hq := IH (by omega) (by omega)
      obtain ⟨d, hd⟩ := getElem?_of_lt_list l j (by omega)
      have hs := L.step j d hd
      rcases hs.where_ with a | ⟨a, _⟩
      · rw [a]; exact hq
      · rw [a] at hq; cases hq

/-- Between two writers the heap is one. -/
theorem Log.still (L : Log P E ih all l fr h 0 [] [] none fr' h' hps rcs pan' F H Q K) (i j : Nat) (hij : i ≤ j) (hj : j ≤ l.length) (hn : ∀ (k : Nat) d, i ≤ k → k < j → l[k]? = some d → d.w = false) : H j = H i := by
  induction j with
  | zero =>
    have : i = 0 := by omega
    subst this; rfl
  | succ j IH =>
    by_cases e : i = j + 1
    · subst e; rfl
    · rw [← IH (by omega) (by omega) fun k d h1 h2 => hn k d h1 (by omega)]
      obtain ⟨d, hd⟩ := getElem?_of_lt_list l j (by omega)
      have hs := L.step j d hd
      have hw := hn j d (by omega) (by omega) hd
      exact hs.heap hw

theorem next_writer (l : List DOp) (i : Nat) (hi : i ≤ l.length) : ∃ c, i ≤ c ∧ c ≤ l.length ∧ (c = l.length ∨ ∃ d, l[c]? = some d ∧ d.w = true) ∧ ∀ (k : Nat) d, i ≤ k → k < c → l[k]? = some d → d.w = false := by
  obtain ⟨m, hm⟩ : ∃ m, m = l.length - i := ⟨_, rfl⟩
  induction m generalizing i with
  | zero => exact ⟨l.length, hi, Nat.le_refl _, .inl rfl, fun k d h1 h2 => by omega⟩
  | succ m IH =>
    obtain ⟨d, hd⟩ := getElem?_of_lt_list l i (by omega)
    cases hw : d.w with
    | true => exact ⟨i, Nat.le_refl _, hi, .inr ⟨d, hd, hw⟩, fun k d h1 h2 => by omega⟩
    | false =>
      obtain ⟨c, h1, h2, h3, h4⟩ := IH (i + 1) (by omega) (by omega)
      refine ⟨c, by omega, h2, h3, fun k x a b hx => ?_⟩
      by_cases e : k = i
      · subst e; rw [hd] at hx; cases hx; exact hw
      · exact h4 k x (by omega) b hx

/-- What has been carried out, in whatever order. -/
structure Inv (l : List DOp) (K : Nat → Kd) (f0 : Nat → V) (D : Nat → Bool) (c : Nat) (tm : T V) : Prop where
  lt : ∀ i, D i = true → i < l.length
  closed : ∀ (i : Nat) d j, D i = true → l[i]? = some d → tb d.b j = true → D j = true
  kval : ∀ i, D i = true → ∃ v, K i = .val v
  cle : c ≤ l.length
  cw : c = l.length ∨ ∃ d, l[c]? = some d ∧ d.w = true
  cur : ∀ (j : Nat) d, l[j]? = some d → d.w = true → (D j = true ↔ j < c)
  look : ∀ t, tm.get undef t = wr (writes l K) D f0 t l.length

/-- An operation whose turn it may be. -/
structure Turn (l : List DOp) (D : Nat → Bool) (i : Nat) (d : DOp) : Prop where
  at_ : l[i]? = some d
  new : D i = false
  pre : ∀ e, e ∈ d.o.after.toList → bindsAny e = true → D e.on = true

variable {ops : Array Oper} {D : Nat → Bool} {c : Nat} {tm : T V} {f0 : Nat → V} {i : Nat} {d : DOp}

theorem Turn.before (hT : Turn l D i d) (hS : Static E ops l) (hI : Inv l K f0 D c tm) (j : Nat) (hj : tb d.b j = true) : D j = true := by
  obtain ⟨e, he, hb, hor⟩ := hS.bits i d j hT.at_ hj
  have hD := hT.pre e he hb
  rcases hor with rfl | ⟨d', hd', hj'⟩
  · exact hD
  · exact hI.closed e.on d' j hD hd' hj'

/-- The slots that it looks at are as in the text's order. -/
theorem Turn.agree (hT : Turn l D i d) (hS : Static E ops l) (hI : Inv l K f0 D c tm) (t : Nat) (ht : t ∈ d.lk) : tm.get undef t = wr (writes l K) (fun _ => true) f0 t i := by
  have hi := lt_of_getElem?_list hT.at_
  rw [hI.look t, ← wr_prefix (Nat.le_of_lt hi)]
  refine wr_congr fun j v hj hw => ?_
  obtain ⟨dj, hdj, _, hdst⟩ := writes_some hw
  by_cases e : j = i
  · subst e; rw [hT.new]; simp
  · rcases Nat.lt_or_ge j i with h | h
    · rcases hS.pair j i dj d h hdj hT.at_ with q | ⟨_, q, _⟩
      · rw [hT.before hS hI j q]; simp [h]
      · exact absurd ht (q t hdst)
    · have h : i < j := by omega
      rcases hS.pair i j d dj h hT.at_ hdj with q | ⟨_, _, q⟩
      · have hDj : D j = false := by
          cases hDj : D j with
          | false => rfl
          | true =>
            have := hI.closed j dj i hDj hdj q
            rw [hT.new] at this; cases this
        rw [hDj]; simp; omega
      · exact absurd ht (q t hdst)

/-- A writer's turn is the next writer's. -/
theorem Turn.writer (hT : Turn l D i d) (hS : Static E ops l) (hI : Inv l K f0 D c tm) (hw : d.w = true) : i = c := by
  have hi := lt_of_getElem?_list hT.at_
  have h1 : ¬ i < c := fun h => by
    have := (hI.cur i d hT.at_ hw).2 h
    rw [hT.new] at this; cases this
  rcases hI.cw with hc | ⟨dc, hdc, hcw⟩
  · omega
  · rcases Nat.lt_or_ge c i with h | h
    · exfalso
      have hDc : D c = true := by
        rcases hS.pair c i dc d h hdc hT.at_ with q | ⟨q, _⟩
        · exact hT.before hS hI c q
        · exact absurd ⟨hcw, hw⟩ q
      have := (hI.cur c dc hdc hcw).1 hDc
      omega
    · omega

/-- One more is carried out. -/
theorem Inv.add (hI : Inv l K f0 D c tm) (hS : Static E ops l) (hT : Turn l D i d) {v : V} (hk : K i = .val v) {tm' : T V} (htm : ∀ t, tm'.get undef t = if d.o.dst = some t then v else tm.get undef t) :
    ∃ c', Inv l K f0 (fun j => if j = i then true else D j) c' tm' ∧ ((d.w = false ∧ c' = c) ∨ (d.w = true ∧ i + 1 ≤ c' ∧ ∀ (k : Nat) x, i + 1 ≤ k → k < c' → l[k]? = some x → x.w = false)) := by
  have hi := lt_of_getElem?_list hT.at_
  have hlook : ∀ t, tm'.get undef t = wr (writes l K) (fun j => if j = i then true else D j) f0 t l.length := by
    intro t
    rw [htm]
    cases hdst : d.o.dst with
    | none =>
      have hw : writes l K i = none := by unfold writes; rw [hT.at_, hk]; simp [hdst]
      rw [if_neg (by simp), hI.look t]
      refine wr_congr fun j u hj hwj => ?_
      by_cases e : j = i
      · subst e; rw [hw] at hwj; cases hwj
      · rw [if_neg e]
    | some x =>
      have hw : writes l K i = some (x, v) := by unfold writes; rw [hT.at_, hk]; simp [hdst]
      rw [wr_add (D := D) hi hw (fun j => rfl) (fun j u h1 h2 hwj => ?_), hI.look t]
      · simp
      · obtain ⟨dj, hdj, _, hdst'⟩ := writes_some hwj
        cases hDj : D j with
        | false => rfl
        | true =>
          rcases hS.pair i j d dj h1 hT.at_ hdj with q | ⟨_, q, _⟩
          · have := hI.closed j dj i hDj hdj q
            rw [hT.new] at this; cases this
          · have hdat := hS.at_ j dj hdj
            refine absurd ?_ (q x hdst)
            rw [hdat.2.2.2]
            unfold looks
            rw [List.app_eq, hdst']; simp
  have base : ∀ c', c' ≤ l.length → (c' = l.length ∨ ∃ d, l[c']? = some d ∧ d.w = true) → (∀ (j : Nat) x, l[j]? = some x → x.w = true → ((if j = i then true else D j) = true ↔ j < c')) → Inv l K f0 (fun j => if j = i then true else D j) c' tm' := by
    intro c' h1 h2 h3
    refine ⟨fun j hj => ?_, fun j x k hj hx hk' => ?_, fun j hj => ?_, h1, h2, h3, hlook⟩
    · by_cases e : j = i
      · omega
      · rw [if_neg e] at hj; exact hI.lt j hj
    · show (if k = i then true else D k) = true
      by_cases e : j = i
      · subst e
        rw [hT.at_] at hx; cases hx
        rw [hT.before hS hI k hk']; simp
      · have hj : D j = true := by have hj : (if j = i then true else D j) = true := hj; rwa [if_neg e] at hj
        rw [hI.closed j x k hj hx hk']; simp
    · by_cases e : j = i
      · subst e; exact ⟨v, hk⟩
      · rw [if_neg e] at hj; exact hI.kval j hj
  cases hw : d.w with
  | false =>
    refine ⟨c, base c hI.cle hI.cw fun j x hx hxw => ?_, .inl ⟨rfl, rfl⟩⟩
    have : j ≠ i := fun e => by subst e; rw [hT.at_] at hx; cases hx; rw [hw] at hxw; cases hxw
    rw [if_neg this]; exact hI.cur j x hx hxw
  | true =>
    have hic := hT.writer hS hI hw
    obtain ⟨c', h1, h2, h3, h4⟩ := next_writer l (i + 1) (by omega)
    refine ⟨c', base c' h2 h3 fun j x hx hxw => ?_, .inr ⟨rfl, h1, h4⟩⟩
    by_cases e : j = i
    · rw [if_pos e]; exact ⟨fun _ => by omega, fun _ => rfl⟩
    · rw [if_neg e, hI.cur j x hx hxw]
      constructor
      · intro h; omega
      · intro h
        rcases Nat.lt_or_ge j c with q | q
        · exact q
        · exfalso
          have := h4 j x (by omega) h hx
          rw [this] at hxw; cases hxw
end

end Go.AM
