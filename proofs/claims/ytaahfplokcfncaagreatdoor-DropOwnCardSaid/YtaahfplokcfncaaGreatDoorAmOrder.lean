/-
  A region that draws its order: what its order hangs on.
-/
import Derived.Test.YtaahfplokcfncaaGreatDoorAmCongr
import Derived.Orders
namespace Go.AM
open Go.RowKit

theorem tb_eq (m n : Nat) : tb m n = m.testBit n := by
  unfold tb
  rw [Bool.eq_iff_iff, Nat.beq_eq, Nat.testBit]
  show (m >>> n) &&& 1 = 1 ↔ _
  rw [Nat.and_comm]
  have h : 1 &&& m >>> n = 0 ∨ 1 &&& m >>> n = 1 := by
    rw [Nat.and_comm, Nat.and_one_is_mod]; omega
  rcases h with h | h <;> simp [h]

theorem tb_lor (a b n : Nat) : tb (Nat.lor a b) n = (tb a n || tb b n) := by
  rw [tb_eq, tb_eq, tb_eq]; exact Nat.testBit_or a b n
theorem tb_pow (k n : Nat) : tb (Nat.pow 2 k) n = decide (k = n) := by
  rw [tb_eq]; exact Nat.testBit_two_pow
theorem tb_zero (n : Nat) : tb 0 n = false := by rw [tb_eq]; exact Nat.zero_testBit n

theorem bindsAny_eq (e : Edge) : bindsAny e = Region.binds .any e := by
  unfold bindsAny Region.binds
  cases e.ground <;> rfl

theorem bitsOf_mem (tbl : List Nat) (es : List Edge) (j : Nat) (h : tb (bitsOf tbl es) j = true) : ∃ e, e ∈ es ∧ bindsAny e = true ∧ (e.on = j ∨ tb (getN tbl e.on) j = true) := by
  induction es with
  | nil => change tb 0 j = true at h; rw [tb_zero] at h; cases h
  | cons e es ih =>
    change tb (bif bindsAny e then Nat.lor (Nat.lor (Nat.pow 2 e.on) (getN tbl e.on)) (bitsOf tbl es) else bitsOf tbl es) j = true at h
    cases hb : bindsAny e with
    | false =>
      rw [hb] at h
      obtain ⟨e', h1, h2⟩ := ih h
      exact ⟨e', by simp [h1], h2⟩
    | true =>
      rw [hb] at h
      simp only [cond_true, tb_lor, tb_pow, Bool.or_eq_true, decide_eq_true_eq] at h
      rcases h with (h | h) | h
      · exact ⟨e, by simp, hb, .inl h⟩
      · exact ⟨e, by simp, hb, .inr h⟩
      · obtain ⟨e', h1, h2⟩ := ih h
        exact ⟨e', by simp [h1], h2⟩

theorem mkOps_cons (E : Env) (all : List Oper) (o : Oper) (l : List Oper) (i : Nat) (tbl : List Nat) :
    mkOps E all (o :: l) i tbl = ⟨o, i, !(isRead E o.op), bitsOf tbl o.after.toList, looks all o⟩ :: mkOps E all l (i + 1) (List.app tbl [bitsOf tbl o.after.toList]) := rfl

theorem mkOps_get (E : Env) (all l : List Oper) : ∀ (i : Nat) (tbl : List Nat), (mkOps E all l i tbl).length = l.length ∧ ∀ (k : Nat) d, (mkOps E all l i tbl)[k]? = some d →
    l[k]? = some d.o ∧ d.i = i + k ∧ d.w = !(isRead E d.o.op) ∧ d.lk = looks all d.o ∧ d.b = bitsOf (tbl ++ ((mkOps E all l i tbl).map (·.b)).take k) d.o.after.toList := by
  induction l with
  | nil => intro i tbl; exact ⟨rfl, fun k d h => by cases k <;> cases h⟩
  | cons o l ih =>
    intro i tbl
    rw [mkOps_cons]
    obtain ⟨h1, h2⟩ := ih (i + 1) (List.app tbl [bitsOf tbl o.after.toList])
    refine ⟨by simp [h1], fun k d hd => ?_⟩
    cases k with
    | zero => cases hd; exact ⟨rfl, rfl, rfl, rfl, by simp⟩
    | succ k =>
      obtain ⟨a, b, c, e, f⟩ := h2 k d hd
      refine ⟨a, by omega, c, e, ?_⟩
      rw [f, List.app_eq]
      simp

theorem getN_eq (l : List Nat) (i : Nat) : getN l i = l.getD i 0 := by
  unfold getN
  rw [List.at_eq]
  cases h : l[i]? <;> simp [List.getD_eq_getElem?_getD, h]

/-- What is known of a region's operations. -/
structure Static (E : Env) (ops : Array Oper) (l : List DOp) : Prop where
  len : l.length = ops.size
  at_ : ∀ (i : Nat) d, l[i]? = some d → ops[i]? = some d.o ∧ d.i = i ∧ d.w = !(isRead E d.o.op) ∧ d.lk = looks ops.toList d.o
  edge : ∀ (i : Nat) d e, l[i]? = some d → e ∈ d.o.after.toList → bindsAny e = true → e.on < i
  bits : ∀ (i : Nat) d j, l[i]? = some d → tb d.b j = true → ∃ e, e ∈ d.o.after.toList ∧ bindsAny e = true ∧ (e.on = j ∨ ∃ d', l[e.on]? = some d' ∧ tb d'.b j = true)
  pair : ∀ (i j : Nat) d d', i < j → l[i]? = some d → l[j]? = some d' → tb d'.b i = true ∨ (¬ (d.w = true ∧ d'.w = true) ∧ (∀ t, d.o.dst = some t → ¬ t ∈ d'.lk) ∧ (∀ t, d'.o.dst = some t → ¬ t ∈ d.lk))

theorem missDst_spec {o : Oper} {l : List Tmp} (h : missDst o l = true) (t : Tmp) (ht : o.dst = some t) : ¬ t ∈ l := by
  unfold missDst at h
  rw [ht] at h
  simp only [Bool.not_eq_true'] at h
  intro hm
  rw [(memN_iff t l).2 hm] at h; cases h

theorem pairsOk_spec (l : List DOp) (h : pairsOk l = true) : ∀ (i j : Nat) d d', i < j → l[i]? = some d → l[j]? = some d' → pairOk d d' = true := by
  induction l with
  | nil => intro i j d d' _ hd; cases i <;> cases hd
  | cons x l ih =>
    change (bif every (pairOk x) l then pairsOk l else false) = true at h
    cases hx : every (pairOk x) l with
    | false => rw [hx] at h; cases h
    | true =>
      rw [hx] at h
      intro i j d d' hij hd hd'
      cases j with
      | zero => omega
      | succ j =>
        cases i with
        | zero => cases hd; exact (every_iff _ _).1 hx d' (List.mem_of_getElem? hd')
        | succ i => exact ih h i j d d' (by omega) hd hd'

theorem drawInfo_static {E : Env} {ops : Array Oper} {l : List DOp} (h : drawInfo E ops.toList = some l) : Static E ops l := by
  unfold drawInfo at h
  obtain ⟨hb, h⟩ := bif_some h rfl
  cases h
  rw [Bool.and_eq_true] at hb
  obtain ⟨h1, h2⟩ := hb
  obtain ⟨hl, hg⟩ := mkOps_get E ops.toList ops.toList 0 []
  have hedge : ∀ (i : Nat) d e, (mkOps E ops.toList ops.toList 0 [])[i]? = some d → e ∈ d.o.after.toList → bindsAny e = true → e.on < i := by
    intro i d e hd he hbe
    have := (every_iff _ _).1 h1 d (List.mem_of_getElem? hd)
    have := (every_iff _ _).1 this e he
    rw [hbe] at this
    simp only [cond_true, Nat.blt_eq] at this
    obtain ⟨_, q, _⟩ := hg i d hd
    omega
  refine ⟨by rw [hl]; simp, fun i d hd => ?_, hedge, fun i d j hd hj => ?_, fun i j d d' hij hd hd' => ?_⟩
  · obtain ⟨a, b, c, e, _⟩ := hg i d hd
    exact ⟨by simpa using a, by omega, c, e⟩
  · obtain ⟨_, _, _, _, f⟩ := hg i d hd
    rw [f] at hj
    obtain ⟨e, he, hbe, hor⟩ := bitsOf_mem _ _ _ hj
    refine ⟨e, he, hbe, hor.imp id fun q => ?_⟩
    have hlt := hedge i d e hd he hbe
    have hi := lt_of_getElem?_list hd
    obtain ⟨d', hd'⟩ := getElem?_of_lt_list (mkOps E ops.toList ops.toList 0 []) e.on (by omega)
    refine ⟨d', hd', ?_⟩
    rw [getN_eq, List.getD_eq_getElem?_getD, List.nil_append, List.getElem?_take, if_pos hlt, List.getElem?_map, hd'] at q
    exact q
  · have := pairsOk_spec _ h2 i j d d' hij hd hd'
    unfold pairOk at this
    rw [Bool.or_eq_true] at this
    obtain ⟨_, q, _⟩ := hg i d hd
    have qi : d.i = i := by omega
    rw [qi] at this
    refine this.imp id fun r => ?_
    simp only [Bool.and_eq_true, Bool.not_eq_true'] at r
    obtain ⟨⟨r1, r2⟩, r3⟩ := r
    exact ⟨fun ⟨a, b⟩ => (by rw [a, b] at r1; cases r1), fun t ht => missDst_spec r2 t ht, fun t ht => missDst_spec r3 t ht⟩

/-- What became of an operation as the text's order was run. -/
inductive Kd where
  | val (v : V)
  | pan (v : V) (h : Heap)
  | no

inductive StepOk (P : Program) (E : Env) (ih : Task → Res) (all : List Oper) (d : DOp) : Fr → Heap → Option Nat → Kd → Fr → Heap → Option Nat → Prop
  | no {fr : Fr} {h : Heap} {p : Nat} (hb : tb d.b p = true) : StepOk P E ih all d fr h (some p) .no fr h (some p)
  | skip {fr : Fr} {h : Heap} {q : Option Nat} {fr' : Fr} (hn : ∀ p, q = some p → tb d.b p = false) (hw : wanted all fr d.o = some false) (hput : fr.put d.o.dst undef = some fr') (hx : d.w = true → q = none) :
      StepOk P E ih all d fr h q (.val undef) fr' h q
  | val {fr : Fr} {h : Heap} {q : Option Nat} {fr' : Fr} {v : V} {h' : Heap} (hn : ∀ p, q = some p → tb d.b p = false) (hw : wanted all fr d.o = some true) (hd : doOp P E ih fr.tm h d.o = .val v h') (hput : fr.put d.o.dst v = some fr') (hx : d.w = true → q = none) (hr : d.w = false → h' = h) :
      StepOk P E ih all d fr h q (.val v) fr' h' q
  | pan {fr : Fr} {h : Heap} {v : V} {hp : Heap} (hw : wanted all fr d.o = some true) (hdw : d.w = true) (hd : doOp P E ih fr.tm h d.o = .panic v hp) : StepOk P E ih all d fr h none (.pan v hp) fr h (some d.i)

def sh {α : Type} (a : α) (f : Nat → α) : Nat → α
  | 0 => a
  | n + 1 => f n

/-- The text's order, place by place. -/
structure Log (P : Program) (E : Env) (ih : Task → Res) (all : List Oper) (l : List DOp) (fr : Fr) (h : Heap) (pb : Nat) (hs : List Hp) (rs : List Rc) (pan : Option Pn) (fr' : Fr) (h' : Heap) (hps : List Hp) (rcs : List Rc) (pan' : Option Pn)
    (F : Nat → Fr) (H : Nat → Heap) (Q : Nat → Option Nat) (K : Nat → Kd) : Prop where
  f0 : F 0 = fr
  h0 : H 0 = h
  q0 : Q 0 = pan.map (·.i)
  step : ∀ (i : Nat) d, l[i]? = some d → StepOk P E ih all d (F i) (H i) (Q i) (K i) (F (i + 1)) (H (i + 1)) (Q (i + 1))
  fn : F l.length = fr'
  hn : H l.length = h'
  qn : Q l.length = pan'.map (·.i)
  hsub : ∀ x, x ∈ hs → x ∈ hps
  rsub : ∀ x, x ∈ rs → x ∈ rcs
  reads : ∀ (i : Nat) (d : DOp) (v : V), l[i]? = some d → K i = .val v → d.w = false → isPure E d.o.op = false → wanted all (F i) d.o = some true → ⟨d.o, d.i, d.b, (F i).tm, v⟩ ∈ rcs
  heaps : ∀ (i : Nat) d, l[i]? = some d → d.w = true → Q i = none → ∃ e, e ∈ hps ∧ e.h = H i ∧ e.nx = some d.i ∧ (e.pb = pb ∨ ∃ (j : Nat) (d' : DOp), j < i ∧ l[j]? = some d' ∧ d'.w = true ∧ e.pb = d'.b)
  last : pan' = none → ∃ e, e ∈ hps ∧ e.h = h' ∧ e.nx = none ∧ (e.pb = pb ∨ ∃ (j : Nat) (d' : DOp), l[j]? = some d' ∧ d'.w = true ∧ e.pb = d'.b)
  keep : ∀ p, pan = some p → pan' = some p
  made : ∀ p, pan = none → pan' = some p → ∃ (i : Nat) (d : DOp), l[i]? = some d ∧ d.i = p.i ∧ K i = .pan p.v p.h ∧ Q i = none

theorem dPut_done {o : Oper} {v : V} {fr : Fr} {k : Fr → DR} {fr' : Fr} {h' : Heap} {hps : List Hp} {rcs : List Rc} {pan' : Option Pn} (h : dPut o v fr k = .done fr' h' hps rcs pan') : ∃ fr1, fr.put o.dst v = some fr1 ∧ k fr1 = .done fr' h' hps rcs pan' := by
  unfold dPut at h
  cases hp : fr.put o.dst v with
  | none => rw [hp] at h; cases h
  | some fr1 => rw [hp] at h; exact ⟨fr1, rfl, h⟩

theorem dRun_cons (P : Program) (E : Env) (ih : Task → Res) (all : List Oper) (d : DOp) (l : List DOp) : dRun P E ih all (d :: l) = dStep P E ih all d (dRun P E ih all l) := rfl

theorem panAt_false {pan : Option Pn} {b : Nat} (h : panAt pan b = false) : ∀ p, pan.map (·.i) = some p → tb b p = false := by
  intro p hp
  cases pan with
  | none => cases hp
  | some q => cases hp; exact h
theorem noPan_true {pan : Option Pn} (h : noPan pan = true) : pan = none := by
  cases pan with
  | none => rfl
  | some _ => cases h

theorem dRun_log (P : Program) (E : Env) (ih : Task → Res) (all : List Oper) (l : List DOp) (hwr : ∀ d, d ∈ l → d.w = !(isRead E d.o.op)) : ∀ (fr : Fr) (h : Heap) (pb : Nat) (hs : List Hp) (rs : List Rc) (pan : Option Pn) (fr' : Fr) (h' : Heap) (hps : List Hp) (rcs : List Rc) (pan' : Option Pn),
    dRun P E ih all l fr h pb hs rs pan = .done fr' h' hps rcs pan' → ∃ F H Q K, Log P E ih all l fr h pb hs rs pan fr' h' hps rcs pan' F H Q K := by
  induction l with
  | nil =>
    intro fr h pb hs rs pan fr' h' hps rcs pan' hr
    cases hr
    refine ⟨fun _ => fr, fun _ => h, fun _ => pan.map (·.i), fun _ => .no, rfl, rfl, rfl, fun i d hd => (by cases i <;> cases hd), rfl, rfl, rfl, fun x hx => ?_, fun x hx => hx, fun i d v hd => (by cases i <;> cases hd), fun i d hd => (by cases i <;> cases hd), fun hp => ?_, fun p hp => hp, fun p hp hp' => (by rw [hp] at hp'; cases hp')⟩
    · cases noPan pan with
      | true => exact List.mem_cons_of_mem _ hx
      | false => exact hx
    · subst hp
      exact ⟨⟨pb, h, none⟩, by simp [noPan], rfl, rfl, .inl rfl⟩
  | cons d l IH =>
    have IH := IH fun x hx => hwr x (by simp [hx])
    have hdw := hwr d (by simp)
    intro fr h pb hs rs pan fr' h' hps rcs pan' hr
    rw [dRun_cons] at hr
    -- what the rest gives, put behind a first step
    have put : ∀ (k : Kd) (fr1 : Fr) (h1 : Heap) (pb1 : Nat) (hs1 : List Hp) (rs1 : List Rc) (pan1 : Option Pn), dRun P E ih all l fr1 h1 pb1 hs1 rs1 pan1 = .done fr' h' hps rcs pan' → StepOk P E ih all d fr h (pan.map (·.i)) k fr1 h1 (pan1.map (·.i)) →
        (∀ x, x ∈ hs → x ∈ hs1) → (∀ x, x ∈ rs → x ∈ rs1) → (∀ v, k = .val v → d.w = false → isPure E d.o.op = false → wanted all fr d.o = some true → ⟨d.o, d.i, d.b, fr.tm, v⟩ ∈ rs1) →
        (d.w = true → pan = none → ⟨pb, h, some d.i⟩ ∈ hs1) → (pb1 = pb ∨ d.w = true ∧ pb1 = d.b) → (∀ p, pan = some p → pan1 = some p) → (∀ p, pan = none → pan1 = some p → d.i = p.i ∧ k = .pan p.v p.h) →
        ∃ F H Q K, Log P E ih all (d :: l) fr h pb hs rs pan fr' h' hps rcs pan' F H Q K := by
      intro k fr1 h1 pb1 hs1 rs1 pan1 hrun hstep hh hrr hrd hhp hpb hkeep hmade
      obtain ⟨F, H, Q, K, L⟩ := IH fr1 h1 pb1 hs1 rs1 pan1 fr' h' hps rcs pan' hrun
      refine ⟨sh fr F, sh h H, sh (pan.map (·.i)) Q, sh k K, rfl, rfl, rfl, fun i x hx => ?_, L.fn, L.hn, L.qn, fun x hx => L.hsub x (hh x hx), fun x hx => L.rsub x (hrr x hx), fun i x v hx hk hw hp hwt => ?_, fun i x hx hw hq => ?_, fun hp => ?_, fun p hp => L.keep p (hkeep p hp), fun p hp hp' => ?_⟩
      · cases i with
        | zero =>
          cases hx
          change StepOk P E ih all d fr h (pan.map (·.i)) k (F 0) (H 0) (Q 0)
          rw [L.f0, L.h0, L.q0]; exact hstep
        | succ i => exact L.step i x hx
      · cases i with
        | zero => cases hx; exact L.rsub _ (hrd v hk hw hp hwt)
        | succ i => exact L.reads i x v hx hk hw hp hwt
      · cases i with
        | zero =>
          cases hx
          have hq : pan = none := by
            change pan.map (·.i) = none at hq
            simpa using hq
          exact ⟨_, L.hsub _ (hhp hw hq), rfl, rfl, .inl rfl⟩
        | succ i =>
          obtain ⟨e, h1, h2, h3, h4⟩ := L.heaps i x hx hw hq
          refine ⟨e, h1, h2, h3, ?_⟩
          rcases h4 with h4 | ⟨j, d', hj, hd', hw', he⟩
          · rcases hpb with hpb | ⟨hw', hpb⟩
            · exact .inl (h4.trans hpb)
            · exact .inr ⟨0, d, by omega, rfl, hw', h4.trans hpb⟩
          · exact .inr ⟨j + 1, d', by omega, hd', hw', he⟩
      · obtain ⟨e, h1, h2, h3, h4⟩ := L.last hp
        refine ⟨e, h1, h2, h3, ?_⟩
        rcases h4 with h4 | ⟨j, d', hd', hw', he⟩
        · rcases hpb with hpb | ⟨hw', hpb⟩
          · exact .inl (h4.trans hpb)
          · exact .inr ⟨0, d, rfl, hw', h4.trans hpb⟩
        · exact .inr ⟨j + 1, d', hd', hw', he⟩
      · cases hp1 : pan1 with
        | none =>
          obtain ⟨i, x, h1, h2, h3, h4⟩ := L.made p hp1 hp'
          exact ⟨i + 1, x, h1, h2, h3, h4⟩
        | some p1 =>
          have := L.keep p1 hp1
          rw [hp'] at this; cases this
          obtain ⟨h1, h2⟩ := hmade p hp hp1
          exact ⟨0, d, rfl, h1, h2, by rw [hp]; rfl⟩
    unfold dStep at hr
    cases hpa : panAt pan d.b with
    | true =>
      rw [hpa] at hr
      obtain ⟨p, rfl⟩ : ∃ p, pan = some p := by
        cases pan with
        | none => cases hpa
        | some p => exact ⟨p, rfl⟩
      exact put .no fr h pb hs rs (some p) hr (.no hpa) (fun _ h => h) (fun _ h => h) (fun v e => by cases e) (fun _ e => by cases e) (.inl rfl) (fun _ e => e) (fun _ e => by cases e)
    | false =>
      rw [hpa] at hr
      simp only [cond_false] at hr
      have hn := panAt_false hpa
      cases hwt : wanted all fr d.o with
      | none => rw [hwt] at hr; cases hr
      | some t =>
        rw [hwt] at hr
        cases t with
        | false =>
          simp only [cond_false] at hr
          cases hw : d.w with
          | true =>
            rw [hw] at hr
            simp only [cond_true] at hr
            cases hnp : noPan pan with
            | false => rw [hnp] at hr; cases hr
            | true =>
              rw [hnp] at hr
              have hpn := noPan_true hnp
              subst hpn
              obtain ⟨fr1, hput, hr⟩ := dPut_done hr
              exact put (.val undef) fr1 h d.b _ rs none hr (.skip hn hwt hput (fun _ => rfl)) (fun _ h => List.mem_cons_of_mem _ h) (fun _ h => h) (fun v _ e => by rw [hw] at e; cases e) (fun _ _ => by simp) (.inr ⟨hw, rfl⟩) (fun _ e => e) (fun _ _ e => by cases e)
          | false =>
            rw [hw] at hr
            simp only [cond_false] at hr
            obtain ⟨fr1, hput, hr⟩ := dPut_done hr
            exact put (.val undef) fr1 h pb hs rs pan hr (.skip hn hwt hput (fun e => by rw [hw] at e; cases e)) (fun _ h => h) (fun _ h => h) (fun v _ _ _ e => by rw [hwt] at e; cases e) (fun e => by rw [hw] at e; cases e) (.inl rfl) (fun _ e => e) (fun p e e' => by rw [e] at e'; cases e')
        | true =>
          simp only [cond_true] at hr
          unfold dVal at hr
          cases hop : doOp P E ih fr.tm h d.o with
          | stuck => rw [hop] at hr; cases hr
          | panic v hp =>
            rw [hop] at hr
            simp only at hr
            cases hb : (d.w && noPan pan) with
            | false => rw [hb] at hr; cases hr
            | true =>
              rw [hb] at hr
              simp only [cond_true] at hr
              rw [Bool.and_eq_true] at hb
              have hpn := noPan_true hb.2
              subst hpn
              exact put (.pan v hp) fr h pb _ rs _ hr (.pan hwt hb.1 hop) (fun _ h => List.mem_cons_of_mem _ h) (fun _ h => h) (fun v e => by cases e) (fun _ _ => by simp) (.inl rfl) (fun _ e => by cases e) (fun p _ e => by cases e; exact ⟨rfl, rfl⟩)
          | val v h1 =>
            rw [hop] at hr
            simp only at hr
            cases hw : d.w with
            | true =>
              rw [hw] at hr
              simp only [cond_true] at hr
              cases hnp : noPan pan with
              | false => rw [hnp] at hr; cases hr
              | true =>
                rw [hnp] at hr
                have hpn := noPan_true hnp
                subst hpn
                obtain ⟨fr1, hput, hr⟩ := dPut_done hr
                exact put (.val v) fr1 h1 d.b _ rs none hr (.val hn hwt hop hput (fun _ => rfl) (fun e => by rw [hw] at e; cases e)) (fun _ h => List.mem_cons_of_mem _ h) (fun _ h => h) (fun v _ e => by rw [hw] at e; cases e) (fun _ _ => by simp) (.inr ⟨hw, rfl⟩) (fun _ e => e) (fun _ _ e => by cases e)
            | false =>
              rw [hw] at hr
              simp only [cond_false] at hr
              have hrd : isRead E d.o.op = true := by rw [hw] at hdw; simpa using hdw.symm
              have hh := doOp_read hrd hop
              subst hh
              obtain ⟨fr1, hput, hr⟩ := dPut_done hr
              refine put (.val v) fr1 h1 pb hs _ pan hr (.val hn hwt hop hput (fun e => by rw [hw] at e; cases e) (fun _ => rfl)) (fun _ h => h) (fun x hx => ?_) (fun u e _ hp _ => ?_) (fun e => by rw [hw] at e; cases e) (.inl rfl) (fun _ e => e) (fun p e e' => by rw [e] at e'; cases e')
              · cases isPure E d.o.op with
                | true => exact hx
                | false => exact List.mem_cons_of_mem _ hx
              · cases e
                rw [hp]
                simp

end Go.AM
