/-
  A region that draws its order, run.
-/
import Derived.Test.YtaahfplokcfncaaGreatDoorAmDraw
namespace Go.AM
open Go.RowKit

variable {P : Program} {E : Env} {ih : Task → Res} {B : Nat} {w0 : World}

theorem veqL_iff {f : V → V → Bool} (hf : ∀ x y, f x y = true → x = y) (a : List V) : ∀ b, veqL f a b = true → a = b := by
  induction a with
  | nil => intro b h; cases b with
    | nil => rfl
    | cons _ _ => cases h
  | cons x a IH =>
    intro b h
    cases b with
    | nil => cases h
    | cons y b =>
      change (bif f x y then veqL f a b else false) = true at h
      cases hxy : f x y with
      | false => rw [hxy] at h; cases h
      | true => rw [hxy] at h; rw [hf x y hxy, IH b h]

theorem optEq_iff (a b : Option Nat) (h : optEq a b = true) : a = b := by
  cases a <;> cases b <;> simp_all [optEq]

theorem veq_iff (k : Nat) : ∀ x y, veq k x y = true → x = y := by
  induction k with
  | zero => intro x y h; cases h
  | succ k IH =>
    intro x y h
    have hl := veqL_iff IH
    have nb : ∀ a b : Nat, Nat.beq a b = true → a = b := fun a b e => by rw [Nat.beq_eq] at e; exact e
    cases x with
    | int a b =>
      cases y with
      | int c d =>
        change (kindEq a c && ieq b d) = true at h
        rw [Bool.and_eq_true] at h
        rw [(kindEq_iff _ _).1 h.1, (ieq_iff _ _).1 h.2]
      | _ => cases h
    | bool a =>
      cases y with
      | bool b => cases a <;> cases b <;> first | rfl | cases h
      | _ => cases h
    | str a =>
      cases y with
      | str b => rw [(strEq_iff a b).1 h]
      | _ => cases h
    | nilp => cases y <;> first | rfl | cases h
    | ptr a b c =>
      cases y with
      | ptr a' b' c' =>
        change (Nat.beq a a' && Nat.beq b b' && Nat.beq c c') = true at h
        simp only [Bool.and_eq_true] at h
        rw [nb _ _ h.1.1, nb _ _ h.1.2, nb _ _ h.2]
      | _ => cases h
    | gptr s es c =>
      cases y with
      | gptr s' es' c' =>
        change (Nat.beq s s' && Nat.beq c c' && veqL (veq k) es es') = true at h
        simp only [Bool.and_eq_true] at h
        rw [nb _ _ h.1.1, nb _ _ h.1.2, hl _ _ h.2]
      | _ => cases h
    | nils => cases y <;> first | rfl | cases h
    | sl a b c d e =>
      cases y with
      | sl a' b' c' d' e' =>
        change (Nat.beq a a' && Nat.beq b b' && Nat.beq c c' && Nat.beq d d' && optEq e e') = true at h
        simp only [Bool.and_eq_true] at h
        rw [nb _ _ h.1.1.1.1, nb _ _ h.1.1.1.2, nb _ _ h.1.1.2, nb _ _ h.1.2, optEq_iff _ _ h.2]
      | _ => cases h
    | gsl s es c =>
      cases y with
      | gsl s' es' c' =>
        change (Nat.beq s s' && optEq c c' && veqL (veq k) es es') = true at h
        simp only [Bool.and_eq_true] at h
        rw [nb _ _ h.1.1, optEq_iff _ _ h.1.2, hl _ _ h.2]
      | _ => cases h
    | fsl => cases y <;> cases h
    | nilm => cases y <;> first | rfl | cases h
    | map a =>
      cases y with
      | map b => rw [nb _ _ h]
      | _ => cases h
    | iter => cases y <;> cases h
    | func f a b =>
      cases y with
      | func f' a' b' =>
        change (decide (f = f') && veqL (veq k) a a' && veqL (veq k) b b') = true at h
        simp only [Bool.and_eq_true, decide_eq_true_eq] at h
        rw [h.1.1, hl _ _ h.1.2, hl _ _ h.2]
      | _ => cases h
    | nilf => cases y <;> first | rfl | cases h
    | nili => cases y <;> first | rfl | cases h
    | iface t v =>
      cases y with
      | iface t' v' =>
        change (Nat.beq t t' && veq k v v') = true at h
        rw [Bool.and_eq_true] at h
        rw [nb _ _ h.1, IH _ _ h.2]
      | _ => cases h
    | agg a =>
      cases y with
      | agg b => rw [hl _ _ h]
      | _ => cases h
    | tup a =>
      cases y with
      | tup b => rw [hl _ _ h]
      | _ => cases h
    | any => cases y <;> cases h
    | osl => cases y <;> cases h
    | gmap => cases y <;> cases h
    | imod k0 a b =>
      cases y with
      | imod k' a' b' =>
        change (kindEq k0 k' && Nat.beq a a' && Nat.beq b b') = true at h
        simp only [Bool.and_eq_true] at h
        rw [(kindEq_iff _ _).1 h.1.1, nb _ _ h.1.2, nb _ _ h.2]
      | _ => cases h

theorem StepOk.inv {all : List Oper} {d : DOp} {fr fr' : Fr} {h h' : Heap} {q q' : Option Nat} {k : Kd} (hs : StepOk P E ih all d fr h q k fr' h' q') :
    (∃ p, q = some p ∧ tb d.b p = true ∧ k = .no) ∨ (k = .val undef ∧ wanted all fr d.o = some false ∧ fr.put d.o.dst undef = some fr' ∧ h' = h) ∨
      (∃ v, k = .val v ∧ wanted all fr d.o = some true ∧ doOp P E ih fr.tm h d.o = .val v h' ∧ fr.put d.o.dst v = some fr') ∨
      (∃ v hp, k = .pan v hp ∧ wanted all fr d.o = some true ∧ d.w = true ∧ doOp P E ih fr.tm h d.o = .panic v hp ∧ q = none ∧ q' = some d.i) := by
  cases hs with
  | no hb => exact .inl ⟨_, rfl, hb, rfl⟩
  | skip _ hw hput _ => exact .inr (.inl ⟨rfl, hw, hput, rfl⟩)
  | val _ hw hd hput _ _ => exact .inr (.inr (.inl ⟨_, rfl, hw, hd, hput⟩))
  | pan hw hdw hd => exact .inr (.inr (.inr ⟨_, _, rfl, hw, hdw, hd, rfl, rfl⟩))

theorem lose_eq (l : List DOp) : ∀ fr : Fr, lose l fr = { fr with tm := (lose l fr).tm } ∧ ∀ t, (lose l fr).tm.get undef t = fr.tm.get undef t ∧ (∀ (i : Nat) d, l[i]? = some d → d.o.dst ≠ some t) ∨ ((lose l fr).tm.get undef t = lost ∧ ¬ fr.n ≤ t) ∨ fr.n ≤ t ∧ (lose l fr).tm.get undef t = fr.tm.get undef t := by
  induction l with
  | nil => intro fr; exact ⟨rfl, fun t => .inl ⟨rfl, fun i d hd => by cases i <;> cases hd⟩⟩
  | cons d l IH =>
    intro fr
    change (match fr.put d.o.dst lost with | some fr' => lose l fr' | none => lose l fr) = _ ∧ _
    have hl : lose (d :: l) fr = match fr.put d.o.dst lost with | some fr' => lose l fr' | none => lose l fr := rfl
    rw [hl]
    cases hp : fr.put d.o.dst lost with
    | none =>
      simp only
      obtain ⟨h1, h2⟩ := IH fr
      refine ⟨h1, fun t => ?_⟩
      rcases h2 t with ⟨a, b⟩ | a | ⟨a, b⟩
      · by_cases e : d.o.dst = some t
        · refine .inr (.inr ⟨?_, a⟩)
          rcases Nat.lt_or_ge t fr.n with q | q
          · obtain ⟨x, hx⟩ := put_some (fr := fr) (v := lost) (d := d.o.dst) (fun u hu => by rw [e] at hu; cases hu; exact q)
            rw [hp] at hx; cases hx
          · exact q
        · refine .inl ⟨a, fun i x hx => ?_⟩
          cases i with
          | zero => cases hx; exact e
          | succ i => exact b i x hx
      · exact .inr (.inl a)
      · exact .inr (.inr ⟨a, b⟩)
    | some fr1 =>
      simp only
      obtain ⟨p1, p2, p3⟩ := put_get hp
      obtain ⟨h1, h2⟩ := IH fr1
      have hn : fr1.n = fr.n := by rw [p1]
      refine ⟨by rw [h1, p1], fun t => ?_⟩
      rcases h2 t with ⟨a, b⟩ | a | ⟨a, b⟩
      · by_cases e : d.o.dst = some t
        · rw [p2, if_pos e] at a; exact .inr (.inl ⟨a, Nat.not_le.2 (p3 t e)⟩)
        · rw [p2, if_neg e] at a
          refine .inl ⟨a, fun i x hx => ?_⟩
          cases i with
          | zero => cases hx; exact e
          | succ i => exact b i x hx
      · rw [hn] at a; exact .inr (.inl a)
      · rw [hn] at a
        have e : d.o.dst ≠ some t := fun e => absurd (p3 t e) (Nat.not_lt.2 a)
        rw [p2, if_neg e] at b
        exact .inr (.inr ⟨a, b⟩)

section
variable {ops : Array Oper} {l : List DOp} {fr : Fr} {h : Heap} {fr' : Fr} {h' : Heap} {hps : List Hp} {rcs : List Rc} {pan' : Option Pn} {F : Nat → Fr} {H : Nat → Heap} {Q : Nat → Option Nat} {K : Nat → Kd} {D : Nat → Bool} {c : Nat} {tm : T V} {i : Nat} {d : DOp}

theorem Log.noPanic (L : Log P E ih ops.toList l fr h 0 [] [] none fr' h' hps rcs pan' F H Q K) (hS : Static E ops l) (hI : Inv l K (fun t => fr.tm.get undef t) D c tm) : Q c = none := by
  cases hq : Q c with
  | none => rfl
  | some p =>
    obtain ⟨hp, v, hpp, hk⟩ := L.panicked (fun i d hd => (hS.at_ i d hd).2.1) c hI.cle p hq
    obtain ⟨dp, hdp⟩ := getElem?_of_lt_list l p (by have := hI.cle; omega)
    have hw : dp.w = true := by
      rcases (L.step p dp hdp).inv with ⟨_, _, _, e⟩ | ⟨e, _⟩ | ⟨_, e, _⟩ | ⟨_, _, _, _, e, _⟩
      · rw [hk] at e; cases e
      · rw [hk] at e; cases e
      · rw [hk] at e; cases e
      · exact e
    have hD := (hI.cur p dp hdp hw).2 hp
    obtain ⟨u, hu⟩ := hI.kval p hD
    rw [hk] at hu; cases hu

/-- Each read gives the same at each heap that it may meet. -/
def CkP (P : Program) (E : Env) (ih : Task → Res) (hps : List Hp) (rcs : List Rc) : Prop := ∀ r, r ∈ rcs → ∀ e, e ∈ hps → tb e.pb r.i = true ∨ nxAt r.b e.nx = true ∨ ∃ h', doOp P E ih r.tm e.h r.o = .val r.v h'
theorem CkP.of_all {hps : List Hp} {rcs : List Rc} (h : ckAll P E ih hps rcs = true) : CkP P E ih hps rcs := by
  intro r hr e he
  have hone := (every_iff _ _).1 ((every_iff _ _).1 h _ hr) e he
  unfold ckOne at hone
  cases h1 : tb e.pb r.i with
  | true => exact .inl rfl
  | false =>
    rw [h1] at hone
    cases h2 : nxAt r.b e.nx with
    | true => exact .inr (.inl rfl)
    | false =>
      rw [h2] at hone
      simp only [cond_false] at hone
      right; right
      cases hop : doOp P E ih r.tm e.h r.o with
      | val u hx' =>
        rw [hop] at hone
        have := veq_iff _ _ _ hone
        subst this
        exact ⟨hx', rfl⟩
      | panic _ _ => rw [hop] at hone; cases hone
      | stuck => rw [hop] at hone; cases hone

/-- A read gives in whatever order what it gave in the text's. -/
theorem Log.read (L : Log P E ih ops.toList l fr h 0 [] [] none fr' h' hps rcs pan' F H Q K) (hS : Static E ops l) (hck : noWriters l = true ∨ CkP P E ih hps rcs) (hI : Inv l K (fun t => fr.tm.get undef t) D c tm) (hT : Turn l D i d)
    {v : V} (hk : K i = .val v) (hwt : wanted ops.toList (F i) d.o = some true) {hx : Heap} (hd : doOp P E ih (F i).tm (H i) d.o = .val v hx) (hw : d.w = false) : doOp P E ih (F i).tm (H c) d.o = .val v (H c) := by
  obtain ⟨_, hdi, hdw, _⟩ := hS.at_ i d hT.at_
  have hrd : isRead E d.o.op = true := by rw [hw] at hdw; simpa using hdw.symm
  have hi := lt_of_getElem?_list hT.at_
  cases hp : isPure E d.o.op with
  | true => exact doOp_pure hp hd (H c)
  | false =>
    by_cases hnw : noWriters l = true
    · have hall := (every_iff _ _).1 hnw
      have hno : ∀ (k : Nat) x, l[k]? = some x → x.w = false := fun k x hx => by simpa using hall x (List.mem_of_getElem? hx)
      have e1 := L.still 0 i (Nat.zero_le _) (Nat.le_of_lt hi) fun k x _ _ hx => hno k x hx
      have e2 := L.still 0 c (Nat.zero_le _) hI.cle fun k x _ _ hx => hno k x hx
      have e : H c = H i := e2.trans e1.symm
      rw [e]
      have := doOp_read hrd hd
      rw [this] at hd; exact hd
    · have hck : CkP P E ih hps rcs := hck.resolve_left hnw
      have hrc := L.reads i d v hT.at_ hk hw hp hwt
      have hq := L.noPanic hS hI
      have hent : ∃ e, e ∈ hps ∧ e.h = H c ∧ (∀ j, e.nx = some j → j = c ∧ c < l.length ∧ ∃ dc, l[c]? = some dc ∧ dc.w = true) ∧ (e.pb = 0 ∨ ∃ (j : Nat) (d' : DOp), j < c ∧ l[j]? = some d' ∧ d'.w = true ∧ e.pb = d'.b) := by
        rcases hI.cw with hc | ⟨dc, hdc, hcw⟩
        · subst hc
          have hpn : pan' = none := by
            have := L.qn
            rw [hq] at this
            cases pan' with
            | none => rfl
            | some _ => cases this
          obtain ⟨e, h1, h2, h3, h4⟩ := L.last hpn
          refine ⟨e, h1, h2.trans L.hn.symm, fun j hj => (by rw [h3] at hj; cases hj), h4.imp id fun ⟨j, d', a, b⟩ => ⟨j, d', lt_of_getElem?_list a, a, b⟩⟩
        · obtain ⟨e, h1, h2, h3, h4⟩ := L.heaps c dc hdc hcw hq
          have hci := (hS.at_ c dc hdc).2.1
          refine ⟨e, h1, h2, fun j hj => (by rw [h3, hci] at hj; cases hj; exact ⟨rfl, lt_of_getElem?_list hdc, dc, hdc, hcw⟩), h4⟩
      obtain ⟨e, he, heh, hnx, hpb⟩ := hent
      have hone := hck _ hrc e he
      simp only at hone
      have h1 : tb e.pb d.i = false := by
        rcases hpb with hpb | ⟨j, d', hj, hd', hw', hpb⟩
        · rw [hpb, tb_zero]
        · rw [hpb, hdi]
          cases ht : tb d'.b i with
          | false => rfl
          | true =>
            have := hI.closed j d' i ((hI.cur j d' hd' hw').2 hj) hd' ht
            rw [hT.new] at this; cases this
      have hone := hone.resolve_left (by rw [h1]; simp)
      have h2 : nxAt d.b e.nx = false := by
        cases hn : e.nx with
        | none => rfl
        | some j =>
          obtain ⟨rfl, _, dc, hdc, hcw⟩ := hnx j hn
          show tb d.b j = false
          cases ht : tb d.b j with
          | false => rfl
          | true =>
            have := (hI.cur j dc hdc hcw).1 (hT.before hS hI j ht)
            omega
      obtain ⟨hx', hop⟩ := hone.resolve_left (by rw [h2]; simp)
      rw [heh] at hop
      have := doOp_read hrd hop
      rw [hop, this]

/-- The slots of the text's order, at an operation's turn. -/
theorem Log.agree (L : Log P E ih ops.toList l fr h 0 [] [] none fr' h' hps rcs pan' F H Q K) (hS : Static E ops l) (hI : Inv l K (fun t => fr.tm.get undef t) D c tm) (hT : Turn l D i d) (t : Nat) (ht : t ∈ looks ops.toList d.o) : tm.get undef t = (F i).tm.get undef t := by
  have hlk := (hS.at_ i d hT.at_).2.2.2
  rw [(L.slots i (Nat.le_of_lt (lt_of_getElem?_list hT.at_))).2 t]
  exact hT.agree hS hI t (by rw [hlk]; exact ht)

theorem listed_count {listed : Array Bool} {n : Nat} (hl : listed.size = n) {i : Nat} (hi : listed.getD i true = false) : (List.range n).countP (fun j => !((listed.setIfInBounds i true).getD j false)) + 1 ≤ (List.range n).countP (fun j => !(listed.getD j false)) := by
  have hin : i < n := by
    rcases Nat.lt_or_ge i listed.size with q | q
    · omega
    · have e := Array.getElem?_eq_none q
      rw [Array.getD_eq_getD_getElem?, e] at hi; cases hi
  have hif : listed.getD i false = false := by
    have e := Array.getElem?_eq_getElem (xs := listed) (i := i) (by omega)
    rw [Array.getD_eq_getD_getElem?, e] at hi ⊢
    simpa using hi
  have hset : ∀ j, (listed.setIfInBounds i true).getD j false = if j = i then true else listed.getD j false := by
    intro j
    rw [Array.getD_eq_getD_getElem?, Array.getElem?_setIfInBounds]
    by_cases e : j = i
    · subst e; rw [if_pos rfl, if_pos (by omega), if_pos rfl]; rfl
    · rw [if_neg (fun q => e q.symm), if_neg e, Array.getD_eq_getD_getElem?]
  have gen : ∀ m, i < m → (List.range m).countP (fun j => !(if j = i then true else listed.getD j false)) + 1 ≤ (List.range m).countP (fun j => !(listed.getD j false)) ∧ True := by
    intro m hm
    induction m with
    | zero => omega
    | succ m IH =>
      rw [List.range_succ, List.countP_append, List.countP_append]
      simp only [List.countP_singleton]
      by_cases e : i = m
      · subst e
        have hsame : (List.range i).countP (fun j => !(if j = i then true else listed.getD j false)) = (List.range i).countP (fun j => !(listed.getD j false)) := by
          apply List.countP_congr
          intro j hj
          rw [List.mem_range] at hj
          have hne : ¬ j = i := by omega
          simp [hne]
        rw [hsame, hif]
        simp
      · have := (IH (by omega)).1
        have hne : ¬ m = i := fun q => e q.symm
        simp only [hne, if_false]
        exact ⟨by omega, trivial⟩
  have := (gen n hin).1
  have e : (fun j => !((listed.setIfInBounds i true).getD j false)) = (fun j => !(if j = i then true else listed.getD j false)) := by
    funext j; rw [hset]
  rw [e]; exact this

theorem set_getD {listed : Array Bool} {i : Nat} (hi : listed.getD i true = false) (j : Nat) : (listed.setIfInBounds i true).getD j false = if j = i then true else listed.getD j false := by
  have hin : i < listed.size := by
    rcases Nat.lt_or_ge i listed.size with q | q
    · exact q
    · have e := Array.getElem?_eq_none q
      rw [Array.getD_eq_getD_getElem?, e] at hi; cases hi
  rw [Array.getD_eq_getD_getElem?, Array.getElem?_setIfInBounds]
  by_cases e : j = i
  · subst e; rw [if_pos rfl, if_pos hin, if_pos rfl]; rfl
  · rw [if_neg (fun q => e q.symm), if_neg e, Array.getD_eq_getD_getElem?]

/-- What the region ends with. -/
noncomputable def drawEnd (l : List DOp) (fr' : Fr) (h' : Heap) (pan' : Option Pn) : Res :=
  match pan' with
  | none => .code .normal fr' h'
  | some p => .code (.panic p.v) (lose l fr') p.h

theorem draw_run (hSn : Snd P E ih) (L : Log P E ih ops.toList l fr h 0 [] [] none fr' h' hps rcs pan' F H Q K) (hS : Static E ops l) (hck : noWriters l = true ∨ CkP P E ih hps rcs) {b : Frame} {k : List Item} {cs : List Frame} :
    ∀ (fuel t : Nat) (listed : Array Bool) (c : Nat) (tm : T V) (g : Gh) (w : World) (a : Act), listed.size = l.length → (List.range l.length).countP (fun j => !(listed.getD j false)) ≤ fuel → Inv l K (fun t => fr.tm.get undef t) (fun j => listed.getD j false) c tm →
      W B w0 g (H c) w → GlobOk E.glob g.S → FrOk g b { fr with tm := tm } a →
      CodeOk P B w0 g (lone (b.atR a (.inRegion ops (Region.linearise.go .any ops fuel t listed []) :: k)) cs w) b k cs (drawEnd l fr' h' pan') := by
  intro fuel
  -- all is carried out
  have fin : ∀ (listed : Array Bool) (c : Nat) (tm : T V) (g : Gh) (w : World) (a : Act), (∀ j, j < l.length → listed.getD j false = true) → Inv l K (fun t => fr.tm.get undef t) (fun j => listed.getD j false) c tm → W B w0 g (H c) w → FrOk g b { fr with tm := tm } a →
      CodeOk P B w0 g (lone (b.atR a (.inRegion ops [] :: k)) cs w) b k cs (drawEnd l fr' h' pan') := by
    intro listed c tm g w a hall hI hW hf
    have hc : c = l.length := by
      rcases hI.cw with hc | ⟨dc, hdc, hcw⟩
      · exact hc
      · have := (hI.cur c dc hdc hcw).1 (hall c (lt_of_getElem?_list hdc)); omega
    subst hc
    have hpn : pan' = none := by
      have hq := L.noPanic hS hI
      have := L.qn
      rw [hq] at this
      cases pan' with
      | none => rfl
      | some _ => cases this
    subst hpn
    obtain ⟨s1, s2⟩ := L.slots l.length (Nat.le_refl _)
    rw [L.fn] at s1 s2
    have htm : ∀ t, tm.get undef t = fr'.tm.get undef t := by
      intro t
      rw [hI.look, s2]
      exact wr_congr fun j v hj _ => hall j hj
    rw [L.hn] at hW
    refine ⟨g, a, w, Grown.refl _ _, hW, ?_, .one stepR_region_end⟩
    change FrOk g b fr' a
    rw [s1]
    exact ⟨hf.fn, ⟨hf.slots.size, fun i v hv => by have := hf.slots.rel i v hv; simp only at this ⊢; rw [← htm]; exact this, fun i hi => by have := hf.slots.none i hi; simp only at this ⊢; rw [← htm]; exact this⟩, hf.round, hf.marks⟩
  have done : ∀ (listed : Array Bool), listed.size = l.length → Region.ready .any ops listed = [] → ∀ j, j < l.length → listed.getD j false = true := by
    intro listed hsz hr j
    induction j using Nat.strongRecOn with
    | _ j IH =>
      intro hj
      cases hlj : listed.getD j false with
      | true => rfl
      | false =>
        exfalso
        obtain ⟨d, hd⟩ := getElem?_of_lt_list l j hj
        have : j ∈ Region.ready .any ops listed := by
          rw [mem_ready]
          refine ⟨?_, d.o, (hS.at_ j d hd).1, fun e he hb => ?_⟩
          · have e := Array.getElem?_eq_getElem (xs := listed) (i := j) (by omega)
            rw [Array.getD_eq_getD_getElem?, e] at hlj ⊢
            simpa using hlj
          · have hlt := hS.edge j d e hd (by simpa using he) (by rw [bindsAny_eq]; exact hb)
            exact IH e.on hlt (by omega)
        rw [hr] at this; cases this
  induction fuel with
  | zero =>
    intro t listed c tm g w a hsz hcnt hI hW hG hf
    simp only [Region.linearise.go, List.reverse_nil]
    refine fin listed c tm g w a (fun j hj => ?_) hI hW hf
    cases hlj : listed.getD j false with
    | true => rfl
    | false =>
      exfalso
      have : 0 < (List.range l.length).countP (fun j => !(listed.getD j false)) := by
        rw [List.countP_pos_iff]
        exact ⟨j, by simp [hj], by simp only [hlj]; rfl⟩
      omega
  | succ fuel IH =>
    intro t listed c tm g w a hsz hcnt hI hW hG hf
    simp only [Region.linearise.go]
    change CodeOk P B w0 g (lone (b.atR a (.inRegion ops (match (Region.ready .any ops listed)[t % (Region.ready .any ops listed).length]? with
      | some i => Region.linearise.go .any ops fuel (t / (Region.ready .any ops listed).length) (listed.setIfInBounds i true) [i]
      | none => [].reverse) :: k)) cs w) b k cs (drawEnd l fr' h' pan')
    cases hi : (Region.ready .any ops listed)[t % (Region.ready .any ops listed).length]? with
    | none =>
      have hnil : Region.ready .any ops listed = [] := by
        cases hr : Region.ready .any ops listed with
        | nil => rfl
        | cons x xs =>
          rw [hr] at hi
          have hlt : t % (x :: xs).length < (x :: xs).length := Nat.mod_lt _ (by simp)
          simp at hi
          simp at hlt
          omega
      simp only [List.reverse_nil]
      exact fin listed c tm g w a (done listed hsz hnil) hI hW hf
    | some i =>
      simp only []
      rw [linearise_go_acc, List.reverse_singleton, List.singleton_append]
      have hmem := List.mem_of_getElem? hi
      rw [mem_ready] at hmem
      obtain ⟨hnew, o, ho, hpre⟩ := hmem
      have hin : i < l.length := by rw [hS.len]; exact lt_of_getElem?_array ho
      obtain ⟨d, hd⟩ := getElem?_of_lt_list l i hin
      obtain ⟨hod, hdi, hdw, hdl⟩ := hS.at_ i d hd
      have hoo : d.o = o := by rw [ho] at hod; cases hod; rfl
      have hT : Turn l (fun j => listed.getD j false) i d := by
        refine ⟨hd, ?_, fun e he hb => hpre e (by rw [← hoo]; simpa using he) (by rw [← bindsAny_eq]; exact hb)⟩
        have e := Array.getElem?_eq_getElem (xs := listed) (i := i) (by omega)
        show listed.getD i false = false
        rw [Array.getD_eq_getD_getElem?, e] at hnew ⊢
        simpa using hnew
      have hD' : (fun j => if j = i then true else listed.getD j false) = fun j => (listed.setIfInBounds i true).getD j false := by
        funext j; exact (set_getD hnew j).symm
      have hcnt' := listed_count hsz hnew
      have hagree := fun t ht => L.agree hS hI hT t ht
      have hwt' : wanted ops.toList { fr with tm := tm } d.o = wanted ops.toList (F i) d.o := wanted_congr fun t ht => hagree t (by unfold looks; rw [List.app_eq, List.app_eq]; simp [ht])
      have hop' : ∀ x, doOp P E ih tm x d.o = doOp P E ih (F i).tm x d.o := fun x => doOp_congr x fun t ht => hagree t (by unfold looks; rw [List.app_eq, List.app_eq]; simp [ht])
      subst hoo
      -- one more, with a value
      have more : ∀ (v : V) (g' : Gh) (w' : World) (u : Value) (fr1 : Fr), K i = .val v → (F i).put d.o.dst v = some fr1 → (d.w = true → H (i + 1) = H (i + 1)) → Grown B g g' → R g' u v → (∀ c', (d.w = false ∧ c' = c ∨ d.w = true ∧ i + 1 ≤ c' ∧ ∀ (k : Nat) x, i + 1 ≤ k → k < c' → l[k]? = some x → x.w = false) → c' ≤ l.length → W B w0 g' (H c') w') →
          Steps P (lone (b.atR a (.inRegion ops (i :: Region.linearise.go .any ops fuel (t / (Region.ready .any ops listed).length) (listed.setIfInBounds i true) []) :: k)) cs w) (lone (b.atR (a.put d.o.dst u) (.inRegion ops (Region.linearise.go .any ops fuel (t / (Region.ready .any ops listed).length) (listed.setIfInBounds i true) []) :: k)) cs w') →
          CodeOk P B w0 g (lone (b.atR a (.inRegion ops (i :: Region.linearise.go .any ops fuel (t / (Region.ready .any ops listed).length) (listed.setIfInBounds i true) []) :: k)) cs w) b k cs (drawEnd l fr' h' pan') := by
        intro v g' w' u fr1 hk hput _ hg hR hW' hst
        obtain ⟨_, _, hlt⟩ := put_get hput
        have hFn : (F i).n = fr.n := by rw [(L.slots i (Nat.le_of_lt hin)).1]
        obtain ⟨fr2, hp2⟩ := put_some (fr := { fr with tm := tm }) (v := v) (d := d.o.dst) (fun t ht => by have := hlt t ht; rw [hFn] at this; exact this)
        obtain ⟨q1, q2, _⟩ := put_get hp2
        obtain ⟨c', hI', hc'⟩ := hI.add hS hT hk (tm' := fr2.tm) (fun t => q2 t)
        have hf' := (hf.mono hg.ext).put hR hp2
        rw [q1] at hf'
        rw [hD'] at hI'
        refine .of_steps hst hg (IH _ _ c' fr2.tm g' w' _ (by simp [hsz]) (by omega) hI' (hW' c' hc' hI'.cle) (hG.mono hg.ext.S) hf')
      rcases (L.step i d hd).inv with ⟨p, hq, hb, hk⟩ | ⟨hk, hwt, hput, hh⟩ | ⟨v, hk, hwt, hdo, hput⟩ | ⟨v, hp, hk, hwt, hw, hdo, hq, hq'⟩
      · exfalso
        have hDp : listed.getD p false = true := hT.before hS hI p hb
        obtain ⟨_, v, hp, hkp⟩ := L.panicked (fun i d hd => (hS.at_ i d hd).2.1) i (Nat.le_of_lt hin) p hq
        obtain ⟨u, hu⟩ := hI.kval p hDp
        rw [hkp] at hu; cases hu
      · -- not wanted
        rw [hwt] at hwt'
        have hw := wanted_sound hf hwt'
        have hs := stepR_op_skip (P := P) (b := b) (a := a) (k := k) (cs := cs) (w := w) (ops := ops) (i := i) (rest := Region.linearise.go .any ops fuel (t / (Region.ready .any ops listed).length) (listed.setIfInBounds i true) []) (by simp [ho]; simpa using hw)
        simp only [ho, Option.bind_some] at hs
        refine more undef g w _ _ hk hput (fun _ => rfl) (Grown.refl _ _) R.undef (fun c' hc' hcl => ?_) (.one hs)
        rcases hc' with ⟨_, rfl⟩ | ⟨hw', hge, hno⟩
        · exact hW
        · have hic := hT.writer hS hI hw'
          subst hic
          rw [L.still (i + 1) c' hge hcl hno, hh]; exact hW
      · rw [hwt] at hwt'
        have hw := wanted_sound hf hwt'
        have hok := doOp_ok hSn (k := k) (cs := cs) (rest := Region.linearise.go .any ops fuel (t / (Region.ready .any ops listed).length) (listed.setIfInBounds i true) []) ho hw hW hG hf
        simp only at hok
        rw [hop'] at hok
        cases hdw' : d.w with
        | false =>
          rw [L.read hS hck hI hT hk hwt hdo hdw'] at hok
          obtain ⟨g', w', u, hg, hW', hR, hst⟩ := hok
          refine more v g' w' u _ hk hput (fun _ => rfl) hg hR (fun c' hc' hcl => ?_) hst
          rcases hc' with ⟨_, rfl⟩ | ⟨hw', _⟩
          · exact hW'
          · rw [hdw'] at hw'; cases hw'
        | true =>
          have hic := hT.writer hS hI hdw'
          subst hic
          rw [hdo] at hok
          obtain ⟨g', w', u, hg, hW', hR, hst⟩ := hok
          refine more v g' w' u _ hk hput (fun _ => rfl) hg hR (fun c' hc' hcl => ?_) hst
          rcases hc' with ⟨hw', _⟩ | ⟨hw', hge, hno⟩
          · rw [hdw'] at hw'; cases hw'
          · rw [L.still (i + 1) c' hge hcl hno]; exact hW'
      · rw [hwt] at hwt'
        have hwd := wanted_sound hf hwt'
        have hok := doOp_ok hSn (k := k) (cs := cs) (rest := Region.linearise.go .any ops fuel (t / (Region.ready .any ops listed).length) (listed.setIfInBounds i true) []) ho hwd hW hG hf
        simp only at hok
        have hic := hT.writer hS hI hw
        subst hic
        rw [hop', hdo] at hok
        obtain ⟨g', w', u, todo, hg, hW', hR, hst⟩ := hok
        have hqn := L.after (i + 1) l.length i (by omega) (Nat.le_refl _) (by rw [hq', hdi])
        rw [L.qn] at hqn
        cases pan' with
        | none => cases hqn
        | some p =>
          obtain ⟨i2, d2, hd2, hdi2, hk2, _⟩ := L.made p rfl rfl
          have hi2 : i2 = i := by
            have h1 := (hS.at_ i2 d2 hd2).2.1
            have h2 : p.i = i := by simpa using hqn
            omega
          subst hi2
          rw [hk] at hk2
          cases hk2
          refine ⟨g', a, w', hg, hW', ?_, u, todo, hR, hst⟩
          change FrOkP g' b (lose l fr') a
          obtain ⟨e1, e2⟩ := lose_eq l fr'
          obtain ⟨s1, s2⟩ := L.slots l.length (Nat.le_refl _)
          rw [L.fn] at s1 s2
          have hfm := hf.mono hg.ext
          have hlook : ∀ t, (∀ (i : Nat) d, l[i]? = some d → d.o.dst ≠ some t) → fr'.tm.get undef t = tm.get undef t := by
            intro t ht
            rw [s2, hI.look]
            refine wr_congr fun j v hj hw => ?_
            obtain ⟨dj, hdj, _, hdst⟩ := writes_some hw
            exact absurd hdst (ht j dj hdj)
          have hn' : fr'.n = fr.n := by rw [s1]
          have hlt : ∀ t, fr.n ≤ t → ∀ (i : Nat) d v, l[i]? = some d → K i = .val v → d.o.dst ≠ some t := by
            intro t ht i d v hd hk hdst
            rcases (L.step i d hd).slots with ⟨q, _⟩ | ⟨v', _, hput⟩
            · rcases q with q | ⟨_, _, q⟩ <;> rw [hk] at q <;> cases q
            · have := (put_get hput).2.2 t hdst
              rw [(L.slots i (Nat.le_of_lt (lt_of_getElem?_list hd))).1] at this
              exact absurd this (Nat.not_lt.2 ht)
          have hout : ∀ t, fr.n ≤ t → fr'.tm.get undef t = undef ∨ fr'.tm.get undef t = lost := by
            intro t ht
            simp only [s2]
            have : wr (writes l K) (fun _ => true) (fun t => fr.tm.get undef t) t l.length = wr (writes l K) (fun j => listed.getD j false) (fun t => fr.tm.get undef t) t l.length := wr_congr fun j v hj hw => by
              obtain ⟨dj, hdj, hkj, hdst⟩ := writes_some hw
              exact absurd hdst (hlt t ht j dj v hdj hkj)
            rw [this, ← hI.look]
            exact hfm.slots.none t ht
          have hfn' : fr'.fn = fr.fn := by rw [s1]
          have hround : fr'.round = fr.round := by rw [s1]
          have hmarks : fr'.marks = fr.marks := by rw [s1]
          have hdefs : fr'.defers = fr.defers := by rw [s1]
          rw [e1]
          refine ⟨hfm.fn.trans hfn'.symm, ⟨hfm.slots.size.trans hn'.symm, fun t v hv => ?_, fun t ht => ?_⟩, by simp only; rw [hround]; exact hfm.round, by simp only; rw [hmarks, hdefs]; exact hfm.marks⟩
          · simp only
            rcases e2 t with ⟨q1, q2⟩ | ⟨q, _⟩ | ⟨q1, q2⟩
            · rw [q1, hlook t q2]
              exact hfm.slots.rel t v hv
            · exact .inl q
            · exfalso
              have h1 := lt_of_getElem?_array hv
              have h2 : a.tmps.size = fr.n := hfm.slots.size
              rw [hn'] at q1
              exact absurd h1 (Nat.not_lt.2 (by rw [h2]; exact q1))
          · simp only
            have ht : fr'.n ≤ t := ht
            have ht' : fr.n ≤ t := by rw [← hn']; exact ht
            rcases e2 t with ⟨q1, _⟩ | ⟨_, q⟩ | ⟨_, q2⟩
            · rw [q1]; exact hout t ht'
            · exact absurd ht q
            · rw [q2]; exact hout t ht'
end

/-- A region that draws its order, whose run in the text's order is known, and where each read gives the same at each heap that it may meet. -/
theorem draw_done (hSn : Snd P E ih) {b : Frame} {k : List Item} {cs : List Frame} {ops : Array Oper} {id : Nat} {g : Gh} {h : Heap} {w : World} {fr : Fr} {a : Act} (hW : W B w0 g h w) (hG : GlobOk E.glob g.S) (hf : FrOk g b fr a) (hm : P.follows .mixedOrders = true) {l : List DOp} (hl : drawInfo E ops.toList = some l) {fr' : Fr} {h' : Heap} {hps : List Hp} {rcs : List Rc} {pan : Option Pn} (hr : dRun P E ih ops.toList l fr h 0 [] [] none = .done fr' h' hps rcs pan) (hck' : noWriters l = true ∨ CkP P E ih hps rcs) :
    CodeOk P B w0 g (lone (b.atR a (.code (.region id ops true) :: k)) cs w) b k cs (drawEnd l fr' h' pan) := by
  have hS := drawInfo_static hl
  obtain ⟨F, H, Q, K, L⟩ := dRun_log P E ih ops.toList l (fun d hd => by
    obtain ⟨i, hi⟩ := List.getElem?_of_mem hd
    exact (hS.at_ i d hi).2.2.1) fr h 0 [] [] none fr' h' hps rcs pan hr
  refine .of_steps (.one stepR_region_draw) (Grown.refl _ _) ?_
  simp only [Region.schedule, hm, Bool.true_or, if_true]
  obtain ⟨c, h1, h2, h3, h4⟩ := next_writer l 0 (Nat.zero_le _)
  have hrep : ∀ j, (Array.replicate ops.size false).getD j false = false := fun j => by
    rw [Array.getD_eq_getD_getElem?, Array.getElem?_replicate]; split <;> rfl
  have hI : Inv l K (fun t => fr.tm.get undef t) (fun j => (Array.replicate ops.size false).getD j false) c fr.tm := by
    refine ⟨fun i hi => ?_, fun i d j hi => ?_, fun i hi => ?_, h2, h3, fun j d hj hw => ?_, fun t => ?_⟩
    · simp only [hrep] at hi; cases hi
    · simp only [hrep] at hi; cases hi
    · simp only [hrep] at hi; cases hi
    · simp only [hrep]
      constructor
      · intro e; cases e
      · intro e; have := h4 j d (Nat.zero_le _) e hj; rw [this] at hw; cases hw
    · have : wr (writes l K) (fun j => (Array.replicate ops.size false).getD j false) (fun t => fr.tm.get undef t) t l.length = wr (writes l K) (fun _ => false) (fun t => fr.tm.get undef t) t l.length := wr_congr fun j v _ _ => hrep j
      rw [this]
      generalize l.length = n
      induction n with
      | zero => rfl
      | succ n IH => simp only [wr]; exact IH
  have hWc : W B w0 g (H c) w := by
    rw [L.still 0 c (Nat.zero_le _) h2 fun k d _ hk hd => h4 k d (Nat.zero_le _) hk hd, L.h0]; exact hW
  have := draw_run hSn L hS hck' (b := b) (k := k) (cs := cs) ops.size (w.tape w.drawn (.order b.fn id)) (Array.replicate ops.size false) c fr.tm g { w with drawn := w.drawn + 1 } a (by simp [hS.len]) (by
    have := List.countP_le_length (p := fun j => !((Array.replicate ops.size false).getD j false)) (l := List.range l.length)
    rw [List.length_range] at this
    rw [← hS.len]; rw [hS.len] at this ⊢; exact this) hI (hWc.drew _) hG hf
  exact this

/-- A region that draws its order. -/
theorem draw_ok (hSn : Snd P E ih) {b : Frame} {k : List Item} {cs : List Frame} {ops : Array Oper} {id : Nat} {g : Gh} {h : Heap} {w : World} {fr : Fr} {a : Act} (hW : W B w0 g h w) (hG : GlobOk E.glob g.S) (hf : FrOk g b fr a) :
    CodeOk P B w0 g (lone (b.atR a (.code (.region id ops true) :: k)) cs w) b k cs (sDraw P E ih ops.toList fr h) := by
  unfold sDraw
  split
  · trivial
  · rename_i l hl
    obtain ⟨hm, hl⟩ := bif_some hl rfl
    unfold endDraw
    split
    · trivial
    · rename_i fr' h' hps rcs pan hr
      cases hck : (noWriters l || ckAll P E ih hps rcs) with
      | false => trivial
      | true =>
        change CodeOk P B w0 g _ b k cs (drawEnd l fr' h' pan)
        exact draw_done hSn hW hG hf hm hl hr ((by simpa [Bool.or_eq_true] using hck : noWriters l = true ∨ ckAll P E ih hps rcs = true).imp (fun q => q) CkP.of_all)

end Go.AM
