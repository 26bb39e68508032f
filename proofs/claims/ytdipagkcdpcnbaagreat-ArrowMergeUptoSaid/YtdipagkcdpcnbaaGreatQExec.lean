/- The symbolic executor: code, joins, loops, and that it is right. -/
import Derived.Test.YtdipagkcdpcnbaaGreatQBuild
namespace Go.Qx
open Go Go.RowKit Go.Sx

inductive Ex where
  | normal
  | exit (i : Nat)
  | ret
def exOf : Ex → Exit
  | .normal => .normal
  | .exit i => .exit i
  | .ret => .ret
def eqEx : Ex → Ex → Bool
  | .normal, .normal => true
  | .exit i, .exit j => Nat.beq i j
  | .ret, .ret => true
  | _, _ => false
theorem eqEx_ok {a b : Ex} (h : eqEx a b = true) : a = b := by
  cases a <;> cases b <;> first | rfl | cases h | (have := Nat.eq_of_beq_eq_true h; subst this; rfl)
/-- Where ways meet: the slots that are turned, rows to be settled, variables that are turned, the ways out. -/
structure JH where
  m : Nat
  pub : List Nat
  W : List (Nat × V)
  outs : List (Ex × List (Nat × V))
structure LH (I : TypeId → Type) where
  m : Nat
  pub : List Nat
  W : List (Nat × V)
  head : List (Nat × V)
  outs : List (Ex × List (Nat × V))
  bound : St I → Option Nat
/-- A loop that turns one row where it lies. -/
structure KH (I : TypeId → Type) where
  m : Nat
  t : Nat
  E : TypeId
  S : List (Nat × V)
  outs : List (Ex × List (Nat × V))
  bound : St I → Option Nat
structure Hints (I : TypeId → Type) where
  tds : Nat → List (List Nat)
  spl : Nat → List Nat
  pre : Nat → List Nat
  join : Nat → Option JH
  loop : Nat → Option (LH I)
  keep : Nat → Option (KH I)
abbrev SumT (I : TypeId → Type) (W : List (Nat × V)) : List (Ex × List (Nat × V)) → Type
  | [] => Empty
  | [o] => TyN I o.2 W
  | o :: o' :: r => Sum (TyN I o.2 W) (SumT I W (o' :: r))
def allS (outs : List (Ex × List (Nat × V))) : List Nat := outs.flatMap fun o => o.2.map (·.1)
section
variable {I : TypeId → Type} [∀ E, Rp (I E)]
def inj (tb : Tab I) (O0 : Obs I) (W : List (Nat × V)) (wl : List Nat) : (outs : List (Ex × List (Nat × V))) → Ex → St I → Option (SumT I W outs)
  | [], _, _ => none
  | [o], e, s => bif eqEx o.1 e then getN tb O0 o.2 W wl s else none
  | o :: o' :: r, e, s => bif eqEx o.1 e then Option.bind (getN tb O0 o.2 W wl s) fun x => some (.inl x) else Option.bind (inj tb O0 W wl (o' :: r) e s) fun y => some (.inr y)
def okN (sb : St I) (S W : List (Nat × V)) : Bool := freeFrom sb.O sb.nx (cnT (tyN S W))
def out (tb : Tab I) (sb : St I) (m : Nat) (dead : List Nat) (W : List (Nat × V)) (wl : List Nat) {ρ : Type} (k : Ex → St I → Option ρ) : (outs : List (Ex × List (Nat × V))) → SumT I W outs → Option ρ
  | [], _ => none
  | [o], x => bif okN sb o.2 W then k o.1 (nfS tb sb m dead o.2 W wl x) else none
  | o :: o' :: r, b => onEnd (fun x => bif okN sb o.2 W then k o.1 (nfS tb sb m dead o.2 W wl x) else none) (fun y => out tb sb m dead W wl k (o' :: r) y) b
abbrev Core (I : TypeId → Type) := (ρ : Type) → St I → (Ex → St I → Option ρ) → Option ρ
/-- The rows that these slots point to, or that stand in variables they point to. -/
def pubL (s : St I) (ts : List Nat) : List Nat := numsF s.F ts ++ nest s.O (numsF s.F ts)
def wrapJ (tb : Tab I) (H : Hints I) (p : Nat) (core : Core I) : Core I := fun ρ s k => match H.join p with
  | none => core ρ s k
  | some j =>
    let s0 := pubS s s.O (pubL s j.pub)
    Option.bind (resW s0 j.W) fun wl =>
    let dead := deadOf s0 (allS j.outs) wl
    Option.bind (core (SumT I j.W j.outs) (roS (wl ++ dead) s0) fun e s' => inj tb s0.O j.W wl j.outs e s') fun b => out tb s0 j.m dead j.W wl k j.outs b
def loopK (tb : Tab I) (L : LH I) (O0 : Obs I) (wl : List Nat) : Ex → St I → Option (Fl (TyN I L.head L.W) (SumT I L.W L.outs))
  | .normal, s' => Option.bind (getN tb O0 L.head L.W wl s') fun x' => some (.next x')
  | e, s' => Option.bind (inj tb O0 L.W wl L.outs e s') fun b => some (.done b)
def loopC (tb : Tab I) (L : LH I) (body : Core I) : Core I := fun _ s k =>
  let s0 := pubS s s.O (pubL s L.pub)
  Option.bind (resW s0 L.W) fun wl =>
  let dead := deadOf s0 (L.head.map (·.1) ++ allS L.outs) wl
  let sr := roS (wl ++ dead) s0
  bif okN sr L.head L.W then
  Option.bind (getN tb s0.O L.head L.W wl sr) fun x0 =>
  Option.bind (L.bound s) fun bd =>
  Option.bind (iter (fun x => body (Fl (TyN I L.head L.W) (SumT I L.W L.outs)) (nfS tb sr L.m dead L.head L.W wl x) (loopK tb L s0.O wl)) bd x0) fun b => out tb s0 L.m dead L.W wl k L.outs b else none
abbrev TyX (I : TypeId → Type) (S : List (Nat × V)) (E : TypeId) : Type := TyT I (S.map (·.2)) × List (I E)
abbrev SumX (I : TypeId → Type) (E : TypeId) : List (Ex × List (Nat × V)) → Type
  | [] => Empty
  | [o] => TyX I o.2 E
  | o :: o' :: r => Sum (TyX I o.2 E) (SumX I E (o' :: r))
def rowOf (O : Obs I) (l : Nat) (E : TypeId) : Option (List (I E)) := match O l with
  | some (some (.row E' xs false)) => castL E E' xs
  | _ => none
def getX (tb : Tab I) (E : TypeId) (l : Nat) (S : List (Nat × V)) (s : St I) : Option (TyX I S E) :=
  Option.bind (slotsP s S) fun ps => Option.bind (getT tb (fun _ => none) (S.map (·.2)) ps) fun x => bif isNil x.2.1 && isNil x.2.2 then Option.bind (rowOf s.O l E) fun ys => some (x.1, ys) else none
def kst (tb : Tab I) (s0 : St I) (m l : Nat) (E : TypeId) (S : List (Nat × V)) (x : TyX I S E) : St I := ⟨s0.n, asgS S (pvT tb s0.nx (S.map (·.2)) x.1) (mskF m s0.F), upF s0.O l (some (.row E x.2 false)), s0.nx⟩
def injX (tb : Tab I) (E : TypeId) (l : Nat) : (outs : List (Ex × List (Nat × V))) → Ex → St I → Option (SumX I E outs)
  | [], _, _ => none
  | [o], e, s => bif eqEx o.1 e then getX tb E l o.2 s else none
  | o :: o' :: r, e, s => bif eqEx o.1 e then Option.bind (getX tb E l o.2 s) fun x => some (.inl x) else Option.bind (injX tb E l (o' :: r) e s) fun y => some (.inr y)
def outX (tb : Tab I) (sb : St I) (m l : Nat) (E : TypeId) {ρ : Type} (k : Ex → St I → Option ρ) : (outs : List (Ex × List (Nat × V))) → SumX I E outs → Option ρ
  | [], _ => none
  | [o], x => k o.1 (kst tb sb m l E o.2 x)
  | o :: o' :: r, b => onEnd (fun x => k o.1 (kst tb sb m l E o.2 x)) (fun y => outX tb sb m l E k (o' :: r) y) b
def rowAt (s : St I) (t : Nat) (E : TypeId) : Option (Nat × List (I E)) := match s.F t with
  | some (.vw l) => Option.bind (rowOf s.O l E) fun xs => some (l, xs)
  | _ => none
def keepK (tb : Tab I) (K : KH I) (l : Nat) : Ex → St I → Option (Fl (TyX I K.S K.E) (SumX I K.E K.outs))
  | .normal, s' => Option.bind (getX tb K.E l K.S s') fun x' => some (.next x')
  | e, s' => Option.bind (injX tb K.E l K.outs e s') fun b => some (.done b)
def keepC (tb : Tab I) (K : KH I) (body : Core I) : Core I := fun _ s k =>
  Option.bind (rowAt s K.t K.E) fun r =>
  Option.bind (getX tb K.E r.1 K.S (roS [r.1] s)) fun x0 =>
  Option.bind (K.bound s) fun bd =>
  Option.bind (iter (fun x => body (Fl (TyX I K.S K.E) (SumX I K.E K.outs)) (kst tb (roS [r.1] s) K.m r.1 K.E K.S x) (keepK tb K r.1)) bd x0) fun b => outX tb s K.m r.1 K.E k K.outs b
def preS (s : St I) (ts : List Nat) : St I := pubS s s.O (pubL s ts)
def exec (tb : Tab I) (disp : Disp I) (H : Hints I) : Code → Nat → Core I
  | .region id ops drw, p => wrapJ tb H p fun _ s k => region tb disp (H.tds id) drw (H.spl id) ops.toList (preS s (H.pre id)) (k .normal)
  | .seq a b, p => wrapJ tb H p fun ρ s k => exec tb disp H a (2 * p) ρ s fun e s => match e with
    | .normal => exec tb disp H b (2 * p + 1) ρ s k
    | e => k e s
  | .cond t a b, p => wrapJ tb H p fun ρ s k => Option.bind (evP s.n s.F t) fun q => match q with
    | .bool c => bif c then exec tb disp H a (2 * p) ρ s k else exec tb disp H b (2 * p + 1) ρ s k
    | _ => none
  | .block id a, p => wrapJ tb H p fun ρ s k => exec tb disp H a (2 * p) ρ s fun e s => match e with
    | .exit j => bif Nat.beq j id then k .normal s else k (.exit j) s
    | e => k e s
  | .loop a, p => wrapJ tb H p fun ρ s k => match H.loop p with
    | some L => loopC tb L (exec tb disp H a (2 * p)) ρ s k
    | none => match H.keep p with
      | some K => keepC tb K (exec tb disp H a (2 * p)) ρ s k
      | none => none
  | .exit i, _ => fun _ s k => k (.exit i) s
  | .ret, _ => fun _ s k => k .ret s
  | .skip, _ => fun _ s k => k .normal s
  | _, _ => fun _ _ _ => none
/-! ### what is looked at once -/
def opsDst (ops : List Oper) (i : Nat) : Bool := isDst (idxd ops) i
def dstC : Code → Nat → Bool
  | .region _ ops _, i => opsDst ops.toList i
  | .seq a b, i => dstC a i || dstC b i
  | .cond _ a b, i => dstC a i || dstC b i
  | .block _ a, i => dstC a i
  | .loop a, i => dstC a i
  | _, _ => false
def dstsOk (m : Nat) : Code → Bool
  | .region _ ops _ => ops.toList.all fun o => match o.dst with
    | some d => Nat.testBit m d
    | none => true
  | .seq a b => dstsOk m a && dstsOk m b
  | .cond _ a b => dstsOk m a && dstsOk m b
  | .block _ a => dstsOk m a
  | .loop a => dstsOk m a
  | _ => true
def hintOk (H : Hints I) (c : Code) (p : Nat) : Bool := (match H.join p with
  | some j => dstsOk j.m c
  | none => true) && (match H.loop p with
  | some L => dstsOk L.m c
  | none => true) && (match H.keep p with
  | some K => dstsOk K.m c
  | none => true)
def codeOk (H : Hints I) : Code → Nat → Bool
  | .region id ops drw, p => hintOk H (.region id ops drw) p && (bif drw then tdsCheck ops.toList (H.tds id) && slotCheck ops.toList (H.tds id) (idxd ops.toList) else true)
  | .seq a b, p => hintOk H (.seq a b) p && codeOk H a (2 * p) && codeOk H b (2 * p + 1)
  | .cond t a b, p => hintOk H (.cond t a b) p && codeOk H a (2 * p) && codeOk H b (2 * p + 1)
  | .block id a, p => hintOk H (.block id a) p && codeOk H a (2 * p)
  | .loop a, p => hintOk H (.loop a) p && codeOk H a (2 * p)
  | _, _ => true
theorem dstsOk_ok {m : Nat} : ∀ {c : Code}, dstsOk m c = true → ∀ {i}, Nat.testBit m i = false → dstC c i = false
  | .region _ ops _, h, i, hi => by
    simp only [dstsOk, List.all_eq_true] at h
    simp only [dstC, opsDst, isDst, List.any_eq_false]
    intro x hx hd
    obtain ⟨j, o⟩ := x
    have ho := List.mem_of_getElem? (idxd_mem.1 hx)
    have h1 := h o ho
    cases hdst : o.dst with
    | none => rw [hdst] at hd; cases hd
    | some d =>
      rw [hdst] at hd h1
      have e := Nat.eq_of_beq_eq_true hd
      subst e
      simp only at h1
      rw [hi] at h1; cases h1
  | .seq a b, h, i, hi => by
    simp only [dstsOk, Bool.and_eq_true] at h
    simp only [dstC, dstsOk_ok h.1 hi, dstsOk_ok h.2 hi, Bool.or_self]
  | .cond _ a b, h, i, hi => by
    simp only [dstsOk, Bool.and_eq_true] at h
    simp only [dstC, dstsOk_ok h.1 hi, dstsOk_ok h.2 hi, Bool.or_self]
  | .block _ a, h, i, hi => dstsOk_ok (c := a) h hi
  | .loop a, h, i, hi => dstsOk_ok (c := a) h hi
  | .skip, _, _, _ => rfl
  | .rangeFunc _ _ _ _, _, _, _ => rfl
  | .exit _, _, _, _ => rfl
  | .scope _, _, _, _ => rfl
  | .label _, _, _, _ => rfl
  | .goto _, _, _, _ => rfl
  | .ret, _, _, _ => rfl
  | .refuse _, _, _, _ => rfl
omit [∀ E, Rp (I E)] in
theorem obT_len : ∀ {vs : List V} {x : TyT I vs}, (obT vs x).length = cnT vs := by
  have hK : ∀ {k : K} {x : TyK I k}, (obK k x).length = cnK k := by intro k x; cases k <;> rfl
  have hKs : ∀ {ks : List K} {x : TyKs I ks}, (obKs ks x).length = cnKs ks := by
    intro ks
    induction ks with
    | nil => intro x; rfl
    | cons k r ih =>
      cases r with
      | nil => intro x; exact hK
      | cons k' r => intro x; simp only [obKs, cnKs, List.length_append, hK, ih]
  have hV : ∀ {v : V} {x : TyV I v}, (obV v x).length = cnV v := by
    intro v x
    cases v with
    | k k => exact hK
    | lvs ks => exact hKs
  intro vs
  induction vs with
  | nil => intro x; rfl
  | cons v r ih =>
    cases r with
    | nil => intro x; exact hV
    | cons v' r => intro x; simp only [obT, cnT, List.length_append, hV, ih]
omit [∀ E, Rp (I E)] in
theorem freeFrom_iff {O : Obs I} : ∀ {m nb : Nat}, freeFrom O nb m = true ↔ ∀ l ∈ rng nb m, O l = none
  | 0, _ => by simp [freeFrom, rng]
  | m + 1, nb => by
    simp only [freeFrom, Bool.and_eq_true, freeFrom_iff, rng, List.mem_cons, Option.isNone_iff_eq_none]
    constructor
    · rintro ⟨h1, h2⟩ l (rfl | h)
      · exact h1
      · exact h2 l h
    · exact fun h => ⟨h _ (.inl rfl), fun l hl => h l (.inr hl)⟩
variable {P : Program} {tb : Tab I} {disp : Disp I} {H : Hints I} {n : Nat}
omit [∀ E, Rp (I E)] in
theorem okN_ok {sb : St I} {S W : List (Nat × V)} (h : okN sb S W = true) (x : TyN I S W) : freeN sb.O sb.nx (obT (tyN S W) x) = true := by
  rw [freeN_iff, obT_len]
  exact freeFrom_iff.1 h
omit [∀ E, Rp (I E)] in
theorem inj_out {O0 : Obs I} {W : List (Nat × V)} {wl : List Nat} {sb : St I} {m : Nat} {dead : List Nat} {ρ : Type} {k : Ex → St I → Option ρ} {r : ρ} {e : Ex} {s' : St I} : ∀ {outs : List (Ex × List (Nat × V))} {b : SumT I W outs}, inj tb O0 W wl outs e s' = some b → out tb sb m dead W wl k outs b = some r →
    ∃ S, ∃ x : TyN I S W, getN tb O0 S W wl s' = some x ∧ okN sb S W = true ∧ k e (nfS tb sb m dead S W wl x) = some r
  | [], _, h, _ => by cases h
  | [o], x, h, h2 => by
    obtain ⟨he, h3⟩ := bif_some h
    obtain ⟨hn, h4⟩ := bif_some h2
    have := eqEx_ok he
    subst this
    exact ⟨o.2, x, h3, hn, h4⟩
  | o :: o' :: rs, b, h, h2 => by
    simp only [inj] at h
    cases he : eqEx o.1 e with
    | true =>
      rw [he] at h
      obtain ⟨x, hx, h⟩ := bind_some h
      cases h
      have h2' : (bif okN sb o.2 W then k o.1 (nfS tb sb m dead o.2 W wl x) else none) = some r := h2
      obtain ⟨hn, h2'⟩ := bif_some h2'
      have := eqEx_ok he
      subst this
      exact ⟨o.2, x, hx, hn, h2'⟩
    | false =>
      rw [he] at h
      obtain ⟨y, hy, h⟩ := bind_some h
      cases h
      exact inj_out (outs := o' :: rs) (b := y) hy h2
omit [∀ E, Rp (I E)] in
theorem resW_mem {s : St I} : ∀ {W : List (Nat × V)} {wl : List Nat}, resW s W = some wl → ∀ l ∈ wl, ∃ t, s.F t = some (.ptr l 0)
  | [], _, h => by cases h; exact fun l hl => by cases hl
  | x :: r, _, h => by
    obtain ⟨l0, h0, h⟩ := bind_some h
    obtain ⟨r', h1, h⟩ := bind_some h
    cases h
    intro l hl
    rcases List.mem_cons.1 hl with rfl | hl
    · unfold objAt at h0
      split at h0
      · rename_i l1 e; cases h0; exact ⟨_, e⟩
      · cases h0
    · exact resW_mem h1 l hl
/-- What an executor of a piece of code owes. -/
def Spec (P : Program) (n : Nat) (core : Core I) (cd : Code) : Prop :=
  ∀ (ρ : Type) (s : St I) (k : Ex → St I → Option ρ) (r : ρ) (X : Cxt) (c : Cx) (σ : S) (F : Fr) (Q : Exit → Act → World → Prop), X.P = P → core ρ s k = some r → Rel X c σ s n F →
    (∀ (e : Ex) (s' : St I) (c' : Cx) (τ : S) (F' : Fr), k e s' = some r → Cx.le c c' → Rel X c' τ s' n F' → Stp X.M σ τ → (∀ i, dstC cd i = false → F' i = F i) → Q (exOf e) (fr n F') τ.w) → cd.wp P Q (fr n F) σ.w
/-- Out of a stretch of code that was run within. -/
theorem leave (ht : TabOk P tb) {X X' : Cxt} {c c' c'' : Cx} {σ τ : S} {s0 s' : St I} {F F' : Fr} {own wl dead : List Nat} {W S : List (Nat × V)} {m : Nat} {x : TyN I S W} (h0 : Rel X c σ s0 n F) (hX : X' = within X c σ s0 own) (hc' : c' = roC own c) (how : own = wl ++ dead)
    (hwl : ∀ l ∈ wl, ∃ p, c l = some p) (hg : getN tb s0.O S W wl s' = some x) (hok : okN s0 S W = true) (hle : Cx.le c' c'') (hr : Rel X' c'' τ s' n F') (st : Stp X'.M σ τ) (hF : ∀ i, Nat.testBit m i = false → F' i = F i) :
    ∃ c4 τ', τ'.w = τ.w ∧ Cx.le c c4 ∧ Rel X c4 τ' (nfS tb s0 m dead S W wl x) n F' ∧ Stp X.M σ τ' := by
  subst hX
  subst hc'
  have hcl : ∀ l ∈ wl, c'' l = c l := fun l hl => by
    obtain ⟨p, hp⟩ := hwl l hl
    have : roC own c l = some p := by
      unfold roC
      rw [memN_iff.2 (by rw [how]; simp [hl])]
      exact hp
    rw [hle l p this, hp]
  obtain ⟨τ', pls, us, h1, h2, h3⟩ := facts_ok ht hr hcl hg
  have st' := st.trans h2
  obtain ⟨k1, k2⟩ := build (m := m) (dead := dead) ht h0 st' (within_M h0 own) hF (fun l p g hl hnw hnd hc hw => within_not h0 hl (by rw [how, List.mem_append, not_or]; exact ⟨hnw, hnd⟩) hc hw) h3 (okN_ok hok x)
  exact ⟨_, τ', h1, k1, k2, st'.mono fun b _ hb => within_M h0 own b hb⟩
theorem resW_ok {X : Cxt} {c : Cx} {σ : S} {s : St I} {F : Fr} (h : Rel X c σ s n F) {W : List (Nat × V)} {wl : List Nat} (hw : resW s W = some wl) : ∀ l ∈ wl, ∃ p, c l = some p := fun l hl => by
  obtain ⟨t, ht⟩ := resW_mem hw l hl
  have := h.frame t _ ht
  simp only [RV] at this
  obtain ⟨b, w, h1, _⟩ := this
  exact ⟨_, h1⟩
theorem wrapJ_ok (ht : TabOk P tb) {core : Core I} {cd : Code} {p : Nat} (hs : Spec P n core cd) (hj : hintOk H cd p = true) : Spec P n (wrapJ tb H p core) cd := by
  intro ρ s k r X c σ F Q hX hx h hk
  unfold wrapJ at hx
  split at hx
  · exact hs ρ s k r X c σ F Q hX hx h hk
  · rename_i j hj'
    have hm : dstsOk j.m cd = true := by
      simp only [hintOk, hj', Bool.and_eq_true] at hj
      exact hj.1.1
    obtain ⟨wl, hwl, hx⟩ := bind_some hx
    obtain ⟨b, hb, hx⟩ := bind_some hx
    obtain ⟨σ1, h1, h2, h3, _⟩ := h.pubs (O := s.O) (fun _ _ h => h) (pubL s j.pub)
    rw [← h1]
    refine hs _ _ _ b (within X c σ1 (pubS s s.O (pubL s j.pub)) (wl ++ deadOf (pubS s s.O (pubL s j.pub)) (allS j.outs) wl)) _ σ1 F Q hX hb (enter h3 _) fun e s' c' τ F' hi hle hr st hF => ?_
    obtain ⟨S, x, g1, g2, g3⟩ := inj_out hi hx
    obtain ⟨c4, τ', k1, k2, k3, k4⟩ := leave (m := j.m) ht h3 rfl rfl rfl (resW_ok h3 hwl) g1 g2 hle hr st (fun i hi => hF i (dstsOk_ok hm hi))
    rw [← k1]
    exact hk e _ c4 τ' F' g3 k2 k3 (h2.trans k4) hF
theorem loopC_ok (ht : TabOk P tb) {L : LH I} {body : Core I} {cd : Code} (hs : Spec P n body cd) (hm : dstsOk L.m cd = true) : Spec P n (loopC tb L body) (.loop cd) := by
  intro ρ s k r X c σ F Q hX hx h hk
  unfold loopC at hx
  obtain ⟨wl, hwl, hx⟩ := bind_some hx
  obtain ⟨hok, hx⟩ := bif_some hx
  obtain ⟨x0, hx0, hx⟩ := bind_some hx
  obtain ⟨bd, hbd, hx⟩ := bind_some hx
  obtain ⟨b, hb, hx⟩ := bind_some hx
  obtain ⟨σ1, h1, h2, h3, _⟩ := h.pubs (O := s.O) (fun _ _ h => h) (pubL s L.pub)
  rw [← h1]
  have hwc := resW_ok h3 hwl
  revert hok hx0 hb hx
  generalize hs0 : pubS s s.O (pubL s L.pub) = s0 at *
  change Rel X c σ1 s0 n F at h3
  generalize hdead : deadOf s0 (L.head.map (·.1) ++ allS L.outs) wl = dead
  intro hok hx0 hb hx
  have hE := enter h3 (wl ++ dead)
  have hcl : ∀ {c1 : Cx}, Cx.le (roC (wl ++ dead) c) c1 → ∀ l ∈ wl, c1 l = roC (wl ++ dead) c l := fun hle l hl => by
    obtain ⟨p, hp⟩ := hwc l hl
    have : roC (wl ++ dead) c l = some p := by
      unfold roC
      rw [memN_iff.2 (by simp [hl])]
      exact hp
    rw [hle l p this, this]
  have hcontO : ∀ {τ : S} {W : List (Nat × V)} {wl' : List Nat} {us : List Value}, (∀ l ∈ wl', l ∈ wl) → Cont τ (roC (wl ++ dead) c) s0.O W wl' us → Cont τ (roC (wl ++ dead) c) (roO (wl ++ dead) s0.O) W wl' us := by
    intro τ W
    induction W with
    | nil =>
      intro wl' us _ hc
      cases wl' <;> exact hc
    | cons w r ih =>
      intro wl' us hw hc
      cases wl' with
      | nil => exact hc
      | cons l ls =>
        obtain ⟨u, us', b, T, vs, w', cs, e1, e2, e3, e4, e5, e6, e7⟩ := hc
        refine ⟨u, us', b, T, vs, w', cs, e1, ?_, e3, e4, e5, e6, ih (fun l' hl' => hw l' (by simp [hl'])) e7⟩
        unfold roO
        rw [memN_iff.2 (by simp [hw l (by simp)])]
        exact e2
  -- a state within, told anew
  have renorm : ∀ (c1 : Cx) (τ : S) (s' : St I) (F1 : Fr) (x : TyN I L.head L.W), Cx.le (roC (wl ++ dead) c) c1 → Rel (within X c σ1 s0 (wl ++ dead)) c1 τ s' n F1 → Stp (within X c σ1 s0 (wl ++ dead)).M σ1 τ → (∀ i, dstC cd i = false → F1 i = F i) → getN tb s0.O L.head L.W wl s' = some x →
      ∃ c4 τ', τ'.w = τ.w ∧ Cx.le (roC (wl ++ dead) c) c4 ∧ Rel (within X c σ1 s0 (wl ++ dead)) c4 τ' (nfS tb (roS (wl ++ dead) s0) L.m dead L.head L.W wl x) n F1 ∧ Stp (within X c σ1 s0 (wl ++ dead)).M σ1 τ' := by
    intro c1 τ s' F1 x hle hr st hF hg
    obtain ⟨τ', pls, us, a1, a2, a3⟩ := facts_ok ht hr (hcl hle) hg
    have a3' : Facts (within X c σ1 s0 (wl ++ dead)).M τ' (roC (wl ++ dead) c) (roS (wl ++ dead) s0).O F1 L.head L.W wl x pls us := ⟨a3.tt, hcontO (fun _ h => h) a3.cont, a3.nodup, a3.own, a3.wown⟩
    obtain ⟨b1, b2⟩ := build (m := L.m) (dead := dead) ht hE (st.trans a2) (fun _ h => h) (fun i hi => hF i (dstsOk_ok hm hi)) (fun l p g hl hnw hnd hc hw => by
      exfalso
      unfold roC at hc
      rw [memN_false.2 (by rw [List.mem_append, not_or]; exact ⟨hnw, hnd⟩)] at hc
      simp only [cond_false, Option.map_eq_some_iff] at hc
      obtain ⟨q, _, e⟩ := hc
      rw [← e] at hw
      cases hw) a3' (okN_ok hok x)
    exact ⟨_, τ', a1, b1, b2, st.trans a2⟩
  let Inv : TyN I L.head L.W → Act → World → Prop := fun x a w => ∃ c1 τ F1, a = fr n F1 ∧ w = τ.w ∧ Cx.le (roC (wl ++ dead) c) c1 ∧ Rel (within X c σ1 s0 (wl ++ dead)) c1 τ (nfS tb (roS (wl ++ dead) s0) L.m dead L.head L.W wl x) n F1 ∧
    Stp (within X c σ1 s0 (wl ++ dead)).M σ1 τ ∧ ∀ i, dstC cd i = false → F1 i = F i
  let Post : SumT I L.W L.outs → Exit → Act → World → Prop := fun b e a w => ∃ e' s' c1 τ F1, e = exOf e' ∧ exOf e' ≠ .normal ∧ a = fr n F1 ∧ w = τ.w ∧ inj tb s0.O L.W wl L.outs e' s' = some b ∧ Cx.le (roC (wl ++ dead) c) c1 ∧
    Rel (within X c σ1 s0 (wl ++ dead)) c1 τ s' n F1 ∧ Stp (within X c σ1 s0 (wl ++ dead)).M σ1 τ ∧ ∀ i, dstC cd i = false → F1 i = F i
  obtain ⟨c4, σ2, i1, i2, i3, i4⟩ := renorm _ σ1 _ F x0 (Cx.le_refl _) hE (Stp.refl _ _) (fun _ _ => rfl) hx0
  have hinv : Inv x0 (fr n F) σ1.w := ⟨c4, σ2, F, rfl, i1.symm, i2, i3, i4, fun _ _ => rfl⟩
  refine wp_mono (wp_iter (P := P) Inv Post (fun b a w ⟨e', s', c1, τ, F1, e1, e2, _⟩ => e2 e1.symm) (fun x fl a w hst hI => ?_) bd x0 b (fr n F) σ1.w hb hinv) fun e a w hp => ?_
  · obtain ⟨c1, τ, F1, rfl, rfl, j1, j2, j3, j4⟩ := hI
    refine hs _ _ _ fl (within X c σ1 s0 (wl ++ dead)) c1 τ F1 _ hX hst j2 fun e s' c2 υ F2 hkk hle hr st hF => ?_
    have hle2 := Cx.le_trans j1 hle
    have st2 := j3.trans st
    have hF2 : ∀ i, dstC cd i = false → F2 i = F i := fun i hi => (hF i hi).trans (j4 i hi)
    have hdone : ∀ e', e' = e → exOf e' ≠ .normal → Option.bind (inj tb s0.O L.W wl L.outs e' s') (fun b => some (Fl.done b)) = some fl → ∃ b', fl = .done b' ∧ Post b' (exOf e') (fr n F2) υ.w := fun e' he hne hi => by
      obtain ⟨b', hb', hi⟩ := bind_some hi
      cases hi
      exact ⟨b', rfl, e', s', c2, υ, F2, rfl, hne, rfl, rfl, hb', hle2, hr, st2, hF2⟩
    cases e with
    | normal =>
      obtain ⟨x', hx', hkk⟩ := bind_some hkk
      cases hkk
      obtain ⟨c5, υ', m1, m2, m3, m4⟩ := renorm c2 υ s' F2 x' hle2 hr st2 hF2 hx'
      exact ⟨rfl, c5, υ', F2, rfl, m1.symm, m2, m3, m4, hF2⟩
    | exit i => obtain ⟨b', rfl, hp⟩ := hdone (.exit i) rfl (by simp [exOf]) hkk; exact hp
    | ret => obtain ⟨b', rfl, hp⟩ := hdone .ret rfl (by simp [exOf]) hkk; exact hp
  · obtain ⟨e', s', c1, τ, F1, rfl, hne, rfl, rfl, hi, hle, hr, st, hF⟩ := hp
    obtain ⟨S, x, g1, g2, g3⟩ := inj_out hi hx
    obtain ⟨c5, τ', k1, k2, k3, k4⟩ := leave (m := L.m) ht h3 rfl rfl rfl hwc g1 g2 hle hr st (fun i hi => hF i (dstsOk_ok hm hi))
    rw [← k1]
    exact hk e' _ c5 τ' F1 g3 k2 k3 (h2.trans k4) hF
theorem Sett.none_ {X : Cxt} {c : Cx} {σ : S} : Sett X c σ (fun _ => none : Obs I) [] := ⟨(fun _ _ _ _ h => by cases h), fun _ _ _ h => by cases h⟩
theorem Rows.none_ {X : Cxt} {c : Cx} {σ : S} : Rows X c σ (fun _ => none : Obs I) [] := fun _ _ _ _ h => by cases h
omit [∀ E, Rp (I E)] in
theorem rowOf_some {O : Obs I} {l : Nat} {E : TypeId} {ys : List (I E)} (h : rowOf O l E = some ys) : O l = some (some (.row E ys false)) := by
  unfold rowOf at h
  split at h
  · rename_i E' xs e
    obtain ⟨e1, e2⟩ := castL_ok h
    subst e1
    subst e2
    exact e
  · cases h
/-- The one row is turned, the other objects stand. -/
theorem keep_rel (ht : TabOk P tb) {X X' : Cxt} {c c' : Cx} {σ τ : S} {s0 s' : St I} {F F' : Fr} {l m : Nat} {E : TypeId} {S : List (Nat × V)} {x : TyX I S E} {pl : Pl} (h0 : Rel X c σ s0 n F) (hlv : live s0 l) (hpl : c l = some pl) (hr : Rel X' c' τ s' n F')
    (hcl : c' l = c l) (st : Stp X'.M σ τ) (hM : ∀ b, X'.M b → X.M b) (hnot : ∀ l' p g, live s0 l' → l' ≠ l → c l' = some p → p.w = some g → ¬ X'.M g) (hg : getX tb E l S s' = some x) (hF : ∀ i, Nat.testBit m i = false → F' i = F i) :
    Rel X c τ (kst tb s0 m l E S x) n F' := by
  obtain ⟨ps, hps, hg⟩ := bind_some hg
  obtain ⟨y, hy, hg⟩ := bind_some hg
  obtain ⟨hb, hg⟩ := bif_some hg
  obtain ⟨ys, hys, hg⟩ := bind_some hg
  cases hg
  simp only [Bool.and_eq_true] at hb
  have hn1 := isNil_ok hb.1
  have hn2 := isNil_ok hb.2
  have ho := rowOf_some hys
  obtain ⟨A, k, ow, k1, k2⟩ := hr.objs l _ ho
  rw [hcl] at k1
  have h1 : Rel X c σ ⟨s0.n, s0.F, killO [l] s0.O, s0.nx⟩ n F := h0.less (fun l o ho => (killO_live ho).2) (fun l ho => killO_none.1 ho)
  have h2 : Rel X c τ ⟨s0.n, s0.F, killO [l] s0.O, s0.nx⟩ n F := h1.stepG st hM fun l' p g ⟨o, ho'⟩ hc hw => by
    obtain ⟨m1, m2⟩ := killO_live ho'
    exact hnot l' p g ⟨o, m2⟩ (by simpa using m1) hc hw
  have h3 := h2.revive (l := l) (o := .row E ys false) ⟨A, k, ow, k1, k2⟩ fun p g hp hg => ⟨h0.mine l p g hlv hp hg, fun l' p' hne ⟨o, ho'⟩ hc' hw' => by
    obtain ⟨m1, m2⟩ := killO_live ho'
    exact hne (h0.inj l' l p' p g ⟨o, m2⟩ hlv hc' hp hw' hg)⟩
  have hO : (setO (⟨s0.n, s0.F, killO [l] s0.O, s0.nx⟩ : St I) l (some (.row E ys false))).O = upF s0.O l (some (.row E ys false)) := by
    funext i
    show upF (killO [l] s0.O) l _ i = _
    by_cases e : i = l
    · subst e; rw [upF_self, upF_self]
    · rw [upF_ne e, upF_ne e]
      unfold killO
      rw [memN_false.2 (by simpa using e)]
      rfl
  have h4 : Rel X c τ ⟨s0.n, mskF m s0.F, upF s0.O l (some (.row E ys false)), s0.nx⟩ n F' := by
    rw [← hO]
    exact h3.frameEq fun i p hi => by
      unfold mskF at hi
      cases hb : Nat.testBit m i with
      | true => rw [hb] at hi; cases hi
      | false => rw [hb] at hi; exact ⟨hi, hF i hb⟩
  obtain ⟨pls, t1, t2⟩ := getT_ok ht Sett.none_ Rows.none_ (ls := y.2.1) (rows := y.2.2) hy (fun l hl => by rw [hn1] at hl; cases hl) (fun l hl => by rw [hn2] at hl; cases hl) (slotsP_ok hr hps)
  rw [hn2] at t2
  have : pls = [] := t2
  subst this
  exact Rel.asgS h4 (pvT_ok (X := X) (c := c) (nb := s0.nx) ht t1 (fun i p hp => by simp at hp)).1
omit [∀ E, Rp (I E)] in
theorem injX_out [∀ E, Rp (I E)] {sb : St I} {m l : Nat} {E : TypeId} {ρ : Type} {k : Ex → St I → Option ρ} {r : ρ} {e : Ex} {s' : St I} : ∀ {outs : List (Ex × List (Nat × V))} {b : SumX I E outs}, injX tb E l outs e s' = some b → outX tb sb m l E k outs b = some r →
    ∃ S, ∃ x : TyX I S E, getX tb E l S s' = some x ∧ k e (kst tb sb m l E S x) = some r
  | [], _, h, _ => by cases h
  | [o], x, h, h2 => by
    obtain ⟨he, h3⟩ := bif_some h
    have := eqEx_ok he
    subst this
    exact ⟨o.2, x, h3, h2⟩
  | o :: o' :: rs, b, h, h2 => by
    simp only [injX] at h
    cases he : eqEx o.1 e with
    | true =>
      rw [he] at h
      obtain ⟨x, hx, h⟩ := bind_some h
      cases h
      have := eqEx_ok he
      subst this
      exact ⟨o.2, x, hx, h2⟩
    | false =>
      rw [he] at h
      obtain ⟨y, hy, h⟩ := bind_some h
      cases h
      exact injX_out (outs := o' :: rs) (b := y) hy h2
theorem keepC_ok (ht : TabOk P tb) {K : KH I} {body : Core I} {cd : Code} (hs : Spec P n body cd) (hm : dstsOk K.m cd = true) : Spec P n (keepC tb K body) (.loop cd) := by
  intro ρ s k r X c σ F Q hX hx h hk
  unfold keepC at hx
  obtain ⟨rw_, hrw, hx⟩ := bind_some hx
  obtain ⟨x0, hx0, hx⟩ := bind_some hx
  obtain ⟨bd, hbd, hx⟩ := bind_some hx
  obtain ⟨b, hb, hx⟩ := bind_some hx
  obtain ⟨l, xs⟩ := rw_
  have hrow : s.F K.t = some (.vw l) ∧ s.O l = some (some (.row K.E xs false)) := by
    unfold rowAt at hrw
    split at hrw
    · rename_i l' e
      obtain ⟨ys, hys, hrw⟩ := bind_some hrw
      cases hrw
      exact ⟨e, rowOf_some hys⟩
    · cases hrw
  have hlv : live s l := ⟨_, hrow.2⟩
  obtain ⟨A, k0, ow, hpl, _⟩ := h.objs l _ hrow.2
  have hE := enter h [l]
  have hcr : roC [l] c l = c l := by unfold roC; rw [memN_iff.2 (by simp)]; rfl
  have hlr : live (roS [l] s) l := ⟨_, by show roO [l] s.O l = _; unfold roO; rw [memN_iff.2 (by simp)]; exact hrow.2⟩
  have hkeep : ∀ {c1 : Cx}, Cx.le (roC [l] c) c1 → c1 l = roC [l] c l := fun hle => by
    have : roC [l] c l = some ⟨A, k0, xs.length, ow⟩ := hcr.trans hpl
    rw [hle l _ this, this]
  have hdst : ∀ {F1 : Fr}, (∀ i, dstC cd i = false → F1 i = F i) → ∀ i, Nat.testBit K.m i = false → F1 i = F i := fun hF i hi => hF i (dstsOk_ok hm hi)
  -- a state within, told anew
  have renorm : ∀ (c1 : Cx) (τ : S) (s' : St I) (F1 : Fr) (x : TyX I K.S K.E), Cx.le (roC [l] c) c1 → Rel (within X c σ s [l]) c1 τ s' n F1 → Stp (within X c σ s [l]).M σ τ → (∀ i, dstC cd i = false → F1 i = F i) → getX tb K.E l K.S s' = some x →
      Rel (within X c σ s [l]) (roC [l] c) τ (kst tb (roS [l] s) K.m l K.E K.S x) n F1 := fun c1 τ s' F1 x hle hr st hF hg =>
    keep_rel ht hE hlr (hcr.trans hpl) hr (hkeep hle) st (fun _ h => h) (fun l' p g _ hne hc hw => by
      exfalso
      unfold roC at hc
      rw [memN_false.2 (by simpa using hne)] at hc
      simp only [cond_false, Option.map_eq_some_iff] at hc
      obtain ⟨q, _, e⟩ := hc
      rw [← e] at hw
      cases hw) hg (hdst hF)
  let Inv : TyX I K.S K.E → Act → World → Prop := fun x a w => ∃ τ F1, a = fr n F1 ∧ w = τ.w ∧ Rel (within X c σ s [l]) (roC [l] c) τ (kst tb (roS [l] s) K.m l K.E K.S x) n F1 ∧ Stp (within X c σ s [l]).M σ τ ∧ ∀ i, dstC cd i = false → F1 i = F i
  let Post : SumX I K.E K.outs → Exit → Act → World → Prop := fun b e a w => ∃ e' s' c1 τ F1, e = exOf e' ∧ exOf e' ≠ .normal ∧ a = fr n F1 ∧ w = τ.w ∧ injX tb K.E l K.outs e' s' = some b ∧ Cx.le (roC [l] c) c1 ∧
    Rel (within X c σ s [l]) c1 τ s' n F1 ∧ Stp (within X c σ s [l]).M σ τ ∧ ∀ i, dstC cd i = false → F1 i = F i
  have hinv : Inv x0 (fr n F) σ.w := ⟨σ, F, rfl, rfl, renorm _ σ _ F x0 (Cx.le_refl _) hE (Stp.refl _ _) (fun _ _ => rfl) hx0, Stp.refl _ _, fun _ _ => rfl⟩
  refine wp_mono (wp_iter (P := P) Inv Post (fun b a w ⟨e', s', c1, τ, F1, e1, e2, _⟩ => e2 e1.symm) (fun x fl a w hst hI => ?_) bd x0 b (fr n F) σ.w hb hinv) fun e a w hp => ?_
  · obtain ⟨τ, F1, rfl, rfl, j2, j3, j4⟩ := hI
    refine hs _ _ _ fl (within X c σ s [l]) (roC [l] c) τ F1 _ hX hst j2 fun e s' c2 υ F2 hkk hle hr st hF => ?_
    have st2 := j3.trans st
    have hF2 : ∀ i, dstC cd i = false → F2 i = F i := fun i hi => (hF i hi).trans (j4 i hi)
    have hdone : ∀ e', e' = e → exOf e' ≠ .normal → Option.bind (injX tb K.E l K.outs e' s') (fun b => some (Fl.done b)) = some fl → ∃ b', fl = .done b' ∧ Post b' (exOf e') (fr n F2) υ.w := fun e' he hne hi => by
      obtain ⟨b', hb', hi⟩ := bind_some hi
      cases hi
      exact ⟨b', rfl, e', s', c2, υ, F2, rfl, hne, rfl, rfl, hb', hle, hr, st2, hF2⟩
    cases e with
    | normal =>
      obtain ⟨x', hx', hkk⟩ := bind_some hkk
      cases hkk
      exact ⟨rfl, υ, F2, rfl, rfl, renorm c2 υ s' F2 x' hle hr st2 hF2 hx', st2, hF2⟩
    | exit i => obtain ⟨b', rfl, hp⟩ := hdone (.exit i) rfl (by simp [exOf]) hkk; exact hp
    | ret => obtain ⟨b', rfl, hp⟩ := hdone .ret rfl (by simp [exOf]) hkk; exact hp
  · obtain ⟨e', s', c1, τ, F1, rfl, hne, rfl, rfl, hi, hle, hr, st, hF⟩ := hp
    obtain ⟨S, x, g1, g3⟩ := injX_out hi hx
    refine hk e' _ c τ F1 g3 (Cx.le_refl c) (keep_rel ht h hlv hpl hr ((hkeep hle).trans hcr) st (within_M h [l]) (fun l' p g hl' hne' hc hw => within_not h hl' (by simpa using hne') hc hw) g1 (hdst hF)) (st.mono fun b _ hb => within_M h [l] b hb) hF
theorem exec_ok (ht : TabOk P tb) (hd : DispOk P disp) (hmx : P.follows .mixedOrders = true) : ∀ (cd : Code) (p : Nat), codeOk H cd p = true → Spec P n (exec tb disp H cd p) cd
  | .region id ops drw, p, hc => by
    simp only [codeOk, Bool.and_eq_true] at hc
    refine wrapJ_ok ht (fun ρ s k r X c σ F Q hX hx h hk => ?_) hc.1
    have e : ops = ops.toList.toArray := by simp
    rw [e]
    obtain ⟨σ1, h1, h2, h3, _⟩ := h.pubs (O := s.O) (fun _ _ h => h) (pubL s (H.pre id))
    rw [← h1]
    refine region_ok ht hd hX hmx (fun hdrw => ?_) hx h3 fun s' c' τ F' g1 g2 g3 g4 g5 => hk .normal s' c' τ F' g1 g2 g3 (h2.trans g4) fun i hi => g5 i (by simpa [dstC, opsDst] using hi)
    have := hc.2
    rw [hdrw] at this
    simpa using this
  | .seq a b, p, hc => by
    simp only [codeOk, Bool.and_eq_true] at hc
    refine wrapJ_ok ht (fun ρ s k r X c σ F Q hX hx h hk => ?_) hc.1.1
    have hdst : ∀ {i}, dstC (.seq a b) i = false → dstC a i = false ∧ dstC b i = false := fun hi => by simpa [dstC] using hi
    refine wp_seq (exec_ok ht hd hmx a (2 * p) hc.1.2 ρ s _ r X c σ F _ hX hx h fun e s' c' τ F' g1 g2 g3 g4 g5 => ?_)
    cases e with
    | normal => exact exec_ok ht hd hmx b (2 * p + 1) hc.2 ρ s' k r X c' τ F' Q hX g1 g3 fun e s2 c2 υ F2 m1 m2 m3 m4 m5 => hk e s2 c2 υ F2 m1 (Cx.le_trans g2 m2) m3 (g4.trans m4) fun i hi => (m5 i (hdst hi).2).trans (g5 i (hdst hi).1)
    | exit i => exact hk (.exit i) s' c' τ F' g1 g2 g3 g4 fun i hi => g5 i (hdst hi).1
    | ret => exact hk .ret s' c' τ F' g1 g2 g3 g4 fun i hi => g5 i (hdst hi).1
  | .cond t a b, p, hc => by
    simp only [codeOk, Bool.and_eq_true] at hc
    refine wrapJ_ok ht (fun ρ s k r X c σ F Q hX hx h hk => ?_) hc.1.1
    have hdst : ∀ {i}, dstC (.cond t a b) i = false → dstC a i = false ∧ dstC b i = false := fun hi => by simpa [dstC] using hi
    obtain ⟨q, hq, hx⟩ := bind_some hx
    rw [h.len] at hq
    obtain ⟨h1, h2⟩ := evP_ok h.frame hq
    split at hx
    · rename_i bb
      simp only [RV] at h2
      cases bb with
      | true => exact wp_cond_true ((eval_fr h1).trans h2) (exec_ok ht hd hmx a (2 * p) hc.1.2 ρ s k r X c σ F Q hX hx h fun e s' c' τ F' g1 g2 g3 g4 g5 => hk e s' c' τ F' g1 g2 g3 g4 fun i hi => g5 i (hdst hi).1)
      | false => exact wp_cond_false ((eval_fr h1).trans h2) (exec_ok ht hd hmx b (2 * p + 1) hc.2 ρ s k r X c σ F Q hX hx h fun e s' c' τ F' g1 g2 g3 g4 g5 => hk e s' c' τ F' g1 g2 g3 g4 fun i hi => g5 i (hdst hi).2)
    · cases hx
  | .block id a, p, hc => by
    simp only [codeOk, Bool.and_eq_true] at hc
    refine wrapJ_ok ht (fun ρ s k r X c σ F Q hX hx h hk => ?_) hc.1
    refine wp_block (exec_ok ht hd hmx a (2 * p) hc.2 ρ s _ r X c σ F _ hX hx h fun e s' c' τ F' g1 g2 g3 g4 g5 => ?_)
    cases e with
    | normal => exact hk .normal s' c' τ F' g1 g2 g3 g4 g5
    | exit j =>
      show (if j = id then Q .normal (fr n F') τ.w else Q (.exit j) (fr n F') τ.w)
      cases hb : Nat.beq j id with
      | true =>
        have g1' : (bif Nat.beq j id then k .normal s' else k (.exit j) s') = some r := g1
        rw [hb] at g1'
        rw [if_pos (Nat.eq_of_beq_eq_true hb)]
        exact hk .normal s' c' τ F' g1' g2 g3 g4 g5
      | false =>
        have g1' : (bif Nat.beq j id then k .normal s' else k (.exit j) s') = some r := g1
        rw [hb] at g1'
        rw [if_neg (fun e => by subst e; simp at hb)]
        exact hk (.exit j) s' c' τ F' g1' g2 g3 g4 g5
    | ret => exact hk .ret s' c' τ F' g1 g2 g3 g4 g5
  | .loop a, p, hc => by
    simp only [codeOk, Bool.and_eq_true] at hc
    refine wrapJ_ok ht (fun ρ s k r X c σ F Q hX hx h hk => ?_) hc.1
    split at hx
    · rename_i L hL
      have hm : dstsOk L.m a = true := by
        have := hc.1
        simp only [hintOk, hL, Bool.and_eq_true] at this
        exact this.1.2
      exact loopC_ok ht (exec_ok ht hd hmx a (2 * p) hc.2) hm ρ s k r X c σ F Q hX hx h hk
    · split at hx
      · rename_i K hK
        have hm : dstsOk K.m a = true := by
          have := hc.1
          simp only [hintOk, hK, Bool.and_eq_true] at this
          exact this.2
        exact keepC_ok ht (exec_ok ht hd hmx a (2 * p) hc.2) hm ρ s k r X c σ F Q hX hx h hk
      · cases hx
  | .exit i, _, _ => fun ρ s k r X c σ F Q hX hx h hk => wp_exit (hk (.exit i) s c σ F hx (Cx.le_refl c) h (Stp.refl _ _) fun _ _ => rfl)
  | .ret, _, _ => fun ρ s k r X c σ F Q hX hx h hk => wp_ret (hk .ret s c σ F hx (Cx.le_refl c) h (Stp.refl _ _) fun _ _ => rfl)
  | .skip, _, _ => fun ρ s k r X c σ F Q hX hx h hk => wp_skip (hk .normal s c σ F hx (Cx.le_refl c) h (Stp.refl _ _) fun _ _ => rfl)
  | .rangeFunc _ _ _ _, _, _ => fun _ _ _ _ _ _ _ _ _ _ hx => by cases hx
  | .scope _, _, _ => fun _ _ _ _ _ _ _ _ _ _ hx => by cases hx
  | .label _, _, _ => fun _ _ _ _ _ _ _ _ _ _ hx => by cases hx
  | .goto _, _, _ => fun _ _ _ _ _ _ _ _ _ _ hx => by cases hx
  | .refuse _, _, _ => fun _ _ _ _ _ _ _ _ _ _ hx => by cases hx
end
end Go.Qx
