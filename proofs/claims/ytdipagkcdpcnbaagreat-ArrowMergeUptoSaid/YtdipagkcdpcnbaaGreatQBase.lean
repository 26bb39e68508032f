/- The symbolic executor: steps of the world, kinds, plain values, and what they stand for. Over any program. -/
import Derived.Test.YtdipagkcdpcnbaaGreatSxEq
namespace Go.Qx
open Go Go.RowKit Go.Sx

/-! ### steps -/
/-- Only blocks of G turn, and no settled cell does. -/
structure Stp (G : Nat → Prop) (σ τ : S) : Prop where
  wext : Wext σ τ
  os : τ.w.os = σ.w.os
  tape : τ.w.tape = σ.w.tape
  output : τ.w.output = σ.w.output
  block : ∀ b, b < σ.N → ¬ G b → τ.w.heap[b]? = σ.w.heap[b]? ∧ (τ.L b).1 = (σ.L b).1
abbrev NoB : Nat → Prop := fun _ => False
theorem Stp.refl (G : Nat → Prop) (σ : S) : Stp G σ σ := ⟨Wext.refl σ, rfl, rfl, rfl, fun _ _ _ => ⟨rfl, rfl⟩⟩
theorem Stp.trans {G : Nat → Prop} {σ τ υ : S} (h : Stp G σ τ) (k : Stp G τ υ) : Stp G σ υ :=
  ⟨h.wext.trans k.wext, k.os.trans h.os, k.tape.trans h.tape, k.output.trans h.output, fun b hb hg => by
    obtain ⟨a1, a2⟩ := h.block b hb hg
    obtain ⟨b1, b2⟩ := k.block b (Nat.lt_of_lt_of_le hb h.wext.size) hg
    exact ⟨b1.trans a1, b2.trans a2⟩⟩
theorem Stp.mono {G G' : Nat → Prop} {σ τ : S} (h : Stp G σ τ) (hg : ∀ b, b < σ.N → G b → G' b) : Stp G' σ τ :=
  ⟨h.wext, h.os, h.tape, h.output, fun b hb hn => h.block b hb fun hgb => hn (hg b hb hgb)⟩
theorem Stp.no {G : Nat → Prop} {σ τ : S} (h : Stp NoB σ τ) : Stp G σ τ := h.mono fun _ _ h => h.elim
theorem Stp.ext {σ τ : S} (h : Ext σ τ) : Stp NoB σ τ := ⟨h.wext, h.below.os, h.below.tape, h.below.output, fun b hb _ => ⟨h.below.block b hb, by rw [h.mark b hb]⟩⟩
/-- The same world, each block under its own tag. -/
def can (σ : S) : S := ⟨σ.w, fun b => ((σ.L b).1, b)⟩
theorem can_to (σ : S) : Wext σ (can σ) := ⟨Nat.le_refl _, fun _ _ => Nat.le_refl _, fun _ _ _ _ h => h, Nat.le_refl _⟩
theorem stp_mod {σ τ : S} {g : Nat} (h : Mod 0 g (can σ) τ) : Stp (fun b => b = g) σ τ :=
  ⟨(can_to σ).trans h.wext, h.os, h.tape, h.output, fun b hb hn => by
    obtain ⟨h1, h2⟩ := h.block b hb (.inr hn)
    exact ⟨h1, by rw [h2]; rfl⟩⟩

/-! ### kinds -/
inductive Kd where
  | int (k : IntKind)
  | bool
  | str
  | sl (E : TypeId)
  | dat (E : TypeId)
  | any
  deriving DecidableEq
inductive K where
  | d (k : Kd)
  | row (E : TypeId) (fl : Bool)
  deriving DecidableEq
inductive V where
  | k (k : K)
  | lvs (ks : List K)
  deriving DecidableEq
/-- Whole numbers of one kind. -/
def IK (_ : IntKind) : Type := Int
instance rpIK (k : IntKind) : Rp (IK k) where
  sz := 1
  pos := by decide
  agg := false
  cells := fun _ n cs => cs = [.int k n]
  len := fun h => by rw [h]; rfl
  one := fun h v hv => by rw [h] at hv; simp at hv; subst hv; rfl
  mono := fun _ h => h
section
variable (I : TypeId → Type)
abbrev Ty : Kd → Type
  | .int _ => Int
  | .bool => Bool
  | .str => ByteArray
  | .sl E => List (I E)
  | .dat E => I E
  | .any => Unit
abbrev TyK : K → Type
  | .d k => Ty I k
  | .row E _ => List (I E)
abbrev Tys : List Kd → Type
  | [] => Unit
  | k :: ks => Ty I k × Tys ks
abbrev TyKs : List K → Type
  | [] => Unit
  | [k] => TyK I k
  | k :: k' :: ks => TyK I k × TyKs (k' :: ks)
abbrev TyV : V → Type
  | .k k => TyK I k
  | .lvs ks => TyKs I ks
abbrev TyT : List V → Type
  | [] => Unit
  | [v] => TyV I v
  | v :: v' :: vs => TyV I v × TyT (v' :: vs)
abbrev Fun : List Kd → Type → Type
  | [], R => Option R
  | k :: ks, R => Ty I k → Fun ks R
end
variable {I : TypeId → Type}
def app {R : Type} : (ks : List Kd) → Fun I ks R → Tys I ks → Option R
  | [], g, _ => g
  | _ :: ks, g, q => app ks (g q.1) q.2
def cur {R : Type} : (ks : List Kd) → (Tys I ks → Option R) → Fun I ks R
  | [], g => g ()
  | _ :: ks, g => fun x => cur ks fun q => g (x, q)
theorem app_cur {R : Type} : ∀ (ks : List Kd) (g : Tys I ks → Option R) (q : Tys I ks), app ks (cur ks g) q = g q
  | [], _, _ => rfl
  | _ :: ks, g, q => app_cur ks (fun q' => g (q.1, q')) q.2

/-! ### plain values -/
inductive PV (I : TypeId → Type) : Type where
  | int (k : IntKind) (n : Int)
  | bool (b : Bool)
  | str (s : ByteArray)
  | sl (E : TypeId) (xs : List (I E)) (full : Bool)
  | nl (E : TypeId)
  | ptr (l o : Nat)
  | vw (l : Nat)
  | vp (l sz j o : Nat)
  | vs (l sz lo : Nat)
  | ep (E : TypeId) (x : I E) (o : Nat)
  | dat (E : TypeId) (x : I E)
  | clo (f : FuncId) (ls : List (PV I))
  | fn (ks : List Kd) (rs : List V) (g : Fun I ks (TyT I rs))
  | agg (ls : List (PV I))
  | tup (ls : List (PV I))
  | undef
  | any
/-- What a function holds alone: a variable, cell by cell (w: it may be stored); a row of a slice (fl: its cells are settled). -/
inductive Ob (I : TypeId → Type) : Type where
  | var (T : TypeId) (ls : List (PV I)) (w : Bool)
  | row (E : TypeId) (xs : List (I E)) (fl : Bool)
  | ro (E : TypeId) (xs : List (I E))
  | bo (E : TypeId) (xs : List (I E))
structure St (I : TypeId → Type) where
  n : Nat
  F : Nat → Option (PV I)
  O : Nat → Option (Option (Ob I))
  nx : Nat
def upF {α : Type} (F : Nat → Option α) (d : Nat) (p : α) : Nat → Option α := fun i => bif Nat.beq i d then some p else F i
theorem upF_self {α : Type} (F : Nat → Option α) (d : Nat) (p : α) : upF F d p d = some p := by simp [upF]
theorem upF_ne {α : Type} {F : Nat → Option α} {d i : Nat} {p : α} (h : i ≠ d) : upF F d p i = F i := by simp [upF, beq_false h]
theorem upF_some {α : Type} {F : Nat → Option α} {d i : Nat} {p q : α} (h : upF F d p i = some q) : (i = d ∧ q = p) ∨ (i ≠ d ∧ F i = some q) := by
  by_cases e : i = d
  · subst e; rw [upF_self] at h; cases h; exact .inl ⟨rfl, rfl⟩
  · rw [upF_ne e] at h; exact .inr ⟨e, h⟩
def put (s : St I) (d : Option Nat) (p : PV I) : St I := match d with
  | some d => ⟨s.n, upF s.F d p, s.O, s.nx⟩
  | none => s
def setO (s : St I) (l : Nat) (o : Option (Ob I)) : St I := ⟨s.n, s.F, upF s.O l o, s.nx⟩

/-! ### where things lie -/
structure Pl where
  A : Option Addr
  k : Nat
  m : Nat
  w : Option Nat
abbrev Cx := Nat → Option Pl
/-- A program, where the function's own blocks begin, what it was granted. -/
structure Cxt where
  P : Program
  N : Nat
  G : Nat → Prop
def Cxt.M (X : Cxt) : Nat → Prop := fun b => X.N ≤ b ∨ X.G b

/-! ### calls -/
def CallS (P : Program) (f : FuncId) (vs : List Value) (σ : S) (E : S → Prop) (R : Value → S → Prop) : Prop :=
  (HasBody P f ∧ Calls P f vs.toArray σ.w fun e w' => ∃ v τ, e = .returned v ∧ τ.w = w' ∧ E τ ∧ R v τ) ∨
  ∃ v τ, (callFunc f vs.toArray).run P σ.w = .ok (.value v) τ.w ∧ E τ ∧ R v τ
theorem CallS.mono {P : Program} {f : FuncId} {vs : List Value} {σ σ' : S} {E E' : S → Prop} {R R' : Value → S → Prop} (h : CallS P f vs σ E R) (hw : σ'.w = σ.w) (k : ∀ v τ, E τ → R v τ → ∃ τ', τ'.w = τ.w ∧ E' τ' ∧ R' v τ') : CallS P f vs σ' E' R' := by
  rcases h with ⟨h1, h2⟩ | ⟨v, τ, h1, h2, h3⟩
  · exact .inl ⟨h1, by
      rw [hw]
      exact h2.mono fun _ _ ⟨v, τ, e, hw, he, hr⟩ => by
        obtain ⟨τ', k1, k2, k3⟩ := k v τ he hr
        exact ⟨v, τ', e, k1.trans hw, k2, k3⟩⟩
  · obtain ⟨τ', k1, k2, k3⟩ := k v τ h2 h3
    exact .inr ⟨v, τ', by rw [hw, k1]; exact h1, k2, k3⟩

section
variable [∀ E, Rp (I E)]
/-! ### data -/
def DV (σ : S) : (k : Kd) → Ty I k → Value → Prop
  | .int k, n, v => v = .int k n
  | .bool, b, v => v = .bool b
  | .str, s, v => v = .string s
  | .sl E, xs, v => ∃ A c, v = .slice A (xs : List (I E)).length c ∧ Sl σ (xs : List (I E)) A c
  | .dat E, x, v => ∃ cs, v = .agg cs.toArray ∧ Rp.cells σ (x : I E) cs
  | .any, _, _ => True
def DVs (σ : S) : (ks : List Kd) → Tys I ks → List Value → Prop
  | [], _, vs => vs = []
  | k :: ks, q, vs => ∃ v r, vs = v :: r ∧ DV σ k q.1 v ∧ DVs σ ks q.2 r
theorem DV.mono {σ τ : S} (k : Wext σ τ) : ∀ {kd : Kd} {x : Ty I kd} {v : Value}, DV σ kd x v → DV τ kd x v
  | .int _, _, _, h => h
  | .bool, _, _, h => h
  | .str, _, _, h => h
  | .sl _, _, _, ⟨A, c, e, h⟩ => ⟨A, c, e, h.mono k⟩
  | .dat _, _, _, ⟨cs, e, h⟩ => ⟨cs, e, Rp.mono k h⟩
  | .any, _, _, _ => trivial
theorem DVs.mono {σ τ : S} (k : Wext σ τ) : ∀ {ks : List Kd} {x : Tys I ks} {vs : List Value}, DVs σ ks x vs → DVs τ ks x vs
  | [], _, _, h => h
  | _ :: _, _, _, ⟨v, r, e, h1, h2⟩ => ⟨v, r, e, h1.mono k, DVs.mono k h2⟩
/-- A row that is held alone. -/
def OwnR {α : Type} [Rp α] (ow : Option Nat) (fl : Bool) (E : TypeId) (σ : S) (xs : List α) (A : Option Addr) (k : Nat) : Prop :=
  match ow with
  | none => (xs = [] ∧ k = 0) ∨ (fl = true ∧ k = xs.length ∧ Sl σ xs A k)
  | some g => ∃ cur cs, A = some ⟨g, 0, none⟩ ∧ σ.w.heap[g]? = some (.cells cur E (0, 0)) ∧ xs.length ≤ k ∧ k ≤ maxLen ∧ cur.size = k * Rp.sz α ∧ Flat σ xs cs ∧
      cur.toList.take (xs.length * Rp.sz α) = cs ∧ (σ.L g).1 = bif fl then xs.length * Rp.sz α else 0
theorem OwnR.step {α : Type} [Rp α] {ow : Option Nat} {fl : Bool} {E : TypeId} {σ τ : S} {xs : List α} {A : Option Addr} {k : Nat} {G : Nat → Prop} (h : OwnR ow fl E σ xs A k) (st : Stp G σ τ) (hn : ∀ g, ow = some g → ¬ G g) : OwnR ow fl E τ xs A k := by
  cases ow with
  | none =>
    rcases h with h | ⟨h1, h2, h3⟩
    · exact .inl h
    · exact .inr ⟨h1, h2, h3.mono st.wext⟩
  | some g =>
    obtain ⟨cur, cs, e, hh, h1, h2, h3, h4, h5, h6⟩ := h
    obtain ⟨k1, k2⟩ := st.block g (heap_lt hh) (hn g rfl)
    exact ⟨cur, cs, e, k1.trans hh, h1, h2, h3, h4.mono st.wext, h5, k2.trans h6⟩
theorem OwnR.sl {α : Type} [Rp α] {ow : Option Nat} {E : TypeId} {σ : S} {xs : List α} {A : Option Addr} {k : Nat} (h : OwnR ow true E σ xs A k) : Sl σ xs A k := by
  cases ow with
  | none =>
    rcases h with ⟨rfl, rfl⟩ | ⟨_, _, h⟩
    · exact Sl.nil_ _ _ _ (Nat.zero_le _)
    · exact h
  | some g =>
    obtain ⟨cur, cs, rfl, hh, h1, h2, h3, h4, h5, h6⟩ := h
    exact Own.sl (B := 0) (id := (σ.L g).2) (T := E) (.inr ⟨g, cur, cs, rfl, Nat.zero_le _, hh, h1, h2, h3, h4, h5, by rw [← show (σ.L g).1 = xs.length * Rp.sz α from h6]⟩)
theorem OwnR.le {α : Type} [Rp α] {ow : Option Nat} {fl : Bool} {E : TypeId} {σ : S} {xs : List α} {A : Option Addr} {k : Nat} (h : OwnR ow fl E σ xs A k) : xs.length ≤ k ∧ k ≤ maxLen := by
  cases ow with
  | none =>
    rcases h with ⟨rfl, rfl⟩ | ⟨_, rfl, h⟩
    · exact ⟨Nat.le_refl _, Nat.zero_le _⟩
    · exact ⟨Nat.le_refl _, h.2.1⟩
  | some g => obtain ⟨cur, cs, rfl, hh, h1, h2, _⟩ := h; exact ⟨h1, h2⟩
/-- A row that is lent: it may be read; it stands as long as only blocks of M turn. -/
def Bor {α : Type} [Rp α] (M : Nat → Prop) (σ : S) (xs : List α) (A : Option Addr) : Prop :=
  ∃ cs, Flat σ xs cs ∧ (xs ≠ [] → ∃ b o, A = some ⟨b, o, none⟩ ∧ σ.w.rangeAt b o cs ∧ (Sealed σ b o cs ∨ ¬ M b))
theorem Bor.step {α : Type} [Rp α] {M : Nat → Prop} {σ τ : S} {xs : List α} {A : Option Addr} (h : Bor M σ xs A) (st : Stp M σ τ) : Bor M τ xs A := by
  obtain ⟨cs, h1, h2⟩ := h
  refine ⟨cs, h1.mono st.wext, fun hn => ?_⟩
  obtain ⟨b, o, e, h3, h4⟩ := h2 hn
  rcases h4 with h4 | h4
  · have h5 := h4.mono (h1.ne_nil hn) st.wext
    exact ⟨b, o, e, h5.2, .inl h5⟩
  · refine ⟨b, o, e, fun i v hv => ?_, .inr h4⟩
    have h5 := h3 i v hv
    have h6 := (st.block b (cell_lt h5) h4).1
    unfold World.cell? at h5 ⊢
    rw [h6]
    exact h5
theorem Bor.of_sl {α : Type} [Rp α] {M : Nat → Prop} {σ : S} {xs : List α} {A : Option Addr} {k : Nat} (h : Sl σ xs A k) : Bor M σ xs A := by
  obtain ⟨_, _, cs, h1, h2⟩ := h
  refine ⟨cs, h1, fun hn => ?_⟩
  obtain ⟨b, o, e, h3⟩ := h2 hn
  exact ⟨b, o, e, h3.2, .inl h3⟩
theorem Bor.sub {α : Type} [Rp α] {M M' : Nat → Prop} {σ : S} {xs : List α} {A : Option Addr} (h : Bor M σ xs A) (hm : ∀ b, b < σ.N → M' b → M b) : Bor M' σ xs A := by
  obtain ⟨cs, h1, h2⟩ := h
  refine ⟨cs, h1, fun hn => ?_⟩
  obtain ⟨b, o, e, h3, h4⟩ := h2 hn
  refine ⟨b, o, e, h3, h4.imp id fun h5 h6 => h5 (hm b ?_ h6)⟩
  cases cs with
  | nil => exact absurd rfl (h1.ne_nil hn)
  | cons v r => exact cell_lt (h3 0 v rfl)
theorem Bor.of_own {α : Type} [Rp α] {M : Nat → Prop} {σ : S} {ow : Option Nat} {fl : Bool} {E : TypeId} {xs : List α} {A : Option Addr} {k : Nat} (h : OwnR ow fl E σ xs A k) (hm : ∀ g, ow = some g → ¬ M g) : Bor M σ xs A := by
  cases ow with
  | none =>
    rcases h with ⟨rfl, _⟩ | ⟨_, _, h⟩
    · exact ⟨[], rfl, fun hn => absurd rfl hn⟩
    · exact Bor.of_sl h
  | some g =>
    obtain ⟨cur, cs, e, hh, h1, h2, h3, h4, h5, h6⟩ := h
    refine ⟨cs, h4, fun _ => ⟨g, 0, e, fun i v hv => ?_, .inr (hm g rfl)⟩⟩
    have hil := (List.getElem?_eq_some_iff.1 hv).1
    rw [h4.len] at hil
    rw [← h5, List.getElem?_take_of_lt hil, Array.getElem?_toList] at hv
    simp [World.cell?, hh, hv]
/-- One element of a lent row. -/
theorem Bor.at_ {α : Type} [Rp α] {M : Nat → Prop} {σ : S} {xs : List α} {A : Option Addr} (h : Bor M σ xs A) {j : Nat} {x : α} (hx : xs[j]? = some x) :
    ∃ b o cj, A = some ⟨b, o, none⟩ ∧ Rp.cells σ x cj ∧ σ.w.rangeAt b (o + j * Rp.sz α) cj := by
  obtain ⟨cs, h1, h2⟩ := h
  have hj : j < xs.length := (List.getElem?_eq_some_iff.1 hx).1
  obtain ⟨b, o, e, h3, _⟩ := h2 (by intro e; subst e; simp at hj)
  have hsplit : xs = xs.take j ++ (x :: xs.drop (j + 1)) := by
    have := List.take_append_drop j xs
    rw [List.drop_eq_getElem_cons hj] at this
    rw [← (List.getElem?_eq_some_iff.1 hx).2]
    exact this.symm
  rw [hsplit] at h1
  obtain ⟨c1, d, rfl, f1, f2⟩ := h1.split
  obtain ⟨cx, r, rfl, hc, f3⟩ := f2
  have hl : c1.length = j * Rp.sz α := by rw [f1.len, List.length_take]; congr 1; omega
  refine ⟨b, o, cx, e, hc, fun i v hv => ?_⟩
  have hil := (List.getElem?_eq_some_iff.1 hv).1
  have := h3 (j * Rp.sz α + i) v (by rw [List.getElem?_append_right (by omega), hl, Nat.add_sub_cancel_left, List.getElem?_append_left hil]; exact hv)
  rw [← Nat.add_assoc] at this
  exact this
/-- A value, told by its kind; its rows lie at 'pls'. -/
def TK (σ : S) : (k : K) → TyK I k → Value → List Pl → Prop
  | .d k, x, v, pls => DV σ k x v ∧ pls = []
  | .row E fl, xs, v, pls => ∃ A k ow, v = .slice A (xs : List (I E)).length k ∧ pls = [⟨A, k, (xs : List (I E)).length, ow⟩] ∧ OwnR ow fl E σ (xs : List (I E)) A k
def TKs (σ : S) : (ks : List K) → TyKs I ks → List Value → List Pl → Prop
  | [], _, vs, pls => vs = [] ∧ pls = []
  | [k], x, vs, pls => ∃ v, vs = [v] ∧ TK σ k x v pls
  | k :: k' :: ks, q, vs, pls => ∃ v r p1 p2, vs = v :: r ∧ pls = p1 ++ p2 ∧ TK σ k q.1 v p1 ∧ TKs σ (k' :: ks) q.2 r p2
def noDat : List K → Bool
  | [] => true
  | .d (.dat _) :: _ => false
  | _ :: r => noDat r
def TV (σ : S) : (v : V) → TyV I v → Value → List Pl → Prop
  | .k k, x, v, pls => TK σ k x v pls
  | .lvs ks, q, v, pls => noDat ks = true ∧ ∃ cs, v = .agg cs.toArray ∧ TKs σ ks q cs pls
def TT (σ : S) : (vs : List V) → TyT I vs → List Value → List Pl → Prop
  | [], _, vs, pls => vs = [] ∧ pls = []
  | [k], x, vs, pls => ∃ v, vs = [v] ∧ TV σ k x v pls
  | k :: k' :: ks, q, vs, pls => ∃ v r p1 p2, vs = v :: r ∧ pls = p1 ++ p2 ∧ TV σ k q.1 v p1 ∧ TT σ (k' :: ks) q.2 r p2
def ows (pls : List Pl) : List Nat := pls.filterMap (·.w)
theorem mem_ows {pls : List Pl} {g : Nat} : g ∈ ows pls ↔ ∃ p ∈ pls, p.w = some g := by simp [ows]
theorem ows_app (a b : List Pl) : ows (a ++ b) = ows a ++ ows b := by simp [ows]
variable {σ τ : S} {G : Nat → Prop}
theorem TK.step (st : Stp G σ τ) : ∀ {k : K} {x : TyK I k} {v : Value} {pls : List Pl}, TK σ k x v pls → (∀ g ∈ ows pls, ¬ G g) → TK τ k x v pls
  | .d _, _, _, _, h, _ => ⟨h.1.mono st.wext, h.2⟩
  | .row _ _, _, _, _, ⟨A, k, ow, e, e2, h⟩, hn => ⟨A, k, ow, e, e2, h.step st fun g hg => hn g (by rw [e2, hg]; simp [ows])⟩
theorem TKs.step (st : Stp G σ τ) : ∀ {ks : List K} {x : TyKs I ks} {vs : List Value} {pls : List Pl}, TKs σ ks x vs pls → (∀ g ∈ ows pls, ¬ G g) → TKs τ ks x vs pls
  | [], _, _, _, h, _ => h
  | [_], _, _, _, ⟨v, e, h⟩, hn => ⟨v, e, h.step st hn⟩
  | _ :: k' :: ks, _, _, _, ⟨v, r, p1, p2, e1, e2, h1, h2⟩, hn => ⟨v, r, p1, p2, e1, e2, h1.step st fun g hg => hn g (by rw [e2, ows_app]; simp [hg]), TKs.step (ks := k' :: ks) st h2 fun g hg => hn g (by rw [e2, ows_app]; simp [hg])⟩
theorem TV.step (st : Stp G σ τ) : ∀ {k : V} {x : TyV I k} {v : Value} {pls : List Pl}, TV σ k x v pls → (∀ g ∈ ows pls, ¬ G g) → TV τ k x v pls
  | .k _, _, _, _, h, hn => TK.step st h hn
  | .lvs _, _, _, _, ⟨h0, cs, e, h⟩, hn => ⟨h0, cs, e, h.step st hn⟩
theorem TT.step (st : Stp G σ τ) : ∀ {ks : List V} {x : TyT I ks} {vs : List Value} {pls : List Pl}, TT σ ks x vs pls → (∀ g ∈ ows pls, ¬ G g) → TT τ ks x vs pls
  | [], _, _, _, h, _ => h
  | [_], _, _, _, ⟨v, e, h⟩, hn => ⟨v, e, h.step st hn⟩
  | _ :: k' :: ks, _, _, _, ⟨v, r, p1, p2, e1, e2, h1, h2⟩, hn => ⟨v, r, p1, p2, e1, e2, h1.step st fun g hg => hn g (by rw [e2, ows_app]; simp [hg]), TT.step (ks := k' :: ks) st h2 fun g hg => hn g (by rw [e2, ows_app]; simp [hg])⟩
/-- The value of a call with these results. -/
def retV : List Value → Value
  | [v] => v
  | vs => .tuple vs.toArray
/-- A function value that computes g, as long as only blocks of M turn. -/
def FnOk (P : Program) (M : Nat → Prop) (σ : S) (f : FuncId) (as cs : List Value) (ks : List Kd) (rs : List V) (g : Fun I ks (TyT I rs)) : Prop :=
  HasBody P f ∧ as = [] ∧ ∀ τ, Stp M σ τ → ∀ (q : Tys I ks) (vs : List Value) (r : TyT I rs), DVs τ ks q vs → app ks g q = some r →
    CallS P f (as ++ vs ++ cs) τ (Stp NoB τ) fun v υ => ∃ ws, v = retV ws ∧ TT υ rs r ws []
def isDat : PV I → Bool
  | .dat _ _ => true
  | _ => false
/-- The cells of data that is known whole. -/
def datC (σ : S) : PV I → List Value → Prop
  | .dat _ x, a => Rp.cells σ x a
  | _, _ => False
theorem datC.mono {σ τ : S} (k : Wext σ τ) : ∀ {p : PV I} {a : List Value}, datC σ p a → datC τ p a := by
  intro p a h
  cases p <;> first | exact Rp.mono k h | exact h.elim
mutual
def RV (X : Cxt) (c : Cx) (σ : S) : PV I → Value → Prop
  | .int k n, v => v = .int k n
  | .bool b, v => v = .bool b
  | .str s, v => v = .string s
  | .sl _ xs full, v => ∃ A k, v = .slice A xs.length k ∧ Sl σ xs A k ∧ (full = true → k = xs.length)
  | .nl _, v => ∃ A, v = .slice A 0 0
  | .ptr l o, v => ∃ b w, c l = some ⟨some ⟨b, 0, none⟩, 0, 0, w⟩ ∧ v = .pointer (some ⟨b, o, none⟩)
  | .vw l, v => ∃ p, c l = some p ∧ v = .slice p.A p.m p.k
  | .vp l sz j o, v => ∃ b p k m w, c l = some ⟨some ⟨b, p, none⟩, k, m, w⟩ ∧ v = .pointer (some ⟨b, p + (j * sz + o), none⟩)
  | .vs l sz lo, v => ∃ b k m w, c l = some ⟨some ⟨b, 0, none⟩, k, m, w⟩ ∧ v = .slice (some ⟨b, lo * sz, none⟩) (m - lo) (k - lo)
  | .ep _ x o, v => ∃ b p cs, v = .pointer (some ⟨b, p + o, none⟩) ∧ Rp.cells σ x cs ∧ Sealed σ b p cs
  | .dat _ x, v => ∃ cs, v = .agg cs.toArray ∧ Rp.cells σ x cs
  | .clo f ls, v => ∃ cs, v = .func (.func f) (List.toArray []) cs.toArray ∧ RVs X c σ ls cs
  | .fn ks rs g, v => ∃ f as cs, v = .func (.func f) (List.toArray as) (List.toArray cs) ∧ FnOk X.P X.M σ f as cs ks rs g
  | .agg ls, v => ∃ cs, v = .agg cs.toArray ∧ RG X c σ ls cs
  | .tup ls, v => ∃ cs, v = .tuple cs.toArray ∧ RVs X c σ ls cs
  | .undef, v => v = Go.undef
  | .any, _ => True
def RVs (X : Cxt) (c : Cx) (σ : S) : List (PV I) → List Value → Prop
  | [], cs => cs = []
  | p :: ps, cs => ∃ v r, cs = v :: r ∧ RV X c σ p v ∧ RVs X c σ ps r
/-- Pieces of a row of cells: one cell each, or data known whole. -/
def RG (X : Cxt) (c : Cx) (σ : S) : List (PV I) → List Value → Prop
  | [], cs => cs = []
  | p :: ps, cs => ∃ a r, cs = a ++ r ∧ (datC σ p a ∨ (isDat p = false ∧ ∃ v, a = [v] ∧ RV X c σ p v)) ∧ RG X c σ ps r
end
variable {X X' : Cxt} {c c' : Cx}
mutual
theorem RV.step (k : Stp X.M σ τ) : ∀ (p : PV I) (v : Value), RV X c σ p v → RV X c τ p v
  | .int _ _, _, h => by simp only [RV] at h ⊢; exact h
  | .bool _, _, h => by simp only [RV] at h ⊢; exact h
  | .str _, _, h => by simp only [RV] at h ⊢; exact h
  | .sl _ _ _, _, h => by
    simp only [RV] at h ⊢
    obtain ⟨A, q, e, hs, ho⟩ := h
    exact ⟨A, q, e, hs.mono k.wext, ho⟩
  | .nl _, _, h => by simp only [RV] at h ⊢; exact h
  | .ptr _ _, _, h => by simp only [RV] at h ⊢; exact h
  | .vw _, _, h => by simp only [RV] at h ⊢; exact h
  | .vp _ _ _ _, _, h => by simp only [RV] at h ⊢; exact h
  | .vs _ _ _, _, h => by simp only [RV] at h ⊢; exact h
  | .ep E x _, _, h => by
    simp only [RV] at h ⊢
    obtain ⟨b, p, cs, e, hl, hs⟩ := h
    refine ⟨b, p, cs, e, Rp.mono k.wext hl, hs.mono (fun e => ?_) k.wext⟩
    have h1 := Rp.len hl
    have h2 := Rp.pos (α := I E)
    rw [e] at h1
    simp at h1
    omega
  | .dat _ x, _, h => by
    simp only [RV] at h ⊢
    obtain ⟨cs, e, hl⟩ := h
    exact ⟨cs, e, Rp.mono k.wext hl⟩
  | .clo _ ls, _, h => by
    simp only [RV] at h ⊢
    obtain ⟨cs, e, hl⟩ := h
    exact ⟨cs, e, RVs.step k ls cs hl⟩
  | .fn _ _ _, _, h => by
    simp only [RV] at h ⊢
    obtain ⟨f, as, cs, e, hf⟩ := h
    exact ⟨f, as, cs, e, hf.1, hf.2.1, fun υ hυ => hf.2.2 υ (k.trans hυ)⟩
  | .agg ls, _, h => by
    simp only [RV] at h ⊢
    obtain ⟨cs, e, hl⟩ := h
    exact ⟨cs, e, RG.step k ls cs hl⟩
  | .tup ls, _, h => by
    simp only [RV] at h ⊢
    obtain ⟨cs, e, hl⟩ := h
    exact ⟨cs, e, RVs.step k ls cs hl⟩
  | .undef, _, h => by simp only [RV] at h ⊢; exact h
  | .any, _, _ => by simp only [RV]
theorem RVs.step (k : Stp X.M σ τ) : ∀ (ps : List (PV I)) (cs : List Value), RVs X c σ ps cs → RVs X c τ ps cs
  | [], _, h => by simp only [RVs] at h ⊢; exact h
  | p :: ps, _, h => by
    simp only [RVs] at h ⊢
    obtain ⟨v, r, e, h1, h2⟩ := h
    exact ⟨v, r, e, RV.step k p v h1, RVs.step k ps r h2⟩
theorem RG.step (k : Stp X.M σ τ) : ∀ (ps : List (PV I)) (cs : List Value), RG X c σ ps cs → RG X c τ ps cs
  | [], _, h => by simp only [RG] at h ⊢; exact h
  | p :: ps, _, h => by
    simp only [RG] at h ⊢
    obtain ⟨a, r, e, h1, h2⟩ := h
    refine ⟨a, r, e, ?_, RG.step k ps r h2⟩
    rcases h1 with h1 | ⟨h0, v, e1, h1⟩
    · exact .inl (h1.mono k.wext)
    · exact .inr ⟨h0, v, e1, RV.step k p v h1⟩
end
def Cx.le (c c' : Cx) : Prop := ∀ l p, c l = some p → c' l = some p
theorem Cx.le_refl (c : Cx) : Cx.le c c := fun _ _ h => h
theorem Cx.le_trans {a b d : Cx} (h : Cx.le a b) (k : Cx.le b d) : Cx.le a d := fun l x hx => k l x (h l x hx)
mutual
theorem RV.grow (hc : Cx.le c c') : ∀ (p : PV I) (v : Value), RV X c σ p v → RV X c' σ p v
  | .int _ _, _, h => by simp only [RV] at h ⊢; exact h
  | .bool _, _, h => by simp only [RV] at h ⊢; exact h
  | .str _, _, h => by simp only [RV] at h ⊢; exact h
  | .sl _ _ _, _, h => by simp only [RV] at h ⊢; exact h
  | .nl _, _, h => by simp only [RV] at h ⊢; exact h
  | .ptr l _, _, h => by
    simp only [RV] at h ⊢
    obtain ⟨b, w, h1, h2⟩ := h
    exact ⟨b, w, hc l _ h1, h2⟩
  | .vw l, _, h => by
    simp only [RV] at h ⊢
    obtain ⟨b, h1, h2⟩ := h
    exact ⟨b, hc l b h1, h2⟩
  | .vp l _ _ _, _, h => by
    simp only [RV] at h ⊢
    obtain ⟨b, p, k, m, w, h1, h2⟩ := h
    exact ⟨b, p, k, m, w, hc l _ h1, h2⟩
  | .vs l _ _, _, h => by
    simp only [RV] at h ⊢
    obtain ⟨b, k, m, w, h1, h2⟩ := h
    exact ⟨b, k, m, w, hc l _ h1, h2⟩
  | .ep _ _ _, _, h => by simp only [RV] at h ⊢; exact h
  | .dat _ _, _, h => by simp only [RV] at h ⊢; exact h
  | .clo _ ls, _, h => by
    simp only [RV] at h ⊢
    obtain ⟨cs, e, hl⟩ := h
    exact ⟨cs, e, RVs.grow hc ls cs hl⟩
  | .fn _ _ _, _, h => by simp only [RV] at h ⊢; exact h
  | .agg ls, _, h => by
    simp only [RV] at h ⊢
    obtain ⟨cs, e, hl⟩ := h
    exact ⟨cs, e, RG.grow hc ls cs hl⟩
  | .tup ls, _, h => by
    simp only [RV] at h ⊢
    obtain ⟨cs, e, hl⟩ := h
    exact ⟨cs, e, RVs.grow hc ls cs hl⟩
  | .undef, _, h => by simp only [RV] at h ⊢; exact h
  | .any, _, _ => by simp only [RV]
theorem RVs.grow (hc : Cx.le c c') : ∀ (ps : List (PV I)) (cs : List Value), RVs X c σ ps cs → RVs X c' σ ps cs
  | [], _, h => by simp only [RVs] at h ⊢; exact h
  | p :: ps, _, h => by
    simp only [RVs] at h ⊢
    obtain ⟨v, r, e, h1, h2⟩ := h
    exact ⟨v, r, e, RV.grow hc p v h1, RVs.grow hc ps r h2⟩
theorem RG.grow (hc : Cx.le c c') : ∀ (ps : List (PV I)) (cs : List Value), RG X c σ ps cs → RG X c' σ ps cs
  | [], _, h => by simp only [RG] at h ⊢; exact h
  | p :: ps, _, h => by
    simp only [RG] at h ⊢
    obtain ⟨a, r, e, h1, h2⟩ := h
    refine ⟨a, r, e, ?_, RG.grow hc ps r h2⟩
    rcases h1 with h1 | ⟨h0, v, e1, h1⟩
    · exact .inl h1
    · exact .inr ⟨h0, v, e1, RV.grow hc p v h1⟩
end
theorem RVs.len : ∀ (ps : List (PV I)) (cs : List Value), RVs X c σ ps cs → cs.length = ps.length
  | [], _, h => by simp only [RVs] at h; subst h; rfl
  | p :: ps, _, h => by
    simp only [RVs] at h
    obtain ⟨v, r, rfl, _, h2⟩ := h
    simp [RVs.len ps r h2]
theorem RVs.at_ : ∀ (ps : List (PV I)) (cs : List Value), RVs X c σ ps cs → ∀ (i : Nat) (p : PV I), ps[i]? = some p → ∃ v, cs[i]? = some v ∧ RV X c σ p v
  | [], _, _, _, _, hp => by simp at hp
  | q :: ps, _, h, i, p, hp => by
    simp only [RVs] at h
    obtain ⟨v, r, rfl, h1, h2⟩ := h
    cases i with
    | zero => simp at hp; subst hp; exact ⟨v, rfl, h1⟩
    | succ i => simpa using RVs.at_ ps r h2 i p (by simpa using hp)
theorem RVs.drop : ∀ (k : Nat) (ps : List (PV I)) (cs : List Value), RVs X c σ ps cs → RVs X c σ (ps.drop k) (cs.drop k)
  | 0, _, _, h => h
  | k + 1, [], _, h => by simp only [RVs] at h; subst h; simp [RVs]
  | k + 1, _ :: ps, _, h => by
    simp only [RVs] at h
    obtain ⟨v, r, rfl, _, h2⟩ := h
    simpa using RVs.drop k ps r h2
theorem RVs.take : ∀ (k : Nat) (ps : List (PV I)) (cs : List Value), RVs X c σ ps cs → RVs X c σ (ps.take k) (cs.take k)
  | 0, _, _, _ => by simp [RVs]
  | k + 1, [], _, h => by simp only [RVs] at h; subst h; simp [RVs]
  | k + 1, p :: ps, _, h => by
    simp only [RVs] at h
    obtain ⟨v, r, rfl, h1, h2⟩ := h
    simp only [List.take_succ_cons, RVs]
    exact ⟨v, _, rfl, h1, RVs.take k ps r h2⟩
theorem RVs.app : ∀ (ps qs : List (PV I)) (cs ds : List Value), RVs X c σ ps cs → RVs X c σ qs ds → RVs X c σ (ps ++ qs) (cs ++ ds)
  | [], _, _, _, h, k => by simp only [RVs] at h; subst h; exact k
  | p :: ps, qs, _, ds, h, k => by
    simp only [RVs] at h
    obtain ⟨v, r, rfl, h1, h2⟩ := h
    simp only [List.cons_append, RVs]
    exact ⟨v, _, rfl, h1, RVs.app ps qs r ds h2 k⟩
theorem RVs.split : ∀ (ps qs : List (PV I)) (cs : List Value), RVs X c σ (ps ++ qs) cs → ∃ c1 c2, cs = c1 ++ c2 ∧ RVs X c σ ps c1 ∧ RVs X c σ qs c2
  | [], qs, cs, h => ⟨[], cs, rfl, by simp only [RVs], h⟩
  | p :: ps, qs, cs, h => by
    simp only [List.cons_append, RVs] at h
    obtain ⟨v, r, rfl, h1, h2⟩ := h
    obtain ⟨c1, c2, rfl, h3, h4⟩ := RVs.split ps qs r h2
    exact ⟨v :: c1, c2, rfl, by simp only [RVs]; exact ⟨v, c1, rfl, h1, h3⟩, h4⟩

theorem RG.app : ∀ (ps qs : List (PV I)) (cs ds : List Value), RG X c σ ps cs → RG X c σ qs ds → RG X c σ (ps ++ qs) (cs ++ ds)
  | [], _, _, _, h, k => by simp only [RG] at h; subst h; exact k
  | p :: ps, qs, _, ds, h, k => by
    simp only [RG] at h
    obtain ⟨a, r, rfl, h1, h2⟩ := h
    simp only [List.cons_append, RG]
    exact ⟨a, _, by simp, h1, RG.app ps qs r ds h2 k⟩
def sgz : PV I → Nat
  | .dat E _ => Rp.sz (I E)
  | _ => 1
def sizeG : List (PV I) → Nat
  | [] => 0
  | p :: r => sgz p + sizeG r
theorem piece_len {p : PV I} {a : List Value} (h : datC σ p a ∨ (isDat p = false ∧ ∃ v, a = [v] ∧ RV X c σ p v)) : a.length = sgz p := by
  rcases h with h | ⟨h0, v, rfl, _⟩
  · cases p <;> first | exact Rp.len h | exact h.elim
  · cases p <;> first | rfl | cases h0
theorem RG.len : ∀ (ps : List (PV I)) (cs : List Value), RG X c σ ps cs → cs.length = sizeG ps
  | [], _, h => by simp only [RG] at h; subst h; rfl
  | p :: ps, _, h => by
    simp only [RG] at h
    obtain ⟨a, r, rfl, h1, h2⟩ := h
    simp only [List.length_append, piece_len h1, RG.len ps r h2, sizeG]
theorem RG.one {E : TypeId} {x : I E} {cs : List Value} (h : Rp.cells σ x cs) : RG X c σ [.dat E x] cs := by
  simp only [RG]
  exact ⟨cs, [], by simp, .inl h, rfl⟩
theorem RG.single {p : PV I} {v : Value} (hp : isDat p = false) (h : RV X c σ p v) : RG X c σ [p] [v] := by
  simp only [RG]
  exact ⟨[v], [], rfl, .inr ⟨hp, v, rfl, h⟩, rfl⟩

theorem RVs.g : ∀ {ps : List (PV I)} {cs : List Value}, RVs X c σ ps cs → ps.all (fun p => !(isDat p)) = true → RG X c σ ps cs
  | [], _, h, _ => by simpa only [RVs, RG] using h
  | p :: ps, _, h, hd => by
    simp only [RVs] at h
    obtain ⟨v, r, rfl, h1, h2⟩ := h
    simp only [List.all_cons, Bool.and_eq_true, Bool.not_eq_true'] at hd
    simp only [RG]
    exact ⟨[v], r, rfl, .inr ⟨hd.1, v, rfl, h1⟩, RVs.g h2 hd.2⟩
/-! ### objects, states -/
def ObjOk (X : Cxt) (c : Cx) (σ : S) (l : Nat) : Ob I → Prop
  | .var T ls w => ∃ b cs, c l = some ⟨some ⟨b, 0, none⟩, 0, 0, bif w then some b else none⟩ ∧ RG X c σ ls cs ∧ σ.w.heap[b]? = some (.cells cs.toArray T (0, 0)) ∧ (w = true → (σ.L b).1 = 0) ∧ (w = false → ¬ X.M b)
  | .row E xs fl => ∃ A k ow, c l = some ⟨A, k, xs.length, ow⟩ ∧ OwnR ow fl E σ xs A k
  | .ro _ xs => ∃ A k, c l = some ⟨A, k, xs.length, none⟩ ∧ Sl σ xs A k
  | .bo _ xs => ∃ A k, c l = some ⟨A, k, xs.length, none⟩ ∧ Bor X.M σ xs A
theorem ObjOk.step {l : Nat} {o : Ob I} (h : ObjOk X c σ l o) (st : Stp X.M σ τ) (hk : ∀ p g, c l = some p → p.w = some g → τ.w.heap[g]? = σ.w.heap[g]? ∧ (τ.L g).1 = (σ.L g).1) : ObjOk X c τ l o := by
  cases o with
  | var T ls w =>
    obtain ⟨b, cs, h1, h2, h3, h4, h5⟩ := h
    cases w with
    | true =>
      obtain ⟨k1, k2⟩ := hk _ b h1 rfl
      exact ⟨b, cs, h1, RG.step st _ _ h2, k1.trans h3, (fun _ => k2.trans (h4 rfl)), fun e => by cases e⟩
    | false =>
      obtain ⟨k1, _⟩ := st.block b (heap_lt h3) (h5 rfl)
      exact ⟨b, cs, h1, RG.step st _ _ h2, k1.trans h3, (fun e => by cases e), h5⟩
  | row E xs fl =>
    obtain ⟨A, k, ow, h1, h2⟩ := h
    refine ⟨A, k, ow, h1, ?_⟩
    cases ow with
    | none => exact h2.step st fun g hg => by cases hg
    | some g =>
      obtain ⟨k1, k2⟩ := hk _ g h1 rfl
      obtain ⟨cur, cs, e, hh, h1, h2, h3, h4, h5, h6⟩ := h2
      exact ⟨cur, cs, e, k1.trans hh, h1, h2, h3, h4.mono st.wext, h5, k2.trans h6⟩
  | ro E xs =>
    obtain ⟨A, k, h1, h2⟩ := h
    exact ⟨A, k, h1, h2.mono st.wext⟩
  | bo E xs =>
    obtain ⟨A, k, h1, h2⟩ := h
    exact ⟨A, k, h1, h2.step st⟩
theorem ObjOk.grow {l : Nat} {o : Ob I} (h : ObjOk X c σ l o) (hc : Cx.le c c') : ObjOk X c' σ l o := by
  cases o with
  | var T ls w =>
    obtain ⟨b, cs, h1, h2, h3⟩ := h
    exact ⟨b, cs, hc _ _ h1, RG.grow hc _ _ h2, h3⟩
  | row E xs fl =>
    obtain ⟨A, k, ow, h1, h2⟩ := h
    exact ⟨A, k, ow, hc _ _ h1, h2⟩
  | ro E xs =>
    obtain ⟨A, k, h1, h2⟩ := h
    exact ⟨A, k, hc _ _ h1, h2⟩
  | bo E xs =>
    obtain ⟨A, k, h1, h2⟩ := h
    exact ⟨A, k, hc _ _ h1, h2⟩
def live (s : St I) (l : Nat) : Prop := ∃ o, s.O l = some (some o)
structure Rel (X : Cxt) (c : Cx) (σ : S) (s : St I) (n : Nat) (F : Fr) : Prop where
  len : s.n = n
  frame : ∀ (i : Nat) (p : PV I), s.F i = some p → RV X c σ p (F i)
  objs : ∀ (l : Nat) (o : Ob I), s.O l = some (some o) → ObjOk X c σ l o
  inj : ∀ l l' p p' b, live s l → live s l' → c l = some p → c l' = some p' → p.w = some b → p'.w = some b → l = l'
  mine : ∀ l p b, live s l → c l = some p → p.w = some b → X.M b
  nom : ∀ l, s.O l = none → c l = none
  base : X.N ≤ σ.N
variable {s : St I} {n : Nat} {F : Fr}
theorem Rel.put (h : Rel X c σ s n F) (d : Option Nat) (p : PV I) (v : Value) (hv : RV X c σ p v) : Rel X c σ (Qx.put s d p) n (putF F d v) := by
  cases d with
  | none => exact h
  | some d =>
    refine ⟨h.len, fun i q hq => ?_, h.objs, h.inj, h.mine, h.nom, h.base⟩
    rcases upF_some hq with ⟨rfl, rfl⟩ | ⟨e, hq⟩
    · simpa [putF, upd] using hv
    · have : Nat.beq i d = false := beq_false e
      simpa [putF, upd, this] using h.frame i q hq
/-- A step that leaves the objects. -/
theorem Rel.step (h : Rel X c σ s n F) (st : Stp NoB σ τ) : Rel X c τ s n F :=
  ⟨h.len, fun i p hp => RV.step st.no p _ (h.frame i p hp), fun l o ho => (h.objs l o ho).step st.no fun p g h1 h2 => st.block g (by
    have := h.objs l o ho
    cases o with
    | var T ls w =>
      obtain ⟨b, cs, k1, k2, k3, _⟩ := this
      rw [k1] at h1
      cases h1
      cases w
      · cases h2
      · cases h2; exact heap_lt k3
    | row E xs fl =>
      obtain ⟨A, k, ow, k1, k2⟩ := this
      rw [k1] at h1
      cases h1
      subst h2
      obtain ⟨cur, cs, e, hh, _⟩ := k2
      exact heap_lt hh
    | ro E xs =>
      obtain ⟨A, k, k1, k2⟩ := this
      rw [k1] at h1
      cases h1
      cases h2
    | bo E xs =>
      obtain ⟨A, k, k1, k2⟩ := this
      rw [k1] at h1
      cases h1
      cases h2) (fun h => h), h.inj, h.mine, h.nom, Nat.le_trans h.base st.wext.size⟩
theorem ObjOk.lt {l g : Nat} {o : Ob I} {p : Pl} (h : ObjOk X c σ l o) (h1 : c l = some p) (h2 : p.w = some g) : g < σ.N := by
  cases o with
  | var T ls w =>
    obtain ⟨b, cs, k1, k2, k3, _⟩ := h
    rw [k1] at h1
    cases h1
    cases w
    · cases h2
    · cases h2; exact heap_lt k3
  | row E xs fl =>
    obtain ⟨A, k, ow, k1, k2⟩ := h
    rw [k1] at h1
    cases h1
    subst h2
    obtain ⟨cur, cs, e, hh, _⟩ := k2
    exact heap_lt hh
  | ro E xs =>
    obtain ⟨A, k, k1, k2⟩ := h
    rw [k1] at h1
    cases h1
    cases h2
  | bo E xs =>
    obtain ⟨A, k, k1, k2⟩ := h
    rw [k1] at h1
    cases h1
    cases h2
/-- The function's own block is turned. -/
theorem Rel.upd (h : Rel X c σ s n F) {l g : Nat} {o' : Option (Ob I)} {p : Pl} (hl : live s l) (hp : c l = some p) (hw : p.w = some g) (st : Stp (fun b => b = g) σ τ) (ho : ∀ o, o' = some o → ObjOk X c τ l o) : Rel X c τ (setO s l o') n F := by
  have hm : X.M g := h.mine l p g hl hp hw
  have stM : Stp X.M σ τ := st.mono fun b _ e => by rw [e]; exact hm
  have hlive : ∀ {l'}, live (setO s l o') l' → live s l' := fun {l'} ⟨o, hl'⟩ => by
    rcases upF_some hl' with ⟨rfl, _⟩ | ⟨_, h⟩
    · exact hl
    · exact ⟨o, h⟩
  refine ⟨h.len, fun i q hq => RV.step stM q _ (h.frame i q hq), fun l' o'' hl' => ?_, fun l1 l2 p1 p2 b a1 a2 => h.inj l1 l2 p1 p2 b (hlive a1) (hlive a2), fun l1 p1 b a1 => h.mine l1 p1 b (hlive a1), fun l' hl' => ?_, Nat.le_trans h.base st.wext.size⟩
  · rcases upF_some hl' with ⟨rfl, e⟩ | ⟨e, hl'⟩
    · exact ho _ e.symm
    · refine (h.objs l' o'' hl').step stM fun p' g' h1 h2 => st.block g' ((h.objs l' o'' hl').lt h1 h2) fun e' => ?_
      subst e'
      exact e (h.inj l' l p' p g' ⟨_, hl'⟩ hl h1 hp h2 hw)
  · refine h.nom l' ?_
    by_cases e : l' = l
    · subst e
      have : (setO s l' o').O l' = some o' := upF_self _ _ _
      rw [this] at hl'; cases hl'
    · have : (setO s l o').O l' = s.O l' := upF_ne e
      rw [this] at hl'; exact hl'
def addC (c : Cx) (l : Nat) (p : Pl) : Cx := fun i => if i = l then some p else c i
theorem addC_self (c : Cx) (l : Nat) (p : Pl) : addC c l p l = some p := by simp [addC]
theorem addC_le {c : Cx} {l : Nat} {p : Pl} (h : c l = none) : Cx.le c (addC c l p) := fun i q hq => by
  by_cases e : i = l
  · subst e; rw [h] at hq; cases hq
  · simpa [addC, e] using hq
/-- A new object. -/
theorem Rel.add (h : Rel X c σ s n F) {l : Nat} {o : Ob I} {p : Pl} (hl : s.O l = none) (hw : ∀ g, p.w = some g → X.M g ∧ ∀ l' p', live s l' → c l' = some p' → p'.w ≠ some g) (ho : ObjOk X (addC c l p) σ l o) :
    Cx.le c (addC c l p) ∧ Rel X (addC c l p) σ (setO s l (some o)) n F := by
  have hle : Cx.le c (addC c l p) := addC_le (h.nom l hl)
  have hne : ∀ {i}, i ≠ l → addC c l p i = c i := fun e => by simp [addC, e]
  have hlive : ∀ {l'}, l' ≠ l → live (setO s l (some o)) l' → live s l' := fun e ⟨o', h'⟩ => by
    rcases upF_some h' with ⟨e', _⟩ | ⟨_, h⟩
    · exact absurd e' e
    · exact ⟨o', h⟩
  refine ⟨hle, h.len, fun i q hq => RV.grow hle q _ (h.frame i q hq), fun l' o'' hl' => ?_, fun l1 l2 p1 p2 b a1 a2 a3 a4 a5 a6 => ?_, fun l1 p1 b a1 a2 a3 => ?_, fun l' hl' => ?_, h.base⟩
  · rcases upF_some hl' with ⟨rfl, e⟩ | ⟨e, hl'⟩
    · cases e; exact ho
    · exact (h.objs l' o'' hl').grow hle
  · by_cases e1 : l1 = l
    · by_cases e2 : l2 = l
      · rw [e1, e2]
      · exfalso
        subst e1
        rw [addC_self] at a3
        cases a3
        rw [hne e2] at a4
        exact (hw b a5).2 l2 p2 (hlive e2 a2) a4 a6
    · by_cases e2 : l2 = l
      · exfalso
        subst e2
        rw [addC_self] at a4
        cases a4
        rw [hne e1] at a3
        exact (hw b a6).2 l1 p1 (hlive e1 a1) a3 a5
      · rw [hne e1] at a3
        rw [hne e2] at a4
        exact h.inj l1 l2 p1 p2 b (hlive e1 a1) (hlive e2 a2) a3 a4 a5 a6
  · by_cases e1 : l1 = l
    · subst e1
      rw [addC_self] at a2
      cases a2
      exact (hw b a3).1
    · rw [hne e1] at a2
      exact h.mine l1 p1 b (hlive e1 a1) a2 a3
  · by_cases e : l' = l
    · subst e
      have : (setO s l' (some o)).O l' = some (some o) := upF_self _ _ _
      rw [this] at hl'; cases hl'
    · have : (setO s l (some o)).O l' = s.O l' := upF_ne e
      rw [this] at hl'
      rw [hne e]; exact h.nom l' hl'
/-- An object is let go. -/
theorem Rel.kill (h : Rel X c σ s n F) {l : Nat} (hl : live s l) : Rel X c σ (setO s l none) n F := by
  have hlive : ∀ {l'}, live (setO s l none) l' → live s l' := fun {l'} ⟨o', h'⟩ => by
    rcases upF_some h' with ⟨_, e⟩ | ⟨_, h⟩
    · cases e
    · exact ⟨o', h⟩
  refine ⟨h.len, h.frame, fun l' o'' hl' => ?_, fun l1 l2 p1 p2 b a1 a2 => h.inj l1 l2 p1 p2 b (hlive a1) (hlive a2), fun l1 p1 b a1 => h.mine l1 p1 b (hlive a1), fun l' hl' => ?_, h.base⟩
  · rcases upF_some hl' with ⟨_, e⟩ | ⟨_, h'⟩
    · cases e
    · exact h.objs l' o'' h'
  · refine h.nom l' ?_
    by_cases e : l' = l
    · subst e
      have : (setO s l' none).O l' = some none := upF_self _ _ _
      rw [this] at hl'; cases hl'
    · have : (setO s l none).O l' = s.O l' := upF_ne e
      rw [this] at hl'; exact hl'
/-- A row's cells are settled: from now on it may be read as data. -/
def pub (s : St I) (l : Nat) : St I := match s.O l with
  | some (some (.row E xs false)) => setO s l (some (.row E xs true))
  | _ => s
theorem Rel.pub (h : Rel X c σ s n F) (l : Nat) : ∃ τ, τ.w = σ.w ∧ Stp X.M σ τ ∧ Rel X c τ (Qx.pub s l) n F := by
  unfold Qx.pub
  split
  · rename_i E xs hl
    have ho := h.objs l _ hl
    obtain ⟨A, k, ow, h1, h2⟩ := ho
    cases ow with
    | none =>
      refine ⟨σ, rfl, Stp.refl _ _, ⟨h.len, h.frame, fun l' o hl' => ?_, ?_, ?_, ?_, h.base⟩⟩
      · rcases upF_some hl' with ⟨rfl, e⟩ | ⟨_, h'⟩
        · cases e
          refine ⟨A, k, none, h1, ?_⟩
          rcases h2 with h2 | ⟨e, _⟩
          · exact .inl h2
          · cases e
        · exact h.objs l' o h'
      all_goals
        have hlive : ∀ {l'}, live (setO s l (some (Ob.row E xs true))) l' → live s l' := fun {l'} ⟨o', h'⟩ => by
          rcases upF_some h' with ⟨rfl, _⟩ | ⟨_, h⟩
          · exact ⟨_, hl⟩
          · exact ⟨o', h⟩
      · exact fun l1 l2 p1 p2 b a1 a2 => h.inj l1 l2 p1 p2 b (hlive a1) (hlive a2)
      · exact fun l1 p1 b a1 => h.mine l1 p1 b (hlive a1)
      · intro l' hl'
        refine h.nom l' ?_
        by_cases e : l' = l
        · subst e
          have : (setO s l' (some (Ob.row E xs true))).O l' = some (some (Ob.row E xs true)) := upF_self _ _ _
          rw [this] at hl'; cases hl'
        · have : (setO s l (some (Ob.row E xs true))).O l' = s.O l' := upF_ne e
          rw [this] at hl'; exact hl'
    | some g =>
      obtain ⟨cur, cs, e, hh, k1, k2, k3, k4, k5, k6⟩ := h2
      let τ : S := ⟨σ.w, fun b => if b = g then (xs.length * Rp.sz (I E), (σ.L b).2) else σ.L b⟩
      have hL : ∀ b, b ≠ g → τ.L b = σ.L b := fun b hb => by simp [τ, hb]
      have hLg : (τ.L g).1 = xs.length * Rp.sz (I E) := by simp [τ]
      have k6' : (σ.L g).1 = 0 := k6
      have hw : Wext σ τ := ⟨Nat.le_refl _, fun b _ => by
        by_cases eb : b = g
        · subst eb; rw [k6']; exact Nat.zero_le _
        · rw [hL b eb]; exact Nat.le_refl _, fun _ _ _ _ h => h, Nat.le_refl _⟩
      have st : Stp (fun b => b = g) σ τ := ⟨hw, rfl, rfl, rfl, fun b _ hb => ⟨rfl, by rw [hL b hb]⟩⟩
      refine ⟨τ, rfl, st.mono fun b _ e => by rw [e]; exact h.mine l _ g ⟨_, hl⟩ h1 rfl, h.upd ⟨_, hl⟩ h1 rfl st fun o e' => ?_⟩
      cases e'
      exact ⟨A, k, some g, h1, cur, cs, e, hh, k1, k2, k3, k4.mono hw, k5, hLg⟩
  · exact ⟨σ, rfl, Stp.refl _ _, h⟩
end
end Go.Qx
