/- The symbolic executor: a program's types, as tables. -/
import Derived.Test.YtdipagkcdpcnbaaGreatQRio
import Derived.ChangeKeysEq
namespace Go.Qx
open Go Go.RowKit Go.Sx

/-! ### data that is made of data -/
@[reducible] def rpUnit : Rp Unit where
  sz := 1
  pos := by decide
  agg := false
  cells := fun _ _ _ => False
  len := fun h => h.elim
  one := fun h => h.elim
  mono := fun _ h => h
@[reducible] def rpK (k : IntKind) : Rp Int := rpIK k
@[reducible] def rpProd {α β : Type} (a : Rp α) (b : Rp β) : Rp (α × β) where
  sz := a.sz + b.sz
  pos := Nat.lt_of_lt_of_le a.pos (Nat.le_add_right _ _)
  agg := true
  cells := fun σ x cs => ∃ c1 c2, cs = c1 ++ c2 ∧ a.cells σ x.1 c1 ∧ b.cells σ x.2 c2
  len := fun ⟨_, _, e, h1, h2⟩ => by rw [e, List.length_append, a.len h1, b.len h2]
  one := fun ⟨_, _, e, h1, h2⟩ v hv => by
    rw [e, List.mem_append] at hv
    exact hv.elim (a.one h1 v) (b.one h2 v)
  mono := fun k ⟨c1, c2, e, h1, h2⟩ => ⟨c1, c2, e, a.mono k h1, b.mono k h2⟩
@[reducible] def rpVia {γ α : Type} (to : γ → α) (a : Rp α) : Rp γ where
  sz := a.sz
  pos := a.pos
  agg := true
  cells := fun σ x cs => a.cells σ (to x) cs
  len := fun h => a.len h
  one := fun h => a.one h
  mono := fun k h => a.mono k h
structure TE where
  E : TypeId
  α : Type
  rp : Rp α
def lookT : List TE → TypeId → TE
  | [], _ => ⟨0, Unit, rpUnit⟩
  | e :: r, E => bif Nat.beq e.E E then e else lookT r E

section
variable {I : TypeId → Type} [∀ E, Rp (I E)]
/-- Data of one kind: its pieces, and out of pieces. -/
structure Fd (I : TypeId → Type) [∀ E, Rp (I E)] (α : Type) (rp : Rp α) where
  lf : α → List (PV I)
  pa : (ρ : Type) → List (PV I) → (α → List (PV I) → Option ρ) → Option ρ
  lf_ok : ∀ (X : Cxt) (c : Cx) (σ : S) (x : α) (cs : List Value), rp.cells σ x cs → RG X c σ (lf x) cs
  pa_ok : ∀ (ρ : Type) (ls : List (PV I)) (f : α → List (PV I) → Option ρ) (r : ρ), pa ρ ls f = some r → ∃ x rest, f x rest = some r ∧
    ∀ (X : Cxt) (c : Cx) (σ : S) (cs : List Value), RG X c σ ls cs → ∃ c1 c2, cs = c1 ++ c2 ∧ rp.cells σ x c1 ∧ RG X c σ rest c2
theorem RG.cons1 {X : Cxt} {c : Cx} {σ : S} {p : PV I} {r : List (PV I)} {cs : List Value} (h : RG X c σ (p :: r) cs) (hp : isDat p = false) : ∃ v c2, cs = [v] ++ c2 ∧ RV X c σ p v ∧ RG X c σ r c2 := by
  simp only [RG] at h
  obtain ⟨a, c2, e, h1 | ⟨_, v, e1, h1⟩, h2⟩ := h
  · exact (by cases p <;> first | exact h1.elim | cases hp)
  · exact ⟨v, c2, by rw [e, e1], h1, h2⟩
theorem RG.cns {X : Cxt} {c : Cx} {σ : S} {p : PV I} {ps : List (PV I)} {v : Value} {cs : List Value} (h0 : isDat p = false) (h : RV X c σ p v) (k : RG X c σ ps cs) : RG X c σ (p :: ps) (v :: cs) := by
  simp only [RG]
  exact ⟨[v], cs, rfl, .inr ⟨h0, v, rfl, h⟩, k⟩
theorem RG.nl {X : Cxt} {c : Cx} {σ : S} : RG X c σ ([] : List (PV I)) [] := by simp only [RG]
theorem rvInt {X : Cxt} {c : Cx} {σ : S} {k : IntKind} {n : Int} : RV X c σ (.int k n : PV I) (.int k n) := by simp only [RV]
theorem rvBool {X : Cxt} {c : Cx} {σ : S} {b : Bool} : RV X c σ (.bool b : PV I) (.bool b) := by simp only [RV]
theorem rvStr {X : Cxt} {c : Cx} {σ : S} {b : ByteArray} : RV X c σ (.str b : PV I) (.string b) := by simp only [RV]
theorem rvNl {X : Cxt} {c : Cx} {σ : S} {E : TypeId} : RV X c σ (.nl E : PV I) (.slice none 0 0) := by simp only [RV]; exact ⟨none, rfl⟩
theorem rvAny {X : Cxt} {c : Cx} {σ : S} {v : Value} : RV X c σ (.any : PV I) v := by simp only [RV]
def fdInt (k : IntKind) : Fd I Int (rpK k) where
  lf := fun n => [.int k n]
  pa := fun _ ls f => match ls with
    | .int k' n :: r => if k' = k then f n r else none
    | _ => none
  lf_ok := fun X c σ x cs h => by
    have e : cs = [.int k x] := h
    rw [e]
    exact RG.single rfl (by simp only [RV])
  pa_ok := fun ρ ls f r h => by
    split at h
    · rename_i k' n rest
      obtain ⟨e, h2⟩ := if_some' h
      clear h
      subst e
      refine ⟨n, rest, h2, fun X c σ cs hl => ?_⟩
      obtain ⟨v, c2, e, h1, h2⟩ := hl.cons1 rfl
      simp only [RV] at h1
      subst h1
      exact ⟨_, c2, e, rfl, h2⟩
    · cases h
def fdBool : Fd I Bool rpBool where
  lf := fun n => [.bool n]
  pa := fun _ ls f => match ls with
    | .bool n :: r => f n r
    | _ => none
  lf_ok := fun X c σ x cs h => by
    have e : cs = [.bool x] := h
    rw [e]
    exact RG.single rfl (by simp only [RV])
  pa_ok := fun ρ ls f r h => by
    split at h
    · rename_i n rest
      refine ⟨n, rest, h, fun X c σ cs hl => ?_⟩
      obtain ⟨v, c2, e, h1, h2⟩ := hl.cons1 rfl
      simp only [RV] at h1
      subst h1
      exact ⟨_, c2, e, rfl, h2⟩
    · cases h
def fdStr : Fd I ByteArray rpStr where
  lf := fun n => [.str n]
  pa := fun _ ls f => match ls with
    | .str n :: r => f n r
    | _ => none
  lf_ok := fun X c σ x cs h => by
    have e : cs = [.string x] := h
    rw [e]
    exact RG.single rfl (by simp only [RV])
  pa_ok := fun ρ ls f r h => by
    split at h
    · rename_i n rest
      refine ⟨n, rest, h, fun X c σ cs hl => ?_⟩
      obtain ⟨v, c2, e, h1, h2⟩ := hl.cons1 rfl
      simp only [RV] at h1
      subst h1
      exact ⟨_, c2, e, rfl, h2⟩
    · cases h
def fdSl (E : TypeId) : Fd I (List (I E)) rpList where
  lf := fun xs => [.sl E xs false]
  pa := fun _ ls f => match ls with
    | .sl E' xs _ :: r => Option.bind (castL E E' xs) fun ys => f ys r
    | .nl E' :: r => bif Nat.beq E' E then f [] r else none
    | _ => none
  lf_ok := fun X c σ xs cs h => by
    obtain ⟨A, k, e, hs⟩ : ∃ A k, cs = [.slice A (xs : List (I E)).length k] ∧ Sl σ xs A k := h
    rw [e]
    refine RG.single rfl ?_
    simp only [RV]
    exact ⟨A, k, rfl, hs, fun e => by cases e⟩
  pa_ok := fun ρ ls f r h => by
    split at h
    · rename_i E' xs fl rest
      obtain ⟨ys, hy, h⟩ := bind_some h
      obtain ⟨e, rfl⟩ := castL_ok hy
      subst e
      refine ⟨xs, rest, h, fun X c σ cs hl => ?_⟩
      obtain ⟨v, c2, e, h1, h2⟩ := hl.cons1 rfl
      simp only [RV] at h1
      obtain ⟨A, k, e1, hs, _⟩ := h1
      exact ⟨[v], c2, e, ⟨A, k, by rw [e1], hs⟩, h2⟩
    · rename_i E' rest
      obtain ⟨_, h⟩ := bif_some h
      refine ⟨[], rest, h, fun X c σ cs hl => ?_⟩
      obtain ⟨v, c2, e, h1, h2⟩ := hl.cons1 rfl
      simp only [RV] at h1
      obtain ⟨A, e1⟩ := h1
      exact ⟨[v], c2, e, ⟨A, 0, by rw [e1]; rfl, Sl.nil_ _ _ _ (Nat.zero_le _)⟩, h2⟩
    · cases h
def fdDat (E : TypeId) (fd : Fd I (I E) inferInstance) : Fd I (I E) inferInstance where
  lf := fun x => [.dat E x]
  pa := fun ρ ls f => match ls with
    | .dat E' x :: r => Option.bind (castD E E' x) fun y => f y r
    | ls => fd.pa ρ ls f
  lf_ok := fun X c σ x cs h => RG.one h
  pa_ok := fun ρ ls f r h => by
    split at h
    · rename_i E' x rest
      obtain ⟨y, hy, h⟩ := bind_some h
      obtain ⟨e, rfl⟩ := castD_ok hy
      subst e
      refine ⟨x, rest, h, fun X c σ cs hl => ?_⟩
      simp only [RG] at hl
      obtain ⟨a, c2, e, h1 | ⟨h1, _⟩, h2⟩ := hl
      · exact ⟨a, c2, e, h1, h2⟩
      · cases h1
    · exact fd.pa_ok ρ _ f r h
def fdProd {α β : Type} {ra : Rp α} {rb : Rp β} (a : Fd I α ra) (b : Fd I β rb) : Fd I (α × β) (rpProd ra rb) where
  lf := fun x => a.lf x.1 ++ b.lf x.2
  pa := fun ρ ls f => a.pa ρ ls fun x r => b.pa ρ r fun y r => f (x, y) r
  lf_ok := fun X c σ x cs ⟨c1, c2, e, h1, h2⟩ => by
    rw [e]
    exact RG.app _ _ _ _ (a.lf_ok X c σ _ _ h1) (b.lf_ok X c σ _ _ h2)
  pa_ok := fun ρ ls f r h => by
    obtain ⟨x, r1, h, k1⟩ := a.pa_ok ρ _ _ r h
    obtain ⟨y, r2, h, k2⟩ := b.pa_ok ρ _ _ r h
    refine ⟨(x, y), r2, h, fun X c σ cs hl => ?_⟩
    obtain ⟨c1, c2, e, h1, h2⟩ := k1 X c σ cs hl
    obtain ⟨c3, c4, e2, h3, h4⟩ := k2 X c σ c2 h2
    exact ⟨c1 ++ c3, c4, by rw [e, e2, List.append_assoc], ⟨c1, c3, rfl, h1, h3⟩, h4⟩
def fdIff {γ α : Type} {rg : Rp γ} {ra : Rp α} (a : Fd I α ra) (to : γ → α) (of : α → γ) (h : ∀ x, to (of x) = x) (hc : ∀ σ x cs, rg.cells σ x cs ↔ ra.cells σ (to x) cs) : Fd I γ rg where
  lf := fun x => a.lf (to x)
  pa := fun ρ ls f => a.pa ρ ls fun x r => f (of x) r
  lf_ok := fun X c σ x cs hx => a.lf_ok X c σ _ _ ((hc σ x cs).1 hx)
  pa_ok := fun ρ ls f r hr => by
    obtain ⟨x, r1, hr, k1⟩ := a.pa_ok ρ _ _ r hr
    refine ⟨of x, r1, hr, fun X c σ cs hl => ?_⟩
    obtain ⟨c1, c2, e, h1, h2⟩ := k1 X c σ cs hl
    exact ⟨c1, c2, e, (hc σ _ _).2 (by rw [h]; exact h1), h2⟩
structure FE (I : TypeId → Type) [∀ E, Rp (I E)] where
  E : TypeId
  fd : Fd I (I E) inferInstance
def findF : List (FE I) → TypeId → Option (FE I)
  | [], _ => none
  | e :: r, E => bif Nat.beq e.E E then some e else findF r E
def lfT (l : List (FE I)) (E : TypeId) (x : I E) : List (PV I) := match findF l E with
  | some e => if h : E = e.E then e.fd.lf (h ▸ x) else [.dat E x]
  | none => [.dat E x]
def ofT (l : List (FE I)) (E : TypeId) (ls : List (PV I)) : Option (I E) := match findF l E with
  | some e => if h : e.E = E then e.fd.pa (I E) ls fun x r => match r with
    | [] => some (h ▸ x)
    | _ => none else none
  | none => none

/-! ### tables -/
def AllL {α : Type} (p : α → Prop) : List α → Prop
  | [] => True
  | x :: r => p x ∧ AllL p r
omit [∀ E, Rp (I E)] in
theorem AllL.mem {α : Type} {p : α → Prop} : ∀ {l : List α}, AllL p l → ∀ x ∈ l, p x
  | [], _, _, h => by cases h
  | _ :: _, h, x, hx => by
    rcases List.mem_cons.1 hx with rfl | hx
    · exact h.1
    · exact AllL.mem h.2 x hx
def asc {α : Type} : List (Nat × α) → Nat → Option α
  | [], _ => none
  | x :: r, k => bif Nat.beq x.1 k then some x.2 else asc r k
omit [∀ E, Rp (I E)] in
theorem asc_mem {α : Type} : ∀ {l : List (Nat × α)} {k : Nat} {a : α}, asc l k = some a → (k, a) ∈ l
  | [], _, _, h => by cases h
  | x :: r, k, a, h => by
    simp only [asc] at h
    cases hk : Nat.beq x.1 k with
    | true =>
      rw [hk] at h
      cases h
      have := Nat.eq_of_beq_eq_true hk
      subst this
      simp
    | false =>
      rw [hk] at h
      exact List.mem_cons_of_mem _ (asc_mem h)
structure TabL (I : TypeId → Type) [∀ E, Rp (I E)] where
  sz : List (TypeId × Nat)
  one : List (TypeId × Unit)
  fld : List (TypeId × List (Nat × TypeId))
  el : List (TypeId × TypeId)
  str : List (TypeId × Unit)
  bool : List (TypeId × Unit)
  ik : List (TypeId × IntKind)
  fe : List (FE I)
  inf : List (TypeId × Nat × Nat × List (PV I))
  st : List (TypeId × List (Nat × Nat))
  eq : List (TypeId × (List (PV I) → List (PV I) → Option Bool))
  arr : List (TypeId × (TypeId × Nat × Nat))
  fb : List (FuncId × Unit)
def tabOf (L : TabL I) : Tab I where
  sz := asc L.sz
  one := fun T => (asc L.one T).isSome
  off := fun T f => Option.bind (asc L.fld T) fun l => Option.bind l[f]? fun x => some x.1
  fty := fun T f => Option.bind (asc L.fld T) fun l => Option.bind l[f]? fun x => some x.2
  el := asc L.el
  isStr := fun T => (asc L.str T).isSome
  isBool := fun T => (asc L.bool T).isSome
  ik := asc L.ik
  lf := lfT L.fe
  of := ofT L.fe
  size := fun T => Option.bind (asc L.inf T) fun x => some x.1
  bytes := fun T => Option.bind (asc L.inf T) fun x => some x.2.1
  zero := fun T => Option.bind (asc L.inf T) fun x => some x.2.2
  flds := asc L.st
  eqF := fun T a b => Option.bind (asc L.eq T) fun f => f a b
  arr := asc L.arr
  fb := fun f => (asc L.fb f).isSome
/-- Fields in order. -/
def FldsOk (P : Program) (T : TypeId) : Nat → List (Nat × TypeId) → Prop
  | _, [] => True
  | i, x :: r => FieldOk P T i x.1 ∧ (∃ fs fl, P.underlying T = some (.struct fs) ∧ fs[i]? = some fl ∧ fl.type = x.2) ∧ FldsOk P T (i + 1) r
omit [∀ E, Rp (I E)] in
theorem FldsOk.at {P : Program} {T : TypeId} : ∀ {l : List (Nat × TypeId)} {i j : Nat} {x : Nat × TypeId}, FldsOk P T i l → l[j]? = some x → FieldOk P T (i + j) x.1 ∧ (∃ fs fl, P.underlying T = some (.struct fs) ∧ fs[i + j]? = some fl ∧ fl.type = x.2)
  | [], _, _, _, _, h => by simp at h
  | y :: r, i, 0, x, hf, h => by simp at h; subst h; exact ⟨hf.1, hf.2.1⟩
  | y :: r, i, j + 1, x, hf, h => by
    have := FldsOk.at (i := i + 1) hf.2.2 (show r[j]? = some x by simpa using h)
    rwa [show i + 1 + j = i + (j + 1) by omega] at this
/-- The zero value of a type, in pieces. -/
def InfOk (P : Program) (T : TypeId) (sz by_ : Nat) (ls : List (PV I)) : Prop := ∃ z, TyInfo P T z sz by_ ∧ ∀ X c σ, RG X c σ ls z.cells.toList
structure TabLOk (P : Program) (L : TabL I) : Prop where
  sz : AllL (fun x => TyRow P x.1 x.2) L.sz
  one : AllL (fun x => TyOne P x.1) L.one
  fld : AllL (fun x => FldsOk P x.1 0 x.2) L.fld
  el : AllL (fun x => P.underlying x.1 = some (.slice x.2) ∧ ∃ z b, TyInfo P x.2 z (Rp.sz (I x.2)) b ∧ z.cells.size = Rp.sz (I x.2) ∧ 0 < b) L.el
  str : AllL (fun x => P.underlying x.1 = some .string) L.str
  bool : AllL (fun x => P.underlying x.1 = some .bool) L.bool
  ik : AllL (fun x => P.underlying x.1 = some (.int x.2)) L.ik
  inf : AllL (fun x => InfOk P x.1 x.2.1 x.2.2.1 x.2.2.2) L.inf
  st : AllL (fun x => (∃ fs, P.underlying x.1 = some (.struct fs) ∧ fs.toList.mapM (fun f => (P.info? f.type).map fun i => (f.offset, i.size)) = some x.2) ∨
    ∃ m e ie, P.underlying x.1 = some (.array m e) ∧ P.info? e = some ie ∧ x.2 = (List.range m).map fun j => (j * ie.size, ie.size)) L.st
  eq : AllL (fun x => ∀ (X : Cxt) (c : Cx) (σ : S) (ls ms : List (PV I)) (r : Bool) (cs ds : List Value), x.2 ls ms = some r → RG X c σ ls cs → RG X c σ ms ds →
    P.eqGuardType P.depth x.1 = false ∧ ∃ j, Nat.ble j 10000 = true ∧ Sx.EqAt P j x.1 (.agg cs.toArray) (.agg ds.toArray) r) L.eq
  arr : AllL (fun x => P.underlying x.1 = some (.array x.2.2.1 x.2.1) ∧ (P.info? x.2.1).map (·.size) = some x.2.2.2) L.arr
  fb : AllL (fun x => HasBody P x.1) L.fb
omit [∀ E, Rp (I E)] in
theorem st_arr {P : Program} {T e : TypeId} {m k b : Nat} {z : Value} {pl : List (Nat × Nat)} (hu : P.underlying T = some (.array m e)) (hi : TyInfo P e z k b) (hp : pl = (List.range m).map fun j => (j * k, k)) :
    ∃ m e ie, P.underlying T = some (.array m e) ∧ P.info? e = some ie ∧ pl = (List.range m).map fun j => (j * ie.size, ie.size) := by
  obtain ⟨i, h1, h2, h3, h4⟩ := hi
  exact ⟨m, e, i, hu, h1, by rw [hp, h3]⟩
omit [∀ E, Rp (I E)] in
theorem isSome_ok {α : Type} {o : Option α} (h : o.isSome = true) : ∃ a, o = some a := Option.isSome_iff_exists.1 h
omit [∀ E, Rp (I E)] in
theorem TyInfo.inj {P : Program} {T : TypeId} {z z' : Value} {a a' b b' : Nat} (h : TyInfo P T z a b) (k : TyInfo P T z' a' b') : z = z' ∧ a = a' ∧ b = b' := by
  obtain ⟨i, h1, h2, h3, h4⟩ := h
  obtain ⟨j, k1, k2, k3, k4⟩ := k
  rw [h1] at k1
  cases k1
  rw [h2] at k2
  cases k2
  exact ⟨rfl, h3.symm.trans k3, h4.symm.trans k4⟩
theorem ofT_ok {fe : List (FE I)} {X : Cxt} {c : Cx} {σ : S} {E : TypeId} {ls : List (PV I)} {x : I E} {cs : List Value} (hx : ofT fe E ls = some x) (hl : RG X c σ ls cs) : Rp.cells σ x cs := by
  unfold ofT at hx
  split at hx
  · rename_i e he
    split at hx
    · rename_i e1
      subst e1
      obtain ⟨y, rest, h1, h2⟩ := e.fd.pa_ok _ _ _ _ hx
      obtain ⟨c1, c2, e2, h3, h4⟩ := h2 X c σ cs hl
      split at h1
      · cases h1
        simp only [RG] at h4
        rw [e2, h4, List.append_nil]
        exact h3
      · cases h1
    · cases hx
  · cases hx
theorem tabOf_ok {P : Program} {L : TabL I} (h : TabLOk P L) : TabOk P (tabOf L) where
  sz := fun T k hk => h.sz.mem _ (asc_mem hk)
  one := fun T hk => by obtain ⟨a, ha⟩ := isSome_ok hk; exact h.one.mem _ (asc_mem ha)
  off := fun T f o hk => by
    obtain ⟨l, hl, hk⟩ := bind_some hk
    obtain ⟨x, hx, hk⟩ := bind_some hk
    cases hk
    have := (FldsOk.at (h.fld.mem _ (asc_mem hl)) hx).1
    rw [Nat.zero_add] at this
    exact this
  fty := fun T f o hk => by
    obtain ⟨l, hl, hk⟩ := bind_some hk
    obtain ⟨x, hx, hk⟩ := bind_some hk
    cases hk
    have := (FldsOk.at (h.fld.mem _ (asc_mem hl)) hx).2
    rw [Nat.zero_add] at this
    exact this
  el := fun T E hk => by
    obtain ⟨h1, z, b, ⟨i, e1, e2, e3, e4⟩, _⟩ := h.el.mem _ (asc_mem hk)
    exact ⟨h1, by rw [e1]; simp only [Option.map_some]; rw [e3]⟩
  isStr := fun T hk => by obtain ⟨a, ha⟩ := isSome_ok hk; exact h.str.mem _ (asc_mem ha)
  isBool := fun T hk => by obtain ⟨a, ha⟩ := isSome_ok hk; exact h.bool.mem _ (asc_mem ha)
  ik := fun T k hk => h.ik.mem _ (asc_mem hk)
  lf := fun X c σ E x cs hx => by
    show RG X c σ (lfT L.fe E x) cs
    unfold lfT
    split
    · rename_i e he
      split
      · rename_i e1
        subst e1
        exact e.fd.lf_ok X c σ x cs hx
      · exact RG.one hx
    · exact RG.one hx
  of := fun _ _ _ _ _ _ _ hx hl => ofT_ok hx hl
  size := fun T k hk => by
    obtain ⟨x, hx, hk⟩ := bind_some hk
    cases hk
    obtain ⟨z, ⟨i, e1, e2, e3, e4⟩, _⟩ := h.inf.mem _ (asc_mem hx)
    rw [e1, Option.map_some, e3]
  slice := fun T E b hT hb => by
    obtain ⟨x, hx, hk⟩ := bind_some hb
    cases hk
    obtain ⟨z, h1, _⟩ := h.inf.mem _ (asc_mem hx)
    obtain ⟨h2, z', b', h3, h4, h5⟩ := h.el.mem _ (asc_mem hT)
    obtain ⟨rfl, e1, e2⟩ := TyInfo.inj h1 h3
    simp only at e1 e2 h1
    refine ⟨z, h2, ?_, h4, Rp.pos, ?_⟩
    · rw [← e1]; exact h1
    · rw [e2]; exact h5
  zero := fun T ls hk => by
    obtain ⟨x, hx, hk⟩ := bind_some hk
    cases hk
    obtain ⟨z, h1, h2⟩ := h.inf.mem _ (asc_mem hx)
    exact ⟨z, _, _, _, h1, rfl, h2⟩
  flds := fun T pl ls hp hz => by
    obtain ⟨x, hx, hk⟩ := bind_some hz
    cases hk
    obtain ⟨z, ⟨i, e1, e2, e3, e4⟩, h2⟩ := h.inf.mem _ (asc_mem hx)
    rcases h.st.mem _ (asc_mem hp) with ⟨fs, h3, h4⟩ | ⟨m, e, ie, h3, h4, h5⟩
    · exact ⟨z.cells.toList, .inl ⟨fs, i, z, h3, e1, e2, by simp, h4⟩, h2⟩
    · exact ⟨z.cells.toList, .inr ⟨m, e, ie, i, z, h3, h4, e1, e2, by simp, h5⟩, h2⟩
  eqF := fun X c σ T ls ms r cs ds hk h1 h2 => by
    obtain ⟨f, hf, hk⟩ := bind_some hk
    exact h.eq.mem _ (asc_mem hf) X c σ ls ms r cs ds hk h1 h2
  arr := fun T E m k hk => h.arr.mem _ (asc_mem hk)
  fb := fun f hk => by obtain ⟨a, ha⟩ := isSome_ok hk; exact h.fb.mem _ (asc_mem ha)
/-! ### equality of arrays -/
def EqIt (P : Program) (k : Nat) (e : TypeId) (c : Nat) (xs ys : Array Value) (l : List Nat) (r : Bool) : Prop := ∀ d w, (Op.eqItems (d + k) e c xs ys l).run P w = .ok r w
omit [∀ E, Rp (I E)] in
theorem eqIt_nil {P : Program} {k : Nat} {e : TypeId} {c : Nat} {xs ys : Array Value} : EqIt P k e c xs ys [] true := fun d w => by simp [Op.eqItems]
omit [∀ E, Rp (I E)] in
theorem eqIt_cons {P : Program} {k : Nat} {e : TypeId} {c i : Nat} {xs ys : Array Value} {is : List Nat} {a b : Value} {r1 r2 : Bool} (ha : ∀ w, (part e xs (i * c)).run P w = .ok a w) (hb : ∀ w, (part e ys (i * c)).run P w = .ok b w)
    (h1 : Sx.EqAt P k e a b r1) (h2 : EqIt P k e c xs ys is r2) : EqIt P k e c xs ys (i :: is) (r1 && r2) := fun d w => by
  simp only [Op.eqItems, Sem.run_bind, ha, hb, Result.andThen_ok, h1 d w]
  cases r1
  · simp
  · simpa using h2 d w
omit [∀ E, Rp (I E)] in
theorem eqAt_arr {P : Program} {k m b K : Nat} {T e : TypeId} {z : Value} {xs ys : Array Value} {r : Bool} (hu : P.underlying T = some (.array m e)) (hi : TyInfo P e z k b) (h : EqIt P K e k xs ys (List.range m) r) : Sx.EqAt P (K + 1) T (.agg xs) (.agg ys) r := fun d w => by
  obtain ⟨i, h1, h2, h3, h4⟩ := hi
  have := run_equalIn_array (P := P) (w := w) (d + K) xs ys hu h1
  rw [← Nat.add_assoc, this]
  have hc : P.cellsOf e = k := by simp [Program.cellsOf, h1, h3]
  rw [hc]
  exact h d w
/-- Equality of data. -/
def eqOf (fe : List (FE I)) (T : TypeId) (g : I T → I T → Bool) : List (PV I) → List (PV I) → Option Bool := fun ls ms =>
  match ls, ms with
  | [.dat E x], [.dat E' y] => Option.bind (castD T E x) fun x => Option.bind (castD T E' y) fun y => some (g x y)
  | [.dat E x], ms => Option.bind (castD T E x) fun x => Option.bind (ofT fe T ms) fun y => some (g x y)
  | ls, [.dat E' y] => Option.bind (ofT fe T ls) fun x => Option.bind (castD T E' y) fun y => some (g x y)
  | ls, ms => Option.bind (ofT fe T ls) fun x => Option.bind (ofT fe T ms) fun y => some (g x y)
theorem one_ok {X : Cxt} {c : Cx} {σ : S} {T E : TypeId} {x : I E} {y : I T} {cs : List Value} (h : castD T E x = some y) (hl : RG X c σ [.dat E x] cs) : Rp.cells σ y cs := by
  obtain ⟨e, rfl⟩ := castD_ok h
  subst e
  simp only [RG] at hl
  obtain ⟨a, r, e, h1 | ⟨h0, _⟩, h2⟩ := hl
  · subst h2
    rw [e, List.append_nil]
    exact h1
  · cases h0
theorem eqOf_ok {fe : List (FE I)} {T : TypeId} {g : I T → I T → Bool} {X : Cxt} {c : Cx} {σ : S} {ls ms : List (PV I)} {r : Bool} {cs ds : List Value} (h : eqOf fe T g ls ms = some r) (hl : RG X c σ ls cs) (hm : RG X c σ ms ds) :
    ∃ x y, Rp.cells σ x cs ∧ Rp.cells σ y ds ∧ g x y = r := by
  unfold eqOf at h
  split at h
  · obtain ⟨x, hx, h⟩ := bind_some h
    obtain ⟨y, hy, h⟩ := bind_some h
    exact ⟨x, y, one_ok hx hl, one_ok hy hm, Option.some.inj h⟩
  · obtain ⟨x, hx, h⟩ := bind_some h
    obtain ⟨y, hy, h⟩ := bind_some h
    exact ⟨x, y, one_ok hx hl, ofT_ok hy hm, Option.some.inj h⟩
  · obtain ⟨x, hx, h⟩ := bind_some h
    obtain ⟨y, hy, h⟩ := bind_some h
    exact ⟨x, y, ofT_ok hx hl, one_ok hy hm, Option.some.inj h⟩
  · obtain ⟨x, hx, h⟩ := bind_some h
    obtain ⟨y, hy, h⟩ := bind_some h
    exact ⟨x, y, ofT_ok hx hl, ofT_ok hy hm, Option.some.inj h⟩
omit [∀ E, Rp (I E)] in
theorem rowOk_none [∀ E, Rp (I E)] {P : Program} {r : Row I} (h : r.run = curP r.ps fun _ => none) : RowOk P r := by
  intro σ a vs pls res hA hnd happ
  rw [h] at happ
  have : ∀ (ps : List Pk) (R : Type) (a : TysP I ps), appP ps (curP ps fun _ => (none : Option R)) a = none := by
    intro ps R a
    induction ps with
    | nil => rfl
    | cons p r ih => exact ih a.2
  rw [this] at happ
  cases happ
def cdOf (f : Func) : Code := match f.body with
  | some c => c
  | none => .skip
/-! ### how often a loop turns -/
inductive BE where
  | slot (t : Nat)
  | fld (T : TypeId) (f : Nat) (e : BE)
  | ld (T : TypeId) (e : BE)
  | len (e : BE)
  | cst (n : Int)
def bev (tb : Tab I) (s : St I) : BE → Option (PV I)
  | .slot t => s.F t
  | .fld T f e => Option.bind (bev tb s e) fun p => Option.bind (tb.off T f) fun d => match p with
    | .ptr l o => some (.ptr l (o + d))
    | .ep E x o => some (.ep E x (o + d))
    | _ => none
  | .ld T e => Option.bind (bev tb s e) fun p => match p with
    | .ptr l o => match s.O l with
      | some (some (.var _ ls _)) => loadL tb T ls o
      | _ => none
    | .ep E x o => loadL tb T [.dat E x] o
    | _ => none
  | .len e => Option.bind (bev tb s e) fun p => match p with
    | .sl _ xs _ => some (.int .i64 (xs.length : Int))
    | .nl _ => some (.int .i64 0)
    | .str t => some (.int .i64 (t.size : Int))
    | .vw l => match s.O l with
      | some (some (.row _ xs _)) => some (.int .i64 (xs.length : Int))
      | some (some (.ro _ xs)) => some (.int .i64 (xs.length : Int))
      | some (some (.bo _ xs)) => some (.int .i64 (xs.length : Int))
      | _ => none
    | .vs l _ lo => match s.O l with
      | some (some (.row _ xs _)) => some (.int .i64 ((xs.drop lo).length : Int))
      | _ => none
    | _ => none
  | .cst n => some (.int .i64 n)
/-- One round more than a number says, and k. -/
def bnd (tb : Tab I) (e : BE) (k : Nat) (s : St I) : Option Nat := match bev tb s e with
  | some (.int _ n) => some (n.toNat + k)
  | _ => none
end
end Go.Qx
