/- The symbolic executor: from plain values to data of known kinds, and back. -/
import Derived.Test.YtdipagkcdpcnbaaGreatQBase
namespace Go.Qx
open Go Go.RowKit Go.Sx

/-- What is known of the program's types. -/
structure Tab (I : TypeId → Type) where
  sz : TypeId → Option Nat
  one : TypeId → Bool
  off : TypeId → Nat → Option Nat
  fty : TypeId → Nat → Option TypeId
  el : TypeId → Option TypeId
  isStr : TypeId → Bool
  isBool : TypeId → Bool
  ik : TypeId → Option IntKind
  lf : (E : TypeId) → I E → List (PV I)
  of : (E : TypeId) → List (PV I) → Option (I E)
  size : TypeId → Option Nat
  bytes : TypeId → Option Nat
  zero : TypeId → Option (List (PV I))
  flds : TypeId → Option (List (Nat × Nat))
  eqF : TypeId → List (PV I) → List (PV I) → Option Bool
  arr : TypeId → Option (TypeId × Nat × Nat)
  fb : FuncId → Bool
section
variable {I : TypeId → Type} [∀ E, Rp (I E)]
/-- An array's zero value, and the places of its elements. -/
def TyArr (P : Program) (T : TypeId) (pl : List (Nat × Nat)) (zs : List Value) : Prop :=
  ∃ m e ie i z, P.underlying T = some (.array m e) ∧ P.info? e = some ie ∧ P.info? T = some i ∧ i.zero = some z ∧ z.cells = zs.toArray ∧ pl = (List.range m).map fun j => (j * ie.size, ie.size)
def TyBuild (P : Program) (T : TypeId) (pl : List (Nat × Nat)) (zs : List Value) : Prop := TyStruct P T pl zs ∨ TyArr P T pl zs
structure TabOk (P : Program) (tb : Tab I) : Prop where
  sz : ∀ T k, tb.sz T = some k → TyRow P T k
  one : ∀ T, tb.one T = true → TyOne P T
  off : ∀ T f o, tb.off T f = some o → FieldOk P T f o
  fty : ∀ T f T', tb.fty T f = some T' → ∃ fs fl, P.underlying T = some (.struct fs) ∧ fs[f]? = some fl ∧ fl.type = T'
  el : ∀ T E, tb.el T = some E → P.underlying T = some (.slice E) ∧ (P.info? E).map (·.size) = some (Rp.sz (I E))
  isStr : ∀ T, tb.isStr T = true → P.underlying T = some .string
  isBool : ∀ T, tb.isBool T = true → P.underlying T = some .bool
  ik : ∀ T k, tb.ik T = some k → P.underlying T = some (.int k)
  lf : ∀ (X : Cxt) (c : Cx) (σ : S) (E : TypeId) (x : I E) (cs : List Value), Rp.cells σ x cs → RG X c σ (tb.lf E x) cs
  of : ∀ (X : Cxt) (c : Cx) (σ : S) (E : TypeId) (ls : List (PV I)) (x : I E) (cs : List Value), tb.of E ls = some x → RG X c σ ls cs → Rp.cells σ x cs
  size : ∀ T k, tb.size T = some k → (P.info? T).map (·.size) = some k
  slice : ∀ T E b, tb.el T = some E → tb.bytes E = some b → ∃ z, TySlice P T E z (Rp.sz (I E)) b
  zero : ∀ T ls, tb.zero T = some ls → ∃ z sz by_ cs, TyInfo P T z sz by_ ∧ z.cells.toList = cs ∧ ∀ X c σ, RG X c σ ls cs
  flds : ∀ T pl ls, tb.flds T = some pl → tb.zero T = some ls → ∃ cs, TyBuild P T pl cs ∧ ∀ X c σ, RG X c σ ls cs
  eqF : ∀ (X : Cxt) (c : Cx) (σ : S) (T : TypeId) (ls ms : List (PV I)) (r : Bool) (cs ds : List Value), tb.eqF T ls ms = some r → RG X c σ ls cs → RG X c σ ms ds →
    P.eqGuardType P.depth T = false ∧ ∃ j, Nat.ble j 10000 = true ∧ Sx.EqAt P j T (.agg cs.toArray) (.agg ds.toArray) r
  arr : ∀ T E m k, tb.arr T = some (E, m, k) → P.underlying T = some (.array m E) ∧ (P.info? E).map (·.size) = some k
  fb : ∀ f, tb.fb f = true → HasBody P f
omit [∀ E, Rp (I E)] in
theorem bif_some {α : Type} {b : Bool} {x : Option α} {r : α} (h : (bif b then x else none) = some r) : b = true ∧ x = some r := by
  cases b
  · cases h
  · exact ⟨rfl, h⟩
omit [∀ E, Rp (I E)] in
theorem if_some' {α : Type} {p : Prop} [Decidable p] {x : Option α} {r : α} (h : (if p then x else none) = some r) : p ∧ x = some r := by
  by_cases hp : p
  · rw [if_pos hp] at h; exact ⟨hp, h⟩
  · rw [if_neg hp] at h; cases h
def castL (E E' : TypeId) (xs : List (I E')) : Option (List (I E)) := if h : E' = E then some (h ▸ xs) else none
omit [∀ E, Rp (I E)] in
theorem castL_ok {E E' : TypeId} {xs : List (I E')} {ys : List (I E)} (h : castL E E' xs = some ys) : ∃ e : E' = E, ys = e ▸ xs := by
  unfold castL at h
  split at h
  · rename_i e; cases h; exact ⟨e, rfl⟩
  · cases h
def castD (E E' : TypeId) (x : I E') : Option (I E) := if h : E' = E then some (h ▸ x) else none
omit [∀ E, Rp (I E)] in
theorem castD_ok {E E' : TypeId} {x : I E'} {y : I E} (h : castD E E' x = some y) : ∃ e : E' = E, y = e ▸ x := by
  unfold castD at h
  split at h
  · rename_i e; cases h; exact ⟨e, rfl⟩
  · cases h
/-- Data out of its pieces. -/
def ofG (tb : Tab I) (E : TypeId) (ls : List (PV I)) : Option (I E) := match ls with
  | [.dat E' x] => castD E E' x
  | ls => tb.of E ls
def mkAgg (T : TypeId) (ls : List (PV I)) : PV I := match ls with
  | [.dat E x] => bif Nat.beq E T then .dat E x else .agg ls
  | ls => .agg ls
/-- All in pieces of one cell. -/
def flatG (tb : Tab I) : Nat → List (PV I) → Option (List (PV I))
  | 0, _ => none
  | _ + 1, [] => some []
  | f + 1, p :: ps => match p with
    | .dat E x => flatG tb f (tb.lf E x ++ ps)
    | p => Option.bind (flatG tb f ps) fun r => some (p :: r)
abbrev Obs (I : TypeId → Type) := Nat → Option (Option (Ob I))
/-! ### reading: the data; the rows that are to be settled; the rows that are taken -/
def dat1 (O : Obs I) : PV I → Option (PV I × List Nat)
  | .vw l => match O l with
    | some (some (.row E xs fl)) => some (.sl E xs false, bif fl then [] else [l])
    | some (some (.ro E xs)) => some (.sl E xs false, [])
    | _ => none
  | .nl E => some (.sl E [] true, [])
  | p => some (p, [])
def datL (O : Obs I) : List (PV I) → Option (List (PV I) × List Nat)
  | [] => some ([], [])
  | p :: r => Option.bind (dat1 O p) fun q => Option.bind (datL O r) fun t => some (q.1 :: t.1, q.2 ++ t.2)
def getSl (O : Obs I) (E : TypeId) (p : PV I) : Option (List (I E) × List Nat) :=
  Option.bind (dat1 O p) fun q => match q.1 with
  | .sl E' xs _ => Option.bind (castL E E' xs) fun ys => some (ys, q.2)
  | _ => none
def getKd (tb : Tab I) (O : Obs I) : (k : Kd) → PV I → Option (Ty I k × List Nat)
  | .int k, .int k' n => if k = k' then some (n, []) else none
  | .bool, .bool b => some (b, [])
  | .str, .str s => some (s, [])
  | .sl E, p => getSl O E p
  | .dat E, .dat E' x => Option.bind (castD E E' x) fun y => some (y, [])
  | .dat E, .agg ls => Option.bind (datL O ls) fun t => Option.bind (ofG tb E t.1) fun x => some (x, t.2)
  | .any, _ => some ((), [])
  | _, _ => none
def getK (tb : Tab I) (O : Obs I) : (k : K) → PV I → Option (TyK I k × List Nat × List (Option Nat))
  | .d kd, p => Option.bind (getKd tb O kd p) fun x => some (x.1, x.2, [])
  | .row E fl, .vw l => match O l with
    | some (some (.row E' xs fl')) => Option.bind (castL E E' xs) fun ys => match fl, fl' with
      | false, false => some (ys, [], [some l])
      | true, true => some (ys, [], [some l])
      | _, _ => none
    | _ => none
  | .row E _, .nl _ => some (([] : List (I E)), [], [none])
  | .row E true, .sl E' xs true => Option.bind (castL E E' xs) fun ys => some (ys, [], [none])
  | _, _ => none
def getKs (tb : Tab I) (O : Obs I) : (ks : List K) → List (PV I) → Option (TyKs I ks × List Nat × List (Option Nat))
  | [], [] => some ((), [], [])
  | [k], [p] => getK tb O k p
  | k :: k' :: ks, p :: ps => Option.bind (getK tb O k p) fun x => Option.bind (getKs tb O (k' :: ks) ps) fun y => some ((x.1, y.1), x.2.1 ++ y.2.1, x.2.2 ++ y.2.2)
  | _, _ => none
def getV (tb : Tab I) (O : Obs I) : (v : V) → PV I → Option (TyV I v × List Nat × List (Option Nat))
  | .k k, p => getK tb O k p
  | .lvs ks, .agg ls => bif noDat ks then Option.bind (flatG tb 300 ls) fun ls' => getKs tb O ks ls' else none
  | .lvs ks, .dat E x => bif noDat ks then Option.bind (flatG tb 300 [.dat E x]) fun ls' => getKs tb O ks ls' else none
  | _, _ => none
def getT (tb : Tab I) (O : Obs I) : (vs : List V) → List (PV I) → Option (TyT I vs × List Nat × List (Option Nat))
  | [], [] => some ((), [], [])
  | [v], [p] => getV tb O v p
  | v :: v' :: vs, p :: ps => Option.bind (getV tb O v p) fun x => Option.bind (getT tb O (v' :: vs) ps) fun y => some ((x.1, y.1), x.2.1 ++ y.2.1, x.2.2 ++ y.2.2)
  | _, _ => none
/-! ### writing -/
def pvKd (tb : Tab I) : (k : Kd) → Ty I k → PV I
  | .int k, n => .int k n
  | .bool, b => .bool b
  | .str, s => .str s
  | .sl E, xs => .sl E xs false
  | .dat E, x => .dat E x
  | .any, _ => .any
def pvK (tb : Tab I) (nb : Nat) : (k : K) → TyK I k → PV I
  | .d kd, x => pvKd tb kd x
  | .row _ _, _ => .vw nb
def obK : (k : K) → TyK I k → List (Ob I)
  | .d _, _ => []
  | .row E fl, xs => [.row E xs fl]
def cnK : K → Nat
  | .d _ => 0
  | .row _ _ => 1
def pvKs (tb : Tab I) : Nat → (ks : List K) → TyKs I ks → List (PV I)
  | _, [], _ => []
  | nb, [k], x => [pvK tb nb k x]
  | nb, k :: k' :: ks, q => pvK tb nb k q.1 :: pvKs tb (nb + cnK k) (k' :: ks) q.2
def obKs : (ks : List K) → TyKs I ks → List (Ob I)
  | [], _ => []
  | [k], x => obK k x
  | k :: k' :: ks, q => obK k q.1 ++ obKs (k' :: ks) q.2
def cnKs : List K → Nat
  | [] => 0
  | [k] => cnK k
  | k :: k' :: ks => cnK k + cnKs (k' :: ks)
def pvV (tb : Tab I) (nb : Nat) : (v : V) → TyV I v → PV I
  | .k k, x => pvK tb nb k x
  | .lvs ks, q => .agg (pvKs tb nb ks q)
def obV : (v : V) → TyV I v → List (Ob I)
  | .k k, x => obK k x
  | .lvs ks, q => obKs ks q
def cnV : V → Nat
  | .k k => cnK k
  | .lvs ks => cnKs ks
def pvT (tb : Tab I) : Nat → (vs : List V) → TyT I vs → List (PV I)
  | _, [], _ => []
  | nb, [v], x => [pvV tb nb v x]
  | nb, v :: v' :: vs, q => pvV tb nb v q.1 :: pvT tb (nb + cnV v) (v' :: vs) q.2
def obT : (vs : List V) → TyT I vs → List (Ob I)
  | [], _ => []
  | [v], x => obV v x
  | v :: v' :: vs, q => obV v q.1 ++ obT (v' :: vs) q.2
def cnT : List V → Nat
  | [] => 0
  | [v] => cnV v
  | v :: v' :: vs => cnV v + cnT (v' :: vs)

variable {P : Program} {tb : Tab I} {X X' : Cxt} {c c' : Cx} {σ τ : S} {O : Obs I}
/-- Rows whose cells are settled, or are settled by now. -/
def Sett (X : Cxt) (c : Cx) (σ : S) (O : Obs I) (LS : List Nat) : Prop := (∀ l E (xs : List (I E)) fl, O l = some (some (.row E xs fl)) → (fl = true ∨ l ∈ LS) → ObjOk X c σ l (.row E xs true)) ∧
  ∀ l E (xs : List (I E)), O l = some (some (.ro E xs)) → ObjOk X c σ l (.ro E xs)
theorem Sett.sub {LS LS' : List Nat} (h : Sett X c σ O LS) (k : ∀ l ∈ LS', l ∈ LS) : Sett X c σ O LS' := ⟨fun l E xs fl ho hl => h.1 l E xs fl ho (hl.imp id (k l)), h.2⟩
theorem dat1_ok {LS : List Nat} (hS : Sett X c σ O LS) {p q : PV I} {ls : List Nat} (h : dat1 O p = some (q, ls)) (hl : ∀ l ∈ ls, l ∈ LS) {v : Value} (hv : RV X c σ p v) : RV X c σ q v := by
  unfold dat1 at h
  split at h
  · rename_i l
    split at h
    · rename_i E xs fl ho
      cases h
      obtain ⟨A, k, ow, h1, h2⟩ := hS.1 l E xs fl ho (by
        cases fl
        · exact .inr (hl l (by simp))
        · exact .inl rfl)
      simp only [RV] at hv ⊢
      obtain ⟨p, h3, rfl⟩ := hv
      rw [h1] at h3
      cases h3
      exact ⟨A, k, rfl, h2.sl, fun e => by cases e⟩
    · rename_i E xs ho
      cases h
      obtain ⟨A, k, h1, h2⟩ := hS.2 l E xs ho
      simp only [RV] at hv ⊢
      obtain ⟨p, h3, rfl⟩ := hv
      rw [h1] at h3
      cases h3
      exact ⟨A, k, rfl, h2, fun e => by cases e⟩
    · cases h
  · cases h
    simp only [RV] at hv ⊢
    obtain ⟨A, rfl⟩ := hv
    exact ⟨A, 0, rfl, Sl.nil_ _ _ _ (Nat.zero_le _), fun _ => rfl⟩
  · cases h; exact hv
theorem datL_g {LS : List Nat} (hS : Sett X c σ O LS) : ∀ {ps qs : List (PV I)} {ls : List Nat}, datL O ps = some (qs, ls) → (∀ l ∈ ls, l ∈ LS) → ∀ {cs : List Value}, RG X c σ ps cs → RG X c σ qs cs
  | [], _, _, h, _, _, hv => by cases h; exact hv
  | p :: r, _, _, h, hl, cs, hv => by
    obtain ⟨q, hq, h⟩ := bind_some h
    obtain ⟨t, ht, h⟩ := bind_some h
    cases h
    simp only [RG] at hv ⊢
    obtain ⟨a, r', rfl, h1, h2⟩ := hv
    refine ⟨a, r', rfl, ?_, datL_g hS (ls := t.2) ht (fun l hm => hl l (by simp [hm])) h2⟩
    rcases h1 with h1 | ⟨h0, v, e, h1⟩
    · left
      cases p <;> first | exact h1.elim | (cases hq; exact h1)
    · right
      have hd := dat1_ok hS (ls := q.2) hq (fun l hm => hl l (by simp [hm])) h1
      refine ⟨?_, v, e, hd⟩
      unfold dat1 at hq
      split at hq
      · split at hq
        · cases hq; rfl
        · cases hq; rfl
        · cases hq
      · cases hq; rfl
      · cases hq; exact h0
theorem ofG_ok (ht : TabOk P tb) {E : TypeId} {ls : List (PV I)} {x : I E} {cs : List Value} (h : ofG tb E ls = some x) (hl : RG X c σ ls cs) : Rp.cells σ x cs := by
  unfold ofG at h
  split at h
  · obtain ⟨e, rfl⟩ := castD_ok h
    subst e
    simp only [RG] at hl
    obtain ⟨a, r, rfl, h1, rfl⟩ := hl
    rcases h1 with h1 | ⟨h0, _⟩
    · have h2 : Rp.cells σ _ a := h1
      simpa using h2
    · cases h0
  · exact ht.of _ _ _ _ _ _ _ h hl
theorem mkAgg_ok {T : TypeId} {ls : List (PV I)} {cs : List Value} (hl : RG X c σ ls cs) : RV X c σ (mkAgg T ls) (.agg cs.toArray) := by
  unfold mkAgg
  split
  · rename_i E x
    cases Nat.beq E T with
    | true =>
      simp only [RG] at hl
      obtain ⟨a, r, rfl, h1, rfl⟩ := hl
      rcases h1 with h1 | ⟨h0, _⟩
      · simp only [cond_true, RV]
        exact ⟨a, by simp, h1⟩
      · cases h0
    | false => simp only [cond_false, RV]; exact ⟨cs, rfl, hl⟩
  · simp only [RV]; exact ⟨cs, rfl, hl⟩
/-- Pieces of one cell each. -/
theorem flatG_ok (ht : TabOk P tb) : ∀ {f : Nat} {ls qs : List (PV I)} {cs : List Value}, flatG tb f ls = some qs → RG X c σ ls cs → RVs X c σ qs cs
  | 0, _, _, _, h, _ => by cases h
  | f + 1, [], _, _, h, hl => by
    cases h
    simpa only [RG, RVs] using hl
  | f + 1, p :: ps, qs, cs, h, hl => by
    simp only [flatG] at h
    simp only [RG] at hl
    obtain ⟨a, r, rfl, h1, h2⟩ := hl
    split at h
    · rename_i E x
      rcases h1 with h1 | ⟨h0, _⟩
      · exact flatG_ok ht h (RG.app _ _ _ _ (ht.lf X c σ E x a h1) h2)
      · cases h0
    · rename_i hne
      obtain ⟨r', hr', h⟩ := bind_some h
      cases h
      rcases h1 with h1 | ⟨h0, v, rfl, h1⟩
      · exact (by cases p <;> first | exact h1.elim | exact absurd rfl (hne _ _))
      · simp only [RVs]
        exact ⟨v, r, rfl, h1, flatG_ok ht hr' h2⟩
theorem getSl_ok {LS : List Nat} (hS : Sett X c σ O LS) {E : TypeId} {p : PV I} {x : List (I E)} {ls : List Nat} (h : getSl O E p = some (x, ls)) (hl : ∀ l ∈ ls, l ∈ LS) {v : Value} (hv : RV X c σ p v) : ∃ A k, v = .slice A x.length k ∧ Sl σ x A k := by
  obtain ⟨q, hq, h⟩ := bind_some h
  split at h
  · rename_i E' xs f e
    obtain ⟨ys, hys, h⟩ := bind_some h
    cases h
    obtain ⟨q1, q2⟩ := q
    simp only at e
    subst e
    have := dat1_ok hS hq hl hv
    simp only [RV] at this
    obtain ⟨A, k, e1, e2, _⟩ := this
    obtain ⟨e, rfl⟩ := castL_ok hys
    subst e
    exact ⟨A, k, e1, e2⟩
  · cases h
theorem getKd_ok (ht : TabOk P tb) {LS : List Nat} (hS : Sett X c σ O LS) {k : Kd} {p : PV I} {x : Ty I k} {ls : List Nat} (h : getKd tb O k p = some (x, ls)) (hl : ∀ l ∈ ls, l ∈ LS) {v : Value} (hv : RV X c σ p v) : DV σ k x v := by
  unfold getKd at h
  split at h
  · obtain ⟨e, h2⟩ := if_some' h
    clear h
    subst e
    cases h2
    simpa only [RV, DV] using hv
  · cases h; simpa only [RV, DV] using hv
  · cases h; simpa only [RV, DV] using hv
  · exact getSl_ok hS h hl hv
  · obtain ⟨y, hy, h2⟩ := bind_some h
    clear h
    cases h2
    obtain ⟨e, e2⟩ := castD_ok hy
    subst e
    subst e2
    simp only [RV] at hv
    exact hv
  · obtain ⟨t, ht', h⟩ := bind_some h
    obtain ⟨y, hy, h⟩ := bind_some h
    cases h
    simp only [RV] at hv
    obtain ⟨cs, rfl, hcs⟩ := hv
    exact ⟨cs, rfl, ofG_ok ht hy (datL_g hS (ls := t.2) ht' hl hcs)⟩
  · trivial
  · cases h
/-- The rows that are taken lie at 'pls'. -/
def At (c : Cx) : List (Option Nat) → List Pl → Prop
  | [], pls => pls = []
  | r :: rs, pls => ∃ p ps, pls = p :: ps ∧ (match r with | some l => c l = some p | none => p.w = none) ∧ At c rs ps
theorem At.app : ∀ {r1 r2 : List (Option Nat)} {p1 p2 : List Pl}, At c r1 p1 → At c r2 p2 → At c (r1 ++ r2) (p1 ++ p2)
  | [], _, _, _, h1, h2 => by cases h1; exact h2
  | _ :: _, _, _, _, ⟨p, ps, e, h, h1⟩, h2 => by subst e; exact ⟨p, _, rfl, h, h1.app h2⟩
/-- The rows as they stand, but for those that are settled by now. -/
def Rows (X : Cxt) (c : Cx) (σ : S) (O : Obs I) (LS : List Nat) : Prop := ∀ l E (xs : List (I E)) fl, O l = some (some (.row E xs fl)) → l ∉ LS → ObjOk X c σ l (.row E xs fl)
theorem getK_ok (ht : TabOk P tb) {LS : List Nat} (hS : Sett X c σ O LS) (hO : Rows X c σ O LS) {k : K} {p : PV I} {x : TyK I k} {ls : List Nat} {rows : List (Option Nat)} (h : getK tb O k p = some (x, ls, rows)) (hl : ∀ l ∈ ls, l ∈ LS)
    (hr : ∀ l, some l ∈ rows → l ∉ LS) {v : Value} (hv : RV X c σ p v) : ∃ pls, TK σ k x v pls ∧ At c rows pls := by
  unfold getK at h
  split at h
  · obtain ⟨y, hy, h⟩ := bind_some h
    cases h
    exact ⟨[], ⟨getKd_ok ht hS hy hl hv, rfl⟩, rfl⟩
  · rename_i E fl l
    split at h
    · rename_i E' xs fl' ho
      obtain ⟨ys, hys, h⟩ := bind_some h
      obtain ⟨e, rfl⟩ := castL_ok hys
      subst e
      simp only [RV] at hv
      obtain ⟨pl, h3, rfl⟩ := hv
      have key : ∀ f : Bool, ObjOk X c σ l (.row E' xs f) → ∃ pls, TK σ (.row E' f) xs (.slice pl.A pl.m pl.k) pls ∧ At c [some l] pls := by
        rintro f ⟨A, k, ow, h1, h2⟩
        rw [h1] at h3
        cases h3
        exact ⟨[⟨A, k, xs.length, ow⟩], ⟨A, k, ow, rfl, rfl, h2⟩, ⟨_, [], rfl, h1, rfl⟩⟩
      split at h
      · cases h
        exact key false (hO l E' xs _ ho (hr l (by simp)))
      · cases h
        exact key true (hO l E' xs _ ho (hr l (by simp)))
      · cases h
    · cases h
  · cases h
    simp only [RV] at hv
    obtain ⟨A, rfl⟩ := hv
    exact ⟨[⟨A, 0, 0, none⟩], ⟨A, 0, none, rfl, rfl, .inl ⟨rfl, rfl⟩⟩, ⟨_, [], rfl, rfl, rfl⟩⟩
  · obtain ⟨ys, hys, h2⟩ := bind_some h
    clear h
    cases h2
    obtain ⟨e, e2⟩ := castL_ok hys
    subst e
    subst e2
    simp only [RV] at hv
    obtain ⟨A, k, rfl, hs, hf⟩ := hv
    have hk := hf (by simp)
    subst hk
    exact ⟨[⟨A, _, _, none⟩], ⟨A, _, none, rfl, rfl, .inr ⟨rfl, rfl, hs⟩⟩, ⟨_, [], rfl, rfl, rfl⟩⟩
  · cases h
theorem getKs_ok (ht : TabOk P tb) {LS : List Nat} (hS : Sett X c σ O LS) (hO : Rows X c σ O LS) : ∀ {ks : List K} {ps : List (PV I)} {x : TyKs I ks} {ls : List Nat} {rows : List (Option Nat)}, getKs tb O ks ps = some (x, ls, rows) → (∀ l ∈ ls, l ∈ LS) →
    (∀ l, some l ∈ rows → l ∉ LS) → ∀ {vs : List Value}, RVs X c σ ps vs → ∃ pls, TKs σ ks x vs pls ∧ At c rows pls
  | [], [], _, _, _, h, _, _, vs, hv => by
    cases h
    simp only [RVs] at hv
    exact ⟨[], ⟨hv, rfl⟩, rfl⟩
  | [k], [p], x, ls, rows, h, hl, hr, vs, hv => by
    simp only [RVs] at hv
    obtain ⟨v, r, rfl, h1, rfl⟩ := hv
    obtain ⟨pls, h2, h3⟩ := getK_ok ht hS hO h hl hr h1
    exact ⟨pls, ⟨v, rfl, h2⟩, h3⟩
  | k :: k' :: ks, p :: ps, x, ls, rows, h, hl, hr, vs, hv => by
    obtain ⟨y, hy, h⟩ := bind_some h
    obtain ⟨z, hz, h⟩ := bind_some h
    cases h
    simp only [RVs] at hv
    obtain ⟨v, r, rfl, h1, h2⟩ := hv
    obtain ⟨p1, a1, a2⟩ := getK_ok ht hS hO (ls := y.2.1) (rows := y.2.2) hy (fun l hm => hl l (by simp [hm])) (fun l hm => hr l (by simp [hm])) h1
    obtain ⟨p2, b1, b2⟩ := getKs_ok ht hS hO (ls := z.2.1) (rows := z.2.2) hz (fun l hm => hl l (by simp [hm])) (fun l hm => hr l (by simp [hm])) h2
    exact ⟨p1 ++ p2, ⟨v, r, p1, p2, rfl, rfl, a1, b1⟩, a2.app b2⟩
  | [], _ :: _, _, _, _, h, _, _, _, _ => by simp [getKs] at h
  | [_], [], _, _, _, h, _, _, _, _ => by simp [getKs] at h
  | [_], _ :: _ :: _, _, _, _, h, _, _, _, _ => by simp [getKs] at h
  | _ :: _ :: _, [], _, _, _, h, _, _, _, _ => by simp [getKs] at h
theorem getV_ok (ht : TabOk P tb) {LS : List Nat} (hS : Sett X c σ O LS) (hO : Rows X c σ O LS) {k : V} {p : PV I} {x : TyV I k} {ls : List Nat} {rows : List (Option Nat)} (h : getV tb O k p = some (x, ls, rows)) (hl : ∀ l ∈ ls, l ∈ LS)
    (hr : ∀ l, some l ∈ rows → l ∉ LS) {v : Value} (hv : RV X c σ p v) : ∃ pls, TV σ k x v pls ∧ At c rows pls := by
  unfold getV at h
  split at h
  · exact getK_ok ht hS hO h hl hr hv
  · obtain ⟨hnd, h1⟩ := bif_some h
    obtain ⟨ls', hls, h2⟩ := bind_some h1
    simp only [RV] at hv
    obtain ⟨cs, rfl, hcs⟩ := hv
    obtain ⟨pls, h1, h2⟩ := getKs_ok ht hS hO h2 hl hr (flatG_ok ht hls hcs)
    exact ⟨pls, ⟨hnd, cs, rfl, h1⟩, h2⟩
  · obtain ⟨hnd, h1⟩ := bif_some h
    obtain ⟨ls', hls, h2⟩ := bind_some h1
    simp only [RV] at hv
    obtain ⟨cs, rfl, hcs⟩ := hv
    obtain ⟨pls, h1, h2⟩ := getKs_ok ht hS hO h2 hl hr (flatG_ok ht hls (RG.one hcs))
    exact ⟨pls, ⟨hnd, cs, rfl, h1⟩, h2⟩
  · cases h
theorem getT_ok (ht : TabOk P tb) {LS : List Nat} (hS : Sett X c σ O LS) (hO : Rows X c σ O LS) : ∀ {ks : List V} {ps : List (PV I)} {x : TyT I ks} {ls : List Nat} {rows : List (Option Nat)}, getT tb O ks ps = some (x, ls, rows) → (∀ l ∈ ls, l ∈ LS) →
    (∀ l, some l ∈ rows → l ∉ LS) → ∀ {vs : List Value}, RVs X c σ ps vs → ∃ pls, TT σ ks x vs pls ∧ At c rows pls
  | [], [], _, _, _, h, _, _, vs, hv => by
    cases h
    simp only [RVs] at hv
    exact ⟨[], ⟨hv, rfl⟩, rfl⟩
  | [k], [p], x, ls, rows, h, hl, hr, vs, hv => by
    simp only [RVs] at hv
    obtain ⟨v, r, rfl, h1, rfl⟩ := hv
    obtain ⟨pls, h2, h3⟩ := getV_ok ht hS hO h hl hr h1
    exact ⟨pls, ⟨v, rfl, h2⟩, h3⟩
  | k :: k' :: ks, p :: ps, x, ls, rows, h, hl, hr, vs, hv => by
    obtain ⟨y, hy, h⟩ := bind_some h
    obtain ⟨z, hz, h⟩ := bind_some h
    cases h
    simp only [RVs] at hv
    obtain ⟨v, r, rfl, h1, h2⟩ := hv
    obtain ⟨p1, a1, a2⟩ := getV_ok ht hS hO (ls := y.2.1) (rows := y.2.2) hy (fun l hm => hl l (by simp [hm])) (fun l hm => hr l (by simp [hm])) h1
    obtain ⟨p2, b1, b2⟩ := getT_ok ht hS hO (ls := z.2.1) (rows := z.2.2) hz (fun l hm => hl l (by simp [hm])) (fun l hm => hr l (by simp [hm])) h2
    exact ⟨p1 ++ p2, ⟨v, r, p1, p2, rfl, rfl, a1, b1⟩, a2.app b2⟩
  | [], _ :: _, _, _, _, h, _, _, _, _ => by simp [getT] at h
  | [_], [], _, _, _, h, _, _, _, _ => by simp [getT] at h
  | [_], _ :: _ :: _, _, _, _, h, _, _, _, _ => by simp [getT] at h
  | _ :: _ :: _, [], _, _, _, h, _, _, _, _ => by simp [getT] at h
/-- Numbers from nb on stand for these places. -/
def Num (c : Cx) (nb : Nat) (pls : List Pl) : Prop := ∀ i pl, pls[i]? = some pl → c (nb + i) = some pl
theorem Num.left {nb : Nat} {p1 p2 : List Pl} (h : Num c nb (p1 ++ p2)) : Num c nb p1 := fun i pl hi => h i pl (by rw [List.getElem?_append_left (List.getElem?_eq_some_iff.1 hi).1]; exact hi)
theorem Num.right {nb : Nat} {p1 p2 : List Pl} (h : Num c nb (p1 ++ p2)) : Num c (nb + p1.length) p2 := fun i pl hi => by
  rw [Nat.add_assoc]
  refine h _ pl ?_
  rw [List.getElem?_append_right (by omega)]
  simpa using hi
theorem pvKd_ok (ht : TabOk P tb) : ∀ {k : Kd} {x : Ty I k} {v : Value}, DV σ k x v → RV X c σ (pvKd tb k x) v
  | .int _, _, _, h => by simpa only [pvKd, RV, DV] using h
  | .bool, _, _, h => by simpa only [pvKd, RV, DV] using h
  | .str, _, _, h => by simpa only [pvKd, RV, DV] using h
  | .sl _, _, _, ⟨A, k, e, h⟩ => by
    simp only [pvKd, RV]
    exact ⟨A, k, e, h, fun e => by cases e⟩
  | .dat _, _, _, ⟨cs, e, h⟩ => by
    simp only [pvKd, RV]
    exact ⟨cs, e, h⟩
  | .any, _, _, _ => by simp only [pvKd, RV]
theorem pvK_ok (ht : TabOk P tb) : ∀ {k : K} {x : TyK I k} {v : Value} {pls : List Pl} {nb : Nat}, TK σ k x v pls → Num c nb pls → RV X c σ (pvK tb nb k x) v ∧ pls.length = cnK k
  | .d _, _, _, _, _, ⟨h, e⟩, _ => ⟨pvKd_ok ht h, by rw [e]; rfl⟩
  | .row _ _, _, _, _, _, ⟨A, k, ow, e, e2, _⟩, hn => by
    subst e2
    have := hn 0 _ rfl
    simp only [pvK, RV]
    exact ⟨⟨_, this, e⟩, rfl⟩
theorem pvKs_ok (ht : TabOk P tb) : ∀ {ks : List K} {x : TyKs I ks} {vs : List Value} {pls : List Pl} {nb : Nat}, TKs σ ks x vs pls → Num c nb pls → RVs X c σ (pvKs tb nb ks x) vs ∧ pls.length = cnKs ks
  | [], _, _, _, _, ⟨h, e⟩, _ => ⟨by simpa only [pvKs, RVs] using h, by rw [e]; rfl⟩
  | [_], _, _, _, _, ⟨v, e, h⟩, hn => by
    obtain ⟨h1, h2⟩ := pvK_ok (X := X) ht h hn
    simp only [pvKs, RVs]
    exact ⟨⟨v, [], e, h1, rfl⟩, h2⟩
  | k :: k' :: ks, q, _, _, nb, ⟨v, r, p1, p2, e1, e2, h1, h2⟩, hn => by
    subst e2
    obtain ⟨a1, a2⟩ := pvK_ok (X := X) ht h1 hn.left
    obtain ⟨b1, b2⟩ := pvKs_ok (ks := k' :: ks) (x := q.2) (nb := nb + cnK k) ht h2 (by rw [← a2]; exact hn.right)
    simp only [pvKs, RVs]
    exact ⟨⟨v, r, e1, a1, b1⟩, by rw [List.length_append, a2, b2]; rfl⟩
omit [∀ E, Rp (I E)] in
theorem pvKs_dat : ∀ {ks : List K} (nb : Nat) (q : TyKs I ks), noDat ks = true → (pvKs tb nb ks q).all (fun p => !(isDat p)) = true
  | [], _, _, _ => rfl
  | [k], nb, q, h => by
    cases k with
    | d k => cases k <;> first | rfl | cases h
    | row E fl => rfl
  | k :: k' :: ks, nb, q, h => by
    have ih := fun h' => pvKs_dat (ks := k' :: ks) (nb + cnK k) q.2 h'
    simp only [pvKs, List.all_cons, Bool.and_eq_true]
    cases k with
    | d k => cases k <;> first | exact ⟨rfl, ih h⟩ | cases h
    | row E fl => exact ⟨rfl, ih h⟩
theorem pvV_ok (ht : TabOk P tb) : ∀ {k : V} {x : TyV I k} {v : Value} {pls : List Pl} {nb : Nat}, TV σ k x v pls → Num c nb pls → RV X c σ (pvV tb nb k x) v ∧ pls.length = cnV k
  | .k _, _, _, _, _, h, hn => pvK_ok ht h hn
  | .lvs _, _, _, _, _, ⟨h0, cs, e, h⟩, hn => by
    obtain ⟨h1, h2⟩ := pvKs_ok (X := X) ht h hn
    simp only [pvV, RV]
    exact ⟨⟨cs, e, RVs.g h1 (pvKs_dat _ _ h0)⟩, h2⟩
theorem pvT_ok (ht : TabOk P tb) : ∀ {ks : List V} {x : TyT I ks} {vs : List Value} {pls : List Pl} {nb : Nat}, TT σ ks x vs pls → Num c nb pls → RVs X c σ (pvT tb nb ks x) vs ∧ pls.length = cnT ks
  | [], _, _, _, _, ⟨h, e⟩, _ => ⟨by simpa only [pvT, RVs] using h, by rw [e]; rfl⟩
  | [_], _, _, _, _, ⟨v, e, h⟩, hn => by
    obtain ⟨h1, h2⟩ := pvV_ok (X := X) ht h hn
    simp only [pvT, RVs]
    exact ⟨⟨v, [], e, h1, rfl⟩, h2⟩
  | k :: k' :: ks, q, _, _, nb, ⟨v, r, p1, p2, e1, e2, h1, h2⟩, hn => by
    subst e2
    obtain ⟨a1, a2⟩ := pvV_ok (X := X) ht h1 hn.left
    obtain ⟨b1, b2⟩ := pvT_ok (ks := k' :: ks) (x := q.2) (nb := nb + cnV k) ht h2 (by rw [← a2]; exact hn.right)
    simp only [pvT, RVs]
    exact ⟨⟨v, r, e1, a1, b1⟩, by rw [List.length_append, a2, b2]; rfl⟩
/-- The objects that belong to a value. -/
def ObsAt (σ : S) (os : List (Ob I)) (pls : List Pl) : Prop := os.length = pls.length ∧ ∀ (i : Nat) (o : Ob I) (pl : Pl), os[i]? = some o → pls[i]? = some pl → ∀ (X : Cxt) (c : Cx) (l : Nat), c l = some pl → ObjOk X c σ l o
theorem ObsAt.nil (σ : S) : ObsAt σ ([] : List (Ob I)) [] := ⟨rfl, fun i o pl h => by simp at h⟩
theorem ObsAt.app {o1 o2 : List (Ob I)} {p1 p2 : List Pl} (h1 : ObsAt σ o1 p1) (h2 : ObsAt σ o2 p2) : ObsAt σ (o1 ++ o2) (p1 ++ p2) := by
  refine ⟨by simp [h1.1, h2.1], fun i o pl hi hp => ?_⟩
  by_cases hlt : i < o1.length
  · rw [List.getElem?_append_left hlt] at hi
    rw [List.getElem?_append_left (by rw [← h1.1]; exact hlt)] at hp
    exact h1.2 i o pl hi hp
  · rw [List.getElem?_append_right (by omega)] at hi
    rw [List.getElem?_append_right (by rw [← h1.1]; omega), ← h1.1] at hp
    exact h2.2 _ o pl hi hp
theorem obK_ok : ∀ {k : K} {x : TyK I k} {v : Value} {pls : List Pl}, TK σ k x v pls → ObsAt σ (obK k x) pls
  | .d _, _, _, _, ⟨_, e⟩ => by subst e; exact ObsAt.nil σ
  | .row E fl, xs, _, _, ⟨A, k, ow, e, e2, h⟩ => by
    subst e2
    refine ⟨rfl, fun i o pl hi hp X c l hc => ?_⟩
    cases i with
    | zero =>
      simp [obK] at hi hp
      subst hi
      subst hp
      exact ⟨A, k, ow, hc, h⟩
    | succ i => simp [obK] at hi
theorem obKs_ok : ∀ {ks : List K} {x : TyKs I ks} {vs : List Value} {pls : List Pl}, TKs σ ks x vs pls → ObsAt σ (obKs ks x) pls
  | [], _, _, _, ⟨_, e⟩ => by subst e; exact ObsAt.nil σ
  | [_], _, _, _, ⟨_, _, h⟩ => obK_ok h
  | _ :: k' :: ks, q, _, _, ⟨v, r, p1, p2, e1, e2, h1, h2⟩ => by
    subst e2
    exact (obK_ok h1).app (obKs_ok (ks := k' :: ks) (x := q.2) h2)
theorem obV_ok : ∀ {k : V} {x : TyV I k} {v : Value} {pls : List Pl}, TV σ k x v pls → ObsAt σ (obV k x) pls
  | .k _, _, _, _, h => obK_ok h
  | .lvs _, _, _, _, ⟨_, _, _, h⟩ => obKs_ok h
theorem obT_ok : ∀ {ks : List V} {x : TyT I ks} {vs : List Value} {pls : List Pl}, TT σ ks x vs pls → ObsAt σ (obT ks x) pls
  | [], _, _, _, ⟨_, e⟩ => by subst e; exact ObsAt.nil σ
  | [_], _, _, _, ⟨_, _, h⟩ => obV_ok h
  | _ :: k' :: ks, q, _, _, ⟨v, r, p1, p2, e1, e2, h1, h2⟩ => by
    subst e2
    exact (obV_ok h1).app (obT_ok (ks := k' :: ks) (x := q.2) h2)

/-! ### more objects at once -/
def addO (O : Obs I) : Nat → List (Ob I) → Obs I
  | _, [] => O
  | nb, o :: os => addO (upF O nb (some o)) (nb + 1) os
def addN (s : St I) (nb : Nat) (os : List (Ob I)) : St I := ⟨s.n, s.F, addO s.O nb os, s.nx⟩
def freeN (O : Obs I) : Nat → List (Ob I) → Bool
  | _, [] => true
  | nb, _ :: os => (O nb).isNone && freeN O (nb + 1) os
omit [∀ E, Rp (I E)] in
theorem freeN_upF {O : Obs I} {l : Nat} {o : Option (Ob I)} : ∀ {os : List (Ob I)} {nb : Nat}, l < nb → freeN O nb os = true → freeN (upF O l o) nb os = true
  | [], _, _, _ => rfl
  | _ :: os, nb, hl, h => by
    simp only [freeN, Bool.and_eq_true] at h ⊢
    exact ⟨by rw [upF_ne (by omega)]; exact h.1, freeN_upF (by omega) h.2⟩
def addCN (c : Cx) : Nat → List Pl → Cx
  | _, [] => c
  | nb, p :: ps => addCN (addC c nb p) (nb + 1) ps
theorem addCN_old : ∀ {ps : List Pl} {c : Cx} {nb l : Nat}, l < nb → addCN c nb ps l = c l
  | [], _, _, _, _ => rfl
  | p :: ps, c, nb, l, h => by
    simp only [addCN]
    rw [addCN_old (by omega)]
    simp [addC, Nat.ne_of_lt h]
theorem addCN_num : ∀ {ps : List Pl} {c : Cx} {nb : Nat}, Num (addCN c nb ps) nb ps
  | [], _, _, _, _, h => by simp at h
  | p :: ps, c, nb, 0, pl, h => by
    simp at h
    subst h
    simp only [addCN, Nat.add_zero]
    rw [addCN_old (by omega), addC_self]
  | p :: ps, c, nb, i + 1, pl, h => by
    simp only [addCN]
    rw [show nb + (i + 1) = nb + 1 + i from by omega]
    exact addCN_num i pl (by simpa using h)
/-- New objects, at numbers that were free. -/
theorem Rel.addN {n : Nat} {F : Fr} : ∀ {os : List (Ob I)} {pls : List Pl} {c : Cx} {s : St I} {nb : Nat}, Rel X c σ s n F → freeN s.O nb os = true → ObsAt σ os pls → (ows pls).Nodup →
    (∀ g ∈ ows pls, X.M g ∧ ∀ l' p', live s l' → c l' = some p' → p'.w ≠ some g) → Cx.le c (addCN c nb pls) ∧ Rel X (addCN c nb pls) σ (Qx.addN s nb os) n F
  | [], [], c, s, nb, h, _, _, _, _ => ⟨Cx.le_refl c, h⟩
  | [], _ :: _, _, _, _, _, _, ho, _, _ => by have := ho.1; simp at this
  | _ :: _, [], _, _, _, _, _, ho, _, _ => by have := ho.1; simp at this
  | o :: os, p :: pls, c, s, nb, h, hf, ho, hd, hg => by
    simp only [freeN, Bool.and_eq_true] at hf
    have hnb : s.O nb = none := by simpa using hf.1
    have hob : ObjOk X (addC c nb p) σ nb o := ho.2 0 o p rfl rfl _ _ _ (addC_self _ _ _)
    obtain ⟨h1, h2⟩ := h.add (o := o) (p := p) hnb (fun g hw => hg g (by simp [ows, hw])) hob
    have hd' : (ows pls).Nodup := by
      simp only [ows, List.filterMap_cons] at hd ⊢
      cases hw : p.w with
      | none => rw [hw] at hd; exact hd
      | some g => rw [hw] at hd; exact (List.nodup_cons.1 hd).2
    obtain ⟨h3, h4⟩ := Rel.addN (s := setO s nb (some o)) (nb := nb + 1) (pls := pls) (os := os) h2 (freeN_upF (by omega) hf.2) ⟨by simpa using ho.1, fun i o' pl hi hp => ho.2 (i + 1) o' pl (by simpa using hi) (by simpa using hp)⟩ hd' (fun g hm => ⟨(hg g (by simp only [ows, List.filterMap_cons] at hm ⊢; cases p.w <;> simp [hm])).1, fun l' p' hl' hc' hw => by
      by_cases e : l' = nb
      · subst e
        rw [addC_self] at hc'
        cases hc'
        simp only [ows, List.filterMap_cons, hw] at hd
        exact (List.nodup_cons.1 hd).1 hm
      · have hl2 : live s l' := by
          obtain ⟨o', h'⟩ := hl'
          rcases upF_some h' with ⟨e', _⟩ | ⟨_, h⟩
          · exact absurd e' e
          · exact ⟨o', h⟩
        simp only [addC, if_neg e] at hc'
        exact (hg g (by simp only [ows, List.filterMap_cons] at hm ⊢; cases p.w <;> simp [hm])).2 l' p' hl2 hc' hw⟩)
    exact ⟨Cx.le_trans h1 h3, h4⟩
end
end Go.Qx
