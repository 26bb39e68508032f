/- The symbolic executor: calls by the contracts of functions. -/
import Derived.Test.YtdipagkcdpcnbaaGreatQRow
namespace Go.Qx
open Go Go.RowKit Go.Sx

section
variable {I : TypeId → Type} [∀ E, Rp (I E)]
def unret (rs : List V) (p : PV I) : Option (List (PV I)) := match rs with
  | [_] => some [p]
  | _ => match p with
    | .tup ls => some ls
    | _ => none
def pvDs (tb : Tab I) : (ks : List Kd) → Tys I ks → List (PV I)
  | [], _ => []
  | k :: ks, q => pvKd tb k q.1 :: pvDs tb ks q.2
def cloK (tb : Tab I) (rs : List V) (e : Ef I) : Option (TyT I rs) :=
  bif isNil e.upd && isNil e.new then Option.bind (unret rs e.p) fun ps => Option.bind (getT tb (fun _ => none) rs ps) fun x => bif isNil x.2.1 && isNil x.2.2 then some x.1 else none else none
/-- A closure, as a function of plain data. -/
def cloRun (tb : Tab I) (disp : Disp I) (O : Obs I) (nb : Nat) (f : FuncId) (ls : List (PV I)) (ks : List Kd) (rs : List V) : Fun I ks (TyT I rs) := cur ks fun q => disp (TyT I rs) f O nb (pvDs tb ks q ++ ls) (cloK tb rs)
structure AccT where
  pub : List Nat
  all : List (Option Nat)
  gv : List (Nat × TypeId × V)
  rv : List Nat
def castFn (ks : List Kd) (rs : List V) (ks' : List Kd) (rs' : List V) (g : Fun I ks' (TyT I rs')) : Option (Fun I ks (TyT I rs)) := if h : ks' = ks ∧ rs' = rs then some (h.1 ▸ h.2 ▸ g) else none
def argVar (tb : Tab I) (O : Obs I) (T : TypeId) (v : V) (w : Bool) (p : PV I) : Option (TyV I v × AccT) := match p with
  | .ptr l 0 => match O l with
    | some (some (.var T' ls w')) => bif Nat.beq T T' && (w' || !w) then Option.bind (contP v ls) fun p => Option.bind (getV tb O v p) fun x =>
        bif w then some (x.1, ⟨x.2.1, some l :: x.2.2, [(l, T, v)], []⟩) else bif isNil x.2.2 then some (x.1, ⟨x.2.1, [none], [], [l]⟩) else none else none
    | _ => none
  | _ => none
/-- A row that is lent: what it reads, and the row that must not be granted. -/
def argBor (O : Obs I) (E : TypeId) (p : PV I) : Option (List (I E) × List Nat) := match p with
  | .vw l => match O l with
    | some (some (.row E' xs _)) => Option.bind (castL E E' xs) fun ys => some (ys, [l])
    | some (some (.ro E' xs)) => Option.bind (castL E E' xs) fun ys => some (ys, [])
    | some (some (.bo E' xs)) => Option.bind (castL E E' xs) fun ys => some (ys, [])
    | _ => none
  | .sl E' xs _ => Option.bind (castL E E' xs) fun ys => some (ys, [])
  | .nl _ => some ([], [])
  | _ => none
def argsT (tb : Tab I) (disp : Disp I) (O Oc : Obs I) (nb : Nat) : (ps : List Pk) → List (PV I) → Option (TysP I ps × AccT)
  | [], [] => some ((), ⟨[], [], [], []⟩)
  | .d k :: r, p :: ps => Option.bind (getKd tb O k p) fun x => Option.bind (argsT tb disp O Oc nb r ps) fun y => some ((x.1, y.1), ⟨x.2 ++ y.2.pub, y.2.all, y.2.gv, y.2.rv⟩)
  | .var T v w :: r, p :: ps => Option.bind (argVar tb O T v w p) fun x => Option.bind (argsT tb disp O Oc nb r ps) fun y => some ((x.1, y.1), ⟨x.2.pub ++ y.2.pub, x.2.all ++ y.2.all, x.2.gv ++ y.2.gv, x.2.rv ++ y.2.rv⟩)
  | .row E fl :: r, p :: ps => Option.bind (getK tb O (.row E fl) p) fun x => Option.bind (argsT tb disp O Oc nb r ps) fun y => some ((x.1, y.1), ⟨x.2.1 ++ y.2.pub, x.2.2 ++ y.2.all, y.2.gv, y.2.rv⟩)
  | .fn ks rs :: r, p :: ps => Option.bind (argsT tb disp O Oc nb r ps) fun y => match p with
    | .fn ks' rs' g => Option.bind (castFn ks rs ks' rs' g) fun g' => some ((g', y.1), y.2)
    | .clo f ls => bif tb.fb f then some ((cloRun tb disp Oc nb f ls ks rs, y.1), y.2) else none
    | _ => none
  | .bor E :: r, p :: ps => Option.bind (argBor O E p) fun x => Option.bind (argsT tb disp O Oc nb r ps) fun y => some ((x.1, y.1), ⟨y.2.pub, none :: y.2.all, y.2.gv, x.2 ++ y.2.rv⟩)
  | _, _ => none
def grN (O : Obs I) : List Pk → List (PV I) → List Nat
  | .var _ _ true :: r, .ptr l _ :: ps => (l :: nest O [l]) ++ grN O r ps
  | .row _ _ :: r, p :: ps => numsP p ++ grN O r ps
  | _ :: r, _ :: ps => grN O r ps
  | _, _ => []
def killU : List (Option Nat) → List (Nat × Option (Ob I))
  | [] => []
  | some l :: r => (l, none) :: killU r
  | none :: r => killU r
def varU : List (Nat × TypeId × V) → List (PV I) → List (Nat × Option (Ob I))
  | x :: r, p :: ps => (x.1, some (.var x.2.1 (contL x.2.2 p) true)) :: varU r ps
  | _, _ => []
def chkA (gr : List Nat) (a : AccT) : Bool := rowsOk a.pub a.all && a.all.all (fun x => match x with | some l => memN l gr | none => true) && a.rv.all (fun l => !(memN l gr))
def goRow (tb : Tab I) (r : Row I) (disp : Disp I) (ρ : Type) (O : Obs I) (nb : Nat) (ps : List (PV I)) (k : Ef I → Option ρ) : Option ρ :=
  Option.bind (argsT tb disp O (roO [] (killO (grN O r.ps ps) O)) nb r.ps ps) fun a =>
  bif chkA (grN O r.ps ps) a.2 then Option.bind (appP r.ps r.run a.1) fun res =>
    k ⟨retP ((pvT tb nb (r.rs ++ outV r.ps) res).take r.rs.length), pubU O a.2.pub ++ killU a.2.all ++ varU a.2.gv ((pvT tb nb (r.rs ++ outV r.ps) res).drop r.rs.length), obT (r.rs ++ outV r.ps) res⟩ else none
/-- How calls of one function are answered. -/
structure Ans (I : TypeId → Type) where
  f : FuncId
  go : Disp I → (ρ : Type) → Obs I → Nat → List (PV I) → (Ef I → Option ρ) → Option ρ
structure EntOk (P : Program) (e : Ans I) : Prop where
  par : ∀ (disp : Disp I) (ρ : Type) (O : Obs I) (nb : Nat) (ps : List (PV I)) (k : Ef I → Option ρ), e.go disp ρ O nb ps k = (e.go disp (Ef I) O nb ps some).bind k
  ok : ∀ (disp : Disp I), DispOk P disp → ∀ (O : Obs I) (nb : Nat) (ps : List (PV I)) (ef : Ef I), e.go disp (Ef I) O nb ps some = some ef → CallOk P e.f O nb ps ef
def findE (f : FuncId) : List (Ans I) → Option (Ans I)
  | [] => none
  | e :: r => bif Nat.beq e.f f then some e else findE f r
def dispE (es : List (Ans I)) : Nat → Disp I
  | 0 => fun _ _ _ _ _ _ => none
  | d + 1 => fun ρ f O nb ps k => match findE f es with
    | some e => e.go (dispE es d) ρ O nb ps k
    | none => none
def rowE (tb : Tab I) (r : Row I) : Ans I := ⟨r.f, goRow tb r⟩
/-- The same, where the arguments are looked at first. -/
def goRowS (tb : Tab I) (r : Row I) (chk : Obs I → List (PV I) → Bool) (disp : Disp I) (ρ : Type) (O : Obs I) (nb : Nat) (ps : List (PV I)) (k : Ef I → Option ρ) : Option ρ := bif chk O ps then goRow tb r disp ρ O nb ps k else none
def rowSE (tb : Tab I) (r : Row I) (chk : Obs I → List (PV I) → Bool) : Ans I := ⟨r.f, goRowS tb r chk⟩
def AllE (P : Program) : List (Ans I) → Prop
  | [] => True
  | e :: r => EntOk P e ∧ AllE P r
variable {P : Program} {tb : Tab I} {X : Cxt} {c c' : Cx} {σ τ : S} {s : St I} {n : Nat} {F : Fr} {O : Obs I}
theorem findE_ok {f : FuncId} : ∀ {es : List (Ans I)} {e : Ans I}, AllE P es → findE f es = some e → EntOk P e ∧ e.f = f
  | [], _, _, h => by cases h
  | x :: r, e, ha, h => by
    simp only [findE] at h
    cases hb : Nat.beq x.f f with
    | true => rw [hb] at h; cases h; exact ⟨ha.1, Nat.eq_of_beq_eq_true hb⟩
    | false => rw [hb] at h; exact findE_ok ha.2 h
theorem dispE_ok {es : List (Ans I)} (h : AllE P es) : ∀ d, DispOk P (dispE es d)
  | 0 => ⟨fun _ _ _ _ _ _ => rfl, fun _ _ _ _ _ h => by cases h⟩
  | d + 1 => by
    refine ⟨fun ρ f O nb ps k => ?_, fun f O nb ps e he => ?_⟩
    · simp only [dispE]
      cases hf : findE f es with
      | none => rfl
      | some e => exact (findE_ok h hf).1.par _ _ _ _ _ _
    · simp only [dispE] at he
      split at he
      · rename_i x hx
        obtain ⟨h1, h2⟩ := findE_ok h hx
        rw [← h2]
        exact h1.ok _ (dispE_ok h d) O nb ps e he
      · cases he
theorem pvDs_ok (ht : TabOk P tb) : ∀ {ks : List Kd} {q : Tys I ks} {vs : List Value}, DVs σ ks q vs → RVs X c σ (pvDs tb ks q) vs
  | [], _, _, h => by simpa only [pvDs, RVs, DVs] using h
  | k :: ks, q, _, ⟨v, r, e, h1, h2⟩ => by
    simp only [pvDs, RVs]
    exact ⟨v, r, e, pvKd_ok ht h1, pvDs_ok ht h2⟩
omit [∀ E, Rp (I E)] in
theorem getT_len : ∀ {vs : List V} {ps : List (PV I)} {x}, getT tb O vs ps = some x → ps.length = vs.length
  | [], [], _, _ => rfl
  | [_], [_], _, _ => rfl
  | _ :: v' :: vs, p :: ps, _, h => by
    obtain ⟨y, hy, h⟩ := bind_some h
    obtain ⟨z, hz, h⟩ := bind_some h
    have := getT_len (vs := v' :: vs) hz
    simp [this]
  | [], _ :: _, _, h => by simp [getT] at h
  | [_], [], _, h => by simp [getT] at h
  | [_], _ :: _ :: _, _, h => by simp [getT] at h
  | _ :: _ :: _, [], _, h => by simp [getT] at h
/-- A closure is a function value. -/
theorem clo_ok (ht : TabOk P tb) {disp : Disp I} (hd : DispOk P disp) (hX : X.P = P) (h : Rel X c σ s n F) {gr : List Nat} {Oc : Obs I} (hOc : ∀ l o, Oc l = some (some o) → roO [] (killO gr s.O) l = some (some o)) {M : Nat → Prop}
    (hM : ∀ b, M b → σ.N ≤ b ∨ ∃ l ∈ gr, live s l ∧ ∃ p, c l = some p ∧ p.w = some b) {nb : Nat} {f : FuncId} {ls : List (PV I)} {cs : List Value} (hl : RVs X c σ ls cs) {ks : List Kd} {rs : List V} (hbody : HasBody P f) : FnOk P M σ f [] cs ks rs (cloRun tb disp Oc nb f ls ks rs) := by
  refine ⟨hbody, rfl, fun τ hτ q vs r hq hr => ?_⟩
  unfold cloRun at hr
  rw [app_cur, hd.par] at hr
  obtain ⟨e, he, hr⟩ := bind_some hr
  have hMX : ∀ b, M b → X.M b := fun b hb => by
    rcases hM b hb with hb | ⟨l, _, hlv, p, hc, hw⟩
    · exact .inl (Nat.le_trans h.base hb)
    · exact h.mine l p b hlv hc hw
  have h1 : Rel X c σ ⟨s.n, s.F, killO gr s.O, s.nx⟩ n F := h.less (fun l o ho => (killO_live ho).2) (fun l ho => killO_none.1 ho)
  have h2 : Rel X c τ ⟨s.n, s.F, killO gr s.O, s.nx⟩ n F := h1.stepG hτ hMX fun l p g ⟨o, ho⟩ hc hw hm => by
    obtain ⟨k1, k2⟩ := killO_live ho
    have hlt := (h.objs l o k2).lt hc hw
    rcases hM g hm with hb | ⟨l', hl', hlv, p', hc', hw'⟩
    · have : σ.N ≤ g := hb
      omega
    · exact k1 (by rw [h.inj l l' p p' g ⟨o, k2⟩ hlv hc hc' hw hw']; exact hl')
  have h3 := enter h2 []
  have hlτ : RVs X c τ ls cs := RVs.step (hτ.mono fun b _ hb => hMX b hb) _ _ hl
  have hconv : RVs (within X c τ ⟨s.n, s.F, killO gr s.O, s.nx⟩ []) (roC [] c) τ ls cs := RVs.conv (X := X) (X' := within X c τ ⟨s.n, s.F, killO gr s.O, s.nx⟩ []) (c := c) rfl (within_M h2 []) (fun l p hp => ⟨none, by simp [roC, memN, hp]⟩) _ _ hlτ
  have hnil : e.upd = [] ∧ e.new = [] ∧ ∃ ps, unret rs e.p = some ps ∧ ∃ x, getT tb (fun _ => none) rs ps = some x ∧ x.2.1 = [] ∧ x.2.2 = [] ∧ x.1 = r := by
    unfold cloK at hr
    obtain ⟨hb, hr⟩ := bif_some hr
    simp only [Bool.and_eq_true] at hb
    obtain ⟨ps, hps, hr⟩ := bind_some hr
    obtain ⟨x, hx, hr⟩ := bind_some hr
    obtain ⟨hb2, hr⟩ := bif_some hr
    simp only [Bool.and_eq_true] at hb2
    cases hr
    exact ⟨isNil_ok hb.1, isNil_ok hb.2, ps, hps, x, hx, isNil_ok hb2.1, isNil_ok hb2.2, rfl⟩
  obtain ⟨n1, n2, ps, hps, x, hx, x1, x2, hxr⟩ := hnil
  have hc := hd.ok _ _ _ _ _ he (within X c τ ⟨s.n, s.F, killO gr s.O, s.nx⟩ []) (roC [] c) τ (roS [] ⟨s.n, s.F, killO gr s.O, s.nx⟩) n F (vs ++ cs) hX hOc h3 (RVs.app _ _ _ _ (pvDs_ok ht hq) hconv) (by rw [n2]; rfl)
  rw [← List.nil_append vs] at hc
  refine CallS.mono hc rfl fun v υ hst ⟨c', _, hrel, hv⟩ => ⟨υ, rfl, hst.mono fun b hb hm => ?_, ?_⟩
  · rcases hm with hm | ⟨_, hm, _⟩
    · have : τ.N ≤ b := hm
      omega
    · cases hm
  · have hlen := getT_len hx
    have hws : ∃ ws, v = retV ws ∧ RVs (within X c τ ⟨s.n, s.F, killO gr s.O, s.nx⟩ []) c' υ ps ws := by
      unfold unret at hps
      split at hps
      · cases hps
        exact ⟨[v], rfl, by simp only [RVs]; exact ⟨v, [], rfl, hv, rfl⟩⟩
      · rename_i hne
        split at hps
        · rename_i ls' e'
          cases hps
          rw [e'] at hv
          simp only [RV] at hv
          obtain ⟨ws, rfl, hws⟩ := hv
          refine ⟨ws, ?_, hws⟩
          have hl2 := RVs.len _ _ hws
          cases ws with
          | nil => rfl
          | cons a r =>
            cases r with
            | nil =>
              exfalso
              cases rs with
              | nil => simp at hl2; rw [← hl2] at hlen; simp at hlen
              | cons a' r' =>
                cases r' with
                | nil => exact hne a' rfl
                | cons => simp at hl2 hlen; omega
            | cons => rfl
        · cases hps
    obtain ⟨ws, hw1, hw2⟩ := hws
    obtain ⟨x0, xl, xr⟩ := x
    simp only at x1 x2 hxr
    subst x1
    subst x2
    subst hxr
    obtain ⟨pls, t1, t2⟩ := getT_ok ht Sett.none_ Rows.none_ hx (fun _ h => h) (fun _ h => by cases h) hw2
    have : pls = [] := t2
    subst this
    exact ⟨ws, hw1, t1⟩
omit [∀ E, Rp (I E)] in
theorem castFn_ok {ks ks' : List Kd} {rs rs' : List V} {g : Fun I ks' (TyT I rs')} {g' : Fun I ks (TyT I rs)} (h : castFn ks rs ks' rs' g = some g') : ∃ (e1 : ks' = ks) (e2 : rs' = rs), g' = e1 ▸ e2 ▸ g := by
  unfold castFn at h
  split at h
  · rename_i e; cases h; exact ⟨e.1, e.2, rfl⟩
  · cases h
def outTV : List Pk → List (TypeId × V)
  | [] => []
  | .var T v true :: r => (T, v) :: outTV r
  | _ :: r => outTV r
theorem outTV_snd : ∀ (pks : List Pk), (outTV pks).map (·.2) = outV pks
  | [] => rfl
  | .var T v true :: r => by simp [outTV, outV, outTV_snd r]
  | .var T v false :: r => outTV_snd r
  | .d _ :: r => outTV_snd r
  | .row _ _ :: r => outTV_snd r
  | .fn _ _ :: r => outTV_snd r
  | .bor _ :: r => outTV_snd r
omit [∀ E, Rp (I E)] in
theorem pubU_row {O : Obs I} {l : Nat} {E : TypeId} {xs : List (I E)} : ∀ {ls : List Nat} {O1 : Obs I}, (∃ fl, O l = some (some (.row E xs fl))) → (∃ fl, O1 l = some (some (.row E xs fl))) → ∃ fl, apU O1 (pubU O ls) l = some (some (.row E xs fl))
  | [], _, _, h => h
  | a :: r, O1, h0, h => by
    simp only [pubU]
    split
    · rename_i E' xs' e
      simp only [apU]
      refine pubU_row h0 ?_
      by_cases el : l = a
      · subst el
        obtain ⟨fl, h0⟩ := h0
        rw [h0] at e
        cases e
        exact ⟨true, upF_self _ _ _⟩
      · rw [upF_ne el]; exact h
    · exact pubU_row h0 h
/-- What is lent may be read as long as only granted blocks turn. -/
theorem argBor_ok (h : Rel X c σ s n F) (hRw : ∀ l E (xs : List (I E)) fl, O l = some (some (.row E xs fl)) → ∃ fl', s.O l = some (some (.row E xs fl'))) (hBo : ∀ l E (xs : List (I E)), O l = some (some (.bo E xs)) → s.O l = some (some (.bo E xs)))
    {LS : List Nat} (hS : Sett X c σ O LS) {gr : List Nat} {M : Nat → Prop} (hM : ∀ b, M b → σ.N ≤ b ∨ ∃ l ∈ gr, live s l ∧ ∃ p, c l = some p ∧ p.w = some b) {E : TypeId} {p : PV I} {x : List (I E)} {rv : List Nat} (hx : argBor O E p = some (x, rv)) (hrv : ∀ l ∈ rv, l ∉ gr) {v : Value} (hv : RV X c σ p v) :
    ∃ A k, v = .slice A x.length k ∧ Bor M σ x A := by
  have hMX : ∀ b, M b → X.M b := fun b hb => by
    rcases hM b hb with hb | ⟨l, _, hlv, p, hc, hw⟩
    · exact .inl (Nat.le_trans h.base hb)
    · exact h.mine l p b hlv hc hw
  unfold argBor at hx
  split at hx
  · rename_i l
    simp only [RV] at hv
    obtain ⟨p, hp, rfl⟩ := hv
    split at hx
    · rename_i E' xs fl ho
      obtain ⟨ys, hys, hx⟩ := bind_some hx
      cases hx
      obtain ⟨e, rfl⟩ := castL_ok hys
      subst e
      obtain ⟨fl', hs⟩ := hRw l _ _ _ ho
      obtain ⟨A, k, ow, k1, k2⟩ := h.objs l _ hs
      rw [k1] at hp
      cases hp
      refine ⟨A, k, rfl, Bor.of_own k2 fun g hg hm => ?_⟩
      have hlt := (h.objs l _ hs).lt k1 (g := g) hg
      rcases hM g hm with hb | ⟨l', hl', hlv, p', hc', hw'⟩
      · have hb' : σ.w.heap.size ≤ g := hb
        have : g < σ.w.heap.size := hlt
        omega
      · have e := h.inj l l' _ p' g ⟨_, hs⟩ hlv k1 hc' hg hw'
        exact hrv l (by simp) (by rw [e]; exact hl')
    · rename_i E' xs ho
      obtain ⟨ys, hys, hx⟩ := bind_some hx
      cases hx
      obtain ⟨e, rfl⟩ := castL_ok hys
      subst e
      obtain ⟨A, k, k1, k2⟩ := hS.2 l _ _ ho
      rw [k1] at hp
      cases hp
      exact ⟨A, k, rfl, Bor.of_sl k2⟩
    · rename_i E' xs ho
      obtain ⟨ys, hys, hx⟩ := bind_some hx
      cases hx
      obtain ⟨e, rfl⟩ := castL_ok hys
      subst e
      obtain ⟨A, k, k1, k2⟩ := h.objs l _ (hBo l _ _ ho)
      rw [k1] at hp
      cases hp
      exact ⟨A, k, rfl, k2.sub fun b _ => hMX b⟩
    · cases hx
  · obtain ⟨ys, hys, hx⟩ := bind_some hx
    cases hx
    obtain ⟨e, rfl⟩ := castL_ok hys
    subst e
    simp only [RV] at hv
    obtain ⟨A, k, e1, e2, _⟩ := hv
    exact ⟨A, k, e1, Bor.of_sl e2⟩
  · cases hx
    simp only [RV] at hv
    obtain ⟨A, rfl⟩ := hv
    exact ⟨A, 0, rfl, [], rfl, fun hn => absurd rfl hn⟩
  · cases hx
/-- The variables that are granted. -/
def VarsAt (c : Cx) (O : Obs I) : List (Nat × TypeId × V) → List Nat → Prop
  | [], bs => bs = []
  | x :: r, bs => ∃ b bs' ls, bs = b :: bs' ∧ O x.1 = some (some (.var x.2.1 ls true)) ∧ c x.1 = some ⟨some ⟨b, 0, none⟩, 0, 0, some b⟩ ∧ VarsAt c O r bs'
theorem argsT_ok (ht : TabOk P tb) {disp : Disp I} (hd : DispOk P disp) (hX : X.P = P) (h : Rel X c σ s n F) (hRw : ∀ l E (xs : List (I E)) fl, O l = some (some (.row E xs fl)) → ∃ fl', s.O l = some (some (.row E xs fl'))) (hBo : ∀ l E (xs : List (I E)), O l = some (some (.bo E xs)) → s.O l = some (some (.bo E xs))) (hO : ∀ l T ls w, O l = some (some (.var T ls w)) → s.O l = some (some (.var T ls w))) {LS : List Nat} (hS : Sett X c σ O LS) (hR : Rows X c σ O LS) {gr : List Nat} {Oc : Obs I}
    (hOc : ∀ l o, Oc l = some (some o) → roO [] (killO gr s.O) l = some (some o)) {M : Nat → Prop} (hM : ∀ b, M b → σ.N ≤ b ∨ ∃ l ∈ gr, live s l ∧ ∃ p, c l = some p ∧ p.w = some b) {nb : Nat} :
    ∀ {pks : List Pk} {ps : List (PV I)} {a : TysP I pks} {acc : AccT} {vs : List Value}, argsT tb disp O Oc nb pks ps = some (a, acc) → RVs X c σ ps vs → (∀ l ∈ acc.pub, l ∈ LS) → (∀ l, some l ∈ acc.all → l ∉ LS) → (∀ l ∈ acc.rv, l ∉ gr) →
      ∃ pls, PArgs P M σ pks a vs pls ∧ At c acc.all pls ∧ VarsAt c O acc.gv (varB pks vs) ∧ (∀ l, some l ∈ acc.all → (∃ E, ∃ xs : List (I E), ∃ fl, O l = some (some (.row E xs fl))) ∨ ∃ T v, (l, T, v) ∈ acc.gv) ∧ (∀ x ∈ acc.gv, some x.1 ∈ acc.all) ∧ acc.gv.map (fun x => x.2) = outTV pks
  | [], [], a, acc, vs, e, hv, _, _, _ => by
    cases e
    simp only [RVs] at hv
    subst hv
    exact ⟨[], ⟨rfl, rfl⟩, rfl, rfl, (fun l hl => by cases hl), (fun l hl => by cases hl), rfl⟩
  | .d k :: r, p :: ps, _, _, vs, e, hv, h1, h2, h3 => by
    obtain ⟨x, hx, e⟩ := bind_some e
    obtain ⟨y, hy, e⟩ := bind_some e
    cases e
    simp only [RVs] at hv
    obtain ⟨v, vs', rfl, hv1, hv2⟩ := hv
    obtain ⟨pls, k1, k2, k3, k4, k5, k6⟩ := argsT_ok ht hd hX h hRw hBo hO hS hR hOc hM (a := y.1) (acc := y.2) hy hv2 (fun l hl => h1 l (by simp [hl])) h2 h3
    have hd1 := getKd_ok ht hS (ls := x.2) hx (fun l hl => h1 l (by simp [hl])) hv1
    refine ⟨pls, ⟨v, vs', [], pls, rfl, rfl, ⟨hd1, rfl⟩, k1⟩, k2, ?_, k4, k5, k6⟩
    have : varB (.d k :: r) (v :: vs') = varB r vs' := by cases v <;> rfl
    rw [this]; exact k3
  | .row E fl :: r, p :: ps, _, _, vs, e, hv, h1, h2, h3 => by
    obtain ⟨x, hx, e⟩ := bind_some e
    obtain ⟨y, hy, e⟩ := bind_some e
    cases e
    simp only [RVs] at hv
    obtain ⟨v, vs', rfl, hv1, hv2⟩ := hv
    obtain ⟨pls, k1, k2, k3, k4, k5, k6⟩ := argsT_ok ht hd hX h hRw hBo hO hS hR hOc hM (a := y.1) (acc := y.2) hy hv2 (fun l hl => h1 l (by simp [hl])) (fun l hl => h2 l (by simp [hl])) h3
    obtain ⟨p1, t1, t2⟩ := getK_ok ht hS hR (ls := x.2.1) (rows := x.2.2) hx (fun l hl => h1 l (by simp [hl])) (fun l hl => h2 l (by simp [hl])) hv1
    have hl1 := getK_live (ls := x.2.1) (rows := x.2.2) hx
    obtain ⟨A, k, ow, e1, e2, e3⟩ := t1
    refine ⟨p1 ++ pls, ⟨v, vs', p1, pls, rfl, rfl, ⟨A, k, ow, e1, e3, e2⟩, k1⟩, t2.app k2, ?_, fun l hl => ?_, fun z hz => by simp [k5 z hz], k6⟩
    · have : varB (.row E fl :: r) (v :: vs') = varB r vs' := by cases v <;> rfl
      rw [this]; exact k3
    · rcases List.mem_append.1 hl with hl | hl
      · exact .inl (hl1 l hl)
      · exact k4 l hl
  | .bor E :: r, p :: ps, _, _, vs, e, hv, h1, h2, h3 => by
    obtain ⟨x, hx, e⟩ := bind_some e
    obtain ⟨y, hy, e⟩ := bind_some e
    cases e
    simp only [RVs] at hv
    obtain ⟨v, vs', rfl, hv1, hv2⟩ := hv
    obtain ⟨pls, k1, k2, k3, k4, k5, k6⟩ := argsT_ok ht hd hX h hRw hBo hO hS hR hOc hM (a := y.1) (acc := y.2) hy hv2 h1 (fun l hl => h2 l (by simp [hl])) (fun l hl => h3 l (by simp [hl]))
    obtain ⟨A, k, e1, e2⟩ := argBor_ok h hRw hBo hS hM (x := x.1) (rv := x.2) hx (fun l hl => h3 l (by simp [hl])) hv1
    refine ⟨⟨A, k, List.length x.1, none⟩ :: pls, ⟨v, vs', [_], pls, rfl, rfl, ⟨A, k, e1, e2, rfl⟩, k1⟩, ⟨_, _, rfl, rfl, k2⟩, ?_, fun l hl => ?_, fun z hz => by simp [k5 z hz], k6⟩
    · have : varB (.bor E :: r) (v :: vs') = varB r vs' := by cases v <;> rfl
      rw [this]; exact k3
    · rcases List.mem_cons.1 hl with hl | hl
      · cases hl
      · exact k4 l hl
  | .fn ks rs :: r, p :: ps, _, _, vs, e, hv, h1, h2, h3 => by
    obtain ⟨y, hy, e⟩ := bind_some e
    simp only [RVs] at hv
    obtain ⟨v, vs', rfl, hv1, hv2⟩ := hv
    have hb : varB (.fn ks rs :: r) (v :: vs') = varB r vs' := by cases v <;> rfl
    split at e
    · rename_i ks' rs' g
      obtain ⟨g', hg', e⟩ := bind_some e
      cases e
      obtain ⟨e1, e2, e3⟩ := castFn_ok hg'
      subst e1
      subst e2
      subst e3
      obtain ⟨pls, k1, k2, k3, k4, k5, k6⟩ := argsT_ok ht hd hX h hRw hBo hO hS hR hOc hM (a := y.1) (acc := y.2) hy hv2 h1 h2 h3
      simp only [RV] at hv1
      obtain ⟨f, as', cs, e4, hf⟩ := hv1
      refine ⟨pls, ⟨v, vs', [], pls, rfl, rfl, ⟨f, as', cs, e4, ⟨by rw [← hX]; exact hf.1, hf.2.1, fun τ hτ => ?_⟩, rfl⟩, k1⟩, k2, by rw [hb]; exact k3, k4, k5, k6⟩
      rw [hX] at hf
      exact hf.2.2 τ (hτ.mono fun b _ hb => by
        rcases hM b hb with hb | ⟨l, _, hlv, p, hc, hw⟩
        · exact .inl (Nat.le_trans h.base hb)
        · exact h.mine l p b hlv hc hw)
    · rename_i f0 ls0 hh0
      replace e := bif_some e
      obtain ⟨hfb, e⟩ := e
      cases e
      obtain ⟨pls, k1, k2, k3, k4, k5, k6⟩ := argsT_ok ht hd hX h hRw hBo hO hS hR hOc hM (a := y.1) (acc := y.2) hy hv2 h1 h2 h3
      simp only [RV] at hv1
      obtain ⟨cs, e4, hls⟩ := hv1
      exact ⟨pls, ⟨v, vs', [], pls, rfl, rfl, ⟨_, [], cs, e4, clo_ok ht hd hX h hOc hM hls (ht.fb _ hfb), rfl⟩, k1⟩, k2, by rw [hb]; exact k3, k4, k5, k6⟩
    · cases e
  | .var T vk w :: r, p :: ps, _, _, vs, e, hv, h1, h2, h3 => by
    obtain ⟨x, hx, e⟩ := bind_some e
    obtain ⟨y, hy, e⟩ := bind_some e
    cases e
    simp only [RVs] at hv
    obtain ⟨v, vs', rfl, hv1, hv2⟩ := hv
    obtain ⟨pls, k1, k2, k3, k4, k5, k6⟩ := argsT_ok ht hd hX h hRw hBo hO hS hR hOc hM (a := y.1) (acc := y.2) hy hv2 (fun l hl => h1 l (by simp [hl])) (fun l hl => h2 l (by simp [hl])) (fun l hl => h3 l (by simp [hl]))
    unfold argVar at hx
    split at hx
    · rename_i l
      split at hx
      · rename_i T' ls w' ho
        replace hx := bif_some hx
        obtain ⟨hT, hx⟩ := hx
        simp only [Bool.and_eq_true] at hT
        have eT := Nat.eq_of_beq_eq_true hT.1
        subst eT
        have hww := hT.2
        replace hx := bind_some hx
        obtain ⟨q, hq, hx⟩ := hx
        replace hx := bind_some hx
        obtain ⟨z, hz, hx⟩ := hx
        have hs := hO _ _ _ _ ho
        obtain ⟨b, cs, o1, o2, o3, o4, o5⟩ := h.objs l _ hs
        simp only [RV] at hv1
        obtain ⟨b', w2, c1, rfl⟩ := hv1
        rw [o1] at c1
        cases c1
        obtain ⟨u, hu, hcu⟩ := contP_ok hq o2
        cases w with
        | true =>
          have hw' : w' = true := by cases w' <;> simp at hww ⊢
          subst hw'
          cases hx
          obtain ⟨pr, t1, t2⟩ := getV_ok ht hS hR (ls := z.2.1) (rows := z.2.2) hz (fun l hl => h1 l (by simp [hl])) (fun l hl => h2 l (by simp [hl])) hu
          have hl1 := getV_live (ls := z.2.1) (rows := z.2.2) hz
          refine ⟨(⟨some ⟨b, 0, none⟩, 0, 0, some b⟩ :: pr) ++ pls, ⟨_, vs', _, pls, rfl, rfl, ⟨b, cs, u, pr, rfl, o3, hcu, t1, (fun _ => o4 rfl), (fun e => by cases e), rfl⟩, k1⟩, ?_, ?_, fun l' hl => ?_, fun g hg => ?_, ?_⟩
          · refine At.app (r1 := some l :: z.2.2) ?_ k2
            exact ⟨_, pr, rfl, o1, t2⟩
          · exact ⟨b, _, ls, rfl, ho, o1, k3⟩
          · simp only [List.mem_append, List.mem_cons, Option.some.injEq] at hl
            rcases hl with (hl | hl) | hl
            · subst hl
              exact .inr ⟨T, vk, by simp⟩
            · exact .inl (hl1 l' hl)
            · rcases k4 l' hl with hl | ⟨T2, v2, hl⟩
              · exact .inl hl
              · exact .inr ⟨T2, v2, by simp [hl]⟩
          · simp only [List.cons_append, List.nil_append, List.mem_cons] at hg
            rcases hg with hg | hg
            · subst hg; simp
            · simp [k5 g hg]
          · simp only [List.cons_append, List.nil_append, List.map_cons, outTV, k6]
        | false =>
          simp only [cond_false] at hx
          replace hx := bif_some hx
          obtain ⟨hn, hx⟩ := hx
          have hn := isNil_ok hn
          cases hx
          obtain ⟨pr, t1, t2⟩ := getV_ok ht hS hR (ls := z.2.1) (rows := z.2.2) hz (fun l hl => h1 l (by simp [hl])) (fun l hl => by rw [hn] at hl; cases hl) hu
          rw [hn] at t2
          have : pr = [] := t2
          subst this
          have hlgr : l ∉ gr := h3 l (by simp)
          refine ⟨(⟨some ⟨b, 0, none⟩, 0, 0, none⟩ :: []) ++ pls, ⟨_, vs', _, pls, rfl, rfl, ⟨b, cs, u, [], rfl, o3, hcu, t1, (fun e => by cases e), (fun _ hMb => ?_), rfl⟩, k1⟩, ?_, ?_, fun l' hl => ?_, fun g hg => ?_, ?_⟩
          · have hlt := heap_lt o3
            rcases hM b hMb with hb | ⟨l', hl', hlv, p', hc', hw2'⟩
            · have hb' : σ.w.heap.size ≤ b := hb
              omega
            · cases w' with
              | true => exact hlgr (by rw [h.inj l l' _ p' b ⟨_, hs⟩ hlv o1 hc' rfl hw2']; exact hl')
              | false => exact o5 rfl (h.mine l' p' b hlv hc' hw2')
          · refine At.app (r1 := [none]) ?_ k2
            exact ⟨_, [], rfl, rfl, rfl⟩
          · exact k3
          · simp only [List.cons_append, List.nil_append, List.mem_cons] at hl
            rcases hl with hl | hl
            · cases hl
            · exact k4 l' hl
          · simp [k5 g hg]
          · exact k6
      · cases hx
    · cases hx
  | [], _ :: _, _, _, _, e, _, _, _, _ => by simp [argsT] at e
  | _ :: _, [], _, _, _, e, _, _, _, _ => by simp [argsT] at e
omit [∀ E, Rp (I E)] in
theorem killU_at : ∀ {all : List (Option Nat)} {O : Obs I} {l : Nat}, (∀ l, some l ∈ all → O l ≠ none) → apU O (killU all) l = killO (all.filterMap id) O l
  | [], O, l, _ => by simp [killU, apU, killO, memN]
  | none :: r, O, l, h => by
    have := killU_at (all := r) (O := O) (l := l) (fun l hl => h l (by simp [hl]))
    simpa [killU] using this
  | some a :: r, O, l, h => by
    simp only [killU, apU]
    rw [killU_at (all := r) (fun l' hl' => by
      by_cases e : l' = a
      · subst e; rw [upF_self]; simp
      · rw [upF_ne e]; exact h l' (by simp [hl']))]
    simp only [killO, List.filterMap_cons, id, memN]
    by_cases e : l = a
    · subst e
      rw [upF_self]
      have ha := h l (by simp)
      cases ho : O l with
      | none => exact absurd ho ha
      | some o => cases memN l (List.filterMap id r) <;> simp
    · rw [upF_ne e, Sx.beq_false e]
      rfl
omit [∀ E, Rp (I E)] in
theorem addO_upF {O : Obs I} {l : Nat} {o : Option (Ob I)} {os : List (Ob I)} {nb : Nat} (h : l ∉ rng nb os.length) : addO (upF O l o) nb os = upF (addO O nb os) l o := by
  funext i
  by_cases hi : i ∈ rng nb os.length
  · rw [(addO_in (O' := O) hi).1, upF_ne (fun e => h (by rw [← e]; exact hi))]
  · rw [addO_out hi]
    by_cases e : i = l
    · subst e; rw [upF_self, upF_self]
    · rw [upF_ne e, upF_ne e, addO_out hi]
omit [∀ E, Rp (I E)] in
theorem varU_asg {O0 : Obs I} {os : List (Ob I)} {nb : Nat} : ∀ {gv : List (Nat × TypeId × V)} {ps : List (PV I)} {O : Obs I}, (∀ x ∈ gv, (∃ ls, O0 x.1 = some (some (.var x.2.1 ls true))) ∧ x.1 ∉ rng nb os.length) →
    addO (apU O (varU gv ps)) nb os = asgW O0 (gv.map fun x => (x.1, x.2.2)) (gv.map (·.1)) ps (addO O nb os)
  | [], ps, O, _ => by cases ps <;> rfl
  | x :: r, [], O, _ => rfl
  | x :: r, p :: ps, O, h => by
    obtain ⟨⟨ls, h1⟩, h2⟩ := h x (by simp)
    simp only [varU, apU, List.map_cons, asgW, h1]
    rw [varU_asg (gv := r) (fun y hy => h y (by simp [hy])), addO_upF h2]
omit [∀ E, Rp (I E)] in
theorem cont_of {O0 O : Obs I} : ∀ {pks : List Pk} {vs us : List Value} {gv : List (Nat × TypeId × V)}, OutC τ pks vs us → VarsAt c O gv (varB pks vs) → gv.map (fun x => x.2) = outTV pks → (∀ x ∈ gv, ∃ ls, O0 x.1 = some (some (.var x.2.1 ls true))) →
    Cont τ c O0 (gv.map fun x => (x.1, x.2.2)) (gv.map (·.1)) us
  | [], vs, us, gv, h, _, h3, _ => by
    have hg : gv = [] := by simpa [outTV] using h3
    subst hg
    cases vs with
    | nil => exact h
    | cons => exact h.elim
  | .d k :: r, [], us, gv, h, _, _, _ => h.elim
  | .row _ _ :: r, [], us, gv, h, _, _, _ => h.elim
  | .fn _ _ :: r, [], us, gv, h, _, _, _ => h.elim
  | .bor _ :: r, [], us, gv, h, _, _, _ => h.elim
  | .var _ _ false :: r, [], us, gv, h, _, _, _ => h.elim
  | .var _ _ true :: r, [], us, gv, h, _, _, _ => h.elim
  | .d k :: r, v :: vs, us, gv, h, h2, h3, h4 => cont_of (pks := r) (vs := vs) h (by have e : varB (.d k :: r) (v :: vs) = varB r vs := by cases v <;> rfl
                                                                                     rw [e] at h2; exact h2) h3 h4
  | .row E f :: r, v :: vs, us, gv, h, h2, h3, h4 => cont_of (pks := r) (vs := vs) h (by have e : varB (.row E f :: r) (v :: vs) = varB r vs := by cases v <;> rfl
                                                                                         rw [e] at h2; exact h2) h3 h4
  | .bor E :: r, v :: vs, us, gv, h, h2, h3, h4 => cont_of (pks := r) (vs := vs) h (by have e : varB (.bor E :: r) (v :: vs) = varB r vs := by cases v <;> rfl
                                                                                       rw [e] at h2; exact h2) h3 h4
  | .fn ks rs :: r, v :: vs, us, gv, h, h2, h3, h4 => cont_of (pks := r) (vs := vs) h (by have e : varB (.fn ks rs :: r) (v :: vs) = varB r vs := by cases v <;> rfl
                                                                                          rw [e] at h2; exact h2) h3 h4
  | .var T w false :: r, v :: vs, us, gv, h, h2, h3, h4 => cont_of (pks := r) (vs := vs) h (by have e : varB (.var T w false :: r) (v :: vs) = varB r vs := by cases v <;> rfl
                                                                                               rw [e] at h2; exact h2) h3 h4
  | .var T w true :: r, v :: vs, us, gv, h, h2, h3, h4 => by
    obtain ⟨b, cs, u, us', e1, e2, e3, e4, e5, e6⟩ := h
    subst e1
    subst e2
    cases gv with
    | nil => simp [outTV] at h3
    | cons x gv =>
      simp only [List.map_cons, outTV, List.cons.injEq] at h3
      obtain ⟨b', bs', ls, q1, q2, q3, q4⟩ := h2
      have hb : varB (.var T w true :: r) (Value.pointer (some ⟨b, 0, none⟩) :: vs) = b :: varB r vs := rfl
      rw [hb] at q1
      cases q1
      obtain ⟨ls0, o1⟩ := h4 x (by simp)
      have ih := cont_of (pks := r) (vs := vs) (us := us') (gv := gv) (O0 := O0) e6 q4 h3.2 (fun y hy => h4 y (by simp [hy]))
      have hT : x.2.1 = T := by rw [h3.1]
      have hV : x.2.2 = w := by rw [h3.1]
      refine ⟨u, us', b, x.2.1, ls0, true, cs, rfl, o1, q3, by rw [hT]; exact e3, e4, ?_, ih⟩
      show bif aggV x.2.2 then _ else _
      rw [hV]; exact e5
/-- Calls by a function's contract. -/
theorem rowSE_ok (ht : TabOk P tb) {r : Row I} {C : World → List Value → Prop} {chk : Obs I → List (PV I) → Bool} (hr : RowOkS P r C)
    (hC : ∀ (X : Cxt) (c : Cx) (σ : S) (s : St I) (n : Nat) (F : Fr) (O : Obs I) (ps : List (PV I)) (vs : List Value), (∀ l o, O l = some (some o) → s.O l = some (some o)) → Rel X c σ s n F → chk O ps = true → RVs X c σ ps vs → C σ.w vs) : EntOk P (rowSE tb r chk) := by
  refine ⟨fun disp ρ O nb ps k => ?_, fun disp hd O nb ps ef he => ?_⟩
  · show goRowS tb r chk disp ρ O nb ps k = (goRowS tb r chk disp (Ef I) O nb ps some).bind k
    unfold goRowS
    cases chk O ps
    · rfl
    simp only [cond_true]
    unfold goRow
    simp only [Option.bind_assoc]
    refine bindc fun a => ?_
    cases chkA (grN O r.ps ps) a.2
    · rfl
    · simp only [cond_true, Option.bind_assoc]
      rfl
  · intro X c σ s n F vs hX hO h hvs hfree
    have he' : goRowS tb r chk disp (Ef I) O nb ps some = some ef := he
    unfold goRowS at he'
    obtain ⟨hck, he'⟩ := bif_some he'
    have hCw := hC X c σ s n F O ps vs hO h hck hvs
    unfold goRow at he'
    obtain ⟨a, ha, he'⟩ := bind_some he'
    obtain ⟨hchk, he'⟩ := bif_some he'
    obtain ⟨res, hres, he'⟩ := bind_some he'
    cases he'
    obtain ⟨a, acc⟩ := a
    simp only [chkA, Bool.and_eq_true] at hchk
    obtain ⟨⟨q1, q2⟩, q3⟩ := hchk
    obtain ⟨r1, r2⟩ := rowsOk_ok q1
    have hgr : ∀ l, some l ∈ acc.all → l ∈ grN O r.ps ps := fun l hl => by
      have := (List.all_eq_true.1 q2) _ hl
      exact memN_iff.1 this
    have hrv : ∀ l ∈ acc.rv, l ∉ grN O r.ps ps := fun l hl => by
      have := (List.all_eq_true.1 q3) _ hl
      exact memN_false.1 (by simpa using this)
    obtain ⟨τ1, p1, p2, p3, p4, p5, p6⟩ := h.pubs hO acc.pub
    have hvs1 := RVs.step p2 _ _ hvs
    have hpubO : ∀ {l : Nat}, (∀ E (xs : List (I E)), O l ≠ some (some (.row E xs false))) → (pubS s O acc.pub).O l = s.O l := fun {l} hn => by
      show apU s.O (pubU O acc.pub) l = s.O l
      apply apU_out
      intro hm
      have hp : ∀ {ls : List Nat}, l ∈ keysU (pubU O ls) → ∃ E, ∃ xs : List (I E), O l = some (some (.row E xs false)) := by
        intro ls
        induction ls with
        | nil => intro h; simp [pubU, keysU] at h
        | cons a r ih =>
          intro h
          simp only [pubU] at h
          split at h
          · rename_i E xs e
            simp only [keysU, List.map_cons, List.mem_cons] at h
            rcases h with rfl | h
            · exact ⟨E, xs, e⟩
            · exact ih h
          · exact ih h
      obtain ⟨E, xs, e⟩ := hp hm
      exact hn E xs e
    have hOv : ∀ l T ls w, O l = some (some (.var T ls w)) → (pubS s O acc.pub).O l = some (some (.var T ls w)) := fun l T ls w ho => by
      rw [hpubO (fun E xs e => by rw [ho] at e; cases e)]; exact hO l _ ho
    have hOc : ∀ l o, roO [] (killO (grN O r.ps ps) O) l = some (some o) → roO [] (killO (grN O r.ps ps) (pubS s O acc.pub).O) l = some (some o) := by
      intro l o hl
      unfold roO killO at hl ⊢
      cases hm : memN l (grN O r.ps ps) with
      | true =>
        rw [hm] at hl
        cases hol : O l with
        | none => rw [hol] at hl; simp [memN] at hl
        | some x => rw [hol] at hl; simp [memN] at hl
      | false =>
        rw [hm] at hl
        simp only [cond_false, memN] at hl ⊢
        have hne : ∀ E (xs : List (I E)), O l ≠ some (some (.row E xs false)) := fun E xs e => by rw [e] at hl; simp at hl
        rw [hpubO hne]
        cases hol : O l with
        | none => rw [hol] at hl; simp at hl
        | some x =>
          cases x with
          | none => rw [hol] at hl; simp at hl
          | some o' => rw [hO l o' hol]; rw [hol] at hl; exact hl
    have hlv : ∀ l, some l ∈ acc.all → (∃ E, ∃ xs : List (I E), ∃ fl, O l = some (some (.row E xs fl))) ∨ (∃ T ls, O l = some (some (.var T ls true))) → live (pubS s O acc.pub) l := fun l hl hx => by
      rcases hx with ⟨E, xs, fl, ho⟩ | ⟨T, ls, ho⟩
      · exact ⟨_, (p6 l (r2 l hl)).trans (hO l _ ho)⟩
      · exact ⟨_, hOv l _ _ _ ho⟩
    -- the granted blocks are told by the places; a first look without function values
    have core : ∀ M : Nat → Prop, (∀ b, M b → τ1.N ≤ b ∨ ∃ l ∈ grN O r.ps ps, live (pubS s O acc.pub) l ∧ ∃ p, c l = some p ∧ p.w = some b) → _ := fun M hM =>
      argsT_ok ht hd hX p3 (fun l E xs fl e => pubU_row ⟨fl, e⟩ ⟨fl, hO l _ e⟩) (fun l E xs e => (hpubO (fun E' xs' e' => by rw [e] at e'; cases e')).trans (hO l _ e)) hOv p4 p5 hOc hM (nb := nb) ha hvs1 (fun _ h => h) r2 hrv
    have fin : ∀ (pls : List Pl), PArgs P (fun b => τ1.N ≤ b ∨ b ∈ ows pls) τ1 r.ps a vs pls → At c acc.all pls → VarsAt c O acc.gv (varB r.ps vs) → (∀ l, some l ∈ acc.all → (∃ E, ∃ xs : List (I E), ∃ fl, O l = some (some (.row E xs fl))) ∨ ∃ T v, (l, T, v) ∈ acc.gv) →
        (∀ x ∈ acc.gv, some x.1 ∈ acc.all) → acc.gv.map (fun x => x.2) = outTV r.ps → CallS P r.f vs σ (Stp X.M σ) fun v τ => ∃ c', Cx.le c c' ∧ Rel X c' τ (apE s nb ⟨retP ((pvT tb nb (r.rs ++ outV r.ps) res).take r.rs.length), pubU O acc.pub ++ killU acc.all ++ varU acc.gv ((pvT tb nb (r.rs ++ outV r.ps) res).drop r.rs.length), obT (r.rs ++ outV r.ps) res⟩) n F ∧
          RV X c' τ (retP ((pvT tb nb (r.rs ++ outV r.ps) res).take r.rs.length)) v := by
      intro pls k1 k2 k3 k4 k5 k6
      have hgv : ∀ x ∈ acc.gv, ∃ ls, O x.1 = some (some (.var x.2.1 ls true)) := by
        have : ∀ {gv : List (Nat × TypeId × V)} {bs : List Nat}, VarsAt c O gv bs → ∀ x ∈ gv, ∃ ls, O x.1 = some (some (.var x.2.1 ls true)) := by
          intro gv
          induction gv with
          | nil => intro bs _ x hx; cases hx
          | cons y r ih =>
            intro bs ⟨b, bs', ls, _, e2, _, e4⟩ x hx
            rcases List.mem_cons.1 hx with rfl | hx
            · exact ⟨ls, e2⟩
            · exact ih e4 x hx
        exact this k3
      have hlive : ∀ l, some l ∈ acc.all → live (pubS s O acc.pub) l := fun l hl => hlv l hl ((k4 l hl).imp id fun ⟨T, v, hm⟩ => by
        obtain ⟨ls, e⟩ := hgv _ hm
        exact ⟨T, ls, e⟩)
      have hnd : (ows pls).Nodup := At.nodup p3 k2 r1 hlive
      have hown : ∀ g ∈ ows pls, ∃ l p, some l ∈ acc.all ∧ c l = some p ∧ p.w = some g := k2.mem
      have hownM : ∀ g ∈ ows pls, X.M g := fun g hg => by
        obtain ⟨l, p, a1, a2, a3⟩ := hown g hg
        exact p3.mine l p g (hlive l a1) a2 a3
      refine CallS.mono (hr τ1 a vs pls res k1 (by rw [p1]; exact hCw) hnd hres) p1.symm fun v τ hst ⟨ws, us, pls', hpost⟩ => ⟨τ, rfl, p2.trans (hst.mono fun b _ hb => hownM b hb), ?_⟩
      let kl := acc.all.filterMap id
      have hkl : ∀ l, l ∈ kl ↔ some l ∈ acc.all := fun l => by simp [kl, List.mem_filterMap]
      let s2 : St I := ⟨s.n, s.F, killO kl (pubS s O acc.pub).O, s.nx⟩
      have h2 : Rel X c τ1 s2 n F := p3.less (fun l o ho => (killO_live ho).2) (fun l ho => killO_none.1 ho)
      have h3 : Rel X c τ s2 n F := h2.stepG hst hownM fun l p g ⟨o, ho⟩ hc hw hg => by
        obtain ⟨m1, m2⟩ := killO_live ho
        obtain ⟨l', p', a1, a2, a3⟩ := hown g hg
        exact m1 ((hkl l).2 (by rw [p3.inj l l' p p' g ⟨o, m2⟩ (hlive l' a1) hc a2 hw a3]; exact a1))
      have hOpub : apU s.O (pubU O acc.pub ++ killU acc.all) = killO kl (pubS s O acc.pub).O := by
        rw [apU_app]
        funext l
        exact killU_at fun l hl => by obtain ⟨o, ho⟩ := hlive l hl; intro e; have := ho; rw [show (pubS s O acc.pub).O l = apU s.O (pubU O acc.pub) l from rfl, e] at this; cases this
      have hgvO : ∀ x ∈ acc.gv, ∃ ls, (pubS s O acc.pub).O x.1 = some (some (.var x.2.1 ls true)) := fun x hx => by
        obtain ⟨ls, e⟩ := hgv x hx
        exact ⟨ls, hOv _ _ _ _ e⟩
      have hfree2 : ∀ l ∈ rng nb (obT (r.rs ++ outV r.ps) res).length, killO kl (pubS s O acc.pub).O l = none ∧ l ∉ acc.gv.map (·.1) := by
        rw [freeN_iff] at hfree
        intro l hl
        have h0 := hfree l hl
        rw [apU_app, hOpub] at h0
        by_cases hk : l ∈ keysU (varU acc.gv ((pvT tb nb (r.rs ++ outV r.ps) res).drop r.rs.length))
        · exact absurd h0 (apU_in (O' := s.O) hk).2
        · rw [apU_out hk] at h0
          refine ⟨h0, fun hm => ?_⟩
          simp only [List.mem_map] at hm
          obtain ⟨x, hx, e⟩ := hm
          have := (hkl x.1).2 (k5 x hx)
          rw [e] at this
          have hl2 := hlive l ((hkl l).1 this)
          obtain ⟨o, ho⟩ := hl2
          have := killO_none.1 h0
          rw [ho] at this; cases this
      have hob := obT_ok hpost.tt
      obtain ⟨h4, h5⟩ := Rel.addN (nb := nb) h3 (freeN_iff.2 fun l hl => (hfree2 l hl).1) hob hpost.nodup fun g hg => by
        have ho := hpost.own g hg
        refine ⟨ho.1.elim (fun h => .inl (Nat.le_trans p3.base h)) (hownM g), fun l p ⟨o, ho'⟩ hc hw => ?_⟩
        obtain ⟨m1, m2⟩ := killO_live ho'
        rcases ho.1 with hge | hin
        · have := (p3.objs l o m2).lt hc hw
          have : τ1.w.heap.size ≤ g := hge
          omega
        · obtain ⟨l', p', a1, a2, a3⟩ := hown g hin
          exact m1 ((hkl l).2 (by rw [p3.inj l l' p p' g ⟨o, m2⟩ (hlive l' a1) hc a2 hw a3]; exact a1))
      obtain ⟨hps, hlen⟩ := pvT_ok (X := X) (c := addCN c nb pls') (nb := nb) ht hpost.tt addCN_num
      have htk := RVs.take r.rs.length _ _ hps
      have hdr := RVs.drop r.rs.length _ _ hps
      rw [List.take_left' hpost.len] at htk
      rw [List.drop_left' hpost.len] at hdr
      have hold : ∀ l, (pubS s O acc.pub).O l ≠ none → addCN c nb pls' l = c l := fun l hl => by
        have key : ∀ {ps : List Pl} {c : Cx} {nb : Nat}, (l < nb ∨ nb + ps.length ≤ l) → addCN c nb ps l = c l := by
          intro ps
          induction ps with
          | nil => intro c nb _; rfl
          | cons p ps ih =>
            intro c nb h
            simp only [addCN]
            rw [ih (by simp only [List.length_cons] at h; omega)]
            have : l ≠ nb := by simp only [List.length_cons] at h; omega
            simp [addC, this]
        apply key
        apply Classical.byContradiction
        intro hn
        rw [not_or] at hn
        exact hl (killO_none.1 (hfree2 l (mem_rng.2 ⟨by omega, by rw [hob.1]; omega⟩)).1)
      have hvarb : ∀ {gv : List (Nat × TypeId × V)} {bs : List Nat}, VarsAt c O gv bs → ∀ x ∈ gv, ∀ p g, c x.1 = some p → p.w = some g → g ∈ bs := by
        intro gv
        induction gv with
        | nil => intro bs _ x hx; cases hx
        | cons y r ih =>
          intro bs ⟨b, bs', ls, e1, e2, e3, e4⟩ x hx p g hc hw
          subst e1
          rcases List.mem_cons.1 hx with rfl | hx
          · rw [e3] at hc; cases hc; cases hw; simp
          · simp [ih e4 x hx p g hc hw]
      have hat : ∀ (i : Nat) (y : Nat × V) (p : PV I), (acc.gv.map fun x => (x.1, x.2.2))[i]? = some y → ((pvT tb nb (r.rs ++ outV r.ps) res).drop r.rs.length)[i]? = some p → ∃ nb' z, p = pvV tb nb' y.2 z := fun i y p hi hp => by
        refine pvT_at (tb := tb) (vs := r.rs ++ outV r.ps) (nb := nb) (x := res) (i := r.rs.length + i) (v := y.2) ?_ (by rw [List.getElem?_drop] at hp; exact hp)
        rw [List.getElem?_append_right (by simp), Nat.add_sub_cancel_left, ← outTV_snd, ← k6]
        rw [List.getElem?_map] at hi
        simp only [List.map_map, List.getElem?_map]
        cases hgi : acc.gv[i]? with
        | none => rw [hgi] at hi; cases hi
        | some z => rw [hgi] at hi; cases hi; rfl
      have h6 := Rel.asgW (pls := pls') ht p3 h5 (cont_of hpost.out k3 k6 hgvO) hdr (fun i y p hi hp hag => by
          obtain ⟨nb', z, e⟩ := hat i y p hi hp
          rw [e]; exact pvV_agg hag)
        (fun i y p hi hp hag => by
          obtain ⟨nb', z, e⟩ := hat i y p hi hp
          rw [e]; exact pvV_one hag)
        (fun l hl => hold l (by
          simp only [List.mem_map] at hl
          obtain ⟨x, hx, rfl⟩ := hl
          obtain ⟨ls, e⟩ := hgvO x hx
          rw [e]; simp))
        (fun l hl p g hc hw => by
          simp only [List.mem_map] at hl
          obtain ⟨x, hx, rfl⟩ := hl
          exact p3.mine x.1 p g (hlive _ (k5 x hx)) hc hw)
        (fun l ⟨o, ho⟩ => by
          by_cases hm : l ∈ rng nb (obT (r.rs ++ outV r.ps) res).length
          · right
            obtain ⟨a1, a2⟩ := mem_rng.1 hm
            have hlt : l - nb < pls'.length := by rw [← hob.1]; omega
            refine ⟨pls'[l - nb], List.getElem_mem _, ?_⟩
            have := addCN_num (c := c) (nb := nb) (l - nb) pls'[l - nb] (List.getElem?_eq_getElem hlt)
            rw [show nb + (l - nb) = l from by omega] at this
            exact this
          · left
            have ho' : addO (killO kl (pubS s O acc.pub).O) nb (obT (r.rs ++ outV r.ps) res) l = some (some o) := ho
            rw [addO_out hm] at ho'
            obtain ⟨_, m2⟩ := killO_live ho'
            exact ⟨⟨o, m2⟩, hold l (by rw [m2]; simp)⟩)
        (fun l hl p hc g hw hm => by
          simp only [List.mem_map] at hl
          obtain ⟨x, hx, rfl⟩ := hl
          exact (hpost.own g hm).2 (hvarb k3 x hx p g hc hw))
      refine ⟨_, h4, ?_, by rw [hpost.ret]; exact retP_ok htk⟩
      have hO2 : addO (apU s.O (pubU O acc.pub ++ killU acc.all ++ varU acc.gv ((pvT tb nb (r.rs ++ outV r.ps) res).drop r.rs.length))) nb (obT (r.rs ++ outV r.ps) res) =
          asgW (pubS s O acc.pub).O (acc.gv.map fun x => (x.1, x.2.2)) (acc.gv.map (·.1)) ((pvT tb nb (r.rs ++ outV r.ps) res).drop r.rs.length) (addO (killO kl (pubS s O acc.pub).O) nb (obT (r.rs ++ outV r.ps) res)) := by
        rw [apU_app, hOpub]
        exact varU_asg fun x hx => ⟨hgvO x hx, fun hm => (hfree2 x.1 hm).2 (List.mem_map.2 ⟨x, hx, rfl⟩)⟩
      have e : apE s nb ⟨retP ((pvT tb nb (r.rs ++ outV r.ps) res).take r.rs.length), pubU O acc.pub ++ killU acc.all ++ varU acc.gv ((pvT tb nb (r.rs ++ outV r.ps) res).drop r.rs.length), obT (r.rs ++ outV r.ps) res⟩ =
          ⟨s.n, s.F, asgW (pubS s O acc.pub).O (acc.gv.map fun x => (x.1, x.2.2)) (acc.gv.map (·.1)) ((pvT tb nb (r.rs ++ outV r.ps) res).drop r.rs.length) (addO (killO kl (pubS s O acc.pub).O) nb (obT (r.rs ++ outV r.ps) res)), s.nx⟩ := by
        simp only [apE, hO2]
      rw [e]
      exact h6
    -- the places don't hang on M: with the granted blocks of those places once more
    obtain ⟨pls0, k1, k2, k3, k4, k5, k6⟩ := core (fun _ => False) (fun _ h => h.elim)
    obtain ⟨pls, k1', k2', _⟩ := core (fun b => τ1.N ≤ b ∨ b ∈ ows pls0) (fun b hb => hb.imp id fun hb => by
      obtain ⟨l, p, a1, a2, a3⟩ := k2.mem b hb
      refine ⟨l, hgr l a1, hlv l a1 ((k4 l a1).imp id fun ⟨T, v, hm⟩ => ?_), p, a2, a3⟩
      have : ∀ {gv : List (Nat × TypeId × V)} {bs : List Nat}, VarsAt c O gv bs → ∀ x ∈ gv, ∃ ls, O x.1 = some (some (.var x.2.1 ls true)) := by
        intro gv
        induction gv with
        | nil => intro bs _ x hx; cases hx
        | cons y r ih =>
          intro bs ⟨b, bs', ls, _, e2, _, e4⟩ x hx
          rcases List.mem_cons.1 hx with rfl | hx
          · exact ⟨ls, e2⟩
          · exact ih e4 x hx
      obtain ⟨ls, e⟩ := this k3 _ hm
      exact ⟨T, ls, e⟩)
    have hsame : ows pls = ows pls0 := by
      have : ∀ {rows : List (Option Nat)} {p q : List Pl}, At c rows p → At c rows q → ows p = ows q := by
        intro rows
        induction rows with
        | nil => intro p q h1 h2; cases h1; cases h2; rfl
        | cons x r ih =>
          intro p q ⟨a, as, e1, g1, h1⟩ ⟨b, bs, e2, g2, h2⟩
          subst e1
          subst e2
          have hr := ih h1 h2
          simp only [ows, List.filterMap_cons] at hr ⊢
          have : a.w = b.w := by
            cases x with
            | none => simp only at g1 g2; rw [g1, g2]
            | some l => simp only at g1 g2; rw [g1] at g2; cases g2; rfl
          rw [this, hr]
      exact this k2' k2
    rw [← hsame] at k1'
    exact fin pls k1' k2' k3 k4 k5 k6
theorem rowE_ok (ht : TabOk P tb) {r : Row I} (hr : RowOk P r) : EntOk P (rowE tb r) :=
  rowSE_ok (C := fun _ _ => True) (chk := fun _ _ => true) ht (fun σ a vs pls res h _ => hr σ a vs pls res h) (fun _ _ _ _ _ _ _ _ _ _ _ _ _ => trivial)
/-! ### a closure that stands in a variable that it captures -/
def sameP : List (PV I) → List (Option (PV I)) → Bool
  | [], [] => true
  | .ptr a 0 :: r, some (.ptr b 0) :: r' => Nat.beq a b && sameP r r'
  | _, _ => false
/-- Argument j points to a variable that holds the closure of f with the arguments at 'is'. -/
def selfChk (T : TypeId) (f : FuncId) (j : Nat) (is : List Nat) (O : Obs I) (ps : List (PV I)) : Bool := match ps[j]? with
  | some (.ptr l 0) => match O l with
    | some (some (.var T' [.clo f' ls] _)) => Nat.beq T T' && (Nat.beq f f' && sameP ls (is.map (ps[·]?)))
    | _ => false
  | _ => false
def SelfW (T : TypeId) (f : FuncId) (j : Nat) (is : List Nat) (w : World) (vs : List Value) : Prop :=
  ∃ b as, vs[j]? = some (.pointer (some ⟨b, 0, none⟩)) ∧ w.heap[b]? = some (.cells #[.func (.func f) #[] (List.toArray as)] T (0, 0)) ∧ is.map (vs[·]?) = as.map some
theorem sameP_ok : ∀ {ls : List (PV I)} {is : List Nat} {ps : List (PV I)} {vs as : List Value}, sameP ls (is.map (ps[·]?)) = true → RVs X c σ ps vs → RVs X c σ ls as → is.map (vs[·]?) = as.map some
  | [], [], _, _, as, _, _, ha => by
    simp only [RVs] at ha
    subst ha; rfl
  | [], _ :: _, _, _, _, h, _, _ => by simp [sameP] at h
  | p :: r, [], _, _, _, h, _, _ => by cases p <;> simp [sameP] at h
  | p :: r, i :: is, ps, vs, as, h, hv, ha => by
    simp only [RVs] at ha
    obtain ⟨a, as', rfl, h1, h2⟩ := ha
    simp only [List.map_cons] at h ⊢
    unfold sameP at h
    split at h
    · rename_i e1 _
      cases e1
    · rename_i l0 r0 l1 r1 e1 e2
      obtain ⟨e3, e4⟩ := List.cons.inj e1
      obtain ⟨hps, hr1⟩ := List.cons.inj e2
      subst e3
      subst e4
      subst hr1
      simp only [Bool.and_eq_true] at h
      have e := Nat.eq_of_beq_eq_true h.1
      subst e
      obtain ⟨v, hvi, hrv⟩ := RVs.at_ _ _ hv i _ hps
      rw [hvi, sameP_ok h.2 hv h2]
      simp only [RV] at hrv h1
      obtain ⟨b, w, k1, rfl⟩ := hrv
      obtain ⟨b', w', k2, rfl⟩ := h1
      rw [k1] at k2
      cases k2
      rfl
    · cases h
theorem selfChk_ok {T : TypeId} {f : FuncId} {j : Nat} {is : List Nat} {ps : List (PV I)} {vs : List Value} (hO : ∀ l o, O l = some (some o) → s.O l = some (some o)) (h : Rel X c σ s n F) (hc : selfChk T f j is O ps = true) (hv : RVs X c σ ps vs) : SelfW T f j is σ.w vs := by
  unfold selfChk at hc
  split at hc
  · rename_i l hj
    split at hc
    · rename_i T' f' ls w' ho
      simp only [Bool.and_eq_true] at hc
      have eT := Nat.eq_of_beq_eq_true hc.1
      have ef := Nat.eq_of_beq_eq_true hc.2.1
      subst eT
      subst ef
      obtain ⟨v, hvj, hrv⟩ := RVs.at_ _ _ hv j _ hj
      simp only [RV] at hrv
      obtain ⟨b, w, k1, rfl⟩ := hrv
      obtain ⟨b', cs, k2, k3, k4, _⟩ := h.objs l _ (hO _ _ ho)
      rw [k1] at k2
      cases k2
      simp only [RG] at k3
      obtain ⟨a, r, rfl, hcl, rfl⟩ := k3
      rcases hcl with hcl | ⟨_, u, rfl, hu⟩
      · exact hcl.elim
      simp only [RV] at hu
      obtain ⟨as, rfl, has⟩ := hu
      exact ⟨b, as, hvj, by simpa using k4, sameP_ok hc.2.2 hv has⟩
    · cases hc
  · cases hc
/-- The state that such a closure begins in. -/
def selfS (T : TypeId) (f : FuncId) (l : Nat) (j : Nat) (is : List Nat) (s : St I) : St I := setO s l (some (.var T [.clo f (is.filterMap s.F)] false))
theorem at_list : ∀ {is : List Nat} {ps : List (PV I)} {vs as : List Value}, is.all (fun i => Nat.blt i ps.length) = true → RVs X c σ ps vs → is.map (vs[·]?) = as.map some → RVs X c σ (is.filterMap (ps[·]?)) as
  | [], _, _, as, _, _, e => by
    cases as with
    | nil => simp only [List.filterMap_nil, RVs]
    | cons => cases e
  | i :: is, ps, vs, as, hl, hv, e => by
    cases as with
    | nil => cases e
    | cons a as =>
      simp only [List.map_cons, List.cons.injEq] at e
      simp only [List.all_cons, Bool.and_eq_true] at hl
      have hi : i < ps.length := by
        have := hl.1
        rw [Nat.blt_eq] at this
        exact this
      have hp := List.getElem?_eq_getElem hi
      obtain ⟨v, hvi, hrv⟩ := RVs.at_ _ _ hv i _ hp
      rw [e.1] at hvi
      cases hvi
      rw [List.filterMap_cons, hp]
      simp only [RVs]
      exact ⟨a, as, rfl, hrv, at_list hl.2 hv e.2⟩
theorem self_ini {T : TypeId} {f : FuncId} {l j : Nat} {is : List Nat} {nt : Nat} {ps : List Pk} {a : TysP I ps} {vs : List Value} (hl : (iniS tb nt ps a).O l = some (some (.var T [.any] false))) (hj : (pvPs tb 0 ps a)[j]? = some (.ptr l 0)) (his : is.all (fun i => Nat.blt i (pvPs tb 0 ps a).length) = true)
    (h : Rel X c σ (iniS tb nt ps a) nt F) (hv : RVs X c σ (pvPs tb 0 ps a) vs) (hC : SelfW T f j is σ.w vs) : Rel X c σ (selfS T f l j is (iniS tb nt ps a)) nt F := by
  obtain ⟨b, as, h1, h2, h3⟩ := hC
  obtain ⟨v, hvj, hrv⟩ := RVs.at_ _ _ hv j _ hj
  rw [h1] at hvj
  cases hvj
  simp only [RV] at hrv
  obtain ⟨b', w, k1, e⟩ := hrv
  cases e
  obtain ⟨b', cs, k2, k3, k4, k5, k6⟩ := h.objs l _ hl
  rw [k1] at k2
  cases k2
  refine h.revive ⟨b, [.func (.func f) #[] (List.toArray as)], k1, ?_, by simpa using h2, k5, k6⟩ fun p g hp hg => ?_
  · simp only [RG]
    refine ⟨_, [], rfl, .inr ⟨rfl, _, rfl, ?_⟩, rfl⟩
    simp only [RV]
    exact ⟨as, rfl, at_list his hv h3⟩
  · exact ⟨h.mine l p g ⟨_, hl⟩ hp hg, fun l' p' hne hlv hp' hg' => hne (h.inj l' l p' p g hlv ⟨_, hl⟩ hp' hp hg' hg)⟩
end
end Go.Qx
