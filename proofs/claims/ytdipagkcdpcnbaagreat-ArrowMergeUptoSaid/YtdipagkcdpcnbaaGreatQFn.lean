/- The symbolic executor: functions and what they owe. -/
import Derived.Test.YtdipagkcdpcnbaaGreatQExec
namespace Go.Qx
open Go Go.RowKit Go.Sx

/-- Kinds of parameters: data; a pointer to a variable (w: that may be stored); a row that is taken; a function value. -/
inductive Pk where
  | d (k : Kd)
  | var (T : TypeId) (v : V) (w : Bool)
  | row (E : TypeId) (fl : Bool)
  | fn (ks : List Kd) (rs : List V)
  | bor (E : TypeId)
section
variable (I : TypeId → Type)
abbrev TyP : Pk → Type
  | .d k => Ty I k
  | .var _ v _ => TyV I v
  | .row E _ => List (I E)
  | .fn ks rs => Fun I ks (TyT I rs)
  | .bor E => List (I E)
abbrev TysP : List Pk → Type
  | [] => Unit
  | p :: r => TyP I p × TysP r
abbrev FunP : List Pk → Type → Type
  | [], R => Option R
  | p :: r, R => TyP I p → FunP r R
end
def outV : List Pk → List V
  | [] => []
  | .var _ v true :: r => v :: outV r
  | _ :: r => outV r
section
variable {I : TypeId → Type}
def appP {R : Type} : (ps : List Pk) → FunP I ps R → TysP I ps → Option R
  | [], g, _ => g
  | _ :: r, g, q => appP r (g q.1) q.2
def curP {R : Type} : (ps : List Pk) → (TysP I ps → Option R) → FunP I ps R
  | [], g => g ()
  | _ :: r, g => fun x => curP r fun q => g (x, q)
theorem appP_cur {R : Type} : ∀ (ps : List Pk) (g : TysP I ps → Option R) (q : TysP I ps), appP ps (curP ps g) q = g q
  | [], _, _ => rfl
  | _ :: r, g, q => appP_cur r (fun q' => g (q.1, q')) q.2
/-- A function: its number, its parameters, its results, what it computes. -/
structure Row (I : TypeId → Type) where
  f : FuncId
  ps : List Pk
  rs : List V
  run : FunP I ps (TyT I (rs ++ outV ps))
variable [∀ E, Rp (I E)]
def ContV (v : V) (cs : List Value) (u : Value) : Prop := bif aggV v then u = .agg cs.toArray else cs = [u]
def PArg (P : Program) (M : Nat → Prop) (σ : S) : (p : Pk) → TyP I p → Value → List Pl → Prop
  | .d k, x, v, pls => DV σ k x v ∧ pls = []
  | .var T vk w, x, v, pls => ∃ b cs u p2, v = .pointer (some ⟨b, 0, none⟩) ∧ σ.w.heap[b]? = some (.cells cs.toArray T (0, 0)) ∧ ContV vk cs u ∧ TV σ vk x u p2 ∧ (w = true → (σ.L b).1 = 0) ∧ (w = false → ¬ M b) ∧
      pls = ⟨some ⟨b, 0, none⟩, 0, 0, bif w then some b else none⟩ :: p2
  | .row E fl, xs, v, pls => ∃ A k ow, v = .slice A (xs : List (I E)).length k ∧ OwnR ow fl E σ (xs : List (I E)) A k ∧ pls = [⟨A, k, (xs : List (I E)).length, ow⟩]
  | .fn ks rs, g, v, pls => ∃ f as cs, v = .func (.func f) (List.toArray as) (List.toArray cs) ∧ FnOk P M σ f as cs ks rs g ∧ pls = []
  | .bor E, xs, v, pls => ∃ A k, v = .slice A (xs : List (I E)).length k ∧ Bor M σ (xs : List (I E)) A ∧ pls = [⟨A, k, (xs : List (I E)).length, none⟩]
def PArgs (P : Program) (M : Nat → Prop) (σ : S) : (ps : List Pk) → TysP I ps → List Value → List Pl → Prop
  | [], _, vs, pls => vs = [] ∧ pls = []
  | p :: r, q, vs, pls => ∃ v vs' p1 p2, vs = v :: vs' ∧ pls = p1 ++ p2 ∧ PArg P M σ p q.1 v p1 ∧ PArgs P M σ r q.2 vs' p2
/-- What stands in the variables behind the call. -/
def OutC (τ : S) : List Pk → List Value → List Value → Prop
  | [], [], us => us = []
  | .var T v true :: r, u0 :: vs, us => ∃ b cs u us', u0 = .pointer (some ⟨b, 0, none⟩) ∧ us = u :: us' ∧ τ.w.heap[b]? = some (.cells cs.toArray T (0, 0)) ∧ (τ.L b).1 = 0 ∧ ContV v cs u ∧ OutC τ r vs us'
  | _ :: r, _ :: vs, us => OutC τ r vs us
  | _, _, _ => False
def varB : List Pk → List Value → List Nat
  | .var _ _ true :: r, .pointer (some ⟨b, _, _⟩) :: vs => b :: varB r vs
  | _ :: r, _ :: vs => varB r vs
  | _, _ => []
structure Post (σ τ : S) (ps : List Pk) (rs : List V) (vs : List Value) (res : TyT I (rs ++ outV ps)) (gr : List Nat) (v : Value) (ws us : List Value) (pls : List Pl) : Prop where
  ret : v = retV ws
  len : ws.length = rs.length
  tt : TT τ (rs ++ outV ps) res (ws ++ us) pls
  out : OutC τ ps vs us
  nodup : (ows pls).Nodup
  own : ∀ g ∈ ows pls, (σ.N ≤ g ∨ g ∈ gr) ∧ g ∉ varB ps vs
def RowOk (P : Program) (r : Row I) : Prop := ∀ (σ : S) (a : TysP I r.ps) (vs : List Value) (pls : List Pl) (res : TyT I (r.rs ++ outV r.ps)),
  PArgs P (fun b => σ.N ≤ b ∨ b ∈ ows pls) σ r.ps a vs pls → (ows pls).Nodup → appP r.ps r.run a = some res →
    CallS P r.f vs σ (Stp (fun b => b ∈ ows pls) σ) fun v τ => ∃ ws us pls', Post σ τ r.ps r.rs vs res (ows pls) v ws us pls'

/-- The same, where the arguments meet a condition on the world. -/
def RowOkS (P : Program) (r : Row I) (C : World → List Value → Prop) : Prop := ∀ (σ : S) (a : TysP I r.ps) (vs : List Value) (pls : List Pl) (res : TyT I (r.rs ++ outV r.ps)),
  PArgs P (fun b => σ.N ≤ b ∨ b ∈ ows pls) σ r.ps a vs pls → C σ.w vs → (ows pls).Nodup → appP r.ps r.run a = some res →
    CallS P r.f vs σ (Stp (fun b => b ∈ ows pls) σ) fun v τ => ∃ ws us pls', Post σ τ r.ps r.rs vs res (ows pls) v ws us pls'

/-! ### a function's own start and end -/
def pvPs (tb : Tab I) : Nat → (ps : List Pk) → TysP I ps → List (PV I)
  | _, [], _ => []
  | nb, .d k :: r, q => pvKd tb k q.1 :: pvPs tb nb r q.2
  | nb, .var _ v _ :: r, q => .ptr nb 0 :: pvPs tb (nb + 1 + cnV v) r q.2
  | nb, .row _ _ :: r, q => .vw nb :: pvPs tb (nb + 1) r q.2
  | nb, .fn ks rs :: r, q => .fn ks rs q.1 :: pvPs tb nb r q.2
  | nb, .bor _ :: r, q => .vw nb :: pvPs tb (nb + 1) r q.2
def iniO (tb : Tab I) : Nat → (ps : List Pk) → TysP I ps → Obs I → Obs I
  | _, [], _, O => O
  | nb, .d _ :: r, q, O => iniO tb nb r q.2 O
  | nb, .var T v w :: r, q, O => iniO tb (nb + 1 + cnV v) r q.2 (upF (addO O (nb + 1) (obV v q.1)) nb (some (.var T (contL v (pvV tb (nb + 1) v q.1)) w)))
  | nb, .row E fl :: r, q, O => iniO tb (nb + 1) r q.2 (upF O nb (some (.row E q.1 fl)))
  | nb, .fn _ _ :: r, q, O => iniO tb nb r q.2 O
  | nb, .bor E :: r, q, O => iniO tb (nb + 1) r q.2 (upF O nb (some (.bo E q.1)))
def cnPs : List Pk → Nat
  | [] => 0
  | .d _ :: r => cnPs r
  | .var _ v _ :: r => 1 + cnV v + cnPs r
  | .row _ _ :: r => 1 + cnPs r
  | .fn _ _ :: r => cnPs r
  | .bor _ :: r => 1 + cnPs r
def resP (tb : Tab I) (s : St I) : List ResultVar → Option (List (PV I))
  | [] => some []
  | .tmp t :: r => bif Nat.blt t s.n then Option.bind (s.F t) fun p => Option.bind (resP tb s r) fun ps => some (p :: ps) else none
  | .cell t T :: r => bif Nat.blt t s.n then (match s.F t with
    | some (.ptr l 0) => match s.O l with
      | some (some (.var _ ls _)) => Option.bind (loadL tb T ls 0) fun p => Option.bind (resP tb s r) fun ps => some (p :: ps)
      | _ => none
    | _ => none) else none
def outP (s : St I) : Nat → List Pk → Option (List (PV I))
  | _, [] => some []
  | nb, .var T v true :: r => match s.O nb with
    | some (some (.var T' ls true)) => bif Nat.beq T T' then Option.bind (contP v ls) fun p => Option.bind (outP s (nb + 1 + cnV v) r) fun ps => some (p :: ps) else none
    | _ => none
  | nb, .var _ v false :: r => outP s (nb + 1 + cnV v) r
  | nb, .row _ _ :: r => outP s (nb + 1) r
  | nb, .d _ :: r => outP s nb r
  | nb, .fn _ _ :: r => outP s nb r
  | nb, .bor _ :: r => outP s (nb + 1) r
def fin (tb : Tab I) (ps : List Pk) (rs : List V) (results : List ResultVar) : Ex → St I → Option (TyT I (rs ++ outV ps)) := fun e s => match e with
  | .exit _ => none
  | _ => Option.bind (resP tb s results) fun a => Option.bind (outP s 0 ps) fun b => Option.bind (getT tb s.O (rs ++ outV ps) (a ++ b)) fun x => bif rowsOk x.2.1 x.2.2 && Nat.beq a.length rs.length then some x.1 else none
def iniS (tb : Tab I) (nt : Nat) (ps : List Pk) (a : TysP I ps) : St I := ⟨nt, fun i => (pvPs tb 0 ps a)[i]?, iniO tb 0 ps a (fun _ => none), cnPs ps⟩
def execF (tb : Tab I) (disp : Disp I) (H : Hints I) (cd : Code) (nt : Nat) (ps : List Pk) (rs : List V) (results : List ResultVar) (a : TysP I ps) : Option (TyT I (rs ++ outV ps)) :=
  exec tb disp H cd 1 (TyT I (rs ++ outV ps)) (iniS tb nt ps a) (fin tb ps rs results)

variable {P : Program} {tb : Tab I} {X : Cxt} {c c' : Cx} {σ τ : S} {n : Nat} {F : Fr}
theorem contL_ok (ht : TabOk P tb) {v : V} {x : TyV I v} {cs : List Value} {u : Value} {pls : List Pl} {nb : Nat} (hc : ContV v cs u) (h : TV σ v x u pls) (hn : Num c nb pls) : RG X c σ (contL v (pvV tb nb v x)) cs := by
  have hv := (pvV_ok (X := X) (nb := nb) ht h hn).1
  unfold contL
  unfold ContV at hc
  cases ha : aggV v with
  | true =>
    rw [ha] at hc
    simp only [cond_true] at hc ⊢
    rcases pvV_agg (tb := tb) (nb := nb) (x := x) ha with ⟨ls, e⟩ | ⟨E', y', e⟩
    · rw [e] at hv ⊢
      simp only [RV] at hv
      obtain ⟨cs', q1, q2⟩ := hv
      rw [hc] at q1
      have : cs = cs' := by
        injection q1 with q1
        have := congrArg Array.toList q1
        simpa using this
      rw [this]; exact q2
    · rw [e] at hv ⊢
      simp only [RV] at hv
      obtain ⟨cs', q1, q2⟩ := hv
      rw [hc] at q1
      have : cs = cs' := by
        injection q1 with q1
        have := congrArg Array.toList q1
        simpa using this
      rw [this]; exact RG.one q2
  | false =>
    rw [ha] at hc
    simp only [cond_false] at hc ⊢
    subst hc
    exact RG.single (pvV_one ha) hv
theorem contP_ok {v : V} {ls : List (PV I)} {p : PV I} {cs : List Value} (h : contP v ls = some p) (hl : RG X c σ ls cs) : ∃ u, RV X c σ p u ∧ ContV v cs u := by
  unfold contP at h
  unfold ContV
  cases ha : aggV v with
  | true =>
    rw [ha] at h
    cases h
    exact ⟨.agg cs.toArray, mkAgg_ok hl, rfl⟩
  | false =>
    rw [ha] at h
    simp only [cond_false] at h
    split at h
    · rename_i p0
      cases hd0 : isDat p0 with
      | true => rw [hd0] at h; cases h
      | false =>
        rw [hd0] at h
        cases h
        simp only [RG] at hl
        obtain ⟨a, r', rfl, hv, rfl⟩ := hl
        rcases hv with hv | ⟨_, v, rfl, hv⟩
        · exact (by cases p <;> first | exact hv.elim | cases hd0)
        · exact ⟨v, hv, rfl⟩
    · cases h
/-- The state that a call begins in. -/
theorem ini_ok (ht : TabOk P tb) {M : Nat → Prop} (hM : ∀ b, X.M b → M b) (hX : X.P = P) : ∀ {ps : List Pk} {a : TysP I ps} {vs : List Value} {pls : List Pl} {nb : Nat} {c : Cx} {s : St I} {done : List Nat}, PArgs P M σ ps a vs pls → Rel X c σ s n F → (∀ l, nb ≤ l → s.O l = none) →
    (∀ l p g, live s l → c l = some p → p.w = some g → g ∈ done) → (done ++ ows pls).Nodup → (∀ g ∈ ows pls, X.M g) →
    ∃ c', Cx.le c c' ∧ Rel X c' σ ⟨s.n, s.F, iniO tb nb ps a s.O, s.nx⟩ n F ∧ RVs X c' σ (pvPs tb nb ps a) vs
  | [], _, vs, pls, nb, c, s, done, ⟨h1, h2⟩, hr, _, _, _, _ => ⟨c, Cx.le_refl c, hr, by subst h1; simp only [pvPs, RVs]⟩
  | .d k :: r, q, vs, pls, nb, c, s, done, ⟨v, vs', p1, p2, e1, e2, ⟨h1, e3⟩, h2⟩, hr, hfr, hdn, hnd, hMg => by
    subst e3
    rw [List.nil_append] at e2
    subst e2
    obtain ⟨c', k1, k2, k3⟩ := ini_ok ht hM hX h2 hr hfr hdn hnd hMg
    refine ⟨c', k1, k2, ?_⟩
    simp only [pvPs, RVs]
    exact ⟨v, vs', e1, pvKd_ok ht h1, k3⟩
  | .fn ks rs :: r, q, vs, pls, nb, c, s, done, ⟨v, vs', p1, p2, e1, e2, ⟨f, as, cs, e4, h1, e3⟩, h2⟩, hr, hfr, hdn, hnd, hMg => by
    subst e3
    rw [List.nil_append] at e2
    subst e2
    obtain ⟨c', k1, k2, k3⟩ := ini_ok ht hM hX h2 hr hfr hdn hnd hMg
    refine ⟨c', k1, k2, ?_⟩
    simp only [pvPs, RVs, RV]
    exact ⟨v, vs', e1, ⟨f, as, cs, e4, by rw [hX]; exact h1.1, h1.2.1, fun τ hτ => by rw [hX]; exact h1.2.2 τ (hτ.mono fun b _ hb => hM b hb)⟩, k3⟩
  | .bor E :: r, q, vs, pls, nb, c, s, done, ⟨v, vs', p1, p2, e1, e2, ⟨A, k, e4, h1, e3⟩, h2⟩, hr, hfr, hdn, hnd, hMg => by
    subst e3
    subst e2
    have hnb := hfr nb (Nat.le_refl _)
    have hcn : c nb = none := hr.nom nb hnb
    obtain ⟨a1, a2⟩ := hr.add (l := nb) (o := .bo E q.1) (p := ⟨A, k, List.length q.1, none⟩) hnb (fun g hg => by cases hg) ⟨A, k, addC_self _ _ _, h1.sub fun b _ => hM b⟩
    obtain ⟨c', k1, k2, k3⟩ := ini_ok (nb := nb + 1) (s := setO s nb (some (.bo E q.1))) (done := done) ht hM hX h2 a2 (fun l hl => by
        have : (setO s nb (some (Ob.bo E q.1))).O l = s.O l := upF_ne (by omega)
        rw [this]; exact hfr l (by omega)) (fun l p g ⟨o, ho⟩ hc hw => by
        rcases upF_some ho with ⟨e, _⟩ | ⟨e, ho'⟩
        · subst e
          rw [addC_self] at hc
          cases hc
          cases hw
        · simp only [addC, if_neg e] at hc
          exact hdn l p g ⟨o, ho'⟩ hc hw) (by rw [ows_app] at hnd; exact hnd) (fun g hg => hMg g (by rw [ows_app]; simp [hg]))
    refine ⟨c', Cx.le_trans a1 k1, k2, ?_⟩
    simp only [pvPs, RVs, RV]
    exact ⟨v, vs', e1, ⟨_, k1 _ _ (addC_self _ _ _), e4⟩, k3⟩
  | .row E fl :: r, q, vs, pls, nb, c, s, done, ⟨v, vs', p1, p2, e1, e2, ⟨A, k, ow, e4, h1, e3⟩, h2⟩, hr, hfr, hdn, hnd, hMg => by
    subst e3
    subst e2
    have hnb := hfr nb (Nat.le_refl _)
    obtain ⟨a1, a2⟩ := hr.newRow (nb := nb) (E := E) (xs := q.1) (fl := fl) hnb h1 fun g hg => ⟨hMg g (by simp [ows, hg]), fun l' p' hl hc hw => by
      have hd := hdn l' p' g hl hc hw
      rw [List.nodup_append] at hnd
      exact hnd.2.2 g hd g (by simp [ows, hg]) rfl⟩
    have hnd' : ((done ++ ows [⟨A, k, List.length q.1, ow⟩]) ++ ows p2).Nodup := by rw [List.append_assoc, ← ows_app]; exact hnd
    obtain ⟨c', k1, k2, k3⟩ := ini_ok (nb := nb + 1) (s := setO s nb (some (.row E q.1 fl))) (done := done ++ ows [⟨A, k, List.length q.1, ow⟩]) ht hM hX h2 a2 (fun l hl => by
        have : (setO s nb (some (Ob.row E q.1 fl))).O l = s.O l := upF_ne (by omega)
        rw [this]; exact hfr l (by omega)) (fun l p g ⟨o, ho⟩ hc hw => by
        rcases upF_some ho with ⟨e, _⟩ | ⟨e, ho'⟩
        · subst e
          rw [addC_self] at hc
          cases hc
          simp only at hw
          subst hw
          simp [ows]
        · simp only [addC, if_neg e] at hc
          simp [hdn l p g ⟨o, ho'⟩ hc hw]) hnd' (fun g hg => hMg g (by rw [ows_app]; simp [hg]))
    refine ⟨c', Cx.le_trans a1 k1, k2, ?_⟩
    simp only [pvPs, RVs, RV]
    exact ⟨v, vs', e1, ⟨_, k1 _ _ (addC_self _ _ _), e4⟩, k3⟩
  | .var T vk w :: r, q, vs, pls, nb, c, s, done, ⟨v, vs', p1, p2, e1, e2, ⟨b, cs, u, pr, e4, hh, hcv, htv, hL, hnM, e3⟩, h2⟩, hr, hfr, hdn, hnd, hMg => by
    subst e3
    subst e2
    have hob := obV_ok htv
    have hlen : (obV vk q.1).length = cnV vk := by
      have := (pvV_ok (X := X) (c := addCN c (nb + 1) pr) (tb := tb) (nb := nb + 1) ht htv addCN_num).2
      rw [hob.1, this]
    have hpw : ows (⟨some ⟨b, 0, none⟩, 0, 0, bif w then some b else none⟩ :: pr) = (bif w then [b] else []) ++ ows pr := by
      cases w <;> simp [ows]
    have hnd2 := hnd
    rw [ows_app, hpw] at hnd2
    have hndr : (ows pr).Nodup := by
      rw [List.nodup_append] at hnd2
      have := hnd2.2.1
      rw [List.nodup_append] at this
      have := this.1
      rw [List.nodup_append] at this
      exact this.2.1
    have hdr : ∀ g ∈ ows pr, g ∉ done := fun g hg hd => by
      rw [List.nodup_append] at hnd2
      exact hnd2.2.2 g hd g (by simp [hg]) rfl
    obtain ⟨a1, a2⟩ := Rel.addN (nb := nb + 1) hr (freeN_iff.2 fun l hl => hfr l (by have := (mem_rng.1 hl).1; omega)) hob hndr fun g hg => ⟨hMg g (by rw [ows_app, hpw]; simp [hg]), fun l' p' hl hc hw => hdr g hg (hdn l' p' g hl hc hw)⟩
    have hnb : (addN s (nb + 1) (obV vk q.1)).O nb = none := by
      show addO s.O (nb + 1) (obV vk q.1) nb = none
      rw [addO_out (fun hm => by have := (mem_rng.1 hm).1; omega)]
      exact hfr nb (Nat.le_refl _)
    have hnum : Num (addCN c (nb + 1) pr) (nb + 1) pr := addCN_num
    have hcn : addCN c (nb + 1) pr nb = none := a2.nom nb hnb
    have hle3 : Cx.le (addCN c (nb + 1) pr) (addC (addCN c (nb + 1) pr) nb ⟨some ⟨b, 0, none⟩, 0, 0, bif w then some b else none⟩) := addC_le hcn
    have hlive2 : ∀ l p g, live (addN s (nb + 1) (obV vk q.1)) l → addCN c (nb + 1) pr l = some p → p.w = some g → g ∈ done ∨ g ∈ ows pr := fun l p g ⟨o, ho⟩ hc hw => by
      by_cases hm : l ∈ rng (nb + 1) (obV vk q.1).length
      · obtain ⟨m1, m2⟩ := mem_rng.1 hm
        have hlt : l - (nb + 1) < pr.length := by rw [← hob.1]; omega
        have := hnum (l - (nb + 1)) pr[l - (nb + 1)] (List.getElem?_eq_getElem hlt)
        rw [show nb + 1 + (l - (nb + 1)) = l from by omega, hc] at this
        cases this
        exact .inr (mem_ows.2 ⟨_, List.getElem_mem _, hw⟩)
      · have ho' : addO s.O (nb + 1) (obV vk q.1) l = some (some o) := ho
        rw [addO_out hm] at ho'
        have hcl : ∃ p0, c l = some p0 := by
          have := hr.objs l o ho'
          cases o with
          | var T ls w => obtain ⟨b, cs, k1, _⟩ := this; exact ⟨_, k1⟩
          | row E xs fl => obtain ⟨A, k, ow, k1, _⟩ := this; exact ⟨_, k1⟩
          | ro E xs => obtain ⟨A, k, k1, _⟩ := this; exact ⟨_, k1⟩
          | bo E xs => obtain ⟨A, k, k1, _⟩ := this; exact ⟨_, k1⟩
        obtain ⟨p0, hp0⟩ := hcl
        have := a1 l p0 hp0
        rw [hc] at this
        cases this
        exact .inl (hdn l p g ⟨o, ho'⟩ hp0 hw)
    obtain ⟨b1, b2⟩ := a2.add (l := nb) (o := .var T (contL vk (pvV tb (nb + 1) vk q.1)) w) (p := ⟨some ⟨b, 0, none⟩, 0, 0, bif w then some b else none⟩) hnb (fun g hg => by
        cases w with
        | false => cases hg
        | true =>
          cases hg
          refine ⟨hMg b (by rw [ows_app, hpw]; simp), fun l' p' hl hc hw => ?_⟩
          rw [List.nodup_append] at hnd2
          rcases hlive2 l' p' b hl hc hw with hd | hd
          · exact hnd2.2.2 b hd b (by simp) rfl
          · have := hnd2.2.1
            rw [List.nodup_append] at this
            have := this.1
            rw [List.nodup_append] at this
            exact this.2.2 b (by simp) b hd rfl)
      ⟨b, cs, addC_self _ _ _, RG.grow hle3 _ _ (contL_ok ht hcv htv hnum), hh, hL, fun e hb => hnM e (hM b hb)⟩
    have hnd' : ((done ++ ((bif w then [b] else []) ++ ows pr)) ++ ows p2).Nodup := by rw [List.append_assoc]; exact hnd2
    obtain ⟨c', k1, k2, k3⟩ := ini_ok (nb := nb + 1 + cnV vk) (s := setO (addN s (nb + 1) (obV vk q.1)) nb (some (.var T (contL vk (pvV tb (nb + 1) vk q.1)) w))) (done := done ++ ((bif w then [b] else []) ++ ows pr)) ht hM hX h2 b2 (fun l hl => by
        have : (setO (addN s (nb + 1) (obV vk q.1)) nb (some (Ob.var T (contL vk (pvV tb (nb + 1) vk q.1)) w))).O l = addO s.O (nb + 1) (obV vk q.1) l := upF_ne (by omega)
        rw [this, addO_out (fun hm => by have := (mem_rng.1 hm).2; omega)]
        exact hfr l (by omega)) (fun l p g ⟨o, ho⟩ hc hw => by
        rcases upF_some ho with ⟨e, _⟩ | ⟨e, ho'⟩
        · subst e
          rw [addC_self] at hc
          cases hc
          cases w with
          | false => cases hw
          | true => cases hw; simp
        · simp only [addC, if_neg e] at hc
          rcases hlive2 l p g ⟨o, ho'⟩ hc hw with hd | hd
          · simp [hd]
          · simp [hd]) hnd' (fun g hg => hMg g (by rw [ows_app]; simp [hg]))
    refine ⟨c', Cx.le_trans a1 (Cx.le_trans b1 k1), k2, ?_⟩
    simp only [pvPs, RVs, RV]
    exact ⟨v, vs', e1, ⟨b, _, k1 _ _ (addC_self _ _ _), e4⟩, k3⟩
end
end Go.Qx
