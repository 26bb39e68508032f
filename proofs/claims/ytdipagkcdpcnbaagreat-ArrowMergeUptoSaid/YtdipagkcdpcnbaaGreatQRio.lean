/- The symbolic executor: functions that turn a row that is handed in, and give it back to the caller's slot. -/
import Derived.Test.YtdipagkcdpcnbaaGreatQDisp
namespace Go.Qx
open Go Go.RowKit Go.Sx

section
variable {I : TypeId → Type} [∀ E, Rp (I E)] {P : Program} {tb : Tab I} {X : Cxt} {c c' : Cx} {σ τ : S} {s : St I} {n : Nat} {F : Fr} {O : Obs I}
/-- A function whose first argument is a row that comes back changed: its number, the row's type, its other parameters, its results, what it computes. -/
structure Rio (I : TypeId → Type) where
  f : FuncId
  E : TypeId
  ps : List Pk
  rs : List V
  run : List (I E) → FunP I ps (TyT I (rs ++ outV ps) × List (I E))
def RioOk (P : Program) (r : Rio I) : Prop := ∀ (σ : S) (xs : List (I r.E)) (a : TysP I r.ps) (vs : List Value) (pls : List Pl) (res : TyT I (r.rs ++ outV r.ps)) (ys : List (I r.E)),
  PArgs P (fun b => σ.N ≤ b ∨ b ∈ ows pls) σ (.row r.E false :: r.ps) (xs, a) vs pls → (ows pls).Nodup → appP r.ps (r.run xs) a = some (res, ys) →
    CallS P r.f vs σ (Stp (fun b => b ∈ ows pls) σ) fun v τ => ∃ ws us pls', Post σ τ (.row r.E false :: r.ps) r.rs vs res (ows pls) v ws us pls' ∧
      ∃ A k ow, pls.head? = some ⟨A, k, xs.length, ow⟩ ∧ ys.length = xs.length ∧ OwnR ow false r.E τ ys A k ∧ ∀ g, ow = some g → g ∉ ows pls'
omit [∀ E, Rp (I E)] in
theorem getK_vw {E : TypeId} {fl : Bool} {l : Nat} {y : List (I E) × List Nat × List (Option Nat)} (h : getK tb O (.row E fl) (.vw l) = some y) : y.2.2 = [some l] := by
  simp only [getK] at h
  split at h
  · replace h := bind_some h
    obtain ⟨ys, hys, h⟩ := h
    cases fl <;> rename_i fl' _ <;> cases fl' <;> first | (cases h; rfl) | cases h
  · cases h
/-! ### calls -/
def goRio (tb : Tab I) (r : Rio I) (disp : Disp I) (ρ : Type) (O : Obs I) (nb : Nat) (ps : List (PV I)) (k : Ef I → Option ρ) : Option ρ := match ps with
  | .vw l :: ps' => Option.bind (argsT tb disp O (roO [] (killO (grN O (.row r.E false :: r.ps) (.vw l :: ps')) O)) nb (.row r.E false :: r.ps) (.vw l :: ps')) fun a =>
    bif chkA (grN O (.row r.E false :: r.ps) (.vw l :: ps')) a.2 then Option.bind (appP r.ps (r.run a.1.1) a.1.2) fun res =>
      k ⟨retP ((pvT tb nb (r.rs ++ outV r.ps) res.1).take r.rs.length), (pubU O a.2.pub ++ killU a.2.all ++ varU a.2.gv ((pvT tb nb (r.rs ++ outV r.ps) res.1).drop r.rs.length)) ++ [(l, some (.row r.E res.2 false))], obT (r.rs ++ outV r.ps) res.1⟩ else none
  | _ => none
def rioE (tb : Tab I) (r : Rio I) : Ans I := ⟨r.f, goRio tb r⟩
omit [∀ E, Rp (I E)] in
theorem asgW_out {O0 : Obs I} {l : Nat} : ∀ {W : List (Nat × V)} {wl : List Nat} {ps : List (PV I)} {O : Obs I}, l ∉ wl → asgW O0 W wl ps O l = O l
  | [], _, _, _, _ => by unfold asgW; rfl
  | _ :: _, [], _, _, _ => by unfold asgW; rfl
  | _ :: _, _ :: _, [], _, _ => by unfold asgW; rfl
  | x :: r, l0 :: ls, p :: ps, O, h => by
    have hne : l ≠ l0 := fun e => h (by simp [e])
    have hls : l ∉ ls := fun e => h (by simp [e])
    have key : ∀ y : Option (Option (Ob I)), (match y with
      | some (some (.var T _ w)) => asgW O0 r ls ps (upF O l0 (some (.var T (contL x.2 p) w)))
      | _ => asgW O0 r ls ps O) l = O l := by
      intro y
      split
      · rw [asgW_out hls, upF_ne hne]
      · exact asgW_out hls
    exact key (O0 l0)
/-- Calls by a function's contract. -/
theorem rioE_ok (ht : TabOk P tb) {r : Rio I} (hr : RioOk P r) : EntOk P (rioE tb r) := by
  refine ⟨fun disp ρ O nb ps k => ?_, fun disp hd O nb ps ef he => ?_⟩
  · show goRio tb r disp ρ O nb ps k = (goRio tb r disp (Ef I) O nb ps some).bind k
    unfold goRio
    split
    · rename_i l0 ps'
      simp only [Option.bind_assoc]
      refine bindc fun a => ?_
      cases chkA (grN O (.row r.E false :: r.ps) (.vw l0 :: ps')) a.2
      · rfl
      · simp only [cond_true, Option.bind_assoc]
        rfl
    · rfl
  · intro X c σ s n F vs hX hO h hvs hfree
    have he' : goRio tb r disp (Ef I) O nb ps some = some ef := he
    unfold goRio at he'
    split at he'
    rotate_left
    · cases he'
    rename_i l0 ps'
    replace he' := bind_some he'
    obtain ⟨a, ha, he'⟩ := he'
    replace he' := bif_some he'
    obtain ⟨hchk, he'⟩ := he'
    replace he' := bind_some he'
    obtain ⟨res, hres, he'⟩ := he'
    cases he'
    obtain ⟨a, acc⟩ := a
    obtain ⟨res, ys⟩ := res
    have hrow0 : ∃ rest, acc.all = some l0 :: rest := by
      obtain ⟨x, hx, e⟩ := bind_some ha
      obtain ⟨y, hy, e⟩ := bind_some e
      cases e
      exact ⟨y.2.all, by show x.2.2 ++ y.2.all = _; rw [getK_vw hx]; rfl⟩
    have hO0 : ∃ E, ∃ xs : List (I E), ∃ fl, O l0 = some (some (.row E xs fl)) := by
      obtain ⟨x, hx, e⟩ := bind_some ha
      exact getK_live (ls := x.2.1) (rows := x.2.2) hx l0 (by rw [getK_vw hx]; simp)
    have hfree : freeN (apU s.O (pubU O acc.pub ++ killU acc.all ++ varU acc.gv ((pvT tb nb (r.rs ++ outV r.ps) res).drop r.rs.length))) nb (obT (r.rs ++ outV r.ps) res) = true ∧ l0 ∉ rng nb (obT (r.rs ++ outV r.ps) res).length := by
      have hf : freeN (apU s.O ((pubU O acc.pub ++ killU acc.all ++ varU acc.gv ((pvT tb nb (r.rs ++ outV r.ps) res).drop r.rs.length)) ++ [(l0, some (Ob.row r.E ys false))])) nb (obT (r.rs ++ outV r.ps) res) = true := hfree
      rw [apU_app] at hf
      rw [freeN_iff] at hf ⊢
      have hne : l0 ∉ rng nb (obT (r.rs ++ outV r.ps) res).length := fun hm => by
        have := hf l0 hm
        simp [apU, upF_self] at this
      refine ⟨fun l hl => ?_, hne⟩
      have h1 := hf l hl
      have e : l ≠ l0 := fun e => hne (by rw [← e]; exact hl)
      simpa [apU, upF_ne e] using h1
    obtain ⟨hfree, hl0n⟩ := hfree
    simp only [chkA, Bool.and_eq_true] at hchk
    obtain ⟨⟨q1, q2⟩, q3⟩ := hchk
    obtain ⟨r1, r2⟩ := rowsOk_ok q1
    have hgr : ∀ l, some l ∈ acc.all → l ∈ grN O (.row r.E false :: r.ps) (.vw l0 :: ps') := fun l hl => by
      have := (List.all_eq_true.1 q2) _ hl
      exact memN_iff.1 this
    have hrv : ∀ l ∈ acc.rv, l ∉ grN O (.row r.E false :: r.ps) (.vw l0 :: ps') := fun l hl => by
      have := (List.all_eq_true.1 q3) _ hl
      exact memN_false.1 (by simpa using this)
    obtain ⟨τ1, p1, p2, p3, p4, p5, p6⟩ := h.pubs hO acc.pub
    have hvs1 := RVs.step p2 _ _ hvs
    have hpubO : ∀ {l : Nat}, (∀ E (xs : List (I E)), O l ≠ some (some (.row E xs false))) → (pubS s O acc.pub).O l = s.O l := fun {l} hn => by
      show apU s.O (pubU O acc.pub) l = s.O l
      apply apU_out
      intro hm
      have hp : ∀ {ls : List Nat}, l ∈ keysU (pubU O ls) → ∃ E, ∃ xs : List (I E), O l = some (some (.row E xs false)) := by
        intro ls
        induction ls with
        | nil => intro h; simp [pubU, keysU] at h
        | cons a r ih =>
          intro h
          simp only [pubU] at h
          split at h
          · rename_i E xs e
            simp only [keysU, List.map_cons, List.mem_cons] at h
            rcases h with rfl | h
            · exact ⟨E, xs, e⟩
            · exact ih h
          · exact ih h
      obtain ⟨E, xs, e⟩ := hp hm
      exact hn E xs e
    have hOv : ∀ l T ls w, O l = some (some (.var T ls w)) → (pubS s O acc.pub).O l = some (some (.var T ls w)) := fun l T ls w ho => by
      rw [hpubO (fun E xs e => by rw [ho] at e; cases e)]; exact hO l _ ho
    have hOc : ∀ l o, roO [] (killO (grN O (.row r.E false :: r.ps) (.vw l0 :: ps')) O) l = some (some o) → roO [] (killO (grN O (.row r.E false :: r.ps) (.vw l0 :: ps')) (pubS s O acc.pub).O) l = some (some o) := by
      intro l o hl
      unfold roO killO at hl ⊢
      cases hm : memN l (grN O (.row r.E false :: r.ps) (.vw l0 :: ps')) with
      | true =>
        rw [hm] at hl
        cases hol : O l with
        | none => rw [hol] at hl; simp [memN] at hl
        | some x => rw [hol] at hl; simp [memN] at hl
      | false =>
        rw [hm] at hl
        simp only [cond_false, memN] at hl ⊢
        have hne : ∀ E (xs : List (I E)), O l ≠ some (some (.row E xs false)) := fun E xs e => by rw [e] at hl; simp at hl
        rw [hpubO hne]
        cases hol : O l with
        | none => rw [hol] at hl; simp at hl
        | some x =>
          cases x with
          | none => rw [hol] at hl; simp at hl
          | some o' => rw [hO l o' hol]; rw [hol] at hl; exact hl
    have hlv : ∀ l, some l ∈ acc.all → (∃ E, ∃ xs : List (I E), ∃ fl, O l = some (some (.row E xs fl))) ∨ (∃ T ls, O l = some (some (.var T ls true))) → live (pubS s O acc.pub) l := fun l hl hx => by
      rcases hx with ⟨E, xs, fl, ho⟩ | ⟨T, ls, ho⟩
      · exact ⟨_, (p6 l (r2 l hl)).trans (hO l _ ho)⟩
      · exact ⟨_, hOv l _ _ _ ho⟩
    -- the granted blocks are told by the places; a first look without function values
    have core : ∀ M : Nat → Prop, (∀ b, M b → τ1.N ≤ b ∨ ∃ l ∈ grN O (.row r.E false :: r.ps) (.vw l0 :: ps'), live (pubS s O acc.pub) l ∧ ∃ p, c l = some p ∧ p.w = some b) → _ := fun M hM =>
      argsT_ok ht hd hX p3 (fun l E xs fl e => pubU_row ⟨fl, e⟩ ⟨fl, hO l _ e⟩) (fun l E xs e => (hpubO (fun E' xs' e' => by rw [e] at e'; cases e')).trans (hO l _ e)) hOv p4 p5 hOc hM (nb := nb) ha hvs1 (fun _ h => h) r2 hrv
    have fin : ∀ (pls : List Pl), PArgs P (fun b => τ1.N ≤ b ∨ b ∈ ows pls) τ1 (.row r.E false :: r.ps) a vs pls → At c acc.all pls → VarsAt c O acc.gv (varB (.row r.E false :: r.ps) vs) → (∀ l, some l ∈ acc.all → (∃ E, ∃ xs : List (I E), ∃ fl, O l = some (some (.row E xs fl))) ∨ ∃ T v, (l, T, v) ∈ acc.gv) →
        (∀ x ∈ acc.gv, some x.1 ∈ acc.all) → acc.gv.map (fun x => x.2) = outTV (.row r.E false :: r.ps) → CallS P r.f vs σ (Stp X.M σ) fun v τ => ∃ c', Cx.le c c' ∧ Rel X c' τ (apE s nb ⟨retP ((pvT tb nb (r.rs ++ outV r.ps) res).take r.rs.length), pubU O acc.pub ++ killU acc.all ++ varU acc.gv ((pvT tb nb (r.rs ++ outV r.ps) res).drop r.rs.length) ++ [(l0, some (.row r.E ys false))], obT (r.rs ++ outV r.ps) res⟩) n F ∧
          RV X c' τ (retP ((pvT tb nb (r.rs ++ outV r.ps) res).take r.rs.length)) v := by
      intro pls k1 k2 k3 k4 k5 k6
      have hgv : ∀ x ∈ acc.gv, ∃ ls, O x.1 = some (some (.var x.2.1 ls true)) := by
        have : ∀ {gv : List (Nat × TypeId × V)} {bs : List Nat}, VarsAt c O gv bs → ∀ x ∈ gv, ∃ ls, O x.1 = some (some (.var x.2.1 ls true)) := by
          intro gv
          induction gv with
          | nil => intro bs _ x hx; cases hx
          | cons y r ih =>
            intro bs ⟨b, bs', ls, _, e2, _, e4⟩ x hx
            rcases List.mem_cons.1 hx with rfl | hx
            · exact ⟨ls, e2⟩
            · exact ih e4 x hx
        exact this k3
      have hlive : ∀ l, some l ∈ acc.all → live (pubS s O acc.pub) l := fun l hl => hlv l hl ((k4 l hl).imp id fun ⟨T, v, hm⟩ => by
        obtain ⟨ls, e⟩ := hgv _ hm
        exact ⟨T, ls, e⟩)
      have hnd : (ows pls).Nodup := At.nodup p3 k2 r1 hlive
      have hown : ∀ g ∈ ows pls, ∃ l p, some l ∈ acc.all ∧ c l = some p ∧ p.w = some g := k2.mem
      have hownM : ∀ g ∈ ows pls, X.M g := fun g hg => by
        obtain ⟨l, p, a1, a2, a3⟩ := hown g hg
        exact p3.mine l p g (hlive l a1) a2 a3
      refine CallS.mono (hr τ1 a.1 a.2 vs pls res ys k1 hnd hres) p1.symm fun v τ hst ⟨ws, us, pls', hpost, A0, kk0, ow0, z1, z2, z3, z4⟩ => ⟨τ, rfl, p2.trans (hst.mono fun b _ hb => hownM b hb), ?_⟩
      let kl := acc.all.filterMap id
      have hkl : ∀ l, l ∈ kl ↔ some l ∈ acc.all := fun l => by simp [kl, List.mem_filterMap]
      let s2 : St I := ⟨s.n, s.F, killO kl (pubS s O acc.pub).O, s.nx⟩
      have h2 : Rel X c τ1 s2 n F := p3.less (fun l o ho => (killO_live ho).2) (fun l ho => killO_none.1 ho)
      have h3 : Rel X c τ s2 n F := h2.stepG hst hownM fun l p g ⟨o, ho⟩ hc hw hg => by
        obtain ⟨m1, m2⟩ := killO_live ho
        obtain ⟨l', p', a1, a2, a3⟩ := hown g hg
        exact m1 ((hkl l).2 (by rw [p3.inj l l' p p' g ⟨o, m2⟩ (hlive l' a1) hc a2 hw a3]; exact a1))
      have hOpub : apU s.O (pubU O acc.pub ++ killU acc.all) = killO kl (pubS s O acc.pub).O := by
        rw [apU_app]
        funext l
        exact killU_at fun l hl => by obtain ⟨o, ho⟩ := hlive l hl; intro e; have := ho; rw [show (pubS s O acc.pub).O l = apU s.O (pubU O acc.pub) l from rfl, e] at this; cases this
      have hgvO : ∀ x ∈ acc.gv, ∃ ls, (pubS s O acc.pub).O x.1 = some (some (.var x.2.1 ls true)) := fun x hx => by
        obtain ⟨ls, e⟩ := hgv x hx
        exact ⟨ls, hOv _ _ _ _ e⟩
      have hfree2 : ∀ l ∈ rng nb (obT (r.rs ++ outV r.ps) res).length, killO kl (pubS s O acc.pub).O l = none ∧ l ∉ acc.gv.map (·.1) := by
        rw [freeN_iff] at hfree
        intro l hl
        have h0 := hfree l hl
        rw [apU_app, hOpub] at h0
        by_cases hk : l ∈ keysU (varU acc.gv ((pvT tb nb (r.rs ++ outV r.ps) res).drop r.rs.length))
        · exact absurd h0 (apU_in (O' := s.O) hk).2
        · rw [apU_out hk] at h0
          refine ⟨h0, fun hm => ?_⟩
          simp only [List.mem_map] at hm
          obtain ⟨x, hx, e⟩ := hm
          have := (hkl x.1).2 (k5 x hx)
          rw [e] at this
          have hl2 := hlive l ((hkl l).1 this)
          obtain ⟨o, ho⟩ := hl2
          have := killO_none.1 h0
          rw [ho] at this; cases this
      have htt : TT τ (r.rs ++ outV r.ps) res (ws ++ us) pls' := hpost.tt
      have hob := obT_ok htt
      obtain ⟨h4, h5⟩ := Rel.addN (nb := nb) h3 (freeN_iff.2 fun l hl => (hfree2 l hl).1) hob hpost.nodup fun g hg => by
        have ho := hpost.own g hg
        refine ⟨ho.1.elim (fun h => .inl (Nat.le_trans p3.base h)) (hownM g), fun l p ⟨o, ho'⟩ hc hw => ?_⟩
        obtain ⟨m1, m2⟩ := killO_live ho'
        rcases ho.1 with hge | hin
        · have := (p3.objs l o m2).lt hc hw
          have : τ1.w.heap.size ≤ g := hge
          omega
        · obtain ⟨l', p', a1, a2, a3⟩ := hown g hin
          exact m1 ((hkl l).2 (by rw [p3.inj l l' p p' g ⟨o, m2⟩ (hlive l' a1) hc a2 hw a3]; exact a1))
      obtain ⟨hps, hlen⟩ := pvT_ok (X := X) (c := addCN c nb pls') (nb := nb) ht hpost.tt addCN_num
      have htk := RVs.take r.rs.length _ _ hps
      have hdr := RVs.drop r.rs.length _ _ hps
      rw [List.take_left' hpost.len] at htk
      rw [List.drop_left' hpost.len] at hdr
      have hold : ∀ l, (pubS s O acc.pub).O l ≠ none → addCN c nb pls' l = c l := fun l hl => by
        have key : ∀ {ps : List Pl} {c : Cx} {nb : Nat}, (l < nb ∨ nb + ps.length ≤ l) → addCN c nb ps l = c l := by
          intro ps
          induction ps with
          | nil => intro c nb _; rfl
          | cons p ps ih =>
            intro c nb h
            simp only [addCN]
            rw [ih (by simp only [List.length_cons] at h; omega)]
            have : l ≠ nb := by simp only [List.length_cons] at h; omega
            simp [addC, this]
        apply key
        apply Classical.byContradiction
        intro hn
        rw [not_or] at hn
        exact hl (killO_none.1 (hfree2 l (mem_rng.2 ⟨by omega, by rw [hob.1]; omega⟩)).1)
      have hvarb : ∀ {gv : List (Nat × TypeId × V)} {bs : List Nat}, VarsAt c O gv bs → ∀ x ∈ gv, ∀ p g, c x.1 = some p → p.w = some g → g ∈ bs := by
        intro gv
        induction gv with
        | nil => intro bs _ x hx; cases hx
        | cons y r ih =>
          intro bs ⟨b, bs', ls, e1, e2, e3, e4⟩ x hx p g hc hw
          subst e1
          rcases List.mem_cons.1 hx with rfl | hx
          · rw [e3] at hc; cases hc; cases hw; simp
          · simp [ih e4 x hx p g hc hw]
      have k6' : acc.gv.map (fun x => x.2) = outTV r.ps := k6
      have hat : ∀ (i : Nat) (y : Nat × V) (p : PV I), (acc.gv.map fun x => (x.1, x.2.2))[i]? = some y → ((pvT tb nb (r.rs ++ outV r.ps) res).drop r.rs.length)[i]? = some p → ∃ nb' z, p = pvV tb nb' y.2 z := fun i y p hi hp => by
        refine pvT_at (tb := tb) (vs := r.rs ++ outV r.ps) (nb := nb) (x := res) (i := r.rs.length + i) (v := y.2) ?_ (by rw [List.getElem?_drop] at hp; exact hp)
        rw [List.getElem?_append_right (by simp), Nat.add_sub_cancel_left, ← outTV_snd, ← k6']
        rw [List.getElem?_map] at hi
        simp only [List.map_map, List.getElem?_map]
        cases hgi : acc.gv[i]? with
        | none => rw [hgi] at hi; cases hi
        | some z => rw [hgi] at hi; cases hi; rfl
      have h6 := Rel.asgW (pls := pls') ht p3 h5 (cont_of hpost.out k3 k6 hgvO) hdr (fun i y p hi hp hag => by
          obtain ⟨nb', z, e⟩ := hat i y p hi hp
          rw [e]; exact pvV_agg hag)
        (fun i y p hi hp hag => by
          obtain ⟨nb', z, e⟩ := hat i y p hi hp
          rw [e]; exact pvV_one hag)
        (fun l hl => hold l (by
          simp only [List.mem_map] at hl
          obtain ⟨x, hx, rfl⟩ := hl
          obtain ⟨ls, e⟩ := hgvO x hx
          rw [e]; simp))
        (fun l hl p g hc hw => by
          simp only [List.mem_map] at hl
          obtain ⟨x, hx, rfl⟩ := hl
          exact p3.mine x.1 p g (hlive _ (k5 x hx)) hc hw)
        (fun l ⟨o, ho⟩ => by
          by_cases hm : l ∈ rng nb (obT (r.rs ++ outV r.ps) res).length
          · right
            obtain ⟨a1, a2⟩ := mem_rng.1 hm
            have hlt : l - nb < pls'.length := by rw [← hob.1]; omega
            refine ⟨pls'[l - nb], List.getElem_mem _, ?_⟩
            have := addCN_num (c := c) (nb := nb) (l - nb) pls'[l - nb] (List.getElem?_eq_getElem hlt)
            rw [show nb + (l - nb) = l from by omega] at this
            exact this
          · left
            have ho' : addO (killO kl (pubS s O acc.pub).O) nb (obT (r.rs ++ outV r.ps) res) l = some (some o) := ho
            rw [addO_out hm] at ho'
            obtain ⟨_, m2⟩ := killO_live ho'
            exact ⟨⟨o, m2⟩, hold l (by rw [m2]; simp)⟩)
        (fun l hl p hc g hw hm => by
          simp only [List.mem_map] at hl
          obtain ⟨x, hx, rfl⟩ := hl
          exact (hpost.own g hm).2 (hvarb k3 x hx p g hc hw))
      refine ⟨_, h4, ?_, by rw [hpost.ret]; exact retP_ok htk⟩
      have hO2 : addO (apU s.O (pubU O acc.pub ++ killU acc.all ++ varU acc.gv ((pvT tb nb (r.rs ++ outV r.ps) res).drop r.rs.length))) nb (obT (r.rs ++ outV r.ps) res) =
          asgW (pubS s O acc.pub).O (acc.gv.map fun x => (x.1, x.2.2)) (acc.gv.map (·.1)) ((pvT tb nb (r.rs ++ outV r.ps) res).drop r.rs.length) (addO (killO kl (pubS s O acc.pub).O) nb (obT (r.rs ++ outV r.ps) res)) := by
        rw [apU_app, hOpub]
        exact varU_asg fun x hx => ⟨hgvO x hx, fun hm => (hfree2 x.1 hm).2 (List.mem_map.2 ⟨x, hx, rfl⟩)⟩
      have e : apE s nb ⟨retP ((pvT tb nb (r.rs ++ outV r.ps) res).take r.rs.length), pubU O acc.pub ++ killU acc.all ++ varU acc.gv ((pvT tb nb (r.rs ++ outV r.ps) res).drop r.rs.length) ++ [(l0, some (.row r.E ys false))], obT (r.rs ++ outV r.ps) res⟩ =
          setO ⟨s.n, s.F, asgW (pubS s O acc.pub).O (acc.gv.map fun x => (x.1, x.2.2)) (acc.gv.map (·.1)) ((pvT tb nb (r.rs ++ outV r.ps) res).drop r.rs.length) (addO (killO kl (pubS s O acc.pub).O) nb (obT (r.rs ++ outV r.ps) res)), s.nx⟩ l0 (some (.row r.E ys false)) := by
        have e1 : apU s.O (pubU O acc.pub ++ killU acc.all ++ varU acc.gv ((pvT tb nb (r.rs ++ outV r.ps) res).drop r.rs.length) ++ [(l0, some (.row r.E ys false))]) = upF (apU s.O (pubU O acc.pub ++ killU acc.all ++ varU acc.gv ((pvT tb nb (r.rs ++ outV r.ps) res).drop r.rs.length))) l0 (some (.row r.E ys false)) := by rw [apU_app]; rfl
        simp only [apE, e1, addO_upF hl0n, hO2, setO]
      rw [e]
      obtain ⟨rest0, hall⟩ := hrow0
      have hm0 : some l0 ∈ acc.all := by rw [hall]; simp
      obtain ⟨pl0, pls0, e0, hc0, _⟩ := (by rw [hall] at k2; exact k2 : At c (some l0 :: rest0) pls)
      have hc0 : c l0 = some pl0 := hc0
      rw [e0] at z1
      cases z1
      have hl0v : l0 ∉ acc.gv.map (·.1) := fun hm => by
        simp only [List.mem_map] at hm
        obtain ⟨x, hx, e⟩ := hm
        obtain ⟨ls, e2⟩ := hgv x hx
        obtain ⟨E, xs, fl, e3⟩ := hO0
        rw [← e, e2] at e3; cases e3
      obtain ⟨o0, hlive0⟩ := hlive l0 hm0
      have hdead : asgW (pubS s O acc.pub).O (acc.gv.map fun x => (x.1, x.2.2)) (acc.gv.map (·.1)) ((pvT tb nb (r.rs ++ outV r.ps) res).drop r.rs.length) (addO (killO kl (pubS s O acc.pub).O) nb (obT (r.rs ++ outV r.ps) res)) l0 = some none := by
        rw [asgW_out hl0v, addO_out hl0n]
        unfold killO
        rw [memN_iff.2 ((hkl l0).2 hm0), hlive0]
        rfl
      have hc0' := (hold l0 (by rw [hlive0]; simp)).trans hc0
      refine h6.revive ⟨A0, kk0, ow0, by rw [z2]; exact hc0', z3⟩ fun p2 g hp2 hg => ?_
      rw [hc0'] at hp2
      cases hp2
      refine ⟨hownM g (by rw [e0]; simp only at hg; subst hg; simp [ows]), fun l' p' _ ⟨o', ho'⟩ hc' hw' => ?_⟩
      have ho' : asgW (pubS s O acc.pub).O (acc.gv.map fun x => (x.1, x.2.2)) (acc.gv.map (·.1)) ((pvT tb nb (r.rs ++ outV r.ps) res).drop r.rs.length) (addO (killO kl (pubS s O acc.pub).O) nb (obT (r.rs ++ outV r.ps) res)) l' = some (some o') := ho'
      by_cases hm : l' ∈ rng nb (obT (r.rs ++ outV r.ps) res).length
      · obtain ⟨a1, a2⟩ := mem_rng.1 hm
        have hlt : l' - nb < pls'.length := by rw [← hob.1]; omega
        have hn := addCN_num (c := c) (nb := nb) (l' - nb) pls'[l' - nb] (List.getElem?_eq_getElem hlt)
        rw [show nb + (l' - nb) = l' from by omega, hc'] at hn
        cases hn
        exact z4 g hg (mem_ows.2 ⟨_, List.getElem_mem _, hw'⟩)
      · have hlv' : live (pubS s O acc.pub) l' := by
          by_cases hv : l' ∈ acc.gv.map (·.1)
          · simp only [List.mem_map] at hv
            obtain ⟨x, hx, e⟩ := hv
            rw [← e]
            exact hlive _ (k5 x hx)
          · rw [asgW_out hv, addO_out hm] at ho'
            exact ⟨_, (killO_live ho').2⟩
        have hcc : c l' = some p' := by
          obtain ⟨o2, ho2⟩ := hlv'
          rw [← hold l' (by rw [ho2]; simp)]; exact hc'
        have el := p3.inj l' l0 p' _ g hlv' ⟨_, hlive0⟩ hcc hc0 hw' hg
        rw [el, hdead] at ho'
        cases ho'
    -- the places don't hang on M: with the granted blocks of those places once more
    obtain ⟨pls0, k1, k2, k3, k4, k5, k6⟩ := core (fun _ => False) (fun _ h => h.elim)
    obtain ⟨pls, k1', k2', _⟩ := core (fun b => τ1.N ≤ b ∨ b ∈ ows pls0) (fun b hb => hb.imp id fun hb => by
      obtain ⟨l, p, a1, a2, a3⟩ := k2.mem b hb
      refine ⟨l, hgr l a1, hlv l a1 ((k4 l a1).imp id fun ⟨T, v, hm⟩ => ?_), p, a2, a3⟩
      have : ∀ {gv : List (Nat × TypeId × V)} {bs : List Nat}, VarsAt c O gv bs → ∀ x ∈ gv, ∃ ls, O x.1 = some (some (.var x.2.1 ls true)) := by
        intro gv
        induction gv with
        | nil => intro bs _ x hx; cases hx
        | cons y r ih =>
          intro bs ⟨b, bs', ls, _, e2, _, e4⟩ x hx
          rcases List.mem_cons.1 hx with rfl | hx
          · exact ⟨ls, e2⟩
          · exact ih e4 x hx
      obtain ⟨ls, e⟩ := this k3 _ hm
      exact ⟨T, ls, e⟩)
    have hsame : ows pls = ows pls0 := by
      have : ∀ {rows : List (Option Nat)} {p q : List Pl}, At c rows p → At c rows q → ows p = ows q := by
        intro rows
        induction rows with
        | nil => intro p q h1 h2; cases h1; cases h2; rfl
        | cons x r ih =>
          intro p q ⟨a, as, e1, g1, h1⟩ ⟨b, bs, e2, g2, h2⟩
          subst e1
          subst e2
          have hr := ih h1 h2
          simp only [ows, List.filterMap_cons] at hr ⊢
          have : a.w = b.w := by
            cases x with
            | none => simp only at g1 g2; rw [g1, g2]
            | some l => simp only at g1 g2; rw [g1] at g2; cases g2; rfl
          rw [this, hr]
      exact this k2' k2
    rw [← hsame] at k1'
    exact fin pls k1' k2' k3 k4 k5 k6
end
end Go.Qx
