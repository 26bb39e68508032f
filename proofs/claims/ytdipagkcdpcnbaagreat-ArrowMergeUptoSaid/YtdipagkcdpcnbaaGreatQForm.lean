/- The symbolic executor: normal forms of states, where ways meet and where loops come round. -/
import Derived.Test.YtdipagkcdpcnbaaGreatQAny
namespace Go.Qx
open Go Go.RowKit Go.Sx

section
variable {I : TypeId → Type} [∀ E, Rp (I E)]
abbrev tyN (S W : List (Nat × V)) : List V := S.map (·.2) ++ W.map (·.2)
abbrev TyN (I : TypeId → Type) (S W : List (Nat × V)) : Type := TyT I (tyN S W)
def objAt (s : St I) (t : Nat) : Option Nat := match s.F t with
  | some (.ptr l 0) => some l
  | _ => none
/-- The variables that these slots point to. -/
def resW (s : St I) : List (Nat × V) → Option (List Nat)
  | [] => some []
  | x :: r => Option.bind (objAt s x.1) fun l => Option.bind (resW s r) fun r' => some (l :: r')
def datT : V → TypeId
  | .k (.d (.dat E)) => E
  | _ => 0
def aggV : V → Bool
  | .k (.d (.dat _)) => true
  | .lvs _ => true
  | _ => false
def contP (v : V) (ls : List (PV I)) : Option (PV I) := bif aggV v then some (mkAgg (datT v) ls) else match ls with
  | [p] => bif isDat p then none else some p
  | _ => none
def contL (v : V) (p : PV I) : List (PV I) := bif aggV v then (match p with
  | .agg ls => ls
  | p => [p]) else [p]
def slotsP (s : St I) : List (Nat × V) → Option (List (PV I))
  | [] => some []
  | x :: r => Option.bind (s.F x.1) fun p => Option.bind (slotsP s r) fun ps => some (p :: ps)
def objsP (O0 : Obs I) (s : St I) : List (Nat × V) → List Nat → Option (List (PV I))
  | [], [] => some []
  | x :: r, l :: ls => match s.O l, O0 l with
    | some (some (.var T vs true)), some (some (.var T0 _ _)) => bif Nat.beq T T0 then Option.bind (contP x.2 vs) fun p => Option.bind (objsP O0 s r ls) fun ps => some (p :: ps) else none
    | _, _ => none
  | _, _ => none
def rowsOk (pubs : List Nat) : List (Option Nat) → Bool
  | [] => true
  | none :: r => rowsOk pubs r
  | some l :: r => !(memN l pubs) && r.all (fun x => match x with | some l' => !(Nat.beq l' l) | none => true) && rowsOk pubs r
/-- The state, told by its kinds. -/
def getN (tb : Tab I) (O0 : Obs I) (S W : List (Nat × V)) (wl : List Nat) (s : St I) : Option (TyN I S W) :=
  Option.bind (slotsP s S) fun a => Option.bind (objsP O0 s W wl) fun b => Option.bind (getT tb s.O (tyN S W) (a ++ b)) fun x => bif rowsOk x.2.1 x.2.2 then some x.1 else none
def killO (ls : List Nat) (O : Obs I) : Obs I := fun l => bif memN l ls then (match O l with | some _ => some none | none => none) else O l
def asgW (O0 : Obs I) : List (Nat × V) → List Nat → List (PV I) → Obs I → Obs I
  | x :: r, l :: ls, p :: ps, O => match O0 l with
    | some (some (.var T _ w)) => asgW O0 r ls ps (upF O l (some (.var T (contL x.2 p) w)))
    | _ => asgW O0 r ls ps O
  | _, _, _, O => O
def asgS : List (Nat × V) → List (PV I) → (Nat → Option (PV I)) → Nat → Option (PV I)
  | x :: r, p :: ps, F => asgS r ps (upF F x.1 p)
  | _, _, F => F
def mskF (m : Nat) (F : Nat → Option (PV I)) : Nat → Option (PV I) := fun i => bif Nat.testBit m i then none else F i
/-- The state that a normal form stands for, over a base. -/
def nfS (tb : Tab I) (sb : St I) (m : Nat) (dead : List Nat) (S W : List (Nat × V)) (wl : List Nat) (x : TyN I S W) : St I :=
  let ps := pvT tb sb.nx (tyN S W) x
  ⟨sb.n, asgS S (ps.take S.length) (mskF m sb.F), asgW sb.O W wl (ps.drop S.length) (addO (killO (wl ++ dead) sb.O) sb.nx (obT (tyN S W) x)), sb.nx + cnT (tyN S W)⟩
def freeFrom (O : Obs I) (nb : Nat) : Nat → Bool
  | 0 => true
  | m + 1 => (O nb).isNone && freeFrom O (nb + 1) m
def isRow (O : Obs I) (l : Nat) : Bool := match O l with
  | some (some (.row _ _ _)) => true
  | _ => false
def deadOf (s : St I) (ts wl : List Nat) : List Nat := (numsF s.F ts ++ nest s.O wl).filter (isRow s.O)
/-- What is left alone within: to be read only. -/
def roO (own : List Nat) (O : Obs I) : Obs I := fun l => bif memN l own then O l else match O l with
  | some (some (.var T ls _)) => some (some (.var T ls false))
  | some (some (.row E xs true)) => some (some (.ro E xs))
  | some (some (.row _ _ false)) => some none
  | o => o
def roS (own : List Nat) (s : St I) : St I := ⟨s.n, s.F, roO own s.O, s.nx⟩

variable {P : Program} {tb : Tab I} {X X' : Cxt} {c c' : Cx} {σ τ : S} {s : St I} {n : Nat} {F F' : Fr} {O : Obs I}
/-! ### steps between states -/
theorem Rel.frameEq (h : Rel X c σ s n F) {G : Nat → Option (PV I)} (hG : ∀ i p, G i = some p → s.F i = some p ∧ F' i = F i) : Rel X c σ ⟨s.n, G, s.O, s.nx⟩ n F' :=
  ⟨h.len, fun i p hp => by obtain ⟨h1, h2⟩ := hG i p hp; rw [h2]; exact h.frame i p h1, h.objs, h.inj, h.mine, h.nom, h.base⟩
theorem Rel.less (h : Rel X c σ s n F) {O' : Obs I} (hO : ∀ l o, O' l = some (some o) → s.O l = some (some o)) (hn : ∀ l, O' l = none → s.O l = none) : Rel X c σ ⟨s.n, s.F, O', s.nx⟩ n F :=
  ⟨h.len, h.frame, fun l o ho => h.objs l o (hO l o ho), fun l l' p p' b ⟨o, a1⟩ ⟨o', a2⟩ => h.inj l l' p p' b ⟨o, hO l o a1⟩ ⟨o', hO l' o' a2⟩, fun l p b ⟨o, a1⟩ => h.mine l p b ⟨o, hO l o a1⟩, fun l hl => h.nom l (hn l hl), h.base⟩
theorem Rel.revive (h : Rel X c σ s n F) {l : Nat} {o : Ob I} (ho : ObjOk X c σ l o) (hw : ∀ p g, c l = some p → p.w = some g → X.M g ∧ ∀ l' p', l' ≠ l → live s l' → c l' = some p' → p'.w ≠ some g) : Rel X c σ (setO s l (some o)) n F := by
  have hlive : ∀ {l'}, l' ≠ l → live (setO s l (some o)) l' → live s l' := fun e ⟨o', h'⟩ => by
    rcases upF_some h' with ⟨e', _⟩ | ⟨_, h⟩
    · exact absurd e' e
    · exact ⟨o', h⟩
  refine ⟨h.len, h.frame, fun l' o'' hl' => ?_, fun l1 l2 p1 p2 b a1 a2 a3 a4 a5 a6 => ?_, fun l1 p1 b a1 a2 a3 => ?_, fun l' hl' => ?_, h.base⟩
  · rcases upF_some hl' with ⟨rfl, e⟩ | ⟨e, hl'⟩
    · cases e; exact ho
    · exact h.objs l' o'' hl'
  · by_cases e1 : l1 = l
    · by_cases e2 : l2 = l
      · rw [e1, e2]
      · subst e1
        exact absurd a6 ((hw p1 b a3 a5).2 l2 p2 e2 (hlive e2 a2) a4)
    · by_cases e2 : l2 = l
      · subst e2
        exact absurd a5 ((hw p2 b a4 a6).2 l1 p1 e1 (hlive e1 a1) a3)
      · exact h.inj l1 l2 p1 p2 b (hlive e1 a1) (hlive e2 a2) a3 a4 a5 a6
  · by_cases e1 : l1 = l
    · subst e1; exact (hw p1 b a2 a3).1
    · exact h.mine l1 p1 b (hlive e1 a1) a2 a3
  · refine h.nom l' ?_
    by_cases e : l' = l
    · subst e
      have : (setO s l' (some o)).O l' = some (some o) := upF_self _ _ _
      rw [this] at hl'; cases hl'
    · have : (setO s l (some o)).O l' = s.O l' := upF_ne e
      rw [this] at hl'; exact hl'
theorem Rel.asgS : ∀ {S : List (Nat × V)} {ps : List (PV I)} {s : St I}, Rel X c σ s n F → RVs X c σ ps (S.map fun x => F x.1) → Rel X c σ ⟨s.n, Qx.asgS S ps s.F, s.O, s.nx⟩ n F
  | [], _, s, h, _ => h
  | x :: S, [], s, h, hv => by simp only [List.map_cons, RVs] at hv; cases hv
  | x :: S, p :: ps, s, h, hv => by
    simp only [List.map_cons, RVs] at hv
    obtain ⟨v, r, e, h1, h2⟩ := hv
    cases e
    have hp : Rel X c σ ⟨s.n, upF s.F x.1 p, s.O, s.nx⟩ n F := by
      refine ⟨h.len, fun i q hq => ?_, h.objs, h.inj, h.mine, h.nom, h.base⟩
      rcases upF_some hq with ⟨rfl, rfl⟩ | ⟨_, hq⟩
      · exact h1
      · exact h.frame i q hq
    have := Rel.asgS hp h2
    exact this
/-! ### the rows that are taken are there -/
omit [∀ E, Rp (I E)] in
theorem getK_live {k : K} {p : PV I} {x : TyK I k} {ls : List Nat} {rows : List (Option Nat)} (h : getK tb O k p = some (x, ls, rows)) : ∀ l, some l ∈ rows → ∃ E, ∃ xs : List (I E), ∃ fl, O l = some (some (.row E xs fl)) := by
  unfold getK at h
  split at h
  · obtain ⟨y, hy, h⟩ := bind_some h
    cases h
    exact fun l hl => by simp at hl
  · rename_i E fl l0
    split at h
    · rename_i E' xs fl' ho
      obtain ⟨ys, hys, h⟩ := bind_some h
      split at h
      · cases h; exact fun l hl => by simp at hl; subst hl; exact ⟨_, _, _, ho⟩
      · cases h; exact fun l hl => by simp at hl; subst hl; exact ⟨_, _, _, ho⟩
      · cases h
    · cases h
  · cases h
    exact fun l hl => by simp at hl
  · obtain ⟨ys, hys, h2⟩ := bind_some h
    clear h
    cases h2
    exact fun l hl => by simp at hl
  · cases h
omit [∀ E, Rp (I E)] in
theorem getKs_live : ∀ {ks : List K} {ps : List (PV I)} {x : TyKs I ks} {ls : List Nat} {rows : List (Option Nat)}, getKs tb O ks ps = some (x, ls, rows) → ∀ l, some l ∈ rows → ∃ E, ∃ xs : List (I E), ∃ fl, O l = some (some (.row E xs fl))
  | [], [], _, _, _, h => by cases h; exact fun l hl => by simp at hl
  | [_], [_], _, _, _, h => getK_live h
  | k :: k' :: ks, p :: ps, _, _, _, h => by
    obtain ⟨y, hy, h⟩ := bind_some h
    obtain ⟨z, hz, h⟩ := bind_some h
    cases h
    intro l hl
    rcases List.mem_append.1 hl with hl | hl
    · exact getK_live (ls := y.2.1) (rows := y.2.2) hy l hl
    · exact getKs_live (ls := z.2.1) (rows := z.2.2) hz l hl
  | [], _ :: _, _, _, _, h => by simp [getKs] at h
  | [_], [], _, _, _, h => by simp [getKs] at h
  | [_], _ :: _ :: _, _, _, _, h => by simp [getKs] at h
  | _ :: _ :: _, [], _, _, _, h => by simp [getKs] at h
omit [∀ E, Rp (I E)] in
theorem getV_live {k : V} {p : PV I} {x : TyV I k} {ls : List Nat} {rows : List (Option Nat)} (h : getV tb O k p = some (x, ls, rows)) : ∀ l, some l ∈ rows → ∃ E, ∃ xs : List (I E), ∃ fl, O l = some (some (.row E xs fl)) := by
  unfold getV at h
  split at h
  · exact getK_live h
  · obtain ⟨_, h1⟩ := bif_some h
    obtain ⟨ls', _, h2⟩ := bind_some h1
    exact getKs_live h2
  · obtain ⟨_, h1⟩ := bif_some h
    obtain ⟨ls', _, h2⟩ := bind_some h1
    exact getKs_live h2
  · cases h
omit [∀ E, Rp (I E)] in
theorem getT_live : ∀ {ks : List V} {ps : List (PV I)} {x : TyT I ks} {ls : List Nat} {rows : List (Option Nat)}, getT tb O ks ps = some (x, ls, rows) → ∀ l, some l ∈ rows → ∃ E, ∃ xs : List (I E), ∃ fl, O l = some (some (.row E xs fl))
  | [], [], _, _, _, h => by cases h; exact fun l hl => by simp at hl
  | [_], [_], _, _, _, h => getV_live h
  | k :: k' :: ks, p :: ps, _, _, _, h => by
    obtain ⟨y, hy, h⟩ := bind_some h
    obtain ⟨z, hz, h⟩ := bind_some h
    cases h
    intro l hl
    rcases List.mem_append.1 hl with hl | hl
    · exact getV_live (ls := y.2.1) (rows := y.2.2) hy l hl
    · exact getT_live (ls := z.2.1) (rows := z.2.2) hz l hl
  | [], _ :: _, _, _, _, h => by simp [getT] at h
  | [_], [], _, _, _, h => by simp [getT] at h
  | [_], _ :: _ :: _, _, _, _, h => by simp [getT] at h
  | _ :: _ :: _, [], _, _, _, h => by simp [getT] at h
/-! ### what a normal form says -/
def Cont (τ : S) (cb : Cx) (O0 : Obs I) : List (Nat × V) → List Nat → List Value → Prop
  | [], [], us => us = []
  | x :: r, l :: ls, us => ∃ u us' b T vs w cs, us = u :: us' ∧ O0 l = some (some (.var T vs w)) ∧ cb l = some ⟨some ⟨b, 0, none⟩, 0, 0, some b⟩ ∧ τ.w.heap[b]? = some (.cells cs.toArray T (0, 0)) ∧ (τ.L b).1 = 0 ∧
      (bif aggV x.2 then u = .agg cs.toArray else cs = [u]) ∧ Cont τ cb O0 r ls us'
  | _, _, _ => False
structure Facts (M : Nat → Prop) (τ : S) (cb : Cx) (O0 : Obs I) (F : Fr) (S W : List (Nat × V)) (wl : List Nat) (x : TyN I S W) (pls : List Pl) (us : List Value) : Prop where
  tt : TT τ (tyN S W) x (S.map (fun y => F y.1) ++ us) pls
  cont : Cont τ cb O0 W wl us
  nodup : (ows pls).Nodup
  own : ∀ g ∈ ows pls, M g ∧ ∀ l ∈ wl, ∀ p, cb l = some p → p.w ≠ some g
  wown : ∀ l ∈ wl, ∀ p g, cb l = some p → p.w = some g → M g
theorem rowsOk_ok {pubs : List Nat} : ∀ {rows : List (Option Nat)}, rowsOk pubs rows = true → (rows.filterMap id).Nodup ∧ ∀ l, some l ∈ rows → l ∉ pubs
  | [], _ => ⟨by simp, fun l h => by simp at h⟩
  | none :: r, h => by
    obtain ⟨h1, h2⟩ := rowsOk_ok (rows := r) h
    exact ⟨by simpa using h1, fun l hl => h2 l (by simpa using hl)⟩
  | some l :: r, h => by
    simp only [rowsOk, Bool.and_eq_true] at h
    obtain ⟨⟨a1, a3⟩, a4⟩ := h
    obtain ⟨h1, h2⟩ := rowsOk_ok (rows := r) a4
    refine ⟨?_, fun l' hl' => ?_⟩
    · simp only [List.filterMap_cons, id]
      refine List.nodup_cons.2 ⟨fun hm => ?_, h1⟩
      have hm' : some l ∈ r := by simpa [List.mem_filterMap] using hm
      have := (List.all_eq_true.1 a3) _ hm'
      simp at this
    · rcases List.mem_cons.1 hl' with e | hl'
      · cases e
        exact memN_false.1 (by simpa using a1)
      · exact h2 l' hl'
theorem slotsP_ok (h : Rel X c σ s n F) : ∀ {S : List (Nat × V)} {ps : List (PV I)}, slotsP s S = some ps → RVs X c σ ps (S.map fun x => F x.1)
  | [], _, e => by cases e; simp [RVs]
  | x :: r, _, e => by
    obtain ⟨p, hp, e⟩ := bind_some e
    obtain ⟨ps, hps, e⟩ := bind_some e
    cases e
    simp only [List.map_cons, RVs]
    exact ⟨_, _, rfl, h.frame _ _ hp, slotsP_ok h hps⟩
theorem objsP_ok {cb : Cx} {O0 : Obs I} (h : Rel X c σ s n F) : ∀ {W : List (Nat × V)} {wl : List Nat} {ps : List (PV I)}, objsP O0 s W wl = some ps → (∀ l ∈ wl, c l = cb l) →
    ∃ us, RVs X c σ ps us ∧ Cont σ cb O0 W wl us ∧ ∀ l ∈ wl, live s l ∧ (∃ T vs w, s.O l = some (some (.var T vs w))) ∧ O0 l ≠ none
  | [], [], _, e, _ => by cases e; exact ⟨[], by simp [RVs], rfl, fun l hl => by cases hl⟩
  | x :: r, l :: ls, _, e, hle => by
    unfold objsP at e
    split at e
    · rename_i T vs T0 vs0 w0 ho ho0
      obtain ⟨hb, e2⟩ := bif_some e
      clear e
      have eT := Nat.eq_of_beq_eq_true hb
      subst eT
      obtain ⟨p, hp, e3⟩ := bind_some e2
      clear e2
      obtain ⟨ps, hps, e4⟩ := bind_some e3
      clear e3
      cases e4
      obtain ⟨us, h1, h2, h3⟩ := objsP_ok h hps (fun l' hl' => hle l' (by simp [hl']))
      obtain ⟨b, cs, k1, k2, k3, k4, _⟩ := h.objs l _ ho
      have hcb : cb l = some ⟨some ⟨b, 0, none⟩, 0, 0, some b⟩ := (hle l (by simp)).symm.trans k1
      have hcont : ∃ u, RV X c σ p u ∧ (bif aggV x.2 then u = .agg cs.toArray else cs = [u]) := by
        unfold contP at hp
        cases ha : aggV x.2 with
        | true =>
          rw [ha] at hp
          cases hp
          exact ⟨.agg cs.toArray, mkAgg_ok k2, rfl⟩
        | false =>
          rw [ha] at hp
          simp only [cond_false] at hp
          split at hp
          · rename_i p0
            cases hd0 : isDat p0 with
            | true => rw [hd0] at hp; cases hp
            | false =>
              rw [hd0] at hp
              cases hp
              simp only [RG] at k2
              obtain ⟨a, r', rfl, hv, rfl⟩ := k2
              rcases hv with hv | ⟨_, v, rfl, hv⟩
              · exact (by cases p <;> first | exact hv.elim | cases hd0)
              · exact ⟨v, hv, rfl⟩
          · cases hp
      obtain ⟨u, hu, hu2⟩ := hcont
      refine ⟨u :: us, by simp only [RVs]; exact ⟨u, us, rfl, hu, h1⟩, ⟨u, us, b, _, _, _, cs, rfl, ho0, hcb, k3, k4 rfl, hu2, h2⟩, fun l' hl' => ?_⟩
      rcases List.mem_cons.1 hl' with rfl | hl'
      · exact ⟨⟨_, ho⟩, ⟨_, _, _, ho⟩, by rw [ho0]; simp⟩
      · exact h3 l' hl'
    · cases e
  | [], _ :: _, _, e, _ => by simp [objsP] at e
  | _ :: _, [], _, e, _ => by simp [objsP] at e
theorem At.mem : ∀ {rows : List (Option Nat)} {pls : List Pl}, At c rows pls → ∀ g ∈ ows pls, ∃ l p, some l ∈ rows ∧ c l = some p ∧ p.w = some g
  | [], _, h, g, hg => by cases h; simp [ows] at hg
  | r :: rs, _, ⟨p, ps, e, h1, h2⟩, g, hg => by
    subst e
    simp only [ows, List.filterMap_cons] at hg
    cases hw : p.w with
    | none =>
      rw [hw] at hg
      obtain ⟨l, q, a, b⟩ := At.mem h2 g hg
      exact ⟨l, q, by simp [a], b⟩
    | some g' =>
      rw [hw] at hg
      rcases List.mem_cons.1 hg with rfl | hg
      · cases r with
        | none => simp only at h1; rw [h1] at hw; cases hw
        | some l => exact ⟨l, p, by simp, h1, hw⟩
      · obtain ⟨l, q, a, b⟩ := At.mem h2 g hg
        exact ⟨l, q, by simp [a], b⟩
theorem At.nodup (h : Rel X c σ s n F) : ∀ {rows : List (Option Nat)} {pls : List Pl}, At c rows pls → (rows.filterMap id).Nodup → (∀ l, some l ∈ rows → live s l) → (ows pls).Nodup
  | [], _, e, _, _ => by cases e; simp [ows]
  | r :: rs, _, ⟨p, ps, e, h1, h2⟩, hn, hl => by
    subst e
    have hn' : (rs.filterMap id).Nodup := by
      cases r with
      | none => simpa using hn
      | some l => simp only [List.filterMap_cons, id] at hn; exact (List.nodup_cons.1 hn).2
    have ih := At.nodup h h2 hn' (fun l hm => hl l (by simp [hm]))
    simp only [ows, List.filterMap_cons]
    cases hw : p.w with
    | none => exact ih
    | some g =>
      refine List.nodup_cons.2 ⟨fun hg => ?_, ih⟩
      obtain ⟨l', q, a1, a2, a3⟩ := At.mem h2 g hg
      cases r with
      | none => simp only at h1; rw [h1] at hw; cases hw
      | some l =>
        have e := h.inj l l' p q g (hl l (by simp)) (hl l' (by simp [a1])) h1 a2 hw a3
        subst e
        simp only [List.filterMap_cons, id] at hn
        exact (List.nodup_cons.1 hn).1 (by simpa [List.mem_filterMap] using a1)
/-- What a state says in its normal form. -/
theorem facts_ok (ht : TabOk P tb) (h : Rel X c σ s n F) {cb : Cx} {O0 : Obs I} {S W : List (Nat × V)} {wl : List Nat} (hle : ∀ l ∈ wl, c l = cb l) {x : TyN I S W} (hg : getN tb O0 S W wl s = some x) :
    ∃ τ pls us, τ.w = σ.w ∧ Stp X.M σ τ ∧ Facts X.M τ cb O0 F S W wl x pls us := by
  obtain ⟨a, ha, hg⟩ := bind_some hg
  obtain ⟨b, hb, hg⟩ := bind_some hg
  obtain ⟨y, hy, hg⟩ := bind_some hg
  obtain ⟨hr, hg⟩ := bif_some hg
  cases hg
  obtain ⟨τ, h1, h2, h3, h4, h5, h6⟩ := h.pubs (O := s.O) (fun _ _ h => h) y.2.1
  obtain ⟨r1, r2⟩ := rowsOk_ok hr
  obtain ⟨us, u1, u2, u3⟩ := objsP_ok h hb hle
  have hRV := RVs.step h2 _ _ (RVs.app _ _ _ _ (slotsP_ok h ha) u1)
  obtain ⟨pls, t1, t2⟩ := getT_ok ht h4 h5 (ls := y.2.1) (rows := y.2.2) hy (fun l hl => hl) (fun l hl => r2 l hl) hRV
  have hlive := getT_live (ls := y.2.1) (rows := y.2.2) hy
  have hl3 : ∀ l, some l ∈ y.2.2 → live (pubS s s.O y.2.1) l := fun l hl => by
    obtain ⟨E, xs, fl, ho⟩ := hlive l hl
    exact ⟨_, (h6 l (r2 l hl)).trans ho⟩
  have hcont : Cont τ cb O0 W wl us := by
    have key : ∀ {W : List (Nat × V)} {wl' : List Nat} {us : List Value}, (∀ l ∈ wl', l ∈ wl ∧ live s l ∧ (∃ T vs w, s.O l = some (some (.var T vs w))) ∧ O0 l ≠ none) → Cont σ cb O0 W wl' us → Cont τ cb O0 W wl' us := by
      intro W
      induction W with
      | nil =>
        intro wl' us _ hc
        cases wl' with
        | nil => exact hc
        | cons => exact hc.elim
      | cons w r ih =>
        intro wl' us hw hc
        cases wl' with
        | nil => exact hc.elim
        | cons l ls =>
          obtain ⟨u, us', b, T, vs, w', cs, e1, e2, e3, e4, e5, e6, e7⟩ := hc
          have hl0 := (hw l (by simp)).1
          have hvar : ∃ T vs w, (pubS s s.O y.2.1).O l = some (some (.var T vs w)) := by
            obtain ⟨_, _, ⟨T1, vs1, w1, ho⟩, _⟩ := hw l (by simp)
            refine ⟨T1, vs1, w1, ?_⟩
            show apU s.O (pubU s.O y.2.1) l = _
            rw [apU_out, ho]
            intro hm
            have hp : ∀ {ls : List Nat}, l ∈ keysU (pubU s.O ls) → ∃ E, ∃ xs : List (I E), s.O l = some (some (.row E xs false)) := by
              intro ls
              induction ls with
              | nil => intro h; simp [pubU, keysU] at h
              | cons a r ih =>
                intro h
                simp only [pubU] at h
                split at h
                · rename_i E xs e
                  simp only [keysU, List.map_cons, List.mem_cons] at h
                  rcases h with rfl | h
                  · exact ⟨E, xs, e⟩
                  · exact ih h
                · exact ih h
            obtain ⟨E, xs, e⟩ := hp hm
            rw [ho] at e; cases e
          obtain ⟨T2, vs2, w2, ho2⟩ := hvar
          obtain ⟨b2, cs2, k1, k2, k3, k4, k5⟩ := h3.objs l _ ho2
          have hcl := (hle l hl0).trans e3
          rw [k1] at hcl
          have hb2 : b2 = b ∧ w2 = true := by
            injection hcl with q
            injection q with q1 q2 q3 q4
            injection q1 with q5
            injection q5 with q6
            refine ⟨q6, ?_⟩
            cases w2
            · cases q4
            · rfl
          obtain ⟨rfl, rfl⟩ := hb2
          exact ⟨u, us', b2, T, vs, w', cs, e1, e2, e3, by rw [h1]; exact e4, k4 rfl, e6, ih (fun l' hl' => hw l' (by simp [hl'])) e7⟩
    exact key (fun l hl => ⟨hl, u3 l hl⟩) u2
  refine ⟨τ, pls, us, h1, h2, t1, hcont, At.nodup h3 t2 r1 hl3, fun g hg => ?_, fun l hl p g hc hw => ?_⟩
  · obtain ⟨l, p, a1, a2, a3⟩ := t2.mem g hg
    refine ⟨h3.mine l p g (hl3 l a1) a2 a3, fun l' hl' p' hc' hw' => ?_⟩
    have e := h.inj l l' p p' g (by obtain ⟨E, xs, fl, ho⟩ := hlive l a1; exact ⟨_, ho⟩) (u3 l' hl').1 a2 ((hle l' hl').trans hc') a3 hw'
    subst e
    obtain ⟨E, xs, fl, ho⟩ := hlive l a1
    obtain ⟨_, ⟨T, vs, w, ho'⟩, _⟩ := u3 l hl'
    rw [ho] at ho'; cases ho'
  · exact h.mine l p g (u3 l hl).1 ((hle l hl).trans hc) hw
end
end Go.Qx
