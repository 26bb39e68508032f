/- The symbolic executor: states out of normal forms; what a stretch of code may turn. -/
import Derived.Test.YtdipagkcdpcnbaaGreatQForm
namespace Go.Qx
open Go Go.RowKit Go.Sx

section
variable {I : TypeId → Type} [∀ E, Rp (I E)] {P : Program} {tb : Tab I} {X X' : Cxt} {c c' cb : Cx} {σ σ0 τ : S} {s sb : St I} {n : Nat} {F F0 F' : Fr} {O : Obs I}
omit [∀ E, Rp (I E)] in
theorem killO_live {ls : List Nat} {l : Nat} {o : Ob I} (h : killO ls O l = some (some o)) : l ∉ ls ∧ O l = some (some o) := by
  unfold killO at h
  cases hm : memN l ls with
  | true =>
    rw [hm] at h
    simp only [cond_true] at h
    split at h <;> cases h
  | false => rw [hm] at h; exact ⟨memN_false.1 hm, h⟩
omit [∀ E, Rp (I E)] in
theorem killO_none {ls : List Nat} {l : Nat} : killO ls O l = none ↔ O l = none := by
  unfold killO
  cases memN l ls with
  | true =>
    simp only [cond_true]
    cases O l <;> simp
  | false => exact Iff.rfl
/-- The variables get their contents. -/
theorem Rel.asgW (ht : TabOk P tb) {c4 : Cx} {pls : List Pl} (hb : Rel X cb σ0 sb n F0) : ∀ {W : List (Nat × V)} {wl : List Nat} {us : List Value} {ps : List (PV I)} {s : St I}, Rel X c4 τ s n F → Cont τ cb sb.O W wl us → RVs X c4 τ ps us →
    (∀ (i : Nat) (x : Nat × V) (p : PV I), W[i]? = some x → ps[i]? = some p → aggV x.2 = true → (∃ ls : List (PV I), p = PV.agg ls) ∨ ∃ E y, p = PV.dat E y) → (∀ (i : Nat) (x : Nat × V) (p : PV I), W[i]? = some x → ps[i]? = some p → aggV x.2 = false → isDat p = false) → (∀ l ∈ wl, c4 l = cb l) → (∀ l ∈ wl, ∀ p g, cb l = some p → p.w = some g → X.M g) → (∀ l', live s l' → (live sb l' ∧ c4 l' = cb l') ∨ ∃ pl ∈ pls, c4 l' = some pl) →
    (∀ l ∈ wl, ∀ p, cb l = some p → ∀ g, p.w = some g → g ∉ ows pls) → Rel X c4 τ ⟨s.n, s.F, Qx.asgW sb.O W wl ps s.O, s.nx⟩ n F
  | [], [], _, ps, s, h, _, _, _, _, _, _, _, _ => by cases ps <;> exact h
  | [], _ :: _, _, _, _, _, hc, _, _, _, _, _, _, _ => hc.elim
  | _ :: _, [], _, _, _, _, hc, _, _, _, _, _, _, _ => hc.elim
  | x :: r, l :: ls, us, ps, s, h, hc, hv, hp, hp2, hcc, hM, hl, hn => by
    obtain ⟨u, us', b, T, vs, w, cs, e1, e2, e3, e4, e5, e6, e7⟩ := hc
    subst e1
    cases ps with
    | nil => simp only [RVs] at hv; cases hv
    | cons p ps =>
      simp only [RVs] at hv
      obtain ⟨v, r', e, hv1, hv2⟩ := hv
      cases e
      have hw : w = true := by
        obtain ⟨b', cs', k1, _⟩ := hb.objs l _ e2
        rw [k1] at e3
        injection e3 with q
        injection q with q1 q2 q3 q4
        cases w
        · cases q4
        · rfl
      subst hw
      have hcl : c4 l = some ⟨some ⟨b, 0, none⟩, 0, 0, some b⟩ := (hcc l (by simp)).trans e3
      have hnd : aggV x.2 = false → isDat p = false := fun ha => hp2 0 x p rfl rfl ha
      have hcont : RG X c4 τ (contL x.2 p) cs := by
        unfold contL
        cases ha : aggV x.2 with
        | true =>
          rw [ha] at e6
          simp only [cond_true] at e6 ⊢
          subst e6
          rcases hp 0 x p rfl rfl ha with ⟨ls', rfl⟩ | ⟨E', y', rfl⟩
          · simp only [RV] at hv1
            obtain ⟨cs', q1, q2⟩ := hv1
            have : cs = cs' := by
              injection q1 with q1
              have := congrArg Array.toList q1
              simpa using this
            rw [this]; exact q2
          · simp only [RV] at hv1
            obtain ⟨cs', q1, q2⟩ := hv1
            have : cs = cs' := by
              injection q1 with q1
              have := congrArg Array.toList q1
              simpa using this
            rw [this]; exact RG.one q2
        | false =>
          rw [ha] at e6
          simp only [cond_false] at e6 ⊢
          subst e6
          exact RG.single (hnd ha) hv1
      have hrev : Rel X c4 τ (setO s l (some (.var T (contL x.2 p) true))) n F := by
        refine h.revive ⟨b, cs, hcl, hcont, e4, (fun _ => e5), fun e => by cases e⟩ fun q g hq hg => ?_
        rw [hcl] at hq
        cases hq
        cases hg
        refine ⟨hM l (by simp) _ b e3 rfl, fun l' p' hne hlv hc' hw' => ?_⟩
        rcases hl l' hlv with ⟨k1, k2⟩ | ⟨pl, k1, k2⟩
        · rw [k2] at hc'
          exact hne (hb.inj l' l p' _ b k1 ⟨_, e2⟩ hc' e3 hw' rfl)
        · rw [k2] at hc'
          cases hc'
          exact hn l (by simp) _ e3 b rfl (mem_ows.2 ⟨_, k1, hw'⟩)
      have := Rel.asgW ht (pls := pls) hb (W := r) (wl := ls) (ps := ps) hrev e7 hv2 (fun i y q h1 h2 => hp (i + 1) y q (by simpa using h1) (by simpa using h2)) (fun i y q h1 h2 => hp2 (i + 1) y q (by simpa using h1) (by simpa using h2)) (fun l' hl' => hcc l' (by simp [hl'])) (fun l' hl' => hM l' (by simp [hl'])) (fun l' hlv => by
        obtain ⟨o, ho⟩ := hlv
        rcases upF_some ho with ⟨e, _⟩ | ⟨_, h'⟩
        · subst e
          exact .inl ⟨⟨_, e2⟩, hcl.trans e3.symm⟩
        · exact hl l' ⟨o, h'⟩) (fun l' hl' => hn l' (by simp [hl']))
      simp only [Qx.asgW, e2]
      exact this
omit [∀ E, Rp (I E)] in
theorem pvV_agg {nb : Nat} {v : V} {x : TyV I v} (h : aggV v = true) : (∃ ls, pvV tb nb v x = .agg ls) ∨ ∃ E y, pvV tb nb v x = .dat E y := by
  cases v with
  | k k =>
    cases k with
    | d k =>
      cases k with
      | dat E => exact .inr ⟨E, x, rfl⟩
      | _ => cases h
    | row E fl => cases h
  | lvs ks => exact .inl ⟨_, rfl⟩
omit [∀ E, Rp (I E)] in
theorem pvV_one {nb : Nat} {v : V} {x : TyV I v} (h : aggV v = false) : isDat (pvV tb nb v x) = false := by
  cases v with
  | k k =>
    cases k with
    | d k =>
      cases k with
      | dat E => cases h
      | _ => rfl
    | row E fl => rfl
  | lvs ks => cases h
omit [∀ E, Rp (I E)] in
theorem pvT_at : ∀ {vs : List V} {nb : Nat} {x : TyT I vs} {i : Nat} {v : V} {p : PV I}, vs[i]? = some v → (pvT tb nb vs x)[i]? = some p → ∃ nb' y, p = pvV tb nb' v y
  | [], _, _, _, _, _, h, _ => by simp at h
  | [_], nb, x, 0, _, _, h1, h2 => by
    simp [pvT] at h1 h2
    subst h1; subst h2
    exact ⟨_, _, rfl⟩
  | [_], _, _, _ + 1, _, _, h1, _ => by simp at h1
  | v :: v' :: vs, nb, x, 0, _, _, h1, h2 => by
    simp [pvT] at h1 h2
    subst h1; subst h2
    exact ⟨_, _, rfl⟩
  | v :: v' :: vs, nb, x, i + 1, _, _, h1, h2 => pvT_at (vs := v' :: vs) (x := x.2) (by simpa using h1) (by simpa [pvT] using h2)
/-- The state that a normal form stands for. -/
theorem build (ht : TabOk P tb) (hb : Rel X cb σ0 sb n F0) {G : Nat → Prop} (st : Stp G σ0 τ) (hG : ∀ b, G b → X.M b) {m : Nat} (hF : ∀ i, Nat.testBit m i = false → F i = F0 i) {dead wl : List Nat} {S W : List (Nat × V)} {x : TyN I S W} {pls : List Pl} {us : List Value}
    (hkeep : ∀ l p g, live sb l → l ∉ wl → l ∉ dead → cb l = some p → p.w = some g → ¬ G g) (hf : Facts G τ cb sb.O F S W wl x pls us) (hfree : freeN sb.O sb.nx (obT (tyN S W) x) = true) :
    Cx.le cb (addCN cb sb.nx pls) ∧ Rel X (addCN cb sb.nx pls) τ (nfS tb sb m dead S W wl x) n F := by
  have h1 : Rel X cb σ0 ⟨sb.n, mskF m sb.F, killO (wl ++ dead) sb.O, sb.nx⟩ n F :=
    (hb.less (O' := killO (wl ++ dead) sb.O) (fun l o h => (killO_live h).2) (fun l h => killO_none.1 h)).frameEq fun i p hp => by
      unfold mskF at hp
      cases hm : Nat.testBit m i with
      | true => rw [hm] at hp; cases hp
      | false => rw [hm] at hp; exact ⟨hp, hF i hm⟩
  have h2 : Rel X cb τ ⟨sb.n, mskF m sb.F, killO (wl ++ dead) sb.O, sb.nx⟩ n F := h1.stepG st hG fun l p g ⟨o, ho⟩ hc hw => by
    obtain ⟨k1, k2⟩ := killO_live ho
    rw [List.mem_append, not_or] at k1
    exact hkeep l p g ⟨o, k2⟩ k1.1 k1.2 hc hw
  have hfree' : freeN (killO (wl ++ dead) sb.O) sb.nx (obT (tyN S W) x) = true := by
    rw [freeN_iff] at hfree ⊢
    exact fun l hl => killO_none.2 (hfree l hl)
  obtain ⟨h3, h4⟩ := Rel.addN h2 hfree' (obT_ok hf.tt) hf.nodup fun g hg => ⟨hG g (hf.own g hg).1, fun l p ⟨o, ho⟩ hc hw => by
    obtain ⟨k1, k2⟩ := killO_live ho
    rw [List.mem_append, not_or] at k1
    exact hkeep l p g ⟨o, k2⟩ k1.1 k1.2 hc hw (hf.own g hg).1⟩
  refine ⟨h3, ?_⟩
  obtain ⟨hps, hlen⟩ := pvT_ok (X := X) (c := addCN cb sb.nx pls) (nb := sb.nx) ht hf.tt addCN_num
  have hSlen : (S.map fun y => F y.1).length = S.length := by simp
  have htk := RVs.take S.length _ _ hps
  have hdr := RVs.drop S.length _ _ hps
  rw [List.take_left' hSlen] at htk
  rw [List.drop_left' hSlen] at hdr
  have hold : ∀ l, sb.O l ≠ none → addCN cb sb.nx pls l = cb l := fun l hl => by
    have hob := obT_ok hf.tt
    have key : ∀ {ps : List Pl} {c : Cx} {nb : Nat}, (l < nb ∨ nb + ps.length ≤ l) → addCN c nb ps l = c l := by
      intro ps
      induction ps with
      | nil => intro c nb _; rfl
      | cons p ps ih =>
        intro c nb h
        simp only [addCN]
        rw [ih (by simp only [List.length_cons] at h; omega)]
        have : l ≠ nb := by simp only [List.length_cons] at h; omega
        simp [addC, this]
    apply key
    apply Classical.byContradiction
    intro hn
    rw [not_or] at hn
    rw [freeN_iff] at hfree
    exact hl (hfree l (mem_rng.2 ⟨by omega, by rw [hob.1]; omega⟩))
  have hwlive : ∀ {W : List (Nat × V)} {wl : List Nat} {us : List Value}, Cont τ cb sb.O W wl us → ∀ l ∈ wl, sb.O l ≠ none := by
    intro W
    induction W with
    | nil =>
      intro wl us hc l hl
      cases wl with
      | nil => cases hl
      | cons => exact hc.elim
    | cons w r ih =>
      intro wl us hc l hl
      cases wl with
      | nil => exact hc.elim
      | cons a as =>
        obtain ⟨u, us', b, T, vs, w', cs, e1, e2, e3, e4, e5, e6, e7⟩ := hc
        rcases List.mem_cons.1 hl with rfl | hl
        · rw [e2]; simp
        · exact ih e7 l hl
  have hat : ∀ (i : Nat) (y : Nat × V) (p : PV I), W[i]? = some y → ((pvT tb sb.nx (tyN S W) x).drop S.length)[i]? = some p → ∃ nb' z, p = pvV tb nb' y.2 z := fun i y p hi hp => by
    refine pvT_at (tb := tb) (vs := tyN S W) (nb := sb.nx) (x := x) (i := S.length + i) (v := y.2) ?_ ?_
    · rw [List.getElem?_append_right (by simp), List.length_map, Nat.add_sub_cancel_left, List.getElem?_map, hi]; rfl
    · rw [List.getElem?_drop] at hp; exact hp
  have h5 := Rel.asgW (pls := pls) ht hb h4 hf.cont hdr (fun i y p hi hp ha => by
      obtain ⟨nb', z, e⟩ := hat i y p hi hp
      rw [e]; exact pvV_agg ha) (fun i y p hi hp ha => by
      obtain ⟨nb', z, e⟩ := hat i y p hi hp
      rw [e]; exact pvV_one ha)
    (fun l hl => hold l (hwlive hf.cont l hl)) (fun l hl p g hp hg => hG g (hf.wown l hl p g hp hg)) (fun l ⟨o, ho⟩ => by
      by_cases hr : l ∈ rng sb.nx (obT (tyN S W) x).length
      · right
        obtain ⟨a1, a2⟩ := mem_rng.1 hr
        have hlt : l - sb.nx < pls.length := by rw [← (obT_ok hf.tt).1]; omega
        refine ⟨pls[l - sb.nx], List.getElem_mem _, ?_⟩
        have := addCN_num (c := cb) (nb := sb.nx) (l - sb.nx) pls[l - sb.nx] (List.getElem?_eq_getElem hlt)
        rw [show sb.nx + (l - sb.nx) = l from by omega] at this
        exact this
      · left
        have ho' : addO (killO (wl ++ dead) sb.O) sb.nx (obT (tyN S W) x) l = some (some o) := ho
        rw [addO_out hr] at ho'
        obtain ⟨_, k2⟩ := killO_live ho'
        exact ⟨⟨o, k2⟩, hold l (by rw [k2]; simp)⟩)
    (fun l hl p hp g hg hm => (hf.own g hm).2 l hl p hp hg)
  have h6 := Rel.asgS h5 htk
  exact ⟨h6.len, h6.frame, h6.objs, h6.inj, h6.mine, h6.nom, h6.base⟩
/-! ### within -/
def roC (own : List Nat) (c : Cx) : Cx := fun l => bif memN l own then c l else (c l).map fun p => ⟨p.A, p.k, p.m, none⟩
def within (X : Cxt) (c : Cx) (σ : S) (s : St I) (own : List Nat) : Cxt := ⟨X.P, σ.N, fun b => ∃ l ∈ own, live s l ∧ ∃ p, c l = some p ∧ p.w = some b⟩
mutual
theorem RV.conv (hP : X'.P = X.P) (hM : ∀ b, X'.M b → X.M b) (hc : ∀ l p, c l = some p → ∃ w, c' l = some ⟨p.A, p.k, p.m, w⟩) : ∀ (p : PV I) (v : Value), RV X c σ p v → RV X' c' σ p v
  | .int _ _, _, h => by simp only [RV] at h ⊢; exact h
  | .bool _, _, h => by simp only [RV] at h ⊢; exact h
  | .str _, _, h => by simp only [RV] at h ⊢; exact h
  | .sl _ _ _, _, h => by simp only [RV] at h ⊢; exact h
  | .nl _, _, h => by simp only [RV] at h ⊢; exact h
  | .ptr l _, _, h => by
    simp only [RV] at h ⊢
    obtain ⟨b, w, h1, h2⟩ := h
    obtain ⟨w', h3⟩ := hc _ _ h1
    exact ⟨b, w', h3, h2⟩
  | .vw l, _, h => by
    simp only [RV] at h ⊢
    obtain ⟨p, h1, h2⟩ := h
    obtain ⟨w', h3⟩ := hc _ _ h1
    exact ⟨_, h3, h2⟩
  | .vp l _ _ _, _, h => by
    simp only [RV] at h ⊢
    obtain ⟨b, q, k, m, w, h1, h2⟩ := h
    obtain ⟨w', h3⟩ := hc _ _ h1
    exact ⟨b, q, k, m, w', h3, h2⟩
  | .vs l _ _, _, h => by
    simp only [RV] at h ⊢
    obtain ⟨b, k, m, w, h1, h2⟩ := h
    obtain ⟨w', h3⟩ := hc _ _ h1
    exact ⟨b, k, m, w', h3, h2⟩
  | .ep _ _ _, _, h => by simp only [RV] at h ⊢; exact h
  | .dat _ _, _, h => by simp only [RV] at h ⊢; exact h
  | .clo _ ls, _, h => by
    simp only [RV] at h ⊢
    obtain ⟨cs, e, hl⟩ := h
    exact ⟨cs, e, RVs.conv hP hM hc ls cs hl⟩
  | .fn _ _ _, _, h => by
    simp only [RV] at h ⊢
    obtain ⟨f, as, cs, e, hf⟩ := h
    exact ⟨f, as, cs, e, by rw [hP]; exact hf.1, hf.2.1, fun τ hτ => by rw [hP]; exact hf.2.2 τ (hτ.mono fun b _ hb => hM b hb)⟩
  | .agg ls, _, h => by
    simp only [RV] at h ⊢
    obtain ⟨cs, e, hl⟩ := h
    exact ⟨cs, e, RG.conv hP hM hc ls cs hl⟩
  | .tup ls, _, h => by
    simp only [RV] at h ⊢
    obtain ⟨cs, e, hl⟩ := h
    exact ⟨cs, e, RVs.conv hP hM hc ls cs hl⟩
  | .undef, _, h => by simp only [RV] at h ⊢; exact h
  | .any, _, _ => by simp only [RV]
theorem RVs.conv (hP : X'.P = X.P) (hM : ∀ b, X'.M b → X.M b) (hc : ∀ l p, c l = some p → ∃ w, c' l = some ⟨p.A, p.k, p.m, w⟩) : ∀ (ps : List (PV I)) (cs : List Value), RVs X c σ ps cs → RVs X' c' σ ps cs
  | [], _, h => by simp only [RVs] at h ⊢; exact h
  | p :: ps, _, h => by
    simp only [RVs] at h ⊢
    obtain ⟨v, r, e, h1, h2⟩ := h
    exact ⟨v, r, e, RV.conv hP hM hc p v h1, RVs.conv hP hM hc ps r h2⟩
theorem RG.conv (hP : X'.P = X.P) (hM : ∀ b, X'.M b → X.M b) (hc : ∀ l p, c l = some p → ∃ w, c' l = some ⟨p.A, p.k, p.m, w⟩) : ∀ (ps : List (PV I)) (cs : List Value), RG X c σ ps cs → RG X' c' σ ps cs
  | [], _, h => by simp only [RG] at h ⊢; exact h
  | p :: ps, _, h => by
    simp only [RG] at h ⊢
    obtain ⟨a, r, e, h1, h2⟩ := h
    refine ⟨a, r, e, ?_, RG.conv hP hM hc ps r h2⟩
    rcases h1 with h1 | ⟨h0, v, e1, h1⟩
    · exact .inl h1
    · exact .inr ⟨h0, v, e1, RV.conv hP hM hc p v h1⟩
end
theorem within_M (h : Rel X c σ s n F) (own : List Nat) : ∀ b, (within X c σ s own).M b → X.M b := fun b hb => by
  rcases hb with hb | ⟨l, _, hl, p, hc, hw⟩
  · exact .inl (Nat.le_trans h.base hb)
  · exact h.mine l p b hl hc hw
/-- The blocks of what is not turned within. -/
theorem within_not (h : Rel X c σ s n F) {own : List Nat} {l : Nat} {p : Pl} {g : Nat} (hl : live s l) (hn : l ∉ own) (hc : c l = some p) (hw : p.w = some g) : ¬ (within X c σ s own).M g := fun hb => by
  obtain ⟨o, ho⟩ := hl
  have hlt := (h.objs l o ho).lt hc hw
  rcases hb with hb | ⟨l', hl', hlv, p', hc', hw'⟩
  · have : σ.N ≤ g := hb
    omega
  · exact hn (by rw [h.inj l l' p p' g ⟨o, ho⟩ hlv hc hc' hw hw']; exact hl')
theorem enter (h : Rel X c σ s n F) (own : List Nat) : Rel (within X c σ s own) (roC own c) σ (roS own s) n F := by
  have hcv : ∀ l p, c l = some p → ∃ w, roC own c l = some ⟨p.A, p.k, p.m, w⟩ := fun l p hp => by
    unfold roC
    cases memN l own with
    | true => exact ⟨p.w, by simp only [cond_true, hp]⟩
    | false => exact ⟨none, by simp only [cond_false, hp]; rfl⟩
  have hM := within_M h own
  have hcw : ∀ {l p g}, roC own c l = some p → p.w = some g → l ∈ own ∧ c l = some p := fun {l p g} hc hw => by
    unfold roC at hc
    cases hm : memN l own with
    | true => rw [hm] at hc; exact ⟨memN_iff.1 hm, hc⟩
    | false =>
      rw [hm] at hc
      simp only [cond_false, Option.map_eq_some_iff] at hc
      obtain ⟨q, _, e⟩ := hc
      rw [← e] at hw
      cases hw
  have hlv : ∀ {l}, l ∈ own → live (roS own s) l → live s l := fun {l} hm ⟨o, ho⟩ => by
    refine ⟨o, ?_⟩
    have ho' : roO own s.O l = some (some o) := ho
    unfold roO at ho'
    rw [memN_iff.2 hm] at ho'
    exact ho'
  refine ⟨h.len, fun i p hp => RV.conv (X := X) (X' := within X c σ s own) (c := c) rfl hM hcv p _ (h.frame i p hp), fun l o ho => ?_, fun l l' p p' b a1 a2 a3 a4 a5 a6 => ?_, fun l p b a1 a2 a3 => ?_, fun l hl => ?_, Nat.le_refl _⟩
  · have ho' : roO own s.O l = some (some o) := ho
    unfold roO at ho'
    cases hm : memN l own with
    | true =>
      rw [hm] at ho'
      simp only [cond_true] at ho'
      have hcl : roC own c l = c l := by unfold roC; rw [hm]; rfl
      have := h.objs l o ho'
      cases o with
      | var T ls w =>
        obtain ⟨b, cs, k1, k2, k3, k4, k5⟩ := this
        exact ⟨b, cs, hcl.trans k1, RG.conv (X := X) (X' := within X c σ s own) (c := c) rfl hM hcv _ _ k2, k3, k4, fun e hb => k5 e (hM b hb)⟩
      | row E xs fl =>
        obtain ⟨A, k, ow, k1, k2⟩ := this
        exact ⟨A, k, ow, hcl.trans k1, k2⟩
      | ro E xs =>
        obtain ⟨A, k, k1, k2⟩ := this
        exact ⟨A, k, hcl.trans k1, k2⟩
      | bo E xs =>
        obtain ⟨A, k, k1, k2⟩ := this
        exact ⟨A, k, hcl.trans k1, k2.sub fun b _ => hM b⟩
    | false =>
      have hnm := memN_false.1 hm
      rw [hm] at ho'
      simp only [cond_false] at ho'
      have hcl : ∀ {p}, c l = some p → roC own c l = some ⟨p.A, p.k, p.m, none⟩ := fun hp => by unfold roC; rw [hm, hp]; rfl
      split at ho'
      · rename_i T ls w e
        cases ho'
        obtain ⟨b, cs, k1, k2, k3, k4, k5⟩ := h.objs l _ e
        refine ⟨b, cs, hcl k1, RG.conv (X := X) (X' := within X c σ s own) (c := c) rfl hM hcv _ _ k2, k3, (fun e => by cases e), fun _ => ?_⟩
        cases w with
        | true => exact within_not h ⟨_, e⟩ hnm k1 rfl
        | false => exact fun hb => k5 rfl (hM b hb)
      · rename_i E xs e
        cases ho'
        obtain ⟨A, k, ow, k1, k2⟩ := h.objs l _ e
        exact ⟨A, k, hcl k1, k2.sl⟩
      · cases ho'
      · rename_i e1 e2 e3
        cases o with
        | var T ls w => exact absurd ho' (e1 T ls w)
        | row E xs fl =>
          cases fl with
          | true => exact absurd ho' (e2 E xs)
          | false => exact absurd ho' (e3 E xs)
        | ro E xs =>
          obtain ⟨A, k, k1, k2⟩ := h.objs l _ ho'
          exact ⟨A, k, hcl k1, k2⟩
        | bo E xs =>
          obtain ⟨A, k, k1, k2⟩ := h.objs l _ ho'
          exact ⟨A, k, hcl k1, k2.sub fun b _ => hM b⟩
  · obtain ⟨m1, n1⟩ := hcw a3 a5
    obtain ⟨m2, n2⟩ := hcw a4 a6
    exact h.inj l l' p p' b (hlv m1 a1) (hlv m2 a2) n1 n2 a5 a6
  · obtain ⟨m1, n1⟩ := hcw a2 a3
    exact .inr ⟨l, m1, hlv m1 a1, p, n1, a3⟩
  · have hl' : roO own s.O l = none := hl
    have : s.O l = none := by
      unfold roO at hl'
      cases hm : memN l own with
      | true => rw [hm] at hl'; exact hl'
      | false =>
        rw [hm] at hl'
        simp only [cond_false] at hl'
        split at hl' <;> first | cases hl' | exact hl'
    unfold roC
    rw [h.nom l this]
    cases memN l own <;> rfl
end
end Go.Qx
