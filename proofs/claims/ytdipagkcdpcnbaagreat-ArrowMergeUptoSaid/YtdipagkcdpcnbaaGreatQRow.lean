/- The symbolic executor: a function's contract out of its run. -/
import Derived.Test.YtdipagkcdpcnbaaGreatQFn
namespace Go.Qx
open Go Go.RowKit Go.Sx

section
variable {I : TypeId → Type} [∀ E, Rp (I E)] {P : Program} {tb : Tab I} {X : Cxt} {c c' : Cx} {σ τ : S} {n : Nat} {F : Fr}
omit [∀ E, Rp (I E)] in
theorem pubS_var {s : St I} {ls : List Nat} {l : Nat} {T : TypeId} {vs : List (PV I)} {w : Bool} (ho : s.O l = some (some (.var T vs w))) : (pubS s s.O ls).O l = some (some (.var T vs w)) := by
  show apU s.O (pubU s.O ls) l = _
  rw [apU_out, ho]
  intro hm
  have hp : ∀ {ls : List Nat}, l ∈ keysU (pubU s.O ls) → ∃ E, ∃ xs : List (I E), s.O l = some (some (.row E xs false)) := by
    intro ls
    induction ls with
    | nil => intro h; simp [pubU, keysU] at h
    | cons a r ih =>
      intro h
      simp only [pubU] at h
      split at h
      · rename_i E xs e
        simp only [keysU, List.map_cons, List.mem_cons] at h
        rcases h with rfl | h
        · exact ⟨E, xs, e⟩
        · exact ih h
      · exact ih h
  obtain ⟨E, xs, e⟩ := hp hm
  rw [ho] at e; cases e
theorem PArgs.len {M : Nat → Prop} : ∀ {ps : List Pk} {a : TysP I ps} {vs : List Value} {pls : List Pl}, PArgs P M σ ps a vs pls → vs.length = ps.length
  | [], _, _, _, ⟨h, _⟩ => by rw [h]; rfl
  | _ :: r, q, _, _, ⟨v, vs', p1, p2, e1, e2, h1, h2⟩ => by rw [e1]; simp [PArgs.len h2]
theorem resP_ok (ht : TabOk P tb) {s : St I} (h : Rel X c σ s n F) : ∀ {rl : List ResultVar} {ps : List (PV I)}, resP tb s rl = some ps → ∃ ws, RVs X c σ ps ws ∧ (rl.mapM (rdRes (fr n F).tmps)).run P σ.w = .ok ws σ.w
  | [], _, e => by cases e; exact ⟨[], by simp only [RVs], rfl⟩
  | .tmp t :: r, _, e => by
    simp only [resP] at e
    obtain ⟨hb, e⟩ := bif_some e
    obtain ⟨p, hp, e⟩ := bind_some e
    obtain ⟨ps, hps, e⟩ := bind_some e
    cases e
    obtain ⟨ws, h1, h2⟩ := resP_ok ht h hps
    rw [h.len] at hb
    refine ⟨F t :: ws, by simp only [RVs]; exact ⟨_, _, rfl, h.frame t p hp, h1⟩, ?_⟩
    have e1 : (rdRes (fr n F).tmps (.tmp t)).run P σ.w = .ok (F t) σ.w := run_resV (P := P) (n := n) (F := F) (r := .tmp t) ⟨hb, rfl⟩
    simp only [List.mapM_cons, Sem.run_bind, e1, h2, Result.andThen_ok, Sem.run_pure]
  | .cell t T :: r, _, e => by
    simp only [resP] at e
    obtain ⟨hb, e⟩ := bif_some e
    rw [h.len] at hb
    split at e
    · rename_i l hl
      split at e
      · rename_i T' ls w' ho
        replace e := bind_some e
        obtain ⟨p, hp, e⟩ := e
        replace e := bind_some e
        obtain ⟨ps, hps, e⟩ := e
        cases e
        obtain ⟨ws, h1, h2⟩ := resP_ok ht h hps
        obtain ⟨b, cs, k1, k2, k3, _⟩ := h.objs l _ ho
        have hF := h.frame t _ hl
        simp only [RV] at hF
        obtain ⟨b', w, h3, h4⟩ := hF
        rw [k1] at h3
        cases h3
        obtain ⟨v, hv, hrun⟩ := loadL_ok (w := σ.w) ht hp k2 (range_heap k3)
        rw [Nat.zero_add] at hrun
        refine ⟨v :: ws, by simp only [RVs]; exact ⟨_, _, rfl, hv, h1⟩, ?_⟩
        have e1 : (rdRes (fr n F).tmps (.cell t T)).run P σ.w = .ok v σ.w := run_resV (P := P) (n := n) (F := F) (r := .cell t T) ⟨hb, b, h4, hrun⟩
        simp only [List.mapM_cons, Sem.run_bind, e1, h2, Result.andThen_ok, Sem.run_pure]
      · cases e
    · cases e
theorem results_run {fn : Func} {tmps : Array Value} {ws : List Value} {w : World} (h : (fn.results.toList.mapM (rdRes tmps)).run P w = .ok ws w) : (results fn tmps).run P w = .ok (retV ws) w := by
  rw [results_eq]
  have e : fn.results.mapM (rdRes tmps) = (do let l ← fn.results.toList.mapM (rdRes tmps); pure l.toArray) := by
    rw [Array.mapM_eq_mapM_toList]
    simp
  rw [e]
  simp only [Sem.run_bind, h, Result.andThen_ok, Sem.run_pure]
  congr 1
  cases ws with
  | nil => rfl
  | cons v r =>
    cases r with
    | nil => simp [retV]
    | cons v' r => simp [retV]
theorem outP_ok (ht : TabOk P tb) {s : St I} (h : Rel X c σ s n F) : ∀ {ps : List Pk} {a : TysP I ps} {nb : Nat} {vs : List Value} {qs : List (PV I)}, outP s nb ps = some qs → RVs X c σ (pvPs tb nb ps a) vs →
    ∃ us, RVs X c σ qs us ∧ OutC σ ps vs us ∧ ∀ b ∈ varB ps vs, ∃ l p T ls w, s.O l = some (some (.var T ls w)) ∧ c l = some p ∧ p.w = some b
  | [], _, _, vs, _, e, hv => by
    cases e
    simp only [pvPs, RVs] at hv
    subst hv
    exact ⟨[], by simp only [RVs], rfl, fun b hb => by cases hb⟩
  | .d k :: r, q, nb, vs, qs, e, hv => by
    simp only [pvPs, RVs] at hv
    obtain ⟨v, vs', rfl, _, hv⟩ := hv
    obtain ⟨us, h1, h2, h3⟩ := outP_ok ht h (ps := r) (a := q.2) e hv
    refine ⟨us, h1, h2, ?_⟩
    intro b hb
    exact h3 b (by cases v <;> exact hb)
  | .fn _ _ :: r, q, nb, vs, qs, e, hv => by
    simp only [pvPs, RVs] at hv
    obtain ⟨v, vs', rfl, _, hv⟩ := hv
    obtain ⟨us, h1, h2, h3⟩ := outP_ok ht h (ps := r) (a := q.2) e hv
    refine ⟨us, h1, h2, ?_⟩
    intro b hb
    exact h3 b (by cases v <;> exact hb)
  | .row _ _ :: r, q, nb, vs, qs, e, hv => by
    simp only [pvPs, RVs] at hv
    obtain ⟨v, vs', rfl, _, hv⟩ := hv
    obtain ⟨us, h1, h2, h3⟩ := outP_ok ht h (ps := r) (a := q.2) e hv
    refine ⟨us, h1, h2, ?_⟩
    intro b hb
    exact h3 b (by cases v <;> exact hb)
  | .bor _ :: r, q, nb, vs, qs, e, hv => by
    simp only [pvPs, RVs] at hv
    obtain ⟨v, vs', rfl, _, hv⟩ := hv
    obtain ⟨us, h1, h2, h3⟩ := outP_ok ht h (ps := r) (a := q.2) e hv
    refine ⟨us, h1, h2, ?_⟩
    intro b hb
    exact h3 b (by cases v <;> exact hb)
  | .var T vk false :: r, q, nb, vs, qs, e, hv => by
    simp only [pvPs, RVs] at hv
    obtain ⟨v, vs', rfl, _, hv⟩ := hv
    obtain ⟨us, h1, h2, h3⟩ := outP_ok ht h (ps := r) (a := q.2) e hv
    refine ⟨us, h1, h2, ?_⟩
    intro b hb
    exact h3 b (by cases v <;> exact hb)
  | .var T vk true :: r, q, nb, vs, qs, e, hv => by
    simp only [pvPs, RVs] at hv
    obtain ⟨v, vs', rfl, hv1, hv⟩ := hv
    simp only [outP] at e
    split at e
    · rename_i T' ls ho
      replace e := bif_some e
      obtain ⟨hT, e⟩ := e
      have eT := Nat.eq_of_beq_eq_true hT
      subst eT
      replace e := bind_some e
      obtain ⟨p, hp, e⟩ := e
      replace e := bind_some e
      obtain ⟨ps', hps, e⟩ := e
      cases e
      obtain ⟨us, h1, h2, h3⟩ := outP_ok ht h (ps := r) (a := q.2) hps hv
      obtain ⟨b, cs, k1, k2, k3, k4, _⟩ := h.objs nb _ ho
      simp only [RV] at hv1
      obtain ⟨b', w, h4, rfl⟩ := hv1
      rw [k1] at h4
      cases h4
      obtain ⟨u, hu, hc⟩ := contP_ok hp k2
      refine ⟨u :: us, by simp only [RVs]; exact ⟨u, us, rfl, hu, h1⟩, ⟨b, cs, u, us, rfl, rfl, k3, k4 rfl, hc, h2⟩, fun b0 hb => ?_⟩
      have hb' : b0 ∈ b :: varB r vs' := hb
      rcases List.mem_cons.1 hb' with rfl | hb'
      · exact ⟨nb, _, _, _, _, ho, k1, rfl⟩
      · exact h3 b0 hb'
    · cases e
theorem row_ofS (ht : TabOk P tb) {r : Row I} {C : World → List Value → Prop} {s0 : TysP I r.ps → St I} {fn : Func} {cd : Code} (nt : Nat) {rl : List ResultVar} (h0 : ∀ (X : Cxt) (c : Cx) (σ : S) (a : TysP I r.ps) (vs : List Value) (F : Fr), Rel X c σ (iniS tb nt r.ps a) nt F → RVs X c σ (pvPs tb 0 r.ps a) vs → C σ.w vs → Rel X c σ (s0 a) nt F) (hf : P.funcs[r.f]? = some fn) (hb : fn.body = some cd) (hname : (fn.name == "runtime.NumGoroutine") = false)
    (hn : fn.ntmps = nt) (hres : fn.results.toList = rl) (hle : Nat.ble r.ps.length nt = true)
    (hspec : ∀ (X : Cxt) (c : Cx) (σ : S) (F : Fr) (Q : Exit → Act → World → Prop) (a : TysP I r.ps) (res : TyT I (r.rs ++ outV r.ps)), X.P = P → Rel X c σ (s0 a) nt F → appP r.ps r.run a = some res →
      (∀ (e : Ex) (s' : St I) (c' : Cx) (τ : S) (F' : Fr), fin tb r.ps r.rs rl e s' = some res → Cx.le c c' → Rel X c' τ s' nt F' → Stp X.M σ τ → Q (exOf e) (fr nt F') τ.w) → cd.wp P Q (fr nt F) σ.w) : RowOkS P r C := by
  intro σ a vs pls res hA hC hnd happ
  let X : Cxt := ⟨P, σ.N, fun b => b ∈ ows pls⟩
  have hlen := hA.len
  have hini : Rel X (fun _ => none) σ (⟨nt, fun _ => none, fun _ => none, 0⟩ : St I) nt (initF vs) :=
    ⟨rfl, (fun _ _ h => by cases h), (fun _ _ h => by cases h), (fun _ _ _ _ _ ⟨_, h⟩ => by cases h), (fun _ _ _ ⟨_, h⟩ => by cases h), fun _ _ => rfl, Nat.le_refl _⟩
  obtain ⟨c1, _, i2, i3⟩ := ini_ok (tb := tb) (X := X) (nb := 0) (done := []) ht (fun b hb => hb) rfl hA hini (fun _ _ => rfl) (fun _ _ _ ⟨_, h⟩ => by cases h) (by simpa using hnd) (fun g hg => .inr hg)
  have hrel : Rel X c1 σ (iniS tb nt r.ps a) nt (initF vs) := by
    refine ⟨rfl, fun i p hp => ?_, i2.objs, i2.inj, i2.mine, i2.nom, i2.base⟩
    obtain ⟨v, hv, hr⟩ := RVs.at_ _ _ i3 i p hp
    have : initF vs i = v := by simp [initF, List.getD, hv]
    rw [this]; exact hr
  have hrel := h0 X c1 σ a vs (initF vs) hrel i3 hC
  refine .inl ⟨⟨fn, cd, hf, hb, hname⟩, calls_of_wp hf hb ?_⟩
  have hle' := Nat.le_of_ble_eq_true hle
  have e : (⟨vs.toArray ++ Array.replicate (fn.ntmps - vs.toArray.size) undef, []⟩ : Act) = fr nt (initF vs) := by
    rw [hn]
    simp only [fr]
    congr 1
    apply Array.ext
    · simp; omega
    · intro i h1 h2
      simp only [Array.getElem_ofFn, initF, Array.getElem_append]
      split
      · rename_i hi; simp at hi; simp [List.getD, List.getElem?_eq_getElem hi]
      · rename_i hi; simp at hi; simp [List.getD, List.getElem?_eq_none hi]
  rw [e]
  refine hspec X c1 σ (initF vs) _ a res rfl hrel happ fun ex s' c2 τ F' hfin hle2 hr st => ?_
  have key : (Option.bind (resP tb s' rl) fun a => Option.bind (outP s' 0 r.ps) fun b => Option.bind (getT tb s'.O (r.rs ++ outV r.ps) (a ++ b)) fun x => bif rowsOk x.2.1 x.2.2 && Nat.beq a.length r.rs.length then some x.1 else none) = some res →
      ∃ v, (results fn (fr nt F').tmps).run P τ.w = .ok v τ.w ∧ ∃ v' τ', Ending.returned v = .returned v' ∧ τ'.w = τ.w ∧ Stp (fun b => b ∈ ows pls) σ τ' ∧ ∃ ws us pls', Post σ τ' r.ps r.rs vs res (ows pls) v' ws us pls' := by
    intro hfin
    obtain ⟨ra, hra, hfin⟩ := bind_some hfin
    obtain ⟨rb, hrb, hfin⟩ := bind_some hfin
    obtain ⟨y, hy, hfin⟩ := bind_some hfin
    obtain ⟨hrows, hfin⟩ := bif_some hfin
    cases hfin
    simp only [Bool.and_eq_true] at hrows
    obtain ⟨r1, r2⟩ := rowsOk_ok hrows.1
    have hal := Nat.eq_of_beq_eq_true hrows.2
    obtain ⟨τ', p1, p2, p3, p4, p5, p6⟩ := hr.pubs (O := s'.O) (fun _ _ h => h) y.2.1
    obtain ⟨ws, w1, w2⟩ := resP_ok ht hr hra
    have hrb' : outP (pubS s' s'.O y.2.1) 0 r.ps = some rb := by
      have : ∀ {ps : List Pk} {nb : Nat} {qs : List (PV I)}, outP s' nb ps = some qs → outP (pubS s' s'.O y.2.1) nb ps = some qs := by
        intro ps
        induction ps with
        | nil => intro nb qs h; exact h
        | cons p r ih =>
          intro nb qs h
          cases p with
          | d k => exact ih h
          | fn ks rs => exact ih h
          | row E fl => exact ih h
          | bor E => exact ih h
          | var T v w =>
            cases w with
            | false => exact ih h
            | true =>
              simp only [outP] at h ⊢
              split at h
              · rename_i T' ls ho
                rw [pubS_var ho]
                replace h := bif_some h
                obtain ⟨hT, h⟩ := h
                simp only [hT, cond_true]
                replace h := bind_some h
                obtain ⟨p, hp, h⟩ := h
                replace h := bind_some h
                obtain ⟨ps', hps, h⟩ := h
                rw [hp, Option.bind_some, ih hps]
                exact h
              · cases h
      exact this hrb
    have hvs : RVs X c2 τ' (pvPs tb 0 r.ps a) vs := RVs.step (st.trans p2) _ _ (RVs.grow hle2 _ _ i3)
    obtain ⟨us, u1, u2, u3⟩ := outP_ok ht p3 (a := a) hrb' hvs
    have hRV := RVs.app _ _ _ _ (RVs.step p2 _ _ w1) u1
    obtain ⟨pls', t1, t2⟩ := getT_ok ht p4 p5 (ls := y.2.1) (rows := y.2.2) hy (fun l hl => hl) (fun l hl => r2 l hl) hRV
    have hlive := getT_live (ls := y.2.1) (rows := y.2.2) hy
    have hl3 : ∀ l, some l ∈ y.2.2 → live (pubS s' s'.O y.2.1) l := fun l hl => by
      obtain ⟨E, xs, fl, ho⟩ := hlive l hl
      exact ⟨_, (p6 l (r2 l hl)).trans ho⟩
    refine ⟨retV ws, results_run (by rw [hres]; exact w2), retV ws, τ', rfl, p1, (st.trans p2).mono fun b hb hM => ?_, ws, us, pls', rfl, ?_, t1, u2, At.nodup p3 t2 r1 hl3, fun g hg => ?_⟩
    · rcases hM with h | h
      · have : σ.N ≤ b := h
        omega
      · exact h
    · rw [RVs.len _ _ w1, hal]
    · obtain ⟨l, p, a1, a2, a3⟩ := t2.mem g hg
      refine ⟨p3.mine l p g (hl3 l a1) a2 a3, fun hm => ?_⟩
      obtain ⟨l', p', T, ls, w, ho', hc', hw'⟩ := u3 g hm
      have e := p3.inj l l' p p' g (hl3 l a1) ⟨_, ho'⟩ a2 hc' a3 hw'
      subst e
      obtain ⟨E, xs, fl, ho⟩ := hlive l a1
      rw [p6 l (r2 l a1), ho] at ho'
      cases ho'
  cases ex with
  | exit i => cases hfin
  | normal =>
    obtain ⟨v, h1, v', τ', h2, h3⟩ := key hfin
    exact ⟨rfl, v, h1, v', τ', h2, h3⟩
  | ret =>
    obtain ⟨v, h1, v', τ', h2, h3⟩ := key hfin
    exact ⟨rfl, v, h1, v', τ', h2, h3⟩
theorem row_of (ht : TabOk P tb) {r : Row I} {fn : Func} {cd : Code} (nt : Nat) {rl : List ResultVar} (hf : P.funcs[r.f]? = some fn) (hb : fn.body = some cd) (hname : (fn.name == "runtime.NumGoroutine") = false)
    (hn : fn.ntmps = nt) (hres : fn.results.toList = rl) (hle : Nat.ble r.ps.length nt = true)
    (hspec : ∀ (X : Cxt) (c : Cx) (σ : S) (F : Fr) (Q : Exit → Act → World → Prop) (a : TysP I r.ps) (res : TyT I (r.rs ++ outV r.ps)), X.P = P → Rel X c σ (iniS tb nt r.ps a) nt F → appP r.ps r.run a = some res →
      (∀ (e : Ex) (s' : St I) (c' : Cx) (τ : S) (F' : Fr), fin tb r.ps r.rs rl e s' = some res → Cx.le c c' → Rel X c' τ s' nt F' → Stp X.M σ τ → Q (exOf e) (fr nt F') τ.w) → cd.wp P Q (fr nt F) σ.w) : RowOk P r := fun σ a vs pls res hA hnd happ =>
  row_ofS (C := fun _ _ => True) (s0 := iniS tb nt r.ps) ht nt (fun _ _ _ _ _ _ h _ _ => h) hf hb hname hn hres hle hspec σ a vs pls res hA trivial hnd happ
theorem rowOkS_of {r : Row I} {C : World → List Value → Prop} (h : RowOk P r) : RowOkS P r C := fun σ a vs pls res hA _ => h σ a vs pls res hA
theorem row_okS (ht : TabOk P tb) {disp : Disp I} (hd : DispOk P disp) (hmx : P.follows .mixedOrders = true) {r : Row I} {C : World → List Value → Prop} {s0 : TysP I r.ps → St I} {fn : Func} {cd : Code} (nt : Nat) {H : Hints I} {rl : List ResultVar}
    (h0 : ∀ (X : Cxt) (c : Cx) (σ : S) (a : TysP I r.ps) (vs : List Value) (F : Fr), Rel X c σ (iniS tb nt r.ps a) nt F → RVs X c σ (pvPs tb 0 r.ps a) vs → C σ.w vs → Rel X c σ (s0 a) nt F) (hf : P.funcs[r.f]? = some fn) (hb : fn.body = some cd) (hname : (fn.name == "runtime.NumGoroutine") = false)
    (hn : fn.ntmps = nt) (hres : fn.results.toList = rl) (hle : Nat.ble r.ps.length nt = true) (hcode : codeOk H cd 1 = true)
    (hrun : r.run = curP r.ps fun a => exec tb disp H cd 1 (TyT I (r.rs ++ outV r.ps)) (s0 a) (fin tb r.ps r.rs rl)) : RowOkS P r C :=
  row_ofS ht nt h0 hf hb hname hn hres hle fun X c σ F Q a res hX hrel happ hk => by
    rw [hrun, appP_cur] at happ
    exact exec_ok ht hd hmx cd 1 hcode _ _ _ res X c σ F Q hX happ hrel fun e s' c' τ F' g1 g2 g3 g4 _ => hk e s' c' τ F' g1 g2 g3 g4
theorem row_ok (ht : TabOk P tb) {disp : Disp I} (hd : DispOk P disp) (hmx : P.follows .mixedOrders = true) {r : Row I} {fn : Func} {cd : Code} (nt : Nat) {H : Hints I} {rl : List ResultVar} (hf : P.funcs[r.f]? = some fn) (hb : fn.body = some cd) (hname : (fn.name == "runtime.NumGoroutine") = false)
    (hn : fn.ntmps = nt) (hres : fn.results.toList = rl) (hle : Nat.ble r.ps.length nt = true) (hcode : codeOk H cd 1 = true) (hrun : r.run = curP r.ps (execF tb disp H cd nt r.ps r.rs rl)) : RowOk P r :=
  row_of ht nt hf hb hname hn hres hle fun X c σ F Q a res hX hrel happ hk => by
    rw [hrun, appP_cur] at happ
    exact exec_ok ht hd hmx cd 1 hcode _ _ _ res X c σ F Q hX happ hrel fun e s' c' τ F' g1 g2 g3 g4 _ => hk e s' c' τ F' g1 g2 g3 g4
end
end Go.Qx
