/- The symbolic executor: one operation is right. -/
import Derived.Test.YtdipagkcdpcnbaaGreatQRules
namespace Go.Qx
open Go Go.RowKit Go.Sx

section
variable {I : TypeId → Type} [∀ E, Rp (I E)] {P : Program} {tb : Tab I} {X : Cxt} {c c' : Cx} {σ τ : S} {s : St I} {n : Nat} {F : Fr} {O : Obs I}
/-- A step that turns blocks that no object holds. -/
theorem Rel.stepG {G : Nat → Prop} (h : Rel X c σ s n F) (st : Stp G σ τ) (hG : ∀ b, G b → X.M b) (hn : ∀ l p g, live s l → c l = some p → p.w = some g → ¬ G g) : Rel X c τ s n F := by
  have stM : Stp X.M σ τ := st.mono fun b _ hb => hG b hb
  exact ⟨h.len, fun i p hp => RV.step stM p _ (h.frame i p hp), fun l o ho => (h.objs l o ho).step stM fun p g h1 h2 => st.block g ((h.objs l o ho).lt h1 h2) (hn l p g ⟨o, ho⟩ h1 h2), h.inj, h.mine, h.nom, Nat.le_trans h.base st.wext.size⟩
omit [∀ E, Rp (I E)] in
theorem setO_same {l : Nat} {o : Option (Ob I)} (h : s.O l = some o) : setO s l o = s := by
  have : upF s.O l o = s.O := by
    funext i
    by_cases e : i = l
    · subst e; rw [upF_self, h]
    · rw [upF_ne e]
  simp only [setO, this]
theorem Rel.settle (h : Rel X c σ s n F) {l : Nat} {E : TypeId} {xs : List (I E)} {fl : Bool} (hl : s.O l = some (some (.row E xs fl))) : ∃ τ, τ.w = σ.w ∧ Stp X.M σ τ ∧ Rel X c τ (setO s l (some (.row E xs true))) n F := by
  cases fl with
  | true => rw [setO_same hl]; exact ⟨σ, rfl, Stp.refl _ _, h⟩
  | false =>
    have := h.pub l
    simpa only [Qx.pub, hl] using this
def pubS (s : St I) (O : Obs I) (ls : List Nat) : St I := ⟨s.n, s.F, apU s.O (pubU O ls), s.nx⟩
omit [∀ E, Rp (I E)] in
theorem pubU_cons {l : Nat} {ls : List Nat} {E : TypeId} {xs : List (I E)} (h : O l = some (some (.row E xs false))) : pubU O (l :: ls) = (l, some (.row E xs true)) :: pubU O ls := by simp only [pubU, h]
omit [∀ E, Rp (I E)] in
theorem pubU_skip {l : Nat} {ls : List Nat} (h : ∀ E (xs : List (I E)), O l ≠ some (some (.row E xs false))) : pubU O (l :: ls) = pubU O ls := by
  show (match O l with | some (some (Ob.row E xs false)) => (l, some (Ob.row E xs true)) :: pubU O ls | _ => pubU O ls) = _
  split
  · exact absurd ‹_› (h _ _)
  · rfl
theorem Rel.pubs_ : ∀ (ls : List Nat) {σ : S} {s : St I}, Rel X c σ s n F → (∀ l E (xs : List (I E)) fl, O l = some (some (.row E xs fl)) → s.O l = some (some (.row E xs fl)) ∨ s.O l = some (some (.row E xs true))) →
    ∃ τ, τ.w = σ.w ∧ Stp X.M σ τ ∧ Rel X c τ (pubS s O ls) n F ∧ (∀ l, l ∉ ls → (pubS s O ls).O l = s.O l) ∧ (∀ l E (xs : List (I E)) fl, O l = some (some (.row E xs fl)) → l ∈ ls → (pubS s O ls).O l = some (some (.row E xs true)))
  | [], σ, s, h, _ => ⟨σ, rfl, Stp.refl _ _, h, fun _ _ => rfl, fun _ _ _ _ _ h => by cases h⟩
  | l :: ls, σ, s, h, hO => by
    by_cases hx : ∃ E, ∃ xs : List (I E), O l = some (some (.row E xs false))
    · obtain ⟨E, xs, e⟩ := hx
      have hsl : ∃ fl, s.O l = some (some (.row E xs fl)) := (hO l E xs false e).elim (fun h => ⟨_, h⟩) (fun h => ⟨_, h⟩)
      obtain ⟨fl, hsl⟩ := hsl
      obtain ⟨τ, h1, h2, h3⟩ := h.settle hsl
      have hO' : ∀ l' E' (xs' : List (I E')) fl', O l' = some (some (.row E' xs' fl')) → (setO s l (some (.row E xs true))).O l' = some (some (.row E' xs' fl')) ∨ (setO s l (some (.row E xs true))).O l' = some (some (.row E' xs' true)) := by
        intro l' E' xs' fl' e'
        by_cases el : l' = l
        · subst el
          rw [e] at e'
          cases e'
          exact .inr (upF_self _ _ _)
        · have : (setO s l (some (Ob.row E xs true))).O l' = s.O l' := upF_ne el
          rw [this]
          exact hO l' E' xs' fl' e'
      obtain ⟨υ, k1, k2, k3, k4, k5⟩ := Rel.pubs_ ls h3 hO'
      have epub : pubS s O (l :: ls) = pubS (setO s l (some (.row E xs true))) O ls := by simp only [pubS, pubU_cons e]; rfl
      rw [epub]
      refine ⟨υ, k1.trans h1, h2.trans k2, k3, fun l' hl' => ?_, fun l' E' xs' fl' e' hl' => ?_⟩
      · rw [List.mem_cons, not_or] at hl'
        rw [k4 l' hl'.2]
        exact upF_ne hl'.1
      · by_cases hm : l' ∈ ls
        · exact k5 l' E' xs' fl' e' hm
        · rw [k4 l' hm]
          rcases List.mem_cons.1 hl' with rfl | hl'
          · rw [e] at e'; cases e'; exact upF_self _ _ _
          · exact absurd hl' hm
    · have hx' : ∀ E (xs : List (I E)), O l ≠ some (some (.row E xs false)) := fun E xs e => hx ⟨E, xs, e⟩
      obtain ⟨υ, k1, k2, k3, k4, k5⟩ := Rel.pubs_ ls h hO
      have epub : pubS s O (l :: ls) = pubS s O ls := by simp only [pubS, pubU_skip hx']
      rw [epub]
      refine ⟨υ, k1, k2, k3, fun l' hl' => k4 l' fun hm => hl' (by simp [hm]), fun l' E' xs' fl' e' hl' => ?_⟩
      by_cases hm : l' ∈ ls
      · exact k5 l' E' xs' fl' e' hm
      · rw [k4 l' hm]
        rcases List.mem_cons.1 hl' with rfl | hl'
        · cases fl' with
          | false => exact absurd e' (hx' _ _)
          | true => exact (hO _ _ _ _ e').elim id id
        · exact absurd hl' hm
theorem Rel.pubs (h : Rel X c σ s n F) (hO : ∀ l o, O l = some (some o) → s.O l = some (some o)) (ls : List Nat) :
    ∃ τ, τ.w = σ.w ∧ Stp X.M σ τ ∧ Rel X c τ (pubS s O ls) n F ∧ Sett X c τ O ls ∧ Rows X c τ O ls ∧ (∀ l, l ∉ ls → (pubS s O ls).O l = s.O l) := by
  obtain ⟨τ, h1, h2, h3, h4, h5⟩ := Rel.pubs_ (O := O) ls h (fun l E xs fl e => .inl (hO l _ e))
  refine ⟨τ, h1, h2, h3, ⟨fun l E xs fl e hl => h3.objs l _ ?_, fun l E xs e => ?_⟩, fun l E xs fl e hl => h3.objs l _ ?_, h4⟩
  · by_cases hm : l ∈ ls
    · exact h5 l E xs fl e hm
    · rcases hl with rfl | hl
      · rw [h4 l hm]; exact hO l _ e
      · exact absurd hl hm
  · obtain ⟨A, k, k1, k2⟩ := h.objs l _ (hO l _ e)
    exact ⟨A, k, k1, k2.mono h2.wext⟩
  · rw [h4 l hl]; exact hO l _ e
omit [∀ E, Rp (I E)] in
theorem apU_app (O : Obs I) : ∀ (a b : List (Nat × Option (Ob I))), apU O (a ++ b) = apU (apU O a) b
  | [], _ => rfl
  | x :: r, b => apU_app (upF O x.1 x.2) r b
theorem leafs_one : ∀ (ls : List (PV I)) (cs : List Value), ls.all leafOk = true → RG X c σ ls cs → cs.all (·.oneCell') = true
  | [], _, _, h => by simp only [RG] at h; subst h; rfl
  | p :: ps, _, ho, h => by
    simp only [RG] at h
    obtain ⟨a, r, rfl, h1, h2⟩ := h
    simp only [List.all_cons, Bool.and_eq_true] at ho
    rw [List.all_append, Bool.and_eq_true]
    refine ⟨?_, leafs_one ps r ho.2 h2⟩
    rcases h1 with h1 | ⟨h0, v, rfl, h1⟩
    · cases p <;> first | exact h1.elim | (rw [List.all_eq_true]; exact fun u hu => Rp.one h1 u hu)
    · simp only [List.all_cons, List.all_nil, Bool.and_true]
      cases p <;> simp [leafOk] at ho <;> simp only [RV] at h1 <;>
        first
          | (subst h1; rfl)
          | (obtain ⟨A, k, rfl, _⟩ := h1; rfl)
          | (obtain ⟨A, rfl⟩ := h1; rfl)
          | (obtain ⟨b, w, _, rfl⟩ := h1; rfl)
          | (obtain ⟨p, _, rfl⟩ := h1; rfl)
          | (obtain ⟨cs, rfl, _⟩ := h1; rfl)
          | (obtain ⟨f, as, cs, rfl, _⟩ := h1; rfl)
          | (cases h0)
theorem getE_ok (ht : TabOk P tb) {LS : List Nat} (hS : Sett X c σ O LS) {E : TypeId} {p : PV I} {a : I E} {ls : List Nat} (h : getE tb O E p = some (a, ls)) (hl : ∀ l ∈ ls, l ∈ LS) {v : Value} (hv : RV X c σ p v) : Rp.cells σ a v.cells.toList := by
  obtain ⟨qs, hq, h⟩ := bind_some h
  obtain ⟨t, ht', h⟩ := bind_some h
  obtain ⟨b, hb, h⟩ := bind_some h
  cases h
  exact ofG_ok ht hb (datL_g hS (ls := t.2) ht' hl (cellsP_ok hq hv))
theorem getKds_ok (ht : TabOk P tb) {LS : List Nat} (hS : Sett X c σ O LS) : ∀ {ks : List Kd} {ps : List (PV I)} {x : Tys I ks} {ls : List Nat}, getKds tb O ks ps = some (x, ls) → (∀ l ∈ ls, l ∈ LS) → ∀ {vs : List Value}, RVs X c σ ps vs → DVs σ ks x vs
  | [], [], _, _, h, _, vs, hv => by cases h; simpa only [RVs, DVs] using hv
  | k :: ks, p :: ps, _, _, h, hl, vs, hv => by
    obtain ⟨x, hx, h⟩ := bind_some h
    obtain ⟨y, hy, h⟩ := bind_some h
    cases h
    simp only [RVs] at hv
    obtain ⟨v, r, rfl, h1, h2⟩ := hv
    exact ⟨v, r, rfl, getKd_ok ht hS (ls := x.2) hx (fun l hm => hl l (by simp [hm])) h1, getKds_ok ht hS (ls := y.2) hy (fun l hm => hl l (by simp [hm])) h2⟩
  | [], _ :: _, _, _, h, _, _, _ => by simp [getKds] at h
  | _ :: _, [], _, _, h, _, _, _ => by simp [getKds] at h
theorem evRow_ok (ht : TabOk P tb) {G : Nat → Option (PV I)} (hG : Fits X c σ G F) {LS : List Nat} (hS : Sett X c σ O LS) {E : TypeId} : ∀ {i : Nat} {ps : List (Nat × Operand)} {xs : List (I E)} {ls : List Nat}, evRow tb O n G E i ps = some (xs, ls) → (∀ l ∈ ls, l ∈ LS) →
    ∃ vs : List Value, ps.map (fun p => (p.1, ev F p.2)) = (vs.zipIdx i).map (fun p => (p.2, p.1)) ∧ ps.all (fun p => opOk n p.2) = true ∧ vs.length = xs.length ∧ (∀ v ∈ vs, v.cells.size = Rp.sz (I E)) ∧ Flat σ xs (vs.flatMap (·.cells.toList))
  | i, [], xs, _, h, _ => by
    cases h
    exact ⟨[], rfl, rfl, rfl, fun v hv => by simp at hv, rfl⟩
  | i, (j, x) :: r, xs, _, he, hl => by
    obtain ⟨hb, he⟩ := bif_some he
    have e := Nat.eq_of_beq_eq_true hb
    subst e
    obtain ⟨p, hp, he⟩ := bind_some he
    obtain ⟨a, ha, he⟩ := bind_some he
    obtain ⟨as, has, he⟩ := bind_some he
    cases he
    obtain ⟨h1, h2⟩ := evT_ok hG hp
    have h3 := getE_ok ht hS (ls := a.2) ha (fun l hm => hl l (by simp [hm])) h2
    obtain ⟨vs, g1, g2, g3, g4, g5⟩ := evRow_ok ht hG hS (ls := as.2) has (fun l hm => hl l (by simp [hm]))
    refine ⟨ev F x :: vs, by simp [g1], by simp [h1, g2], by simp [g3], fun v hv => ?_, ?_⟩
    · rcases List.mem_cons.1 hv with rfl | hv
      · have := Rp.len h3
        simpa using this
      · exact g4 v hv
    · simp only [List.flatMap_cons]
      exact ⟨_, _, rfl, h3, g5⟩
theorem Fits.step {G : Nat → Option (PV I)} (h : Fits X c σ G F) (st : Stp X.M σ τ) : Fits X c τ G F := fun t p hp => RV.step st p _ (h t p hp)
theorem wp_enterS {ops : Array Oper} {Q : Exit → Act → World → Prop} {rest : List Oper} {f : FuncId} {vs : List Value} {E : S → Prop} {R : Value → S → Prop} {o : Oper} (hg : o.guard = none) (hc : CallS P f vs σ E R)
    (hrun : (execOp (fr n F).eval o).run P σ.w = (callFunc f vs.toArray).run P σ.w) (h : ∀ v τ, E τ → R v τ → wpList P ops Q rest (fr n (putF F o.dst v)) τ.w) : wpList P ops Q (o :: rest) (fr n F) σ.w := by
  rcases hc with ⟨⟨fn, cd, h1, h2, h3⟩, hcalls⟩ | ⟨v, τ, h1, h2, h3⟩
  · refine wpList_plain hg fun K hK => ?_
    unfold Oper.wp
    have h3' : fn.name ≠ "runtime.NumGoroutine" := by simpa using h3
    have : (callFunc f vs.toArray).run P σ.w = .ok (.enter f vs.toArray) σ.w := by
      simp [callFunc, h1, h2, h3']
    rw [hrun, this, Oper.upon_enter]
    refine hcalls.mono fun e w' ⟨v, τ, he, hw, hx, hr⟩ => ?_
    subst he
    subst hw
    exact hK _ _ (by rw [put_fr]; exact h v τ hx hr)
  · exact r_value hg v τ.w (by rw [hrun, h1]) (h v τ h2 h3)
theorem run_call {xs : List Operand} {ats : Array TypeId} {d : Option Nat} {ty : TypeId} {pos : String} {aft : Array Edge} {f : FuncId} (hk : xs.all (opOk n) = true) (w : World) :
    (execOp (fr n F).eval ⟨d, .call ⟨.value (.func f), xs.toArray, ats⟩, ty, pos, aft, none⟩).run P w = (callFunc f (xs.map (ev F)).toArray).run P w := by
  have he : xs.toArray.map (fr n F).eval = (xs.map (ev F)).toArray := by
    simp only [List.map_toArray]
    congr 1
    exact List.map_congr_left fun x hx => eval_fr ((List.all_eq_true.1 hk) x hx)
  simp [execOp, resolve, Act.eval, Deferred.ofValue, invoke, he]
theorem run_callv {xs : List Operand} {ats : Array TypeId} {d : Option Nat} {ty : TypeId} {pos : String} {aft : Array Edge} {t : Tmp} {f : FuncId} {as cs : List Value} (hk : xs.all (opOk n) = true) (hkt : opOk n (.tmp t) = true) (ht : F t = .func (.func f) as.toArray cs.toArray) (w : World) :
    (execOp (fr n F).eval ⟨d, .call ⟨.value (.tmp t), xs.toArray, ats⟩, ty, pos, aft, none⟩).run P w = (callFunc f (as ++ xs.map (ev F) ++ cs).toArray).run P w := by
  have he : xs.toArray.map (fr n F).eval = (xs.map (ev F)).toArray := by
    simp only [List.map_toArray]
    congr 1
    exact List.map_congr_left fun x hx => eval_fr ((List.all_eq_true.1 hk) x hx)
  have ht' : (fr n F).eval (.tmp t) = .func (.func f) as.toArray cs.toArray := by rw [eval_fr (x := .tmp t) hkt]; exact ht
  simp [execOp, resolve, ht', Deferred.ofValue, invoke, he]
theorem range_heap {w : World} {b : Nat} {cs : List Value} {T : TypeId} (h : w.heap[b]? = some (.cells cs.toArray T (0, 0))) : w.rangeAt b 0 cs := fun j v hv => by
  simp [World.cell?, h, hv]
theorem retP_ok : ∀ {ps : List (PV I)} {vs : List Value}, RVs X c σ ps vs → RV X c σ (retP ps) (retV vs)
  | [], vs, h => by
    simp only [RVs] at h
    subst h
    simp only [retP, retV, RV]
    exact ⟨[], rfl, by simp only [RVs]⟩
  | [p], vs, h => by
    simp only [RVs] at h
    obtain ⟨v, r, rfl, h1, rfl⟩ := h
    exact h1
  | p :: q :: ps, vs, h => by
    have h' := h
    simp only [RVs] at h
    obtain ⟨v, r, rfl, h1, u, r', rfl, h2⟩ := h
    simp only [retP, retV, RV]
    exact ⟨_, rfl, h'⟩
/-- One element of a row, where it lies. -/
theorem flat_at {α : Type} [Rp α] {xs : List α} {cs : List Value} (h : Flat σ xs cs) {j : Nat} {x : α} (hx : xs[j]? = some x) :
    ∃ c1 cj c2, cs = c1 ++ cj ++ c2 ∧ c1.length = j * Rp.sz α ∧ Rp.cells σ x cj ∧ ∀ (υ : S) (x' : α) (cj' : List Value), Wext σ υ → Rp.cells υ x' cj' → Flat υ (xs.set j x') (c1 ++ cj' ++ c2) := by
  have hi : j < xs.length := (List.getElem?_eq_some_iff.1 hx).1
  have hsplit : xs = xs.take j ++ (x :: xs.drop (j + 1)) := by
    have := List.take_append_drop j xs
    rw [List.drop_eq_getElem_cons hi] at this
    rw [← (List.getElem?_eq_some_iff.1 hx).2]
    exact this.symm
  rw [hsplit] at h
  obtain ⟨c1, d, rfl, f1, f2⟩ := h.split
  obtain ⟨cx, r, rfl, hc, f3⟩ := f2
  refine ⟨c1, cx, r, by simp, by rw [f1.len, List.length_take]; congr 1; omega, hc, fun υ x' cj' hw hx' => ?_⟩
  rw [List.set_eq_take_append_cons_drop, if_pos hi, List.append_assoc]
  exact (f1.mono hw).app ⟨cj', r, rfl, hx', f3.mono hw⟩
theorem r_indexAddrU {ops : Array Oper} {Q : Exit → Act → World → Prop} {rest : List Oper} {d : Option Nat} {ty : TypeId} {pos : String} {aft : Array Edge} {T E : TypeId} {x y : Operand} {g len k sz : Nat} {j : Int} {w : World}
    (h0 : 0 ≤ j) (hlt : j < (len : Int)) (hx : ev F x = .slice (some ⟨g, 0, none⟩) len k) (hy : ev F y = .int .i64 j) (hkx : opOk n x = true) (hky : opOk n y = true)
    (hT : P.underlying T = some (.slice E)) (hE : (P.info? E).map (·.size) = some sz)
    (h : wpList P ops Q rest (fr n (putF F d (.pointer (some ⟨g, j.toNat * sz, none⟩)))) w) :
    wpList P ops Q (⟨d, .indexAddr T x y, ty, pos, aft, none⟩ :: rest) (fr n F) w := by
  refine r_value rfl (.pointer (some ⟨g, j.toNat * sz, none⟩)) w ?_ h
  show Sem.run P (do pure (Next.value (← Instr.indexAt T ((fr n F).eval x) ((fr n F).eval y)))) w = _
  rw [eval_fr hkx, eval_fr hky, hx, hy]
  simp only [Instr.indexAt, asIntOf, Sem.run_bind, Sem.run_pure, Result.andThen_ok, run_underlying hT, if_pos (And.intro h0 hlt), Sx.run_sizeOf hE, Addr.add_mid, Nat.zero_add]
theorem r_indexAddrV {ops : Array Oper} {Q : Exit → Act → World → Prop} {rest : List Oper} {d : Option Nat} {ty : TypeId} {pos : String} {aft : Array Edge} {T E : TypeId} {x y : Operand} {g o len k sz : Nat} {j : Int} {w : World}
    (h0 : 0 ≤ j) (hlt : j < (len : Int)) (hx : ev F x = .slice (some ⟨g, o, none⟩) len k) (hy : ev F y = .int .i64 j) (hkx : opOk n x = true) (hky : opOk n y = true)
    (hT : P.underlying T = some (.slice E)) (hE : (P.info? E).map (·.size) = some sz)
    (h : wpList P ops Q rest (fr n (putF F d (.pointer (some ⟨g, o + j.toNat * sz, none⟩)))) w) :
    wpList P ops Q (⟨d, .indexAddr T x y, ty, pos, aft, none⟩ :: rest) (fr n F) w := by
  refine r_value rfl (.pointer (some ⟨g, o + j.toNat * sz, none⟩)) w ?_ h
  show Sem.run P (do pure (Next.value (← Instr.indexAt T ((fr n F).eval x) ((fr n F).eval y)))) w = _
  rw [eval_fr hkx, eval_fr hky, hx, hy]
  simp only [Instr.indexAt, asIntOf, Sem.run_bind, Sem.run_pure, Result.andThen_ok, run_underlying hT, if_pos (And.intro h0 hlt), Sx.run_sizeOf hE, Addr.add_mid]
theorem r_indexArr {ops : Array Oper} {Q : Exit → Act → World → Prop} {rest : List Oper} {d : Option Nat} {ty : TypeId} {pos : String} {aft : Array Edge} {T E : TypeId} {x y : Operand} {w : World} {m k i b o : Nat} {n : Nat} {F : Fr} {P : Program}
    (hx : ev F x = .pointer (some ⟨b, o, none⟩)) (hy : ev F y = .int .i64 (Int.ofNat i)) (hkx : opOk n x = true) (hky : opOk n y = true) (hT : P.underlying T = some (.array m E)) (hE : (P.info? E).map (·.size) = some k) (hi : i < m)
    (h : wpList P ops Q rest (fr n (putF F d (.pointer (some ⟨b, o + i * k, none⟩)))) w) :
    wpList P ops Q (⟨d, .indexAddr T x y, ty, pos, aft, none⟩ :: rest) (fr n F) w := by
  refine r_value rfl (.pointer (some ⟨b, o + i * k, none⟩)) w ?_ h
  show Sem.run P (do pure (Next.value (← Instr.indexAt T ((fr n F).eval x) ((fr n F).eval y)))) w = _
  rw [eval_fr hkx, eval_fr hky, hx, hy]
  have h0 : (0 : Int) ≤ (i : Int) ∧ (i : Int) < (m : Int) := ⟨Int.natCast_nonneg i, by simpa using hi⟩
  simp only [Instr.indexAt, Instr.sureAddr, asIntOf, Sem.run_bind, Sem.run_pure, Result.andThen_ok, run_underlying hT, Addr.add_mid, Int.ofNat_eq_natCast, Int.toNat_natCast, if_pos h0, Sx.run_sizeOf hE]
theorem fillP_of (pl : List (Nat × Nat)) (g : Nat → Option (Nat × Nat)) (hg : ∀ i x, pl[i]? = some x → g i = some x) : ∀ (parts : List (Nat × Value)) (cells out : List Value), fillL pl cells (parts.map fun p => (p.1, p.2.cells.toList)) = some out →
    Instr.fill g cells.toArray parts = some out.toArray := fun parts cells out h => by
  have h1 := fill_of pl parts cells out h
  have key : ∀ (parts : List (Nat × Value)) (cs : Array Value) (o : Array Value), Instr.fill (pl.toArray[·]?) cs parts = some o → Instr.fill g cs parts = some o := by
    intro parts
    induction parts with
    | nil => intro cs o h; exact h
    | cons p r ih =>
      intro cs o h
      simp only [Instr.fill] at h ⊢
      cases hp : pl.toArray[p.1]? with
      | none => rw [hp] at h; cases h
      | some x =>
        rw [hp] at h
        rw [hg p.1 x (by simpa using hp)]
        simp only at h ⊢
        split at h
        · cases h
        · rename_i hne
          rw [if_neg hne]
          exact ih _ _ h
  exact key parts _ _ h1
theorem r_buildA {ops : Array Oper} {Q : Exit → Act → World → Prop} {rest : List Oper} {d : Option Nat} {ty : TypeId} {pos : String} {aft : Array Edge} {n : Nat} {F : Fr} {P : Program} {T : TypeId} {ps : List (Nat × Operand)} {w : World} {pl : List (Nat × Nat)} {zs : List Value}
    (hT : TyArr P T pl zs) (vs : List (Nat × Value)) (cs : List Value)
    (hps : ps.map (fun p => (p.1, ev F p.2)) = vs) (hk : ps.all (fun p => opOk n p.2) = true) (hf : fillL pl zs (vs.map fun p => (p.1, p.2.cells.toList)) = some cs)
    (h : wpList P ops Q rest (fr n (putF F d (.agg cs.toArray))) w) :
    wpList P ops Q (⟨d, .build T ps.toArray, ty, pos, aft, none⟩ :: rest) (fr n F) w := by
  refine r_value rfl (.agg cs.toArray) w ?_ h
  obtain ⟨m, e, ie, i, z, h1, h0, h2, h3, h4, h5⟩ := hT
  have he : (ps.toArray.map fun (i, x) => (i, (fr n F).eval x)).toList = vs := by
    rw [← hps]
    simp only [Array.toList_map]
    apply List.map_congr_left
    intro p hp
    rw [eval_fr ((List.all_eq_true.1 hk) p hp)]
  have hb : P.built T vs = some cs.toArray := by
    simp only [Program.built, h2, h1, h3, h0, h4]
    refine fillP_of pl _ (fun i x hx => ?_) vs zs cs hf
    rw [h5, List.getElem?_map] at hx
    cases hr : (List.range m)[i]? with
    | none => rw [hr] at hx; cases hx
    | some y =>
      rw [hr] at hx
      have hlt : i < m := by have := (List.getElem?_eq_some_iff.1 hr).1; simpa using this
      have := (List.getElem?_range hlt).symm.trans hr
      cases this
      simpa using hx
  have hr := run_build (P := P) w T (ps.toArray.map fun (i, x) => (i, (fr n F).eval x)) cs.toArray (by rw [he, hb])
  show Sem.run P (do pure (Next.value (← Instr.build T (ps.toArray.map fun (i, x) => (i, (fr n F).eval x))))) w = _
  rw [Sem.run_bind, hr]
  rfl
theorem ix_arr {T E : TypeId} {cs : List Value} {v : Value} {w : World} {m k i : Nat} {P : Program} (hT : P.underlying T = some (.array m E)) (hE : (P.info? E).map (·.size) = some k) (hi : i < m) (hp : (part E cs.toArray (i * k)).run P w = .ok v w) :
    Runs P w (Instr.index T (.agg cs.toArray) (.int .i64 (Int.ofNat i))) v := by
  have h0 : (0 : Int) ≤ (i : Int) ∧ (i : Int) < (m : Int) := ⟨Int.natCast_nonneg i, by simpa using hi⟩
  show Sem.run P _ w = _
  simp only [Instr.index, asIntOf, Sem.run_bind, Sem.run_pure, Result.andThen_ok, run_underlying hT, Int.ofNat_eq_natCast, Int.toNat_natCast, if_pos h0, Sx.run_sizeOf hE, hp]
section
variable {ops : Array Oper} {Q : Exit → Act → World → Prop} {rest : List Oper} {nb : Nat}
/-- Operations that leave the world and the objects. -/
theorem snd_val (ht : TabOk P tb) (h : Rel X c σ s n F) (hX : X.P = P) {G : Nat → Option (PV I)} (hG : Fits X c σ G F) (hO : ∀ l o, O l = some (some o) → ObjOk X c σ l o) {o : Oper} (hg : o.guard = none) {e : Ef I} {disp : Disp I}
    (hno : match o.op with | .binOp .. | .unOp .. | .pick .. | .fieldAddr .. | .field .. | .load .. | .indexAddr .. | .index .. | .extract .. | .nilCheck .. | .convert .. | .build .. | .makeFunc .. | .move .. | .assign .. => True | _ => False)
    (hx : eff tb disp n G O nb o.type o.op some = some e)
    (hk : ∀ v p, e = ⟨p, [], []⟩ → RV X c σ p v → wpList P ops Q rest (fr n (putF F o.dst v)) σ.w) : wpList P ops Q (o :: rest) (fr n F) σ.w := by
  obtain ⟨d, op, ty, pos, aft, g⟩ := o
  simp only at hg hx hk hno
  subst hg
  have E1 : ∀ {x p}, evP n G x = some p → opOk n x = true ∧ RV X c σ p (ev F x) := fun hp => evP_ok hG hp
  have E2 : ∀ {x p T}, evT tb n G T x = some p → opOk n x = true ∧ RV X c σ p (ev F x) := fun hp => evT_ok hG hp
  unfold eff at hx
  split at hx <;> (try (exact hno.elim))
  · replace hx := bind_some hx
    obtain ⟨p, hp, hx⟩ := hx
    obtain ⟨h1, h2⟩ := E2 hp
    cases hx
    exact r_move _ rfl h1 (hk _ p rfl h2)
  · replace hx := bind_some hx
    obtain ⟨p, hp, hx⟩ := hx
    obtain ⟨h1, h2⟩ := E2 hp
    cases hx
    exact r_assign _ rfl h1 (hk _ p rfl h2)
  · replace hx := bind_some hx
    obtain ⟨p, hp, hx⟩ := hx
    replace hx := bind_some hx
    obtain ⟨q, hq, hx⟩ := hx
    rw [binK_eq] at hx
    replace hx := bind_some hx
    obtain ⟨z, hz, hx⟩ := hx
    obtain ⟨h1, h2⟩ := E1 hp
    obtain ⟨h3, h4⟩ := E1 hq
    obtain ⟨u, hu, hr⟩ := binP_ok ht hz h2 h4
    cases hx
    exact r_bin _ _ u rfl rfl h1 h3 hr (hk u z rfl hu)
  · replace hx := bind_some hx
    obtain ⟨p, hp, hx⟩ := hx
    obtain ⟨h1, h2⟩ := E1 hp
    split at hx
    · simp only [RV] at h2
      cases hx
      exact r_un _ _ h2 h1 u_not (hk _ _ rfl (by simp only [RV]))
    · simp only [RV] at h2
      cases hx
      exact r_un _ _ h2 h1 u_neg (hk _ _ rfl (by simp only [RV, wr]))
    · cases hx
  · replace hx := bind_some hx
    obtain ⟨p, hp, hx⟩ := hx
    replace hx := bind_some hx
    obtain ⟨q, hq, hx⟩ := hx
    replace hx := bind_some hx
    obtain ⟨q', hq', hx⟩ := hx
    obtain ⟨h1, h2⟩ := E1 hp
    obtain ⟨h3, h4⟩ := E1 hq
    obtain ⟨h5, h6⟩ := E1 hq'
    split at hx
    · rename_i g
      simp only [RV] at h2
      cases g with
      | true => cases hx; exact r_pick true _ h2 rfl h1 h3 h5 (hk _ _ rfl h4)
      | false => cases hx; exact r_pick false _ h2 rfl h1 h3 h5 (hk _ _ rfl h6)
    · cases hx
  · replace hx := bind_some hx
    obtain ⟨p, hp, hx⟩ := hx
    replace hx := bind_some hx
    obtain ⟨dd, hd, hx⟩ := hx
    obtain ⟨h1, h2⟩ := E1 hp
    split at hx
    · rename_i l o
      simp only [RV] at h2
      obtain ⟨b, w, h3, h4⟩ := h2
      cases hx
      exact r_fieldAddr b o dd (o + dd) h4 h1 (ht.off _ _ _ hd) rfl (hk _ _ rfl (by simp only [RV]; exact ⟨b, w, h3, rfl⟩))
    · rename_i E' x' o
      simp only [RV] at h2
      obtain ⟨b, q, cs, h3, h4, h5⟩ := h2
      cases hx
      exact r_fieldAddr b (q + o) dd (q + (o + dd)) h3 h1 (ht.off _ _ _ hd) (by omega) (hk _ _ rfl (by simp only [RV]; exact ⟨b, q, cs, rfl, h4, h5⟩))
    · rename_i l sz j o
      simp only [RV] at h2
      obtain ⟨b, q, k, m, w, h3, h4⟩ := h2
      cases hx
      exact r_fieldAddr b (q + (j * sz + o)) dd (q + (j * sz + (o + dd))) h4 h1 (ht.off _ _ _ hd) (by omega) (hk _ _ rfl (by simp only [RV]; exact ⟨b, q, k, m, w, h3, rfl⟩))
    · cases hx
  · rename_i T x f
    replace hx := bind_some hx
    obtain ⟨p, hp, hx⟩ := hx
    replace hx := bind_some hx
    obtain ⟨dd, hd, hx⟩ := hx
    replace hx := bind_some hx
    obtain ⟨T', hT', hx⟩ := hx
    obtain ⟨h1, h2⟩ := E1 hp
    replace hx := bind_some hx
    obtain ⟨ls, hls, hx⟩ := hx
    · replace hx := bind_some hx
      obtain ⟨z, hz, hx⟩ := hx
      obtain ⟨cs, h3, h4⟩ := aggG_ok hls h2
      cases hx
      obtain ⟨fs, fl, a1, a2, a3, _⟩ := ht.off _ _ _ hd
      obtain ⟨fs', fl', b1, b2, b3⟩ := ht.fty _ _ _ hT'
      rw [a1] at b1
      cases b1
      rw [a2] at b2
      cases b2
      obtain ⟨r, hr, hrun⟩ := loadL_part (w := σ.w) ht hz h4
      refine r_field _ r h3 h1 ?_ (hk _ _ rfl hr)
      show (Instr.field T (.agg cs.toArray) f).run P σ.w = _
      simp only [Instr.field, Sem.run_bind, run_underlying a1, Result.andThen_ok, a2, asAgg, Sem.run_pure, a3, b3, hrun]
  · replace hx := bind_some hx
    obtain ⟨p, hp, hx⟩ := hx
    obtain ⟨h1, h2⟩ := E1 hp
    split at hx
    · rename_i l o
      split at hx
      · rename_i T' ls w' ho
        replace hx := bind_some hx
        obtain ⟨z, hz, hx⟩ := hx
        obtain ⟨b, cs, k1, k2, k3, _⟩ := hO _ _ ho
        simp only [RV] at h2
        obtain ⟨b', w, h3, h4⟩ := h2
        rw [k1] at h3
        cases h3
        obtain ⟨r, hr, hrun⟩ := loadL_ok ht hz k2 (range_heap k3)
        cases hx
        rw [Nat.zero_add] at hrun
        exact r_load b o r h4 h1 hrun (hk _ _ rfl hr)
      · cases hx
    · rename_i E' x' o
      replace hx := bind_some hx
      obtain ⟨z, hz, hx⟩ := hx
      simp only [RV] at h2
      obtain ⟨b, q, cs, h3, h4, h5⟩ := h2
      obtain ⟨r, hr, hrun⟩ := loadL_ok ht hz (RG.one h4) h5.2
      cases hx
      exact r_load b (q + o) r h3 h1 hrun (hk _ _ rfl hr)
    · rename_i l sz j o
      split at hx
      · rename_i E xs fl ho
        replace hx := bif_some hx
        obtain ⟨hsz, hx⟩ := hx
        have hsz' := Nat.eq_of_beq_eq_true hsz
        replace hx := bind_some hx
        obtain ⟨x, hxj, hx⟩ := hx
        replace hx := bind_some hx
        obtain ⟨z, hz, hx⟩ := hx
        obtain ⟨A, k, ow, k1, k2⟩ := hO _ _ ho
        simp only [RV] at h2
        obtain ⟨b, q, k', m, w, h3, h4⟩ := h2
        rw [k1] at h3
        cases h3
        cases hx
        have hcj : ∃ cj, Rp.cells σ x cj ∧ σ.w.rangeAt b (q + j * sz) cj := by
          subst hsz'
          cases ow with
          | none =>
            rcases k2 with ⟨e, _⟩ | ⟨_, _, hs⟩
            · subst e; simp at hxj
            · obtain ⟨b', o', cj, e, e1, e2⟩ := hs.at_ hxj
              cases e
              exact ⟨cj, e1, e2.2⟩
          | some g =>
            obtain ⟨cur, cs, e, hh, a1, a2, a3, a4, a5, _⟩ := k2
            cases e
            obtain ⟨c1, cj, c2, e1, e2, e3, _⟩ := flat_at a4 hxj
            refine ⟨cj, e3, fun i v hv => ?_⟩
            have hil := (List.getElem?_eq_some_iff.1 hv).1
            have e4 : cs[j * Rp.sz (I E) + i]? = some v := by
              rw [e1, List.append_assoc, List.getElem?_append_right (by omega), e2, Nat.add_sub_cancel_left, List.getElem?_append_left hil, hv]
            have hlt : j * Rp.sz (I E) + i < xs.length * Rp.sz (I E) := by
              have := (List.getElem?_eq_some_iff.1 e4).1
              rw [← a5, List.length_take] at this; omega
            rw [← a5, List.getElem?_take_of_lt hlt, Array.getElem?_toList] at e4
            rw [Nat.zero_add]
            simp [World.cell?, hh, e4]
        obtain ⟨cj, e1, e2⟩ := hcj
        obtain ⟨r, hr, hrun⟩ := loadL_ok (X := X) (c := c) ht hz (RG.one e1) e2
        rw [Nat.add_assoc] at hrun
        exact r_load b (q + (j * sz + o)) r h4 h1 hrun (hk _ _ rfl hr)
      · rename_i E xs ho
        replace hx := bif_some hx
        obtain ⟨hsz, hx⟩ := hx
        have hsz' := Nat.eq_of_beq_eq_true hsz
        replace hx := bind_some hx
        obtain ⟨x, hxj, hx⟩ := hx
        replace hx := bind_some hx
        obtain ⟨z, hz, hx⟩ := hx
        obtain ⟨A, k, k1, k2⟩ := hO _ _ ho
        simp only [RV] at h2
        obtain ⟨b, q, k', m, w, h3, h4⟩ := h2
        rw [k1] at h3
        cases h3
        cases hx
        obtain ⟨b', o', cj, e, e1, e2⟩ := k2.at_ hxj
        cases e
        rw [← hsz'] at e2
        obtain ⟨r, hr, hrun⟩ := loadL_ok (X := X) (c := c) ht hz (RG.one e1) e2
        rw [Nat.add_assoc] at hrun
        exact r_load b (q + (j * sz + o)) r h4 h1 hrun (hk _ _ rfl hr)
      · cases hx
    · cases hx
  · rename_i T x y
    replace hx := bind_some hx
    obtain ⟨p, hp, hx⟩ := hx
    replace hx := bind_some hx
    obtain ⟨q, hq, hx⟩ := hx
    replace hx := bind_some hx
    obtain ⟨j, hj, hx⟩ := hx
    obtain ⟨h1, h2⟩ := E1 hp
    obtain ⟨h3, h4⟩ := E1 hq
    have hjv : RV X c σ (.int .i64 j : PV I) (ev F y) := by
      unfold asI at hj
      split at hj
      · cases hj; exact h4
      · cases hj
    simp only [RV] at hjv
    have main : ∀ (E' : TypeId), tb.el T = some E' → ∀ (E : TypeId) (xs : List (I E)), (∃ A k, ev F x = .slice A xs.length k ∧ Sl σ xs A k) → (bif Nat.beq E E' then Option.bind (idx xs j) fun e => val some (PV.ep E e 0) else none) = some e → wpList P ops Q (⟨d, .indexAddr T x y, ty, pos, aft, none⟩ :: rest) (fr n F) σ.w := by
      intro E' hE E xs hs hy
      obtain ⟨A, k, h5, h6⟩ := hs
      replace hy := bif_some hy
      obtain ⟨hb, hy⟩ := hy
      have e1 := Nat.eq_of_beq_eq_true hb
      subst e1
      replace hy := bind_some hy
      obtain ⟨x, hxx, hy⟩ := hy
      cases hy
      obtain ⟨hT, hsz⟩ := ht.el _ _ hE
      exact r_indexAddr h6 hxx h5 hjv h1 h3 hT hsz fun b o cs hc hse => hk _ _ rfl (by
        simp only [RV]
        exact ⟨b, o, cs, rfl, hc, hse⟩)
    split at hx
    · replace hx := bind_some hx
      obtain ⟨⟨E, m, k⟩, ha, hx⟩ := hx
      replace hx := arrB_some hx
      obtain ⟨i, _, hi, rfl, hx⟩ := hx
      obtain ⟨hT, hE⟩ := ht.arr _ _ _ _ ha
      simp only [RV] at h2
      obtain ⟨b, w, hc, h5⟩ := h2
      cases hx
      exact r_indexArr h5 hjv h1 h3 hT hE (by simpa using hi) (hk _ _ rfl (by simp only [RV]; exact ⟨b, w, hc, rfl⟩))
    · replace hx := bind_some hx
      obtain ⟨⟨E, m, k⟩, ha, hx⟩ := hx
      replace hx := arrB_some hx
      obtain ⟨i, _, hi, rfl, hx⟩ := hx
      obtain ⟨hT, hE⟩ := ht.arr _ _ _ _ ha
      simp only [RV] at h2
      obtain ⟨b, p, cs, h5, hc, hs⟩ := h2
      cases hx
      exact r_indexArr h5 hjv h1 h3 hT hE (by simpa using hi) (hk _ _ rfl (by simp only [RV]; exact ⟨b, p, cs, by simp only [Nat.add_assoc], hc, hs⟩))
    · replace hx := bind_some hx
      obtain ⟨⟨E, m, k⟩, ha, hx⟩ := hx
      replace hx := arrB_some hx
      obtain ⟨i, _, hi, rfl, hx⟩ := hx
      obtain ⟨hT, hE⟩ := ht.arr _ _ _ _ ha
      simp only [RV] at h2
      obtain ⟨b, q', k', m', w, hc, h5⟩ := h2
      cases hx
      exact r_indexArr h5 hjv h1 h3 hT hE (by simpa using hi) (hk _ _ rfl (by simp only [RV]; exact ⟨b, q', k', m', w, hc, by simp only [Nat.add_assoc]⟩))
    · replace hx := bind_some hx
      obtain ⟨E', hE, hx⟩ := hx
      simp only [RV] at h2
      obtain ⟨A, k, h5, h6, _⟩ := h2
      exact main _ hE _ _ ⟨A, k, h5, h6⟩ hx
    · rename_i l
      replace hx := bind_some hx
      obtain ⟨E', hE, hx⟩ := hx
      simp only [RV] at h2
      obtain ⟨pl, hc, h5⟩ := h2
      split at hx
      · rename_i E xs ho
        obtain ⟨A, k, ow, k1, k2⟩ := hO _ _ ho
        rw [k1] at hc
        cases hc
        exact main _ hE E xs ⟨A, k, h5, k2.sl⟩ hx
      · rename_i E xs ho
        obtain ⟨A, k, k1, k2⟩ := hO _ _ ho
        rw [k1] at hc
        cases hc
        exact main _ hE E xs ⟨A, k, h5, k2⟩ hx
      · rename_i E xs ho
        obtain ⟨A, k, ow, k1, k2⟩ := hO _ _ ho
        rw [k1] at hc
        cases hc
        replace hx := bif_some hx
        obtain ⟨hb, hx⟩ := hx
        have e1 := Nat.eq_of_beq_eq_true hb
        subst e1
        replace hx := bind_some hx
        obtain ⟨x, hxx, hx⟩ := hx
        cases hx
        obtain ⟨hT, hsz⟩ := ht.el _ _ hE
        obtain ⟨h0, hxj⟩ := idx_some hxx
        have hlt : j < (xs.length : Int) := by have := (List.getElem?_eq_some_iff.1 hxj).1; omega
        cases ow with
        | none =>
          rcases k2 with ⟨e, _⟩ | ⟨e, _⟩
          · subst e; simp at hxj
          · cases e
        | some g =>
          obtain ⟨cur, cs, e, _⟩ := k2
          subst e
          exact r_indexAddrU h0 hlt h5 hjv h1 h3 hT hsz (hk _ _ rfl (by
            simp only [RV]
            exact ⟨g, 0, k, xs.length, some g, k1, by simp only [Nat.zero_add, Nat.add_zero]⟩))
      · rename_i E xs ho
        obtain ⟨A, k, k1, k2⟩ := hO _ _ ho
        rw [k1] at hc
        cases hc
        replace hx := bif_some hx
        obtain ⟨hb, hx⟩ := hx
        have e1 := Nat.eq_of_beq_eq_true hb
        subst e1
        replace hx := bind_some hx
        obtain ⟨x, hxx, hx⟩ := hx
        cases hx
        obtain ⟨hT, hsz⟩ := ht.el _ _ hE
        obtain ⟨h0, hxj⟩ := idx_some hxx
        have hlt : j < (xs.length : Int) := by have := (List.getElem?_eq_some_iff.1 hxj).1; omega
        obtain ⟨b', o', cj, e, _, _⟩ := k2.at_ hxj
        subst e
        exact r_indexAddrV h0 hlt h5 hjv h1 h3 hT hsz (hk _ _ rfl (by
          simp only [RV]
          exact ⟨b', o', k, xs.length, none, k1, by simp only [Nat.add_zero]⟩))
      · cases hx
    · rename_i l sz lo
      replace hx := bind_some hx
      obtain ⟨E', hE, hx⟩ := hx
      simp only [RV] at h2
      obtain ⟨b, k', m, w, hc, h5⟩ := h2
      split at hx
      · rename_i E xs ho
        obtain ⟨A, k, ow, k1, k2⟩ := hO _ _ ho
        rw [k1] at hc
        cases hc
        replace hx := bif_some hx
        obtain ⟨hb, hx⟩ := hx
        simp only [Bool.and_eq_true] at hb
        have e1 := Nat.eq_of_beq_eq_true hb.1
        have e2 := Nat.eq_of_beq_eq_true hb.2
        subst e1
        subst e2
        replace hx := bind_some hx
        obtain ⟨x, hxx, hx⟩ := hx
        cases hx
        obtain ⟨hT, hsz⟩ := ht.el _ _ hE
        obtain ⟨h0, hxj⟩ := idx_some hxx
        have hlt : j < ((xs.length - lo : Nat) : Int) := by have := (List.getElem?_eq_some_iff.1 hxj).1; rw [List.length_drop] at this; omega
        exact r_indexAddrV h0 hlt h5 hjv h1 h3 hT hsz (hk _ _ rfl (by
          simp only [RV]
          exact ⟨b, 0, _, xs.length, _, k1, by simp only [Nat.add_mul, Nat.add_zero, Nat.zero_add]⟩))
      · cases hx
    · cases hx
  · rename_i T x y
    replace hx := bind_some hx
    obtain ⟨p, hp, hx⟩ := hx
    replace hx := bind_some hx
    obtain ⟨q, hq, hx⟩ := hx
    obtain ⟨h1, h2⟩ := E1 hp
    obtain ⟨h3, h4⟩ := E1 hq
    split at hx
    · rename_i t k j
      replace hx := bif_some hx
      obtain ⟨hb, hx⟩ := hx
      replace hx := bind_some hx
      obtain ⟨e1, he, hx⟩ := hx
      simp only [RV] at h2 h4
      cases hx
      exact r_index _ _ _ h2 h4 h1 h3 (ix_str (ht.isStr _ hb) he) (hk _ _ rfl (by simp only [RV]))
    · replace hx := bind_some hx
      obtain ⟨j, hj, hx⟩ := hx
      replace hx := bind_some hx
      obtain ⟨⟨E, m, k⟩, ha, hx⟩ := hx
      replace hx := bind_some hx
      obtain ⟨ls, hls, hx⟩ := hx
      replace hx := arrB_some hx
      obtain ⟨i, _, hi, rfl, hx⟩ := hx
      replace hx := bind_some hx
      obtain ⟨z, hz, hx⟩ := hx
      have hjv : RV X c σ (.int .i64 (Int.ofNat i) : PV I) (ev F y) := by
        unfold asI at hj
        split at hj
        · cases hj; exact h4
        · cases hj
      simp only [RV] at hjv
      obtain ⟨hT, hE⟩ := ht.arr _ _ _ _ ha
      obtain ⟨cs, e, hl⟩ := aggG_ok hls h2
      obtain ⟨r, hr, hp⟩ := loadL_part (w := σ.w) ht hz hl
      cases hx
      exact r_index _ _ _ e hjv h1 h3 (ix_arr hT hE (by simpa using hi) hp) (hk _ _ rfl hr)
  · replace hx := bind_some hx
    obtain ⟨p, hp, hx⟩ := hx
    obtain ⟨h1, h2⟩ := E1 hp
    split at hx
    · replace hx := bind_some hx
      obtain ⟨z, hz, hx⟩ := hx
      simp only [RV] at h2
      obtain ⟨cs, h3, h4⟩ := h2
      obtain ⟨v, hv, hr⟩ := RVs.at_ _ _ h4 _ _ hz
      cases hx
      exact r_extract cs v h3 h1 hv (hk _ _ rfl hr)
    · cases hx
  · replace hx := bind_some hx
    obtain ⟨p, hp, hx⟩ := hx
    obtain ⟨h1, h2⟩ := E1 hp
    split at hx
    · have h2' := h2
      simp only [RV] at h2
      obtain ⟨b, w, h3, h4⟩ := h2
      cases hx
      rw [h4] at h2'
      exact r_nilCheck _ h4 h1 (hk _ _ rfl h2')
    · have h2' := h2
      simp only [RV] at h2
      obtain ⟨b, q, cs, h3, _⟩ := h2
      cases hx
      rw [h3] at h2'
      exact r_nilCheck _ h3 h1 (hk _ _ rfl h2')
    · have h2' := h2
      simp only [RV] at h2
      obtain ⟨b, q, k, m, w, _, h4⟩ := h2
      cases hx
      rw [h4] at h2'
      exact r_nilCheck _ h4 h1 (hk _ _ rfl h2')
    · cases hx
  · replace hx := bind_some hx
    obtain ⟨p, hp, hx⟩ := hx
    obtain ⟨h1, h2⟩ := E1 hp
    split at hx
    · replace hx := bind_some hx
      obtain ⟨ka, hka, hx⟩ := hx
      replace hx := bind_some hx
      obtain ⟨kb, hkb, hx⟩ := hx
      simp only [RV] at h2
      cases hx
      exact r_convert _ _ h2 h1 (cv_int (by rw [ht.ik _ _ hka]; rfl) (ht.ik _ _ hkb)) (hk _ _ rfl (by simp only [RV, wr]))
    · cases hx
  · rename_i T ps
    replace hx := bind_some hx
    obtain ⟨pl, hpl, hx⟩ := hx
    replace hx := bind_some hx
    obtain ⟨zs, hzs, hx⟩ := hx
    replace hx := bind_some hx
    obtain ⟨qs, hqs, hx⟩ := hx
    replace hx := bind_some hx
    obtain ⟨ls, hls, hx⟩ := hx
    obtain ⟨cz, hT, hz⟩ := ht.flds _ _ _ hpl hzs
    obtain ⟨k1, k2⟩ := evB_ok hG hqs
    obtain ⟨co, k3, k4⟩ := fillP_ok ht pl qs _ _ _ _ hls (hz X c σ) k2
    cases hx
    have e : ps = ps.toList.toArray := by simp
    rw [e]
    rcases hT with hT | hT
    · exact r_build hT _ co rfl k1 k3 (hk _ _ rfl (mkAgg_ok k4))
    · exact r_buildA hT _ co rfl k1 k3 (hk _ _ rfl (mkAgg_ok k4))
  · rename_i f xs ys
    split at hx
    · rename_i e
      replace hx := bind_some hx
      obtain ⟨ps, hps, hx⟩ := hx
      obtain ⟨k1, k2⟩ := evs_ok hG hps
      cases hx
      have e1 : xs = List.toArray [] := by rw [← e]
      have e2 : ys = ys.toList.toArray := by simp
      rw [e1, e2]
      exact r_makeFunc [] _ rfl rfl (by simp [k1]) (hk _ _ rfl (by simp only [RV]; exact ⟨_, rfl, k2⟩))
    · cases hx
  · cases hx
end
end
end Go.Qx
