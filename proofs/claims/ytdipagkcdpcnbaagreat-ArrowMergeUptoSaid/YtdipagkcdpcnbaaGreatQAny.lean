/- The symbolic executor: a region whose order is drawn. -/
import Derived.Test.YtdipagkcdpcnbaaGreatQDraw
namespace Go.Qx
open Go Go.RowKit Go.Sx

section
variable {I : TypeId → Type} [∀ E, Rp (I E)] {P : Program} {tb : Tab I} {disp : Disp I} {all : List Oper} {tds : List (List Nat)} {X : Cxt} {c c' : Cx} {σ τ : S} {n : Nat}
/-- An operation goes ahead of others that it doesn't hang on. -/
theorem flat_front : ∀ {pre : List (Nat × Oper)} {s s' : St I} {i : Nat} {o : Oper} {post : List (Nat × Oper)} {es : Acc}, Flat1 tb disp all s (pre ++ (i, o) :: post) s' es → es.Pairwise (R tds) →
    (∀ x ∈ pre, memN x.1 (tdOf tds i) = false) → (∀ x ∈ pre, slotComp all x.2 o = true) →
    ∃ e1 e e2, es = e1 ++ e :: e2 ∧ e1.length = pre.length ∧ e.1 = i ∧ (∀ x ∈ e1, R tds e x) ∧ Flat1 tb disp all s ((i, o) :: (pre ++ post)) s' (e :: (e1 ++ e2))
  | [], s, s', i, o, post, _, .cons _ _ _ r _ _ es h1 h2 h3, _, _, _ => ⟨[], _, es, rfl, rfl, rfl, (fun x hx => by cases hx), Flat1.cons _ _ _ r _ _ es h1 h2 h3⟩
  | (a, oa) :: pre, s, s', i, o, post, _, .cons _ _ _ ra _ _ es h1 h2 h3, hp, ht, hs => by
    obtain ⟨p1, p2⟩ := List.pairwise_cons.1 hp
    obtain ⟨e1, e, e2, k1, k2, k3, k4, k5⟩ := flat_front h3 p2 (fun x hx => ht x (by simp [hx])) (fun x hx => hs x (by simp [hx]))
    subst k1
    cases k5 with
    | cons _ _ _ ri _ _ _ g1 g2 g3 =>
      have hR := p1 (i, inf1 (ap1 s a oa ra) i o ri) (by simp)
      have hc : comp (inf1 s a oa ra) (inf1 (ap1 s a oa ra) i o ri) = true := by
        rcases hR with h | h
        · have := ht (a, oa) (by simp)
          rw [this] at h; cases h
        · exact h
      obtain ⟨m1, m2, m3, m4, m5, m6, m7⟩ := flat_swap h1 h2 g1 g2 hc (hs (a, oa) (by simp))
      refine ⟨(a, inf1 s a oa ra) :: e1, (i, inf1 (ap1 s a oa ra) i o ri), e2, rfl, by simp [k2], rfl, fun x hx => ?_, ?_⟩
      · rcases List.mem_cons.1 hx with rfl | hx
        · exact .inr (comp_symm hc)
        · exact k4 x hx
      · rw [← m3]
        refine .cons s i o ri _ _ _ m1 m2 ?_
        rw [← m6]
        refine .cons _ a oa ra _ _ _ m4 m5 ?_
        rw [m7]
        exact g3
/-- The direct grounds lie earlier; the listed ones are grounds. -/
def tdsCheck (ops : List Oper) (tds : List (List Nat)) : Bool :=
  (ops.zipIdx).all fun p => p.1.after.toList.all (fun e => !Region.binds .any e || Nat.blt e.on p.2) &&
    (tdOf tds p.2).all fun j => Nat.blt j p.2 && p.1.after.toList.any fun e => Region.binds .any e && (Nat.beq e.on j || memN j (tdOf tds e.on))
/-- Slots of operations that may change places. -/
def slotCheck (all : List Oper) (tds : List (List Nat)) : List (Nat × Oper) → Bool
  | [] => true
  | x :: r => r.all (fun y => memN x.1 (tdOf tds y.1) || slotComp all x.2 y.2) && slotCheck all tds r
theorem mem_zipIdx {α : Type} {l : List α} {i : Nat} {x : α} (h : l[i]? = some x) : (x, i) ∈ l.zipIdx := by
  rw [List.mem_iff_getElem?]
  exact ⟨i, by simp [List.getElem?_zipIdx, h]⟩
theorem getD_set {listed : Array Bool} {i : Nat} (hi : i < listed.size) (k : Nat) : (listed.setIfInBounds i true).getD k false = (Nat.beq k i || listed.getD k false) := by
  simp only [Array.getD_eq_getD_getElem?, Array.getElem?_setIfInBounds]
  by_cases h : i = k
  · subst h; simp [hi]
  · have : Nat.beq k i = false := beq_false (fun e => h e.symm)
    simp [h, this]
abbrev SC (all : List Oper) (tds : List (List Nat)) (x y : Nat × Oper) : Prop := memN x.1 (tdOf tds y.1) = true ∨ slotComp all x.2 y.2 = true
theorem slotCheck_ok : ∀ {l : List (Nat × Oper)}, slotCheck all tds l = true → l.Pairwise (SC all tds)
  | [], _ => List.Pairwise.nil
  | x :: r, h => by
    simp only [slotCheck, Bool.and_eq_true, List.all_eq_true, Bool.or_eq_true] at h
    exact List.pairwise_cons.2 ⟨h.1, slotCheck_ok h.2⟩
/-- What holds when some of the operations have run. -/
structure AInv (all : List Oper) (tds : List (List Nat)) (listed : Array Bool) (rem : List (Nat × Oper)) : Prop where
  size : listed.size = all.length
  mem : ∀ x ∈ rem, all[x.1]? = some x.2 ∧ listed.getD x.1 false = false
  unl : ∀ i o, all[i]? = some o → listed.getD i false = false → (i, o) ∈ rem
  nodup : (rem.map (·.1)).Nodup
  clos : ∀ i, listed.getD i false = true → ∀ j ∈ tdOf tds i, listed.getD j false = true
  sc : rem.Pairwise (SC all tds)
theorem flat_any (ht : TabOk P tb) (hd : DispOk P disp) (hX : X.P = P) (hck : tdsCheck all tds = true) {Q : Exit → Act → World → Prop} {s' : St I} : ∀ (fuel : Nat) (listed : Array Bool) (rem : List (Nat × Oper)) (s : St I) (es : Acc) (c : Cx) (σ : S) (F : Fr),
    rem.length = fuel → AInv all tds listed rem → Flat1 tb disp all s rem s' es → es.Pairwise (R tds) → Rel X c σ s n F → (∀ c' τ F', Cx.le c c' → Rel X c' τ s' n F' → Stp X.M σ τ → (∀ j, isDst rem j = false → F' j = F j) → Q .normal (fr n F') τ.w) →
    wpAny P .any all.toArray Q fuel listed (fr n F) σ.w := by
  have hdir : ∀ i o, all[i]? = some o → (∀ e ∈ o.after.toList, Region.binds .any e = true → e.on < i) ∧
      (∀ j, j ∈ tdOf tds i → ∃ e ∈ o.after.toList, Region.binds .any e = true ∧ (e.on = j ∨ j ∈ tdOf tds e.on)) := by
    intro i o ho
    have h1 := (List.all_eq_true.1 hck) _ (mem_zipIdx ho)
    simp only [Bool.and_eq_true] at h1
    refine ⟨fun e he hb => ?_, fun j hj => ?_⟩
    · have := (List.all_eq_true.1 h1.1) e he
      rw [hb] at this
      simpa using blt_lt (by simpa using this)
    · have := (List.all_eq_true.1 h1.2) j hj
      simp only [Bool.and_eq_true] at this
      obtain ⟨e, he, hh⟩ := List.any_eq_true.1 this.2
      simp only [Bool.and_eq_true, Bool.or_eq_true] at hh
      refine ⟨e, he, hh.1, ?_⟩
      rcases hh.2 with h | h
      · exact .inl (Nat.eq_of_beq_eq_true h)
      · exact .inr (memN_iff.1 h)
  intro fuel
  induction fuel with
  | zero =>
    intro listed rem s es c σ F hlen hI hf hp hr hk
    have : rem = [] := List.eq_nil_of_length_eq_zero hlen
    subst this
    cases hf
    have hall : ∀ k, k < all.length → listed.getD k false = true := by
      intro k hk
      cases hq : listed.getD k false with
      | true => rfl
      | false =>
        have := hI.unl k _ (List.getElem?_eq_getElem hk) hq
        cases this
    refine ⟨?_, hk c σ F (Cx.le_refl c) hr (Stp.refl _ _) fun _ _ => rfl⟩
    apply List.filter_eq_nil_iff.2
    intro k hk
    have hk' : k < all.length := by simpa using hk
    have hk2 : k < listed.size := by rw [hI.size]; exact hk'
    have e1 : listed.getD k true = listed.getD k false := by simp [Array.getD, hk2]
    intro hh
    rw [e1, hall k hk'] at hh
    simp at hh
  | succ fuel ih =>
    intro listed rem s es c σ F hlen hI hf hp hr hk
    have hready : ∀ i, i ∈ Region.ready .any all.toArray listed ↔ ∃ o, all[i]? = some o ∧ listed.getD i true = false ∧ ∀ e ∈ o.after.toList, Region.binds .any e = true → listed.getD e.on false = true := by
      intro i
      simp only [Region.ready, List.mem_filter, List.mem_range, List.size_toArray, Bool.and_eq_true, Bool.not_eq_true']
      constructor
      · rintro ⟨h1, h2, h3⟩
        have ho : all[i]? = some all[i] := List.getElem?_eq_getElem h1
        refine ⟨_, ho, h2, ?_⟩
        simp only [List.getElem?_toArray, ho, Option.map_some, Option.getD_some] at h3
        intro e he hb
        rw [Array.all_eq_true_iff_forall_mem] at h3
        have := h3 e (by simpa using he)
        rw [hb] at this
        simpa using this
      · rintro ⟨o, ho, h2, h3⟩
        refine ⟨(List.getElem?_eq_some_iff.1 ho).1, h2, ?_⟩
        simp only [List.getElem?_toArray, ho, Option.map_some, Option.getD_some]
        rw [Array.all_eq_true_iff_forall_mem]
        intro e he
        cases hb : Region.binds .any e with
        | false => rfl
        | true => simpa using h3 e (by simpa using he) hb
    have hgetD : ∀ i, i < all.length → listed.getD i true = listed.getD i false := by
      intro i hi
      have : i < listed.size := by rw [hI.size]; exact hi
      simp [Array.getD, this]
    refine ⟨fun hnil => ?_, fun i hi => ?_⟩
    · -- somebody is always ready
      exfalso
      have hall : ∀ k, k < all.length → listed.getD k false = true := by
        intro k
        induction k using Nat.strongRecOn with
        | _ k ihk =>
          intro hk
          cases hq : listed.getD k false with
          | true => rfl
          | false =>
            have ho : all[k]? = some all[k] := List.getElem?_eq_getElem hk
            have : k ∈ Region.ready .any all.toArray listed := (hready k).2 ⟨_, ho, by rw [hgetD k hk]; exact hq, fun e he hb => by
              have := (hdir k _ ho).1 e he hb
              exact ihk e.on this (by omega)⟩
            rw [hnil] at this
            cases this
      cases rem with
      | nil => cases hlen
      | cons x r =>
        obtain ⟨h1, h2⟩ := hI.mem x (by simp)
        rw [hall x.1 (List.getElem?_eq_some_iff.1 h1).1] at h2
        cases h2
    · obtain ⟨o, ho, hl, hdp⟩ := (hready i).1 hi
      have hil : i < all.length := (List.getElem?_eq_some_iff.1 ho).1
      have hnot : listed.getD i false = false := by rw [← hgetD i hil]; exact hl
      have hdeps : ∀ j ∈ tdOf tds i, listed.getD j false = true := by
        intro j hj
        obtain ⟨e, he, hb, h⟩ := (hdir i o ho).2 j hj
        have h1 := hdp e he hb
        rcases h with rfl | h
        · exact h1
        · exact hI.clos _ h1 j h
      obtain ⟨pre, post, hsplit⟩ := List.append_of_mem (hI.unl i o ho hnot)
      subst hsplit
      have htd : ∀ x ∈ pre, memN x.1 (tdOf tds i) = false := fun x hx => by
        rw [memN_false]
        intro hm
        have := (hI.mem x (by simp [hx])).2
        rw [hdeps x.1 hm] at this
        cases this
      have hsc := List.pairwise_append.1 hI.sc
      have hs : ∀ x ∈ pre, slotComp all x.2 o = true := fun x hx => by
        rcases hsc.2.2 x hx (i, o) (by simp) with h | h
        · rw [htd x hx] at h; cases h
        · exact h
      obtain ⟨e1, e, e2, k1, k2, k3, k4, k5⟩ := flat_front hf hp htd hs
      subst k1
      have hpw := List.pairwise_append.1 hp
      have hp' : (e1 ++ e2).Pairwise (R tds) := List.pairwise_append.2 ⟨hpw.1, (List.pairwise_cons.1 hpw.2.1).2, fun a ha b hb => hpw.2.2 a ha b (by simp [hb])⟩
      have hii : i < listed.size := by rw [hI.size]; exact hil
      have hg := getD_set hii
      have hnd := hI.nodup
      have hI' : AInv all tds (listed.setIfInBounds i true) (pre ++ post) := by
        refine ⟨by simp [hI.size], fun x hx => ?_, fun j oj hj hjl => ?_, ?_, fun j hjl q hq => ?_, ?_⟩
        · have hx' : x ∈ pre ++ (i, o) :: post := by
            rcases List.mem_append.1 hx with h | h
            · simp [h]
            · simp [h]
          obtain ⟨h1, h2⟩ := hI.mem x hx'
          refine ⟨h1, ?_⟩
          rw [hg, h2, Bool.or_false]
          apply Sx.beq_false
          intro e
          rw [List.map_append, List.map_cons, List.nodup_append] at hnd
          obtain ⟨n1, n2, n3⟩ := hnd
          rcases List.mem_append.1 hx with h | h
          · exact n3 x.1 (List.mem_map_of_mem h) i (by simp) e
          · exact (List.nodup_cons.1 n2).1 (List.mem_map.2 ⟨x, h, e⟩)
        · rw [hg, Bool.or_eq_false_iff] at hjl
          have := hI.unl j oj hj hjl.2
          rcases List.mem_append.1 this with h | h
          · simp [h]
          · rcases List.mem_cons.1 h with h | h
            · cases h
              simp at hjl
            · simp [h]
        · rw [List.map_append] at hnd ⊢
          exact hnd.sublist (List.Sublist.append (List.Sublist.refl _) (by simp))
        · rw [hg] at hjl ⊢
          rcases Bool.or_eq_true_iff.1 hjl with h | h
          · have := Nat.eq_of_beq_eq_true h
            subst this
            simp [hdeps q hq]
          · simp [hI.clos j h q hq]
        · exact List.pairwise_append.2 ⟨hsc.1, (List.pairwise_cons.1 hsc.2.1).2, fun a ha b hb => hsc.2.2 a ha b (by simp [hb])⟩
      cases k5 with
      | cons _ _ _ r _ _ _ g1 g2 g3 =>
        have hlen' : (pre ++ post).length = fuel := by
          simp only [List.length_append, List.length_cons] at hlen ⊢
          omega
        have hdst : ∀ {j}, isDst (pre ++ (i, o) :: post) j = false → isDst (pre ++ post) j = false ∧ o.dst ≠ some j := fun hj => by
          obtain ⟨j1, j2⟩ := isDst_app hj
          obtain ⟨j3, j4⟩ := isDst_cons j2
          refine ⟨?_, j3⟩
          simp only [isDst, List.any_append, Bool.or_eq_false_iff] at j1 j4 ⊢
          exact ⟨j1, j4⟩
        have cont : ∀ c' τ F', Cx.le c c' → Rel X c' τ (ap1 s i o r) n F' → Stp X.M σ τ → (∀ j, o.dst ≠ some j → F' j = F j) → wpAny P .any all.toArray Q fuel (listed.setIfInBounds i true) (fr n F') τ.w := fun c' τ F' m1 m2 m3 m4 =>
          ih _ _ _ _ c' τ F' hlen' hI' g3 hp' m2 fun c2 υ F2 q1 q2 q3 q4 => hk c2 υ F2 (Cx.le_trans m1 q1) q2 (m3.trans q3) fun j hj => (q4 j (hdst hj).1).trans (m4 j (hdst hj).2)
        unfold wpOp
        simp only [List.getElem?_toArray, ho]
        rcases op_ok ht hd hX hr g1 g2 with ⟨e', rfl, he, hw⟩ | ⟨rfl, hw⟩
        · rw [if_pos hw]
          refine .inl ?_
          have h1 : Oper.wp P { o with guard := none } (fr n F) σ.w (wpAny P .any all.toArray Q fuel (listed.setIfInBounds i true)) Q := wp_of_list rfl (op_on ht hd hX hr he g2 fun c' τ F' m1 m2 m3 m4 => wpList_nil (cont c' τ F' m1 m2 m3 m4))
          unfold Oper.wp at h1 ⊢
          exact h1
        · rw [if_neg (by rw [hw]; simp), put_fr]
          exact cont c σ _ (Cx.le_refl c) (hr.put o.dst .undef undef (by simp only [RV])) (Stp.refl _ _) fun j hj => putF_keep hj
def idxd (l : List Oper) : List (Nat × Oper) := l.zipIdx.map fun x => (x.2, x.1)
theorem idxd_mem {l : List Oper} {i : Nat} {o : Oper} : (i, o) ∈ idxd l ↔ l[i]? = some o := by
  simp only [idxd, List.mem_map, Prod.mk.injEq]
  constructor
  · rintro ⟨⟨o', i'⟩, h, rfl, rfl⟩
    have := List.mem_zipIdx_iff_getElem?.1 h
    simpa using this
  · intro h
    exact ⟨(o, i), mem_zipIdx h, rfl, rfl⟩
theorem idxd_snd (l : List Oper) : (idxd l).map (·.2) = l := by
  simp [idxd, List.map_map, Function.comp_def]
theorem idxd_fst (l : List Oper) : (idxd l).map (·.1) = List.range l.length := by
  simp [idxd, List.map_map, Function.comp_def, List.zipIdx_map_snd, List.range_eq_range']
def endS (s s' : St I) (m : Nat) : St I := ⟨s'.n, s'.F, s'.O, s.nx + 8 * m⟩
def region (tb : Tab I) (disp : Disp I) (tds : List (List Nat)) (drw : Bool) (spl : List Nat) (ops : List Oper) (s : St I) {ρ : Type} (k : St I → Option ρ) : Option ρ :=
  runOps tb disp ops tds drw spl (2 * ops.length + 2) ρ false [] (idxd ops) [] s fun s' _ => k (endS s s' ops.length)
/-- A region. -/
theorem region_ok (ht : TabOk P tb) (hd : DispOk P disp) (hX : X.P = P) {drw : Bool} {spl : List Nat} (hm : P.follows .mixedOrders = true) {ops : List Oper} (hck : drw = true → tdsCheck ops tds = true ∧ slotCheck ops tds (idxd ops) = true) {s : St I} {ρ : Type} {k : St I → Option ρ} {r : ρ} (h : region tb disp tds drw spl ops s k = some r)
    {F : Fr} (hr : Rel X c σ s n F) {id : Nat} {Q : Exit → Act → World → Prop}
    (hk : ∀ s' c' τ F', k s' = some r → Cx.le c c' → Rel X c' τ s' n F' → Stp X.M σ τ → (∀ i, isDst (idxd ops) i = false → F' i = F i) → Q .normal (fr n F') τ.w) : (Code.region id ops.toArray drw).wp P Q (fr n F) σ.w := by
  obtain ⟨s1', s2', acc', es, h1, h2⟩ := run_flat hd _ _ _ _ _ _ _ _ _ s [] h ⟨rfl, rfl, rfl, fun _ _ h => h⟩ (fun _ x hx => by cases hx)
  have fin : ∀ c' τ F', Cx.le c c' → Rel X c' τ s1' n F' → Stp X.M σ τ → (∀ i, isDst (idxd ops) i = false → F' i = F i) → Q .normal (fr n F') τ.w := fun c' τ F' k1 k2 k3 k4 => by
    refine hk _ c' τ F' h1 k1 ⟨h2.ref.n.symm.trans k2.len, fun i p hp => k2.frame i p (h2.ref.F i p hp), ?_, ?_, ?_, ?_, k2.base⟩ k3 k4
    · intro l o ho
      exact k2.objs l o (by rw [h2.ref.O]; exact ho)
    · intro l l' p p' b ⟨o, a1⟩ ⟨o', a2⟩
      exact k2.inj l l' p p' b ⟨o, by rw [h2.ref.O]; exact a1⟩ ⟨o', by rw [h2.ref.O]; exact a2⟩
    · intro l p b ⟨o, a1⟩
      exact k2.mine l p b ⟨o, by rw [h2.ref.O]; exact a1⟩
    · intro l hl
      exact k2.nom l (by rw [h2.ref.O]; exact hl)
  cases drw with
  | false =>
    have hs := flat_seq (Q := Q) (post := []) ht hd hX h2.flat c σ F hr fun c' τ F' k1 k2 k3 k4 => wpList_nil (fin c' τ F' k1 k2 k3 k4)
    rw [idxd_snd, List.append_nil] at hs
    exact wp_region_lit hs
  | true =>
    obtain ⟨hc1, hc2⟩ := hck rfl
    refine wp_region_any hm ?_
    have hsz : ops.toArray.size = (idxd ops).length := by simp [idxd]
    have hdrew : Stp NoB σ ⟨{ σ.w with drawn := σ.w.drawn + 1 }, σ.L⟩ := ⟨⟨Nat.le_refl _, fun _ _ => Nat.le_refl _, fun _ _ _ _ h => h, Nat.le_succ _⟩, rfl, rfl, rfl, fun _ _ _ => ⟨rfl, rfl⟩⟩
    have hfalse : ∀ i, (Array.replicate ops.toArray.size false).getD i false = false := fun i => by
      by_cases h : i < ops.toArray.size <;> simp [Array.getD, h]
    refine flat_any ht hd hX hc1 _ _ (idxd ops) s es c ⟨{ σ.w with drawn := σ.w.drawn + 1 }, σ.L⟩ F hsz.symm ⟨by simp, fun x hx => ⟨idxd_mem.1 hx, hfalse _⟩, fun i o ho _ => idxd_mem.2 ho, by rw [idxd_fst]; exact List.nodup_range, (fun i hi => by rw [hfalse] at hi; cases hi), slotCheck_ok hc2⟩
      h2.flat (h2.pair rfl) (hr.step hdrew) fun c' τ F' k1 k2 k3 k4 => fin c' τ F' k1 k2 (hdrew.no.trans k3) k4
end
end Go.Qx
