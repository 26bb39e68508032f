/- A region whose order is drawn: one obligation an operation, whatever the order. -/
import Derived.Test.YtamfhohifmbjnaaSxMore
namespace Go.Sx
open Go Go.RowKit

/-- A fact on the value of one slot, kept as the world grows. -/
structure Fct where
  p : Value → S → Prop
  mono : ∀ v σ τ, Wext σ τ → p v σ → p v τ
def Fct.eqv (u : Value) : Fct := ⟨fun v _ => v = u, fun _ _ _ _ h => h⟩
def Fct.data {α : Type} [Rp α] (a : α) : Fct := ⟨fun v τ => RpV τ a v, fun _ _ _ k h => h.mono k⟩
def Fct.elem {α : Type} [Rp α] (a : α) : Fct := ⟨fun v τ => ∃ b o cs, v = .pointer (some ⟨b, o, none⟩) ∧ Rp.cells τ a cs ∧ Sealed τ b o cs,
  fun _ _ _ k ⟨b, o, cs, e, h1, h2⟩ => ⟨b, o, cs, e, Rp.mono k h1, h2.mono (by
    intro e
    have := Rp.len h1
    rw [e] at this
    have hp := Rp.pos (α := α)
    simp at this
    omega) k⟩⟩
def Fct.elemAt {α : Type} [Rp α] (a : α) (k : Nat) : Fct := ⟨fun v τ => ∃ b o cs, v = .pointer (some ⟨b, o + k, none⟩) ∧ Rp.cells τ a cs ∧ Sealed τ b o cs,
  fun _ _ _ k ⟨b, o, cs, e, h1, h2⟩ => ⟨b, o, cs, e, Rp.mono k h1, h2.mono (by
    intro e
    have := Rp.len h1
    rw [e] at this
    have hp := Rp.pos (α := α)
    simp at this
    omega) k⟩⟩
def Fct.tup {α β : Type} [Rp α] [Rp β] (a : α) (b : β) : Fct := ⟨fun v τ => ∃ v1 v2, v = .tuple #[v1, v2] ∧ RpV τ a v1 ∧ RpV τ b v2, fun _ _ _ k ⟨v1, v2, e, h1, h2⟩ => ⟨v1, v2, e, h1.mono k, h2.mono k⟩⟩
def Fct.any : Fct := ⟨fun _ _ => True, fun _ _ _ _ h => h⟩

def posts (K : Act → World → Prop) : Exit → Act → World → Prop
  | .normal, a, w => K a w
  | _, _, _ => False
def rOf (Rs : List Fct) (j : Nat) : Fct := (Rs[j]?).getD Fct.any
def tdOf (tds : List (List Nat)) (i : Nat) : List Nat := (tds[i]?).getD []
def dstOf (ops : List Oper) (i : Nat) : Option Nat := (ops[i]?).bind (·.dst)
def frameOk (dsts : List (Option Nat)) (tds : List (List Nat)) (i s : Nat) : Bool := (dsts.zipIdx).all fun p => (match p.1 with | some d => !(Nat.beq d s) | none => true) || (tdOf tds p.2).contains i || Nat.beq p.2 i
def tdsCheck (ops : List Oper) (tds : List (List Nat)) : Bool :=
  (ops.zipIdx).all fun p => p.1.after.toList.all (fun e => !Region.binds .any e || Nat.blt e.on p.2) &&
    (tdOf tds p.2).all fun j => Nat.blt j p.2 && p.1.after.toList.any fun e => Region.binds .any e && (Nat.beq e.on j || (tdOf tds e.on).contains j)
def dupCheck (dsts : List (Option Nat)) : Bool := (dsts.zipIdx).all fun p => (dsts.zipIdx).all fun q => Nat.beq p.2 q.2 || (match p.1, q.1 with | some a, some b => !(Nat.beq a b) | _, _ => true)
def guardCheck (ops : List Oper) (tds : List (List Nat)) : Bool :=
  (ops.zipIdx).all fun p => match p.1.guard with | none => true | some (j, _) => (tdOf tds p.2).contains j && (dstOf ops j).isSome

theorem ext_draw (σ : S) : Ext σ ⟨{ σ.w with drawn := σ.w.drawn + 1 }, σ.L⟩ := ⟨(Below.refl _ _).drew, fun _ _ => rfl⟩
/-- A frame of memory: what a function may turn. -/
structure FrR where
  rel : S → S → Prop
  refl : ∀ σ, rel σ σ
  trans : ∀ {σ τ υ}, rel σ τ → rel τ υ → rel σ υ
  draw : ∀ σ : S, rel σ ⟨{ σ.w with drawn := σ.w.drawn + 1 }, σ.L⟩
abbrev frExt (B : Nat) : FrR := ⟨ExtB B, ExtB.refl B, ExtB.trans, fun _ => ⟨(Below.refl _ _).drew, fun _ _ => rfl⟩⟩
section
variable {P : Program} {n : Nat} {B : FrR} {σ : S} {F0 : Fr}

/-- What one operation of the region owes. -/
def StepOk (P : Program) (n : Nat) (B : FrR) (σ : S) (F0 : Fr) (dsts : List (Option Nat)) (tds : List (List Nat)) (Rs : List Fct) (G : (Nat → Bool) → Fr → S → Prop) (i : Nat) (o : Oper) : Prop :=
  ∀ (D : Nat → Bool) (F : Fr) (τ : S), D i = false → (∀ j, (tdOf tds i).contains j = true → D j = true) → (∀ j, (tdOf tds j).contains i = true → D j = false) →
    B.rel σ τ → Wext σ τ → G D F τ → (∀ s, frameOk dsts tds i s = true → F s = F0 s) → (∀ j, (tdOf tds i).contains j = true → ∀ d, (dsts[j]?).getD none = some d → (rOf Rs j).p (F d) τ) →
    match o.guard with
    | none => wpList P #[] (posts fun a w => ∃ v υ, a = fr n (putF F o.dst v) ∧ w = υ.w ∧ B.rel τ υ ∧ Wext τ υ ∧ (rOf Rs i).p v υ ∧ G (fun k => Nat.beq k i || D k) (putF F o.dst v) υ) [o] (fr n F) τ.w
    | some (j, want) => ((∀ d, (dsts[j]?).getD none = some d → F d = undef) ∧ (rOf Rs i).p undef τ ∧ G (fun k => Nat.beq k i || D k) (putF F o.dst undef) τ) ∨ ∃ c, (∀ d, (dsts[j]?).getD none = some d → F d = .bool c) ∧ (c = want → wpList P #[] (posts fun a w => ∃ v υ, a = fr n (putF F o.dst v) ∧ w = υ.w ∧ B.rel τ υ ∧ Wext τ υ ∧ (rOf Rs i).p v υ ∧ G (fun k => Nat.beq k i || D k) (putF F o.dst v) υ) [{ o with guard := none }] (fr n F) τ.w) ∧
        (c ≠ want → (rOf Rs i).p undef τ ∧ G (fun k => Nat.beq k i || D k) (putF F o.dst undef) τ)
def allSteps (S : Nat → Oper → Prop) : List Oper → Nat → Prop
  | [], _ => True
  | o :: r, k => S k o ∧ allSteps S r (k + 1)
theorem allSteps_at {S : Nat → Oper → Prop} : ∀ {l : List Oper} {k i : Nat} {o : Oper}, allSteps S l k → l[i]? = some o → S (k + i) o
  | [], _, _, _, _, h => by simp at h
  | x :: r, k, 0, o, h, ho => by simp at ho; subst ho; exact h.1
  | x :: r, k, i + 1, o, h, ho => by
    have := allSteps_at (i := i) h.2 (by simpa using ho)
    rw [show k + (i + 1) = k + 1 + i from by omega]
    exact this

theorem wp_of_list {o : Oper} (hg : o.guard = none) {a : Act} {w : World} {K : Act → World → Prop} {Q : Exit → Act → World → Prop} (h : wpList P #[] (posts K) [o] a w) : o.wp P a w K Q := by
  have hw : Region.wanted o (yielded #[] a.tmps) = true := by simp [Region.wanted, hg]
  simp only [wpList, hw, if_true] at h
  rcases h with h | ⟨_, a', w', hf⟩
  · unfold Oper.wp at h ⊢
    generalize (execOp a.eval o).run P w = r at *
    cases r with
    | ok nx w' =>
      cases nx <;> simp only [Oper.upon] at h ⊢ <;>
        first
          | exact h
          | exact Calls.mono h (fun e w'' he => by
              cases e with
              | returned v => exact he
              | panicked ch => exact he.elim
              | outgrown => obtain ⟨_, _, hf⟩ := he; exact hf.elim)
          | exact Rows.mono h (fun _ _ he => he)
    | halt x w' => cases x <;> simp only [Oper.upon] at h ⊢ <;> first | exact h | exact h.elim
  · exact hf.elim

theorem mem_zipIdx {α : Type} {l : List α} {i : Nat} {x : α} (h : l[i]? = some x) : (x, i) ∈ l.zipIdx := by
  rw [List.mem_iff_getElem?]
  exact ⟨i, by simp [List.getElem?_zipIdx, h]⟩
theorem dsts_at {ops : List Oper} {dsts : List (Option Nat)} (h : ops.map (·.dst) = dsts) {i : Nat} {o : Oper} (ho : ops[i]? = some o) : dsts[i]? = some o.dst := by
  rw [← h]; simp [ho]
theorem yields_at {ops : List Oper} {F : Fr} {j d : Nat} {c : Bool} (hd : dstOf ops j = some d) (hlt : Nat.blt d n = true) (hF : F d = .bool c) : yielded ops.toArray (fr n F).tmps j = some c := by
  have h : (ops.toArray[j]?).bind (·.dst) = some d := by simpa [dstOf] using hd
  have h2 : (fr n F).tmps[d]? = some (.bool c) := by simp [fr, blt_lt hlt, hF]
  unfold yielded
  rw [h]
  show (match (fr n F).tmps[d]? with | some (.bool b) => some b | _ => none) = some c
  rw [h2]

/-- What holds when the operations listed have run. -/
structure DInv (B : FrR) (σ : S) (F0 : Fr) (m : Nat) (dsts : List (Option Nat)) (tds : List (List Nat)) (Rs : List Fct) (G : (Nat → Bool) → Fr → S → Prop) (listed : Array Bool) (F : Fr) (τ : S) : Prop where
  size : listed.size = m
  clos : ∀ i, listed.getD i false = true → ∀ j, (tdOf tds i).contains j = true → listed.getD j false = true
  ext : B.rel σ τ
  wext : Wext σ τ
  g : G (fun k => listed.getD k false) F τ
  frame : ∀ s, (∀ i, listed.getD i false = true → (dsts[i]?).getD none ≠ some s) → F s = F0 s
  r : ∀ j, listed.getD j false = true → ∀ d, (dsts[j]?).getD none = some d → (rOf Rs j).p (F d) τ

theorem getD_set {listed : Array Bool} {i : Nat} (hi : i < listed.size) (k : Nat) : (listed.setIfInBounds i true).getD k false = (Nat.beq k i || listed.getD k false) := by
  simp only [Array.getD_eq_getD_getElem?, Array.getElem?_setIfInBounds]
  by_cases h : i = k
  · subst h; simp [hi]
  · have : Nat.beq k i = false := beq_false (fun e => h e.symm)
    simp [h, this]

theorem DInv.step {m : Nat} {dsts : List (Option Nat)} {tds : List (List Nat)} {Rs : List Fct} {G : (Nat → Bool) → Fr → S → Prop} {listed : Array Bool} {F : Fr} {τ : S}
    (h : DInv B σ F0 m dsts tds Rs G listed F τ) (hdup : dupCheck dsts = true) {i : Nat} (hi : i < m) (hnot : listed.getD i false = false) (hdeps : ∀ j, (tdOf tds i).contains j = true → listed.getD j false = true)
    {x : Option Nat} (hx : dsts[i]? = some x) {v : Value} {υ : S} (h1 : B.rel τ υ) (h2 : Wext τ υ) (h3 : (rOf Rs i).p v υ) (h4 : G (fun k => Nat.beq k i || listed.getD k false) (putF F x v) υ) :
    DInv B σ F0 m dsts tds Rs G (listed.setIfInBounds i true) (putF F x v) υ := by
  have hil : i < listed.size := by rw [h.size]; exact hi
  have hg := getD_set hil
  have hbb : ∀ k, (Nat.beq k i || listed.getD k false) = true → k = i ∨ listed.getD k false = true := fun k hk => by
    rcases Bool.or_eq_true_iff.1 hk with e | e
    · exact .inl (Nat.eq_of_beq_eq_true e)
    · exact .inr e
  refine ⟨by simp [h.size], fun k hk j hj => ?_, B.trans h.ext h1, h.wext.trans h2, ?_, fun s hs => ?_, fun j hj d hd => ?_⟩
  · rw [hg] at hk ⊢
    rcases hbb k hk with rfl | hk'
    · simp [hdeps j hj]
    · simp [h.clos k hk' j hj]
  · have : (fun k => (listed.setIfInBounds i true).getD k false) = fun k => Nat.beq k i || listed.getD k false := funext hg
    rw [this]; exact h4
  · have hsi : x ≠ some s := by
      have := hs i (by rw [hg]; simp)
      rw [hx] at this
      simpa using this
    have hFs : F s = F0 s := h.frame s fun k hk => hs k (by rw [hg]; simp [hk])
    cases x with
    | none => exact hFs
    | some d =>
      have : Nat.beq s d = false := beq_false (fun e => hsi (by rw [e]))
      simp [putF, upd, this, hFs]
  · rw [hg] at hj
    by_cases e : j = i
    · subst e
      have hxd : x = some d := by rw [hx] at hd; simpa using hd
      subst hxd
      simpa [putF, upd] using h3
    · have hj' : listed.getD j false = true := by
        rcases hbb j hj with e' | e'
        · exact absurd e' e
        · exact e'
      have hr := (rOf Rs j).mono _ _ _ h2 (h.r j hj' d hd)
      have hne : ∀ d', x = some d' → d' ≠ d := by
        rintro d' rfl rfl
        have hdj : dsts[j]? = some (some d') := by
          cases q : dsts[j]? with
          | none => rw [q] at hd; simp at hd
          | some y => rw [q] at hd; simp at hd; rw [hd]
        have h1 := (List.all_eq_true.1 ((List.all_eq_true.1 hdup) _ (mem_zipIdx hdj))) _ (mem_zipIdx hx)
        simp only [Nat.beq_refl, Bool.not_true, Bool.or_false] at h1
        exact e (Nat.eq_of_beq_eq_true h1)
      cases x with
      | none => exact hr
      | some d' =>
        have : Nat.beq d d' = false := beq_false (fun e => hne d' rfl e.symm)
        simpa [putF, upd, this] using hr

theorem unlisted_count {m i : Nat} (hi : i < m) {D D' : Nat → Bool} (h0 : D i = false) (h1 : D' i = true) (h : ∀ k, k ≠ i → D' k = D k) :
    (List.range m).countP (fun k => !D k) = (List.range m).countP (fun k => !D' k) + 1 := by
  induction m with
  | zero => omega
  | succ m ih =>
    rw [List.range_succ, List.countP_append, List.countP_append]
    by_cases e : i = m
    · subst e
      have : (List.range i).countP (fun k => !D k) = (List.range i).countP (fun k => !D' k) := by
        apply List.countP_congr
        intro k hk
        have hk' : k < i := by simpa using hk
        rw [h k (by omega)]
      rw [this]
      simp [h0, h1]
    · have := ih (by omega)
      rw [this, show ([m] : List Nat).countP (fun k => !D' k) = [m].countP (fun k => !D k) from by simp [List.countP_cons, h m (fun e' => e e'.symm)]]
      omega

theorem wp_draw {id : Nat} {ops : List Oper} {Q : Exit → Act → World → Prop} (dsts : List (Option Nat)) (tds : List (List Nat)) (Rs : List Fct) (G : (Nat → Bool) → Fr → S → Prop)
    (hm : P.follows .mixedOrders = true) (hds : ops.map (·.dst) = dsts) (hck : tdsCheck ops tds = true) (hgc : guardCheck ops tds = true) (hG : G (fun _ => false) F0 ⟨{ σ.w with drawn := σ.w.drawn + 1 }, σ.L⟩)
    (hdup : dupCheck dsts = true)
    (hlt : (dsts.all fun x => match x with | some d => Nat.blt d n | none => true) = true)
    (hsteps : allSteps (StepOk P n B σ F0 dsts tds Rs G) ops 0)
    (hend : ∀ F τ, B.rel σ τ → Wext σ τ → G (fun k => Nat.blt k ops.length) F τ → (∀ s, dsts.contains (some s) = false → F s = F0 s) → (∀ j d, (dsts[j]?).getD none = some d → (rOf Rs j).p (F d) τ) → Q .normal (fr n F) τ.w) :
    (Code.region id ops.toArray true).wp P Q (fr n F0) σ.w := by
  have hsz : ops.toArray.size = ops.length := by simp
  have hdir : ∀ i o, ops[i]? = some o → (∀ e ∈ o.after.toList, Region.binds .any e = true → e.on < i) ∧
      (∀ j, (tdOf tds i).contains j = true → ∃ e ∈ o.after.toList, Region.binds .any e = true ∧ (e.on = j ∨ (tdOf tds e.on).contains j = true)) := by
    intro i o ho
    have h1 := (List.all_eq_true.1 hck) _ (mem_zipIdx ho)
    simp only [Bool.and_eq_true] at h1
    refine ⟨fun e he hb => ?_, fun j hj => ?_⟩
    · have := (List.all_eq_true.1 h1.1) e he
      rw [hb] at this
      simpa using blt_lt (by simpa using this)
    · have := (List.all_eq_true.1 h1.2) j (by simpa using hj)
      simp only [Bool.and_eq_true] at this
      obtain ⟨e, he, hh⟩ := List.any_eq_true.1 this.2
      simp only [Bool.and_eq_true, Bool.or_eq_true] at hh
      refine ⟨e, he, hh.1, ?_⟩
      rcases hh.2 with h | h
      · exact .inl (Nat.eq_of_beq_eq_true h)
      · exact .inr h
  have key : ∀ (fuel : Nat) (listed : Array Bool) (F : Fr) (τ : S), (List.range ops.length).countP (fun k => !(listed.getD k false)) = fuel → DInv B σ F0 ops.length dsts tds Rs G listed F τ →
      wpAny P .any ops.toArray Q fuel listed (fr n F) τ.w := by
    intro fuel
    induction fuel with
    | zero =>
      intro listed F τ hc hI
      have hall : ∀ k, k < ops.length → listed.getD k false = true := by
        intro k hk
        have := (List.countP_eq_zero.1 hc) k (by simpa using hk)
        simpa using this
      refine ⟨?_, ?_⟩
      · apply List.filter_eq_nil_iff.2
        intro k hk
        have hk' : k < ops.length := by simpa using hk
        have hk2 : k < listed.size := by rw [hI.size]; exact hk'
        have e1 : listed.getD k true = listed.getD k false := by simp [Array.getD, hk2]
        intro hh
        rw [e1, hall k hk'] at hh
        simp at hh
      · exact hend F τ hI.ext hI.wext (by
          have : (fun k => listed.getD k false) = fun k => Nat.blt k ops.length := by
            funext k
            by_cases hk : k < ops.length
            · rw [hall k hk]; symm; exact Nat.ble_eq_true_of_le hk
            · have h1 : listed.getD k false = false := by
                have : ¬ k < listed.size := by rw [hI.size]; exact hk
                simp [Array.getD, this]
              rw [h1]
              cases hb : Nat.blt k ops.length with
              | false => rfl
              | true => exact absurd (blt_lt hb) hk
          rw [← this]; exact hI.g) (fun s hs => hI.frame s fun i hi hd => by
            have hq : dsts[i]? = some (some s) := by
              cases q : dsts[i]? with
              | none => rw [q] at hd; simp at hd
              | some y => rw [q] at hd; simp at hd; rw [hd]
            have : (some s) ∈ dsts := List.mem_of_getElem? hq
            simp [this] at hs) (fun j d hd => by
              by_cases hj : j < ops.length
              · exact hI.r j (hall j hj) d hd
              · have : dsts[j]? = none := by rw [← hds]; simp; omega
                rw [this] at hd; cases hd)
    | succ fuel ih =>
      intro listed F τ hc hI
      have hready : ∀ i, i ∈ Region.ready .any ops.toArray listed ↔ ∃ o, ops[i]? = some o ∧ listed.getD i true = false ∧ ∀ e ∈ o.after.toList, Region.binds .any e = true → listed.getD e.on false = true := by
        intro i
        simp only [Region.ready, List.mem_filter, List.mem_range, List.size_toArray, Bool.and_eq_true, Bool.not_eq_true']
        constructor
        · rintro ⟨h1, h2, h3⟩
          have ho : ops[i]? = some ops[i] := List.getElem?_eq_getElem h1
          refine ⟨_, ho, h2, ?_⟩
          simp only [List.getElem?_toArray, ho, Option.map_some, Option.getD_some] at h3
          intro e he hb
          rw [Array.all_eq_true_iff_forall_mem] at h3
          have := h3 e (by simpa using he)
          rw [hb] at this
          simpa using this
        · rintro ⟨o, ho, h2, h3⟩
          refine ⟨(List.getElem?_eq_some_iff.1 ho).1, h2, ?_⟩
          simp only [List.getElem?_toArray, ho, Option.map_some, Option.getD_some]
          rw [Array.all_eq_true_iff_forall_mem]
          intro e he
          cases hb : Region.binds .any e with
          | false => rfl
          | true => simpa using h3 e (by simpa using he) hb
      have hgetD : ∀ i, i < ops.length → listed.getD i true = listed.getD i false := by
        intro i hi
        have : i < listed.size := by rw [hI.size]; exact hi
        simp [Array.getD, this]
      refine ⟨fun hnil => ?_, fun i hi => ?_⟩
      · -- somebody is always ready
        exfalso
        have hall : ∀ k, k < ops.length → listed.getD k false = true := by
          intro k
          induction k using Nat.strongRecOn with
          | _ k ihk =>
            intro hk
            cases hq : listed.getD k false with
            | true => rfl
            | false =>
              have ho : ops[k]? = some ops[k] := List.getElem?_eq_getElem hk
              have : k ∈ Region.ready .any ops.toArray listed := (hready k).2 ⟨_, ho, by rw [hgetD k hk]; exact hq, fun e he hb => by
                have := (hdir k _ ho).1 e he hb
                exact ihk e.on this (by omega)⟩
              rw [hnil] at this
              cases this
        have : (List.range ops.length).countP (fun k => !(listed.getD k false)) = 0 := List.countP_eq_zero.2 fun k hk => by
          have := hall k (by simpa using hk)
          simp [this]
        omega
      · obtain ⟨o, ho, hl, hd⟩ := (hready i).1 hi
        have hil : i < ops.length := (List.getElem?_eq_some_iff.1 ho).1
        have hnot : listed.getD i false = false := by rw [← hgetD i hil]; exact hl
        have hdx := dsts_at hds ho
        have hdeps : ∀ j, (tdOf tds i).contains j = true → listed.getD j false = true := by
          intro j hj
          obtain ⟨e, he, hb, h⟩ := (hdir i o ho).2 j hj
          have h1 := hd e he hb
          rcases h with rfl | h
          · exact h1
          · exact hI.clos _ h1 j h
        have hlater : ∀ j, (tdOf tds j).contains i = true → listed.getD j false = false := by
          intro j hj
          cases hq : listed.getD j false with
          | false => rfl
          | true => have := hI.clos j hq i hj; rw [hnot] at this; cases this
        have hframe : ∀ s, frameOk dsts tds i s = true → F s = F0 s := by
          intro s hs
          apply hI.frame
          intro k hk hdk
          have hq : dsts[k]? = some (some s) := by
            cases q : dsts[k]? with
            | none => rw [q] at hdk; simp at hdk
            | some y => rw [q] at hdk; simp at hdk; rw [hdk]
          have := (List.all_eq_true.1 hs) _ (mem_zipIdx hq)
          simp only [Nat.beq_refl, Bool.not_true, Bool.false_or, Bool.or_eq_true] at this
          rcases this with h | h
          · have := hI.clos k hk i h; rw [hnot] at this; cases this
          · have := Nat.eq_of_beq_eq_true h; subst this; rw [hnot] at hk; cases hk
        have hR : ∀ j, (tdOf tds i).contains j = true → ∀ d, (dsts[j]?).getD none = some d → (rOf Rs j).p (F d) τ := fun j hj d hd => hI.r j (hdeps j hj) d hd
        have hst := allSteps_at hsteps ho (fun k => listed.getD k false) F τ
        rw [Nat.zero_add] at hst
        have hst := hst hnot hdeps hlater hI.ext hI.wext hI.g hframe hR
        have hcount : ∀ k, (List.range ops.length).countP (fun k => !((listed.setIfInBounds i true).getD k false)) = k ↔ (List.range ops.length).countP (fun k => !(listed.getD k false)) = k + 1 := by
          intro k
          have hii : i < listed.size := by rw [hI.size]; exact hil
          have := unlisted_count hil (D := fun k => listed.getD k false) (D' := fun k => (listed.setIfInBounds i true).getD k false) hnot (by simp only [getD_set hii]; simp) (fun q hq => by simp only [getD_set hii, beq_false hq, Bool.false_or])
          omega
        have cont : ∀ a w, (∃ v υ, a = fr n (putF F o.dst v) ∧ w = υ.w ∧ B.rel τ υ ∧ Wext τ υ ∧ (rOf Rs i).p v υ ∧ G (fun k => Nat.beq k i || listed.getD k false) (putF F o.dst v) υ) →
            wpAny P .any ops.toArray Q fuel (listed.setIfInBounds i true) a w := by
          rintro a w ⟨v, υ, rfl, rfl, h1, h2, h3, h4⟩
          exact ih _ _ _ ((hcount fuel).2 hc) (hI.step hdup hil hnot hdeps hdx h1 h2 h3 h4)
        have hmonoK : ∀ {o' : Oper} , o'.guard = none → wpList P #[] (posts fun a w => ∃ v υ, a = fr n (putF F o.dst v) ∧ w = υ.w ∧ B.rel τ υ ∧ Wext τ υ ∧ (rOf Rs i).p v υ ∧ G (fun k => Nat.beq k i || listed.getD k false) (putF F o.dst v) υ) [o'] (fr n F) τ.w →
            o'.wp P (fr n F) τ.w (wpAny P .any ops.toArray Q fuel (listed.setIfInBounds i true)) Q := fun hg h => Oper.wp_mono cont (wp_of_list hg h)
        unfold wpOp
        simp only [List.getElem?_toArray, ho]
        cases hgu : o.guard with
        | none =>
          rw [hgu] at hst
          have hw : Region.wanted o (yielded ops.toArray (fr n F).tmps) = true := by simp [Region.wanted, hgu]
          rw [if_pos hw]
          exact .inl (hmonoK hgu hst)
        | some q =>
          obtain ⟨j, want⟩ := q
          rw [hgu] at hst
          have hgj := (List.all_eq_true.1 hgc) _ (mem_zipIdx ho)
          rw [hgu] at hgj
          simp only [Bool.and_eq_true] at hgj
          obtain ⟨dj, hdj⟩ := Option.isSome_iff_exists.1 hgj.2
          have hdj2 : (dsts[j]?).getD none = some dj := by
            rw [← hds, List.getElem?_map]
            simp only [dstOf] at hdj
            cases q : ops[j]? with
            | none => rw [q] at hdj; cases hdj
            | some y => rw [q] at hdj; exact hdj
          have hlt' : Nat.blt dj n = true := by
            have hmem : (some dj) ∈ dsts := by
              cases q : dsts[j]? with
              | none => rw [q] at hdj2; simp at hdj2
              | some y => rw [q] at hdj2; simp at hdj2; subst hdj2; exact List.mem_of_getElem? q
            exact (List.all_eq_true.1 hlt) _ hmem
          rcases hst with ⟨hu1, hu2, hu3⟩ | ⟨c, hc1, hc2, hc3⟩
          · have hyn : yielded ops.toArray (fr n F).tmps j = none := by
              have h : (ops.toArray[j]?).bind (·.dst) = some dj := by simpa [dstOf] using hdj
              have h2 : (fr n F).tmps[dj]? = some undef := by simp [fr, blt_lt hlt', hu1 dj hdj2]
              unfold yielded
              rw [h]
              show (match (fr n F).tmps[dj]? with | some (.bool b) => some b | _ => none) = none
              rw [h2]
              rfl
            rw [if_neg (by simp [Region.wanted, hgu, hyn])]
            rw [put_fr]
            exact cont _ _ ⟨undef, τ, rfl, rfl, B.refl _, Wext.refl _, hu2, hu3⟩
          · have hy := yields_at (F := F) hdj hlt' (hc1 dj hdj2)
            have hwe : Region.wanted o (yielded ops.toArray (fr n F).tmps) = (c == want) := by
              simp only [Region.wanted, hgu, hy]
              cases c <;> cases want <;> rfl
            rw [hwe]
            by_cases e : c = want
            · rw [if_pos (by simp [e])]
              refine .inl ?_
              have h1 := hmonoK (o' := { o with guard := none }) rfl (hc2 e)
              unfold Oper.wp at h1 ⊢
              exact h1
            · rw [if_neg (by simp [e])]
              obtain ⟨h3, h4⟩ := hc3 e
              rw [put_fr]
              exact cont _ _ ⟨undef, τ, rfl, rfl, B.refl _, Wext.refl _, h3, h4⟩
  refine wp_region_any hm ?_
  rw [hsz]
  have hcell : ∀ a : Addr, ({ σ.w with drawn := σ.w.drawn + 1 } : World).cell? a = σ.w.cell? a := fun _ => rfl
  refine key ops.length _ F0 ⟨{ σ.w with drawn := σ.w.drawn + 1 }, σ.L⟩ ?_ ⟨by simp, ?_, B.draw σ, ⟨Nat.le_refl _, fun _ _ => rfl, fun _ _ => Nat.le_refl _, fun _ _ _ _ h => h⟩, ?_, fun _ _ => rfl, ?_⟩
  · rw [List.countP_eq_length.2, List.length_range]
    intro k hk
    have : k < ops.length := by simpa using hk
    simp [Array.getD, this]
  · intro i hi
    exfalso
    revert hi
    by_cases h : i < ops.length <;> simp [Array.getD, h]
  · have : (fun k => (Array.replicate ops.length false).getD k false) = fun _ => false := by
      funext k
      by_cases h : k < ops.length <;> simp [Array.getD, h]
    rw [this]; exact hG
  · intro i hi
    exfalso
    revert hi
    by_cases h : i < ops.length <;> simp [Array.getD, h]
end
end Go.Sx
