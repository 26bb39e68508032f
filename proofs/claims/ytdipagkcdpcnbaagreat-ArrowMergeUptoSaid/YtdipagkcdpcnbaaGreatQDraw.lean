/- The symbolic executor: regions in order, regions in a drawn order. -/
import Derived.Test.YtdipagkcdpcnbaaGreatQRun
namespace Go.Qx
open Go Go.RowKit Go.Sx

section
variable {I : TypeId → Type} [∀ E, Rp (I E)] {P : Program} {tb : Tab I} {disp : Disp I} {all : List Oper} {tds : List (List Nat)} {X : Cxt} {c c' : Cx} {σ τ : S} {n : Nat}

/-! ### one operation -/
def posts (K : Act → World → Prop) : Exit → Act → World → Prop
  | .normal, a, w => K a w
  | _, _, _ => False
theorem wp_of_list {o : Oper} (hg : o.guard = none) {a : Act} {w : World} {K : Act → World → Prop} {Q : Exit → Act → World → Prop} (h : wpList P #[] (posts K) [o] a w) : o.wp P a w K Q := by
  have hw : Region.wanted o (yielded #[] a.tmps) = true := by simp [Region.wanted, hg]
  simp only [wpList, hw, if_true] at h
  rcases h with h | ⟨_, a', w', hf⟩
  · unfold Oper.wp at h ⊢
    generalize (execOp a.eval o).run P w = r at *
    cases r with
    | ok nx w' =>
      cases nx <;> simp only [Oper.upon] at h ⊢ <;>
        first
          | exact h
          | exact Calls.mono h (fun e w'' he => by
              cases e with
              | returned v => exact he
              | panicked ch => exact he.elim
              | outgrown => obtain ⟨_, _, hf⟩ := he; exact hf.elim)
          | exact Rows.mono h (fun _ _ he => he)
    | halt x w' => cases x <;> simp only [Oper.upon] at h ⊢ <;> first | exact h | exact h.elim
  · exact hf.elim
theorem yields_at {ops : List Oper} {F : Fr} {j d : Nat} {b : Bool} (hd : dstOf ops j = some d) (hlt : Nat.blt d n = true) (hF : F d = .bool b) : yielded ops.toArray (fr n F).tmps j = some b := by
  have h : (ops.toArray[j]?).bind (·.dst) = some d := by simpa [dstOf] using hd
  have h2 : (fr n F).tmps[d]? = some (.bool b) := by simp [fr, blt_lt hlt, hF]
  unfold yielded
  rw [h]
  show (match (fr n F).tmps[d]? with | some (.bool b) => some b | _ => none) = some b
  rw [h2]
theorem wanted_at {F : Fr} {o : Oper} {j d : Nat} {want b : Bool} (hg : o.guard = some (j, want)) (hd : dstOf all j = some d) (hlt : Nat.blt d n = true) (hF : F d = .bool b) :
    Region.wanted o (yielded all.toArray (fr n F).tmps) = (b == want) := by
  have hy := yields_at (F := F) hd hlt hF
  simp only [Region.wanted, hg, hy]
  cases b <;> cases want <;> rfl
theorem wanted_undef {F : Fr} {o : Oper} {j d : Nat} {want : Bool} (hg : o.guard = some (j, want)) (hd : dstOf all j = some d) (hlt : Nat.blt d n = true) (hF : F d = undef) :
    Region.wanted o (yielded all.toArray (fr n F).tmps) = false := by
  have hyn : yielded all.toArray (fr n F).tmps j = none := by
    have h : (all.toArray[j]?).bind (·.dst) = some d := by simpa [dstOf] using hd
    have h2 : (fr n F).tmps[d]? = some undef := by simp [fr, blt_lt hlt, hF]
    unfold yielded
    rw [h]
    show (match (fr n F).tmps[d]? with | some (.bool b) => some b | _ => none) = none
    rw [h2]
    rfl
  simp [Region.wanted, hg, hyn]
omit [∀ E, Rp (I E)] in
theorem resF_some {F : Nat → Option (PV I)} {ts : List Nat} {i : Nat} {p : PV I} (h : resF F ts i = some p) : F i = some p := by
  unfold resF at h
  cases hm : memN i ts with
  | true => rw [hm] at h; exact h
  | false => rw [hm] at h; cases h
omit [∀ E, Rp (I E)] in
theorem resO_some {O : Obs I} {ls : List Nat} {i : Nat} {o : Option (Ob I)} (h : resO O ls i = some o) : O i = some o := by
  unfold resO at h
  cases hm : memN i ls with
  | true => rw [hm] at h; exact h
  | false => rw [hm] at h; cases h
theorem putF_keep {F : Fr} {d : Option Nat} {v : Value} {j : Nat} (h : d ≠ some j) : putF F d v j = F j := by
  cases d with
  | none => rfl
  | some d =>
    have : Nat.beq j d = false := Sx.beq_false (fun e => h (by rw [e]))
    simp [putF, upd, this]
/-- An operation that is wanted. -/
theorem op_on (ht : TabOk P tb) (hd : DispOk P disp) (hX : X.P = P) {s : St I} {F : Fr} (h : Rel X c σ s n F) {i : Nat} {o : Oper} {e : Ef I} (hx : effS tb disp s i o some = some e) (hok : okE s i e = true)
    {ops : Array Oper} {Q : Exit → Act → World → Prop} {rest : List Oper}
    (hk : ∀ c' τ F', Cx.le c c' → Rel X c' τ (apS s i o e) n F' → Stp X.M σ τ → (∀ j, o.dst ≠ some j → F' j = F j) → wpList P ops Q rest (fr n F') τ.w) : wpList P ops Q ({ o with guard := none } :: rest) (fr n F) σ.w := by
  unfold effS at hx
  obtain ⟨_, hx⟩ := bif_some hx
  simp only [okE, Bool.and_eq_true] at hok
  rw [h.len] at hx
  exact snd (o := { o with guard := none }) ht hd h hX (fun _ _ hp => resF_some hp) (fun _ _ ho => resO_some ho) rfl hx hok.2 fun v τ c' k1 k2 k3 k4 => hk c' τ _ k1 (k2.put o.dst e.p v k3) k4 fun j hj => putF_keep hj
/-- An operation, its guard looked at. -/
theorem op_ok (ht : TabOk P tb) (hd : DispOk P disp) (hX : X.P = P) {s : St I} {F : Fr} (h : Rel X c σ s n F) {i : Nat} {o : Oper} {r : Option (Ef I)} (hx : eff1 tb disp all s i o = some r) (hok : ok1 s i r = true) :
    (∃ e, r = some e ∧ effS tb disp s i o some = some e ∧ Region.wanted o (yielded all.toArray (fr n F).tmps) = true) ∨ (r = none ∧ Region.wanted o (yielded all.toArray (fr n F).tmps) = false) := by
  have hmap : (effS tb disp s i o some).map some = some r → ∃ e, r = some e ∧ effS tb disp s i o some = some e := fun h => by
    cases he : effS tb disp s i o some with
    | none => rw [he] at h; cases h
    | some e => rw [he] at h; cases h; exact ⟨e, rfl, rfl⟩
  unfold eff1 at hx
  split at hx
  · rename_i hg
    obtain ⟨e, h1, h2⟩ := hmap hx
    exact .inl ⟨e, h1, h2, by simp [Region.wanted, hg]⟩
  · rename_i j want hg
    replace hx := bind_some hx
    obtain ⟨dj, hdj, hx⟩ := hx
    replace hx := bif_some hx
    obtain ⟨hlt, hx⟩ := hx
    rw [h.len] at hlt
    split at hx
    · rename_i hl
      have hF := h.frame _ _ hl
      simp only [RV] at hF
      cases hx
      exact .inr ⟨rfl, wanted_undef hg hdj hlt hF⟩
    · rename_i b hl
      have hF := h.frame _ _ hl
      simp only [RV] at hF
      have hw := wanted_at (o := o) hg hdj hlt hF
      cases hbw : (b == want) with
      | true =>
        rw [hbw] at hx hw
        obtain ⟨e, h1, h2⟩ := hmap hx
        exact .inl ⟨e, h1, h2, hw⟩
      | false =>
        rw [hbw] at hx hw
        cases hx
        exact .inr ⟨rfl, hw⟩
    · cases hx
theorem wpList_on {ops : Array Oper} {Q : Exit → Act → World → Prop} {o : Oper} {rest : List Oper} {a : Act} {w : World} (hw : Region.wanted o (yielded ops a.tmps) = true) (h : wpList P ops Q ({ o with guard := none } :: rest) a w) : wpList P ops Q (o :: rest) a w := by
  have hw' : Region.wanted { o with guard := none } (yielded ops a.tmps) = true := by simp [Region.wanted]
  simp only [wpList, hw', if_true] at h
  simp only [wpList, hw, if_true]
  obtain ⟨d, op, ty, pos, aft, g⟩ := o
  rcases h with h | h
  · refine .inl ?_
    unfold Oper.wp at h ⊢
    exact h
  · exact .inr h
theorem wpList_off {ops : Array Oper} {Q : Exit → Act → World → Prop} {o : Oper} {rest : List Oper} {a : Act} {w : World} (hw : Region.wanted o (yielded ops a.tmps) = false) (h : wpList P ops Q rest (a.put o.dst undef) w) : wpList P ops Q (o :: rest) a w := by
  simp only [wpList, hw]
  exact h
/-- A region in its listed order. -/
theorem flat_seq (ht : TabOk P tb) (hd : DispOk P disp) (hX : X.P = P) {Q : Exit → Act → World → Prop} {post : List Oper} {s s' : St I} {l : List (Nat × Oper)} {es : Acc} (h : Flat1 tb disp all s l s' es) :
    ∀ (c : Cx) (σ : S) (F : Fr), Rel X c σ s n F → (∀ c' τ F', Cx.le c c' → Rel X c' τ s' n F' → Stp X.M σ τ → (∀ j, isDst l j = false → F' j = F j) → wpList P all.toArray Q post (fr n F') τ.w) → wpList P all.toArray Q (l.map (·.2) ++ post) (fr n F) σ.w := by
  induction h with
  | nil s => exact fun c σ F hr hk => hk c σ F (Cx.le_refl c) hr (Stp.refl _ _) fun _ _ => rfl
  | cons s i o r rest s' es h1 h2 h3 ih =>
    intro c σ F hr hk
    rcases op_ok ht hd hX hr h1 h2 with ⟨e, rfl, he, hw⟩ | ⟨rfl, hw⟩
    · exact wpList_on hw (op_on ht hd hX hr he h2 fun c' τ F' k1 k2 k3 k4 => ih c' τ F' k2 fun c2 υ F2 m1 m2 m3 m4 => hk c2 υ F2 (Cx.le_trans k1 m1) m2 (k3.trans m3) fun j hj => (m4 j (isDst_cons hj).2).trans (k4 j (isDst_cons hj).1))
    · refine wpList_off hw ?_
      rw [put_fr]
      exact ih c σ _ (hr.put o.dst .undef undef (by simp only [RV])) fun c2 υ F2 m1 m2 m3 m4 => hk c2 υ F2 m1 m2 m3 fun j hj => (m4 j (isDst_cons hj).2).trans (putF_keep (isDst_cons hj).1)

/-! ### operations that change places -/
theorem mem_rng : ∀ {m nb l : Nat}, l ∈ rng nb m ↔ nb ≤ l ∧ l < nb + m
  | 0, nb, l => by simp [rng]
  | m + 1, nb, l => by
    simp only [rng, List.mem_cons, mem_rng]
    omega
def tr (nb : Nat) (e : Ef I) (O : Obs I) : Obs I := addO (apU O e.upd) nb e.new
def wOf (nb : Nat) (e : Ef I) : List Nat := keysU e.upd ++ rng nb e.new.length
omit [∀ E, Rp (I E)] in
theorem apU_out : ∀ {u : List (Nat × Option (Ob I))} {O : Obs I} {l : Nat}, l ∉ keysU u → apU O u l = O l
  | [], _, _, _ => rfl
  | x :: r, O, l, h => by
    simp only [keysU, List.map_cons, List.mem_cons, not_or] at h
    simp only [apU]
    rw [apU_out (u := r) h.2, upF_ne h.1]
omit [∀ E, Rp (I E)] in
theorem apU_in : ∀ {u : List (Nat × Option (Ob I))} {O O' : Obs I} {l : Nat}, l ∈ keysU u → apU O u l = apU O' u l ∧ apU O u l ≠ none
  | [], _, _, _, h => by simp [keysU] at h
  | x :: r, O, O', l, h => by
    simp only [apU]
    by_cases hr : l ∈ keysU r
    · exact apU_in hr
    · simp only [keysU, List.map_cons, List.mem_cons] at h
      have e : l = x.1 := h.resolve_right hr
      rw [apU_out hr, apU_out hr, e, upF_self, upF_self]
      exact ⟨rfl, by simp⟩
omit [∀ E, Rp (I E)] in
theorem addO_out : ∀ {os : List (Ob I)} {O : Obs I} {nb l : Nat}, l ∉ rng nb os.length → addO O nb os l = O l
  | [], _, _, _, _ => rfl
  | o :: os, O, nb, l, h => by
    simp only [List.length_cons, rng, List.mem_cons, not_or] at h
    simp only [addO]
    rw [addO_out h.2, upF_ne h.1]
omit [∀ E, Rp (I E)] in
theorem addO_in : ∀ {os : List (Ob I)} {O O' : Obs I} {nb l : Nat}, l ∈ rng nb os.length → addO O nb os l = addO O' nb os l ∧ addO O nb os l ≠ none
  | [], _, _, _, _, h => by simp [rng] at h
  | o :: os, O, O', nb, l, h => by
    simp only [addO]
    by_cases hr : l ∈ rng (nb + 1) os.length
    · exact addO_in hr
    · simp only [List.length_cons, rng, List.mem_cons] at h
      have e : l = nb := h.resolve_right hr
      rw [addO_out hr, addO_out hr, e, upF_self, upF_self]
      exact ⟨rfl, by simp⟩
omit [∀ E, Rp (I E)] in
theorem tr_out {nb : Nat} {e : Ef I} {O : Obs I} {l : Nat} (h : l ∉ wOf nb e) : tr nb e O l = O l := by
  simp only [wOf, List.mem_append, not_or] at h
  simp only [tr]
  rw [addO_out h.2, apU_out h.1]
omit [∀ E, Rp (I E)] in
theorem tr_in {nb : Nat} {e : Ef I} {O O' : Obs I} {l : Nat} (h : l ∈ wOf nb e) : tr nb e O l = tr nb e O' l ∧ tr nb e O l ≠ none := by
  simp only [tr]
  by_cases hr : l ∈ rng nb e.new.length
  · exact addO_in hr
  · rw [addO_out hr, addO_out hr]
    simp only [wOf, List.mem_append] at h
    exact apU_in (h.resolve_right hr)
omit [∀ E, Rp (I E)] in
theorem tr_comm {na nb : Nat} {a b : Ef I} (h : ∀ x ∈ wOf na a, x ∉ wOf nb b) (O : Obs I) : tr na a (tr nb b O) = tr nb b (tr na a O) := by
  funext l
  by_cases ha : l ∈ wOf na a
  · rw [tr_out (h l ha)]
    exact (tr_in ha).1
  · rw [tr_out ha]
    by_cases hb : l ∈ wOf nb b
    · exact (tr_in hb).1
    · rw [tr_out hb, tr_out hb, tr_out ha]
omit [∀ E, Rp (I E)] in
theorem freeN_iff : ∀ {os : List (Ob I)} {O : Obs I} {nb : Nat}, freeN O nb os = true ↔ ∀ l ∈ rng nb os.length, O l = none
  | [], _, _ => by simp [freeN, rng]
  | _ :: os, O, nb => by
    simp only [freeN, Bool.and_eq_true, freeN_iff, List.length_cons, rng, List.mem_cons, Option.isNone_iff_eq_none]
    constructor
    · rintro ⟨h1, h2⟩ l (rfl | h)
      · exact h1
      · exact h2 l h
    · exact fun h => ⟨h _ (.inl rfl), fun l hl => h l (.inr hl)⟩
/-- States that an operation cannot tell apart. -/
theorem eff1_same {s s' : St I} {i : Nat} {o : Oper} (hn : s'.n = s.n) (hx : s'.nx = s.nx) (hF : ∀ t ∈ rdOf all o, s'.F t = s.F t) (hO : ∀ l ∈ touchO s.F s.O o.op, s'.O l = s.O l) :
    eff1 tb disp all s' i o = eff1 tb disp all s i o ∧ touchO s'.F s'.O o.op = touchO s.F s.O o.op := by
  have hFs : ∀ t ∈ slotsOf o.op, s'.F t = s.F t := fun t ht => hF t (by simp [rdOf, ht])
  have e1 : numsF s'.F (slotsOf o.op) = numsF s.F (slotsOf o.op) := numsF_eq hFs
  have hnest : ∀ {l : List Nat}, (∀ x ∈ l, s'.O x = s.O x) → nest s'.O l = nest s.O l := by
    intro l
    induction l with
    | nil => exact fun _ => rfl
    | cons x r ih => exact fun h => by simp only [nest]; rw [h x (by simp), ih fun y hy => h y (by simp [hy])]
  have e4 : touchO s'.F s'.O o.op = touchO s.F s.O o.op := by
    unfold touchO at hO ⊢
    cases hno : noObj o.op with
    | true => rfl
    | false =>
      rw [hno] at hO
      simp only [cond_false] at hO ⊢
      have hO' := hO
      simp only [touch, List.mem_append] at hO'
      have e2 : nest s'.O (numsF s.F (slotsOf o.op)) = nest s.O (numsF s.F (slotsOf o.op)) := hnest fun x hx => hO' x (.inl (.inl hx))
      have e3 : nest s'.O (numsF s.F (slotsOf o.op) ++ nest s.O (numsF s.F (slotsOf o.op))) = nest s.O (numsF s.F (slotsOf o.op) ++ nest s.O (numsF s.F (slotsOf o.op))) := hnest fun x hx => hO' x (.inl (List.mem_append.1 hx))
      simp only [touch, e1, e2, e3]
  have e5 : resO s'.O (touchO s.F s.O o.op) = resO s.O (touchO s.F s.O o.op) := by
    funext l
    simp only [resO]
    cases hm : memN l (touchO s.F s.O o.op)
    · rfl
    · exact hO l (memN_iff.1 hm)
  have e6 : (slotsOf o.op).all (fun t => (s'.F t).isSome) = (slotsOf o.op).all (fun t => (s.F t).isSome) := by
    rw [Bool.eq_iff_iff, List.all_eq_true, List.all_eq_true]
    exact ⟨fun h t ht => by rw [← hFs t ht]; exact h t ht, fun h t ht => by rw [hFs t ht]; exact h t ht⟩
  have e7 : effS tb disp s' i o (some : Ef I → Option (Ef I)) = effS tb disp s i o some := by
    simp only [effS, e4, e5, e6, resF_eq hFs, nbOf, hn, hx]
  refine ⟨?_, e4⟩
  simp only [eff1, e7, hn]
  split
  · rfl
  · rename_i j want hg
    cases hd : dstOf all j with
    | none => rfl
    | some dj =>
      simp only [Option.bind_some]
      rw [hF dj (by simp [rdOf, hg, hd])]
omit [∀ E, Rp (I E)] in
theorem upF_comm {α : Type} {F : Nat → Option α} {a b : Nat} {p q : α} (h : a ≠ b) : upF (upF F a p) b q = upF (upF F b q) a p := by
  funext i
  by_cases e1 : i = a
  · subst e1
    rw [upF_ne h, upF_self, upF_self]
  · by_cases e2 : i = b
    · subst e2
      rw [upF_self, upF_ne e1, upF_self]
    · rw [upF_ne e2, upF_ne e1, upF_ne e1, upF_ne e2]
def pOf : Option (Ef I) → PV I
  | some e => e.p
  | none => .undef
def trO (nb : Nat) : Option (Ef I) → Obs I → Obs I
  | some e, O => tr nb e O
  | none, O => O
def wO (nb : Nat) : Option (Ef I) → List Nat
  | some e => wOf nb e
  | none => []
omit [∀ E, Rp (I E)] in
theorem ap1_F (s : St I) (i : Nat) (o : Oper) (r : Option (Ef I)) : (ap1 s i o r).F = (match o.dst with | some d => upF s.F d (pOf r) | none => s.F) := by
  cases r <;> simp only [ap1, apS, put] <;> cases o.dst <;> rfl
omit [∀ E, Rp (I E)] in
theorem ap1_O (s : St I) (i : Nat) (o : Oper) (r : Option (Ef I)) : (ap1 s i o r).O = trO (nbOf s i) r s.O := by
  cases r <;> simp only [ap1, apS, put] <;> cases o.dst <;> rfl
omit [∀ E, Rp (I E)] in
theorem ap1_n (s : St I) (i : Nat) (o : Oper) (r : Option (Ef I)) : (ap1 s i o r).n = s.n ∧ (ap1 s i o r).nx = s.nx := by
  cases r <;> simp only [ap1, apS, put] <;> cases o.dst <;> exact ⟨rfl, rfl⟩
omit [∀ E, Rp (I E)] in
theorem trO_out {nb : Nat} {r : Option (Ef I)} {O : Obs I} {l : Nat} (h : l ∉ wO nb r) : trO nb r O l = O l := by
  cases r
  · rfl
  · exact tr_out h
omit [∀ E, Rp (I E)] in
theorem trO_in {nb : Nat} {r : Option (Ef I)} {O : Obs I} {l : Nat} (h : l ∈ wO nb r) : trO nb r O l ≠ none := by
  cases r
  · simp [wO] at h
  · exact (tr_in (O' := O) h).2
omit [∀ E, Rp (I E)] in
theorem inf1_W (s : St I) (i : Nat) (o : Oper) (r : Option (Ef I)) : (inf1 s i o r).W = wO (nbOf s i) r := by
  cases r <;> rfl
omit [∀ E, Rp (I E)] in
theorem inf1_T (s : St I) (i : Nat) (o : Oper) (e : Ef I) : (inf1 s i o (some e)).T = some (touchO s.F s.O o.op) := rfl
omit [∀ E, Rp (I E)] in
theorem ok1_iff (s : St I) (i : Nat) (r : Option (Ef I)) : ok1 s i r = true ↔ ∀ e, r = some e → e.new.length ≤ 8 ∧ ∀ l ∈ rng (nbOf s i) e.new.length, apU s.O e.upd l = none := by
  cases r with
  | none => simp [ok1]
  | some e =>
    simp only [ok1, okE, Bool.and_eq_true, freeN_iff]
    constructor
    · rintro ⟨h1, h2⟩ e' he
      cases he
      exact ⟨Nat.le_of_ble_eq_true h1, h2⟩
    · exact fun h => ⟨Nat.ble_eq_true_of_le (h e rfl).1, (h e rfl).2⟩
theorem dstIn_false {d : Option Nat} {l : List Nat} (h : dstIn d l = false) : ∀ x, d = some x → x ∉ l := fun x e => by
  subst e
  exact memN_false.1 h
omit [∀ E, Rp (I E)] in
theorem F_keep {s : St I} {i : Nat} {o : Oper} {r : Option (Ef I)} {t : Nat} (h : ∀ x, o.dst = some x → x ≠ t) : (ap1 s i o r).F t = s.F t := by
  rw [ap1_F]
  cases hd : o.dst with
  | none => rfl
  | some d => exact upF_ne (Ne.symm (h d hd))
theorem flat_swap {s : St I} {a i : Nat} {oa oi : Oper} {ra ri : Option (Ef I)} (ha : eff1 tb disp all s a oa = some ra) (hka : ok1 s a ra = true) (hi : eff1 tb disp all (ap1 s a oa ra) i oi = some ri) (hki : ok1 (ap1 s a oa ra) i ri = true)
    (hc : comp (inf1 s a oa ra) (inf1 (ap1 s a oa ra) i oi ri) = true) (hs : slotComp all oa oi = true) :
    eff1 tb disp all s i oi = some ri ∧ ok1 s i ri = true ∧ inf1 s i oi ri = inf1 (ap1 s a oa ra) i oi ri ∧ eff1 tb disp all (ap1 s i oi ri) a oa = some ra ∧ ok1 (ap1 s i oi ri) a ra = true ∧
      inf1 (ap1 s i oi ri) a oa ra = inf1 s a oa ra ∧ ap1 (ap1 s i oi ri) a oa ra = ap1 (ap1 s a oa ra) i oi ri := by
  obtain ⟨n1, x1⟩ := ap1_n s a oa ra
  obtain ⟨n2, x2⟩ := ap1_n s i oi ri
  have nb1 : nbOf (ap1 s a oa ra) i = nbOf s i := by simp only [nbOf, x1]
  have nb2 : nbOf (ap1 s i oi ri) a = nbOf s a := by simp only [nbOf, x2]
  simp only [comp, Bool.and_eq_true, inf1_W, nb1] at hc
  obtain ⟨⟨hWW, hWT⟩, hWT2⟩ := hc
  rw [disj_iff] at hWW
  simp only [slotComp, Bool.and_eq_true, Bool.not_eq_true'] at hs
  obtain ⟨⟨hs1, hs2⟩, hs3⟩ := hs
  have d1 := dstIn_false hs1
  have d2 := dstIn_false hs2
  have d3 := dstIn_false hs3
  have same1 : eff1 tb disp all s i oi = some ri ∧ inf1 s i oi ri = inf1 (ap1 s a oa ra) i oi ri := by
    cases ri with
    | none =>
      refine ⟨?_, rfl⟩
      -- the operation is skipped: only its guard is looked at
      unfold eff1 at hi ⊢
      split at hi
      · rename_i hg
        cases he : effS tb disp (ap1 s a oa ra) i oi (some : Ef I → Option (Ef I)) with
        | none => rw [he] at hi; cases hi
        | some e => rw [he] at hi; cases hi
      · rename_i j want hg
        replace hi := bind_some hi
        obtain ⟨dj, hdj, hi⟩ := hi
        rw [n1, F_keep (t := dj) (fun x hx e => by subst e; exact d1 x hx (by simp [rdOf, hg, hdj]))] at hi
        simp only [hdj, Option.bind_some]
        obtain ⟨hlt, hi⟩ := bif_some hi
        rw [hlt]
        simp only [cond_true]
        split at hi
        · rfl
        · rename_i b hb
          cases hbw : (b == want) with
          | true =>
            rw [hbw] at hi
            simp only [cond_true] at hi
            cases he : effS tb disp (ap1 s a oa ra) i oi (some : Ef I → Option (Ef I)) with
            | none => rw [he] at hi; cases hi
            | some e => rw [he] at hi; cases hi
          | false => rfl
        · cases hi
    | some e =>
      rw [inf1_T] at hWT
      simp only [disjT] at hWT
      rw [disj_iff] at hWT
      obtain ⟨h1, h2⟩ := eff1_same (tb := tb) (disp := disp) (all := all) (s := ap1 s a oa ra) (s' := s) (i := i) (o := oi) n1.symm x1.symm
        (fun t ht => (F_keep fun x hx e => by subst e; exact d1 x hx ht).symm) (fun l hl => by rw [ap1_O]; exact (trO_out fun hm => hWT l hm hl).symm)
      refine ⟨h1.trans hi, ?_⟩
      simp only [inf1, infE, h2, nb1]
  have same2 : eff1 tb disp all (ap1 s i oi ri) a oa = some ra ∧ inf1 (ap1 s i oi ri) a oa ra = inf1 s a oa ra := by
    cases ra with
    | none =>
      refine ⟨?_, rfl⟩
      unfold eff1 at ha ⊢
      split at ha
      · rename_i hg
        cases he : effS tb disp s a oa (some : Ef I → Option (Ef I)) with
        | none => rw [he] at ha; cases ha
        | some e => rw [he] at ha; cases ha
      · rename_i j want hg
        replace ha := bind_some ha
        obtain ⟨dj, hdj, ha⟩ := ha
        simp only [hdj, Option.bind_some]
        rw [n2, F_keep (t := dj) (fun x hx e => by subst e; exact d2 x hx (by simp [rdOf, hg, hdj]))]
        obtain ⟨hlt, ha⟩ := bif_some ha
        rw [hlt]
        simp only [cond_true]
        split at ha
        · rfl
        · rename_i b hb
          cases hbw : (b == want) with
          | true =>
            rw [hbw] at ha
            simp only [cond_true] at ha
            cases he : effS tb disp s a oa (some : Ef I → Option (Ef I)) with
            | none => rw [he] at ha; cases ha
            | some e => rw [he] at ha; cases ha
          | false => rfl
        · cases ha
    | some e =>
      rw [inf1_T] at hWT2
      simp only [disjT] at hWT2
      rw [disj_iff] at hWT2
      obtain ⟨h1, h2⟩ := eff1_same (tb := tb) (disp := disp) (all := all) (s := s) (s' := ap1 s i oi ri) (i := a) (o := oa) n2 x2
        (fun t ht => F_keep fun x hx e => by subst e; exact d2 x hx ht) (fun l hl => by rw [ap1_O]; exact trO_out fun hm => hWT2 l hm hl)
      refine ⟨h1.trans ha, ?_⟩
      simp only [inf1, infE, h2, nb2]
  refine ⟨same1.1, (ok1_iff _ _ _).2 fun e he => ?_, same1.2, same2.1, (ok1_iff _ _ _).2 fun e he => ?_, same2.2, ?_⟩
  · obtain ⟨h1, h2⟩ := (ok1_iff _ _ _).1 hki e he
    refine ⟨h1, fun l hl => ?_⟩
    have h3 := h2 l (by rw [nb1]; exact hl)
    by_cases hm : l ∈ keysU e.upd
    · exact absurd h3 (apU_in (O' := s.O) hm).2
    · rw [apU_out hm] at h3 ⊢
      rw [ap1_O] at h3
      by_cases hw : l ∈ wO (nbOf s a) ra
      · exact absurd h3 (trO_in hw)
      · rw [trO_out hw] at h3; exact h3
  · subst he
    obtain ⟨h1, h2⟩ := (ok1_iff _ _ _).1 hka e rfl
    refine ⟨h1, fun l hl => ?_⟩
    rw [nb2] at hl
    have h3 := h2 l hl
    by_cases hm : l ∈ keysU e.upd
    · exact absurd h3 (apU_in (O' := s.O) hm).2
    · rw [apU_out hm] at h3 ⊢
      rw [ap1_O, trO_out]
      · exact h3
      · exact hWW l (by simp [wO, wOf, hl])
  · have hF : (ap1 (ap1 s i oi ri) a oa ra).F = (ap1 (ap1 s a oa ra) i oi ri).F := by
      rw [ap1_F, ap1_F, ap1_F, ap1_F]
      cases hda : oa.dst with
      | none => cases oi.dst <;> rfl
      | some da =>
        cases hdi : oi.dst with
        | none => rfl
        | some di =>
          have : da ≠ di := by
            have := d3 da hda
            rw [hdi] at this
            simpa using this
          exact (upF_comm this).symm
    have hO : (ap1 (ap1 s i oi ri) a oa ra).O = (ap1 (ap1 s a oa ra) i oi ri).O := by
      rw [ap1_O, ap1_O, ap1_O, ap1_O, nb1, nb2]
      cases ra with
      | none => rfl
      | some ea =>
        cases ri with
        | none => rfl
        | some ei => exact tr_comm hWW s.O
    have hn : (ap1 (ap1 s i oi ri) a oa ra).n = (ap1 (ap1 s a oa ra) i oi ri).n := by rw [(ap1_n _ _ _ _).1, n2, (ap1_n _ _ _ _).1, n1]
    have hx : (ap1 (ap1 s i oi ri) a oa ra).nx = (ap1 (ap1 s a oa ra) i oi ri).nx := by rw [(ap1_n _ _ _ _).2, x2, (ap1_n _ _ _ _).2, x1]
    generalize ap1 (ap1 s i oi ri) a oa ra = u at *
    generalize ap1 (ap1 s a oa ra) i oi ri = v at *
    obtain ⟨u1, u2, u3, u4⟩ := u
    obtain ⟨v1, v2, v3, v4⟩ := v
    simp only at hF hO hn hx
    subst hF
    subst hO
    subst hn
    subst hx
    rfl
end
end Go.Qx
