/- Order, compaction, sorted names. No program in sight. -/
import Derived.Test.YtdipagkcdpcnbaaGreatRMapA
namespace Go.Pl
open Go Go.RowKit Go.Sx Go.Qx

/-! ### comparisons that tell elements apart -/
structure CmpOk {α : Type} (c : α → α → Int) : Prop where
  anti : ∀ a b, c b a = - c a b
  trans : ∀ a b d, c a b ≤ 0 → c b d ≤ 0 → c a d ≤ 0
  eq0 : ∀ a b, c a b = 0 → a = b
theorem tn0 {x y : Int} (h : tn x y = 0) : x = 0 ∧ y = 0 := by
  unfold tn at h
  split at h
  · rename_i e; exact ⟨e, h⟩
  · rename_i e; exact absurd h e
theorem cI0 {x y : Int} (h : cI x y = 0) : x = y := by
  rcases cI_cases x y with ⟨_, e⟩ | ⟨_, e⟩ | ⟨p, _⟩
  · omega
  · omega
  · exact p
theorem cL0 {α : Type} {c : α → α → Int} : ∀ {xs ys : List α}, (∀ x ∈ xs, ∀ y, c x y = 0 → x = y) → xs.length = ys.length → cL c xs ys = 0 → xs = ys
  | [], [], _, _, _ => rfl
  | [], _ :: _, _, h, _ => by simp at h
  | _ :: _, [], _, h, _ => by simp at h
  | x :: xs, y :: ys, hc, hl, h => by
    simp only [cL] at h
    obtain ⟨h1, h2⟩ := tn0 h
    rw [hc x (by simp) y h1, cL0 (fun z hz => hc z (by simp [hz])) (by simpa using hl) h2]
theorem cN0 {α : Type} {c : α → α → Int} {xs ys : List α} (hc : ∀ x ∈ xs, ∀ y, c x y = 0 → x = y) (h : cN c xs ys = 0) : xs = ys := by
  obtain ⟨h1, h2⟩ := tn0 h
  have := cI0 h1
  exact cL0 hc (by omega) h2
theorem c_eq0 : ∀ n : Nat, (∀ a : Val, bulkV a ≤ n → ∀ b, cV a b = 0 → a = b) ∧ (∀ a : Ent, bulkE a ≤ n → ∀ b, cE a b = 0 → a = b) := by
  intro n
  induction n using Nat.strongRecOn with
  | _ n ih =>
  refine ⟨?_, ?_⟩
  · intro a ha b h
    have hbe := bulkV_eq a
    rw [cV_eq] at h
    obtain ⟨h1, h⟩ := tn0 h
    obtain ⟨h2, h⟩ := tn0 h
    obtain ⟨h3, h⟩ := tn0 h
    obtain ⟨h4, h⟩ := tn0 h
    obtain ⟨h5, h⟩ := tn0 h
    obtain ⟨h6, h7⟩ := tn0 h
    have e1 := cI0 h1
    have e2 := cI0 h2
    have e3 := cS_eq h3
    have e4 := cN0 (fun x _ y h => cK_eq h) h4
    have e5 := cN0 (fun x hx y h => (ih (n - 1) (by omega)).1 x (by have := bulkVs_mem hx; omega) y h) h5
    have e6 := cN0 (fun x hx y h => (ih (n - 1) (by omega)).2 x (by have := bulkEs_mem hx; omega) y h) h6
    have e7 := cN0 (fun x _ y h => cS_eq h) h7
    cases a
    cases b
    simp only [Val.Kind, Val.Int_, Val.Text, Val.Kids, Val.Keys, Val.Entries, Val.Labels] at *
    subst e1; subst e2; subst e3; subst e4; subst e5; subst e6; subst e7
    rfl
  · intro a ha b h
    have hbe := bulkE_eq a
    rw [cE_eq] at h
    obtain ⟨h1, h⟩ := tn0 h
    obtain ⟨h2, h3⟩ := tn0 h
    have e1 := cN0 (fun x hx y h => (ih (n - 1) (by omega)).1 x (by have := bulkVs_mem hx; omega) y h) h1
    have e2 : a.Fails = b.Fails := by
      have := cI0 h2
      cases ha : a.Fails <;> cases hb : b.Fails <;> simp [bI, ha, hb] at this <;> rfl
    have e3 := (ih (n - 1) (by omega)).1 a.Result (by omega) b.Result h3
    cases a
    cases b
    simp only [Ent.Args, Ent.Fails, Ent.Result] at *
    subst e1; subst e2; subst e3
    rfl
theorem cS_lx (a b : ByteArray) : cS a b = lx (eS a) (eS b) := by
  have := pfS a b [] []
  simpa [lx, tn_zero] using this.symm
theorem cmpS : CmpOk cS := ⟨fun a b => by rw [cS_lx, cS_lx]; exact lx_anti _ _, fun a b d h1 h2 => by rw [cS_lx] at *; exact lx_trans _ _ _ h1 h2, fun _ _ h => cS_eq h⟩
theorem cmpE : CmpOk cE := ⟨cE_anti, fun a b d h1 h2 => by rw [cE_lx] at *; exact lx_trans _ _ _ h1 h2, fun a b h => (c_eq0 (bulkE a)).2 a (Nat.le_refl _) b h⟩
section
variable {α : Type} {c : α → α → Int} (hc : CmpOk c)
include hc
theorem CmpOk.self (a : α) : c a a = 0 := by have := hc.anti a a; omega
theorem CmpOk.strict {a b d : α} (h1 : c a b < 0) (h2 : c b d ≤ 0) : c a d < 0 := by
  have h3 := hc.trans a b d (by omega) h2
  by_cases h : c a d = 0
  · have := hc.eq0 _ _ h
    subst this
    have := hc.anti a b
    omega
  · omega
theorem CmpOk.asc_pw : ∀ l : List α, asc c l = true ↔ l.Pairwise fun a b => c a b < 0
  | [] => by simp [asc]
  | [a] => by simp [asc]
  | a :: b :: r => by
    have ih := CmpOk.asc_pw (b :: r)
    simp only [asc, Bool.and_eq_true, decide_eq_true_eq]
    rw [ih, List.pairwise_cons (a := a)]
    constructor
    · intro ⟨h1, h2⟩
      refine ⟨fun x hx => ?_, h2⟩
      rcases List.mem_cons.1 hx with rfl | hx
      · exact h1
      · have := (List.pairwise_cons.1 h2).1 x hx
        exact hc.strict h1 (by omega)
    · intro ⟨h1, h2⟩
      exact ⟨h1 b (by simp), h2⟩
theorem CmpOk.nodup {l : List α} (h : l.Pairwise fun a b => c a b < 0) : l.Nodup := h.imp fun {a b} h e => by
  subst e
  have := hc.self a
  omega
/-- Ascending rows of the same elements are one. -/
theorem CmpOk.uniq {l m : List α} (h1 : asc c l = true) (h2 : asc c m = true) (h : ∀ x, x ∈ l ↔ x ∈ m) : l = m := by
  have p1 := (hc.asc_pw l).1 h1
  have p2 := (hc.asc_pw m).1 h2
  have hp := (List.perm_ext_iff_of_nodup (hc.nodup p1) (hc.nodup p2)).2 h
  exact hp.eq_of_pairwise (le := fun a b => c a b < 0) (fun a b _ _ h1 h2 => by have := hc.anti a b; omega) p1 p2

/-! ### insertion -/
omit hc in
def insU (c : α → α → Int) (out : List α) (x : α) : List α :=
  match (out.dropWhile (fun y => decide (c y x < 0))).head? with
  | some y => if c y x = 0 then out else insAt (fun y => decide (c y x < 0)) x out
  | none => insAt (fun y => decide (c y x < 0)) x out
omit hc in
theorem insAt_iff {p : α → Bool} {x y : α} {out : List α} : y ∈ insAt p x out ↔ y = x ∨ y ∈ out := by
  constructor
  · exact insAt_mem
  · intro h
    have e := List.takeWhile_append_dropWhile (p := p) (l := out)
    simp only [insAt, List.mem_append, List.mem_singleton]
    rcases h with h | h
    · exact .inl (.inr h)
    · rw [← e] at h
      rcases List.mem_append.1 h with h | h
      · exact .inl (.inl h)
      · exact .inr h
theorem insU_iff {x y : α} {out : List α} : y ∈ insU c out x ↔ y = x ∨ y ∈ out := by
  unfold insU
  split
  · rename_i z hz
    split
    · rename_i h0
      have := hc.eq0 _ _ h0
      subst this
      have hm : z ∈ out := (List.dropWhile_sublist _).subset (List.mem_of_mem_head? hz)
      constructor
      · exact .inr
      · rintro (rfl | h)
        · exact hm
        · exact h
    · exact insAt_iff
  · exact insAt_iff
theorem insU_asc (out : List α) (x : α) (h : asc c out = true) : asc c (insU c out x) = true := by
  unfold insU
  split
  · rename_i y hy
    split
    · exact h
    · rename_i hne
      refine ins_asc c hc.anti x out h (fun z hz => ?_)
      rw [hy] at hz
      cases hz
      exact hne
  · rename_i hy
    refine ins_asc c hc.anti x out h (fun z hz => ?_)
    rw [hy] at hz; cases hz
theorem foldU : ∀ (xs out : List α), asc c out = true → asc c (xs.foldl (insU c) out) = true ∧ ∀ y, y ∈ xs.foldl (insU c) out ↔ y ∈ out ∨ y ∈ xs
  | [], out, h => ⟨h, fun y => by simp⟩
  | x :: r, out, h => by
    obtain ⟨h1, h2⟩ := foldU r (insU c out x) (insU_asc hc out x h)
    refine ⟨h1, fun y => ?_⟩
    rw [List.foldl_cons, h2, insU_iff hc, List.mem_cons]
    constructor
    · rintro ((h | h) | h)
      · exact .inr (.inl h)
      · exact .inl h
      · exact .inr (.inr h)
    · rintro (h | h | h)
      · exact .inl (.inr h)
      · exact .inl (.inl h)
      · exact .inr h
theorem setU (xs : List α) : asc c (xs.foldl (insU c) []) = true ∧ ∀ y, y ∈ xs.foldl (insU c) [] ↔ y ∈ xs := by
  obtain ⟨h1, h2⟩ := foldU hc xs [] rfl
  exact ⟨h1, fun y => by rw [h2]; simp⟩

/-! ### repeats struck -/
omit hc in
def dd (r : α → α → Bool) : α → List α → List α
  | _, [] => []
  | p, x :: l => if r x p = true then dd r x l else x :: dd r x l
omit hc in
def cmpct (r : α → α → Bool) : List α → List α
  | [] => []
  | x :: l => x :: dd r x l
theorem dd_ok : ∀ (l : List α) (p : α), (p :: l).Pairwise (fun a b => ¬ c b a < 0) →
    (p :: dd (fun x y => decide (c x y = 0)) p l).Pairwise (fun a b => c a b < 0) ∧ ∀ y, y ∈ p :: dd (fun x y => decide (c x y = 0)) p l ↔ y ∈ p :: l
  | [], p, _ => ⟨by simp [dd], fun y => by simp [dd]⟩
  | x :: l, p, h => by
    have hp := List.pairwise_cons.1 h
    obtain ⟨h1, h2⟩ := dd_ok l x hp.2
    simp only [dd]
    by_cases h0 : c x p = 0
    · rw [if_pos (by simpa using h0)]
      have := hc.eq0 _ _ h0
      subst this
      refine ⟨h1, fun y => ?_⟩
      rw [h2]
      simp
    · rw [if_neg (by simpa using h0)]
      have hlt : c p x < 0 := by have := hp.1 x (by simp); have := hc.anti p x; omega
      refine ⟨List.pairwise_cons.2 ⟨fun b hb => ?_, h1⟩, fun y => ?_⟩
      · rcases List.mem_cons.1 hb with rfl | hb
        · exact hlt
        · exact hc.strict hlt (by have := (List.pairwise_cons.1 h1).1 b hb; omega)
      · rw [List.mem_cons, h2, List.mem_cons (b := p)]
theorem cmpct_ok (l : List α) (h : l.Pairwise fun a b => ¬ c b a < 0) : asc c (cmpct (fun x y => decide (c x y = 0)) l) = true ∧ ∀ y, y ∈ cmpct (fun x y => decide (c x y = 0)) l ↔ y ∈ l := by
  cases l with
  | nil => exact ⟨rfl, fun y => Iff.rfl⟩
  | cons p l =>
    obtain ⟨h1, h2⟩ := dd_ok hc l p h
    exact ⟨(hc.asc_pw _).2 h1, h2⟩
/-- Sorted and rid of repeats, or inserted one by one: one row. -/
theorem sort_is_ins {xs p : List α} (hp : p.Perm xs) (hs : p.Pairwise fun a b => ¬ c b a < 0) : cmpct (fun x y => decide (c x y = 0)) p = xs.foldl (insU c) [] := by
  obtain ⟨h1, h2⟩ := cmpct_ok hc p hs
  obtain ⟨h3, h4⟩ := setU hc xs
  exact hc.uniq h1 h3 fun y => by rw [h2, h4, hp.mem_iff]
end
theorem insE_U : insE = insU cE := by
  funext out x
  unfold insE insU
  cases (out.dropWhile (fun y => decide (cE y x < 0))).head? <;> rfl

/-! ### the compaction as it is done: in place -/
section
variable {α : Type} {r : α → α → Bool}
/-- The inner loop: what is kept is moved to the front. -/
theorem pack_loopM {ok : α → Prop} {step : (Int × Int) × List α → Option (Fl ((Int × Int) × List α) (Int × List α))} (i0 n : Nat)
    (hst : ∀ (i k : Nat) (s : List α) (x y : α), ok x → s.length = n → i0 + k < n → 1 ≤ k → i < i0 + k → s[i0 + k]? = some x → s[i0 + k - 1]? = some y →
      step (((i : Int), (k : Int)), s) = some (.next (if r x y = true then (((i : Int), ((k + 1 : Nat) : Int)), s) else ((((i + 1 : Nat) : Int), ((k + 1 : Nat) : Int)), s.set i x))))
    (hend : ∀ (i : Int) (k : Nat) (s : List α), s.length = n → i0 + k = n → step ((i, (k : Int)), s) = some (.done (i, s))) :
    ∀ (m i k : Nat) (s : List α) (y : α) (fuel : Nat), s.length = n → i0 + k + m = n → 1 ≤ k → i < i0 + k → s[i0 + k - 1]? = some y → m + 1 ≤ fuel → (∀ x ∈ s, ok x) →
      ∃ s', iter step fuel (((i : Int), (k : Int)), s) = some (((i + (dd r y (s.drop (i0 + k))).length : Nat) : Int), s') ∧ s'.length = n ∧ s'.take (i + (dd r y (s.drop (i0 + k))).length) = s.take i ++ dd r y (s.drop (i0 + k)) := by
  intro m
  induction m with
  | zero =>
    intro i k s y fuel hl hm hk hi hy hf hok
    obtain ⟨fuel, rfl⟩ : ∃ m, fuel = m + 1 := ⟨fuel - 1, by omega⟩
    have e : s.drop (i0 + k) = [] := List.drop_eq_nil_of_le (by omega)
    rw [e]
    refine ⟨s, ?_, hl, ?_⟩
    · simp only [iter, hend (i : Int) k s hl (by omega), Option.bind_some]
      rfl
    · simp [dd]
  | succ m ih =>
    intro i k s y fuel hl hm hk hi hy hf hok
    obtain ⟨fuel, rfl⟩ : ∃ m, fuel = m + 1 := ⟨fuel - 1, by omega⟩
    have hlt : i0 + k < s.length := by omega
    have hx := List.getElem?_eq_getElem hlt
    rw [List.drop_eq_getElem_cons hlt]
    simp only [dd]
    simp only [iter, hst i k s _ y (hok _ (List.getElem_mem hlt)) hl (by omega) hk hi hx hy, Option.bind_some]
    by_cases h : r s[i0 + k] y = true
    · rw [if_pos h, if_pos h]
      have := ih i (k + 1) s s[i0 + k] fuel hl (by omega) (by omega) (by omega) (by rw [show i0 + (k + 1) - 1 = i0 + k by omega]; exact hx) (by omega) hok
      rw [show i0 + (k + 1) = i0 + k + 1 by omega] at this
      exact this
    · rw [if_neg h, if_neg h]
      have hd : (s.set i s[i0 + k]).drop (i0 + k + 1) = s.drop (i0 + k + 1) := by
        rw [List.drop_set_of_lt (by omega)]
      have := ih (i + 1) (k + 1) (s.set i s[i0 + k]) s[i0 + k] fuel (by rw [List.length_set]; exact hl) (by omega) (by omega) (by omega) (by
        rw [show i0 + (k + 1) - 1 = i0 + k by omega]
        by_cases e : i = i0 + k
        · omega
        · rw [List.getElem?_set_ne e]; exact hx) (by omega) (fun z hz => by
        rcases List.mem_or_eq_of_mem_set hz with hz | rfl
        · exact hok z hz
        · exact hok _ (List.getElem_mem hlt))
      rw [show i0 + (k + 1) = i0 + k + 1 by omega, hd] at this
      obtain ⟨s', h1, h2, h3⟩ := this
      refine ⟨s', ?_, h2, ?_⟩
      · rw [h1, List.length_cons]
        congr 3
        omega
      · rw [List.length_cons, show i + ((dd r s[i0 + k] (s.drop (i0 + k + 1))).length + 1) = i + 1 + (dd r s[i0 + k] (s.drop (i0 + k + 1))).length by omega, h3]
        have e : (s.set i s[i0 + k]).take (i + 1) = s.take i ++ [s[i0 + k]] := by
          rw [take_next (x := s[i0 + k]) (by rw [List.getElem?_set_self (by omega)]), List.take_set_of_le (Nat.le_refl _)]
        rw [e, List.append_assoc]
        rfl
theorem dd_len : ∀ (l : List α) (p : α), (dd r p l).length ≤ l.length
  | [], _ => Nat.le_refl _
  | x :: l, p => by
    have := dd_len l x
    simp only [dd]
    split
    · simp only [List.length_cons]; omega
    · simp only [List.length_cons]; omega
/-- Up to the first repeat nothing is struck. -/
theorem cmpct_split : ∀ (a : List α) (p : α) (l : List α), (∀ (i : Nat) (x y : α), (a ++ [p])[i + 1]? = some x → (a ++ [p])[i]? = some y → r x y = false) → cmpct r (a ++ p :: l) = a ++ p :: dd r p l
  | [], p, l, _ => rfl
  | x :: a, p, l, h => by
    have h2 := cmpct_split a p l (fun i u v h1 h2 => h (i + 1) u v (by simpa using h1) (by simpa using h2))
    cases a with
    | nil =>
      have h0 := h 0 p x rfl rfl
      show x :: dd r x (p :: l) = _
      simp [dd, h0]
    | cons y a =>
      have h0 := h 0 y x rfl rfl
      show x :: dd r x (y :: (a ++ p :: l)) = _
      simp only [dd, h0, Bool.false_eq_true, if_false]
      have h2' : y :: dd r y (a ++ p :: l) = y :: a ++ p :: dd r p l := h2
      rw [h2']
      rfl
end
end Go.Pl
namespace Go.Pl
open Go Go.RowKit Go.Sx Go.Qx

theorem strEq_cS (x y : ByteArray) : strEq x y = decide (cS x y = 0) := by
  rcases str_tells x y with ⟨_, h, e⟩ | ⟨_, h, e⟩ | ⟨_, h, e⟩ <;> simp [h, e]
theorem strLt_cS (x y : ByteArray) : strLt x y = decide (cS x y < 0) := by
  rcases str_tells x y with ⟨h, _, e⟩ | ⟨h, _, e⟩ | ⟨h, _, e⟩ <;> simp [h, e]
theorem sorted_step (l out : List ByteArray) (i : Nat) (x : ByteArray) (hx : l[i]? = some x) (hl : out.length ≤ 4194304) (hi : i ≤ 4194304) :
    semtyperef1_Sorted_l2 l (out, (i : Int)) = some (.next (insU cS out x, ((i + 1 : Nat) : Int))) := by
  have hlt : i < l.length := (List.getElem?_eq_some_iff.1 hx).1
  have hix : idx l (i : Int) = some x := idx_at hx
  unfold semtyperef1_Sorted_l2
  simp only [natLen]
  rw [pos_ok (step := semtyperef1_Sorted_l1 l (out, (i : Int))) out (fun y => decide (cS y x < 0)) ?_ ?_]
  · simp only [bite, wr64]
    rw [if_pos (by simp; omega)]
    simp only [Option.bind_some, hix]
    have hk := tw_len (fun y => decide (cS y x < 0)) out
    have hat := tw_at (fun y => decide (cS y x < 0)) out
    have go : (Option.bind (cut out 0 ((out.takeWhile (fun y => decide (cS y x < 0))).length : Int)) fun u => Option.bind (room (0 + u.length) 16) fun _ =>
      Option.bind (room (u.length + [x].length) 16) fun _ => Option.bind (cut out ((out.takeWhile (fun y => decide (cS y x < 0))).length : Int) (out.length : Int)) fun w =>
      Option.bind (room ((u ++ [x]).length + w.length) 16) fun _ => some ((u ++ [x]) ++ w)) = some (insAt (fun y => decide (cS y x < 0)) x out) :=
      ins_go out x _ 16 (by omega) hl (fun l => some l)
    rw [w64_succ i (by omega), go]
    unfold insU
    cases hh : (out.dropWhile (fun y => decide (cS y x < 0))).head? with
    | none =>
      rw [hh] at hat
      have hge := List.getElem?_eq_none_iff.1 hat
      rw [if_neg (by simp; omega)]
      rfl
    | some y =>
      rw [hh] at hat
      have hlt2 := (List.getElem?_eq_some_iff.1 hat).1
      rw [if_pos (by simp; omega), idx_at hat]
      simp only [Option.bind_some, strEq_cS]
      by_cases h0 : cS y x = 0
      · rw [if_pos (by simp [h0]), if_pos h0]
        rfl
      · rw [if_neg (by simp [h0]), if_neg h0]
        rfl
  · intro j y hy
    have hj : j < out.length := (List.getElem?_eq_some_iff.1 hy).1
    unfold semtyperef1_Sorted_l1
    simp only [bite, wr64]
    rw [if_pos (by simp; omega), idx_at hy, hix]
    simp only [Option.bind_some, strLt_cS, w64_succ j (by omega)]
    by_cases h : cS y x < 0 <;> simp [h]
  · unfold semtyperef1_Sorted_l1
    simp
theorem insU_len {α : Type} (c : α → α → Int) (out : List α) (x : α) : (insU c out x).length ≤ out.length + 1 := by
  unfold insU
  split
  · split
    · omega
    · rw [insAt_len]; omega
  · rw [insAt_len]; omega
theorem sorted_ok (l : List ByteArray) (hl : l.length ≤ 4194304) : semtyperef1_Sorted l = some (l.foldl (insU cS) []) := by
  unfold semtyperef1_Sorted
  have key := iter_fold (σ := List ByteArray) (step := semtyperef1_Sorted_l2 l) l (fun s i => (s, (i : Int))) (insU cS) (fun i s => s.length ≤ i) (fun s => s)
    ?_ ?_ [] (by simp) _ (Nat.le_refl _)
  · have e : iter (semtyperef1_Sorted_l2 l) (l.length + 1) (([] : List ByteArray), 0) = iter (semtyperef1_Sorted_l2 l) (l.length + 1) (([] : List ByteArray), ((0 : Nat) : Int)) := rfl
    rw [natLen, e, key]
    rfl
  · intro i s x hx hI
    have hi : i < l.length := (List.getElem?_eq_some_iff.1 hx).1
    refine ⟨sorted_step l s i x hx (by omega) (by omega), ?_⟩
    have := insU_len cS s x
    omega
  · intro s _
    unfold semtyperef1_Sorted_l2
    simp

/-! ### entries -/
theorem bulkStrs_app (a b : List ByteArray) : bulkStrs (a ++ b) = bulkStrs a + bulkStrs b := by
  induction a with
  | nil => simp [bulkStrs]
  | cons x r ih => simp only [List.cons_append, bulkStrs, ih]; omega
theorem insU_bulk (out : List ByteArray) (x : ByteArray) : bulkStrs (insU cS out x) ≤ bulkStrs out + bulkStr x := by
  have hk : ∀ p : ByteArray → Bool, bulkStrs (insAt p x out) = bulkStrs out + bulkStr x := fun p => by
    have e := congrArg bulkStrs (List.takeWhile_append_dropWhile (p := p) (l := out))
    rw [bulkStrs_app] at e
    simp only [insAt, bulkStrs_app, bulkStrs]
    omega
  unfold insU
  split
  · split
    · omega
    · rw [hk]; omega
  · rw [hk]; omega
theorem foldU_bulk : ∀ (l out : List ByteArray), bulkStrs (l.foldl (insU cS) out) ≤ bulkStrs out + bulkStrs l
  | [], out => by simp [bulkStrs]
  | x :: r, out => by
    have h1 := foldU_bulk r (insU cS out x)
    have h2 := insU_bulk out x
    simp only [List.foldl_cons, bulkStrs]
    omega
end Go.Pl
