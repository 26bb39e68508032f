/- What the compaction, the sorted names and the sorted entries are. No program in sight. -/
import Derived.Test.YtamfhohifmbjnaaGreatRLabA
namespace Go.Pl
open Go Go.RowKit Go.Sx Go.Qx

section
variable {α : Type} {r : α → α → Bool}
theorem find_loop {step : List α × Int → Option (Fl (List α × Int) (Sum (List α) (List α × List α)))} (s : List α) (hl : 1 ≤ s.length)
    (hst : ∀ (i : Nat) (x y : α), 1 ≤ i → s[i]? = some x → s[i - 1]? = some y → r x y = false → step (s, (i : Int)) = some (.next (s, ((i + 1 : Nat) : Int))))
    (hhit : ∀ (i : Nat) (x y : α), 1 ≤ i → s[i]? = some x → s[i - 1]? = some y → r x y = true → ∃ q, step (s, (i : Int)) = some (.done (.inr (q, s.take i ++ dd r x (s.drop (i + 1))))))
    (hend : step (s, (s.length : Int)) = some (.done (.inl s))) :
    (iter step (s.length + 1) (s, 1) = some (.inl s) ∧ cmpct r s = s) ∨ ∃ q, iter step (s.length + 1) (s, 1) = some (.inr (q, cmpct r s)) := by
  have key : ∀ (m i fuel : Nat), i + m = s.length → 1 ≤ i → m + 1 ≤ fuel → (∀ j : Nat, (hj : j + 1 < s.length) → j + 1 < i → r s[j + 1] (s[j]'(by omega)) = false) →
      (iter step fuel (s, (i : Int)) = some (.inl s) ∧ cmpct r s = s) ∨ ∃ q, iter step fuel (s, (i : Int)) = some (.inr (q, cmpct r s)) := by
    intro m
    induction m with
    | zero =>
      intro i fuel hm hi hf hok
      obtain ⟨fuel, rfl⟩ : ∃ m, fuel = m + 1 := ⟨fuel - 1, by omega⟩
      have e : i = s.length := by omega
      subst e
      left
      refine ⟨by simp only [iter, hend, Option.bind_some], ?_⟩
      have h1 : s.length - 1 < s.length := by omega
      have hs : s = s.take (s.length - 1) ++ s[s.length - 1] :: [] := by
        have := take_next (List.getElem?_eq_getElem h1)
        rw [show s.length - 1 + 1 = s.length by omega, List.take_length] at this
        exact this
      have hc := cmpct_split (r := r) (s.take (s.length - 1)) s[s.length - 1] [] (by
        rw [← hs]
        intro j x y h1 h2
        have hj := (List.getElem?_eq_some_iff.1 h1).1
        rw [List.getElem?_eq_getElem hj] at h1
        rw [List.getElem?_eq_getElem (by omega)] at h2
        cases h1; cases h2
        exact hok j hj (by omega))
      rw [← hs] at hc
      rw [hc]
      exact hs.symm
    | succ m ih =>
      intro i fuel hm hi hf hok
      obtain ⟨fuel, rfl⟩ : ∃ m, fuel = m + 1 := ⟨fuel - 1, by omega⟩
      have hlt : i < s.length := by omega
      have hlt2 : i - 1 < s.length := by omega
      have hx := List.getElem?_eq_getElem hlt
      have hy := List.getElem?_eq_getElem hlt2
      by_cases h : r s[i] s[i - 1] = true
      · right
        obtain ⟨q, hq⟩ := hhit i _ _ hi hx hy h
        refine ⟨q, ?_⟩
        simp only [iter, hq, Option.bind_some]
        have hs : s = s.take (i - 1) ++ s[i - 1] :: s[i] :: s.drop (i + 1) := by
          have e1 := List.take_append_drop (i - 1) s
          have e2 := List.drop_eq_getElem_cons hlt2
          have e3 := List.drop_eq_getElem_cons hlt
          rw [show i - 1 + 1 = i by omega, e3] at e2
          rw [← e2]
          exact e1.symm
        have hc := cmpct_split (r := r) (s.take (i - 1)) s[i - 1] (s[i] :: s.drop (i + 1)) (by
          have e : s.take (i - 1) ++ [s[i - 1]] = s.take i := by
            have := take_next hy
            rw [show i - 1 + 1 = i by omega] at this
            exact this.symm
          rw [e]
          intro j x y h1 h2
          have hj := (List.getElem?_eq_some_iff.1 h1).1
          have hj' : j + 1 < i := by rw [List.length_take] at hj; omega
          rw [List.getElem?_take_of_lt hj', List.getElem?_eq_getElem (by omega)] at h1
          rw [List.getElem?_take_of_lt (by omega), List.getElem?_eq_getElem (by omega)] at h2
          cases h1; cases h2
          exact hok j (by omega) hj')
        rw [← hs] at hc
        rw [hc]
        have e : s.take i = s.take (i - 1) ++ [s[i - 1]] := by
          have := take_next hy
          rw [show i - 1 + 1 = i by omega] at this
          exact this
        rw [e, List.append_assoc]
        simp only [dd, h, if_true]
        rfl
      · have h' : r s[i] s[i - 1] = false := by simpa using h
        simp only [iter, hst i _ _ hi hx hy h', Option.bind_some]
        refine ih (i + 1) fuel (by omega) (by omega) (by omega) (fun j hj hji => ?_)
        by_cases e : j + 1 < i
        · exact hok j hj e
        · have : j + 1 = i := by omega
          subst this
          exact h'
  exact key (s.length - 1) 1 (s.length + 1) (by omega) (Nat.le_refl _) (by omega) (fun j _ h => by omega)
theorem cut_end {β γ : Type} (z : α) (j n : Nat) (s' T : List α) (hl : s'.length = n) (hj : j < n) (ht : s'.take j = T) :
    ∃ q, (Option.bind (idx s' (j : Int)) fun _ => bif Nat.blt (j : Int).toNat s'.length then (Option.bind (cut (s'.take (j : Int).toNat ++ List.replicate (s'.length - (j : Int).toNat) z) 0 (j : Int)) fun y =>
      some (Fl.done (Sum.inr (s'.take (j : Int).toNat ++ List.replicate (s'.length - (j : Int).toNat) z, y)) : Fl β (Sum γ (List α × List α)))) else none) = some (.done (.inr (q, T))) := by
  refine ⟨s'.take j ++ List.replicate (s'.length - j) z, ?_⟩
  have e : (j : Int).toNat = j := by omega
  rw [idx_at (List.getElem?_eq_getElem (show j < s'.length by omega)), e]
  simp only [Option.bind_some]
  have eb : Nat.blt j s'.length = true := by simp [Nat.blt]; omega
  rw [eb, cut_lo _ (by simp; omega)]
  simp only [cond_true, Option.bind_some]
  rw [List.take_append_of_le_length (by simp; omega), List.take_take, Nat.min_self, ht]
end

/-! ### names -/
theorem strEq_cS (x y : ByteArray) : strEq x y = decide (cS x y = 0) := by
  rcases str_tells x y with ⟨_, h, e⟩ | ⟨_, h, e⟩ | ⟨_, h, e⟩ <;> simp [h, e]
theorem strLt_cS (x y : ByteArray) : strLt x y = decide (cS x y < 0) := by
  rcases str_tells x y with ⟨h, _, e⟩ | ⟨h, _, e⟩ | ⟨h, _, e⟩ <;> simp [h, e]
abbrev sameS (x y : ByteArray) : Bool := decide (cS x y = 0)
theorem w64_less (n : Nat) (h : n ≤ 4611686018427387904) (h1 : 1 ≤ n) : w64 ((n : Int) - 1) = ((n - 1 : Nat) : Int) := by rw [w64_id (by omega) (by omega)]; omega
theorem packS (s0 : List ByteArray) (i0 n : Nat) (hn : n ≤ 4194304) (i k : Nat) (s : List ByteArray) (x y : ByteArray) (hl : s.length = n) (hk : i0 + k < n) (h1 : 1 ≤ k) (hi : i < i0 + k) (hx : s[i0 + k]? = some x) (hy : s[i0 + k - 1]? = some y) :
    slices_Compact_string_string_l1 (s0, (i0 : Int)) (((i : Int), (k : Int)), s) = some (.next (if sameS x y = true then (((i : Int), ((k + 1 : Nat) : Int)), s) else ((((i + 1 : Nat) : Int), ((k + 1 : Nat) : Int)), s.set i x))) := by
  unfold slices_Compact_string_string_l1
  simp only [bite, wr64, Int.toNat_natCast]
  have hdl : (s.drop i0).length = n - i0 := by rw [List.length_drop, hl]
  rw [if_pos (decide_eq_true (by show (k : Int) < (((s.drop i0).length : Nat) : Int); rw [hdl]; omega)), w64_succ i (by omega), w64_succ k (by omega), w64_less k (by omega) h1]
  simp only [Int.toNat_natCast]
  have a1 : idx (s.drop i0) (k : Int) = some x := idx_at (by rw [List.getElem?_drop]; exact hx)
  have a2 : idx (s.drop i0) ((k - 1 : Nat) : Int) = some y := idx_at (by rw [List.getElem?_drop, show i0 + (k - 1) = i0 + k - 1 by omega]; exact hy)
  have a3 : idx s (i : Int) = some (s[i]'(by omega)) := idx_at (List.getElem?_eq_getElem (by omega))
  rw [a1, a2, a3, hx, show i0 + (k - 1) = i0 + k - 1 by omega, hy, List.getElem?_eq_getElem (show i < s.length by omega)]
  simp only [Option.bind_some]
  rw [strEq_cS]
  by_cases h : cS x y = 0 <;> simp [sameS, h]
theorem compactS_ok (l : List ByteArray) (hl : l.length ≤ 4194304) : slices_Compact_string_string l = some (cmpct sameS l) := by
  unfold slices_Compact_string_string
  by_cases h2 : (l.length : Int) < 2
  · have e : decide ((l.length : Int) < 2) = true := by simpa using h2
    rw [e]
    match l, h2 with
    | [], _ => rfl
    | [_], _ => rfl
    | _ :: _ :: _, h => exact absurd h (by simp; omega)
  · have e : decide ((l.length : Int) < 2) = false := by simpa using h2
    rw [e, natLen]
    simp only [cond_false]
    have key := find_loop (r := sameS) (step := slices_Compact_string_string_l2) l (by omega) ?_ ?_ ?_
    · rcases key with ⟨h, hc⟩ | ⟨q, h⟩
      · rw [h, hc]; rfl
      · rw [h]; rfl
    · intro i x y hi hx hy hr
      have hlt : i < l.length := (List.getElem?_eq_some_iff.1 hx).1
      unfold slices_Compact_string_string_l2
      simp only [bite, wr64, Int.toNat_natCast]
      rw [if_pos (by simp; omega), w64_less i (by omega) hi, idx_at hx, idx_at hy]
      simp only [Int.toNat_natCast, hx, hy, Option.bind_some]
      rw [strEq_cS]
      have hr' : decide (cS x y = 0) = false := hr
      rw [hr', w64_succ i (by omega)]
      rfl
    · intro i x y hi hx hy hr
      have hlt : i < l.length := (List.getElem?_eq_some_iff.1 hx).1
      unfold slices_Compact_string_string_l2
      simp only [bite, wr64, Int.toNat_natCast]
      rw [if_pos (by simp; omega), w64_less i (by omega) hi, idx_at hx, idx_at hy]
      simp only [Int.toNat_natCast, hx, hy, Option.bind_some]
      rw [strEq_cS]
      have hr' : decide (cS x y = 0) = true := hr
      rw [hr', if_pos rfl]
      obtain ⟨s', e1, e2, e3⟩ := pack_loop (r := sameS) (step := slices_Compact_string_string_l1 (l, (i : Int))) i l.length (fun i' k s x y a1 a2 a3 a4 a5 a6 => packS l i l.length hl i' k s x y a1 a2 a3 a4 a5 a6)
        (fun i' k s a1 a2 => by
          unfold slices_Compact_string_string_l1
          simp only [Int.toNat_natCast]
          have : decide ((k : Int) < (((s.drop i).length : Nat) : Int)) = false := by rw [List.length_drop]; simp; omega
          rw [this]
          rfl) (l.length - (i + 1)) i 1 l x ((l.drop i).length + 1) rfl (by omega) (Nat.le_refl _) (by omega) (by simpa using hx) (by rw [List.length_drop]; omega)
      have e1' : iter (slices_Compact_string_string_l1 (l, (i : Int))) ((l.drop i).length + 1) (((i : Int), 1), l) = _ := e1
      rw [e1']
      simp only [Option.bind_some, ← bite]
      have hd := dd_len (r := sameS) (l.drop (i + 1)) x
      rw [List.length_drop] at hd
      exact cut_end (⟨#[]⟩ : ByteArray) _ l.length s' _ e2 (by omega) e3
    · unfold slices_Compact_string_string_l2
      simp
theorem cBs_le : ∀ a b : List UInt8, a ≤ b → cBs a b ≤ 0
  | [], [], _ => by simp [cBs]
  | [], _ :: _, _ => by simp [cBs]
  | _ :: _, [], h => absurd h (by simp)
  | x :: xs, y :: ys, h => by
    simp only [cBs]
    rw [List.cons_le_cons_iff] at h
    rcases h with h | ⟨h, h2⟩
    · rcases cI_cases (x.toNat : Int) (y.toNat : Int) with ⟨_, e⟩ | ⟨p, _⟩ | ⟨p, _⟩
      · rw [e]; simp [tn]
      · have := UInt8.lt_iff_toNat_lt.1 h; omega
      · have := UInt8.lt_iff_toNat_lt.1 h; omega
    · subst h
      have ih := cBs_le xs ys h2
      rcases cI_cases (x.toNat : Int) (x.toNat : Int) with ⟨_, e⟩ | ⟨_, _⟩ | ⟨_, e⟩
      · omega
      · omega
      · rw [e, zero_tn]; exact ih
theorem sortS_srtd (l : List ByteArray) : (l.mergeSort fun x y => decide (x.data.toList ≤ y.data.toList)).Pairwise fun a b => ¬ cS b a < 0 := by
  refine (List.pairwise_mergeSort (le := fun x y : ByteArray => decide (x.data.toList ≤ y.data.toList)) (fun a b c h1 h2 => ?_) (fun a b => ?_) l).imp fun {a b} h => ?_
  · simp only [decide_eq_true_eq] at *
    exact List.le_trans h1 h2
  · simp only [Bool.or_eq_true, decide_eq_true_eq]
    exact List.le_total _ _
  · simp only [decide_eq_true_eq] at h
    have h1 : cS a b ≤ 0 := cBs_le _ _ h
    have := cmpS.anti a b
    omega
theorem labsV_ok (l : List ByteArray) (hl : l.length ≤ 4194304) : (Option.bind (cloneF 16 l) fun r2 => Option.bind (sortStr r2) fun r3 => Option.bind (slices_Compact_string_string r3.2) fun r4 => slices_Clip_string_string r4) = some (l.foldl (insU cS) []) := by
  unfold cloneF
  rw [room_ok (by omega)]
  simp only [Option.bind_some]
  unfold sortStr sortStrG
  have e : decide (l.length < 4611686018427387904) = true := by simp; omega
  rw [e]
  simp only [cond_true, Option.bind_some]
  have hp := List.mergeSort_perm l fun x y : ByteArray => decide (x.data.toList ≤ y.data.toList)
  rw [compactS_ok _ (by rw [hp.length_eq]; exact hl)]
  simp only [Option.bind_some]
  unfold slices_Clip_string_string
  have := sort_is_ins cmpS hp (sortS_srtd l)
  rw [show cmpct (fun x y => decide (cS x y = 0)) = cmpct sameS from rfl] at this
  rw [this]
  simp
theorem sorted_step (l out : List ByteArray) (i : Nat) (x : ByteArray) (hx : l[i]? = some x) (hl : out.length ≤ 4194304) (hi : i ≤ 4194304) :
    semtyperef1_Sorted_l2 l (out, (i : Int)) = some (.next (insU cS out x, ((i + 1 : Nat) : Int))) := by
  have hlt : i < l.length := (List.getElem?_eq_some_iff.1 hx).1
  have hix : idx l (i : Int) = some x := idx_at hx
  unfold semtyperef1_Sorted_l2
  simp only [natLen]
  rw [pos_ok (step := semtyperef1_Sorted_l1 l (out, (i : Int))) out (fun y => decide (cS y x < 0)) ?_ ?_]
  · simp only [bite, wr64]
    rw [if_pos (by simp; omega)]
    simp only [Option.bind_some, hix]
    have hk := tw_len (fun y => decide (cS y x < 0)) out
    have hat := tw_at (fun y => decide (cS y x < 0)) out
    have go : (Option.bind (cut out 0 ((out.takeWhile (fun y => decide (cS y x < 0))).length : Int)) fun u => Option.bind (room (0 + u.length) 16) fun _ =>
      Option.bind (room (u.length + [x].length) 16) fun _ => Option.bind (cut out ((out.takeWhile (fun y => decide (cS y x < 0))).length : Int) (out.length : Int)) fun w =>
      Option.bind (room ((u ++ [x]).length + w.length) 16) fun _ => some ((u ++ [x]) ++ w)) = some (insAt (fun y => decide (cS y x < 0)) x out) :=
      ins_go out x _ 16 (by omega) hl (fun l => some l)
    rw [w64_succ i (by omega), go]
    unfold insU
    cases hh : (out.dropWhile (fun y => decide (cS y x < 0))).head? with
    | none =>
      rw [hh] at hat
      have hge := List.getElem?_eq_none_iff.1 hat
      rw [if_neg (by simp; omega)]
      rfl
    | some y =>
      rw [hh] at hat
      have hlt2 := (List.getElem?_eq_some_iff.1 hat).1
      rw [if_pos (by simp; omega), idx_at hat]
      simp only [Option.bind_some, strEq_cS]
      by_cases h0 : cS y x = 0
      · rw [if_pos (by simp [h0]), if_pos h0]
        rfl
      · rw [if_neg (by simp [h0]), if_neg h0]
        rfl
  · intro j y hy
    have hj : j < out.length := (List.getElem?_eq_some_iff.1 hy).1
    unfold semtyperef1_Sorted_l1
    simp only [bite, wr64]
    rw [if_pos (by simp; omega), idx_at hy, hix]
    simp only [Option.bind_some, strLt_cS, w64_succ j (by omega)]
    by_cases h : cS y x < 0 <;> simp [h]
  · unfold semtyperef1_Sorted_l1
    simp
theorem insU_len {α : Type} (c : α → α → Int) (out : List α) (x : α) : (insU c out x).length ≤ out.length + 1 := by
  unfold insU
  split
  · split
    · omega
    · rw [insAt_len]; omega
  · rw [insAt_len]; omega
theorem sorted_ok (l : List ByteArray) (hl : l.length ≤ 4194304) : semtyperef1_Sorted l = some (l.foldl (insU cS) []) := by
  unfold semtyperef1_Sorted
  have key := iter_fold (σ := List ByteArray) (step := semtyperef1_Sorted_l2 l) l (fun s i => (s, (i : Int))) (insU cS) (fun i s => s.length ≤ i) (fun s => s)
    ?_ ?_ [] (by simp) _ (Nat.le_refl _)
  · have e : iter (semtyperef1_Sorted_l2 l) (l.length + 1) (([] : List ByteArray), 0) = iter (semtyperef1_Sorted_l2 l) (l.length + 1) (([] : List ByteArray), ((0 : Nat) : Int)) := rfl
    rw [natLen, e, key]
    rfl
  · intro i s x hx hI
    have hi : i < l.length := (List.getElem?_eq_some_iff.1 hx).1
    refine ⟨sorted_step l s i x hx (by omega) (by omega), ?_⟩
    have := insU_len cS s x
    omega
  · intro s _
    unfold semtyperef1_Sorted_l2
    simp

/-! ### entries -/
abbrev sameE (x y : Ent) : Bool := decide (cE x y = 0)
theorem packE (t : Ent → Ent → Option Bool) (s0 : List Ent) (i0 n : Nat) (hn : n ≤ 4194304) (i k : Nat) (s : List Ent) (x y : Ent) (ht : t x y = some (sameE x y)) (hl : s.length = n) (hk : i0 + k < n) (h1 : 1 ≤ k) (hi : i < i0 + k) (hx : s[i0 + k]? = some x) (hy : s[i0 + k - 1]? = some y) :
    slices_CompactFunc_api_Entry_api_Entry_l1 t (s0, (i0 : Int)) (((i : Int), (k : Int)), s) = some (.next (if sameE x y = true then (((i : Int), ((k + 1 : Nat) : Int)), s) else ((((i + 1 : Nat) : Int), ((k + 1 : Nat) : Int)), s.set i x))) := by
  unfold slices_CompactFunc_api_Entry_api_Entry_l1
  simp only [bite, wr64, Int.toNat_natCast]
  have hdl : (s.drop i0).length = n - i0 := by rw [List.length_drop, hl]
  rw [if_pos (decide_eq_true (by show (k : Int) < (((s.drop i0).length : Nat) : Int); rw [hdl]; omega)), w64_succ i (by omega), w64_succ k (by omega), w64_less k (by omega) h1]
  simp only [Int.toNat_natCast]
  have a1 : idx (s.drop i0) (k : Int) = some x := idx_at (by rw [List.getElem?_drop]; exact hx)
  have a2 : idx (s.drop i0) ((k - 1 : Nat) : Int) = some y := idx_at (by rw [List.getElem?_drop, show i0 + (k - 1) = i0 + k - 1 by omega]; exact hy)
  have a3 : idx s (i : Int) = some (s[i]'(by omega)) := idx_at (List.getElem?_eq_getElem (by omega))
  rw [a1, a2, a3, hx, show i0 + (k - 1) = i0 + k - 1 by omega, hy, List.getElem?_eq_getElem (show i < s.length by omega)]
  simp only [Option.bind_some, ht]
  by_cases h : cE x y = 0 <;> simp [sameE, h]
theorem compactE_ok (t : Ent → Ent → Option Bool) (l : List Ent) (hl : l.length ≤ 4194304) (ht : ∀ x ∈ l, ∀ y, t x y = some (sameE x y)) : slices_CompactFunc_api_Entry_api_Entry l t = some (cmpct sameE l) := by
  unfold slices_CompactFunc_api_Entry_api_Entry
  by_cases h2 : (l.length : Int) < 2
  · have e : decide ((l.length : Int) < 2) = true := by simpa using h2
    rw [e]
    match l, h2 with
    | [], _ => rfl
    | [_], _ => rfl
    | _ :: _ :: _, h => exact absurd h (by simp; omega)
  · have e : decide ((l.length : Int) < 2) = false := by simpa using h2
    rw [e, natLen]
    simp only [cond_false]
    have key := find_loop (r := sameE) (step := slices_CompactFunc_api_Entry_api_Entry_l2 t) l (by omega) ?_ ?_ ?_
    · rcases key with ⟨h, hc⟩ | ⟨q, h⟩
      · rw [h, hc]; rfl
      · rw [h]; rfl
    · intro i x y hi hx hy hr
      have hlt : i < l.length := (List.getElem?_eq_some_iff.1 hx).1
      unfold slices_CompactFunc_api_Entry_api_Entry_l2
      simp only [bite, wr64, Int.toNat_natCast]
      rw [if_pos (by simp; omega), w64_less i (by omega) hi, idx_at hx, idx_at hy]
      simp only [Int.toNat_natCast, hx, hy, Option.bind_some]
      rw [ht x (List.mem_of_getElem? hx), hr, w64_succ i (by omega)]
      rfl
    · intro i x y hi hx hy hr
      have hlt : i < l.length := (List.getElem?_eq_some_iff.1 hx).1
      unfold slices_CompactFunc_api_Entry_api_Entry_l2
      simp only [bite, wr64, Int.toNat_natCast]
      rw [if_pos (by simp; omega), w64_less i (by omega) hi, idx_at hx, idx_at hy]
      simp only [Int.toNat_natCast, hx, hy, Option.bind_some]
      rw [ht x (List.mem_of_getElem? hx), hr]
      simp only [Option.bind_some, if_true]
      obtain ⟨s', e1, e2, e3⟩ := pack_loopM (r := sameE) (ok := fun x => x ∈ l) (step := slices_CompactFunc_api_Entry_api_Entry_l1 t (l, (i : Int))) i l.length (fun i' k s x y a0 a1 a2 a3 a4 a5 a6 => packE t l i l.length hl i' k s x y (ht x a0 y) a1 a2 a3 a4 a5 a6)
        (fun i' k s a1 a2 => by
          unfold slices_CompactFunc_api_Entry_api_Entry_l1
          simp only [Int.toNat_natCast]
          have : decide ((k : Int) < (((s.drop i).length : Nat) : Int)) = false := by rw [List.length_drop]; simp; omega
          rw [this]
          rfl) (l.length - (i + 1)) i 1 l x ((l.drop i).length + 1) rfl (by omega) (Nat.le_refl _) (by omega) (by simpa using hx) (by rw [List.length_drop]; omega) (fun x hx => hx)
      have e1' : iter (slices_CompactFunc_api_Entry_api_Entry_l1 t (l, (i : Int))) ((l.drop i).length + 1) (((i : Int), 1), l) = _ := e1
      rw [e1']
      simp only [Option.bind_some, ← bite]
      have hd := dd_len (r := sameE) (l.drop (i + 1)) x
      rw [List.length_drop] at hd
      exact cut_end (Ent.mk [] false (Val.mk 0 0 (⟨#[]⟩ : ByteArray) [] [] [] [])) _ l.length s' _ e2 (by omega) e3
    · unfold slices_CompactFunc_api_Entry_api_Entry_l2
      simp
theorem sortEntries_ok (fuel : Nat) (es : List Ent) (hf : 2 * bulkEs es + 1 ≤ fuel) (hb : bulkEs es ≤ 4194304) : value_sortEntries fuel es = some (es.foldl insE []) := by
  have hlen := bulkEs_len es
  unfold value_sortEntries
  rw [show value_cloneEntries fuel es = some es from (clone_ok fuel).2.2 es hf hb]
  simp only [Option.bind_some, bsome]
  have hg : ∀ x ∈ es, ∀ y, value_compareEntries fuel x y = some (cE x y) := fun x hx y => (compare_ok fuel).2.2 x y (by have := bulkEs_mem hx; omega) (by have := bulkEs_mem hx; omega)
  have hlt : ∀ x ∈ es, ∀ y, ltB (fun z2 z3 => value_compareEntries fuel z2 z3) x y = decide (cE x y < 0) := fun x hx y => by
    simp only [ltB, hg x hx y]
  have hwk : Swk (ltB fun z2 z3 => value_compareEntries fuel z2 z3) es := by
    refine ⟨fun x hx => ?_, fun x hx y hy z hz h1 h2 => ?_, fun x hx y hy z hz h1 h2 => ?_⟩
    · rw [hlt x hx, cmpE.self]; rfl
    · rw [hlt x hx] at *
      rw [hlt y hy] at h2
      simp only [decide_eq_true_eq] at *
      exact cmpE.strict h1 (by omega)
    · rw [hlt x hx] at *
      rw [hlt y hy] at h2
      simp only [decide_eq_false_iff_not] at *
      have a1 := cmpE.anti x y
      have a2 := cmpE.anti y z
      have a3 := cmpE.anti x z
      have := cmpE.trans z y x (by omega) (by omega)
      omega
  have hok : OkCmp es fun z2 z3 => value_compareEntries fuel z2 z3 := ⟨by omega, fun x hx y _ => ⟨_, hg x hx y⟩, hwk⟩
  have hsort : sortR es (fun z2 z3 => value_compareEntries fuel z2 z3) = some ((), sortP (ltB fun z2 z3 => value_compareEntries fuel z2 z3) es) := by
    unfold sortR sortF
    rw [if_pos hok]
    rfl
  rw [hsort]
  obtain ⟨hp, hsr⟩ := sortP_sorts hwk
  generalize sortP (ltB fun z2 z3 => value_compareEntries fuel z2 z3) es = p at hp hsr
  simp only [Option.bind_some]
  have hs : p.Pairwise fun a b => ¬ cE b a < 0 := by
    refine hsr.imp_of_mem fun {a b} _ hb h => ?_
    rw [hlt b (hp.mem_iff.1 hb)] at h
    simpa using h
  rw [compactE_ok _ p (by rw [hp.length_eq]; omega) (fun x hx y => by
    unfold value_sortEntries_1
    rw [hg x (hp.mem_iff.1 hx) y]
    simp only [Option.bind_some, sameE]
    rfl)]
  simp only [Option.bind_some]
  unfold slices_Clip_api_Entry_api_Entry
  have := sort_is_ins cmpE hp hs
  rw [show cmpct (fun x y => decide (cE x y = 0)) = cmpct sameE from rfl, ← insE_U] at this
  rw [this]
  simp
end Go.Pl
