/- Which values the reference takes for valid: the same. No program in sight. -/
import Derived.Test.YtdipagkcdpcnbaaGreatRMap
import Derived.Test.YtdipagkcdpcnbaaGreatRDraw
namespace Go.Pl
open Go Go.RowKit Go.Sx Go.Qx

/-! ### rows that ascend and whose elements are fine -/
def ixOK {α : Type} (c : α → α → Int) (q : α → Bool) (l : List α) (i : Nat) : Bool :=
  match l[i]? with
  | some x => q x && (match i with
    | 0 => true
    | j + 1 => match l[j]? with
      | some y => decide (c y x < 0)
      | none => true)
  | none => true
theorem ix_all {α : Type} (c : α → α → Int) (q : α → Bool) (l : List α) : (List.range l.length).all (ixOK c q l) = (asc c l && l.all q) := by
  rw [Bool.eq_iff_iff, Bool.and_eq_true, asc_iff, List.all_eq_true, List.all_eq_true]
  constructor
  · intro h
    refine ⟨fun i h1 hi => ?_, fun x hx => ?_⟩
    · obtain ⟨j, rfl⟩ : ∃ m, i = m + 1 := ⟨i - 1, by omega⟩
      have := h (j + 1) (by simpa using hi)
      unfold ixOK at this
      rw [List.getElem?_eq_getElem hi] at this
      simp only [Bool.and_eq_true] at this
      have h2 := this.2
      rw [List.getElem?_eq_getElem (show j < l.length by omega)] at h2
      simpa using h2
    · obtain ⟨i, hi, rfl⟩ := List.getElem_of_mem hx
      have := h i (by simpa using hi)
      unfold ixOK at this
      rw [List.getElem?_eq_getElem hi] at this
      simp only [Bool.and_eq_true] at this
      exact this.1
  · intro ⟨h1, h2⟩ i hi
    have hi : i < l.length := by simpa using hi
    unfold ixOK
    rw [List.getElem?_eq_getElem hi]
    simp only [Bool.and_eq_true]
    refine ⟨h2 _ (List.getElem_mem hi), ?_⟩
    cases i with
    | zero => rfl
    | succ j =>
      simp only
      rw [List.getElem?_eq_getElem (show j < l.length by omega)]
      have := h1 (j + 1) (by omega) hi
      simpa using this
theorem ix_loop {α β : Type} {step : Int → Option (Fl Int (Sum Unit β))} (c : α → α → Int) (q : α → Bool) (l : List α) (b : β)
    (hst : ∀ (i : Nat) (x : α), l[i]? = some x → step (i : Int) = some (if ixOK c q l i = true then .next ((i + 1 : Nat) : Int) else .done (.inr b)))
    (hend : step (l.length : Int) = some (.done (.inl ()))) : iter step (l.length + 1) 0 = some (if (asc c l && l.all q) = true then .inl () else .inr b) := by
  have := first_ok (step := step) (List.range l.length) (ixOK c q l) (fun i => (i : Int)) () b (fun i x hx => by
    have hi : i < l.length := by have := (List.getElem?_eq_some_iff.1 hx).1; simpa using this
    have e : x = i := by
      rw [List.getElem?_range hi] at hx
      cases hx; rfl
    subst e
    exact hst x _ (List.getElem?_eq_getElem hi)) (by rw [List.length_range]; exact hend)
  rw [List.length_range, ix_all] at this
  exact this
/-- One round of such a loop. -/
theorem ix_step {α : Type} (c : α → α → Int) (q : α → Bool) (l : List α) (i : Nat) (x : α) (hx : l[i]? = some x) (hl : l.length ≤ 4194304) {o : Option (Fl Int (Sum Unit Bool))}
    (h0 : q x = false → o = some (.done (.inr false)))
    (h1 : q x = true → i = 0 → o = some (.next (w64 ((i : Int) + 1))))
    (h2 : q x = true → ∀ j y, i = j + 1 → l[j]? = some y → idx l (w64 ((i : Int) - 1)) = some y → o = some (if c y x < 0 then .next (w64 ((i : Int) + 1)) else .done (.inr false))) :
    o = some (if ixOK c q l i = true then .next ((i + 1 : Nat) : Int) else .done (.inr false)) := by
  have hi : i < l.length := (List.getElem?_eq_some_iff.1 hx).1
  have hw := w64_succ i (by omega)
  unfold ixOK
  rw [hx]
  cases hq : q x
  · rw [h0 hq]; simp [hq]
  · cases i with
    | zero => rw [h1 hq rfl, hw]; simp [hq]
    | succ j =>
      have hy := List.getElem?_eq_getElem (show j < l.length by omega)
      have hj : w64 (((j + 1 : Nat) : Int) - 1) = (j : Int) := by rw [w64_id (by omega) (by omega)]; omega
      rw [h2 hq j _ rfl hy (by rw [hj]; exact idx_at hy), hw]
      simp only [hy]
      by_cases hc : c l[j] x < 0 <;> simp [hq, hc]
theorem strLt_iff (a b : ByteArray) : strLt a b = decide (cS a b < 0) := by
  rcases str_tells a b with ⟨h, _, e⟩ | ⟨h, _, e⟩ | ⟨h, _, e⟩ <;> simp [h, e]
theorem posI (i : Nat) : decide (0 < (((i + 1 : Nat)) : Int)) = true := decide_eq_true (by omega)
theorem ref_cons_ok (l : List Val) : (bif ((l.length : Int) == 2) then Option.bind (idx l 1) fun x => Option.bind (bif (x.Kind == 5) then some true else Option.bind (idx l 1) fun y => some (y.Kind == 7)) fun q => some q else some false) = some (consOK l) := by
  unfold consOK
  match l with
  | [] => rfl
  | [_] => rfl
  | [x, t] =>
    have e2 : ((([x, t] : List Val).length : Int) == 2) = true := rfl
    rw [e2]
    have : idx [x, t] 1 = some t := rfl
    simp only [cond_true, this, Option.bind_some]
    cases t.Kind == 5 <;> rfl
  | _ :: _ :: _ :: r =>
    rename_i a b c
    have : ((((a :: b :: c :: r : List Val)).length : Int) == 2) = false := by simp; omega
    rw [this]; rfl
theorem ref_node_ok (fuel : Nat) (v : Val) (hf : 2 * bulkV v ≤ fuel + 2) (hb : bulkV v ≤ 4194304) : semtyperef1_node fuel v = some (nodeOK v) := by
  have he := bulkV_eq v
  have hs := bulkStrs_len v.Labels
  have hk := bulkKeys_len v.Keys
  have hn := bulkEs_len v.Entries
  have l1 : iter (semtyperef1_node_l1 v) (v.Labels.length + 1) 0 = some (if (asc cS v.Labels && v.Labels.all varOK) = true then .inl () else .inr false) := by
    refine ix_loop cS varOK v.Labels false ?_ ?_
    · intro i x hx
      have hi : i < v.Labels.length := (List.getElem?_eq_some_iff.1 hx).1
      unfold semtyperef1_node_l1
      simp only [bite, wr64]
      rw [if_pos (by simp; omega), idx_at hx]
      simp only [Option.bind_some, ref_var_ok]
      refine ix_step cS varOK v.Labels i x hx (by omega) (fun h => by rw [h]; rfl) (fun h h0 => by subst h0; rw [h]; rfl) (fun h j y hj hy hiy => ?_)
      subst hj
      rw [h, hiy, posI]
      simp only [Bool.not_true, Bool.false_eq_true, if_false, if_true, Option.bind_some]
      rw [strLt_iff]
      by_cases hc : cS y x < 0 <;> simp [hc]
    · unfold semtyperef1_node_l1
      simp
  have l2 : iter (semtyperef1_node_l2 v) (v.Keys.length + 1) 0 = some (if (asc cK v.Keys && v.Keys.all keyOK) = true then .inl () else .inr false) := by
    refine ix_loop cK keyOK v.Keys false ?_ ?_
    · intro i x hx
      have hi : i < v.Keys.length := (List.getElem?_eq_some_iff.1 hx).1
      unfold semtyperef1_node_l2
      simp only [bite, wr64]
      rw [if_pos (by simp; omega), idx_at hx]
      simp only [Option.bind_some, ref_key_ok]
      refine ix_step cK keyOK v.Keys i x hx (by omega) (fun h => by rw [h]; rfl) (fun h h0 => by subst h0; rw [h]; rfl) (fun h j y hj hy hiy => ?_)
      subst hj
      rw [h, hiy, posI]
      simp only [Bool.not_true, Bool.false_eq_true, if_false, if_true, Option.bind_some, ref_keys_ok]
      by_cases hc : cK y x < 0
      · have : ¬ 0 ≤ cK y x := by omega
        simp [hc, this]
      · have : 0 ≤ cK y x := by omega
        simp [hc, this]
    · unfold semtyperef1_node_l2
      simp
  have l3 : iter (semtyperef1_node_l3 v fuel) (v.Entries.length + 1) 0 = some (if (asc cE v.Entries && v.Entries.all (entOK v.Int_)) = true then .inl () else .inr false) := by
    refine ix_loop cE (entOK v.Int_) v.Entries false ?_ ?_
    · intro i x hx
      have hi : i < v.Entries.length := (List.getElem?_eq_some_iff.1 hx).1
      have hm := bulkEs_mem (List.mem_of_getElem? hx)
      have hbe := bulkE_eq x
      unfold semtyperef1_node_l3 semtyperef1_Equal
      simp only [bite, wr64]
      rw [if_pos (by simp; omega), idx_at hx]
      simp only [Option.bind_some]
      rw [show Val.mk 0 0 (⟨#[]⟩ : ByteArray) ([] : List Val) ([] : List Key) ([] : List Ent) ([] : List ByteArray) = zeroV from rfl, (ref_compare_ok fuel).1 x.Result zeroV (by omega) (by omega)]
      simp only [Option.bind_some]
      have hq : (Option.bind (if ((x.Args.length : Int) != v.Int_) = true then some true else Option.bind (if x.Fails = true then some (!(cV x.Result zeroV == 0)) else some false) fun q => some q) fun q => some q) = some (!(entOK v.Int_ x)) := by
        unfold entOK
        have e0 : ((x.Args.length : Int) != v.Int_) = !((x.Args.length : Int) == v.Int_) := rfl
        rw [e0]
        cases ((x.Args.length : Int) == v.Int_) <;> cases x.Fails <;> cases (cV x.Result zeroV == 0) <;> rfl
      rw [bsome] at hq
      simp only [bsome] at hq ⊢
      rw [hq]
      simp only [Option.bind_some]
      refine ix_step cE (entOK v.Int_) v.Entries i x hx (by omega) (fun h => by rw [h]; rfl) (fun h h0 => by subst h0; rw [h]; rfl) (fun h j y hj hy hiy => ?_)
      subst hj
      have hmy := bulkEs_mem (List.mem_of_getElem? hy)
      have hc : semtyperef1_CompareEntries fuel y x = some (cE y x) := (ref_compare_ok fuel).2.2 y x (by omega) (by omega)
      rw [h, hiy, posI]
      simp only [Bool.not_true, Bool.false_eq_true, if_false, if_true, Option.bind_some, hc]
      by_cases hc : cE y x < 0
      · have : ¬ 0 ≤ cE y x := by omega
        simp [hc, this]
      · have : 0 ≤ cE y x := by omega
        simp [hc, this]
    · unfold semtyperef1_node_l3
      simp
  unfold semtyperef1_node
  simp only [natLen, bsome]
  rw [l1, l2, l3, ref_atom_ok]
  have hcons := ref_cons_ok v.Kids
  simp only [bsome] at hcons
  rw [hcons]
  simp only [Option.bind_some, empty_len]
  unfold nodeOK labelsOK
  cases hlab : (asc cS v.Labels && v.Labels.all varOK)
  · rfl
  have h6 : decide ((v.Kids.length : Int) ≤ 4) = decide (v.Kids.length ≤ 4) := by
    by_cases h : v.Kids.length ≤ 4
    · simp [h]; omega
    · simp [h]; omega
  have hm : mapOK v = (decide (v.Keys.length = v.Kids.length) && (asc cK v.Keys && v.Keys.all keyOK)) := by
    unfold mapOK
    by_cases h : v.Keys.length = v.Kids.length <;> simp [h]
  have hm2 : ((v.Keys.length : Int) == (v.Kids.length : Int)) = decide (v.Keys.length = v.Kids.length) := by
    by_cases h : v.Keys.length = v.Kids.length
    · simp [h]
    · simp [h]; omega
  have hfu : funOK v = (!decide (v.Int_ < 0) && !decide (4 < v.Int_) && (asc cE v.Entries && v.Entries.all (entOK v.Int_))) := by
    unfold funOK
    by_cases h1 : v.Int_ < 0 <;> by_cases h2 : 4 < v.Int_
    · omega
    · have : ¬ 0 ≤ v.Int_ := by omega
      simp [h1, this]
    · have : ¬ v.Int_ ≤ 4 := by omega
      simp [h2, this]
    · have a : 0 ≤ v.Int_ := by omega
      have b : v.Int_ ≤ 4 := by omega
      simp [h1, h2, a, b]
  have hi : (v.Int_ != 0) = !(v.Int_ == 0) := rfl
  rw [hm2, hi, h6]
  simp only [onEnd, if_true]
  unfold fieldsOK kindOK
  rw [hm, hfu]
  generalize (asc cE v.Entries && v.Entries.all (entOK v.Int_)) = f
  generalize (asc cK v.Keys && v.Keys.all keyOK) = k
  generalize decide (v.Keys.length = v.Kids.length) = m
  generalize decide (v.Int_ < 0) = p
  generalize decide (4 < v.Int_) = r
  generalize strEq v.Text ⟨#[]⟩ = t
  generalize v.Keys.isEmpty = y
  generalize v.Entries.isEmpty = e
  generalize v.Kids.isEmpty = d
  generalize (v.Int_ == 0) = i
  generalize atomOK v.Text = a
  generalize decide ((v.Text.size : Int) ≤ 64) = z
  generalize consOK v.Kids = c
  generalize decide (0 ≤ v.Int_) = g
  generalize decide (v.Kids.length ≤ 4) = n
  by_cases hk : v.Kind = 1 ∨ v.Kind = 2 ∨ v.Kind = 3 ∨ v.Kind = 4 ∨ v.Kind = 5 ∨ v.Kind = 6 ∨ v.Kind = 7 ∨ v.Kind = 8 ∨ v.Kind = 9
  · rcases hk with h | h | h | h | h | h | h | h | h <;> rw [h] <;> cases i <;> cases t <;> cases d <;> cases y <;> cases e <;> simp
    all_goals first
      | rfl
      | (cases k <;> cases m <;> simp)
      | (cases p <;> cases r <;> cases f <;> simp)
  · simp only [not_or] at hk
    obtain ⟨h1, h2, h3, h4, h5, h6', h7, h8, h9⟩ := hk
    have e1 : (v.Kind == 1) = false := by simpa using h1
    have e2 : (v.Kind == 2) = false := by simpa using h2
    have e3 : (v.Kind == 3) = false := by simpa using h3
    have e4 : (v.Kind == 4) = false := by simpa using h4
    have e5 : (v.Kind == 5) = false := by simpa using h5
    have e6 : (v.Kind == 6) = false := by simpa using h6'
    have e7 : (v.Kind == 7) = false := by simpa using h7
    have e8 : (v.Kind == 8) = false := by simpa using h8
    have e9 : (v.Kind == 9) = false := by simpa using h9
    simp only [bne, e1, e2, e3, e4, e5, e6, e7, e8, e9, if_neg h1, if_neg h2, if_neg h3, if_neg h4, if_neg h5, if_neg h6', if_neg h7, if_neg h8, if_neg h9]
    cases i <;> cases t <;> cases d <;> cases y <;> cases e <;> rfl
theorem ref_valid_ok : ∀ (k : Nat) (v : Val), 2 * bulkV v ≤ k → bulkV v ≤ 4194304 → semtyperef1_Valid k v = some (vOK v)
  | 0, v, h, _ => by have := bulkV_pos v; omega
  | k + 1, v, h, hb => by
    have he := bulkV_eq v
    have hv := bulkVs_len v.Kids
    have hn := bulkEs_len v.Entries
    have hrec : ∀ x, bulkV x < bulkV v → semtyperef1_Valid k x = some (vOK x) := fun x hx => ref_valid_ok k x (by omega) (by omega)
    show semtyperef1_Valid_B k (semtyperef1_Valid k) v = _
    unfold semtyperef1_Valid_B
    rw [ref_node_ok k v (by omega) hb, vOK_eq, vsOK_all, esOK_all]
    simp only [Option.bind_some, natLen]
    have l1 : iter (semtyperef1_Valid_l1 v (semtyperef1_Valid k)) (v.Kids.length + 1) 0 = some (if v.Kids.all vOK = true then .inl () else .inr false) := by
      refine first_ok v.Kids vOK (fun i => (i : Int)) () false ?_ ?_
      · intro i x hx
        have hi : i < v.Kids.length := (List.getElem?_eq_some_iff.1 hx).1
        have hm := bulkVs_mem (List.mem_of_getElem? hx)
        unfold semtyperef1_Valid_l1
        simp only [wr64]
        rw [show decide ((i : Int) < (v.Kids.length : Int)) = true by simp; omega, idx_at hx]
        simp only [cond_true, Option.bind_some]
        rw [hrec x (by omega), w64_succ i (by omega)]
        exact flag_ok _ _
      · unfold semtyperef1_Valid_l1
        simp
    have l2 : iter (semtyperef1_Valid_l3 v (semtyperef1_Valid k)) (v.Entries.length + 1) 0 = some (if v.Entries.all eOK = true then .inl () else .inr false) := by
      refine first_ok v.Entries eOK (fun i => (i : Int)) () false ?_ ?_
      · intro i x hx
        have hi : i < v.Entries.length := (List.getElem?_eq_some_iff.1 hx).1
        have hm := bulkEs_mem (List.mem_of_getElem? hx)
        have hbe := bulkE_eq x
        have hal := bulkVs_len x.Args
        unfold semtyperef1_Valid_l3
        simp only [wr64, natLen]
        rw [show decide ((i : Int) < (v.Entries.length : Int)) = true by simp; omega, idx_at hx]
        simp only [cond_true, Option.bind_some]
        have l3 : iter (semtyperef1_Valid_l2 (semtyperef1_Valid k) x) (x.Args.length + 1) 0 = some (if x.Args.all vOK = true then .inl () else .inr false) := by
          refine first_ok x.Args vOK (fun i => (i : Int)) () false ?_ ?_
          · intro j y hy
            have hj : j < x.Args.length := (List.getElem?_eq_some_iff.1 hy).1
            have hmy := bulkVs_mem (List.mem_of_getElem? hy)
            unfold semtyperef1_Valid_l2
            simp only [wr64]
            rw [show decide ((j : Int) < (x.Args.length : Int)) = true by simp; omega, idx_at hy]
            simp only [cond_true, Option.bind_some]
            rw [hrec y (by omega), w64_succ j (by omega)]
            exact flag_ok _ _
          · unfold semtyperef1_Valid_l2
            simp
        rw [l3, hrec x.Result (by omega), eOK_eq, vsOK_all, w64_succ i (by omega)]
        simp only [Option.bind_some]
        cases x.Args.all vOK <;> cases x.Fails <;> cases vOK x.Result <;> rfl
      · unfold semtyperef1_Valid_l3
        simp
    rw [l1, l2]
    cases nodeOK v <;> cases v.Kids.all vOK <;> cases v.Entries.all eOK <;> rfl
end Go.Pl
