/- Which values the reference takes for valid: the same. No program in sight. -/
import Derived.Test.YtamfhohifmbjnaaPlDraw
import Derived.Test.YtamfhohifmbjnaaPlNodes
namespace Go.Sx
open Go Go.RowKit

theorem ref_up_ok (c : UInt8) : semtyperef1_upper c = some (upC c) := by
  unfold semtyperef1_upper upC
  cases decide (65 ≤ (c.toNat : Int)) <;> simp
theorem ref_var_ok (s : ByteArray) : semtyperef1_IsVariable s = some (varOK s) := by
  unfold semtyperef1_IsVariable varOK nameOK
  have hsz := size_list s
  cases hs : s.data.toList with
  | nil =>
    rw [hs] at hsz
    rw [hsz]
    simp
  | cons c r =>
    rw [hs] at hsz
    simp only [List.length_cons] at hsz
    have e1 : decide ((s.size : Int) < 1) = false := by simp; omega
    rw [e1]
    simp only [Bool.false_eq_true, if_false, Option.bind_some]
    by_cases hb : 16 < (s.size : Int)
    · rw [if_pos (by simpa using hb)]
      have : decide (r.length ≤ 15) = false := by simp; omega
      rw [this]; rfl
    · rw [if_neg (by simpa using hb)]
      have e2 : decide (r.length ≤ 15) = true := by simp; omega
      have e3 : sidx s 0 = some c := sidx_at (i := 0) (by rw [hs]; rfl)
      rw [e2, e3]
      simp only [Option.bind_some, ref_up_ok, Bool.true_and]
      cases upC c
      · rfl
      · simp only [Bool.not_true, Bool.false_eq_true, if_false, Bool.true_and]
        refine all_from s.size (fun i => match s.data.toList[i]? with | some x => (lowC x || upC x || digC x || (x.toNat : Int) == 95) | none => true) ?_ ?_ 1 _ ?_
        · intro i hi
          have hi' : i < s.data.toList.length := by rw [hs]; simp; omega
          unfold semtyperef1_IsVariable_l1
          rw [if_pos (by simp; omega), sidx_at (List.getElem?_eq_getElem hi')]
          simp only [Option.bind_some, ref_low_ok, ref_dig_ok, ref_up_ok]
          rw [List.getElem?_eq_getElem hi', w64_succ i (by omega)]
          generalize s.data.toList[i] = x
          have hn : ((x.toNat : Int) != 95) = !((x.toNat : Int) == 95) := rfl
          rw [hn]
          show _ = some (if (lowC x || upC x || digC x || (x.toNat : Int) == 95) = true then _ else _)
          cases lowC x <;> cases upC x <;> cases digC x <;> cases (x.toNat : Int) == 95 <;> rfl
        · intro i hi
          unfold semtyperef1_IsVariable_l1
          rw [if_neg (by simp; omega)]
        · rw [hs, List.all_eq_true]
          constructor
          · intro h i h1 hi
            obtain ⟨i, rfl⟩ : ∃ m, i = m + 1 := ⟨i - 1, by omega⟩
            have hr : i < r.length := by omega
            simp only [List.getElem?_cons_succ, List.getElem?_eq_getElem hr]
            exact h _ (List.getElem_mem hr)
          · intro h x hx
            obtain ⟨i, hi, rfl⟩ := List.getElem_of_mem hx
            have := h (i + 1) (by omega) (by omega)
            simpa only [List.getElem?_cons_succ, List.getElem?_eq_getElem hi] using this

/-! ### rows that ascend and whose elements are fine -/
def ixOK {α : Type} (c : α → α → Int) (q : α → Bool) (l : List α) (i : Nat) : Bool :=
  match l[i]? with
  | some x => q x && (match i with
    | 0 => true
    | j + 1 => match l[j]? with
      | some y => decide (c y x < 0)
      | none => true)
  | none => true
theorem ix_all {α : Type} (c : α → α → Int) (q : α → Bool) (l : List α) : (List.range l.length).all (ixOK c q l) = (asc c l && l.all q) := by
  rw [Bool.eq_iff_iff, Bool.and_eq_true, asc_iff, List.all_eq_true, List.all_eq_true]
  constructor
  · intro h
    refine ⟨fun i h1 hi => ?_, fun x hx => ?_⟩
    · obtain ⟨j, rfl⟩ : ∃ m, i = m + 1 := ⟨i - 1, by omega⟩
      have := h (j + 1) (by simpa using hi)
      unfold ixOK at this
      rw [List.getElem?_eq_getElem hi] at this
      simp only [Bool.and_eq_true] at this
      have h2 := this.2
      rw [List.getElem?_eq_getElem (show j < l.length by omega)] at h2
      simpa using h2
    · obtain ⟨i, hi, rfl⟩ := List.getElem_of_mem hx
      have := h i (by simpa using hi)
      unfold ixOK at this
      rw [List.getElem?_eq_getElem hi] at this
      simp only [Bool.and_eq_true] at this
      exact this.1
  · intro ⟨h1, h2⟩ i hi
    have hi : i < l.length := by simpa using hi
    unfold ixOK
    rw [List.getElem?_eq_getElem hi]
    simp only [Bool.and_eq_true]
    refine ⟨h2 _ (List.getElem_mem hi), ?_⟩
    cases i with
    | zero => rfl
    | succ j =>
      simp only
      rw [List.getElem?_eq_getElem (show j < l.length by omega)]
      have := h1 (j + 1) (by omega) hi
      simpa using this
theorem ix_loop {α β : Type} {step : Int → Option (Fl Int (Sum Int β))} (c : α → α → Int) (q : α → Bool) (l : List α) (b : β)
    (hst : ∀ (i : Nat) (x : α), l[i]? = some x → step (i : Int) = some (if ixOK c q l i = true then .next ((i + 1 : Nat) : Int) else .done (.inr b)))
    (hend : step (l.length : Int) = some (.done (.inl (l.length : Int)))) : iter step (l.length + 1) 0 = some (if (asc c l && l.all q) = true then .inl (l.length : Int) else .inr b) := by
  have := first_ok (step := step) (List.range l.length) (ixOK c q l) b (fun i x hx => by
    have hi : i < l.length := by have := (List.getElem?_eq_some_iff.1 hx).1; simpa using this
    have e : x = i := by
      rw [List.getElem?_range hi] at hx
      cases hx; rfl
    subst e
    exact hst x _ (List.getElem?_eq_getElem hi)) (by rw [List.length_range]; exact hend)
  rw [List.length_range, ix_all] at this
  exact this
/-- One round of such a loop. -/
theorem ix_step {α : Type} (c : α → α → Int) (q : α → Bool) (l : List α) (i : Nat) (x : α) (hx : l[i]? = some x) (hl : l.length ≤ 4194304) {o : Option (Fl Int (Sum Int Bool))}
    (h0 : q x = false → o = some (.done (.inr false)))
    (h1 : q x = true → i = 0 → o = some (.next (w64 ((i : Int) + 1))))
    (h2 : q x = true → ∀ j y, i = j + 1 → l[j]? = some y → idx l (w64 ((i : Int) - 1)) = some y → o = some (if c y x < 0 then .next (w64 ((i : Int) + 1)) else .done (.inr false))) :
    o = some (if ixOK c q l i = true then .next ((i + 1 : Nat) : Int) else .done (.inr false)) := by
  have hi : i < l.length := (List.getElem?_eq_some_iff.1 hx).1
  have hw := w64_succ i (by omega)
  unfold ixOK
  rw [hx]
  cases hq : q x
  · rw [h0 hq]; simp [hq]
  · cases i with
    | zero => rw [h1 hq rfl, hw]; simp [hq]
    | succ j =>
      have hy := List.getElem?_eq_getElem (show j < l.length by omega)
      have hj : w64 (((j + 1 : Nat) : Int) - 1) = (j : Int) := by rw [w64_id (by omega) (by omega)]; omega
      rw [h2 hq j _ rfl hy (by rw [hj]; exact idx_at hy), hw]
      simp only [hy]
      by_cases hc : c l[j] x < 0 <;> simp [hq, hc]
theorem strLt_iff (a b : ByteArray) : strLt a b = decide (cS a b < 0) := by
  rcases str_tells a b with ⟨h, _, e⟩ | ⟨h, _, e⟩ | ⟨h, _, e⟩ <;> simp [h, e]

theorem ref_cons_ok (l : List Val) : (if ((l.length : Int) == 2) = true then Option.bind (idx l 1) fun x => Option.bind (if (x.Kind == 5) = true then some true else Option.bind (idx l 1) fun y => some (y.Kind == 7)) fun q => some q else some false) = some (consOK l) := by
  unfold consOK
  match l with
  | [] => rfl
  | [_] => rfl
  | [x, t] =>
    have e2 : ((([x, t] : List Val).length : Int) == 2) = true := rfl
    rw [if_pos e2]
    have : idx [x, t] 1 = some t := rfl
    simp only [this, Option.bind_some]
    cases t.Kind == 5 <;> rfl
  | _ :: _ :: _ :: r =>
    rw [if_neg (by simp; omega)]
def entTail (fuel : Nat) (es : List Ent) (i : Int) (x : Ent) : Option (Fl Int (Sum Int Bool)) :=
  if (decide (0 < i)) = true then
    Option.bind (idx es (w64 (i - 1))) fun y =>
    Option.bind ((semtyperef1_CompareEntries fuel) y x) fun r =>
    if (decide (0 ≤ r)) = true then some (.done (.inr false)) else some (.next (w64 (i + 1)))
  else some (.next (w64 (i + 1)))
theorem ref_node_ok (fuel : Nat) (v : Val) (hf : 2 * bulkV v ≤ fuel + 2) (hb : bulkV v ≤ 4194304) : semtyperef1_node fuel v = some (nodeOK v) := by
  have he := bulkV_eq v
  have hs := bulkStrs_len v.Labels
  have hk := bulkKeys_len v.Keys
  have hn := bulkEs_len v.Entries
  have l1 : iter (semtyperef1_node_l1 v) (v.Labels.length + 1) 0 = some (if (asc cS v.Labels && v.Labels.all varOK) = true then .inl (v.Labels.length : Int) else .inr false) := by
    refine ix_loop cS varOK v.Labels false ?_ ?_
    · intro i x hx
      have hi : i < v.Labels.length := (List.getElem?_eq_some_iff.1 hx).1
      unfold semtyperef1_node_l1
      rw [if_pos (decide_eq_true (by omega)), idx_at hx]
      simp only [Option.bind_some, ref_var_ok]
      refine ix_step cS varOK v.Labels i x hx (by omega) (fun h => by rw [h]; rfl) (fun h h0 => by subst h0; rw [h]; rfl) (fun h j y hj hy hiy => ?_)
      rw [h, hiy, if_neg (by simp), if_pos (decide_eq_true (by omega))]
      simp only [Option.bind_some]
      rw [strLt_iff]
      by_cases hc : cS y x < 0 <;> simp [hc]
    · unfold semtyperef1_node_l1
      simp
  have l2 : iter (semtyperef1_node_l2 v) (v.Keys.length + 1) 0 = some (if (asc cK v.Keys && v.Keys.all keyOK) = true then .inl (v.Keys.length : Int) else .inr false) := by
    refine ix_loop cK keyOK v.Keys false ?_ ?_
    · intro i x hx
      have hi : i < v.Keys.length := (List.getElem?_eq_some_iff.1 hx).1
      unfold semtyperef1_node_l2
      rw [if_pos (decide_eq_true (by omega)), idx_at hx]
      simp only [Option.bind_some, ref_key_ok]
      refine ix_step cK keyOK v.Keys i x hx (by omega) (fun h => by rw [h]; rfl) (fun h h0 => by subst h0; rw [h]; rfl) (fun h j y hj hy hiy => ?_)
      rw [h, hiy, if_neg (by simp), if_pos (decide_eq_true (by omega))]
      simp only [Option.bind_some, ref_keys_ok]
      by_cases hc : cK y x < 0
      · rw [if_neg (by simpa using hc), if_pos hc]
      · rw [if_pos (by simp; omega), if_neg hc]
    · unfold semtyperef1_node_l2
      simp
  have l3 : iter (semtyperef1_node_l3 fuel v) (v.Entries.length + 1) 0 = some (if (asc cE v.Entries && v.Entries.all (entOK v.Int_)) = true then .inl (v.Entries.length : Int) else .inr false) := by
    refine ix_loop cE (entOK v.Int_) v.Entries false ?_ ?_
    · intro i x hx
      have hi : i < v.Entries.length := (List.getElem?_eq_some_iff.1 hx).1
      have hm := bulkEs_mem (List.mem_of_getElem? hx)
      have hbe := bulkE_eq x
      unfold semtyperef1_node_l3 semtyperef1_Equal semtyperef1_Compare
      rw [if_pos (decide_eq_true (by omega)), idx_at hx]
      simp only [Option.bind_some]
      rw [(ref_compare_ok fuel).1 x.Result zeroV (by omega) (by omega)]
      simp only [Option.bind_some]
      have tail : (i = 0 → entTail fuel v.Entries (i : Int) x = some (Fl.next (w64 ((i : Int) + 1)))) ∧
          (∀ j y, i = j + 1 → v.Entries[j]? = some y → idx v.Entries (w64 ((i : Int) - 1)) = some y → entTail fuel v.Entries (i : Int) x = some (if cE y x < 0 then Fl.next (w64 ((i : Int) + 1)) else .done (.inr false))) := by
        unfold entTail
        refine ⟨fun h0 => by subst h0; rfl, fun j y hj hy hiy => ?_⟩
        have hmy := bulkEs_mem (List.mem_of_getElem? hy)
        rw [hiy, if_pos (decide_eq_true (by omega))]
        simp only [Option.bind_some]
        have hc : (semtyperef1_CompareEntries fuel) y x = some (cE y x) := (ref_compare_ok fuel).2.2 y x (by omega) (by omega)
        rw [hc]
        simp only [Option.bind_some]
        by_cases hc : cE y x < 0
        · rw [if_neg (by simpa using hc), if_pos hc]
        · rw [if_pos (by simp; omega), if_neg hc]
      refine ix_step cE (entOK v.Int_) v.Entries i x hx (by omega) (fun h => ?_) (fun h h0 => ?_) (fun h j y hj hy hiy => ?_)
      · unfold entOK at h
        by_cases hl : (x.Args.length : Int) = v.Int_
        · have a1 : ((x.Args.length : Int) != v.Int_) = false := by simp [hl]
          have a2 : ((x.Args.length : Int) == v.Int_) = true := by simp [hl]
          rw [a2] at h
          rw [a1, if_neg (by simp)]
          cases hF : x.Fails
          · rw [hF] at h; simp at h
          · rw [hF] at h
            simp only [Bool.true_and, Bool.not_true, Bool.false_or] at h
            rw [if_pos rfl, h]
            rfl
        · rw [if_pos (by simpa using hl)]
      · unfold entOK at h
        simp only [Bool.and_eq_true] at h
        have a1 : ((x.Args.length : Int) != v.Int_) = false := by have := h.1; simp at this; simp [this]
        rw [a1, if_neg (by simp)]
        cases hF : x.Fails
        · rw [if_neg (by simp)]
          exact tail.1 h0
        · have h2 := h.2
          rw [hF] at h2
          simp only [Bool.not_true, Bool.false_or] at h2
          rw [if_pos rfl, h2, if_neg (by simp)]
          exact tail.1 h0
      · unfold entOK at h
        simp only [Bool.and_eq_true] at h
        have a1 : ((x.Args.length : Int) != v.Int_) = false := by have := h.1; simp at this; simp [this]
        rw [a1, if_neg (by simp)]
        cases hF : x.Fails
        · rw [if_neg (by simp)]
          exact tail.2 j y hj hy hiy
        · have h2 := h.2
          rw [hF] at h2
          simp only [Bool.not_true, Bool.false_or] at h2
          rw [if_pos rfl, h2, if_neg (by simp)]
          exact tail.2 j y hj hy hiy
    · unfold semtyperef1_node_l3
      simp
  unfold semtyperef1_node
  rw [l1, l2, l3, ref_atom_ok, ref_cons_ok]
  simp only [Option.bind_some, empty_len]
  unfold nodeOK labelsOK
  cases hlab : (asc cS v.Labels && v.Labels.all varOK)
  · rfl
  have h6 : decide ((v.Kids.length : Int) ≤ 4) = decide (v.Kids.length ≤ 4) := by
    by_cases h : v.Kids.length ≤ 4
    · simp [h]; omega
    · simp [h]; omega
  have hm : mapOK v = (decide (v.Keys.length = v.Kids.length) && (asc cK v.Keys && v.Keys.all keyOK)) := by
    unfold mapOK
    by_cases h : v.Keys.length = v.Kids.length <;> simp [h]
  have hm2 : ((v.Keys.length : Int) == (v.Kids.length : Int)) = decide (v.Keys.length = v.Kids.length) := by
    by_cases h : v.Keys.length = v.Kids.length
    · simp [h]
    · simp [h]; omega
  have hfu : funOK v = (!decide (v.Int_ < 0) && !decide (4 < v.Int_) && (asc cE v.Entries && v.Entries.all (entOK v.Int_))) := by
    unfold funOK
    by_cases h1 : v.Int_ < 0 <;> by_cases h2 : 4 < v.Int_
    · omega
    · have : ¬ 0 ≤ v.Int_ := by omega
      simp [h1, this]
    · have : ¬ v.Int_ ≤ 4 := by omega
      simp [h2, this]
    · have a : 0 ≤ v.Int_ := by omega
      have b : v.Int_ ≤ 4 := by omega
      simp [h1, h2, a, b]
  have hi : (v.Int_ != 0) = !(v.Int_ == 0) := rfl
  rw [hm2, hi, h6]
  simp only [onEnd, if_true]
  unfold fieldsOK kindOK
  rw [hm, hfu]
  generalize (asc cE v.Entries && v.Entries.all (entOK v.Int_)) = f
  generalize (asc cK v.Keys && v.Keys.all keyOK) = k
  generalize decide (v.Keys.length = v.Kids.length) = m
  generalize decide (v.Int_ < 0) = p
  generalize decide (4 < v.Int_) = r
  generalize strEq v.Text ⟨#[]⟩ = t
  generalize v.Keys.isEmpty = y
  generalize v.Entries.isEmpty = e
  generalize v.Kids.isEmpty = d
  generalize (v.Int_ == 0) = i
  generalize atomOK v.Text = a
  generalize decide ((v.Text.size : Int) ≤ 64) = z
  generalize consOK v.Kids = c
  generalize decide (0 ≤ v.Int_) = g
  generalize decide (v.Kids.length ≤ 4) = n
  by_cases hk : v.Kind = 1 ∨ v.Kind = 2 ∨ v.Kind = 3 ∨ v.Kind = 4 ∨ v.Kind = 5 ∨ v.Kind = 6 ∨ v.Kind = 7 ∨ v.Kind = 8 ∨ v.Kind = 9
  · rcases hk with h | h | h | h | h | h | h | h | h <;> rw [h] <;> cases i <;> cases t <;> cases d <;> cases y <;> cases e <;> simp
    all_goals first
      | rfl
      | (cases k <;> cases m <;> simp)
      | (cases p <;> cases r <;> cases f <;> simp)
  · simp only [not_or] at hk
    obtain ⟨h1, h2, h3, h4, h5, h6', h7, h8, h9⟩ := hk
    cases i <;> cases t <;> cases d <;> cases y <;> cases e <;> simp [h1, h2, h3, h4, h5, h6', h7, h8, h9]
theorem ref_valid_ok : ∀ (k : Nat) (v : Val), 2 * bulkV v ≤ k → bulkV v ≤ 4194304 → semtyperef1_Valid k v = some (vOK v)
  | 0, v, h, _ => by have := bulkV_pos v; omega
  | k + 1, v, h, hb => by
    have he := bulkV_eq v
    have hv := bulkVs_len v.Kids
    have hn := bulkEs_len v.Entries
    have hrec : ∀ x, bulkV x < bulkV v → semtyperef1_Valid k x = some (vOK x) := fun x hx => ref_valid_ok k x (by omega) (by omega)
    show semtyperef1_Valid_B (semtyperef1_Valid k) k v = _
    unfold semtyperef1_Valid_B
    rw [ref_node_ok k v (by omega) hb, vOK_eq, vsOK_all, esOK_all]
    simp only [Option.bind_some]
    have l1 : iter (semtyperef1_Valid_l1 (semtyperef1_Valid k) v) (v.Kids.length + 1) 0 = some (if v.Kids.all vOK = true then .inl (v.Kids.length : Int) else .inr false) := by
      refine first_ok v.Kids vOK false ?_ ?_
      · intro i x hx
        have hi : i < v.Kids.length := (List.getElem?_eq_some_iff.1 hx).1
        have hm := bulkVs_mem (List.mem_of_getElem? hx)
        unfold semtyperef1_Valid_l1
        rw [if_pos (decide_eq_true (by omega)), idx_at hx]
        simp only [Option.bind_some]
        rw [hrec x (by omega), w64_succ i (by omega)]
        exact flag_ok _ _
      · unfold semtyperef1_Valid_l1
        simp
    have l2 : iter (semtyperef1_Valid_l2 (semtyperef1_Valid k) v) (v.Entries.length + 1) 0 = some (if v.Entries.all eOK = true then .inl (v.Entries.length : Int) else .inr false) := by
      refine first_ok v.Entries eOK false ?_ ?_
      · intro i x hx
        have hi : i < v.Entries.length := (List.getElem?_eq_some_iff.1 hx).1
        have hm := bulkEs_mem (List.mem_of_getElem? hx)
        have hbe := bulkE_eq x
        have hal := bulkVs_len x.Args
        unfold semtyperef1_Valid_l2
        rw [if_pos (decide_eq_true (by omega)), idx_at hx]
        simp only [Option.bind_some]
        have l3 : iter (semtyperef1_Valid_l3 (semtyperef1_Valid k) x) (x.Args.length + 1) 0 = some (if x.Args.all vOK = true then .inl (x.Args.length : Int) else .inr false) := by
          refine first_ok x.Args vOK false ?_ ?_
          · intro j y hy
            have hj : j < x.Args.length := (List.getElem?_eq_some_iff.1 hy).1
            have hmy := bulkVs_mem (List.mem_of_getElem? hy)
            unfold semtyperef1_Valid_l3
            rw [if_pos (decide_eq_true (by omega)), idx_at hy]
            simp only [Option.bind_some]
            rw [hrec y (by omega), w64_succ j (by omega)]
            exact flag_ok _ _
          · unfold semtyperef1_Valid_l3
            simp
        rw [l3, hrec x.Result (by omega), eOK_eq, vsOK_all, w64_succ i (by omega)]
        simp only [Option.bind_some]
        cases x.Args.all vOK <;> cases x.Fails <;> cases vOK x.Result <;> rfl
      · unfold semtyperef1_Valid_l2
        simp
    rw [l1, l2]
    cases nodeOK v <;> cases v.Kids.all vOK <;> cases v.Entries.all eOK <;> rfl
theorem judged_ok (k : Nat) (v : Val) (h : 2 * bulkV v ≤ k) (hb : bulkV v ≤ 4194304) : semtypelaw4_judged k v = some true := by
  unfold semtypelaw4_judged
  rw [ref_valid_ok k v h hb, validate_ok k v h hb]
  cases vOK v <;> rfl

theorem law_valid (fuel : Nat) (hf : 8388608 ≤ fuel) (a0 : Val) (a1 : List Int) (a2 a3 : Int) (a4 : ByteArray) (hb : bulkV a0 + bulkStr a4 ≤ 1048576) : semtypelaw4_ValueValid fuel a0 a1 a2 a3 a4 = some true := by
  have aw : semtypelaw4_awake fuel = some true := by
    obtain ⟨n, rfl⟩ : ∃ n, fuel = n + 20 := ⟨fuel - 20, by omega⟩
    exact awake_ok n
  have sm : semtypelaw4_small fuel a0 = some (decide ((nodesV a0 : Int) ≤ 60)) := by
    unfold semtypelaw4_small
    rw [ref_Nodes_ok fuel a0 (by omega) (by omega)]
    rfl
  unfold semtypelaw4_ValueValid
  rw [sm, aw]
  simp only [Option.bind_some]
  cases decide ((nodesV a0 : Int) ≤ 60)
  · rfl
  simp only [Bool.not_true, Bool.false_eq_true, if_false]
  by_cases h1 : 60 < (a1.length : Int)
  · rw [if_pos (decide_eq_true h1)]
  rw [if_neg (by simpa using h1)]
  obtain ⟨v, hv, ho, hbv⟩ := drawn_ok fuel (by omega) a1 (by omega)
  have hbe := bulkV_eq v
  have hsl := bulkStrs_len v.Labels
  rw [hv]
  simp only [Option.bind_some]
  rw [room_ok (by simp only [List.length_nil]; omega), room_ok (by simp only [List.length_singleton]; omega)]
  simp only [Option.bind_some]
  have bs : bulkStrs (v.Labels ++ [a4]) = bulkStrs v.Labels + bulkStr a4 := by
    have : ∀ l : List ByteArray, bulkStrs (l ++ [a4]) = bulkStrs l + bulkStr a4 := by
      intro l
      induction l with
      | nil => simp [bulkStrs]
      | cons x r ih => simp only [List.cons_append, bulkStrs, ih]; omega
    exact this _
  rw [validate_ok fuel v (by omega) (by omega), ho, judged_ok fuel a0 (by omega) (by omega)]
  rw [judged_ok fuel (Val.mk a2 v.Int_ v.Text v.Kids v.Keys v.Entries v.Labels) (by simp only [bulkV]; omega) (by simp only [bulkV]; omega)]
  rw [judged_ok fuel (Val.mk v.Kind a3 v.Text v.Kids v.Keys v.Entries v.Labels) (by simp only [bulkV]; omega) (by simp only [bulkV]; omega)]
  rw [judged_ok fuel (Val.mk v.Kind v.Int_ a4 v.Kids v.Keys v.Entries v.Labels) (by simp only [bulkV]; omega) (by simp only [bulkV]; omega)]
  rw [judged_ok fuel (Val.mk v.Kind v.Int_ v.Text v.Kids v.Keys v.Entries (v.Labels ++ [a4])) (by simp only [bulkV, bs]; omega) (by simp only [bulkV, bs]; omega)]
  rfl
end Go.Sx
