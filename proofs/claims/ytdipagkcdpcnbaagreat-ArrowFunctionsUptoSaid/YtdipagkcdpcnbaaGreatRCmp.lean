/- What the program's two comparisons compute. No program in sight. -/
import Derived.Test.YtdipagkcdpcnbaaGreatROrd
import Derived.Test.YtdipagkcdpcnbaaGreatRBase
import Derived.Lib.Bytealg
namespace Go.Pl
open Go Go.RowKit Go.Sx Go.Qx

theorem cmp_int_ok (a b : Int) : cmp_Compare_int a b = some (cI a b) := by
  unfold cmp_Compare_int cmp_isNaN_int
  simp only [bite, bne_self_eq_false, Option.bind_some, Bool.false_eq_true, if_false]
  rcases cI_cases a b with ⟨h, e⟩ | ⟨h, e⟩ | ⟨h, e⟩
  · rw [if_pos (by simpa using h), e]
  · rw [if_neg (by simp; omega), if_pos (by simpa using h), e]
  · rw [if_neg (by simp; omega), if_neg (by simp; omega), e]
theorem cmp_int64_ok (a b : Int) : cmp_Compare_int64 a b = some (cI a b) := by
  unfold cmp_Compare_int64 cmp_isNaN_int64
  simp only [bite, bne_self_eq_false, Option.bind_some, Bool.false_eq_true, if_false]
  rcases cI_cases a b with ⟨h, e⟩ | ⟨h, e⟩ | ⟨h, e⟩
  · rw [if_pos (by simpa using h), e]
  · rw [if_neg (by simp; omega), if_pos (by simpa using h), e]
  · rw [if_neg (by simp; omega), if_neg (by simp; omega), e]
theorem ref_order_ok (a b : Int) : semtyperef1_Order a b = some (cI a b) := by
  unfold semtyperef1_Order
  simp only [bite]
  rcases cI_cases a b with ⟨h, e⟩ | ⟨h, e⟩ | ⟨h, e⟩
  · rw [if_pos (by simpa using h), e]
  · rw [if_neg (by simp; omega), if_pos (by simpa using h), e]
  · rw [if_neg (by simp; omega), if_neg (by simp; omega), e]
theorem ref_count_ok (a b : Int) : semtyperef1_count a b = some (cI a b) := by
  unfold semtyperef1_count; rw [ref_order_ok]; rfl
theorem cBs_cmp : ∀ a b : List UInt8, Lib.compareBytes a b = cBs a b
  | [], [] => rfl
  | [], _ :: _ => rfl
  | _ :: _, [] => rfl
  | x :: xs, y :: ys => by
    have ih := cBs_cmp xs ys
    simp only [Lib.compareBytes, cBs, UInt8.lt_iff_toNat_lt]
    rcases cI_cases (x.toNat : Int) (y.toNat : Int) with ⟨h, e⟩ | ⟨h, e⟩ | ⟨h, e⟩
    · rw [if_pos (by omega), e]; rfl
    · rw [if_neg (by omega), if_pos (by omega), e]; rfl
    · rw [if_neg (by omega), if_neg (by omega), e, zero_tn, ih]
theorem cmp_str_ok (a b : ByteArray) : strings_Compare a b = some (cS a b) := by
  unfold strings_Compare internal_bytealg_CompareString cmpF strCmp
  rw [cBs_cmp]; rfl
theorem cBs_tells : ∀ a b : List UInt8, (Op.bytesLess a b = true ∧ cBs a b = -1 ∧ a ≠ b) ∨ (Op.bytesLess a b = false ∧ cBs a b = 0 ∧ a = b) ∨ (Op.bytesLess a b = false ∧ cBs a b = 1 ∧ a ≠ b)
  | [], [] => by simp [Op.bytesLess, cBs]
  | [], _ :: _ => by simp [Op.bytesLess, cBs]
  | _ :: _, [] => by simp [Op.bytesLess, cBs]
  | x :: xs, y :: ys => by
    have ih := cBs_tells xs ys
    simp only [Op.bytesLess, cBs]
    rcases cI_cases (x.toNat : Int) (y.toNat : Int) with ⟨h, e⟩ | ⟨h, e⟩ | ⟨h, e⟩
    · have h1 : x < y := UInt8.lt_iff_toNat_lt.2 (by omega)
      have h2 : x ≠ y := by intro h3; subst h3; omega
      simp [e, h1, h2, tn]
    · have h1 : ¬ x < y := fun h3 => by have := UInt8.lt_iff_toNat_lt.1 h3; omega
      have h2 : x ≠ y := by intro h3; subst h3; omega
      simp [e, h1, h2, tn]
    · have h2 : x = y := UInt8.toNat_inj.1 (by omega)
      subst h2
      have h1 : ¬ x < x := fun h3 => by have := UInt8.lt_iff_toNat_lt.1 h3; omega
      simpa [e, h1, tn] using ih
theorem str_tells (a b : ByteArray) : (strLt a b = true ∧ strEq a b = false ∧ cS a b = -1) ∨ (strLt a b = false ∧ strEq a b = true ∧ cS a b = 0) ∨ (strLt a b = false ∧ strEq a b = false ∧ cS a b = 1) := by
  unfold strLt strEq cS
  rw [Lib.toList_data, Lib.toList_data]
  rcases cBs_tells a.data.toList b.data.toList with ⟨h, e, n⟩ | ⟨h, e, n⟩ | ⟨h, e, n⟩
  · left; exact ⟨h, by simpa using n, e⟩
  · right; left; exact ⟨h, by simpa using n, e⟩
  · right; right; exact ⟨h, by simpa using n, e⟩
theorem ref_text_ok (a b : ByteArray) : semtyperef1_Text a b = some (cS a b) := by
  unfold semtyperef1_Text
  rcases str_tells a b with ⟨h, k, e⟩ | ⟨h, k, e⟩ | ⟨h, k, e⟩ <;> simp [h, k, e]
theorem nz_ok {x y : Int} {o : Option Int} (h : o = some y) : (bif (x != 0) then some x else o) = some (tn x y) := by
  rw [bite]
  unfold tn
  by_cases hx : x = 0
  · subst hx; simp [h]
  · simp [hx]
theorem ne_ok {a b y : Int} {o : Option Int} (h : o = some y) : (bif (a != b) then some (cI a b) else o) = some (tn (cI a b) y) := by
  rw [bite]
  unfold tn
  rcases cI_cases a b with ⟨p, e⟩ | ⟨p, e⟩ | ⟨p, e⟩
  · have : a ≠ b := by omega
    simp [this, e]
  · have : a ≠ b := by omega
    simp [this, e]
  · simp [p, h]
    subst p
    intro h2; rw [e] at h2; exact absurd rfl h2
theorem tx_ok {a b : ByteArray} {y : Int} {o : Option Int} (h : o = some y) : (bif (!strEq a b) then (Option.bind (semtyperef1_Text a b) fun r => some r) else o) = some (tn (cS a b) y) := by
  rw [bite, ref_text_ok, h]
  rcases str_tells a b with ⟨_, p, e⟩ | ⟨_, p, e⟩ | ⟨_, p, e⟩ <;> simp [p, e, tn]
theorem cmp_keys_ok (a b : Key) : ident_CompareKeys a b = some (cK a b) := by
  unfold ident_CompareKeys
  rw [cmp_int_ok]
  simp only [Option.bind_some]
  exact nz_ok (by rw [cmp_str_ok]; rfl)
theorem ref_keys_ok (a b : Key) : semtyperef1_CompareKeys a b = some (cK a b) := by
  unfold semtyperef1_CompareKeys
  rw [ref_order_ok]
  exact ne_ok (by rw [ref_text_ok]; rfl)

/-- A loop that compares two rows of one length. -/
theorem cmp_loop {α : Type} {step : Int → Option (Fl Int (Sum Unit Int))} {rc : α → α → Option Int} {c : α → α → Int} (xs ys : List α) (hlen : xs.length = ys.length)
    (hst : ∀ q, step q = bif decide (q < (xs.length : Int)) then Option.bind (idx xs q) fun x => Option.bind (idx ys q) fun y => Option.bind (rc x y) fun r =>
      bif r != 0 then some (.done (.inr r)) else some (.next (wr .i64 (q + 1))) else some (.done (.inl ())))
    (hrc : ∀ x ∈ xs, ∀ y, rc x y = some (c x y)) (hl : xs.length ≤ 4194304) :
    ∃ o, iter step (xs.length + 1) 0 = some o ∧ ((o = .inl () ∧ cL c xs ys = 0) ∨ (o = .inr (cL c xs ys) ∧ cL c xs ys ≠ 0)) := by
  have key : ∀ (n i k : Nat), i + n = xs.length → n + 1 ≤ k →
      ∃ o, iter step k (i : Int) = some o ∧ ((o = .inl () ∧ cL c (xs.drop i) (ys.drop i) = 0) ∨ (o = .inr (cL c (xs.drop i) (ys.drop i)) ∧ cL c (xs.drop i) (ys.drop i) ≠ 0)) := by
    intro n
    induction n with
    | zero =>
      intro i k hi hk
      obtain ⟨k, rfl⟩ : ∃ m, k = m + 1 := ⟨k - 1, by omega⟩
      refine ⟨.inl (), ?_, .inl ⟨rfl, ?_⟩⟩
      · simp only [iter, hst, bite]
        rw [if_neg (by simp; omega)]
        rfl
      · rw [List.drop_eq_nil_of_le (by omega)]; simp [cL]
    | succ n ih =>
      intro i k hi hk
      obtain ⟨k, rfl⟩ : ∃ m, k = m + 1 := ⟨k - 1, by omega⟩
      have hx : i < xs.length := by omega
      have hy : i < ys.length := by omega
      rw [List.drop_eq_getElem_cons hx, List.drop_eq_getElem_cons hy]
      have e : step (i : Int) = if (c xs[i] ys[i] != 0) = true then some (.done (.inr (c xs[i] ys[i]))) else some (.next (w64 ((i : Int) + 1))) := by
        rw [hst]
        simp only [bite, wr64]
        rw [if_pos (by simp; omega), idx_at (List.getElem?_eq_getElem hx), idx_at (List.getElem?_eq_getElem hy)]
        simp only [Option.bind_some]
        rw [hrc _ (List.getElem_mem hx)]
        rfl
      simp only [iter, e, cL]
      by_cases h0 : c xs[i] ys[i] = 0
      · rw [h0, zero_tn, w64_id (x := (i : Int) + 1) (by omega) (by omega)]
        obtain ⟨o, ho, hp⟩ := ih (i + 1) k (by omega) (by omega)
        refine ⟨o, ?_, hp⟩
        simpa using ho
      · have ht : tn (c xs[i] ys[i]) (cL c (xs.drop (i + 1)) (ys.drop (i + 1))) = c xs[i] ys[i] := by simp [tn, h0]
        rw [ht]
        refine ⟨.inr (c xs[i] ys[i]), ?_, .inr ⟨rfl, h0⟩⟩
        simp [h0]
  obtain ⟨o, h1, h2⟩ := key xs.length 0 (xs.length + 1) (by omega) (Nat.le_refl _)
  exact ⟨o, by simpa using h1, by simpa using h2⟩
theorem loop_ok {α : Type} {step : Int → Option (Fl Int (Sum Unit Int))} {rc : α → α → Option Int} {c : α → α → Int} (xs ys : List α) (hlen : xs.length = ys.length)
    (hst : ∀ q, step q = bif decide (q < (xs.length : Int)) then Option.bind (idx xs q) fun x => Option.bind (idx ys q) fun y => Option.bind (rc x y) fun r =>
      bif r != 0 then some (.done (.inr r)) else some (.next (wr .i64 (q + 1))) else some (.done (.inl ())))
    (hrc : ∀ x ∈ xs, ∀ y, rc x y = some (c x y)) (hl : xs.length ≤ 4194304) {f : Unit → Option Int} {z : Int} (hf : ∀ q, f q = some z) :
    (Option.bind (iter step (((xs.length : Int)).toNat + 1) 0) fun b => onEnd f (fun r => some r) b) = some (tn (cL c xs ys) z) := by
  obtain ⟨o, h1, h2⟩ := cmp_loop xs ys hlen hst hrc hl
  rw [natLen, h1]
  rcases h2 with ⟨rfl, h⟩ | ⟨rfl, h⟩
  · simp [onEnd, hf, h, tn]
  · simp [onEnd, h, tn]
theorem lists_ok {α : Type} {step : Int → Option (Fl Int (Sum Unit Int))} {rc : α → α → Option Int} {c : α → α → Int} (xs ys : List α)
    (hst : ∀ q, step q = bif decide (q < (xs.length : Int)) then Option.bind (idx xs q) fun x => Option.bind (idx ys q) fun y => Option.bind (rc x y) fun r =>
      bif r != 0 then some (.done (.inr r)) else some (.next (wr .i64 (q + 1))) else some (.done (.inl ())))
    (hrc : ∀ x ∈ xs, ∀ y, rc x y = some (c x y)) (hl : xs.length ≤ 4194304) :
    (Option.bind (cmp_Compare_int (xs.length : Int) (ys.length : Int)) fun r7 => bif r7 != 0 then some r7 else
      (Option.bind (iter step (((xs.length : Int)).toNat + 1) 0) fun b => onEnd (fun _ => some 0) (fun r => some r) b)) = some (cN c xs ys) := by
  rw [cmp_int_ok]
  simp only [Option.bind_some, cN]
  rcases cI_cases (xs.length : Int) (ys.length : Int) with ⟨_, e⟩ | ⟨_, e⟩ | ⟨p, e⟩
  · simp [e, tn]
  · simp [e, tn]
  · rw [loop_ok xs ys (by omega) hst hrc hl (z := 0) (fun _ => rfl), tn_zero, e]
    simp [tn]
theorem refs_ok {α : Type} {step : Int → Option (Fl Int (Sum Unit Int))} {rc : α → α → Option Int} {c : α → α → Int} (xs ys : List α)
    (hst : ∀ q, step q = bif decide (q < (xs.length : Int)) then Option.bind (idx xs q) fun x => Option.bind (idx ys q) fun y => Option.bind (rc x y) fun r =>
      bif r != 0 then some (.done (.inr r)) else some (.next (wr .i64 (q + 1))) else some (.done (.inl ())))
    (hrc : ∀ x ∈ xs, ∀ y, rc x y = some (c x y)) (hl : xs.length ≤ 4194304) {f : Unit → Option Int} {z : Int} (hf : ∀ q, f q = some z) :
    (bif ((xs.length : Int) != (ys.length : Int)) then (Option.bind (semtyperef1_count (xs.length : Int) (ys.length : Int)) fun r => some r) else
      (Option.bind (iter step (((xs.length : Int)).toNat + 1) 0) fun b => onEnd f (fun r => some r) b)) = some (tn (cN c xs ys) z) := by
  rw [bite, ref_count_ok]
  simp only [Option.bind_some, cN]
  rcases cI_cases (xs.length : Int) (ys.length : Int) with ⟨p, e⟩ | ⟨p, e⟩ | ⟨p, e⟩
  · have : ((xs.length : Int) != (ys.length : Int)) = true := by simp; omega
    rw [if_pos this, e]; rfl
  · have : ((xs.length : Int) != (ys.length : Int)) = true := by simp; omega
    rw [if_pos this, e]; rfl
  · rw [if_neg (by simp; omega), loop_ok xs ys (by omega) hst hrc hl hf, e, zero_tn]

theorem compare_ok : ∀ (k : Nat),
    (∀ a b, 2 * bulkV a ≤ k → bulkV a ≤ 4194304 → value_Compare k a b = some (cV a b)) ∧
    (∀ xs ys, 2 * bulkVs xs + 1 ≤ k → bulkVs xs ≤ 4194304 → value_compareValues k xs ys = some (cN cV xs ys)) ∧
    (∀ a b, 2 * bulkE a ≤ k → bulkE a ≤ 4194304 → value_compareEntries k a b = some (cE a b))
  | 0 => ⟨fun v _ h => by have := bulkV_pos v; omega, fun _ _ h => by omega, fun v _ h => by have := bulkE_eq v; omega⟩
  | k + 1 => by
    obtain ⟨i1, i2, i3⟩ := compare_ok k
    refine ⟨?_, ?_, ?_⟩
    · intro a b h hb
      show value_Compare_B k (value_Compare k) (value_compareEntries k) (value_compareValues k) a b = _
      have hbe := bulkV_eq a
      have hk := bulkKeys_len a.Keys
      have hs := bulkStrs_len a.Labels
      have he := bulkEs_len a.Entries
      unfold value_Compare_B
      simp only [bsome]
      rw [cV_eq, cmp_int_ok, cmp_int64_ok, cmp_str_ok]
      simp only [Option.bind_some]
      refine nz_ok (nz_ok (nz_ok ?_))
      unfold value_compareLists_api_Key
      rw [lists_ok (step := value_compareLists_api_Key_l1 a.Keys b.Keys fun x y => ident_CompareKeys x y) a.Keys b.Keys (rc := ident_CompareKeys) (c := cK) (fun q => rfl) (fun x _ y => cmp_keys_ok x y) (by omega)]
      simp only [Option.bind_some]
      refine nz_ok ?_
      rw [i2 a.Kids b.Kids (by omega) (by omega)]
      simp only [Option.bind_some]
      refine nz_ok ?_
      unfold value_compareLists_api_Entry
      rw [lists_ok (step := value_compareLists_api_Entry_l1 a.Entries b.Entries fun x y => value_compareEntries k x y) a.Entries b.Entries (rc := value_compareEntries k) (c := cE) (fun q => rfl) (fun x hx y => i3 x y (by have := bulkEs_mem hx; omega) (by have := bulkEs_mem hx; omega)) (by omega)]
      simp only [Option.bind_some]
      refine nz_ok ?_
      unfold value_compareLists_string
      rw [lists_ok (step := value_compareLists_string_l1 a.Labels b.Labels fun x y => strings_Compare x y) a.Labels b.Labels (rc := strings_Compare) (c := cS) (fun q => rfl) (fun x _ y => cmp_str_ok x y) (by omega)]
    · intro xs ys h hb
      show value_compareValues_B k (value_Compare k) (value_compareEntries k) (value_compareValues k) xs ys = _
      have hl := bulkVs_len xs
      unfold value_compareValues_B value_compareLists_api_Value
      simp only [bsome]
      rw [lists_ok (step := value_compareLists_api_Value_l1 xs ys fun x y => value_Compare k x y) xs ys (rc := value_Compare k) (c := cV) (fun q => rfl) (fun x hx y => i1 x y (by have := bulkVs_mem hx; omega) (by have := bulkVs_mem hx; omega)) (by omega)]
    · intro a b h hb
      show value_compareEntries_B k (value_Compare k) (value_compareEntries k) (value_compareValues k) a b = _
      have hbe := bulkE_eq a
      unfold value_compareEntries_B
      rw [cE_eq, i2 a.Args b.Args (by omega) (by omega), i1 a.Result b.Result (by omega) (by omega)]
      simp only [Option.bind_some]
      refine nz_ok ?_
      cases a.Fails <;> cases b.Fails <;> simp [bI, cI, tn]
theorem ref_compare_ok : ∀ (k : Nat),
    (∀ a b, 2 * bulkV a ≤ k → bulkV a ≤ 4194304 → semtyperef1_Compare k a b = some (cV a b)) ∧
    (∀ xs ys, 2 * bulkVs xs + 1 ≤ k → bulkVs xs ≤ 4194304 → semtyperef1_values k xs ys = some (cN cV xs ys)) ∧
    (∀ a b, 2 * bulkE a ≤ k → bulkE a ≤ 4194304 → semtyperef1_CompareEntries k a b = some (cE a b))
  | 0 => ⟨fun v _ h => by have := bulkV_pos v; omega, fun _ _ h => by omega, fun v _ h => by have := bulkE_eq v; omega⟩
  | k + 1 => by
    obtain ⟨i1, i2, i3⟩ := ref_compare_ok k
    refine ⟨?_, ?_, ?_⟩
    · intro a b h hb
      show semtyperef1_Compare_B k (semtyperef1_Compare k) (semtyperef1_values k) (semtyperef1_CompareEntries k) a b = _
      have hbe := bulkV_eq a
      have hk := bulkKeys_len a.Keys
      have hs := bulkStrs_len a.Labels
      have he := bulkEs_len a.Entries
      unfold semtyperef1_Compare_B
      rw [cV_eq, ref_count_ok, ref_order_ok]
      simp only [Option.bind_some]
      refine ne_ok (ne_ok (tx_ok ?_))
      refine refs_ok (step := semtyperef1_Compare_l1 a b) a.Keys b.Keys (rc := semtyperef1_CompareKeys) (c := cK) (fun q => rfl) (fun x _ y => ref_keys_ok x y) (by omega) ?_
      intro _
      rw [i2 a.Kids b.Kids (by omega) (by omega)]
      simp only [Option.bind_some]
      refine nz_ok ?_
      refine refs_ok (step := semtyperef1_Compare_l2 a b (semtyperef1_CompareEntries k)) a.Entries b.Entries (rc := semtyperef1_CompareEntries k) (c := cE) (fun q => rfl) (fun x hx y => i3 x y (by have := bulkEs_mem hx; omega) (by have := bulkEs_mem hx; omega)) (by omega) ?_
      intro _
      have := refs_ok (step := semtyperef1_Compare_l3 a b) a.Labels b.Labels (rc := semtyperef1_Text) (c := cS) (z := 0) (fun q => rfl) (fun x _ y => ref_text_ok x y) (by omega) (f := fun _ => some 0) (fun _ => rfl)
      rw [tn_zero] at this
      exact this
    · intro xs ys h hb
      show semtyperef1_values_B k (semtyperef1_Compare k) (semtyperef1_values k) (semtyperef1_CompareEntries k) xs ys = _
      have hl := bulkVs_len xs
      unfold semtyperef1_values_B
      rw [refs_ok (step := semtyperef1_values_l1 xs ys (semtyperef1_Compare k)) xs ys (rc := semtyperef1_Compare k) (c := cV) (z := 0) (fun q => rfl) (fun x hx y => i1 x y (by have := bulkVs_mem hx; omega) (by have := bulkVs_mem hx; omega)) (by omega) (fun _ => rfl), tn_zero]
    · intro a b h hb
      show semtyperef1_CompareEntries_B k (semtyperef1_Compare k) (semtyperef1_values k) (semtyperef1_CompareEntries k) a b = _
      have hbe := bulkE_eq a
      unfold semtyperef1_CompareEntries_B
      rw [cE_eq, i2 a.Args b.Args (by omega) (by omega), i1 a.Result b.Result (by omega) (by omega)]
      simp only [Option.bind_some]
      refine nz_ok ?_
      cases a.Fails <;> cases b.Fails <;> simp [bI, cI, tn]

end Go.Pl
