/- Sorted labels, by the reference. No program in sight. -/
import Derived.Test.YtdipagkcdpcnbaaGreatRLabA
namespace Go.Pl
open Go Go.RowKit Go.Sx Go.Qx

theorem strEq_cS (x y : ByteArray) : strEq x y = decide (cS x y = 0) := by
  rcases str_tells x y with ⟨_, h, e⟩ | ⟨_, h, e⟩ | ⟨_, h, e⟩ <;> simp [h, e]
theorem strLt_cS (x y : ByteArray) : strLt x y = decide (cS x y < 0) := by
  rcases str_tells x y with ⟨h, _, e⟩ | ⟨h, _, e⟩ | ⟨h, _, e⟩ <;> simp [h, e]
theorem sorted_step (l out : List ByteArray) (i : Nat) (x : ByteArray) (hx : l[i]? = some x) (hl : out.length ≤ 4194304) (hi : i ≤ 4194304) :
    semtyperef1_Sorted_l2 l (out, (i : Int)) = some (.next (insU cS out x, ((i + 1 : Nat) : Int))) := by
  have hlt : i < l.length := (List.getElem?_eq_some_iff.1 hx).1
  have hix : idx l (i : Int) = some x := idx_at hx
  unfold semtyperef1_Sorted_l2
  simp only [natLen]
  rw [pos_ok (step := semtyperef1_Sorted_l1 l (out, (i : Int))) out (fun y => decide (cS y x < 0)) ?_ ?_]
  · simp only [bite, wr64]
    rw [if_pos (by simp; omega)]
    simp only [Option.bind_some, hix]
    have hk := tw_len (fun y => decide (cS y x < 0)) out
    have hat := tw_at (fun y => decide (cS y x < 0)) out
    have go : (Option.bind (cut out 0 ((out.takeWhile (fun y => decide (cS y x < 0))).length : Int)) fun u => Option.bind (room (0 + u.length) 16) fun _ =>
      Option.bind (room (u.length + [x].length) 16) fun _ => Option.bind (cut out ((out.takeWhile (fun y => decide (cS y x < 0))).length : Int) (out.length : Int)) fun w =>
      Option.bind (room ((u ++ [x]).length + w.length) 16) fun _ => some ((u ++ [x]) ++ w)) = some (insAt (fun y => decide (cS y x < 0)) x out) :=
      ins_go out x _ 16 (by omega) hl (fun l => some l)
    rw [w64_succ i (by omega), go]
    unfold insU
    cases hh : (out.dropWhile (fun y => decide (cS y x < 0))).head? with
    | none =>
      rw [hh] at hat
      have hge := List.getElem?_eq_none_iff.1 hat
      rw [if_neg (by simp; omega)]
      rfl
    | some y =>
      rw [hh] at hat
      have hlt2 := (List.getElem?_eq_some_iff.1 hat).1
      rw [if_pos (by simp; omega), idx_at hat]
      simp only [Option.bind_some, strEq_cS]
      by_cases h0 : cS y x = 0
      · rw [if_pos (by simp [h0]), if_pos h0]
        rfl
      · rw [if_neg (by simp [h0]), if_neg h0]
        rfl
  · intro j y hy
    have hj : j < out.length := (List.getElem?_eq_some_iff.1 hy).1
    unfold semtyperef1_Sorted_l1
    simp only [bite, wr64]
    rw [if_pos (by simp; omega), idx_at hy, hix]
    simp only [Option.bind_some, strLt_cS, w64_succ j (by omega)]
    by_cases h : cS y x < 0 <;> simp [h]
  · unfold semtyperef1_Sorted_l1
    simp
theorem insU_len {α : Type} (c : α → α → Int) (out : List α) (x : α) : (insU c out x).length ≤ out.length + 1 := by
  unfold insU
  split
  · split
    · omega
    · rw [insAt_len]; omega
  · rw [insAt_len]; omega
theorem sorted_ok (l : List ByteArray) (hl : l.length ≤ 4194304) : semtyperef1_Sorted l = some (l.foldl (insU cS) []) := by
  unfold semtyperef1_Sorted
  have key := iter_fold (σ := List ByteArray) (step := semtyperef1_Sorted_l2 l) l (fun s i => (s, (i : Int))) (insU cS) (fun i s => s.length ≤ i) (fun s => s)
    ?_ ?_ [] (by simp) _ (Nat.le_refl _)
  · have e : iter (semtyperef1_Sorted_l2 l) (l.length + 1) (([] : List ByteArray), 0) = iter (semtyperef1_Sorted_l2 l) (l.length + 1) (([] : List ByteArray), ((0 : Nat) : Int)) := rfl
    rw [natLen, e, key]
    rfl
  · intro i s x hx hI
    have hi : i < l.length := (List.getElem?_eq_some_iff.1 hx).1
    refine ⟨sorted_step l s i x hx (by omega) (by omega), ?_⟩
    have := insU_len cS s x
    omega
  · intro s _
    unfold semtyperef1_Sorted_l2
    simp

/-! ### entries -/
theorem bulkStrs_app (a b : List ByteArray) : bulkStrs (a ++ b) = bulkStrs a + bulkStrs b := by
  induction a with
  | nil => simp [bulkStrs]
  | cons x r ih => simp only [List.cons_append, bulkStrs, ih]; omega
theorem insU_bulk (out : List ByteArray) (x : ByteArray) : bulkStrs (insU cS out x) ≤ bulkStrs out + bulkStr x := by
  have hk : ∀ p : ByteArray → Bool, bulkStrs (insAt p x out) = bulkStrs out + bulkStr x := fun p => by
    have e := congrArg bulkStrs (List.takeWhile_append_dropWhile (p := p) (l := out))
    rw [bulkStrs_app] at e
    simp only [insAt, bulkStrs_app, bulkStrs]
    omega
  unfold insU
  split
  · split
    · omega
    · rw [hk]; omega
  · rw [hk]; omega
theorem foldU_bulk : ∀ (l out : List ByteArray), bulkStrs (l.foldl (insU cS) out) ≤ bulkStrs out + bulkStrs l
  | [], out => by simp [bulkStrs]
  | x :: r, out => by
    have h1 := foldU_bulk r (insU cS out x)
    have h2 := insU_bulk out x
    simp only [List.foldl_cons, bulkStrs]
    omega
end Go.Pl
