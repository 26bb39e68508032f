/- Which names the reference takes for variables. No program in sight. -/
import Derived.Test.YtdipagkcdpcnbaaGreatRMap
namespace Go.Pl
open Go Go.RowKit Go.Sx Go.Qx

theorem ref_up_ok (c : UInt8) : semtyperef1_upper (c.toNat : Int) = some (upC c) := by
  unfold semtyperef1_upper upC
  cases decide (65 ≤ (c.toNat : Int)) <;> simp
theorem ref_var_ok (s : ByteArray) : semtyperef1_IsVariable s = some (varOK s) := by
  unfold semtyperef1_IsVariable varOK nameOK
  simp only [bite, natSize]
  have hsz := size_list s
  cases hs : s.data.toList with
  | nil =>
    rw [hs] at hsz
    rw [hsz]
    simp
  | cons c r =>
    rw [hs] at hsz
    simp only [List.length_cons] at hsz
    have e1 : decide ((s.size : Int) < 1) = false := by simp; omega
    rw [e1]
    simp only [Bool.false_eq_true, if_false, Option.bind_some]
    by_cases hb : 16 < (s.size : Int)
    · rw [if_pos (by simpa using hb)]
      have : decide (r.length ≤ 15) = false := by simp; omega
      rw [this]; rfl
    · rw [if_neg (by simpa using hb)]
      have e2 : decide (r.length ≤ 15) = true := by simp; omega
      have e3 : sidx s 0 = some c := sidx_at (i := 0) (by rw [hs]; rfl)
      rw [e2, e3]
      simp only [Option.bind_some, ref_up_ok, Bool.true_and]
      cases upC c
      · rfl
      · simp only [Bool.not_true, Bool.false_eq_true, if_false, Bool.true_and]
        refine all_from s.size (fun i => match s.data.toList[i]? with | some x => (lowC x || upC x || digC x || (x.toNat : Int) == 95) | none => true) ?_ ?_ 1 _ ?_
        · intro i hi
          have hi' : i < s.data.toList.length := by rw [hs]; simp; omega
          unfold semtyperef1_IsVariable_l1
          simp only [bite, wr64]
          rw [if_pos (by simp; omega), sidx_at (List.getElem?_eq_getElem hi')]
          simp only [Option.bind_some, ref_low_ok, ref_dig_ok, ref_up_ok]
          rw [List.getElem?_eq_getElem hi', w64_succ i (by omega)]
          generalize s.data.toList[i] = x
          have hn : ((x.toNat : Int) != 95) = !((x.toNat : Int) == 95) := rfl
          rw [hn]
          show _ = some (if (lowC x || upC x || digC x || (x.toNat : Int) == 95) = true then _ else _)
          cases lowC x <;> cases upC x <;> cases digC x <;> cases (x.toNat : Int) == 95 <;> rfl
        · intro i hi
          unfold semtyperef1_IsVariable_l1
          rw [bite, if_neg (by simp; omega)]
        · rw [hs, List.all_eq_true]
          constructor
          · intro h i h1 hi
            obtain ⟨i, rfl⟩ : ∃ m, i = m + 1 := ⟨i - 1, by omega⟩
            have hr : i < r.length := by omega
            simp only [List.getElem?_cons_succ, List.getElem?_eq_getElem hr]
            exact h _ (List.getElem_mem hr)
          · intro h x hx
            obtain ⟨i, hi, rfl⟩ := List.getElem_of_mem hx
            have := h (i + 1) (by omega) (by omega)
            simpa only [List.getElem?_cons_succ, List.getElem?_eq_getElem hi] using this
end Go.Pl
