/- Keys put in order by the library's sort, and keys inserted one after the other: one map. No program in sight. -/
import Derived.Test.YtdipagkcdpcnbaaGreatRDraw
import Derived.Test.YtdipagkcdpcnbaaGreatQSort
namespace Go.Pl
open Go Go.RowKit Go.Sx Go.Qx

theorem cS_eq {a b : ByteArray} (h : cS a b = 0) : a = b := by
  rcases cBs_tells a.data.toList b.data.toList with ⟨_, e, _⟩ | ⟨_, _, e⟩ | ⟨_, e, _⟩
  · have : cS a b = -1 := e
    omega
  · exact ByteArray.ext (Array.toList_inj.1 e)
  · have : cS a b = 1 := e
    omega
theorem cK_eq {a b : Key} (h : cK a b = 0) : a = b := by
  obtain ⟨k, t⟩ := a
  obtain ⟨k2, t2⟩ := b
  unfold cK tn at h
  simp only at h
  rcases cI_cases k k2 with ⟨_, e⟩ | ⟨_, e⟩ | ⟨p, e⟩
  · rw [e] at h; simp at h
  · rw [e] at h; simp at h
  · rw [e, if_pos rfl] at h
    rw [p, cS_eq h]
theorem cK_trans (a b c : Key) (h1 : cK a b ≤ 0) (h2 : cK b c ≤ 0) : cK a c ≤ 0 := by rw [cK_lx] at *; exact lx_trans _ _ _ h1 h2
theorem cK_strict {a b c : Key} (h1 : cK a b < 0) (h2 : cK b c ≤ 0) : cK a c < 0 := by
  have h3 := cK_trans a b c (by omega) h2
  by_cases h : cK a c = 0
  · have := cK_eq h
    subst this
    have := cK_anti a b
    omega
  · omega
abbrev ltK (a b : Key) : Prop := cK a b < 0
theorem asc_pw : ∀ l : List Key, asc cK l = true ↔ l.Pairwise ltK
  | [] => by simp [asc]
  | [a] => by simp [asc]
  | a :: b :: r => by
    have ih := asc_pw (b :: r)
    simp only [asc, Bool.and_eq_true, decide_eq_true_eq]
    rw [ih, List.pairwise_cons (a := a)]
    constructor
    · intro ⟨h1, h2⟩
      refine ⟨fun x hx => ?_, h2⟩
      rcases List.mem_cons.1 hx with rfl | hx
      · exact h1
      · have := (List.pairwise_cons.1 h2).1 x hx
        exact cK_strict h1 (by unfold ltK at this; omega)
    · intro ⟨h1, h2⟩
      exact ⟨h1 b (by simp), h2⟩
/-! ### one after the other, at the end -/
/-! ### insertions -/
end Go.Pl
