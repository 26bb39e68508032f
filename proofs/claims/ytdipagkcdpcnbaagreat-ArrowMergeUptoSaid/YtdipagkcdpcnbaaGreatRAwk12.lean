/- The sanity check of the laws on functions; small parts. No program in sight. -/
import Derived.Test.YtdipagkcdpcnbaaGreatRMemT
import Derived.KernelRfl
namespace Go.Pl
open Go Go.RowKit Go.Sx Go.Qx

theorem awake12 (n : Nat) : semtypelaw12_awake (n + 60) = some true := by kernel_rfl
/-- A loop that only goes on. -/
theorem tot_loop {σ τ : Type} {step : σ × Int → Option (Fl (σ × Int) τ)} (n : Nat) (hst : ∀ (j : Nat) (s : σ), j < n → ∃ s', step (s, (j : Int)) = some (.next (s', ((j + 1 : Nat) : Int)))) (hend : ∀ s, ∃ r, step (s, (n : Int)) = some (.done r)) (s : σ) : ∃ r, iter step (n + 1) (s, 0) = some r := by
  have key : ∀ (m a k : Nat) (s : σ), a + m = n → m + 1 ≤ k → ∃ r, iter step k (s, (a : Int)) = some r := by
    intro m
    induction m with
    | zero =>
      intro a k s h1 h2
      obtain ⟨k, rfl⟩ : ∃ m, k = m + 1 := ⟨k - 1, by omega⟩
      have e : a = n := by omega
      subst e
      obtain ⟨r, hr⟩ := hend s
      exact ⟨r, by simp only [iter, hr, Option.bind_some]⟩
    | succ m ih =>
      intro a k s h1 h2
      obtain ⟨k, rfl⟩ : ∃ m, k = m + 1 := ⟨k - 1, by omega⟩
      obtain ⟨s', hs⟩ := hst a s (by omega)
      simp only [iter, hs, Option.bind_some]
      exact ih (a + 1) k s' (by omega) (by omega)
  exact key n 0 (n + 1) s (by omega) (Nat.le_refl _)
theorem short_ok (l : List (List Int)) (hl : l.length ≤ 1000) : semtypelaw12_short l = some (l.all fun x => !decide (80 < (x.length : Int))) := by
  have l1 := first_ok (step := semtypelaw12_short_l1 l) l (fun x => !decide (80 < (x.length : Int))) (fun i => (i : Int)) () false (fun i x hx => by
    have hi : i < l.length := (List.getElem?_eq_some_iff.1 hx).1
    unfold semtypelaw12_short_l1
    rw [lt_true hi, idx_at hx]
    simp only [cond_true, Option.bind_some, wr64]
    rw [w64_succ i (by omega)]
    cases decide (80 < (x.length : Int)) <;> rfl) (by
    unfold semtypelaw12_short_l1
    simp)
  have l1' : iter (semtypelaw12_short_l1 l) (l.length + 1) 0 = _ := l1
  unfold semtypelaw12_short
  rw [natLen, l1']
  cases l.all fun x => !decide (80 < (x.length : Int)) <;> rfl
theorem root_in {T : Api_Type} {N a : Nat} (h : MadeT T N a) : inR T.Nodes.length T.Root = true := by
  have h1 := h.len
  have h2 := h.pos
  rw [h.root]
  exact inR_of (by omega) (by omega)
end Go.Pl
