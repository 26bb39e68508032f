/- The sanity check of the laws on functions; small parts. No program in sight. -/
import Derived.Test.YtdipagkcdpcnbaaGreatRMemT
import Derived.KernelRfl
namespace Go.Pl
open Go Go.RowKit Go.Sx Go.Qx

theorem sortInt1 (x : Int) : sortInt [x] = some ((), [x]) := by
  unfold sortInt sortIntG
  simp
theorem sortInt0 : sortInt [] = some ((), []) := by
  unfold sortInt sortIntG
  simp
theorem sorted1_ok (x : Int) : core_Sorted [x] = some [x] := by
  unfold core_Sorted
  have : cloneF 8 [x] = some [x] := rfl
  rw [this]
  simp only [Option.bind_some]
  rw [sortInt1]
  rfl
theorem sorted0_ok : core_Sorted [] = some [] := by
  unfold core_Sorted
  have : cloneF 8 ([] : List Int) = some [] := rfl
  rw [this]
  simp only [Option.bind_some]
  rw [sortInt0]
  rfl
theorem awake12 (n : Nat) : semtypelaw12_awake (n + 60) = some true := by kernel_rfl
/-- A loop that only goes on. -/
theorem tot_loop {σ τ : Type} {step : σ × Int → Option (Fl (σ × Int) τ)} (n : Nat) (hst : ∀ (j : Nat) (s : σ), j < n → ∃ s', step (s, (j : Int)) = some (.next (s', ((j + 1 : Nat) : Int)))) (hend : ∀ s, ∃ r, step (s, (n : Int)) = some (.done r)) (s : σ) : ∃ r, iter step (n + 1) (s, 0) = some r := by
  have key : ∀ (m a k : Nat) (s : σ), a + m = n → m + 1 ≤ k → ∃ r, iter step k (s, (a : Int)) = some r := by
    intro m
    induction m with
    | zero =>
      intro a k s h1 h2
      obtain ⟨k, rfl⟩ : ∃ m, k = m + 1 := ⟨k - 1, by omega⟩
      have e : a = n := by omega
      subst e
      obtain ⟨r, hr⟩ := hend s
      exact ⟨r, by simp only [iter, hr, Option.bind_some]⟩
    | succ m ih =>
      intro a k s h1 h2
      obtain ⟨k, rfl⟩ : ∃ m, k = m + 1 := ⟨k - 1, by omega⟩
      obtain ⟨s', hs⟩ := hst a s (by omega)
      simp only [iter, hs, Option.bind_some]
      exact ih (a + 1) k s' (by omega) (by omega)
  exact key n 0 (n + 1) s (by omega) (Nat.le_refl _)
theorem nodes_some : ∀ (k : Nat) (v : Val), 2 * bulkV v ≤ k → bulkV v ≤ 4194304 → ∃ n, semtyperef1_Nodes k v = some n
  | 0, v, h, _ => by have := bulkV_pos v; omega
  | k + 1, v, h, hb => by
    have hbe := bulkV_eq v
    have hvl := bulkVs_len v.Kids
    have hel := bulkEs_len v.Entries
    have hrec : ∀ x, bulkV x < bulkV v → ∃ n, semtyperef1_Nodes k x = some n := fun x hx => nodes_some k x (by omega) (by omega)
    show ∃ n, semtyperef1_Nodes_B k (semtyperef1_Nodes k) v = some n
    unfold semtyperef1_Nodes_B
    simp only [natLen]
    obtain ⟨r1, e1⟩ := tot_loop (step := semtyperef1_Nodes_l1 v (semtyperef1_Nodes k)) v.Kids.length (fun j s hj => by
      have ex := List.getElem?_eq_getElem hj
      have hm := bulkVs_mem (List.getElem_mem hj)
      obtain ⟨n, en⟩ := hrec _ (show bulkV v.Kids[j] < bulkV v by omega)
      unfold semtyperef1_Nodes_l1
      simp only [wr64]
      rw [lt_true hj, idx_at ex]
      simp only [cond_true, Option.bind_some]
      rw [en, w64_succ j (by omega)]
      exact ⟨_, rfl⟩) (fun s => by
      unfold semtyperef1_Nodes_l1
      simp) (1 : Int)
    rw [e1]
    simp only [Option.bind_some]
    obtain ⟨r2, e2⟩ := tot_loop (step := semtyperef1_Nodes_l3 v (semtyperef1_Nodes k)) v.Entries.length (fun j s hj => by
      have ex := List.getElem?_eq_getElem hj
      have hm := bulkEs_mem (List.getElem_mem hj)
      generalize v.Entries[j] = e at ex hm
      have hbe2 := bulkE_eq e
      have hal := bulkVs_len e.Args
      obtain ⟨r3, e3⟩ := tot_loop (step := semtyperef1_Nodes_l2 (semtyperef1_Nodes k) e) e.Args.length (fun i s hi => by
        have ey := List.getElem?_eq_getElem hi
        have hmy := bulkVs_mem (List.getElem_mem hi)
        obtain ⟨n, en⟩ := hrec _ (show bulkV e.Args[i] < bulkV v by omega)
        unfold semtyperef1_Nodes_l2
        simp only [wr64]
        rw [lt_true hi, idx_at ey]
        simp only [cond_true, Option.bind_some]
        rw [en, w64_succ i (by omega)]
        exact ⟨_, rfl⟩) (fun s => by
        unfold semtyperef1_Nodes_l2
        simp) s
      obtain ⟨n, en⟩ := hrec e.Result (by omega)
      unfold semtyperef1_Nodes_l3
      simp only [wr64, natLen]
      rw [lt_true hj, idx_at ex]
      simp only [cond_true, Option.bind_some]
      rw [e3, en, w64_succ j (by omega)]
      simp only [Option.bind_some]
      cases e.Fails <;> exact ⟨_, rfl⟩) (fun s => by
      unfold semtyperef1_Nodes_l3
      simp) r1
    exact ⟨r2, by rw [e2]; rfl⟩
theorem short_ok (l : List (List Int)) (hl : l.length ≤ 1000) : semtypelaw12_short l = some (l.all fun x => !decide (80 < (x.length : Int))) := by
  have l1 := first_ok (step := semtypelaw12_short_l1 l) l (fun x => !decide (80 < (x.length : Int))) (fun i => (i : Int)) () false (fun i x hx => by
    have hi : i < l.length := (List.getElem?_eq_some_iff.1 hx).1
    unfold semtypelaw12_short_l1
    rw [lt_true hi, idx_at hx]
    simp only [cond_true, Option.bind_some, wr64]
    rw [w64_succ i (by omega)]
    cases decide (80 < (x.length : Int)) <;> rfl) (by
    unfold semtypelaw12_short_l1
    simp)
  have l1' : iter (semtypelaw12_short_l1 l) (l.length + 1) 0 = _ := l1
  unfold semtypelaw12_short
  rw [natLen, l1']
  cases l.all fun x => !decide (80 < (x.length : Int)) <;> rfl
end Go.Pl
