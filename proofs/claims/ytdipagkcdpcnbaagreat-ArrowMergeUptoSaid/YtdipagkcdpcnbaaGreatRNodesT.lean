/- The number of nodes is always told. No program in sight. -/
import Derived.Test.YtdipagkcdpcnbaaGreatRAwk12
namespace Go.Pl
open Go Go.RowKit Go.Sx Go.Qx
theorem nodes_some : ∀ (k : Nat) (v : Val), 2 * bulkV v ≤ k → bulkV v ≤ 4194304 → ∃ n, semtyperef1_Nodes k v = some n
  | 0, v, h, _ => by have := bulkV_pos v; omega
  | k + 1, v, h, hb => by
    have hbe := bulkV_eq v
    have hvl := bulkVs_len v.Kids
    have hel := bulkEs_len v.Entries
    have hrec : ∀ x, bulkV x < bulkV v → ∃ n, semtyperef1_Nodes k x = some n := fun x hx => nodes_some k x (by omega) (by omega)
    show ∃ n, semtyperef1_Nodes_B k (semtyperef1_Nodes k) v = some n
    unfold semtyperef1_Nodes_B
    simp only [natLen]
    obtain ⟨r1, e1⟩ := tot_loop (step := semtyperef1_Nodes_l1 v (semtyperef1_Nodes k)) v.Kids.length (fun j s hj => by
      have ex := List.getElem?_eq_getElem hj
      have hm := bulkVs_mem (List.getElem_mem hj)
      obtain ⟨n, en⟩ := hrec _ (show bulkV v.Kids[j] < bulkV v by omega)
      unfold semtyperef1_Nodes_l1
      simp only [wr64]
      rw [lt_true hj, idx_at ex]
      simp only [cond_true, Option.bind_some]
      rw [en, w64_succ j (by omega)]
      exact ⟨_, rfl⟩) (fun s => by
      unfold semtyperef1_Nodes_l1
      simp) (1 : Int)
    rw [e1]
    simp only [Option.bind_some]
    obtain ⟨r2, e2⟩ := tot_loop (step := semtyperef1_Nodes_l3 v (semtyperef1_Nodes k)) v.Entries.length (fun j s hj => by
      have ex := List.getElem?_eq_getElem hj
      have hm := bulkEs_mem (List.getElem_mem hj)
      generalize v.Entries[j] = e at ex hm
      have hbe2 := bulkE_eq e
      have hal := bulkVs_len e.Args
      obtain ⟨r3, e3⟩ := tot_loop (step := semtyperef1_Nodes_l2 (semtyperef1_Nodes k) e) e.Args.length (fun i s hi => by
        have ey := List.getElem?_eq_getElem hi
        have hmy := bulkVs_mem (List.getElem_mem hi)
        obtain ⟨n, en⟩ := hrec _ (show bulkV e.Args[i] < bulkV v by omega)
        unfold semtyperef1_Nodes_l2
        simp only [wr64]
        rw [lt_true hi, idx_at ey]
        simp only [cond_true, Option.bind_some]
        rw [en, w64_succ i (by omega)]
        exact ⟨_, rfl⟩) (fun s => by
        unfold semtyperef1_Nodes_l2
        simp) s
      obtain ⟨n, en⟩ := hrec e.Result (by omega)
      unfold semtyperef1_Nodes_l3
      simp only [wr64, natLen]
      rw [lt_true hj, idx_at ex]
      simp only [cond_true, Option.bind_some]
      rw [e3, en, w64_succ j (by omega)]
      simp only [Option.bind_some]
      cases e.Fails <;> exact ⟨_, rfl⟩) (fun s => by
      unfold semtyperef1_Nodes_l3
      simp) r1
    exact ⟨r2, by rw [e2]; rfl⟩
end Go.Pl
