/- The nodes of values, as the reference counts them. No program in sight. -/
import Derived.Test.YtamfhohifmbjnaaPlParts
namespace Go.Sx
open Go Go.RowKit

/-! ### nodes -/
mutual
def nodesV : Val → Nat
  | .mk _ _ _ kids _ ents _ => 1 + nodesVs kids + nodesEs ents
def nodesVs : List Val → Nat
  | [] => 0
  | x :: r => nodesV x + nodesVs r
def nodesE : Ent → Nat
  | .mk args fails res => nodesVs args + (if fails then 0 else nodesV res)
def nodesEs : List Ent → Nat
  | [] => 0
  | x :: r => nodesE x + nodesEs r
end
theorem nodesV_eq (v : Val) : nodesV v = 1 + nodesVs v.Kids + nodesEs v.Entries := by cases v; simp only [nodesV, Val.Kids, Val.Entries]
theorem nodesE_eq (e : Ent) : nodesE e = nodesVs e.Args + (if e.Fails then 0 else nodesV e.Result) := by cases e; rfl
theorem nodesVs_app (l m : List Val) : nodesVs (l ++ m) = nodesVs l + nodesVs m := by
  induction l with
  | nil => simp [nodesVs]
  | cons x r ih => simp only [List.cons_append, nodesVs, ih]; omega
theorem nodes_flat : ∀ l : List Ent, nodesVs (l.flatMap partsE) = nodesEs l
  | [] => by simp [nodesVs, nodesEs]
  | e :: r => by
    rw [List.flatMap_cons, nodesVs_app, nodes_flat r, nodesEs, nodesE_eq, partsE, nodesVs_app]
    cases e.Fails <;> simp [nodesVs]
theorem nodes_parts (v : Val) : nodesV v = 1 + nodesVs (partsV v) := by rw [nodesV_eq, partsV, nodesVs_app, nodes_flat]; omega
mutual
theorem nodes_le : ∀ v : Val, nodesV v ≤ bulkV v
  | .mk _ _ t kids keys ents labs => by
    have h1 := nodess_le kids
    have h2 := nodesEs_le ents
    simp only [nodesV, bulkV]
    omega
theorem nodess_le : ∀ v : List Val, nodesVs v ≤ bulkVs v
  | [] => by simp [nodesVs]
  | x :: r => by have h1 := nodes_le x; have h2 := nodess_le r; simp only [nodesVs, bulkVs]; omega
theorem nodesE_le : ∀ v : Ent, nodesE v ≤ bulkE v
  | .mk args fails res => by
    have h1 := nodess_le args
    have h2 := nodes_le res
    simp only [nodesE, bulkE]
    cases fails <;> simp <;> omega
theorem nodesEs_le : ∀ v : List Ent, nodesEs v ≤ bulkEs v
  | [] => by simp [nodesEs]
  | x :: r => by have h1 := nodesE_le x; have h2 := nodesEs_le r; simp only [nodesEs, bulkEs]; omega
end
theorem nodesVs_take_le (l : List Val) (i : Nat) : nodesVs (l.take i) ≤ nodesVs l := by
  have := nodesVs_app (l.take i) (l.drop i)
  rw [List.take_append_drop] at this
  omega
theorem foldl_nodes (l : List Val) : ∀ s : Int, l.foldl (fun s x => s + (nodesV x : Int)) s = s + (nodesVs l : Int) := by
  induction l with
  | nil => intro s; simp [nodesVs]
  | cons x r ih => intro s; rw [List.foldl_cons, ih, nodesVs]; omega

/-- A loop that adds up the nodes of a list. -/
theorem sum_loop {step : Int × Int → Option (Fl (Int × Int) (Int × Int))} {rc : Val → Option Int} (xs : List Val) (s0 : Int)
    (hst : ∀ q, step q = if (decide (q.2 < (xs.length : Int))) = true then Option.bind (idx xs q.2) fun x => Option.bind (rc x) fun r => some (.next (w64 (q.1 + r), w64 (q.2 + 1))) else some (.done (q.1, q.2)))
    (hrc : ∀ x ∈ xs, rc x = some (nodesV x : Int)) (h0 : 0 ≤ s0) (hb : s0 + (nodesVs xs : Int) ≤ 4611686018427387904) (hl : xs.length ≤ 4611686018427387904) (k : Nat) (hk : xs.length + 1 ≤ k) :
    iter step k (s0, 0) = some (s0 + (nodesVs xs : Int), (xs.length : Int)) := by
  have := iter_fold (σ := Int) (step := step) xs (fun s i => (s, (i : Int))) (fun s x => s + (nodesV x : Int)) (fun i s => s = s0 + (nodesVs (xs.take i) : Int)) (fun s => (s, (xs.length : Int)))
    ?_ ?_ s0 (by simp [nodesVs]) k hk
  · simpa [foldl_nodes] using this
  · intro i s x hx hI
    have hi : i < xs.length := (List.getElem?_eq_some_iff.1 hx).1
    have ht : nodesVs (xs.take (i + 1)) = nodesVs (xs.take i) + nodesV x := by rw [take_next hx, nodesVs_app]; simp [nodesVs]
    have hle := nodesVs_take_le xs (i + 1)
    refine ⟨?_, by rw [hI, ht]; omega⟩
    rw [hst]
    simp only
    rw [if_pos (by simp; omega), idx_at hx]
    simp only [Option.bind_some]
    rw [hrc x (List.mem_of_getElem? hx)]
    simp only [Option.bind_some]
    rw [w64_id (x := s + (nodesV x : Int)) (by omega) (by omega), w64_id (x := (i : Int) + 1) (by omega) (by omega)]
    rfl
  · intro s _
    rw [hst]
    simp

theorem foldl_nodesE (l : List Ent) : ∀ s : Int, l.foldl (fun s x => s + (nodesE x : Int)) s = s + (nodesEs l : Int) := by
  induction l with
  | nil => intro s; simp [nodesEs]
  | cons x r ih => intro s; rw [List.foldl_cons, ih, nodesEs]; omega
theorem nodesEs_app (l m : List Ent) : nodesEs (l ++ m) = nodesEs l + nodesEs m := by
  induction l with
  | nil => simp [nodesEs]
  | cons x r ih => simp only [List.cons_append, nodesEs, ih]; omega
theorem nodesEs_take_le (l : List Ent) (i : Nat) : nodesEs (l.take i) ≤ nodesEs l := by
  have := nodesEs_app (l.take i) (l.drop i)
  rw [List.take_append_drop] at this
  omega

theorem ref_Nodes_ok : ∀ (k : Nat) (v : Val), bulkV v ≤ k → bulkV v ≤ 4194304 → semtyperef1_Nodes k v = some (nodesV v : Int)
  | 0, v, h, _ => by have := bulkV_pos v; omega
  | k + 1, v, h, hb => by
    have hbe := bulkV_eq v
    have hn := nodes_le v
    have hne := nodesV_eq v
    have hlk := bulkVs_len v.Kids
    have hle := bulkEs_len v.Entries
    have hrec : ∀ x, bulkV x < bulkV v → semtyperef1_Nodes k x = some (nodesV x : Int) := fun x hx => ref_Nodes_ok k x (by omega) (by omega)
    show semtyperef1_Nodes_B (semtyperef1_Nodes k) v = _
    unfold semtyperef1_Nodes_B
    rw [sum_loop (step := semtyperef1_Nodes_l1 (semtyperef1_Nodes k) v) (rc := semtyperef1_Nodes k) v.Kids 1 (fun q => rfl) (fun x hx => hrec x (by have := bulkVs_mem hx; omega)) (by omega) (by omega) (by omega) _ (Nat.le_refl _)]
    simp only [Option.bind_some]
    have hloop : iter (semtyperef1_Nodes_l2 (semtyperef1_Nodes k) v) (v.Entries.length + 1) (1 + (nodesVs v.Kids : Int), 0) = some (v.Entries.foldl (fun s e => s + (nodesE e : Int)) (1 + (nodesVs v.Kids : Int)), (v.Entries.length : Int)) := by
      refine iter_fold (σ := Int) v.Entries (fun s i => (s, (i : Int))) (fun s e => s + (nodesE e : Int)) (fun i s => s = 1 + (nodesVs v.Kids : Int) + (nodesEs (v.Entries.take i) : Int)) (fun s => (s, (v.Entries.length : Int)))
        ?_ ?_ _ (by simp [nodesEs]) _ (Nat.le_refl _)
      rotate_left
      · intro s _
        unfold semtyperef1_Nodes_l2
        simp
      intro i s e he hI
      have hi : i < v.Entries.length := (List.getElem?_eq_some_iff.1 he).1
      have h1 := bulkEs_mem (List.mem_of_getElem? he)
      have h2 := bulkE_eq e
      have h3 := bulkVs_len e.Args
      have ht : nodesEs (v.Entries.take (i + 1)) = nodesEs (v.Entries.take i) + nodesE e := by rw [take_next he, nodesEs_app]; simp [nodesEs]
      have hle2 := nodesEs_take_le v.Entries (i + 1)
      have hee := nodesE_eq e
      have hnr := nodes_le e.Result
      refine ⟨?_, by rw [hI, ht]; omega⟩
      unfold semtyperef1_Nodes_l2
      simp only
      rw [if_pos (by simp; omega), idx_at he]
      simp only [Option.bind_some]
      have hpos : 0 ≤ s := by omega
      have hsb : s + (nodesVs e.Args : Int) ≤ 4611686018427387904 := by
        have := nodess_le e.Args
        omega
      rw [sum_loop (step := semtyperef1_Nodes_l3 (semtyperef1_Nodes k) e) (rc := semtyperef1_Nodes k) e.Args s (fun q => rfl) (fun x hx => hrec x (by have := bulkVs_mem hx; omega)) hpos hsb (by omega) _ (Nat.le_refl _)]
      simp only [Option.bind_some]
      have hw : w64 ((i : Int) + 1) = ((i + 1 : Nat) : Int) := by rw [w64_id (by omega) (by omega)]; rfl
      cases hf : e.Fails
      · rw [if_pos (by rfl), hrec e.Result (by omega)]
        simp only [Option.bind_some]
        rw [hf] at hee
        simp only [Bool.false_eq_true, if_false] at hee
        rw [w64_id (x := s + (nodesVs e.Args : Int) + (nodesV e.Result : Int)) (by omega) (by omega), hw, hee]
        simp only [Int.natCast_add, Int.add_assoc]
      · rw [if_neg (by simp)]
        rw [hf] at hee
        simp only [if_true, Nat.add_zero] at hee
        rw [hw, hee]
    rw [hloop]
    simp only [Option.bind_some, foldl_nodesE]
    rw [hne]
    congr 1
end Go.Sx
