/- The parts and copies of values. No program in sight. -/
import Derived.Test.YtamfhohifmbjnaaGreatRBase
import Derived.KernelRfl
namespace Go.Pl
open Go Go.RowKit Go.Sx Go.Qx

/-! ### parts -/
def partsE (e : Ent) : List Val := e.Args ++ (if e.Fails then [] else [e.Result])
def partsV (v : Val) : List Val := v.Kids ++ v.Entries.flatMap partsE
theorem bulk_partsE (e : Ent) : bulkVs (partsE e) < bulkE e := by
  rw [bulkE_eq, partsE, bulkVs_app]
  cases e.Fails <;> simp [bulkVs] <;> omega
theorem bulk_flat : ∀ l : List Ent, bulkVs (l.flatMap partsE) ≤ bulkEs l
  | [] => by simp [bulkVs]
  | e :: r => by
    have h1 := bulk_flat r
    have h2 := bulk_partsE e
    simp only [List.flatMap_cons, bulkVs_app, bulkEs]
    omega
theorem bulk_parts (v : Val) : bulkVs (partsV v) < bulkV v := by
  have := bulk_flat v.Entries
  rw [bulkV_eq, partsV, bulkVs_app]
  omega
theorem foldl_app {α β : Type} (f : β → List α) : ∀ (l : List β) (s : List α), l.foldl (fun s x => s ++ f x) s = s ++ l.flatMap f
  | [], s => by simp
  | x :: r, s => by simp only [List.foldl_cons, foldl_app f r, List.flatMap_cons, List.append_assoc]
theorem len_le_bulk (l : List Val) : l.length ≤ bulkVs l := bulkVs_len l

theorem parts_ok (v : Val) (h : bulkV v ≤ 4194304) : value_parts v = some (partsV v) := by
  have hb := bulkV_eq v
  have hk := bulkVs_len v.Kids
  unfold value_parts cloneF
  rw [room_ok (by simp; omega)]
  simp only [Option.bind_some, natLen, bsome]
  have hlen := bulkEs_len v.Entries
  have hloop : iter (value_parts_l1 v) (v.Entries.length + 1) (v.Kids, 0) = some (v.Entries.foldl (fun s e => s ++ partsE e) v.Kids) := by
   refine iter_fold (σ := List Val) v.Entries (fun s i => (s, (i : Int))) (fun s e => s ++ partsE e) (fun i s => s = v.Kids ++ (v.Entries.take i).flatMap partsE) (fun s => s)
     ?_ ?_ v.Kids (by simp) _ (Nat.le_refl _)
   · intro i s e he hI
     have hi : i < v.Entries.length := (List.getElem?_eq_some_iff.1 he).1
     have hmem : e ∈ v.Entries := List.mem_of_getElem? he
     have h1 := bulkEs_mem hmem
     have h2 := bulkE_eq e
     have h3 := bulkVs_len e.Args
     have hs : s.length + e.Args.length + 1 ≤ 8388608 := by
       have : bulkVs s ≤ bulkV v := by
         rw [hI, bulkVs_app]
         have h5 := bulk_flat (v.Entries.take i)
         have h6 : bulkEs (v.Entries.take i) ≤ bulkEs v.Entries := by
           have := List.take_append_drop i v.Entries
           have h7 : ∀ a b : List Ent, bulkEs (a ++ b) = bulkEs a + bulkEs b := by
             intro a b
             induction a with
             | nil => simp [bulkEs]
             | cons x r ih => simp only [List.cons_append, bulkEs, ih]; omega
           have h8 := h7 (v.Entries.take i) (v.Entries.drop i)
           rw [this] at h8
           omega
         omega
       have := bulkVs_len s
       omega
     refine ⟨?_, ?_⟩
     · unfold value_parts_l1
       simp only [bite, wr64]
       rw [if_pos (by simp; omega), idx_at he]
       simp only [Option.bind_some]
       rw [room_ok (by omega)]
       simp only [Option.bind_some]
       have hw : w64 ((i : Int) + 1) = ((i + 1 : Nat) : Int) := by rw [w64_id (by omega) (by omega)]; rfl
       cases hf : e.Fails
       · rw [if_pos (by simp), room_ok (by simp only [List.length_append, List.length_cons, List.length_nil]; omega)]
         simp [partsE, hf, hw]
       · rw [if_neg (by simp)]
         simp [partsE, hf, hw]
     · rw [hI, List.take_add_one, he]
       simp
   · intro s _
     unfold value_parts_l1
     simp
  rw [hloop]
  simp only [foldl_app, partsV]

theorem take_next {α : Type} {l : List α} {i : Nat} {x : α} (h : l[i]? = some x) : l.take (i + 1) = l.take i ++ [x] := by
  rw [List.take_add_one, h]; rfl

/-! ### copies -/
theorem copy_loop {α : Type} {step : List α × Int → Option (Fl (List α × Int) (List α))} (xs : List α) (bytes : Nat)
    (hst : ∀ (i : Nat) (s : List α) (x : α), xs[i]? = some x → step (s, (i : Int)) = Option.bind (room (s.length + 1) bytes) fun _ => some (.next (s ++ [x], w64 ((i : Int) + 1))))
    (hend : ∀ s, step (s, (xs.length : Int)) = some (.done s))
    (hb : bytes ≤ 1024) (hl : xs.length ≤ 4194304) :
    iter step (xs.length + 1) (([] : List α), 0) = some xs := by
  have := iter_fold (σ := List α) (step := step) xs (fun s i => (s, (i : Int))) (fun s x => s ++ [x]) (fun i s => s = xs.take i) (fun s => s)
    ?_ (fun s _ => hend s) [] (by simp) _ (Nat.le_refl _)
  · have hf : ∀ (l : List α) (s : List α), l.foldl (fun s x => s ++ [x]) s = s ++ l := by
      intro l
      induction l with
      | nil => intro s; simp
      | cons x r ih => intro s; rw [List.foldl_cons, ih]; simp
    rw [hf] at this
    simpa using this
  · intro i s x hx hI
    have hi : i < xs.length := (List.getElem?_eq_some_iff.1 hx).1
    have hs : s.length = i := by rw [hI, List.length_take]; omega
    refine ⟨?_, by rw [take_next hx, hI]⟩
    rw [hst i s x hx, room_ok (by
      have : (s.length + 1) * bytes ≤ 4194305 * 1024 := Nat.mul_le_mul (by omega) hb
      omega)]
    simp only [Option.bind_some]
    rw [w64_id (x := (i : Int) + 1) (by omega) (by omega)]
    rfl

theorem clone_ok : ∀ (k : Nat),
    (∀ v, 2 * bulkV v ≤ k → bulkV v ≤ 4194304 → (scc_value_clone k).1 v = some v) ∧
    (∀ vs, 2 * bulkVs vs + 1 ≤ k → bulkVs vs ≤ 4194304 → (scc_value_clone k).2.1 vs = some vs) ∧
    (∀ es, 2 * bulkEs es + 1 ≤ k → bulkEs es ≤ 4194304 → (scc_value_clone k).2.2 es = some es)
  | 0 => ⟨fun v h => by have := bulkV_pos v; omega, fun _ h => by omega, fun _ h => by omega⟩
  | k + 1 => by
    obtain ⟨i2, i1, i3⟩ := clone_ok k
    refine ⟨?_, ?_, ?_⟩
    · intro v h hb
      show value_clone_B k (scc_value_clone k).1 (scc_value_clone k).2.1 (scc_value_clone k).2.2 v = _
      have hbe := bulkV_eq v
      have hk := bulkKeys_len v.Keys
      have hs := bulkStrs_len v.Labels
      unfold value_clone_B cloneF
      rw [i1 v.Kids (by omega) (by omega), i3 v.Entries (by omega) (by omega), room_ok (by omega), room_ok (by omega)]
      simp only [Option.bind_some]
      cases v
      rfl
    · intro vs h hb
      show value_cloneAll_B k (scc_value_clone k).1 (scc_value_clone k).2.1 (scc_value_clone k).2.2 vs = _
      unfold value_cloneAll_B
      have hl := bulkVs_len vs
      rw [natLen, copy_loop (step := value_cloneAll_l1 vs (scc_value_clone k).1) vs 128 ?_ ?_ (by omega) (by omega)]
      · simp only [Option.bind_some]
      · intro i s x hx
        have hi : i < vs.length := (List.getElem?_eq_some_iff.1 hx).1
        have hm := bulkVs_mem (List.mem_of_getElem? hx)
        unfold value_cloneAll_l1
        simp only [bite, wr64]
        rw [if_pos (by simp; omega), idx_at hx]
        simp only [Option.bind_some]
        rw [i2 x (by omega) (by omega)]
        rfl
      · intro s
        unfold value_cloneAll_l1
        simp
    · intro es h hb
      show value_cloneEntries_B k (scc_value_clone k).1 (scc_value_clone k).2.1 (scc_value_clone k).2.2 es = _
      unfold value_cloneEntries_B
      have hl := bulkEs_len es
      rw [natLen, copy_loop (step := value_cloneEntries_l1 es (scc_value_clone k).2.1 (scc_value_clone k).1) es 160 ?_ ?_ (by omega) (by omega)]
      · simp only [Option.bind_some]
      · intro i s x hx
        have hi : i < es.length := (List.getElem?_eq_some_iff.1 hx).1
        have hm := bulkEs_mem (List.mem_of_getElem? hx)
        have he := bulkE_eq x
        unfold value_cloneEntries_l1
        simp only [bite, wr64]
        rw [if_pos (by simp; omega), idx_at hx]
        simp only [Option.bind_some, Int.toNat_natCast, hx]
        rw [i1 x.Args (by omega) (by omega)]
        simp only [Option.bind_some]
        rw [i2 x.Result (by omega) (by omega)]
        simp only [Option.bind_some]
        cases x
        rfl
      · intro s
        unfold value_cloneEntries_l1
        simp

theorem awake_ok (n : Nat) : semtypelaw4_awake (n + 20) = some true := by kernel_rfl

end Go.Pl
