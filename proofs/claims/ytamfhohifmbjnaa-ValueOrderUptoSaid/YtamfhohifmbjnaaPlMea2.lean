/- Heights, copies of values, and the law of the measures. No program in sight. -/
import Derived.Test.YtamfhohifmbjnaaPlMeas
import Derived.KernelRfl
namespace Go.Sx
open Go Go.RowKit

/-! ### heights -/
mutual
def heightV : Val → Nat
  | .mk _ _ _ kids _ ents _ => 1 + max (heightVs kids) (heightEs ents)
def heightVs : List Val → Nat
  | [] => 0
  | x :: r => max (heightV x) (heightVs r)
def heightE : Ent → Nat
  | .mk args fails res => max (heightVs args) (if fails then 0 else heightV res)
def heightEs : List Ent → Nat
  | [] => 0
  | x :: r => max (heightE x) (heightEs r)
end
theorem heightV_eq (v : Val) : heightV v = 1 + max (heightVs v.Kids) (heightEs v.Entries) := by cases v; simp only [heightV, Val.Kids, Val.Entries]
theorem heightE_eq (e : Ent) : heightE e = max (heightVs e.Args) (if e.Fails then 0 else heightV e.Result) := by cases e; rfl
theorem heightVs_app (l m : List Val) : heightVs (l ++ m) = max (heightVs l) (heightVs m) := by
  induction l with
  | nil => simp [heightVs]
  | cons x r ih => simp only [List.cons_append, heightVs, ih]; omega
theorem height_flat : ∀ l : List Ent, heightVs (l.flatMap partsE) = heightEs l
  | [] => by simp [heightVs, heightEs]
  | e :: r => by
    rw [List.flatMap_cons, heightVs_app, height_flat r, heightEs, heightE_eq, partsE, heightVs_app]
    cases e.Fails <;> simp [heightVs]
theorem height_parts (v : Val) : heightV v = 1 + heightVs (partsV v) := by rw [heightV_eq, partsV, heightVs_app, height_flat]
mutual
theorem height_le : ∀ v : Val, heightV v ≤ bulkV v
  | .mk _ _ t kids keys ents labs => by
    have h1 := heights_le kids
    have h2 := heightEs_le ents
    simp only [heightV, bulkV]
    omega
theorem heights_le : ∀ v : List Val, heightVs v ≤ bulkVs v
  | [] => by simp [heightVs]
  | x :: r => by have h1 := height_le x; have h2 := heights_le r; simp only [heightVs, bulkVs]; omega
theorem heightE_le : ∀ v : Ent, heightE v ≤ bulkE v
  | .mk args fails res => by
    have h1 := heights_le args
    have h2 := height_le res
    simp only [heightE, bulkE]
    cases fails <;> simp <;> omega
theorem heightEs_le : ∀ v : List Ent, heightEs v ≤ bulkEs v
  | [] => by simp [heightEs]
  | x :: r => by have h1 := heightE_le x; have h2 := heightEs_le r; simp only [heightEs, bulkEs]; omega
end
theorem foldl_height (l : List Val) : ∀ s : Int, 0 ≤ s → l.foldl (fun s x => max s (heightV x : Int)) s = max s (heightVs l : Int) := by
  induction l with
  | nil => intro s hs; simp only [List.foldl_nil, heightVs]; omega
  | cons x r ih => intro s hs; rw [List.foldl_cons, ih _ (by omega), heightVs]; omega
theorem foldl_heightE (l : List Ent) : ∀ s : Int, 0 ≤ s → l.foldl (fun s x => max s (heightE x : Int)) s = max s (heightEs l : Int) := by
  induction l with
  | nil => intro s hs; simp only [List.foldl_nil, heightEs]; omega
  | cons x r ih => intro s hs; rw [List.foldl_cons, ih _ (by omega), heightEs]; omega

theorem max_loop {step : Int × Int → Option (Fl (Int × Int) (Int × Int))} {rc : Val → Option Int} (xs : List Val) (s0 : Int)
    (hst : ∀ q, step q = if (decide (q.2 < (xs.length : Int))) = true then Option.bind (idx xs q.2) fun x => Option.bind (rc x) fun r => some (.next (max q.1 r, w64 (q.2 + 1))) else some (.done (q.1, q.2)))
    (hrc : ∀ x ∈ xs, rc x = some (heightV x : Int)) (h0 : 0 ≤ s0) (hl : xs.length ≤ 4611686018427387904) (k : Nat) (hk : xs.length + 1 ≤ k) :
    iter step k (s0, 0) = some (max s0 (heightVs xs : Int), (xs.length : Int)) := by
  have := iter_fold (σ := Int) (step := step) xs (fun s i => (s, (i : Int))) (fun s x => max s (heightV x : Int)) (fun _ _ => True) (fun s => (s, (xs.length : Int)))
    ?_ ?_ s0 trivial k hk
  · rw [foldl_height xs s0 h0] at this
    simpa using this
  · intro i s x hx _
    have hi : i < xs.length := (List.getElem?_eq_some_iff.1 hx).1
    refine ⟨?_, trivial⟩
    rw [hst]
    simp only
    rw [if_pos (by simp; omega), idx_at hx]
    simp only [Option.bind_some]
    rw [hrc x (List.mem_of_getElem? hx)]
    simp only [Option.bind_some]
    rw [w64_id (x := (i : Int) + 1) (by omega) (by omega)]
    rfl
  · intro s _
    rw [hst]
    simp

theorem value_Height_ok : ∀ (k : Nat) (v : Val), bulkV v ≤ k → bulkV v ≤ 4194304 → value_Height k v = some (heightV v : Int)
  | 0, v, h, _ => by have := bulkV_pos v; omega
  | k + 1, v, h, hb => by
    have hp := bulk_parts v
    have hn := height_le v
    have hnp := height_parts v
    show value_Height_B (value_Height k) v = _
    unfold value_Height_B
    rw [parts_ok v hb]
    simp only [Option.bind_some]
    have hl := bulkVs_len (partsV v)
    rw [max_loop (step := value_Height_l1 (value_Height k) (partsV v)) (rc := value_Height k) (partsV v) 0 (fun q => rfl) (fun x hx => value_Height_ok k x (by have := bulkVs_mem hx; omega) (by have := bulkVs_mem hx; omega)) (by omega) (by omega) _ (Nat.le_refl _)]
    simp only [Option.bind_some]
    rw [w64_id (by omega) (by omega)]
    congr 1
    omega

theorem ref_Height_ok : ∀ (k : Nat) (v : Val), bulkV v ≤ k → bulkV v ≤ 4194304 → semtyperef1_Height k v = some (heightV v : Int)
  | 0, v, h, _ => by have := bulkV_pos v; omega
  | k + 1, v, h, hb => by
    have hbe := bulkV_eq v
    have hn := height_le v
    have hne := heightV_eq v
    have hlk := bulkVs_len v.Kids
    have hle := bulkEs_len v.Entries
    have hrec : ∀ x, bulkV x < bulkV v → semtyperef1_Height k x = some (heightV x : Int) := fun x hx => ref_Height_ok k x (by omega) (by omega)
    show semtyperef1_Height_B (semtyperef1_Height k) v = _
    unfold semtyperef1_Height_B
    rw [max_loop (step := semtyperef1_Height_l1 (semtyperef1_Height k) v) (rc := semtyperef1_Height k) v.Kids 0 (fun q => rfl) (fun x hx => hrec x (by have := bulkVs_mem hx; omega)) (by omega) (by omega) _ (Nat.le_refl _)]
    simp only [Option.bind_some]
    have hloop : iter (semtyperef1_Height_l2 (semtyperef1_Height k) v) (v.Entries.length + 1) (max 0 (heightVs v.Kids : Int), 0) = some (v.Entries.foldl (fun s e => max s (heightE e : Int)) (max 0 (heightVs v.Kids : Int)), (v.Entries.length : Int)) := by
      refine iter_fold (σ := Int) v.Entries (fun s i => (s, (i : Int))) (fun s e => max s (heightE e : Int)) (fun i s => 0 ≤ s) (fun s => (s, (v.Entries.length : Int)))
        ?_ ?_ _ (by omega) _ (Nat.le_refl _)
      rotate_left
      · intro s _
        unfold semtyperef1_Height_l2
        simp
      intro i s e he hI
      have hi : i < v.Entries.length := (List.getElem?_eq_some_iff.1 he).1
      have h1 := bulkEs_mem (List.mem_of_getElem? he)
      have h2 := bulkE_eq e
      have h3 := bulkVs_len e.Args
      have hee := heightE_eq e
      refine ⟨?_, by omega⟩
      unfold semtyperef1_Height_l2
      simp only
      rw [if_pos (by simp; omega), idx_at he]
      simp only [Option.bind_some]
      rw [max_loop (step := semtyperef1_Height_l3 (semtyperef1_Height k) e) (rc := semtyperef1_Height k) e.Args s (fun q => rfl) (fun x hx => hrec x (by have := bulkVs_mem hx; omega)) hI (by omega) _ (Nat.le_refl _)]
      simp only [Option.bind_some]
      have hw : w64 ((i : Int) + 1) = ((i + 1 : Nat) : Int) := by rw [w64_id (by omega) (by omega)]; rfl
      cases hf : e.Fails
      · rw [if_pos (by rfl), hrec e.Result (by omega)]
        simp only [Option.bind_some]
        rw [hf] at hee
        simp only [Bool.false_eq_true, if_false] at hee
        have hm : max (max s (heightVs e.Args : Int)) (heightV e.Result : Int) = max s (heightE e : Int) := by omega
        rw [hw, hm]
      · rw [if_neg (by simp)]
        rw [hf] at hee
        simp only [if_true] at hee
        have hm : max s (heightVs e.Args : Int) = max s (heightE e : Int) := by omega
        rw [hw, hm]
    rw [hloop]
    simp only [Option.bind_some]
    rw [foldl_heightE _ _ (by omega), w64_id (by omega) (by omega)]
    congr 1
    omega

/-! ### copies -/
theorem copy_loop {α : Type} {step : List α × Int → Option (Fl (List α × Int) (List α × Int))} (xs : List α) (bytes : Nat)
    (hst : ∀ (i : Nat) (s : List α) (x : α), xs[i]? = some x → step (s, (i : Int)) = Option.bind (room (s.length + 1) bytes) fun _ => some (.next (s ++ [x], w64 ((i : Int) + 1))))
    (hend : ∀ s, step (s, (xs.length : Int)) = some (.done (s, (xs.length : Int))))
    (hb : bytes ≤ 1024) (hl : xs.length ≤ 4194304) :
    iter step (xs.length + 1) (([] : List α), 0) = some (xs, (xs.length : Int)) := by
  have := iter_fold (σ := List α) (step := step) xs (fun s i => (s, (i : Int))) (fun s x => s ++ [x]) (fun i s => s = xs.take i) (fun s => (s, (xs.length : Int)))
    ?_ (fun s _ => hend s) [] (by simp) _ (Nat.le_refl _)
  · have hf : ∀ (l : List α) (s : List α), l.foldl (fun s x => s ++ [x]) s = s ++ l := by
      intro l
      induction l with
      | nil => intro s; simp
      | cons x r ih => intro s; rw [List.foldl_cons, ih]; simp
    rw [hf] at this
    simpa using this
  · intro i s x hx hI
    have hi : i < xs.length := (List.getElem?_eq_some_iff.1 hx).1
    have hs : s.length = i := by rw [hI, List.length_take]; omega
    refine ⟨?_, by rw [take_next hx, hI]⟩
    rw [hst i s x hx, room_ok (by
      have : (s.length + 1) * bytes ≤ 4194305 * 1024 := Nat.mul_le_mul (by omega) hb
      omega)]
    simp only [Option.bind_some]
    rw [w64_id (x := (i : Int) + 1) (by omega) (by omega)]
    rfl

theorem clone_ok : ∀ (k : Nat),
    (∀ vs, 2 * bulkVs vs + 1 ≤ k → bulkVs vs ≤ 4194304 → (scc_value_cloneAll k).1 vs = some vs) ∧
    (∀ v, 2 * bulkV v ≤ k → bulkV v ≤ 4194304 → (scc_value_cloneAll k).2.1 v = some v) ∧
    (∀ es, 2 * bulkEs es + 1 ≤ k → bulkEs es ≤ 4194304 → (scc_value_cloneAll k).2.2 es = some es)
  | 0 => ⟨fun _ h => by omega, fun v h => by have := bulkV_pos v; omega, fun _ h => by omega⟩
  | k + 1 => by
    obtain ⟨i1, i2, i3⟩ := clone_ok k
    refine ⟨?_, ?_, ?_⟩
    · intro vs h hb
      show value_cloneAll_B (scc_value_cloneAll k).1 (scc_value_cloneAll k).2.1 (scc_value_cloneAll k).2.2 vs = _
      unfold value_cloneAll_B
      have hl := bulkVs_len vs
      rw [copy_loop (step := value_cloneAll_l1 (scc_value_cloneAll k).2.1 vs) vs 128 ?_ ?_ (by omega) (by omega)]
      · simp only [Option.bind_some]
      · intro i s x hx
        have hi : i < vs.length := (List.getElem?_eq_some_iff.1 hx).1
        have hm := bulkVs_mem (List.mem_of_getElem? hx)
        unfold value_cloneAll_l1
        simp only
        rw [if_pos (by simp; omega), idx_at hx]
        simp only [Option.bind_some]
        rw [i2 x (by omega) (by omega)]
        rfl
      · intro s
        unfold value_cloneAll_l1
        simp
    · intro v h hb
      show value_clone_B (scc_value_cloneAll k).1 (scc_value_cloneAll k).2.1 (scc_value_cloneAll k).2.2 v = _
      have hbe := bulkV_eq v
      have hk := bulkKeys_len v.Keys
      have hs := bulkStrs_len v.Labels
      unfold value_clone_B slices_Clone_api_Key_api_Key slices_Clone_string_string
      rw [i1 v.Kids (by omega) (by omega), i3 v.Entries (by omega) (by omega), room_ok (by simp only [List.length_nil]; omega), room_ok (by simp only [List.length_nil]; omega)]
      simp only [Option.bind_some]
      cases v
      rfl
    · intro es h hb
      show value_cloneEntries_B (scc_value_cloneAll k).1 (scc_value_cloneAll k).2.1 (scc_value_cloneAll k).2.2 es = _
      unfold value_cloneEntries_B
      have hl := bulkEs_len es
      rw [copy_loop (step := value_cloneEntries_l1 (scc_value_cloneAll k).1 (scc_value_cloneAll k).2.1 es) es 160 ?_ ?_ (by omega) (by omega)]
      · simp only [Option.bind_some]
      · intro i s x hx
        have hi : i < es.length := (List.getElem?_eq_some_iff.1 hx).1
        have hm := bulkEs_mem (List.mem_of_getElem? hx)
        have he := bulkE_eq x
        unfold value_cloneEntries_l1
        simp only
        rw [if_pos (by simp; omega), idx_at hx]
        simp only [Option.bind_some]
        rw [i1 x.Args (by omega) (by omega)]
        simp only [Option.bind_some]
        rw [i2 x.Result (by omega) (by omega)]
        simp only [Option.bind_some]
        cases x
        rfl
      · intro s
        unfold value_cloneEntries_l1
        simp

theorem awake_ok (n : Nat) : semtypelaw4_awake (n + 20) = some true := by kernel_rfl

theorem law_measures (fuel : Nat) (hf : 8388608 ≤ fuel) (a0 a1 : Val) (hb : bulkV a0 + bulkV a1 ≤ 1048576) : semtypelaw4_ValueMeasures fuel a0 a1 = some true := by
  have aw : semtypelaw4_awake fuel = some true := by
    obtain ⟨n, rfl⟩ : ∃ n, fuel = n + 20 := ⟨fuel - 20, by omega⟩
    exact awake_ok n
  have sm : ∀ a : Val, bulkV a ≤ 1048576 → semtypelaw4_small fuel a = some (decide ((nodesV a : Int) ≤ 60)) := by
    intro a ha
    unfold semtypelaw4_small
    rw [ref_Nodes_ok fuel a (by omega) (by omega)]
    rfl
  have n0 := nodes_le a0
  have n1 := nodes_le a1
  have h0 := height_le a0
  have h1 := height_le a1
  unfold semtypelaw4_ValueMeasures
  rw [sm a0 (by omega), sm a1 (by omega), aw]
  simp only [Option.bind_some]
  have tup : value_Tuple fuel [a0, a1] = some (Val.mk 6 0 (⟨#[]⟩) [a0, a1] ([] : List Key) ([] : List Ent) ([] : List ByteArray)) := by
    unfold value_Tuple value_cloneAll
    rw [(clone_ok fuel).1 [a0, a1] (by simp only [bulkVs]; omega) (by simp only [bulkVs]; omega)]
    rfl
  have tb : bulkV (Val.mk 6 0 (⟨#[]⟩) [a0, a1] ([] : List Key) ([] : List Ent) ([] : List ByteArray)) = bulkV a0 + bulkV a1 + 8 := by
    simp only [bulkV, bulkVs, bulkKeys, bulkEs, bulkStrs, bulkStr]
    have : (⟨#[]⟩ : ByteArray).size = 0 := rfl
    rw [this]
    omega
  have tn : nodesV (Val.mk 6 0 (⟨#[]⟩) [a0, a1] ([] : List Key) ([] : List Ent) ([] : List ByteArray)) = 1 + nodesV a0 + nodesV a1 := by
    simp only [nodesV, nodesVs, nodesEs]; omega
  have th : heightV (Val.mk 6 0 (⟨#[]⟩) [a0, a1] ([] : List Key) ([] : List Ent) ([] : List ByteArray)) = 1 + max (heightV a0) (heightV a1) := by
    simp only [heightV, heightVs, heightEs]; omega
  rw [tup]
  simp only [Option.bind_some]
  rw [value_Nodes_ok fuel a0 (by omega) (by omega), ref_Nodes_ok fuel a0 (by omega) (by omega), value_Height_ok fuel a0 (by omega) (by omega), ref_Height_ok fuel a0 (by omega) (by omega),
    value_Nodes_ok fuel a1 (by omega) (by omega), value_Height_ok fuel a1 (by omega) (by omega), value_Nodes_ok fuel _ (by rw [tb]; omega) (by rw [tb]; omega), value_Height_ok fuel _ (by rw [tb]; omega) (by rw [tb]; omega), tn, th]
  simp only [Option.bind_some, beq_self_eq_true, if_true]
  rw [w64_id (x := 1 + (nodesV a0 : Int)) (by omega) (by omega), w64_id (x := 1 + (nodesV a0 : Int) + (nodesV a1 : Int)) (by omega) (by omega), w64_id (x := 1 + max (heightV a0 : Int) (heightV a1 : Int)) (by omega) (by omega)]
  have e1 : (((1 + nodesV a0 + nodesV a1 : Nat) : Int) == 1 + (nodesV a0 : Int) + (nodesV a1 : Int)) = true := by rw [beq_iff_eq]; omega
  have e2 : (((1 + max (heightV a0) (heightV a1) : Nat) : Int) == 1 + max (heightV a0 : Int) (heightV a1 : Int)) = true := by rw [beq_iff_eq]; omega
  rw [e1, e2]
  simp
end Go.Sx
