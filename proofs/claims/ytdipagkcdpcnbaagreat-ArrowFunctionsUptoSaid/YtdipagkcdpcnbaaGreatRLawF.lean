/- The law of functions and function nodes. No program in sight. -/
import Derived.Test.YtdipagkcdpcnbaaGreatRLawC
namespace Go.Pl
open Go Go.RowKit Go.Sx Go.Qx

theorem funs_loop (fuel : Nat) (hf : 300000000 ≤ fuel) (d : List Int) (h : List (List Int)) (hl : h.length ≤ 4) {T : Api_Type} {N a : Nat} (hmade : ∀ g : List Int, g.length ≤ 4194304 → ∃ e, semtypelaw12_made fuel d g = some (T, (N : Int), e) ∧ MadeE a e) (e0 : Ent) (he0 : MadeE a e0) :
    iter (semtypelaw12_ArrowFunctions_l1 d h fuel) (h.length + 1) ([e0], 0) = some (.inr true) ∨ ∃ es, iter (semtypelaw12_ArrowFunctions_l1 d h fuel) (h.length + 1) ([e0], 0) = some (.inl es) ∧ es.length ≤ 5 ∧ ∀ e ∈ es, MadeE a e := by
  obtain ⟨q, hq⟩ : ∃ q, fuel = q + 60 := ⟨fuel - 60, by omega⟩
  have haw : semtypelaw12_awake fuel = some true := by rw [hq]; exact awake12 q
  have key : ∀ (m i k : Nat) (s : List Ent), i + m = h.length → m + 1 ≤ k → s.length = i + 1 → (∀ e ∈ s, MadeE a e) →
      iter (semtypelaw12_ArrowFunctions_l1 d h fuel) k (s, (i : Int)) = some (.inr true) ∨ ∃ es, iter (semtypelaw12_ArrowFunctions_l1 d h fuel) k (s, (i : Int)) = some (.inl es) ∧ es.length ≤ 5 ∧ ∀ e ∈ es, MadeE a e := by
    intro m
    induction m with
    | zero =>
      intro i k s h1 h2 h3 h4
      obtain ⟨k, rfl⟩ : ∃ m, k = m + 1 := ⟨k - 1, by omega⟩
      have e : i = h.length := by omega
      subst e
      have : semtypelaw12_ArrowFunctions_l1 d h fuel (s, (h.length : Int)) = some (.done (.inl s)) := by
        unfold semtypelaw12_ArrowFunctions_l1
        simp
      exact .inr ⟨s, by simp only [iter, this, Option.bind_some], by omega, h4⟩
    | succ m ih =>
      intro i k s h1 h2 h3 h4
      obtain ⟨k, rfl⟩ : ∃ m, k = m + 1 := ⟨k - 1, by omega⟩
      have hlt : i < h.length := by omega
      have hidx := idx_at (List.getElem?_eq_getElem hlt)
      rcases Bool.eq_false_or_eq_true (decide (40 < ((h[i]).length : Int))) with hbig | hbig
      · left
        have : semtypelaw12_ArrowFunctions_l1 d h fuel (s, (i : Int)) = some (.done (.inr true)) := by
          unfold semtypelaw12_ArrowFunctions_l1
          simp only
          rw [lt_true hlt, hidx]
          simp only [cond_true, Option.bind_some]
          rw [hbig, haw]
          rfl
        simp only [iter, this, Option.bind_some]
      · have h40 : (h[i]).length ≤ 40 := by simp at hbig; omega
        obtain ⟨e, e1, hE⟩ := hmade h[i] (by omega)
        have : semtypelaw12_ArrowFunctions_l1 d h fuel (s, (i : Int)) = some (.next (s ++ [e], ((i + 1 : Nat) : Int))) := by
          unfold semtypelaw12_ArrowFunctions_l1
          simp only [wr64]
          rw [lt_true hlt, hidx]
          simp only [cond_true, Option.bind_some]
          rw [hbig, e1]
          simp only [cond_false, Option.bind_some]
          rw [room_ok (by simp only [List.length_cons, List.length_nil]; omega), w64_succ i (by omega)]
          rfl
        simp only [iter, this, Option.bind_some]
        refine ih (i + 1) k (s ++ [e]) (by omega) (by omega) (by simp [h3]) fun x hx => ?_
        rcases List.mem_append.1 hx with hx | hx
        · exact h4 x hx
        · rw [List.mem_singleton.1 hx]; exact hE
  exact key h.length 0 (h.length + 1) [e0] (by omega) (Nat.le_refl _) rfl (fun e he => by rw [List.mem_singleton.1 he]; exact he0)
/-- The reference's goal of two nodes. -/
theorem goal_ok {T : Api_Type} (hT : GT T) (hr : inR T.Nodes.length T.Root = true) {v : Val} (ho : vOK v = true) (hb : bulkV v ≤ 2097152) (i j : Nat) (hi : i < T.Nodes.length) (hj : j < T.Nodes.length) (f : Nat) (hf : 200000000 ≤ f) :
    semtyperef7_InGoal f v T (Api_Goal.mk ([(i : Int), (j : Int)] : List Int) ([] : List Int) false) = some (memB T v (i : Int) && memB T v (j : Int)) := by
  have hFU : FU (bulkV v) ≤ f := by unfold FU; omega
  have m1 := member_ok hT (v := v) (k := i) ho (by omega) hi f hFU
  have m2 := member_ok hT (v := v) (k := j) ho (by omega) hj f hFU
  unfold semtyperef7_InGoal
  rw [ref_valid_ok f v (by omega) (by omega), ho, wf70 hT hr f (by omega)]
  have hI : semtyperef7_Indices T (Api_Goal.mk ([(i : Int), (j : Int)] : List Int) ([] : List Int) false) = some true := by
    unfold semtyperef7_Indices
    have l1 := first_ok (step := semtyperef7_Indices_l1 T (Api_Goal.mk ([(i : Int), (j : Int)] : List Int) ([] : List Int) false)) ([(i : Int), (j : Int)] : List Int) (inR T.Nodes.length) (fun i => (i : Int)) () false (fun q k hk => by
      have hq : q < 2 := (List.getElem?_eq_some_iff.1 hk).1
      unfold semtyperef7_Indices_l1
      simp only [List.append_nil, wr64]
      rw [lt_true (show q < ([(i : Int), (j : Int)] : List Int).length from hq), idx_at hk]
      simp only [cond_true, Option.bind_some]
      rw [index_ok, w64_succ q (by omega)]
      exact flag_ok _ _) (by
      unfold semtyperef7_Indices_l1
      simp)
    have hall : ([(i : Int), (j : Int)] : List Int).all (inR T.Nodes.length) = true := by
      simp only [List.all_cons, List.all_nil, Bool.and_true, Bool.and_eq_true]
      exact ⟨inR_of (by omega) (by omega), inR_of (by omega) (by omega)⟩
    rw [hall] at l1
    have l1' : iter (semtyperef7_Indices_l1 T (Api_Goal.mk ([(i : Int), (j : Int)] : List Int) ([] : List Int) false)) (2 + 1) 0 = some (.inl ()) := l1
    show (Option.bind (room (0 + 2) 8) fun _ => Option.bind (room (2 + 0) 8) fun _ => Option.bind (iter (semtyperef7_Indices_l1 T (Api_Goal.mk ([(i : Int), (j : Int)] : List Int) ([] : List Int) false)) (2 + 1) 0) fun b6 => onEnd (fun _ => some true) (fun y8 => some y8) b6) = some true
    rw [l1']
    rfl
  rw [hI]
  simp only [Option.bind_some, beq_self_eq_true, cond_true, bsome]
  unfold semtyperef7_inGoal
  have s0 : semtyperef7_inGoal_l1 v T (Api_Goal.mk ([(i : Int), (j : Int)] : List Int) ([] : List Int) false) f 0 = some (if memB T v (i : Int) = true then .next 1 else .done (.inr false)) := by
    show (Option.bind (semtyperef7_member f v T (i : Int)) fun r3 => bif !r3 then (some (Fl.done (.inr false)) : Option (Fl Int (Sum Unit Bool))) else (some (.next 1))) = _
    rw [m1]
    exact flag_ok _ _
  have s1 : semtyperef7_inGoal_l1 v T (Api_Goal.mk ([(i : Int), (j : Int)] : List Int) ([] : List Int) false) f 1 = some (if memB T v (j : Int) = true then .next 2 else .done (.inr false)) := by
    show (Option.bind (semtyperef7_member f v T (j : Int)) fun r3 => bif !r3 then (some (Fl.done (.inr false)) : Option (Fl Int (Sum Unit Bool))) else (some (.next 2))) = _
    rw [m2]
    exact flag_ok _ _
  have s2 : semtyperef7_inGoal_l1 v T (Api_Goal.mk ([(i : Int), (j : Int)] : List Int) ([] : List Int) false) f 2 = some (.done (.inl ())) := rfl
  show (Option.bind (iter (semtyperef7_inGoal_l1 v T (Api_Goal.mk ([(i : Int), (j : Int)] : List Int) ([] : List Int) false) f) (2 + 1) 0) _) = _
  simp only [iter, s0]
  cases memB T v (i : Int)
  · rfl
  simp only [if_true, Option.bind_some, s1]
  cases memB T v (j : Int)
  · rfl
  simp only [if_true, Option.bind_some, s2]
  rfl
theorem law_arrowfuns (fuel : Nat) (hf : 300000000 ≤ fuel) (d t : List Int) (h : List (List Int)) : semtypelaw12_ArrowFunctions fuel d t h = some true := by
  obtain ⟨q, hq⟩ : ∃ q, fuel = q + 60 := ⟨fuel - 60, by omega⟩
  have haw : semtypelaw12_awake fuel = some true := by rw [hq]; exact awake12 q
  unfold semtypelaw12_ArrowFunctions
  rw [short_ok [d, t] (by simp), haw]
  simp only [Option.bind_some]
  cases hs : ([d, t].all fun x => !decide (80 < (x.length : Int)))
  · rfl
  have hs' : d.length ≤ 80 ∧ t.length ≤ 80 := by
    simp at hs
    omega
  simp only [Bool.not_true, cond_false, Option.bind_some]
  rcases Bool.eq_false_or_eq_true (decide (4 < (h.length : Int))) with h2 | h2
  · rw [h2]; rfl
  rw [h2]
  have hh : h.length ≤ 4 := by simp at h2; omega
  simp only [cond_false, Option.bind_some]
  obtain ⟨T, N, a, hM, hmade⟩ := made_ok fuel (by omega) d (by omega)
  obtain ⟨e, e3, hE⟩ := hmade t (by omega)
  have hr := root_in hM
  rw [e3]
  simp only [Option.bind_some, natLen]
  rcases funs_loop fuel hf d h hh hmade e hE with e4 | ⟨es, e4, hel, hes⟩
  · rw [e4]; rfl
  rw [e4]
  simp only [Option.bind_some, onEnd]
  have har := hM.ar
  have hlen := hM.len
  have hbes := bulkEs_le (b := 200000) fun e he => (hes e he).bulk
  have hbes2 : bulkEs es ≤ 5 * 200000 := Nat.le_trans hbes (Nat.mul_le_mul_right _ hel)
  rw [hE.args, ref_function_ok fuel (a : Int) es (by omega) (by omega)]
  have hall : es.all (entOK (a : Int)) = true := List.all_eq_true.2 fun e he => (made_ent (hes e he)).1
  have hok : esOK es = true := by
    rw [esOK_all]
    exact List.all_eq_true.2 fun e he => (made_ent (hes e he)).2
  rw [if_pos ⟨by omega, by omega, hall⟩]
  simp only [Option.bind_some, bne_self_eq_false, cond_false]
  have hv := funV_ok (n := (a : Int)) (by omega) (by omega) hall hok
  have hfb := fold_insE_bulk es []
  simp only [bulkEs] at hfb
  have hfl := fold_insE_len es []
  have hbf : bulkV (funV (a : Int) (es.foldl insE [])) ≤ 1000008 := by
    simp only [funV, bulk_mk, size0, bulkVs, bulkKeys]
    omega
  have hmem : ∀ x ∈ es.foldl insE [], MadeE a x := fun x hx => by
    rcases fold_insE_mem es [] hx with hx | hx
    · cases hx
    · exact hes x hx
  have hEnt : (funV (a : Int) (es.foldl insE [])).Entries = es.foldl insE [] := rfl
  generalize hfs : es.foldl insE [] = fs at *
  have hfl2 : fs.length ≤ 5 := by simp only [List.length_nil] at hfl; omega
  obtain ⟨l0, x0, hl0, f0⟩ := fn_at hM (j := 0) (by omega)
  obtain ⟨l1, x1, hl1, f1⟩ := fn_at hM (j := 1) (by omega)
  have hw : w64 ((N : Int) + 1) = ((N + 1 : Nat) : Int) := by rw [w64_id (by omega) (by have := hM.gt.len; omega)]; omega
  have hal : ∀ x ∈ fs, arrow_Allowed fuel x T ([(N : Int), ((N + 1 : Nat) : Int)] : List Int) = some (entM (memB T) x l0 && entM (memB T) x l1) := fun x hx => by
    have hX := hmem x hx
    have hXb := hX.bulk
    rw [allowed_ok hM.gt hr x (by omega) _ (by simp) fuel (by omega)]
    unfold allowB
    rw [(made_ent hX).2]
    simp only [List.all_cons, List.all_nil, Bool.and_true, Bool.true_and]
    have f0' : fnB T (N : Int) = true := f0
    have a0 : arB T x (N : Int) = entM (memB T) x l0 := arB_at (j := 0) x0 hl0 hX.args
    rw [f0', f1, a0, arB_at x1 hl1 hX.args]
    rfl
  have hloop : iter (semtypelaw12_ArrowFunctions_l2 fuel (T, (N : Int), e) (funV (a : Int) fs, 0)) (fs.length + 1) (true, 0) = some (fs.all fun x => entM (memB T) x l0 && entM (memB T) x l1) := by
    have key := iter_fold (σ := Bool) (step := semtypelaw12_ArrowFunctions_l2 fuel (T, (N : Int), e) (funV (a : Int) fs, 0)) fs (fun s i => (s, (i : Int))) (fun s x => s && (entM (memB T) x l0 && entM (memB T) x l1)) (fun _ _ => True) (fun s => s)
      (fun i s x hx _ => by
        have hi : i < fs.length := (List.getElem?_eq_some_iff.1 hx).1
        refine ⟨?_, trivial⟩
        unfold semtypelaw12_ArrowFunctions_l2
        simp only [wr64, hEnt, hw]
        rw [lt_true hi, idx_at hx, w64_succ i (by omega)]
        simp only [cond_true, Option.bind_some]
        rw [hal x (List.mem_of_getElem? hx)]
        cases s <;> rfl) (fun s _ => by
        unfold semtypelaw12_ArrowFunctions_l2
        simp [hEnt]) true trivial _ (Nat.le_refl _)
    have key' : iter (semtypelaw12_ArrowFunctions_l2 fuel (T, (N : Int), e) (funV (a : Int) fs, 0)) (fs.length + 1) (true, 0) = _ := key
    rw [key']
    congr 1
    have : ∀ (l : List Ent) (s : Bool), l.foldl (fun s x => s && (entM (memB T) x l0 && entM (memB T) x l1)) s = (s && l.all fun x => entM (memB T) x l0 && entM (memB T) x l1) := by
      intro l
      induction l with
      | nil => intro s; simp
      | cons x r ih => intro s; rw [List.foldl_cons, ih, List.all_cons, Bool.and_assoc]
    rw [this]
    simp
  rw [hEnt, hloop]
  simp only [Option.bind_some, wr64, hw]
  rw [goal_ok hM.gt hr hv (by omega) N (N + 1) (by omega) (by omega) fuel (by omega)]
  have m0 : memB T (funV (a : Int) fs) (N : Int) = fs.all fun e => entM (memB T) e l0 := mem_fun (j := 0) hM x0 hl0 hv (by omega)
  rw [m0, mem_fun hM x1 hl1 hv (by omega), all_and]
  simp only [Option.bind_some, beq_self_eq_true, cond_true]
end Go.Pl
