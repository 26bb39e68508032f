/- Clones, entries, functions of the program. No program in sight. -/
import Derived.Test.YtdipagkcdpcnbaaGreatRBase
import Derived.Test.YtdipagkcdpcnbaaGreatRLabA
import Derived.Test.YtdipagkcdpcnbaaGreatRFunA
namespace Go.Pl
open Go Go.RowKit Go.Sx Go.Qx

/-! ### copies -/
theorem copy_loop {α : Type} {step : List α × Int → Option (Fl (List α × Int) (List α))} (xs : List α) (bytes : Nat)
    (hst : ∀ (i : Nat) (s : List α) (x : α), xs[i]? = some x → step (s, (i : Int)) = Option.bind (room (s.length + 1) bytes) fun _ => some (.next (s ++ [x], w64 ((i : Int) + 1))))
    (hend : ∀ s, step (s, (xs.length : Int)) = some (.done s))
    (hb : bytes ≤ 1024) (hl : xs.length ≤ 4194304) :
    iter step (xs.length + 1) (([] : List α), 0) = some xs := by
  have := iter_fold (σ := List α) (step := step) xs (fun s i => (s, (i : Int))) (fun s x => s ++ [x]) (fun i s => s = xs.take i) (fun s => s)
    ?_ (fun s _ => hend s) [] (by simp) _ (Nat.le_refl _)
  · have hf : ∀ (l : List α) (s : List α), l.foldl (fun s x => s ++ [x]) s = s ++ l := by
      intro l
      induction l with
      | nil => intro s; simp
      | cons x r ih => intro s; rw [List.foldl_cons, ih]; simp
    rw [hf] at this
    simpa using this
  · intro i s x hx hI
    have hi : i < xs.length := (List.getElem?_eq_some_iff.1 hx).1
    have hs : s.length = i := by rw [hI, List.length_take]; omega
    refine ⟨?_, by rw [take_next hx, hI]⟩
    rw [hst i s x hx, room_ok (by
      have : (s.length + 1) * bytes ≤ 4194305 * 1024 := Nat.mul_le_mul (by omega) hb
      omega)]
    simp only [Option.bind_some]
    rw [w64_id (x := (i : Int) + 1) (by omega) (by omega)]
    rfl

theorem clone_ok : ∀ (k : Nat),
    (∀ v, 2 * bulkV v ≤ k → bulkV v ≤ 4194304 → (scc_value_clone k).1 v = some v) ∧
    (∀ vs, 2 * bulkVs vs + 1 ≤ k → bulkVs vs ≤ 4194304 → (scc_value_clone k).2.1 vs = some vs) ∧
    (∀ es, 2 * bulkEs es + 1 ≤ k → bulkEs es ≤ 4194304 → (scc_value_clone k).2.2 es = some es)
  | 0 => ⟨fun v h => by have := bulkV_pos v; omega, fun _ h => by omega, fun _ h => by omega⟩
  | k + 1 => by
    obtain ⟨i2, i1, i3⟩ := clone_ok k
    refine ⟨?_, ?_, ?_⟩
    · intro v h hb
      show value_clone_B k (scc_value_clone k).1 (scc_value_clone k).2.1 (scc_value_clone k).2.2 v = _
      have hbe := bulkV_eq v
      have hk := bulkKeys_len v.Keys
      have hs := bulkStrs_len v.Labels
      unfold value_clone_B cloneF
      rw [i1 v.Kids (by omega) (by omega), i3 v.Entries (by omega) (by omega), room_ok (by omega), room_ok (by omega)]
      simp only [Option.bind_some]
      cases v
      rfl
    · intro vs h hb
      show value_cloneAll_B k (scc_value_clone k).1 (scc_value_clone k).2.1 (scc_value_clone k).2.2 vs = _
      unfold value_cloneAll_B
      have hl := bulkVs_len vs
      rw [natLen, copy_loop (step := value_cloneAll_l1 vs (scc_value_clone k).1) vs 128 ?_ ?_ (by omega) (by omega)]
      · simp only [Option.bind_some]
      · intro i s x hx
        have hi : i < vs.length := (List.getElem?_eq_some_iff.1 hx).1
        have hm := bulkVs_mem (List.mem_of_getElem? hx)
        unfold value_cloneAll_l1
        simp only [bite, wr64]
        rw [if_pos (by simp; omega), idx_at hx]
        simp only [Option.bind_some]
        rw [i2 x (by omega) (by omega)]
        rfl
      · intro s
        unfold value_cloneAll_l1
        simp
    · intro es h hb
      show value_cloneEntries_B k (scc_value_clone k).1 (scc_value_clone k).2.1 (scc_value_clone k).2.2 es = _
      unfold value_cloneEntries_B
      have hl := bulkEs_len es
      rw [natLen, copy_loop (step := value_cloneEntries_l1 es (scc_value_clone k).2.1 (scc_value_clone k).1) es 160 ?_ ?_ (by omega) (by omega)]
      · simp only [Option.bind_some]
      · intro i s x hx
        have hi : i < es.length := (List.getElem?_eq_some_iff.1 hx).1
        have hm := bulkEs_mem (List.mem_of_getElem? hx)
        have he := bulkE_eq x
        unfold value_cloneEntries_l1
        simp only [bite, wr64]
        rw [if_pos (by simp; omega), idx_at hx]
        simp only [Option.bind_some, Int.toNat_natCast, hx]
        rw [i1 x.Args (by omega) (by omega)]
        simp only [Option.bind_some]
        rw [i2 x.Result (by omega) (by omega)]
        simp only [Option.bind_some]
        cases x
        rfl
      · intro s
        unfold value_cloneEntries_l1
        simp
end Go.Pl
namespace Go.Pl
open Go Go.RowKit Go.Sx Go.Qx


section
variable {α : Type} {r : α → α → Bool}
theorem find_loop {step : List α × Int → Option (Fl (List α × Int) (Sum (List α) (List α × List α)))} (s : List α) (hl : 1 ≤ s.length)
    (hst : ∀ (i : Nat) (x y : α), 1 ≤ i → s[i]? = some x → s[i - 1]? = some y → r x y = false → step (s, (i : Int)) = some (.next (s, ((i + 1 : Nat) : Int))))
    (hhit : ∀ (i : Nat) (x y : α), 1 ≤ i → s[i]? = some x → s[i - 1]? = some y → r x y = true → ∃ q, step (s, (i : Int)) = some (.done (.inr (q, s.take i ++ dd r x (s.drop (i + 1))))))
    (hend : step (s, (s.length : Int)) = some (.done (.inl s))) :
    (iter step (s.length + 1) (s, 1) = some (.inl s) ∧ cmpct r s = s) ∨ ∃ q, iter step (s.length + 1) (s, 1) = some (.inr (q, cmpct r s)) := by
  have key : ∀ (m i fuel : Nat), i + m = s.length → 1 ≤ i → m + 1 ≤ fuel → (∀ j : Nat, (hj : j + 1 < s.length) → j + 1 < i → r s[j + 1] (s[j]'(by omega)) = false) →
      (iter step fuel (s, (i : Int)) = some (.inl s) ∧ cmpct r s = s) ∨ ∃ q, iter step fuel (s, (i : Int)) = some (.inr (q, cmpct r s)) := by
    intro m
    induction m with
    | zero =>
      intro i fuel hm hi hf hok
      obtain ⟨fuel, rfl⟩ : ∃ m, fuel = m + 1 := ⟨fuel - 1, by omega⟩
      have e : i = s.length := by omega
      subst e
      left
      refine ⟨by simp only [iter, hend, Option.bind_some], ?_⟩
      have h1 : s.length - 1 < s.length := by omega
      have hs : s = s.take (s.length - 1) ++ s[s.length - 1] :: [] := by
        have := take_next (List.getElem?_eq_getElem h1)
        rw [show s.length - 1 + 1 = s.length by omega, List.take_length] at this
        exact this
      have hc := cmpct_split (r := r) (s.take (s.length - 1)) s[s.length - 1] [] (by
        rw [← hs]
        intro j x y h1 h2
        have hj := (List.getElem?_eq_some_iff.1 h1).1
        rw [List.getElem?_eq_getElem hj] at h1
        rw [List.getElem?_eq_getElem (by omega)] at h2
        cases h1; cases h2
        exact hok j hj (by omega))
      rw [← hs] at hc
      rw [hc]
      exact hs.symm
    | succ m ih =>
      intro i fuel hm hi hf hok
      obtain ⟨fuel, rfl⟩ : ∃ m, fuel = m + 1 := ⟨fuel - 1, by omega⟩
      have hlt : i < s.length := by omega
      have hlt2 : i - 1 < s.length := by omega
      have hx := List.getElem?_eq_getElem hlt
      have hy := List.getElem?_eq_getElem hlt2
      by_cases h : r s[i] s[i - 1] = true
      · right
        obtain ⟨q, hq⟩ := hhit i _ _ hi hx hy h
        refine ⟨q, ?_⟩
        simp only [iter, hq, Option.bind_some]
        have hs : s = s.take (i - 1) ++ s[i - 1] :: s[i] :: s.drop (i + 1) := by
          have e1 := List.take_append_drop (i - 1) s
          have e2 := List.drop_eq_getElem_cons hlt2
          have e3 := List.drop_eq_getElem_cons hlt
          rw [show i - 1 + 1 = i by omega, e3] at e2
          rw [← e2]
          exact e1.symm
        have hc := cmpct_split (r := r) (s.take (i - 1)) s[i - 1] (s[i] :: s.drop (i + 1)) (by
          have e : s.take (i - 1) ++ [s[i - 1]] = s.take i := by
            have := take_next hy
            rw [show i - 1 + 1 = i by omega] at this
            exact this.symm
          rw [e]
          intro j x y h1 h2
          have hj := (List.getElem?_eq_some_iff.1 h1).1
          have hj' : j + 1 < i := by rw [List.length_take] at hj; omega
          rw [List.getElem?_take_of_lt hj', List.getElem?_eq_getElem (by omega)] at h1
          rw [List.getElem?_take_of_lt (by omega), List.getElem?_eq_getElem (by omega)] at h2
          cases h1; cases h2
          exact hok j (by omega) hj')
        rw [← hs] at hc
        rw [hc]
        have e : s.take i = s.take (i - 1) ++ [s[i - 1]] := by
          have := take_next hy
          rw [show i - 1 + 1 = i by omega] at this
          exact this
        rw [e, List.append_assoc]
        simp only [dd, h, if_true]
        rfl
      · have h' : r s[i] s[i - 1] = false := by simpa using h
        simp only [iter, hst i _ _ hi hx hy h', Option.bind_some]
        refine ih (i + 1) fuel (by omega) (by omega) (by omega) (fun j hj hji => ?_)
        by_cases e : j + 1 < i
        · exact hok j hj e
        · have : j + 1 = i := by omega
          subst this
          exact h'
  exact key (s.length - 1) 1 (s.length + 1) (by omega) (Nat.le_refl _) (by omega) (fun j _ h => by omega)
theorem cut_end {β γ : Type} (z : α) (j n : Nat) (s' T : List α) (hl : s'.length = n) (hj : j < n) (ht : s'.take j = T) :
    ∃ q, (Option.bind (idx s' (j : Int)) fun _ => bif Nat.blt (j : Int).toNat s'.length then (Option.bind (cut (s'.take (j : Int).toNat ++ List.replicate (s'.length - (j : Int).toNat) z) 0 (j : Int)) fun y =>
      some (Fl.done (Sum.inr (s'.take (j : Int).toNat ++ List.replicate (s'.length - (j : Int).toNat) z, y)) : Fl β (Sum γ (List α × List α)))) else none) = some (.done (.inr (q, T))) := by
  refine ⟨s'.take j ++ List.replicate (s'.length - j) z, ?_⟩
  have e : (j : Int).toNat = j := by omega
  rw [idx_at (List.getElem?_eq_getElem (show j < s'.length by omega)), e]
  simp only [Option.bind_some]
  have eb : Nat.blt j s'.length = true := by simp [Nat.blt]; omega
  rw [eb, cut_lo _ (by simp; omega)]
  simp only [cond_true, Option.bind_some]
  rw [List.take_append_of_le_length (by simp; omega), List.take_take, Nat.min_self, ht]
end

theorem w64_less (n : Nat) (h : n ≤ 4611686018427387904) (h1 : 1 ≤ n) : w64 ((n : Int) - 1) = ((n - 1 : Nat) : Int) := by rw [w64_id (by omega) (by omega)]; omega
abbrev sameE (x y : Ent) : Bool := decide (cE x y = 0)
theorem packE (t : Ent → Ent → Option Bool) (s0 : List Ent) (i0 n : Nat) (hn : n ≤ 4194304) (i k : Nat) (s : List Ent) (x y : Ent) (ht : t x y = some (sameE x y)) (hl : s.length = n) (hk : i0 + k < n) (h1 : 1 ≤ k) (hi : i < i0 + k) (hx : s[i0 + k]? = some x) (hy : s[i0 + k - 1]? = some y) :
    slices_CompactFunc_api_Entry_api_Entry_l1 t (s0, (i0 : Int)) (((i : Int), (k : Int)), s) = some (.next (if sameE x y = true then (((i : Int), ((k + 1 : Nat) : Int)), s) else ((((i + 1 : Nat) : Int), ((k + 1 : Nat) : Int)), s.set i x))) := by
  unfold slices_CompactFunc_api_Entry_api_Entry_l1
  simp only [bite, wr64, Int.toNat_natCast]
  have hdl : (s.drop i0).length = n - i0 := by rw [List.length_drop, hl]
  rw [if_pos (decide_eq_true (by show (k : Int) < (((s.drop i0).length : Nat) : Int); rw [hdl]; omega)), w64_succ i (by omega), w64_succ k (by omega), w64_less k (by omega) h1]
  simp only [Int.toNat_natCast]
  have a1 : idx (s.drop i0) (k : Int) = some x := idx_at (by rw [List.getElem?_drop]; exact hx)
  have a2 : idx (s.drop i0) ((k - 1 : Nat) : Int) = some y := idx_at (by rw [List.getElem?_drop, show i0 + (k - 1) = i0 + k - 1 by omega]; exact hy)
  have a3 : idx s (i : Int) = some (s[i]'(by omega)) := idx_at (List.getElem?_eq_getElem (by omega))
  rw [a1, a2, a3, hx, show i0 + (k - 1) = i0 + k - 1 by omega, hy, List.getElem?_eq_getElem (show i < s.length by omega)]
  simp only [Option.bind_some, ht]
  by_cases h : cE x y = 0 <;> simp [sameE, h]
theorem compactE_ok (t : Ent → Ent → Option Bool) (l : List Ent) (hl : l.length ≤ 4194304) (ht : ∀ x ∈ l, ∀ y, t x y = some (sameE x y)) : slices_CompactFunc_api_Entry_api_Entry l t = some (cmpct sameE l) := by
  unfold slices_CompactFunc_api_Entry_api_Entry
  by_cases h2 : (l.length : Int) < 2
  · have e : decide ((l.length : Int) < 2) = true := by simpa using h2
    rw [e]
    match l, h2 with
    | [], _ => rfl
    | [_], _ => rfl
    | _ :: _ :: _, h => exact absurd h (by simp; omega)
  · have e : decide ((l.length : Int) < 2) = false := by simpa using h2
    rw [e, natLen]
    simp only [cond_false]
    have key := find_loop (r := sameE) (step := slices_CompactFunc_api_Entry_api_Entry_l2 t) l (by omega) ?_ ?_ ?_
    · rcases key with ⟨h, hc⟩ | ⟨q, h⟩
      · rw [h, hc]; rfl
      · rw [h]; rfl
    · intro i x y hi hx hy hr
      have hlt : i < l.length := (List.getElem?_eq_some_iff.1 hx).1
      unfold slices_CompactFunc_api_Entry_api_Entry_l2
      simp only [bite, wr64, Int.toNat_natCast]
      rw [if_pos (by simp; omega), w64_less i (by omega) hi, idx_at hx, idx_at hy]
      simp only [Int.toNat_natCast, hx, hy, Option.bind_some]
      rw [ht x (List.mem_of_getElem? hx), hr, w64_succ i (by omega)]
      rfl
    · intro i x y hi hx hy hr
      have hlt : i < l.length := (List.getElem?_eq_some_iff.1 hx).1
      unfold slices_CompactFunc_api_Entry_api_Entry_l2
      simp only [bite, wr64, Int.toNat_natCast]
      rw [if_pos (by simp; omega), w64_less i (by omega) hi, idx_at hx, idx_at hy]
      simp only [Int.toNat_natCast, hx, hy, Option.bind_some]
      rw [ht x (List.mem_of_getElem? hx), hr]
      simp only [Option.bind_some, if_true]
      obtain ⟨s', e1, e2, e3⟩ := pack_loopM (r := sameE) (ok := fun x => x ∈ l) (step := slices_CompactFunc_api_Entry_api_Entry_l1 t (l, (i : Int))) i l.length (fun i' k s x y a0 a1 a2 a3 a4 a5 a6 => packE t l i l.length hl i' k s x y (ht x a0 y) a1 a2 a3 a4 a5 a6)
        (fun i' k s a1 a2 => by
          unfold slices_CompactFunc_api_Entry_api_Entry_l1
          simp only [Int.toNat_natCast]
          have : decide ((k : Int) < (((s.drop i).length : Nat) : Int)) = false := by rw [List.length_drop]; simp; omega
          rw [this]
          rfl) (l.length - (i + 1)) i 1 l x ((l.drop i).length + 1) rfl (by omega) (Nat.le_refl _) (by omega) (by simpa using hx) (by rw [List.length_drop]; omega) (fun x hx => hx)
      have e1' : iter (slices_CompactFunc_api_Entry_api_Entry_l1 t (l, (i : Int))) ((l.drop i).length + 1) (((i : Int), 1), l) = _ := e1
      rw [e1']
      simp only [Option.bind_some, ← bite]
      have hd := dd_len (r := sameE) (l.drop (i + 1)) x
      rw [List.length_drop] at hd
      exact cut_end (Ent.mk [] false (Val.mk 0 0 (⟨#[]⟩ : ByteArray) [] [] [] [])) _ l.length s' _ e2 (by omega) e3
    · unfold slices_CompactFunc_api_Entry_api_Entry_l2
      simp
theorem sortEntries_ok (fuel : Nat) (es : List Ent) (hf : 2 * bulkEs es + 1 ≤ fuel) (hb : bulkEs es ≤ 4194304) : value_sortEntries fuel es = some (es.foldl insE []) := by
  have hlen := bulkEs_len es
  unfold value_sortEntries
  rw [show value_cloneEntries fuel es = some es from (clone_ok fuel).2.2 es hf hb]
  simp only [Option.bind_some, bsome]
  have hg : ∀ x ∈ es, ∀ y, value_compareEntries fuel x y = some (cE x y) := fun x hx y => (compare_ok fuel).2.2 x y (by have := bulkEs_mem hx; omega) (by have := bulkEs_mem hx; omega)
  have hlt : ∀ x ∈ es, ∀ y, ltB (fun z2 z3 => value_compareEntries fuel z2 z3) x y = decide (cE x y < 0) := fun x hx y => by
    simp only [ltB, hg x hx y]
  have hwk : Swk (ltB fun z2 z3 => value_compareEntries fuel z2 z3) es := by
    refine ⟨fun x hx => ?_, fun x hx y hy z hz h1 h2 => ?_, fun x hx y hy z hz h1 h2 => ?_⟩
    · rw [hlt x hx, cmpE.self]; rfl
    · rw [hlt x hx] at *
      rw [hlt y hy] at h2
      simp only [decide_eq_true_eq] at *
      exact cmpE.strict h1 (by omega)
    · rw [hlt x hx] at *
      rw [hlt y hy] at h2
      simp only [decide_eq_false_iff_not] at *
      have a1 := cmpE.anti x y
      have a2 := cmpE.anti y z
      have a3 := cmpE.anti x z
      have := cmpE.trans z y x (by omega) (by omega)
      omega
  have hok : OkCmp es fun z2 z3 => value_compareEntries fuel z2 z3 := ⟨by omega, fun x hx y _ => ⟨_, hg x hx y⟩, hwk⟩
  have hsort : sortR es (fun z2 z3 => value_compareEntries fuel z2 z3) = some ((), sortP (ltB fun z2 z3 => value_compareEntries fuel z2 z3) es) := by
    unfold sortR sortF
    rw [if_pos hok]
    rfl
  rw [hsort]
  obtain ⟨hp, hsr⟩ := sortP_sorts hwk
  generalize sortP (ltB fun z2 z3 => value_compareEntries fuel z2 z3) es = p at hp hsr
  simp only [Option.bind_some]
  have hs : p.Pairwise fun a b => ¬ cE b a < 0 := by
    refine hsr.imp_of_mem fun {a b} _ hb h => ?_
    rw [hlt b (hp.mem_iff.1 hb)] at h
    simpa using h
  rw [compactE_ok _ p (by rw [hp.length_eq]; omega) (fun x hx y => by
    unfold value_sortEntries_1
    rw [hg x (hp.mem_iff.1 hx) y]
    simp only [Option.bind_some, sameE]
    rfl)]
  simp only [Option.bind_some]
  unfold slices_Clip_api_Entry_api_Entry
  have := sort_is_ins cmpE hp hs
  rw [show cmpct (fun x y => decide (cE x y = 0)) = cmpct sameE from rfl, ← insE_U] at this
  rw [this]
  simp
end Go.Pl
namespace Go.Pl
open Go Go.Sx Go.Qx

theorem fun_v_ok (fuel : Nat) (n : Int) (es : List Ent) (hf : 2 * bulkEs es + 1 ≤ fuel) (hb : bulkEs es ≤ 4194304) :
    value_Function fuel n es = some (if 0 ≤ n ∧ n ≤ 4 ∧ es.all (entOK n) = true then (funV n (es.foldl insE []), 0) else (zeroV, 1)) := by
  have hlen := bulkEs_len es
  unfold value_Function
  simp only [natLen]
  by_cases h1 : n < 0
  · have e1 : decide (n < 0) = true := by simpa using h1
    rw [e1, if_neg (by omega)]; rfl
  by_cases h2 : 4 < n
  · have e1 : decide (n < 0) = false := by simpa using h1
    have e2 : decide (4 < n) = true := by simpa using h2
    rw [e1, e2, if_neg (by omega)]; rfl
  have e1 : decide (n < 0) = false := by simpa using h1
  have e2 : decide (4 < n) = false := by simpa using h2
  rw [e1, e2, sortEntries_ok fuel es hf hb]
  have key := first_ok (step := value_Function_l1 n es fuel) es (entOK n) (fun i => ((i : Int), cell0)) cell0 (1, cell0) ?_ ?_
  · have e : iter (value_Function_l1 n es fuel) (es.length + 1) (0, (0, 0, (⟨#[]⟩ : ByteArray), [], [], [], [])) = iter (value_Function_l1 n es fuel) (es.length + 1) (((0 : Nat) : Int), cell0) := rfl
    rw [e, key]
    by_cases ha : es.all (entOK n) = true
    · rw [if_pos ha, if_pos ⟨by omega, by omega, ha⟩]
      rfl
    · rw [if_neg ha, if_neg (fun h => ha h.2.2)]
      rfl
  · intro i x hx
    have hi : i < es.length := (List.getElem?_eq_some_iff.1 hx).1
    have hm := bulkEs_mem (List.mem_of_getElem? hx)
    unfold value_Function_l1
    simp only [bite, wr64]
    rw [if_pos (by simp; omega), idx_at hx]
    simp only [Option.bind_some, Int.toNat_natCast, hx]
    rw [ent_ok fuel x n (by omega) (by omega), w64_succ i (by omega)]
    cases entOK n x <;> rfl
  · unfold value_Function_l1
    simp
end Go.Pl
