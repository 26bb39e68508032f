/- Insertion into ascending rows: what the reference does with keys and with entries. No program in sight. -/
import Derived.Test.YtdipagkcdpcnbaaGreatRVal
namespace Go.Pl
open Go Go.RowKit Go.Sx Go.Qx

/-! ### insertion -/
/-- The row with x ahead of the first element that is not below it. -/
def insAt {α : Type} (p : α → Bool) (x : α) (out : List α) : List α := out.takeWhile p ++ [x] ++ out.dropWhile p
theorem take_tw {α : Type} (p : α → Bool) : ∀ l : List α, l.take (l.takeWhile p).length = l.takeWhile p
  | [] => rfl
  | x :: r => by
    by_cases h : p x = true
    · simp [h, take_tw p r]
    · simp [h]
theorem drop_tw {α : Type} (p : α → Bool) : ∀ l : List α, l.drop (l.takeWhile p).length = l.dropWhile p
  | [] => rfl
  | x :: r => by
    by_cases h : p x = true
    · simp [h, drop_tw p r]
    · simp [h]
theorem tw_len {α : Type} (p : α → Bool) : ∀ l : List α, (l.takeWhile p).length ≤ l.length
  | [] => Nat.le_refl _
  | x :: r => by
    have := tw_len p r
    by_cases h : p x = true
    · simp [h, this]
    · simp [h]
theorem tw_at {α : Type} (p : α → Bool) : ∀ (l : List α), l[(l.takeWhile p).length]? = (l.dropWhile p).head?
  | [] => rfl
  | x :: r => by
    have := tw_at p r
    by_cases h : p x = true
    · simp [h, this]
    · simp [h]
/-- The loop that looks for the place. -/
theorem pos_ok {α : Type} {step : Int → Option (Fl Int Int)} (out : List α) (p : α → Bool)
    (hst : ∀ (i : Nat) (x : α), out[i]? = some x → step (i : Int) = some (if p x = true then .next ((i + 1 : Nat) : Int) else .done (i : Int)))
    (hend : step (out.length : Int) = some (.done (out.length : Int))) : iter step (out.length + 1) 0 = some ((out.takeWhile p).length : Int) := by
  have key : ∀ (m i k : Nat), i + m = out.length → m + 1 ≤ k → iter step k (i : Int) = some (((i + ((out.drop i).takeWhile p).length : Nat)) : Int) := by
    intro m
    induction m with
    | zero =>
      intro i k h1 h2
      obtain ⟨k, rfl⟩ : ∃ m, k = m + 1 := ⟨k - 1, by omega⟩
      have e : i = out.length := by omega
      subst e
      simp [iter, hend]
    | succ m ih =>
      intro i k h1 h2
      obtain ⟨k, rfl⟩ : ∃ m, k = m + 1 := ⟨k - 1, by omega⟩
      have hlt : i < out.length := by omega
      have hs := hst i out[i] (List.getElem?_eq_getElem hlt)
      rw [List.drop_eq_getElem_cons hlt, List.takeWhile_cons]
      by_cases hp : p out[i] = true
      · rw [if_pos hp] at hs
        simp only [iter, hs, Option.bind_some, ih (i + 1) k (by omega) (by omega), hp, if_true, List.length_cons]
        congr 2
        omega
      · rw [if_neg hp] at hs
        simp [iter, hs, hp]
  have := key out.length 0 (out.length + 1) (by omega) (Nat.le_refl _)
  simpa using this
/-- A loop that ends the function at the first element that fails. -/
theorem first_ok {α σ τ β : Type} {step : σ → Option (Fl σ (Sum τ β))} (xs : List α) (p : α → Bool) (pk : Nat → σ) (d : τ) (b : β)
    (hst : ∀ (i : Nat) (x : α), xs[i]? = some x → step (pk i) = some (if p x = true then .next (pk (i + 1)) else .done (.inr b)))
    (hend : step (pk xs.length) = some (.done (.inl d))) : iter step (xs.length + 1) (pk 0) = some (if xs.all p = true then .inl d else .inr b) := by
  have key : ∀ (m i k : Nat), i + m = xs.length → m + 1 ≤ k → iter step k (pk i) = some (if (xs.drop i).all p = true then .inl d else .inr b) := by
    intro m
    induction m with
    | zero =>
      intro i k h1 h2
      obtain ⟨k, rfl⟩ : ∃ m, k = m + 1 := ⟨k - 1, by omega⟩
      have e : i = xs.length := by omega
      subst e
      simp [iter, hend]
    | succ m ih =>
      intro i k h1 h2
      obtain ⟨k, rfl⟩ : ∃ m, k = m + 1 := ⟨k - 1, by omega⟩
      have hlt : i < xs.length := by omega
      have hs := hst i xs[i] (List.getElem?_eq_getElem hlt)
      rw [List.drop_eq_getElem_cons hlt, List.all_cons]
      by_cases hp : p xs[i] = true
      · rw [if_pos hp] at hs
        simp only [iter, hs, Option.bind_some, ih (i + 1) k (by omega) (by omega), hp, Bool.true_and]
      · rw [if_neg hp] at hs
        simp [iter, hs, hp]
  have := key xs.length 0 (xs.length + 1) (by omega) (Nat.le_refl _)
  simpa using this
theorem ins_asc {α : Type} (c : α → α → Int) (hanti : ∀ a b, c b a = - c a b) (x : α) : ∀ out : List α, asc c out = true → (∀ y, (out.dropWhile (fun y => decide (c y x < 0))).head? = some y → c y x ≠ 0) →
    asc c (insAt (fun y => decide (c y x < 0)) x out) = true
  | [], _, _ => by simp [insAt, asc]
  | y :: r, h, hne => by
    by_cases hp : c y x < 0
    · have ih := ins_asc c hanti x r (by cases r with | nil => simp [asc] | cons z r => simp [asc] at h; exact h.2) (by
        intro z hz
        refine hne z ?_
        simpa [hp] using hz)
      have e : insAt (fun y => decide (c y x < 0)) x (y :: r) = y :: insAt (fun y => decide (c y x < 0)) x r := by simp [insAt, hp]
      rw [e]
      cases r with
      | nil => simp [insAt, asc, hp]
      | cons z r =>
        simp only [asc, Bool.and_eq_true, decide_eq_true_eq] at h
        by_cases hz : c z x < 0
        · have e2 : insAt (fun y => decide (c y x < 0)) x (z :: r) = z :: insAt (fun y => decide (c y x < 0)) x r := by simp [insAt, hz]
          rw [e2] at ih ⊢
          simp only [asc, Bool.and_eq_true, decide_eq_true_eq]
          exact ⟨h.1, ih⟩
        · have e2 : insAt (fun y => decide (c y x < 0)) x (z :: r) = x :: z :: r := by simp [insAt, hz]
          rw [e2] at ih ⊢
          simp only [asc, Bool.and_eq_true, decide_eq_true_eq] at ih ⊢
          exact ⟨hp, ih⟩
    · have e : insAt (fun y => decide (c y x < 0)) x (y :: r) = x :: y :: r := by simp [insAt, hp]
      have hy := hne y (by simp [hp])
      have ha := hanti y x
      rw [e]
      simp only [asc, Bool.and_eq_true, decide_eq_true_eq]
      exact ⟨by omega, h⟩
theorem insAt_mem {α : Type} {p : α → Bool} {x y : α} {out : List α} (h : y ∈ insAt p x out) : y = x ∨ y ∈ out := by
  have e := List.takeWhile_append_dropWhile (p := p) (l := out)
  simp only [insAt, List.mem_append, List.mem_singleton] at h
  rcases h with (h | h) | h
  · exact .inr (by rw [← e]; exact List.mem_append_left _ h)
  · exact .inl h
  · exact .inr (by rw [← e]; exact List.mem_append_right _ h)
theorem insAt_len {α : Type} (p : α → Bool) (x : α) (out : List α) : (insAt p x out).length = out.length + 1 := by
  have e := congrArg List.length (List.takeWhile_append_dropWhile (p := p) (l := out))
  simp only [List.length_append] at e
  simp only [insAt, List.length_append, List.length_singleton]
  omega
theorem cut_lo {α : Type} (l : List α) {k : Nat} (h : k ≤ l.length) : cut l 0 (k : Int) = some (l.take k) := by
  unfold cut
  rw [if_pos ⟨by omega, by omega, by omega⟩]
  simp
theorem cut_hi {α : Type} (l : List α) {k : Nat} (h : k ≤ l.length) : cut l (k : Int) (l.length : Int) = some (l.drop k) := by
  unfold cut
  rw [if_pos ⟨by omega, by omega, by omega⟩]
  simp
/-- The three rows that are put together. -/
theorem ins_go {α β : Type} (out : List α) (x : α) (p : α → Bool) (b : Nat) (hb : b ≤ 1024) (hl : out.length ≤ 4194304) (f : List α → Option β) :
    (Option.bind (cut out 0 ((out.takeWhile p).length : Int)) fun u => Option.bind (room (0 + u.length) b) fun _ =>
      Option.bind (room (u.length + [x].length) b) fun _ => Option.bind (cut out ((out.takeWhile p).length : Int) (out.length : Int)) fun w =>
      Option.bind (room ((u ++ [x]).length + w.length) b) fun _ => f ((u ++ [x]) ++ w)) = f (insAt p x out) := by
  have hk := tw_len p out
  have rm : ∀ n, n ≤ 4194305 → room n b = some () := fun n hn => room_ok (by
    have : n * b ≤ 4194305 * 1024 := Nat.mul_le_mul hn hb
    omega)
  rw [cut_lo out hk, cut_hi out hk, take_tw, drop_tw]
  have hl2 := insAt_len p x out
  simp only [insAt, List.length_append, List.length_singleton] at hl2
  simp only [Option.bind_some]
  rw [rm _ (by simp; omega), rm _ (by simp; omega), rm _ (by simp only [List.length_append, List.length_singleton]; omega)]
  rfl

/-! ### entries -/
theorem cE_lx (a b : Ent) : cE a b = lx (eE a) (eE b) := by
  have := (pf_all (bulkE a)).2 a (Nat.le_refl _) b [] []
  simpa [lx, tn_zero] using this.symm
theorem cE_anti (a b : Ent) : cE b a = - cE a b := by rw [cE_lx, cE_lx]; exact lx_anti _ _
def insE (out : List Ent) (x : Ent) : List Ent :=
  match (out.dropWhile (fun y => decide (cE y x < 0))).head? with
  | some y => if cE y x = 0 then out else insAt (fun y => decide (cE y x < 0)) x out
  | none => insAt (fun y => decide (cE y x < 0)) x out
theorem bulkEs_app (a b : List Ent) : bulkEs (a ++ b) = bulkEs a + bulkEs b := by
  induction a with
  | nil => simp [bulkEs]
  | cons x r ih => simp only [List.cons_append, bulkEs, ih]; omega
theorem insAt_bulkE (p : Ent → Bool) (x : Ent) (out : List Ent) : bulkEs (insAt p x out) = bulkEs out + bulkE x := by
  have e := congrArg bulkEs (List.takeWhile_append_dropWhile (p := p) (l := out))
  rw [bulkEs_app] at e
  simp only [insAt, bulkEs_app, bulkEs]
  omega
theorem insE_bulk (out : List Ent) (x : Ent) : bulkEs (insE out x) ≤ bulkEs out + bulkE x := by
  unfold insE
  split
  · split
    · omega
    · rw [insAt_bulkE]; omega
  · rw [insAt_bulkE]; omega
theorem insE_len (out : List Ent) (x : Ent) : (insE out x).length ≤ out.length + 1 := by
  unfold insE
  split
  · split
    · omega
    · rw [insAt_len]; omega
  · rw [insAt_len]; omega
theorem insE_mem {out : List Ent} {x y : Ent} (h : y ∈ insE out x) : y = x ∨ y ∈ out := by
  unfold insE at h
  split at h
  · split at h
    · exact .inr h
    · exact insAt_mem h
  · exact insAt_mem h
theorem insE_asc (out : List Ent) (x : Ent) (h : asc cE out = true) : asc cE (insE out x) = true := by
  unfold insE
  split
  · rename_i y hy
    split
    · exact h
    · rename_i hne
      refine ins_asc cE cE_anti x out h (fun z hz => ?_)
      rw [hy] at hz
      cases hz
      exact hne
  · rename_i hy
    refine ins_asc cE cE_anti x out h (fun z hz => ?_)
    rw [hy] at hz; cases hz
theorem entries_loop (fuel : Nat) (es out : List Ent) (i : Nat) (x : Ent) (hx : es[i]? = some x) (hf : ∀ e ∈ out, 2 * bulkE e ≤ fuel) (hb : ∀ e ∈ out, bulkE e ≤ 4194304) (hl : out.length ≤ 4194304) (hi : i ≤ 4194304) :
    semtyperef1_entries_l2 es fuel (out, (i : Int)) = some (.next (insE out x, ((i + 1 : Nat) : Int))) := by
  have hlt : i < es.length := (List.getElem?_eq_some_iff.1 hx).1
  have hix : idx es (i : Int) = some x := idx_at hx
  have hcmp : ∀ e ∈ out, semtyperef1_CompareEntries fuel e x = some (cE e x) := fun e he => (ref_compare_ok fuel).2.2 e x (hf e he) (hb e he)
  unfold semtyperef1_entries_l2
  simp only [natLen]
  rw [pos_ok (step := semtyperef1_entries_l1 es (out, (i : Int)) fuel) out (fun y => decide (cE y x < 0)) ?_ ?_]
  · simp only [bite, wr64]
    rw [if_pos (by simp; omega)]
    simp only [Option.bind_some, hix, Int.toNat_natCast, hx]
    have hk := tw_len (fun y => decide (cE y x < 0)) out
    have hat := tw_at (fun y => decide (cE y x < 0)) out
    have go : (Option.bind (cut out 0 ((out.takeWhile (fun y => decide (cE y x < 0))).length : Int)) fun u => Option.bind (room (0 + u.length) 160) fun _ =>
      Option.bind (room (u.length + [x].length) 160) fun _ => Option.bind (cut out ((out.takeWhile (fun y => decide (cE y x < 0))).length : Int) (out.length : Int)) fun w =>
      Option.bind (room ((u ++ [x]).length + w.length) 160) fun _ => some ((u ++ [x]) ++ w)) = some (insAt (fun y => decide (cE y x < 0)) x out) :=
      ins_go out x _ 160 (by omega) hl (fun l => some l)
    rw [w64_succ i (by omega)]
    have fin : ∀ (b : Bool) (r : List Ent), (if b = true then some out else some r) = some (insE out x) → (Option.bind (if b = true then some out else some r) fun b18 => some (Fl.next (b18, ((i + 1 : Nat) : Int)) : Fl (List Ent × Int) (List Ent))) = some (.next (insE out x, ((i + 1 : Nat) : Int))) := by
      intro b r h
      rw [h]; rfl
    rw [go]
    unfold insE at fin ⊢
    cases hh : (out.dropWhile (fun y => decide (cE y x < 0))).head? with
    | none =>
      rw [hh] at hat
      have hge := List.getElem?_eq_none_iff.1 hat
      rw [if_neg (by simp; omega)]
      rfl
    | some y =>
      rw [hh] at hat
      have hlt2 := (List.getElem?_eq_some_iff.1 hat).1
      rw [if_pos (by simp; omega), idx_at hat]
      simp only [Option.bind_some]
      rw [hcmp y (List.mem_of_getElem? hat)]
      simp only [Option.bind_some]
      by_cases h0 : cE y x = 0
      · rw [if_pos (by simp [h0]), if_pos h0]
        rfl
      · rw [if_neg (by simp [h0]), if_neg h0]
        rfl
  · intro j y hy
    have hj : j < out.length := (List.getElem?_eq_some_iff.1 hy).1
    unfold semtyperef1_entries_l1
    simp only [bite, wr64]
    rw [if_pos (by simp; omega), idx_at hy, hix]
    simp only [Option.bind_some, Int.toNat_natCast, hx]
    rw [hcmp y (List.mem_of_getElem? hy)]
    simp only [Option.bind_some, w64_succ j (by omega)]
    by_cases h : cE y x < 0 <;> simp [h]
  · unfold semtyperef1_entries_l1
    simp
theorem fold_insE_bulk : ∀ (es out : List Ent), bulkEs (es.foldl insE out) ≤ bulkEs out + bulkEs es
  | [], out => by simp [bulkEs]
  | x :: r, out => by
    have h1 := fold_insE_bulk r (insE out x)
    have h2 := insE_bulk out x
    simp only [List.foldl_cons, bulkEs]
    omega
theorem fold_insE_mem {y : Ent} : ∀ (es out : List Ent), y ∈ es.foldl insE out → y ∈ out ∨ y ∈ es
  | [], _, h => .inl h
  | x :: r, out, h => by
    rcases fold_insE_mem r (insE out x) h with h | h
    · rcases insE_mem h with rfl | h
      · exact .inr (by simp)
      · exact .inl h
    · exact .inr (by simp [h])
theorem fold_insE_asc : ∀ (es out : List Ent), asc cE out = true → asc cE (es.foldl insE out) = true
  | [], _, h => h
  | x :: r, out, h => fold_insE_asc r (insE out x) (insE_asc out x h)
theorem entries_ok (fuel : Nat) (es : List Ent) (hf : 2 * bulkEs es ≤ fuel) (hb : bulkEs es ≤ 4194304) : semtyperef1_entries fuel es = some (es.foldl insE []) := by
  have hlen := bulkEs_len es
  unfold semtyperef1_entries
  have key := iter_fold (σ := List Ent) (step := semtyperef1_entries_l2 es fuel) es (fun s i => (s, (i : Int))) insE (fun i s => s.length ≤ i ∧ (∀ e ∈ s, e ∈ es)) (fun s => s)
    ?_ ?_ [] ⟨by simp, by simp⟩ _ (Nat.le_refl _)
  · have e : iter (semtyperef1_entries_l2 es fuel) (es.length + 1) (([] : List Ent), 0) = iter (semtyperef1_entries_l2 es fuel) (es.length + 1) (([] : List Ent), ((0 : Nat) : Int)) := rfl
    rw [natLen, e, key]
    rfl
  · intro i s x hx ⟨hI, hm⟩
    have hi : i < es.length := (List.getElem?_eq_some_iff.1 hx).1
    refine ⟨entries_loop fuel es s i x hx (fun e he => by have := bulkEs_mem (hm e he); omega) (fun e he => by have := bulkEs_mem (hm e he); omega) (by omega) (by omega), ?_, ?_⟩
    · have := insE_len s x; omega
    · intro e he
      rcases insE_mem he with rfl | he
      · exact List.mem_of_getElem? hx
      · exact hm e he
  · intro s _
    unfold semtyperef1_entries_l2
    simp
def funV (n : Int) (es : List Ent) : Val := Val.mk 9 n (⟨#[]⟩) ([] : List Val) ([] : List Key) es ([] : List ByteArray)
/-- The cell of a result that is not yet set. -/
abbrev Cell : Type := Int × Int × ByteArray × (List Val) × (List Key) × (List Ent) × (List ByteArray)
abbrev cell0 : Cell := (0, 0, (⟨#[]⟩ : ByteArray), [], [], [], [])
theorem ref_function_ok (fuel : Nat) (n : Int) (es : List Ent) (hf : 2 * bulkEs es ≤ fuel) (hb : bulkEs es ≤ 4194304) :
    semtyperef1_Function fuel n es = some (if 0 ≤ n ∧ n ≤ 4 ∧ es.all (entOK n) = true then (funV n (es.foldl insE []), 0) else (zeroV, 1)) := by
  have hlen := bulkEs_len es
  unfold semtyperef1_Function
  simp only [natLen]
  by_cases h1 : n < 0
  · have e1 : decide (n < 0) = true := by simpa using h1
    rw [e1, if_neg (by omega)]; rfl
  by_cases h2 : 4 < n
  · have e1 : decide (n < 0) = false := by simpa using h1
    have e2 : decide (4 < n) = true := by simpa using h2
    rw [e1, e2, if_neg (by omega)]; rfl
  have e1 : decide (n < 0) = false := by simpa using h1
  have e2 : decide (4 < n) = false := by simpa using h2
  rw [e1, e2, entries_ok fuel es hf hb]
  have key := first_ok (step := semtyperef1_Function_l1 n es fuel) es (entOK n) (fun i => ((i : Int), cell0)) cell0 (1, cell0) ?_ ?_
  · have e : iter (semtyperef1_Function_l1 n es fuel) (es.length + 1) (0, (0, 0, (⟨#[]⟩ : ByteArray), [], [], [], [])) = iter (semtyperef1_Function_l1 n es fuel) (es.length + 1) (((0 : Nat) : Int), cell0) := rfl
    rw [e, key]
    by_cases ha : es.all (entOK n) = true
    · rw [if_pos ha, if_pos ⟨by omega, by omega, ha⟩]
      rfl
    · rw [if_neg ha, if_neg (fun h => ha h.2.2)]
      rfl
  · intro i x hx
    have hi : i < es.length := (List.getElem?_eq_some_iff.1 hx).1
    have hm := bulkEs_mem (List.mem_of_getElem? hx)
    have hbe := bulkE_eq x
    unfold semtyperef1_Function_l1 semtyperef1_Equal
    simp only [bite, wr64]
    rw [if_pos (by simp; omega), idx_at hx]
    simp only [Option.bind_some, Int.toNat_natCast, hx]
    rw [show Val.mk 0 0 (⟨#[]⟩ : ByteArray) ([] : List Val) ([] : List Key) ([] : List Ent) ([] : List ByteArray) = zeroV from rfl, (ref_compare_ok fuel).1 x.Result zeroV (by omega) (by omega), w64_succ i (by omega)]
    unfold entOK
    by_cases hl : (x.Args.length : Int) = n
    · have e1 : ((x.Args.length : Int) != n) = false := by simp [hl]
      have e2 : ((x.Args.length : Int) == n) = true := by simp [hl]
      rw [e1, e2]
      simp only [Bool.false_eq_true, if_false, Option.bind_some, Bool.true_and]
      cases x.Fails
      · simp
      · by_cases h0 : cV x.Result zeroV = 0 <;> simp [h0]
    · have e1 : ((x.Args.length : Int) != n) = true := by simp [hl]
      have e2 : ((x.Args.length : Int) == n) = false := by simp [hl]
      rw [e1, e2]
      simp
  · unfold semtyperef1_Function_l1
    simp
end Go.Pl
