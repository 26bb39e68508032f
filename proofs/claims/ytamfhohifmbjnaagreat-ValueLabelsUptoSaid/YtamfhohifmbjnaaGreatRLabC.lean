/- Labels taken off: what the program and the reference make of a value. No program in sight. -/
import Derived.Test.YtamfhohifmbjnaaGreatRLabB
namespace Go.Pl
open Go Go.RowKit Go.Sx Go.Qx

theorem ref_up_ok (c : UInt8) : semtyperef1_upper (c.toNat : Int) = some (upC c) := by
  unfold semtyperef1_upper upC
  cases decide (65 ≤ (c.toNat : Int)) <;> simp
theorem ref_var_ok (s : ByteArray) : semtyperef1_IsVariable s = some (varOK s) := by
  unfold semtyperef1_IsVariable varOK nameOK
  simp only [bite, natSize]
  have hsz := size_list s
  cases hs : s.data.toList with
  | nil =>
    rw [hs] at hsz
    rw [hsz]
    simp
  | cons c r =>
    rw [hs] at hsz
    simp only [List.length_cons] at hsz
    have e1 : decide ((s.size : Int) < 1) = false := by simp; omega
    rw [e1]
    simp only [Bool.false_eq_true, if_false, Option.bind_some]
    by_cases hb : 16 < (s.size : Int)
    · rw [if_pos (by simpa using hb)]
      have : decide (r.length ≤ 15) = false := by simp; omega
      rw [this]; rfl
    · rw [if_neg (by simpa using hb)]
      have e2 : decide (r.length ≤ 15) = true := by simp; omega
      have e3 : sidx s 0 = some c := sidx_at (i := 0) (by rw [hs]; rfl)
      rw [e2, e3]
      simp only [Option.bind_some, ref_up_ok, Bool.true_and]
      cases upC c
      · rfl
      · simp only [Bool.not_true, Bool.false_eq_true, if_false, Bool.true_and]
        refine all_from s.size (fun i => match s.data.toList[i]? with | some x => (lowC x || upC x || digC x || (x.toNat : Int) == 95) | none => true) ?_ ?_ 1 _ ?_
        · intro i hi
          have hi' : i < s.data.toList.length := by rw [hs]; simp; omega
          unfold semtyperef1_IsVariable_l1
          simp only [bite, wr64]
          rw [if_pos (by simp; omega), sidx_at (List.getElem?_eq_getElem hi')]
          simp only [Option.bind_some, ref_low_ok, ref_dig_ok, ref_up_ok]
          rw [List.getElem?_eq_getElem hi', w64_succ i (by omega)]
          generalize s.data.toList[i] = x
          have hn : ((x.toNat : Int) != 95) = !((x.toNat : Int) == 95) := rfl
          rw [hn]
          show _ = some (if (lowC x || upC x || digC x || (x.toNat : Int) == 95) = true then _ else _)
          cases lowC x <;> cases upC x <;> cases digC x <;> cases (x.toNat : Int) == 95 <;> rfl
        · intro i hi
          unfold semtyperef1_IsVariable_l1
          rw [bite, if_neg (by simp; omega)]
        · rw [hs, List.all_eq_true]
          constructor
          · intro h i h1 hi
            obtain ⟨i, rfl⟩ : ∃ m, i = m + 1 := ⟨i - 1, by omega⟩
            have hr : i < r.length := by omega
            simp only [List.getElem?_cons_succ, List.getElem?_eq_getElem hr]
            exact h _ (List.getElem_mem hr)
          · intro h x hx
            obtain ⟨i, hi, rfl⟩ := List.getElem_of_mem hx
            have := h (i + 1) (by omega) (by omega)
            simpa only [List.getElem?_cons_succ, List.getElem?_eq_getElem hi] using this

/-! ### values without labels -/
section
variable (k n : Int) (t : ByteArray) (a : List Val) (b : List Key) (c : List Ent) (d : List ByteArray) (f : Bool) (q : Val)
theorem mkK : (Val.mk k n t a b c d).Kind = k := rfl
theorem mkI : (Val.mk k n t a b c d).Int_ = n := rfl
theorem mkT : (Val.mk k n t a b c d).Text = t := rfl
theorem mkD : (Val.mk k n t a b c d).Kids = a := rfl
theorem mkY : (Val.mk k n t a b c d).Keys = b := rfl
theorem mkE : (Val.mk k n t a b c d).Entries = c := rfl
theorem mkL : (Val.mk k n t a b c d).Labels = d := rfl
theorem emA : (Ent.mk a f q).Args = a := rfl
theorem emF : (Ent.mk a f q).Fails = f := rfl
theorem emR : (Ent.mk a f q).Result = q := rfl
end
mutual
def unlV : Val → Val
  | .mk k n t kids keys ents _ => .mk k n t (unlVs kids) keys ((unlEs ents).foldl insE []) []
def unlVs : List Val → List Val
  | [] => []
  | x :: r => unlV x :: unlVs r
def unlE : Ent → Ent
  | .mk args f res => .mk (unlVs args) f (unlV res)
def unlEs : List Ent → List Ent
  | [] => []
  | x :: r => unlE x :: unlEs r
end
theorem unlVs_map : ∀ l : List Val, unlVs l = l.map unlV
  | [] => rfl
  | x :: r => by simp only [unlVs, List.map_cons, unlVs_map r]
theorem unlEs_map : ∀ l : List Ent, unlEs l = l.map unlE
  | [] => rfl
  | x :: r => by simp only [unlEs, List.map_cons, unlEs_map r]
theorem unlV_eq (v : Val) : unlV v = Val.mk v.Kind v.Int_ v.Text (v.Kids.map unlV) v.Keys ((v.Entries.map unlE).foldl insE []) [] := by
  cases v; simp only [unlV, unlVs_map, unlEs_map, Val.Kind, Val.Int_, Val.Text, Val.Kids, Val.Keys, Val.Entries]
theorem unlE_eq (e : Ent) : unlE e = Ent.mk (e.Args.map unlV) e.Fails (unlV e.Result) := by
  cases e; simp only [unlE, unlVs_map, Ent.Args, Ent.Fails, Ent.Result]
theorem bulk_mapV : ∀ l : List Val, (∀ x ∈ l, bulkV (unlV x) ≤ bulkV x) → bulkVs (l.map unlV) ≤ bulkVs l
  | [], _ => Nat.le_refl _
  | x :: r, h => by
    have h1 := h x (by simp)
    have h2 := bulk_mapV r fun y hy => h y (by simp [hy])
    simp only [List.map_cons, bulkVs]
    omega
theorem bulk_mapE : ∀ l : List Ent, (∀ x ∈ l, bulkE (unlE x) ≤ bulkE x) → bulkEs (l.map unlE) ≤ bulkEs l
  | [], _ => Nat.le_refl _
  | x :: r, h => by
    have h1 := h x (by simp)
    have h2 := bulk_mapE r fun y hy => h y (by simp [hy])
    simp only [List.map_cons, bulkEs]
    omega
theorem bulk_unl : ∀ n : Nat, (∀ v : Val, bulkV v ≤ n → bulkV (unlV v) ≤ bulkV v) ∧ (∀ e : Ent, bulkE e ≤ n → bulkE (unlE e) ≤ bulkE e) := by
  intro n
  induction n using Nat.strongRecOn with
  | _ n ih =>
  refine ⟨?_, ?_⟩
  · intro v hv
    have hbe := bulkV_eq v
    have h1 := bulk_mapV v.Kids fun x hx => (ih (n - 1) (by omega)).1 x (by have := bulkVs_mem hx; omega)
    have h2 := bulk_mapE v.Entries fun x hx => (ih (n - 1) (by omega)).2 x (by have := bulkEs_mem hx; omega)
    have h3 := fold_insE_bulk (v.Entries.map unlE) []
    rw [unlV_eq, bulkV_eq (Val.mk _ _ _ _ _ _ _)]
    simp only [mkT, mkD, mkY, mkE, mkL, bulkStrs, bulkEs] at *
    omega
  · intro e he
    have hbe := bulkE_eq e
    have h1 := bulk_mapV e.Args fun x hx => (ih (n - 1) (by omega)).1 x (by have := bulkVs_mem hx; omega)
    have h2 := (ih (n - 1) (by omega)).1 e.Result (by omega)
    rw [unlE_eq, bulkE_eq (Ent.mk _ _ _)]
    simp only [emA, emR]
    omega
theorem bulk_unlV (v : Val) : bulkV (unlV v) ≤ bulkV v := (bulk_unl _).1 v (Nat.le_refl _)
theorem bulk_unlE (e : Ent) : bulkE (unlE e) ≤ bulkE e := (bulk_unl _).2 e (Nat.le_refl _)
theorem fold_map {α β : Type} (f : α → β) : ∀ (l : List α) (s : List β), l.foldl (fun s x => s ++ [f x]) s = s ++ l.map f
  | [], s => by simp
  | x :: r, s => by rw [List.foldl_cons, fold_map f r]; simp
/-- A loop that copies a row, each element turned. -/
theorem map_copy {α β St τ : Type} {step : St → Option (Fl St τ)} (xs : List α) (f : α → β) (pack : List β → Nat → St) (D : List β → τ)
    (hst : ∀ (i : Nat) (s : List β) (x : α), xs[i]? = some x → s.length = i → step (pack s i) = some (.next (pack (s ++ [f x]) (i + 1))))
    (hend : ∀ s, s.length = xs.length → step (pack s xs.length) = some (.done (D s))) (k : Nat) (hk : xs.length + 1 ≤ k) : iter step k (pack [] 0) = some (D (xs.map f)) := by
  have := iter_fold (σ := List β) (step := step) xs pack (fun s x => s ++ [f x]) (fun i s => s.length = i) D (fun i s x hx hs => ⟨hst i s x hx hs, by simp [hs]⟩) hend [] rfl k hk
  rw [this, fold_map]
  rfl
theorem rm (n b : Nat) (hn : n ≤ 4194305) (hb : b ≤ 1024) : room n b = some () := room_ok (by
  have : n * b ≤ 4194305 * 1024 := Nat.mul_le_mul hn hb
  omega)
theorem unl_ok : ∀ (k : Nat) (v : Val), 2 * bulkV v ≤ k → bulkV v ≤ 4194304 → value_Unlabel k v = some (unlV v)
  | 0, v, h, _ => by have := bulkV_pos v; omega
  | k + 1, v, h, hb => by
    have hbe := bulkV_eq v
    have hk1 := bulkVs_len v.Kids
    have hk2 := bulkEs_len v.Entries
    have hk3 := bulkKeys_len v.Keys
    have ih : ∀ x, bulkV x < bulkV v → value_Unlabel k x = some (unlV x) := fun x hx => unl_ok k x (by omega) (by omega)
    show value_Unlabel_B k (value_Unlabel k) v = _
    unfold value_Unlabel_B cloneF
    rw [room_ok (by omega)]
    simp only [Option.bind_some, natLen]
    have l1 := map_copy (step := value_Unlabel_l1 v (value_Unlabel k)) v.Kids unlV (fun s i => ((i : Int), (v.Kind, v.Int_, v.Text, s, v.Keys, v.Entries, ([] : List ByteArray)))) (fun s => (v.Kind, v.Int_, v.Text, s, v.Keys, v.Entries, ([] : List ByteArray)))
      (fun i s x hx hs => by
        have hi : i < v.Kids.length := (List.getElem?_eq_some_iff.1 hx).1
        unfold value_Unlabel_l1
        simp only [bite, wr64]
        rw [if_pos (by simp; omega), idx_at hx]
        simp only [Option.bind_some]
        rw [ih x (by have := bulkVs_mem (List.mem_of_getElem? hx); omega)]
        simp only [Option.bind_some]
        rw [rm _ 128 (by simp; omega) (by omega), w64_succ i (by omega)]
        rfl)
      (fun s hs => by
        unfold value_Unlabel_l1
        simp) (v.Kids.length + 1) (Nat.le_refl _)
    have l1' : iter (value_Unlabel_l1 v (value_Unlabel k)) (v.Kids.length + 1) (0, (v.Kind, v.Int_, v.Text, [], v.Keys, v.Entries, [])) = _ := l1
    rw [l1']
    have l3 := map_copy (step := value_Unlabel_l3 v (value_Unlabel k)) v.Entries unlE (fun s i => (s, (i : Int))) (fun s => s)
      (fun i s e he hs => by
        have hi : i < v.Entries.length := (List.getElem?_eq_some_iff.1 he).1
        have hm := bulkEs_mem (List.mem_of_getElem? he)
        have hee := bulkE_eq e
        have hal := bulkVs_len e.Args
        unfold value_Unlabel_l3
        simp only [bite, wr64, natLen]
        rw [if_pos (by simp; omega), idx_at he]
        simp only [Option.bind_some]
        rw [ih e.Result (by omega)]
        simp only [Option.bind_some]
        have l2 := map_copy (step := value_Unlabel_l2 (value_Unlabel k) e) e.Args unlV (fun s i => ((i : Int), (s, e.Fails, (unlV e.Result).Kind, (unlV e.Result).Int_, (unlV e.Result).Text, (unlV e.Result).Kids, (unlV e.Result).Keys, (unlV e.Result).Entries, (unlV e.Result).Labels)))
          (fun s => (s, e.Fails, (unlV e.Result).Kind, (unlV e.Result).Int_, (unlV e.Result).Text, (unlV e.Result).Kids, (unlV e.Result).Keys, (unlV e.Result).Entries, (unlV e.Result).Labels))
          (fun i s x hx hs => by
            have hi : i < e.Args.length := (List.getElem?_eq_some_iff.1 hx).1
            unfold value_Unlabel_l2
            simp only [bite, wr64]
            rw [if_pos (by simp; omega), idx_at hx]
            simp only [Option.bind_some]
            rw [ih x (by have := bulkVs_mem (List.mem_of_getElem? hx); omega)]
            simp only [Option.bind_some]
            rw [rm _ 128 (by simp; omega) (by omega), w64_succ i (by omega)]
            rfl)
          (fun s hs => by
            unfold value_Unlabel_l2
            simp) (e.Args.length + 1) (Nat.le_refl _)
        have l2' : iter (value_Unlabel_l2 (value_Unlabel k) e) (e.Args.length + 1) (0, ([], e.Fails, (unlV e.Result).Kind, (unlV e.Result).Int_, (unlV e.Result).Text, (unlV e.Result).Kids, (unlV e.Result).Keys, (unlV e.Result).Entries, (unlV e.Result).Labels)) = _ := l2
        rw [l2']
        simp only [Option.bind_some]
        rw [rm _ 160 (by simp; omega) (by omega), w64_succ i (by omega), unlE_eq e]
        generalize unlV e.Result = q
        cases q
        rfl)
      (fun s hs => by
        unfold value_Unlabel_l3
        simp) (v.Entries.length + 1) (Nat.le_refl _)
    have l3' : iter (value_Unlabel_l3 v (value_Unlabel k)) (v.Entries.length + 1) ([], 0) = _ := l3
    simp only [Option.bind_some]
    rw [l3']
    have hbm := bulk_mapE v.Entries fun x _ => bulk_unlE x
    simp only [Option.bind_some]
    rw [sortEntries_ok k (v.Entries.map unlE) (by omega) (by omega), unlV_eq v]
    rfl
theorem ref_unl_ok : ∀ (k : Nat) (v : Val), 2 * bulkV v ≤ k → bulkV v ≤ 4194304 → semtyperef1_Unlabel k v = some (unlV v)
  | 0, v, h, _ => by have := bulkV_pos v; omega
  | k + 1, v, h, hb => by
    have hbe := bulkV_eq v
    have hk1 := bulkVs_len v.Kids
    have hk2 := bulkEs_len v.Entries
    have ih : ∀ x, bulkV x < bulkV v → semtyperef1_Unlabel k x = some (unlV x) := fun x hx => ref_unl_ok k x (by omega) (by omega)
    show semtyperef1_Unlabel_B k (semtyperef1_Unlabel k) v = _
    unfold semtyperef1_Unlabel_B
    simp only [natLen]
    have l1 := map_copy (step := semtyperef1_Unlabel_l1 v (semtyperef1_Unlabel k)) v.Kids unlV (fun s i => (s, (i : Int))) (fun s => s)
      (fun i s x hx hs => by
        have hi : i < v.Kids.length := (List.getElem?_eq_some_iff.1 hx).1
        unfold semtyperef1_Unlabel_l1
        simp only [bite, wr64]
        rw [if_pos (by simp; omega), idx_at hx]
        simp only [Option.bind_some]
        rw [ih x (by have := bulkVs_mem (List.mem_of_getElem? hx); omega)]
        simp only [Option.bind_some]
        rw [rm _ 128 (by simp; omega) (by omega), w64_succ i (by omega)]
        rfl)
      (fun s hs => by
        unfold semtyperef1_Unlabel_l1
        simp) (v.Kids.length + 1) (Nat.le_refl _)
    have l1' : iter (semtyperef1_Unlabel_l1 v (semtyperef1_Unlabel k)) (v.Kids.length + 1) ([], 0) = _ := l1
    rw [l1']
    have l3 := map_copy (step := semtyperef1_Unlabel_l3 v (semtyperef1_Unlabel k) k) v.Entries unlE (fun s i => (s, (i : Int))) (fun s => s)
      (fun i s e he hs => by
        have hi : i < v.Entries.length := (List.getElem?_eq_some_iff.1 he).1
        have hm := bulkEs_mem (List.mem_of_getElem? he)
        have hee := bulkE_eq e
        have hal := bulkVs_len e.Args
        unfold semtyperef1_Unlabel_l3
        simp only [bite, wr64]
        rw [if_pos (by simp; omega), idx_at he]
        simp only [Option.bind_some]
        rw [ih e.Result (by omega)]
        simp only [Option.bind_some]
        have l2 := map_copy (step := semtyperef1_Unlabel_l2 v (semtyperef1_Unlabel k) (s, (i : Int))) e.Args unlV (fun s i => ((i : Int), (s, e.Fails, (unlV e.Result).Kind, (unlV e.Result).Int_, (unlV e.Result).Text, (unlV e.Result).Kids, (unlV e.Result).Keys, (unlV e.Result).Entries, (unlV e.Result).Labels)))
          (fun s => (s, e.Fails, (unlV e.Result).Kind, (unlV e.Result).Int_, (unlV e.Result).Text, (unlV e.Result).Kids, (unlV e.Result).Keys, (unlV e.Result).Entries, (unlV e.Result).Labels))
          (fun j s2 x hx hs2 => by
            have hj : j < e.Args.length := (List.getElem?_eq_some_iff.1 hx).1
            unfold semtyperef1_Unlabel_l2
            simp only [bite, wr64]
            rw [idx_at he]
            simp only [Option.bind_some]
            rw [if_pos (by simp; omega), idx_at hx]
            simp only [Option.bind_some]
            rw [ih x (by have := bulkVs_mem (List.mem_of_getElem? hx); omega)]
            simp only [Option.bind_some]
            rw [rm _ 128 (by simp; omega) (by omega), w64_succ j (by omega)]
            rfl)
          (fun s2 hs2 => by
            unfold semtyperef1_Unlabel_l2
            simp only
            rw [idx_at he]
            simp) k (by omega)
        have l2' : iter (semtyperef1_Unlabel_l2 v (semtyperef1_Unlabel k) (s, (i : Int))) k (0, ([], e.Fails, (unlV e.Result).Kind, (unlV e.Result).Int_, (unlV e.Result).Text, (unlV e.Result).Kids, (unlV e.Result).Keys, (unlV e.Result).Entries, (unlV e.Result).Labels)) = _ := l2
        rw [l2']
        simp only [Option.bind_some]
        rw [rm _ 160 (by simp; omega) (by omega), w64_succ i (by omega), unlE_eq e]
        generalize unlV e.Result = q
        cases q
        rfl)
      (fun s hs => by
        unfold semtyperef1_Unlabel_l3
        simp) (v.Entries.length + 1) (Nat.le_refl _)
    have l3' : iter (semtyperef1_Unlabel_l3 v (semtyperef1_Unlabel k) k) (v.Entries.length + 1) ([], 0) = _ := l3
    simp only [Option.bind_some]
    rw [l3']
    have hbm := bulk_mapE v.Entries fun x _ => bulk_unlE x
    simp only [Option.bind_some]
    rw [entries_ok k (v.Entries.map unlE) (by omega) (by omega), unlV_eq v]
    rfl

/-! ### twice is once -/
theorem map_unl {l : List Val} (h : ∀ x ∈ l, unlV (unlV x) = unlV x) : (l.map unlV).map unlV = l.map unlV := by
  rw [List.map_map]
  exact List.map_congr_left h
theorem unl_idem : ∀ n : Nat, (∀ v : Val, bulkV v ≤ n → unlV (unlV v) = unlV v) ∧ (∀ e : Ent, bulkE e ≤ n → unlE (unlE e) = unlE e) := by
  intro n
  induction n using Nat.strongRecOn with
  | _ n ih =>
  refine ⟨?_, ?_⟩
  · intro v hv
    have hbe := bulkV_eq v
    have h1 := map_unl (l := v.Kids) fun x hx => (ih (n - 1) (by omega)).1 x (by have := bulkVs_mem hx; omega)
    have h2 : ∀ x ∈ v.Entries, unlE (unlE x) = unlE x := fun x hx => (ih (n - 1) (by omega)).2 x (by have := bulkEs_mem hx; omega)
    rw [unlV_eq v, unlV_eq (Val.mk _ _ _ _ _ _ _)]
    simp only [mkK, mkI, mkT, mkD, mkY, mkE]
    rw [h1]
    have hs := setU cmpE (v.Entries.map unlE)
    rw [← insE_U] at hs
    have e : ((v.Entries.map unlE).foldl insE []).map unlE = (v.Entries.map unlE).foldl insE [] := by
      refine (List.map_congr_left (g := id) fun x hx => ?_).trans (List.map_id _)
      rw [hs.2] at hx
      obtain ⟨y, hy, rfl⟩ := List.mem_map.1 hx
      exact h2 y hy
    rw [e]
    have := asc_fold cmpE hs.1
    rw [← insE_U] at this
    rw [this]
  · intro e he
    have hbe := bulkE_eq e
    have h1 := map_unl (l := e.Args) fun x hx => (ih (n - 1) (by omega)).1 x (by have := bulkVs_mem hx; omega)
    have h2 := (ih (n - 1) (by omega)).1 e.Result (by omega)
    rw [unlE_eq e, unlE_eq (Ent.mk _ _ _)]
    simp only [emA, emF, emR]
    rw [h1, h2]
theorem unl_unl (v : Val) : unlV (unlV v) = unlV v := (unl_idem _).1 v (Nat.le_refl _)

/-! ### still valid -/
theorem vsOK_map {l : List Val} (h : vsOK l = true) (hx : ∀ x ∈ l, vOK x = true → vOK (unlV x) = true) : vsOK (l.map unlV) = true := by
  rw [vsOK_all] at *
  rw [List.all_eq_true] at *
  intro y hy
  obtain ⟨x, h1, rfl⟩ := List.mem_map.1 hy
  exact hx x h1 (h x h1)
theorem unl_zero : unlV zeroV = zeroV := by rw [unlV_eq]; rfl
theorem kind_gen {k : Int} {a b c d e f g g' : Bool} (h : (if k = 1 then true else if k = 2 then a else if k = 3 then b else if k = 4 then c else if k = 5 then true else if k = 6 then d else if k = 7 then e else if k = 8 then f else if k = 9 then g else false) = true) (hg : g = true → g' = true) :
    (if k = 1 then true else if k = 2 then a else if k = 3 then b else if k = 4 then c else if k = 5 then true else if k = 6 then d else if k = 7 then e else if k = 8 then f else if k = 9 then g' else false) = true := by
  by_cases h9 : k = 9
  · subst h9
    simpa using hg (by simpa using h)
  · rw [if_neg h9] at h ⊢
    exact h
theorem vOK_unl : ∀ n : Nat, (∀ v : Val, bulkV v ≤ n → vOK v = true → vOK (unlV v) = true) ∧ (∀ e : Ent, bulkE e ≤ n → eOK e = true → eOK (unlE e) = true) := by
  intro n
  induction n using Nat.strongRecOn with
  | _ n ih =>
  refine ⟨?_, ?_⟩
  · intro v hv ho
    have hbe := bulkV_eq v
    rw [vOK_eq] at ho
    simp only [Bool.and_eq_true] at ho
    obtain ⟨ho, hk, he⟩ := ho
    have h1 := vsOK_map hk fun x hx h => (ih (n - 1) (by omega)).1 x (by have := bulkVs_mem hx; omega) h
    have hs := setU cmpE (v.Entries.map unlE)
    rw [← insE_U] at hs
    have h2 : esOK ((v.Entries.map unlE).foldl insE []) = true := by
      rw [esOK_all] at *
      rw [List.all_eq_true] at *
      intro y hy
      rw [hs.2] at hy
      obtain ⟨x, hx, rfl⟩ := List.mem_map.1 hy
      exact (ih (n - 1) (by omega)).2 x (by have := bulkEs_mem hx; omega) (he x hx)
    rw [vOK_eq, unlV_eq v]
    simp only [mkD, mkE]
    rw [h1, h2]
    simp only [Bool.and_true]
    unfold nodeOK at *
    simp only [Bool.and_eq_true] at ho
    obtain ⟨_, hf, hkk⟩ := ho
    have e0 : labelsOK (Val.mk v.Kind v.Int_ v.Text (v.Kids.map unlV) v.Keys ((v.Entries.map unlE).foldl insE []) []).Labels = true := rfl
    rw [e0]
    have hemp : ((v.Entries.map unlE).foldl insE []).isEmpty = v.Entries.isEmpty := by
      cases hE : v.Entries with
      | nil => rfl
      | cons x r =>
        rw [hE] at hs
        have := (hs.2 (unlE x)).2 (by simp)
        cases hq : ((x :: r).map unlE).foldl insE [] with
        | nil => rw [hq] at this; cases this
        | cons _ _ => rfl
    have hke : (v.Kids.map unlV).isEmpty = v.Kids.isEmpty := by cases v.Kids <;> rfl
    have e1 : fieldsOK (Val.mk v.Kind v.Int_ v.Text (v.Kids.map unlV) v.Keys ((v.Entries.map unlE).foldl insE []) []) = fieldsOK v := by
      unfold fieldsOK
      simp only [mkK, mkI, mkT, mkD, mkY, mkE, hemp, hke]
    rw [e1, hf]
    have e2 : mapOK (Val.mk v.Kind v.Int_ v.Text (v.Kids.map unlV) v.Keys ((v.Entries.map unlE).foldl insE []) []) = mapOK v := by
      unfold mapOK
      simp only [mkD, mkY, List.length_map]
    have e3 : consOK (v.Kids.map unlV) = consOK v.Kids := by
      unfold consOK
      match v.Kids with
      | [] => rfl
      | [_] => rfl
      | [x, t] => simp only [List.map_cons, List.map_nil]; rw [unlV_eq t, mkK]
      | _ :: _ :: _ :: _ => rfl
    have e4 : funOK v = true → funOK (Val.mk v.Kind v.Int_ v.Text (v.Kids.map unlV) v.Keys ((v.Entries.map unlE).foldl insE []) []) = true := by
      unfold funOK
      simp only [mkI, mkE, Bool.and_eq_true]
      rintro ⟨⟨a1, a2⟩, _, a4⟩
      refine ⟨⟨a1, a2⟩, hs.1, ?_⟩
      rw [List.all_eq_true] at *
      intro y hy
      rw [hs.2] at hy
      obtain ⟨x, hx, rfl⟩ := List.mem_map.1 hy
      have := a4 x hx
      unfold entOK at *
      rw [unlE_eq x]
      simp only [emA, emF, emR, List.length_map]
      simp only [Bool.and_eq_true, Bool.or_eq_true] at *
      refine ⟨this.1, ?_⟩
      rcases this.2 with h | h
      · exact .inl h
      · right
        have h0 : cV x.Result zeroV = 0 := by simpa using h
        rw [(c_eq0 _).1 _ (Nat.le_refl _) _ h0, unl_zero, cV_self]
        rfl
    have e5 : kindOK (Val.mk v.Kind v.Int_ v.Text (v.Kids.map unlV) v.Keys ((v.Entries.map unlE).foldl insE []) []) = true := by
      unfold kindOK at *
      rw [e2, mkK, mkI, mkT, mkD, e3, List.length_map]
      exact kind_gen hkk e4
    rw [e5]
    rfl
  · intro e hb he
    have hbe := bulkE_eq e
    rw [eOK_eq] at he
    simp only [Bool.and_eq_true, Bool.or_eq_true] at he
    rw [eOK_eq, unlE_eq e]
    simp only [emA, emF, emR]
    rw [vsOK_map he.1 fun x hx h => (ih (n - 1) (by omega)).1 x (by have := bulkVs_mem hx; omega) h]
    rcases he.2 with h | h
    · rw [h]; rfl
    · rw [(ih (n - 1) (by omega)).1 e.Result (by omega) h]; simp
end Go.Pl
