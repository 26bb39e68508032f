/- Which values the program takes for valid. No program in sight. -/
import Derived.Test.YtdipagkcdpcnbaaGreatRCmp
namespace Go.Pl
open Go Go.RowKit Go.Sx Go.Qx

/-! ### loops that look at each element -/
theorem all_from {step : Int → Option (Fl Int (Sum Unit Bool))} (n : Nat) (p : Nat → Bool)
    (hst : ∀ i : Nat, i < n → step (i : Int) = some (if p i = true then .next ((i + 1 : Nat) : Int) else .done (.inr false)))
    (hend : ∀ i : Nat, n ≤ i → step (i : Int) = some (.done (.inl ()))) (i0 : Nat) (b : Bool) (hb : b = true ↔ ∀ i, i0 ≤ i → i < n → p i = true) :
    Option.bind (iter step (n + 1) (i0 : Int)) (onEnd (fun _ => some true) (fun r => some r)) = some b := by
  have fin : ∀ (i k : Nat), n ≤ i → (∀ j, i0 ≤ j → j < i → j < n → p j = true) → Option.bind (iter step (k + 1) (i : Int)) (onEnd (fun _ => some true) (fun r => some r)) = some b := by
    intro i k h1 h4
    simp only [iter, hend i h1, Option.bind_some, onEnd]
    have : b = true := hb.2 fun j a c => h4 j a (by omega) c
    rw [this]
  have key : ∀ (m i k : Nat), n ≤ i + m → m + 1 ≤ k → i0 ≤ i → (∀ j, i0 ≤ j → j < i → j < n → p j = true) → Option.bind (iter step k (i : Int)) (onEnd (fun _ => some true) (fun r => some r)) = some b := by
    intro m
    induction m with
    | zero =>
      intro i k h1 h2 h3 h4
      obtain ⟨k, rfl⟩ : ∃ m, k = m + 1 := ⟨k - 1, by omega⟩
      exact fin i k (by omega) h4
    | succ m ih =>
      intro i k h1 h2 h3 h4
      obtain ⟨k, rfl⟩ : ∃ m, k = m + 1 := ⟨k - 1, by omega⟩
      by_cases hlt : i < n
      · simp only [iter, hst i hlt]
        cases hp : p i
        · simp only [Bool.false_eq_true, if_false, Option.bind_some, onEnd]
          have : b = false := by
            cases b
            · rfl
            · have := hb.1 rfl i h3 hlt
              rw [hp] at this; cases this
          rw [this]
        · simp only [if_true, Option.bind_some]
          refine ih (i + 1) k (by omega) (by omega) (by omega) (fun j a c d => ?_)
          by_cases e : j < i
          · exact h4 j a e d
          · have : j = i := by omega
            subst this; exact hp
      · exact fin i k (by omega) h4
  exact key n i0 (n + 1) (by omega) (by omega) (Nat.le_refl _) (fun j a c => by omega)
theorem w64_succ (i : Nat) (h : i ≤ 4611686018427387904) : w64 ((i : Int) + 1) = ((i + 1 : Nat) : Int) := by rw [w64_id (by omega) (by omega)]; rfl
theorem flag_ok (b : Bool) (x : Int) : (bif (!b) then some (Fl.done (Sum.inr false)) else some (Fl.next x)) = some (if b = true then Fl.next x else (Fl.done (Sum.inr false) : Fl Int (Sum Unit Bool))) := by cases b <;> rfl
theorem all_ok {α : Type} {step : Int → Option (Fl Int (Sum Unit Bool))} {rc : α → Option Bool} {p : α → Bool} (xs : List α)
    (hst : ∀ q, step q = bif decide (q < (xs.length : Int)) then Option.bind (idx xs q) fun x => Option.bind (rc x) fun r =>
      bif !r then some (.done (.inr false)) else some (.next (wr .i64 (q + 1))) else some (.done (.inl ())))
    (hrc : ∀ x ∈ xs, rc x = some (p x)) (hl : xs.length ≤ 4194304) :
    (Option.bind (iter step (((xs.length : Int)).toNat + 1) 0) fun b => onEnd (fun _ => some true) (fun r => some r) b) = some (xs.all p) := by
  rw [natLen]
  refine all_from xs.length (fun i => match xs[i]? with | some x => p x | none => true) ?_ ?_ 0 (xs.all p) ?_
  · intro i hi
    rw [hst, bite, if_pos (by simp; omega), idx_at (List.getElem?_eq_getElem hi)]
    simp only [Option.bind_some]
    rw [hrc _ (List.getElem_mem hi), List.getElem?_eq_getElem hi]
    simp only [Option.bind_some, wr64, w64_succ i (by omega)]
    exact flag_ok _ _
  · intro i hi
    rw [hst, bite, if_neg (by simp; omega)]
  · rw [List.all_eq_true]
    constructor
    · intro h i _ hi
      rw [List.getElem?_eq_getElem hi]
      exact h _ (List.getElem_mem hi)
    · intro h x hx
      obtain ⟨i, hi, rfl⟩ := List.getElem_of_mem hx
      have := h i (by omega) hi
      rwa [List.getElem?_eq_getElem hi] at this
/-- Each element is below the next. -/
def asc {α : Type} (c : α → α → Int) : List α → Bool
  | x :: y :: r => decide (c x y < 0) && asc c (y :: r)
  | _ => true
theorem asc_iff {α : Type} (c : α → α → Int) : ∀ xs : List α, asc c xs = true ↔ ∀ i, 1 ≤ i → (hi : i < xs.length) → c xs[i - 1] xs[i] < 0
  | [] => by simp [asc]
  | [x] => by
    simp only [asc, true_iff]
    intro i h1 hi
    simp at hi; omega
  | x :: y :: r => by
    have ih := asc_iff c (y :: r)
    simp only [asc, Bool.and_eq_true, decide_eq_true_eq, ih]
    constructor
    · intro ⟨h1, h2⟩ i hi hl
      obtain ⟨i, rfl⟩ : ∃ m, i = m + 1 := ⟨i - 1, by omega⟩
      cases i with
      | zero => exact h1
      | succ i => exact h2 (i + 1) (by omega) (by simpa using hl)
    · intro h
      refine ⟨h 1 (by omega) (by simp), fun i hi hl => ?_⟩
      obtain ⟨i, rfl⟩ : ∃ m, i = m + 1 := ⟨i - 1, by omega⟩
      have := h (i + 2) (by omega) (by simpa using hl)
      simpa using this
theorem asc_ok {α : Type} {step : Int → Option (Fl Int (Sum Unit Bool))} {rc : α → α → Option Int} {c : α → α → Int} (xs : List α)
    (hst : ∀ q, step q = bif decide (q < (xs.length : Int)) then Option.bind (idx xs (wr .i64 (q - 1))) fun x => Option.bind (idx xs q) fun y => Option.bind (rc x y) fun r =>
      bif decide (0 ≤ r) then some (.done (.inr false)) else some (.next (wr .i64 (q + 1))) else some (.done (.inl ())))
    (hrc : ∀ x ∈ xs, ∀ y, rc x y = some (c x y)) (hl : xs.length ≤ 4194304) :
    (Option.bind (iter step (((xs.length : Int)).toNat + 1) 1) fun b => onEnd (fun _ => some true) (fun r => some r) b) = some (asc c xs) := by
  rw [natLen]
  have hp : ∀ i, 1 ≤ i → ∀ hi : i < xs.length, step (i : Int) = some (if decide (c xs[i - 1] xs[i] < 0) = true then .next ((i + 1 : Nat) : Int) else .done (.inr false)) := by
    intro i h1 hi
    have hw : w64 ((i : Int) - 1) = ((i - 1 : Nat) : Int) := by rw [w64_id (by omega) (by omega)]; omega
    rw [hst]
    simp only [bite, wr64]
    rw [if_pos (by simp; omega), hw, idx_at (List.getElem?_eq_getElem (by omega : i - 1 < xs.length)), idx_at (List.getElem?_eq_getElem hi)]
    simp only [Option.bind_some]
    rw [hrc _ (List.getElem_mem _)]
    simp only [Option.bind_some, w64_succ i (by omega)]
    by_cases h : c xs[i - 1] xs[i] < 0
    · rw [if_neg (by simp; omega), if_pos (by simpa using h)]
    · rw [if_pos (by simp; omega), if_neg (by simpa using h)]
  have hend : ∀ i : Nat, xs.length ≤ i → step (i : Int) = some (.done (.inl ())) := by
    intro i hi
    rw [hst, bite, if_neg (by simp; omega)]
  -- the loop begins at 1
  let step' : Int → Option (Fl Int (Sum Unit Bool)) := fun q => if q = 0 ∧ 0 < xs.length then some (.next 1) else step q
  have e : ∀ (k i : Nat), 1 ≤ i → iter step' k (i : Int) = iter step k (i : Int) := by
    intro k
    induction k with
    | zero => intro i _; rfl
    | succ k ih =>
      intro i h1
      have e1 : step' (i : Int) = step (i : Int) := by simp only [step']; rw [if_neg (by omega)]
      simp only [iter, e1]
      by_cases hi : i < xs.length
      · rw [hp i h1 hi]
        by_cases h : decide (c xs[i - 1] xs[i] < 0) = true
        · rw [if_pos h]; exact ih (i + 1) (by omega)
        · rw [if_neg h]; rfl
      · rw [hend i (by omega)]; rfl
  have e' := e (xs.length + 1) 1 (by omega)
  rw [show ((1 : Nat) : Int) = 1 from rfl] at e'
  rw [← e']
  refine all_from xs.length (fun i => if h : 1 ≤ i ∧ i < xs.length then decide (c xs[i - 1] (xs[i]'h.2) < 0) else true) ?_ ?_ 1 (asc c xs) ?_
  · intro i hi
    cases i with
    | zero =>
      simp only [step']
      rw [if_pos ⟨rfl, hi⟩]
      rfl
    | succ i =>
      have e1 : step' ((i + 1 : Nat) : Int) = step ((i + 1 : Nat) : Int) := by simp only [step']; rw [if_neg (by omega)]
      rw [e1, hp (i + 1) (by omega) hi, dif_pos ⟨by omega, hi⟩]
  · intro i hi
    have e1 : step' (i : Int) = step (i : Int) := by simp only [step']; rw [if_neg (by omega)]
    rw [e1, hend i hi]
  · rw [asc_iff]
    constructor
    · intro h i h1 hi
      rw [dif_pos ⟨h1, hi⟩]; simpa using h i h1 hi
    · intro h i h1 hi
      have := h i h1 hi
      rw [dif_pos ⟨h1, hi⟩] at this; simpa using this

/-! ### names -/
def lowC (c : UInt8) : Bool := decide (97 ≤ (c.toNat : Int)) && decide ((c.toNat : Int) ≤ 122)
def upC (c : UInt8) : Bool := decide (65 ≤ (c.toNat : Int)) && decide ((c.toNat : Int) ≤ 90)
def digC (c : UInt8) : Bool := decide (48 ≤ (c.toNat : Int)) && decide ((c.toNat : Int) ≤ 57)
def nameOK (f g : UInt8 → Bool) (s : ByteArray) : Bool :=
  match s.data.toList with
  | [] => false
  | c :: r => decide (r.length ≤ 15) && f c && r.all g
def varOK (s : ByteArray) : Bool := nameOK upC (fun c => lowC c || upC c || digC c || (c.toNat : Int) == 95) s
def atomOK (s : ByteArray) : Bool := nameOK lowC (fun c => lowC c || digC c || (c.toNat : Int) == 95) s
theorem low_ok (c : UInt8) : ident_isLower (c.toNat : Int) = some (lowC c) := by
  unfold ident_isLower lowC
  cases decide (97 ≤ (c.toNat : Int)) <;> simp
theorem up_ok (c : UInt8) : ident_isUpper (c.toNat : Int) = some (upC c) := by
  unfold ident_isUpper upC
  cases decide (65 ≤ (c.toNat : Int)) <;> simp
theorem dig_ok (c : UInt8) : ident_isDigit (c.toNat : Int) = some (digC c) := by
  unfold ident_isDigit digC
  cases decide (48 ≤ (c.toNat : Int)) <;> simp
theorem sidx_at {s : ByteArray} {i : Nat} {c : UInt8} (h : s.data.toList[i]? = some c) : sidx s (i : Int) = some c := by
  unfold sidx
  rw [if_pos (by omega)]
  obtain ⟨hi, e⟩ := List.getElem?_eq_some_iff.1 h
  have hs : i < s.size := by simpa using hi
  show s[((i : Int)).toNat]? = some c
  rw [Int.toNat_natCast, getElem?_pos s i hs]
  show some s.data[i] = some c
  simpa using e
theorem size_list (s : ByteArray) : s.size = s.data.toList.length := by simp
theorem name_ok {a1 a2 : Int → Option Bool} {f g : UInt8 → Bool} (h1 : ∀ c : UInt8, a1 (c.toNat : Int) = some (f c)) (h2 : ∀ c : UInt8, a2 (c.toNat : Int) = some (g c)) (s : ByteArray) : ident_isName s a1 a2 = some (nameOK f g s) := by
  unfold ident_isName nameOK
  simp only [bite, natSize]
  have hsz := size_list s
  cases hs : s.data.toList with
  | nil =>
    rw [hs] at hsz
    rw [hsz]
    simp
  | cons c r =>
    rw [hs] at hsz
    simp only [List.length_cons] at hsz
    have e1 : decide ((s.size : Int) < 1) = false := by simp; omega
    rw [e1]
    simp only [Bool.false_eq_true, if_false, Option.bind_some]
    by_cases hb : 16 < (s.size : Int)
    · rw [if_pos (by simpa using hb)]
      have : decide (r.length ≤ 15) = false := by simp; omega
      rw [this]; rfl
    · rw [if_neg (by simpa using hb)]
      have e2 : decide (r.length ≤ 15) = true := by simp; omega
      have e3 : sidx s 0 = some c := sidx_at (i := 0) (by rw [hs]; rfl)
      rw [e2, e3]
      simp only [Option.bind_some, h1, Bool.true_and]
      cases f c
      · rfl
      · simp only [Bool.not_true, Bool.false_eq_true, if_false, Bool.true_and]
        refine all_from s.size (fun i => match s.data.toList[i]? with | some x => g x | none => true) ?_ ?_ 1 (r.all g) ?_
        · intro i hi
          have hi' : i < s.data.toList.length := by rw [hs]; simp; omega
          unfold ident_isName_l1
          rw [bite, if_pos (by simp; omega), sidx_at (List.getElem?_eq_getElem hi')]
          simp only [Option.bind_some, h2]
          rw [List.getElem?_eq_getElem hi', wr64, w64_succ i (by omega)]
          exact flag_ok _ _
        · intro i hi
          unfold ident_isName_l1
          rw [bite, if_neg (by simp; omega)]
        · rw [hs, List.all_eq_true]
          constructor
          · intro h i h1 hi
            obtain ⟨i, rfl⟩ : ∃ m, i = m + 1 := ⟨i - 1, by omega⟩
            have hr : i < r.length := by omega
            simp only [List.getElem?_cons_succ, List.getElem?_eq_getElem hr]
            exact h _ (List.getElem_mem hr)
          · intro h x hx
            obtain ⟨i, hi, rfl⟩ := List.getElem_of_mem hx
            have := h (i + 1) (by omega) (by omega)
            simpa only [List.getElem?_cons_succ, List.getElem?_eq_getElem hi] using this
theorem var_ok (s : ByteArray) : ident_IsVariable s = some (varOK s) := by
  unfold ident_IsVariable
  simp only [bsome]
  rw [name_ok up_ok (g := fun c => lowC c || upC c || digC c || (c.toNat : Int) == 95) (fun c => by
    unfold ident_IsVariable_1
    rw [low_ok, up_ok, dig_ok]
    simp only [Option.bind_some]
    cases lowC c <;> cases upC c <;> cases digC c <;> simp)]
  rfl
theorem atom_ok (s : ByteArray) : ident_IsAtom s = some (atomOK s) := by
  unfold ident_IsAtom
  simp only [bsome]
  rw [name_ok low_ok (g := fun c => lowC c || digC c || (c.toNat : Int) == 95) (fun c => by
    unfold ident_IsAtom_1
    rw [low_ok, dig_ok]
    simp only [Option.bind_some]
    cases lowC c <;> cases digC c <;> simp)]
  rfl

/-! ### nodes -/
def labelsOK (l : List ByteArray) : Bool := asc cS l && l.all varOK
def keyOK (k : Key) : Bool := if k.Kind = 0 then atomOK k.Text else if k.Kind = 1 then decide ((k.Text.size : Int) ≤ 64) else false
def mapOK (v : Val) : Bool := v.Keys.length == v.Kids.length && (asc cK v.Keys && v.Keys.all keyOK)
abbrev zeroV : Val := Val.mk 0 0 (⟨#[]⟩) ([] : List Val) ([] : List Key) ([] : List Ent) ([] : List ByteArray)
def entOK (n : Int) (e : Ent) : Bool := (e.Args.length : Int) == n && (!e.Fails || cV e.Result zeroV == 0)
def funOK (v : Val) : Bool := decide (0 ≤ v.Int_) && decide (v.Int_ ≤ 4) && (asc cE v.Entries && v.Entries.all (entOK v.Int_))
theorem labels_ok (l : List ByteArray) (hl : l.length ≤ 4194304) : value_validLabels l = some (labelsOK l) := by
  unfold value_validLabels value_ascending_string labelsOK
  simp only [bsome]
  rw [asc_ok (step := value_ascending_string_l1 l fun x y => strings_Compare x y) (rc := strings_Compare) (c := cS) l (fun q => rfl) (fun x _ y => cmp_str_ok x y) hl]
  simp only [Option.bind_some]
  rw [all_ok (step := value_validLabels_l1 l) (rc := ident_IsVariable) (p := varOK) l (fun q => rfl) (fun x _ => var_ok x) hl]
  cases asc cS l <;> simp
theorem key_ok (k : Key) : ident_ValidKey k = some (keyOK k) := by
  unfold ident_ValidKey keyOK
  rw [atom_ok]
  simp only [bite, beq_iff_eq, bsome]
  by_cases h : k.Kind = 0
  · simp [h]
  · by_cases h1 : k.Kind = 1
    · simp [h1]
    · simp [h, h1]
theorem map_ok (v : Val) (hl : bulkV v ≤ 4194304) : value_validMap v = some (mapOK v) := by
  have hb := bulkV_eq v
  have hk := bulkKeys_len v.Keys
  unfold value_validMap value_ascending_api_Key mapOK
  simp only [bsome]
  rw [asc_ok (step := value_ascending_api_Key_l1 v.Keys fun x y => ident_CompareKeys x y) (rc := ident_CompareKeys) (c := cK) v.Keys (fun q => rfl) (fun x _ y => cmp_keys_ok x y) (by omega)]
  simp only [Option.bind_some]
  rw [all_ok (step := value_validMap_l1 v) (rc := ident_ValidKey) (p := keyOK) v.Keys (fun q => rfl) (fun x _ => key_ok x) (by omega)]
  by_cases h : v.Keys.length = v.Kids.length
  · rw [bite, if_neg (by simp; omega)]
    simp only [h, beq_self_eq_true, Bool.true_and]
    cases asc cK v.Keys <;> simp
  · rw [bite, if_pos (by simp; omega)]
    have : (v.Keys.length == v.Kids.length) = false := by simpa using h
    rw [this]; rfl
theorem ent_ok (fuel : Nat) (e : Ent) (n : Int) (hf : 2 * bulkE e ≤ fuel) (hb : bulkE e ≤ 4194304) : value_validEntry fuel e n = some (entOK n e) := by
  have he := bulkE_eq e
  unfold value_validEntry value_isZero value_Equal entOK
  simp only [bsome]
  rw [(compare_ok fuel).1 e.Result zeroV (by omega) (by omega)]
  simp only [Option.bind_some]
  cases (e.Args.length : Int) == n <;> cases e.Fails <;> simp
theorem fun_ok (fuel : Nat) (v : Val) (hf : 2 * bulkV v ≤ fuel + 2) (hb : bulkV v ≤ 4194304) : value_validFunction fuel v = some (funOK v) := by
  have he := bulkV_eq v
  have hk := bulkEs_len v.Entries
  unfold value_validFunction value_ascending_api_Entry funOK
  simp only [bsome]
  rw [asc_ok (step := value_ascending_api_Entry_l1 v.Entries fun x y => value_compareEntries fuel x y) (rc := value_compareEntries fuel) (c := cE) v.Entries (fun q => rfl) (fun x hx y => (compare_ok fuel).2.2 x y (by have := bulkEs_mem hx; omega) (by have := bulkEs_mem hx; omega)) (by omega)]
  simp only [Option.bind_some]
  rw [all_ok (step := value_validFunction_l1 v fuel) (rc := fun x => value_validEntry fuel x v.Int_) (p := entOK v.Int_) v.Entries (fun q => rfl) (fun x hx => ent_ok fuel x _ (by have := bulkEs_mem hx; omega) (by have := bulkEs_mem hx; omega)) (by omega)]
  by_cases h1 : v.Int_ < 0
  · have e1 : decide (0 ≤ v.Int_) = false := by simp; omega
    rw [e1]; simp [h1]
  · have e1 : decide (0 ≤ v.Int_) = true := by simp; omega
    by_cases h2 : 4 < v.Int_
    · have e2 : decide (v.Int_ ≤ 4) = false := by simp; omega
      rw [e1, e2]; simp [h1, h2]
    · have e2 : decide (v.Int_ ≤ 4) = true := by simp; omega
      rw [e1, e2]
      simp only [h1, h2, decide_false, cond_false, Option.bind_some, Bool.true_and]
      cases asc cE v.Entries <;> simp
def fieldsOK (v : Val) : Bool :=
  (v.Kind == 1 || v.Kind == 4 || v.Kind == 9 || v.Int_ == 0) && (v.Kind == 2 || v.Kind == 3 || strEq v.Text ⟨#[]⟩) &&
  (v.Kind == 6 || v.Kind == 7 || v.Kind == 8 || v.Kids.isEmpty) && (v.Kind == 8 || v.Keys.isEmpty) && (v.Kind == 9 || v.Entries.isEmpty)
def consOK (l : List Val) : Bool :=
  match l with
  | [_, t] => t.Kind == 5 || t.Kind == 7
  | _ => false
def kindOK (v : Val) : Bool :=
  if v.Kind = 1 then true else if v.Kind = 2 then decide ((v.Text.size : Int) ≤ 64) else if v.Kind = 3 then atomOK v.Text else if v.Kind = 4 then decide (0 ≤ v.Int_) else
  if v.Kind = 5 then true else if v.Kind = 6 then decide (v.Kids.length ≤ 4) else if v.Kind = 7 then consOK v.Kids else if v.Kind = 8 then mapOK v else if v.Kind = 9 then funOK v else false
def nodeOK (v : Val) : Bool := labelsOK v.Labels && (fieldsOK v && kindOK v)
theorem empty_len {α : Type} (l : List α) : decide (0 < (l.length : Int)) = !l.isEmpty := by cases l <;> simp
theorem node_ok (fuel : Nat) (v : Val) (hf : 2 * bulkV v ≤ fuel + 2) (hb : bulkV v ≤ 4194304) : value_validNode fuel v = some (nodeOK v) := by
  have he := bulkV_eq v
  have hs := bulkStrs_len v.Labels
  unfold value_validNode nodeOK
  simp only [bsome]
  rw [labels_ok v.Labels (by omega), map_ok v hb, fun_ok fuel v hf hb, atom_ok]
  simp only [Option.bind_some, empty_len]
  by_cases hk : v.Kind = 1 ∨ v.Kind = 2 ∨ v.Kind = 3 ∨ v.Kind = 4 ∨ v.Kind = 5 ∨ v.Kind = 6 ∨ v.Kind = 7 ∨ v.Kind = 8 ∨ v.Kind = 9
  · have ku : ∀ b u, value_uses v.Kind = some (u, b) → True := fun _ _ _ => trivial
    clear ku
    unfold fieldsOK kindOK
    generalize labelsOK v.Labels = l
    generalize strEq v.Text ⟨#[]⟩ = t
    generalize v.Keys.isEmpty = y
    generalize v.Entries.isEmpty = e
    generalize mapOK v = m
    generalize funOK v = f
    generalize atomOK v.Text = a
    generalize decide ((v.Text.size : Int) ≤ 64) = z
    have hi : (v.Int_ != 0) = !(v.Int_ == 0) := rfl
    have h6 : decide ((v.Kids.length : Int) ≤ 4) = decide (v.Kids.length ≤ 4) := by
      by_cases h : v.Kids.length ≤ 4
      · simp [h]; omega
      · simp [h]; omega
    rw [hi, h6]
    have h7 : (bif (v.Kids.length : Int) == 2 then Option.bind (idx v.Kids 1) fun x227 => (bif x227.Kind == 5 then some true else Option.bind (idx v.Kids 1) fun x255 => some (x255.Kind == 7)) else some false) = some (consOK v.Kids) := by
      unfold consOK
      match v.Kids with
      | [] => rfl
      | [_] => rfl
      | [x, t] =>
        have e2 : ((([x, t] : List Val).length : Int) == 2) = true := rfl
        rw [e2]
        have : idx [x, t] 1 = some t := rfl
        simp only [this, Option.bind_some, cond_true]
        cases t.Kind == 5 <;> rfl
      | _ :: _ :: _ :: r =>
        rw [bite, if_neg (by simp; omega)]
    rw [h7]
    generalize consOK v.Kids = c
    generalize v.Kids.isEmpty = d
    generalize (v.Int_ == 0) = i
    generalize decide (0 ≤ v.Int_) = p
    generalize decide (v.Kids.length ≤ 4) = n
    rcases hk with h | h | h | h | h | h | h | h | h <;> rw [h] <;> cases l <;> simp [value_uses] <;> cases i <;> cases t <;> cases d <;> cases y <;> cases e <;> simp
  · have : value_uses v.Kind = some (Value_used.mk false false false false false, false) := by
      unfold value_uses
      simp only [not_or] at hk
      obtain ⟨h1, h2, h3, h4, h5, h6, h7, h8, h9⟩ := hk
      have ef : ∀ k : Int, ¬ v.Kind = k → (v.Kind == k) = false := fun k h => by simpa using h
      rw [ef 1 h1, ef 2 h2, ef 3 h3, ef 4 h4, ef 5 h5, ef 6 h6, ef 7 h7, ef 8 h8, ef 9 h9]
      rfl
    rw [this]
    have hkk : kindOK v = false := by
      simp only [not_or] at hk
      obtain ⟨h1, h2, h3, h4, h5, h6, h7, h8, h9⟩ := hk
      simp [kindOK, h1, h2, h3, h4, h5, h6, h7, h8, h9]
    rw [hkk]
    simp

/-! ### trees -/
mutual
def vOK : Val → Bool
  | .mk k n t kids keys ents labs => nodeOK (.mk k n t kids keys ents labs) && (vsOK kids && esOK ents)
def vsOK : List Val → Bool
  | [] => true
  | x :: r => vOK x && vsOK r
def eOK : Ent → Bool
  | .mk args fails res => vsOK args && (fails || vOK res)
def esOK : List Ent → Bool
  | [] => true
  | x :: r => eOK x && esOK r
end
theorem vOK_eq (v : Val) : vOK v = (nodeOK v && (vsOK v.Kids && esOK v.Entries)) := by cases v; simp only [vOK, Val.Kids, Val.Entries]
theorem eOK_eq (e : Ent) : eOK e = (vsOK e.Args && (e.Fails || vOK e.Result)) := by cases e; simp only [eOK, Ent.Args, Ent.Fails, Ent.Result]
theorem vsOK_all : ∀ l : List Val, vsOK l = l.all vOK
  | [] => by simp [vsOK]
  | x :: r => by simp only [vsOK, List.all_cons, vsOK_all r]
theorem esOK_all : ∀ l : List Ent, esOK l = l.all eOK
  | [] => by simp [esOK]
  | x :: r => by simp only [esOK, List.all_cons, esOK_all r]
theorem esOK_flat : ∀ l : List Ent, esOK l = (l.flatMap partsE).all vOK
  | [] => by simp [esOK]
  | x :: r => by
    simp only [esOK, List.flatMap_cons, List.all_append, esOK_flat r, eOK_eq, partsE, vsOK_all]
    cases x.Fails <;> simp
theorem vOK_parts (v : Val) : vOK v = (nodeOK v && (partsV v).all vOK) := by
  rw [vOK_eq, partsV, List.all_append, vsOK_all, esOK_flat]
theorem tree_ok : ∀ (k : Nat) (v : Val), 2 * bulkV v ≤ k → bulkV v ≤ 4194304 → value_validTree k v = some (vOK v)
  | 0, v, h, _ => by have := bulkV_pos v; omega
  | k + 1, v, h, hb => by
    have hp := bulk_parts v
    have hl := bulkVs_len (partsV v)
    show value_validTree_B k (value_validTree k) v = _
    unfold value_validTree_B
    rw [node_ok k v (by omega) hb, parts_ok v hb, vOK_parts]
    simp only [Option.bind_some]
    rw [all_ok (step := value_validTree_l1 (partsV v) (value_validTree k)) (rc := value_validTree k) (p := vOK) (partsV v) (fun q => rfl) (fun x hx => tree_ok k x (by have := bulkVs_mem hx; omega) (by have := bulkVs_mem hx; omega)) (by omega)]
    cases nodeOK v <;> simp
theorem validate_ok (k : Nat) (v : Val) (h : 2 * bulkV v ≤ k) (hb : bulkV v ≤ 4194304) : value_Validate k v = some (if vOK v then 0 else 1) := by
  unfold value_Validate
  rw [tree_ok k v h hb]
  cases vOK v <;> rfl
end Go.Pl
