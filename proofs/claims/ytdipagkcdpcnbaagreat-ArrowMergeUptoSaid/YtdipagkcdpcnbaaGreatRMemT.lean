/- Membership, and which entries are allowed: the program and the reference say the same. No program in sight. -/
import Derived.Test.YtdipagkcdpcnbaaGreatRNearT
namespace Go.Pl
open Go Go.RowKit Go.Sx Go.Qx

/-- A loop that looks for the first that is fine. -/
theorem find_ix {α β : Type} {step : Int → Option (Fl Int (Sum Unit β))} (xs : List α) (p : α → Bool) (out : Nat → α → β)
    (hst : ∀ (i : Nat) (x : α), xs[i]? = some x → step (i : Int) = some (if p x = true then .done (.inr (out i x)) else .next ((i + 1 : Nat) : Int)))
    (hend : step (xs.length : Int) = some (.done (.inl ()))) :
    (∃ i x, xs[i]? = some x ∧ p x = true ∧ (∀ j, j < i → ∀ y, xs[j]? = some y → p y = false) ∧ iter step (xs.length + 1) 0 = some (.inr (out i x))) ∨ (xs.any p = false ∧ iter step (xs.length + 1) 0 = some (.inl ())) := by
  have key : ∀ (m a k : Nat), a + m = xs.length → m + 1 ≤ k → (∀ j, j < a → ∀ y, xs[j]? = some y → p y = false) →
      (∃ i x, xs[i]? = some x ∧ p x = true ∧ (∀ j, j < i → ∀ y, xs[j]? = some y → p y = false) ∧ iter step k (a : Int) = some (.inr (out i x))) ∨ (xs.any p = false ∧ iter step k (a : Int) = some (.inl ())) := by
    intro m
    induction m with
    | zero =>
      intro a k h1 h2 h3
      obtain ⟨k, rfl⟩ : ∃ m, k = m + 1 := ⟨k - 1, by omega⟩
      have e : a = xs.length := by omega
      subst e
      refine .inr ⟨?_, by simp only [iter, hend, Option.bind_some]⟩
      rw [List.any_eq_false]
      intro x hx
      obtain ⟨j, hj, rfl⟩ := List.getElem_of_mem hx
      have := h3 j hj _ (List.getElem?_eq_getElem hj)
      simp [this]
    | succ m ih =>
      intro a k h1 h2 h3
      obtain ⟨k, rfl⟩ : ∃ m, k = m + 1 := ⟨k - 1, by omega⟩
      have ha : a < xs.length := by omega
      have ex := List.getElem?_eq_getElem ha
      have hs := hst a _ ex
      cases hp : p xs[a] with
      | true =>
        rw [if_pos hp] at hs
        exact .inl ⟨a, xs[a], ex, hp, h3, by simp only [iter, hs, Option.bind_some]⟩
      | false =>
        rw [if_neg (by simp [hp])] at hs
        simp only [iter, hs, Option.bind_some]
        refine ih (a + 1) k (by omega) (by omega) fun j hj y hy => ?_
        by_cases hja : j = a
        · subst hja
          rw [ex] at hy
          cases hy
          exact hp
        · exact h3 j (by omega) y hy
  exact key xs.length 0 (xs.length + 1) (by omega) (Nat.le_refl _) (fun j hj => by omega)
theorem any_of {α : Type} {xs : List α} {p : α → Bool} {i : Nat} {x : α} (h : xs[i]? = some x) (hp : p x = true) : xs.any p = true := List.any_eq_true.2 ⟨x, List.mem_of_getElem? h, hp⟩
theorem neg1 : decide ((0 : Int) ≤ -1) = false := rfl
theorem nat0 (i : Nat) : decide ((0 : Int) ≤ (i : Int)) = true := decide_eq_true (by omega)
theorem keyEq_sym (a b : Key) : keyEq a b = keyEq b a := by
  rw [Bool.eq_iff_iff, keyEq_iff, keyEq_iff, cK_anti a b]
  omega
theorem strEq_sym (a b : ByteArray) : strEq a b = strEq b a := by
  rw [strEq_cS, strEq_cS]
  have : cS b a = - cS a b := cmpS.anti a b
  by_cases h : cS a b = 0
  · simp [h, this]
  · have h2 : ¬ cS b a = 0 := by omega
    simp [h, h2]
theorem eqKey (a b : Key) : eqD_114 a b = keyEq a b := rfl
theorem contKeys_ok (l : List Key) (k : Key) (hl : l.length ≤ 4194304) : slices_Contains_api_Key_api_Key l k = some (l.any fun y => keyEq y k) := by
  unfold slices_Contains_api_Key_api_Key slices_Index_api_Key_api_Key
  rw [natLen]
  rcases find_ix (step := slices_Index_api_Key_api_Key_l1 l k) l (fun y => keyEq y k) (fun i _ => (i : Int)) (fun i x hx => by
      have hi : i < l.length := (List.getElem?_eq_some_iff.1 hx).1
      unfold slices_Index_api_Key_api_Key_l1
      rw [lt_true hi, idx_at hx]
      simp only [cond_true, Option.bind_some, eqKey, wr64]
      rw [w64_succ i (by omega), keyEq_sym k x]
      cases keyEq x k <;> rfl) (by
      unfold slices_Index_api_Key_api_Key_l1
      simp) with ⟨i, x, hx, hp, _, e⟩ | ⟨h, e⟩
  · rw [e, any_of hx hp]
    simp only [Option.bind_some, onEnd, nat0]
  · rw [e, h]
    rfl
theorem contStr_ok (l : List ByteArray) (k : ByteArray) (hl : l.length ≤ 4194304) : slices_Contains_string_string l k = some (l.any fun y => strEq y k) := by
  unfold slices_Contains_string_string slices_Index_string_string
  rw [natLen]
  rcases find_ix (step := slices_Index_string_string_l1 l k) l (fun y => strEq y k) (fun i _ => (i : Int)) (fun i x hx => by
      have hi : i < l.length := (List.getElem?_eq_some_iff.1 hx).1
      unfold slices_Index_string_string_l1
      rw [lt_true hi, idx_at hx]
      simp only [cond_true, Option.bind_some, wr64]
      rw [w64_succ i (by omega), strEq_sym k x]
      cases strEq x k <;> rfl) (by
      unfold slices_Index_string_string_l1
      simp) with ⟨i, x, hx, hp, _, e⟩ | ⟨h, e⟩
  · rw [e, any_of hx hp]
    simp only [Option.bind_some, onEnd, nat0]
  · rw [e, h]
    rfl
theorem contInt_ok (l : List Int) (f : Int → Option Bool) (p : Int → Bool) (hl : l.length ≤ 4194304) (hf : ∀ x ∈ l, f x = some (p x)) : slices_ContainsFunc_int_int l f = some (l.any p) := by
  unfold slices_ContainsFunc_int_int slices_IndexFunc_int_int
  rw [natLen]
  rcases find_ix (step := slices_IndexFunc_int_int_l1 l f) l p (fun i _ => (i : Int)) (fun i x hx => by
      have hi : i < l.length := (List.getElem?_eq_some_iff.1 hx).1
      unfold slices_IndexFunc_int_int_l1
      rw [lt_true hi, idx_at hx]
      simp only [cond_true, Option.bind_some, wr64]
      rw [w64_succ i (by omega), hf x (List.mem_of_getElem? hx)]
      cases p x <;> rfl) (by
      unfold slices_IndexFunc_int_int_l1
      simp) with ⟨i, x, hx, hp, _, e⟩ | ⟨h, e⟩
  · rw [e, any_of hx hp]
    simp only [Option.bind_some, onEnd, nat0]
  · rw [e, h]
    rfl
/-- The node of a map node for a key. -/
def restM (x : Api_TypeNode) (k : Key) : Int := if k.Kind = 0 then x.Rest.1 else x.Rest.2
def atM (x : Api_TypeNode) (k : Key) : Int := match x.Fields.find? (fun f => keyEq f.Key_ k) with
  | some f => f.Node
  | none => restM x k
theorem find_at {α : Type} {p : α → Bool} : ∀ {l : List α} {i : Nat} {x : α}, l[i]? = some x → p x = true → (∀ j, j < i → ∀ y, l[j]? = some y → p y = false) → l.find? p = some x
  | [], _, _, h, _, _ => by simp at h
  | y :: r, 0, x, h, hp, _ => by
    simp at h
    subst h
    simp [hp]
  | y :: r, i + 1, x, h, hp, hn => by
    have hy := hn 0 (by omega) y rfl
    rw [List.find?_cons, hy]
    exact find_at (l := r) (i := i) (by simpa using h) hp fun j hj z hz => hn (j + 1) (by omega) z (by simpa using hz)
theorem find_no {α : Type} {p : α → Bool} {l : List α} (h : l.any p = false) : l.find? p = none := by
  rw [List.find?_eq_none]
  rw [List.any_eq_false] at h
  exact h
theorem kind01 {k : Key} (h : keyOK k = true) : k.Kind = 0 ∨ k.Kind = 1 := by
  unfold keyOK at h
  split at h
  · left; assumption
  · split at h
    · right; assumption
    · cases h
theorem at_ok (x : Api_TypeNode) (k : Key) (hf : x.Fields.length ≤ 4194304) (hk : keyOK k = true) : core_At x k = some (atM x k) := by
  unfold core_At atM
  rw [natLen]
  rcases find_ix (step := core_At_l1 x k) x.Fields (fun f => keyEq f.Key_ k) (fun _ f => f.Node) (fun i f hx => by
      have hi : i < x.Fields.length := (List.getElem?_eq_some_iff.1 hx).1
      unfold core_At_l1
      rw [lt_true hi, idx_at hx]
      simp only [cond_true, Option.bind_some, eqKey, wr64]
      rw [w64_succ i (by omega)]
      cases keyEq f.Key_ k <;> rfl) (by
      unfold core_At_l1
      simp) with ⟨i, f, hx, hp, hn, e⟩ | ⟨h, e⟩
  · rw [e, find_at hx hp hn]
    rfl
  · rw [e, find_no h]
    unfold restM
    rcases kind01 hk with h0 | h1
    · simp [onEnd, h0]
    · simp [onEnd, h1]
theorem key7_ok (v : Val) (k : Key) (hl : v.Keys.length ≤ 4194304) : ∃ r, semtyperef7_key v k = some r ∧ decide (r < 0) = !(v.Keys.any fun y => keyEq y k) := by
  unfold semtyperef7_key
  rw [natLen]
  rcases find_ix (step := semtyperef7_key_l1 v k) v.Keys (fun y => keyEq y k) (fun i _ => (i : Int)) (fun i x hx => by
      have hi : i < v.Keys.length := (List.getElem?_eq_some_iff.1 hx).1
      unfold semtyperef7_key_l1
      rw [lt_true hi, idx_at hx]
      simp only [cond_true, Option.bind_some, eqKey, wr64]
      rw [w64_succ i (by omega)]
      cases keyEq x k <;> rfl) (by
      unfold semtyperef7_key_l1
      simp) with ⟨i, x, hx, hp, _, e⟩ | ⟨h, e⟩
  · rw [e, any_of hx hp]
    exact ⟨(i : Int), rfl, decide_eq_false (by omega)⟩
  · rw [e, h]
    exact ⟨-1, rfl, rfl⟩
theorem field7_ok (x : Api_TypeNode) (k : Key) (hl : x.Fields.length ≤ 4194304) : (∃ (i : Nat) (f : Api_Field), semtyperef7_field x k = some (i : Int) ∧ x.Fields[i]? = some f ∧ atM x k = f.Node) ∨ (semtyperef7_field x k = some (-1) ∧ atM x k = restM x k) := by
  unfold semtyperef7_field atM
  rw [natLen]
  rcases find_ix (step := semtyperef7_field_l1 x k) x.Fields (fun f => keyEq f.Key_ k) (fun i _ => (i : Int)) (fun i f hx => by
      have hi : i < x.Fields.length := (List.getElem?_eq_some_iff.1 hx).1
      unfold semtyperef7_field_l1
      rw [lt_true hi, idx_at hx]
      simp only [cond_true, Option.bind_some, eqKey, wr64]
      rw [w64_succ i (by omega)]
      cases keyEq f.Key_ k <;> rfl) (by
      unfold semtyperef7_field_l1
      simp) with ⟨i, f, hx, hp, hn, e⟩ | ⟨h, e⟩
  · left
    rw [e, find_at hx hp hn]
    exact ⟨i, f, rfl, hx, rfl⟩
  · right
    rw [e, find_no h]
    exact ⟨rfl, rfl⟩
end Go.Pl
namespace Go.Pl
open Go Go.RowKit Go.Sx Go.Qx

section
variable (μ : Val → Int → Bool)
def allM (l : List Val) (ks : List Int) : Bool := ((l.length : Int) == (ks.length : Int)) && (l.zip ks).all fun p => μ p.1 p.2
def mapM' (v : Val) (x : Api_TypeNode) : Bool := (x.Fields.all fun f => f.Optional || v.Keys.any fun y => keyEq y f.Key_) && (v.Keys.zip v.Kids).all fun p => μ p.2 (atM x p.1)
def lastK (ks : List Int) : Int := ks.getD (ks.length - 1) 0
def entM (e : Ent) (ks : List Int) : Bool := !allM μ e.Args (ks.take (ks.length - 1)) || (!e.Fails && μ e.Result (lastK ks))
def funM (v : Val) (x : Api_TypeNode) : Bool := (v.Int_ == ((x.Kids.length - 1 : Nat) : Int)) && v.Entries.all fun e => entM μ e x.Kids
def unM (v : Val) (x : Api_TypeNode) : Bool :=
  if x.Kind = 2 then true else if x.Kind = 3 then v.Kind == 1 && (decide (x.Lo ≤ v.Int_) && decide (v.Int_ ≤ x.Hi)) else if x.Kind = 4 then v.Kind == 2 && strEq v.Text x.Text else
  if x.Kind = 5 then v.Kind == 2 else if x.Kind = 6 then v.Kind == 3 && strEq v.Text x.Text else if x.Kind = 7 then v.Kind == 3 else if x.Kind = 8 then v.Kind == 4 else if x.Kind = 9 then v.Kind == 5 else
  if x.Kind = 11 then v.Kind == 6 else if x.Kind = 15 then v.Kind == 9 else if x.Kind = 10 then v.Kind == 6 && allM μ v.Kids x.Kids else if x.Kind = 12 then v.Kind == 7 && allM μ v.Kids x.Kids else
  if x.Kind = 13 then v.Kind == 8 && mapM' μ v x else if x.Kind = 14 then v.Kind == 9 && funM μ v x else if x.Kind = 16 then x.Kids.any (μ v) else if x.Kind = 17 then x.Kids.all (μ v) else
  if x.Kind = 18 then !μ v (x.Kids.getD 0 0) else if x.Kind = 19 then v.Labels.any fun y => strEq y x.Text else false
end
/-- Enough fuel for a value. -/
def FU (b : Nat) : Nat := 4 * (b * 11 + 10) + 4
def memB (t : Api_Type) (v : Val) (k : Int) : Bool := (semtyperef7_member (FU (bulkV v)) v t k).getD false
def MS (v : Val) (k : Nat) : Nat := bulkV v * 11 + (10 - k)
theorem zip_at {α β : Type} {l : List α} {m : List β} {i : Nat} {p : α × β} (h : (l.zip m)[i]? = some p) : l[i]? = some p.1 ∧ m[i]? = some p.2 := by
  obtain ⟨a, b⟩ := p
  rw [List.getElem?_zip_eq_some] at h
  exact h
theorem vs_in {l : List Val} (h : vsOK l = true) {x : Val} (hx : x ∈ l) : vOK x = true := by
  rw [vsOK_all] at h
  exact List.all_eq_true.1 h x hx
section
variable {t : Api_Type} {f0 b : Nat}
/-- What is known of smaller values. -/
def RH (t : Api_Type) (f0 b : Nat) : Prop := ∀ (v : Val) (k : Nat) (f : Nat), bulkV v < b → vOK v = true → k < t.Nodes.length → f0 ≤ f → core_Has f v t (k : Int) = some (memB t v (k : Int)) ∧ semtyperef7_member f v t (k : Int) = some (memB t v (k : Int))
theorem all_ok' (hR : RH t f0 b) {l : List Val} {ks : List Int} (hl : ∀ x ∈ l, bulkV x < b) (ho : vsOK l = true) (hk : ∀ k ∈ ks, inR t.Nodes.length k = true) (hlen : l.length ≤ 4194304) (f : Nat) (hf : f0 + 1 ≤ f) :
    core_all f l t ks = some (allM (memB t) l ks) ∧ semtyperef7_members f l t ks = some (allM (memB t) l ks) := by
  obtain ⟨f, rfl⟩ : ∃ m, f = m + 1 := ⟨f - 1, by omega⟩
  by_cases he : l.length = ks.length
  · have e1 : ((l.length : Int) != (ks.length : Int)) = false := by simp [he]
    have e2 : ((l.length : Int) == (ks.length : Int)) = true := by simp [he]
    have hz : (l.zip ks).length = l.length := by rw [List.length_zip]; omega
    have one : ∀ (i : Nat) (p : Val × Int), (l.zip ks)[i]? = some p → i < l.length ∧ idx l (i : Int) = some p.1 ∧ idx ks (i : Int) = some p.2 ∧ core_Has f p.1 t p.2 = some (memB t p.1 p.2) ∧ semtyperef7_member f p.1 t p.2 = some (memB t p.1 p.2) := fun i p hp => by
      obtain ⟨h1, h2⟩ := zip_at hp
      obtain ⟨j, hj, hj2⟩ := inR_nat (hk _ (List.mem_of_getElem? h2))
      have hm := List.mem_of_getElem? h1
      have := hR p.1 j f (hl _ hm) (vs_in ho hm) hj2 (by omega)
      rw [← hj] at this
      exact ⟨(List.getElem?_eq_some_iff.1 h1).1, idx_at h1, idx_at h2, this⟩
    have l1 := first_ok (step := core_all_l1 l t ks (core_Has f)) (l.zip ks) (fun p => memB t p.1 p.2) (fun i => (i : Int)) () false (fun i p hp => by
      obtain ⟨h0, h1, h2, h3, _⟩ := one i p hp
      unfold core_all_l1
      rw [lt_true h0, h1]
      simp only [cond_true, Option.bind_some, wr64]
      rw [h2]
      simp only [Option.bind_some]
      rw [h3, w64_succ i (by omega)]
      exact flag_ok _ _) (by
      unfold core_all_l1
      simp [hz])
    have l2 := first_ok (step := semtyperef7_members_l1 l t ks (semtyperef7_member f)) (l.zip ks) (fun p => memB t p.1 p.2) (fun i => (i : Int)) () false (fun i p hp => by
      obtain ⟨h0, h1, h2, _, h3⟩ := one i p hp
      unfold semtyperef7_members_l1
      rw [lt_true h0, h1]
      simp only [cond_true, Option.bind_some, wr64]
      rw [h2]
      simp only [Option.bind_some]
      rw [h3, w64_succ i (by omega)]
      exact flag_ok _ _) (by
      unfold semtyperef7_members_l1
      simp [hz])
    rw [hz] at l1 l2
    unfold allM
    constructor
    · show core_all_B f (core_all f) (core_EntryAllowed f) (core_functionHas f) (core_Has f) (core_Has_1 f) (core_Has_2 f) (core_mapHas f) l t ks = _
      unfold core_all_B
      have l1' : iter (core_all_l1 l t ks (core_Has f)) (l.length + 1) 0 = _ := l1
      rw [e1, natLen, l1', e2]
      cases (l.zip ks).all fun p => memB t p.1 p.2 <;> rfl
    · show semtyperef7_members_B f (semtyperef7_function f) (semtyperef7_mapping f) (semtyperef7_member f) (semtyperef7_members f) l t ks = _
      unfold semtyperef7_members_B
      have l2' : iter (semtyperef7_members_l1 l t ks (semtyperef7_member f)) (l.length + 1) 0 = _ := l2
      rw [e1, natLen, l2', e2]
      cases (l.zip ks).all fun p => memB t p.1 p.2 <;> rfl
  · have e1 : ((l.length : Int) != (ks.length : Int)) = true := by simp; omega
    have e2 : ((l.length : Int) == (ks.length : Int)) = false := by simp; omega
    unfold allM
    rw [e2]
    constructor
    · show core_all_B f (core_all f) (core_EntryAllowed f) (core_functionHas f) (core_Has f) (core_Has_1 f) (core_Has_2 f) (core_mapHas f) l t ks = _
      unfold core_all_B
      rw [e1]; rfl
    · show semtyperef7_members_B f (semtyperef7_function f) (semtyperef7_mapping f) (semtyperef7_member f) (semtyperef7_members f) l t ks = _
      unfold semtyperef7_members_B
      rw [e1]; rfl
theorem last_at {ks : List Int} (h : 1 ≤ ks.length) : ks[ks.length - 1]? = some (lastK ks) := by
  unfold lastK
  rw [List.getD_eq_getElem?_getD, List.getElem?_eq_getElem (show ks.length - 1 < ks.length by omega)]
  rfl
theorem cut_last {ks : List Int} (h : 1 ≤ ks.length) (h2 : ks.length ≤ 4194304) : cut ks 0 (w64 ((ks.length : Int) - 1)) = some (ks.take (ks.length - 1)) := by
  rw [show w64 ((ks.length : Int) - 1) = ((ks.length - 1 : Nat) : Int) by rw [w64_id (by omega) (by omega)]; omega]
  unfold cut
  rw [if_pos (by omega)]
  simp
/-- One entry, by the program. -/
theorem ent_has (hR : RH t f0 b) {e : Ent} (ha : ∀ x ∈ e.Args, bulkV x < b) (hr : bulkV e.Result < b) (he : eOK e = true) (hlen : e.Args.length ≤ 4194304) {x : Api_TypeNode} (hk : ∀ k ∈ x.Kids, inR t.Nodes.length k = true) (h1 : 1 ≤ x.Kids.length) (h4 : x.Kids.length ≤ 4194304) (f : Nat) (hf : f0 + 2 ≤ f) :
    core_EntryAllowed f e t x = some (entM (memB t) e x.Kids) := by
  obtain ⟨f, rfl⟩ : ∃ m, f = m + 1 := ⟨f - 1, by omega⟩
  rw [eOK_eq] at he
  simp only [Bool.and_eq_true] at he
  have hall := (all_ok' hR (ks := x.Kids.take (x.Kids.length - 1)) ha he.1 (fun k hkk => hk k (List.mem_of_mem_take hkk)) hlen f (by omega)).1
  show core_EntryAllowed_B f (core_all f) (core_EntryAllowed f) (core_functionHas f) (core_Has f) (core_Has_1 f) (core_Has_2 f) (core_mapHas f) e t x = _
  unfold core_EntryAllowed_B entM
  simp only [wr64]
  rw [cut_last h1 h4]
  simp only [Option.bind_some]
  rw [hall]
  simp only [Option.bind_some, bsome]
  cases allM (memB t) e.Args (x.Kids.take (x.Kids.length - 1))
  · rfl
  cases hF : e.Fails
  · have hl := last_at h1
    obtain ⟨j, hj, hj2⟩ := inR_nat (hk _ (List.mem_of_getElem? hl))
    have hv : vOK e.Result = true := by have := he.2; rw [hF] at this; simpa using this
    have := (hR e.Result j f hr hv hj2 (by omega)).1
    rw [← hj] at this
    have hw : w64 ((x.Kids.length : Int) - 1) = ((x.Kids.length - 1 : Nat) : Int) := by rw [w64_id (by omega) (by omega)]; omega
    simp only [Bool.not_true, Bool.not_false, cond_false, cond_true, Bool.false_or, Bool.true_and]
    rw [hw, idx_at hl]
    simp only [Option.bind_some]
    rw [this]
  · rfl
theorem fun_has (hR : RH t f0 b) {v : Val} (hv : bulkV v ≤ b) (ho : esOK v.Entries = true) (hb : b ≤ 4194304) {x : Api_TypeNode} (hk : ∀ k ∈ x.Kids, inR t.Nodes.length k = true) (h1 : 1 ≤ x.Kids.length) (h4 : x.Kids.length ≤ 4194304) (f : Nat) (hf : f0 + 3 ≤ f) :
    core_functionHas f v t x = some (funM (memB t) v x) ∧ semtyperef7_function f v t x = some (funM (memB t) v x) := by
  obtain ⟨f, rfl⟩ : ∃ m, f = m + 1 := ⟨f - 1, by omega⟩
  have hbe := bulkV_eq v
  have hle := bulkEs_len v.Entries
  have hw : w64 ((x.Kids.length : Int) - 1) = ((x.Kids.length - 1 : Nat) : Int) := by rw [w64_id (by omega) (by omega)]; omega
  have ent : ∀ e ∈ v.Entries, (∀ y ∈ e.Args, bulkV y < b) ∧ bulkV e.Result < b ∧ eOK e = true ∧ e.Args.length ≤ 4194304 := fun e he => by
    have hm := bulkEs_mem he
    have h2 := bulkE_eq e
    have h3 := bulkVs_len e.Args
    refine ⟨fun y hy => by have := bulkVs_mem hy; omega, by omega, ?_, by omega⟩
    rw [esOK_all] at ho
    exact List.all_eq_true.1 ho e he
  have l1 : iter (core_functionHas_l1 v t x (core_EntryAllowed f)) (v.Entries.length + 1) 0 = some (if (v.Entries.all fun e => entM (memB t) e x.Kids) = true then .inl () else .inr false) := by
    refine first_ok v.Entries (fun e => entM (memB t) e x.Kids) (fun i => (i : Int)) () false ?_ ?_
    · intro i e he
      have hi : i < v.Entries.length := (List.getElem?_eq_some_iff.1 he).1
      obtain ⟨a1, a2, a3, a4⟩ := ent e (List.mem_of_getElem? he)
      unfold core_functionHas_l1
      rw [lt_true hi, idx_at he]
      simp only [cond_true, Option.bind_some, wr64]
      rw [ent_has hR a1 a2 a3 a4 hk h1 h4 f (by omega), w64_succ i (by omega)]
      exact flag_ok _ _
    · unfold core_functionHas_l1
      simp
  have l2 : iter (semtyperef7_function_l1 v t x (semtyperef7_members f) (semtyperef7_member f)) (v.Entries.length + 1) 0 = some (if (v.Entries.all fun e => entM (memB t) e x.Kids) = true then .inl () else .inr false) := by
    refine first_ok v.Entries (fun e => entM (memB t) e x.Kids) (fun i => (i : Int)) () false ?_ ?_
    · intro i e he
      have hi : i < v.Entries.length := (List.getElem?_eq_some_iff.1 he).1
      obtain ⟨a1, a2, a3, a4⟩ := ent e (List.mem_of_getElem? he)
      have a3' := a3
      rw [eOK_eq] at a3'
      simp only [Bool.and_eq_true] at a3'
      have hall := (all_ok' hR (ks := x.Kids.take (x.Kids.length - 1)) a1 a3'.1 (fun k hkk => hk k (List.mem_of_mem_take hkk)) a4 f (by omega)).2
      unfold semtyperef7_function_l1
      rw [lt_true hi, idx_at he]
      simp only [cond_true, Option.bind_some, wr64]
      rw [cut_last h1 h4]
      simp only [Option.bind_some]
      rw [hall, w64_succ i (by omega)]
      simp only [Option.bind_some, bsome]
      unfold entM
      cases allM (memB t) e.Args (x.Kids.take (x.Kids.length - 1))
      · rfl
      cases hF : e.Fails
      · have hl := last_at h1
        obtain ⟨j, hj, hj2⟩ := inR_nat (hk _ (List.mem_of_getElem? hl))
        have hv2 : vOK e.Result = true := by have := a3'.2; rw [hF] at this; simpa using this
        have := (hR e.Result j f a2 hv2 hj2 (by omega)).2
        rw [← hj] at this
        simp only [Bool.not_true, Bool.not_false, cond_false, cond_true, Bool.false_or, Bool.true_and]
        rw [hw, idx_at hl]
        simp only [Option.bind_some]
        rw [this]
        simp only [Option.bind_some]
        cases memB t e.Result (lastK x.Kids) <;> rfl
      · rfl
    · unfold semtyperef7_function_l1
      simp
  unfold funM
  have e0 : (v.Int_ != ((x.Kids.length - 1 : Nat) : Int)) = !(v.Int_ == ((x.Kids.length - 1 : Nat) : Int)) := rfl
  constructor
  · show core_functionHas_B f (core_all f) (core_EntryAllowed f) (core_functionHas f) (core_Has f) (core_Has_1 f) (core_Has_2 f) (core_mapHas f) v t x = _
    unfold core_functionHas_B
    simp only [wr64]
    rw [hw, natLen, l1, e0]
    cases (v.Int_ == ((x.Kids.length - 1 : Nat) : Int))
    · rfl
    cases v.Entries.all fun e => entM (memB t) e x.Kids <;> rfl
  · show semtyperef7_function_B f (semtyperef7_function f) (semtyperef7_mapping f) (semtyperef7_member f) (semtyperef7_members f) v t x = _
    unfold semtyperef7_function_B
    simp only [wr64]
    rw [hw, natLen, l2, e0]
    cases (v.Int_ == ((x.Kids.length - 1 : Nat) : Int))
    · rfl
    cases v.Entries.all fun e => entM (memB t) e x.Kids <;> rfl
theorem at_in {x : Api_TypeNode} {N : Nat} (hf : ∀ f ∈ x.Fields, inR N f.Node = true) (h0 : inR N x.Rest.1 = true) (h1 : inR N x.Rest.2 = true) (k : Key) : inR N (atM x k) = true := by
  unfold atM
  cases h : x.Fields.find? fun f => keyEq f.Key_ k with
  | some f => exact hf f (List.mem_of_find?_eq_some h)
  | none =>
    simp only
    unfold restM
    split <;> assumption
theorem map_has (hR : RH t f0 b) {v : Val} (hv : bulkV v ≤ b) (ho : vsOK v.Kids = true) (hm : mapOK v = true) (hb : b ≤ 4194304) {x : Api_TypeNode} (hf : ∀ f ∈ x.Fields, inR t.Nodes.length f.Node = true) (h0 : inR t.Nodes.length x.Rest.1 = true) (h1 : inR t.Nodes.length x.Rest.2 = true) (h3 : x.Fields.length ≤ 4194304) (f : Nat) (hff : f0 + 1 ≤ f) :
    core_mapHas f v t x = some (mapM' (memB t) v x) ∧ semtyperef7_mapping f v t x = some (mapM' (memB t) v x) := by
  obtain ⟨f, rfl⟩ : ∃ m, f = m + 1 := ⟨f - 1, by omega⟩
  have hbe := bulkV_eq v
  have hkl := bulkKeys_len v.Keys
  unfold mapOK at hm
  simp only [Bool.and_eq_true] at hm
  have hlen : v.Keys.length = v.Kids.length := by simpa using hm.1
  have hz : (v.Keys.zip v.Kids).length = v.Keys.length := by rw [List.length_zip]; omega
  have a1 : iter (core_mapHas_l1 v x) (x.Fields.length + 1) 0 = some (if (x.Fields.all fun f => f.Optional || v.Keys.any fun y => keyEq y f.Key_) = true then .inl () else .inr false) := by
    refine first_ok x.Fields (fun f => f.Optional || v.Keys.any fun y => keyEq y f.Key_) (fun i => (i : Int)) () false ?_ ?_
    · intro i g hx
      have hi : i < x.Fields.length := (List.getElem?_eq_some_iff.1 hx).1
      unfold core_mapHas_l1
      rw [lt_true hi, idx_at hx]
      simp only [cond_true, Option.bind_some, wr64]
      rw [contKeys_ok _ _ (by omega), w64_succ i (by omega)]
      cases g.Optional <;> cases (v.Keys.any fun y => keyEq y g.Key_) <;> rfl
    · unfold core_mapHas_l1
      simp
  have a2 : iter (semtyperef7_mapping_l1 v x) (x.Fields.length + 1) 0 = some (if (x.Fields.all fun f => f.Optional || v.Keys.any fun y => keyEq y f.Key_) = true then .inl () else .inr false) := by
    refine first_ok x.Fields (fun f => f.Optional || v.Keys.any fun y => keyEq y f.Key_) (fun i => (i : Int)) () false ?_ ?_
    · intro i g hx
      have hi : i < x.Fields.length := (List.getElem?_eq_some_iff.1 hx).1
      obtain ⟨r, e1, e2⟩ := key7_ok v g.Key_ (by omega)
      unfold semtyperef7_mapping_l1
      rw [lt_true hi, idx_at hx]
      simp only [cond_true, Option.bind_some, wr64]
      rw [e1, w64_succ i (by omega)]
      simp only [Option.bind_some]
      rw [e2]
      cases g.Optional <;> cases (v.Keys.any fun y => keyEq y g.Key_) <;> rfl
    · unfold semtyperef7_mapping_l1
      simp
  have one : ∀ (i : Nat) (p : Key × Val), (v.Keys.zip v.Kids)[i]? = some p → i < v.Keys.length ∧ idx v.Keys (i : Int) = some p.1 ∧ idx v.Kids (i : Int) = some p.2 ∧ keyOK p.1 = true ∧ core_Has f p.2 t (atM x p.1) = some (memB t p.2 (atM x p.1)) ∧ semtyperef7_member f p.2 t (atM x p.1) = some (memB t p.2 (atM x p.1)) := fun i p hp => by
    obtain ⟨q1, q2⟩ := zip_at hp
    have m1 := List.mem_of_getElem? q1
    have m2 := List.mem_of_getElem? q2
    obtain ⟨j, hj, hj2⟩ := inR_nat (at_in hf h0 h1 p.1)
    have hbm := bulkVs_mem m2
    have := hR p.2 j f (by omega) (vs_in ho m2) hj2 (by omega)
    rw [← hj] at this
    exact ⟨(List.getElem?_eq_some_iff.1 q1).1, idx_at q1, idx_at q2, List.all_eq_true.1 hm.2.2 _ m1, this⟩
  have b1 := first_ok (step := core_mapHas_l2 v t x (core_Has f)) (v.Keys.zip v.Kids) (fun p => memB t p.2 (atM x p.1)) (fun i => (i : Int)) () false (fun i p hp => by
    obtain ⟨h0, h1, h2, h3', h4, _⟩ := one i p hp
    unfold core_mapHas_l2
    rw [lt_true h0, h1]
    simp only [cond_true, Option.bind_some, wr64]
    rw [h2]
    simp only [Option.bind_some]
    rw [at_ok x p.1 h3 h3']
    simp only [Option.bind_some]
    rw [h4, w64_succ i (by omega)]
    exact flag_ok _ _) (by
    unfold core_mapHas_l2
    simp [hz])
  have b2 := first_ok (step := semtyperef7_mapping_l2 v t x (semtyperef7_member f)) (v.Keys.zip v.Kids) (fun p => memB t p.2 (atM x p.1)) (fun i => (i : Int)) () false (fun i p hp => by
    obtain ⟨h0, h1, h2, h3', _, h4⟩ := one i p hp
    unfold semtyperef7_mapping_l2
    rw [lt_true h0, h1]
    simp only [cond_true, Option.bind_some, wr64]
    have hrest : (bif p.1.Kind == 0 then some x.Rest.1 else (bif p.1.Kind == 1 then some x.Rest.2 else none)) = some (restM x p.1) := by
      unfold restM
      rcases kind01 h3' with h | h
      · simp [h]
      · simp [h]
    rw [hrest]
    have hto : ∀ {β : Type} (g : Int → Option β), (Option.bind (semtyperef7_field x p.1) fun r11 => Option.bind (some (restM x p.1)) fun b13 => Option.bind (bif decide (0 ≤ r11) then (Option.bind (idx x.Fields r11) fun e14 => some e14.Node) else (some b13)) g) = g (atM x p.1) := by
      intro β g
      rcases field7_ok x p.1 h3 with ⟨i', fl, e1, e2, e3⟩ | ⟨e1, e3⟩
      · rw [e1]
        simp only [Option.bind_some, nat0, cond_true]
        rw [idx_at e2]
        simp only [Option.bind_some, e3]
      · rw [e1]
        simp only [Option.bind_some, neg1, cond_false, e3]
    rw [hto, h2]
    simp only [Option.bind_some]
    rw [h4, w64_succ i (by omega)]
    exact flag_ok _ _) (by
    unfold semtyperef7_mapping_l2
    simp [hz])
  rw [hz] at b1 b2
  unfold mapM'
  constructor
  · show core_mapHas_B f (core_all f) (core_EntryAllowed f) (core_functionHas f) (core_Has f) (core_Has_1 f) (core_Has_2 f) (core_mapHas f) v t x = _
    unfold core_mapHas_B
    have b1' : iter (core_mapHas_l2 v t x (core_Has f)) (v.Keys.length + 1) 0 = _ := b1
    rw [natLen, a1, natLen, b1']
    cases (x.Fields.all fun f => f.Optional || v.Keys.any fun y => keyEq y f.Key_)
    · rfl
    cases (v.Keys.zip v.Kids).all fun p => memB t p.2 (atM x p.1) <;> rfl
  · show semtyperef7_mapping_B f (semtyperef7_function f) (semtyperef7_mapping f) (semtyperef7_member f) (semtyperef7_members f) v t x = _
    unfold semtyperef7_mapping_B
    have b2' : iter (semtyperef7_mapping_l2 v t x (semtyperef7_member f)) (v.Keys.length + 1) 0 = _ := b2
    rw [natLen, a2, natLen, b2']
    cases (x.Fields.all fun f => f.Optional || v.Keys.any fun y => keyEq y f.Key_)
    · rfl
    cases (v.Keys.zip v.Kids).all fun p => memB t p.2 (atM x p.1) <;> rfl
end
end Go.Pl
namespace Go.Pl
open Go Go.RowKit Go.Sx Go.Qx

section
variable {t : Api_Type}
theorem GT.ord (hT : GT t) {k : Nat} {x : Api_TypeNode} (hx : t.Nodes[k]? = some x) (hb : isB x = true) {j : Int} (hj : j ∈ x.Kids) : ∃ j' : Nat, j = (j' : Int) ∧ k < j' ∧ j' < t.Nodes.length := by
  have hg := hT.nodes k x hx
  obtain ⟨j', e, h1⟩ := inR_nat (nodeT_kids hg.ok j hj)
  have := hg.ord hb j hj
  exact ⟨j', e, by omega, h1⟩
theorem kindsT {N : Nat} {x : Api_TypeNode} (h : nodeT N x = true) : kindT N x = true := by
  unfold nodeT at h
  simp only [Bool.and_eq_true] at h
  exact h.2.2.2.2
theorem kind_in {N : Nat} {x : Api_TypeNode} (h : nodeT N x = true) : x.Kind = 1 ∨ x.Kind = 2 ∨ x.Kind = 3 ∨ x.Kind = 4 ∨ x.Kind = 5 ∨ x.Kind = 6 ∨ x.Kind = 7 ∨ x.Kind = 8 ∨ x.Kind = 9 ∨ x.Kind = 10 ∨ x.Kind = 11 ∨ x.Kind = 12 ∨ x.Kind = 13 ∨ x.Kind = 14 ∨ x.Kind = 15 ∨ x.Kind = 16 ∨ x.Kind = 17 ∨ x.Kind = 18 ∨ x.Kind = 19 := by
  rcases kind_cases x.Kind with hk | hk
  · exact hk
  · have e : ∀ n : Int, 1 ≤ n → n ≤ 19 → ¬ x.Kind = n := fun n h1 h2 => by simpa using hk n h1 h2
    have hn := kindsT h
    unfold kindT at hn
    rw [if_neg (e 3 (by omega) (by omega)), if_neg (e 4 (by omega) (by omega)), if_neg (e 6 (by omega) (by omega)), if_neg (e 19 (by omega) (by omega)), if_neg (by have := e 1 (by omega) (by omega); have := e 2 (by omega) (by omega); have := e 5 (by omega) (by omega); have := e 7 (by omega) (by omega); have := e 8 (by omega) (by omega); have := e 9 (by omega) (by omega); have := e 11 (by omega) (by omega); have := e 15 (by omega) (by omega); omega),
      if_neg (e 10 (by omega) (by omega)), if_neg (e 12 (by omega) (by omega)), if_neg (e 14 (by omega) (by omega)), if_neg (by have := e 16 (by omega) (by omega); have := e 17 (by omega) (by omega); omega), if_neg (e 18 (by omega) (by omega)), if_neg (e 13 (by omega) (by omega))] at hn
    cases hn
/-- What each kind asks. -/
theorem fun_kids {N : Nat} {x : Api_TypeNode} (h : nodeT N x = true) (hk : x.Kind = 14) : 1 ≤ x.Kids.length ∧ x.Kids.length ≤ 5 := by
  have hn := kindsT h
  unfold kindT at hn
  simp [hk] at hn
  omega
theorem not_kids {N : Nat} {x : Api_TypeNode} (h : nodeT N x = true) (hk : x.Kind = 18) : x.Kids.length = 1 := by
  have hn := kindsT h
  unfold kindT at hn
  simp [hk] at hn
  omega
theorem map_flds {N : Nat} {x : Api_TypeNode} (h : nodeT N x = true) (hk : x.Kind = 13) : (∀ f ∈ x.Fields, inR N f.Node = true) ∧ inR N x.Rest.1 = true ∧ inR N x.Rest.2 = true := by
  have hn := kindsT h
  unfold kindT fieldsT at hn
  simp [hk] at hn
  exact ⟨hn.1.2.2, hn.2.2.1, hn.2.2.2⟩
theorem map_valid {v : Val} (h : vOK v = true) (hk : v.Kind = 8) : mapOK v = true := by
  rw [vOK_eq] at h
  simp only [Bool.and_eq_true] at h
  have := h.1
  unfold nodeOK kindOK at this
  simp only [Bool.and_eq_true] at this
  have h2 := this.2.2
  simp [hk] at h2
  exact h2
theorem vOK_kids {v : Val} (h : vOK v = true) : vsOK v.Kids = true ∧ esOK v.Entries = true := by
  rw [vOK_eq] at h
  simp only [Bool.and_eq_true] at h
  exact h.2
theorem any_not {α : Type} (p : α → Bool) (l : List α) : (!(l.any fun x => !p x)) = l.all p := by
  rw [Bool.eq_iff_iff]
  simp
theorem step_ok (hT : GT t) {v : Val} {k : Nat} {x : Api_TypeNode} (hx : t.Nodes[k]? = some x) (ho : vOK v = true) (hb : bulkV v ≤ 4194304) {f0 : Nat} (hR : RH t f0 (bulkV v))
    (hB : isB x = true → ∀ j ∈ x.Kids, ∀ f, f0 ≤ f → core_Has f v t j = some (memB t v j) ∧ semtyperef7_member f v t j = some (memB t v j)) (f : Nat) (hf : f0 + 4 ≤ f) :
    core_Has f v t (k : Int) = some (unM (memB t) v x) ∧ semtyperef7_member f v t (k : Int) = some (unM (memB t) v x) := by
  obtain ⟨f, rfl⟩ : ∃ m, f = m + 1 := ⟨f - 1, by omega⟩
  have hg := hT.nodes k x hx
  have hn := hg.ok
  have hk4 := hg.kids
  have hf3 := hg.flds
  have hkr := nodeT_kids hn
  obtain ⟨ho1, ho2⟩ := vOK_kids ho
  have hbe := bulkV_eq v
  have hkl := bulkVs_len v.Kids
  have hll := bulkStrs_len v.Labels
  have hall := all_ok' hR (l := v.Kids) (ks := x.Kids) (fun y hy => by have := bulkVs_mem hy; omega) ho1 hkr (by omega) f (by omega)
  have hlab := contStr_ok v.Labels x.Text (by omega)
  have hlab2 : (Option.bind (iter (semtyperef7_member_l3 v x) (v.Labels.length + 1) 0) fun b30 => onEnd (fun _ => some false) (fun y32 => some y32) b30) = some (v.Labels.any fun y => strEq y x.Text) := by
    rcases find_ix (step := semtyperef7_member_l3 v x) v.Labels (fun y => strEq y x.Text) (fun _ _ => true) (fun i y hy => by
        have hi : i < v.Labels.length := (List.getElem?_eq_some_iff.1 hy).1
        unfold semtyperef7_member_l3
        rw [lt_true hi, idx_at hy]
        simp only [cond_true, Option.bind_some, wr64]
        rw [w64_succ i (by omega)]
        cases strEq y x.Text <;> rfl) (by
        unfold semtyperef7_member_l3
        simp) with ⟨i, y, hy, hp, _, e⟩ | ⟨h, e⟩
    · rw [e, any_of hy hp]; rfl
    · rw [e, h]; rfl
  have hbool : isB x = true → slices_ContainsFunc_int_int x.Kids (fun z => core_Has_1 f z v t) = some (x.Kids.any (memB t v)) ∧ (Option.bind (slices_ContainsFunc_int_int x.Kids (fun z => core_Has_2 f z v t)) fun r => some (!r)) = some (x.Kids.all (memB t v)) ∧
      (Option.bind (iter (semtyperef7_member_l1 v t x (semtyperef7_member f)) (x.Kids.length + 1) 0) fun b17 => onEnd (fun _ => some false) (fun y19 => some y19) b17) = some (x.Kids.any (memB t v)) ∧
      (Option.bind (iter (semtyperef7_member_l2 v t x (semtyperef7_member f)) (x.Kids.length + 1) 0) fun b23 => onEnd (fun _ => some true) (fun y25 => some y25) b23) = some (x.Kids.all (memB t v)) := fun hb => by
    have hB := hB hb
    obtain ⟨f, rfl⟩ : ∃ m, f = m + 1 := ⟨f - 1, by omega⟩
    refine ⟨contInt_ok _ _ _ (by omega) fun z hz => ?_, ?_, ?_, ?_⟩
    · show core_Has_1_B f (core_all f) (core_EntryAllowed f) (core_functionHas f) (core_Has f) (core_Has_1 f) (core_Has_2 f) (core_mapHas f) z v t = _
      unfold core_Has_1_B
      rw [(hB z hz f (by omega)).1]
      rfl
    · rw [contInt_ok _ _ (fun z => !memB t v z) (by omega) fun z hz => ?_]
      · simp only [Option.bind_some]
        rw [any_not]
      · show core_Has_2_B f (core_all f) (core_EntryAllowed f) (core_functionHas f) (core_Has f) (core_Has_1 f) (core_Has_2 f) (core_mapHas f) z v t = _
        unfold core_Has_2_B
        rw [(hB z hz f (by omega)).1]
        rfl
    · rcases find_ix (step := semtyperef7_member_l1 v t x (semtyperef7_member (f + 1))) x.Kids (memB t v) (fun _ _ => true) (fun i y hy => by
          have hi : i < x.Kids.length := (List.getElem?_eq_some_iff.1 hy).1
          unfold semtyperef7_member_l1
          rw [lt_true hi, idx_at hy]
          simp only [cond_true, Option.bind_some, wr64]
          rw [(hB y (List.mem_of_getElem? hy) (f + 1) (by omega)).2, w64_succ i (by omega)]
          simp only [Option.bind_some]
          cases memB t v y <;> rfl) (by
          unfold semtyperef7_member_l1
          simp) with ⟨i, y, hy, hp, _, e⟩ | ⟨h, e⟩
      · rw [e, any_of hy hp]; rfl
      · rw [e, h]; rfl
    · have l2 := first_ok (step := semtyperef7_member_l2 v t x (semtyperef7_member (f + 1))) x.Kids (memB t v) (fun i => (i : Int)) () false (fun i y hy => by
        have hi : i < x.Kids.length := (List.getElem?_eq_some_iff.1 hy).1
        unfold semtyperef7_member_l2
        rw [lt_true hi, idx_at hy]
        simp only [cond_true, Option.bind_some, wr64]
        rw [(hB y (List.mem_of_getElem? hy) (f + 1) (by omega)).2, w64_succ i (by omega)]
        exact flag_ok _ _) (by
        unfold semtyperef7_member_l2
        simp)
      have l2' : iter (semtyperef7_member_l2 v t x (semtyperef7_member (f + 1))) (x.Kids.length + 1) 0 = _ := l2
      rw [l2']
      cases x.Kids.all (memB t v) <;> rfl
  have hidx := idx_at hx
  constructor
  · show core_Has_B f (core_all f) (core_EntryAllowed f) (core_functionHas f) (core_Has f) (core_Has_1 f) (core_Has_2 f) (core_mapHas f) v t (k : Int) = _
    unfold core_Has_B
    rw [hidx]
    simp only [Option.bind_some, bsome]
    rcases kind_in hn with hK | hK | hK | hK | hK | hK | hK | hK | hK | hK | hK | hK | hK | hK | hK | hK | hK | hK | hK <;> unfold unM <;> simp only [hK, Int.reduceBEq, Int.reduceEq, if_true, if_false, cond_true, cond_false, Option.bind_some]
    · cases v.Kind == 1 <;> cases decide (x.Lo ≤ v.Int_) <;> rfl
    · cases v.Kind == 2 <;> rfl
    · rfl
    · cases v.Kind == 3 <;> rfl
    · rfl
    · rfl
    · rfl
    · rw [hall.1]
      cases v.Kind == 6 <;> rfl
    · rfl
    · rw [hall.1]
      cases v.Kind == 7 <;> rfl
    · cases hv : v.Kind == 8
      · rfl
      · obtain ⟨q1, q2, q3⟩ := map_flds hn hK
        rw [(map_has hR (Nat.le_refl _) ho1 (map_valid ho (by simpa using hv)) hb q1 q2 q3 (by omega) f (by omega)).1]
        rfl
    · obtain ⟨q1, q2⟩ := fun_kids hn hK
      rw [(fun_has hR (Nat.le_refl _) ho2 hb hkr q1 (by omega) f (by omega)).1]
      cases v.Kind == 9 <;> rfl
    · rfl
    · exact (hbool (by unfold isB; rw [hK]; rfl)).1
    · exact (hbool (by unfold isB; rw [hK]; rfl)).2.1
    · have h1 := not_kids hn hK
      have ek := List.getElem?_eq_getElem (show 0 < x.Kids.length by omega)
      have e0 : idx x.Kids 0 = some x.Kids[0] := idx_at ek
      rw [e0]
      simp only [Option.bind_some]
      rw [(hB (by unfold isB; rw [hK]; rfl) _ (List.mem_of_getElem? ek) f (by omega)).1, List.getD_eq_getElem?_getD, ek]
      rfl
    · exact hlab
  · show semtyperef7_member_B f (semtyperef7_function f) (semtyperef7_mapping f) (semtyperef7_member f) (semtyperef7_members f) v t (k : Int) = _
    unfold semtyperef7_member_B
    rw [hidx]
    simp only [Option.bind_some, natLen]
    rcases kind_in hn with hK | hK | hK | hK | hK | hK | hK | hK | hK | hK | hK | hK | hK | hK | hK | hK | hK | hK | hK <;> unfold unM <;> simp only [hK, Int.reduceBEq, Int.reduceEq, if_true, if_false, cond_true, cond_false, Option.bind_some]
    · cases v.Kind == 1 <;> cases decide (x.Lo ≤ v.Int_) <;> rfl
    · cases v.Kind == 2 <;> rfl
    · cases v.Kind == 3 <;> rfl
    · rw [hall.2]
      cases v.Kind == 6 <;> rfl
    · rw [hall.2]
      cases v.Kind == 7 <;> rfl
    · cases hv : v.Kind == 8
      · rfl
      · obtain ⟨q1, q2, q3⟩ := map_flds hn hK
        rw [(map_has hR (Nat.le_refl _) ho1 (map_valid ho (by simpa using hv)) hb q1 q2 q3 (by omega) f (by omega)).2]
        rfl
    · obtain ⟨q1, q2⟩ := fun_kids hn hK
      rw [(fun_has hR (Nat.le_refl _) ho2 hb hkr q1 (by omega) f (by omega)).2]
      cases v.Kind == 9 <;> rfl
    · exact (hbool (by unfold isB; rw [hK]; rfl)).2.2.1
    · exact (hbool (by unfold isB; rw [hK]; rfl)).2.2.2
    · have h1 := not_kids hn hK
      have ek := List.getElem?_eq_getElem (show 0 < x.Kids.length by omega)
      have e0 : idx x.Kids 0 = some x.Kids[0] := idx_at ek
      rw [e0]
      simp only [Option.bind_some]
      rw [(hB (by unfold isB; rw [hK]; rfl) _ (List.mem_of_getElem? ek) f (by omega)).2, List.getD_eq_getElem?_getD, ek]
      rfl
    · exact hlab2
theorem mem_main (hT : GT t) : ∀ (m : Nat) (v : Val) (k : Nat) (x : Api_TypeNode), MS v k ≤ m → vOK v = true → bulkV v ≤ 4194304 → t.Nodes[k]? = some x →
    (∀ f, 4 * MS v k + 4 ≤ f → core_Has f v t (k : Int) = some (memB t v (k : Int)) ∧ semtyperef7_member f v t (k : Int) = some (memB t v (k : Int))) ∧ memB t v (k : Int) = unM (memB t) v x := by
  intro m
  induction m with
  | zero => intro v k x h; have := bulkV_pos v; unfold MS at h; omega
  | succ m ih =>
    intro v k x hm ho hb hx
    have hkN : k < t.Nodes.length := (List.getElem?_eq_some_iff.1 hx).1
    have hN := hT.len
    have hR : RH t (4 * MS v k) (bulkV v) := fun w j f hw hwo hj hf => by
      have ej := List.getElem?_eq_getElem hj
      have hlt : MS w j + 1 ≤ MS v k := by unfold MS; omega
      exact (ih w j _ (by omega) hwo (by omega) ej).1 f (by omega)
    have hst := step_ok hT hx ho hb hR (fun hbx j hj f hf => by
      obtain ⟨j', rfl, h1, h2⟩ := hT.ord hx hbx hj
      have ej := List.getElem?_eq_getElem h2
      have hlt : MS v j' + 1 ≤ MS v k := by unfold MS; omega
      exact (ih v j' _ (by omega) ho hb ej).1 f (by omega))
    have hmem : memB t v (k : Int) = unM (memB t) v x := by
      have hFU : 4 * MS v k + 4 ≤ FU (bulkV v) := by unfold FU MS; omega
      have := (hst (FU (bulkV v)) hFU).2
      unfold memB at *
      rw [this]
      rfl
    refine ⟨fun f hf => ?_, hmem⟩
    rw [hmem]
    exact hst f hf
/-- The reference's membership. -/
theorem member_ok (hT : GT t) {v : Val} {k : Nat} (ho : vOK v = true) (hb : bulkV v ≤ 4194304) (hk : k < t.Nodes.length) (f : Nat) (hf : FU (bulkV v) ≤ f) : semtyperef7_member f v t (k : Int) = some (memB t v (k : Int)) :=
  ((mem_main hT (MS v k) v k _ (Nat.le_refl _) ho hb (List.getElem?_eq_getElem hk)).1 f (by unfold FU at hf; unfold MS; omega)).2
theorem memB_eq (hT : GT t) {v : Val} {k : Nat} {x : Api_TypeNode} (hx : t.Nodes[k]? = some x) (ho : vOK v = true) (hb : bulkV v ≤ 4194304) : memB t v (k : Int) = unM (memB t) v x :=
  (mem_main hT (MS v k) v k x (Nat.le_refl _) ho hb hx).2
end
end Go.Pl
namespace Go.Pl
open Go Go.RowKit Go.Sx Go.Qx

section
variable {t : Api_Type}
theorem GT.all (hT : GT t) : allT t.Nodes = true := List.all_eq_true.2 fun x hx => by
  obtain ⟨i, hi, rfl⟩ := List.getElem_of_mem hx
  exact (hT.nodes i _ (List.getElem?_eq_getElem hi)).ok
theorem GT.ordT (hT : GT t) : OrdT t.Nodes := fun i x hx hb k hk => (hT.nodes i x hx).ord hb k hk
theorem GT.small (hT : GT t) : ∀ x ∈ t.Nodes, x.Kids.length ≤ 1000000 ∧ x.Fields.length ≤ 1000000 := fun x hx => by
  obtain ⟨i, hi, rfl⟩ := List.getElem_of_mem hx
  have hg := hT.nodes i _ (List.getElem?_eq_getElem hi)
  have h1 := hg.kids
  have h2 := hg.flds
  omega
theorem wf70 (hT : GT t) (hr : inR t.Nodes.length t.Root = true) (f : Nat) (hf : 1000001 ≤ f) : semtyperef7_WellFormed f t = some 0 := by
  have hN := hT.len
  rw [wf7_ok t hT.ordT hT.small (by omega) f hf, hT.all, hr]
  rfl
def fnB (t : Api_Type) (k : Int) : Bool := inR t.Nodes.length k && (match t.Nodes[k.toNat]? with | some x => x.Kind == 14 | none => false)
end
end Go.Pl
