/- Well-formed types: what the program and the reference ask of them. No program in sight. -/
import Derived.Test.YtdipagkcdpcnbaaGreatRRefV
namespace Go.Pl
open Go Go.RowKit Go.Sx Go.Qx

def inR (N : Nat) (k : Int) : Bool := decide (0 ≤ k) && decide (k < (N : Int))
def fieldsT (N : Nat) (l : List Api_Field) : Bool := asc cK (l.map (·.Key_)) && (l.all (fun f => keyOK f.Key_) && l.all fun f => inR N f.Node)
def kindT (N : Nat) (x : Api_TypeNode) : Bool :=
  if x.Kind = 3 then x.Kids.isEmpty && decide (x.Lo ≤ x.Hi) else if x.Kind = 4 then x.Kids.isEmpty && decide ((x.Text.size : Int) ≤ 64) else
  if x.Kind = 6 then x.Kids.isEmpty && atomOK x.Text else if x.Kind = 19 then x.Kids.isEmpty && varOK x.Text else
  if x.Kind = 1 ∨ x.Kind = 2 ∨ x.Kind = 5 ∨ x.Kind = 7 ∨ x.Kind = 8 ∨ x.Kind = 9 ∨ x.Kind = 11 ∨ x.Kind = 15 then x.Kids.isEmpty else
  if x.Kind = 10 then decide ((x.Kids.length : Int) ≤ 4) else if x.Kind = 12 then (x.Kids.length : Int) == 2 else
  if x.Kind = 14 then decide (1 ≤ (x.Kids.length : Int)) && decide ((x.Kids.length : Int) ≤ 5) else
  if x.Kind = 16 ∨ x.Kind = 17 then decide (1 ≤ (x.Kids.length : Int)) else if x.Kind = 18 then (x.Kids.length : Int) == 1 else
  if x.Kind = 13 then fieldsT N x.Fields && (x.Kids.isEmpty && (inR N x.Rest.1 && inR N x.Rest.2)) else false
def rest0 (r : Int × Int) : Bool := r.1 == 0 && r.2 == 0
def nodeT (N : Nat) (x : Api_TypeNode) : Bool :=
  x.Kids.all (inR N) && ((x.Kind == 3 || (x.Lo == 0 && x.Hi == 0)) && ((x.Kind == 4 || x.Kind == 6 || x.Kind == 19 || strEq x.Text ⟨#[]⟩) && ((x.Kind == 13 || (x.Fields.isEmpty && rest0 x.Rest)) && kindT N x)))
theorem len0 {α : Type} (l : List α) : ((l.length : Int) == 0) = l.isEmpty := by cases l <;> simp <;> omega
theorem rest0_eq (r : Int × Int) : eqD_70 r (0, 0) = rest0 r := by unfold eqD_70 rest0; simp
theorem index_ok (t : Api_Type) (k : Int) : semtyperef7_index t k = some (inR t.Nodes.length k) := by
  unfold semtyperef7_index inR
  cases decide (0 ≤ k) <;> rfl
theorem lt_true {i n : Nat} (h : i < n) : decide ((i : Int) < (n : Int)) = true := decide_eq_true (by omega)
/-- Fields whose keys ascend and which are fine. -/
theorem fld_all (q : Api_Field → Bool) (l : List Api_Field) : (List.range l.length).all (ixOK (fun a b => cK a.Key_ b.Key_) q l) = (asc cK (l.map (·.Key_)) && l.all q) := by
  rw [ix_all]
  congr 1
  rw [Bool.eq_iff_iff, asc_iff, asc_iff]
  constructor
  · intro h i h1 hi
    have := h i h1 (by simpa using hi)
    simpa using this
  · intro h i h1 hi
    have := h i h1 (by simpa using hi)
    simpa using this
theorem fld_loop {step : Int → Option (Fl Int (Sum Unit Bool))} (q : Api_Field → Bool) (l : List Api_Field)
    (hst : ∀ (i : Nat) (x : Api_Field), l[i]? = some x → step (i : Int) = some (if ixOK (fun a b => cK a.Key_ b.Key_) q l i = true then .next ((i + 1 : Nat) : Int) else .done (.inr false)))
    (hend : step (l.length : Int) = some (.done (.inl ()))) : iter step (l.length + 1) 0 = some (if (asc cK (l.map (·.Key_)) && l.all q) = true then .inl () else .inr false) := by
  have := ix_loop (step := step) (fun a b : Api_Field => cK a.Key_ b.Key_) q l false hst hend
  rw [← ix_all, fld_all] at this
  exact this
theorem ref_node7_ok (t : Api_Type) (x : Api_TypeNode) (hk : x.Kids.length ≤ 4194304) (hf : x.Fields.length ≤ 4194304) : semtyperef7_node t x = some (nodeT t.Nodes.length x) := by
  have l1 : iter (semtyperef7_node_l1 t x) (x.Kids.length + 1) 0 = some (if x.Kids.all (inR t.Nodes.length) = true then .inl () else .inr false) := by
    refine first_ok x.Kids (inR t.Nodes.length) (fun i => (i : Int)) () false ?_ ?_
    · intro i k hx
      have hi : i < x.Kids.length := (List.getElem?_eq_some_iff.1 hx).1
      unfold semtyperef7_node_l1
      rw [lt_true hi, idx_at hx]
      simp only [cond_true, Option.bind_some, index_ok, wr64]
      rw [w64_succ i (by omega)]
      exact flag_ok _ _
    · unfold semtyperef7_node_l1
      simp
  have l2 : iter (semtyperef7_node_l2 t x) (x.Fields.length + 1) 0 = some (if (asc cK (x.Fields.map (·.Key_)) && x.Fields.all fun f => inR t.Nodes.length f.Node && keyOK f.Key_) = true then .inl () else .inr false) := by
    refine fld_loop (fun f => inR t.Nodes.length f.Node && keyOK f.Key_) x.Fields ?_ ?_
    · intro i f hx
      have hi : i < x.Fields.length := (List.getElem?_eq_some_iff.1 hx).1
      unfold semtyperef7_node_l2
      rw [lt_true hi, idx_at hx]
      simp only [cond_true, Option.bind_some, index_ok, ref_key_ok, wr64, bsome]
      have hq : (Option.bind (bif !inR t.Nodes.length f.Node then some true else some (!keyOK f.Key_)) fun q => some q) = some (!(inR t.Nodes.length f.Node && keyOK f.Key_)) := by
        cases inR t.Nodes.length f.Node <;> cases keyOK f.Key_ <;> rfl
      rw [bsome] at hq
      rw [hq]
      simp only [Option.bind_some]
      refine ix_step (fun a b : Api_Field => cK a.Key_ b.Key_) (fun f => inR t.Nodes.length f.Node && keyOK f.Key_) x.Fields i f hx (by omega) (fun h => by rw [h]; rfl) (fun h h0 => by subst h0; rw [h]; rfl) (fun h j y hj hy hiy => ?_)
      subst hj
      rw [h, hiy, posI]
      simp only [Bool.not_true, cond_false, cond_true, Option.bind_some, ref_keys_ok]
      by_cases hc : cK y.Key_ f.Key_ < 0
      · have : ¬ 0 ≤ cK y.Key_ f.Key_ := by omega
        simp [hc, this]
      · have : 0 ≤ cK y.Key_ f.Key_ := by omega
        simp [hc, this]
    · unfold semtyperef7_node_l2
      simp
  unfold semtyperef7_node
  simp only [natLen, bsome, index_ok, rest0_eq, ref_atom_ok, ref_var_ok, len0, empty_len]
  rw [l1, l2]
  unfold nodeT
  cases x.Kids.all (inR t.Nodes.length)
  · rfl
  simp only [Option.bind_some, if_true, onEnd]
  have hF : (asc cK (x.Fields.map (·.Key_)) && x.Fields.all fun f => inR t.Nodes.length f.Node && keyOK f.Key_) = fieldsT t.Nodes.length x.Fields := by
    unfold fieldsT
    congr 1
    rw [Bool.eq_iff_iff, Bool.and_eq_true, List.all_eq_true, List.all_eq_true, List.all_eq_true]
    simp only [Bool.and_eq_true]
    exact ⟨fun h => ⟨fun f hf => (h f hf).2, fun f hf => (h f hf).1⟩, fun h f hf => ⟨h.2 f hf, h.1 f hf⟩⟩
  rw [hF]
  unfold kindT
  simp only [bne]
  generalize fieldsT t.Nodes.length x.Fields = A
  generalize inR t.Nodes.length x.Rest.1 = B
  generalize inR t.Nodes.length x.Rest.2 = C
  generalize rest0 x.Rest = D
  generalize x.Fields.isEmpty = E
  generalize strEq x.Text ⟨#[]⟩ = G
  generalize (x.Lo == 0) = H
  generalize (x.Hi == 0) = J
  generalize x.Kids.isEmpty = M
  generalize atomOK x.Text = O
  generalize varOK x.Text = Q
  generalize decide (x.Lo ≤ x.Hi) = R
  generalize decide ((x.Text.size : Int) ≤ 64) = T
  generalize decide ((x.Kids.length : Int) ≤ 4) = U
  generalize ((x.Kids.length : Int) == 2) = V
  generalize ((x.Kids.length : Int) == 1) = W
  generalize decide (1 ≤ (x.Kids.length : Int)) = X
  generalize decide ((x.Kids.length : Int) ≤ 5) = Y
  by_cases hk : x.Kind = 1 ∨ x.Kind = 2 ∨ x.Kind = 3 ∨ x.Kind = 4 ∨ x.Kind = 5 ∨ x.Kind = 6 ∨ x.Kind = 7 ∨ x.Kind = 8 ∨ x.Kind = 9 ∨ x.Kind = 10 ∨ x.Kind = 11 ∨ x.Kind = 12 ∨ x.Kind = 13 ∨ x.Kind = 14 ∨ x.Kind = 15 ∨ x.Kind = 16 ∨ x.Kind = 17 ∨ x.Kind = 18 ∨ x.Kind = 19
  · rcases hk with h | h | h | h | h | h | h | h | h | h | h | h | h | h | h | h | h | h | h <;> rw [h] <;> cases G <;> cases H <;> cases J <;> cases E <;> cases D <;> simp
    all_goals first
      | rfl
      | (cases M <;> rfl)
      | (cases X <;> rfl)
      | (cases A <;> cases M <;> cases B <;> rfl)
  · simp only [not_or] at hk
    obtain ⟨h1, h2, h3, h4, h5, h6, h7, h8, h9, h10, h11, h12, h13, h14, h15, h16, h17, h18, h19⟩ := hk
    have e : ∀ {n : Int}, ¬ x.Kind = n → (x.Kind == n) = false := fun h => by simpa using h
    simp only [e h1, e h2, e h3, e h4, e h5, e h6, e h7, e h8, e h9, e h10, e h11, e h12, e h13, e h14, e h15, e h16, e h17, e h18, e h19, if_neg h3, if_neg h4, if_neg h6, if_neg h19, if_neg h10, if_neg h12, if_neg h14, if_neg h18, if_neg h13, h1, h2, h5, h7, h8, h9, h11, h15, h16, h17, or_self, if_false]
    cases G <;> cases H <;> cases J <;> cases E <;> cases D <;> rfl
end Go.Pl
namespace Go.Pl
open Go Go.RowKit Go.Sx Go.Qx

theorem kind_cases (k : Int) : (k = 1 ∨ k = 2 ∨ k = 3 ∨ k = 4 ∨ k = 5 ∨ k = 6 ∨ k = 7 ∨ k = 8 ∨ k = 9 ∨ k = 10 ∨ k = 11 ∨ k = 12 ∨ k = 13 ∨ k = 14 ∨ k = 15 ∨ k = 16 ∨ k = 17 ∨ k = 18 ∨ k = 19) ∨ ∀ n : Int, 1 ≤ n → n ≤ 19 → (k == n) = false := by
  by_cases h : 1 ≤ k ∧ k ≤ 19
  · left; omega
  · right
    intro n h1 h2
    have : k ≠ n := by omega
    simpa using this
end Go.Pl
namespace Go.Pl
open Go Go.RowKit Go.Sx Go.Qx

def isB (x : Api_TypeNode) : Bool := x.Kind == 16 || x.Kind == 17 || x.Kind == 18
def OrdT (ns : List Api_TypeNode) : Prop := ∀ (i : Nat) (x : Api_TypeNode), ns[i]? = some x → isB x = true → ∀ k ∈ x.Kids, (i : Int) < k
def allT (ns : List Api_TypeNode) : Bool := ns.all (nodeT ns.length)
theorem isB7_ok (x : Api_TypeNode) : semtyperef7_boolean x = some (isB x) := by
  unfold semtyperef7_boolean isB
  cases (x.Kind == 16) <;> cases (x.Kind == 17) <;> rfl
theorem nodeT_kids {N : Nat} {x : Api_TypeNode} (h : nodeT N x = true) : ∀ k ∈ x.Kids, inR N k = true := by
  unfold nodeT at h
  simp only [Bool.and_eq_true] at h
  exact List.all_eq_true.1 h.1
theorem inR_nat {N : Nat} {k : Int} (h : inR N k = true) : ∃ j : Nat, k = (j : Int) ∧ j < N := by
  unfold inR at h
  simp only [Bool.and_eq_true, decide_eq_true_eq] at h
  exact ⟨k.toNat, by omega, by omega⟩
end Go.Pl
namespace Go.Pl
open Go Go.RowKit Go.Sx Go.Qx

theorem in_loop (t : Api_Type) (D : List Bool) (i fuel : Nat) (x : Api_TypeNode) (hx : t.Nodes[i]? = some x) (hD : D.length = t.Nodes.length) (hT : allT t.Nodes = true) (hk : x.Kids.length ≤ 1000000) (hf : x.Kids.length + 1 ≤ fuel) :
    ∃ A, iter (semtyperef7_WellFormed_l2 t (D, (i : Int))) fuel (D, true, 0) = some (D, A) ∧ ((isB x = true → ∀ k ∈ x.Kids, D[k.toNat]? = some true) → A = true) := by
  have hxm : x ∈ t.Nodes := List.mem_of_getElem? hx
  have hkr := nodeT_kids (List.all_eq_true.1 hT x hxm)
  have hix := idx_at hx
  cases hb : isB x with
  | false =>
    obtain ⟨k, rfl⟩ : ∃ m, fuel = m + 1 := ⟨fuel - 1, by omega⟩
    have : semtyperef7_WellFormed_l2 t (D, (i : Int)) (D, true, 0) = some (.done (D, true)) := by
      unfold semtyperef7_WellFormed_l2
      simp only [hix, Option.bind_some, isB7_ok, hb]
      rfl
    exact ⟨true, by simp only [iter, this, Option.bind_some], fun _ => rfl⟩
  | true =>
    have key : ∀ (m a k : Nat) (A : Bool), a + m = x.Kids.length → m + 1 ≤ k →
        ∃ A', iter (semtyperef7_WellFormed_l2 t (D, (i : Int))) k (D, A, (a : Int)) = some (D, A') ∧ (A = true → (∀ k ∈ x.Kids, D[k.toNat]? = some true) → A' = true) := by
      intro m
      induction m with
      | zero =>
        intro a k A b1 b2
        obtain ⟨k, rfl⟩ : ∃ m, k = m + 1 := ⟨k - 1, by omega⟩
        have e : a = x.Kids.length := by omega
        subst e
        have : semtyperef7_WellFormed_l2 t (D, (i : Int)) (D, A, (x.Kids.length : Int)) = some (.done (D, A)) := by
          unfold semtyperef7_WellFormed_l2
          simp only [hix, Option.bind_some, isB7_ok, hb, cond_true]
          simp
        exact ⟨A, by simp only [iter, this, Option.bind_some], fun h _ => h⟩
      | succ m ih =>
        intro a k A b1 b2
        obtain ⟨k, rfl⟩ : ∃ m, k = m + 1 := ⟨k - 1, by omega⟩
        have ha : a < x.Kids.length := by omega
        have hka := List.getElem?_eq_getElem ha
        have hkm := List.getElem_mem ha
        obtain ⟨j, hj, hj2⟩ := inR_nat (hkr _ hkm)
        have hDj := List.getElem?_eq_getElem (show j < D.length by omega)
        obtain ⟨A', c1, c2⟩ := ih (a + 1) k (bif A then D[j] else false) (by omega) (by omega)
        have : semtyperef7_WellFormed_l2 t (D, (i : Int)) (D, A, (a : Int)) = some (.next (D, (bif A then D[j] else false), ((a + 1 : Nat) : Int))) := by
          unfold semtyperef7_WellFormed_l2
          simp only [hix, Option.bind_some, isB7_ok, hb, cond_true, lt_true ha, idx_at hka, hj, idx_at hDj, Int.toNat_natCast, hDj, wr64]
          rw [w64_succ a (by omega)]
          cases A <;> rfl
        simp only [iter, this, Option.bind_some]
        refine ⟨A', c1, fun hA hall => c2 ?_ hall⟩
        have hq := hall _ hkm
        rw [hj, Int.toNat_natCast, hDj] at hq
        subst hA
        simpa using hq
    obtain ⟨A, c1, c2⟩ := key x.Kids.length 0 fuel true (by omega) hf
    exact ⟨A, c1, fun h => c2 rfl (h rfl)⟩
theorem round_ok (t : Api_Type) (hT : allT t.Nodes = true) (hO : OrdT t.Nodes) (hk : ∀ x ∈ t.Nodes, x.Kids.length ≤ 1000000) (hN : t.Nodes.length ≤ 1000000) (fuel : Nat) (hf : 1000001 ≤ fuel) (r : Nat) :
    ∀ (m a k : Nat) (D : List Bool), a + m = t.Nodes.length → m + 1 ≤ k → D.length = t.Nodes.length → (∀ j, j < t.Nodes.length → t.Nodes.length ≤ j + r → D[j]? = some true) → (∀ j, j < a → t.Nodes.length ≤ j + (r + 1) → D[j]? = some true) →
      ∃ D', iter (semtyperef7_WellFormed_l3 t fuel) k (D, (a : Int)) = some D' ∧ D'.length = t.Nodes.length ∧ ∀ j, j < t.Nodes.length → t.Nodes.length ≤ j + (r + 1) → D'[j]? = some true := by
  intro m
  induction m with
  | zero =>
    intro a k D b1 b2 b3 b4 b5
    obtain ⟨k, rfl⟩ : ∃ m, k = m + 1 := ⟨k - 1, by omega⟩
    have e : a = t.Nodes.length := by omega
    subst e
    have : semtyperef7_WellFormed_l3 t fuel (D, (t.Nodes.length : Int)) = some (.done D) := by
      unfold semtyperef7_WellFormed_l3
      simp
    exact ⟨D, by simp only [iter, this, Option.bind_some], b3, fun j hj h => b5 j hj h⟩
  | succ m ih =>
    intro a k D b1 b2 b3 b4 b5
    obtain ⟨k, rfl⟩ : ∃ m, k = m + 1 := ⟨k - 1, by omega⟩
    have ha : a < t.Nodes.length := by omega
    have hn := List.getElem?_eq_getElem ha
    generalize hx : t.Nodes[a] = x at hn
    have hxm : x ∈ t.Nodes := List.mem_of_getElem? hn
    have hkx := hk x hxm
    obtain ⟨A, c1, c2⟩ := in_loop t D a fuel x hn b3 hT hkx (by omega)
    have haD : a < D.length := by omega
    have hDa := List.getElem?_eq_getElem haD
    generalize D[a] = e at hDa
    have step : semtyperef7_WellFormed_l3 t fuel (D, (a : Int)) = some (.next (D.set a (e || A), ((a + 1 : Nat) : Int))) := by
      unfold semtyperef7_WellFormed_l3
      simp only
      rw [lt_true ha, c1]
      simp only [cond_true, Option.bind_some, idx_at hDa, Int.toNat_natCast, hDa, wr64]
      rw [w64_succ a (by omega)]
      cases e <;> rfl
    simp only [iter, step, Option.bind_some]
    have hset : ∀ j, D[j]? = some true → (D.set a (e || A))[j]? = some true := fun j hj => by
      by_cases h : a = j
      · subst h
        rw [List.getElem?_set_self haD]
        rw [hDa] at hj
        cases hj
        rfl
      · rw [List.getElem?_set_ne h]; exact hj
    refine ih (a + 1) k (D.set a (e || A)) (by omega) (by omega) (by simpa using b3) (fun j hj h => hset j (b4 j hj h)) (fun j hj h => ?_)
    by_cases e1 : j = a
    · subst e1
      rw [List.getElem?_set_self haD]
      have hA : A = true := c2 fun hb kk hkk => by
        obtain ⟨q, rfl, hq⟩ := inR_nat (nodeT_kids (List.all_eq_true.1 hT x hxm) kk hkk)
        have := hO j x hn hb _ hkk
        rw [Int.toNat_natCast]
        exact b4 q hq (by omega)
      rw [hA]
      simp
    · exact hset j (b5 j (by omega) h)
theorem wf7_ok (t : Api_Type) (hO : OrdT t.Nodes) (hk : ∀ x ∈ t.Nodes, x.Kids.length ≤ 1000000 ∧ x.Fields.length ≤ 1000000) (hN : t.Nodes.length ≤ 1000000) (fuel : Nat) (hf : 1000001 ≤ fuel) : semtyperef7_WellFormed fuel t = some (if inR t.Nodes.length t.Root && allT t.Nodes then 0 else 1) := by
  have l1 : iter (semtyperef7_WellFormed_l1 t) (t.Nodes.length + 1) 0 = some (if t.Nodes.all (nodeT t.Nodes.length) = true then .inl () else .inr 1) := by
    refine first_ok t.Nodes (nodeT t.Nodes.length) (fun i => (i : Int)) () 1 ?_ ?_
    · intro i x hx
      have hi : i < t.Nodes.length := (List.getElem?_eq_some_iff.1 hx).1
      obtain ⟨hk1, hk2⟩ := hk x (List.mem_of_getElem? hx)
      unfold semtyperef7_WellFormed_l1
      rw [lt_true hi, idx_at hx]
      simp only [cond_true, Option.bind_some, wr64]
      rw [ref_node7_ok t x (by omega) (by omega), w64_succ i (by omega)]
      cases nodeT t.Nodes.length x <;> rfl
    · unfold semtyperef7_WellFormed_l1
      simp
  unfold semtyperef7_WellFormed
  rw [index_ok, natLen, l1]
  simp only [Option.bind_some]
  cases inR t.Nodes.length t.Root
  · rfl
  show _ = some (if allT t.Nodes = true then (0 : Int) else 1)
  cases hA : allT t.Nodes with
  | false =>
    have hA' : t.Nodes.all (nodeT t.Nodes.length) = false := hA
    rw [hA']
    rfl
  | true =>
    have hA' : t.Nodes.all (nodeT t.Nodes.length) = true := hA
    rw [hA']
    simp only [Bool.not_true, cond_false, if_true, Option.bind_some, onEnd]
    have e0 : mkRoom (t.Nodes.length : Int) (t.Nodes.length : Int) 1 = some t.Nodes.length := by
      unfold mkRoom
      have : (decide (0 ≤ (t.Nodes.length : Int)) && decide ((t.Nodes.length : Int) ≤ (t.Nodes.length : Int)) && decide ((t.Nodes.length : Int) * ((1 : Nat) : Int) ≤ 140737488355328)) = true := by
        simp; omega
      rw [this]
      simp
    rw [e0]
    simp only [Option.bind_some]
    have key : ∀ (m r k : Nat) (D : List Bool), r + m = t.Nodes.length → m + 1 ≤ k → D.length = t.Nodes.length → (∀ j, j < t.Nodes.length → t.Nodes.length ≤ j + r → D[j]? = some true) →
        ∃ D', iter (semtyperef7_WellFormed_l4 t fuel) k (D, (r : Int)) = some D' ∧ D'.length = t.Nodes.length ∧ ∀ j, j < t.Nodes.length → D'[j]? = some true := by
      intro m
      induction m with
      | zero =>
        intro r k D b1 b2 b3 b4
        obtain ⟨k, rfl⟩ : ∃ m, k = m + 1 := ⟨k - 1, by omega⟩
        have e : r = t.Nodes.length := by omega
        subst e
        have : semtyperef7_WellFormed_l4 t fuel (D, (t.Nodes.length : Int)) = some (.done D) := by
          unfold semtyperef7_WellFormed_l4
          simp
        exact ⟨D, by simp only [iter, this, Option.bind_some], b3, fun j hj => b4 j hj (by omega)⟩
      | succ m ih =>
        intro r k D b1 b2 b3 b4
        obtain ⟨k, rfl⟩ : ∃ m, k = m + 1 := ⟨k - 1, by omega⟩
        obtain ⟨D', c1, c2, c3⟩ := round_ok t hA hO (fun x hx => (hk x hx).1) hN fuel hf r t.Nodes.length 0 (t.Nodes.length + 1) D (by omega) (Nat.le_refl _) b3 b4 (fun j hj => by omega)
        have c1' : iter (semtyperef7_WellFormed_l3 t fuel) (t.Nodes.length + 1) (D, 0) = some D' := c1
        have step : semtyperef7_WellFormed_l4 t fuel (D, (r : Int)) = some (.next (D', ((r + 1 : Nat) : Int))) := by
          unfold semtyperef7_WellFormed_l4
          simp only
          rw [lt_true (show r < t.Nodes.length by omega), natLen, c1']
          simp only [cond_true, Option.bind_some, wr64]
          rw [w64_succ r (by omega)]
        simp only [iter, step, Option.bind_some]
        exact ih (r + 1) k D' (by omega) (by omega) c2 c3
    obtain ⟨D, c1, c2, c3⟩ := key t.Nodes.length 0 (t.Nodes.length + 1) (List.replicate t.Nodes.length false) (by omega) (Nat.le_refl _) (by simp) (fun j hj h => by omega)
    have c1' : iter (semtyperef7_WellFormed_l4 t fuel) (t.Nodes.length + 1) (List.replicate t.Nodes.length false, 0) = some D := c1
    rw [c1']
    simp only [Option.bind_some]
    have hall : D.all (fun b => b) = true := List.all_eq_true.2 fun b hb => by
      obtain ⟨j, hj, rfl⟩ := List.getElem_of_mem hb
      have := c3 j (by omega)
      rw [List.getElem?_eq_getElem hj] at this
      simpa using this
    have l5 := first_ok (step := semtyperef7_WellFormed_l5) D (fun b => b) (fun i => (D, (i : Int))) D ((3 : Int), D) (fun i x hx => by
      have hi : i < D.length := (List.getElem?_eq_some_iff.1 hx).1
      unfold semtyperef7_WellFormed_l5
      simp only
      rw [lt_true hi, idx_at hx]
      simp only [cond_true, Option.bind_some, Int.toNat_natCast, hx, wr64]
      rw [w64_succ i (by omega)]
      cases x <;> rfl) (by
      unfold semtyperef7_WellFormed_l5
      simp)
    rw [hall] at l5
    have l5' : iter semtyperef7_WellFormed_l5 (D.length + 1) (D, 0) = some (.inl D) := l5
    rw [natLen, l5']
    rfl
end Go.Pl
