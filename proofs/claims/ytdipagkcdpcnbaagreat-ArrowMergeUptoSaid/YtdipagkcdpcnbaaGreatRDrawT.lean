/- Whatever the numbers, the type that is drawn from them is well-formed and small. No program in sight. -/
import Derived.Test.YtdipagkcdpcnbaaGreatRType
namespace Go.Pl
open Go Go.RowKit Go.Sx Go.Qx

/-- Node i of a type with N nodes, as it is drawn. -/
structure GN (N i : Nat) (x : Api_TypeNode) : Prop where
  ok : nodeT N x = true
  ord : isB x = true → ∀ k ∈ x.Kids, (i : Int) < k
  kids : x.Kids.length ≤ 4
  text : x.Text.size ≤ 5
  flds : x.Fields.length ≤ 3
  keys : ∀ f ∈ x.Fields, bulkKey f.Key_ ≤ 8
theorem inR_mono {N M : Nat} (h : N ≤ M) {k : Int} (hk : inR N k = true) : inR M k = true := by
  unfold inR at *
  simp only [Bool.and_eq_true, decide_eq_true_eq] at *
  omega
theorem all_mono {α : Type} {p q : α → Bool} {l : List α} (h : ∀ x, p x = true → q x = true) (k : l.all p = true) : l.all q = true := List.all_eq_true.2 fun x hx => h x (List.all_eq_true.1 k x hx)
theorem nodeT_mono {N M : Nat} (h : N ≤ M) {x : Api_TypeNode} (hx : nodeT N x = true) : nodeT M x = true := by
  unfold nodeT at *
  simp only [Bool.and_eq_true] at *
  refine ⟨all_mono (fun k => inR_mono h) hx.1, hx.2.1, hx.2.2.1, hx.2.2.2.1, ?_⟩
  have hk := hx.2.2.2.2
  unfold kindT at *
  split <;> rename_i h3
  · rwa [if_pos h3] at hk
  rw [if_neg h3] at hk
  split <;> rename_i h4
  · rwa [if_pos h4] at hk
  rw [if_neg h4] at hk
  split <;> rename_i h6
  · rwa [if_pos h6] at hk
  rw [if_neg h6] at hk
  split <;> rename_i h19
  · rwa [if_pos h19] at hk
  rw [if_neg h19] at hk
  split <;> rename_i hs
  · rwa [if_pos hs] at hk
  rw [if_neg hs] at hk
  split <;> rename_i h10
  · rwa [if_pos h10] at hk
  rw [if_neg h10] at hk
  split <;> rename_i h12
  · rwa [if_pos h12] at hk
  rw [if_neg h12] at hk
  split <;> rename_i h14
  · rwa [if_pos h14] at hk
  rw [if_neg h14] at hk
  split <;> rename_i h16
  · rwa [if_pos h16] at hk
  rw [if_neg h16] at hk
  split <;> rename_i h18
  · rwa [if_pos h18] at hk
  rw [if_neg h18] at hk
  split <;> rename_i h13
  · rw [if_pos h13] at hk
    unfold fieldsT at *
    simp only [Bool.and_eq_true] at *
    exact ⟨⟨hk.1.1, hk.1.2.1, all_mono (fun f => inR_mono h) hk.1.2.2⟩, hk.2.1, inR_mono h hk.2.2.1, inR_mono h hk.2.2.2⟩
  · rwa [if_neg h13] at hk
theorem GN.mono {N M i : Nat} {x : Api_TypeNode} (h : GN N i x) (k : N ≤ M) : GN M i x := ⟨nodeT_mono k h.ok, h.ord, h.kids, h.text, h.flds, h.keys⟩
/-- A node with kids only. -/
abbrev kidN (k : Int) (l : List Int) : Api_TypeNode := Api_TypeNode.mk k 0 0 (⟨#[]⟩ : ByteArray) l ([] : List Api_Field) (0, 0)
abbrev txtN (k : Int) (s : ByteArray) : Api_TypeNode := Api_TypeNode.mk k 0 0 s ([] : List Int) ([] : List Api_Field) (0, 0)
theorem gn_kid {N i : Nat} {k : Int} {l : List Int} (hl : l.all (inR N) = true) (h4 : l.length ≤ 4) (hk : kindT N (kidN k l) = true) (ho : k = 16 ∨ k = 17 ∨ k = 18 → ∀ x ∈ l, (i : Int) < x) : GN N i (kidN k l) := by
  refine ⟨?_, fun hb => ho ?_, h4, by show (⟨#[]⟩ : ByteArray).size ≤ 5; decide, by show (0 : Nat) ≤ 3; omega, fun f hf => by cases hf⟩
  · unfold nodeT
    rw [hk]
    simp [hl, noText, rest0]
  · unfold isB at hb
    simp at hb
    omega
theorem gn_txt {N i : Nat} {k : Int} {s : ByteArray} (hs : s.size ≤ 5) (hk : (k = 4) ∨ (k = 6 ∧ atomOK s = true) ∨ (k = 19 ∧ varOK s = true)) : GN N i (txtN k s) := by
  refine ⟨?_, fun hb => ?_, by show (0 : Nat) ≤ 4; omega, hs, by show (0 : Nat) ≤ 3; omega, fun f hf => by cases hf⟩
  · have h64 : (s.size : Int) ≤ 64 := by omega
    rcases hk with rfl | ⟨rfl, h⟩ | ⟨rfl, h⟩
    · simp [nodeT, kindT, rest0, h64]
    · simp [nodeT, kindT, rest0, h]
    · simp [nodeT, kindT, rest0, h]
  · intro x hx; cases hx
section
variable {L : List Int}
/-- A loop that counts up. -/
theorem gen_up {γ σ τ : Type} {step : σ → Option (Fl σ τ)} (pack : γ → Int → Semtypebase_Source → σ) (out : γ → Semtypebase_Source → τ) (Inv : Nat → γ → Prop) (J : Nat)
    (hst : ∀ (j : Nat) (g : γ) (s : Semtypebase_Source), j < J → Inv j g → OS L s → ∃ g' s', step (pack g (j : Int) s) = some (.next (pack g' ((j + 1 : Nat) : Int) s')) ∧ OS L s' ∧ Inv (j + 1) g')
    (hend : ∀ g s, step (pack g (J : Int) s) = some (.done (out g s))) :
    ∀ (n j k : Nat) (g : γ) (s : Semtypebase_Source), j + n = J → n + 1 ≤ k → Inv j g → OS L s → ∃ g' s', iter step k (pack g (j : Int) s) = some (out g' s') ∧ OS L s' ∧ Inv J g' := by
  intro n
  induction n with
  | zero =>
    intro j k g s hJ hk hI hs
    obtain ⟨k, rfl⟩ : ∃ m, k = m + 1 := ⟨k - 1, by omega⟩
    have e : j = J := by omega
    subst e
    exact ⟨g, s, by have := hend g s; simp [iter, this], hs, hI⟩
  | succ n ih =>
    intro j k g s hJ hk hI hs
    obtain ⟨k, rfl⟩ : ∃ m, k = m + 1 := ⟨k - 1, by omega⟩
    obtain ⟨g1, s1, e, hs1, hI1⟩ := hst j g s (by omega) hI hs
    obtain ⟨g2, s2, e2, hs2, hI2⟩ := ih (j + 1) k g1 s1 (by omega) (by omega) hI1 hs1
    refine ⟨g2, s2, ?_, hs2, hI2⟩
    simp only [iter, e, Option.bind_some]
    exact e2
theorem indices_gen (hL : L.length ≤ 4194304) {s : Semtypebase_Source} (h : OS L s) (m i N : Nat) (hm : m ≤ 4) (hi : i < N) (hN : N ≤ 100) :
    ∃ l t, semtypebase_Source_indices s (m : Int) (i : Int) (N : Int) = some (l, t) ∧ OS L t ∧ l.length = m ∧ ∀ k ∈ l, (i : Int) ≤ k ∧ k < (N : Int) := by
  unfold semtypebase_Source_indices
  obtain ⟨g, s', e, hs', h1, h2⟩ := gen_loop (γ := List Int) (L := L) (step := semtypebase_Source_indices_l1 (i : Int) (N : Int)) (fun g j s => (j, g, s)) (fun g s => (g, s)) (fun j g => g.length = j ∧ ∀ k ∈ g, (i : Int) ≤ k ∧ k < (N : Int)) m
    (fun j n g s hj hn hI hs => by
      obtain ⟨x, t, e, ht, a, b⟩ := next_ok hL hs (n := w64 ((N : Int) - (i : Int))) (by rw [w64_id (by omega) (by omega)]; omega) (by rw [w64_id (by omega) (by omega)]; omega)
      rw [w64_id (by omega) (by omega)] at b
      have hw : w64 ((i : Int) + x) = (i : Int) + x := w64_id (by omega) (by omega)
      refine ⟨g ++ [(i : Int) + x], t, ?_, ht, ?_, ?_⟩
      · unfold semtypebase_Source_indices_l1
        simp only [wr64]
        rw [show decide (0 < ((n + 1 : Nat) : Int)) = true from decide_eq_true (by omega), e]
        simp only [cond_true, Option.bind_some, hw]
        rw [room_ok (by simp only [List.length_cons, List.length_nil]; have := hI.1; omega), show w64 (((n + 1 : Nat) : Int) - 1) = (n : Int) by rw [w64_id (by omega) (by omega)]; omega]
        rfl
      · simp [hI.1]
      · intro k hk
        rcases List.mem_append.1 hk with hk | hk
        · exact hI.2 k hk
        · rw [List.mem_singleton.1 hk]; omega) (fun g s => by
      unfold semtypebase_Source_indices_l1
      rfl) m 0 ((m : Int).toNat + 2) [] s (by omega) (by omega) ⟨rfl, fun k hk => by cases hk⟩ h
  rw [e]
  exact ⟨g, s', rfl, hs', by simpa using h1, h2⟩
theorem inR_of {N : Nat} {k : Int} (h0 : 0 ≤ k) (h1 : k < (N : Int)) : inR N k = true := by
  unfold inR
  simp [h0, h1]
theorem all_inR {N i : Nat} {l : List Int} (h : ∀ k ∈ l, (i : Int) ≤ k ∧ k < (N : Int)) : l.all (inR N) = true := List.all_eq_true.2 fun k hk => by
  have := h k hk
  exact inR_of (by omega) this.2
abbrev key0 : Key := Key.mk 0 ⟨#[97]⟩
abbrev key1 : Key := Key.mk 0 ⟨#[98]⟩
abbrev key2 : Key := Key.mk 1 ⟨#[115]⟩
abbrev MapC : Type := Int × Int × Int × ByteArray × (List Int) × (List Api_Field) × Int × Int
abbrev mapC (F : List Api_Field) (a b : Int) : MapC := (13, 0, 0, (⟨#[]⟩ : ByteArray), [], F, a, b)
theorem tmap_step (hL : L.length ≤ 4194304) {s : Semtypebase_Source} (h : OS L s) (N j : Nat) (hN : 1 ≤ N) (hN2 : N ≤ 100) (hj : j < 3) (K : Key) (hK : [key0, key1, key2][j]? = some K) (F : List Api_Field) (hF : F.length ≤ j) (a b : Int) :
    ∃ O t, semtypebase_Source_mapping_l1 (N : Int) ((j : Int), s, mapC F a b) = some (.next (((j + 1 : Nat) : Int), t, mapC (F ++ O) a b)) ∧ OS L t ∧ (O = [] ∨ ∃ n o, O = [Api_Field.mk K n o] ∧ inR N n = true) := by
  obtain ⟨x, t, e, ht, _, _⟩ := next_ok hL h (n := 2) (by omega) (by omega)
  unfold semtypebase_Source_mapping_l1
  simp only [wr64]
  rw [show decide ((j : Int) < 3) = true from decide_eq_true (by omega), e]
  simp only [cond_true, Option.bind_some]
  rw [w64_succ j (by omega)]
  cases hx : x == 1
  · exact ⟨[], t, by simp only [cond_false, Option.bind_some, List.append_nil], ht, .inl rfl⟩
  · simp only [cond_true]
    rw [idx_at hK]
    obtain ⟨n, t2, e2, ht2, n0, n1⟩ := next_ok hL ht (n := (N : Int)) (by omega) (by omega)
    obtain ⟨o, t3, e3, ht3, _, _⟩ := next_ok hL ht2 (n := 2) (by omega) (by omega)
    simp only [Option.bind_some, e2, e3]
    rw [room_ok (by simp only [List.length_cons, List.length_nil]; omega)]
    exact ⟨[Api_Field.mk K n (o == 1)], t3, rfl, ht3, .inr ⟨n, _, rfl, inR_of n0 n1⟩⟩
theorem mapping_gen (hL : L.length ≤ 4194304) {s : Semtypebase_Source} (h : OS L s) (N i : Nat) (hN : 1 ≤ N) (hN2 : N ≤ 100) : ∃ x t, semtypebase_Source_mapping s (N : Int) = some (x, t) ∧ OS L t ∧ GN N i x := by
  obtain ⟨a, t1, e1, ht1, a0, a1⟩ := next_ok hL h (n := (N : Int)) (by omega) (by omega)
  obtain ⟨b, t2, e2, ht2, b0, b1⟩ := next_ok hL ht1 (n := (N : Int)) (by omega) (by omega)
  obtain ⟨O0, t3, e3, ht3, h0⟩ := tmap_step hL ht2 N 0 hN hN2 (by omega) key0 rfl [] (by simp) a b
  have l0 : O0.length ≤ 1 := by rcases h0 with rfl | ⟨n, o, rfl, _⟩ <;> simp
  obtain ⟨O1, t4, e4, ht4, h1⟩ := tmap_step hL ht3 N 1 hN hN2 (by omega) key1 rfl ([] ++ O0) (by simpa using l0) a b
  have l1 : O1.length ≤ 1 := by rcases h1 with rfl | ⟨n, o, rfl, _⟩ <;> simp
  obtain ⟨O2, t5, e5, ht5, h2⟩ := tmap_step hL ht4 N 2 hN hN2 (by omega) key2 rfl (([] ++ O0) ++ O1) (by simp; omega) a b
  have e6 : semtypebase_Source_mapping_l1 (N : Int) (((2 + 1 : Nat) : Int), t5, mapC ((([] ++ O0) ++ O1) ++ O2) a b) = some (.done (t5, mapC ((([] ++ O0) ++ O1) ++ O2) a b)) := rfl
  refine ⟨Api_TypeNode.mk 13 0 0 (⟨#[]⟩ : ByteArray) [] (O0 ++ O1 ++ O2) (a, b), t5, ?_, ht5, ?_⟩
  · unfold semtypebase_Source_mapping
    rw [e1]
    simp only [Option.bind_some]
    rw [e2]
    simp only [Option.bind_some]
    have ei : iter (semtypebase_Source_mapping_l1 (N : Int)) ((3 : Int).toNat + 1) (0, t2, (13, 0, 0, (⟨#[]⟩ : ByteArray), [], [], a, b)) = some (t5, mapC ((([] ++ O0) ++ O1) ++ O2) a b) := by
      show iter (semtypebase_Source_mapping_l1 (N : Int)) (3 + 1) (((0 : Nat) : Int), t2, mapC [] a b) = _
      simp only [iter, e3, e4, e5, e6, Option.bind_some]
    rw [ei]
    rfl
  · refine ⟨?_, fun hb => absurd hb (show ¬ (false = true) by simp), by show (0 : Nat) ≤ 4; omega, by show (⟨#[]⟩ : ByteArray).size ≤ 5; decide, ?_, ?_⟩
    · have ha := inR_of (N := N) a0 a1
      have hb := inR_of (N := N) b0 b1
      have hF : fieldsT N (O0 ++ O1 ++ O2) = true := by
        unfold fieldsT
        rw [Bool.and_eq_true, Bool.and_eq_true]
        refine ⟨?_, ?_, ?_⟩
        · rcases h0 with rfl | ⟨n, o, rfl, _⟩ <;> rcases h1 with rfl | ⟨n', o', rfl, _⟩ <;> rcases h2 with rfl | ⟨n'', o'', rfl, _⟩ <;> kernel_rfl
        · rcases h0 with rfl | ⟨n, o, rfl, _⟩ <;> rcases h1 with rfl | ⟨n', o', rfl, _⟩ <;> rcases h2 with rfl | ⟨n'', o'', rfl, _⟩ <;> kernel_rfl
        · rcases h0 with rfl | ⟨n, o, rfl, q0⟩ <;> rcases h1 with rfl | ⟨n', o', rfl, q1⟩ <;> rcases h2 with rfl | ⟨n'', o'', rfl, q2⟩ <;> simp_all
      unfold nodeT kindT
      simp only [hF, ha, hb, noText]
      simp
    · show (O0 ++ O1 ++ O2).length ≤ 3
      have l2 : O2.length ≤ 1 := by rcases h2 with rfl | ⟨n, o, rfl, _⟩ <;> simp
      simp only [List.length_append]
      omega
    · intro f hf
      have hf : f ∈ O0 ++ O1 ++ O2 := hf
      have one : ∀ {O : List Api_Field} {K : Key}, (O = [] ∨ ∃ n o, O = [Api_Field.mk K n o] ∧ inR N n = true) → f ∈ O → f.Key_ = K := fun hO hm => by
        rcases hO with rfl | ⟨n, o, rfl, _⟩
        · cases hm
        · rw [List.mem_singleton.1 hm]
      rcases List.mem_append.1 hf with hf | hf
      · rcases List.mem_append.1 hf with hf | hf
        · rw [one h0 hf]; decide
        · rw [one h1 hf]; decide
      · rw [one h2 hf]; decide
end
end Go.Pl
namespace Go.Pl
open Go Go.RowKit Go.Sx Go.Qx

theorem gn_nil {N i : Nat} {k : Int} (hk : k = 1 ∨ k = 2 ∨ k = 5 ∨ k = 7 ∨ k = 8 ∨ k = 9 ∨ k = 11 ∨ k = 15) : GN N i (kidN k []) :=
  gn_kid rfl (by simp) (by rcases hk with rfl | rfl | rfl | rfl | rfl | rfl | rfl | rfl <;> rfl) (fun _ x hx => by cases hx)
theorem gn_int {N i : Nat} {lo hi : Int} (h : lo ≤ hi) : GN N i (Api_TypeNode.mk 3 lo hi (⟨#[]⟩ : ByteArray) ([] : List Int) ([] : List Api_Field) (0, 0)) :=
  ⟨by simp [nodeT, kindT, rest0, noText, h], (fun _ x hx => by cases hx), (by show (0 : Nat) ≤ 4; omega), (by show (⟨#[]⟩ : ByteArray).size ≤ 5; decide), (by show (0 : Nat) ≤ 3; omega), (fun f hf => by cases hf)⟩
theorem labs_fine : labs3.all (fun x => varOK x && decide (x.size ≤ 5)) = true := by kernel_rfl
section
variable {L : List Int}
theorem nat_of {x : Int} (h : 0 ≤ x) : ∃ m : Nat, x = (m : Int) := ⟨x.toNat, by omega⟩
theorem node_gen (hL : L.length ≤ 4194304) {s : Semtypebase_Source} (h : OS L s) (N i : Nat) (hi : i < N) (hN2 : N ≤ 100) : ∃ x t, semtypebase_Source_node s (i : Int) (N : Int) = some (x, t) ∧ OS L t ∧ GN N i x := by
  have hw : w64 ((N : Int) - 1) = (N : Int) - 1 := w64_id (by omega) (by omega)
  have hwi := w64_succ i (by omega)
  obtain ⟨b, hb, hlast, hb18⟩ : ∃ b : Int, (bif ((i : Int) == (wr .i64 ((N : Int) - 1))) then (some 14 : Option Int) else some 18) = some b ∧ (14 < b → i + 1 < N) ∧ (b = 14 ∨ b = 18) := by
    by_cases e : i + 1 = N
    · refine ⟨14, ?_, fun h => by omega, .inl rfl⟩
      have : ((i : Int) == (N : Int) - 1) = true := by simp; omega
      simp only [wr64, hw, this, cond_true]
    · refine ⟨18, ?_, fun _ => by omega, .inr rfl⟩
      have : ((i : Int) == (N : Int) - 1) = false := by simp; omega
      simp only [wr64, hw, this, cond_false]
  unfold semtypebase_Source_node
  rw [hb]
  simp only [Option.bind_some]
  obtain ⟨c, t, e, ht, c0, c1⟩ := next_ok hL h (n := b) (by omega) (by omega)
  rw [e]
  simp only [Option.bind_some]
  have ix : ∀ {s : Semtypebase_Source}, OS L s → ∀ (m f : Nat), m ≤ 4 → f < N → ∃ l t, semtypebase_Source_indices s (m : Int) (f : Int) (N : Int) = some (l, t) ∧ OS L t ∧ l.length = m ∧ ∀ k ∈ l, (f : Int) ≤ k ∧ k < (N : Int) := fun hs m f hm hf => indices_gen hL hs m f N hm hf hN2
  have hc : c = 0 ∨ c = 1 ∨ c = 2 ∨ c = 3 ∨ c = 4 ∨ c = 5 ∨ c = 6 ∨ c = 7 ∨ c = 8 ∨ c = 9 ∨ c = 10 ∨ c = 11 ∨ c = 12 ∨ c = 13 ∨ c = 14 ∨ c = 15 ∨ c = 16 ∨ c = 17 := by omega
  have tup : ∀ {s : Semtypebase_Source}, OS L s → ∃ x t, (Option.bind (semtypebase_Source_Next s 3) fun r19 => Option.bind (semtypebase_Source_indices r19.2 r19.1 0 (N : Int)) fun r20 => some (kidN 10 r20.1, r20.2)) = some (x, t) ∧ OS L t ∧ GN N i x := fun hs => by
    obtain ⟨m, t2, e2, ht2, m0, m1⟩ := next_ok hL hs (n := 3) (by omega) (by omega)
    obtain ⟨m, rfl⟩ := nat_of m0
    obtain ⟨l, t3, e3, ht3, hl, hr⟩ := ix ht2 m 0 (by omega) (by omega)
    rw [e2]
    simp only [Option.bind_some]
    have e3' : semtypebase_Source_indices t2 (m : Int) 0 (N : Int) = some (l, t3) := e3
    rw [e3']
    refine ⟨_, t3, rfl, ht3, gn_kid (l := l) (all_inR hr) (show l.length ≤ 4 by omega) ?_ (fun h => by omega)⟩
    show decide ((l.length : Int) ≤ 4) = true
    exact decide_eq_true (by omega)
  have fun_ : ∀ {s : Semtypebase_Source}, OS L s → ∃ x t, (Option.bind (semtypebase_Source_Next s 3) fun r24 => Option.bind (semtypebase_Source_indices r24.2 (w64 (1 + r24.1)) 0 (N : Int)) fun r25 => some (kidN 14 r25.1, r25.2)) = some (x, t) ∧ OS L t ∧ GN N i x := fun hs => by
    obtain ⟨m, t2, e2, ht2, m0, m1⟩ := next_ok hL hs (n := 3) (by omega) (by omega)
    obtain ⟨m, rfl⟩ := nat_of m0
    obtain ⟨l, t3, e3, ht3, hl, hr⟩ := ix ht2 (m + 1) 0 (by omega) (by omega)
    rw [e2]
    simp only [Option.bind_some]
    have e3' : semtypebase_Source_indices t2 (w64 (1 + (m : Int))) 0 (N : Int) = some (l, t3) := by
      rw [w64_id (by omega) (by omega), show 1 + (m : Int) = ((m + 1 : Nat) : Int) by omega]
      exact e3
    rw [e3']
    refine ⟨_, t3, rfl, ht3, gn_kid (l := l) (all_inR hr) (show l.length ≤ 4 by omega) ?_ (fun h => by omega)⟩
    show (decide (1 ≤ (l.length : Int)) && decide ((l.length : Int) ≤ 5)) = true
    rw [Bool.and_eq_true]
    exact ⟨decide_eq_true (by omega), decide_eq_true (by omega)⟩
  have uni : i + 1 < N → ∀ {s : Semtypebase_Source}, OS L s → ∃ x t, (Option.bind (semtypebase_Source_Next s 2) fun r28 => Option.bind (semtypebase_Source_indices r28.2 (w64 (2 + r28.1)) (w64 ((i : Int) + 1)) (N : Int)) fun r29 => some (kidN 16 r29.1, r29.2)) = some (x, t) ∧ OS L t ∧ GN N i x := fun hlt s hs => by
    obtain ⟨m, t2, e2, ht2, m0, m1⟩ := next_ok hL hs (n := 2) (by omega) (by omega)
    obtain ⟨m, rfl⟩ := nat_of m0
    obtain ⟨l, t3, e3, ht3, hl, hr⟩ := ix ht2 (m + 2) (i + 1) (by omega) hlt
    rw [e2]
    simp only [Option.bind_some]
    have e3' : semtypebase_Source_indices t2 (w64 (2 + (m : Int))) (w64 ((i : Int) + 1)) (N : Int) = some (l, t3) := by
      rw [w64_id (x := 2 + (m : Int)) (by omega) (by omega), hwi, show 2 + (m : Int) = ((m + 2 : Nat) : Int) by omega]
      exact e3
    rw [e3']
    refine ⟨_, t3, rfl, ht3, gn_kid (l := l) (all_inR hr) (show l.length ≤ 4 by omega) ?_ (fun _ x hx => by have := hr x hx; omega)⟩
    show decide (1 ≤ (l.length : Int)) = true
    exact decide_eq_true (by omega)
  rcases hc with rfl | rfl | rfl | rfl | rfl | rfl | rfl | rfl | rfl | rfl | rfl | rfl | rfl | rfl | rfl | rfl | rfl | rfl <;> simp only [Int.reduceBEq, cond_true, cond_false, Option.bind_some, wr64]
  · obtain ⟨a, t2, e2, ht2, a0, a1⟩ := next_ok hL ht (n := 5) (by omega) (by omega)
    obtain ⟨d, t3, e3, ht3, d0, d1⟩ := next_ok hL ht2 (n := w64 (5 - a)) (by rw [w64_id (by omega) (by omega)]; omega) (by rw [w64_id (by omega) (by omega)]; omega)
    rw [w64_id (x := 5 - a) (by omega) (by omega)] at d1
    rw [e2]
    simp only [Option.bind_some]
    rw [e3]
    simp only [Option.bind_some]
    rw [w64_id (x := a + d) (by omega) (by omega)]
    have ha : a = 0 ∨ a = 1 ∨ a = 2 ∨ a = 3 ∨ a = 4 := by omega
    have hd : d = 0 ∨ d = 1 ∨ d = 2 ∨ d = 3 ∨ d = 4 := by omega
    rcases ha with rfl | rfl | rfl | rfl | rfl <;> rcases hd with rfl | rfl | rfl | rfl | rfl <;> first | (exfalso; omega) | exact ⟨_, t3, rfl, ht3, gn_int (by decide)⟩
  · obtain ⟨x, t2, e2, ht2, hx⟩ := atomName_ok hL ht
    have hf := List.all_eq_true.1 atoms_fine x hx
    simp only [Bool.and_eq_true, decide_eq_true_eq] at hf
    rw [e2]
    exact ⟨_, t2, rfl, ht2, gn_txt hf.2 (.inr (.inl ⟨rfl, hf.1⟩))⟩
  · exact ⟨_, t, rfl, ht, gn_nil (by omega)⟩
  · obtain ⟨x, t2, e2, ht2, hx⟩ := word_ok hL ht
    have hf := List.all_eq_true.1 words_fine x hx
    simp only [decide_eq_true_eq] at hf
    rw [e2]
    exact ⟨_, t2, rfl, ht2, gn_txt hf (.inl rfl)⟩
  · obtain ⟨a, t2, e2, ht2, a0, a1⟩ := next_ok hL ht (n := 4) (by omega) (by omega)
    rw [e2]
    have ha : a = 0 ∨ a = 1 ∨ a = 2 ∨ a = 3 := by omega
    rcases ha with rfl | rfl | rfl | rfl <;> exact ⟨_, t2, rfl, ht2, gn_nil (by omega)⟩
  · exact ⟨_, t, rfl, ht, gn_nil (by omega)⟩
  · obtain ⟨a, t2, e2, ht2, a0, a1⟩ := next_ok hL ht (n := 2) (by omega) (by omega)
    rw [e2]
    have ha : a = 0 ∨ a = 1 := by omega
    rcases ha with rfl | rfl <;> exact ⟨_, t2, rfl, ht2, gn_nil (by omega)⟩
  · obtain ⟨x, t2, e2, ht2, hx⟩ := label_ok hL ht
    have hf := List.all_eq_true.1 labs_fine x hx
    simp only [Bool.and_eq_true, decide_eq_true_eq] at hf
    rw [e2]
    exact ⟨_, t2, rfl, ht2, gn_txt hf.2 (.inr (.inr ⟨rfl, hf.1⟩))⟩
  · exact tup ht
  · exact tup ht
  · obtain ⟨l, t3, e3, ht3, hl, hr⟩ := ix ht 2 0 (by omega) (by omega)
    have e3' : semtypebase_Source_indices t 2 0 (N : Int) = some (l, t3) := e3
    rw [e3']
    refine ⟨_, t3, rfl, ht3, gn_kid (l := l) (all_inR hr) (show l.length ≤ 4 by omega) ?_ (fun h => by omega)⟩
    show ((l.length : Int) == 2) = true
    simp [hl]
  · obtain ⟨x, t2, e2, ht2, hg⟩ := mapping_gen hL ht N i (by omega) hN2
    rw [e2]
    exact ⟨x, t2, rfl, ht2, hg⟩
  · exact fun_ ht
  · exact fun_ ht
  · have hlt := hlast (by omega)
    obtain ⟨l, t3, e3, ht3, hl, hr⟩ := ix ht 1 (i + 1) (by omega) hlt
    have e3' : semtypebase_Source_indices t 1 (w64 ((i : Int) + 1)) (N : Int) = some (l, t3) := by rw [hwi]; exact e3
    rw [e3']
    refine ⟨_, t3, rfl, ht3, gn_kid (l := l) (all_inR hr) (show l.length ≤ 4 by omega) ?_ (fun _ x hx => by have := hr x hx; omega)⟩
    show ((l.length : Int) == 1) = true
    simp [hl]
  · have hlt := hlast (by omega)
    obtain ⟨l, t3, e3, ht3, hl, hr⟩ := ix ht 2 (i + 1) (by omega) hlt
    have e3' : semtypebase_Source_indices t 2 (w64 ((i : Int) + 1)) (N : Int) = some (l, t3) := by rw [hwi]; exact e3
    rw [e3']
    refine ⟨_, t3, rfl, ht3, gn_kid (l := l) (all_inR hr) (show l.length ≤ 4 by omega) ?_ (fun _ x hx => by have := hr x hx; omega)⟩
    show decide (1 ≤ (l.length : Int)) = true
    exact decide_eq_true (by omega)
  · exact uni (hlast (by omega)) ht
  · exact uni (hlast (by omega)) ht
/-- Nodes, each as it is drawn. -/
def GNs (N : Nat) (ns : List Api_TypeNode) : Prop := ∀ (i : Nat) (x : Api_TypeNode), ns[i]? = some x → GN N i x
theorem GNs.snoc {N : Nat} {ns : List Api_TypeNode} {x : Api_TypeNode} (h : GNs N ns) (hx : GN N ns.length x) : GNs N (ns ++ [x]) := fun i y hy => by
  by_cases hi : i < ns.length
  · rw [List.getElem?_append_left hi] at hy
    exact h i y hy
  · have hlt := (List.getElem?_eq_some_iff.1 hy).1
    simp only [List.length_append, List.length_cons, List.length_nil] at hlt
    have e : i = ns.length := by omega
    subst e
    simp at hy
    subst hy
    exact hx
theorem type_gen (hL : L.length ≤ 4194304) {s : Semtypebase_Source} (h : OS L s) (N : Nat) (hN : 1 ≤ N) (hN2 : N ≤ 100) : ∃ ns t, semtypebase_Source_Type s (N : Int) = some ((ns, 0), t) ∧ OS L t ∧ ns.length = N ∧ GNs N ns := by
  unfold semtypebase_Source_Type
  have hmax : max (N : Int) 1 = (N : Int) := by omega
  rw [hmax, Int.toNat_natCast]
  obtain ⟨g, s', e, hs', h1, h2⟩ := gen_up (γ := List Api_TypeNode) (L := L) (step := semtypebase_Source_Type_l1 (N : Int)) (fun g j s => (j, s, (g, 0))) (fun g s => (s, (g, 0))) (fun j g => g.length = j ∧ GNs N g) N
    (fun j g s hj hI hs => by
      obtain ⟨x, t, e, ht, hx⟩ := node_gen hL hs N j hj hN2
      refine ⟨g ++ [x], t, ?_, ht, by simp [hI.1], hI.2.snoc (by rw [hI.1]; exact hx)⟩
      unfold semtypebase_Source_Type_l1
      simp only [wr64, hmax]
      rw [lt_true hj, e]
      simp only [cond_true, Option.bind_some]
      rw [room_ok (by simp only [List.length_cons, List.length_nil]; have := hI.1; omega), w64_succ j (by omega)]
      rfl) (fun g s => by
      unfold semtypebase_Source_Type_l1
      simp [hmax]) N 0 (N + 1) [] s (by omega) (Nat.le_refl _) ⟨rfl, fun i x hx => by simp at hx⟩ h
  have e' : iter (semtypebase_Source_Type_l1 (N : Int)) (N + 1) (0, s, ([], 0)) = some (s', (g, 0)) := e
  rw [e']
  exact ⟨g, s', rfl, hs', h1, h2⟩
end
end Go.Pl
