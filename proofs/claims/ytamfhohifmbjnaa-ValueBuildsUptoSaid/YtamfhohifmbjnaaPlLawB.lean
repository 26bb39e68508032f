/- The law of the constructors. No program in sight. -/
import Derived.Test.YtamfhohifmbjnaaPlDraw
namespace Go.Sx
open Go Go.RowKit

theorem if_t {α : Type} {c : Bool} {a b : α} (h : c = true) : (if c = true then a else b) = a := if_pos h
def consV (x t : Val) : Val := Val.mk 7 0 (⟨#[]⟩) [x, t] [] [] []
def nilV : Val := Val.mk 5 0 (⟨#[]⟩) [] [] [] []
def listV (l : List Val) : Val := l.foldr consV nilV
theorem val_eta (v : Val) : Val.mk v.Kind v.Int_ v.Text v.Kids v.Keys v.Entries v.Labels = v := by cases v; rfl
theorem bulk_cons (x t : Val) : bulkV (consV x t) = 8 + bulkV x + bulkV t := by
  rw [consV, bulk_mk]
  simp only [size0, bulkVs, bulkKeys, bulkEs]
  omega
theorem bulk_list : ∀ l : List Val, bulkV (listV l) = 8 + 8 * l.length + bulkVs l
  | [] => by show bulkV nilV = _; rw [nilV, bulk_mk]; rfl
  | x :: r => by
    show bulkV (consV x (listV r)) = _
    rw [bulk_cons, bulk_list r]
    simp only [List.length_cons, bulkVs]
    omega
theorem list_kind (l : List Val) : (listV l).Kind = 5 ∨ (listV l).Kind = 7 := by
  cases l
  · exact .inl rfl
  · exact .inr rfl
theorem vOK_list : ∀ l : List Val, vsOK l = true → vOK (listV l) = true
  | [], _ => vOK_nil
  | x :: r, h => by
    simp only [vsOK, Bool.and_eq_true] at h
    show vOK (consV x (listV r)) = true
    rw [consV, vOK_cons, h.1, vOK_list r h.2]
    rcases list_kind r with hk | hk <;> simp [hk]
theorem clone1 (fuel : Nat) (v : Val) (h : 2 * bulkV v ≤ fuel) (hb : bulkV v ≤ 4194304) : value_clone fuel v = some v := (clone_ok fuel).2.1 v h hb
/-- A loop that goes down a row and makes cells. -/
theorem down_loop {σ : Type} {step : σ → Option (Fl σ σ)} (pack : Nat → Val → σ) (l : List Val)
    (hst : ∀ (n : Nat) (v x : Val), l[n]? = some x → step (pack (n + 1) v) = some (.next (pack n (consV x v)))) (hend : ∀ v, step (pack 0 v) = some (.done (pack 0 v))) :
    ∀ (n k : Nat) (v : Val), n ≤ l.length → n + 1 ≤ k → iter step k (pack n v) = some (pack 0 ((l.take n).foldr consV v)) := by
  intro n
  induction n with
  | zero =>
    intro k v _ hk
    obtain ⟨k, rfl⟩ : ∃ m, k = m + 1 := ⟨k - 1, by omega⟩
    simp [iter, hend]
  | succ n ih =>
    intro k v hn hk
    obtain ⟨k, rfl⟩ : ∃ m, k = m + 1 := ⟨k - 1, by omega⟩
    have hx := List.getElem?_eq_getElem (show n < l.length by omega)
    simp only [iter, hst n v _ hx, Option.bind_some]
    rw [ih k _ (by omega) (by omega), take_next hx, List.foldr_append]
    rfl
theorem w64_pred (n : Nat) (h : n ≤ 4611686018427387904) : w64 (((n + 1 : Nat) : Int) - 1) = (n : Int) := by rw [w64_id (by omega) (by omega)]; omega
theorem val_list_ok (fuel : Nat) (l : List Val) (hl : l.length + 1 ≤ fuel) (hl2 : l.length ≤ 4194304) (hb : ∀ x ∈ l, 2 * bulkV x ≤ fuel ∧ bulkV x ≤ 4194304) : value_List fuel l = some (listV l) := by
  unfold value_List value_Nil
  simp only [Option.bind_some]
  have key := down_loop (step := value_List_l1 fuel l) (fun n v => ((n : Int) - 1, v.Kind, v.Int_, v.Text, v.Kids, v.Keys, v.Entries, v.Labels)) l
    (by
      intro n v x hx
      have hn : n < l.length := (List.getElem?_eq_some_iff.1 hx).1
      have e : (((n + 1 : Nat) : Int)) - 1 = (n : Int) := by omega
      unfold value_List_l1
      simp only [e]
      rw [if_pos (decide_eq_true (by omega)), idx_at hx]
      simp only [Option.bind_some]
      rw [clone1 fuel x (hb x (List.mem_of_getElem? hx)).1 (hb x (List.mem_of_getElem? hx)).2, w64_id (x := (n : Int) - 1) (by omega) (by omega), val_eta]
      rfl)
    (by
      intro v
      unfold value_List_l1
      rw [if_neg (by simp)]) l.length fuel nilV (Nat.le_refl _) hl
  rw [w64_id (x := (l.length : Int) - 1) (by omega) (by omega)]
  have e : iter (value_List_l1 fuel l) fuel ((l.length : Int) - 1, (Val.mk 5 0 (⟨#[]⟩) ([] : List Val) ([] : List Key) ([] : List Ent) ([] : List ByteArray)).Kind, (Val.mk 5 0 (⟨#[]⟩) ([] : List Val) ([] : List Key) ([] : List Ent) ([] : List ByteArray)).Int_, (Val.mk 5 0 (⟨#[]⟩) ([] : List Val) ([] : List Key) ([] : List Ent) ([] : List ByteArray)).Text, (Val.mk 5 0 (⟨#[]⟩) ([] : List Val) ([] : List Key) ([] : List Ent) ([] : List ByteArray)).Kids, (Val.mk 5 0 (⟨#[]⟩) ([] : List Val) ([] : List Key) ([] : List Ent) ([] : List ByteArray)).Keys, (Val.mk 5 0 (⟨#[]⟩) ([] : List Val) ([] : List Key) ([] : List Ent) ([] : List ByteArray)).Entries, (Val.mk 5 0 (⟨#[]⟩) ([] : List Val) ([] : List Key) ([] : List Ent) ([] : List ByteArray)).Labels) = _ := key
  rw [e, List.take_length]
  simp only [Option.bind_some]
  rw [val_eta]
  rfl
theorem ref_list_ok (fuel : Nat) (l : List Val) (hl : l.length + 1 ≤ fuel) (hl2 : l.length ≤ 4194304) : semtyperef1_List fuel l = some (listV l) := by
  unfold semtyperef1_List semtyperef1_Nil
  simp only [Option.bind_some]
  have key := down_loop (step := semtyperef1_List_l1 l) (fun n v => ((n : Int) - 1, v.Kind, v.Int_, v.Text, v.Kids, v.Keys, v.Entries, v.Labels)) l
    (by
      intro n v x hx
      have hn : n < l.length := (List.getElem?_eq_some_iff.1 hx).1
      have e : (((n + 1 : Nat) : Int)) - 1 = (n : Int) := by omega
      unfold semtyperef1_List_l1 semtyperef1_Cons
      simp only [e]
      rw [if_pos (decide_eq_true (by omega)), idx_at hx]
      simp only [Option.bind_some]
      rw [w64_id (x := (n : Int) - 1) (by omega) (by omega), val_eta]
      rfl)
    (by
      intro v
      unfold semtyperef1_List_l1
      rw [if_neg (by simp)]) l.length fuel nilV (Nat.le_refl _) hl
  rw [w64_id (x := (l.length : Int) - 1) (by omega) (by omega)]
  have e : iter (semtyperef1_List_l1 l) fuel ((l.length : Int) - 1, (Val.mk 5 0 (⟨#[]⟩) ([] : List Val) ([] : List Key) ([] : List Ent) ([] : List ByteArray)).Kind, (Val.mk 5 0 (⟨#[]⟩) ([] : List Val) ([] : List Key) ([] : List Ent) ([] : List ByteArray)).Int_, (Val.mk 5 0 (⟨#[]⟩) ([] : List Val) ([] : List Key) ([] : List Ent) ([] : List ByteArray)).Text, (Val.mk 5 0 (⟨#[]⟩) ([] : List Val) ([] : List Key) ([] : List Ent) ([] : List ByteArray)).Kids, (Val.mk 5 0 (⟨#[]⟩) ([] : List Val) ([] : List Key) ([] : List Ent) ([] : List ByteArray)).Keys, (Val.mk 5 0 (⟨#[]⟩) ([] : List Val) ([] : List Key) ([] : List Ent) ([] : List ByteArray)).Entries, (Val.mk 5 0 (⟨#[]⟩) ([] : List Val) ([] : List Key) ([] : List Ent) ([] : List ByteArray)).Labels) = _ := key
  rw [e, List.take_length]
  simp only [Option.bind_some]
  rw [val_eta]
  rfl
theorem elements_ok (fuel : Nat) (l : List Val) (hl : l.length + 1 ≤ fuel) (hl2 : l.length ≤ 1000) (hb : ∀ x ∈ l, 2 * bulkV x ≤ fuel ∧ bulkV x ≤ 4194304) : value_Elements fuel (listV l) = some (l, true) := by
  have key : ∀ (r out : List Val) (k : Nat), out.length + r.length ≤ 1000 → r.length + 1 ≤ k → (∀ x ∈ r, 2 * bulkV x ≤ fuel ∧ bulkV x ≤ 4194304) →
      iter (value_Elements_l1 fuel) k (out, (listV r).Kind, (listV r).Int_, (listV r).Text, (listV r).Kids, (listV r).Keys, (listV r).Entries, (listV r).Labels) = some (out ++ r, nilV.Kind, nilV.Int_, nilV.Text, nilV.Kids, nilV.Keys, nilV.Entries, nilV.Labels) := by
    intro r
    induction r with
    | nil =>
      intro out k _ hk _
      obtain ⟨k, rfl⟩ : ∃ m, k = m + 1 := ⟨k - 1, by omega⟩
      rw [List.append_nil]
      rfl
    | cons x r ih =>
      intro out k h1 hk hb
      obtain ⟨k, rfl⟩ : ∃ m, k = m + 1 := ⟨k - 1, by omega⟩
      simp only [List.length_cons] at h1 hk
      have hs : value_Elements_l1 fuel (out, (listV (x :: r)).Kind, (listV (x :: r)).Int_, (listV (x :: r)).Text, (listV (x :: r)).Kids, (listV (x :: r)).Keys, (listV (x :: r)).Entries, (listV (x :: r)).Labels) =
          some (.next (out ++ [x], (listV r).Kind, (listV r).Int_, (listV r).Text, (listV r).Kids, (listV r).Keys, (listV r).Entries, (listV r).Labels)) := by
        unfold value_Elements_l1
        show (if ((7 : Int) == 7) = true then if ((([x, listV r] : List Val).length : Int) == 2) = true then Option.bind (idx [x, listV r] 0) fun x52 => _ else _ else _) = _
        refine (if_t rfl).trans ((if_t rfl).trans ?_)
        show (Option.bind (value_clone fuel x) fun r71 => _) = _
        rw [clone1 fuel x (hb x (by simp)).1 (hb x (by simp)).2]
        simp only [Option.bind_some]
        rw [room1 _ (by simp; omega) _ (by omega)]
        rfl
      simp only [iter, hs, Option.bind_some]
      rw [ih (out ++ [x]) k (by simp; omega) (by omega) (fun y hy => hb y (by simp [hy])), List.append_assoc]
      rfl
  unfold value_Elements
  rw [key l [] fuel (by simpa using hl2) hl hb]
  rfl
theorem elements_no (fuel : Nat) (hf : 1000 ≤ fuel) (n : Int) (s : ByteArray) : value_Elements fuel (consV (Val.mk 1 n (⟨#[]⟩) [] [] [] []) (Val.mk 2 0 s [] [] [] [])) = some ([], false) := by
  obtain ⟨k, rfl⟩ : ∃ m, fuel = m + 2 := ⟨fuel - 2, by omega⟩
  have hb : bulkV (Val.mk 1 n (⟨#[]⟩) [] [] [] []) = 8 := by rw [bulk_mk]; rfl
  unfold value_Elements
  have e1 : iter (value_Elements_l1 (k + 2)) (k + 2) (([] : List Val), (consV (Val.mk 1 n (⟨#[]⟩) [] [] [] []) (Val.mk 2 0 s [] [] [] [])).Kind, (consV (Val.mk 1 n (⟨#[]⟩) [] [] [] []) (Val.mk 2 0 s [] [] [] [])).Int_, (consV (Val.mk 1 n (⟨#[]⟩) [] [] [] []) (Val.mk 2 0 s [] [] [] [])).Text, (consV (Val.mk 1 n (⟨#[]⟩) [] [] [] []) (Val.mk 2 0 s [] [] [] [])).Kids, (consV (Val.mk 1 n (⟨#[]⟩) [] [] [] []) (Val.mk 2 0 s [] [] [] [])).Keys, (consV (Val.mk 1 n (⟨#[]⟩) [] [] [] []) (Val.mk 2 0 s [] [] [] [])).Entries, (consV (Val.mk 1 n (⟨#[]⟩) [] [] [] []) (Val.mk 2 0 s [] [] [] [])).Labels) =
      some ([Val.mk 1 n (⟨#[]⟩) [] [] [] []], 2, 0, s, [], [], [], []) := by
    have s1 : value_Elements_l1 (k + 2) (([] : List Val), (7 : Int), (0 : Int), (⟨#[]⟩ : ByteArray), [Val.mk 1 n (⟨#[]⟩) [] [] [] [], Val.mk 2 0 s [] [] [] []], ([] : List Key), ([] : List Ent), ([] : List ByteArray)) = some (.next ([Val.mk 1 n (⟨#[]⟩) [] [] [] []], 2, 0, s, [], [], [], [])) := by
      unfold value_Elements_l1
      show (if ((7 : Int) == 7) = true then if ((([Val.mk 1 n (⟨#[]⟩) [] [] [] [], Val.mk 2 0 s [] [] [] []] : List Val).length : Int) == 2) = true then Option.bind (idx [Val.mk 1 n (⟨#[]⟩) [] [] [] [], Val.mk 2 0 s [] [] [] []] 0) fun x52 => _ else _ else _) = _
      refine (if_t rfl).trans ((if_t rfl).trans ?_)
      show (Option.bind (value_clone (k + 2) (Val.mk 1 n (⟨#[]⟩) [] [] [] [])) fun r71 => _) = _
      have hc := clone1 (k + 2) (Val.mk 1 n (⟨#[]⟩) [] [] [] []) (by omega) (by omega)
      rw [hc]
      rfl
    have s2 : value_Elements_l1 (k + 2) ([Val.mk 1 n (⟨#[]⟩) [] [] [] []], (2 : Int), (0 : Int), s, ([] : List Val), ([] : List Key), ([] : List Ent), ([] : List ByteArray)) = some (.done ([Val.mk 1 n (⟨#[]⟩) [] [] [] []], 2, 0, s, [], [], [], [])) := rfl
    show iter (value_Elements_l1 (k + 2)) (k + 2) (([] : List Val), (7 : Int), (0 : Int), (⟨#[]⟩ : ByteArray), [Val.mk 1 n (⟨#[]⟩) [] [] [] [], Val.mk 2 0 s [] [] [] []], ([] : List Key), ([] : List Ent), ([] : List ByteArray)) = _
    simp only [iter, s1, s2, Option.bind_some]
  rw [e1]
  rfl
theorem cL_self : ∀ l : List Val, cL cV l l = 0
  | [] => rfl
  | x :: r => by simp only [cL, cV_self, zero_tn]; exact cL_self r
theorem cN_self (l : List Val) : cN cV l l = 0 := by
  unfold cN
  rw [cL_self, tn_zero]
  simp [cI]
theorem equals_ok (fuel : Nat) (l : List Val) (hf : 2 * bulkVs l + 1 ≤ fuel) (hb : bulkVs l ≤ 4194304) : semtyperef1_EqualValues fuel l l = some true := by
  unfold semtyperef1_EqualValues semtyperef1_values
  rw [(ref_compare_ok fuel).2.1 l l hf hb, cN_self]
  rfl
theorem equal_ok (fuel : Nat) (v : Val) (hf : 2 * bulkV v ≤ fuel) (hb : bulkV v ≤ 4194304) : semtyperef1_Equal fuel v v = some true := by
  unfold semtyperef1_Equal semtyperef1_Compare
  rw [(ref_compare_ok fuel).1 v v hf hb, cV_self]
  rfl
theorem parts_loop (fuel : Nat) (hf : 8388608 ≤ fuel) (aw : semtypelaw4_awake fuel = some true) (a0 : List (List Int)) (ha : a0.length ≤ 4) :
    ∃ o, iter (semtypelaw4_ValueBuilds_l1 fuel a0) (a0.length + 1) (([] : List Val), 0) = some o ∧ (o = .inr true ∨ ∃ l, o = .inl (l, (a0.length : Int)) ∧ l.length = a0.length ∧ vsOK l = true ∧ bulkVs l ≤ l.length * 30000) := by
  have key : ∀ (m i k : Nat) (l : List Val), i + m = a0.length → m + 1 ≤ k → l.length = i → vsOK l = true → bulkVs l ≤ i * 30000 →
      ∃ o, iter (semtypelaw4_ValueBuilds_l1 fuel a0) k (l, (i : Int)) = some o ∧ (o = .inr true ∨ ∃ l, o = .inl (l, (a0.length : Int)) ∧ l.length = a0.length ∧ vsOK l = true ∧ bulkVs l ≤ l.length * 30000) := by
    intro m
    induction m with
    | zero =>
      intro i k l h1 h2 h3 h4 h5
      obtain ⟨k, rfl⟩ : ∃ m, k = m + 1 := ⟨k - 1, by omega⟩
      have e : i = a0.length := by omega
      have hs : semtypelaw4_ValueBuilds_l1 fuel a0 (l, (i : Int)) = some (.done (.inl (l, (i : Int)))) := by
        unfold semtypelaw4_ValueBuilds_l1
        rw [if_neg (by simp; omega)]
      exact ⟨.inl (l, (i : Int)), by simp only [iter, hs, Option.bind_some], .inr ⟨l, by rw [e], by omega, h4, by rw [h3]; exact h5⟩⟩
    | succ m ih =>
      intro i k l h1 h2 h3 h4 h5
      obtain ⟨k, rfl⟩ : ∃ m, k = m + 1 := ⟨k - 1, by omega⟩
      have hlt : i < a0.length := by omega
      have hx := List.getElem?_eq_getElem hlt
      by_cases hlong : 40 < a0[i].length
      · have hs : semtypelaw4_ValueBuilds_l1 fuel a0 (l, (i : Int)) = some (.done (.inr true)) := by
          unfold semtypelaw4_ValueBuilds_l1
          rw [if_pos (decide_eq_true (by show (i : Int) < _; omega)), idx_at hx]
          simp only [Option.bind_some]
          rw [if_pos (decide_eq_true (by omega)), aw]
          rfl
        exact ⟨.inr true, by simp only [iter, hs, Option.bind_some], .inl rfl⟩
      · obtain ⟨v, hv, k1, k2⟩ := drawn_ok fuel (by omega) a0[i] (by omega)
        have hs : semtypelaw4_ValueBuilds_l1 fuel a0 (l, (i : Int)) = some (.next (l ++ [v], ((i + 1 : Nat) : Int))) := by
          unfold semtypelaw4_ValueBuilds_l1
          rw [if_pos (decide_eq_true (by show (i : Int) < _; omega)), idx_at hx]
          simp only [Option.bind_some]
          rw [if_neg (by simp; omega), hv]
          simp only [Option.bind_some]
          rw [room1 _ (by simp; omega) _ (by omega), w64_succ i (by omega)]
          rfl
        obtain ⟨o, ho, hp⟩ := ih (i + 1) k (l ++ [v]) (by omega) (by omega) (by simp [h3]) (by rw [vsOK_app, h4]; simp [vsOK, k1]) (by rw [bulkVs_app]; simp only [bulkVs]; omega)
        exact ⟨o, by simp only [iter, hs, Option.bind_some]; exact ho, hp⟩
  have := key a0.length 0 (a0.length + 1) [] (by omega) (Nat.le_refl _) rfl rfl (by simp [bulkVs])
  exact this
theorem law_builds (fuel : Nat) (hf : 8388608 ≤ fuel) (a0 : List (List Int)) (a1 : Int) (a2 : ByteArray) : semtypelaw4_ValueBuilds fuel a0 a1 a2 = some true := by
  have aw : semtypelaw4_awake fuel = some true := by
    obtain ⟨n, rfl⟩ : ∃ n, fuel = n + 20 := ⟨fuel - 20, by omega⟩
    exact awake_ok n
  unfold semtypelaw4_ValueBuilds
  by_cases h1 : 4 < (a0.length : Int)
  · rw [if_pos (decide_eq_true h1), aw]; rfl
  rw [if_neg (by simpa using h1)]
  by_cases h2 : 64 < (a2.size : Int)
  · rw [if_pos (decide_eq_true h2), aw]; rfl
  rw [if_neg (by simpa using h2)]
  obtain ⟨o, ho, hp⟩ := parts_loop fuel hf aw a0 (by omega)
  rw [ho]
  simp only [Option.bind_some]
  rcases hp with rfl | ⟨l, rfl, hl, hok, hb⟩
  · rfl
  have hl4 : l.length ≤ 4 := by omega
  have hb4 : bulkVs l ≤ 120000 := by omega
  have hmem : ∀ x ∈ l, 2 * bulkV x ≤ fuel ∧ bulkV x ≤ 4194304 := fun x hx => by have := bulkVs_mem hx; omega
  have htb : bulkV (Val.mk 6 0 (⟨#[]⟩) l ([] : List Key) ([] : List Ent) ([] : List ByteArray)) = 8 + bulkVs l := by
    rw [bulk_mk]; simp only [size0, bulkKeys, bulkEs]; omega
  have hlb := bulk_list l
  have ht : value_Tuple fuel l = some (Val.mk 6 0 (⟨#[]⟩) l ([] : List Key) ([] : List Ent) ([] : List ByteArray)) := by
    unfold value_Tuple value_cloneAll
    rw [(clone_ok fuel).1 l (by omega) (by omega)]
    rfl
  have hib : bulkV (Val.mk 1 a1 (⟨#[]⟩) ([] : List Val) ([] : List Key) ([] : List Ent) ([] : List ByteArray)) = 8 := by rw [bulk_mk]; rfl
  have hsb : bulkV (Val.mk 2 0 a2 ([] : List Val) ([] : List Key) ([] : List Ent) ([] : List ByteArray)) = 8 + a2.size := by rw [bulk_mk]; rfl
  have hab : bulkV (Val.mk 3 0 a2 ([] : List Val) ([] : List Key) ([] : List Ent) ([] : List ByteArray)) = 8 + a2.size := by rw [bulk_mk]; rfl
  have hpb : bulkV (Val.mk 4 a1 (⟨#[]⟩) ([] : List Val) ([] : List Key) ([] : List Ent) ([] : List ByteArray)) = 8 := by rw [bulk_mk]; rfl
  have hc : value_Cons fuel (Val.mk 1 a1 (⟨#[]⟩) ([] : List Val) ([] : List Key) ([] : List Ent) ([] : List ByteArray)) (Val.mk 2 0 a2 ([] : List Val) ([] : List Key) ([] : List Ent) ([] : List ByteArray)) = some (consV (Val.mk 1 a1 (⟨#[]⟩) [] [] [] []) (Val.mk 2 0 a2 [] [] [] [])) := by
    unfold value_Cons
    rw [clone1 fuel _ (by omega) (by omega), clone1 fuel _ (by omega) (by omega)]
    rfl
  simp only [onEnd]
  rw [ht, val_list_ok fuel l (by omega) (by omega) hmem]
  simp only [Option.bind_some]
  rw [elements_ok fuel l (by omega) (by omega) hmem]
  unfold value_Int value_String semtyperef1_Int semtyperef1_String value_Atom value_Pid
  simp only [Option.bind_some]
  rw [hc]
  simp only [Option.bind_some]
  rw [elements_no fuel (by omega) a1 a2, validate_ok fuel _ (by rw [htb]; omega) (by rw [htb]; omega), validate_ok fuel (listV l) (by omega) (by omega), vOK_tuple, vOK_list l hok, hok]
  simp only [Option.bind_some]
  rw [show decide (l.length ≤ 4) = true from decide_eq_true hl4, ref_list_ok fuel l (by omega) (by omega), equals_ok fuel l (by omega) (by omega), show (Val.mk 6 0 (⟨#[]⟩) l ([] : List Key) ([] : List Ent) ([] : List ByteArray)).Kids = l from rfl, equals_ok fuel l (by omega) (by omega)]
  simp only [Option.bind_some]
  rw [equal_ok fuel (listV l) (by omega) (by omega), equal_ok fuel (Val.mk 1 a1 _ _ _ _ _) (by omega) (by omega), equal_ok fuel (Val.mk 2 0 a2 _ _ _ _) (by omega) (by omega), validate_ok fuel (Val.mk 3 0 a2 _ _ _ _) (by omega) (by omega), validate_ok fuel (Val.mk 4 a1 _ _ _ _ _) (by omega) (by omega), vOK_atom, vOK_pid, ref_atom_ok, aw]
  cases atomOK a2 <;> cases decide (0 ≤ a1) <;> rfl
end Go.Sx
