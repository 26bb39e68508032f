/- Values drawn along the nodes of a type: they are there, valid and small; types and entries of the laws on functions. No program in sight. -/
import Derived.Test.YtdipagkcdpcnbaaGreatRDrawT
import Derived.Test.YtdipagkcdpcnbaaGreatRLabA
namespace Go.Pl
open Go Go.RowKit Go.Sx Go.Qx

section
variable {L : List Int} {t : Api_Type} {N b : Nat} {h : Nat} {rN : Semtypebase_Source → Api_Type → Int → Int → Option (Val × Semtypebase_Source)}
/-- A way to draw along any node, at one height less. -/
def DrawsAt (L : List Int) (t : Api_Type) (N b h : Nat) (rN : Semtypebase_Source → Api_Type → Int → Int → Option (Val × Semtypebase_Source)) : Prop :=
  ∀ (k : Nat) (s : Semtypebase_Source), k < N → OS L s → ∃ v u, rN s t (k : Int) (h : Int) = some (v, u) ∧ OS L u ∧ vOK v = true ∧ bulkV v ≤ b
theorem kid_at {N : Nat} {x : Api_TypeNode} (hx : nodeT N x = true) {j : Nat} (hj : j < x.Kids.length) : ∃ k : Nat, idx x.Kids (j : Int) = some (k : Int) ∧ x.Kids[j]? = some (k : Int) ∧ k < N := by
  have e := List.getElem?_eq_getElem hj
  obtain ⟨k, hk, hk2⟩ := inR_nat (nodeT_kids hx _ (List.getElem_mem hj))
  rw [hk] at e
  exact ⟨k, idx_at e, e, hk2⟩
theorem near_tuple (hd : DrawsAt L t N b h rN) {x : Api_TypeNode} (hx : nodeT N x = true) (hl : x.Kids.length ≤ 4) (hh : h ≤ 10) {s : Semtypebase_Source} (hs : OS L s) :
    ∃ g u, iter (semtypebase_Source_near_l1 t ((h : Int) + 1) x rN) (x.Kids.length + 1) (0, s, (0, 0, (⟨#[]⟩ : ByteArray), [], [], [], [])) = some (u, (0, 0, (⟨#[]⟩ : ByteArray), g, [], [], [])) ∧ OS L u ∧ g.length = x.Kids.length ∧ bulkVs g ≤ x.Kids.length * b := by
  have hw : w64 ((h : Int) + 1 - 1) = (h : Int) := by rw [w64_id (by omega) (by omega)]; omega
  obtain ⟨g, u, e, hu, h1, h2⟩ := gen_up (γ := List Val) (L := L) (step := semtypebase_Source_near_l1 t ((h : Int) + 1) x rN) (fun g j s => (j, s, (0, 0, (⟨#[]⟩ : ByteArray), g, [], [], []))) (fun g s => (s, (0, 0, (⟨#[]⟩ : ByteArray), g, [], [], []))) (fun j g => g.length = j ∧ bulkVs g ≤ j * b) x.Kids.length
    (fun j g s hj hI hs => by
      obtain ⟨k, e1, _, e2⟩ := kid_at hx hj
      obtain ⟨v, u, e3, hu, _, hb⟩ := hd k s e2 hs
      refine ⟨g ++ [v], u, ?_, hu, by simp [hI.1], by rw [bulkVs_app, Nat.add_mul]; simp only [bulkVs]; have := hI.2; omega⟩
      unfold semtypebase_Source_near_l1
      simp only [wr64, hw]
      rw [lt_true hj, e1]
      simp only [cond_true, Option.bind_some]
      rw [e3]
      simp only [Option.bind_some]
      rw [room_ok (by simp only [List.length_cons, List.length_nil]; have := hI.1; omega), w64_succ j (by omega)]
      rfl) (fun g s => by
      unfold semtypebase_Source_near_l1
      simp) x.Kids.length 0 (x.Kids.length + 1) [] s (by omega) (Nat.le_refl _) ⟨rfl, by simp [bulkVs]⟩ hs
  exact ⟨g, u, e, hu, h1, h2⟩
theorem near_args (hd : DrawsAt L t N b h rN) {x : Api_TypeNode} (hx : nodeT N x = true) (hl : x.Kids.length ≤ 4) (h1l : 1 ≤ x.Kids.length) (hh : h ≤ 10) {s : Semtypebase_Source} (hs : OS L s) :
    ∃ g u, iter (semtypebase_Source_nearFunction_l1 t x ((h : Int) + 1) rN) ((w64 ((x.Kids.length : Int) - 1)).toNat + 1) (0, s, ([], false, 0, 0, (⟨#[]⟩ : ByteArray), [], [], [], [])) = some (u, (g, false, 0, 0, (⟨#[]⟩ : ByteArray), [], [], [], [])) ∧ OS L u ∧ g.length = x.Kids.length - 1 ∧ vsOK g = true ∧ bulkVs g ≤ 3 * b := by
  have hw : w64 ((h : Int) + 1 - 1) = (h : Int) := by rw [w64_id (by omega) (by omega)]; omega
  have hw2 : w64 ((x.Kids.length : Int) - 1) = ((x.Kids.length - 1 : Nat) : Int) := by rw [w64_id (by omega) (by omega)]; omega
  rw [hw2, Int.toNat_natCast]
  obtain ⟨g, u, e, hu, h1, h2, h3⟩ := gen_up (γ := List Val) (L := L) (step := semtypebase_Source_nearFunction_l1 t x ((h : Int) + 1) rN) (fun g j s => (j, s, (g, false, 0, 0, (⟨#[]⟩ : ByteArray), [], [], [], []))) (fun g s => (s, (g, false, 0, 0, (⟨#[]⟩ : ByteArray), [], [], [], []))) (fun j g => g.length = j ∧ vsOK g = true ∧ bulkVs g ≤ j * b) (x.Kids.length - 1)
    (fun j g s hj hI hs => by
      obtain ⟨k, e1, _, e2⟩ := kid_at hx (show j < x.Kids.length by omega)
      obtain ⟨v, u, e3, hu, ho, hb⟩ := hd k s e2 hs
      refine ⟨g ++ [v], u, ?_, hu, by simp [hI.1], by rw [vsOK_app, hI.2.1]; simp [vsOK, ho], by rw [bulkVs_app, Nat.add_mul]; simp only [bulkVs]; have := hI.2.2; omega⟩
      unfold semtypebase_Source_nearFunction_l1
      simp only [wr64, hw, hw2]
      rw [lt_true hj, e1]
      simp only [cond_true, Option.bind_some]
      rw [e3]
      simp only [Option.bind_some]
      rw [room_ok (by simp only [List.length_cons, List.length_nil]; have := hI.1; omega), w64_succ j (by omega)]
      rfl) (fun g s => by
      unfold semtypebase_Source_nearFunction_l1
      simp [wr64, hw2]) (x.Kids.length - 1) 0 (x.Kids.length - 1 + 1) [] s (by omega) (Nat.le_refl _) ⟨rfl, rfl, by simp [bulkVs]⟩ hs
  have e' : iter (semtypebase_Source_nearFunction_l1 t x ((h : Int) + 1) rN) (x.Kids.length - 1 + 1) (0, s, ([], false, 0, 0, (⟨#[]⟩ : ByteArray), [], [], [], [])) = some (u, (g, false, 0, 0, (⟨#[]⟩ : ByteArray), [], [], [], [])) := e
  refine ⟨g, u, e', hu, h1, h2, Nat.le_trans h3 (Nat.mul_le_mul_right _ (by omega))⟩
theorem near_ents (hL : L.length ≤ 4194304) (hd : DrawsAt L t N b h rN) (hb : 8 ≤ b) {x : Api_TypeNode} (hx : nodeT N x = true) (hl : x.Kids.length ≤ 4) (h1l : 1 ≤ x.Kids.length) (hh : h ≤ 10) (m : Nat) (hm : m ≤ 2) {s : Semtypebase_Source} (hs : OS L s) :
    ∃ es u, iter (semtypebase_Source_nearFunction_l2 t x ((h : Int) + 1) rN) ((m : Int).toNat + 2) ([], (m : Int), s) = some (es, u) ∧ OS L u ∧ bulkEs es ≤ m * (4 * b + 3) := by
  have hw : w64 ((h : Int) + 1 - 1) = (h : Int) := by rw [w64_id (by omega) (by omega)]; omega
  have hw2 : w64 ((x.Kids.length : Int) - 1) = ((x.Kids.length - 1 : Nat) : Int) := by rw [w64_id (by omega) (by omega)]; omega
  obtain ⟨g, u, e, hu, h1, h2⟩ := gen_loop (γ := List Ent) (L := L) (step := semtypebase_Source_nearFunction_l2 t x ((h : Int) + 1) rN) (fun g n s => (g, n, s)) (fun g s => (g, s)) (fun j g => g.length = j ∧ bulkEs g ≤ j * (4 * b + 3)) m
    (fun j n g s hj hn hI hs => by
      obtain ⟨ag, u1, e1, hu1, ha1, _, ha2⟩ := near_args hd hx hl h1l hh hs
      obtain ⟨z, u2, e2, hu2, _, _⟩ := next_ok hL hu1 (n := 6) (by omega) (by omega)
      obtain ⟨k, e3, _, e4⟩ := kid_at hx (show x.Kids.length - 1 < x.Kids.length by omega)
      have fin : ∀ (fl : Bool) (v : Val) (u3 : Semtypebase_Source), OS L u3 → bulkV v ≤ b → ∃ g' s', (Option.bind (room (g.length + ([Ent.mk ag fl v] : List Ent).length) 160) fun _ => (some (Fl.next (g ++ ([Ent.mk ag fl v] : List Ent), w64 (((n + 1 : Nat) : Int) - 1), u3)) : Option (Fl (List Ent × Int × Semtypebase_Source) (List Ent × Semtypebase_Source)))) = some (.next (g', (n : Int), s')) ∧ OS L s' ∧ (g'.length = j + 1 ∧ bulkEs g' ≤ (j + 1) * (4 * b + 3)) := fun fl v u3 hu3 hv => by
        rw [room_ok (by simp only [List.length_cons, List.length_nil]; have := hI.1; omega), show w64 (((n + 1 : Nat) : Int) - 1) = (n : Int) by rw [w64_id (by omega) (by omega)]; omega]
        refine ⟨_, u3, rfl, hu3, by simp [hI.1], ?_⟩
        have hbe := bulkE_eq (Ent.mk ag fl v)
        simp only [Ent.Args, Ent.Result] at hbe
        rw [bulkEs_app, Nat.add_mul]
        simp only [bulkEs, hbe]
        have := hI.2
        omega
      unfold semtypebase_Source_nearFunction_l2
      simp only [wr64, hw, hw2]
      rw [show decide (0 < ((n + 1 : Nat) : Int)) = true from decide_eq_true (by omega)]
      rw [hw2] at e1
      rw [e1]
      simp only [cond_true, Option.bind_some]
      rw [e2]
      simp only [Option.bind_some]
      cases hz : z == 1
      · simp only [cond_false]
        obtain ⟨v, u3, e5, hu3, _, hv⟩ := hd k u2 e4 hu2
        rw [e3]
        simp only [Option.bind_some]
        rw [e5]
        simp only [Option.bind_some]
        have := fin false v u3 hu3 hv
        cases v
        exact this
      · simp only [cond_true, Option.bind_some]
        exact fin true zeroV u2 hu2 (by rw [zeroV, bulk_mk]; simp only [size0, bulkVs, bulkKeys, bulkEs]; omega)) (fun g s => by
      unfold semtypebase_Source_nearFunction_l2
      rfl) m 0 ((m : Int).toNat + 2) [] s (by omega) (by omega) ⟨rfl, by simp [bulkEs]⟩ hs
  exact ⟨g, u, e, hu, by simpa using h2⟩
theorem near_fields (hL : L.length ≤ 4194304) (hd : DrawsAt L t N b h rN) {x : Api_TypeNode} (hf : ∀ f ∈ x.Fields, inR N f.Node = true) (hk : ∀ f ∈ x.Fields, bulkKey f.Key_ ≤ 8) (hl : x.Fields.length ≤ 3) (hh : h ≤ 10) {s : Semtypebase_Source} (hs : OS L s) :
    ∃ ks vs u, iter (semtypebase_Source_nearMap_l1 t x ((h : Int) + 1) rN) (x.Fields.length + 1) ([], [], 0, s) = some (ks, vs, u) ∧ OS L u ∧ ks.length ≤ 3 ∧ vs.length ≤ 3 ∧ bulkKeys ks ≤ 24 ∧ bulkVs vs ≤ 3 * b := by
  have hw : w64 ((h : Int) + 1 - 1) = (h : Int) := by rw [w64_id (by omega) (by omega)]; omega
  obtain ⟨g, u, e, hu, h1, h2, h3, h4⟩ := gen_up (γ := List Key × List Val) (L := L) (step := semtypebase_Source_nearMap_l1 t x ((h : Int) + 1) rN) (fun g j s => (g.1, g.2, j, s)) (fun g s => (g.1, g.2, s)) (fun j g => g.1.length ≤ j ∧ g.2.length ≤ j ∧ bulkKeys g.1 ≤ j * 8 ∧ bulkVs g.2 ≤ j * b) x.Fields.length
    (fun j g s hj hI hs => by
      have ex := List.getElem?_eq_getElem hj
      have hm := List.getElem_mem hj
      generalize x.Fields[j] = f at ex hm
      obtain ⟨k, e1, e2⟩ := inR_nat (hf f hm)
      have hkb := hk f hm
      have skip : ∀ u, OS L u → ∃ (g' : List Key × List Val) (s' : Semtypebase_Source), (some (Fl.next (g.1, g.2, w64 ((j : Int) + 1), u)) : Option (Fl (List Key × List Val × Int × Semtypebase_Source) (List Key × List Val × Semtypebase_Source))) = some (.next (g'.1, g'.2, ((j + 1 : Nat) : Int), s')) ∧ OS L s' ∧ (g'.1.length ≤ j + 1 ∧ g'.2.length ≤ j + 1 ∧ bulkKeys g'.1 ≤ (j + 1) * 8 ∧ bulkVs g'.2 ≤ (j + 1) * b) := fun u hu => by
        rw [w64_succ j (by omega)]
        exact ⟨(g.1, g.2), u, rfl, hu, Nat.le_succ_of_le hI.1, Nat.le_succ_of_le hI.2.1, Nat.le_trans hI.2.2.1 (Nat.mul_le_mul_right _ (Nat.le_succ _)), Nat.le_trans hI.2.2.2 (Nat.mul_le_mul_right _ (Nat.le_succ _))⟩
      have take : ∀ u, OS L u → ∃ (g' : List Key × List Val) (s' : Semtypebase_Source), (Option.bind (Option.bind (room (g.1.length + ([f.Key_] : List Key).length) 24) fun _ => Option.bind (rN u t f.Node (h : Int)) fun r8 => Option.bind (room (g.2.length + ([r8.1] : List Val).length) 128) fun _ => some (g.1 ++ ([f.Key_] : List Key), g.2 ++ ([r8.1] : List Val), r8.2)) fun b10 =>
          (some (Fl.next (b10.1, b10.2.1, w64 ((j : Int) + 1), b10.2.2)) : Option (Fl (List Key × List Val × Int × Semtypebase_Source) (List Key × List Val × Semtypebase_Source)))) = some (.next (g'.1, g'.2, ((j + 1 : Nat) : Int), s')) ∧ OS L s' ∧ (g'.1.length ≤ j + 1 ∧ g'.2.length ≤ j + 1 ∧ bulkKeys g'.1 ≤ (j + 1) * 8 ∧ bulkVs g'.2 ≤ (j + 1) * b) := fun u hu => by
        obtain ⟨v, u2, e3, hu2, _, hv⟩ := hd k u e2 hu
        rw [room_ok (by simp only [List.length_cons, List.length_nil]; have := hI.1; omega), e1, e3]
        simp only [Option.bind_some]
        rw [room_ok (by simp only [List.length_cons, List.length_nil]; have := hI.2.1; omega), w64_succ j (by omega)]
        refine ⟨(g.1 ++ [f.Key_], g.2 ++ [v]), u2, rfl, hu2, ?_, ?_, ?_, ?_⟩
        · simp only [List.length_append, List.length_cons, List.length_nil]; have := hI.1; omega
        · simp only [List.length_append, List.length_cons, List.length_nil]; have := hI.2.1; omega
        · rw [bulkKeys_app]; simp only [bulkKeys]; have := hI.2.2.1; omega
        · rw [bulkVs_app, Nat.add_mul]; simp only [bulkVs]; have := hI.2.2.2; omega
      unfold semtypebase_Source_nearMap_l1
      simp only [wr64, hw]
      rw [lt_true hj, idx_at ex]
      simp only [cond_true, Option.bind_some]
      cases hO : f.Optional
      · simp only [cond_false, Option.bind_some]
        exact take s hs
      · simp only [cond_true]
        obtain ⟨z, u, e4, hu, _, _⟩ := next_ok hL hs (n := 2) (by omega) (by omega)
        rw [e4]
        simp only [Option.bind_some]
        cases hz : z == 1
        · simp only [cond_false]
          exact take u hu
        · simp only [cond_true, Option.bind_some]
          exact skip u hu) (fun g s => by
      unfold semtypebase_Source_nearMap_l1
      simp) x.Fields.length 0 (x.Fields.length + 1) ([], []) s (by omega) (Nat.le_refl _) ⟨Nat.le_refl _, Nat.le_refl _, by simp [bulkKeys], by simp [bulkVs]⟩ hs
  refine ⟨g.1, g.2, u, e, hu, by omega, by omega, by omega, Nat.le_trans h4 (Nat.mul_le_mul_right _ hl)⟩
end
end Go.Pl
namespace Go.Pl
open Go Go.RowKit Go.Sx Go.Qx

/-- A type as it is drawn. -/
structure GT (t : Api_Type) : Prop where
  len : t.Nodes.length ≤ 10
  nodes : GNs t.Nodes.length t.Nodes
def DB : Nat → Nat
  | 0 => 300
  | h + 1 => 3300 + 8 * DB h
theorem DB_le {h : Nat} (hh : h ≤ 2) : DB h ≤ 48900 := by
  match h, hh with
  | 0, _ => decide
  | 1, _ => decide
  | 2, _ => decide
theorem DB_pos (h : Nat) : 300 ≤ DB h := by cases h <;> simp [DB]; omega
theorem set_bulk (x : Val) : ∀ (l : List Val) (i : Nat), bulkVs (l.set i x) ≤ bulkVs l + bulkV x
  | [], _ => by simp [bulkVs]
  | y :: r, 0 => by simp only [List.set_cons_zero, bulkVs]; omega
  | y :: r, i + 1 => by have := set_bulk x r i; simp only [List.set_cons_succ, bulkVs]; omega
theorem bulk_lab (k n : Int) (s : ByteArray) (a : List Val) (b : List Key) (c : List Ent) (l m : List ByteArray) (q : Nat) (h : bulkStrs m ≤ bulkStrs l + q) : bulkV (Val.mk k n s a b c m) ≤ bulkV (Val.mk k n s a b c l) + q := by
  simp only [bulkV]; omega
theorem near_labels {t : Api_Type} (hT : GT t) {i : Nat} {x : Api_TypeNode} (hx : t.Nodes[i]? = some x) (v : Val) (hv : bulkV v ≤ 100000) : ∃ w, iter (semtypebase_Source_near_l2 t x) (x.Kids.length + 1) (0, v) = some w ∧ bulkV w ≤ bulkV v + x.Kids.length * 6 := by
  have hg := hT.nodes i x hx
  have key : ∀ (m a k : Nat) (w : Val), a + m = x.Kids.length → m + 1 ≤ k → bulkV w ≤ bulkV v + a * 6 → ∃ w', iter (semtypebase_Source_near_l2 t x) k ((a : Int), w) = some w' ∧ bulkV w' ≤ bulkV v + x.Kids.length * 6 := by
    intro m
    induction m with
    | zero =>
      intro a k w h1 h2 h3
      obtain ⟨k, rfl⟩ : ∃ m, k = m + 1 := ⟨k - 1, by omega⟩
      have e : a = x.Kids.length := by omega
      subst e
      have : semtypebase_Source_near_l2 t x ((x.Kids.length : Int), w) = some (.done w) := by
        unfold semtypebase_Source_near_l2
        simp
      exact ⟨w, by simp only [iter, this, Option.bind_some], h3⟩
    | succ m ih =>
      intro a k w h1 h2 h3
      obtain ⟨k, rfl⟩ : ∃ m, k = m + 1 := ⟨k - 1, by omega⟩
      have ha : a < x.Kids.length := by omega
      have hk4 := hg.kids
      obtain ⟨j, e1, _, hj⟩ := kid_at hg.ok ha
      have e2 := List.getElem?_eq_getElem hj
      generalize t.Nodes[j] = y at e2
      have hy := (hT.nodes j y e2).text
      have step : ∃ w', semtypebase_Source_near_l2 t x ((a : Int), w) = some (.next (((a + 1 : Nat) : Int), w')) ∧ bulkV w' ≤ bulkV w + 6 := by
        unfold semtypebase_Source_near_l2
        simp only [wr64]
        rw [lt_true ha, e1]
        simp only [cond_true, Option.bind_some]
        rw [idx_at e2]
        simp only [Option.bind_some]
        rw [w64_succ a (by omega)]
        cases hc : y.Kind == 19
        · simp only [cond_false, Option.bind_some]
          exact ⟨w, rfl, by omega⟩
        · simp only [cond_true]
          obtain ⟨kk, n, s, kids, keys, ents, labs⟩ := w
          simp only [Val.Labels, Val.Kind, Val.Int_, Val.Text, Val.Kids, Val.Keys, Val.Entries]
          have hlab : labs.length ≤ bulkV (Val.mk kk n s kids keys ents labs) := by
            have := bulkStrs_len labs
            simp only [bulkV]; omega
          rw [room_ok (by omega), room_ok (by simp only [List.length_cons, List.length_nil]; omega)]
          simp only [Option.bind_some]
          rw [sorted_ok (labs ++ [y.Text]) (by simp only [List.length_append, List.length_cons, List.length_nil]; omega)]
          refine ⟨_, rfl, bulk_lab _ _ _ _ _ _ _ _ 6 ?_⟩
          have h4 := foldU_bulk (labs ++ [y.Text]) []
          rw [bulkStrs_app] at h4
          simp only [bulkStrs, bulkStr] at h4
          omega
      obtain ⟨w', e3, h5⟩ := step
      simp only [iter, e3, Option.bind_some]
      exact ih (a + 1) k w' (by omega) (by omega) (by omega)
  exact key x.Kids.length 0 (x.Kids.length + 1) v (by omega) (Nat.le_refl _) (by omega)
theorem mapV_bulk {ks : List Key} {vs : List Val} {u : List Val × List Key} (h : mapIns (ks.zip vs) ([], []) = some u) : bulkV (mapV u) ≤ 8 + bulkKeys ks + bulkVs vs := by
  obtain ⟨_, _, _, _, _, m⟩ := mapIns_keeps (ks.zip vs) ([], []) u h rfl rfl
  have hz := bulkZ_zip ks vs
  simp only [bulkVs, bulkKeys] at m
  simp only [mapV, bulk_mk, size0, bulkEs]
  omega
section
variable {L : List Int} {t : Api_Type}
/-- Maps along a map node. -/
theorem near_map (hL : L.length ≤ 4194304) {b h : Nat} {rN} (hd : DrawsAt L t t.Nodes.length b h rN) (hb : 8 ≤ b) (hb2 : b ≤ 100000) (hh : h ≤ 10) {i : Nat} {x : Api_TypeNode} (hg : GN t.Nodes.length i x) (hk : x.Kind = 13) {s : Semtypebase_Source} (hs : OS L s) (f : Nat) (r1 : Semtypebase_Source → Api_Type → Int → Int → Option (Val × Semtypebase_Source)) (r2 r3 : Semtypebase_Source → Api_Type → Api_TypeNode → Int → Option (Val × Semtypebase_Source)) :
    ∃ v u, semtypebase_Source_nearMap_B f rN r1 r2 r3 s t x ((h : Int) + 1) = some (v, u) ∧ OS L u ∧ bulkV v ≤ 100 + 4 * b := by
  have hw : w64 ((h : Int) + 1 - 1) = (h : Int) := by rw [w64_id (by omega) (by omega)]; omega
  have hn := hg.ok
  unfold nodeT kindT fieldsT at hn
  simp only [hk] at hn
  simp only [Bool.and_eq_true] at hn
  have hn2 := hn.2.2.2.2
  simp at hn2
  obtain ⟨⟨_, _, hfn⟩, _, hr0, hr1⟩ := hn2
  obtain ⟨ks, vs, u, e, hu, l1, l2, b1, b2⟩ := near_fields hL hd hfn hg.keys hg.flds hh hs
  obtain ⟨k0, hk0, hk0'⟩ := inR_nat hr0
  obtain ⟨k1, hk1, hk1'⟩ := inR_nat hr1
  unfold semtypebase_Source_nearMap_B
  rw [natLen, e]
  simp only [Option.bind_some]
  obtain ⟨z, u2, e2, hu2, _, _⟩ := next_ok hL hu (n := 2) (by omega) (by omega)
  rw [e2]
  simp only [Option.bind_some, wr64, hw]
  have fin : ∀ (ks : List Key) (vs : List Val) (u3 : Semtypebase_Source), ks.length ≤ 4 → OS L u3 → bulkKeys ks ≤ 40 → bulkVs vs ≤ 4 * b → ∃ v u, (Option.bind (semtyperef1_Map ks vs) fun r20 => bif r20.2 != 0 then (Option.bind (semtyperef1_Nil) fun r21 => some (r21, u3)) else (some (r20.1, u3))) = some (v, u) ∧ OS L u ∧ bulkV v ≤ 100 + 4 * b := fun ks vs u3 q1 hu3 q2 q3 => by
    rw [ref_map_ok ks vs (by omega)]
    have nilb : bulkV (Val.mk 5 0 (⟨#[]⟩ : ByteArray) ([] : List Val) ([] : List Key) ([] : List Ent) ([] : List ByteArray)) ≤ 100 + 4 * b := by
      rw [bulk_mk]; simp only [size0, bulkVs, bulkKeys, bulkEs]; omega
    by_cases hc : ks.length = vs.length ∧ ks.all keyOK = true
    · rw [if_pos hc]
      cases hm : mapIns (ks.zip vs) ([], []) with
      | none => exact ⟨_, u3, rfl, hu3, nilb⟩
      | some t =>
        have := mapV_bulk hm
        exact ⟨mapV t, u3, rfl, hu3, by omega⟩
    · rw [if_neg hc]
      exact ⟨_, u3, rfl, hu3, nilb⟩
  have other : ∀ (z : Int) (kk : Nat) (u4 : Semtypebase_Source), kk < t.Nodes.length → OS L u4 → ∃ v u, (Option.bind (Option.bind (rN u4 t (kk : Int) (h : Int)) fun r15 => Option.bind (room (vs.length + ([r15.1] : List Val).length) 128) fun _ => some (ks ++ ([Key.mk z (⟨#[111, 116, 104, 101, 114]⟩ : ByteArray)] : List Key), vs ++ ([r15.1] : List Val), r15.2)) fun b19 =>
      Option.bind (semtyperef1_Map b19.1 b19.2.1) fun r20 => bif r20.2 != 0 then (Option.bind (semtyperef1_Nil) fun r21 => some (r21, b19.2.2)) else (some (r20.1, b19.2.2))) = some (v, u) ∧ OS L u ∧ bulkV v ≤ 100 + 4 * b := fun z kk u4 hkk hu4 => by
    obtain ⟨v, u5, e5, hu5, _, hv⟩ := hd kk u4 hkk hu4
    rw [e5]
    simp only [Option.bind_some]
    rw [room_ok (by simp only [List.length_cons, List.length_nil]; omega)]
    simp only [Option.bind_some]
    refine fin _ _ u5 (by simp only [List.length_append, List.length_cons, List.length_nil]; omega) hu5 ?_ ?_
    · rw [bulkKeys_app]
      have : bulkKeys ([Key.mk z (⟨#[111, 116, 104, 101, 114]⟩ : ByteArray)] : List Key) ≤ 10 := by
        simp only [bulkKeys, bulkKey, bulkStr]
        decide
      omega
    · rw [bulkVs_app]; simp only [bulkVs]; omega
  cases hz : z == 1
  · simp only [cond_false, Option.bind_some]
    exact fin ks vs u2 (by omega) hu2 (by omega) (by omega)
  · simp only [cond_true]
    obtain ⟨y, u3, e3, hu3, y0, y1⟩ := next_ok hL hu2 (n := 2) (by omega) (by omega)
    rw [e3]
    simp only [Option.bind_some]
    rw [room_ok (by simp only [List.length_cons, List.length_nil]; omega)]
    simp only [Option.bind_some]
    have hy : y = 0 ∨ y = 1 := by omega
    rcases hy with rfl | rfl
    · simp only [Int.reduceBEq, cond_true]
      rw [hk0]
      exact other 0 k0 u3 hk0' hu3
    · simp only [Int.reduceBEq, cond_true, cond_false]
      rw [hk1]
      exact other 1 k1 u3 hk1' hu3
/-- Functions along a function node. -/
theorem near_fun (hL : L.length ≤ 4194304) {b h : Nat} {rN} (hd : DrawsAt L t t.Nodes.length b h rN) (hb : 8 ≤ b) (hb2 : b ≤ 10000) (hh : h ≤ 10) {i : Nat} {x : Api_TypeNode} (hg : GN t.Nodes.length i x) (hk : x.Kind = 14) {s : Semtypebase_Source} (hs : OS L s) (f : Nat) (hf : 200000 ≤ f) (r1 : Semtypebase_Source → Api_Type → Int → Int → Option (Val × Semtypebase_Source)) (r2 r3 : Semtypebase_Source → Api_Type → Api_TypeNode → Int → Option (Val × Semtypebase_Source)) :
    ∃ v u, semtypebase_Source_nearFunction_B f rN r1 r2 r3 s t x ((h : Int) + 1) = some (v, u) ∧ OS L u ∧ bulkV v ≤ 100 + 8 * b := by
  have hn := hg.ok
  unfold nodeT kindT at hn
  simp only [hk] at hn
  simp only [Bool.and_eq_true] at hn
  have hn2 := hn.2.2.2.2
  simp at hn2
  have hk4 := hg.kids
  have h1l : 1 ≤ x.Kids.length := by omega
  obtain ⟨m, u, e, hu, m0, m1⟩ := next_ok hL hs (n := 3) (by omega) (by omega)
  obtain ⟨m, rfl⟩ := nat_of m0
  obtain ⟨es, u2, e2, hu2, hbe⟩ := near_ents hL hd hb hg.ok hk4 h1l hh m (by omega) hu
  unfold semtypebase_Source_nearFunction_B
  rw [e]
  simp only [Option.bind_some]
  rw [e2]
  simp only [Option.bind_some]
  have hbe2 : bulkEs es ≤ 2 * (4 * b + 3) := Nat.le_trans hbe (Nat.mul_le_mul_right _ (by omega))
  rw [ref_function_ok f _ es (by omega) (by omega)]
  have hfb := fold_insE_bulk es []
  simp only [bulkEs] at hfb
  by_cases hc : 0 ≤ (wr .i64 ((x.Kids.length : Int) - 1)) ∧ (wr .i64 ((x.Kids.length : Int) - 1)) ≤ 4 ∧ es.all (entOK (wr .i64 ((x.Kids.length : Int) - 1))) = true
  · rw [if_pos hc]
    refine ⟨_, u2, rfl, hu2, ?_⟩
    simp only [funV, bulk_mk, size0, bulkVs, bulkKeys]
    omega
  · rw [if_neg hc]
    refine ⟨_, u2, rfl, hu2, ?_⟩
    rw [bulk_mk]; simp only [size0, bulkVs, bulkKeys, bulkEs]; omega
end
end Go.Pl
namespace Go.Pl
open Go Go.RowKit Go.Sx Go.Qx

section
variable {L : List Int} {t : Api_Type}
def NearP (L : List Int) (t : Api_Type) (h : Nat) : Prop := ∀ (k f : Nat) (s : Semtypebase_Source), k < t.Nodes.length → 200000 + 14 * h + (10 - k) ≤ f → OS L s →
  ∃ v u, (scc_semtypebase_Source_Near f).2.1 s t (k : Int) (h : Int) = some (v, u) ∧ OS L u ∧ bulkV v + 24 * k ≤ DB h
theorem near_Q (hL : L.length ≤ 4194304) (hT : GT t) {h : Nat} (hh : h ≤ 2) (hP : NearP L t h) (f : Nat) (hf : 200000 + 14 * h + 11 ≤ f) : DrawsAt L t t.Nodes.length (DB h) h (scc_semtypebase_Source_Near f).1 := by
  intro k s hk hs
  obtain ⟨f, rfl⟩ : ∃ m, f = m + 1 := ⟨f - 1, by omega⟩
  obtain ⟨v, u, e, hu, hb⟩ := hP k f s hk (by omega) hs
  have hD := DB_le hh
  show ∃ v u, semtypebase_Source_Near_B f (scc_semtypebase_Source_Near f).1 (scc_semtypebase_Source_Near f).2.1 (scc_semtypebase_Source_Near f).2.2.1 (scc_semtypebase_Source_Near f).2.2.2 s t (k : Int) (h : Int) = some (v, u) ∧ _
  unfold semtypebase_Source_Near_B
  rw [e]
  simp only [Option.bind_some]
  rw [ref_valid_ok f v (by omega) (by omega)]
  simp only [Option.bind_some]
  cases hv : vOK v
  · obtain ⟨w, u2, e2, hu2, h1, h2⟩ := leaf_ok hL hu
    have := DB_pos h
    simp only [Bool.not_false, cond_true]
    rw [e2]
    exact ⟨w, u2, rfl, hu2, h1, by omega⟩
  · exact ⟨v, u, rfl, hu, hv, by omega⟩
theorem near_0 (hL : L.length ≤ 4194304) (hT : GT t) : NearP L t 0 := by
  intro k f s hk hf hs
  obtain ⟨f, rfl⟩ : ∃ m, f = m + 1 := ⟨f - 1, by omega⟩
  obtain ⟨v, u, e, hu, _, hb⟩ := leaf_ok hL hs
  refine ⟨v, u, ?_, hu, by have := hT.len; simp only [DB]; omega⟩
  show semtypebase_Source_near_B f (scc_semtypebase_Source_Near f).1 (scc_semtypebase_Source_Near f).2.1 (scc_semtypebase_Source_Near f).2.2.1 (scc_semtypebase_Source_Near f).2.2.2 s t (k : Int) ((0 : Nat) : Int) = some (v, u)
  unfold semtypebase_Source_near_B
  have e0 : decide (((0 : Nat) : Int) ≤ 0) = true := rfl
  rw [e0]
  simp only [cond_true, Option.bind_some]
  rw [e]
  rfl
theorem near_succ (hL : L.length ≤ 4194304) (hT : GT t) {h : Nat} (hh : h ≤ 1) (hP : NearP L t h) : NearP L t (h + 1) := by
  have key : ∀ (d k f : Nat) (s : Semtypebase_Source), t.Nodes.length - k ≤ d → k < t.Nodes.length → 200000 + 14 * (h + 1) + (10 - k) ≤ f → OS L s →
      ∃ v u, (scc_semtypebase_Source_Near f).2.1 s t (k : Int) ((h : Int) + 1) = some (v, u) ∧ OS L u ∧ bulkV v + 24 * k ≤ DB (h + 1) := by
    intro d
    induction d with
    | zero => intro k f s h1 h2; omega
    | succ d ih =>
      intro k f s hd hk hf hs
      obtain ⟨f, rfl⟩ : ∃ m, f = m + 1 := ⟨f - 1, by omega⟩
      have hlen := hT.len
      have hD := DB_le (show h ≤ 2 by omega)
      have hDp := DB_pos h
      have ex := List.getElem?_eq_getElem hk
      generalize t.Nodes[k] = x at ex
      have hg := hT.nodes k x ex
      have hn := hg.ok
      have small : ∀ {n : Nat}, n ≤ 3000 + 8 * DB h → n + 24 * k ≤ DB (h + 1) := fun hn => by simp only [DB]; omega
      show ∃ v u, semtypebase_Source_near_B f (scc_semtypebase_Source_Near f).1 (scc_semtypebase_Source_Near f).2.1 (scc_semtypebase_Source_Near f).2.2.1 (scc_semtypebase_Source_Near f).2.2.2 s t (k : Int) ((h : Int) + 1) = some (v, u) ∧ _
      have hQ := near_Q hL hT (show h ≤ 2 by omega) hP f (by omega)
      unfold semtypebase_Source_near_B
      have q0 : decide ((h : Int) + 1 ≤ 0) = false := decide_eq_false (by omega)
      have q1 : decide ((k : Int) < 0) = false := decide_eq_false (by omega)
      have q2 : decide ((t.Nodes.length : Int) ≤ (k : Int)) = false := decide_eq_false (by omega)
      rw [q0, q1, q2, idx_at ex]
      simp only [cond_false, Option.bind_some]
      -- a kid of a union or an intersection
      have kid : ∀ (s : Semtypebase_Source), OS L s → isB x = true → 1 ≤ x.Kids.length → ∃ (z : Int) (u : Semtypebase_Source) (k' : Nat) (v : Val) (u' : Semtypebase_Source), semtypebase_Source_Next s (x.Kids.length : Int) = some (z, u) ∧ idx x.Kids z = some (k' : Int) ∧
          (scc_semtypebase_Source_Near f).2.1 u t (k' : Int) ((h : Int) + 1) = some (v, u') ∧ OS L u' ∧ bulkV v + 24 * (k + 1) ≤ DB (h + 1) := fun s hs hb h1 => by
        have h4 := hg.kids
        obtain ⟨z, u, e, hu, z0, z1⟩ := next_ok hL hs (n := (x.Kids.length : Int)) (by omega) (by omega)
        obtain ⟨z, rfl⟩ := nat_of z0
        obtain ⟨k', e1, e2, hk'⟩ := kid_at hn (show z < x.Kids.length by omega)
        have hlt := hg.ord hb _ (List.mem_of_getElem? e2)
        obtain ⟨v, u', e3, hu', hbv⟩ := ih k' f u (by omega) hk' (by omega) hu
        exact ⟨z, u, k', v, u', e, e1, e3, hu', by omega⟩
      have other : ∃ v u, (Option.bind (semtypebase_Source_Value f s 2) fun r52 => some (r52.1, r52.2)) = some (v, u) ∧ OS L u ∧ bulkV v + 24 * k ≤ DB (h + 1) := by
        obtain ⟨v, u, e, hu, _, hb⟩ := scc_gen hL 1 f (by omega) (by omega) s hs
        have e' : semtypebase_Source_Value f s 2 = some (v, u) := e
        rw [e']
        exact ⟨v, u, rfl, hu, small (by have := hb_le (show 1 ≤ 2 by omega); omega)⟩
      have hKinds := kind_cases x.Kind
      rcases hKinds with hK | hK
      · have kt := hn
        unfold nodeT kindT at kt
        rcases hK with hK | hK | hK | hK | hK | hK | hK | hK | hK | hK | hK | hK | hK | hK | hK | hK | hK | hK | hK <;> simp only [hK] at kt ⊢ <;> simp only [Int.reduceBEq, cond_true, cond_false, Option.bind_some]
        · exact other
        · exact other
        · have qd : ∀ a : Int, qdivK .i64 a 2 = some (wr .i64 (a.tdiv 2)) := fun a => rfl
          rw [qd, qd]
          simp only [Option.bind_some]
          obtain ⟨z, u, e, hu, z0, z1⟩ := next_ok hL hs (n := 3) (by omega) (by omega)
          rw [e]
          simp only [Option.bind_some]
          generalize wr .i64 (x.Lo + (wr .i64 ((wr .i64 (x.Hi.tdiv 2)) - (wr .i64 (x.Lo.tdiv 2))))) = mid
          obtain ⟨y, ey, eg, _⟩ := idx_mem ([x.Lo, x.Hi, mid] : List Int) z0 (by simpa using z1)
          rw [ey, eg]
          refine ⟨_, u, rfl, hu, small ?_⟩
          rw [bulk_mk]; simp only [size0, bulkVs, bulkKeys, bulkEs]; omega
        · refine ⟨_, s, rfl, hs, small ?_⟩
          have := hg.text
          rw [bulk_mk]; simp only [bulkVs, bulkKeys, bulkEs]; omega
        · obtain ⟨w, u, e, hu, hw⟩ := word_ok hL hs
          have hw2 := List.all_eq_true.1 words_fine w hw
          simp only [decide_eq_true_eq] at hw2
          rw [e]
          refine ⟨_, u, rfl, hu, small ?_⟩
          rw [bulk_mk]; simp only [bulkVs, bulkKeys, bulkEs]; omega
        · refine ⟨_, s, rfl, hs, small ?_⟩
          have := hg.text
          rw [bulk_mk]; simp only [bulkVs, bulkKeys, bulkEs]; omega
        · obtain ⟨w, u, e, hu, hw⟩ := atomName_ok hL hs
          have hw2 := List.all_eq_true.1 atoms_fine w hw
          simp only [Bool.and_eq_true, decide_eq_true_eq] at hw2
          rw [e]
          refine ⟨_, u, rfl, hu, small ?_⟩
          rw [bulk_mk]; simp only [bulkVs, bulkKeys, bulkEs]; omega
        · obtain ⟨z, u, e, hu, z0, z1⟩ := next_ok hL hs (n := 2) (by omega) (by omega)
          rw [e]
          refine ⟨_, u, rfl, hu, small ?_⟩
          rw [bulk_mk]; simp only [size0, bulkVs, bulkKeys, bulkEs]; omega
        · refine ⟨_, s, rfl, hs, small ?_⟩
          rw [bulk_mk]; simp only [size0, bulkVs, bulkKeys, bulkEs]; omega
        · obtain ⟨g, u, e, hu, hl, hb⟩ := near_tuple hQ hn hg.kids (by omega) hs
          rw [natLen, e]
          refine ⟨_, u, rfl, hu, small ?_⟩
          have h4 := hg.kids
          have : x.Kids.length * DB h ≤ 4 * DB h := Nat.mul_le_mul_right _ h4
          rw [bulk_mk]; simp only [size0, bulkKeys, bulkEs]; omega
        · exact other
        · obtain ⟨g, u, e, hu, hl, hb⟩ := near_tuple hQ hn hg.kids (by omega) hs
          rw [natLen, e]
          simp only [Option.bind_some]
          have h4 := hg.kids
          have h2 : x.Kids.length = 2 := by
            simp only [Bool.and_eq_true] at kt
            have := kt.2.2.2.2
            simp at this
            omega
          have hgl : 1 < g.length := by omega
          have eg := List.getElem?_eq_getElem hgl
          generalize g[1] = w at eg
          have ei : idx g 1 = some w := idx_at (i := 1) eg
          have e1 : (1 : Int).toNat = 1 := rfl
          rw [ei, e1, eg]
          simp only [Option.bind_some]
          have : x.Kids.length * DB h ≤ 4 * DB h := Nat.mul_le_mul_right _ h4
          cases hw : w.Kind != 7
          · simp only [cond_false, Option.bind_some]
            refine ⟨_, u, rfl, hu, small ?_⟩
            rw [bulk_mk]; simp only [size0, bulkKeys, bulkEs]; omega
          · simp only [cond_true]
            refine ⟨_, u, rfl, hu, small ?_⟩
            have hs := set_bulk (Val.mk 5 0 (⟨#[]⟩ : ByteArray) [] [] [] []) g 1
            rw [bulk_mk] at hs
            simp only [size0, bulkVs, bulkKeys, bulkEs] at hs
            rw [bulk_mk]; simp only [size0, bulkKeys, bulkEs]; omega
        · obtain ⟨f, rfl⟩ : ∃ m, f = m + 1 := ⟨f - 1, by omega⟩
          have hQ2 := near_Q hL hT (show h ≤ 2 by omega) hP f (by omega)
          obtain ⟨v, u, e, hu, hb⟩ := near_map hL hQ2 (by omega) (by omega) (by omega) hg hK hs f (scc_semtypebase_Source_Near f).2.1 (scc_semtypebase_Source_Near f).2.2.1 (scc_semtypebase_Source_Near f).2.2.2
          have e' : (scc_semtypebase_Source_Near (f + 1)).2.2.2 s t x ((h : Int) + 1) = some (v, u) := e
          rw [e']
          exact ⟨v, u, rfl, hu, small (by omega)⟩
        · obtain ⟨f, rfl⟩ : ∃ m, f = m + 1 := ⟨f - 1, by omega⟩
          have hQ2 := near_Q hL hT (show h ≤ 2 by omega) hP f (by omega)
          obtain ⟨v, u, e, hu, hb⟩ := near_fun hL hQ2 (by omega) (by
            match h, hh with
            | 0, _ => decide
            | 1, _ => decide) (by omega) hg hK hs f (by omega) (scc_semtypebase_Source_Near f).2.1 (scc_semtypebase_Source_Near f).2.2.1 (scc_semtypebase_Source_Near f).2.2.2
          have e' : (scc_semtypebase_Source_Near (f + 1)).2.2.1 s t x ((h : Int) + 1) = some (v, u) := e
          rw [e']
          exact ⟨v, u, rfl, hu, small (by omega)⟩
        · exact other
        · have h1 : 1 ≤ x.Kids.length := by
            simp only [Bool.and_eq_true] at kt
            have := kt.2.2.2.2
            simp at this
            omega
          obtain ⟨z, u, k', v, u', e1, e2, e3, hu', hb⟩ := kid s hs (by unfold isB; rw [hK]; rfl) h1
          rw [e1]
          simp only [Option.bind_some]
          rw [e2]
          simp only [Option.bind_some]
          rw [e3]
          exact ⟨v, u', rfl, hu', by omega⟩
        · have h1 : 1 ≤ x.Kids.length := by
            simp only [Bool.and_eq_true] at kt
            have := kt.2.2.2.2
            simp at this
            omega
          obtain ⟨z, u, k', v, u', e1, e2, e3, hu', hb⟩ := kid s hs (by unfold isB; rw [hK]; rfl) h1
          rw [e1]
          simp only [Option.bind_some]
          rw [e2]
          simp only [Option.bind_some]
          rw [e3]
          simp only [Option.bind_some]
          have hD2 := DB_le (show h + 1 ≤ 2 by omega)
          obtain ⟨w, e4, hb4⟩ := near_labels hT ex v (by omega)
          rw [natLen, e4]
          have h4 := hg.kids
          exact ⟨w, u', rfl, hu', by omega⟩
        · exact other
        · obtain ⟨v, u, e, hu, _, hb⟩ := leaf_ok hL hs
          rw [e]
          simp only [Option.bind_some]
          unfold semtyperef1_WithLabels
          rw [sorted_ok [x.Text] (by simp)]
          refine ⟨_, u, rfl, hu, small ?_⟩
          have h5 := hg.text
          have h6 := foldU_bulk [x.Text] []
          simp only [bulkStrs, bulkStr] at h6
          have h7 := bulk_relabel v (List.foldl (insU cS) [] [x.Text])
          unfold relabel at h7
          show bulkV (Val.mk v.Kind v.Int_ v.Text v.Kids v.Keys v.Entries (List.foldl (insU cS) [] [x.Text])) ≤ _
          omega
      · have e : ∀ n : Int, 1 ≤ n → n ≤ 19 → ¬ x.Kind = n := fun n h1 h2 => by simpa using hK n h1 h2
        unfold nodeT kindT at hn
        rw [if_neg (e 3 (by omega) (by omega)), if_neg (e 4 (by omega) (by omega)), if_neg (e 6 (by omega) (by omega)), if_neg (e 19 (by omega) (by omega)), if_neg (by have := e 1 (by omega) (by omega); have := e 2 (by omega) (by omega); have := e 5 (by omega) (by omega); have := e 7 (by omega) (by omega); have := e 8 (by omega) (by omega); have := e 9 (by omega) (by omega); have := e 11 (by omega) (by omega); have := e 15 (by omega) (by omega); omega),
          if_neg (e 10 (by omega) (by omega)), if_neg (e 12 (by omega) (by omega)), if_neg (e 14 (by omega) (by omega)), if_neg (by have := e 16 (by omega) (by omega); have := e 17 (by omega) (by omega); omega), if_neg (e 18 (by omega) (by omega)), if_neg (e 13 (by omega) (by omega))] at hn
        simp at hn
  intro k f s hk hf hs
  exact key t.Nodes.length k f s (by omega) hk hf hs
theorem near_all (hL : L.length ≤ 4194304) (hT : GT t) : ∀ h : Nat, h ≤ 2 → NearP L t h
  | 0, _ => near_0 hL hT
  | h + 1, hh => near_succ hL hT (by omega) (near_all hL hT h (by omega))
/-- Near, at height two. -/
theorem Near_ok (hL : L.length ≤ 4194304) (hT : GT t) (f : Nat) (hf : 300000 ≤ f) : DrawsAt L t t.Nodes.length 48900 2 (semtypebase_Source_Near f) := fun k s hk hs => by
  obtain ⟨v, u, h1, h2, h3, h4⟩ := near_Q hL hT (Nat.le_refl 2) (near_all hL hT 2 (Nat.le_refl 2)) f (by omega) k s hk hs
  exact ⟨v, u, h1, h2, h3, Nat.le_trans h4 (DB_le (Nat.le_refl 2))⟩
end
end Go.Pl
namespace Go.Pl
open Go Go.RowKit Go.Sx Go.Qx

abbrev FunC : Type := Int × Int × Int × ByteArray × (List Int) × (List Api_Field) × Int × Int
abbrev funC (l : List Int) : FunC := (14, 0, 0, (⟨#[]⟩ : ByteArray), l, [], 0, 0)
/-- What is drawn: a type with three function nodes behind its others. -/
structure MadeT (T : Api_Type) (N a : Nat) : Prop where
  gt : GT T
  root : T.Root = 0
  pos : 1 ≤ N
  len : T.Nodes.length = N + 3
  ar : a ≤ 2
  fn : ∀ j, j < 3 → ∃ l, T.Nodes[N + j]? = some (kidN 14 l) ∧ l.length = a + 1
/-- An entry of so many arguments, as it is drawn. -/
structure MadeE (a : Nat) (e : Ent) : Prop where
  args : e.Args.length = a
  ok : vsOK e.Args = true
  res : (e.Fails = true ∧ e.Result = zeroV) ∨ (e.Fails = false ∧ vOK e.Result = true)
  bulk : bulkE e ≤ 200000
section
variable {L : List Int}
theorem made_kids (hL : L.length ≤ 4194304) (r2 : ((List Api_TypeNode) × Int) × Semtypebase_Source) (N a : Nat) (hN : r2.1.1.length = N) (hN1 : 1 ≤ N) (hN2 : N ≤ 100) (ha : a ≤ 2) (q : Semtypebase_Source) {s : Semtypebase_Source} (hs : OS L s) :
    ∃ l u, iter (semtypelaw12_made_l1 r2 ((a : Int), q)) ((a : Int).toNat + 2) (0, s, (14, 0, 0, (⟨#[]⟩ : ByteArray), [], [], 0, 0)) = some (u, funC l) ∧ OS L u ∧ l.length = a + 1 ∧ ∀ k ∈ l, inR N k = true := by
  obtain ⟨g, u, e, hu, h1, h2⟩ := gen_up (γ := List Int) (L := L) (step := semtypelaw12_made_l1 r2 ((a : Int), q)) (fun g j s => (j, s, funC g)) (fun g s => (s, funC g)) (fun j g => g.length = j ∧ ∀ k ∈ g, inR N k = true) (a + 1)
    (fun j g s hj hI hs => by
      obtain ⟨k, u, e, hu, k0, k1⟩ := next_ok hL hs (n := (r2.1.1.length : Int)) (by omega) (by omega)
      refine ⟨g ++ [k], u, ?_, hu, by simp [hI.1], fun y hy => ?_⟩
      · unfold semtypelaw12_made_l1
        simp only [wr64]
        rw [show decide ((j : Int) ≤ (a : Int)) = true from decide_eq_true (by omega), e]
        simp only [cond_true, Option.bind_some]
        rw [room_ok (by simp only [List.length_cons, List.length_nil]; have := hI.1; omega), w64_succ j (by omega)]
        rfl
      · rcases List.mem_append.1 hy with hy | hy
        · exact hI.2 y hy
        · rw [List.mem_singleton.1 hy]; exact inR_of k0 (by rw [← hN]; exact k1)) (fun g s => by
      unfold semtypelaw12_made_l1
      rw [show decide (((a + 1 : Nat) : Int) ≤ (a : Int)) = false from decide_eq_false (by omega)]
      rfl) (a + 1) 0 ((a : Int).toNat + 2) [] s (by omega) (by omega) ⟨rfl, fun k hk => by cases hk⟩ hs
  exact ⟨g, u, e, hu, h1, h2⟩
theorem gn_fun {M i : Nat} {l : List Int} (hl : ∀ k ∈ l, inR M k = true) (h1 : 1 ≤ l.length) (h4 : l.length ≤ 4) : GN M i (kidN 14 l) :=
  gn_kid (List.all_eq_true.2 hl) h4 (by
    show (decide (1 ≤ (l.length : Int)) && decide ((l.length : Int) ≤ 5)) = true
    rw [Bool.and_eq_true]
    exact ⟨decide_eq_true (by omega), decide_eq_true (by omega)⟩) (fun h => by omega)
theorem made_type (d : List Int) (hd : d.length ≤ 4194304) : ∃ T N a r1 r2 r3 b10 q,
    semtypebase_Source_Next (Semtypebase_Source.mk d 0) 4 = some r1 ∧ semtypebase_Source_Type r1.2 (w64 (1 + r1.1)) = some r2 ∧ r2.1.1.length = N ∧ semtypebase_Source_Next r2.2 3 = some r3 ∧ r3.1 = ((a : Nat) : Int) ∧
      iter (semtypelaw12_made_l2 r2 r3) ((3 : Int).toNat + 1) (0, r3.2, (r2.1.1, r2.1.2)) = some b10 ∧ b10 = (q, (T.Nodes, T.Root)) ∧ MadeT T N a := by
  obtain ⟨m, s1, e1, hs1, m0, m1⟩ := next_ok hd (s := Semtypebase_Source.mk d 0) ⟨rfl, by show (0 : Int) ≤ 0; omega, by show (0 : Int) ≤ _; omega⟩ (n := 4) (by omega) (by omega)
  obtain ⟨m, rfl⟩ := nat_of m0
  obtain ⟨ns, s2, e2, hs2, hlen, hg⟩ := type_gen hd hs1 (m + 1) (by omega) (by omega)
  have e2' : semtypebase_Source_Type s1 (w64 (1 + (m : Int))) = some ((ns, 0), s2) := by
    rw [w64_id (by omega) (by omega), show 1 + (m : Int) = ((m + 1 : Nat) : Int) by omega]; exact e2
  obtain ⟨a, s3, e3, hs3, a0, a1⟩ := next_ok hd hs2 (n := 3) (by omega) (by omega)
  obtain ⟨a, rfl⟩ := nat_of a0
  obtain ⟨g, s4, e4, hs4, h1, h2, h3⟩ := gen_up (γ := List Api_TypeNode) (L := d) (step := semtypelaw12_made_l2 ((ns, 0), s2) ((a : Int), s3)) (fun g j s => (j, s, (g, 0))) (fun g s => (s, (g, 0)))
    (fun j g => g.length = m + 1 + j ∧ GNs (m + 1 + 3) g ∧ ∀ i, i < j → ∃ l, g[m + 1 + i]? = some (kidN 14 l) ∧ l.length = a + 1) 3
    (fun j g s hj hI hs => by
      obtain ⟨l, u, e, hu, hl, hr⟩ := made_kids hd ((ns, 0), s2) (m + 1) a hlen (by omega) (by omega) (by omega) s3 hs
      refine ⟨g ++ [kidN 14 l], u, ?_, hu, by simp only [List.length_append, List.length_cons, List.length_nil]; have := hI.1; omega, hI.2.1.snoc (gn_fun (fun k hk => inR_mono (by omega) (hr k hk)) (by omega) (by omega)), fun i hi => ?_⟩
      · unfold semtypelaw12_made_l2
        simp only [wr64]
        rw [show decide ((j : Int) < 3) = true from decide_eq_true (by omega), e]
        simp only [cond_true, Option.bind_some]
        rw [room_ok (by simp only [List.length_cons, List.length_nil]; have := hI.1; omega), w64_succ j (by omega)]
        rfl
      · by_cases hij : i < j
        · obtain ⟨l', e', hl'⟩ := hI.2.2 i hij
          exact ⟨l', by rw [List.getElem?_append_left (by have := hI.1; omega)]; exact e', hl'⟩
        · have : i = j := by omega
          subst this
          exact ⟨l, by rw [List.getElem?_append_right (by have := hI.1; omega), show m + 1 + i - g.length = 0 by have := hI.1; omega]; rfl, hl⟩) (fun g s => by
      unfold semtypelaw12_made_l2
      rfl) 3 0 ((3 : Int).toNat + 1) ns s3 (by omega) (by decide) ⟨by omega, fun i x hx => (hg i x hx).mono (by omega), fun i hi => by omega⟩ hs3
  refine ⟨Api_Type.mk g 0, m + 1, a, ((m : Int), s1), ((ns, 0), s2), ((a : Int), s3), (s4, (g, 0)), s4, e1, e2', hlen, e3, rfl, e4, rfl, ?_⟩
  refine ⟨⟨by show g.length ≤ 10; omega, ?_⟩, rfl, by omega, by show g.length = m + 1 + 3; omega, by omega, h3⟩
  show GNs g.length g
  rw [h1]
  exact h2
end
theorem made_ok (f : Nat) (hf : 300000 ≤ f) (d : List Int) (hd : d.length ≤ 4194304) : ∃ T N a, MadeT T N a ∧ ∀ g : List Int, g.length ≤ 4194304 → ∃ e, semtypelaw12_made f d g = some (T, (N : Int), e) ∧ MadeE a e := by
  obtain ⟨T, N, a, r1, r2, r3, b10, q, e1, e2, e3, e4, e5, e6, e7, hM⟩ := made_type d hd
  refine ⟨T, N, a, hM, fun g hg => ?_⟩
  subst e7
  have hd := Near_ok hg hM.gt f hf
  have hN3 := hM.len
  have hN10 := hM.gt.len
  have hN1 := hM.pos
  have hTe : Api_Type.mk T.Nodes T.Root = T := rfl
  obtain ⟨r31, r32⟩ := r3
  have e5 : r31 = (a : Int) := e5
  subst e5
  unfold semtypelaw12_made
  simp only [wr64]
  rw [e1]
  simp only [Option.bind_some]
  rw [e2]
  simp only [Option.bind_some]
  rw [e4]
  simp only [Option.bind_some]
  rw [e6]
  simp only [Option.bind_some]
  obtain ⟨ag, s5, e8, hs5, h1, h2, h3⟩ := gen_up (γ := List Val) (L := g) (step := semtypelaw12_made_l3 r2 ((a : Int), r32) (q, (T.Nodes, T.Root)) f) (fun g j s => (j, s, (g, false, 0, 0, (⟨#[]⟩ : ByteArray), [], [], [], []))) (fun g s => (s, (g, false, 0, 0, (⟨#[]⟩ : ByteArray), [], [], [], []))) (fun j g => g.length = j ∧ vsOK g = true ∧ bulkVs g ≤ j * 48900) a
    (fun j ag s hj hI hs => by
      obtain ⟨k, u, e9, hu, k0, k1⟩ := next_ok hg hs (n := (r2.1.1.length : Int)) (by omega) (by omega)
      obtain ⟨k, rfl⟩ := nat_of k0
      obtain ⟨v, u2, e10, hu2, ho, hb⟩ := hd k u (by omega) hu
      have e10 : semtypebase_Source_Near f u T (k : Int) 2 = some (v, u2) := e10
      have har := hM.ar
      refine ⟨ag ++ [v], u2, ?_, hu2, by simp [hI.1], by rw [vsOK_app, hI.2.1]; simp [vsOK, ho], by rw [bulkVs_app, Nat.add_mul]; simp only [bulkVs]; have := hI.2.2; omega⟩
      unfold semtypelaw12_made_l3
      simp only [wr64]
      rw [lt_true hj, e9]
      simp only [cond_true, Option.bind_some]
      rw [hTe, e10]
      simp only [Option.bind_some]
      rw [room_ok (by simp only [List.length_cons, List.length_nil]; have := hI.1; omega), w64_succ j (by omega)]
      rfl) (fun ag s => by
      unfold semtypelaw12_made_l3
      simp) a 0 ((a : Int).toNat + 1) [] (Semtypebase_Source.mk g 0) (by omega) (by omega) ⟨rfl, rfl, by simp [bulkVs]⟩ ⟨rfl, by show (0 : Int) ≤ 0; omega, by show (0 : Int) ≤ _; omega⟩
  have e8' : iter (semtypelaw12_made_l3 r2 ((a : Int), r32) (q, (T.Nodes, T.Root)) f) ((a : Int).toNat + 1) (0, Semtypebase_Source.mk g 0, ([], false, 0, 0, (⟨#[]⟩ : ByteArray), [], [], [], [])) = some (s5, (ag, false, 0, 0, (⟨#[]⟩ : ByteArray), [], [], [], [])) := e8
  rw [e8']
  simp only [Option.bind_some]
  have har := hM.ar
  have h3' : bulkVs ag ≤ 2 * 48900 := Nat.le_trans h3 (Nat.mul_le_mul_right _ har)
  obtain ⟨z, s6, e11, hs6, _, _⟩ := next_ok hg hs5 (n := 3) (by omega) (by omega)
  rw [e11]
  simp only [Option.bind_some]
  rw [e3, hTe]
  cases hz : z == 1
  · simp only [cond_false]
    obtain ⟨k, u, e9, hu, k0, k1⟩ := next_ok hg hs6 (n := (r2.1.1.length : Int)) (by omega) (by omega)
    rw [e3] at e9
    obtain ⟨k, rfl⟩ := nat_of k0
    obtain ⟨v, u2, e10, hu2, ho, hb⟩ := hd k u (by omega) hu
    have e10 : semtypebase_Source_Near f u T (k : Int) 2 = some (v, u2) := e10
    rw [e9]
    simp only [Option.bind_some]
    rw [e10]
    have hv : Val.mk v.Kind v.Int_ v.Text v.Kids v.Keys v.Entries v.Labels = v := by cases v; rfl
    simp only [Option.bind_some, hv]
    refine ⟨Ent.mk ag false v, rfl, h1, h2, .inr ⟨rfl, ho⟩, ?_⟩
    have := bulkE_eq (Ent.mk ag false v)
    simp only [Ent.Args, Ent.Result] at this
    omega
  · simp only [cond_true, Option.bind_some]
    refine ⟨Ent.mk ag true zeroV, rfl, h1, h2, .inl ⟨rfl, rfl⟩, ?_⟩
    have := bulkE_eq (Ent.mk ag true zeroV)
    have hz : bulkV zeroV = 8 := by rw [zeroV, bulk_mk]; rfl
    simp only [Ent.Args, Ent.Result] at this
    omega
end Go.Pl
