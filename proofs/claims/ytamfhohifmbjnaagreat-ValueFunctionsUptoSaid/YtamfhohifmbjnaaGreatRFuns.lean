/- Function values: what the program's Function returns, whatever the order and the number of its entries. In plain Lean. -/
import Derived.Test.YtamfhohifmbjnaaGreatRLabB
import Derived.Test.YtamfhohifmbjnaaGreatRDraw
namespace Go.Pl
open Go Go.Sx Go.Qx

theorem fun_v_ok (fuel : Nat) (n : Int) (es : List Ent) (hf : 2 * bulkEs es + 1 ≤ fuel) (hb : bulkEs es ≤ 4194304) :
    value_Function fuel n es = some (if 0 ≤ n ∧ n ≤ 4 ∧ es.all (entOK n) = true then (funV n (es.foldl insE []), 0) else (zeroV, 1)) := by
  have hlen := bulkEs_len es
  unfold value_Function
  simp only [natLen]
  by_cases h1 : n < 0
  · have e1 : decide (n < 0) = true := by simpa using h1
    rw [e1, if_neg (by omega)]; rfl
  by_cases h2 : 4 < n
  · have e1 : decide (n < 0) = false := by simpa using h1
    have e2 : decide (4 < n) = true := by simpa using h2
    rw [e1, e2, if_neg (by omega)]; rfl
  have e1 : decide (n < 0) = false := by simpa using h1
  have e2 : decide (4 < n) = false := by simpa using h2
  rw [e1, e2, sortEntries_ok fuel es hf hb]
  have key := first_ok (step := value_Function_l1 n es fuel) es (entOK n) (fun i => ((i : Int), cell0)) cell0 (1, cell0) ?_ ?_
  · have e : iter (value_Function_l1 n es fuel) (es.length + 1) (0, (0, 0, (⟨#[]⟩ : ByteArray), [], [], [], [])) = iter (value_Function_l1 n es fuel) (es.length + 1) (((0 : Nat) : Int), cell0) := rfl
    rw [e, key]
    by_cases ha : es.all (entOK n) = true
    · rw [if_pos ha, if_pos ⟨by omega, by omega, ha⟩]
      rfl
    · rw [if_neg ha, if_neg (fun h => ha h.2.2)]
      rfl
  · intro i x hx
    have hi : i < es.length := (List.getElem?_eq_some_iff.1 hx).1
    have hm := bulkEs_mem (List.mem_of_getElem? hx)
    unfold value_Function_l1
    simp only [bite, wr64]
    rw [if_pos (by simp; omega), idx_at hx]
    simp only [Option.bind_some, Int.toNat_natCast, hx]
    rw [ent_ok fuel x n (by omega) (by omega), w64_succ i (by omega)]
    cases entOK n x <;> rfl
  · unfold value_Function_l1
    simp
/-- The same entries, in any order and number. -/
theorem same_fun {xs ys : List Ent} (h : ∀ x, x ∈ xs ↔ x ∈ ys) : xs.foldl insE [] = ys.foldl insE [] := by
  rw [insE_U]
  obtain ⟨a1, a2⟩ := setU (c := cE) cmpE xs
  obtain ⟨b1, b2⟩ := setU (c := cE) cmpE ys
  exact cmpE.uniq a1 b1 fun x => by rw [a2, b2, h]
theorem same_all {xs ys : List Ent} (h : ∀ x, x ∈ xs ↔ x ∈ ys) (p : Ent → Bool) : xs.all p = ys.all p := by
  rw [Bool.eq_iff_iff, List.all_eq_true, List.all_eq_true]
  exact ⟨fun k x hx => k x ((h x).2 hx), fun k x hx => k x ((h x).1 hx)⟩
theorem funV_ok {n : Int} {es : List Ent} (h0 : 0 ≤ n) (h4 : n ≤ 4) (ha : es.all (entOK n) = true) (ho : esOK es = true) : vOK (funV n (es.foldl insE [])) = true := by
  have hs := setU (c := cE) cmpE es
  rw [← insE_U] at hs
  rw [vOK_fun, Bool.and_eq_true]
  constructor
  · simp only [funOK, funV, Val.Int_, Val.Entries]
    rw [hs.1]
    have : (es.foldl insE []).all (entOK n) = true := List.all_eq_true.2 fun x hx => List.all_eq_true.1 ha x ((hs.2 x).1 hx)
    rw [this]
    simp [h0, h4]
  · rw [esOK_all] at ho ⊢
    exact List.all_eq_true.2 fun x hx => List.all_eq_true.1 ho x ((hs.2 x).1 hx)
theorem esOK_app (a b : List Ent) : esOK (a ++ b) = (esOK a && esOK b) := by rw [esOK_all, esOK_all, esOK_all, List.all_append]
/-- The entries of one drawn value, and one entry more. -/
def more (v : Val) : List Ent := v.Entries ++ [Ent.mk v.Kids false v]
theorem more_ok {v : Val} (h : vOK v = true) : esOK (more v) = true := by
  unfold more
  rw [esOK_app]
  have h' := h
  rw [vOK_eq] at h'
  simp only [Bool.and_eq_true] at h'
  rw [h'.2.2]
  simp [esOK, eOK, h'.2.1, h]
theorem more_bulk (v : Val) : bulkEs (more v) ≤ 3 * bulkV v := by
  unfold more
  rw [bulkEs_app]
  have h1 := bulkV_eq v
  have h2 := bulkE_eq (Ent.mk v.Kids false v)
  simp only [Ent.Args, Ent.Result] at h2
  have h3 := bulkV_pos v
  simp only [bulkEs, h2]
  unfold bulkStr at h1
  omega
theorem fun_loop (fuel : Nat) (hf : 60000 ≤ fuel) (t : List (List Int)) (hl : t.length ≤ 8) :
    iter (semtypelaw4_ValueFunctions_l1 t fuel) (t.length + 1) ([], 0) = some (.inr true) ∨
    ∃ es, iter (semtypelaw4_ValueFunctions_l1 t fuel) (t.length + 1) ([], 0) = some (.inl es) ∧ esOK es = true ∧ bulkEs es ≤ 80000 := by
  have key : ∀ (m i k : Nat) (s : List Ent), i + m = t.length → m + 1 ≤ k → esOK s = true → bulkEs s ≤ i * 8000 →
      iter (semtypelaw4_ValueFunctions_l1 t fuel) k (s, (i : Int)) = some (.inr true) ∨
      ∃ es, iter (semtypelaw4_ValueFunctions_l1 t fuel) k (s, (i : Int)) = some (.inl es) ∧ esOK es = true ∧ bulkEs es ≤ 80000 := by
    intro m
    induction m with
    | zero =>
      intro i k s h1 h2 h3 h4
      obtain ⟨k, rfl⟩ : ∃ m, k = m + 1 := ⟨k - 1, by omega⟩
      have e : i = t.length := by omega
      subst e
      have : semtypelaw4_ValueFunctions_l1 t fuel (s, (t.length : Int)) = some (.done (.inl s)) := by
        unfold semtypelaw4_ValueFunctions_l1
        simp
      exact .inr ⟨s, by simp only [iter, this, Option.bind_some], h3, by omega⟩
    | succ m ih =>
      intro i k s h1 h2 h3 h4
      obtain ⟨k, rfl⟩ : ∃ m, k = m + 1 := ⟨k - 1, by omega⟩
      have hlt : i < t.length := by omega
      have hidx := idx_at (List.getElem?_eq_getElem hlt)
      by_cases hbig : 40 < ((t[i]).length : Int)
      · left
        have : semtypelaw4_ValueFunctions_l1 t fuel (s, (i : Int)) = some (.done (.inr true)) := by
          unfold semtypelaw4_ValueFunctions_l1
          simp only [bite, wr64]
          rw [if_pos (by simp; omega), hidx]
          simp only [Option.bind_some]
          obtain ⟨q, rfl⟩ : ∃ q, fuel = q + 20 := ⟨fuel - 20, by omega⟩
          rw [if_pos (by simpa using hbig), awake_ok]
          rfl
        simp only [iter, this, Option.bind_some]
      · obtain ⟨v, u, e, _, ho, hb⟩ := scc_gen (L := t[i]) (by omega) 2 fuel (by omega) (by omega) (Semtypebase_Source.mk t[i] 0) ⟨rfl, by show (0 : Int) ≤ 0; omega, by show (0 : Int) ≤ _; omega⟩
        have e' : semtypebase_Source_Value fuel (Semtypebase_Source.mk t[i] 0) 3 = some (v, u) := e
        have hb2 := hb_le (show 2 ≤ 2 by omega)
        have hmb := more_bulk v
        have hbs : bulkEs (s ++ more v) ≤ (i + 1) * 8000 := by rw [bulkEs_app]; omega
        have hlen := bulkEs_len (s ++ more v)
        have hlm : (s ++ more v).length = s.length + v.Entries.length + 1 := by simp [more]; omega
        have : semtypelaw4_ValueFunctions_l1 t fuel (s, (i : Int)) = some (.next (s ++ more v, ((i + 1 : Nat) : Int))) := by
          unfold semtypelaw4_ValueFunctions_l1
          simp only [bite, wr64]
          rw [if_pos (by simp; omega), hidx]
          simp only [Option.bind_some]
          rw [if_neg (by simpa using hbig), e']
          simp only [Option.bind_some]
          rw [room_ok (by omega), room_ok (by simp only [List.length_append, List.length_cons, List.length_nil]; omega), w64_succ i (by omega)]
          simp only [Option.bind_some, more, List.append_assoc]
        simp only [iter, this, Option.bind_some]
        exact ih (i + 1) k (s ++ more v) (by omega) (by omega) (by rw [esOK_app, h3, more_ok ho]; rfl) hbs
  exact key t.length 0 (t.length + 1) [] (by omega) (Nat.le_refl _) rfl (by simp [bulkEs])
theorem and1 (x : Int) : bAnd .i64 x 1 = 0 ∨ bAnd .i64 x 1 = 1 := by
  unfold bAnd
  have h : (BitVec.ofInt (IntKind.i64).bits x &&& BitVec.ofInt (IntKind.i64).bits 1).toNat = (BitVec.ofInt 64 x).toNat % 2 := by
    rw [BitVec.toNat_and]
    exact Nat.and_one_is_mod _
  rw [h]
  rcases Nat.mod_two_eq_zero_or_one (BitVec.ofInt 64 x).toNat with e | e <;> rw [e]
  · exact .inl rfl
  · exact .inr rfl
theorem bulkEs_sum : ∀ l : List Ent, bulkEs l = (l.map bulkE).sum
  | [] => rfl
  | x :: r => by simp only [bulkEs, List.map_cons, List.sum_cons, bulkEs_sum r]
theorem bulk_perm {a b : List Ent} (h : a.Perm b) : bulkEs a = bulkEs b := by
  rw [bulkEs_sum, bulkEs_sum]
  exact (h.map bulkE).sum_nat
/-- Two entries change places. -/
theorem swap_ok {β : Type} (es : List Ent) (k : Int) (hk : k = 0 ∨ k = 1) (hl : 1 < es.length) (f : List Ent → Option β) : ∃ ys, ys.Perm es ∧
    (Option.bind (Option.bind (idx es k) fun _ => Option.bind (es[k.toNat]?) fun e17 => Option.bind (idx es 0) fun _ => Option.bind (es[(0 : Int).toNat]?) fun e19 => Option.bind (idx es 0) fun _ => Option.bind (es[(0 : Int).toNat]?) fun _ =>
      Option.bind (idx (es.set ((0 : Int).toNat) e17) k) fun _ => Option.bind ((es.set ((0 : Int).toNat) e17)[k.toNat]?) fun _ => some ((es.set ((0 : Int).toNat) e17).set (k.toNat) e19)) f) = f ys := by
  obtain ⟨j, rfl, hj⟩ : ∃ j : Nat, k = (j : Int) ∧ j < es.length := by
    rcases hk with rfl | rfl
    · exact ⟨0, rfl, by omega⟩
    · exact ⟨1, rfl, by omega⟩
  have h0 : 0 < es.length := by omega
  refine ⟨(es.set 0 es[j]).set j es[0], List.set_set_perm h0 hj, ?_⟩
  have a1 : es[j]? = some es[j] := List.getElem?_eq_getElem hj
  have a2 : es[0]? = some es[0] := List.getElem?_eq_getElem h0
  have b2 : idx es 0 = some es[0] := idx_at a2
  have hj3 : j < (es.set 0 es[j]).length := by simpa using hj
  have a3 : (es.set 0 es[j])[j]? = some (es.set 0 es[j])[j] := List.getElem?_eq_getElem hj3
  rw [idx_at a1, b2]
  simp only [Option.bind_some, Int.toNat_natCast, a1, show (0 : Int).toNat = 0 from rfl, a2]
  rw [idx_at a3]
  simp only [Option.bind_some, a3]
theorem law_functions (fuel : Nat) (hf : 8388608 ≤ fuel) (n : Int) (t : List (List Int)) (k : Int) : semtypelaw4_ValueFunctions fuel n t k = some true := by
  obtain ⟨q, hq⟩ : ∃ q, fuel = q + 20 := ⟨fuel - 20, by omega⟩
  have haw : semtypelaw4_awake fuel = some true := by rw [hq]; exact awake_ok q
  unfold semtypelaw4_ValueFunctions
  by_cases h1 : 8 < (t.length : Int)
  · have e1 : decide (8 < (t.length : Int)) = true := by simpa using h1
    rw [e1, haw]; rfl
  have e1 : decide (8 < (t.length : Int)) = false := by simpa using h1
  rw [e1, natLen]
  simp only [cond_false]
  rcases fun_loop fuel (by omega) t (by omega) with e | ⟨es, e, hok, hbs⟩
  · rw [e]; rfl
  rw [e]
  simp only [Option.bind_some, onEnd]
  have heq : ∀ v : Val, bulkV v ≤ 4194304 → semtyperef1_Equal fuel v v = some true := by
    intro v hv
    unfold semtyperef1_Equal
    rw [(ref_compare_ok fuel).1 v v (by omega) hv, cV_self]
    rfl
  have hfb := fold_insE_bulk es []
  have hbf : bulkV (funV n (es.foldl insE [])) ≤ 200000 := by
    simp only [funV, bulk_mk, size0, bulkVs, bulkKeys]
    simp only [bulkEs] at hfb
    omega
  have hbz : bulkV zeroV ≤ 4194304 := by rw [zeroV, bulk_mk]; decide
  rw [fun_v_ok fuel n es (by omega) (by omega), ref_function_ok fuel n es (by omega) (by omega)]
  have hres : ∀ ys : List Ent, (∀ x, x ∈ ys ↔ x ∈ es) → bulkEs ys ≤ 400000 → value_Function fuel n ys = some (if 0 ≤ n ∧ n ≤ 4 ∧ es.all (entOK n) = true then (funV n (es.foldl insE []), 0) else (zeroV, 1)) := fun ys hm hb => by
    rw [fun_v_ok fuel n ys (by omega) (by omega), same_fun hm, same_all hm]
  have hsw : ∃ ys : List Ent, ys.Perm es ∧ ∀ {β : Type} (f : List Ent → Option β), (Option.bind (bif decide (1 < (es.length : Int)) then (Option.bind (idx es (bAnd .i64 k 1)) fun _ => Option.bind (es[(bAnd .i64 k 1).toNat]?) fun e17 => Option.bind (idx es 0) fun _ => Option.bind (es[(0 : Int).toNat]?) fun e19 => Option.bind (idx es 0) fun _ => Option.bind (es[(0 : Int).toNat]?) fun _ =>
      Option.bind (idx (es.set ((0 : Int).toNat) e17) (bAnd .i64 k 1)) fun _ => Option.bind ((es.set ((0 : Int).toNat) e17)[(bAnd .i64 k 1).toNat]?) fun _ => some ((es.set ((0 : Int).toNat) e17).set ((bAnd .i64 k 1).toNat) e19)) else (some es)) f) = f ys := by
    by_cases h2 : 1 < es.length
    · obtain ⟨ys, p, e⟩ := swap_ok es (bAnd .i64 k 1) (and1 k) h2 (fun l => some l)
      rw [bsome] at e
      refine ⟨ys, p, fun f => ?_⟩
      have e2 : decide (1 < (es.length : Int)) = true := by simp; omega
      rw [e2, cond_true, e]
      rfl
    · refine ⟨es, List.Perm.refl _, fun f => ?_⟩
      have e2 : decide (1 < (es.length : Int)) = false := by simp; omega
      rw [e2]
      rfl
  obtain ⟨ys, hp, hsw⟩ := hsw
  have hbp := bulk_perm hp
  have hyl := bulkEs_len ys
  have hm : ∀ x, x ∈ ys ++ ys ↔ x ∈ es := fun x => by simp [hp.mem_iff]
  have hr := hres (ys ++ ys) hm (by rw [bulkEs_app]; omega)
  have hroom : room (ys.length + ys.length) 160 = some () := room_ok (by omega)
  by_cases hc : 0 ≤ n ∧ n ≤ 4 ∧ es.all (entOK n) = true
  · rw [if_pos hc] at hr ⊢
    have hv := funV_ok hc.1 hc.2.1 hc.2.2 hok
    have hE := heq _ (show bulkV (funV n (es.foldl insE [])) ≤ 4194304 by omega)
    have hV := validate_ok fuel (funV n (es.foldl insE [])) (by omega) (by omega)
    rw [hv] at hV
    simp only [Option.bind_some, hE, bne_self_eq_false, cond_false, Bool.not_true]
    rw [hsw, hroom]
    simp only [Option.bind_some, hr, hE, BEq.rfl, cond_true, hV, haw, bne_self_eq_false, cond_false]
    rfl
  · rw [if_neg hc] at hr ⊢
    have hE := heq zeroV hbz
    simp only [Option.bind_some, hE, bne_self_eq_false, cond_false, Bool.not_true]
    rw [hsw, hroom]
    simp only [Option.bind_some, hr, hE, BEq.rfl, cond_true, haw]
    rfl
end Go.Pl
