/- The law of merged functions. No program in sight. -/
import Derived.Test.YtdipagkcdpcnbaaGreatRNodesT
import Derived.Test.YtdipagkcdpcnbaaGreatRLawC
import Derived.Test.YtdipagkcdpcnbaaGreatRFunV
namespace Go.Pl
open Go Go.RowKit Go.Sx Go.Qx

theorem mem_fold {es : List Ent} (x : Ent) : x ∈ es.foldl insE [] ↔ x ∈ es := by
  have h := setU (c := cE) cmpE es
  rw [← insE_U] at h
  exact h.2 x
theorem all_fold {es : List Ent} (p : Ent → Bool) : (es.foldl insE []).all p = es.all p := same_all mem_fold p
def labA : List ByteArray := [(⟨#[65]⟩ : ByteArray)].foldl (insU cS) []
theorem labA_ok : labelsOK labA = true := by kernel_rfl
theorem labA_bulk : bulkStrs labA ≤ 4 := by
  have : decide (bulkStrs labA ≤ 4) = true := by kernel_rfl
  exact of_decide_eq_true this
theorem fun_valid {v : Val} (h : vOK v = true) (hk : v.Kind = 9) : funOK v = true := by
  rw [vOK_eq] at h
  simp only [Bool.and_eq_true] at h
  have := h.1
  unfold nodeOK kindOK at this
  simp only [Bool.and_eq_true] at this
  have h2 := this.2.2
  simp [hk] at h2
  exact h2
theorem merge_ok (u v : Val) (hu : u.Kind = 9) (huo : vOK u = true) (hbu : bulkV u ≤ 1048600) (hbv : bulkV v ≤ 1048600) (f : Nat) (hf : 200000000 ≤ f) :
    arrow_Merge f [u, v] = some (if (v.Kind == 9 && (v.Int_ == u.Int_ && vOK v)) = true then (funV u.Int_ ((u.Entries ++ v.Entries).foldl insE []), 0) else (zeroV, 1)) := by
  have hbe := bulkV_eq u
  have hbe2 := bulkV_eq v
  have hl1 := bulkEs_len u.Entries
  have hl2 := bulkEs_len v.Entries
  unfold arrow_Merge
  have e0 : ((([u, v] : List Val).length : Int) == 0) = false := rfl
  rw [e0]
  simp only [cond_false]
  have s0 : arrow_Merge_l1 [u, v] f ([], 0, cell0) = some (.next (u.Entries, 1, cell0)) := by
    unfold arrow_Merge_l1
    have i0 : idx [u, v] 0 = some u := rfl
    have d0 : decide ((0 : Int) < (([u, v] : List Val).length : Int)) = true := rfl
    simp only [d0, cond_true, i0, Option.bind_some, wr64]
    rw [show (u.Kind != 9) = false by simp [hu], validate_ok f u (by omega) (by omega), huo]
    simp only [cond_false, Option.bind_some, bne_self_eq_false, if_true]
    rw [room_ok (by simp only [List.length_nil]; omega)]
    rfl
  have s1 : arrow_Merge_l1 [u, v] f (u.Entries, 1, cell0) = some (if (v.Kind == 9 && (v.Int_ == u.Int_ && vOK v)) = true then .next (u.Entries ++ v.Entries, 2, cell0) else .done (.inr (1, cell0))) := by
    unfold arrow_Merge_l1
    have i0 : idx [u, v] 0 = some u := rfl
    have i1 : idx [u, v] 1 = some v := rfl
    have d0 : decide ((1 : Int) < (([u, v] : List Val).length : Int)) = true := rfl
    simp only [d0, cond_true, i1, i0, Option.bind_some, wr64]
    rw [validate_ok f v (by omega) (by omega), room_ok (by omega)]
    have k0 : (v.Kind != 9) = !(v.Kind == 9) := rfl
    have k1 : (v.Int_ != u.Int_) = !(v.Int_ == u.Int_) := rfl
    rw [k0, k1]
    cases (v.Kind == 9) <;> cases (v.Int_ == u.Int_) <;> cases vOK v <;> rfl
  have s2 : arrow_Merge_l1 [u, v] f (u.Entries ++ v.Entries, 2, cell0) = some (.done (.inl (u.Entries ++ v.Entries, cell0))) := rfl
  show (Option.bind (iter (arrow_Merge_l1 [u, v] f) (2 + 1) ([], 0, cell0)) _) = _
  simp only [iter, s0, s1, Option.bind_some]
  cases hc : (v.Kind == 9 && (v.Int_ == u.Int_ && vOK v))
  · rfl
  simp only [if_true, s2, Option.bind_some, onEnd]
  have i0 : idx [u, v] 0 = some u := rfl
  rw [i0]
  simp only [Option.bind_some]
  have hfu := fun_valid huo hu
  simp only [Bool.and_eq_true] at hc
  have hvk : v.Kind = 9 := by simpa using hc.1
  have hvi : v.Int_ = u.Int_ := by simpa using hc.2.1
  have hfv := fun_valid hc.2.2 hvk
  unfold funOK at hfu hfv
  simp only [Bool.and_eq_true, decide_eq_true_eq] at hfu hfv
  rw [hvi] at hfv
  rw [fun_v_ok f u.Int_ (u.Entries ++ v.Entries) (by rw [bulkEs_app]; omega) (by rw [bulkEs_app]; omega), if_pos ⟨hfu.1.1, hfu.1.2, by rw [List.all_append, hfu.2.2, hfv.2.2]; rfl⟩]
  rfl
theorem memOf_ok {T : Api_Type} (hT : GT T) (hr : inR T.Nodes.length T.Root = true) {v : Val} (ho : vOK v = true) (hb : bulkV v ≤ 2097152) (i : Nat) (hi : i < T.Nodes.length) (f : Nat) (hf : 200000000 ≤ f) : semtyperef7_MemberOf f v T (i : Int) = some (memB T v (i : Int)) := by
  have hFU : FU (bulkV v) ≤ f := by unfold FU; omega
  unfold semtyperef7_MemberOf
  rw [ref_valid_ok f v (by omega) (by omega), ho, wf70 hT hr f (by omega), index_ok, inR_of (by omega) (by omega), member_ok hT (v := v) (k := i) ho (by omega) hi f hFU]
  rfl
theorem law_arrowmerge (fuel : Nat) (hf : 300000000 ≤ fuel) (d t g : List Int) (raw : Val) (hb : bulkV raw ≤ 1048576) : semtypelaw12_ArrowMerge fuel d t g raw = some true := by
  obtain ⟨q, hq⟩ : ∃ q, fuel = q + 60 := ⟨fuel - 60, by omega⟩
  have haw : semtypelaw12_awake fuel = some true := by rw [hq]; exact awake12 q
  obtain ⟨n1, e1⟩ := nodes_some fuel raw (by omega) (by omega)
  unfold semtypelaw12_ArrowMerge
  rw [short_ok [d, t, g] (by simp), e1, haw]
  simp only [Option.bind_some]
  cases hs : ([d, t, g].all fun x => !decide (80 < (x.length : Int)))
  · rfl
  have hs' : d.length ≤ 80 ∧ t.length ≤ 80 ∧ g.length ≤ 80 := by
    simp at hs
    omega
  simp only [Bool.not_true, cond_false, Option.bind_some]
  rcases Bool.eq_false_or_eq_true (decide (40 < n1)) with h2 | h2
  · rw [h2]; rfl
  rw [h2]
  simp only [cond_false]
  obtain ⟨T, N, a, hM, hmade⟩ := made_ok fuel (by omega) d (by omega)
  obtain ⟨e, e3, hE⟩ := hmade t (by omega)
  obtain ⟨x, e4, hX⟩ := hmade g (by omega)
  have hr := root_in hM
  have har := hM.ar
  have hlen := hM.len
  have heb := hE.bulk
  have hxb := hX.bulk
  have hNT := hM.gt.len
  obtain ⟨he1, he2⟩ := made_ent hE
  obtain ⟨hx1, hx2⟩ := made_ent hX
  rw [e3, e4]
  simp only [Option.bind_some, hE.args, hX.args]
  have rf : ∀ es : List Ent, (∀ y ∈ es, entOK (a : Int) y = true) → bulkEs es ≤ 400000 → semtyperef1_Function fuel (a : Int) es = some (funV (a : Int) (es.foldl insE []), 0) := fun es h hbs => by
    rw [ref_function_ok fuel (a : Int) es (by omega) (by omega), if_pos ⟨by omega, by omega, List.all_eq_true.2 h⟩]
  have val : ∀ es : List Ent, (∀ y ∈ es, entOK (a : Int) y = true) → (∀ y ∈ es, eOK y = true) → bulkEs es ≤ 400000 → vOK (funV (a : Int) (es.foldl insE [])) = true ∧ bulkV (funV (a : Int) (es.foldl insE [])) ≤ 400008 := fun es h ho hbs => by
    refine ⟨funV_ok (by omega) (by omega) (List.all_eq_true.2 h) (by rw [esOK_all]; exact List.all_eq_true.2 ho), ?_⟩
    have hfb := fold_insE_bulk es []
    simp only [bulkEs] at hfb
    simp only [funV, bulk_mk, size0, bulkVs, bulkKeys]
    omega
  have b1 : bulkEs [e] ≤ 400000 := by simp only [bulkEs]; omega
  have b2 : bulkEs [x] ≤ 400000 := by simp only [bulkEs]; omega
  have b3 : bulkEs [e, x] ≤ 400000 := by simp only [bulkEs]; omega
  have o1 : ∀ y ∈ [e], entOK (a : Int) y = true := fun y hy => by rw [List.mem_singleton.1 hy]; exact he1
  have o2 : ∀ y ∈ [x], entOK (a : Int) y = true := fun y hy => by rw [List.mem_singleton.1 hy]; exact hx1
  have o3 : ∀ y ∈ [e, x], entOK (a : Int) y = true := fun y hy => by
    rcases List.mem_cons.1 hy with rfl | hy
    · exact he1
    · rw [List.mem_singleton.1 hy]; exact hx1
  have v1 : ∀ y ∈ [e], eOK y = true := fun y hy => by rw [List.mem_singleton.1 hy]; exact he2
  have v2 : ∀ y ∈ [x], eOK y = true := fun y hy => by rw [List.mem_singleton.1 hy]; exact hx2
  have v3 : ∀ y ∈ [e, x], eOK y = true := fun y hy => by
    rcases List.mem_cons.1 hy with rfl | hy
    · exact he2
    · rw [List.mem_singleton.1 hy]; exact hx2
  obtain ⟨q1, p1⟩ := val [e] o1 v1 b1
  obtain ⟨q2, p2⟩ := val [x] o2 v2 b2
  obtain ⟨q3, p3⟩ := val [e, x] o3 v3 b3
  rw [rf [e] o1 b1, rf [x] o2 b2, rf [e, x] o3 b3]
  simp only [Option.bind_some, bne_self_eq_false, cond_false]
  have hlab : semtyperef1_WithLabels (funV (a : Int) ([e].foldl insE [])) ([(⟨#[65]⟩ : ByteArray)] : List ByteArray) = some (relabel (funV (a : Int) ([e].foldl insE [])) labA) := by
    unfold semtyperef1_WithLabels
    rw [sorted_ok [(⟨#[65]⟩ : ByteArray)] (by simp)]
    rfl
  rw [hlab]
  simp only [Option.bind_some]
  have hrl : vOK (relabel (funV (a : Int) ([e].foldl insE [])) labA) = true := vOK_relabel q1 labA_ok
  have hrb := bulk_relabel (funV (a : Int) ([e].foldl insE [])) labA
  have hlb := labA_bulk
  have hmem : ∀ y, y ∈ [e].foldl insE [] ++ [x].foldl insE [] ↔ y ∈ [e, x] := fun y => by
    rw [List.mem_append, mem_fold, mem_fold]
    simp
  have hm1 := merge_ok (relabel (funV (a : Int) ([e].foldl insE [])) labA) (funV (a : Int) ([x].foldl insE [])) rfl hrl (by omega) (by omega) fuel (by omega)
  have hc1 : ((funV (a : Int) ([x].foldl insE [])).Kind == 9 && ((funV (a : Int) ([x].foldl insE [])).Int_ == (relabel (funV (a : Int) ([e].foldl insE [])) labA).Int_ && vOK (funV (a : Int) ([x].foldl insE [])))) = true := by
    rw [q2]
    show ((9 : Int) == 9 && ((a : Int) == (a : Int) && true)) = true
    simp
  rw [if_pos hc1] at hm1
  have hM1 : funV (relabel (funV (a : Int) ([e].foldl insE [])) labA).Int_ (((relabel (funV (a : Int) ([e].foldl insE [])) labA).Entries ++ (funV (a : Int) ([x].foldl insE [])).Entries).foldl insE []) = funV (a : Int) ([e, x].foldl insE []) := by
    show funV (a : Int) (([e].foldl insE [] ++ [x].foldl insE []).foldl insE []) = _
    rw [same_fun hmem]
  rw [hM1] at hm1
  rw [hm1]
  have hm2 := merge_ok (funV (a : Int) ([e].foldl insE [])) raw rfl q1 (by omega) (by omega) fuel (by omega)
  rw [hm2]
  have hm3 : arrow_Merge fuel ([] : List Val) = some (zeroV, 1) := rfl
  rw [hm3]
  have heq : semtyperef1_Equal fuel (funV (a : Int) ([e, x].foldl insE [])) (funV (a : Int) ([e, x].foldl insE [])) = some true := by
    unfold semtyperef1_Equal
    rw [(ref_compare_ok fuel).1 _ _ (by omega) (by omega), cV_self]
    rfl
  have hNN : N < T.Nodes.length := by omega
  rw [memOf_ok hM.gt hr q1 (by omega) N hNN fuel (by omega), memOf_ok hM.gt hr q2 (by omega) N hNN fuel (by omega), ref_valid_ok fuel raw (by omega) (by omega)]
  simp only [Option.bind_some]
  rw [heq, memOf_ok hM.gt hr q3 (by omega) N hNN fuel (by omega)]
  obtain ⟨l0, x0, hl0, _⟩ := fn_at hM (j := 0) (by omega)
  have m1 : memB T (funV (a : Int) ([e].foldl insE [])) (N : Int) = entM (memB T) e l0 := by
    have : memB T (funV (a : Int) ([e].foldl insE [])) (N : Int) = ([e].foldl insE []).all fun e => entM (memB T) e l0 := mem_fun (j := 0) hM x0 hl0 q1 (by omega)
    rw [this, all_fold]; simp
  have m2 : memB T (funV (a : Int) ([x].foldl insE [])) (N : Int) = entM (memB T) x l0 := by
    have : memB T (funV (a : Int) ([x].foldl insE [])) (N : Int) = ([x].foldl insE []).all fun e => entM (memB T) e l0 := mem_fun (j := 0) hM x0 hl0 q2 (by omega)
    rw [this, all_fold]; simp
  have m3 : memB T (funV (a : Int) ([e, x].foldl insE [])) (N : Int) = (entM (memB T) e l0 && entM (memB T) x l0) := by
    have : memB T (funV (a : Int) ([e, x].foldl insE [])) (N : Int) = ([e, x].foldl insE []).all fun e => entM (memB T) e l0 := mem_fun (j := 0) hM x0 hl0 q3 (by omega)
    rw [this, all_fold]; simp
  rw [m1, m2, m3]
  have hInt : (funV (a : Int) ([e].foldl insE [])).Int_ = (a : Int) := rfl
  simp only [Option.bind_some, hInt, bsome, beq_self_eq_true, cond_true]
  generalize entM (memB T) e l0 = A
  generalize entM (memB T) x l0 = B
  generalize (raw.Int_ == (a : Int)) = C
  generalize (raw.Kind == 9) = D
  generalize vOK raw = E
  cases A <;> cases B <;> cases C <;> cases D <;> cases E <;> rfl
end Go.Pl
