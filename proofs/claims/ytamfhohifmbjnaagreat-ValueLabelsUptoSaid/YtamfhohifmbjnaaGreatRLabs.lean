/- The law of labels. No program in sight. -/
import Derived.Test.YtamfhohifmbjnaaGreatRLabC
import Derived.Test.YtamfhohifmbjnaaGreatRDraw
namespace Go.Pl
open Go Go.RowKit Go.Sx Go.Qx

theorem bulkStrs_app (a b : List ByteArray) : bulkStrs (a ++ b) = bulkStrs a + bulkStrs b := by
  induction a with
  | nil => simp [bulkStrs]
  | cons x r ih => simp only [List.cons_append, bulkStrs, ih]; omega
theorem insU_bulk (out : List ByteArray) (x : ByteArray) : bulkStrs (insU cS out x) ≤ bulkStrs out + bulkStr x := by
  have hk : ∀ p : ByteArray → Bool, bulkStrs (insAt p x out) = bulkStrs out + bulkStr x := fun p => by
    have e := congrArg bulkStrs (List.takeWhile_append_dropWhile (p := p) (l := out))
    rw [bulkStrs_app] at e
    simp only [insAt, bulkStrs_app, bulkStrs]
    omega
  unfold insU
  split
  · split
    · omega
    · rw [hk]; omega
  · rw [hk]; omega
theorem foldU_bulk : ∀ (l out : List ByteArray), bulkStrs (l.foldl (insU cS) out) ≤ bulkStrs out + bulkStrs l
  | [], out => by simp [bulkStrs]
  | x :: r, out => by
    have h1 := foldU_bulk r (insU cS out x)
    have h2 := insU_bulk out x
    simp only [List.foldl_cons, bulkStrs]
    omega
def labsOf (t : List ByteArray) : List ByteArray := t.foldl (insU cS) []
theorem withV_ok (fuel : Nat) (v : Val) (t : List ByteArray) (hf : 2 * bulkV v ≤ fuel) (hb : bulkV v ≤ 4194304) (ht : t.length ≤ 4194304) : value_WithLabels fuel v t = some (relabel v (labsOf t)) := by
  unfold value_WithLabels
  rw [show value_clone fuel v = some v from (clone_ok fuel).1 v hf hb]
  have h := labsV_ok t ht
  have e : ∀ (k : List ByteArray → Option Val), (Option.bind (cloneF 16 t) fun r2 => Option.bind (sortStr r2) fun r3 => Option.bind (slices_Compact_string_string r3.2) fun r4 => Option.bind (slices_Clip_string_string r4) k) =
      Option.bind (Option.bind (cloneF 16 t) fun r2 => Option.bind (sortStr r2) fun r3 => Option.bind (slices_Compact_string_string r3.2) fun r4 => slices_Clip_string_string r4) k := fun k => by
    simp only [Option.bind_assoc]
  simp only [Option.bind_some]
  rw [e, h]
  rfl
theorem withR_ok (v : Val) (t : List ByteArray) (ht : t.length ≤ 4194304) : semtyperef1_WithLabels v t = some (relabel v (labsOf t)) := by
  unfold semtyperef1_WithLabels
  rw [sorted_ok t ht]
  rfl
theorem vOK_relabel_eq {v : Val} {l : List ByteArray} (h : vOK v = true) : vOK (relabel v l) = labelsOK l := by
  cases v
  simp only [vOK, nodeOK, Bool.and_eq_true, relabel, mkK, mkI, mkT, mkD, mkY, mkE, mkL] at h ⊢
  obtain ⟨⟨_, h1, h2⟩, h3, h4⟩ := h
  have e1 : ∀ x y z, fieldsOK (Val.mk x y z ‹_› ‹_› ‹_› l) = fieldsOK (Val.mk x y z ‹_› ‹_› ‹_› ‹_›) := fun _ _ _ => rfl
  rw [show fieldsOK (Val.mk _ _ _ _ _ _ l) = true from h1, show kindOK (Val.mk _ _ _ _ _ _ l) = true from h2, h3, h4]
  simp
theorem labs_ok (t : List ByteArray) : labelsOK (labsOf t) = t.all varOK := by
  obtain ⟨h1, h2⟩ := setU cmpS t
  unfold labelsOK labsOf
  rw [h1, Bool.true_and, Bool.eq_iff_iff, List.all_eq_true, List.all_eq_true]
  exact ⟨fun h x hx => h x ((h2 x).2 hx), fun h x hx => h x ((h2 x).1 hx)⟩
theorem unl_relabel (v : Val) (l : List ByteArray) : unlV (relabel v l) = unlV v := by rw [unlV_eq, unlV_eq v]; rfl
theorem good_loop (t : List ByteArray) (ht : t.length ≤ 4194304) : iter (semtypelaw4_ValueLabels_l1 t) (t.length + 1) (true, 0) = some (t.all varOK) := by
  have key := iter_fold (σ := Bool) (step := semtypelaw4_ValueLabels_l1 t) t (fun s i => (s, (i : Int))) (fun s x => s && varOK x) (fun _ _ => True) (fun s => s)
    (fun i s x hx _ => by
      have hi : i < t.length := (List.getElem?_eq_some_iff.1 hx).1
      refine ⟨?_, trivial⟩
      unfold semtypelaw4_ValueLabels_l1
      simp only [bite, wr64]
      rw [if_pos (by simp; omega), idx_at hx]
      simp only [Option.bind_some, ref_var_ok]
      rw [w64_succ i (by omega)]
      cases s <;> rfl)
    (fun s _ => by
      unfold semtypelaw4_ValueLabels_l1
      simp) true trivial (t.length + 1) (Nat.le_refl _)
  have e : iter (semtypelaw4_ValueLabels_l1 t) (t.length + 1) (true, 0) = some (t.foldl (fun s x => s && varOK x) true) := key
  rw [e]
  congr 1
  have hh : ∀ (l : List ByteArray) (b : Bool), l.foldl (fun s x => s && varOK x) b = (b && l.all varOK) := by
    intro l
    induction l with
    | nil => intro b; simp
    | cons x r ih => intro b; rw [List.foldl_cons, ih, List.all_cons, Bool.and_assoc]
  rw [hh]
  rfl
theorem law_labels (fuel : Nat) (hf : 8388608 ≤ fuel) (d : List Int) (t : List ByteArray) (hb : bulkStrs t ≤ 1048576) : semtypelaw4_ValueLabels fuel d t = some true := by
  obtain ⟨q, hq⟩ : ∃ q, fuel = q + 20 := ⟨fuel - 20, by omega⟩
  have haw : semtypelaw4_awake fuel = some true := by rw [hq]; exact awake_ok q
  have htl := bulkStrs_len t
  unfold semtypelaw4_ValueLabels
  by_cases h1 : 80 < (d.length : Int)
  · have e1 : decide (80 < (d.length : Int)) = true := by simpa using h1
    rw [e1, haw]; rfl
  by_cases h2 : 8 < (t.length : Int)
  · have e1 : decide (80 < (d.length : Int)) = false := by simpa using h1
    have e2 : decide (8 < (t.length : Int)) = true := by simpa using h2
    rw [e1, e2, haw]; rfl
  have e1 : decide (80 < (d.length : Int)) = false := by simpa using h1
  have e2 : decide (8 < (t.length : Int)) = false := by simpa using h2
  rw [e1, e2, natLen]
  simp only [cond_false, Option.bind_some]
  obtain ⟨v, ev, hv, hvb⟩ := drawn_ok fuel (by omega) d (by omega)
  have hw : bulkV (relabel v (labsOf t)) ≤ 1100000 := by
    have a := bulk_relabel v (labsOf t)
    have b : bulkStrs (labsOf t) ≤ bulkStrs t := by
      have := foldU_bulk t []
      simpa [bulkStrs, labsOf] using this
    omega
  have hu := bulk_unlV v
  have heq : ∀ x y : Val, x = y → bulkV x ≤ 4194304 → semtyperef1_Equal fuel x y = some true := by
    intro x y e hx
    subst e
    unfold semtyperef1_Equal
    rw [(ref_compare_ok fuel).1 x x (by omega) hx, cV_self]
    rfl
  rw [ev]
  simp only [Option.bind_some]
  rw [withV_ok fuel v t (by omega) (by omega) (by omega), good_loop t (by omega), unl_ok fuel v (by omega) (by omega), withR_ok v t (by omega)]
  simp only [Option.bind_some]
  rw [heq _ _ rfl (by omega), validate_ok fuel (relabel v (labsOf t)) (by omega) (by omega), vOK_relabel_eq hv, labs_ok, validate_ok fuel (unlV v) (by omega) (by omega), (vOK_unl _).1 v (Nat.le_refl _) hv,
    ref_unl_ok fuel v (by omega) (by omega), unl_ok fuel (relabel v (labsOf t)) (by omega) (by omega), unl_ok fuel (unlV v) (by omega) (by omega)]
  simp only [Option.bind_some]
  rw [heq _ _ rfl (by omega), heq _ _ (unl_relabel v (labsOf t)) (by rw [unl_relabel]; omega), heq _ _ (unl_unl v) (by rw [unl_unl]; omega), haw]
  cases t.all varOK <;> rfl
end Go.Pl
