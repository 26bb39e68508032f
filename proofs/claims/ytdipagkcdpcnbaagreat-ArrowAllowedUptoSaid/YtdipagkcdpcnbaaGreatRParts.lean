/- The parts and copies of values. No program in sight. -/
import Derived.Test.YtdipagkcdpcnbaaGreatRBase
import Derived.KernelRfl
namespace Go.Pl
open Go Go.RowKit Go.Sx Go.Qx

/-! ### parts -/
def partsE (e : Ent) : List Val := e.Args ++ (if e.Fails then [] else [e.Result])
def partsV (v : Val) : List Val := v.Kids ++ v.Entries.flatMap partsE
theorem bulk_partsE (e : Ent) : bulkVs (partsE e) < bulkE e := by
  rw [bulkE_eq, partsE, bulkVs_app]
  cases e.Fails <;> simp [bulkVs] <;> omega
theorem bulk_flat : ∀ l : List Ent, bulkVs (l.flatMap partsE) ≤ bulkEs l
  | [] => by simp [bulkVs]
  | e :: r => by
    have h1 := bulk_flat r
    have h2 := bulk_partsE e
    simp only [List.flatMap_cons, bulkVs_app, bulkEs]
    omega
theorem bulk_parts (v : Val) : bulkVs (partsV v) < bulkV v := by
  have := bulk_flat v.Entries
  rw [bulkV_eq, partsV, bulkVs_app]
  omega
theorem foldl_app {α β : Type} (f : β → List α) : ∀ (l : List β) (s : List α), l.foldl (fun s x => s ++ f x) s = s ++ l.flatMap f
  | [], s => by simp
  | x :: r, s => by simp only [List.foldl_cons, foldl_app f r, List.flatMap_cons, List.append_assoc]
theorem len_le_bulk (l : List Val) : l.length ≤ bulkVs l := bulkVs_len l

theorem parts_ok (v : Val) (h : bulkV v ≤ 4194304) : value_parts v = some (partsV v) := by
  have hb := bulkV_eq v
  have hk := bulkVs_len v.Kids
  unfold value_parts cloneF
  rw [room_ok (by simp; omega)]
  simp only [Option.bind_some, natLen, bsome]
  have hlen := bulkEs_len v.Entries
  have hloop : iter (value_parts_l1 v) (v.Entries.length + 1) (v.Kids, 0) = some (v.Entries.foldl (fun s e => s ++ partsE e) v.Kids) := by
   refine iter_fold (σ := List Val) v.Entries (fun s i => (s, (i : Int))) (fun s e => s ++ partsE e) (fun i s => s = v.Kids ++ (v.Entries.take i).flatMap partsE) (fun s => s)
     ?_ ?_ v.Kids (by simp) _ (Nat.le_refl _)
   · intro i s e he hI
     have hi : i < v.Entries.length := (List.getElem?_eq_some_iff.1 he).1
     have hmem : e ∈ v.Entries := List.mem_of_getElem? he
     have h1 := bulkEs_mem hmem
     have h2 := bulkE_eq e
     have h3 := bulkVs_len e.Args
     have hs : s.length + e.Args.length + 1 ≤ 8388608 := by
       have : bulkVs s ≤ bulkV v := by
         rw [hI, bulkVs_app]
         have h5 := bulk_flat (v.Entries.take i)
         have h6 : bulkEs (v.Entries.take i) ≤ bulkEs v.Entries := by
           have := List.take_append_drop i v.Entries
           have h7 : ∀ a b : List Ent, bulkEs (a ++ b) = bulkEs a + bulkEs b := by
             intro a b
             induction a with
             | nil => simp [bulkEs]
             | cons x r ih => simp only [List.cons_append, bulkEs, ih]; omega
           have h8 := h7 (v.Entries.take i) (v.Entries.drop i)
           rw [this] at h8
           omega
         omega
       have := bulkVs_len s
       omega
     refine ⟨?_, ?_⟩
     · unfold value_parts_l1
       simp only [bite, wr64]
       rw [if_pos (by simp; omega), idx_at he]
       simp only [Option.bind_some]
       rw [room_ok (by omega)]
       simp only [Option.bind_some]
       have hw : w64 ((i : Int) + 1) = ((i + 1 : Nat) : Int) := by rw [w64_id (by omega) (by omega)]; rfl
       cases hf : e.Fails
       · rw [if_pos (by simp), room_ok (by simp only [List.length_append, List.length_cons, List.length_nil]; omega)]
         simp [partsE, hf, hw]
       · rw [if_neg (by simp)]
         simp [partsE, hf, hw]
     · rw [hI, List.take_add_one, he]
       simp
   · intro s _
     unfold value_parts_l1
     simp
  rw [hloop]
  simp only [foldl_app, partsV]

theorem take_next {α : Type} {l : List α} {i : Nat} {x : α} (h : l[i]? = some x) : l.take (i + 1) = l.take i ++ [x] := by
  rw [List.take_add_one, h]; rfl
end Go.Pl
