/- Plain base and parts. No program in sight. -/
import Derived.Test.YtdipagkcdpcnbaaGreatPu
import Derived.KernelRfl
namespace Go.Pl
open Go Go.RowKit Go.Sx Go.Qx

/-! ### the printed functions' words -/
theorem wr64 (x : Int) : wr .i64 x = w64 x := rfl
theorem bite {α : Type} (b : Bool) (x y : α) : (bif b then x else y) = if b = true then x else y := by cases b <;> rfl
theorem bsome {α : Type} (o : Option α) : (Option.bind o fun x => some x) = o := by cases o <;> rfl
theorem natLen {α : Type} (l : List α) : ((l.length : Int)).toNat = l.length := by omega
theorem natSize (s : ByteArray) : ((s.size : Int)).toNat = s.size := by omega

theorem w64_id {x : Int} (h1 : -9223372036854775808 ≤ x) (h2 : x ≤ 9223372036854775807) : w64 x = x := by
  unfold w64
  rw [IntKind.wrap_i64]
  omega
theorem idx_at {α : Type} {xs : List α} {i : Nat} {x : α} (h : xs[i]? = some x) : idx xs (i : Int) = some x := by
  unfold idx
  rw [if_pos (by omega)]
  simpa using h
theorem room_ok {n bytes : Nat} (h : n * bytes ≤ 140737488355328) : room n bytes = some () := by unfold room; rw [if_pos h]

/-- A loop over the elements of a list: what it leaves is the fold. -/
theorem iter_fold {σ α St β : Type} {step : St → Option (Fl St β)} (xs : List α) (pack : σ → Nat → St) (F : σ → α → σ) (I : Nat → σ → Prop) (D : σ → β)
    (hstep : ∀ i s x, xs[i]? = some x → I i s → step (pack s i) = some (.next (pack (F s x) (i + 1))) ∧ I (i + 1) (F s x))
    (hend : ∀ s, I xs.length s → step (pack s xs.length) = some (.done (D s))) (s0 : σ) (h0 : I 0 s0) (k : Nat) (hk : xs.length + 1 ≤ k) :
    iter step k (pack s0 0) = some (D (xs.foldl F s0)) := by
  have key : ∀ (n i : Nat) (s : σ) (k : Nat), i + n = xs.length → n + 1 ≤ k → I i s → iter step k (pack s i) = some (D ((xs.drop i).foldl F s)) := by
    intro n
    induction n with
    | zero =>
      intro i s k hi hk hI
      have e : i = xs.length := by omega
      subst e
      obtain ⟨k, rfl⟩ : ∃ m, k = m + 1 := ⟨k - 1, by omega⟩
      simp [iter, hend s hI]
    | succ n ih =>
      intro i s k hi hk hI
      have hlt : i < xs.length := by omega
      obtain ⟨k, rfl⟩ : ∃ m, k = m + 1 := ⟨k - 1, by omega⟩
      obtain ⟨h1, h2⟩ := hstep i s xs[i] (List.getElem?_eq_getElem hlt) hI
      rw [List.drop_eq_getElem_cons hlt, List.foldl_cons]
      simp only [iter, h1, Option.bind_some]
      exact ih (i + 1) _ k (by omega) (by omega) h2
  have := key xs.length 0 s0 k (by omega) hk h0
  simpa using this
/-! ### sizes of values -/
def bulkStr (s : ByteArray) : Nat := s.size + 1
def bulkStrs : List ByteArray → Nat
  | [] => 0
  | s :: r => bulkStr s + bulkStrs r
def bulkKey (k : Key) : Nat := 1 + bulkStr k.Text + 1
def bulkKeys : List Key → Nat
  | [] => 0
  | s :: r => bulkKey s + bulkKeys r
mutual
def bulkV : Val → Nat
  | .mk _ _ t kids keys ents labs => 1 + 1 + bulkStr t + (bulkVs kids + 1) + (bulkKeys keys + 1) + (bulkEs ents + 1) + (bulkStrs labs + 1) + 1
def bulkVs : List Val → Nat
  | [] => 0
  | x :: r => bulkV x + bulkVs r
def bulkE : Ent → Nat
  | .mk args _ res => (bulkVs args + 1) + 1 + bulkV res + 1
def bulkEs : List Ent → Nat
  | [] => 0
  | x :: r => bulkE x + bulkEs r
end
theorem bulkV_eq (v : Val) : bulkV v = 1 + 1 + bulkStr v.Text + (bulkVs v.Kids + 1) + (bulkKeys v.Keys + 1) + (bulkEs v.Entries + 1) + (bulkStrs v.Labels + 1) + 1 := by
  cases v; simp only [bulkV, Val.Text, Val.Kids, Val.Keys, Val.Entries, Val.Labels]
theorem bulkE_eq (v : Ent) : bulkE v = (bulkVs v.Args + 1) + 1 + bulkV v.Result + 1 := by
  cases v; simp only [bulkE, Ent.Args, Ent.Result]
theorem bulkVs_mem {x : Val} : ∀ {l : List Val}, x ∈ l → bulkV x ≤ bulkVs l
  | y :: r, h => by
    simp only [bulkVs]
    rcases List.mem_cons.1 h with rfl | h
    · omega
    · have := bulkVs_mem h; omega
theorem bulkEs_mem {x : Ent} : ∀ {l : List Ent}, x ∈ l → bulkE x ≤ bulkEs l
  | y :: r, h => by
    simp only [bulkEs]
    rcases List.mem_cons.1 h with rfl | h
    · omega
    · have := bulkEs_mem h; omega
theorem bulkVs_len : ∀ (l : List Val), l.length ≤ bulkVs l
  | [] => Nat.le_refl _
  | x :: r => by have := bulkVs_len r; have := bulkV_eq x; simp only [bulkVs, List.length_cons]; omega
theorem bulkEs_len : ∀ (l : List Ent), l.length ≤ bulkEs l
  | [] => Nat.le_refl _
  | x :: r => by have := bulkEs_len r; have := bulkE_eq x; simp only [bulkEs, List.length_cons]; omega
theorem bulkKeys_len : ∀ (l : List Key), l.length ≤ bulkKeys l
  | [] => Nat.le_refl _
  | x :: r => by have := bulkKeys_len r; simp only [bulkKeys, bulkKey, List.length_cons]; omega
theorem bulkStrs_len : ∀ (l : List ByteArray), l.length ≤ bulkStrs l
  | [] => Nat.le_refl _
  | x :: r => by have := bulkStrs_len r; simp only [bulkStrs, bulkStr, List.length_cons]; omega
theorem bulkVs_app (l m : List Val) : bulkVs (l ++ m) = bulkVs l + bulkVs m := by
  induction l with
  | nil => simp [bulkVs]
  | cons x r ih => simp only [List.cons_append, bulkVs, ih]; omega
theorem bulkV_pos (v : Val) : 8 ≤ bulkV v := by rw [bulkV_eq]; unfold bulkStr; omega
end Go.Pl
namespace Go.Pl
open Go Go.RowKit Go.Sx Go.Qx

/-! ### parts -/
def partsE (e : Ent) : List Val := e.Args ++ (if e.Fails then [] else [e.Result])
def partsV (v : Val) : List Val := v.Kids ++ v.Entries.flatMap partsE
theorem bulk_partsE (e : Ent) : bulkVs (partsE e) < bulkE e := by
  rw [bulkE_eq, partsE, bulkVs_app]
  cases e.Fails <;> simp [bulkVs] <;> omega
theorem bulk_flat : ∀ l : List Ent, bulkVs (l.flatMap partsE) ≤ bulkEs l
  | [] => by simp [bulkVs]
  | e :: r => by
    have h1 := bulk_flat r
    have h2 := bulk_partsE e
    simp only [List.flatMap_cons, bulkVs_app, bulkEs]
    omega
theorem bulk_parts (v : Val) : bulkVs (partsV v) < bulkV v := by
  have := bulk_flat v.Entries
  rw [bulkV_eq, partsV, bulkVs_app]
  omega
theorem foldl_app {α β : Type} (f : β → List α) : ∀ (l : List β) (s : List α), l.foldl (fun s x => s ++ f x) s = s ++ l.flatMap f
  | [], s => by simp
  | x :: r, s => by simp only [List.foldl_cons, foldl_app f r, List.flatMap_cons, List.append_assoc]
theorem parts_ok (v : Val) (h : bulkV v ≤ 4194304) : value_parts v = some (partsV v) := by
  have hb := bulkV_eq v
  have hk := bulkVs_len v.Kids
  unfold value_parts cloneF
  rw [room_ok (by simp; omega)]
  simp only [Option.bind_some, natLen, bsome]
  have hlen := bulkEs_len v.Entries
  have hloop : iter (value_parts_l1 v) (v.Entries.length + 1) (v.Kids, 0) = some (v.Entries.foldl (fun s e => s ++ partsE e) v.Kids) := by
   refine iter_fold (σ := List Val) v.Entries (fun s i => (s, (i : Int))) (fun s e => s ++ partsE e) (fun i s => s = v.Kids ++ (v.Entries.take i).flatMap partsE) (fun s => s)
     ?_ ?_ v.Kids (by simp) _ (Nat.le_refl _)
   · intro i s e he hI
     have hi : i < v.Entries.length := (List.getElem?_eq_some_iff.1 he).1
     have hmem : e ∈ v.Entries := List.mem_of_getElem? he
     have h1 := bulkEs_mem hmem
     have h2 := bulkE_eq e
     have h3 := bulkVs_len e.Args
     have hs : s.length + e.Args.length + 1 ≤ 8388608 := by
       have : bulkVs s ≤ bulkV v := by
         rw [hI, bulkVs_app]
         have h5 := bulk_flat (v.Entries.take i)
         have h6 : bulkEs (v.Entries.take i) ≤ bulkEs v.Entries := by
           have := List.take_append_drop i v.Entries
           have h7 : ∀ a b : List Ent, bulkEs (a ++ b) = bulkEs a + bulkEs b := by
             intro a b
             induction a with
             | nil => simp [bulkEs]
             | cons x r ih => simp only [List.cons_append, bulkEs, ih]; omega
           have h8 := h7 (v.Entries.take i) (v.Entries.drop i)
           rw [this] at h8
           omega
         omega
       have := bulkVs_len s
       omega
     refine ⟨?_, ?_⟩
     · unfold value_parts_l1
       simp only [bite, wr64]
       rw [if_pos (by simp; omega), idx_at he]
       simp only [Option.bind_some]
       rw [room_ok (by omega)]
       simp only [Option.bind_some]
       have hw : w64 ((i : Int) + 1) = ((i + 1 : Nat) : Int) := by rw [w64_id (by omega) (by omega)]; rfl
       cases hf : e.Fails
       · rw [if_pos (by simp), room_ok (by simp only [List.length_append, List.length_cons, List.length_nil]; omega)]
         simp [partsE, hf, hw]
       · rw [if_neg (by simp)]
         simp [partsE, hf, hw]
     · rw [hI, List.take_add_one, he]
       simp
   · intro s _
     unfold value_parts_l1
     simp
  rw [hloop]
  simp only [foldl_app, partsV]

theorem take_next {α : Type} {l : List α} {i : Nat} {x : α} (h : l[i]? = some x) : l.take (i + 1) = l.take i ++ [x] := by
  rw [List.take_add_one, h]; rfl
end Go.Pl
