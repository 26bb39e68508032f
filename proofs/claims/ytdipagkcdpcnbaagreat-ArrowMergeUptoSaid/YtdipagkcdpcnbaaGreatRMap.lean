/- The reference's maps; variables. No program in sight. -/
import Derived.Test.YtdipagkcdpcnbaaGreatRIns
namespace Go.Pl
open Go Go.RowKit Go.Sx Go.Qx

theorem ref_low_ok (c : UInt8) : semtyperef1_lower (c.toNat : Int) = some (lowC c) := by
  unfold semtyperef1_lower lowC
  cases decide (97 ≤ (c.toNat : Int)) <;> simp
theorem ref_dig_ok (c : UInt8) : semtyperef1_digit (c.toNat : Int) = some (digC c) := by
  unfold semtyperef1_digit digC
  cases decide (48 ≤ (c.toNat : Int)) <;> simp
theorem ref_atom_ok (s : ByteArray) : semtyperef1_IsAtom s = some (atomOK s) := by
  unfold semtyperef1_IsAtom atomOK nameOK
  simp only [bite, natSize]
  have hsz := size_list s
  cases hs : s.data.toList with
  | nil =>
    rw [hs] at hsz
    rw [hsz]
    simp
  | cons c r =>
    rw [hs] at hsz
    simp only [List.length_cons] at hsz
    have e1 : decide ((s.size : Int) < 1) = false := by simp; omega
    rw [e1]
    simp only [Bool.false_eq_true, if_false, Option.bind_some]
    by_cases hb : 16 < (s.size : Int)
    · rw [if_pos (by simpa using hb)]
      have : decide (r.length ≤ 15) = false := by simp; omega
      rw [this]; rfl
    · rw [if_neg (by simpa using hb)]
      have e2 : decide (r.length ≤ 15) = true := by simp; omega
      have e3 : sidx s 0 = some c := sidx_at (i := 0) (by rw [hs]; rfl)
      rw [e2, e3]
      simp only [Option.bind_some, ref_low_ok, Bool.true_and]
      cases lowC c
      · rfl
      · simp only [Bool.not_true, Bool.false_eq_true, if_false, Bool.true_and]
        refine all_from s.size (fun i => match s.data.toList[i]? with | some x => (lowC x || digC x || (x.toNat : Int) == 95) | none => true) ?_ ?_ 1 _ ?_
        · intro i hi
          have hi' : i < s.data.toList.length := by rw [hs]; simp; omega
          unfold semtyperef1_IsAtom_l1
          simp only [bite, wr64]
          rw [if_pos (by simp; omega), sidx_at (List.getElem?_eq_getElem hi')]
          simp only [Option.bind_some, ref_low_ok, ref_dig_ok]
          rw [List.getElem?_eq_getElem hi', w64_succ i (by omega)]
          generalize s.data.toList[i] = x
          have hn : ((x.toNat : Int) != 95) = !((x.toNat : Int) == 95) := rfl
          rw [hn]
          show _ = some (if (lowC x || digC x || (x.toNat : Int) == 95) = true then _ else _)
          cases lowC x <;> cases digC x <;> cases (x.toNat : Int) == 95 <;> rfl
        · intro i hi
          unfold semtyperef1_IsAtom_l1
          rw [bite, if_neg (by simp; omega)]
        · rw [hs, List.all_eq_true]
          constructor
          · intro h i h1 hi
            obtain ⟨i, rfl⟩ : ∃ m, i = m + 1 := ⟨i - 1, by omega⟩
            have hr : i < r.length := by omega
            simp only [List.getElem?_cons_succ, List.getElem?_eq_getElem hr]
            exact h _ (List.getElem_mem hr)
          · intro h x hx
            obtain ⟨i, hi, rfl⟩ := List.getElem_of_mem hx
            have := h (i + 1) (by omega) (by omega)
            simpa only [List.getElem?_cons_succ, List.getElem?_eq_getElem hi] using this
theorem ref_key_ok (k : Key) : semtyperef1_ValidKey k = some (keyOK k) := by
  unfold semtyperef1_ValidKey keyOK
  rw [ref_atom_ok]
  by_cases h : k.Kind = 0
  · cases atomOK k.Text <;> simp [h]
  · by_cases h1 : k.Kind = 1
    · simp [h1]
    · have e0 : (k.Kind == 0) = false := by simpa using h
      have e1 : (k.Kind == 1) = false := by simpa using h1
      rw [e0, e1, if_neg h, if_neg h1]
      rfl

/-! ### keys -/
theorem cK_lx (a b : Key) : cK a b = lx (eK a) (eK b) := by
  have := pfK a b [] []
  simpa [lx, tn_zero] using this.symm
theorem cK_anti (a b : Key) : cK b a = - cK a b := by rw [cK_lx, cK_lx]; exact lx_anti _ _
def keyEq (a b : Key) : Bool := eqD_114 a b
theorem keyEq_def (a b : Key) : keyEq a b = ((a.Kind == b.Kind) && strEq a.Text b.Text) := by unfold keyEq eqD_114; simp
theorem keyEq_iff (a b : Key) : keyEq a b = true ↔ cK a b = 0 := by
  rw [keyEq_def]
  unfold cK
  rcases cI_cases a.Kind b.Kind with ⟨h, e⟩ | ⟨h, e⟩ | ⟨h, e⟩
  · have : (a.Kind == b.Kind) = false := by simp; omega
    simp [this, e, tn]
  · have : (a.Kind == b.Kind) = false := by simp; omega
    simp [this, e, tn]
  · rw [h]
    rw [h] at e
    rcases str_tells a.Text b.Text with ⟨_, p, q⟩ | ⟨_, p, q⟩ | ⟨_, p, q⟩ <;> simp [p, q, e, tn]
abbrev under (k : Key) : Key → Bool := fun y => decide (cK y k < 0)
def insM (s : List Val × List Key) (x : Key × Val) : Option (List Val × List Key) :=
  if ((s.2.dropWhile (under x.1)).head?.map fun y => keyEq y x.1) = some true then none
  else some (s.1.take (s.2.takeWhile (under x.1)).length ++ [x.2] ++ s.1.drop (s.2.takeWhile (under x.1)).length, insAt (under x.1) x.1 s.2)
def mapIns : List (Key × Val) → List Val × List Key → Option (List Val × List Key)
  | [], s => some s
  | x :: r, s => (insM s x).bind (mapIns r)
/-- The cells of a map that is being put together. -/
abbrev mcell (s : List Val × List Key) : Cell := (8, 0, (⟨#[]⟩ : ByteArray), s.1, s.2, [], [])
theorem map_step (keys : List Key) (l : List Val) (i : Nat) (k : Key) (x : Val) (hk : keys[i]? = some k) (hx : l[i]? = some x) (s : List Val × List Key) (hs : s.1.length = s.2.length) (hl : s.2.length ≤ 4194304) (hi : i ≤ 4194304) :
    ∃ y, semtyperef1_Map_l3 keys l ((i : Int), cell0, mcell s) = some (match insM s (k, x) with | some t => .next (((i + 1 : Nat) : Int), cell0, mcell t) | none => .done (.inr (6, cell0, y))) := by
  refine ⟨mcell s, ?_⟩
  have hlt : i < keys.length := (List.getElem?_eq_some_iff.1 hk).1
  have hik : idx keys (i : Int) = some k := idx_at hk
  have hix : idx l (i : Int) = some x := idx_at hx
  unfold semtyperef1_Map_l3
  simp only [natLen]
  rw [pos_ok (step := semtyperef1_Map_l2 keys ((i : Int), cell0, mcell s)) s.2 (under k) ?_ ?_]
  · simp only [bite, wr64]
    rw [if_pos (by simp; omega)]
    simp only [Option.bind_some, hik, hix]
    have hp := tw_len (under k) s.2
    have hat := tw_at (under k) s.2
    have rmk : ∀ n, n ≤ 4194305 → room n 24 = some () := fun n hn => room_ok (by omega)
    have rmv : ∀ n, n ≤ 4194305 → room n 128 = some () := fun n hn => room_ok (by omega)
    have h1 := insAt_len (under k) k s.2
    simp only [insAt, List.length_append, List.length_singleton] at h1
    have go : (Option.bind (cut s.2 0 ((s.2.takeWhile (under k)).length : Int)) fun u => Option.bind (room (0 + u.length) 24) fun _ =>
      Option.bind (cut s.1 0 ((s.2.takeWhile (under k)).length : Int)) fun u2 => Option.bind (semtyperef1_copies u2) fun r2 =>
      Option.bind (room (u.length + [k].length) 24) fun _ => Option.bind (cut s.2 ((s.2.takeWhile (under k)).length : Int) (s.2.length : Int)) fun w =>
      Option.bind (room ((u ++ [k]).length + w.length) 24) fun _ => Option.bind (room (r2.length + [x].length) 128) fun _ =>
      Option.bind (cut s.1 ((s.2.takeWhile (under k)).length : Int) (s.1.length : Int)) fun w2 => Option.bind (room ((r2 ++ [x]).length + w2.length) 128) fun _ =>
      some (Fl.next (w64 ((i : Int) + 1), cell0, mcell ((r2 ++ [x]) ++ w2, (u ++ [k]) ++ w)))) = some (Fl.next (((i + 1 : Nat) : Int), cell0, mcell (s.1.take (s.2.takeWhile (under k)).length ++ [x] ++ s.1.drop (s.2.takeWhile (under k)).length, insAt (under k) k s.2)) : Fl (Int × Cell × Cell) (Sum (Cell × Cell) (Int × Cell × Cell))) := by
      have ht : (s.1.take (s.2.takeWhile (under k)).length).length ≤ 4194304 := by rw [List.length_take]; omega
      have hd : (s.1.take (s.2.takeWhile (under k)).length).length + (s.1.drop (s.2.takeWhile (under k)).length).length = s.1.length := by rw [List.length_take, List.length_drop]; omega
      rw [cut_lo s.2 hp, cut_hi s.2 hp, cut_lo s.1 (by omega), cut_hi s.1 (by omega), take_tw, drop_tw]
      unfold semtyperef1_copies
      simp only [Option.bind_some]
      rw [rmk _ (by simp; omega), rmv _ (by simp; omega)]
      simp only [Option.bind_some]
      rw [rmk _ (by simp; omega), rmk _ (by simp only [List.length_append, List.length_singleton]; omega), rmv _ (by simp; omega), rmv _ (by simp only [List.length_append, List.length_singleton]; omega), w64_succ i (by omega)]
      rfl
    unfold insM
    cases hh : (s.2.dropWhile (under k)).head? with
    | none =>
      rw [hh] at hat
      have hge := List.getElem?_eq_none_iff.1 hat
      rw [if_neg (by simp; omega), if_neg (by simp)]
      exact go
    | some y =>
      rw [hh] at hat
      have hlt2 := (List.getElem?_eq_some_iff.1 hat).1
      rw [if_pos (by simp; omega), idx_at hat]
      simp only [Option.bind_some, Option.map_some]
      cases hq : keyEq y k
      · unfold keyEq at hq
        rw [hq, if_neg (by simp), if_neg (by simp)]
        exact go
      · unfold keyEq at hq
        rw [hq, if_pos rfl, if_pos rfl]
  · intro j y hy
    have hj : j < s.2.length := (List.getElem?_eq_some_iff.1 hy).1
    unfold semtyperef1_Map_l2
    simp only [bite, wr64]
    rw [if_pos (by simp; omega), idx_at hy, hik]
    simp only [Option.bind_some, ref_keys_ok, w64_succ j (by omega)]
    by_cases h : cK y k < 0 <;> simp [h]
  · unfold semtyperef1_Map_l2
    simp
theorem insM_len {s t : List Val × List Key} {x : Key × Val} (h : insM s x = some t) (hs : s.1.length = s.2.length) : t.1.length = t.2.length ∧ t.2.length = s.2.length + 1 := by
  unfold insM at h
  split at h
  · cases h
  · cases h
    have h1 := insAt_len (under x.1) x.1 s.2
    have hp := tw_len (under x.1) s.2
    refine ⟨?_, h1⟩
    rw [h1]
    simp only [List.length_append, List.length_singleton, List.length_take, List.length_drop]
    omega
theorem map_loop (keys : List Key) (l : List Val) (hkl : keys.length = l.length) (hl : keys.length ≤ 4194304) :
    ∃ y, iter (semtyperef1_Map_l3 keys l) (keys.length + 1) (0, cell0, mcell ([], [])) = some (match mapIns (keys.zip l) ([], []) with | some t => .inl (cell0, mcell t) | none => .inr (6, cell0, y)) := by
  have key : ∀ (m i k : Nat) (s : List Val × List Key), i + m = keys.length → m + 1 ≤ k → s.1.length = s.2.length → s.2.length ≤ i →
      ∃ y, iter (semtyperef1_Map_l3 keys l) k ((i : Int), cell0, mcell s) = some (match mapIns ((keys.drop i).zip (l.drop i)) s with | some t => .inl (cell0, mcell t) | none => .inr (6, cell0, y)) := by
    intro m
    induction m with
    | zero =>
      intro i k s h1 h2 hs hn
      obtain ⟨k, rfl⟩ : ∃ m, k = m + 1 := ⟨k - 1, by omega⟩
      have e : i = keys.length := by omega
      subst e
      rw [List.drop_length, List.zip_nil_left]
      have : semtyperef1_Map_l3 keys l ((keys.length : Int), cell0, mcell s) = some (.done (.inl (cell0, mcell s))) := by
        unfold semtyperef1_Map_l3
        simp
      exact ⟨cell0, by simp only [iter, this, mapIns, Option.bind_some]⟩
    | succ m ih =>
      intro i k s h1 h2 hs hn
      obtain ⟨k, rfl⟩ : ∃ m, k = m + 1 := ⟨k - 1, by omega⟩
      have hlt : i < keys.length := by omega
      have hlt2 : i < l.length := by omega
      rw [List.drop_eq_getElem_cons hlt, List.drop_eq_getElem_cons hlt2, List.zip_cons_cons]
      obtain ⟨y, hy⟩ := map_step keys l i _ _ (List.getElem?_eq_getElem hlt) (List.getElem?_eq_getElem hlt2) s hs (by omega) (by omega)
      simp only [iter, hy, mapIns]
      cases hi : insM s (keys[i], l[i]) with
      | none => exact ⟨y, by simp⟩
      | some t =>
        obtain ⟨h3, h4⟩ := insM_len hi hs
        simp only [Option.bind_some]
        exact ih (i + 1) k t (by omega) (by omega) h3 (by omega)
  obtain ⟨y, hy⟩ := key keys.length 0 (keys.length + 1) ([], []) (by omega) (Nat.le_refl _) rfl (Nat.le_refl _)
  exact ⟨y, by simpa using hy⟩
def mapV (s : List Val × List Key) : Val := Val.mk 8 0 (⟨#[]⟩) s.1 s.2 ([] : List Ent) ([] : List ByteArray)
theorem ref_map_ok (keys : List Key) (l : List Val) (hl : keys.length ≤ 4194304) :
    semtyperef1_Map keys l = some (if keys.length = l.length ∧ keys.all keyOK = true then (match mapIns (keys.zip l) ([], []) with | some t => ((mapV t, 0) : Val × Int) | none => (zeroV, 6)) else (zeroV, 1)) := by
  unfold semtyperef1_Map
  simp only [natLen]
  by_cases hkl : keys.length = l.length
  · have e1 : ((keys.length : Int) != (l.length : Int)) = false := by simp; omega
    rw [e1]
    have k1 := first_ok (step := semtyperef1_Map_l1 keys) keys keyOK (fun i => ((i : Int), cell0)) cell0 (1, cell0) ?_ ?_
    · obtain ⟨y, hy⟩ := map_loop keys l hkl hl
      have e2 : iter (semtyperef1_Map_l1 keys) (keys.length + 1) (0, (0, 0, (⟨#[]⟩ : ByteArray), [], [], [], [])) = iter (semtyperef1_Map_l1 keys) (keys.length + 1) (((0 : Nat) : Int), cell0) := rfl
      rw [e2, k1]
      by_cases ha : keys.all keyOK = true
      · rw [if_pos ha, if_pos ⟨hkl, ha⟩]
        simp only [Option.bind_some, onEnd, cond_false]
        rw [hy]
        cases mapIns (keys.zip l) ([], []) <;> rfl
      · rw [if_neg ha, if_neg (fun h => ha h.2)]
        rfl
    · intro i x hx
      have hi : i < keys.length := (List.getElem?_eq_some_iff.1 hx).1
      unfold semtyperef1_Map_l1
      simp only [bite, wr64]
      rw [if_pos (by simp; omega), idx_at hx]
      simp only [Option.bind_some, ref_key_ok, w64_succ i (by omega)]
      cases keyOK x <;> rfl
    · unfold semtyperef1_Map_l1
      simp
  · have e1 : ((keys.length : Int) != (l.length : Int)) = true := by simp; omega
    rw [e1, if_neg (fun h => hkl h.1)]
    rfl

/-! ### what the insertions keep -/
theorem bulkKeys_app (a b : List Key) : bulkKeys (a ++ b) = bulkKeys a + bulkKeys b := by
  induction a with
  | nil => simp [bulkKeys]
  | cons x r ih => simp only [List.cons_append, bulkKeys, ih]; omega
theorem insM_keeps {s t : List Val × List Key} {x : Key × Val} (h : insM s x = some t) (ha : asc cK s.2 = true) :
    asc cK t.2 = true ∧ (∀ y ∈ t.2, y = x.1 ∨ y ∈ s.2) ∧ (∀ y ∈ t.1, y = x.2 ∨ y ∈ s.1) ∧ bulkVs t.1 = bulkVs s.1 + bulkV x.2 ∧ bulkKeys t.2 = bulkKeys s.2 + bulkKey x.1 := by
  unfold insM at h
  split at h
  · cases h
  · rename_i hne
    cases h
    refine ⟨ins_asc cK cK_anti x.1 s.2 ha ?_, fun y hy => insAt_mem hy, fun y hy => ?_, ?_, ?_⟩
    · intro y hy h0
      rw [hy] at hne
      simp only [Option.map_some] at hne
      exact hne (congrArg some ((keyEq_iff y x.1).2 h0))
    · simp only [List.mem_append, List.mem_singleton] at hy
      rcases hy with (hy | hy) | hy
      · exact .inr (List.mem_of_mem_take hy)
      · exact .inl hy
      · exact .inr (List.mem_of_mem_drop hy)
    · have e := congrArg bulkVs (List.take_append_drop (s.2.takeWhile (under x.1)).length s.1)
      rw [bulkVs_app] at e
      simp only [bulkVs_app, bulkVs]
      omega
    · have e := congrArg bulkKeys (List.takeWhile_append_dropWhile (p := under x.1) (l := s.2))
      rw [bulkKeys_app] at e
      simp only [insAt, bulkKeys_app, bulkKeys]
      omega
def bulkZ : List (Key × Val) → Nat
  | [] => 0
  | x :: r => bulkKey x.1 + bulkV x.2 + bulkZ r
theorem mapIns_keeps : ∀ (xs : List (Key × Val)) (s t : List Val × List Key), mapIns xs s = some t → asc cK s.2 = true → s.1.length = s.2.length →
    asc cK t.2 = true ∧ t.1.length = t.2.length ∧ t.2.length = s.2.length + xs.length ∧ (∀ y ∈ t.2, y ∈ s.2 ∨ ∃ x ∈ xs, y = x.1) ∧ (∀ y ∈ t.1, y ∈ s.1 ∨ ∃ x ∈ xs, y = x.2) ∧ bulkVs t.1 + bulkKeys t.2 = bulkVs s.1 + bulkKeys s.2 + bulkZ xs
  | [], s, t, h, ha, hl => by
    cases h
    exact ⟨ha, hl, rfl, fun y hy => .inl hy, fun y hy => .inl hy, rfl⟩
  | x :: r, s, t, h, ha, hl => by
    simp only [mapIns] at h
    obtain ⟨u, hu, h⟩ := Option.bind_eq_some_iff.1 h
    obtain ⟨k1, k2, k3, k4, k5⟩ := insM_keeps hu ha
    obtain ⟨l1, l2⟩ := insM_len hu hl
    obtain ⟨m1, m2, m3, m4, m5, m6⟩ := mapIns_keeps r u t h k1 l1
    refine ⟨m1, m2, by rw [m3, l2, List.length_cons]; omega, fun y hy => ?_, fun y hy => ?_, by simp only [bulkZ]; omega⟩
    · rcases m4 y hy with hy | ⟨z, hz, rfl⟩
      · rcases k2 y hy with rfl | hy
        · exact .inr ⟨x, by simp, rfl⟩
        · exact .inl hy
      · exact .inr ⟨z, by simp [hz], rfl⟩
    · rcases m5 y hy with hy | ⟨z, hz, rfl⟩
      · rcases k3 y hy with rfl | hy
        · exact .inr ⟨x, by simp, rfl⟩
        · exact .inl hy
      · exact .inr ⟨z, by simp [hz], rfl⟩
end Go.Pl
namespace Go.Pl
open Go Go.RowKit Go.Sx Go.Qx

theorem ref_up_ok (c : UInt8) : semtyperef1_upper (c.toNat : Int) = some (upC c) := by
  unfold semtyperef1_upper upC
  cases decide (65 ≤ (c.toNat : Int)) <;> simp
theorem ref_var_ok (s : ByteArray) : semtyperef1_IsVariable s = some (varOK s) := by
  unfold semtyperef1_IsVariable varOK nameOK
  simp only [bite, natSize]
  have hsz := size_list s
  cases hs : s.data.toList with
  | nil =>
    rw [hs] at hsz
    rw [hsz]
    simp
  | cons c r =>
    rw [hs] at hsz
    simp only [List.length_cons] at hsz
    have e1 : decide ((s.size : Int) < 1) = false := by simp; omega
    rw [e1]
    simp only [Bool.false_eq_true, if_false, Option.bind_some]
    by_cases hb : 16 < (s.size : Int)
    · rw [if_pos (by simpa using hb)]
      have : decide (r.length ≤ 15) = false := by simp; omega
      rw [this]; rfl
    · rw [if_neg (by simpa using hb)]
      have e2 : decide (r.length ≤ 15) = true := by simp; omega
      have e3 : sidx s 0 = some c := sidx_at (i := 0) (by rw [hs]; rfl)
      rw [e2, e3]
      simp only [Option.bind_some, ref_up_ok, Bool.true_and]
      cases upC c
      · rfl
      · simp only [Bool.not_true, Bool.false_eq_true, if_false, Bool.true_and]
        refine all_from s.size (fun i => match s.data.toList[i]? with | some x => (lowC x || upC x || digC x || (x.toNat : Int) == 95) | none => true) ?_ ?_ 1 _ ?_
        · intro i hi
          have hi' : i < s.data.toList.length := by rw [hs]; simp; omega
          unfold semtyperef1_IsVariable_l1
          simp only [bite, wr64]
          rw [if_pos (by simp; omega), sidx_at (List.getElem?_eq_getElem hi')]
          simp only [Option.bind_some, ref_low_ok, ref_dig_ok, ref_up_ok]
          rw [List.getElem?_eq_getElem hi', w64_succ i (by omega)]
          generalize s.data.toList[i] = x
          have hn : ((x.toNat : Int) != 95) = !((x.toNat : Int) == 95) := rfl
          rw [hn]
          show _ = some (if (lowC x || upC x || digC x || (x.toNat : Int) == 95) = true then _ else _)
          cases lowC x <;> cases upC x <;> cases digC x <;> cases (x.toNat : Int) == 95 <;> rfl
        · intro i hi
          unfold semtyperef1_IsVariable_l1
          rw [bite, if_neg (by simp; omega)]
        · rw [hs, List.all_eq_true]
          constructor
          · intro h i h1 hi
            obtain ⟨i, rfl⟩ : ∃ m, i = m + 1 := ⟨i - 1, by omega⟩
            have hr : i < r.length := by omega
            simp only [List.getElem?_cons_succ, List.getElem?_eq_getElem hr]
            exact h _ (List.getElem_mem hr)
          · intro h x hx
            obtain ⟨i, hi, rfl⟩ := List.getElem_of_mem hx
            have := h (i + 1) (by omega) (by omega)
            simpa only [List.getElem?_cons_succ, List.getElem?_eq_getElem hi] using this
end Go.Pl
