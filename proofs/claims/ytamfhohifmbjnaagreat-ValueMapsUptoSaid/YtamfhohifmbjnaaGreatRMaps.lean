/- The law of maps: the constructor answers as the reference's, and what it makes is valid. No program in sight. -/
import Derived.Test.YtamfhohifmbjnaaGreatRMapA
namespace Go.Pl
open Go Go.RowKit Go.Sx Go.Qx

theorem clone1 (fuel : Nat) (v : Val) (h : 2 * bulkV v ≤ fuel) (hb : bulkV v ≤ 4194304) : value_clone fuel v = some v := (clone_ok fuel).1 v h hb

/-! ### the places -/
def rng (n : Nat) : List Int := (List.range n).map fun i : Nat => (i : Int)
theorem rng_succ (n : Nat) : rng (n + 1) = rng n ++ [(n : Int)] := by simp [rng, List.range_succ]
theorem rng_len (n : Nat) : (rng n).length = n := by simp [rng]
theorem rng_mem {n : Nat} {x : Int} (h : x ∈ rng n) : ∃ i : Nat, i < n ∧ x = (i : Int) := by
  obtain ⟨i, hi, e⟩ := List.mem_map.1 h
  exact ⟨i, List.mem_range.1 hi, e.symm⟩
theorem rng_loop (keys : List Key) (hl : keys.length ≤ 4194304) : iter (value_Map_l2 keys) (keys.length + 1) ([], 0) = some (rng keys.length) := by
  have key : ∀ (m i k : Nat), i + m = keys.length → m + 1 ≤ k → iter (value_Map_l2 keys) k (rng i, (i : Int)) = some (rng keys.length) := by
    intro m
    induction m with
    | zero =>
      intro i k h1 h2
      obtain ⟨k, rfl⟩ : ∃ m, k = m + 1 := ⟨k - 1, by omega⟩
      have e : i = keys.length := by omega
      subst e
      have : value_Map_l2 keys (rng keys.length, (keys.length : Int)) = some (.done (rng keys.length)) := by
        unfold value_Map_l2
        simp
      simp only [iter, this, Option.bind_some]
    | succ m ih =>
      intro i k h1 h2
      obtain ⟨k, rfl⟩ : ∃ m, k = m + 1 := ⟨k - 1, by omega⟩
      have : value_Map_l2 keys (rng i, (i : Int)) = some (.next (rng (i + 1), ((i + 1 : Nat) : Int))) := by
        unfold value_Map_l2
        simp only [bite, wr64]
        rw [if_pos (by simp; omega), room_ok (by rw [rng_len]; simp; omega), rng_succ, w64_succ i (by omega)]
        rfl
      simp only [iter, this, Option.bind_some]
      exact ih (i + 1) k (by omega) (by omega)
  exact key keys.length 0 (keys.length + 1) (by omega) (Nat.le_refl _)

/-! ### the loop that puts the map together -/
theorem vmap_step (fuel : Nat) (keys : List Key) (l : List Val) (r : Unit × List Int) (i : Nat) (z : Int) (k : Key) (x : Val) (hz : r.2[i]? = some z) (hk : idx keys z = some k) (hx : idx l z = some x) (hc : value_clone fuel x = some x)
    (s : List Val × List Key) (hs : s.1.length = s.2.length) (hl : s.2.length ≤ 4194304) (hi : i ≤ 4194304) :
    value_Map_l3 keys l r fuel ((i : Int), cell0, mcell s) = some (match appM s (k, x) with | some t => .next (((i + 1 : Nat) : Int), cell0, mcell t) | none => .done (.inr (6, cell0, mcell s))) := by
  have hlt : i < r.2.length := (List.getElem?_eq_some_iff.1 hz).1
  have hiz : idx r.2 (i : Int) = some z := idx_at hz
  unfold value_Map_l3
  simp only [bite, wr64]
  rw [if_pos (by simp; omega), hiz]
  simp only [Option.bind_some, hk, hx, hc]
  have rmk : room (s.2.length + [k].length) 24 = some () := room_ok (by simp; omega)
  have rmv : room (s.1.length + [x].length) 128 = some () := room_ok (by simp; omega)
  rw [rmk, rmv, w64_succ i (by omega)]
  simp only [Option.bind_some]
  unfold appM
  cases hg : s.2.getLast? with
  | none =>
    have e := List.getLast?_eq_none_iff.1 hg
    rw [if_neg (by simp [e]), if_neg (by simp)]
    rfl
  | some y =>
    have hgl := hg
    rw [List.getLast?_eq_getElem?] at hgl
    have hpos : s.2.length - 1 < s.2.length := (List.getElem?_eq_some_iff.1 hgl).1
    have ew : w64 ((s.2.length : Int) - 1) = ((s.2.length - 1 : Nat) : Int) := by rw [w64_id (by omega) (by omega)]; omega
    rw [if_pos (by simp; omega), ew, idx_at hgl]
    simp only [Option.bind_some, Option.map_some]
    rw [show ((s.2.length - 1 : Nat) : Int).toNat = s.2.length - 1 by omega, hgl]
    simp only [Option.bind_some]
    cases hq : keyEq y k
    · unfold keyEq at hq
      rw [hq, if_neg (by simp), if_neg (by simp)]
    · unfold keyEq at hq
      rw [hq, if_pos rfl, if_pos rfl]
theorem appM_len {s t : List Val × List Key} {x : Key × Val} (h : appM s x = some t) (hs : s.1.length = s.2.length) : t.1.length = t.2.length ∧ t.2.length = s.2.length + 1 := by
  unfold appM at h
  split at h
  · cases h
  · cases h
    exact ⟨by simp [hs], by simp⟩
theorem vmap_loop (fuel : Nat) (keys : List Key) (l : List Val) (r : Unit × List Int) (ps : List (Key × Val)) (hps : ps.length = r.2.length) (hl : r.2.length ≤ 4194304)
    (hat : ∀ (i : Nat) (z : Int) (q : Key × Val), r.2[i]? = some z → ps[i]? = some q → idx keys z = some q.1 ∧ idx l z = some q.2 ∧ value_clone fuel q.2 = some q.2) :
    ∃ y, iter (value_Map_l3 keys l r fuel) (r.2.length + 1) (0, cell0, mcell ([], [])) = some (match appIns ps ([], []) with | some t => .inl (cell0, mcell t) | none => .inr (6, cell0, y)) := by
  have key : ∀ (m i k : Nat) (s : List Val × List Key), i + m = r.2.length → m + 1 ≤ k → s.1.length = s.2.length → s.2.length ≤ i →
      ∃ y, iter (value_Map_l3 keys l r fuel) k ((i : Int), cell0, mcell s) = some (match appIns (ps.drop i) s with | some t => .inl (cell0, mcell t) | none => .inr (6, cell0, y)) := by
    intro m
    induction m with
    | zero =>
      intro i k s h1 h2 hs hn
      obtain ⟨k, rfl⟩ : ∃ m, k = m + 1 := ⟨k - 1, by omega⟩
      have e : i = r.2.length := by omega
      subst e
      rw [← hps, List.drop_length, hps]
      have : value_Map_l3 keys l r fuel ((r.2.length : Int), cell0, mcell s) = some (.done (.inl (cell0, mcell s))) := by
        unfold value_Map_l3
        simp
      exact ⟨cell0, by simp only [iter, this, appIns, Option.bind_some]⟩
    | succ m ih =>
      intro i k s h1 h2 hs hn
      obtain ⟨k, rfl⟩ : ∃ m, k = m + 1 := ⟨k - 1, by omega⟩
      have hlt : i < ps.length := by omega
      have hlt2 : i < r.2.length := by omega
      rw [List.drop_eq_getElem_cons hlt]
      obtain ⟨a1, a2, a3⟩ := hat i _ _ (List.getElem?_eq_getElem hlt2) (List.getElem?_eq_getElem hlt)
      have hy := vmap_step fuel keys l r i _ _ _ (List.getElem?_eq_getElem hlt2) a1 a2 a3 s hs (by omega) (by omega)
      simp only [iter, hy, appIns]
      cases hi : appM s ps[i] with
      | none => exact ⟨mcell s, by simp⟩
      | some t =>
        obtain ⟨h3, h4⟩ := appM_len hi hs
        simp only [Option.bind_some]
        exact ih (i + 1) k t (by omega) (by omega) h3 (by omega)
  obtain ⟨y, hy⟩ := key r.2.length 0 (r.2.length + 1) ([], []) (by omega) (Nat.le_refl _) rfl (Nat.le_refl _)
  exact ⟨y, by simpa using hy⟩
theorem vmap_ok (fuel : Nat) (keys : List Key) (l : List Val) (hl : keys.length ≤ 4194304) (hf : ∀ v ∈ l, 2 * bulkV v ≤ fuel ∧ bulkV v ≤ 4194304) :
    value_Map fuel keys l = some (if keys.length = l.length ∧ keys.all keyOK = true then (match mapIns (keys.zip l) ([], []) with | some t => ((mapV t, 0) : Val × Int) | none => (zeroV, 6)) else (zeroV, 1)) := by
  unfold value_Map
  simp only [natLen]
  by_cases hkl : keys.length = l.length
  · have e1 : ((keys.length : Int) != (l.length : Int)) = false := by simp; omega
    rw [e1]
    have k1 := first_ok (step := value_Map_l1 keys) keys keyOK (fun i => ((i : Int), cell0)) cell0 (1, cell0) ?_ ?_
    · have e2 : iter (value_Map_l1 keys) (keys.length + 1) (0, (0, 0, (⟨#[]⟩ : ByteArray), [], [], [], [])) = iter (value_Map_l1 keys) (keys.length + 1) (((0 : Nat) : Int), cell0) := rfl
      rw [e2, k1]
      by_cases ha : keys.all keyOK = true
      · rw [if_pos ha, if_pos ⟨hkl, ha⟩, rng_loop keys hl]
        simp only [Option.bind_some, onEnd, cond_false]
        -- the sort
        have hg : ∀ i j : Nat, (hi : i < keys.length) → (hj : j < keys.length) → (Option.bind (value_Map_1 (i : Int) (j : Int) keys) fun r => some r) = some (cK keys[i] keys[j]) := by
          intro i j hi hj
          unfold value_Map_1
          rw [idx_at (List.getElem?_eq_getElem hi), idx_at (List.getElem?_eq_getElem hj)]
          simp only [Option.bind_some, cmp_keys_ok]
        have hlt : ∀ i j : Nat, (hi : i < keys.length) → (hj : j < keys.length) → ltB (fun z10 z11 => Option.bind (value_Map_1 z10 z11 keys) fun r => some r) (i : Int) (j : Int) = decide (cK keys[i] keys[j] < 0) := by
          intro i j hi hj
          have := hg i j hi hj
          simp only [ltB, this]
        have hwk : Swk (ltB fun z10 z11 => Option.bind (value_Map_1 z10 z11 keys) fun r => some r) (rng keys.length) := by
          refine ⟨fun x hx => ?_, fun x hx y hy z hz h1 h2 => ?_, fun x hx y hy z hz h1 h2 => ?_⟩
          · obtain ⟨i, hi, rfl⟩ := rng_mem hx
            rw [hlt i i hi hi, cK_self]; rfl
          · obtain ⟨i, hi, rfl⟩ := rng_mem hx
            obtain ⟨j, hj, rfl⟩ := rng_mem hy
            obtain ⟨n, hn, rfl⟩ := rng_mem hz
            rw [hlt _ _ hi hj] at h1
            rw [hlt _ _ hj hn] at h2
            rw [hlt _ _ hi hn]
            simp only [decide_eq_true_eq] at *
            exact cK_strict h1 (by omega)
          · obtain ⟨i, hi, rfl⟩ := rng_mem hx
            obtain ⟨j, hj, rfl⟩ := rng_mem hy
            obtain ⟨n, hn, rfl⟩ := rng_mem hz
            rw [hlt _ _ hi hj] at h1
            rw [hlt _ _ hj hn] at h2
            rw [hlt _ _ hi hn]
            simp only [decide_eq_false_iff_not] at *
            have a1 := cK_anti keys[i] keys[j]
            have a2 := cK_anti keys[j] keys[n]
            have a3 := cK_anti keys[i] keys[n]
            have := cK_trans keys[n] keys[j] keys[i] (by omega) (by omega)
            omega
        have hok : OkCmp (rng keys.length) fun z10 z11 => Option.bind (value_Map_1 z10 z11 keys) fun r => some r := by
          refine ⟨by rw [rng_len]; omega, fun x hx y hy => ?_, hwk⟩
          obtain ⟨i, hi, rfl⟩ := rng_mem hx
          obtain ⟨j, hj, rfl⟩ := rng_mem hy
          exact ⟨_, hg i j hi hj⟩
        have hsort : sortR (α := Int) (rng keys.length) (fun z10 z11 => Option.bind (value_Map_1 z10 z11 keys) fun r => some r) = some ((), sortP (ltB fun z10 z11 => Option.bind (value_Map_1 z10 z11 keys) fun r => some r) (rng keys.length)) := by
          unfold sortR sortF
          rw [if_pos hok]
          rfl
        rw [hsort]
        obtain ⟨hp, hsr⟩ := sortP_sorts hwk
        generalize sortP (ltB fun z10 z11 => Option.bind (value_Map_1 z10 z11 keys) fun r => some r) (rng keys.length) = p at hp hsr
        simp only [Option.bind_some]
        -- the pairs
        let f : Int → Key × Val := fun z => ((keys[z.toNat]?).getD ⟨0, ⟨#[]⟩⟩, (l[z.toNat]?).getD zeroV)
        have hf2 : ∀ i : Nat, (hi : i < keys.length) → f (i : Int) = (keys[i], l[i]'(by omega)) := by
          intro i hi
          have h2 : i < l.length := by omega
          simp [f, hi, h2]
        have hzip : (rng keys.length).map f = keys.zip l := by
          apply List.ext_getElem
          · rw [List.length_map, rng_len, List.length_zip]; omega
          · intro i h1 h2
            have hi : i < keys.length := by rw [List.length_map, rng_len] at h1; exact h1
            rw [List.getElem_map, List.getElem_zip]
            have : (rng keys.length)[i]'(by rw [rng_len]; exact hi) = (i : Int) := by simp [rng]
            rw [this, hf2 i hi]
        have hpp : (p.map f).Perm (keys.zip l) := by rw [← hzip]; exact hp.map f
        have hsorted : ((p.map f).map (·.1)).Pairwise fun a b => ¬ cK b a < 0 := by
          rw [List.map_map, List.pairwise_map]
          refine List.Pairwise.imp_of_mem (fun {a b} ha hb h => ?_) hsr
          obtain ⟨i, hi, rfl⟩ := rng_mem (hp.mem_iff.1 ha)
          obtain ⟨j, hj, rfl⟩ := rng_mem (hp.mem_iff.1 hb)
          rw [hlt _ _ hj hi] at h
          simp only [Function.comp, hf2 i hi, hf2 j hj]
          simpa using h
        have hplen : p.length = keys.length := by rw [hp.length_eq, rng_len]
        obtain ⟨y, hy⟩ := vmap_loop fuel keys l ((), p) (p.map f) (by simp) (by simp only; omega) (by
          intro i z q hz hq
          simp only at hz
          rw [List.getElem?_map, hz] at hq
          obtain ⟨j, hj, rfl⟩ := rng_mem (hp.mem_iff.1 (List.mem_of_getElem? hz))
          simp only [Option.map_some, Option.some.injEq] at hq
          rw [hf2 j hj] at hq
          subst hq
          have h2 : j < l.length := by omega
          obtain ⟨b1, b2⟩ := hf l[j] (List.getElem_mem h2)
          exact ⟨idx_at (List.getElem?_eq_getElem hj), idx_at (List.getElem?_eq_getElem h2), clone1 fuel _ b1 b2⟩)
        rw [app_is_ins hkl hpp hsorted] at hy
        simp only at hy
        have hy' : iter (value_Map_l3 keys l ((), p) fuel) (p.length + 1) (0, (cell0.1, cell0.2.1, cell0.2.2.1, cell0.2.2.2.1, cell0.2.2.2.2.1, cell0.2.2.2.2.2.1, cell0.2.2.2.2.2.2), (8, 0, (⟨#[]⟩ : ByteArray), [], [], [], [])) = _ := hy
        rw [hy']
        cases mapIns (keys.zip l) ([], []) <;> rfl
      · rw [if_neg ha, if_neg (fun h => ha h.2)]
        rfl
    · intro i x hx
      have hi : i < keys.length := (List.getElem?_eq_some_iff.1 hx).1
      unfold value_Map_l1
      simp only [bite, wr64]
      rw [if_pos (by simp; omega), idx_at hx]
      simp only [Option.bind_some, key_ok, w64_succ i (by omega)]
      cases keyOK x <;> rfl
    · unfold value_Map_l1
      simp
  · have e1 : ((keys.length : Int) != (l.length : Int)) = true := by simp; omega
    rw [e1, if_neg (fun h => hkl h.1)]
    rfl

/-! ### the law -/
theorem mapV_ok {keys : List Key} {l : List Val} (ha : keys.all keyOK = true) (hv : vsOK l = true) {t : List Val × List Key} (h : mapIns (keys.zip l) ([], []) = some t) : vOK (mapV t) = true ∧ bulkV (mapV t) ≤ 8 + bulkKeys keys + bulkVs l := by
  obtain ⟨m1, m2, m3, m4, m5, m6⟩ := mapIns_keeps _ _ _ h rfl rfl
  have hz := bulkZ_zip keys l
  simp only [bulkVs, bulkKeys] at m6
  refine ⟨?_, ?_⟩
  · rw [vOK_map]
    have a1 : t.2.all keyOK = true := List.all_eq_true.2 fun y hy => by
      rcases m4 y hy with hy | ⟨x, hx, rfl⟩
      · simp at hy
      · exact List.all_eq_true.1 ha _ (List.of_mem_zip hx).1
    have a2 : vsOK t.1 = true := by
      rw [vsOK_all]
      rw [vsOK_all] at hv
      exact List.all_eq_true.2 fun y hy => by
        rcases m5 y hy with hy | ⟨x, hx, rfl⟩
        · simp at hy
        · exact List.all_eq_true.1 hv _ (List.of_mem_zip hx).2
    rw [a2]
    simp only [mapOK, mapV, Val.Keys, Val.Kids]
    rw [a1, m1, m2]
    simp
  · simp only [mapV, bulk_mk, size0, bulkEs]
    omega
theorem draw_loop (fuel : Nat) (hf : 60000 ≤ fuel) (t : List (List Int)) (hl : t.length ≤ 12) :
    iter (semtypelaw4_ValueMaps_l1 t fuel) (t.length + 1) ([], 0) = some (.inr true) ∨
    ∃ vs, iter (semtypelaw4_ValueMaps_l1 t fuel) (t.length + 1) ([], 0) = some (.inl vs) ∧ vs.length = t.length ∧ vsOK vs = true ∧ ∀ v ∈ vs, bulkV v ≤ 30000 := by
  have key : ∀ (m i k : Nat) (s : List Val), i + m = t.length → m + 1 ≤ k → s.length = i → vsOK s = true → (∀ v ∈ s, bulkV v ≤ 30000) →
      iter (semtypelaw4_ValueMaps_l1 t fuel) k (s, (i : Int)) = some (.inr true) ∨
      ∃ vs, iter (semtypelaw4_ValueMaps_l1 t fuel) k (s, (i : Int)) = some (.inl vs) ∧ vs.length = t.length ∧ vsOK vs = true ∧ ∀ v ∈ vs, bulkV v ≤ 30000 := by
    intro m
    induction m with
    | zero =>
      intro i k s h1 h2 h3 h4 h5
      obtain ⟨k, rfl⟩ : ∃ m, k = m + 1 := ⟨k - 1, by omega⟩
      have e : i = t.length := by omega
      subst e
      have : semtypelaw4_ValueMaps_l1 t fuel (s, (t.length : Int)) = some (.done (.inl s)) := by
        unfold semtypelaw4_ValueMaps_l1
        simp
      exact .inr ⟨s, by simp only [iter, this, Option.bind_some], h3, h4, h5⟩
    | succ m ih =>
      intro i k s h1 h2 h3 h4 h5
      obtain ⟨k, rfl⟩ : ∃ m, k = m + 1 := ⟨k - 1, by omega⟩
      have hlt : i < t.length := by omega
      have hidx := idx_at (List.getElem?_eq_getElem hlt)
      by_cases hbig : 20 < ((t[i]).length : Int)
      · left
        have : semtypelaw4_ValueMaps_l1 t fuel (s, (i : Int)) = some (.done (.inr true)) := by
          unfold semtypelaw4_ValueMaps_l1
          simp only [bite, wr64]
          rw [if_pos (by simp; omega), hidx]
          simp only [Option.bind_some]
          obtain ⟨q, rfl⟩ : ∃ q, fuel = q + 20 := ⟨fuel - 20, by omega⟩
          rw [if_pos (by simpa using hbig), awake_ok]
          rfl
        simp only [iter, this, Option.bind_some]
      · obtain ⟨v, e, ho, hb⟩ := drawn_ok fuel hf t[i] (by omega)
        have : semtypelaw4_ValueMaps_l1 t fuel (s, (i : Int)) = some (.next (s ++ [v], ((i + 1 : Nat) : Int))) := by
          unfold semtypelaw4_ValueMaps_l1
          simp only [bite, wr64]
          rw [if_pos (by simp; omega), hidx]
          simp only [Option.bind_some]
          rw [if_neg (by simpa using hbig), e]
          simp only [Option.bind_some]
          rw [room_ok (by simp; omega), w64_succ i (by omega)]
          rfl
        simp only [iter, this, Option.bind_some]
        refine ih (i + 1) k (s ++ [v]) (by omega) (by omega) (by simp [h3]) (by rw [vsOK_app, h4]; simp [vsOK, ho]) ?_
        intro x hx
        rcases List.mem_append.1 hx with hx | hx
        · exact h5 x hx
        · rw [List.mem_singleton.1 hx]; exact hb
  exact key t.length 0 (t.length + 1) [] (by omega) (Nat.le_refl _) rfl rfl (fun _ h => by cases h)
theorem bulkVs_le {b : Nat} : ∀ {l : List Val}, (∀ v ∈ l, bulkV v ≤ b) → bulkVs l ≤ l.length * b
  | [], _ => by simp [bulkVs]
  | x :: r, h => by
    have h1 := h x (by simp)
    have h2 := bulkVs_le (l := r) fun v hv => h v (by simp [hv])
    simp only [bulkVs, List.length_cons, Nat.add_mul]
    omega
theorem law_maps (fuel : Nat) (hf : 8388608 ≤ fuel) (keys : List Key) (t : List (List Int)) (hb : bulkKeys keys ≤ 1048576) : semtypelaw4_ValueMaps fuel keys t = some true := by
  obtain ⟨q, hq⟩ : ∃ q, fuel = q + 20 := ⟨fuel - 20, by omega⟩
  have haw : semtypelaw4_awake fuel = some true := by rw [hq]; exact awake_ok q
  have hkl := bulkKeys_len keys
  unfold semtypelaw4_ValueMaps
  by_cases h1 : 12 < (keys.length : Int)
  · have e1 : decide (12 < (keys.length : Int)) = true := by simpa using h1
    rw [e1, haw]; rfl
  by_cases h2 : 12 < (t.length : Int)
  · have e1 : decide (12 < (keys.length : Int)) = false := by simpa using h1
    have e2 : decide (12 < (t.length : Int)) = true := by simpa using h2
    rw [e1, e2, haw]; rfl
  have e1 : decide (12 < (keys.length : Int)) = false := by simpa using h1
  have e2 : decide (12 < (t.length : Int)) = false := by simpa using h2
  rw [e1, e2, natLen]
  simp only [cond_false, Option.bind_some]
  rcases draw_loop fuel (by omega) t (by omega) with e | ⟨vs, e, hlen, hok, hbs⟩
  · rw [e]; rfl
  · rw [e]
    simp only [Option.bind_some, onEnd]
    have hbv := bulkVs_le hbs
    have hbv2 : bulkVs vs ≤ 12 * 30000 := Nat.le_trans hbv (Nat.mul_le_mul_right _ (by omega))
    rw [vmap_ok fuel keys vs (by omega) (fun v hv => by have := hbs v hv; omega), ref_map_ok keys vs (by omega)]
    simp only [Option.bind_some, haw]
    have heq : ∀ v : Val, bulkV v ≤ 4194304 → semtyperef1_Equal fuel v v = some true := by
      intro v hv
      unfold semtyperef1_Equal
      rw [(ref_compare_ok fuel).1 v v (by omega) hv, cV_self]
      rfl
    by_cases hc : keys.length = vs.length ∧ keys.all keyOK = true
    · simp only [if_pos hc]
      cases hm : mapIns (keys.zip vs) ([], []) with
      | none =>
        simp only
        rw [heq zeroV (by rw [zeroV, bulk_mk]; decide)]
        rfl
      | some u =>
        obtain ⟨k1, k2⟩ := mapV_ok hc.2 hok hm
        simp only
        rw [heq (mapV u) (by omega), validate_ok fuel (mapV u) (by omega) (by omega), k1]
        rfl
    · simp only [if_neg hc]
      rw [heq zeroV (by rw [zeroV, bulk_mk]; decide)]
      rfl
end Go.Pl
