/- The values that the generator draws: they are valid and small. No program in sight. -/
import Derived.Test.YtdipagkcdpcnbaaGreatRMap
namespace Go.Pl
open Go Go.RowKit Go.Sx Go.Qx

/-! ### valid values, by their kinds -/
theorem noText : strEq (⟨#[]⟩ : ByteArray) ⟨#[]⟩ = true := by simp [strEq]
theorem vOK_int (n : Int) : vOK (Val.mk 1 n (⟨#[]⟩) [] [] [] []) = true := by simp [vOK, vsOK, esOK, nodeOK, labelsOK, asc, fieldsOK, kindOK, noText, Val.Kind, Val.Int_, Val.Text, Val.Kids, Val.Keys, Val.Entries, Val.Labels]
theorem vOK_str (s : ByteArray) : vOK (Val.mk 2 0 s [] [] [] []) = decide ((s.size : Int) ≤ 64) := by rw [Bool.eq_iff_iff]; simp [vOK, vsOK, esOK, nodeOK, labelsOK, asc, fieldsOK, kindOK, Val.Kind, Val.Int_, Val.Text, Val.Kids, Val.Keys, Val.Entries, Val.Labels]; exact decide_eq_true_iff
theorem vOK_atom (s : ByteArray) : vOK (Val.mk 3 0 s [] [] [] []) = atomOK s := by simp [vOK, vsOK, esOK, nodeOK, labelsOK, asc, fieldsOK, kindOK, Val.Kind, Val.Int_, Val.Text, Val.Kids, Val.Keys, Val.Entries, Val.Labels]
theorem vOK_pid (n : Int) : vOK (Val.mk 4 n (⟨#[]⟩) [] [] [] []) = decide (0 ≤ n) := by rw [Bool.eq_iff_iff]; simp [vOK, vsOK, esOK, nodeOK, labelsOK, asc, fieldsOK, kindOK, noText, Val.Kind, Val.Int_, Val.Text, Val.Kids, Val.Keys, Val.Entries, Val.Labels]; exact decide_eq_true_iff
theorem vOK_nil : vOK (Val.mk 5 0 (⟨#[]⟩) [] [] [] []) = true := by simp [vOK, vsOK, esOK, nodeOK, labelsOK, asc, fieldsOK, kindOK, noText, Val.Kind, Val.Int_, Val.Text, Val.Kids, Val.Keys, Val.Entries, Val.Labels]
theorem vOK_tuple (l : List Val) : vOK (Val.mk 6 0 (⟨#[]⟩) l [] [] []) = (decide (l.length ≤ 4) && vsOK l) := by rw [Bool.eq_iff_iff]; simp [vOK, esOK, nodeOK, labelsOK, asc, fieldsOK, kindOK, noText, Val.Kind, Val.Int_, Val.Text, Val.Kids, Val.Keys, Val.Entries, Val.Labels]; intro _; exact decide_eq_true_iff
theorem vOK_cons (x t : Val) : vOK (Val.mk 7 0 (⟨#[]⟩) [x, t] [] [] []) = ((t.Kind == 5 || t.Kind == 7) && (vOK x && vOK t)) := by simp [vOK, vsOK, esOK, nodeOK, labelsOK, asc, fieldsOK, kindOK, consOK, noText, Val.Kind, Val.Int_, Val.Text, Val.Kids, Val.Keys, Val.Entries, Val.Labels]
theorem vOK_map (t : List Val × List Key) : vOK (mapV t) = (mapOK (mapV t) && vsOK t.1) := by simp [mapV, vOK, esOK, nodeOK, labelsOK, asc, fieldsOK, kindOK, noText, Val.Kind, Val.Int_, Val.Text, Val.Kids, Val.Keys, Val.Entries, Val.Labels]
theorem vOK_fun (n : Int) (es : List Ent) : vOK (funV n es) = (funOK (funV n es) && esOK es) := by simp [funV, vOK, vsOK, nodeOK, labelsOK, asc, fieldsOK, kindOK, noText, Val.Kind, Val.Int_, Val.Text, Val.Kids, Val.Keys, Val.Entries, Val.Labels]
def relabel (v : Val) (l : List ByteArray) : Val := Val.mk v.Kind v.Int_ v.Text v.Kids v.Keys v.Entries l
theorem vOK_relabel {v : Val} {l : List ByteArray} (h : vOK v = true) (hl : labelsOK l = true) : vOK (relabel v l) = true := by
  cases v
  simp only [vOK, nodeOK, Bool.and_eq_true, relabel, Val.Kind, Val.Int_, Val.Text, Val.Kids, Val.Keys, Val.Entries, Val.Labels] at h ⊢
  exact ⟨⟨hl, h.1.2⟩, h.2⟩
theorem bulk_relabel (v : Val) (l : List ByteArray) : bulkV (relabel v l) ≤ bulkV v + bulkStrs l := by
  rw [bulkV_eq, bulkV_eq v]
  simp only [relabel, Val.Text, Val.Kids, Val.Keys, Val.Entries, Val.Labels]
  omega
theorem size0 : (⟨#[]⟩ : ByteArray).size = 0 := rfl
theorem bulk_mk (k n : Int) (t : ByteArray) (kids : List Val) (keys : List Key) (es : List Ent) : bulkV (Val.mk k n t kids keys es []) = 8 + t.size + bulkVs kids + bulkKeys keys + bulkEs es := by
  simp only [bulkV, bulkStr, bulkStrs]; omega

/-! ### the source -/
structure OS (L : List Int) (s : Semtypebase_Source) : Prop where
  l : s.L = L
  lo : 0 ≤ s.At
  hi : s.At ≤ (L.length : Int)
section
variable {L : List Int}
theorem next_ok (hL : L.length ≤ 4194304) {s : Semtypebase_Source} (h : OS L s) {n : Int} (h1 : 1 ≤ n) (h2 : n ≤ 1000) : ∃ x t, semtypebase_Source_Next s n = some (x, t) ∧ OS L t ∧ 0 ≤ x ∧ x < n := by
  obtain ⟨hl, lo, hi⟩ := h
  unfold semtypebase_Source_Next
  have e1 : decide (n < 1) = false := by simp; omega
  rw [e1, hl]
  by_cases he : (L.length : Int) ≤ s.At
  · have e2 : decide ((L.length : Int) ≤ s.At) = true := by simpa using he
    rw [e2]
    exact ⟨0, s, rfl, ⟨hl, lo, hi⟩, by omega, by omega⟩
  · have e2 : decide ((L.length : Int) ≤ s.At) = false := by simpa using he
    rw [e2]
    simp only [cond_false, Option.bind_some]
    have hlt : s.At.toNat < L.length := by omega
    have e : idx L s.At = some L[s.At.toNat] := by
      have := idx_at (List.getElem?_eq_getElem hlt)
      rwa [show ((s.At.toNat : Nat) : Int) = s.At by omega] at this
    rw [e]
    simp only [Option.bind_some]
    have hq : qrem L[s.At.toNat] n = some (L[s.At.toNat].tmod n) := by unfold qrem; rw [if_neg (by omega)]
    rw [hq]
    simp only [Option.bind_some, wr64]
    have b1 := Int.tmod_lt_of_pos L[s.At.toNat] (show 0 < n by omega)
    have b2 := Int.lt_tmod_of_pos L[s.At.toNat] (show 0 < n by omega)
    have hw : w64 (s.At + 1) = s.At + 1 := w64_id (by omega) (by omega)
    have hos : OS L (Semtypebase_Source.mk L (w64 (s.At + 1))) := ⟨rfl, by show 0 ≤ w64 (s.At + 1); omega, by show w64 (s.At + 1) ≤ _; omega⟩
    by_cases hn : L[s.At.toNat].tmod n < 0
    · rw [bite, if_pos (by simpa using hn), w64_id (x := L[s.At.toNat].tmod n + n) (by omega) (by omega)]
      exact ⟨_, _, rfl, hos, by omega, by omega⟩
    · rw [bite, if_neg (by simpa using hn)]
      exact ⟨_, _, rfl, hos, by omega, by omega⟩
theorem idx_mem {α : Type} (l : List α) {x : Int} (h0 : 0 ≤ x) (h1 : x < (l.length : Int)) : ∃ t, idx l x = some t ∧ l[x.toNat]? = some t ∧ t ∈ l := by
  have hlt : x.toNat < l.length := by omega
  have := idx_at (List.getElem?_eq_getElem hlt)
  rw [show ((x.toNat : Nat) : Int) = x by omega] at this
  exact ⟨_, this, List.getElem?_eq_getElem hlt, List.getElem_mem hlt⟩
abbrev labs3 : List ByteArray := [⟨#[65]⟩, ⟨#[66]⟩, ⟨#[67]⟩]
abbrev atoms4 : List ByteArray := [⟨#[97]⟩, ⟨#[98]⟩, ⟨#[111, 107]⟩, ⟨#[101, 114, 114, 111, 114]⟩]
abbrev words4 : List ByteArray := [⟨#[]⟩, ⟨#[115]⟩, ⟨#[120, 32, 121]⟩, ⟨#[97]⟩]
theorem label_ok (hL : L.length ≤ 4194304) {s : Semtypebase_Source} (h : OS L s) : ∃ x t, semtypebase_Source_Label s = some (x, t) ∧ OS L t ∧ x ∈ labs3 := by
  obtain ⟨n, t, e, ht, a, b⟩ := next_ok hL h (n := 3) (by omega) (by omega)
  obtain ⟨x, ex, eg, hx⟩ := idx_mem labs3 a (by simpa using b)
  exact ⟨x, t, by unfold semtypebase_Source_Label; rw [e]; simp only [Option.bind_some]; rw [ex, eg]; rfl, ht, hx⟩
theorem atomName_ok (hL : L.length ≤ 4194304) {s : Semtypebase_Source} (h : OS L s) : ∃ x t, semtypebase_Source_AtomName s = some (x, t) ∧ OS L t ∧ x ∈ atoms4 := by
  obtain ⟨n, t, e, ht, a, b⟩ := next_ok hL h (n := 4) (by omega) (by omega)
  obtain ⟨x, ex, eg, hx⟩ := idx_mem atoms4 a (by simpa using b)
  exact ⟨x, t, by unfold semtypebase_Source_AtomName; rw [e]; simp only [Option.bind_some]; rw [ex, eg]; rfl, ht, hx⟩
theorem word_ok (hL : L.length ≤ 4194304) {s : Semtypebase_Source} (h : OS L s) : ∃ x t, semtypebase_Source_Word s = some (x, t) ∧ OS L t ∧ x ∈ words4 := by
  obtain ⟨n, t, e, ht, a, b⟩ := next_ok hL h (n := 4) (by omega) (by omega)
  obtain ⟨x, ex, eg, hx⟩ := idx_mem words4 a (by simpa using b)
  exact ⟨x, t, by unfold semtypebase_Source_Word; rw [e]; simp only [Option.bind_some]; rw [ex, eg]; rfl, ht, hx⟩
theorem number_ok (hL : L.length ≤ 4194304) {s : Semtypebase_Source} (h : OS L s) : ∃ x t, semtypebase_Source_Number s = some (x, t) ∧ OS L t := by
  obtain ⟨n, t, e, ht, a, b⟩ := next_ok hL h (n := 10) (by omega) (by omega)
  obtain ⟨x, ex, eg, hx⟩ := idx_mem ([0, 1, (-1), 2, 3, (-2), 7, (-9223372036854775808), 9223372036854775807, 10] : List Int) a (by simpa using b)
  exact ⟨x, t, by unfold semtypebase_Source_Number; rw [e]; simp only [Option.bind_some]; rw [ex, eg]; rfl, ht⟩
def chk (o : Option (List ByteArray)) : Bool :=
  match o with
  | some l => labelsOK l && decide (bulkStrs l ≤ 4)
  | none => false
theorem chk_ok {o : Option (List ByteArray)} (h : chk o = true) : ∃ l, o = some l ∧ labelsOK l = true ∧ bulkStrs l ≤ 4 := by
  cases o with
  | none => cases h
  | some l => simp only [chk, Bool.and_eq_true, decide_eq_true_eq] at h; exact ⟨l, rfl, h⟩
theorem sorted0 : chk (semtyperef1_Sorted ([] : List ByteArray)) = true := by kernel_rfl
theorem sorted1 : labs3.all (fun x => chk (semtyperef1_Sorted [x])) = true := by kernel_rfl
theorem sorted2 : labs3.all (fun x => labs3.all (fun y => chk (semtyperef1_Sorted ([x] ++ [y])))) = true := by kernel_rfl
theorem labels_gen (hL : L.length ≤ 4194304) {s : Semtypebase_Source} (h : OS L s) : ∃ l t, semtypebase_Source_Labels s = some (l, t) ∧ OS L t ∧ labelsOK l = true ∧ bulkStrs l ≤ 4 := by
  obtain ⟨n, t, e, ht, _, _⟩ := next_ok hL h (n := 3) (by omega) (by omega)
  unfold semtypebase_Source_Labels
  rw [e]
  simp only [Option.bind_some]
  cases hn : n == 1
  · simp only [cond_false, Option.bind_some]
    obtain ⟨l, el, h1, h2⟩ := chk_ok sorted0
    exact ⟨l, t, by rw [el]; rfl, ht, h1, h2⟩
  · simp only [cond_true, Option.bind_some]
    obtain ⟨x, t2, e2, ht2, hx⟩ := label_ok hL ht
    obtain ⟨m, t3, e3, ht3, _, _⟩ := next_ok hL ht2 (n := 2) (by omega) (by omega)
    rw [e2]
    simp only [Option.bind_some]
    rw [room_ok (by simp), e3]
    simp only [Option.bind_some]
    cases hm : m == 1
    · simp only [cond_false, Option.bind_some]
      obtain ⟨l, el, h1, h2⟩ := chk_ok (List.all_eq_true.1 sorted1 x hx)
      exact ⟨l, t3, by rw [el]; rfl, ht3, h1, h2⟩
    · simp only [cond_true, Option.bind_some]
      obtain ⟨y, t4, e4, ht4, hy⟩ := label_ok hL ht3
      rw [e4]
      simp only [Option.bind_some]
      rw [room_ok (by simp)]
      obtain ⟨l, el, h1, h2⟩ := chk_ok (List.all_eq_true.1 (List.all_eq_true.1 sorted2 x hx) y hy)
      exact ⟨l, t4, by simp only [Option.bind_some]; rw [el]; rfl, ht4, h1, h2⟩
theorem atoms_fine : atoms4.all (fun x => atomOK x && decide (x.size ≤ 5)) = true := by kernel_rfl
theorem words_fine : words4.all (fun x => decide (x.size ≤ 5)) = true := by kernel_rfl
theorem leaf_ok (hL : L.length ≤ 4194304) {s : Semtypebase_Source} (h : OS L s) : ∃ v t, semtypebase_Source_leaf s = some (v, t) ∧ OS L t ∧ vOK v = true ∧ bulkV v ≤ 16 := by
  obtain ⟨n, t, e, ht, _, _⟩ := next_ok hL h (n := 6) (by omega) (by omega)
  unfold semtypebase_Source_leaf
  rw [e]
  simp only [Option.bind_some]
  cases n == 0
  · simp only [cond_false, Option.bind_some]
    cases n == 1
    · simp only [cond_false, Option.bind_some]
      cases n == 2
      · simp only [cond_false, Option.bind_some]
        cases n == 3
        · simp only [cond_false, Option.bind_some]
          cases n == 4
          · simp only [cond_false, Option.bind_some]
            unfold semtyperef1_Tuple semtyperef1_copies
            rw [room_ok (by simp)]
            exact ⟨_, t, rfl, ht, by rw [vOK_tuple]; rfl, by rw [bulk_mk]; simp [size0, bulkVs, bulkKeys, bulkEs]⟩
          · simp only [cond_true, Option.bind_some]
            exact ⟨_, t, rfl, ht, vOK_nil, by rw [bulk_mk]; simp [size0, bulkVs, bulkKeys, bulkEs]⟩
        · simp only [cond_true, Option.bind_some]
          obtain ⟨x, t2, e2, ht2, h0, _⟩ := next_ok hL ht (n := 3) (by omega) (by omega)
          rw [e2]
          exact ⟨_, t2, rfl, ht2, by rw [vOK_pid]; simpa using h0, by rw [bulk_mk]; simp [size0, bulkVs, bulkKeys, bulkEs]⟩
      · simp only [cond_true, Option.bind_some]
        obtain ⟨x, t2, e2, ht2, hx⟩ := word_ok hL ht
        have hw := List.all_eq_true.1 words_fine x hx
        simp only [decide_eq_true_eq] at hw
        rw [e2]
        exact ⟨_, t2, rfl, ht2, by rw [vOK_str]; simp; omega, by rw [bulk_mk]; simp only [bulkVs, bulkKeys, bulkEs]; omega⟩
    · simp only [cond_true, Option.bind_some]
      obtain ⟨x, t2, e2, ht2, hx⟩ := atomName_ok hL ht
      have hw := List.all_eq_true.1 atoms_fine x hx
      simp only [Bool.and_eq_true, decide_eq_true_eq] at hw
      rw [e2]
      exact ⟨_, t2, rfl, ht2, by rw [vOK_atom]; exact hw.1, by rw [bulk_mk]; simp only [bulkVs, bulkKeys, bulkEs]; omega⟩
  · simp only [cond_true, Option.bind_some]
    obtain ⟨x, t2, e2, ht2⟩ := number_ok hL ht
    rw [e2]
    exact ⟨_, t2, rfl, ht2, vOK_int x, by rw [bulk_mk]; simp [size0, bulkVs, bulkKeys, bulkEs]⟩
theorem key_gen (hL : L.length ≤ 4194304) {s : Semtypebase_Source} (h : OS L s) : ∃ k t, semtypebase_Source_Key s = some (k, t) ∧ OS L t ∧ keyOK k = true ∧ bulkKey k ≤ 8 := by
  obtain ⟨n, t, e, ht, _, _⟩ := next_ok hL h (n := 2) (by omega) (by omega)
  unfold semtypebase_Source_Key
  rw [e]
  simp only [Option.bind_some]
  cases n == 0
  · simp only [cond_false, Option.bind_some]
    obtain ⟨x, t2, e2, ht2, hx⟩ := word_ok hL ht
    have hw := List.all_eq_true.1 words_fine x hx
    simp only [decide_eq_true_eq] at hw
    rw [e2]
    refine ⟨_, t2, rfl, ht2, ?_, ?_⟩
    · simp [keyOK]; omega
    · simp only [bulkKey, bulkStr]; omega
  · simp only [cond_true, Option.bind_some]
    obtain ⟨x, t2, e2, ht2, hx⟩ := atomName_ok hL ht
    have hw := List.all_eq_true.1 atoms_fine x hx
    simp only [Bool.and_eq_true, decide_eq_true_eq] at hw
    rw [e2]
    refine ⟨_, t2, rfl, ht2, ?_, ?_⟩
    · simpa [keyOK] using hw.1
    · simp only [bulkKey, bulkStr]; omega

/-- A loop that draws one item a round. -/
theorem gen_loop {γ σ τ : Type} {step : σ → Option (Fl σ τ)} (pack : γ → Int → Semtypebase_Source → σ) (out : γ → Semtypebase_Source → τ) (Inv : Nat → γ → Prop) (J : Nat)
    (hst : ∀ (j n : Nat) (g : γ) (s : Semtypebase_Source), j < J → n ≤ J → Inv j g → OS L s → ∃ g' s', step (pack g ((n + 1 : Nat) : Int) s) = some (.next (pack g' (n : Int) s')) ∧ OS L s' ∧ Inv (j + 1) g')
    (hend : ∀ g s, step (pack g 0 s) = some (.done (out g s))) :
    ∀ (n j k : Nat) (g : γ) (s : Semtypebase_Source), j + n ≤ J → n + 1 ≤ k → Inv j g → OS L s → ∃ g' s', iter step k (pack g (n : Int) s) = some (out g' s') ∧ OS L s' ∧ Inv (j + n) g' := by
  intro n
  induction n with
  | zero =>
    intro j k g s _ hk hI hs
    obtain ⟨k, rfl⟩ : ∃ m, k = m + 1 := ⟨k - 1, by omega⟩
    exact ⟨g, s, by have := hend g s; simp [iter, this], hs, hI⟩
  | succ n ih =>
    intro j k g s hJ hk hI hs
    obtain ⟨k, rfl⟩ : ∃ m, k = m + 1 := ⟨k - 1, by omega⟩
    obtain ⟨g1, s1, e, hs1, hI1⟩ := hst j n g s (by omega) (by omega) hI hs
    obtain ⟨g2, s2, e2, hs2, hI2⟩ := ih (j + 1) k g1 s1 (by omega) (by omega) hI1 hs1
    refine ⟨g2, s2, ?_, hs2, by rw [show j + (n + 1) = j + 1 + n by omega]; exact hI2⟩
    simp only [iter, e, Option.bind_some]
    exact e2
def hb : Nat → Nat
  | 0 => 32
  | h + 1 => 64 + 8 * hb h
theorem hb_le {h : Nat} (hh : h ≤ 2) : hb h ≤ 2624 := by
  match h, hh with
  | 0, _ => decide
  | 1, _ => decide
  | 2, _ => decide
theorem hb_pos (h : Nat) : 32 ≤ hb h := by cases h <;> simp [hb]; omega
/-- What drawn values keep to. -/
def Good (b : Nat) (v : Val) : Prop := vOK v = true ∧ bulkV v ≤ b
end
end Go.Pl
