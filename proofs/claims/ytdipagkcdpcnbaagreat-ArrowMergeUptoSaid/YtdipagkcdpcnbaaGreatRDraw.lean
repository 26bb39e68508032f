/- The generator. No program in sight. -/
import Derived.Test.YtdipagkcdpcnbaaGreatRMap
namespace Go.Pl
open Go Go.RowKit Go.Sx Go.Qx

/-! ### valid values, by their kinds -/
theorem noText : strEq (⟨#[]⟩ : ByteArray) ⟨#[]⟩ = true := by simp [strEq]
theorem vOK_int (n : Int) : vOK (Val.mk 1 n (⟨#[]⟩) [] [] [] []) = true := by simp [vOK, vsOK, esOK, nodeOK, labelsOK, asc, fieldsOK, kindOK, noText, Val.Kind, Val.Int_, Val.Text, Val.Kids, Val.Keys, Val.Entries, Val.Labels]
theorem vOK_str (s : ByteArray) : vOK (Val.mk 2 0 s [] [] [] []) = decide ((s.size : Int) ≤ 64) := by rw [Bool.eq_iff_iff]; simp [vOK, vsOK, esOK, nodeOK, labelsOK, asc, fieldsOK, kindOK, Val.Kind, Val.Int_, Val.Text, Val.Kids, Val.Keys, Val.Entries, Val.Labels]; exact decide_eq_true_iff
theorem vOK_atom (s : ByteArray) : vOK (Val.mk 3 0 s [] [] [] []) = atomOK s := by simp [vOK, vsOK, esOK, nodeOK, labelsOK, asc, fieldsOK, kindOK, Val.Kind, Val.Int_, Val.Text, Val.Kids, Val.Keys, Val.Entries, Val.Labels]
theorem vOK_pid (n : Int) : vOK (Val.mk 4 n (⟨#[]⟩) [] [] [] []) = decide (0 ≤ n) := by rw [Bool.eq_iff_iff]; simp [vOK, vsOK, esOK, nodeOK, labelsOK, asc, fieldsOK, kindOK, noText, Val.Kind, Val.Int_, Val.Text, Val.Kids, Val.Keys, Val.Entries, Val.Labels]; exact decide_eq_true_iff
theorem vOK_nil : vOK (Val.mk 5 0 (⟨#[]⟩) [] [] [] []) = true := by simp [vOK, vsOK, esOK, nodeOK, labelsOK, asc, fieldsOK, kindOK, noText, Val.Kind, Val.Int_, Val.Text, Val.Kids, Val.Keys, Val.Entries, Val.Labels]
theorem vOK_tuple (l : List Val) : vOK (Val.mk 6 0 (⟨#[]⟩) l [] [] []) = (decide (l.length ≤ 4) && vsOK l) := by rw [Bool.eq_iff_iff]; simp [vOK, esOK, nodeOK, labelsOK, asc, fieldsOK, kindOK, noText, Val.Kind, Val.Int_, Val.Text, Val.Kids, Val.Keys, Val.Entries, Val.Labels]; intro _; exact decide_eq_true_iff
theorem vOK_cons (x t : Val) : vOK (Val.mk 7 0 (⟨#[]⟩) [x, t] [] [] []) = ((t.Kind == 5 || t.Kind == 7) && (vOK x && vOK t)) := by simp [vOK, vsOK, esOK, nodeOK, labelsOK, asc, fieldsOK, kindOK, consOK, noText, Val.Kind, Val.Int_, Val.Text, Val.Kids, Val.Keys, Val.Entries, Val.Labels]
theorem vOK_map (t : List Val × List Key) : vOK (mapV t) = (mapOK (mapV t) && vsOK t.1) := by simp [mapV, vOK, esOK, nodeOK, labelsOK, asc, fieldsOK, kindOK, noText, Val.Kind, Val.Int_, Val.Text, Val.Kids, Val.Keys, Val.Entries, Val.Labels]
theorem vOK_fun (n : Int) (es : List Ent) : vOK (funV n es) = (funOK (funV n es) && esOK es) := by simp [funV, vOK, vsOK, nodeOK, labelsOK, asc, fieldsOK, kindOK, noText, Val.Kind, Val.Int_, Val.Text, Val.Kids, Val.Keys, Val.Entries, Val.Labels]
def relabel (v : Val) (l : List ByteArray) : Val := Val.mk v.Kind v.Int_ v.Text v.Kids v.Keys v.Entries l
theorem vOK_relabel {v : Val} {l : List ByteArray} (h : vOK v = true) (hl : labelsOK l = true) : vOK (relabel v l) = true := by
  cases v
  simp only [vOK, nodeOK, Bool.and_eq_true, relabel, Val.Kind, Val.Int_, Val.Text, Val.Kids, Val.Keys, Val.Entries, Val.Labels] at h ⊢
  exact ⟨⟨hl, h.1.2⟩, h.2⟩
theorem bulk_relabel (v : Val) (l : List ByteArray) : bulkV (relabel v l) ≤ bulkV v + bulkStrs l := by
  rw [bulkV_eq, bulkV_eq v]
  simp only [relabel, Val.Text, Val.Kids, Val.Keys, Val.Entries, Val.Labels]
  omega
theorem size0 : (⟨#[]⟩ : ByteArray).size = 0 := rfl
theorem bulk_mk (k n : Int) (t : ByteArray) (kids : List Val) (keys : List Key) (es : List Ent) : bulkV (Val.mk k n t kids keys es []) = 8 + t.size + bulkVs kids + bulkKeys keys + bulkEs es := by
  simp only [bulkV, bulkStr, bulkStrs]; omega

/-! ### the source -/
structure OS (L : List Int) (s : Semtypebase_Source) : Prop where
  l : s.L = L
  lo : 0 ≤ s.At
  hi : s.At ≤ (L.length : Int)
section
variable {L : List Int}
theorem next_ok (hL : L.length ≤ 4194304) {s : Semtypebase_Source} (h : OS L s) {n : Int} (h1 : 1 ≤ n) (h2 : n ≤ 1000) : ∃ x t, semtypebase_Source_Next s n = some (x, t) ∧ OS L t ∧ 0 ≤ x ∧ x < n := by
  obtain ⟨hl, lo, hi⟩ := h
  unfold semtypebase_Source_Next
  have e1 : decide (n < 1) = false := by simp; omega
  rw [e1, hl]
  by_cases he : (L.length : Int) ≤ s.At
  · have e2 : decide ((L.length : Int) ≤ s.At) = true := by simpa using he
    rw [e2]
    exact ⟨0, s, rfl, ⟨hl, lo, hi⟩, by omega, by omega⟩
  · have e2 : decide ((L.length : Int) ≤ s.At) = false := by simpa using he
    rw [e2]
    simp only [cond_false, Option.bind_some]
    have hlt : s.At.toNat < L.length := by omega
    have e : idx L s.At = some L[s.At.toNat] := by
      have := idx_at (List.getElem?_eq_getElem hlt)
      rwa [show ((s.At.toNat : Nat) : Int) = s.At by omega] at this
    rw [e]
    simp only [Option.bind_some]
    have hq : qrem L[s.At.toNat] n = some (L[s.At.toNat].tmod n) := by unfold qrem; rw [if_neg (by omega)]
    rw [hq]
    simp only [Option.bind_some, wr64]
    have b1 := Int.tmod_lt_of_pos L[s.At.toNat] (show 0 < n by omega)
    have b2 := Int.lt_tmod_of_pos L[s.At.toNat] (show 0 < n by omega)
    have hw : w64 (s.At + 1) = s.At + 1 := w64_id (by omega) (by omega)
    have hos : OS L (Semtypebase_Source.mk L (w64 (s.At + 1))) := ⟨rfl, by show 0 ≤ w64 (s.At + 1); omega, by show w64 (s.At + 1) ≤ _; omega⟩
    by_cases hn : L[s.At.toNat].tmod n < 0
    · rw [bite, if_pos (by simpa using hn), w64_id (x := L[s.At.toNat].tmod n + n) (by omega) (by omega)]
      exact ⟨_, _, rfl, hos, by omega, by omega⟩
    · rw [bite, if_neg (by simpa using hn)]
      exact ⟨_, _, rfl, hos, by omega, by omega⟩
theorem idx_mem {α : Type} (l : List α) {x : Int} (h0 : 0 ≤ x) (h1 : x < (l.length : Int)) : ∃ t, idx l x = some t ∧ l[x.toNat]? = some t ∧ t ∈ l := by
  have hlt : x.toNat < l.length := by omega
  have := idx_at (List.getElem?_eq_getElem hlt)
  rw [show ((x.toNat : Nat) : Int) = x by omega] at this
  exact ⟨_, this, List.getElem?_eq_getElem hlt, List.getElem_mem hlt⟩
abbrev labs3 : List ByteArray := [⟨#[65]⟩, ⟨#[66]⟩, ⟨#[67]⟩]
abbrev atoms4 : List ByteArray := [⟨#[97]⟩, ⟨#[98]⟩, ⟨#[111, 107]⟩, ⟨#[101, 114, 114, 111, 114]⟩]
abbrev words4 : List ByteArray := [⟨#[]⟩, ⟨#[115]⟩, ⟨#[120, 32, 121]⟩, ⟨#[97]⟩]
theorem label_ok (hL : L.length ≤ 4194304) {s : Semtypebase_Source} (h : OS L s) : ∃ x t, semtypebase_Source_Label s = some (x, t) ∧ OS L t ∧ x ∈ labs3 := by
  obtain ⟨n, t, e, ht, a, b⟩ := next_ok hL h (n := 3) (by omega) (by omega)
  obtain ⟨x, ex, eg, hx⟩ := idx_mem labs3 a (by simpa using b)
  exact ⟨x, t, by unfold semtypebase_Source_Label; rw [e]; simp only [Option.bind_some]; rw [ex, eg]; rfl, ht, hx⟩
theorem atomName_ok (hL : L.length ≤ 4194304) {s : Semtypebase_Source} (h : OS L s) : ∃ x t, semtypebase_Source_AtomName s = some (x, t) ∧ OS L t ∧ x ∈ atoms4 := by
  obtain ⟨n, t, e, ht, a, b⟩ := next_ok hL h (n := 4) (by omega) (by omega)
  obtain ⟨x, ex, eg, hx⟩ := idx_mem atoms4 a (by simpa using b)
  exact ⟨x, t, by unfold semtypebase_Source_AtomName; rw [e]; simp only [Option.bind_some]; rw [ex, eg]; rfl, ht, hx⟩
theorem word_ok (hL : L.length ≤ 4194304) {s : Semtypebase_Source} (h : OS L s) : ∃ x t, semtypebase_Source_Word s = some (x, t) ∧ OS L t ∧ x ∈ words4 := by
  obtain ⟨n, t, e, ht, a, b⟩ := next_ok hL h (n := 4) (by omega) (by omega)
  obtain ⟨x, ex, eg, hx⟩ := idx_mem words4 a (by simpa using b)
  exact ⟨x, t, by unfold semtypebase_Source_Word; rw [e]; simp only [Option.bind_some]; rw [ex, eg]; rfl, ht, hx⟩
theorem number_ok (hL : L.length ≤ 4194304) {s : Semtypebase_Source} (h : OS L s) : ∃ x t, semtypebase_Source_Number s = some (x, t) ∧ OS L t := by
  obtain ⟨n, t, e, ht, a, b⟩ := next_ok hL h (n := 10) (by omega) (by omega)
  obtain ⟨x, ex, eg, hx⟩ := idx_mem ([0, 1, (-1), 2, 3, (-2), 7, (-9223372036854775808), 9223372036854775807, 10] : List Int) a (by simpa using b)
  exact ⟨x, t, by unfold semtypebase_Source_Number; rw [e]; simp only [Option.bind_some]; rw [ex, eg]; rfl, ht⟩
def chk (o : Option (List ByteArray)) : Bool :=
  match o with
  | some l => labelsOK l && decide (bulkStrs l ≤ 4)
  | none => false
theorem chk_ok {o : Option (List ByteArray)} (h : chk o = true) : ∃ l, o = some l ∧ labelsOK l = true ∧ bulkStrs l ≤ 4 := by
  cases o with
  | none => cases h
  | some l => simp only [chk, Bool.and_eq_true, decide_eq_true_eq] at h; exact ⟨l, rfl, h⟩
theorem sorted0 : chk (semtyperef1_Sorted ([] : List ByteArray)) = true := by kernel_rfl
theorem sorted1 : labs3.all (fun x => chk (semtyperef1_Sorted [x])) = true := by kernel_rfl
theorem sorted2 : labs3.all (fun x => labs3.all (fun y => chk (semtyperef1_Sorted ([x] ++ [y])))) = true := by kernel_rfl
theorem labels_gen (hL : L.length ≤ 4194304) {s : Semtypebase_Source} (h : OS L s) : ∃ l t, semtypebase_Source_Labels s = some (l, t) ∧ OS L t ∧ labelsOK l = true ∧ bulkStrs l ≤ 4 := by
  obtain ⟨n, t, e, ht, _, _⟩ := next_ok hL h (n := 3) (by omega) (by omega)
  unfold semtypebase_Source_Labels
  rw [e]
  simp only [Option.bind_some]
  cases hn : n == 1
  · simp only [cond_false, Option.bind_some]
    obtain ⟨l, el, h1, h2⟩ := chk_ok sorted0
    exact ⟨l, t, by rw [el]; rfl, ht, h1, h2⟩
  · simp only [cond_true, Option.bind_some]
    obtain ⟨x, t2, e2, ht2, hx⟩ := label_ok hL ht
    obtain ⟨m, t3, e3, ht3, _, _⟩ := next_ok hL ht2 (n := 2) (by omega) (by omega)
    rw [e2]
    simp only [Option.bind_some]
    rw [room_ok (by simp), e3]
    simp only [Option.bind_some]
    cases hm : m == 1
    · simp only [cond_false, Option.bind_some]
      obtain ⟨l, el, h1, h2⟩ := chk_ok (List.all_eq_true.1 sorted1 x hx)
      exact ⟨l, t3, by rw [el]; rfl, ht3, h1, h2⟩
    · simp only [cond_true, Option.bind_some]
      obtain ⟨y, t4, e4, ht4, hy⟩ := label_ok hL ht3
      rw [e4]
      simp only [Option.bind_some]
      rw [room_ok (by simp)]
      obtain ⟨l, el, h1, h2⟩ := chk_ok (List.all_eq_true.1 (List.all_eq_true.1 sorted2 x hx) y hy)
      exact ⟨l, t4, by simp only [Option.bind_some]; rw [el]; rfl, ht4, h1, h2⟩
theorem atoms_fine : atoms4.all (fun x => atomOK x && decide (x.size ≤ 5)) = true := by kernel_rfl
theorem words_fine : words4.all (fun x => decide (x.size ≤ 5)) = true := by kernel_rfl
theorem leaf_ok (hL : L.length ≤ 4194304) {s : Semtypebase_Source} (h : OS L s) : ∃ v t, semtypebase_Source_leaf s = some (v, t) ∧ OS L t ∧ vOK v = true ∧ bulkV v ≤ 16 := by
  obtain ⟨n, t, e, ht, _, _⟩ := next_ok hL h (n := 6) (by omega) (by omega)
  unfold semtypebase_Source_leaf
  rw [e]
  simp only [Option.bind_some]
  cases n == 0
  · simp only [cond_false, Option.bind_some]
    cases n == 1
    · simp only [cond_false, Option.bind_some]
      cases n == 2
      · simp only [cond_false, Option.bind_some]
        cases n == 3
        · simp only [cond_false, Option.bind_some]
          cases n == 4
          · simp only [cond_false, Option.bind_some]
            unfold semtyperef1_Tuple semtyperef1_copies
            rw [room_ok (by simp)]
            exact ⟨_, t, rfl, ht, by rw [vOK_tuple]; rfl, by rw [bulk_mk]; simp [size0, bulkVs, bulkKeys, bulkEs]⟩
          · simp only [cond_true, Option.bind_some]
            exact ⟨_, t, rfl, ht, vOK_nil, by rw [bulk_mk]; simp [size0, bulkVs, bulkKeys, bulkEs]⟩
        · simp only [cond_true, Option.bind_some]
          obtain ⟨x, t2, e2, ht2, h0, _⟩ := next_ok hL ht (n := 3) (by omega) (by omega)
          rw [e2]
          exact ⟨_, t2, rfl, ht2, by rw [vOK_pid]; simpa using h0, by rw [bulk_mk]; simp [size0, bulkVs, bulkKeys, bulkEs]⟩
      · simp only [cond_true, Option.bind_some]
        obtain ⟨x, t2, e2, ht2, hx⟩ := word_ok hL ht
        have hw := List.all_eq_true.1 words_fine x hx
        simp only [decide_eq_true_eq] at hw
        rw [e2]
        exact ⟨_, t2, rfl, ht2, by rw [vOK_str]; simp; omega, by rw [bulk_mk]; simp only [bulkVs, bulkKeys, bulkEs]; omega⟩
    · simp only [cond_true, Option.bind_some]
      obtain ⟨x, t2, e2, ht2, hx⟩ := atomName_ok hL ht
      have hw := List.all_eq_true.1 atoms_fine x hx
      simp only [Bool.and_eq_true, decide_eq_true_eq] at hw
      rw [e2]
      exact ⟨_, t2, rfl, ht2, by rw [vOK_atom]; exact hw.1, by rw [bulk_mk]; simp only [bulkVs, bulkKeys, bulkEs]; omega⟩
  · simp only [cond_true, Option.bind_some]
    obtain ⟨x, t2, e2, ht2⟩ := number_ok hL ht
    rw [e2]
    exact ⟨_, t2, rfl, ht2, vOK_int x, by rw [bulk_mk]; simp [size0, bulkVs, bulkKeys, bulkEs]⟩
theorem key_gen (hL : L.length ≤ 4194304) {s : Semtypebase_Source} (h : OS L s) : ∃ k t, semtypebase_Source_Key s = some (k, t) ∧ OS L t ∧ keyOK k = true ∧ bulkKey k ≤ 8 := by
  obtain ⟨n, t, e, ht, _, _⟩ := next_ok hL h (n := 2) (by omega) (by omega)
  unfold semtypebase_Source_Key
  rw [e]
  simp only [Option.bind_some]
  cases n == 0
  · simp only [cond_false, Option.bind_some]
    obtain ⟨x, t2, e2, ht2, hx⟩ := word_ok hL ht
    have hw := List.all_eq_true.1 words_fine x hx
    simp only [decide_eq_true_eq] at hw
    rw [e2]
    refine ⟨_, t2, rfl, ht2, ?_, ?_⟩
    · simp [keyOK]; omega
    · simp only [bulkKey, bulkStr]; omega
  · simp only [cond_true, Option.bind_some]
    obtain ⟨x, t2, e2, ht2, hx⟩ := atomName_ok hL ht
    have hw := List.all_eq_true.1 atoms_fine x hx
    simp only [Bool.and_eq_true, decide_eq_true_eq] at hw
    rw [e2]
    refine ⟨_, t2, rfl, ht2, ?_, ?_⟩
    · simpa [keyOK] using hw.1
    · simp only [bulkKey, bulkStr]; omega

/-- A loop that draws one item a round. -/
theorem gen_loop {γ σ τ : Type} {step : σ → Option (Fl σ τ)} (pack : γ → Int → Semtypebase_Source → σ) (out : γ → Semtypebase_Source → τ) (Inv : Nat → γ → Prop) (J : Nat)
    (hst : ∀ (j n : Nat) (g : γ) (s : Semtypebase_Source), j < J → n ≤ J → Inv j g → OS L s → ∃ g' s', step (pack g ((n + 1 : Nat) : Int) s) = some (.next (pack g' (n : Int) s')) ∧ OS L s' ∧ Inv (j + 1) g')
    (hend : ∀ g s, step (pack g 0 s) = some (.done (out g s))) :
    ∀ (n j k : Nat) (g : γ) (s : Semtypebase_Source), j + n ≤ J → n + 1 ≤ k → Inv j g → OS L s → ∃ g' s', iter step k (pack g (n : Int) s) = some (out g' s') ∧ OS L s' ∧ Inv (j + n) g' := by
  intro n
  induction n with
  | zero =>
    intro j k g s _ hk hI hs
    obtain ⟨k, rfl⟩ : ∃ m, k = m + 1 := ⟨k - 1, by omega⟩
    exact ⟨g, s, by have := hend g s; simp [iter, this], hs, hI⟩
  | succ n ih =>
    intro j k g s hJ hk hI hs
    obtain ⟨k, rfl⟩ : ∃ m, k = m + 1 := ⟨k - 1, by omega⟩
    obtain ⟨g1, s1, e, hs1, hI1⟩ := hst j n g s (by omega) (by omega) hI hs
    obtain ⟨g2, s2, e2, hs2, hI2⟩ := ih (j + 1) k g1 s1 (by omega) (by omega) hI1 hs1
    refine ⟨g2, s2, ?_, hs2, by rw [show j + (n + 1) = j + 1 + n by omega]; exact hI2⟩
    simp only [iter, e, Option.bind_some]
    exact e2
def hb : Nat → Nat
  | 0 => 32
  | h + 1 => 64 + 8 * hb h
theorem hb_le {h : Nat} (hh : h ≤ 2) : hb h ≤ 2624 := by
  match h, hh with
  | 0, _ => decide
  | 1, _ => decide
  | 2, _ => decide
theorem hb_pos (h : Nat) : 32 ≤ hb h := by cases h <;> simp [hb]; omega
/-- What drawn values keep to. -/
def Good (b : Nat) (v : Val) : Prop := vOK v = true ∧ bulkV v ≤ b
end
end Go.Pl
namespace Go.Pl
open Go Go.RowKit Go.Sx Go.Qx

theorem vsOK_app (a b : List Val) : vsOK (a ++ b) = (vsOK a && vsOK b) := by rw [vsOK_all, vsOK_all, vsOK_all, List.all_append]
theorem bulkZ_zip : ∀ (ks : List Key) (vs : List Val), bulkZ (ks.zip vs) ≤ bulkKeys ks + bulkVs vs
  | [], _ => by simp [bulkZ]
  | _ :: _, [] => by simp [bulkZ]
  | k :: r, v :: q => by have := bulkZ_zip r q; simp only [List.zip_cons_cons, bulkZ, bulkKeys, bulkVs]; omega
theorem room1 (n : Nat) (h : n ≤ 1000) (b : Nat) (hb : b ≤ 1024) : room n b = some () := room_ok (by
  have : n * b ≤ 1000 * 1024 := Nat.mul_le_mul h hb
  omega)
section
variable {L : List Int}
theorem entry_gen (hL : L.length ≤ 4194304) {rv : Semtypebase_Source → Int → Option (Val × Semtypebase_Source)} {b : Nat} {h : Int} (hv : ∀ s, OS L s → ∃ v t, rv s h = some (v, t) ∧ OS L t ∧ Good b v)
    (hb : b ≤ 100000) (hb8 : 8 ≤ b) (rx : Semtypebase_Source → Int → Option (Val × Semtypebase_Source)) (ry : Semtypebase_Source → Int → Int → Option (Ent × Semtypebase_Source)) (fuel : Nat) {n : Nat} (hn : n ≤ 4) {s : Semtypebase_Source} (hs : OS L s) :
    ∃ e t, semtypebase_Source_entry_B fuel rv rx ry s (n : Int) h = some (e, t) ∧ OS L t ∧ eOK e = true ∧ entOK (n : Int) e = true ∧ bulkE e ≤ n * b + b + 3 := by
  obtain ⟨g, s1, e1, hs1, h1, h2, h3⟩ := gen_loop (L := L) (step := semtypebase_Source_entry_l1 h rv) (fun (g : List Val) (m : Int) (s : Semtypebase_Source) => (m, s, (g, false, 0, 0, (⟨#[]⟩ : ByteArray), ([] : List Val), ([] : List Key), ([] : List Ent), ([] : List ByteArray))))
    (fun (g : List Val) (s : Semtypebase_Source) => (s, (g, false, 0, 0, (⟨#[]⟩ : ByteArray), ([] : List Val), ([] : List Key), ([] : List Ent), ([] : List ByteArray)))) (fun j g => g.length = j ∧ vsOK g = true ∧ bulkVs g ≤ j * b) 4
    (by
      intro j m g s hj hm ⟨i1, i2, i3⟩ hs
      obtain ⟨v, t, e, ht, k1, k2⟩ := hv s hs
      refine ⟨g ++ [v], t, ?_, ht, by simp [i1], by rw [vsOK_app, i2]; simp [vsOK, k1], ?_⟩
      · unfold semtypebase_Source_entry_l1
        simp only [bite, wr64]
        rw [if_pos (decide_eq_true (by omega)), e]
        simp only [Option.bind_some]
        rw [room1 _ (by simp; omega) _ (by omega), w64_id (by omega) (by omega)]
        simp only [Option.bind_some]
        rw [show ((m + 1 : Nat) : Int) - 1 = (m : Int) by omega]
      · rw [bulkVs_app]
        simp only [bulkVs, Nat.add_mul]
        omega)
    (by
      intro g s
      unfold semtypebase_Source_entry_l1
      simp) n 0 (n + 2) [] s (by omega) (by omega) ⟨rfl, rfl, by simp [bulkVs]⟩ hs
  obtain ⟨x, t, e2, ht, _, _⟩ := next_ok hL hs1 (n := 4) (by omega) (by omega)
  rw [Nat.zero_add] at h1 h3
  unfold semtypebase_Source_entry_B
  rw [show ((n : Int)).toNat = n by omega, e1]
  simp only [Option.bind_some]
  rw [e2]
  simp only [Option.bind_some]
  cases x == 1
  · simp only [cond_false]
    obtain ⟨v, t2, e3, ht2, k1, k2⟩ := hv t ht
    rw [e3]
    refine ⟨_, t2, rfl, ht2, by rw [eOK_eq]; simp only [Ent.Args, Ent.Fails, Ent.Result]; rw [h2, k1]; rfl, ?_, ?_⟩
    · simp [entOK, Ent.Args, Ent.Fails, h1]
    · rw [bulkE_eq]
      simp only [Ent.Args, Ent.Result]
      omega
  · simp only [cond_true]
    refine ⟨_, t, rfl, ht, by rw [eOK_eq]; simp only [Ent.Args, Ent.Fails]; rw [h2]; rfl, ?_, ?_⟩
    · simp [entOK, Ent.Args, Ent.Fails, Ent.Result, h1, cV_self]
    · rw [bulkE_eq]
      simp only [Ent.Args, Ent.Result]
      have : bulkV (Val.mk 0 0 (⟨#[]⟩) [] [] [] []) = 8 := by rw [bulk_mk]; rfl
      omega

theorem small_nat {x : Int} {b : Int} (h0 : 0 ≤ x) (h1 : x < b) : ∃ n : Nat, x = (n : Int) ∧ (n : Int) < b := ⟨x.toNat, by omega, by omega⟩
theorem value_gen (hL : L.length ≤ 4194304) {rv : Semtypebase_Source → Int → Option (Val × Semtypebase_Source)} {re : Semtypebase_Source → Int → Int → Option (Ent × Semtypebase_Source)} {h : Nat} (hh : h ≤ 2)
    (hv : ∀ s, OS L s → ∃ v t, rv s ((h : Int) + 1) = some (v, t) ∧ OS L t ∧ Good (hb h) v)
    (hv2 : 1 ≤ h → ∀ s, OS L s → ∃ v t, rv s (h : Int) = some (v, t) ∧ OS L t ∧ Good (hb h) v)
    (he : ∀ n : Nat, n ≤ 4 → ∀ s, OS L s → ∃ e t, re s (n : Int) ((h : Int) + 1) = some (e, t) ∧ OS L t ∧ eOK e = true ∧ entOK (n : Int) e = true ∧ bulkE e ≤ n * hb h + hb h + 3)
    (rx : Semtypebase_Source → Int → Option (Val × Semtypebase_Source)) {fuel : Nat} (hf : 40000 ≤ fuel) {s : Semtypebase_Source} (hs : OS L s) :
    ∃ v t, semtypebase_Source_value_B fuel rv rx re s ((h : Int) + 2) = some (v, t) ∧ OS L t ∧ vOK v = true ∧ bulkV v + 8 ≤ hb (h + 1) := by
  have hb1 := hb_le hh
  have hb2 := hb_pos h
  have hbs : hb (h + 1) = 64 + 8 * hb h := rfl
  have w1 : w64 ((h : Int) + 2 - 1) = (h : Int) + 1 := by rw [w64_id (by omega) (by omega)]; omega
  have w2 : w64 ((h : Int) + 2 - 2) = (h : Int) := by rw [w64_id (by omega) (by omega)]; omega
  have wn : ∀ m : Nat, m ≤ 10 → w64 (((m + 1 : Nat) : Int) - 1) = (m : Int) := fun m hm => by rw [w64_id (by omega) (by omega)]; omega
  have lf : ∀ s, OS L s → ∃ v t, semtypebase_Source_leaf s = some (v, t) ∧ OS L t ∧ vOK v = true ∧ bulkV v + 8 ≤ hb (h + 1) := fun s hs => by
    obtain ⟨v, t, e, ht, h1, h2⟩ := leaf_ok hL hs
    exact ⟨v, t, e, ht, h1, by omega⟩
  obtain ⟨c, t, e, ht, _, _⟩ := next_ok hL hs (n := 6) (by omega) (by omega)
  unfold semtypebase_Source_value_B
  have e0 : decide ((h : Int) + 2 ≤ 1) = false := by simp; omega
  rw [e0, e]
  simp only [Option.bind_some, cond_false, wr64, w1, w2]
  cases c == 1
  · simp only [cond_false, Option.bind_some, onEnd]
    cases c == 2
    · simp only [cond_false, Option.bind_some, onEnd]
      cases c == 3
      · simp only [cond_false, Option.bind_some, onEnd]
        cases c == 4
        · simp only [cond_false, Option.bind_some, onEnd]
          obtain ⟨v, t2, e2, h2⟩ := lf t ht
          rw [e2]
          exact ⟨v, t2, rfl, h2⟩
        · simp only [cond_true, Option.bind_some, onEnd]
          obtain ⟨x, t2, e2, ht2, x0, x1⟩ := next_ok hL ht (n := 3) (by omega) (by omega)
          obtain ⟨y, t3, e3, ht3, y0, y1⟩ := next_ok hL ht2 (n := 3) (by omega) (by omega)
          obtain ⟨n, rfl, hn⟩ := small_nat x0 x1
          obtain ⟨m, rfl, hm⟩ := small_nat y0 y1
          rw [e2]
          simp only [Option.bind_some]
          rw [e3]
          simp only [Option.bind_some]
          have hnb : n * hb h ≤ 2 * hb h := Nat.mul_le_mul_right _ (by omega)
          obtain ⟨g, s1, e4, hs1, i1, i2, i3, i4⟩ := gen_loop (L := L) (step := semtypebase_Source_value_l3 ((h : Int) + 2) ((n : Int), t2) re) (fun (g : List Ent) (m : Int) (s : Semtypebase_Source) => (g, m, s)) (fun (g : List Ent) (s : Semtypebase_Source) => (g, s)) (fun j g => g.length = j ∧ esOK g = true ∧ g.all (entOK (n : Int)) = true ∧ bulkEs g ≤ j * (3 * hb h + 3)) 4
            (by
              intro j m g s hj hm ⟨i1, i2, i3, i4⟩ hs
              obtain ⟨v, t, e, ht, k1, k2, k3⟩ := he n (by omega) s hs
              refine ⟨g ++ [v], t, ?_, ht, by simp [i1], by rw [esOK_all, List.all_append, ← esOK_all, i2]; simp [k1], by rw [List.all_append, i3]; simp [k2], ?_⟩
              · unfold semtypebase_Source_value_l3
                simp only [bite, wr64]
                rw [if_pos (decide_eq_true (by omega)), w1, e]
                simp only [Option.bind_some]
                rw [room1 _ (by simp; omega) _ (by omega), wn m (by omega)]
                rfl
              · rw [bulkEs_app]
                simp only [bulkEs, Nat.add_mul]
                omega)
            (by
              intro g s
              unfold semtypebase_Source_value_l3
              simp) m 0 (m + 2) [] t3 (by omega) (by omega) ⟨rfl, rfl, rfl, by simp [bulkEs]⟩ ht3
          simp only [Option.bind_some, Int.toNat_natCast]
          rw [e4]
          simp only [Option.bind_some]
          rw [Nat.zero_add] at i1 i4
          have hmb : m * (3 * hb h + 3) ≤ 2 * (3 * hb h + 3) := Nat.mul_le_mul_right _ (by omega)
          rw [ref_function_ok fuel (n : Int) g (by omega) (by omega), if_pos ⟨by omega, by omega, i3⟩]
          simp only [Option.bind_some]
          simp only [show ((0 : Int) == 0) = true from rfl, cond_true, Option.bind_some, onEnd]
          refine ⟨funV (n : Int) (g.foldl insE []), s1, rfl, hs1, ?_, ?_⟩
          · rw [vOK_fun]
            have a1 : (g.foldl insE []).all (entOK (n : Int)) = true := List.all_eq_true.2 fun y hy => by
              rcases fold_insE_mem g [] hy with hy | hy
              · simp at hy
              · exact List.all_eq_true.1 i3 y hy
            have a2 : esOK (g.foldl insE []) = true := by
              rw [esOK_all]
              rw [esOK_all] at i2
              exact List.all_eq_true.2 fun y hy => by
                rcases fold_insE_mem g [] hy with hy | hy
                · simp at hy
                · exact List.all_eq_true.1 i2 y hy
            rw [a2]
            simp only [funOK, funV, Val.Int_, Val.Entries]
            rw [a1, fold_insE_asc g [] rfl]
            simp only [Bool.and_true, Bool.and_eq_true]
            exact ⟨decide_eq_true (by omega), decide_eq_true (by omega)⟩
          · have := fold_insE_bulk g []
            simp only [funV, bulk_mk, size0, bulkVs, bulkKeys]
            simp only [bulkEs] at this
            omega
      · simp only [cond_true, Option.bind_some, onEnd]
        obtain ⟨y, t3, e3, ht3, y0, y1⟩ := next_ok hL ht (n := 3) (by omega) (by omega)
        obtain ⟨m, rfl, hm⟩ := small_nat y0 y1
        rw [e3]
        simp only [Option.bind_some]
        obtain ⟨g, s1, e4, hs1, i1, i2, i3, i4, i5, i6⟩ := gen_loop (L := L) (step := semtypebase_Source_value_l2 ((h : Int) + 2) rv) (fun (g : List Key × List Val) (m : Int) (s : Semtypebase_Source) => (g.1, g.2, m, s)) (fun (g : List Key × List Val) (s : Semtypebase_Source) => (g.1, g.2, s)) (fun j g => g.1.length = j ∧ g.2.length = j ∧ g.1.all keyOK = true ∧ vsOK g.2 = true ∧ bulkVs g.2 ≤ j * hb h ∧ bulkKeys g.1 ≤ j * 8) 4
          (by
            intro j m g s hj hm ⟨i1, i2, i3, i4, i5, i6⟩ hs
            obtain ⟨k, t, e, ht, k1, k2⟩ := key_gen hL hs
            obtain ⟨v, t2, e2, ht2, l1, l2⟩ := hv t ht
            refine ⟨(g.1 ++ [k], g.2 ++ [v]), t2, ?_, ht2, by simp [i1], by simp [i2], by rw [List.all_append, i3]; simp [k1], by rw [vsOK_app, i4]; simp [vsOK, l1], ?_, ?_⟩
            · unfold semtypebase_Source_value_l2
              simp only [bite, wr64]
              rw [if_pos (decide_eq_true (by omega)), e, w1]
              simp only [Option.bind_some]
              rw [room1 _ (by simp; omega) _ (by omega), e2]
              simp only [Option.bind_some]
              rw [room1 _ (by simp; omega) _ (by omega), wn m (by omega)]
              rfl
            · rw [bulkVs_app]
              simp only [bulkVs, Nat.add_mul]
              omega
            · rw [bulkKeys_app]
              simp only [bulkKeys, Nat.add_mul]
              omega)
          (by
            intro g s
            unfold semtypebase_Source_value_l2
            simp) m 0 (m + 2) ([], []) t3 (by omega) (by omega) ⟨rfl, rfl, rfl, rfl, by simp [bulkVs], by simp [bulkKeys]⟩ ht3
        simp only [Int.toNat_natCast]
        rw [e4]
        simp only [Option.bind_some]
        rw [Nat.zero_add] at i1 i2 i5 i6
        have hmb : m * hb h ≤ 2 * hb h := Nat.mul_le_mul_right _ (by omega)
        rw [ref_map_ok g.1 g.2 (by omega), if_pos ⟨by omega, i3⟩]
        simp only [Option.bind_some]
        cases hx : mapIns (g.1.zip g.2) ([], []) with
        | none =>
          simp only [show ((6 : Int) == 0) = false from rfl, cond_false, Option.bind_some, onEnd]
          obtain ⟨v, t2, e2, h2⟩ := lf _ hs1
          rw [e2]
          exact ⟨v, t2, rfl, h2⟩
        | some u =>
          simp only
          simp only [show ((0 : Int) == 0) = true from rfl, cond_true, Option.bind_some, onEnd]
          obtain ⟨m1, m2, m3, m4, m5, m6⟩ := mapIns_keeps _ _ _ hx rfl rfl
          have hz := bulkZ_zip g.1 g.2
          simp only [bulkVs, bulkKeys] at m6
          refine ⟨mapV u, s1, rfl, hs1, ?_, ?_⟩
          · rw [vOK_map]
            have a1 : u.2.all keyOK = true := List.all_eq_true.2 fun y hy => by
              rcases m4 y hy with hy | ⟨x, hx, rfl⟩
              · simp at hy
              · exact List.all_eq_true.1 i3 _ (List.of_mem_zip hx).1
            have a2 : vsOK u.1 = true := by
              rw [vsOK_all]
              rw [vsOK_all] at i4
              exact List.all_eq_true.2 fun y hy => by
                rcases m5 y hy with hy | ⟨x, hx, rfl⟩
                · simp at hy
                · exact List.all_eq_true.1 i4 _ (List.of_mem_zip hx).2
            rw [a2]
            simp only [mapOK, mapV, Val.Keys, Val.Kids]
            rw [a1, m1, m2]
            simp
          · simp only [mapV, bulk_mk, size0, bulkEs]
            omega
    · simp only [cond_true, Option.bind_some, onEnd]
      -- a list cell
      have fin : ∀ (tl v : Val), vOK tl = true → (tl.Kind = 5 ∨ tl.Kind = 7) → bulkV tl ≤ 24 + hb h → Good (hb h) v →
          vOK (Val.mk 7 0 (⟨#[]⟩) [v, tl] [] [] []) = true ∧ bulkV (Val.mk 7 0 (⟨#[]⟩) [v, tl] [] [] []) + 8 ≤ hb (h + 1) := by
        intro tl v ho hk hbt ⟨k1, k2⟩
        refine ⟨?_, ?_⟩
        · rw [vOK_cons, k1, ho]
          rcases hk with hk | hk <;> simp [hk]
        · rw [bulk_mk]
          simp only [size0, bulkVs, bulkKeys, bulkEs]
          omega
      have nilB : bulkV (Val.mk 5 0 (⟨#[]⟩) [] [] [] []) = 8 := by rw [bulk_mk]; rfl
      unfold semtyperef1_Nil semtyperef1_Cons
      simp only [Option.bind_some]
      by_cases h2 : 1 ≤ h
      · have e5 : decide (2 < (h : Int) + 2) = true := by simp; omega
        obtain ⟨x, t2, e2, ht2, _, _⟩ := next_ok hL ht (n := 2) (by omega) (by omega)
        rw [e5, e2]
        simp only [Option.bind_some, cond_true]
        cases x == 1
        · simp only [Option.bind_some, cond_false]
          obtain ⟨l, t3, e3, ht3, l1, l2⟩ := labels_gen hL ht2
          rw [e3]
          simp only [Option.bind_some]
          obtain ⟨v, t5, e5, ht5, k5⟩ := hv t3 ht3
          rw [e5]
          exact ⟨_, t5, rfl, ht5, fin (relabel (Val.mk 5 0 (⟨#[]⟩) [] [] [] []) l) v (vOK_relabel vOK_nil l1) (.inl rfl) (by have := bulk_relabel (Val.mk 5 0 (⟨#[]⟩) [] [] [] []) l; omega) k5⟩
        · simp only [Option.bind_some, cond_true]
          obtain ⟨v, t3, e3, ht3, k1, k2⟩ := hv2 h2 t2 ht2
          rw [e3]
          simp only [Option.bind_some]
          obtain ⟨l, t4, e4, ht4, l1, l2⟩ := labels_gen hL ht3
          have ho : vOK (Val.mk 7 0 (⟨#[]⟩) [v, Val.mk 5 0 (⟨#[]⟩) [] [] [] []] [] [] []) = true := by rw [vOK_cons, k1, vOK_nil]; rfl
          have hbb : bulkV (Val.mk 7 0 (⟨#[]⟩) [v, Val.mk 5 0 (⟨#[]⟩) [] [] [] []] [] [] []) ≤ 16 + hb h := by
            rw [bulk_mk]
            simp only [size0, bulkVs, bulkKeys, bulkEs, nilB]
            omega
          rw [e4]
          simp only [Option.bind_some]
          obtain ⟨v5, t5, e5, ht5, k5⟩ := hv t4 ht4
          rw [e5]
          exact ⟨_, t5, rfl, ht5, fin (relabel (Val.mk 7 0 (⟨#[]⟩) [v, Val.mk 5 0 (⟨#[]⟩) [] [] [] []] [] [] []) l) v5 (vOK_relabel ho l1) (.inr rfl) (by have := bulk_relabel (Val.mk 7 0 (⟨#[]⟩) [v, Val.mk 5 0 (⟨#[]⟩) [] [] [] []] [] [] []) l; omega) k5⟩
      · have e5 : decide (2 < (h : Int) + 2) = false := by simp; omega
        rw [e5]
        simp only [Option.bind_some, cond_false]
        obtain ⟨l, t3, e3, ht3, l1, l2⟩ := labels_gen hL ht
        rw [e3]
        simp only [Option.bind_some]
        obtain ⟨v, t5, e5, ht5, k5⟩ := hv t3 ht3
        rw [e5]
        exact ⟨_, t5, rfl, ht5, fin (relabel (Val.mk 5 0 (⟨#[]⟩) [] [] [] []) l) v (vOK_relabel vOK_nil l1) (.inl rfl) (by have := bulk_relabel (Val.mk 5 0 (⟨#[]⟩) [] [] [] []) l; omega) k5⟩
  · simp only [cond_true, Option.bind_some, onEnd]
    obtain ⟨y, t3, e3, ht3, y0, y1⟩ := next_ok hL ht (n := 4) (by omega) (by omega)
    obtain ⟨m, rfl, hm⟩ := small_nat y0 y1
    rw [e3]
    simp only [Option.bind_some]
    obtain ⟨g, s1, e4, hs1, i1, i2, i3⟩ := gen_loop (L := L) (step := semtypebase_Source_value_l1 ((h : Int) + 2) rv) (fun (g : List Val) (m : Int) (s : Semtypebase_Source) => (g, m, s)) (fun (g : List Val) (s : Semtypebase_Source) => (g, s)) (fun j g => g.length = j ∧ vsOK g = true ∧ bulkVs g ≤ j * hb h) 4
      (by
        intro j m g s hj hm ⟨i1, i2, i3⟩ hs
        obtain ⟨v, t, e, ht, k1, k2⟩ := hv s hs
        refine ⟨g ++ [v], t, ?_, ht, by simp [i1], by rw [vsOK_app, i2]; simp [vsOK, k1], ?_⟩
        · unfold semtypebase_Source_value_l1
          simp only [bite, wr64]
          rw [if_pos (decide_eq_true (by omega)), w1, e]
          simp only [Option.bind_some]
          rw [room1 _ (by simp; omega) _ (by omega), wn m (by omega)]
          rfl
        · rw [bulkVs_app]
          simp only [bulkVs, Nat.add_mul]
          omega)
      (by
        intro g s
        unfold semtypebase_Source_value_l1
        simp) m 0 (m + 2) [] t3 (by omega) (by omega) ⟨rfl, rfl, by simp [bulkVs]⟩ ht3
    simp only [Int.toNat_natCast]
    rw [e4]
    simp only [Option.bind_some]
    rw [Nat.zero_add] at i1 i3
    have hmb : m * hb h ≤ 3 * hb h := Nat.mul_le_mul_right _ (by omega)
    unfold semtyperef1_Tuple semtyperef1_copies
    rw [room1 _ (by simp; omega) _ (by omega)]
    refine ⟨Val.mk 6 0 (⟨#[]⟩) g [] [] [], s1, rfl, hs1, ?_, ?_⟩
    · rw [vOK_tuple, i2]
      simp
      omega
    · rw [bulk_mk]
      simp only [size0, bulkKeys, bulkEs]
      omega

theorem scc_gen (hL : L.length ≤ 4194304) : ∀ (h k : Nat), h ≤ 3 → 50000 + 3 * h ≤ k → ∀ s, OS L s → ∃ v t, (scc_semtypebase_Source_Value k).1 s ((h : Int) + 1) = some (v, t) ∧ OS L t ∧ Good (hb h) v := by
  intro h
  induction h using Nat.strongRecOn with
  | ind h ih =>
    intro k hh hk s hs
    obtain ⟨k, rfl⟩ : ∃ m, k = m + 2 := ⟨k - 2, by omega⟩
    have key : ∃ v t, (scc_semtypebase_Source_Value (k + 1)).2.1 s ((h : Int) + 1) = some (v, t) ∧ OS L t ∧ vOK v = true ∧ bulkV v + 8 ≤ hb h := by
      show ∃ v t, semtypebase_Source_value_B k (scc_semtypebase_Source_Value k).1 (scc_semtypebase_Source_Value k).2.1 (scc_semtypebase_Source_Value k).2.2 s ((h : Int) + 1) = some (v, t) ∧ _
      cases h with
      | zero =>
        obtain ⟨v, t, e, ht, h1, h2⟩ := leaf_ok hL hs
        refine ⟨v, t, ?_, ht, h1, by simp only [hb]; omega⟩
        unfold semtypebase_Source_value_B
        have e0 : decide (((0 : Nat) : Int) + 1 ≤ 1) = true := rfl
        rw [e0, e]
        rfl
      | succ h =>
        have := value_gen hL (h := h) (by omega) (rv := (scc_semtypebase_Source_Value k).1) (re := (scc_semtypebase_Source_Value k).2.2) (fun s hs => ih h (by omega) k (by omega) (by omega) s hs)
          (fun h1 s hs => by
            obtain ⟨h, rfl⟩ : ∃ m, h = m + 1 := ⟨h - 1, by omega⟩
            obtain ⟨v, t, e, ht, k1, k2⟩ := ih h (by omega) k (by omega) (by omega) s hs
            exact ⟨v, t, e, ht, k1, by simp only [hb]; omega⟩)
          (fun n hn s hs => by
            obtain ⟨p, rfl⟩ : ∃ m, k = m + 1 := ⟨k - 1, by omega⟩
            have hb1 := hb_le (show h ≤ 2 by omega)
            have hb2 := hb_pos h
            exact entry_gen hL (rv := (scc_semtypebase_Source_Value p).1) (b := hb h) (fun s hs => ih h (by omega) p (by omega) (by omega) s hs) (by omega) (by omega) (scc_semtypebase_Source_Value p).2.1 (scc_semtypebase_Source_Value p).2.2 p hn hs)
          (scc_semtypebase_Source_Value k).2.1 (fuel := k) (by omega) hs
        rw [show (((h + 1 : Nat) : Int)) + 1 = (h : Int) + 2 by omega]
        exact this
    obtain ⟨v, t, e, ht, h1, h2⟩ := key
    obtain ⟨l, t2, e2, ht2, l1, l2⟩ := labels_gen hL ht
    show ∃ v t, semtypebase_Source_Value_B (k + 1) (scc_semtypebase_Source_Value (k + 1)).1 (scc_semtypebase_Source_Value (k + 1)).2.1 (scc_semtypebase_Source_Value (k + 1)).2.2 s ((h : Int) + 1) = some (v, t) ∧ _
    unfold semtypebase_Source_Value_B
    rw [e]
    simp only [Option.bind_some]
    rw [e2]
    have := bulk_relabel v l
    exact ⟨relabel v l, t2, rfl, ht2, vOK_relabel h1 l1, by omega⟩
end
end Go.Pl
