/- The order of values, what the comparisons compute. No program in sight. -/
import Derived.Test.YtdipagkcdpcnbaaGreatRBase
import Derived.Lib.Bytealg
namespace Go.Pl
open Go Go.RowKit Go.Sx Go.Qx

def tn (x y : Int) : Int := if x = 0 then y else x
def cI (x y : Int) : Int := if x < y then -1 else if y < x then 1 else 0
def lx : List Int → List Int → Int
  | [], [] => 0
  | [], _ :: _ => -1
  | _ :: _, [] => 1
  | x :: xs, y :: ys => tn (cI x y) (lx xs ys)
theorem tn_assoc (x y z : Int) : tn (tn x y) z = tn x (tn y z) := by unfold tn; split <;> simp_all
theorem tn_zero (x : Int) : tn x 0 = x := by unfold tn; split <;> simp_all
theorem zero_tn (x : Int) : tn 0 x = x := by simp [tn]
theorem cI_cases (x y : Int) : (x < y ∧ cI x y = -1) ∨ (y < x ∧ cI x y = 1) ∨ (x = y ∧ cI x y = 0) := by
  unfold cI
  by_cases h : x < y
  · left; simp [h]
  · by_cases h2 : y < x
    · right; left; simp [h, h2]
    · right; right; simp [h, h2]; omega
theorem lx_anti : ∀ a b : List Int, lx b a = - lx a b
  | [], [] => by simp [lx]
  | [], _ :: _ => by simp [lx]
  | _ :: _, [] => by simp [lx]
  | x :: xs, y :: ys => by
    have := lx_anti xs ys
    rcases cI_cases x y with ⟨h1, h⟩ | ⟨h1, h⟩ | ⟨h1, h⟩ <;> rcases cI_cases y x with ⟨h2, k⟩ | ⟨h2, k⟩ | ⟨h2, k⟩ <;> simp [lx, h, k, tn] <;> omega
theorem lx_trans : ∀ a b c : List Int, lx a b ≤ 0 → lx b c ≤ 0 → lx a c ≤ 0
  | [], _, [], _, _ => by simp [lx]
  | [], _, _ :: _, _, _ => by simp [lx]
  | _ :: _, [], _, h, _ => by simp [lx] at h
  | _ :: _, _ :: _, [], _, h => by simp [lx] at h
  | x :: xs, y :: ys, z :: zs, h1, h2 => by
    have := lx_trans xs ys zs
    rcases cI_cases x y with ⟨p1, h⟩ | ⟨p1, h⟩ | ⟨p1, h⟩ <;> rcases cI_cases y z with ⟨p2, k⟩ | ⟨p2, k⟩ | ⟨p2, k⟩ <;>
      rcases cI_cases x z with ⟨p3, l⟩ | ⟨p3, l⟩ | ⟨p3, l⟩ <;> simp [lx, h, k, l, tn] at h1 h2 ⊢ <;> first | omega | (exact this (by omega) (by omega))
theorem lx_self : ∀ a : List Int, lx a a = 0 := by intro a; have := lx_anti a a; omega

/-! ### words -/
def cBs : List UInt8 → List UInt8 → Int
  | [], [] => 0
  | [], _ :: _ => -1
  | _ :: _, [] => 1
  | x :: xs, y :: ys => tn (cI x.toNat y.toNat) (cBs xs ys)
def eBs : List UInt8 → List Int
  | [] => [0]
  | x :: r => ((x.toNat : Int) + 1) :: eBs r
theorem cI_succ (x y : Int) : cI (x + 1) (y + 1) = cI x y := by
  unfold cI
  by_cases h : x < y
  · rw [if_pos (by omega), if_pos h]
  · rw [if_neg (by omega), if_neg h]
    by_cases h2 : y < x
    · rw [if_pos (by omega), if_pos h2]
    · rw [if_neg (by omega), if_neg h2]
theorem pfBs : ∀ (a b : List UInt8) (r s : List Int), lx (eBs a ++ r) (eBs b ++ s) = tn (cBs a b) (lx r s)
  | [], [], r, s => by simp [eBs, lx, cBs, cI, zero_tn]
  | [], y :: ys, r, s => by
    have : cI 0 ((y.toNat : Int) + 1) = -1 := by unfold cI; rw [if_pos (by omega)]
    simp [eBs, lx, cBs, this, tn]
  | x :: xs, [], r, s => by
    have : cI ((x.toNat : Int) + 1) 0 = 1 := by unfold cI; rw [if_neg (by omega), if_pos (by omega)]
    simp [eBs, lx, cBs, this, tn]
  | x :: xs, y :: ys, r, s => by
    simp only [eBs, List.cons_append, lx, cBs, cI_succ, pfBs xs ys, tn_assoc]
def cS (a b : ByteArray) : Int := cBs a.data.toList b.data.toList
def eS (a : ByteArray) : List Int := eBs a.data.toList
theorem pfS (a b : ByteArray) (r s : List Int) : lx (eS a ++ r) (eS b ++ s) = tn (cS a b) (lx r s) := pfBs _ _ r s

/-! ### keys, values, entries -/
def cK (a b : Key) : Int := tn (cI a.Kind b.Kind) (cS a.Text b.Text)
def eK (a : Key) : List Int := a.Kind :: eS a.Text
theorem pfK (a b : Key) (r s : List Int) : lx (eK a ++ r) (eK b ++ s) = tn (cK a b) (lx r s) := by
  simp only [eK, List.cons_append, lx, pfS, cK, tn_assoc]
/-- Element by element. -/
def cL {α : Type} (c : α → α → Int) : List α → List α → Int
  | [], _ => 0
  | _ :: _, [] => 0
  | x :: xs, y :: ys => tn (c x y) (cL c xs ys)
/-- The lengths first. -/
def cN {α : Type} (c : α → α → Int) (xs ys : List α) : Int := tn (cI (xs.length : Int) (ys.length : Int)) (cL c xs ys)
def eN {α : Type} (e : α → List Int) (xs : List α) : List Int := (xs.length : Int) :: xs.flatMap e
theorem pfL {α : Type} {c : α → α → Int} {e : α → List Int} : ∀ (xs ys : List α) (r s : List Int), (∀ x ∈ xs, ∀ y r s, lx (e x ++ r) (e y ++ s) = tn (c x y) (lx r s)) → xs.length = ys.length →
    lx (xs.flatMap e ++ r) (ys.flatMap e ++ s) = tn (cL c xs ys) (lx r s)
  | [], [], r, s, _, _ => by simp [cL, zero_tn]
  | [], _ :: _, _, _, _, h => by simp at h
  | _ :: _, [], _, _, _, h => by simp at h
  | x :: xs, y :: ys, r, s, hc, h => by
    simp only [List.flatMap_cons, List.append_assoc, cL]
    rw [hc x (by simp), pfL xs ys r s (fun z hz => hc z (by simp [hz])) (by simpa using h), tn_assoc]
theorem pfN {α : Type} {c : α → α → Int} {e : α → List Int} (xs ys : List α) (r s : List Int) (hc : ∀ x ∈ xs, ∀ y r s, lx (e x ++ r) (e y ++ s) = tn (c x y) (lx r s)) :
    lx (eN e xs ++ r) (eN e ys ++ s) = tn (cN c xs ys) (lx r s) := by
  simp only [eN, List.cons_append, lx, cN, tn_assoc]
  rcases cI_cases (xs.length : Int) (ys.length : Int) with ⟨_, h⟩ | ⟨_, h⟩ | ⟨h1, h⟩
  · simp [h, tn]
  · simp [h, tn]
  · rw [h, zero_tn, zero_tn, pfL xs ys r s hc (by omega)]
def bI (b : Bool) : Int := if b then 0 else 1
mutual
def cV : Val → Val → Int
  | .mk k n t kids keys ents labs, b => tn (cI k b.Kind) (tn (cI n b.Int_) (tn (cS t b.Text) (tn (cN cK keys b.Keys) (tn (tn (cI (kids.length : Int) (b.Kids.length : Int)) (cVs kids b.Kids)) (tn (tn (cI (ents.length : Int) (b.Entries.length : Int)) (cEs ents b.Entries)) (cN cS labs b.Labels))))))
def cVs : List Val → List Val → Int
  | [], _ => 0
  | _ :: _, [] => 0
  | x :: xs, y :: ys => tn (cV x y) (cVs xs ys)
def cE : Ent → Ent → Int
  | .mk args f res, b => tn (tn (cI (args.length : Int) (b.Args.length : Int)) (cVs args b.Args)) (tn (cI (bI f) (bI b.Fails)) (cV res b.Result))
def cEs : List Ent → List Ent → Int
  | [], _ => 0
  | _ :: _, [] => 0
  | x :: xs, y :: ys => tn (cE x y) (cEs xs ys)
end
theorem cVs_eq : ∀ xs ys : List Val, cVs xs ys = cL cV xs ys
  | [], _ => by simp [cVs, cL]
  | _ :: _, [] => by simp [cVs, cL]
  | x :: xs, y :: ys => by simp only [cVs, cL, cVs_eq xs ys]
theorem cEs_eq : ∀ xs ys : List Ent, cEs xs ys = cL cE xs ys
  | [], _ => by simp [cEs, cL]
  | _ :: _, [] => by simp [cEs, cL]
  | x :: xs, y :: ys => by simp only [cEs, cL, cEs_eq xs ys]
theorem cV_eq (a b : Val) : cV a b = tn (cI a.Kind b.Kind) (tn (cI a.Int_ b.Int_) (tn (cS a.Text b.Text) (tn (cN cK a.Keys b.Keys) (tn (cN cV a.Kids b.Kids) (tn (cN cE a.Entries b.Entries) (cN cS a.Labels b.Labels)))))) := by
  cases a; simp only [cV, cVs_eq, cEs_eq, cN, Val.Kind, Val.Int_, Val.Text, Val.Keys, Val.Kids, Val.Entries, Val.Labels]
theorem cE_eq (a b : Ent) : cE a b = tn (cN cV a.Args b.Args) (tn (cI (bI a.Fails) (bI b.Fails)) (cV a.Result b.Result)) := by
  cases a; simp only [cE, cVs_eq, cN, Ent.Args, Ent.Fails, Ent.Result]
mutual
def eV : Val → List Int
  | .mk k n t kids keys ents labs => k :: n :: (eS t ++ (eN eK keys ++ (((kids.length : Int) :: eVs kids) ++ (((ents.length : Int) :: eEs ents) ++ eN eS labs))))
def eVs : List Val → List Int
  | [] => []
  | x :: xs => eV x ++ eVs xs
def eE : Ent → List Int
  | .mk args f res => ((args.length : Int) :: eVs args) ++ (bI f :: eV res)
def eEs : List Ent → List Int
  | [] => []
  | x :: xs => eE x ++ eEs xs
end
theorem eVs_eq : ∀ xs : List Val, eVs xs = xs.flatMap eV
  | [] => by simp [eVs]
  | x :: xs => by simp only [eVs, List.flatMap_cons, eVs_eq xs]
theorem eEs_eq : ∀ xs : List Ent, eEs xs = xs.flatMap eE
  | [] => by simp [eEs]
  | x :: xs => by simp only [eEs, List.flatMap_cons, eEs_eq xs]
theorem eV_eq (a : Val) : eV a = a.Kind :: a.Int_ :: (eS a.Text ++ (eN eK a.Keys ++ (eN eV a.Kids ++ (eN eE a.Entries ++ eN eS a.Labels)))) := by
  cases a; simp only [eV, eVs_eq, eEs_eq, eN, Val.Kind, Val.Int_, Val.Text, Val.Keys, Val.Kids, Val.Entries, Val.Labels]
theorem eE_eq (a : Ent) : eE a = eN eV a.Args ++ (bI a.Fails :: eV a.Result) := by
  cases a; simp only [eE, eVs_eq, eN, Ent.Args, Ent.Fails, Ent.Result]
theorem pf_all : ∀ n : Nat, (∀ a : Val, bulkV a ≤ n → ∀ b r s, lx (eV a ++ r) (eV b ++ s) = tn (cV a b) (lx r s)) ∧ (∀ a : Ent, bulkE a ≤ n → ∀ b r s, lx (eE a ++ r) (eE b ++ s) = tn (cE a b) (lx r s)) := by
  intro n
  induction n with
  | zero => exact ⟨fun a h => by have := bulkV_pos a; omega, fun a h => by have := bulkE_eq a; omega⟩
  | succ n ih =>
    refine ⟨fun a h b r s => ?_, fun a h b r s => ?_⟩
    · have hb := bulkV_eq a
      rw [eV_eq a, eV_eq b, cV_eq]
      simp only [List.cons_append, List.append_assoc, lx, tn_assoc]
      rw [pfS, pfN a.Keys b.Keys _ _ (fun x _ y r s => pfK x y r s), pfN a.Kids b.Kids _ _ (fun x hx => ih.1 x (by have := bulkVs_mem hx; omega)),
        pfN a.Entries b.Entries _ _ (fun x hx => ih.2 x (by have := bulkEs_mem hx; omega)), pfN a.Labels b.Labels _ _ (fun x _ y r s => pfS x y r s)]
    · have hb := bulkE_eq a
      rw [eE_eq a, eE_eq b, cE_eq]
      simp only [List.append_assoc, tn_assoc]
      rw [pfN a.Args b.Args _ _ (fun x hx => ih.1 x (by have := bulkVs_mem hx; omega))]
      simp only [List.cons_append, lx]
      rw [ih.1 a.Result (by omega)]
theorem cV_lx (a b : Val) : cV a b = lx (eV a) (eV b) := by
  have := (pf_all (bulkV a)).1 a (Nat.le_refl _) b [] []
  simpa [lx, tn_zero] using this.symm
theorem cV_self (a : Val) : cV a a = 0 := by rw [cV_lx]; exact lx_self _
end Go.Pl
namespace Go.Pl
open Go Go.RowKit Go.Sx Go.Qx

theorem cmp_int_ok (a b : Int) : cmp_Compare_int a b = some (cI a b) := by
  unfold cmp_Compare_int cmp_isNaN_int
  simp only [bite, bne_self_eq_false, Option.bind_some, Bool.false_eq_true, if_false]
  rcases cI_cases a b with ⟨h, e⟩ | ⟨h, e⟩ | ⟨h, e⟩
  · rw [if_pos (by simpa using h), e]
  · rw [if_neg (by simp; omega), if_pos (by simpa using h), e]
  · rw [if_neg (by simp; omega), if_neg (by simp; omega), e]
theorem cmp_int64_ok (a b : Int) : cmp_Compare_int64 a b = some (cI a b) := by
  unfold cmp_Compare_int64 cmp_isNaN_int64
  simp only [bite, bne_self_eq_false, Option.bind_some, Bool.false_eq_true, if_false]
  rcases cI_cases a b with ⟨h, e⟩ | ⟨h, e⟩ | ⟨h, e⟩
  · rw [if_pos (by simpa using h), e]
  · rw [if_neg (by simp; omega), if_pos (by simpa using h), e]
  · rw [if_neg (by simp; omega), if_neg (by simp; omega), e]
theorem ref_order_ok (a b : Int) : semtyperef1_Order a b = some (cI a b) := by
  unfold semtyperef1_Order
  simp only [bite]
  rcases cI_cases a b with ⟨h, e⟩ | ⟨h, e⟩ | ⟨h, e⟩
  · rw [if_pos (by simpa using h), e]
  · rw [if_neg (by simp; omega), if_pos (by simpa using h), e]
  · rw [if_neg (by simp; omega), if_neg (by simp; omega), e]
theorem ref_count_ok (a b : Int) : semtyperef1_count a b = some (cI a b) := by
  unfold semtyperef1_count; rw [ref_order_ok]; rfl
theorem cBs_cmp : ∀ a b : List UInt8, Lib.compareBytes a b = cBs a b
  | [], [] => rfl
  | [], _ :: _ => rfl
  | _ :: _, [] => rfl
  | x :: xs, y :: ys => by
    have ih := cBs_cmp xs ys
    simp only [Lib.compareBytes, cBs, UInt8.lt_iff_toNat_lt]
    rcases cI_cases (x.toNat : Int) (y.toNat : Int) with ⟨h, e⟩ | ⟨h, e⟩ | ⟨h, e⟩
    · rw [if_pos (by omega), e]; rfl
    · rw [if_neg (by omega), if_pos (by omega), e]; rfl
    · rw [if_neg (by omega), if_neg (by omega), e, zero_tn, ih]
theorem cmp_str_ok (a b : ByteArray) : strings_Compare a b = some (cS a b) := by
  unfold strings_Compare internal_bytealg_CompareString cmpF strCmp
  rw [cBs_cmp]; rfl
theorem cBs_tells : ∀ a b : List UInt8, (Op.bytesLess a b = true ∧ cBs a b = -1 ∧ a ≠ b) ∨ (Op.bytesLess a b = false ∧ cBs a b = 0 ∧ a = b) ∨ (Op.bytesLess a b = false ∧ cBs a b = 1 ∧ a ≠ b)
  | [], [] => by simp [Op.bytesLess, cBs]
  | [], _ :: _ => by simp [Op.bytesLess, cBs]
  | _ :: _, [] => by simp [Op.bytesLess, cBs]
  | x :: xs, y :: ys => by
    have ih := cBs_tells xs ys
    simp only [Op.bytesLess, cBs]
    rcases cI_cases (x.toNat : Int) (y.toNat : Int) with ⟨h, e⟩ | ⟨h, e⟩ | ⟨h, e⟩
    · have h1 : x < y := UInt8.lt_iff_toNat_lt.2 (by omega)
      have h2 : x ≠ y := by intro h3; subst h3; omega
      simp [e, h1, h2, tn]
    · have h1 : ¬ x < y := fun h3 => by have := UInt8.lt_iff_toNat_lt.1 h3; omega
      have h2 : x ≠ y := by intro h3; subst h3; omega
      simp [e, h1, h2, tn]
    · have h2 : x = y := UInt8.toNat_inj.1 (by omega)
      subst h2
      have h1 : ¬ x < x := fun h3 => by have := UInt8.lt_iff_toNat_lt.1 h3; omega
      simpa [e, h1, tn] using ih
theorem str_tells (a b : ByteArray) : (strLt a b = true ∧ strEq a b = false ∧ cS a b = -1) ∨ (strLt a b = false ∧ strEq a b = true ∧ cS a b = 0) ∨ (strLt a b = false ∧ strEq a b = false ∧ cS a b = 1) := by
  unfold strLt strEq cS
  rw [Lib.toList_data, Lib.toList_data]
  rcases cBs_tells a.data.toList b.data.toList with ⟨h, e, n⟩ | ⟨h, e, n⟩ | ⟨h, e, n⟩
  · left; exact ⟨h, by simpa using n, e⟩
  · right; left; exact ⟨h, by simpa using n, e⟩
  · right; right; exact ⟨h, by simpa using n, e⟩
theorem ref_text_ok (a b : ByteArray) : semtyperef1_Text a b = some (cS a b) := by
  unfold semtyperef1_Text
  rcases str_tells a b with ⟨h, k, e⟩ | ⟨h, k, e⟩ | ⟨h, k, e⟩ <;> simp [h, k, e]
theorem nz_ok {x y : Int} {o : Option Int} (h : o = some y) : (bif (x != 0) then some x else o) = some (tn x y) := by
  rw [bite]
  unfold tn
  by_cases hx : x = 0
  · subst hx; simp [h]
  · simp [hx]
theorem ne_ok {a b y : Int} {o : Option Int} (h : o = some y) : (bif (a != b) then some (cI a b) else o) = some (tn (cI a b) y) := by
  rw [bite]
  unfold tn
  rcases cI_cases a b with ⟨p, e⟩ | ⟨p, e⟩ | ⟨p, e⟩
  · have : a ≠ b := by omega
    simp [this, e]
  · have : a ≠ b := by omega
    simp [this, e]
  · simp [p, h]
    subst p
    intro h2; rw [e] at h2; exact absurd rfl h2
theorem tx_ok {a b : ByteArray} {y : Int} {o : Option Int} (h : o = some y) : (bif (!strEq a b) then (Option.bind (semtyperef1_Text a b) fun r => some r) else o) = some (tn (cS a b) y) := by
  rw [bite, ref_text_ok, h]
  rcases str_tells a b with ⟨_, p, e⟩ | ⟨_, p, e⟩ | ⟨_, p, e⟩ <;> simp [p, e, tn]
theorem cmp_keys_ok (a b : Key) : ident_CompareKeys a b = some (cK a b) := by
  unfold ident_CompareKeys
  rw [cmp_int_ok]
  simp only [Option.bind_some]
  exact nz_ok (by rw [cmp_str_ok]; rfl)
theorem ref_keys_ok (a b : Key) : semtyperef1_CompareKeys a b = some (cK a b) := by
  unfold semtyperef1_CompareKeys
  rw [ref_order_ok]
  exact ne_ok (by rw [ref_text_ok]; rfl)

/-- A loop that compares two rows of one length. -/
theorem cmp_loop {α : Type} {step : Int → Option (Fl Int (Sum Unit Int))} {rc : α → α → Option Int} {c : α → α → Int} (xs ys : List α) (hlen : xs.length = ys.length)
    (hst : ∀ q, step q = bif decide (q < (xs.length : Int)) then Option.bind (idx xs q) fun x => Option.bind (idx ys q) fun y => Option.bind (rc x y) fun r =>
      bif r != 0 then some (.done (.inr r)) else some (.next (wr .i64 (q + 1))) else some (.done (.inl ())))
    (hrc : ∀ x ∈ xs, ∀ y, rc x y = some (c x y)) (hl : xs.length ≤ 4194304) :
    ∃ o, iter step (xs.length + 1) 0 = some o ∧ ((o = .inl () ∧ cL c xs ys = 0) ∨ (o = .inr (cL c xs ys) ∧ cL c xs ys ≠ 0)) := by
  have key : ∀ (n i k : Nat), i + n = xs.length → n + 1 ≤ k →
      ∃ o, iter step k (i : Int) = some o ∧ ((o = .inl () ∧ cL c (xs.drop i) (ys.drop i) = 0) ∨ (o = .inr (cL c (xs.drop i) (ys.drop i)) ∧ cL c (xs.drop i) (ys.drop i) ≠ 0)) := by
    intro n
    induction n with
    | zero =>
      intro i k hi hk
      obtain ⟨k, rfl⟩ : ∃ m, k = m + 1 := ⟨k - 1, by omega⟩
      refine ⟨.inl (), ?_, .inl ⟨rfl, ?_⟩⟩
      · simp only [iter, hst, bite]
        rw [if_neg (by simp; omega)]
        rfl
      · rw [List.drop_eq_nil_of_le (by omega)]; simp [cL]
    | succ n ih =>
      intro i k hi hk
      obtain ⟨k, rfl⟩ : ∃ m, k = m + 1 := ⟨k - 1, by omega⟩
      have hx : i < xs.length := by omega
      have hy : i < ys.length := by omega
      rw [List.drop_eq_getElem_cons hx, List.drop_eq_getElem_cons hy]
      have e : step (i : Int) = if (c xs[i] ys[i] != 0) = true then some (.done (.inr (c xs[i] ys[i]))) else some (.next (w64 ((i : Int) + 1))) := by
        rw [hst]
        simp only [bite, wr64]
        rw [if_pos (by simp; omega), idx_at (List.getElem?_eq_getElem hx), idx_at (List.getElem?_eq_getElem hy)]
        simp only [Option.bind_some]
        rw [hrc _ (List.getElem_mem hx)]
        rfl
      simp only [iter, e, cL]
      by_cases h0 : c xs[i] ys[i] = 0
      · rw [h0, zero_tn, w64_id (x := (i : Int) + 1) (by omega) (by omega)]
        obtain ⟨o, ho, hp⟩ := ih (i + 1) k (by omega) (by omega)
        refine ⟨o, ?_, hp⟩
        simpa using ho
      · have ht : tn (c xs[i] ys[i]) (cL c (xs.drop (i + 1)) (ys.drop (i + 1))) = c xs[i] ys[i] := by simp [tn, h0]
        rw [ht]
        refine ⟨.inr (c xs[i] ys[i]), ?_, .inr ⟨rfl, h0⟩⟩
        simp [h0]
  obtain ⟨o, h1, h2⟩ := key xs.length 0 (xs.length + 1) (by omega) (Nat.le_refl _)
  exact ⟨o, by simpa using h1, by simpa using h2⟩
theorem loop_ok {α : Type} {step : Int → Option (Fl Int (Sum Unit Int))} {rc : α → α → Option Int} {c : α → α → Int} (xs ys : List α) (hlen : xs.length = ys.length)
    (hst : ∀ q, step q = bif decide (q < (xs.length : Int)) then Option.bind (idx xs q) fun x => Option.bind (idx ys q) fun y => Option.bind (rc x y) fun r =>
      bif r != 0 then some (.done (.inr r)) else some (.next (wr .i64 (q + 1))) else some (.done (.inl ())))
    (hrc : ∀ x ∈ xs, ∀ y, rc x y = some (c x y)) (hl : xs.length ≤ 4194304) {f : Unit → Option Int} {z : Int} (hf : ∀ q, f q = some z) :
    (Option.bind (iter step (((xs.length : Int)).toNat + 1) 0) fun b => onEnd f (fun r => some r) b) = some (tn (cL c xs ys) z) := by
  obtain ⟨o, h1, h2⟩ := cmp_loop xs ys hlen hst hrc hl
  rw [natLen, h1]
  rcases h2 with ⟨rfl, h⟩ | ⟨rfl, h⟩
  · simp [onEnd, hf, h, tn]
  · simp [onEnd, h, tn]
theorem lists_ok {α : Type} {step : Int → Option (Fl Int (Sum Unit Int))} {rc : α → α → Option Int} {c : α → α → Int} (xs ys : List α)
    (hst : ∀ q, step q = bif decide (q < (xs.length : Int)) then Option.bind (idx xs q) fun x => Option.bind (idx ys q) fun y => Option.bind (rc x y) fun r =>
      bif r != 0 then some (.done (.inr r)) else some (.next (wr .i64 (q + 1))) else some (.done (.inl ())))
    (hrc : ∀ x ∈ xs, ∀ y, rc x y = some (c x y)) (hl : xs.length ≤ 4194304) :
    (Option.bind (cmp_Compare_int (xs.length : Int) (ys.length : Int)) fun r7 => bif r7 != 0 then some r7 else
      (Option.bind (iter step (((xs.length : Int)).toNat + 1) 0) fun b => onEnd (fun _ => some 0) (fun r => some r) b)) = some (cN c xs ys) := by
  rw [cmp_int_ok]
  simp only [Option.bind_some, cN]
  rcases cI_cases (xs.length : Int) (ys.length : Int) with ⟨_, e⟩ | ⟨_, e⟩ | ⟨p, e⟩
  · simp [e, tn]
  · simp [e, tn]
  · rw [loop_ok xs ys (by omega) hst hrc hl (z := 0) (fun _ => rfl), tn_zero, e]
    simp [tn]
theorem refs_ok {α : Type} {step : Int → Option (Fl Int (Sum Unit Int))} {rc : α → α → Option Int} {c : α → α → Int} (xs ys : List α)
    (hst : ∀ q, step q = bif decide (q < (xs.length : Int)) then Option.bind (idx xs q) fun x => Option.bind (idx ys q) fun y => Option.bind (rc x y) fun r =>
      bif r != 0 then some (.done (.inr r)) else some (.next (wr .i64 (q + 1))) else some (.done (.inl ())))
    (hrc : ∀ x ∈ xs, ∀ y, rc x y = some (c x y)) (hl : xs.length ≤ 4194304) {f : Unit → Option Int} {z : Int} (hf : ∀ q, f q = some z) :
    (bif ((xs.length : Int) != (ys.length : Int)) then (Option.bind (semtyperef1_count (xs.length : Int) (ys.length : Int)) fun r => some r) else
      (Option.bind (iter step (((xs.length : Int)).toNat + 1) 0) fun b => onEnd f (fun r => some r) b)) = some (tn (cN c xs ys) z) := by
  rw [bite, ref_count_ok]
  simp only [Option.bind_some, cN]
  rcases cI_cases (xs.length : Int) (ys.length : Int) with ⟨p, e⟩ | ⟨p, e⟩ | ⟨p, e⟩
  · have : ((xs.length : Int) != (ys.length : Int)) = true := by simp; omega
    rw [if_pos this, e]; rfl
  · have : ((xs.length : Int) != (ys.length : Int)) = true := by simp; omega
    rw [if_pos this, e]; rfl
  · rw [if_neg (by simp; omega), loop_ok xs ys (by omega) hst hrc hl hf, e, zero_tn]

theorem compare_ok : ∀ (k : Nat),
    (∀ a b, 2 * bulkV a ≤ k → bulkV a ≤ 4194304 → value_Compare k a b = some (cV a b)) ∧
    (∀ xs ys, 2 * bulkVs xs + 1 ≤ k → bulkVs xs ≤ 4194304 → value_compareValues k xs ys = some (cN cV xs ys)) ∧
    (∀ a b, 2 * bulkE a ≤ k → bulkE a ≤ 4194304 → value_compareEntries k a b = some (cE a b))
  | 0 => ⟨fun v _ h => by have := bulkV_pos v; omega, fun _ _ h => by omega, fun v _ h => by have := bulkE_eq v; omega⟩
  | k + 1 => by
    obtain ⟨i1, i2, i3⟩ := compare_ok k
    refine ⟨?_, ?_, ?_⟩
    · intro a b h hb
      show value_Compare_B k (value_Compare k) (value_compareEntries k) (value_compareValues k) a b = _
      have hbe := bulkV_eq a
      have hk := bulkKeys_len a.Keys
      have hs := bulkStrs_len a.Labels
      have he := bulkEs_len a.Entries
      unfold value_Compare_B
      simp only [bsome]
      rw [cV_eq, cmp_int_ok, cmp_int64_ok, cmp_str_ok]
      simp only [Option.bind_some]
      refine nz_ok (nz_ok (nz_ok ?_))
      unfold value_compareLists_api_Key
      rw [lists_ok (step := value_compareLists_api_Key_l1 a.Keys b.Keys fun x y => ident_CompareKeys x y) a.Keys b.Keys (rc := ident_CompareKeys) (c := cK) (fun q => rfl) (fun x _ y => cmp_keys_ok x y) (by omega)]
      simp only [Option.bind_some]
      refine nz_ok ?_
      rw [i2 a.Kids b.Kids (by omega) (by omega)]
      simp only [Option.bind_some]
      refine nz_ok ?_
      unfold value_compareLists_api_Entry
      rw [lists_ok (step := value_compareLists_api_Entry_l1 a.Entries b.Entries fun x y => value_compareEntries k x y) a.Entries b.Entries (rc := value_compareEntries k) (c := cE) (fun q => rfl) (fun x hx y => i3 x y (by have := bulkEs_mem hx; omega) (by have := bulkEs_mem hx; omega)) (by omega)]
      simp only [Option.bind_some]
      refine nz_ok ?_
      unfold value_compareLists_string
      rw [lists_ok (step := value_compareLists_string_l1 a.Labels b.Labels fun x y => strings_Compare x y) a.Labels b.Labels (rc := strings_Compare) (c := cS) (fun q => rfl) (fun x _ y => cmp_str_ok x y) (by omega)]
    · intro xs ys h hb
      show value_compareValues_B k (value_Compare k) (value_compareEntries k) (value_compareValues k) xs ys = _
      have hl := bulkVs_len xs
      unfold value_compareValues_B value_compareLists_api_Value
      simp only [bsome]
      rw [lists_ok (step := value_compareLists_api_Value_l1 xs ys fun x y => value_Compare k x y) xs ys (rc := value_Compare k) (c := cV) (fun q => rfl) (fun x hx y => i1 x y (by have := bulkVs_mem hx; omega) (by have := bulkVs_mem hx; omega)) (by omega)]
    · intro a b h hb
      show value_compareEntries_B k (value_Compare k) (value_compareEntries k) (value_compareValues k) a b = _
      have hbe := bulkE_eq a
      unfold value_compareEntries_B
      rw [cE_eq, i2 a.Args b.Args (by omega) (by omega), i1 a.Result b.Result (by omega) (by omega)]
      simp only [Option.bind_some]
      refine nz_ok ?_
      cases a.Fails <;> cases b.Fails <;> simp [bI, cI, tn]
theorem ref_compare_ok : ∀ (k : Nat),
    (∀ a b, 2 * bulkV a ≤ k → bulkV a ≤ 4194304 → semtyperef1_Compare k a b = some (cV a b)) ∧
    (∀ xs ys, 2 * bulkVs xs + 1 ≤ k → bulkVs xs ≤ 4194304 → semtyperef1_values k xs ys = some (cN cV xs ys)) ∧
    (∀ a b, 2 * bulkE a ≤ k → bulkE a ≤ 4194304 → semtyperef1_CompareEntries k a b = some (cE a b))
  | 0 => ⟨fun v _ h => by have := bulkV_pos v; omega, fun _ _ h => by omega, fun v _ h => by have := bulkE_eq v; omega⟩
  | k + 1 => by
    obtain ⟨i1, i2, i3⟩ := ref_compare_ok k
    refine ⟨?_, ?_, ?_⟩
    · intro a b h hb
      show semtyperef1_Compare_B k (semtyperef1_Compare k) (semtyperef1_values k) (semtyperef1_CompareEntries k) a b = _
      have hbe := bulkV_eq a
      have hk := bulkKeys_len a.Keys
      have hs := bulkStrs_len a.Labels
      have he := bulkEs_len a.Entries
      unfold semtyperef1_Compare_B
      rw [cV_eq, ref_count_ok, ref_order_ok]
      simp only [Option.bind_some]
      refine ne_ok (ne_ok (tx_ok ?_))
      refine refs_ok (step := semtyperef1_Compare_l1 a b) a.Keys b.Keys (rc := semtyperef1_CompareKeys) (c := cK) (fun q => rfl) (fun x _ y => ref_keys_ok x y) (by omega) ?_
      intro _
      rw [i2 a.Kids b.Kids (by omega) (by omega)]
      simp only [Option.bind_some]
      refine nz_ok ?_
      refine refs_ok (step := semtyperef1_Compare_l2 a b (semtyperef1_CompareEntries k)) a.Entries b.Entries (rc := semtyperef1_CompareEntries k) (c := cE) (fun q => rfl) (fun x hx y => i3 x y (by have := bulkEs_mem hx; omega) (by have := bulkEs_mem hx; omega)) (by omega) ?_
      intro _
      have := refs_ok (step := semtyperef1_Compare_l3 a b) a.Labels b.Labels (rc := semtyperef1_Text) (c := cS) (z := 0) (fun q => rfl) (fun x _ y => ref_text_ok x y) (by omega) (f := fun _ => some 0) (fun _ => rfl)
      rw [tn_zero] at this
      exact this
    · intro xs ys h hb
      show semtyperef1_values_B k (semtyperef1_Compare k) (semtyperef1_values k) (semtyperef1_CompareEntries k) xs ys = _
      have hl := bulkVs_len xs
      unfold semtyperef1_values_B
      rw [refs_ok (step := semtyperef1_values_l1 xs ys (semtyperef1_Compare k)) xs ys (rc := semtyperef1_Compare k) (c := cV) (z := 0) (fun q => rfl) (fun x hx y => i1 x y (by have := bulkVs_mem hx; omega) (by have := bulkVs_mem hx; omega)) (by omega) (fun _ => rfl), tn_zero]
    · intro a b h hb
      show semtyperef1_CompareEntries_B k (semtyperef1_Compare k) (semtyperef1_values k) (semtyperef1_CompareEntries k) a b = _
      have hbe := bulkE_eq a
      unfold semtyperef1_CompareEntries_B
      rw [cE_eq, i2 a.Args b.Args (by omega) (by omega), i1 a.Result b.Result (by omega) (by omega)]
      simp only [Option.bind_some]
      refine nz_ok ?_
      cases a.Fails <;> cases b.Fails <;> simp [bI, cI, tn]

end Go.Pl
