/- The order of values: a comparison told by rows of numbers, and its laws. No program in sight. -/
import Derived.Test.YtdipagkcdpcnbaaGreatRBase
namespace Go.Pl
open Go Go.RowKit Go.Sx Go.Qx

def tn (x y : Int) : Int := if x = 0 then y else x
def cI (x y : Int) : Int := if x < y then -1 else if y < x then 1 else 0
def lx : List Int → List Int → Int
  | [], [] => 0
  | [], _ :: _ => -1
  | _ :: _, [] => 1
  | x :: xs, y :: ys => tn (cI x y) (lx xs ys)
theorem tn_assoc (x y z : Int) : tn (tn x y) z = tn x (tn y z) := by unfold tn; split <;> simp_all
theorem tn_zero (x : Int) : tn x 0 = x := by unfold tn; split <;> simp_all
theorem zero_tn (x : Int) : tn 0 x = x := by simp [tn]
theorem cI_cases (x y : Int) : (x < y ∧ cI x y = -1) ∨ (y < x ∧ cI x y = 1) ∨ (x = y ∧ cI x y = 0) := by
  unfold cI
  by_cases h : x < y
  · left; simp [h]
  · by_cases h2 : y < x
    · right; left; simp [h, h2]
    · right; right; simp [h, h2]; omega
theorem tn_range {x y : Int} (hx : x = -1 ∨ x = 0 ∨ x = 1) (hy : y = -1 ∨ y = 0 ∨ y = 1) : tn x y = -1 ∨ tn x y = 0 ∨ tn x y = 1 := by
  unfold tn; split
  · exact hy
  · exact hx
theorem lx_range : ∀ a b : List Int, lx a b = -1 ∨ lx a b = 0 ∨ lx a b = 1
  | [], [] => by simp [lx]
  | [], _ :: _ => by simp [lx]
  | _ :: _, [] => by simp [lx]
  | x :: xs, y :: ys => by
    have := lx_range xs ys
    rcases cI_cases x y with ⟨_, h⟩ | ⟨_, h⟩ | ⟨_, h⟩ <;> simp [lx, h, tn] <;> omega
theorem lx_anti : ∀ a b : List Int, lx b a = - lx a b
  | [], [] => by simp [lx]
  | [], _ :: _ => by simp [lx]
  | _ :: _, [] => by simp [lx]
  | x :: xs, y :: ys => by
    have := lx_anti xs ys
    rcases cI_cases x y with ⟨h1, h⟩ | ⟨h1, h⟩ | ⟨h1, h⟩ <;> rcases cI_cases y x with ⟨h2, k⟩ | ⟨h2, k⟩ | ⟨h2, k⟩ <;> simp [lx, h, k, tn] <;> omega
theorem lx_trans : ∀ a b c : List Int, lx a b ≤ 0 → lx b c ≤ 0 → lx a c ≤ 0
  | [], _, [], _, _ => by simp [lx]
  | [], _, _ :: _, _, _ => by simp [lx]
  | _ :: _, [], _, h, _ => by simp [lx] at h
  | _ :: _, _ :: _, [], _, h => by simp [lx] at h
  | x :: xs, y :: ys, z :: zs, h1, h2 => by
    have := lx_trans xs ys zs
    rcases cI_cases x y with ⟨p1, h⟩ | ⟨p1, h⟩ | ⟨p1, h⟩ <;> rcases cI_cases y z with ⟨p2, k⟩ | ⟨p2, k⟩ | ⟨p2, k⟩ <;>
      rcases cI_cases x z with ⟨p3, l⟩ | ⟨p3, l⟩ | ⟨p3, l⟩ <;> simp [lx, h, k, l, tn] at h1 h2 ⊢ <;> first | omega | (exact this (by omega) (by omega))
theorem lx_self : ∀ a : List Int, lx a a = 0 := by intro a; have := lx_anti a a; omega

/-! ### words -/
def cBs : List UInt8 → List UInt8 → Int
  | [], [] => 0
  | [], _ :: _ => -1
  | _ :: _, [] => 1
  | x :: xs, y :: ys => tn (cI x.toNat y.toNat) (cBs xs ys)
def eBs : List UInt8 → List Int
  | [] => [0]
  | x :: r => ((x.toNat : Int) + 1) :: eBs r
theorem cI_succ (x y : Int) : cI (x + 1) (y + 1) = cI x y := by
  unfold cI
  by_cases h : x < y
  · rw [if_pos (by omega), if_pos h]
  · rw [if_neg (by omega), if_neg h]
    by_cases h2 : y < x
    · rw [if_pos (by omega), if_pos h2]
    · rw [if_neg (by omega), if_neg h2]
theorem pfBs : ∀ (a b : List UInt8) (r s : List Int), lx (eBs a ++ r) (eBs b ++ s) = tn (cBs a b) (lx r s)
  | [], [], r, s => by simp [eBs, lx, cBs, cI, zero_tn]
  | [], y :: ys, r, s => by
    have : cI 0 ((y.toNat : Int) + 1) = -1 := by unfold cI; rw [if_pos (by omega)]
    simp [eBs, lx, cBs, this, tn]
  | x :: xs, [], r, s => by
    have : cI ((x.toNat : Int) + 1) 0 = 1 := by unfold cI; rw [if_neg (by omega), if_pos (by omega)]
    simp [eBs, lx, cBs, this, tn]
  | x :: xs, y :: ys, r, s => by
    simp only [eBs, List.cons_append, lx, cBs, cI_succ, pfBs xs ys, tn_assoc]
def cS (a b : ByteArray) : Int := cBs a.data.toList b.data.toList
def eS (a : ByteArray) : List Int := eBs a.data.toList
theorem pfS (a b : ByteArray) (r s : List Int) : lx (eS a ++ r) (eS b ++ s) = tn (cS a b) (lx r s) := pfBs _ _ r s

/-! ### keys, values, entries -/
def cK (a b : Key) : Int := tn (cI a.Kind b.Kind) (cS a.Text b.Text)
def eK (a : Key) : List Int := a.Kind :: eS a.Text
theorem pfK (a b : Key) (r s : List Int) : lx (eK a ++ r) (eK b ++ s) = tn (cK a b) (lx r s) := by
  simp only [eK, List.cons_append, lx, pfS, cK, tn_assoc]
/-- Element by element. -/
def cL {α : Type} (c : α → α → Int) : List α → List α → Int
  | [], _ => 0
  | _ :: _, [] => 0
  | x :: xs, y :: ys => tn (c x y) (cL c xs ys)
/-- The lengths first. -/
def cN {α : Type} (c : α → α → Int) (xs ys : List α) : Int := tn (cI (xs.length : Int) (ys.length : Int)) (cL c xs ys)
def eN {α : Type} (e : α → List Int) (xs : List α) : List Int := (xs.length : Int) :: xs.flatMap e
theorem pfL {α : Type} {c : α → α → Int} {e : α → List Int} : ∀ (xs ys : List α) (r s : List Int), (∀ x ∈ xs, ∀ y r s, lx (e x ++ r) (e y ++ s) = tn (c x y) (lx r s)) → xs.length = ys.length →
    lx (xs.flatMap e ++ r) (ys.flatMap e ++ s) = tn (cL c xs ys) (lx r s)
  | [], [], r, s, _, _ => by simp [cL, zero_tn]
  | [], _ :: _, _, _, _, h => by simp at h
  | _ :: _, [], _, _, _, h => by simp at h
  | x :: xs, y :: ys, r, s, hc, h => by
    simp only [List.flatMap_cons, List.append_assoc, cL]
    rw [hc x (by simp), pfL xs ys r s (fun z hz => hc z (by simp [hz])) (by simpa using h), tn_assoc]
theorem pfN {α : Type} {c : α → α → Int} {e : α → List Int} (xs ys : List α) (r s : List Int) (hc : ∀ x ∈ xs, ∀ y r s, lx (e x ++ r) (e y ++ s) = tn (c x y) (lx r s)) :
    lx (eN e xs ++ r) (eN e ys ++ s) = tn (cN c xs ys) (lx r s) := by
  simp only [eN, List.cons_append, lx, cN, tn_assoc]
  rcases cI_cases (xs.length : Int) (ys.length : Int) with ⟨_, h⟩ | ⟨_, h⟩ | ⟨h1, h⟩
  · simp [h, tn]
  · simp [h, tn]
  · rw [h, zero_tn, zero_tn, pfL xs ys r s hc (by omega)]
def bI (b : Bool) : Int := if b then 0 else 1
mutual
def cV : Val → Val → Int
  | .mk k n t kids keys ents labs, b => tn (cI k b.Kind) (tn (cI n b.Int_) (tn (cS t b.Text) (tn (cN cK keys b.Keys) (tn (tn (cI (kids.length : Int) (b.Kids.length : Int)) (cVs kids b.Kids)) (tn (tn (cI (ents.length : Int) (b.Entries.length : Int)) (cEs ents b.Entries)) (cN cS labs b.Labels))))))
def cVs : List Val → List Val → Int
  | [], _ => 0
  | _ :: _, [] => 0
  | x :: xs, y :: ys => tn (cV x y) (cVs xs ys)
def cE : Ent → Ent → Int
  | .mk args f res, b => tn (tn (cI (args.length : Int) (b.Args.length : Int)) (cVs args b.Args)) (tn (cI (bI f) (bI b.Fails)) (cV res b.Result))
def cEs : List Ent → List Ent → Int
  | [], _ => 0
  | _ :: _, [] => 0
  | x :: xs, y :: ys => tn (cE x y) (cEs xs ys)
end
theorem cVs_eq : ∀ xs ys : List Val, cVs xs ys = cL cV xs ys
  | [], _ => by simp [cVs, cL]
  | _ :: _, [] => by simp [cVs, cL]
  | x :: xs, y :: ys => by simp only [cVs, cL, cVs_eq xs ys]
theorem cEs_eq : ∀ xs ys : List Ent, cEs xs ys = cL cE xs ys
  | [], _ => by simp [cEs, cL]
  | _ :: _, [] => by simp [cEs, cL]
  | x :: xs, y :: ys => by simp only [cEs, cL, cEs_eq xs ys]
theorem cV_eq (a b : Val) : cV a b = tn (cI a.Kind b.Kind) (tn (cI a.Int_ b.Int_) (tn (cS a.Text b.Text) (tn (cN cK a.Keys b.Keys) (tn (cN cV a.Kids b.Kids) (tn (cN cE a.Entries b.Entries) (cN cS a.Labels b.Labels)))))) := by
  cases a; simp only [cV, cVs_eq, cEs_eq, cN, Val.Kind, Val.Int_, Val.Text, Val.Keys, Val.Kids, Val.Entries, Val.Labels]
theorem cE_eq (a b : Ent) : cE a b = tn (cN cV a.Args b.Args) (tn (cI (bI a.Fails) (bI b.Fails)) (cV a.Result b.Result)) := by
  cases a; simp only [cE, cVs_eq, cN, Ent.Args, Ent.Fails, Ent.Result]
mutual
def eV : Val → List Int
  | .mk k n t kids keys ents labs => k :: n :: (eS t ++ (eN eK keys ++ (((kids.length : Int) :: eVs kids) ++ (((ents.length : Int) :: eEs ents) ++ eN eS labs))))
def eVs : List Val → List Int
  | [] => []
  | x :: xs => eV x ++ eVs xs
def eE : Ent → List Int
  | .mk args f res => ((args.length : Int) :: eVs args) ++ (bI f :: eV res)
def eEs : List Ent → List Int
  | [] => []
  | x :: xs => eE x ++ eEs xs
end
theorem eVs_eq : ∀ xs : List Val, eVs xs = xs.flatMap eV
  | [] => by simp [eVs]
  | x :: xs => by simp only [eVs, List.flatMap_cons, eVs_eq xs]
theorem eEs_eq : ∀ xs : List Ent, eEs xs = xs.flatMap eE
  | [] => by simp [eEs]
  | x :: xs => by simp only [eEs, List.flatMap_cons, eEs_eq xs]
theorem eV_eq (a : Val) : eV a = a.Kind :: a.Int_ :: (eS a.Text ++ (eN eK a.Keys ++ (eN eV a.Kids ++ (eN eE a.Entries ++ eN eS a.Labels)))) := by
  cases a; simp only [eV, eVs_eq, eEs_eq, eN, Val.Kind, Val.Int_, Val.Text, Val.Keys, Val.Kids, Val.Entries, Val.Labels]
theorem eE_eq (a : Ent) : eE a = eN eV a.Args ++ (bI a.Fails :: eV a.Result) := by
  cases a; simp only [eE, eVs_eq, eN, Ent.Args, Ent.Fails, Ent.Result]
theorem pf_all : ∀ n : Nat, (∀ a : Val, bulkV a ≤ n → ∀ b r s, lx (eV a ++ r) (eV b ++ s) = tn (cV a b) (lx r s)) ∧ (∀ a : Ent, bulkE a ≤ n → ∀ b r s, lx (eE a ++ r) (eE b ++ s) = tn (cE a b) (lx r s)) := by
  intro n
  induction n with
  | zero => exact ⟨fun a h => by have := bulkV_pos a; omega, fun a h => by have := bulkE_eq a; omega⟩
  | succ n ih =>
    refine ⟨fun a h b r s => ?_, fun a h b r s => ?_⟩
    · have hb := bulkV_eq a
      rw [eV_eq a, eV_eq b, cV_eq]
      simp only [List.cons_append, List.append_assoc, lx, tn_assoc]
      rw [pfS, pfN a.Keys b.Keys _ _ (fun x _ y r s => pfK x y r s), pfN a.Kids b.Kids _ _ (fun x hx => ih.1 x (by have := bulkVs_mem hx; omega)),
        pfN a.Entries b.Entries _ _ (fun x hx => ih.2 x (by have := bulkEs_mem hx; omega)), pfN a.Labels b.Labels _ _ (fun x _ y r s => pfS x y r s)]
    · have hb := bulkE_eq a
      rw [eE_eq a, eE_eq b, cE_eq]
      simp only [List.append_assoc, tn_assoc]
      rw [pfN a.Args b.Args _ _ (fun x hx => ih.1 x (by have := bulkVs_mem hx; omega))]
      simp only [List.cons_append, lx]
      rw [ih.1 a.Result (by omega)]
theorem cV_lx (a b : Val) : cV a b = lx (eV a) (eV b) := by
  have := (pf_all (bulkV a)).1 a (Nat.le_refl _) b [] []
  simpa [lx, tn_zero] using this.symm
theorem cV_range (a b : Val) : cV a b = -1 ∨ cV a b = 0 ∨ cV a b = 1 := by rw [cV_lx]; exact lx_range _ _
theorem cV_anti (a b : Val) : cV b a = - cV a b := by rw [cV_lx, cV_lx]; exact lx_anti _ _
theorem cV_trans (a b c : Val) (h1 : cV a b ≤ 0) (h2 : cV b c ≤ 0) : cV a c ≤ 0 := by rw [cV_lx] at *; exact lx_trans _ _ _ h1 h2
theorem cV_strict (a b c : Val) (h1 : cV a b < 0) (h2 : cV b c ≤ 0) : cV a c < 0 := by
  have h3 := cV_trans a b c (by omega) h2
  by_cases h : cV a c = 0
  · have h4 : cV c a ≤ 0 := by rw [cV_anti a c]; omega
    have h5 := cV_trans b c a h2 h4
    rw [cV_anti a b] at h5
    omega
  · omega
theorem cV_self (a : Val) : cV a a = 0 := by rw [cV_lx]; exact lx_self _
end Go.Pl
