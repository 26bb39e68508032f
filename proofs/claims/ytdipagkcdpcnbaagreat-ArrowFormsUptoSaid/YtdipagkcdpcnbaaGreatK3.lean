/- Part 3. -/
import Derived.Test.YtdipagkcdpcnbaaGreatK2
import Derived.Lib.Bytealg
section
namespace Go.Pl
open Go Go.RowKit Go.Sx Go.Qx
def tn (x y : Int) : Int := if x = 0 then y else x
def cI (x y : Int) : Int := if x < y then -1 else if y < x then 1 else 0
def lx : List Int -> List Int -> Int
 | [], [] => 0
 | [], _ :: _ => -1
 | _ :: _, [] => 1
 | x :: xs, y :: ys => tn (cI x y) (lx xs ys)
theorem b0o (x y z : Int) : tn (tn x y) z = tn x (tn y z) := by unfold tn; split <;> simp_all
theorem b0f (x : Int) : tn x 0 = x := by unfold tn; split <;> simp_all
theorem b0v (x : Int) : tn 0 x = x := by simp [tn]
theorem W3 (x y : Int) : (x < y /\ cI x y = -1) \/ (y < x /\ cI x y = 1) \/ (x = y /\ cI x y = 0) := by
 unfold cI
 by_cases h : x < y
 ·left; simp [h]
 ·by_cases h2 : y < x
  ·right; left; simp [h, h2]
  ·right; right; simp [h, h2]; omega
theorem b4P : ∀ a b : List Int, lx b a = - lx a b
 | [], [] => by simp [lx]
 | [], _ :: _ => by simp [lx]
 | _ :: _, [] => by simp [lx]
 | x :: xs, y :: ys => by
   have := b4P xs ys
   rcases W3 x y with ⟨h1, h⟩ | ⟨h1, h⟩ | ⟨h1, h⟩ <;> rcases W3 y x with ⟨h2, k⟩ | ⟨h2, k⟩ | ⟨h2, k⟩ <;> simp [lx, h, k, tn] <;> omega
theorem b9d : ∀ a b c : List Int, lx a b <= 0 -> lx b c <= 0 -> lx a c <= 0
 | [], _, [], _, _ => by simp [lx]
 | [], _, _ :: _, _, _ => by simp [lx]
 | _ :: _, [], _, h, _ => by simp [lx] at h
 | _ :: _, _ :: _, [], _, h => by simp [lx] at h
 | x :: xs, y :: ys, z :: zs, h1, h2 => by
   have := b9d xs ys zs
   rcases W3 x y with ⟨p1, h⟩ | ⟨p1, h⟩ | ⟨p1, h⟩ <;> rcases W3 y z with ⟨p2, k⟩ | ⟨p2, k⟩ | ⟨p2, k⟩ <;>
    rcases W3 x z with ⟨p3, l⟩ | ⟨p3, l⟩ | ⟨p3, l⟩ <;> simp [lx, h, k, l, tn] at h1 h2 ⊢ <;> first | omega | (exact this (by omega) (by omega))
theorem c8J : ∀ a : List Int, lx a a = 0 := by intro a; have := b4P a a; omega
def cBs : List UInt8 -> List UInt8 -> Int
 | [], [] => 0
 | [], _ :: _ => -1
 | _ :: _, [] => 1
 | x :: xs, y :: ys => tn (cI x.toNat y.toNat) (cBs xs ys)
def eBs : List UInt8 -> List Int
 | [] => [0]
 | x :: r => ((x.toNat : Int) + 1) :: eBs r
theorem c8x (x y : Int) : cI (x + 1) (y + 1) = cI x y := by
 unfold cI
 by_cases h : x < y
 ·rw [if_pos (by omega), if_pos h]
 ·rw [if_neg (by omega), if_neg h]
  by_cases h2 : y < x
  ·rw [if_pos (by omega), if_pos h2]
  ·rw [if_neg (by omega), if_neg h2]
theorem c9q : ∀ (a b : List UInt8) (r s : List Int), lx (eBs a ++ r) (eBs b ++ s) = tn (cBs a b) (lx r s)
 | [], [], r, s => by simp [eBs, lx, cBs, cI, b0v]
 | [], y :: ys, r, s => by
   have : cI 0 ((y.toNat : Int) + 1) = -1 := by unfold cI; rw [if_pos (by omega)]
   simp [eBs, lx, cBs, this, tn]
 | x :: xs, [], r, s => by
   have : cI ((x.toNat : Int) + 1) 0 = 1 := by unfold cI; rw [if_neg (by omega), if_pos (by omega)]
   simp [eBs, lx, cBs, this, tn]
 | x :: xs, y :: ys, r, s => by
   simp only [eBs, List.cons_append, lx, cBs, c8x, c9q xs ys, b0o]
def cS (a b : ByteArray) : Int := cBs a.data.toList b.data.toList
def eS (a : ByteArray) : List Int := eBs a.data.toList
theorem pfS (a b : ByteArray) (r s : List Int) : lx (eS a ++ r) (eS b ++ s) = tn (cS a b) (lx r s) := c9q _ _ r s
def cK (a b : Key) : Int := tn (cI a.Kind b.Kind) (cS a.Text b.Text)
def eK (a : Key) : List Int := a.Kind :: eS a.Text
theorem pfK (a b : Key) (r s : List Int) : lx (eK a ++ r) (eK b ++ s) = tn (cK a b) (lx r s) := by
 simp only [eK, List.cons_append, lx, pfS, cK, b0o]
def cL {α : Type} (c : α -> α -> Int) : List α -> List α -> Int
 | [], _ => 0
 | _ :: _, [] => 0
 | x :: xs, y :: ys => tn (c x y) (cL c xs ys)
def cN {α : Type} (c : α -> α -> Int) (xs ys : List α) : Int := tn (cI (xs.length : Int) (ys.length : Int)) (cL c xs ys)
def eN {α : Type} (e : α -> List Int) (xs : List α) : List Int := (xs.length : Int) :: xs.flatMap e
theorem pfL {α : Type} {c : α -> α -> Int} {e : α -> List Int} : ∀ (xs ys : List α) (r s : List Int), (∀ x ∈ xs, ∀ y r s, lx (e x ++ r) (e y ++ s) = tn (c x y) (lx r s)) -> xs.length = ys.length ->
 lx (xs.flatMap e ++ r) (ys.flatMap e ++ s) = tn (cL c xs ys) (lx r s)
 | [], [], r, s, _, _ => by simp [cL, b0v]
 | [], _ :: _, _, _, _, h => by simp at h
 | _ :: _, [], _, _, _, h => by simp at h
 | x :: xs, y :: ys, r, s, hc, h => by
   simp only [List.flatMap_cons, List.append_assoc, cL]
   rw [hc x (by simp), pfL xs ys r s (fun z hz => hc z (by simp [hz])) (by simpa using h), b0o]
theorem pfN {α : Type} {c : α -> α -> Int} {e : α -> List Int} (xs ys : List α) (r s : List Int) (hc : ∀ x ∈ xs, ∀ y r s, lx (e x ++ r) (e y ++ s) = tn (c x y) (lx r s)) :
 lx (eN e xs ++ r) (eN e ys ++ s) = tn (cN c xs ys) (lx r s) := by
 simp only [eN, List.cons_append, lx, cN, b0o]
 rcases W3 (xs.length : Int) (ys.length : Int) with ⟨_, h⟩ | ⟨_, h⟩ | ⟨h1, h⟩
 ·simp [h, tn]
 ·simp [h, tn]
 ·rw [h, b0v, b0v, pfL xs ys r s hc (by omega)]
def bI (b : Bool) : Int := if b then 0 else 1
mutual
def cV : Val -> Val -> Int
 | .mk k n t kids keys ents labs, b => tn (cI k b.Kind) (tn (cI n b.Int_) (tn (cS t b.Text) (tn (cN cK keys b.Keys) (tn (tn (cI (kids.length : Int) (b.Kids.length : Int)) (cVs kids b.Kids)) (tn (tn (cI (ents.length : Int) (b.Entries.length : Int)) (cEs ents b.Entries)) (cN cS labs b.Labels))))))
def cVs : List Val -> List Val -> Int
 | [], _ => 0
 | _ :: _, [] => 0
 | x :: xs, y :: ys => tn (cV x y) (cVs xs ys)
def cE : Ent -> Ent -> Int
 | .mk args f res, b => tn (tn (cI (args.length : Int) (b.Args.length : Int)) (cVs args b.Args)) (tn (cI (bI f) (bI b.Fails)) (cV res b.Result))
def cEs : List Ent -> List Ent -> Int
 | [], _ => 0
 | _ :: _, [] => 0
 | x :: xs, y :: ys => tn (cE x y) (cEs xs ys)
end
theorem c2N : ∀ xs ys : List Val, cVs xs ys = cL cV xs ys
 | [], _ => by simp [cVs, cL]
 | _ :: _, [] => by simp [cVs, cL]
 | x :: xs, y :: ys => by simp only [cVs, cL, c2N xs ys]
theorem c52 : ∀ xs ys : List Ent, cEs xs ys = cL cE xs ys
 | [], _ => by simp [cEs, cL]
 | _ :: _, [] => by simp [cEs, cL]
 | x :: xs, y :: ys => by simp only [cEs, cL, c52 xs ys]
theorem c4v (a b : Val) : cV a b = tn (cI a.Kind b.Kind) (tn (cI a.Int_ b.Int_) (tn (cS a.Text b.Text) (tn (cN cK a.Keys b.Keys) (tn (cN cV a.Kids b.Kids) (tn (cN cE a.Entries b.Entries) (cN cS a.Labels b.Labels)))))) := by
 cases a; simp only [cV, c2N, c52, cN, Val.Kind, Val.Int_, Val.Text, Val.Keys, Val.Kids, Val.Entries, Val.Labels]
theorem c5a (a b : Ent) : cE a b = tn (cN cV a.Args b.Args) (tn (cI (bI a.Fails) (bI b.Fails)) (cV a.Result b.Result)) := by
 cases a; simp only [cE, c2N, cN, Ent.Args, Ent.Fails, Ent.Result]
mutual
def eV : Val -> List Int
 | .mk k n t kids keys ents labs => k :: n :: (eS t ++ (eN eK keys ++ (((kids.length : Int) :: eVs kids) ++ (((ents.length : Int) :: eEs ents) ++ eN eS labs))))
def eVs : List Val -> List Int
 | [] => []
 | x :: xs => eV x ++ eVs xs
def eE : Ent -> List Int
 | .mk args f res => ((args.length : Int) :: eVs args) ++ (bI f :: eV res)
def eEs : List Ent -> List Int
 | [] => []
 | x :: xs => eE x ++ eEs xs
end
theorem c2H : ∀ xs : List Val, eVs xs = xs.flatMap eV
 | [] => by simp [eVs]
 | x :: xs => by simp only [eVs, List.flatMap_cons, c2H xs]
theorem c6b : ∀ xs : List Ent, eEs xs = xs.flatMap eE
 | [] => by simp [eEs]
 | x :: xs => by simp only [eEs, List.flatMap_cons, c6b xs]
theorem c8c (a : Val) : eV a = a.Kind :: a.Int_ :: (eS a.Text ++ (eN eK a.Keys ++ (eN eV a.Kids ++ (eN eE a.Entries ++ eN eS a.Labels)))) := by
 cases a; simp only [eV, c2H, c6b, eN, Val.Kind, Val.Int_, Val.Text, Val.Keys, Val.Kids, Val.Entries, Val.Labels]
theorem c8a (a : Ent) : eE a = eN eV a.Args ++ (bI a.Fails :: eV a.Result) := by
 cases a; simp only [eE, c2H, eN, Ent.Args, Ent.Fails, Ent.Result]
theorem c5r : ∀ n : Nat, (∀ a : Val, w6 a <= n -> ∀ b r s, lx (eV a ++ r) (eV b ++ s) = tn (cV a b) (lx r s)) /\ (∀ a : Ent, a1W a <= n -> ∀ b r s, lx (eE a ++ r) (eE b ++ s) = tn (cE a b) (lx r s)) := by
 intro n
 induction n with
 | zero => exact ⟨fun a h => by have := a88 a; omega, fun a h => by have := a0f a; omega⟩
 | succ n ih =>
   refine ⟨fun a h b r s => ?_, fun a h b r s => ?_⟩
   ·have hb := a1x a
    rw [c8c a, c8c b, c4v]
    simp only [List.cons_append, List.append_assoc, lx, b0o]
    rw [pfS, pfN a.Keys b.Keys _ _ (fun x _ y r s => pfK x y r s), pfN a.Kids b.Kids _ _ (fun x hx => ih.1 x (by have := X2 hx; omega)),
     pfN a.Entries b.Entries _ _ (fun x hx => ih.2 x (by have := a0h hx; omega)), pfN a.Labels b.Labels _ _ (fun x _ y r s => pfS x y r s)]
   ·have hb := a0f a
    rw [c8a a, c8a b, c5a]
    simp only [List.append_assoc, b0o]
    rw [pfN a.Args b.Args _ _ (fun x hx => ih.1 x (by have := X2 hx; omega))]
    simp only [List.cons_append, lx]
    rw [ih.1 a.Result (by omega)]
theorem d0m (a b : Val) : cV a b = lx (eV a) (eV b) := by
 have := (c5r (w6 a)).1 a (Nat.le_refl _) b [] []
 simpa [lx, b0f] using this.symm
theorem c4h (a : Val) : cV a a = 0 := by rw [d0m]; exact c8J _
end Go.Pl
namespace Go.Pl
open Go Go.RowKit Go.Sx Go.Qx
theorem b5y (a b : Int) : a0K a b = some (cI a b) := by
 unfold a0K a8K
 simp only [a0a, bne_self_eq_false, Option.bind_some, Bool.false_eq_true, if_false]
 rcases W3 a b with ⟨h, e⟩ | ⟨h, e⟩ | ⟨h, e⟩
 ·rw [if_pos (by simpa using h), e]
 ·rw [if_neg (by simp; omega), if_pos (by simpa using h), e]
 ·rw [if_neg (by simp; omega), if_neg (by simp; omega), e]
theorem c2w (a b : Int) : a5z a b = some (cI a b) := by
 unfold a5z a68
 simp only [a0a, bne_self_eq_false, Option.bind_some, Bool.false_eq_true, if_false]
 rcases W3 a b with ⟨h, e⟩ | ⟨h, e⟩ | ⟨h, e⟩
 ·rw [if_pos (by simpa using h), e]
 ·rw [if_neg (by simp; omega), if_pos (by simpa using h), e]
 ·rw [if_neg (by simp; omega), if_neg (by simp; omega), e]
theorem b2z (a b : Int) : a2E a b = some (cI a b) := by
 unfold a2E
 simp only [a0a]
 rcases W3 a b with ⟨h, e⟩ | ⟨h, e⟩ | ⟨h, e⟩
 ·rw [if_pos (by simpa using h), e]
 ·rw [if_neg (by simp; omega), if_pos (by simpa using h), e]
 ·rw [if_neg (by simp; omega), if_neg (by simp; omega), e]
theorem b7z (a b : Int) : a0D a b = some (cI a b) := by
 unfold a0D; rw [b2z]; rfl
theorem c33 : ∀ a b : List UInt8, Lib.compareBytes a b = cBs a b
 | [], [] => rfl
 | [], _ :: _ => rfl
 | _ :: _, [] => rfl
 | x :: xs, y :: ys => by
   have ih := c33 xs ys
   simp only [Lib.compareBytes, cBs, UInt8.lt_iff_toNat_lt]
   rcases W3 (x.toNat : Int) (y.toNat : Int) with ⟨h, e⟩ | ⟨h, e⟩ | ⟨h, e⟩
   ·rw [if_pos (by omega), e]; rfl
   ·rw [if_neg (by omega), if_pos (by omega), e]; rfl
   ·rw [if_neg (by omega), if_neg (by omega), e, b0v, ih]
theorem b2e (a b : ByteArray) : a0s a b = some (cS a b) := by
 unfold a0s a2m c2i b7E
 rw [c33]; rfl
theorem b67 : ∀ a b : List UInt8, (Op.bytesLess a b = true /\ cBs a b = -1 /\ a ≠ b) \/ (Op.bytesLess a b = false /\ cBs a b = 0 /\ a = b) \/ (Op.bytesLess a b = false /\ cBs a b = 1 /\ a ≠ b)
 | [], [] => by simp [Op.bytesLess, cBs]
 | [], _ :: _ => by simp [Op.bytesLess, cBs]
 | _ :: _, [] => by simp [Op.bytesLess, cBs]
 | x :: xs, y :: ys => by
   have ih := b67 xs ys
   simp only [Op.bytesLess, cBs]
   rcases W3 (x.toNat : Int) (y.toNat : Int) with ⟨h, e⟩ | ⟨h, e⟩ | ⟨h, e⟩
   ·have h1 : x < y := UInt8.lt_iff_toNat_lt.2 (by omega)
    have h2 : x ≠ y := by intro h3; subst h3; omega
    simp [e, h1, h2, tn]
   ·have h1 : ¬ x < y := fun h3 => by have := UInt8.lt_iff_toNat_lt.1 h3; omega
    have h2 : x ≠ y := by intro h3; subst h3; omega
    simp [e, h1, h2, tn]
   ·have h2 : x = y := UInt8.toNat_inj.1 (by omega)
    subst h2
    have h1 : ¬ x < x := fun h3 => by have := UInt8.lt_iff_toNat_lt.1 h3; omega
    simpa [e, h1, tn] using ih
theorem a8Z (a b : ByteArray) : (a2T a b = true /\ Q7 a b = false /\ cS a b = -1) \/ (a2T a b = false /\ Q7 a b = true /\ cS a b = 0) \/ (a2T a b = false /\ Q7 a b = false /\ cS a b = 1) := by
 unfold a2T Q7 cS
 rw [Lib.toList_data, Lib.toList_data]
 rcases b67 a.data.toList b.data.toList with ⟨h, e, n⟩ | ⟨h, e, n⟩ | ⟨h, e, n⟩
 ·left; exact ⟨h, by simpa using n, e⟩
 ·right; left; exact ⟨h, by simpa using n, e⟩
 ·right; right; exact ⟨h, by simpa using n, e⟩
theorem b4h (a b : ByteArray) : a1r a b = some (cS a b) := by
 unfold a1r
 rcases a8Z a b with ⟨h, k, e⟩ | ⟨h, k, e⟩ | ⟨h, k, e⟩ <;> simp [h, k, e]
theorem b0K {x y : Int} {o : Option Int} (h : o = some y) : (bif (x != 0) then some x else o) = some (tn x y) := by
 rw [a0a]
 unfold tn
 by_cases hx : x = 0
 ·subst hx; simp [h]
 ·simp [hx]
theorem c5m {a b y : Int} {o : Option Int} (h : o = some y) : (bif (a != b) then some (cI a b) else o) = some (tn (cI a b) y) := by
 rw [a0a]
 unfold tn
 rcases W3 a b with ⟨p, e⟩ | ⟨p, e⟩ | ⟨p, e⟩
 ·have : a ≠ b := by omega
  simp [this, e]
 ·have : a ≠ b := by omega
  simp [this, e]
 ·simp [p, h]
  subst p
  intro h2; rw [e] at h2; exact absurd rfl h2
theorem d0r {a b : ByteArray} {y : Int} {o : Option Int} (h : o = some y) : (bif (!Q7 a b) then (Option.bind (a1r a b) fun r => some r) else o) = some (tn (cS a b) y) := by
 rw [a0a, b4h, h]
 rcases a8Z a b with ⟨_, p, e⟩ | ⟨_, p, e⟩ | ⟨_, p, e⟩ <;> simp [p, e, tn]
theorem b4A (a b : Key) : a0j a b = some (cK a b) := by
 unfold a0j
 rw [b5y]
 simp only [Option.bind_some]
 exact b0K (by rw [b2e]; rfl)
theorem b0G (a b : Key) : W6 a b = some (cK a b) := by
 unfold W6
 rw [b2z]
 exact c5m (by rw [b4h]; rfl)
theorem c7q {α : Type} {step : Int -> Option (Fl Int (Sum Unit Int))} {rc : α -> α -> Option Int} {c : α -> α -> Int} (xs ys : List α) (hlen : xs.length = ys.length)
 (hst : ∀ q, step q = bif decide (q < (xs.length : Int)) then Option.bind (idx xs q) fun x => Option.bind (idx ys q) fun y => Option.bind (rc x y) fun r =>
   bif r != 0 then some (.done (.inr r)) else some (.next (wr .i64 (q + 1))) else some (.done (.inl ())))
 (hrc : ∀ x ∈ xs, ∀ y, rc x y = some (c x y)) (hl : xs.length <= 4194304) :
 ∃ o, j7 step (xs.length + 1) 0 = some o /\ ((o = .inl () /\ cL c xs ys = 0) \/ (o = .inr (cL c xs ys) /\ cL c xs ys ≠ 0)) := by
 have key : ∀ (n i k : Nat), i + n = xs.length -> n + 1 <= k ->
  ∃ o, j7 step k (i : Int) = some o /\ ((o = .inl () /\ cL c (xs.drop i) (ys.drop i) = 0) \/ (o = .inr (cL c (xs.drop i) (ys.drop i)) /\ cL c (xs.drop i) (ys.drop i) ≠ 0)) := by
  intro n
  induction n with
  | zero =>
    intro i k hi hk
    obtain ⟨k, rfl⟩ : ∃ m, k = m + 1 := ⟨k - 1, by omega⟩
    refine ⟨.inl (), ?_, .inl ⟨rfl, ?_⟩⟩
    ·simp only [j7, hst, a0a]
     rw [if_neg (by simp; omega)]
     rfl
    ·rw [List.drop_eq_nil_of_le (by omega)]; simp [cL]
  | succ n ih =>
    intro i k hi hk
    obtain ⟨k, rfl⟩ : ∃ m, k = m + 1 := ⟨k - 1, by omega⟩
    have hx : i < xs.length := by omega
    have hy : i < ys.length := by omega
    rw [List.drop_eq_getElem_cons hx, List.drop_eq_getElem_cons hy]
    have e : step (i : Int) = if (c xs[i] ys[i] != 0) = true then some (.done (.inr (c xs[i] ys[i]))) else some (.next (w64 ((i : Int) + 1))) := by
     rw [hst]
     simp only [a0a, Z1]
     rw [if_pos (by simp; omega), k7 (List.getElem?_eq_getElem hx), k7 (List.getElem?_eq_getElem hy)]
     simp only [Option.bind_some]
     rw [hrc _ (List.getElem_mem hx)]
     rfl
    simp only [j7, e, cL]
    by_cases h0 : c xs[i] ys[i] = 0
    ·rw [h0, b0v, J4 (x := (i : Int) + 1) (by omega) (by omega)]
     obtain ⟨o, ho, hp⟩ := ih (i + 1) k (by omega) (by omega)
     refine ⟨o, ?_, hp⟩
     simpa using ho
    ·have ht : tn (c xs[i] ys[i]) (cL c (xs.drop (i + 1)) (ys.drop (i + 1))) = c xs[i] ys[i] := by simp [tn, h0]
     rw [ht]
     refine ⟨.inr (c xs[i] ys[i]), ?_, .inr ⟨rfl, h0⟩⟩
     simp [h0]
 obtain ⟨o, h1, h2⟩ := key xs.length 0 (xs.length + 1) (by omega) (Nat.le_refl _)
 exact ⟨o, by simpa using h1, by simpa using h2⟩
theorem c35 {α : Type} {step : Int -> Option (Fl Int (Sum Unit Int))} {rc : α -> α -> Option Int} {c : α -> α -> Int} (xs ys : List α) (hlen : xs.length = ys.length)
 (hst : ∀ q, step q = bif decide (q < (xs.length : Int)) then Option.bind (idx xs q) fun x => Option.bind (idx ys q) fun y => Option.bind (rc x y) fun r =>
   bif r != 0 then some (.done (.inr r)) else some (.next (wr .i64 (q + 1))) else some (.done (.inl ())))
 (hrc : ∀ x ∈ xs, ∀ y, rc x y = some (c x y)) (hl : xs.length <= 4194304) {f : Unit -> Option Int} {z : Int} (hf : ∀ q, f q = some z) :
 (Option.bind (j7 step (((xs.length : Int)).toNat + 1) 0) fun b => v7 f (fun r => some r) b) = some (tn (cL c xs ys) z) := by
 obtain ⟨o, h1, h2⟩ := c7q xs ys hlen hst hrc hl
 rw [Y1, h1]
 rcases h2 with ⟨rfl, h⟩ | ⟨rfl, h⟩
 ·simp [v7, hf, h, tn]
 ·simp [v7, h, tn]
theorem b6k {α : Type} {step : Int -> Option (Fl Int (Sum Unit Int))} {rc : α -> α -> Option Int} {c : α -> α -> Int} (xs ys : List α)
 (hst : ∀ q, step q = bif decide (q < (xs.length : Int)) then Option.bind (idx xs q) fun x => Option.bind (idx ys q) fun y => Option.bind (rc x y) fun r =>
   bif r != 0 then some (.done (.inr r)) else some (.next (wr .i64 (q + 1))) else some (.done (.inl ())))
 (hrc : ∀ x ∈ xs, ∀ y, rc x y = some (c x y)) (hl : xs.length <= 4194304) :
 (Option.bind (a0K (xs.length : Int) (ys.length : Int)) fun r7 => bif r7 != 0 then some r7 else
   (Option.bind (j7 step (((xs.length : Int)).toNat + 1) 0) fun b => v7 (fun _ => some 0) (fun r => some r) b)) = some (cN c xs ys) := by
 rw [b5y]
 simp only [Option.bind_some, cN]
 rcases W3 (xs.length : Int) (ys.length : Int) with ⟨_, e⟩ | ⟨_, e⟩ | ⟨p, e⟩
 ·simp [e, tn]
 ·simp [e, tn]
 ·rw [c35 xs ys (by omega) hst hrc hl (z := 0) (fun _ => rfl), b0f, e]
  simp [tn]
theorem b7U {α : Type} {step : Int -> Option (Fl Int (Sum Unit Int))} {rc : α -> α -> Option Int} {c : α -> α -> Int} (xs ys : List α)
 (hst : ∀ q, step q = bif decide (q < (xs.length : Int)) then Option.bind (idx xs q) fun x => Option.bind (idx ys q) fun y => Option.bind (rc x y) fun r =>
   bif r != 0 then some (.done (.inr r)) else some (.next (wr .i64 (q + 1))) else some (.done (.inl ())))
 (hrc : ∀ x ∈ xs, ∀ y, rc x y = some (c x y)) (hl : xs.length <= 4194304) {f : Unit -> Option Int} {z : Int} (hf : ∀ q, f q = some z) :
 (bif ((xs.length : Int) != (ys.length : Int)) then (Option.bind (a0D (xs.length : Int) (ys.length : Int)) fun r => some r) else
   (Option.bind (j7 step (((xs.length : Int)).toNat + 1) 0) fun b => v7 f (fun r => some r) b)) = some (tn (cN c xs ys) z) := by
 rw [a0a, b7z]
 simp only [Option.bind_some, cN]
 rcases W3 (xs.length : Int) (ys.length : Int) with ⟨p, e⟩ | ⟨p, e⟩ | ⟨p, e⟩
 ·have : ((xs.length : Int) != (ys.length : Int)) = true := by simp; omega
  rw [if_pos this, e]; rfl
 ·have : ((xs.length : Int) != (ys.length : Int)) = true := by simp; omega
  rw [if_pos this, e]; rfl
 ·rw [if_neg (by simp; omega), c35 xs ys (by omega) hst hrc hl hf, e, b0v]
theorem b5t : ∀ (k : Nat),
 (∀ a b, 2 * w6 a <= k -> w6 a <= 4194304 -> a2G k a b = some (cV a b)) /\
 (∀ xs ys, 2 * w5 xs + 1 <= k -> w5 xs <= 4194304 -> a2X k xs ys = some (cN cV xs ys)) /\
 (∀ a b, 2 * a1W a <= k -> a1W a <= 4194304 -> V6 k a b = some (cE a b))
 | 0 => ⟨fun v _ h => by have := a88 v; omega, fun _ _ h => by omega, fun v _ h => by have := a0f v; omega⟩
 | k + 1 => by
   obtain ⟨i1, i2, i3⟩ := b5t k
   refine ⟨?_, ?_, ?_⟩
   ·intro a b h hb
    show a9D k (a2G k) (V6 k) (a2X k) a b = _
    have hbe := a1x a
    have hk := a52 a.Keys
    have hs := a4A a.Labels
    have he := a3f a.Entries
    unfold a9D
    simp only [a0z]
    rw [c4v, b5y, c2w, b2e]
    simp only [Option.bind_some]
    refine b0K (b0K (b0K ?_))
    unfold a3H
    rw [b6k (step := a5y a.Keys b.Keys fun x y => a0j x y) a.Keys b.Keys (rc := a0j) (c := cK) (fun q => rfl) (fun x _ y => b4A x y) (by omega)]
    simp only [Option.bind_some]
    refine b0K ?_
    rw [i2 a.Kids b.Kids (by omega) (by omega)]
    simp only [Option.bind_some]
    refine b0K ?_
    unfold a25
    rw [b6k (step := a4Q a.Entries b.Entries fun x y => V6 k x y) a.Entries b.Entries (rc := V6 k) (c := cE) (fun q => rfl) (fun x hx y => i3 x y (by have := a0h hx; omega) (by have := a0h hx; omega)) (by omega)]
    simp only [Option.bind_some]
    refine b0K ?_
    unfold a35
    rw [b6k (step := a5U a.Labels b.Labels fun x y => a0s x y) a.Labels b.Labels (rc := a0s) (c := cS) (fun q => rfl) (fun x _ y => b2e x y) (by omega)]
   ·intro xs ys h hb
    show a55 k (a2G k) (V6 k) (a2X k) xs ys = _
    have hl := a1c xs
    unfold a55 a21
    simp only [a0z]
    rw [b6k (step := a4P xs ys fun x y => a2G k x y) xs ys (rc := a2G k) (c := cV) (fun q => rfl) (fun x hx y => i1 x y (by have := X2 hx; omega) (by have := X2 hx; omega)) (by omega)]
   ·intro a b h hb
    show a5k k (a2G k) (V6 k) (a2X k) a b = _
    have hbe := a0f a
    unfold a5k
    rw [c5a, i2 a.Args b.Args (by omega) (by omega), i1 a.Result b.Result (by omega) (by omega)]
    simp only [Option.bind_some]
    refine b0K ?_
    cases a.Fails <;> cases b.Fails <;> simp [bI, cI, tn]
theorem a50 : ∀ (k : Nat),
 (∀ a b, 2 * w6 a <= k -> w6 a <= 4194304 -> a0C k a b = some (cV a b)) /\
 (∀ xs ys, 2 * w5 xs + 1 <= k -> w5 xs <= 4194304 -> a3v k xs ys = some (cN cV xs ys)) /\
 (∀ a b, 2 * a1W a <= k -> a1W a <= 4194304 -> Y3 k a b = some (cE a b))
 | 0 => ⟨fun v _ h => by have := a88 v; omega, fun _ _ h => by omega, fun v _ h => by have := a0f v; omega⟩
 | k + 1 => by
   obtain ⟨i1, i2, i3⟩ := a50 k
   refine ⟨?_, ?_, ?_⟩
   ·intro a b h hb
    show a54 k (a0C k) (a3v k) (Y3 k) a b = _
    have hbe := a1x a
    have hk := a52 a.Keys
    have hs := a4A a.Labels
    have he := a3f a.Entries
    unfold a54
    rw [c4v, b7z, b2z]
    simp only [Option.bind_some]
    refine c5m (c5m (d0r ?_))
    refine b7U (step := a8B a b) a.Keys b.Keys (rc := W6) (c := cK) (fun q => rfl) (fun x _ y => b0G x y) (by omega) ?_
    intro _
    rw [i2 a.Kids b.Kids (by omega) (by omega)]
    simp only [Option.bind_some]
    refine b0K ?_
    refine b7U (step := a8A a b (Y3 k)) a.Entries b.Entries (rc := Y3 k) (c := cE) (fun q => rfl) (fun x hx y => i3 x y (by have := a0h hx; omega) (by have := a0h hx; omega)) (by omega) ?_
    intro _
    have := b7U (step := a8v a b) a.Labels b.Labels (rc := a1r) (c := cS) (z := 0) (fun q => rfl) (fun x _ y => b4h x y) (by omega) (f := fun _ => some 0) (fun _ => rfl)
    rw [b0f] at this
    exact this
   ·intro xs ys h hb
    show a6C k (a0C k) (a3v k) (Y3 k) xs ys = _
    have hl := a1c xs
    unfold a6C
    rw [b7U (step := a86 xs ys (a0C k)) xs ys (rc := a0C k) (c := cV) (z := 0) (fun q => rfl) (fun x hx y => i1 x y (by have := X2 hx; omega) (by have := X2 hx; omega)) (by omega) (fun _ => rfl), b0f]
   ·intro a b h hb
    show a22 k (a0C k) (a3v k) (Y3 k) a b = _
    have hbe := a0f a
    unfold a22
    rw [c5a, i2 a.Args b.Args (by omega) (by omega), i1 a.Result b.Result (by omega) (by omega)]
    simp only [Option.bind_some]
    refine b0K ?_
    cases a.Fails <;> cases b.Fails <;> simp [bI, cI, tn]
end Go.Pl
end
section
namespace Go.Pl
open Go Go.RowKit Go.Sx Go.Qx
theorem b3h {step : Int -> Option (Fl Int (Sum Unit Bool))} (n : Nat) (p : Nat -> Bool)
 (hst : ∀ i : Nat, i < n -> step (i : Int) = some (if p i = true then .next ((i + 1 : Nat) : Int) else .done (.inr false)))
 (hend : ∀ i : Nat, n <= i -> step (i : Int) = some (.done (.inl ()))) (i0 : Nat) (b : Bool) (hb : b = true ↔ ∀ i, i0 <= i -> i < n -> p i = true) :
 Option.bind (j7 step (n + 1) (i0 : Int)) (v7 (fun _ => some true) (fun r => some r)) = some b := by
 have fin : ∀ (i k : Nat), n <= i -> (∀ j, i0 <= j -> j < i -> j < n -> p j = true) -> Option.bind (j7 step (k + 1) (i : Int)) (v7 (fun _ => some true) (fun r => some r)) = some b := by
  intro i k h1 h4
  simp only [j7, hend i h1, Option.bind_some, v7]
  have : b = true := hb.2 fun j a c => h4 j a (by omega) c
  rw [this]
 have key : ∀ (m i k : Nat), n <= i + m -> m + 1 <= k -> i0 <= i -> (∀ j, i0 <= j -> j < i -> j < n -> p j = true) -> Option.bind (j7 step k (i : Int)) (v7 (fun _ => some true) (fun r => some r)) = some b := by
  intro m
  induction m with
  | zero =>
    intro i k h1 h2 h3 h4
    obtain ⟨k, rfl⟩ : ∃ m, k = m + 1 := ⟨k - 1, by omega⟩
    exact fin i k (by omega) h4
  | succ m ih =>
    intro i k h1 h2 h3 h4
    obtain ⟨k, rfl⟩ : ∃ m, k = m + 1 := ⟨k - 1, by omega⟩
    by_cases hlt : i < n
    ·simp only [j7, hst i hlt]
     cases hp : p i
     ·simp only [Bool.false_eq_true, if_false, Option.bind_some, v7]
      have : b = false := by
       cases b
       ·rfl
       ·have := hb.1 rfl i h3 hlt
        rw [hp] at this; cases this
      rw [this]
     ·simp only [if_true, Option.bind_some]
      refine ih (i + 1) k (by omega) (by omega) (by omega) (fun j a c d => ?_)
      by_cases e : j < i
      ·exact h4 j a e d
      ·have : j = i := by omega
       subst this; exact hp
    ·exact fin i k (by omega) h4
 exact key n i0 (n + 1) (by omega) (by omega) (Nat.le_refl _) (fun j a c => by omega)
theorem k9 (i : Nat) (h : i <= 4611686018427387904) : w64 ((i : Int) + 1) = ((i + 1 : Nat) : Int) := by rw [J4 (by omega) (by omega)]; rfl
theorem a13 (b : Bool) (x : Int) : (bif (!b) then some (Fl.done (Sum.inr false)) else some (Fl.next x)) = some (if b = true then Fl.next x else (Fl.done (Sum.inr false) : Fl Int (Sum Unit Bool))) := by cases b <;> rfl
theorem c0l {α : Type} {step : Int -> Option (Fl Int (Sum Unit Bool))} {rc : α -> Option Bool} {p : α -> Bool} (xs : List α)
 (hst : ∀ q, step q = bif decide (q < (xs.length : Int)) then Option.bind (idx xs q) fun x => Option.bind (rc x) fun r =>
   bif !r then some (.done (.inr false)) else some (.next (wr .i64 (q + 1))) else some (.done (.inl ())))
 (hrc : ∀ x ∈ xs, rc x = some (p x)) (hl : xs.length <= 4194304) :
 (Option.bind (j7 step (((xs.length : Int)).toNat + 1) 0) fun b => v7 (fun _ => some true) (fun r => some r) b) = some (xs.all p) := by
 rw [Y1]
 refine b3h xs.length (fun i => match xs[i]? with | some x => p x | none => true) ?_ ?_ 0 (xs.all p) ?_
 ·intro i hi
  rw [hst, a0a, if_pos (by simp; omega), k7 (List.getElem?_eq_getElem hi)]
  simp only [Option.bind_some]
  rw [hrc _ (List.getElem_mem hi), List.getElem?_eq_getElem hi]
  simp only [Option.bind_some, Z1, k9 i (by omega)]
  exact a13 _ _
 ·intro i hi
  rw [hst, a0a, if_neg (by simp; omega)]
 ·rw [List.all_eq_true]
  constructor
  ·intro h i _ hi
   rw [List.getElem?_eq_getElem hi]
   exact h _ (List.getElem_mem hi)
  ·intro h x hx
   obtain ⟨i, hi, rfl⟩ := List.getElem_of_mem hx
   have := h i (by omega) hi
   rwa [List.getElem?_eq_getElem hi] at this
def asc {α : Type} (c : α -> α -> Int) : List α -> Bool
 | x :: y :: r => decide (c x y < 0) && asc c (y :: r)
 | _ => true
theorem b4X {α : Type} (c : α -> α -> Int) : ∀ xs : List α, asc c xs = true ↔ ∀ i, 1 <= i -> (hi : i < xs.length) -> c xs[i - 1] xs[i] < 0
 | [] => by simp [asc]
 | [x] => by
   simp only [asc, true_iff]
   intro i h1 hi
   simp at hi; omega
 | x :: y :: r => by
   have ih := b4X c (y :: r)
   simp only [asc, Bool.and_eq_true, decide_eq_true_eq, ih]
   constructor
   ·intro ⟨h1, h2⟩ i hi hl
    obtain ⟨i, rfl⟩ : ∃ m, i = m + 1 := ⟨i - 1, by omega⟩
    cases i with
    | zero => exact h1
    | succ i => exact h2 (i + 1) (by omega) (by simpa using hl)
   ·intro h
    refine ⟨h 1 (by omega) (by simp), fun i hi hl => ?_⟩
    obtain ⟨i, rfl⟩ : ∃ m, i = m + 1 := ⟨i - 1, by omega⟩
    have := h (i + 2) (by omega) (by simpa using hl)
    simpa using this
theorem c29 {α : Type} {step : Int -> Option (Fl Int (Sum Unit Bool))} {rc : α -> α -> Option Int} {c : α -> α -> Int} (xs : List α)
 (hst : ∀ q, step q = bif decide (q < (xs.length : Int)) then Option.bind (idx xs (wr .i64 (q - 1))) fun x => Option.bind (idx xs q) fun y => Option.bind (rc x y) fun r =>
   bif decide (0 <= r) then some (.done (.inr false)) else some (.next (wr .i64 (q + 1))) else some (.done (.inl ())))
 (hrc : ∀ x ∈ xs, ∀ y, rc x y = some (c x y)) (hl : xs.length <= 4194304) :
 (Option.bind (j7 step (((xs.length : Int)).toNat + 1) 1) fun b => v7 (fun _ => some true) (fun r => some r) b) = some (asc c xs) := by
 rw [Y1]
 have hp : ∀ i, 1 <= i -> ∀ hi : i < xs.length, step (i : Int) = some (if decide (c xs[i - 1] xs[i] < 0) = true then .next ((i + 1 : Nat) : Int) else .done (.inr false)) := by
  intro i h1 hi
  have hw : w64 ((i : Int) - 1) = ((i - 1 : Nat) : Int) := by rw [J4 (by omega) (by omega)]; omega
  rw [hst]
  simp only [a0a, Z1]
  rw [if_pos (by simp; omega), hw, k7 (List.getElem?_eq_getElem (by omega : i - 1 < xs.length)), k7 (List.getElem?_eq_getElem hi)]
  simp only [Option.bind_some]
  rw [hrc _ (List.getElem_mem _)]
  simp only [Option.bind_some, k9 i (by omega)]
  by_cases h : c xs[i - 1] xs[i] < 0
  ·rw [if_neg (by simp; omega), if_pos (by simpa using h)]
  ·rw [if_pos (by simp; omega), if_neg (by simpa using h)]
 have hend : ∀ i : Nat, xs.length <= i -> step (i : Int) = some (.done (.inl ())) := by
  intro i hi
  rw [hst, a0a, if_neg (by simp; omega)]
 let step' : Int -> Option (Fl Int (Sum Unit Bool)) := fun q => if q = 0 /\ 0 < xs.length then some (.next 1) else step q
 have e : ∀ (k i : Nat), 1 <= i -> j7 step' k (i : Int) = j7 step k (i : Int) := by
  intro k
  induction k with
  | zero => intro i _; rfl
  | succ k ih =>
    intro i h1
    have e1 : step' (i : Int) = step (i : Int) := by simp only [step']; rw [if_neg (by omega)]
    simp only [j7, e1]
    by_cases hi : i < xs.length
    ·rw [hp i h1 hi]
     by_cases h : decide (c xs[i - 1] xs[i] < 0) = true
     ·rw [if_pos h]; exact ih (i + 1) (by omega)
     ·rw [if_neg h]; rfl
    ·rw [hend i (by omega)]; rfl
 have e' := e (xs.length + 1) 1 (by omega)
 rw [show ((1 : Nat) : Int) = 1 from rfl] at e'
 rw [<- e']
 refine b3h xs.length (fun i => if h : 1 <= i /\ i < xs.length then decide (c xs[i - 1] (xs[i]'h.2) < 0) else true) ?_ ?_ 1 (asc c xs) ?_
 ·intro i hi
  cases i with
  | zero =>
    simp only [step']
    rw [if_pos ⟨rfl, hi⟩]
    rfl
  | succ i =>
    have e1 : step' ((i + 1 : Nat) : Int) = step ((i + 1 : Nat) : Int) := by simp only [step']; rw [if_neg (by omega)]
    rw [e1, hp (i + 1) (by omega) hi, dif_pos ⟨by omega, hi⟩]
 ·intro i hi
  have e1 : step' (i : Int) = step (i : Int) := by simp only [step']; rw [if_neg (by omega)]
  rw [e1, hend i hi]
 ·rw [b4X]
  constructor
  ·intro h i h1 hi
   rw [dif_pos ⟨h1, hi⟩]; simpa using h i h1 hi
  ·intro h i h1 hi
   have := h i h1 hi
   rw [dif_pos ⟨h1, hi⟩] at this; simpa using this
def a65 (c : UInt8) : Bool := decide (97 <= (c.toNat : Int)) && decide ((c.toNat : Int) <= 122)
def upC (c : UInt8) : Bool := decide (65 <= (c.toNat : Int)) && decide ((c.toNat : Int) <= 90)
def a8g (c : UInt8) : Bool := decide (48 <= (c.toNat : Int)) && decide ((c.toNat : Int) <= 57)
def b4N (f g : UInt8 -> Bool) (s : ByteArray) : Bool :=
 match s.data.toList with
 | [] => false
 | c :: r => decide (r.length <= 15) && f c && r.all g
def a6G (s : ByteArray) : Bool := b4N upC (fun c => a65 c || upC c || a8g c || (c.toNat : Int) == 95) s
def a4v (s : ByteArray) : Bool := b4N a65 (fun c => a65 c || a8g c || (c.toNat : Int) == 95) s
theorem c2C (c : UInt8) : a4Z (c.toNat : Int) = some (a65 c) := by
 unfold a4Z a65
 cases decide (97 <= (c.toNat : Int)) <;> simp
theorem c8b (c : UInt8) : a6N (c.toNat : Int) = some (upC c) := by
 unfold a6N upC
 cases decide (65 <= (c.toNat : Int)) <;> simp
theorem c5B (c : UInt8) : a6P (c.toNat : Int) = some (a8g c) := by
 unfold a6P a8g
 cases decide (48 <= (c.toNat : Int)) <;> simp
theorem b2o {s : ByteArray} {i : Nat} {c : UInt8} (h : s.data.toList[i]? = some c) : a6v s (i : Int) = some c := by
 unfold a6v
 rw [if_pos (by omega)]
 obtain ⟨hi, e⟩ := List.getElem?_eq_some_iff.1 h
 have hs : i < s.size := by simpa using hi
 show s[((i : Int)).toNat]? = some c
 rw [Int.toNat_natCast, getElem?_pos s i hs]
 show some s.data[i] = some c
 simpa using e
theorem b7b (s : ByteArray) : s.size = s.data.toList.length := by simp
theorem c4r {a1 a2 : Int -> Option Bool} {f g : UInt8 -> Bool} (h1 : ∀ c : UInt8, a1 (c.toNat : Int) = some (f c)) (h2 : ∀ c : UInt8, a2 (c.toNat : Int) = some (g c)) (s : ByteArray) : a7G s a1 a2 = some (b4N f g s) := by
 unfold a7G b4N
 simp only [a0a, c06]
 have hsz := b7b s
 cases hs : s.data.toList with
 | nil =>
   rw [hs] at hsz
   rw [hsz]
   simp
 | cons c r =>
   rw [hs] at hsz
   simp only [List.length_cons] at hsz
   have e1 : decide ((s.size : Int) < 1) = false := by simp; omega
   rw [e1]
   simp only [Bool.false_eq_true, if_false, Option.bind_some]
   by_cases hb : 16 < (s.size : Int)
   ·rw [if_pos (by simpa using hb)]
    have : decide (r.length <= 15) = false := by simp; omega
    rw [this]; rfl
   ·rw [if_neg (by simpa using hb)]
    have e2 : decide (r.length <= 15) = true := by simp; omega
    have e3 : a6v s 0 = some c := b2o (i := 0) (by rw [hs]; rfl)
    rw [e2, e3]
    simp only [Option.bind_some, h1, Bool.true_and]
    cases f c
    ·rfl
    ·simp only [Bool.not_true, Bool.false_eq_true, if_false, Bool.true_and]
     refine b3h s.size (fun i => match s.data.toList[i]? with | some x => g x | none => true) ?_ ?_ 1 (r.all g) ?_
     ·intro i hi
      have hi' : i < s.data.toList.length := by rw [hs]; simp; omega
      unfold a9B
      rw [a0a, if_pos (by simp; omega), b2o (List.getElem?_eq_getElem hi')]
      simp only [Option.bind_some, h2]
      rw [List.getElem?_eq_getElem hi', Z1, k9 i (by omega)]
      exact a13 _ _
     ·intro i hi
      unfold a9B
      rw [a0a, if_neg (by simp; omega)]
     ·rw [hs, List.all_eq_true]
      constructor
      ·intro h i h1 hi
       obtain ⟨i, rfl⟩ : ∃ m, i = m + 1 := ⟨i - 1, by omega⟩
       have hr : i < r.length := by omega
       simp only [List.getElem?_cons_succ, List.getElem?_eq_getElem hr]
       exact h _ (List.getElem_mem hr)
      ·intro h x hx
       obtain ⟨i, hi, rfl⟩ := List.getElem_of_mem hx
       have := h (i + 1) (by omega) (by omega)
       simpa only [List.getElem?_cons_succ, List.getElem?_eq_getElem hi] using this
theorem c6z (s : ByteArray) : a29 s = some (a6G s) := by
 unfold a29
 simp only [a0z]
 rw [c4r c8b (g := fun c => a65 c || upC c || a8g c || (c.toNat : Int) == 95) (fun c => by
  unfold a7n
  rw [c2C, c8b, c5B]
  simp only [Option.bind_some]
  cases a65 c <;> cases upC c <;> cases a8g c <;> simp)]
 rfl
theorem c0P (s : ByteArray) : a5P s = some (a4v s) := by
 unfold a5P
 simp only [a0z]
 rw [c4r c2C (g := fun c => a65 c || a8g c || (c.toNat : Int) == 95) (fun c => by
  unfold b0A
  rw [c2C, c5B]
  simp only [Option.bind_some]
  cases a65 c <;> cases a8g c <;> simp)]
 rfl
def a05 (l : List ByteArray) : Bool := asc cS l && l.all a6G
def a0c (k : Key) : Bool := if k.Kind = 0 then a4v k.Text else if k.Kind = 1 then decide ((k.Text.size : Int) <= 64) else false
def a9t (v : Val) : Bool := v.Keys.length == v.Kids.length && (asc cK v.Keys && v.Keys.all a0c)
abbrev a38 : Val := Val.mk 0 0 (⟨#[]⟩) ([] : List Val) ([] : List Key) ([] : List Ent) ([] : List ByteArray)
def a2h (n : Int) (e : Ent) : Bool := (e.Args.length : Int) == n && (!e.Fails || cV e.Result a38 == 0)
def b3E (v : Val) : Bool := decide (0 <= v.Int_) && decide (v.Int_ <= 4) && (asc cE v.Entries && v.Entries.all (a2h v.Int_))
theorem c59 (l : List ByteArray) (hl : l.length <= 4194304) : a5D l = some (a05 l) := by
 unfold a5D a5l a05
 simp only [a0z]
 rw [c29 (step := a7h l fun x y => a0s x y) (rc := a0s) (c := cS) l (fun q => rfl) (fun x _ y => b2e x y) hl]
 simp only [Option.bind_some]
 rw [c0l (step := a9z l) (rc := a29) (p := a6G) l (fun q => rfl) (fun x _ => c6z x) hl]
 cases asc cS l <;> simp
theorem c5t (k : Key) : a4h k = some (a0c k) := by
 unfold a4h a0c
 rw [c0P]
 simp only [a0a, beq_iff_eq, a0z]
 by_cases h : k.Kind = 0
 ·simp [h]
 ·by_cases h1 : k.Kind = 1
  ·simp [h1]
  ·simp [h, h1]
theorem c9S (v : Val) (hl : w6 v <= 4194304) : a7S v = some (a9t v) := by
 have hb := a1x v
 have hk := a52 v.Keys
 unfold a7S a4Y a9t
 simp only [a0z]
 rw [c29 (step := a6S v.Keys fun x y => a0j x y) (rc := a0j) (c := cK) v.Keys (fun q => rfl) (fun x _ y => b4A x y) (by omega)]
 simp only [Option.bind_some]
 rw [c0l (step := b1K v) (rc := a4h) (p := a0c) v.Keys (fun q => rfl) (fun x _ => c5t x) (by omega)]
 by_cases h : v.Keys.length = v.Kids.length
 ·rw [a0a, if_neg (by simp; omega)]
  simp only [h, beq_self_eq_true, Bool.true_and]
  cases asc cK v.Keys <;> simp
 ·rw [a0a, if_pos (by simp; omega)]
  have : (v.Keys.length == v.Kids.length) = false := by simpa using h
  rw [this]; rfl
theorem c9A (fuel : Nat) (e : Ent) (n : Int) (hf : 2 * a1W e <= fuel) (hb : a1W e <= 4194304) : a4r fuel e n = some (a2h n e) := by
 have he := a0f e
 unfold a4r b2L b4v a2h
 simp only [a0z]
 rw [(b5t fuel).1 e.Result a38 (by omega) (by omega)]
 simp only [Option.bind_some]
 cases (e.Args.length : Int) == n <;> cases e.Fails <;> simp
theorem c9f (fuel : Nat) (v : Val) (hf : 2 * w6 v <= fuel + 2) (hb : w6 v <= 4194304) : a4O fuel v = some (b3E v) := by
 have he := a1x v
 have hk := a3f v.Entries
 unfold a4O a31 b3E
 simp only [a0z]
 rw [c29 (step := a57 v.Entries fun x y => V6 fuel x y) (rc := V6 fuel) (c := cE) v.Entries (fun q => rfl) (fun x hx y => (b5t fuel).2.2 x y (by have := a0h hx; omega) (by have := a0h hx; omega)) (by omega)]
 simp only [Option.bind_some]
 rw [c0l (step := a8E v fuel) (rc := fun x => a4r fuel x v.Int_) (p := a2h v.Int_) v.Entries (fun q => rfl) (fun x hx => c9A fuel x _ (by have := a0h hx; omega) (by have := a0h hx; omega)) (by omega)]
 by_cases h1 : v.Int_ < 0
 ·have e1 : decide (0 <= v.Int_) = false := by simp; omega
  rw [e1]; simp [h1]
 ·have e1 : decide (0 <= v.Int_) = true := by simp; omega
  by_cases h2 : 4 < v.Int_
  ·have e2 : decide (v.Int_ <= 4) = false := by simp; omega
   rw [e1, e2]; simp [h1, h2]
  ·have e2 : decide (v.Int_ <= 4) = true := by simp; omega
   rw [e1, e2]
   simp only [h1, h2, decide_false, cond_false, Option.bind_some, Bool.true_and]
   cases asc cE v.Entries <;> simp
def a3J (v : Val) : Bool :=
 (v.Kind == 1 || v.Kind == 4 || v.Kind == 9 || v.Int_ == 0) && (v.Kind == 2 || v.Kind == 3 || Q7 v.Text ⟨#[]⟩) &&
 (v.Kind == 6 || v.Kind == 7 || v.Kind == 8 || v.Kids.isEmpty) && (v.Kind == 8 || v.Keys.isEmpty) && (v.Kind == 9 || v.Entries.isEmpty)
def b04 (l : List Val) : Bool :=
 match l with
 | [_, t] => t.Kind == 5 || t.Kind == 7
 | _ => false
def a4q (v : Val) : Bool :=
 if v.Kind = 1 then true else if v.Kind = 2 then decide ((v.Text.size : Int) <= 64) else if v.Kind = 3 then a4v v.Text else if v.Kind = 4 then decide (0 <= v.Int_) else
 if v.Kind = 5 then true else if v.Kind = 6 then decide (v.Kids.length <= 4) else if v.Kind = 7 then b04 v.Kids else if v.Kind = 8 then a9t v else if v.Kind = 9 then b3E v else false
def a16 (v : Val) : Bool := a05 v.Labels && (a3J v && a4q v)
theorem b7t {α : Type} (l : List α) : decide (0 < (l.length : Int)) = !l.isEmpty := by cases l <;> simp
theorem c80 (fuel : Nat) (v : Val) (hf : 2 * w6 v <= fuel + 2) (hb : w6 v <= 4194304) : a69 fuel v = some (a16 v) := by
 have he := a1x v
 have hs := a4A v.Labels
 unfold a69 a16
 simp only [a0z]
 rw [c59 v.Labels (by omega), c9S v hb, c9f fuel v hf hb, c0P]
 simp only [Option.bind_some, b7t]
 by_cases hk : v.Kind = 1 \/ v.Kind = 2 \/ v.Kind = 3 \/ v.Kind = 4 \/ v.Kind = 5 \/ v.Kind = 6 \/ v.Kind = 7 \/ v.Kind = 8 \/ v.Kind = 9
 ·have ku : ∀ b u, a70 v.Kind = some (u, b) -> True := fun _ _ _ => trivial
  clear ku
  unfold a3J a4q
  generalize a05 v.Labels = l
  generalize Q7 v.Text ⟨#[]⟩ = t
  generalize v.Keys.isEmpty = y
  generalize v.Entries.isEmpty = e
  generalize a9t v = m
  generalize b3E v = f
  generalize a4v v.Text = a
  generalize decide ((v.Text.size : Int) <= 64) = z
  have hi : (v.Int_ != 0) = !(v.Int_ == 0) := rfl
  have h6 : decide ((v.Kids.length : Int) <= 4) = decide (v.Kids.length <= 4) := by
   by_cases h : v.Kids.length <= 4
   ·simp [h]; omega
   ·simp [h]; omega
  rw [hi, h6]
  have h7 : (bif (v.Kids.length : Int) == 2 then Option.bind (idx v.Kids 1) fun x227 => (bif x227.Kind == 5 then some true else Option.bind (idx v.Kids 1) fun x255 => some (x255.Kind == 7)) else some false) = some (b04 v.Kids) := by
   unfold b04
   match v.Kids with
   | [] => rfl
   | [_] => rfl
   | [x, t] =>
     have e2 : ((([x, t] : List Val).length : Int) == 2) = true := rfl
     rw [e2]
     have : idx [x, t] 1 = some t := rfl
     simp only [this, Option.bind_some, cond_true]
     cases t.Kind == 5 <;> rfl
   | _ :: _ :: _ :: r =>
     rw [a0a, if_neg (by simp; omega)]
  rw [h7]
  generalize b04 v.Kids = c
  generalize v.Kids.isEmpty = d
  generalize (v.Int_ == 0) = i
  generalize decide (0 <= v.Int_) = p
  generalize decide (v.Kids.length <= 4) = n
  rcases hk with h | h | h | h | h | h | h | h | h <;> rw [h] <;> cases l <;> simp [a70] <;> cases i <;> cases t <;> cases d <;> cases y <;> cases e <;> simp
 ·have : a70 v.Kind = some (Value_used.mk false false false false false, false) := by
   unfold a70
   simp only [not_or] at hk
   obtain ⟨h1, h2, h3, h4, h5, h6, h7, h8, h9⟩ := hk
   have ef : ∀ k : Int, ¬ v.Kind = k -> (v.Kind == k) = false := fun k h => by simpa using h
   rw [ef 1 h1, ef 2 h2, ef 3 h3, ef 4 h4, ef 5 h5, ef 6 h6, ef 7 h7, ef 8 h8, ef 9 h9]
   rfl
  rw [this]
  have hkk : a4q v = false := by
   simp only [not_or] at hk
   obtain ⟨h1, h2, h3, h4, h5, h6, h7, h8, h9⟩ := hk
   simp [a4q, h1, h2, h3, h4, h5, h6, h7, h8, h9]
  rw [hkk]
  simp
mutual
def vOK : Val -> Bool
 | .mk k n t kids keys ents labs => a16 (.mk k n t kids keys ents labs) && (a1a kids && a4T ents)
def a1a : List Val -> Bool
 | [] => true
 | x :: r => vOK x && a1a r
def eOK : Ent -> Bool
 | .mk args fails res => a1a args && (fails || vOK res)
def a4T : List Ent -> Bool
 | [] => true
 | x :: r => eOK x && a4T r
end
theorem b9x (v : Val) : vOK v = (a16 v && (a1a v.Kids && a4T v.Entries)) := by cases v; simp only [vOK, Val.Kids, Val.Entries]
theorem a9H (e : Ent) : eOK e = (a1a e.Args && (e.Fails || vOK e.Result)) := by cases e; simp only [eOK, Ent.Args, Ent.Fails, Ent.Result]
theorem a2B : ∀ l : List Val, a1a l = l.all vOK
 | [] => by simp [a1a]
 | x :: r => by simp only [a1a, List.all_cons, a2B r]
theorem a8T : ∀ l : List Ent, a4T l = l.all eOK
 | [] => by simp [a4T]
 | x :: r => by simp only [a4T, List.all_cons, a8T r]
theorem c1J : ∀ l : List Ent, a4T l = (l.flatMap a7E).all vOK
 | [] => by simp [a4T]
 | x :: r => by
   simp only [a4T, List.flatMap_cons, List.all_append, c1J r, a9H, a7E, a2B]
   cases x.Fails <;> simp
theorem c5v (v : Val) : vOK v = (a16 v && (a9N v).all vOK) := by
 rw [b9x, a9N, List.all_append, a2B, c1J]
theorem c37 : ∀ (k : Nat) (v : Val), 2 * w6 v <= k -> w6 v <= 4194304 -> a2w k v = some (vOK v)
 | 0, v, h, _ => by have := a88 v; omega
 | k + 1, v, h, hb => by
   have hp := c4Q v
   have hl := a1c (a9N v)
   show a8i k (a2w k) v = _
   unfold a8i
   rw [c80 k v (by omega) hb, c7l v hb, c5v]
   simp only [Option.bind_some]
   rw [c0l (step := b1e (a9N v) (a2w k)) (rc := a2w k) (p := vOK) (a9N v) (fun q => rfl) (fun x hx => c37 k x (by have := X2 hx; omega) (by have := X2 hx; omega)) (by omega)]
   cases a16 v <;> simp
theorem c3K (k : Nat) (v : Val) (h : 2 * w6 v <= k) (hb : w6 v <= 4194304) : a5X k v = some (if vOK v then 0 else 1) := by
 unfold a5X
 rw [c37 k v h hb]
 cases vOK v <;> rfl
end Go.Pl
end
section
namespace Go.Pl
open Go Go.RowKit Go.Sx Go.Qx
def a0n {α : Type} (p : α -> Bool) (x : α) (out : List α) : List α := out.takeWhile p ++ [x] ++ out.dropWhile p
theorem c08 {α : Type} (p : α -> Bool) : ∀ l : List α, l.take (l.takeWhile p).length = l.takeWhile p
 | [] => rfl
 | x :: r => by
   by_cases h : p x = true
   ·simp [h, c08 p r]
   ·simp [h]
theorem c0F {α : Type} (p : α -> Bool) : ∀ l : List α, l.drop (l.takeWhile p).length = l.dropWhile p
 | [] => rfl
 | x :: r => by
   by_cases h : p x = true
   ·simp [h, c0F p r]
   ·simp [h]
theorem b2N {α : Type} (p : α -> Bool) : ∀ l : List α, (l.takeWhile p).length <= l.length
 | [] => Nat.le_refl _
 | x :: r => by
   have := b2N p r
   by_cases h : p x = true
   ·simp [h, this]
   ·simp [h]
theorem c0e {α : Type} (p : α -> Bool) : ∀ (l : List α), l[(l.takeWhile p).length]? = (l.dropWhile p).head?
 | [] => rfl
 | x :: r => by
   have := c0e p r
   by_cases h : p x = true
   ·simp [h, this]
   ·simp [h]
theorem c0p {α : Type} {step : Int -> Option (Fl Int Int)} (out : List α) (p : α -> Bool)
 (hst : ∀ (i : Nat) (x : α), out[i]? = some x -> step (i : Int) = some (if p x = true then .next ((i + 1 : Nat) : Int) else .done (i : Int)))
 (hend : step (out.length : Int) = some (.done (out.length : Int))) : j7 step (out.length + 1) 0 = some ((out.takeWhile p).length : Int) := by
 have key : ∀ (m i k : Nat), i + m = out.length -> m + 1 <= k -> j7 step k (i : Int) = some (((i + ((out.drop i).takeWhile p).length : Nat)) : Int) := by
  intro m
  induction m with
  | zero =>
    intro i k h1 h2
    obtain ⟨k, rfl⟩ : ∃ m, k = m + 1 := ⟨k - 1, by omega⟩
    have e : i = out.length := by omega
    subst e
    simp [j7, hend]
  | succ m ih =>
    intro i k h1 h2
    obtain ⟨k, rfl⟩ : ∃ m, k = m + 1 := ⟨k - 1, by omega⟩
    have hlt : i < out.length := by omega
    have hs := hst i out[i] (List.getElem?_eq_getElem hlt)
    rw [List.drop_eq_getElem_cons hlt, List.takeWhile_cons]
    by_cases hp : p out[i] = true
    ·rw [if_pos hp] at hs
     simp only [j7, hs, Option.bind_some, ih (i + 1) k (by omega) (by omega), hp, if_true, List.length_cons]
     congr 2
     omega
    ·rw [if_neg hp] at hs
     simp [j7, hs, hp]
 have := key out.length 0 (out.length + 1) (by omega) (Nat.le_refl _)
 simpa using this
theorem V9 {α σ τ β : Type} {step : σ -> Option (Fl σ (Sum τ β))} (xs : List α) (p : α -> Bool) (pk : Nat -> σ) (d : τ) (b : β)
 (hst : ∀ (i : Nat) (x : α), xs[i]? = some x -> step (pk i) = some (if p x = true then .next (pk (i + 1)) else .done (.inr b)))
 (hend : step (pk xs.length) = some (.done (.inl d))) : j7 step (xs.length + 1) (pk 0) = some (if xs.all p = true then .inl d else .inr b) := by
 have key : ∀ (m i k : Nat), i + m = xs.length -> m + 1 <= k -> j7 step k (pk i) = some (if (xs.drop i).all p = true then .inl d else .inr b) := by
  intro m
  induction m with
  | zero =>
    intro i k h1 h2
    obtain ⟨k, rfl⟩ : ∃ m, k = m + 1 := ⟨k - 1, by omega⟩
    have e : i = xs.length := by omega
    subst e
    simp [j7, hend]
  | succ m ih =>
    intro i k h1 h2
    obtain ⟨k, rfl⟩ : ∃ m, k = m + 1 := ⟨k - 1, by omega⟩
    have hlt : i < xs.length := by omega
    have hs := hst i xs[i] (List.getElem?_eq_getElem hlt)
    rw [List.drop_eq_getElem_cons hlt, List.all_cons]
    by_cases hp : p xs[i] = true
    ·rw [if_pos hp] at hs
     simp only [j7, hs, Option.bind_some, ih (i + 1) k (by omega) (by omega), hp, Bool.true_and]
    ·rw [if_neg hp] at hs
     simp [j7, hs, hp]
 have := key xs.length 0 (xs.length + 1) (by omega) (Nat.le_refl _)
 simpa using this
theorem b2u {α : Type} (c : α -> α -> Int) (hanti : ∀ a b, c b a = - c a b) (x : α) : ∀ out : List α, asc c out = true -> (∀ y, (out.dropWhile (fun y => decide (c y x < 0))).head? = some y -> c y x ≠ 0) ->
 asc c (a0n (fun y => decide (c y x < 0)) x out) = true
 | [], _, _ => by simp [a0n, asc]
 | y :: r, h, hne => by
   by_cases hp : c y x < 0
   ·have ih := b2u c hanti x r (by cases r with | nil => simp [asc] | cons z r => simp [asc] at h; exact h.2) (by
     intro z hz
     refine hne z ?_
     simpa [hp] using hz)
    have e : a0n (fun y => decide (c y x < 0)) x (y :: r) = y :: a0n (fun y => decide (c y x < 0)) x r := by simp [a0n, hp]
    rw [e]
    cases r with
    | nil => simp [a0n, asc, hp]
    | cons z r =>
      simp only [asc, Bool.and_eq_true, decide_eq_true_eq] at h
      by_cases hz : c z x < 0
      ·have e2 : a0n (fun y => decide (c y x < 0)) x (z :: r) = z :: a0n (fun y => decide (c y x < 0)) x r := by simp [a0n, hz]
       rw [e2] at ih ⊢
       simp only [asc, Bool.and_eq_true, decide_eq_true_eq]
       exact ⟨h.1, ih⟩
      ·have e2 : a0n (fun y => decide (c y x < 0)) x (z :: r) = x :: z :: r := by simp [a0n, hz]
       rw [e2] at ih ⊢
       simp only [asc, Bool.and_eq_true, decide_eq_true_eq] at ih ⊢
       exact ⟨hp, ih⟩
   ·have e : a0n (fun y => decide (c y x < 0)) x (y :: r) = x :: y :: r := by simp [a0n, hp]
    have hy := hne y (by simp [hp])
    have ha := hanti y x
    rw [e]
    simp only [asc, Bool.and_eq_true, decide_eq_true_eq]
    exact ⟨by omega, h⟩
theorem b3O {α : Type} {p : α -> Bool} {x y : α} {out : List α} (h : y ∈ a0n p x out) : y = x \/ y ∈ out := by
 have e := List.takeWhile_append_dropWhile (p := p) (l := out)
 simp only [a0n, List.mem_append, List.mem_singleton] at h
 rcases h with (h | h) | h
 ·exact .inr (by rw [<- e]; exact List.mem_append_left _ h)
 ·exact .inl h
 ·exact .inr (by rw [<- e]; exact List.mem_append_right _ h)
theorem a7t {α : Type} (p : α -> Bool) (x : α) (out : List α) : (a0n p x out).length = out.length + 1 := by
 have e := congrArg List.length (List.takeWhile_append_dropWhile (p := p) (l := out))
 simp only [List.length_append] at e
 simp only [a0n, List.length_append, List.length_singleton]
 omega
theorem b7x {α : Type} (l : List α) {k : Nat} (h : k <= l.length) : cut l 0 (k : Int) = some (l.take k) := by
 unfold cut
 rw [if_pos ⟨by omega, by omega, by omega⟩]
 simp
theorem c2U {α : Type} (l : List α) {k : Nat} (h : k <= l.length) : cut l (k : Int) (l.length : Int) = some (l.drop k) := by
 unfold cut
 rw [if_pos ⟨by omega, by omega, by omega⟩]
 simp
theorem c3A {α β : Type} (out : List α) (x : α) (p : α -> Bool) (b : Nat) (hb : b <= 1024) (hl : out.length <= 4194304) (f : List α -> Option β) :
 (Option.bind (cut out 0 ((out.takeWhile p).length : Int)) fun u => Option.bind (Z7 (0 + u.length) b) fun _ =>
   Option.bind (Z7 (u.length + [x].length) b) fun _ => Option.bind (cut out ((out.takeWhile p).length : Int) (out.length : Int)) fun w =>
   Option.bind (Z7 ((u ++ [x]).length + w.length) b) fun _ => f ((u ++ [x]) ++ w)) = f (a0n p x out) := by
 have hk := b2N p out
 have rm : ∀ n, n <= 4194305 -> Z7 n b = some () := fun n hn => Y0 (by
  have : n * b <= 4194305 * 1024 := Nat.mul_le_mul hn hb
  omega)
 rw [b7x out hk, c2U out hk, c08, c0F]
 have hl2 := a7t p x out
 simp only [a0n, List.length_append, List.length_singleton] at hl2
 simp only [Option.bind_some]
 rw [rm _ (by simp; omega), rm _ (by simp; omega), rm _ (by simp only [List.length_append, List.length_singleton]; omega)]
 rfl
theorem c78 (a b : Ent) : cE a b = lx (eE a) (eE b) := by
 have := (c5r (a1W a)).2 a (Nat.le_refl _) b [] []
 simpa [lx, b0f] using this.symm
theorem c4j (a b : Ent) : cE b a = - cE a b := by rw [c78, c78]; exact b4P _ _
def a4b (out : List Ent) (x : Ent) : List Ent :=
 match (out.dropWhile (fun y => decide (cE y x < 0))).head? with
 | some y => if cE y x = 0 then out else a0n (fun y => decide (cE y x < 0)) x out
 | none => a0n (fun y => decide (cE y x < 0)) x out
theorem b1U (a b : List Ent) : Z2 (a ++ b) = Z2 a + Z2 b := by
 induction a with
 | nil => simp [Z2]
 | cons x r ih => simp only [List.cons_append, Z2, ih]; omega
theorem b8C (p : Ent -> Bool) (x : Ent) (out : List Ent) : Z2 (a0n p x out) = Z2 out + a1W x := by
 have e := congrArg Z2 (List.takeWhile_append_dropWhile (p := p) (l := out))
 rw [b1U] at e
 simp only [a0n, b1U, Z2]
 omega
theorem c5Y (out : List Ent) (x : Ent) : Z2 (a4b out x) <= Z2 out + a1W x := by
 unfold a4b
 split
 ·split
  ·omega
  ·rw [b8C]; omega
 ·rw [b8C]; omega
theorem c6V (out : List Ent) (x : Ent) : (a4b out x).length <= out.length + 1 := by
 unfold a4b
 split
 ·split
  ·omega
  ·rw [a7t]; omega
 ·rw [a7t]; omega
theorem c3o {out : List Ent} {x y : Ent} (h : y ∈ a4b out x) : y = x \/ y ∈ out := by
 unfold a4b at h
 split at h
 ·split at h
  ·exact .inr h
  ·exact b3O h
 ·exact b3O h
theorem c6Y (out : List Ent) (x : Ent) (h : asc cE out = true) : asc cE (a4b out x) = true := by
 unfold a4b
 split
 ·rename_i y hy
  split
  ·exact h
  ·rename_i hne
   refine b2u cE c4j x out h (fun z hz => ?_)
   rw [hy] at hz
   cases hz
   exact hne
 ·rename_i hy
  refine b2u cE c4j x out h (fun z hz => ?_)
  rw [hy] at hz; cases hz
theorem c2e (fuel : Nat) (es out : List Ent) (i : Nat) (x : Ent) (hx : es[i]? = some x) (hf : ∀ e ∈ out, 2 * a1W e <= fuel) (hb : ∀ e ∈ out, a1W e <= 4194304) (hl : out.length <= 4194304) (hi : i <= 4194304) :
 a0v es fuel (out, (i : Int)) = some (.next (a4b out x, ((i + 1 : Nat) : Int))) := by
 have hlt : i < es.length := (List.getElem?_eq_some_iff.1 hx).1
 have hix : idx es (i : Int) = some x := k7 hx
 have hcmp : ∀ e ∈ out, Y3 fuel e x = some (cE e x) := fun e he => (a50 fuel).2.2 e x (hf e he) (hb e he)
 unfold a0v
 simp only [Y1]
 rw [c0p (step := a3c es (out, (i : Int)) fuel) out (fun y => decide (cE y x < 0)) ?_ ?_]
 ·simp only [a0a, Z1]
  rw [if_pos (by simp; omega)]
  simp only [Option.bind_some, hix, Int.toNat_natCast, hx]
  have hk := b2N (fun y => decide (cE y x < 0)) out
  have hat := c0e (fun y => decide (cE y x < 0)) out
  have go : (Option.bind (cut out 0 ((out.takeWhile (fun y => decide (cE y x < 0))).length : Int)) fun u => Option.bind (Z7 (0 + u.length) 160) fun _ =>
   Option.bind (Z7 (u.length + [x].length) 160) fun _ => Option.bind (cut out ((out.takeWhile (fun y => decide (cE y x < 0))).length : Int) (out.length : Int)) fun w =>
   Option.bind (Z7 ((u ++ [x]).length + w.length) 160) fun _ => some ((u ++ [x]) ++ w)) = some (a0n (fun y => decide (cE y x < 0)) x out) :=
   c3A out x _ 160 (by omega) hl (fun l => some l)
  rw [k9 i (by omega)]
  have fin : ∀ (b : Bool) (r : List Ent), (if b = true then some out else some r) = some (a4b out x) -> (Option.bind (if b = true then some out else some r) fun b18 => some (Fl.next (b18, ((i + 1 : Nat) : Int)) : Fl (List Ent × Int) (List Ent))) = some (.next (a4b out x, ((i + 1 : Nat) : Int))) := by
   intro b r h
   rw [h]; rfl
  rw [go]
  unfold a4b at fin ⊢
  cases hh : (out.dropWhile (fun y => decide (cE y x < 0))).head? with
  | none =>
    rw [hh] at hat
    have hge := List.getElem?_eq_none_iff.1 hat
    rw [if_neg (by simp; omega)]
    rfl
  | some y =>
    rw [hh] at hat
    have hlt2 := (List.getElem?_eq_some_iff.1 hat).1
    rw [if_pos (by simp; omega), k7 hat]
    simp only [Option.bind_some]
    rw [hcmp y (List.mem_of_getElem? hat)]
    simp only [Option.bind_some]
    by_cases h0 : cE y x = 0
    ·rw [if_pos (by simp [h0]), if_pos h0]
     rfl
    ·rw [if_neg (by simp [h0]), if_neg h0]
     rfl
 ·intro j y hy
  have hj : j < out.length := (List.getElem?_eq_some_iff.1 hy).1
  unfold a3c
  simp only [a0a, Z1]
  rw [if_pos (by simp; omega), k7 hy, hix]
  simp only [Option.bind_some, Int.toNat_natCast, hx]
  rw [hcmp y (List.mem_of_getElem? hy)]
  simp only [Option.bind_some, k9 j (by omega)]
  by_cases h : cE y x < 0 <;> simp [h]
 ·unfold a3c
  simp
theorem b0a : ∀ (es out : List Ent), Z2 (es.foldl a4b out) <= Z2 out + Z2 es
 | [], out => by simp [Z2]
 | x :: r, out => by
   have h1 := b0a r (a4b out x)
   have h2 := c5Y out x
   simp only [List.foldl_cons, Z2]
   omega
theorem b1n {y : Ent} : ∀ (es out : List Ent), y ∈ es.foldl a4b out -> y ∈ out \/ y ∈ es
 | [], _, h => .inl h
 | x :: r, out, h => by
   rcases b1n r (a4b out x) h with h | h
   ·rcases c3o h with rfl | h
    ·exact .inr (by simp)
    ·exact .inl h
   ·exact .inr (by simp [h])
theorem b6m : ∀ (es out : List Ent), asc cE out = true -> asc cE (es.foldl a4b out) = true
 | [], _, h => h
 | x :: r, out, h => b6m r (a4b out x) (c6Y out x h)
theorem c4t (fuel : Nat) (es : List Ent) (hf : 2 * Z2 es <= fuel) (hb : Z2 es <= 4194304) : a4I fuel es = some (es.foldl a4b []) := by
 have hlen := a3f es
 unfold a4I
 have key := b00 (σ := List Ent) (step := a0v es fuel) es (fun s i => (s, (i : Int))) a4b (fun i s => s.length <= i /\ (∀ e ∈ s, e ∈ es)) (fun s => s)
  ?_ ?_ [] ⟨by simp, by simp⟩ _ (Nat.le_refl _)
 ·have e : j7 (a0v es fuel) (es.length + 1) (([] : List Ent), 0) = j7 (a0v es fuel) (es.length + 1) (([] : List Ent), ((0 : Nat) : Int)) := rfl
  rw [Y1, e, key]
  rfl
 ·intro i s x hx ⟨hI, hm⟩
  have hi : i < es.length := (List.getElem?_eq_some_iff.1 hx).1
  refine ⟨c2e fuel es s i x hx (fun e he => by have := a0h (hm e he); omega) (fun e he => by have := a0h (hm e he); omega) (by omega) (by omega), ?_, ?_⟩
  ·have := c6V s x; omega
  ·intro e he
   rcases c3o he with rfl | he
   ·exact List.mem_of_getElem? hx
   ·exact hm e he
 ·intro s _
  unfold a0v
  simp
def b6S (n : Int) (es : List Ent) : Val := Val.mk 9 n (⟨#[]⟩) ([] : List Val) ([] : List Key) es ([] : List ByteArray)
abbrev b7L : Type := Int × Int × ByteArray × (List Val) × (List Key) × (List Ent) × (List ByteArray)
abbrev a2s : b7L := (0, 0, (⟨#[]⟩ : ByteArray), [], [], [], [])
theorem b3K (fuel : Nat) (n : Int) (es : List Ent) (hf : 2 * Z2 es <= fuel) (hb : Z2 es <= 4194304) :
 a2u fuel n es = some (if 0 <= n /\ n <= 4 /\ es.all (a2h n) = true then (b6S n (es.foldl a4b []), 0) else (a38, 1)) := by
 have hlen := a3f es
 unfold a2u
 simp only [Y1]
 by_cases h1 : n < 0
 ·have e1 : decide (n < 0) = true := by simpa using h1
  rw [e1, if_neg (by omega)]; rfl
 by_cases h2 : 4 < n
 ·have e1 : decide (n < 0) = false := by simpa using h1
  have e2 : decide (4 < n) = true := by simpa using h2
  rw [e1, e2, if_neg (by omega)]; rfl
 have e1 : decide (n < 0) = false := by simpa using h1
 have e2 : decide (4 < n) = false := by simpa using h2
 rw [e1, e2, c4t fuel es hf hb]
 have key := V9 (step := a0O n es fuel) es (a2h n) (fun i => ((i : Int), a2s)) a2s (1, a2s) ?_ ?_
 ·have e : j7 (a0O n es fuel) (es.length + 1) (0, (0, 0, (⟨#[]⟩ : ByteArray), [], [], [], [])) = j7 (a0O n es fuel) (es.length + 1) (((0 : Nat) : Int), a2s) := rfl
  rw [e, key]
  by_cases ha : es.all (a2h n) = true
  ·rw [if_pos ha, if_pos ⟨by omega, by omega, ha⟩]
   rfl
  ·rw [if_neg ha, if_neg (fun h => ha h.2.2)]
   rfl
 ·intro i x hx
  have hi : i < es.length := (List.getElem?_eq_some_iff.1 hx).1
  have hm := a0h (List.mem_of_getElem? hx)
  have hbe := a0f x
  unfold a0O a3S
  simp only [a0a, Z1]
  rw [if_pos (by simp; omega), k7 hx]
  simp only [Option.bind_some, Int.toNat_natCast, hx]
  rw [show Val.mk 0 0 (⟨#[]⟩ : ByteArray) ([] : List Val) ([] : List Key) ([] : List Ent) ([] : List ByteArray) = a38 from rfl, (a50 fuel).1 x.Result a38 (by omega) (by omega), k9 i (by omega)]
  unfold a2h
  by_cases hl : (x.Args.length : Int) = n
  ·have e1 : ((x.Args.length : Int) != n) = false := by simp [hl]
   have e2 : ((x.Args.length : Int) == n) = true := by simp [hl]
   rw [e1, e2]
   simp only [Bool.false_eq_true, if_false, Option.bind_some, Bool.true_and]
   cases x.Fails
   ·simp
   ·by_cases h0 : cV x.Result a38 = 0 <;> simp [h0]
  ·have e1 : ((x.Args.length : Int) != n) = true := by simp [hl]
   have e2 : ((x.Args.length : Int) == n) = false := by simp [hl]
   rw [e1, e2]
   simp
 ·unfold a0O
  simp
end Go.Pl
end
section
namespace Go.Pl
open Go Go.RowKit Go.Sx Go.Qx
theorem b5D (c : UInt8) : a2C (c.toNat : Int) = some (a65 c) := by
 unfold a2C a65
 cases decide (97 <= (c.toNat : Int)) <;> simp
theorem c0r (c : UInt8) : a3T (c.toNat : Int) = some (a8g c) := by
 unfold a3T a8g
 cases decide (48 <= (c.toNat : Int)) <;> simp
theorem b4b (s : ByteArray) : a12 s = some (a4v s) := by
 unfold a12 a4v b4N
 simp only [a0a, c06]
 have hsz := b7b s
 cases hs : s.data.toList with
 | nil =>
   rw [hs] at hsz
   rw [hsz]
   simp
 | cons c r =>
   rw [hs] at hsz
   simp only [List.length_cons] at hsz
   have e1 : decide ((s.size : Int) < 1) = false := by simp; omega
   rw [e1]
   simp only [Bool.false_eq_true, if_false, Option.bind_some]
   by_cases hb : 16 < (s.size : Int)
   ·rw [if_pos (by simpa using hb)]
    have : decide (r.length <= 15) = false := by simp; omega
    rw [this]; rfl
   ·rw [if_neg (by simpa using hb)]
    have e2 : decide (r.length <= 15) = true := by simp; omega
    have e3 : a6v s 0 = some c := b2o (i := 0) (by rw [hs]; rfl)
    rw [e2, e3]
    simp only [Option.bind_some, b5D, Bool.true_and]
    cases a65 c
    ·rfl
    ·simp only [Bool.not_true, Bool.false_eq_true, if_false, Bool.true_and]
     refine b3h s.size (fun i => match s.data.toList[i]? with | some x => (a65 x || a8g x || (x.toNat : Int) == 95) | none => true) ?_ ?_ 1 _ ?_
     ·intro i hi
      have hi' : i < s.data.toList.length := by rw [hs]; simp; omega
      unfold a6a
      simp only [a0a, Z1]
      rw [if_pos (by simp; omega), b2o (List.getElem?_eq_getElem hi')]
      simp only [Option.bind_some, b5D, c0r]
      rw [List.getElem?_eq_getElem hi', k9 i (by omega)]
      generalize s.data.toList[i] = x
      have hn : ((x.toNat : Int) != 95) = !((x.toNat : Int) == 95) := rfl
      rw [hn]
      show _ = some (if (a65 x || a8g x || (x.toNat : Int) == 95) = true then _ else _)
      cases a65 x <;> cases a8g x <;> cases (x.toNat : Int) == 95 <;> rfl
     ·intro i hi
      unfold a6a
      rw [a0a, if_neg (by simp; omega)]
     ·rw [hs, List.all_eq_true]
      constructor
      ·intro h i h1 hi
       obtain ⟨i, rfl⟩ : ∃ m, i = m + 1 := ⟨i - 1, by omega⟩
       have hr : i < r.length := by omega
       simp only [List.getElem?_cons_succ, List.getElem?_eq_getElem hr]
       exact h _ (List.getElem_mem hr)
      ·intro h x hx
       obtain ⟨i, hi, rfl⟩ := List.getElem_of_mem hx
       have := h (i + 1) (by omega) (by omega)
       simpa only [List.getElem?_cons_succ, List.getElem?_eq_getElem hi] using this
theorem b5I (k : Key) : a1A k = some (a0c k) := by
 unfold a1A a0c
 rw [b4b]
 by_cases h : k.Kind = 0
 ·cases a4v k.Text <;> simp [h]
 ·by_cases h1 : k.Kind = 1
  ·simp [h1]
  ·have e0 : (k.Kind == 0) = false := by simpa using h
   have e1 : (k.Kind == 1) = false := by simpa using h1
   rw [e0, e1, if_neg h, if_neg h1]
   rfl
theorem c4P (a b : Key) : cK a b = lx (eK a) (eK b) := by
 have := pfK a b [] []
 simpa [lx, b0f] using this.symm
theorem c0A (a b : Key) : cK b a = - cK a b := by rw [c4P, c4P]; exact b4P _ _
def a0T (a b : Key) : Bool := a5Y a b
theorem c6a (a b : Key) : a0T a b = ((a.Kind == b.Kind) && Q7 a.Text b.Text) := by unfold a0T a5Y; simp
theorem b6W (a b : Key) : a0T a b = true ↔ cK a b = 0 := by
 rw [c6a]
 unfold cK
 rcases W3 a.Kind b.Kind with ⟨h, e⟩ | ⟨h, e⟩ | ⟨h, e⟩
 ·have : (a.Kind == b.Kind) = false := by simp; omega
  simp [this, e, tn]
 ·have : (a.Kind == b.Kind) = false := by simp; omega
  simp [this, e, tn]
 ·rw [h]
  rw [h] at e
  rcases a8Z a.Text b.Text with ⟨_, p, q⟩ | ⟨_, p, q⟩ | ⟨_, p, q⟩ <;> simp [p, q, e, tn]
abbrev a2z (k : Key) : Key -> Bool := fun y => decide (cK y k < 0)
def b69 (s : List Val × List Key) (x : Key × Val) : Option (List Val × List Key) :=
 if ((s.2.dropWhile (a2z x.1)).head?.map fun y => a0T y x.1) = some true then none
 else some (s.1.take (s.2.takeWhile (a2z x.1)).length ++ [x.2] ++ s.1.drop (s.2.takeWhile (a2z x.1)).length, a0n (a2z x.1) x.1 s.2)
def a6V : List (Key × Val) -> List Val × List Key -> Option (List Val × List Key)
 | [], s => some s
 | x :: r, s => (b69 s x).bind (a6V r)
abbrev a8I (s : List Val × List Key) : b7L := (8, 0, (⟨#[]⟩ : ByteArray), s.1, s.2, [], [])
theorem c7v (keys : List Key) (l : List Val) (i : Nat) (k : Key) (x : Val) (hk : keys[i]? = some k) (hx : l[i]? = some x) (s : List Val × List Key) (hs : s.1.length = s.2.length) (hl : s.2.length <= 4194304) (hi : i <= 4194304) :
 ∃ y, a1w keys l ((i : Int), a2s, a8I s) = some (match b69 s (k, x) with | some t => .next (((i + 1 : Nat) : Int), a2s, a8I t) | none => .done (.inr (6, a2s, y))) := by
 refine ⟨a8I s, ?_⟩
 have hlt : i < keys.length := (List.getElem?_eq_some_iff.1 hk).1
 have hik : idx keys (i : Int) = some k := k7 hk
 have hix : idx l (i : Int) = some x := k7 hx
 unfold a1w
 simp only [Y1]
 rw [c0p (step := a5f keys ((i : Int), a2s, a8I s)) s.2 (a2z k) ?_ ?_]
 ·simp only [a0a, Z1]
  rw [if_pos (by simp; omega)]
  simp only [Option.bind_some, hik, hix]
  have hp := b2N (a2z k) s.2
  have hat := c0e (a2z k) s.2
  have rmk : ∀ n, n <= 4194305 -> Z7 n 24 = some () := fun n hn => Y0 (by omega)
  have rmv : ∀ n, n <= 4194305 -> Z7 n 128 = some () := fun n hn => Y0 (by omega)
  have h1 := a7t (a2z k) k s.2
  simp only [a0n, List.length_append, List.length_singleton] at h1
  have go : (Option.bind (cut s.2 0 ((s.2.takeWhile (a2z k)).length : Int)) fun u => Option.bind (Z7 (0 + u.length) 24) fun _ =>
   Option.bind (cut s.1 0 ((s.2.takeWhile (a2z k)).length : Int)) fun u2 => Option.bind (a1u u2) fun r2 =>
   Option.bind (Z7 (u.length + [k].length) 24) fun _ => Option.bind (cut s.2 ((s.2.takeWhile (a2z k)).length : Int) (s.2.length : Int)) fun w =>
   Option.bind (Z7 ((u ++ [k]).length + w.length) 24) fun _ => Option.bind (Z7 (r2.length + [x].length) 128) fun _ =>
   Option.bind (cut s.1 ((s.2.takeWhile (a2z k)).length : Int) (s.1.length : Int)) fun w2 => Option.bind (Z7 ((r2 ++ [x]).length + w2.length) 128) fun _ =>
   some (Fl.next (w64 ((i : Int) + 1), a2s, a8I ((r2 ++ [x]) ++ w2, (u ++ [k]) ++ w)))) = some (Fl.next (((i + 1 : Nat) : Int), a2s, a8I (s.1.take (s.2.takeWhile (a2z k)).length ++ [x] ++ s.1.drop (s.2.takeWhile (a2z k)).length, a0n (a2z k) k s.2)) : Fl (Int × b7L × b7L) (Sum (b7L × b7L) (Int × b7L × b7L))) := by
   have ht : (s.1.take (s.2.takeWhile (a2z k)).length).length <= 4194304 := by rw [List.length_take]; omega
   have hd : (s.1.take (s.2.takeWhile (a2z k)).length).length + (s.1.drop (s.2.takeWhile (a2z k)).length).length = s.1.length := by rw [List.length_take, List.length_drop]; omega
   rw [b7x s.2 hp, c2U s.2 hp, b7x s.1 (by omega), c2U s.1 (by omega), c08, c0F]
   unfold a1u
   simp only [Option.bind_some]
   rw [rmk _ (by simp; omega), rmv _ (by simp; omega)]
   simp only [Option.bind_some]
   rw [rmk _ (by simp; omega), rmk _ (by simp only [List.length_append, List.length_singleton]; omega), rmv _ (by simp; omega), rmv _ (by simp only [List.length_append, List.length_singleton]; omega), k9 i (by omega)]
   rfl
  unfold b69
  cases hh : (s.2.dropWhile (a2z k)).head? with
  | none =>
    rw [hh] at hat
    have hge := List.getElem?_eq_none_iff.1 hat
    rw [if_neg (by simp; omega), if_neg (by simp)]
    exact go
  | some y =>
    rw [hh] at hat
    have hlt2 := (List.getElem?_eq_some_iff.1 hat).1
    rw [if_pos (by simp; omega), k7 hat]
    simp only [Option.bind_some, Option.map_some]
    cases hq : a0T y k
    ·unfold a0T at hq
     rw [hq, if_neg (by simp), if_neg (by simp)]
     exact go
    ·unfold a0T at hq
     rw [hq, if_pos rfl, if_pos rfl]
 ·intro j y hy
  have hj : j < s.2.length := (List.getElem?_eq_some_iff.1 hy).1
  unfold a5f
  simp only [a0a, Z1]
  rw [if_pos (by simp; omega), k7 hy, hik]
  simp only [Option.bind_some, b0G, k9 j (by omega)]
  by_cases h : cK y k < 0 <;> simp [h]
 ·unfold a5f
  simp
theorem c21 {s t : List Val × List Key} {x : Key × Val} (h : b69 s x = some t) (hs : s.1.length = s.2.length) : t.1.length = t.2.length /\ t.2.length = s.2.length + 1 := by
 unfold b69 at h
 split at h
 ·cases h
 ·cases h
  have h1 := a7t (a2z x.1) x.1 s.2
  have hp := b2N (a2z x.1) s.2
  refine ⟨?_, h1⟩
  rw [h1]
  simp only [List.length_append, List.length_singleton, List.length_take, List.length_drop]
  omega
theorem c66 (keys : List Key) (l : List Val) (hkl : keys.length = l.length) (hl : keys.length <= 4194304) :
 ∃ y, j7 (a1w keys l) (keys.length + 1) (0, a2s, a8I ([], [])) = some (match a6V (keys.zip l) ([], []) with | some t => .inl (a2s, a8I t) | none => .inr (6, a2s, y)) := by
 have key : ∀ (m i k : Nat) (s : List Val × List Key), i + m = keys.length -> m + 1 <= k -> s.1.length = s.2.length -> s.2.length <= i ->
  ∃ y, j7 (a1w keys l) k ((i : Int), a2s, a8I s) = some (match a6V ((keys.drop i).zip (l.drop i)) s with | some t => .inl (a2s, a8I t) | none => .inr (6, a2s, y)) := by
  intro m
  induction m with
  | zero =>
    intro i k s h1 h2 hs hn
    obtain ⟨k, rfl⟩ : ∃ m, k = m + 1 := ⟨k - 1, by omega⟩
    have e : i = keys.length := by omega
    subst e
    rw [List.drop_length, List.zip_nil_left]
    have : a1w keys l ((keys.length : Int), a2s, a8I s) = some (.done (.inl (a2s, a8I s))) := by
     unfold a1w
     simp
    exact ⟨a2s, by simp only [j7, this, a6V, Option.bind_some]⟩
  | succ m ih =>
    intro i k s h1 h2 hs hn
    obtain ⟨k, rfl⟩ : ∃ m, k = m + 1 := ⟨k - 1, by omega⟩
    have hlt : i < keys.length := by omega
    have hlt2 : i < l.length := by omega
    rw [List.drop_eq_getElem_cons hlt, List.drop_eq_getElem_cons hlt2, List.zip_cons_cons]
    obtain ⟨y, hy⟩ := c7v keys l i _ _ (List.getElem?_eq_getElem hlt) (List.getElem?_eq_getElem hlt2) s hs (by omega) (by omega)
    simp only [j7, hy, a6V]
    cases hi : b69 s (keys[i], l[i]) with
    | none => exact ⟨y, by simp⟩
    | some t =>
      obtain ⟨h3, h4⟩ := c21 hi hs
      simp only [Option.bind_some]
      exact ih (i + 1) k t (by omega) (by omega) h3 (by omega)
 obtain ⟨y, hy⟩ := key keys.length 0 (keys.length + 1) ([], []) (by omega) (Nat.le_refl _) rfl (Nat.le_refl _)
 exact ⟨y, by simpa using hy⟩
def b4u (s : List Val × List Key) : Val := Val.mk 8 0 (⟨#[]⟩) s.1 s.2 ([] : List Ent) ([] : List ByteArray)
theorem b92 (keys : List Key) (l : List Val) (hl : keys.length <= 4194304) :
 a2r keys l = some (if keys.length = l.length /\ keys.all a0c = true then (match a6V (keys.zip l) ([], []) with | some t => ((b4u t, 0) : Val × Int) | none => (a38, 6)) else (a38, 1)) := by
 unfold a2r
 simp only [Y1]
 by_cases hkl : keys.length = l.length
 ·have e1 : ((keys.length : Int) != (l.length : Int)) = false := by simp; omega
  rw [e1]
  have k1 := V9 (step := a14 keys) keys a0c (fun i => ((i : Int), a2s)) a2s (1, a2s) ?_ ?_
  ·obtain ⟨y, hy⟩ := c66 keys l hkl hl
   have e2 : j7 (a14 keys) (keys.length + 1) (0, (0, 0, (⟨#[]⟩ : ByteArray), [], [], [], [])) = j7 (a14 keys) (keys.length + 1) (((0 : Nat) : Int), a2s) := rfl
   rw [e2, k1]
   by_cases ha : keys.all a0c = true
   ·rw [if_pos ha, if_pos ⟨hkl, ha⟩]
    simp only [Option.bind_some, v7, cond_false]
    rw [hy]
    cases a6V (keys.zip l) ([], []) <;> rfl
   ·rw [if_neg ha, if_neg (fun h => ha h.2)]
    rfl
  ·intro i x hx
   have hi : i < keys.length := (List.getElem?_eq_some_iff.1 hx).1
   unfold a14
   simp only [a0a, Z1]
   rw [if_pos (by simp; omega), k7 hx]
   simp only [Option.bind_some, b5I, k9 i (by omega)]
   cases a0c x <;> rfl
  ·unfold a14
   simp
 ·have e1 : ((keys.length : Int) != (l.length : Int)) = true := by simp; omega
  rw [e1, if_neg (fun h => hkl h.1)]
  rfl
theorem a7u (a b : List Key) : Z0 (a ++ b) = Z0 a + Z0 b := by
 induction a with
 | nil => simp [Z0]
 | cons x r ih => simp only [List.cons_append, Z0, ih]; omega
theorem c4D {s t : List Val × List Key} {x : Key × Val} (h : b69 s x = some t) (ha : asc cK s.2 = true) :
 asc cK t.2 = true /\ (∀ y ∈ t.2, y = x.1 \/ y ∈ s.2) /\ (∀ y ∈ t.1, y = x.2 \/ y ∈ s.1) /\ w5 t.1 = w5 s.1 + w6 x.2 /\ Z0 t.2 = Z0 s.2 + a6Y x.1 := by
 unfold b69 at h
 split at h
 ·cases h
 ·rename_i hne
  cases h
  refine ⟨b2u cK c0A x.1 s.2 ha ?_, fun y hy => b3O hy, fun y hy => ?_, ?_, ?_⟩
  ·intro y hy h0
   rw [hy] at hne
   simp only [Option.map_some] at hne
   exact hne (congrArg some ((b6W y x.1).2 h0))
  ·simp only [List.mem_append, List.mem_singleton] at hy
   rcases hy with (hy | hy) | hy
   ·exact .inr (List.mem_of_mem_take hy)
   ·exact .inl hy
   ·exact .inr (List.mem_of_mem_drop hy)
  ·have e := congrArg w5 (List.take_append_drop (s.2.takeWhile (a2z x.1)).length s.1)
   rw [a1b] at e
   simp only [a1b, w5]
   omega
  ·have e := congrArg Z0 (List.takeWhile_append_dropWhile (p := a2z x.1) (l := s.2))
   rw [a7u] at e
   simp only [a0n, a7u, Z0]
   omega
def b5U : List (Key × Val) -> Nat
 | [] => 0
 | x :: r => a6Y x.1 + w6 x.2 + b5U r
theorem b2Z : ∀ (xs : List (Key × Val)) (s t : List Val × List Key), a6V xs s = some t -> asc cK s.2 = true -> s.1.length = s.2.length ->
 asc cK t.2 = true /\ t.1.length = t.2.length /\ t.2.length = s.2.length + xs.length /\ (∀ y ∈ t.2, y ∈ s.2 \/ ∃ x ∈ xs, y = x.1) /\ (∀ y ∈ t.1, y ∈ s.1 \/ ∃ x ∈ xs, y = x.2) /\ w5 t.1 + Z0 t.2 = w5 s.1 + Z0 s.2 + b5U xs
 | [], s, t, h, ha, hl => by
   cases h
   exact ⟨ha, hl, rfl, fun y hy => .inl hy, fun y hy => .inl hy, rfl⟩
 | x :: r, s, t, h, ha, hl => by
   simp only [a6V] at h
   obtain ⟨u, hu, h⟩ := Option.bind_eq_some_iff.1 h
   obtain ⟨k1, k2, k3, k4, k5⟩ := c4D hu ha
   obtain ⟨l1, l2⟩ := c21 hu hl
   obtain ⟨m1, m2, m3, m4, m5, m6⟩ := b2Z r u t h k1 l1
   refine ⟨m1, m2, by rw [m3, l2, List.length_cons]; omega, fun y hy => ?_, fun y hy => ?_, by simp only [b5U]; omega⟩
   ·rcases m4 y hy with hy | ⟨z, hz, rfl⟩
    ·rcases k2 y hy with rfl | hy
     ·exact .inr ⟨x, by simp, rfl⟩
     ·exact .inl hy
    ·exact .inr ⟨z, by simp [hz], rfl⟩
   ·rcases m5 y hy with hy | ⟨z, hz, rfl⟩
    ·rcases k3 y hy with rfl | hy
     ·exact .inr ⟨x, by simp, rfl⟩
     ·exact .inl hy
    ·exact .inr ⟨z, by simp [hz], rfl⟩
end Go.Pl
namespace Go.Pl
open Go Go.RowKit Go.Sx Go.Qx
theorem c1q (c : UInt8) : a3Q (c.toNat : Int) = some (upC c) := by
 unfold a3Q upC
 cases decide (65 <= (c.toNat : Int)) <;> simp
theorem b9G (s : ByteArray) : a1R s = some (a6G s) := by
 unfold a1R a6G b4N
 simp only [a0a, c06]
 have hsz := b7b s
 cases hs : s.data.toList with
 | nil =>
   rw [hs] at hsz
   rw [hsz]
   simp
 | cons c r =>
   rw [hs] at hsz
   simp only [List.length_cons] at hsz
   have e1 : decide ((s.size : Int) < 1) = false := by simp; omega
   rw [e1]
   simp only [Bool.false_eq_true, if_false, Option.bind_some]
   by_cases hb : 16 < (s.size : Int)
   ·rw [if_pos (by simpa using hb)]
    have : decide (r.length <= 15) = false := by simp; omega
    rw [this]; rfl
   ·rw [if_neg (by simpa using hb)]
    have e2 : decide (r.length <= 15) = true := by simp; omega
    have e3 : a6v s 0 = some c := b2o (i := 0) (by rw [hs]; rfl)
    rw [e2, e3]
    simp only [Option.bind_some, c1q, Bool.true_and]
    cases upC c
    ·rfl
    ·simp only [Bool.not_true, Bool.false_eq_true, if_false, Bool.true_and]
     refine b3h s.size (fun i => match s.data.toList[i]? with | some x => (a65 x || upC x || a8g x || (x.toNat : Int) == 95) | none => true) ?_ ?_ 1 _ ?_
     ·intro i hi
      have hi' : i < s.data.toList.length := by rw [hs]; simp; omega
      unfold a39
      simp only [a0a, Z1]
      rw [if_pos (by simp; omega), b2o (List.getElem?_eq_getElem hi')]
      simp only [Option.bind_some, b5D, c0r, c1q]
      rw [List.getElem?_eq_getElem hi', k9 i (by omega)]
      generalize s.data.toList[i] = x
      have hn : ((x.toNat : Int) != 95) = !((x.toNat : Int) == 95) := rfl
      rw [hn]
      show _ = some (if (a65 x || upC x || a8g x || (x.toNat : Int) == 95) = true then _ else _)
      cases a65 x <;> cases upC x <;> cases a8g x <;> cases (x.toNat : Int) == 95 <;> rfl
     ·intro i hi
      unfold a39
      rw [a0a, if_neg (by simp; omega)]
     ·rw [hs, List.all_eq_true]
      constructor
      ·intro h i h1 hi
       obtain ⟨i, rfl⟩ : ∃ m, i = m + 1 := ⟨i - 1, by omega⟩
       have hr : i < r.length := by omega
       simp only [List.getElem?_cons_succ, List.getElem?_eq_getElem hr]
       exact h _ (List.getElem_mem hr)
      ·intro h x hx
       obtain ⟨i, hi, rfl⟩ := List.getElem_of_mem hx
       have := h (i + 1) (by omega) (by omega)
       simpa only [List.getElem?_cons_succ, List.getElem?_eq_getElem hi] using this
end Go.Pl
end
section
namespace Go.Pl
open Go Go.RowKit Go.Sx Go.Qx
theorem a8l : Q7 (⟨#[]⟩ : ByteArray) ⟨#[]⟩ = true := by simp [Q7]
theorem c81 (n : Int) : vOK (Val.mk 1 n (⟨#[]⟩) [] [] [] []) = true := by simp [vOK, a1a, a4T, a16, a05, asc, a3J, a4q, a8l, Val.Kind, Val.Int_, Val.Text, Val.Kids, Val.Keys, Val.Entries, Val.Labels]
theorem c8B (s : ByteArray) : vOK (Val.mk 2 0 s [] [] [] []) = decide ((s.size : Int) <= 64) := by rw [Bool.eq_iff_iff]; simp [vOK, a1a, a4T, a16, a05, asc, a3J, a4q, Val.Kind, Val.Int_, Val.Text, Val.Kids, Val.Keys, Val.Entries, Val.Labels]; exact decide_eq_true_iff
theorem c61 (s : ByteArray) : vOK (Val.mk 3 0 s [] [] [] []) = a4v s := by simp [vOK, a1a, a4T, a16, a05, asc, a3J, a4q, Val.Kind, Val.Int_, Val.Text, Val.Kids, Val.Keys, Val.Entries, Val.Labels]
theorem c8O (n : Int) : vOK (Val.mk 4 n (⟨#[]⟩) [] [] [] []) = decide (0 <= n) := by rw [Bool.eq_iff_iff]; simp [vOK, a1a, a4T, a16, a05, asc, a3J, a4q, a8l, Val.Kind, Val.Int_, Val.Text, Val.Kids, Val.Keys, Val.Entries, Val.Labels]; exact decide_eq_true_iff
theorem b77 : vOK (Val.mk 5 0 (⟨#[]⟩) [] [] [] []) = true := by simp [vOK, a1a, a4T, a16, a05, asc, a3J, a4q, a8l, Val.Kind, Val.Int_, Val.Text, Val.Kids, Val.Keys, Val.Entries, Val.Labels]
theorem c1s (l : List Val) : vOK (Val.mk 6 0 (⟨#[]⟩) l [] [] []) = (decide (l.length <= 4) && a1a l) := by rw [Bool.eq_iff_iff]; simp [vOK, a4T, a16, a05, asc, a3J, a4q, a8l, Val.Kind, Val.Int_, Val.Text, Val.Kids, Val.Keys, Val.Entries, Val.Labels]; intro _; exact decide_eq_true_iff
theorem c3B (x t : Val) : vOK (Val.mk 7 0 (⟨#[]⟩) [x, t] [] [] []) = ((t.Kind == 5 || t.Kind == 7) && (vOK x && vOK t)) := by simp [vOK, a1a, a4T, a16, a05, asc, a3J, a4q, b04, a8l, Val.Kind, Val.Int_, Val.Text, Val.Kids, Val.Keys, Val.Entries, Val.Labels]
theorem c8N (t : List Val × List Key) : vOK (b4u t) = (a9t (b4u t) && a1a t.1) := by simp [b4u, vOK, a4T, a16, a05, asc, a3J, a4q, a8l, Val.Kind, Val.Int_, Val.Text, Val.Kids, Val.Keys, Val.Entries, Val.Labels]
theorem c8C (n : Int) (es : List Ent) : vOK (b6S n es) = (b3E (b6S n es) && a4T es) := by simp [b6S, vOK, a1a, a16, a05, asc, a3J, a4q, a8l, Val.Kind, Val.Int_, Val.Text, Val.Kids, Val.Keys, Val.Entries, Val.Labels]
def a7Y (v : Val) (l : List ByteArray) : Val := Val.mk v.Kind v.Int_ v.Text v.Kids v.Keys v.Entries l
theorem b0F {v : Val} {l : List ByteArray} (h : vOK v = true) (hl : a05 l = true) : vOK (a7Y v l) = true := by
 cases v
 simp only [vOK, a16, Bool.and_eq_true, a7Y, Val.Kind, Val.Int_, Val.Text, Val.Kids, Val.Keys, Val.Entries, Val.Labels] at h ⊢
 exact ⟨⟨hl, h.1.2⟩, h.2⟩
theorem a7i (v : Val) (l : List ByteArray) : w6 (a7Y v l) <= w6 v + K0 l := by
 rw [a1x, a1x v]
 simp only [a7Y, Val.Text, Val.Kids, Val.Keys, Val.Entries, Val.Labels]
 omega
theorem a3l : (⟨#[]⟩ : ByteArray).size = 0 := rfl
theorem V7 (k n : Int) (t : ByteArray) (kids : List Val) (keys : List Key) (es : List Ent) : w6 (Val.mk k n t kids keys es []) = 8 + t.size + w5 kids + Z0 keys + Z2 es := by
 simp only [w6, a3D, K0]; omega
structure OS (L : List Int) (s : Semtypebase_Source) : Prop where
 l : s.L = L
 lo : 0 <= s.At
 hi : s.At <= (L.length : Int)
section
variable {L : List Int}
theorem Y9 (hL : L.length <= 4194304) {s : Semtypebase_Source} (h : OS L s) {n : Int} (h1 : 1 <= n) (h2 : n <= 1000) : ∃ x t, j0 s n = some (x, t) /\ OS L t /\ 0 <= x /\ x < n := by
 obtain ⟨hl, lo, hi⟩ := h
 unfold j0
 have e1 : decide (n < 1) = false := by simp; omega
 rw [e1, hl]
 by_cases he : (L.length : Int) <= s.At
 ·have e2 : decide ((L.length : Int) <= s.At) = true := by simpa using he
  rw [e2]
  exact ⟨0, s, rfl, ⟨hl, lo, hi⟩, by omega, by omega⟩
 ·have e2 : decide ((L.length : Int) <= s.At) = false := by simpa using he
  rw [e2]
  simp only [cond_false, Option.bind_some]
  have hlt : s.At.toNat < L.length := by omega
  have e : idx L s.At = some L[s.At.toNat] := by
   have := k7 (List.getElem?_eq_getElem hlt)
   rwa [show ((s.At.toNat : Nat) : Int) = s.At by omega] at this
  rw [e]
  simp only [Option.bind_some]
  have hq : b4y L[s.At.toNat] n = some (L[s.At.toNat].tmod n) := by unfold b4y; rw [if_neg (by omega)]
  rw [hq]
  simp only [Option.bind_some, Z1]
  have b1 := Int.tmod_lt_of_pos L[s.At.toNat] (show 0 < n by omega)
  have b2 := Int.lt_tmod_of_pos L[s.At.toNat] (show 0 < n by omega)
  have hw : w64 (s.At + 1) = s.At + 1 := J4 (by omega) (by omega)
  have hos : OS L (Semtypebase_Source.mk L (w64 (s.At + 1))) := ⟨rfl, by show 0 <= w64 (s.At + 1); omega, by show w64 (s.At + 1) <= _; omega⟩
  by_cases hn : L[s.At.toNat].tmod n < 0
  ·rw [a0a, if_pos (by simpa using hn), J4 (x := L[s.At.toNat].tmod n + n) (by omega) (by omega)]
   exact ⟨_, _, rfl, hos, by omega, by omega⟩
  ·rw [a0a, if_neg (by simpa using hn)]
   exact ⟨_, _, rfl, hos, by omega, by omega⟩
theorem b5c {α : Type} (l : List α) {x : Int} (h0 : 0 <= x) (h1 : x < (l.length : Int)) : ∃ t, idx l x = some t /\ l[x.toNat]? = some t /\ t ∈ l := by
 have hlt : x.toNat < l.length := by omega
 have := k7 (List.getElem?_eq_getElem hlt)
 rw [show ((x.toNat : Nat) : Int) = x by omega] at this
 exact ⟨_, this, List.getElem?_eq_getElem hlt, List.getElem_mem hlt⟩
abbrev b8g : List ByteArray := [⟨#[65]⟩, ⟨#[66]⟩, ⟨#[67]⟩]
abbrev c2Z : List ByteArray := [⟨#[97]⟩, ⟨#[98]⟩, ⟨#[111, 107]⟩, ⟨#[101, 114, 114, 111, 114]⟩]
abbrev c3e : List ByteArray := [⟨#[]⟩, ⟨#[115]⟩, ⟨#[120, 32, 121]⟩, ⟨#[97]⟩]
theorem b8R (hL : L.length <= 4194304) {s : Semtypebase_Source} (h : OS L s) : ∃ x t, a0G s = some (x, t) /\ OS L t /\ x ∈ b8g := by
 obtain ⟨n, t, e, ht, a, b⟩ := Y9 hL h (n := 3) (by omega) (by omega)
 obtain ⟨x, ex, eg, hx⟩ := b5c b8g a (by simpa using b)
 exact ⟨x, t, by unfold a0G; rw [e]; simp only [Option.bind_some]; rw [ex, eg]; rfl, ht, hx⟩
theorem b0J (hL : L.length <= 4194304) {s : Semtypebase_Source} (h : OS L s) : ∃ x t, W0 s = some (x, t) /\ OS L t /\ x ∈ c2Z := by
 obtain ⟨n, t, e, ht, a, b⟩ := Y9 hL h (n := 4) (by omega) (by omega)
 obtain ⟨x, ex, eg, hx⟩ := b5c c2Z a (by simpa using b)
 exact ⟨x, t, by unfold W0; rw [e]; simp only [Option.bind_some]; rw [ex, eg]; rfl, ht, hx⟩
theorem b7X (hL : L.length <= 4194304) {s : Semtypebase_Source} (h : OS L s) : ∃ x t, a0q s = some (x, t) /\ OS L t /\ x ∈ c3e := by
 obtain ⟨n, t, e, ht, a, b⟩ := Y9 hL h (n := 4) (by omega) (by omega)
 obtain ⟨x, ex, eg, hx⟩ := b5c c3e a (by simpa using b)
 exact ⟨x, t, by unfold a0q; rw [e]; simp only [Option.bind_some]; rw [ex, eg]; rfl, ht, hx⟩
theorem c5y (hL : L.length <= 4194304) {s : Semtypebase_Source} (h : OS L s) : ∃ x t, a2g s = some (x, t) /\ OS L t := by
 obtain ⟨n, t, e, ht, a, b⟩ := Y9 hL h (n := 10) (by omega) (by omega)
 obtain ⟨x, ex, eg, hx⟩ := b5c ([0, 1, (-1), 2, 3, (-2), 7, (-9223372036854775808), 9223372036854775807, 10] : List Int) a (by simpa using b)
 exact ⟨x, t, by unfold a2g; rw [e]; simp only [Option.bind_some]; rw [ex, eg]; rfl, ht⟩
def chk (o : Option (List ByteArray)) : Bool :=
 match o with
 | some l => a05 l && decide (K0 l <= 4)
 | none => false
theorem b7p {o : Option (List ByteArray)} (h : chk o = true) : ∃ l, o = some l /\ a05 l = true /\ K0 l <= 4 := by
 cases o with
 | none => cases h
 | some l => simp only [chk, Bool.and_eq_true, decide_eq_true_eq] at h; exact ⟨l, rfl, h⟩
theorem c8u : chk (a0t ([] : List ByteArray)) = true := by kernel_rfl
theorem c8W : b8g.all (fun x => chk (a0t [x])) = true := by kernel_rfl
theorem c87 : b8g.all (fun x => b8g.all (fun y => chk (a0t ([x] ++ [y])))) = true := by kernel_rfl
theorem b1S (hL : L.length <= 4194304) {s : Semtypebase_Source} (h : OS L s) : ∃ l t, a1d s = some (l, t) /\ OS L t /\ a05 l = true /\ K0 l <= 4 := by
 obtain ⟨n, t, e, ht, _, _⟩ := Y9 hL h (n := 3) (by omega) (by omega)
 unfold a1d
 rw [e]
 simp only [Option.bind_some]
 cases hn : n == 1
 ·simp only [cond_false, Option.bind_some]
  obtain ⟨l, el, h1, h2⟩ := b7p c8u
  exact ⟨l, t, by rw [el]; rfl, ht, h1, h2⟩
 ·simp only [cond_true, Option.bind_some]
  obtain ⟨x, t2, e2, ht2, hx⟩ := b8R hL ht
  obtain ⟨m, t3, e3, ht3, _, _⟩ := Y9 hL ht2 (n := 2) (by omega) (by omega)
  rw [e2]
  simp only [Option.bind_some]
  rw [Y0 (by simp), e3]
  simp only [Option.bind_some]
  cases hm : m == 1
  ·simp only [cond_false, Option.bind_some]
   obtain ⟨l, el, h1, h2⟩ := b7p (List.all_eq_true.1 c8W x hx)
   exact ⟨l, t3, by rw [el]; rfl, ht3, h1, h2⟩
  ·simp only [cond_true, Option.bind_some]
   obtain ⟨y, t4, e4, ht4, hy⟩ := b8R hL ht3
   rw [e4]
   simp only [Option.bind_some]
   rw [Y0 (by simp)]
   obtain ⟨l, el, h1, h2⟩ := b7p (List.all_eq_true.1 (List.all_eq_true.1 c87 x hx) y hy)
   exact ⟨l, t4, by simp only [Option.bind_some]; rw [el]; rfl, ht4, h1, h2⟩
theorem b2m : c2Z.all (fun x => a4v x && decide (x.size <= 5)) = true := by kernel_rfl
theorem b1R : c3e.all (fun x => decide (x.size <= 5)) = true := by kernel_rfl
theorem b5b (hL : L.length <= 4194304) {s : Semtypebase_Source} (h : OS L s) : ∃ v t, K9 s = some (v, t) /\ OS L t /\ vOK v = true /\ w6 v <= 16 := by
 obtain ⟨n, t, e, ht, _, _⟩ := Y9 hL h (n := 6) (by omega) (by omega)
 unfold K9
 rw [e]
 simp only [Option.bind_some]
 cases n == 0
 ·simp only [cond_false, Option.bind_some]
  cases n == 1
  ·simp only [cond_false, Option.bind_some]
   cases n == 2
   ·simp only [cond_false, Option.bind_some]
    cases n == 3
    ·simp only [cond_false, Option.bind_some]
     cases n == 4
     ·simp only [cond_false, Option.bind_some]
      unfold a3R a1u
      rw [Y0 (by simp)]
      exact ⟨_, t, rfl, ht, by rw [c1s]; rfl, by rw [V7]; simp [a3l, w5, Z0, Z2]⟩
     ·simp only [cond_true, Option.bind_some]
      exact ⟨_, t, rfl, ht, b77, by rw [V7]; simp [a3l, w5, Z0, Z2]⟩
    ·simp only [cond_true, Option.bind_some]
     obtain ⟨x, t2, e2, ht2, h0, _⟩ := Y9 hL ht (n := 3) (by omega) (by omega)
     rw [e2]
     exact ⟨_, t2, rfl, ht2, by rw [c8O]; simpa using h0, by rw [V7]; simp [a3l, w5, Z0, Z2]⟩
   ·simp only [cond_true, Option.bind_some]
    obtain ⟨x, t2, e2, ht2, hx⟩ := b7X hL ht
    have hw := List.all_eq_true.1 b1R x hx
    simp only [decide_eq_true_eq] at hw
    rw [e2]
    exact ⟨_, t2, rfl, ht2, by rw [c8B]; simp; omega, by rw [V7]; simp only [w5, Z0, Z2]; omega⟩
  ·simp only [cond_true, Option.bind_some]
   obtain ⟨x, t2, e2, ht2, hx⟩ := b0J hL ht
   have hw := List.all_eq_true.1 b2m x hx
   simp only [Bool.and_eq_true, decide_eq_true_eq] at hw
   rw [e2]
   exact ⟨_, t2, rfl, ht2, by rw [c61]; exact hw.1, by rw [V7]; simp only [w5, Z0, Z2]; omega⟩
 ·simp only [cond_true, Option.bind_some]
  obtain ⟨x, t2, e2, ht2⟩ := c5y hL ht
  rw [e2]
  exact ⟨_, t2, rfl, ht2, c81 x, by rw [V7]; simp [a3l, w5, Z0, Z2]⟩
theorem c83 (hL : L.length <= 4194304) {s : Semtypebase_Source} (h : OS L s) : ∃ k t, a3k s = some (k, t) /\ OS L t /\ a0c k = true /\ a6Y k <= 8 := by
 obtain ⟨n, t, e, ht, _, _⟩ := Y9 hL h (n := 2) (by omega) (by omega)
 unfold a3k
 rw [e]
 simp only [Option.bind_some]
 cases n == 0
 ·simp only [cond_false, Option.bind_some]
  obtain ⟨x, t2, e2, ht2, hx⟩ := b7X hL ht
  have hw := List.all_eq_true.1 b1R x hx
  simp only [decide_eq_true_eq] at hw
  rw [e2]
  refine ⟨_, t2, rfl, ht2, ?_, ?_⟩
  ·simp [a0c]; omega
  ·simp only [a6Y, a3D]; omega
 ·simp only [cond_true, Option.bind_some]
  obtain ⟨x, t2, e2, ht2, hx⟩ := b0J hL ht
  have hw := List.all_eq_true.1 b2m x hx
  simp only [Bool.and_eq_true, decide_eq_true_eq] at hw
  rw [e2]
  refine ⟨_, t2, rfl, ht2, ?_, ?_⟩
  ·simpa [a0c] using hw.1
  ·simp only [a6Y, a3D]; omega
theorem b0j {γ σ τ : Type} {step : σ -> Option (Fl σ τ)} (pack : γ -> Int -> Semtypebase_Source -> σ) (out : γ -> Semtypebase_Source -> τ) (Inv : Nat -> γ -> Prop) (J : Nat)
 (hst : ∀ (j n : Nat) (g : γ) (s : Semtypebase_Source), j < J -> n <= J -> Inv j g -> OS L s -> ∃ g' s', step (pack g ((n + 1 : Nat) : Int) s) = some (.next (pack g' (n : Int) s')) /\ OS L s' /\ Inv (j + 1) g')
 (hend : ∀ g s, step (pack g 0 s) = some (.done (out g s))) :
 ∀ (n j k : Nat) (g : γ) (s : Semtypebase_Source), j + n <= J -> n + 1 <= k -> Inv j g -> OS L s -> ∃ g' s', j7 step k (pack g (n : Int) s) = some (out g' s') /\ OS L s' /\ Inv (j + n) g' := by
 intro n
 induction n with
 | zero =>
   intro j k g s _ hk hI hs
   obtain ⟨k, rfl⟩ : ∃ m, k = m + 1 := ⟨k - 1, by omega⟩
   exact ⟨g, s, by have := hend g s; simp [j7, this], hs, hI⟩
 | succ n ih =>
   intro j k g s hJ hk hI hs
   obtain ⟨k, rfl⟩ : ∃ m, k = m + 1 := ⟨k - 1, by omega⟩
   obtain ⟨g1, s1, e, hs1, hI1⟩ := hst j n g s (by omega) (by omega) hI hs
   obtain ⟨g2, s2, e2, hs2, hI2⟩ := ih (j + 1) k g1 s1 (by omega) (by omega) hI1 hs1
   refine ⟨g2, s2, ?_, hs2, by rw [show j + (n + 1) = j + 1 + n by omega]; exact hI2⟩
   simp only [j7, e, Option.bind_some]
   exact e2
def hb : Nat -> Nat
 | 0 => 32
 | h + 1 => 64 + 8 * hb h
theorem c5n {h : Nat} (hh : h <= 2) : hb h <= 2624 := by
 match h, hh with
 | 0, _ => decide
 | 1, _ => decide
 | 2, _ => decide
theorem c5s (h : Nat) : 32 <= hb h := by cases h <;> simp [hb]; omega
def c2R (b : Nat) (v : Val) : Prop := vOK v = true /\ w6 v <= b
end
end Go.Pl
namespace Go.Pl
open Go Go.RowKit Go.Sx Go.Qx
theorem b2J (a b : List Val) : a1a (a ++ b) = (a1a a && a1a b) := by rw [a2B, a2B, a2B, List.all_append]
theorem b6P : ∀ (ks : List Key) (vs : List Val), b5U (ks.zip vs) <= Z0 ks + w5 vs
 | [], _ => by simp [b5U]
 | _ :: _, [] => by simp [b5U]
 | k :: r, v :: q => by have := b6P r q; simp only [List.zip_cons_cons, b5U, Z0, w5]; omega
theorem b7Z (n : Nat) (h : n <= 1000) (b : Nat) (hb : b <= 1024) : Z7 n b = some () := Y0 (by
 have : n * b <= 1000 * 1024 := Nat.mul_le_mul h hb
 omega)
section
variable {L : List Int}
theorem c5x (hL : L.length <= 4194304) {rv : Semtypebase_Source -> Int -> Option (Val × Semtypebase_Source)} {b : Nat} {h : Int} (hv : ∀ s, OS L s -> ∃ v t, rv s h = some (v, t) /\ OS L t /\ c2R b v)
 (hb : b <= 100000) (hb8 : 8 <= b) (rx : Semtypebase_Source -> Int -> Option (Val × Semtypebase_Source)) (ry : Semtypebase_Source -> Int -> Int -> Option (Ent × Semtypebase_Source)) (fuel : Nat) {n : Nat} (hn : n <= 4) {s : Semtypebase_Source} (hs : OS L s) :
 ∃ e t, a3L fuel rv rx ry s (n : Int) h = some (e, t) /\ OS L t /\ eOK e = true /\ a2h (n : Int) e = true /\ a1W e <= n * b + b + 3 := by
 obtain ⟨g, s1, e1, hs1, h1, h2, h3⟩ := b0j (L := L) (step := a1G h rv) (fun (g : List Val) (m : Int) (s : Semtypebase_Source) => (m, s, (g, false, 0, 0, (⟨#[]⟩ : ByteArray), ([] : List Val), ([] : List Key), ([] : List Ent), ([] : List ByteArray))))
  (fun (g : List Val) (s : Semtypebase_Source) => (s, (g, false, 0, 0, (⟨#[]⟩ : ByteArray), ([] : List Val), ([] : List Key), ([] : List Ent), ([] : List ByteArray)))) (fun j g => g.length = j /\ a1a g = true /\ w5 g <= j * b) 4
  (by
    intro j m g s hj hm ⟨i1, i2, i3⟩ hs
    obtain ⟨v, t, e, ht, k1, k2⟩ := hv s hs
    refine ⟨g ++ [v], t, ?_, ht, by simp [i1], by rw [b2J, i2]; simp [a1a, k1], ?_⟩
    ·unfold a1G
     simp only [a0a, Z1]
     rw [if_pos (decide_eq_true (by omega)), e]
     simp only [Option.bind_some]
     rw [b7Z _ (by simp; omega) _ (by omega), J4 (by omega) (by omega)]
     simp only [Option.bind_some]
     rw [show ((m + 1 : Nat) : Int) - 1 = (m : Int) by omega]
    ·rw [a1b]
     simp only [w5, Nat.add_mul]
     omega)
  (by
    intro g s
    unfold a1G
    simp) n 0 (n + 2) [] s (by omega) (by omega) ⟨rfl, rfl, by simp [w5]⟩ hs
 obtain ⟨x, t, e2, ht, _, _⟩ := Y9 hL hs1 (n := 4) (by omega) (by omega)
 rw [Nat.zero_add] at h1 h3
 unfold a3L
 rw [show ((n : Int)).toNat = n by omega, e1]
 simp only [Option.bind_some]
 rw [e2]
 simp only [Option.bind_some]
 cases x == 1
 ·simp only [cond_false]
  obtain ⟨v, t2, e3, ht2, k1, k2⟩ := hv t ht
  rw [e3]
  refine ⟨_, t2, rfl, ht2, by rw [a9H]; simp only [Ent.Args, Ent.Fails, Ent.Result]; rw [h2, k1]; rfl, ?_, ?_⟩
  ·simp [a2h, Ent.Args, Ent.Fails, h1]
  ·rw [a0f]
   simp only [Ent.Args, Ent.Result]
   omega
 ·simp only [cond_true]
  refine ⟨_, t, rfl, ht, by rw [a9H]; simp only [Ent.Args, Ent.Fails]; rw [h2]; rfl, ?_, ?_⟩
  ·simp [a2h, Ent.Args, Ent.Fails, Ent.Result, h1, c4h]
  ·rw [a0f]
   simp only [Ent.Args, Ent.Result]
   have : w6 (Val.mk 0 0 (⟨#[]⟩) [] [] [] []) = 8 := by rw [V7]; rfl
   omega
theorem b3C {x : Int} {b : Int} (h0 : 0 <= x) (h1 : x < b) : ∃ n : Nat, x = (n : Int) /\ (n : Int) < b := ⟨x.toNat, by omega, by omega⟩
theorem c5A (hL : L.length <= 4194304) {rv : Semtypebase_Source -> Int -> Option (Val × Semtypebase_Source)} {re : Semtypebase_Source -> Int -> Int -> Option (Ent × Semtypebase_Source)} {h : Nat} (hh : h <= 2)
 (hv : ∀ s, OS L s -> ∃ v t, rv s ((h : Int) + 1) = some (v, t) /\ OS L t /\ c2R (hb h) v)
 (hv2 : 1 <= h -> ∀ s, OS L s -> ∃ v t, rv s (h : Int) = some (v, t) /\ OS L t /\ c2R (hb h) v)
 (he : ∀ n : Nat, n <= 4 -> ∀ s, OS L s -> ∃ e t, re s (n : Int) ((h : Int) + 1) = some (e, t) /\ OS L t /\ eOK e = true /\ a2h (n : Int) e = true /\ a1W e <= n * hb h + hb h + 3)
 (rx : Semtypebase_Source -> Int -> Option (Val × Semtypebase_Source)) {fuel : Nat} (hf : 40000 <= fuel) {s : Semtypebase_Source} (hs : OS L s) :
 ∃ v t, a0U fuel rv rx re s ((h : Int) + 2) = some (v, t) /\ OS L t /\ vOK v = true /\ w6 v + 8 <= hb (h + 1) := by
 have hb1 := c5n hh
 have hb2 := c5s h
 have hbs : hb (h + 1) = 64 + 8 * hb h := rfl
 have w1 : w64 ((h : Int) + 2 - 1) = (h : Int) + 1 := by rw [J4 (by omega) (by omega)]; omega
 have w2 : w64 ((h : Int) + 2 - 2) = (h : Int) := by rw [J4 (by omega) (by omega)]; omega
 have wn : ∀ m : Nat, m <= 10 -> w64 (((m + 1 : Nat) : Int) - 1) = (m : Int) := fun m hm => by rw [J4 (by omega) (by omega)]; omega
 have lf : ∀ s, OS L s -> ∃ v t, K9 s = some (v, t) /\ OS L t /\ vOK v = true /\ w6 v + 8 <= hb (h + 1) := fun s hs => by
  obtain ⟨v, t, e, ht, h1, h2⟩ := b5b hL hs
  exact ⟨v, t, e, ht, h1, by omega⟩
 obtain ⟨c, t, e, ht, _, _⟩ := Y9 hL hs (n := 6) (by omega) (by omega)
 unfold a0U
 have e0 : decide ((h : Int) + 2 <= 1) = false := by simp; omega
 rw [e0, e]
 simp only [Option.bind_some, cond_false, Z1, w1, w2]
 cases c == 1
 ·simp only [cond_false, Option.bind_some, v7]
  cases c == 2
  ·simp only [cond_false, Option.bind_some, v7]
   cases c == 3
   ·simp only [cond_false, Option.bind_some, v7]
    cases c == 4
    ·simp only [cond_false, Option.bind_some, v7]
     obtain ⟨v, t2, e2, h2⟩ := lf t ht
     rw [e2]
     exact ⟨v, t2, rfl, h2⟩
    ·simp only [cond_true, Option.bind_some, v7]
     obtain ⟨x, t2, e2, ht2, x0, x1⟩ := Y9 hL ht (n := 3) (by omega) (by omega)
     obtain ⟨y, t3, e3, ht3, y0, y1⟩ := Y9 hL ht2 (n := 3) (by omega) (by omega)
     obtain ⟨n, rfl, hn⟩ := b3C x0 x1
     obtain ⟨m, rfl, hm⟩ := b3C y0 y1
     rw [e2]
     simp only [Option.bind_some]
     rw [e3]
     simp only [Option.bind_some]
     have hnb : n * hb h <= 2 * hb h := Nat.mul_le_mul_right _ (by omega)
     obtain ⟨g, s1, e4, hs1, i1, i2, i3, i4⟩ := b0j (L := L) (step := a1D ((h : Int) + 2) ((n : Int), t2) re) (fun (g : List Ent) (m : Int) (s : Semtypebase_Source) => (g, m, s)) (fun (g : List Ent) (s : Semtypebase_Source) => (g, s)) (fun j g => g.length = j /\ a4T g = true /\ g.all (a2h (n : Int)) = true /\ Z2 g <= j * (3 * hb h + 3)) 4
      (by
        intro j m g s hj hm ⟨i1, i2, i3, i4⟩ hs
        obtain ⟨v, t, e, ht, k1, k2, k3⟩ := he n (by omega) s hs
        refine ⟨g ++ [v], t, ?_, ht, by simp [i1], by rw [a8T, List.all_append, <- a8T, i2]; simp [k1], by rw [List.all_append, i3]; simp [k2], ?_⟩
        ·unfold a1D
         simp only [a0a, Z1]
         rw [if_pos (decide_eq_true (by omega)), w1, e]
         simp only [Option.bind_some]
         rw [b7Z _ (by simp; omega) _ (by omega), wn m (by omega)]
         rfl
        ·rw [b1U]
         simp only [Z2, Nat.add_mul]
         omega)
      (by
        intro g s
        unfold a1D
        simp) m 0 (m + 2) [] t3 (by omega) (by omega) ⟨rfl, rfl, rfl, by simp [Z2]⟩ ht3
     simp only [Option.bind_some, Int.toNat_natCast]
     rw [e4]
     simp only [Option.bind_some]
     rw [Nat.zero_add] at i1 i4
     have hmb : m * (3 * hb h + 3) <= 2 * (3 * hb h + 3) := Nat.mul_le_mul_right _ (by omega)
     rw [b3K fuel (n : Int) g (by omega) (by omega), if_pos ⟨by omega, by omega, i3⟩]
     simp only [Option.bind_some]
     simp only [show ((0 : Int) == 0) = true from rfl, cond_true, Option.bind_some, v7]
     refine ⟨b6S (n : Int) (g.foldl a4b []), s1, rfl, hs1, ?_, ?_⟩
     ·rw [c8C]
      have a1 : (g.foldl a4b []).all (a2h (n : Int)) = true := List.all_eq_true.2 fun y hy => by
       rcases b1n g [] hy with hy | hy
       ·simp at hy
       ·exact List.all_eq_true.1 i3 y hy
      have a2 : a4T (g.foldl a4b []) = true := by
       rw [a8T]
       rw [a8T] at i2
       exact List.all_eq_true.2 fun y hy => by
        rcases b1n g [] hy with hy | hy
        ·simp at hy
        ·exact List.all_eq_true.1 i2 y hy
      rw [a2]
      simp only [b3E, b6S, Val.Int_, Val.Entries]
      rw [a1, b6m g [] rfl]
      simp only [Bool.and_true, Bool.and_eq_true]
      exact ⟨decide_eq_true (by omega), decide_eq_true (by omega)⟩
     ·have := b0a g []
      simp only [b6S, V7, a3l, w5, Z0]
      simp only [Z2] at this
      omega
   ·simp only [cond_true, Option.bind_some, v7]
    obtain ⟨y, t3, e3, ht3, y0, y1⟩ := Y9 hL ht (n := 3) (by omega) (by omega)
    obtain ⟨m, rfl, hm⟩ := b3C y0 y1
    rw [e3]
    simp only [Option.bind_some]
    obtain ⟨g, s1, e4, hs1, i1, i2, i3, i4, i5, i6⟩ := b0j (L := L) (step := a1E ((h : Int) + 2) rv) (fun (g : List Key × List Val) (m : Int) (s : Semtypebase_Source) => (g.1, g.2, m, s)) (fun (g : List Key × List Val) (s : Semtypebase_Source) => (g.1, g.2, s)) (fun j g => g.1.length = j /\ g.2.length = j /\ g.1.all a0c = true /\ a1a g.2 = true /\ w5 g.2 <= j * hb h /\ Z0 g.1 <= j * 8) 4
     (by
       intro j m g s hj hm ⟨i1, i2, i3, i4, i5, i6⟩ hs
       obtain ⟨k, t, e, ht, k1, k2⟩ := c83 hL hs
       obtain ⟨v, t2, e2, ht2, l1, l2⟩ := hv t ht
       refine ⟨(g.1 ++ [k], g.2 ++ [v]), t2, ?_, ht2, by simp [i1], by simp [i2], by rw [List.all_append, i3]; simp [k1], by rw [b2J, i4]; simp [a1a, l1], ?_, ?_⟩
       ·unfold a1E
        simp only [a0a, Z1]
        rw [if_pos (decide_eq_true (by omega)), e, w1]
        simp only [Option.bind_some]
        rw [b7Z _ (by simp; omega) _ (by omega), e2]
        simp only [Option.bind_some]
        rw [b7Z _ (by simp; omega) _ (by omega), wn m (by omega)]
        rfl
       ·rw [a1b]
        simp only [w5, Nat.add_mul]
        omega
       ·rw [a7u]
        simp only [Z0, Nat.add_mul]
        omega)
     (by
       intro g s
       unfold a1E
       simp) m 0 (m + 2) ([], []) t3 (by omega) (by omega) ⟨rfl, rfl, rfl, rfl, by simp [w5], by simp [Z0]⟩ ht3
    simp only [Int.toNat_natCast]
    rw [e4]
    simp only [Option.bind_some]
    rw [Nat.zero_add] at i1 i2 i5 i6
    have hmb : m * hb h <= 2 * hb h := Nat.mul_le_mul_right _ (by omega)
    rw [b92 g.1 g.2 (by omega), if_pos ⟨by omega, i3⟩]
    simp only [Option.bind_some]
    cases hx : a6V (g.1.zip g.2) ([], []) with
    | none =>
      simp only [show ((6 : Int) == 0) = false from rfl, cond_false, Option.bind_some, v7]
      obtain ⟨v, t2, e2, h2⟩ := lf _ hs1
      rw [e2]
      exact ⟨v, t2, rfl, h2⟩
    | some u =>
      simp only
      simp only [show ((0 : Int) == 0) = true from rfl, cond_true, Option.bind_some, v7]
      obtain ⟨m1, m2, m3, m4, m5, m6⟩ := b2Z _ _ _ hx rfl rfl
      have hz := b6P g.1 g.2
      simp only [w5, Z0] at m6
      refine ⟨b4u u, s1, rfl, hs1, ?_, ?_⟩
      ·rw [c8N]
       have a1 : u.2.all a0c = true := List.all_eq_true.2 fun y hy => by
        rcases m4 y hy with hy | ⟨x, hx, rfl⟩
        ·simp at hy
        ·exact List.all_eq_true.1 i3 _ (List.of_mem_zip hx).1
       have a2 : a1a u.1 = true := by
        rw [a2B]
        rw [a2B] at i4
        exact List.all_eq_true.2 fun y hy => by
         rcases m5 y hy with hy | ⟨x, hx, rfl⟩
         ·simp at hy
         ·exact List.all_eq_true.1 i4 _ (List.of_mem_zip hx).2
       rw [a2]
       simp only [a9t, b4u, Val.Keys, Val.Kids]
       rw [a1, m1, m2]
       simp
      ·simp only [b4u, V7, a3l, Z2]
       omega
  ·simp only [cond_true, Option.bind_some, v7]
   have fin : ∀ (tl v : Val), vOK tl = true -> (tl.Kind = 5 \/ tl.Kind = 7) -> w6 tl <= 24 + hb h -> c2R (hb h) v ->
    vOK (Val.mk 7 0 (⟨#[]⟩) [v, tl] [] [] []) = true /\ w6 (Val.mk 7 0 (⟨#[]⟩) [v, tl] [] [] []) + 8 <= hb (h + 1) := by
    intro tl v ho hk hbt ⟨k1, k2⟩
    refine ⟨?_, ?_⟩
    ·rw [c3B, k1, ho]
     rcases hk with hk | hk <;> simp [hk]
    ·rw [V7]
     simp only [a3l, w5, Z0, Z2]
     omega
   have nilB : w6 (Val.mk 5 0 (⟨#[]⟩) [] [] [] []) = 8 := by rw [V7]; rfl
   unfold a0b a6o
   simp only [Option.bind_some]
   by_cases h2 : 1 <= h
   ·have e5 : decide (2 < (h : Int) + 2) = true := by simp; omega
    obtain ⟨x, t2, e2, ht2, _, _⟩ := Y9 hL ht (n := 2) (by omega) (by omega)
    rw [e5, e2]
    simp only [Option.bind_some, cond_true]
    cases x == 1
    ·simp only [Option.bind_some, cond_false]
     obtain ⟨l, t3, e3, ht3, l1, l2⟩ := b1S hL ht2
     rw [e3]
     simp only [Option.bind_some]
     obtain ⟨v, t5, e5, ht5, k5⟩ := hv t3 ht3
     rw [e5]
     exact ⟨_, t5, rfl, ht5, fin (a7Y (Val.mk 5 0 (⟨#[]⟩) [] [] [] []) l) v (b0F b77 l1) (.inl rfl) (by have := a7i (Val.mk 5 0 (⟨#[]⟩) [] [] [] []) l; omega) k5⟩
    ·simp only [Option.bind_some, cond_true]
     obtain ⟨v, t3, e3, ht3, k1, k2⟩ := hv2 h2 t2 ht2
     rw [e3]
     simp only [Option.bind_some]
     obtain ⟨l, t4, e4, ht4, l1, l2⟩ := b1S hL ht3
     have ho : vOK (Val.mk 7 0 (⟨#[]⟩) [v, Val.mk 5 0 (⟨#[]⟩) [] [] [] []] [] [] []) = true := by rw [c3B, k1, b77]; rfl
     have hbb : w6 (Val.mk 7 0 (⟨#[]⟩) [v, Val.mk 5 0 (⟨#[]⟩) [] [] [] []] [] [] []) <= 16 + hb h := by
      rw [V7]
      simp only [a3l, w5, Z0, Z2, nilB]
      omega
     rw [e4]
     simp only [Option.bind_some]
     obtain ⟨v5, t5, e5, ht5, k5⟩ := hv t4 ht4
     rw [e5]
     exact ⟨_, t5, rfl, ht5, fin (a7Y (Val.mk 7 0 (⟨#[]⟩) [v, Val.mk 5 0 (⟨#[]⟩) [] [] [] []] [] [] []) l) v5 (b0F ho l1) (.inr rfl) (by have := a7i (Val.mk 7 0 (⟨#[]⟩) [v, Val.mk 5 0 (⟨#[]⟩) [] [] [] []] [] [] []) l; omega) k5⟩
   ·have e5 : decide (2 < (h : Int) + 2) = false := by simp; omega
    rw [e5]
    simp only [Option.bind_some, cond_false]
    obtain ⟨l, t3, e3, ht3, l1, l2⟩ := b1S hL ht
    rw [e3]
    simp only [Option.bind_some]
    obtain ⟨v, t5, e5, ht5, k5⟩ := hv t3 ht3
    rw [e5]
    exact ⟨_, t5, rfl, ht5, fin (a7Y (Val.mk 5 0 (⟨#[]⟩) [] [] [] []) l) v (b0F b77 l1) (.inl rfl) (by have := a7i (Val.mk 5 0 (⟨#[]⟩) [] [] [] []) l; omega) k5⟩
 ·simp only [cond_true, Option.bind_some, v7]
  obtain ⟨y, t3, e3, ht3, y0, y1⟩ := Y9 hL ht (n := 4) (by omega) (by omega)
  obtain ⟨m, rfl, hm⟩ := b3C y0 y1
  rw [e3]
  simp only [Option.bind_some]
  obtain ⟨g, s1, e4, hs1, i1, i2, i3⟩ := b0j (L := L) (step := a1F ((h : Int) + 2) rv) (fun (g : List Val) (m : Int) (s : Semtypebase_Source) => (g, m, s)) (fun (g : List Val) (s : Semtypebase_Source) => (g, s)) (fun j g => g.length = j /\ a1a g = true /\ w5 g <= j * hb h) 4
   (by
     intro j m g s hj hm ⟨i1, i2, i3⟩ hs
     obtain ⟨v, t, e, ht, k1, k2⟩ := hv s hs
     refine ⟨g ++ [v], t, ?_, ht, by simp [i1], by rw [b2J, i2]; simp [a1a, k1], ?_⟩
     ·unfold a1F
      simp only [a0a, Z1]
      rw [if_pos (decide_eq_true (by omega)), w1, e]
      simp only [Option.bind_some]
      rw [b7Z _ (by simp; omega) _ (by omega), wn m (by omega)]
      rfl
     ·rw [a1b]
      simp only [w5, Nat.add_mul]
      omega)
   (by
     intro g s
     unfold a1F
     simp) m 0 (m + 2) [] t3 (by omega) (by omega) ⟨rfl, rfl, by simp [w5]⟩ ht3
  simp only [Int.toNat_natCast]
  rw [e4]
  simp only [Option.bind_some]
  rw [Nat.zero_add] at i1 i3
  have hmb : m * hb h <= 3 * hb h := Nat.mul_le_mul_right _ (by omega)
  unfold a3R a1u
  rw [b7Z _ (by simp; omega) _ (by omega)]
  refine ⟨Val.mk 6 0 (⟨#[]⟩) g [] [] [], s1, rfl, hs1, ?_, ?_⟩
  ·rw [c1s, i2]
   simp
   omega
  ·rw [V7]
   simp only [a3l, Z0, Z2]
   omega
theorem c8K (hL : L.length <= 4194304) : ∀ (h k : Nat), h <= 3 -> 50000 + 3 * h <= k -> ∀ s, OS L s -> ∃ v t, (j9 k).1 s ((h : Int) + 1) = some (v, t) /\ OS L t /\ c2R (hb h) v := by
 intro h
 induction h using Nat.strongRecOn with
 | ind h ih =>
   intro k hh hk s hs
   obtain ⟨k, rfl⟩ : ∃ m, k = m + 2 := ⟨k - 2, by omega⟩
   have key : ∃ v t, (j9 (k + 1)).2.1 s ((h : Int) + 1) = some (v, t) /\ OS L t /\ vOK v = true /\ w6 v + 8 <= hb h := by
    show ∃ v t, a0U k (j9 k).1 (j9 k).2.1 (j9 k).2.2 s ((h : Int) + 1) = some (v, t) /\ _
    cases h with
    | zero =>
      obtain ⟨v, t, e, ht, h1, h2⟩ := b5b hL hs
      refine ⟨v, t, ?_, ht, h1, by simp only [hb]; omega⟩
      unfold a0U
      have e0 : decide (((0 : Nat) : Int) + 1 <= 1) = true := rfl
      rw [e0, e]
      rfl
    | succ h =>
      have := c5A hL (h := h) (by omega) (rv := (j9 k).1) (re := (j9 k).2.2) (fun s hs => ih h (by omega) k (by omega) (by omega) s hs)
       (fun h1 s hs => by
         obtain ⟨h, rfl⟩ : ∃ m, h = m + 1 := ⟨h - 1, by omega⟩
         obtain ⟨v, t, e, ht, k1, k2⟩ := ih h (by omega) k (by omega) (by omega) s hs
         exact ⟨v, t, e, ht, k1, by simp only [hb]; omega⟩)
       (fun n hn s hs => by
         obtain ⟨p, rfl⟩ : ∃ m, k = m + 1 := ⟨k - 1, by omega⟩
         have hb1 := c5n (show h <= 2 by omega)
         have hb2 := c5s h
         exact c5x hL (rv := (j9 p).1) (b := hb h) (fun s hs => ih h (by omega) p (by omega) (by omega) s hs) (by omega) (by omega) (j9 p).2.1 (j9 p).2.2 p hn hs)
       (j9 k).2.1 (fuel := k) (by omega) hs
      rw [show (((h + 1 : Nat) : Int)) + 1 = (h : Int) + 2 by omega]
      exact this
   obtain ⟨v, t, e, ht, h1, h2⟩ := key
   obtain ⟨l, t2, e2, ht2, l1, l2⟩ := b1S hL ht
   show ∃ v t, a3M (k + 1) (j9 (k + 1)).1 (j9 (k + 1)).2.1 (j9 (k + 1)).2.2 s ((h : Int) + 1) = some (v, t) /\ _
   unfold a3M
   rw [e]
   simp only [Option.bind_some]
   rw [e2]
   have := a7i v l
   exact ⟨a7Y v l, t2, rfl, ht2, b0F h1 l1, by omega⟩
end
end Go.Pl
end
section
namespace Go.Pl
open Go Go.RowKit Go.Sx Go.Qx
def b4i {α : Type} (c : α -> α -> Int) (q : α -> Bool) (l : List α) (i : Nat) : Bool :=
 match l[i]? with
 | some x => q x && (match i with
   | 0 => true
   | j + 1 => match l[j]? with
     | some y => decide (c y x < 0)
     | none => true)
 | none => true
theorem c2X {α : Type} (c : α -> α -> Int) (q : α -> Bool) (l : List α) : (List.range l.length).all (b4i c q l) = (asc c l && l.all q) := by
 rw [Bool.eq_iff_iff, Bool.and_eq_true, b4X, List.all_eq_true, List.all_eq_true]
 constructor
 ·intro h
  refine ⟨fun i h1 hi => ?_, fun x hx => ?_⟩
  ·obtain ⟨j, rfl⟩ : ∃ m, i = m + 1 := ⟨i - 1, by omega⟩
   have := h (j + 1) (by simpa using hi)
   unfold b4i at this
   rw [List.getElem?_eq_getElem hi] at this
   simp only [Bool.and_eq_true] at this
   have h2 := this.2
   rw [List.getElem?_eq_getElem (show j < l.length by omega)] at h2
   simpa using h2
  ·obtain ⟨i, hi, rfl⟩ := List.getElem_of_mem hx
   have := h i (by simpa using hi)
   unfold b4i at this
   rw [List.getElem?_eq_getElem hi] at this
   simp only [Bool.and_eq_true] at this
   exact this.1
 ·intro ⟨h1, h2⟩ i hi
  have hi : i < l.length := by simpa using hi
  unfold b4i
  rw [List.getElem?_eq_getElem hi]
  simp only [Bool.and_eq_true]
  refine ⟨h2 _ (List.getElem_mem hi), ?_⟩
  cases i with
  | zero => rfl
  | succ j =>
    simp only
    rw [List.getElem?_eq_getElem (show j < l.length by omega)]
    have := h1 (j + 1) (by omega) hi
    simpa using this
theorem b7Q {α β : Type} {step : Int -> Option (Fl Int (Sum Unit β))} (c : α -> α -> Int) (q : α -> Bool) (l : List α) (b : β)
 (hst : ∀ (i : Nat) (x : α), l[i]? = some x -> step (i : Int) = some (if b4i c q l i = true then .next ((i + 1 : Nat) : Int) else .done (.inr b)))
 (hend : step (l.length : Int) = some (.done (.inl ()))) : j7 step (l.length + 1) 0 = some (if (asc c l && l.all q) = true then .inl () else .inr b) := by
 have := V9 (step := step) (List.range l.length) (b4i c q l) (fun i => (i : Int)) () b (fun i x hx => by
  have hi : i < l.length := by have := (List.getElem?_eq_some_iff.1 hx).1; simpa using this
  have e : x = i := by
   rw [List.getElem?_range hi] at hx
   cases hx; rfl
  subst e
  exact hst x _ (List.getElem?_eq_getElem hi)) (by rw [List.length_range]; exact hend)
 rw [List.length_range, c2X] at this
 exact this
theorem b4I {α : Type} (c : α -> α -> Int) (q : α -> Bool) (l : List α) (i : Nat) (x : α) (hx : l[i]? = some x) (hl : l.length <= 4194304) {o : Option (Fl Int (Sum Unit Bool))}
 (h0 : q x = false -> o = some (.done (.inr false)))
 (h1 : q x = true -> i = 0 -> o = some (.next (w64 ((i : Int) + 1))))
 (h2 : q x = true -> ∀ j y, i = j + 1 -> l[j]? = some y -> idx l (w64 ((i : Int) - 1)) = some y -> o = some (if c y x < 0 then .next (w64 ((i : Int) + 1)) else .done (.inr false))) :
 o = some (if b4i c q l i = true then .next ((i + 1 : Nat) : Int) else .done (.inr false)) := by
 have hi : i < l.length := (List.getElem?_eq_some_iff.1 hx).1
 have hw := k9 i (by omega)
 unfold b4i
 rw [hx]
 cases hq : q x
 ·rw [h0 hq]; simp [hq]
 ·cases i with
  | zero => rw [h1 hq rfl, hw]; simp [hq]
  | succ j =>
    have hy := List.getElem?_eq_getElem (show j < l.length by omega)
    have hj : w64 (((j + 1 : Nat) : Int) - 1) = (j : Int) := by rw [J4 (by omega) (by omega)]; omega
    rw [h2 hq j _ rfl hy (by rw [hj]; exact k7 hy), hw]
    simp only [hy]
    by_cases hc : c l[j] x < 0 <;> simp [hq, hc]
theorem c6E (a b : ByteArray) : a2T a b = decide (cS a b < 0) := by
 rcases a8Z a b with ⟨h, _, e⟩ | ⟨h, _, e⟩ | ⟨h, _, e⟩ <;> simp [h, e]
theorem c20 (i : Nat) : decide (0 < (((i + 1 : Nat)) : Int)) = true := decide_eq_true (by omega)
theorem c3U (l : List Val) : (bif ((l.length : Int) == 2) then Option.bind (idx l 1) fun x => Option.bind (bif (x.Kind == 5) then some true else Option.bind (idx l 1) fun y => some (y.Kind == 7)) fun q => some q else some false) = some (b04 l) := by
 unfold b04
 match l with
 | [] => rfl
 | [_] => rfl
 | [x, t] =>
   have e2 : ((([x, t] : List Val).length : Int) == 2) = true := rfl
   rw [e2]
   have : idx [x, t] 1 = some t := rfl
   simp only [cond_true, this, Option.bind_some]
   cases t.Kind == 5 <;> rfl
 | _ :: _ :: _ :: r =>
   rename_i a b c
   have : ((((a :: b :: c :: r : List Val)).length : Int) == 2) = false := by simp; omega
   rw [this]; rfl
theorem c3L (fuel : Nat) (v : Val) (hf : 2 * w6 v <= fuel + 2) (hb : w6 v <= 4194304) : a6E fuel v = some (a16 v) := by
 have he := a1x v
 have hs := a4A v.Labels
 have hk := a52 v.Keys
 have hn := a3f v.Entries
 have l1 : j7 (a4F v) (v.Labels.length + 1) 0 = some (if (asc cS v.Labels && v.Labels.all a6G) = true then .inl () else .inr false) := by
  refine b7Q cS a6G v.Labels false ?_ ?_
  ·intro i x hx
   have hi : i < v.Labels.length := (List.getElem?_eq_some_iff.1 hx).1
   unfold a4F
   simp only [a0a, Z1]
   rw [if_pos (by simp; omega), k7 hx]
   simp only [Option.bind_some, b9G]
   refine b4I cS a6G v.Labels i x hx (by omega) (fun h => by rw [h]; rfl) (fun h h0 => by subst h0; rw [h]; rfl) (fun h j y hj hy hiy => ?_)
   subst hj
   rw [h, hiy, c20]
   simp only [Bool.not_true, Bool.false_eq_true, if_false, if_true, Option.bind_some]
   rw [c6E]
   by_cases hc : cS y x < 0 <;> simp [hc]
  ·unfold a4F
   simp
 have l2 : j7 (a4H v) (v.Keys.length + 1) 0 = some (if (asc cK v.Keys && v.Keys.all a0c) = true then .inl () else .inr false) := by
  refine b7Q cK a0c v.Keys false ?_ ?_
  ·intro i x hx
   have hi : i < v.Keys.length := (List.getElem?_eq_some_iff.1 hx).1
   unfold a4H
   simp only [a0a, Z1]
   rw [if_pos (by simp; omega), k7 hx]
   simp only [Option.bind_some, b5I]
   refine b4I cK a0c v.Keys i x hx (by omega) (fun h => by rw [h]; rfl) (fun h h0 => by subst h0; rw [h]; rfl) (fun h j y hj hy hiy => ?_)
   subst hj
   rw [h, hiy, c20]
   simp only [Bool.not_true, Bool.false_eq_true, if_false, if_true, Option.bind_some, b0G]
   by_cases hc : cK y x < 0
   ·have : ¬ 0 <= cK y x := by omega
    simp [hc, this]
   ·have : 0 <= cK y x := by omega
    simp [hc, this]
  ·unfold a4H
   simp
 have l3 : j7 (a4L v fuel) (v.Entries.length + 1) 0 = some (if (asc cE v.Entries && v.Entries.all (a2h v.Int_)) = true then .inl () else .inr false) := by
  refine b7Q cE (a2h v.Int_) v.Entries false ?_ ?_
  ·intro i x hx
   have hi : i < v.Entries.length := (List.getElem?_eq_some_iff.1 hx).1
   have hm := a0h (List.mem_of_getElem? hx)
   have hbe := a0f x
   unfold a4L a3S
   simp only [a0a, Z1]
   rw [if_pos (by simp; omega), k7 hx]
   simp only [Option.bind_some]
   rw [show Val.mk 0 0 (⟨#[]⟩ : ByteArray) ([] : List Val) ([] : List Key) ([] : List Ent) ([] : List ByteArray) = a38 from rfl, (a50 fuel).1 x.Result a38 (by omega) (by omega)]
   simp only [Option.bind_some]
   have hq : (Option.bind (if ((x.Args.length : Int) != v.Int_) = true then some true else Option.bind (if x.Fails = true then some (!(cV x.Result a38 == 0)) else some false) fun q => some q) fun q => some q) = some (!(a2h v.Int_ x)) := by
    unfold a2h
    have e0 : ((x.Args.length : Int) != v.Int_) = !((x.Args.length : Int) == v.Int_) := rfl
    rw [e0]
    cases ((x.Args.length : Int) == v.Int_) <;> cases x.Fails <;> cases (cV x.Result a38 == 0) <;> rfl
   rw [a0z] at hq
   simp only [a0z] at hq ⊢
   rw [hq]
   simp only [Option.bind_some]
   refine b4I cE (a2h v.Int_) v.Entries i x hx (by omega) (fun h => by rw [h]; rfl) (fun h h0 => by subst h0; rw [h]; rfl) (fun h j y hj hy hiy => ?_)
   subst hj
   have hmy := a0h (List.mem_of_getElem? hy)
   have hc : Y3 fuel y x = some (cE y x) := (a50 fuel).2.2 y x (by omega) (by omega)
   rw [h, hiy, c20]
   simp only [Bool.not_true, Bool.false_eq_true, if_false, if_true, Option.bind_some, hc]
   by_cases hc : cE y x < 0
   ·have : ¬ 0 <= cE y x := by omega
    simp [hc, this]
   ·have : 0 <= cE y x := by omega
    simp [hc, this]
  ·unfold a4L
   simp
 unfold a6E
 simp only [Y1, a0z]
 rw [l1, l2, l3, b4b]
 have hcons := c3U v.Kids
 simp only [a0z] at hcons
 rw [hcons]
 simp only [Option.bind_some, b7t]
 unfold a16 a05
 cases hlab : (asc cS v.Labels && v.Labels.all a6G)
 ·rfl
 have h6 : decide ((v.Kids.length : Int) <= 4) = decide (v.Kids.length <= 4) := by
  by_cases h : v.Kids.length <= 4
  ·simp [h]; omega
  ·simp [h]; omega
 have hm : a9t v = (decide (v.Keys.length = v.Kids.length) && (asc cK v.Keys && v.Keys.all a0c)) := by
  unfold a9t
  by_cases h : v.Keys.length = v.Kids.length <;> simp [h]
 have hm2 : ((v.Keys.length : Int) == (v.Kids.length : Int)) = decide (v.Keys.length = v.Kids.length) := by
  by_cases h : v.Keys.length = v.Kids.length
  ·simp [h]
  ·simp [h]; omega
 have hfu : b3E v = (!decide (v.Int_ < 0) && !decide (4 < v.Int_) && (asc cE v.Entries && v.Entries.all (a2h v.Int_))) := by
  unfold b3E
  by_cases h1 : v.Int_ < 0 <;> by_cases h2 : 4 < v.Int_
  ·omega
  ·have : ¬ 0 <= v.Int_ := by omega
   simp [h1, this]
  ·have : ¬ v.Int_ <= 4 := by omega
   simp [h2, this]
  ·have a : 0 <= v.Int_ := by omega
   have b : v.Int_ <= 4 := by omega
   simp [h1, h2, a, b]
 have hi : (v.Int_ != 0) = !(v.Int_ == 0) := rfl
 rw [hm2, hi, h6]
 simp only [v7, if_true]
 unfold a3J a4q
 rw [hm, hfu]
 generalize (asc cE v.Entries && v.Entries.all (a2h v.Int_)) = f
 generalize (asc cK v.Keys && v.Keys.all a0c) = k
 generalize decide (v.Keys.length = v.Kids.length) = m
 generalize decide (v.Int_ < 0) = p
 generalize decide (4 < v.Int_) = r
 generalize Q7 v.Text ⟨#[]⟩ = t
 generalize v.Keys.isEmpty = y
 generalize v.Entries.isEmpty = e
 generalize v.Kids.isEmpty = d
 generalize (v.Int_ == 0) = i
 generalize a4v v.Text = a
 generalize decide ((v.Text.size : Int) <= 64) = z
 generalize b04 v.Kids = c
 generalize decide (0 <= v.Int_) = g
 generalize decide (v.Kids.length <= 4) = n
 by_cases hk : v.Kind = 1 \/ v.Kind = 2 \/ v.Kind = 3 \/ v.Kind = 4 \/ v.Kind = 5 \/ v.Kind = 6 \/ v.Kind = 7 \/ v.Kind = 8 \/ v.Kind = 9
 ·rcases hk with h | h | h | h | h | h | h | h | h <;> rw [h] <;> cases i <;> cases t <;> cases d <;> cases y <;> cases e <;> simp
  all_goals first
   | rfl
   | (cases k <;> cases m <;> simp)
   | (cases p <;> cases r <;> cases f <;> simp)
 ·simp only [not_or] at hk
  obtain ⟨h1, h2, h3, h4, h5, h6', h7, h8, h9⟩ := hk
  have e1 : (v.Kind == 1) = false := by simpa using h1
  have e2 : (v.Kind == 2) = false := by simpa using h2
  have e3 : (v.Kind == 3) = false := by simpa using h3
  have e4 : (v.Kind == 4) = false := by simpa using h4
  have e5 : (v.Kind == 5) = false := by simpa using h5
  have e6 : (v.Kind == 6) = false := by simpa using h6'
  have e7 : (v.Kind == 7) = false := by simpa using h7
  have e8 : (v.Kind == 8) = false := by simpa using h8
  have e9 : (v.Kind == 9) = false := by simpa using h9
  simp only [bne, e1, e2, e3, e4, e5, e6, e7, e8, e9, if_neg h1, if_neg h2, if_neg h3, if_neg h4, if_neg h5, if_neg h6', if_neg h7, if_neg h8, if_neg h9]
  cases i <;> cases t <;> cases d <;> cases y <;> cases e <;> rfl
theorem a9V : ∀ (k : Nat) (v : Val), 2 * w6 v <= k -> w6 v <= 4194304 -> X0 k v = some (vOK v)
 | 0, v, h, _ => by have := a88 v; omega
 | k + 1, v, h, hb => by
   have he := a1x v
   have hv := a1c v.Kids
   have hn := a3f v.Entries
   have hrec : ∀ x, w6 x < w6 v -> X0 k x = some (vOK x) := fun x hx => a9V k x (by omega) (by omega)
   show a63 k (X0 k) v = _
   unfold a63
   rw [c3L k v (by omega) hb, b9x, a2B, a8T]
   simp only [Option.bind_some, Y1]
   have l1 : j7 (a37 v (X0 k)) (v.Kids.length + 1) 0 = some (if v.Kids.all vOK = true then .inl () else .inr false) := by
    refine V9 v.Kids vOK (fun i => (i : Int)) () false ?_ ?_
    ·intro i x hx
     have hi : i < v.Kids.length := (List.getElem?_eq_some_iff.1 hx).1
     have hm := X2 (List.mem_of_getElem? hx)
     unfold a37
     simp only [Z1]
     rw [show decide ((i : Int) < (v.Kids.length : Int)) = true by simp; omega, k7 hx]
     simp only [cond_true, Option.bind_some]
     rw [hrec x (by omega), k9 i (by omega)]
     exact a13 _ _
    ·unfold a37
     simp
   have l2 : j7 (a32 v (X0 k)) (v.Entries.length + 1) 0 = some (if v.Entries.all eOK = true then .inl () else .inr false) := by
    refine V9 v.Entries eOK (fun i => (i : Int)) () false ?_ ?_
    ·intro i x hx
     have hi : i < v.Entries.length := (List.getElem?_eq_some_iff.1 hx).1
     have hm := a0h (List.mem_of_getElem? hx)
     have hbe := a0f x
     have hal := a1c x.Args
     unfold a32
     simp only [Z1, Y1]
     rw [show decide ((i : Int) < (v.Entries.length : Int)) = true by simp; omega, k7 hx]
     simp only [cond_true, Option.bind_some]
     have l3 : j7 (a34 (X0 k) x) (x.Args.length + 1) 0 = some (if x.Args.all vOK = true then .inl () else .inr false) := by
      refine V9 x.Args vOK (fun i => (i : Int)) () false ?_ ?_
      ·intro j y hy
       have hj : j < x.Args.length := (List.getElem?_eq_some_iff.1 hy).1
       have hmy := X2 (List.mem_of_getElem? hy)
       unfold a34
       simp only [Z1]
       rw [show decide ((j : Int) < (x.Args.length : Int)) = true by simp; omega, k7 hy]
       simp only [cond_true, Option.bind_some]
       rw [hrec y (by omega), k9 j (by omega)]
       exact a13 _ _
      ·unfold a34
       simp
     rw [l3, hrec x.Result (by omega), a9H, a2B, k9 i (by omega)]
     simp only [Option.bind_some]
     cases x.Args.all vOK <;> cases x.Fails <;> cases vOK x.Result <;> rfl
    ·unfold a32
     simp
   rw [l1, l2]
   cases a16 v <;> cases v.Kids.all vOK <;> cases v.Entries.all eOK <;> rfl
end Go.Pl
end
section
namespace Go.Pl
open Go Go.RowKit Go.Sx Go.Qx
def inR (N : Nat) (k : Int) : Bool := decide (0 <= k) && decide (k < (N : Int))
def a6W (N : Nat) (l : List Api_Field) : Bool := asc cK (l.map (·.Key_)) && (l.all (fun f => a0c f.Key_) && l.all fun f => inR N f.Node)
def a3W (N : Nat) (x : Api_TypeNode) : Bool :=
 if x.Kind = 3 then x.Kids.isEmpty && decide (x.Lo <= x.Hi) else if x.Kind = 4 then x.Kids.isEmpty && decide ((x.Text.size : Int) <= 64) else
 if x.Kind = 6 then x.Kids.isEmpty && a4v x.Text else if x.Kind = 19 then x.Kids.isEmpty && a6G x.Text else
 if x.Kind = 1 \/ x.Kind = 2 \/ x.Kind = 5 \/ x.Kind = 7 \/ x.Kind = 8 \/ x.Kind = 9 \/ x.Kind = 11 \/ x.Kind = 15 then x.Kids.isEmpty else
 if x.Kind = 10 then decide ((x.Kids.length : Int) <= 4) else if x.Kind = 12 then (x.Kids.length : Int) == 2 else
 if x.Kind = 14 then decide (1 <= (x.Kids.length : Int)) && decide ((x.Kids.length : Int) <= 5) else
 if x.Kind = 16 \/ x.Kind = 17 then decide (1 <= (x.Kids.length : Int)) else if x.Kind = 18 then (x.Kids.length : Int) == 1 else
 if x.Kind = 13 then a6W N x.Fields && (x.Kids.isEmpty && (inR N x.Rest.1 && inR N x.Rest.2)) else false
def a7g (r : Int × Int) : Bool := r.1 == 0 && r.2 == 0
def W7 (N : Nat) (x : Api_TypeNode) : Bool :=
 x.Kids.all (inR N) && ((x.Kind == 3 || (x.Lo == 0 && x.Hi == 0)) && ((x.Kind == 4 || x.Kind == 6 || x.Kind == 19 || Q7 x.Text ⟨#[]⟩) && ((x.Kind == 13 || (x.Fields.isEmpty && a7g x.Rest)) && a3W N x)))
theorem c2D {α : Type} (l : List α) : ((l.length : Int) == 0) = l.isEmpty := by cases l <;> simp <;> omega
theorem c2J (r : Int × Int) : b2w r (0, 0) = a7g r := by unfold b2w a7g; simp
theorem b0n (t : Api_Type) (k : Int) : V3 t k = some (inR t.Nodes.length k) := by
 unfold V3 inR
 cases decide (0 <= k) <;> rfl
theorem Z6 {i n : Nat} (h : i < n) : decide ((i : Int) < (n : Int)) = true := decide_eq_true (by omega)
theorem c8T (q : Api_Field -> Bool) (l : List Api_Field) : (List.range l.length).all (b4i (fun a b => cK a.Key_ b.Key_) q l) = (asc cK (l.map (·.Key_)) && l.all q) := by
 rw [c2X]
 congr 1
 rw [Bool.eq_iff_iff, b4X, b4X]
 constructor
 ·intro h i h1 hi
  have := h i h1 (by simpa using hi)
  simpa using this
 ·intro h i h1 hi
  have := h i h1 (by simpa using hi)
  simpa using this
theorem c3h {step : Int -> Option (Fl Int (Sum Unit Bool))} (q : Api_Field -> Bool) (l : List Api_Field)
 (hst : ∀ (i : Nat) (x : Api_Field), l[i]? = some x -> step (i : Int) = some (if b4i (fun a b => cK a.Key_ b.Key_) q l i = true then .next ((i + 1 : Nat) : Int) else .done (.inr false)))
 (hend : step (l.length : Int) = some (.done (.inl ()))) : j7 step (l.length + 1) 0 = some (if (asc cK (l.map (·.Key_)) && l.all q) = true then .inl () else .inr false) := by
 have := b7Q (step := step) (fun a b : Api_Field => cK a.Key_ b.Key_) q l false hst hend
 rw [<- c2X, c8T] at this
 exact this
theorem c3c (t : Api_Type) (x : Api_TypeNode) (hk : x.Kids.length <= 4194304) (hf : x.Fields.length <= 4194304) : a6m t x = some (W7 t.Nodes.length x) := by
 have l1 : j7 (a4D t x) (x.Kids.length + 1) 0 = some (if x.Kids.all (inR t.Nodes.length) = true then .inl () else .inr false) := by
  refine V9 x.Kids (inR t.Nodes.length) (fun i => (i : Int)) () false ?_ ?_
  ·intro i k hx
   have hi : i < x.Kids.length := (List.getElem?_eq_some_iff.1 hx).1
   unfold a4D
   rw [Z6 hi, k7 hx]
   simp only [cond_true, Option.bind_some, b0n, Z1]
   rw [k9 i (by omega)]
   exact a13 _ _
  ·unfold a4D
   simp
 have l2 : j7 (a4E t x) (x.Fields.length + 1) 0 = some (if (asc cK (x.Fields.map (·.Key_)) && x.Fields.all fun f => inR t.Nodes.length f.Node && a0c f.Key_) = true then .inl () else .inr false) := by
  refine c3h (fun f => inR t.Nodes.length f.Node && a0c f.Key_) x.Fields ?_ ?_
  ·intro i f hx
   have hi : i < x.Fields.length := (List.getElem?_eq_some_iff.1 hx).1
   unfold a4E
   rw [Z6 hi, k7 hx]
   simp only [cond_true, Option.bind_some, b0n, b5I, Z1, a0z]
   have hq : (Option.bind (bif !inR t.Nodes.length f.Node then some true else some (!a0c f.Key_)) fun q => some q) = some (!(inR t.Nodes.length f.Node && a0c f.Key_)) := by
    cases inR t.Nodes.length f.Node <;> cases a0c f.Key_ <;> rfl
   rw [a0z] at hq
   rw [hq]
   simp only [Option.bind_some]
   refine b4I (fun a b : Api_Field => cK a.Key_ b.Key_) (fun f => inR t.Nodes.length f.Node && a0c f.Key_) x.Fields i f hx (by omega) (fun h => by rw [h]; rfl) (fun h h0 => by subst h0; rw [h]; rfl) (fun h j y hj hy hiy => ?_)
   subst hj
   rw [h, hiy, c20]
   simp only [Bool.not_true, cond_false, cond_true, Option.bind_some, b0G]
   by_cases hc : cK y.Key_ f.Key_ < 0
   ·have : ¬ 0 <= cK y.Key_ f.Key_ := by omega
    simp [hc, this]
   ·have : 0 <= cK y.Key_ f.Key_ := by omega
    simp [hc, this]
  ·unfold a4E
   simp
 unfold a6m
 simp only [Y1, a0z, b0n, c2J, b4b, b9G, c2D, b7t]
 rw [l1, l2]
 unfold W7
 cases x.Kids.all (inR t.Nodes.length)
 ·rfl
 simp only [Option.bind_some, if_true, v7]
 have hF : (asc cK (x.Fields.map (·.Key_)) && x.Fields.all fun f => inR t.Nodes.length f.Node && a0c f.Key_) = a6W t.Nodes.length x.Fields := by
  unfold a6W
  congr 1
  rw [Bool.eq_iff_iff, Bool.and_eq_true, List.all_eq_true, List.all_eq_true, List.all_eq_true]
  simp only [Bool.and_eq_true]
  exact ⟨fun h => ⟨fun f hf => (h f hf).2, fun f hf => (h f hf).1⟩, fun h f hf => ⟨h.2 f hf, h.1 f hf⟩⟩
 rw [hF]
 unfold a3W
 simp only [bne]
 generalize a6W t.Nodes.length x.Fields = A
 generalize inR t.Nodes.length x.Rest.1 = B
 generalize inR t.Nodes.length x.Rest.2 = C
 generalize a7g x.Rest = D
 generalize x.Fields.isEmpty = E
 generalize Q7 x.Text ⟨#[]⟩ = G
 generalize (x.Lo == 0) = H
 generalize (x.Hi == 0) = J
 generalize x.Kids.isEmpty = M
 generalize a4v x.Text = O
 generalize a6G x.Text = Q
 generalize decide (x.Lo <= x.Hi) = R
 generalize decide ((x.Text.size : Int) <= 64) = T
 generalize decide ((x.Kids.length : Int) <= 4) = U
 generalize ((x.Kids.length : Int) == 2) = V
 generalize ((x.Kids.length : Int) == 1) = W
 generalize decide (1 <= (x.Kids.length : Int)) = X
 generalize decide ((x.Kids.length : Int) <= 5) = Y
 by_cases hk : x.Kind = 1 \/ x.Kind = 2 \/ x.Kind = 3 \/ x.Kind = 4 \/ x.Kind = 5 \/ x.Kind = 6 \/ x.Kind = 7 \/ x.Kind = 8 \/ x.Kind = 9 \/ x.Kind = 10 \/ x.Kind = 11 \/ x.Kind = 12 \/ x.Kind = 13 \/ x.Kind = 14 \/ x.Kind = 15 \/ x.Kind = 16 \/ x.Kind = 17 \/ x.Kind = 18 \/ x.Kind = 19
 ·rcases hk with h | h | h | h | h | h | h | h | h | h | h | h | h | h | h | h | h | h | h <;> rw [h] <;> cases G <;> cases H <;> cases J <;> cases E <;> cases D <;> simp
  all_goals first
   | rfl
   | (cases M <;> rfl)
   | (cases X <;> rfl)
   | (cases A <;> cases M <;> cases B <;> rfl)
 ·simp only [not_or] at hk
  obtain ⟨h1, h2, h3, h4, h5, h6, h7, h8, h9, h10, h11, h12, h13, h14, h15, h16, h17, h18, h19⟩ := hk
  have e : ∀ {n : Int}, ¬ x.Kind = n -> (x.Kind == n) = false := fun h => by simpa using h
  simp only [e h1, e h2, e h3, e h4, e h5, e h6, e h7, e h8, e h9, e h10, e h11, e h12, e h13, e h14, e h15, e h16, e h17, e h18, e h19, if_neg h3, if_neg h4, if_neg h6, if_neg h19, if_neg h10, if_neg h12, if_neg h14, if_neg h18, if_neg h13, h1, h2, h5, h7, h8, h9, h11, h15, h16, h17, or_self, if_false]
  cases G <;> cases H <;> cases J <;> cases E <;> cases D <;> rfl
end Go.Pl
namespace Go.Pl
open Go Go.RowKit Go.Sx Go.Qx
def b7M (x : Api_TypeNode) : Bool :=
 (x.Kind == 3 || (x.Lo == 0 && x.Hi == 0)) && ((x.Kind == 4 || x.Kind == 6 || x.Kind == 19 || Q7 x.Text ⟨#[]⟩) &&
   ((x.Kind == 10 || x.Kind == 12 || x.Kind == 14 || x.Kind == 16 || x.Kind == 17 || x.Kind == 18 || x.Kids.isEmpty) && (x.Kind == 13 || (x.Fields.isEmpty && a7g x.Rest))))
def b9F (l : List Api_Field) : Bool := asc cK (l.map (·.Key_)) && l.all fun f => a0c f.Key_
def b7c (x : Api_TypeNode) : Bool :=
 if x.Kind = 3 then decide (x.Lo <= x.Hi) else if x.Kind = 4 then decide ((x.Text.size : Int) <= 64) else
 if x.Kind = 6 then a4v x.Text else if x.Kind = 19 then a6G x.Text else
 if x.Kind = 1 \/ x.Kind = 2 \/ x.Kind = 5 \/ x.Kind = 7 \/ x.Kind = 8 \/ x.Kind = 9 \/ x.Kind = 11 \/ x.Kind = 15 then true else
 if x.Kind = 10 then decide ((x.Kids.length : Int) <= 4) else if x.Kind = 12 then (x.Kids.length : Int) == 2 else
 if x.Kind = 14 then decide (1 <= (x.Kids.length : Int)) && decide ((x.Kids.length : Int) <= 5) else
 if x.Kind = 16 \/ x.Kind = 17 then decide (1 <= (x.Kids.length : Int)) else if x.Kind = 18 then (x.Kids.length : Int) == 1 else
 if x.Kind = 13 then b9F x.Fields else false
def a6M (x : Api_TypeNode) : List Int := x.Kids ++ x.Fields.map (·.Node) ++ (if x.Kind = 13 then [x.Rest.1, x.Rest.2] else [])
theorem a9I (k : Int) : (k = 1 \/ k = 2 \/ k = 3 \/ k = 4 \/ k = 5 \/ k = 6 \/ k = 7 \/ k = 8 \/ k = 9 \/ k = 10 \/ k = 11 \/ k = 12 \/ k = 13 \/ k = 14 \/ k = 15 \/ k = 16 \/ k = 17 \/ k = 18 \/ k = 19) \/ ∀ n : Int, 1 <= n -> n <= 19 -> (k == n) = false := by
 by_cases h : 1 <= k /\ k <= 19
 ·left; omega
 ·right
  intro n h1 h2
  have : k ≠ n := by omega
  simpa using this
theorem c7G (x : Api_TypeNode) : a5h x = some (b7M x) := by
 unfold a5h b7M
 simp only [a0z, c2J, c2D]
 generalize a7g x.Rest = D
 generalize x.Fields.isEmpty = E
 generalize Q7 x.Text ⟨#[]⟩ = G
 generalize (x.Lo == 0) = H
 generalize (x.Hi == 0) = J
 generalize x.Kids.isEmpty = M
 rcases a9I x.Kind with h | h
 ·rcases h with h | h | h | h | h | h | h | h | h | h | h | h | h | h | h | h | h | h | h <;> rw [h] <;> cases G <;> cases H <;> cases J <;> cases E <;> cases D <;> cases M <;> rfl
 ·simp only [h 3 (by omega) (by omega), h 4 (by omega) (by omega), h 6 (by omega) (by omega), h 19 (by omega) (by omega), h 10 (by omega) (by omega), h 12 (by omega) (by omega), h 14 (by omega) (by omega), h 16 (by omega) (by omega), h 17 (by omega) (by omega), h 18 (by omega) (by omega), h 13 (by omega) (by omega)]
  cases G <;> cases H <;> cases J <;> cases E <;> cases D <;> cases M <;> rfl
theorem c5N (l : List Api_Field) (hl : l.length <= 4194304) : a4a l = some (b9F l) := by
 have l2 : j7 (a2P l) (l.length + 1) 0 = some (if (asc cK (l.map (·.Key_)) && l.all fun f => a0c f.Key_) = true then .inl () else .inr false) := by
  refine c3h (fun f => a0c f.Key_) l ?_ ?_
  ·intro i f hx
   have hi : i < l.length := (List.getElem?_eq_some_iff.1 hx).1
   unfold a2P
   rw [Z6 hi, k7 hx]
   simp only [cond_true, Option.bind_some, c5t, Z1, a0z]
   refine b4I (fun a b : Api_Field => cK a.Key_ b.Key_) (fun f => a0c f.Key_) l i f hx (by omega) (fun h => by rw [h]; rfl) (fun h h0 => by subst h0; rw [h]; rfl) (fun h j y hj hy hiy => ?_)
   subst hj
   rw [h, hiy, c20]
   simp only [Bool.not_true, cond_false, cond_true, Option.bind_some, b4A]
   by_cases hc : cK y.Key_ f.Key_ < 0
   ·have : ¬ 0 <= cK y.Key_ f.Key_ := by omega
    simp [hc, this]
   ·have : 0 <= cK y.Key_ f.Key_ := by omega
    simp [hc, this]
  ·unfold a2P
   simp
 unfold a4a b9F
 rw [Y1, l2]
 cases (asc cK (l.map (·.Key_)) && l.all fun f => a0c f.Key_) <;> rfl
theorem c7F (x : Api_TypeNode) (hf : x.Fields.length <= 4194304) : a5e x = some (b7c x) := by
 unfold a5e b7c
 simp only [a0z, c0P, c6z, c5N x.Fields hf]
 generalize b9F x.Fields = A
 generalize a4v x.Text = O
 generalize a6G x.Text = Q
 generalize decide (x.Lo <= x.Hi) = R
 generalize decide ((x.Text.size : Int) <= 64) = T
 generalize decide ((x.Kids.length : Int) <= 4) = U
 generalize ((x.Kids.length : Int) == 2) = V
 generalize ((x.Kids.length : Int) == 1) = W
 generalize decide (1 <= (x.Kids.length : Int)) = X
 generalize decide ((x.Kids.length : Int) <= 5) = Y
 rcases a9I x.Kind with h | h
 ·rcases h with h | h | h | h | h | h | h | h | h | h | h | h | h | h | h | h | h | h | h <;> rw [h] <;> first | rfl | (cases X <;> rfl)
 ·have e : ∀ n : Int, 1 <= n -> n <= 19 -> ¬ x.Kind = n := fun n h1 h2 => by simpa using h n h1 h2
  simp only [h 1 (by omega) (by omega), h 2 (by omega) (by omega), h 5 (by omega) (by omega), h 7 (by omega) (by omega), h 8 (by omega) (by omega), h 9 (by omega) (by omega), h 11 (by omega) (by omega), h 15 (by omega) (by omega), h 3 (by omega) (by omega), h 4 (by omega) (by omega), h 6 (by omega) (by omega), h 19 (by omega) (by omega), h 10 (by omega) (by omega), h 12 (by omega) (by omega), h 14 (by omega) (by omega), h 16 (by omega) (by omega), h 17 (by omega) (by omega), h 18 (by omega) (by omega), h 13 (by omega) (by omega),
   e 1 (by omega) (by omega), e 2 (by omega) (by omega), e 5 (by omega) (by omega), e 7 (by omega) (by omega), e 8 (by omega) (by omega), e 9 (by omega) (by omega), e 11 (by omega) (by omega), e 15 (by omega) (by omega), e 3 (by omega) (by omega), e 4 (by omega) (by omega), e 6 (by omega) (by omega), e 19 (by omega) (by omega), e 10 (by omega) (by omega), e 12 (by omega) (by omega), e 14 (by omega) (by omega), e 16 (by omega) (by omega), e 17 (by omega) (by omega), e 18 (by omega) (by omega), e 13 (by omega) (by omega), or_self, if_false]
  rfl
theorem c32 {α β : Type} (f : α -> β) : ∀ (l : List α) (s : List β), l.foldl (fun s x => s ++ [f x]) s = s ++ l.map f
 | [], s => by simp
 | x :: r, s => by rw [List.foldl_cons, c32 f r]; simp
theorem c7j (x : Api_TypeNode) (hk : x.Kids.length <= 1100000) (hf : x.Fields.length <= 1100000) : a7Q x = some (a6M x) := by
 unfold a7Q a2W a6M
 rw [Y0 (by omega)]
 simp only [Option.bind_some, Y1]
 have key := b00 (σ := List Int) (step := a2D x) x.Fields (fun s i => (s, (i : Int))) (fun s f => s ++ [f.Node]) (fun i s => s.length <= x.Kids.length + i) (fun s => s)
  ?_ ?_ x.Kids (by simp) _ (Nat.le_refl _)
 ·have e : j7 (a2D x) (x.Fields.length + 1) (x.Kids, 0) = j7 (a2D x) (x.Fields.length + 1) (x.Kids, ((0 : Nat) : Int)) := rfl
  rw [e, key, c32]
  simp only [Option.bind_some]
  by_cases h : x.Kind = 13
  ·rw [show (x.Kind == 13) = true by simpa using h, if_pos h, Y0 (by simp only [List.length_append, List.length_map, List.length_cons, List.length_nil]; omega)]
   rfl
  ·rw [show (x.Kind == 13) = false by simpa using h, if_neg h, List.append_nil]
   rfl
 ·intro i s f hx hI
  have hi : i < x.Fields.length := (List.getElem?_eq_some_iff.1 hx).1
  refine ⟨?_, by simp only [List.length_append, List.length_cons, List.length_nil]; omega⟩
  unfold a2D
  simp only [Z1]
  rw [Z6 hi, k7 hx]
  simp only [cond_true, Option.bind_some]
  rw [Y0 (by simp only [List.length_cons, List.length_nil]; omega), k9 i (by omega)]
  rfl
 ·intro s _
  unfold a2D
  simp
theorem c6p (N : Nat) (x : Api_TypeNode) : (b7M x && (b7c x && (a6M x).all (inR N))) = W7 N x := by
 unfold b7M b7c W7 a3W a6M a6W b9F
 simp only [List.all_append, List.all_map]
 have hE : x.Fields.isEmpty = true -> x.Fields = [] := List.isEmpty_iff.1
 have hM : x.Kids.isEmpty = true -> x.Kids = [] := List.isEmpty_iff.1
 rcases a9I x.Kind with h | h
 ·have hK : x.Kids.isEmpty = true -> x.Kids.all (inR N) = true := fun e => by rw [hM e]; rfl
  have hF : x.Fields.isEmpty = true -> (x.Fields.all (inR N ∘ fun f => f.Node)) = true := fun e => by rw [hE e]; rfl
  have hcomp : (x.Fields.all fun f => inR N f.Node) = x.Fields.all (inR N ∘ fun f => f.Node) := rfl
  rw [hcomp]
  generalize x.Fields.all (inR N ∘ fun f => f.Node) = a1 at hF
  generalize x.Kids.all (inR N) = a2 at hK
  generalize x.Fields.isEmpty = E at hF
  generalize x.Kids.isEmpty = M at hK
  generalize a7g x.Rest = D
  generalize Q7 x.Text ⟨#[]⟩ = G
  generalize (x.Lo == 0) = H
  generalize (x.Hi == 0) = J
  rcases h with h | h | h | h | h | h | h | h | h | h | h | h | h | h | h | h | h | h | h <;> rw [h] <;> simp <;>
   cases G <;> cases H <;> cases J <;> cases E <;> cases D <;> cases M <;> simp_all
  all_goals first
   | (simp only [Bool.and_assoc]; done)
   | (cases a2 <;> simp; done)
 ·have e : ∀ n : Int, 1 <= n -> n <= 19 -> ¬ x.Kind = n := fun n h1 h2 => by simpa using h n h1 h2
  simp only [e 1 (by omega) (by omega), e 2 (by omega) (by omega), e 5 (by omega) (by omega), e 7 (by omega) (by omega), e 8 (by omega) (by omega), e 9 (by omega) (by omega), e 11 (by omega) (by omega), e 15 (by omega) (by omega), e 3 (by omega) (by omega), e 4 (by omega) (by omega), e 6 (by omega) (by omega), e 19 (by omega) (by omega), e 10 (by omega) (by omega), e 12 (by omega) (by omega), e 14 (by omega) (by omega), e 16 (by omega) (by omega), e 17 (by omega) (by omega), e 18 (by omega) (by omega), e 13 (by omega) (by omega), or_self, if_false]
  simp
end Go.Pl
namespace Go.Pl
open Go Go.RowKit Go.Sx Go.Qx
def isB (x : Api_TypeNode) : Bool := x.Kind == 16 || x.Kind == 17 || x.Kind == 18
def c2S (ns : List Api_TypeNode) : Prop := ∀ (i : Nat) (x : Api_TypeNode), ns[i]? = some x -> isB x = true -> ∀ k ∈ x.Kids, (i : Int) < k
def a7A (ns : List Api_TypeNode) : Bool := ns.all (W7 ns.length)
theorem c90 (x : Api_TypeNode) : a49 x.Kind = some (isB x) := by
 unfold a49 isB
 cases (x.Kind == 16) <;> cases (x.Kind == 17) <;> rfl
theorem c0x (x : Api_TypeNode) : a4N x = some (isB x) := by
 unfold a4N isB
 cases (x.Kind == 16) <;> cases (x.Kind == 17) <;> rfl
theorem a2x {N : Nat} {x : Api_TypeNode} (h : W7 N x = true) : ∀ k ∈ x.Kids, inR N k = true := by
 unfold W7 at h
 simp only [Bool.and_eq_true] at h
 exact List.all_eq_true.1 h.1
theorem a2e {N : Nat} {k : Int} (h : inR N k = true) : ∃ j : Nat, k = (j : Int) /\ j < N := by
 unfold inR at h
 simp only [Bool.and_eq_true, decide_eq_true_eq] at h
 exact ⟨k.toNat, by omega, by omega⟩
def Rk (ns : List Api_TypeNode) (r : Nat -> Nat) : Prop := ∀ (i : Nat) (x : Api_TypeNode), ns[i]? = some x -> isB x = true -> ∀ k ∈ x.Kids, r k.toNat < r i
def Acy (ns : List Api_TypeNode) : Prop := ∃ r, Rk ns r
open Classical in
noncomputable def a7l (ns : List Api_TypeNode) : Bool := decide (Acy ns)
theorem b2I {ns : List Api_TypeNode} : a7l ns = true ↔ Acy ns := by
 unfold a7l
 classical exact decide_eq_true_iff
theorem c2S.acy {ns : List Api_TypeNode} (h : c2S ns) (hT : a7A ns = true) : a7l ns = true :=
 b2I.2 ⟨fun i => ns.length - i, fun i x hx hb k hk => by
  obtain ⟨j, rfl, hj⟩ := a2e (a2x (List.all_eq_true.1 hT x (List.mem_of_getElem? hx)) k hk)
  have := h i x hx hb _ hk
  show ns.length - ((j : Int)).toNat < ns.length - i
  rw [Int.toNat_natCast]
  omega⟩
def Gd (ns : List Api_TypeNode) (D : Nat -> Prop) : Prop := ∃ r : Nat -> Nat, ∀ (i : Nat) (x : Api_TypeNode), D i -> ns[i]? = some x -> isB x = true -> ∀ k ∈ x.Kids, D k.toNat /\ r k.toNat < r i
theorem c4b (r : Nat -> Nat) : ∀ (l : List Int) (k : Int), k ∈ l -> r k.toNat <= (l.map fun k => r k.toNat).sum
 | [], _, h => by cases h
 | y :: l, k, h => by
   rw [List.map_cons, List.sum_cons]
   rcases List.mem_cons.1 h with rfl | h
   ·omega
   ·have := c4b r l k h; omega
theorem Gd.add {ns : List Api_TypeNode} {D D' : Nat -> Prop} (h : Gd ns D) {i : Nat} {x : Api_TypeNode} (hx : ns[i]? = some x) (hk : isB x = true -> ∀ k ∈ x.Kids, D k.toNat) (hD : ∀ j, D' j ↔ D j \/ j = i) : Gd ns D' := by
 obtain ⟨r, hr⟩ := h
 by_cases hi : D i
 ·have e : ∀ j, D' j ↔ D j := fun j => (hD j).trans ⟨fun h => h.elim id (fun h => by rw [h]; exact hi), .inl⟩
  exact ⟨r, fun j y h1 h2 h3 k h4 => by
   obtain ⟨k1, k2⟩ := hr j y ((e j).1 h1) h2 h3 k h4
   exact ⟨(e _).2 k1, k2⟩⟩
 ·refine ⟨fun j => if j = i then 1 + (x.Kids.map fun k => r k.toNat).sum else r j, fun j y h1 h2 h3 k h4 => ?_⟩
  by_cases hj : j = i
  ·subst hj
   rw [hx] at h2
   cases h2
   have hDk := hk h3 k h4
   have hne : k.toNat ≠ j := fun e => hi (e ▸ hDk)
   refine ⟨(hD _).2 (.inl hDk), ?_⟩
   simp only [if_neg hne, if_true]
   have := c4b r x.Kids k h4
   omega
  ·obtain ⟨k1, k2⟩ := hr j y (((hD j).1 h1).resolve_right hj) h2 h3 k h4
   have hne : k.toNat ≠ i := fun e => hi (e ▸ k1)
   refine ⟨(hD _).2 (.inl k1), ?_⟩
   simp only [if_neg hne, if_neg hj]
   exact k2
theorem Gd.acy {ns : List Api_TypeNode} {D : Nat -> Prop} (h : Gd ns D) (hD : ∀ j, j < ns.length -> D j) : Acy ns := by
 obtain ⟨r, hr⟩ := h
 exact ⟨r, fun i x hx hb k hk => (hr i x (hD i (List.getElem?_eq_some_iff.1 hx).1) hx hb k hk).2⟩
theorem Acy.small {ns : List Api_TypeNode} (h : Acy ns) (hT : a7A ns = true) : ∃ r, Rk ns r /\ ∀ i, i < ns.length -> r i < ns.length := by
 obtain ⟨r, hr⟩ := h
 have mono : ∀ (l : List Nat) (a b : Nat), a <= b -> (l.countP fun j => decide (j < a)) <= l.countP fun j => decide (j < b) := fun l a b hab =>
  List.countP_mono_left fun x _ hx => by simp at hx ⊢; omega
 have strict : ∀ (l : List Nat) (a b : Nat), a < b -> a ∈ l -> (l.countP fun j => decide (j < a)) < l.countP fun j => decide (j < b) := by
  intro l
  induction l with
  | nil => intro a b _ h; cases h
  | cons y l ih =>
    intro a b hab hm
    rw [List.countP_cons, List.countP_cons]
    rcases List.mem_cons.1 hm with rfl | hm
    ·have := mono l a b (by omega)
     simp only [Nat.lt_irrefl, decide_false, hab, decide_true, if_true]
     simp
     omega
    ·have h1 := ih a b hab hm
     by_cases h2 : y < a
     ·simp only [h2, show y < b by omega, decide_true, if_true]; omega
     ·simp only [h2, decide_false]
      by_cases h3 : y < b <;> simp [h3] <;> omega
 have hlt : ∀ (l : List Nat) (a : Nat), a ∈ l -> (l.countP fun j => decide (j < a)) < l.length := fun l a hm => by
  have h1 := strict l a (a + 1) (by omega) hm
  have h2 : (l.countP fun j => decide (j < a + 1)) <= l.length := List.countP_le_length
  omega
 refine ⟨fun i => ((List.range ns.length).map r).countP fun j => decide (j < r i), fun i x hx hb k hk => ?_, fun i hi => ?_⟩
 ·obtain ⟨j, rfl, hj⟩ := a2e (a2x (List.all_eq_true.1 hT x (List.mem_of_getElem? hx)) k hk)
  exact strict _ _ _ (hr i x hx hb _ hk) (List.mem_map.2 ⟨j, by simpa using hj, by simp⟩)
 ·have := hlt ((List.range ns.length).map r) (r i) (List.mem_map.2 ⟨i, by simpa using hi, rfl⟩)
  simpa using this
def DF (ns : List Api_TypeNode) (st : List Int) (j : Nat) : Prop := st[j]? = some 2 \/ ∃ x, ns[j]? = some x /\ isB x = false
theorem c30 : ∀ (l : List Int) (i : Nat), l[i]? = some 0 -> (l.set i 1).count 0 + 1 = l.count 0
 | [], i, h => by simp at h
 | x :: l, 0, h => by
   have : x = 0 := by simpa using h
   subst this
   simp
 | x :: l, i + 1, h => by
   have := c30 l i (by simpa using h)
   rw [List.set_cons_succ, List.count_cons, List.count_cons]
   omega
theorem c6d : ∀ (l : List Int) (i : Nat), (l.set i 2).count 0 <= l.count 0
 | [], i => by simp
 | x :: l, 0 => by
   rw [List.set_cons_zero, List.count_cons, List.count_cons]
   simp
 | x :: l, i + 1 => by
   have := c6d l i
   rw [List.set_cons_succ, List.count_cons, List.count_cons]
   omega
structure DfsR (ns : List Api_TypeNode) (st st' : List Int) : Prop where
 len : st'.length = ns.length
 val : ∀ (j : Nat) e, st'[j]? = some e -> e = 0 \/ e = 1 \/ e = 2
 gd : Gd ns (DF ns st')
 opn : ∀ j : Nat, st'[j]? = some 1 ↔ st[j]? = some 1
 don : ∀ j : Nat, st[j]? = some 2 -> st'[j]? = some 2
 zer : st'.count 0 <= st.count 0
theorem c9i (t : Api_Type) (hT : a7A t.Nodes = true) (hk : ∀ x ∈ t.Nodes, x.Kids.length <= 1100000) :
 ∀ (fuel i : Nat) (st : List Int), st.count 0 < fuel -> i < t.Nodes.length -> DfsR t.Nodes st st ->
  ∃ b st', Q5 fuel (i : Int) st t () = some (b, st') /\ (b = true -> DfsR t.Nodes st st' /\ DF t.Nodes st' i) /\ (b = false -> ∀ r, Rk t.Nodes r -> (∀ o : Nat, st[o]? = some 1 -> r i < r o) -> False) := by
 intro fuel
 induction fuel with
 | zero => intro i st h1; omega
 | succ f ih =>
   intro i st h1 h2 hS
   show ∃ b st', a4z f (Q5 f) (i : Int) st t () = some (b, st') /\ _
   have h3 := hS.len
   have hi : i < st.length := by omega
   have hst := List.getElem?_eq_getElem hi
   have hn := List.getElem?_eq_getElem h2
   generalize st[i] = e at hst
   generalize hx : t.Nodes[i] = x at hn
   have hxm : x ∈ t.Nodes := List.mem_of_getElem? hn
   unfold a4z
   simp only [k7 hst, k7 hn, Int.toNat_natCast, hst, Option.bind_some, c90, Y1, Z1]
   by_cases hq : e = 0 /\ isB x = true
   ·obtain ⟨he, hb⟩ := hq
    subst he
    rw [hb]
    simp only [bne_self_eq_false, cond_false, Bool.not_true, Option.bind_some]
    have hke := hk x hxm
    have hz := c30 st i hst
    have hset : ∀ j : Nat, (st.set i 1)[j]? = some 1 ↔ st[j]? = some 1 \/ j = i := fun j => by
     by_cases e : i = j
     ·subst e; rw [List.getElem?_set_self hi]; simp
     ·rw [List.getElem?_set_ne e]; exact ⟨.inl, fun h => h.resolve_right (Ne.symm e)⟩
    have hset2 : ∀ j : Nat, (st.set i 1)[j]? = some 2 ↔ st[j]? = some 2 := fun j => by
     by_cases e : i = j
     ·subst e; rw [List.getElem?_set_self hi, hst]; simp
     ·rw [List.getElem?_set_ne e]
    have hS1 : DfsR t.Nodes (st.set i 1) (st.set i 1) := by
     refine ⟨by simpa using h3, fun j e hj => ?_, ?_, fun _ => Iff.rfl, fun _ h => h, Nat.le_refl _⟩
     ·by_cases e1 : i = j
      ·subst e1; rw [List.getElem?_set_self hi] at hj; simp at hj; omega
      ·rw [List.getElem?_set_ne e1] at hj; exact hS.val j e hj
     ·have e : ∀ j, DF t.Nodes (st.set i 1) j ↔ DF t.Nodes st j := fun j => or_congr (hset2 j) Iff.rfl
      obtain ⟨r, hr⟩ := hS.gd
      exact ⟨r, fun j y a1 a2 a3 k a4 => by
       obtain ⟨k1, k2⟩ := hr j y ((e j).1 a1) a2 a3 k a4
       exact ⟨(e _).2 k1, k2⟩⟩
    have key : ∀ (m a k : Nat) (s : List Int), a + m = x.Kids.length -> m + 1 <= k -> DfsR t.Nodes (st.set i 1) s -> (∀ (q : Nat) (y : Int), q < a -> x.Kids[q]? = some y -> DF t.Nodes s y.toNat) ->
     (∃ s', j7 (Q1 t x (Q5 f)) k ((a : Int), s) = some (.inl s') /\ DfsR t.Nodes (st.set i 1) s' /\ ∀ y ∈ x.Kids, DF t.Nodes s' y.toNat) \/
     ∃ s', j7 (Q1 t x (Q5 f)) k ((a : Int), s) = some (.inr (false, s')) /\ ∀ r, Rk t.Nodes r -> (∀ o : Nat, st[o]? = some 1 -> r i < r o) -> False := by
     intro m
     induction m with
     | zero =>
       intro a k s b1 b2 b3 b4
       obtain ⟨k, rfl⟩ : ∃ m, k = m + 1 := ⟨k - 1, by omega⟩
       have e : a = x.Kids.length := by omega
       subst e
       have : Q1 t x (Q5 f) ((x.Kids.length : Int), s) = some (.done (.inl s)) := by
        unfold Q1
        simp
       exact .inl ⟨s, by simp only [j7, this, Option.bind_some], b3, fun y hy => by
        obtain ⟨q, hq, e⟩ := List.getElem_of_mem hy
        exact b4 q y hq (by rw [List.getElem?_eq_getElem hq, e])⟩
     | succ m ihm =>
       intro a k s b1 b2 b3 b4
       obtain ⟨k, rfl⟩ : ∃ m, k = m + 1 := ⟨k - 1, by omega⟩
       have ha : a < x.Kids.length := by omega
       have hka := List.getElem?_eq_getElem ha
       have hkm := List.getElem_mem ha
       obtain ⟨j, hj1, hj3⟩ := a2e (a2x (List.all_eq_true.1 hT x hxm) _ hkm)
       obtain ⟨b, s', c1, c2, c3⟩ := ih j s (by have := b3.zer; omega) hj3 ⟨b3.len, b3.val, b3.gd, fun _ => Iff.rfl, fun _ h => h, Nat.le_refl _⟩
       cases b with
       | true =>
         obtain ⟨c4, c5⟩ := c2 rfl
         have : Q1 t x (Q5 f) ((a : Int), s) = some (.next (((a + 1 : Nat) : Int), s')) := by
          unfold Q1
          rw [Z6 ha, k7 hka, hj1]
          simp only [cond_true, Option.bind_some, Z1]
          rw [c1, k9 a (by omega)]
          rfl
         simp only [j7, this, Option.bind_some]
         refine ihm (a + 1) k s' (by omega) (by omega) ⟨c4.len, c4.val, c4.gd, fun q => (c4.opn q).trans (b3.opn q), fun q hq => c4.don q (b3.don q hq), Nat.le_trans c4.zer b3.zer⟩ (fun q y hq hy => ?_)
         by_cases hqa : q = a
         ·subst hqa
          rw [hka] at hy
          cases hy
          rw [hj1, Int.toNat_natCast]
          exact c5
         ·exact (b4 q y (by omega) hy).imp (fun h => c4.don _ h) id
       | false =>
         have : Q1 t x (Q5 f) ((a : Int), s) = some (.done (.inr (false, s'))) := by
          unfold Q1
          rw [Z6 ha, k7 hka, hj1]
          simp only [cond_true, Option.bind_some, Z1]
          rw [c1]
          rfl
         refine .inr ⟨s', by simp only [j7, this, Option.bind_some], fun r hr ho => c3 rfl r hr fun o hopn => ?_⟩
         have hrk : r j < r i := by
          have := hr i x hn hb _ hkm
          rwa [hj1, Int.toNat_natCast] at this
         rcases (hset o).1 ((b3.opn o).1 hopn) with h | rfl
         ·exact Nat.lt_trans hrk (ho o h)
         ·exact hrk
    have e0 : j7 (Q1 t x (Q5 f)) (x.Kids.length + 1) (0, st.set i 1) = j7 (Q1 t x (Q5 f)) (x.Kids.length + 1) (((0 : Nat) : Int), st.set i 1) := rfl
    rw [e0]
    rcases key x.Kids.length 0 (x.Kids.length + 1) (st.set i 1) (by omega) (Nat.le_refl _) hS1 (fun q y hq => by omega) with ⟨s', c1, c2, c3⟩ | ⟨s', c1, c2⟩
    ·rw [c1]
     have hi' : i < s'.length := by rw [c2.len]; exact h2
     have hs' := List.getElem?_eq_getElem hi'
     have hs1 : s'[i]? = some 1 := (c2.opn i).2 ((hset i).2 (.inr rfl))
     simp only [Option.bind_some, v7, k7 hs', hs']
     refine ⟨true, s'.set i 2, rfl, fun _ => ⟨⟨by simpa using c2.len, fun j e hj => ?_, ?_, fun j => ?_, fun j hj => ?_, ?_⟩, .inl (List.getElem?_set_self hi')⟩, fun h => by cases h⟩
     ·by_cases e1 : i = j
      ·subst e1; rw [List.getElem?_set_self hi'] at hj; simp at hj; omega
      ·rw [List.getElem?_set_ne e1] at hj; exact c2.val j e hj
     ·refine Gd.add c2.gd hn (fun _ => c3) fun j => ?_
      unfold DF
      by_cases e1 : i = j
      ·subst e1; rw [List.getElem?_set_self hi']; simp
      ·rw [List.getElem?_set_ne e1]; exact ⟨.inl, fun h => h.resolve_right (Ne.symm e1)⟩
     ·by_cases e1 : i = j
      ·subst e1; rw [List.getElem?_set_self hi', hst]; simp
      ·rw [List.getElem?_set_ne e1]
       exact (c2.opn j).trans ((hset j).trans ⟨fun h => h.resolve_right (Ne.symm e1), .inl⟩)
     ·have h2' := c2.don j ((hset2 j).2 hj)
      by_cases e1 : i = j
      ·subst e1; rw [List.getElem?_set_self hi']
      ·rw [List.getElem?_set_ne e1]; exact h2'
     ·have a1 := c6d s' i
      have a2 := c2.zer
      omega
    ·rw [c1]
     exact ⟨false, s', rfl, (fun h => by cases h), fun _ => c2⟩
   ·by_cases he1 : e = 1
    ·subst he1
     exact ⟨false, st, by cases isB x <;> rfl, (fun h => by cases h), fun _ r _ ho => Nat.lt_irrefl _ (ho i hst)⟩
    ·refine ⟨true, st, ?_, fun _ => ⟨hS, ?_⟩, fun h => by cases h⟩
     ·by_cases he : e = 0
      ·subst he
       have hb : isB x = false := by
        cases hb : isB x with
        | true => exact absurd ⟨rfl, hb⟩ hq
        | false => rfl
       rw [hb]
       rfl
      ·have e2 : (e != 0) = true := by simpa using he
       have e3 : (e != 1) = true := by simpa using he1
       rw [e2, e3]
       rfl
     ·rcases hS.val i e hst with rfl | rfl | rfl
      ·right
       refine ⟨x, hn, ?_⟩
       cases hb : isB x with
       | true => exact absurd ⟨rfl, hb⟩ hq
       | false => rfl
      ·exact absurd rfl he1
      ·exact .inl hst
theorem c7p (t : Api_Type) (hT : a7A t.Nodes = true) (hk : ∀ x ∈ t.Nodes, x.Kids.length <= 1100000) (hN : t.Nodes.length <= 1100000) (fuel : Nat) (hf : t.Nodes.length + 1 <= fuel) : a3X fuel t = some (a7l t.Nodes) := by
 unfold a3X a8H
 have e0 : (decide (0 <= (t.Nodes.length : Int)) && decide ((t.Nodes.length : Int) <= (t.Nodes.length : Int)) && decide ((t.Nodes.length : Int) * ((8 : Nat) : Int) <= 140737488355328)) = true := by
  simp; omega
 rw [e0]
 simp only [cond_true, Option.bind_some, Y1]
 have key : ∀ (m a k : Nat) (s : List Int), a + m = t.Nodes.length -> m + 1 <= k -> DfsR t.Nodes s s -> (∀ j : Nat, s[j]? ≠ some 1) -> (∀ j, j < a -> DF t.Nodes s j) ->
  (∃ s', j7 (J1 t fuel) k ((a : Int), s) = some (.inl s') /\ a7l t.Nodes = true) \/ ∃ s', j7 (J1 t fuel) k ((a : Int), s) = some (.inr (false, s')) /\ a7l t.Nodes = false := by
  intro m
  induction m with
  | zero =>
    intro a k s b1 b2 b3 b4 b5
    obtain ⟨k, rfl⟩ : ∃ m, k = m + 1 := ⟨k - 1, by omega⟩
    have e : a = t.Nodes.length := by omega
    subst e
    have : J1 t fuel ((t.Nodes.length : Int), s) = some (.done (.inl s)) := by
     unfold J1
     simp
    exact .inl ⟨s, by simp only [j7, this, Option.bind_some], b2I.2 (b3.gd.acy b5)⟩
  | succ m ih =>
    intro a k s b1 b2 b3 b4 b5
    obtain ⟨k, rfl⟩ : ∃ m, k = m + 1 := ⟨k - 1, by omega⟩
    have hz : s.count 0 <= t.Nodes.length := by rw [<- b3.len]; exact List.count_le_length
    obtain ⟨b, s', c1, c2, c3⟩ := c9i t hT hk fuel a s (by omega) (by omega) b3
    cases b with
    | true =>
      obtain ⟨c4, c5⟩ := c2 rfl
      have : J1 t fuel ((a : Int), s) = some (.next (((a + 1 : Nat) : Int), s')) := by
       unfold J1
       rw [Z6 (show a < t.Nodes.length by omega)]
       simp only [cond_true, Option.bind_some, Z1]
       rw [c1, k9 a (by omega)]
       rfl
      simp only [j7, this, Option.bind_some]
      refine ih (a + 1) k s' (by omega) (by omega) ⟨c4.len, c4.val, c4.gd, fun _ => Iff.rfl, fun _ h => h, Nat.le_refl _⟩ (fun j h => b4 j ((c4.opn j).1 h)) (fun j hj => ?_)
      by_cases h : j = a
      ·rw [h]; exact c5
      ·exact (b5 j (by omega)).imp (fun h => c4.don _ h) id
    | false =>
      have : J1 t fuel ((a : Int), s) = some (.done (.inr (false, s'))) := by
       unfold J1
       rw [Z6 (show a < t.Nodes.length by omega)]
       simp only [cond_true, Option.bind_some, Z1]
       rw [c1]
       rfl
      refine .inr ⟨s', by simp only [j7, this, Option.bind_some], ?_⟩
      cases hA : a7l t.Nodes with
      | false => rfl
      | true =>
        obtain ⟨r, hr⟩ := b2I.1 hA
        exact (c3 rfl r hr fun o ho => absurd ho (b4 o)).elim
 have hrep : ∀ (j : Nat) (e : Int), (List.replicate t.Nodes.length (0 : Int))[j]? = some e -> e = 0 := fun j e h => by
  rw [List.getElem?_replicate] at h
  split at h
  ·simpa using h.symm
  ·cases h
 have hS : DfsR t.Nodes (List.replicate t.Nodes.length (0 : Int)) (List.replicate t.Nodes.length (0 : Int)) :=
  ⟨by simp, fun j e h => .inl (hrep j e h), ⟨fun _ => 0, fun i x hi hx hb => by
   rcases hi with hi | ⟨y, hy, hyb⟩
   ·have := hrep i 2 hi; omega
   ·rw [hx] at hy; cases hy; rw [hb] at hyb; cases hyb⟩, fun _ => Iff.rfl, fun _ h => h, Nat.le_refl _⟩
 have e' : ∀ s, j7 (J1 t fuel) (t.Nodes.length + 1) (0, s) = j7 (J1 t fuel) (t.Nodes.length + 1) (((0 : Nat) : Int), s) := fun _ => rfl
 rw [e']
 rcases key t.Nodes.length 0 (t.Nodes.length + 1) (List.replicate t.Nodes.length (0 : Int)) (by omega) (Nat.le_refl _) hS (fun j h => by have := hrep j 1 h; omega) (fun j hj => by omega) with ⟨s', e, hA⟩ | ⟨s', e, hA⟩
 ·rw [e, hA]; rfl
 ·rw [e, hA]; rfl
theorem c99 (t : Api_Type) (hk : ∀ x ∈ t.Nodes, x.Kids.length <= 1100000 /\ x.Fields.length <= 1100000) (hN : t.Nodes.length <= 1100000) (fuel : Nat) (hf : t.Nodes.length + 1 <= fuel) : a0i fuel t = some (if inR t.Nodes.length t.Root && a7A t.Nodes then (if a7l t.Nodes then 0 else 3) else 1) := by
 have l2 : j7 (a3e t) (t.Nodes.length + 1) 0 = some (if t.Nodes.all (W7 t.Nodes.length) = true then .inl () else .inr 1) := by
  refine V9 t.Nodes (W7 t.Nodes.length) (fun i => (i : Int)) () 1 ?_ ?_
  ·intro i x hx
   have hi : i < t.Nodes.length := (List.getElem?_eq_some_iff.1 hx).1
   obtain ⟨hk1, hk2⟩ := hk x (List.mem_of_getElem? hx)
   unfold a3e
   rw [Z6 hi, k7 hx]
   simp only [cond_true, Option.bind_some, c7G, c7F x (by omega), Z1, Y1]
   rw [<- c6p, k9 i (by omega)]
   cases b7M x
   ·rfl
   cases b7c x
   ·rfl
   simp only [Bool.not_true, cond_false, Option.bind_some, Bool.true_and]
   rw [c7j x hk1 hk2]
   simp only [Option.bind_some]
   have he : (a6M x).length <= 4194304 := by
    unfold a6M
    simp only [List.length_append, List.length_map]
    split <;> simp <;> omega
   have l1 : j7 (a3j t (a6M x)) ((a6M x).length + 1) 0 = some (if (a6M x).all (inR t.Nodes.length) = true then .inl () else .inr 1) := by
    refine V9 (a6M x) (inR t.Nodes.length) (fun i => (i : Int)) () 1 ?_ ?_
    ·intro j y hy
     have hj : j < (a6M x).length := (List.getElem?_eq_some_iff.1 hy).1
     unfold a3j
     rw [Z6 hj, k7 hy]
     simp only [cond_true, Option.bind_some, Z1]
     rw [k9 j (by omega)]
     unfold inR
     by_cases h1 : y < 0
     ·have a1 : decide (y < 0) = true := by simpa using h1
      have a2 : decide (0 <= y) = false := by simp; omega
      rw [a1, a2]; rfl
     ·have a1 : decide (y < 0) = false := by simpa using h1
      have a2 : decide (0 <= y) = true := by simp; omega
      rw [a1, a2]
      by_cases h2 : y < (t.Nodes.length : Int)
      ·have a3 : decide ((t.Nodes.length : Int) <= y) = false := by simp; omega
       have a4 : decide (y < (t.Nodes.length : Int)) = true := by simpa using h2
       rw [a3, a4]; rfl
      ·have a3 : decide ((t.Nodes.length : Int) <= y) = true := by simp; omega
       have a4 : decide (y < (t.Nodes.length : Int)) = false := by simpa using h2
       rw [a3, a4]; rfl
    ·unfold a3j
     simp
   rw [l1]
   cases (a6M x).all (inR t.Nodes.length) <;> rfl
  ·unfold a3e
   simp
 unfold a0i
 rw [Y1, l2]
 have hq : (Option.bind (bif decide (t.Root < 0) then some true else some (decide ((t.Nodes.length : Int) <= t.Root))) fun q => some q) = some (!inR t.Nodes.length t.Root) := by
  unfold inR
  by_cases h1 : t.Root < 0
  ·have a1 : decide (t.Root < 0) = true := by simpa using h1
   have a2 : decide (0 <= t.Root) = false := by simp; omega
   rw [a1, a2]; rfl
  ·have a1 : decide (t.Root < 0) = false := by simpa using h1
   have a2 : decide (0 <= t.Root) = true := by simp; omega
   rw [a1, a2]
   by_cases h2 : t.Root < (t.Nodes.length : Int)
   ·have a3 : decide ((t.Nodes.length : Int) <= t.Root) = false := by simp; omega
    have a4 : decide (t.Root < (t.Nodes.length : Int)) = true := by simpa using h2
    rw [a3, a4]; rfl
   ·have a3 : decide ((t.Nodes.length : Int) <= t.Root) = true := by simp; omega
    have a4 : decide (t.Root < (t.Nodes.length : Int)) = false := by simpa using h2
    rw [a3, a4]; rfl
 rw [a0z] at hq
 rw [hq]
 simp only [Option.bind_some]
 cases inR t.Nodes.length t.Root
 ·rfl
 show _ = some (if a7A t.Nodes = true then (if a7l t.Nodes then (0 : Int) else 3) else 1)
 cases hA : a7A t.Nodes with
 | true =>
   have hA' : t.Nodes.all (W7 t.Nodes.length) = true := hA
   rw [hA']
   simp only [Bool.not_true, cond_false, if_true, Option.bind_some, v7]
   rw [c7p t hA (fun x hx => (hk x hx).1) hN fuel hf]
   cases a7l t.Nodes <;> rfl
 | false =>
   have hA' : t.Nodes.all (W7 t.Nodes.length) = false := hA
   rw [hA']
   rfl
theorem d0t (t : Api_Type) (hO : c2S t.Nodes) (hk : ∀ x ∈ t.Nodes, x.Kids.length <= 1100000 /\ x.Fields.length <= 1100000) (hN : t.Nodes.length <= 1100000) (fuel : Nat) (hf : t.Nodes.length + 1 <= fuel) : a0i fuel t = some (if inR t.Nodes.length t.Root && a7A t.Nodes then 0 else 1) := by
 rw [c99 t hk hN fuel hf]
 cases hA : a7A t.Nodes with
 | false => rw [Bool.and_false]; rfl
 | true => rw [hO.acy hA]; rfl
end Go.Pl
namespace Go.Pl
open Go Go.RowKit Go.Sx Go.Qx
theorem c8S (t : Api_Type) (D : List Bool) (i fuel : Nat) (x : Api_TypeNode) (hx : t.Nodes[i]? = some x) (hD : D.length = t.Nodes.length) (hT : a7A t.Nodes = true) (hk : x.Kids.length <= 1100000) (hf : x.Kids.length + 1 <= fuel) :
 ∃ A, j7 (J9 t (D, (i : Int))) fuel (D, true, 0) = some (D, A) /\ ((isB x = true -> ∀ k ∈ x.Kids, D[k.toNat]? = some true) ↔ A = true) := by
 have hxm : x ∈ t.Nodes := List.mem_of_getElem? hx
 have hkr := a2x (List.all_eq_true.1 hT x hxm)
 have hix := k7 hx
 cases hb : isB x with
 | false =>
   obtain ⟨k, rfl⟩ : ∃ m, fuel = m + 1 := ⟨fuel - 1, by omega⟩
   have : J9 t (D, (i : Int)) (D, true, 0) = some (.done (D, true)) := by
    unfold J9
    simp only [hix, Option.bind_some, c0x, hb]
    rfl
   exact ⟨true, by simp only [j7, this, Option.bind_some], fun _ => rfl, fun _ h => by cases h⟩
 | true =>
   have key : ∀ (m a k : Nat) (A : Bool), a + m = x.Kids.length -> m + 1 <= k ->
    ∃ A', j7 (J9 t (D, (i : Int))) k (D, A, (a : Int)) = some (D, A') /\ ((A = true /\ ∀ (q : Nat) (y : Int), a <= q -> x.Kids[q]? = some y -> D[y.toNat]? = some true) ↔ A' = true) := by
    intro m
    induction m with
    | zero =>
      intro a k A b1 b2
      obtain ⟨k, rfl⟩ : ∃ m, k = m + 1 := ⟨k - 1, by omega⟩
      have e : a = x.Kids.length := by omega
      subst e
      have : J9 t (D, (i : Int)) (D, A, (x.Kids.length : Int)) = some (.done (D, A)) := by
       unfold J9
       simp only [hix, Option.bind_some, c0x, hb, cond_true]
       simp
      exact ⟨A, by simp only [j7, this, Option.bind_some], fun h => h.1, fun h => ⟨h, fun q y h1 h2 => by have := (List.getElem?_eq_some_iff.1 h2).1; omega⟩⟩
    | succ m ih =>
      intro a k A b1 b2
      obtain ⟨k, rfl⟩ : ∃ m, k = m + 1 := ⟨k - 1, by omega⟩
      have ha : a < x.Kids.length := by omega
      have hka := List.getElem?_eq_getElem ha
      have hkm := List.getElem_mem ha
      obtain ⟨j, hj, hj2⟩ := a2e (hkr _ hkm)
      have hDj := List.getElem?_eq_getElem (show j < D.length by omega)
      obtain ⟨A', c1, c2⟩ := ih (a + 1) k (bif A then D[j] else false) (by omega) (by omega)
      have : J9 t (D, (i : Int)) (D, A, (a : Int)) = some (.next (D, (bif A then D[j] else false), ((a + 1 : Nat) : Int))) := by
       unfold J9
       simp only [hix, Option.bind_some, c0x, hb, cond_true, Z6 ha, k7 hka, hj, k7 hDj, Int.toNat_natCast, hDj, Z1]
       rw [k9 a (by omega)]
       cases A <;> rfl
      simp only [j7, this, Option.bind_some]
      refine ⟨A', c1, Iff.trans ⟨fun ⟨hA, hall⟩ => ⟨?_, fun q y hq hy => hall q y (by omega) hy⟩, fun ⟨hA, hall⟩ => ?_⟩ c2⟩
      ·have hq := hall a _ (Nat.le_refl _) hka
       rw [hj, Int.toNat_natCast, hDj] at hq
       subst hA
       simpa using hq
      ·cases A with
       | false => cases hA
       | true =>
         refine ⟨rfl, fun q y hq hy => ?_⟩
         by_cases e : q = a
         ·subst e
          rw [hka] at hy
          cases hy
          rw [hj, Int.toNat_natCast, hDj]
          simpa using hA
         ·exact hall q y (by omega) hy
   obtain ⟨A, c1, c2⟩ := key x.Kids.length 0 fuel true (by omega) hf
   refine ⟨A, c1, Iff.trans ⟨fun h => ⟨rfl, fun q y _ hy => h rfl y (List.mem_of_getElem? hy)⟩, fun h _ y hy => ?_⟩ c2⟩
   obtain ⟨q, hq, e⟩ := List.getElem_of_mem hy
   exact h.2 q y (Nat.zero_le _) (by rw [List.getElem?_eq_getElem hq, e])
def trD (D : List Bool) (j : Nat) : Prop := D[j]? = some true
theorem c7r (t : Api_Type) (hT : a7A t.Nodes = true) (hk : ∀ x ∈ t.Nodes, x.Kids.length <= 1100000) (hN : t.Nodes.length <= 1100000) (fuel : Nat) (hf : 1100001 <= fuel) (r : Nat -> Nat) (q : Nat) :
 ∀ (m a k : Nat) (D : List Bool), a + m = t.Nodes.length -> m + 1 <= k -> D.length = t.Nodes.length -> Gd t.Nodes (trD D) -> (Rk t.Nodes r -> (∀ j, j < t.Nodes.length -> r j < q -> D[j]? = some true) /\ ∀ j, j < a -> r j < q + 1 -> D[j]? = some true) ->
  ∃ D', j7 (X4 t fuel) k (D, (a : Int)) = some D' /\ D'.length = t.Nodes.length /\ Gd t.Nodes (trD D') /\ (Rk t.Nodes r -> ∀ j, j < t.Nodes.length -> r j < q + 1 -> D'[j]? = some true) := by
 intro m
 induction m with
 | zero =>
   intro a k D b1 b2 b3 b4 b5
   obtain ⟨k, rfl⟩ : ∃ m, k = m + 1 := ⟨k - 1, by omega⟩
   have e : a = t.Nodes.length := by omega
   subst e
   have : X4 t fuel (D, (t.Nodes.length : Int)) = some (.done D) := by
    unfold X4
    simp
   exact ⟨D, by simp only [j7, this, Option.bind_some], b3, b4, fun hr => (b5 hr).2⟩
 | succ m ih =>
   intro a k D b1 b2 b3 b4 b5
   obtain ⟨k, rfl⟩ : ∃ m, k = m + 1 := ⟨k - 1, by omega⟩
   have ha : a < t.Nodes.length := by omega
   have hn := List.getElem?_eq_getElem ha
   generalize hx : t.Nodes[a] = x at hn
   have hxm : x ∈ t.Nodes := List.mem_of_getElem? hn
   have hkx := hk x hxm
   obtain ⟨A, c1, c2⟩ := c8S t D a fuel x hn b3 hT hkx (by omega)
   have haD : a < D.length := by omega
   have hDa := List.getElem?_eq_getElem haD
   generalize D[a] = e at hDa
   have step : X4 t fuel (D, (a : Int)) = some (.next (D.set a (e || A), ((a + 1 : Nat) : Int))) := by
    unfold X4
    simp only
    rw [Z6 ha, c1]
    simp only [cond_true, Option.bind_some, k7 hDa, Int.toNat_natCast, hDa, Z1]
    rw [k9 a (by omega)]
    cases e <;> rfl
   simp only [j7, step, Option.bind_some]
   have hset : ∀ j, D[j]? = some true -> (D.set a (e || A))[j]? = some true := fun j hj => by
    by_cases h : a = j
    ·subst h
     rw [List.getElem?_set_self haD]
     rw [hDa] at hj
     cases hj
     rfl
    ·rw [List.getElem?_set_ne h]; exact hj
   refine ih (a + 1) k (D.set a (e || A)) (by omega) (by omega) (by simpa using b3) ?_ (fun hr => ⟨fun j hj h => hset j ((b5 hr).1 j hj h), fun j hj h => ?_⟩)
   ·cases hA : A with
    | false =>
      have : D.set a (e || false) = D := by
       apply List.ext_getElem?
       intro j
       by_cases h : a = j
       ·subst h; rw [List.getElem?_set_self haD, hDa, Bool.or_false]
       ·rw [List.getElem?_set_ne h]
      rw [this]; exact b4
    | true =>
      refine Gd.add b4 hn (fun hb k hk => c2.2 hA hb k hk) fun j => ?_
      unfold trD
      by_cases h : a = j
      ·subst h; rw [List.getElem?_set_self haD]; simp
      ·rw [List.getElem?_set_ne h]; exact ⟨.inl, fun h1 => h1.resolve_right (Ne.symm h)⟩
   ·by_cases e1 : j = a
    ·subst e1
     rw [List.getElem?_set_self haD]
     have hA : A = true := c2.1 fun hb kk hkk => by
      obtain ⟨i, rfl, hi⟩ := a2e (a2x (List.all_eq_true.1 hT x hxm) kk hkk)
      have := hr j x hn hb _ hkk
      rw [Int.toNat_natCast] at this ⊢
      exact (b5 hr).1 i hi (by omega)
     rw [hA]
     simp
    ·exact hset j ((b5 hr).2 j (by omega) h)
theorem c8w (t : Api_Type) (hk : ∀ x ∈ t.Nodes, x.Kids.length <= 1100000 /\ x.Fields.length <= 1100000) (hN : t.Nodes.length <= 1100000) (fuel : Nat) (hf : 1100001 <= fuel) : X6 fuel t = some (if inR t.Nodes.length t.Root && a7A t.Nodes then (if a7l t.Nodes then 0 else 3) else 1) := by
 have l1 : j7 (a2i t) (t.Nodes.length + 1) 0 = some (if t.Nodes.all (W7 t.Nodes.length) = true then .inl () else .inr 1) := by
  refine V9 t.Nodes (W7 t.Nodes.length) (fun i => (i : Int)) () 1 ?_ ?_
  ·intro i x hx
   have hi : i < t.Nodes.length := (List.getElem?_eq_some_iff.1 hx).1
   obtain ⟨hk1, hk2⟩ := hk x (List.mem_of_getElem? hx)
   unfold a2i
   rw [Z6 hi, k7 hx]
   simp only [cond_true, Option.bind_some, Z1]
   rw [c3c t x (by omega) (by omega), k9 i (by omega)]
   cases W7 t.Nodes.length x <;> rfl
  ·unfold a2i
   simp
 unfold X6
 rw [b0n, Y1, l1]
 simp only [Option.bind_some]
 cases inR t.Nodes.length t.Root
 ·rfl
 show _ = some (if a7A t.Nodes = true then (if a7l t.Nodes then (0 : Int) else 3) else 1)
 cases hA : a7A t.Nodes with
 | false =>
   have hA' : t.Nodes.all (W7 t.Nodes.length) = false := hA
   rw [hA']
   rfl
 | true =>
   have hA' : t.Nodes.all (W7 t.Nodes.length) = true := hA
   rw [hA']
   simp only [Bool.not_true, cond_false, if_true, Option.bind_some, v7]
   have e0 : a8H (t.Nodes.length : Int) (t.Nodes.length : Int) 1 = some t.Nodes.length := by
    unfold a8H
    have : (decide (0 <= (t.Nodes.length : Int)) && decide ((t.Nodes.length : Int) <= (t.Nodes.length : Int)) && decide ((t.Nodes.length : Int) * ((1 : Nat) : Int) <= 140737488355328)) = true := by
     simp; omega
    rw [this]
    simp
   rw [e0]
   simp only [Option.bind_some]
   obtain ⟨r, hrr⟩ : ∃ r, a7l t.Nodes = true -> Rk t.Nodes r /\ ∀ i, i < t.Nodes.length -> r i < t.Nodes.length := by
    cases hA2 : a7l t.Nodes with
    | false => exact ⟨fun _ => 0, fun h => by cases h⟩
    | true =>
      obtain ⟨r, h⟩ := (b2I.1 hA2).small hA
      exact ⟨r, fun _ => h⟩
   have key : ∀ (m q k : Nat) (D : List Bool), q + m = t.Nodes.length -> m + 1 <= k -> D.length = t.Nodes.length -> Gd t.Nodes (trD D) -> (Rk t.Nodes r -> ∀ j, j < t.Nodes.length -> r j < q -> D[j]? = some true) ->
    ∃ D', j7 (X3 t fuel) k (D, (q : Int)) = some D' /\ D'.length = t.Nodes.length /\ Gd t.Nodes (trD D') /\ (Rk t.Nodes r -> ∀ j, j < t.Nodes.length -> r j < t.Nodes.length -> D'[j]? = some true) := by
    intro m
    induction m with
    | zero =>
      intro q k D b1 b2 b3 b4 b5
      obtain ⟨k, rfl⟩ : ∃ m, k = m + 1 := ⟨k - 1, by omega⟩
      have e : q = t.Nodes.length := by omega
      subst e
      have : X3 t fuel (D, (t.Nodes.length : Int)) = some (.done D) := by
       unfold X3
       simp
      exact ⟨D, by simp only [j7, this, Option.bind_some], b3, b4, b5⟩
    | succ m ih =>
      intro q k D b1 b2 b3 b4 b5
      obtain ⟨k, rfl⟩ : ∃ m, k = m + 1 := ⟨k - 1, by omega⟩
      obtain ⟨D', c1, c2, c3, c4⟩ := c7r t hA (fun x hx => (hk x hx).1) hN fuel hf r q t.Nodes.length 0 (t.Nodes.length + 1) D (by omega) (Nat.le_refl _) b3 b4 (fun hr => ⟨b5 hr, fun j hj => by omega⟩)
      have c1' : j7 (X4 t fuel) (t.Nodes.length + 1) (D, 0) = some D' := c1
      have step : X3 t fuel (D, (q : Int)) = some (.next (D', ((q + 1 : Nat) : Int))) := by
       unfold X3
       simp only
       rw [Z6 (show q < t.Nodes.length by omega), Y1, c1']
       simp only [cond_true, Option.bind_some, Z1]
       rw [k9 q (by omega)]
      simp only [j7, step, Option.bind_some]
      exact ih (q + 1) k D' (by omega) (by omega) c2 c3 c4
   have hrep : ∀ (j : Nat), (List.replicate t.Nodes.length false)[j]? ≠ some true := fun j h => by
    rw [List.getElem?_replicate] at h
    split at h <;> cases h
   obtain ⟨D, c1, c2, c3, c4⟩ := key t.Nodes.length 0 (t.Nodes.length + 1) (List.replicate t.Nodes.length false) (by omega) (Nat.le_refl _) (by simp) ⟨fun _ => 0, fun i x hi => absurd hi (hrep i)⟩ (fun _ j hj h => by omega)
   have c1' : j7 (X3 t fuel) (t.Nodes.length + 1) (List.replicate t.Nodes.length false, 0) = some D := c1
   rw [c1']
   simp only [Option.bind_some]
   have hall : D.all (fun b => b) = a7l t.Nodes := by
    rw [Bool.eq_iff_iff, List.all_eq_true]
    constructor
    ·intro h
     refine b2I.2 (c3.acy fun j hj => ?_)
     have hj' : j < D.length := by omega
     unfold trD
     rw [List.getElem?_eq_getElem hj', h _ (List.getElem_mem hj')]
    ·intro h b hb
     obtain ⟨j, hj, rfl⟩ := List.getElem_of_mem hb
     have := c4 (hrr h).1 j (by omega) ((hrr h).2 j (by omega))
     rw [List.getElem?_eq_getElem hj] at this
     simpa using this
   have l5 := V9 (step := a1e) D (fun b => b) (fun i => (D, (i : Int))) D ((3 : Int), D) (fun i x hx => by
    have hi : i < D.length := (List.getElem?_eq_some_iff.1 hx).1
    unfold a1e
    simp only
    rw [Z6 hi, k7 hx]
    simp only [cond_true, Option.bind_some, Int.toNat_natCast, hx, Z1]
    rw [k9 i (by omega)]
    cases x <;> rfl) (by
    unfold a1e
    simp)
   rw [hall] at l5
   have l5' : j7 a1e (D.length + 1) (D, 0) = some (if a7l t.Nodes = true then .inl D else .inr ((3 : Int), D)) := l5
   rw [Y1, l5']
   cases a7l t.Nodes <;> rfl
theorem c93 (t : Api_Type) (hO : c2S t.Nodes) (hk : ∀ x ∈ t.Nodes, x.Kids.length <= 1100000 /\ x.Fields.length <= 1100000) (hN : t.Nodes.length <= 1100000) (fuel : Nat) (hf : 1100001 <= fuel) : X6 fuel t = some (if inR t.Nodes.length t.Root && a7A t.Nodes then 0 else 1) := by
 rw [c8w t hk hN fuel hf]
 cases hA : a7A t.Nodes with
 | false => rw [Bool.and_false]; rfl
 | true => rw [hO.acy hA]; rfl
end Go.Pl
end
section
namespace Go.Pl
open Go Go.RowKit Go.Sx Go.Qx
structure GN (N i : Nat) (x : Api_TypeNode) : Prop where
 ok : W7 N x = true
 ord : isB x = true -> ∀ k ∈ x.Kids, (i : Int) < k
 kids : x.Kids.length <= 4
 text : x.Text.size <= 5
 flds : x.Fields.length <= 3
 keys : ∀ f ∈ x.Fields, a6Y f.Key_ <= 8
theorem b2B {N M : Nat} (h : N <= M) {k : Int} (hk : inR N k = true) : inR M k = true := by
 unfold inR at *
 simp only [Bool.and_eq_true, decide_eq_true_eq] at *
 omega
theorem c23 {α : Type} {p q : α -> Bool} {l : List α} (h : ∀ x, p x = true -> q x = true) (k : l.all p = true) : l.all q = true := List.all_eq_true.2 fun x hx => h x (List.all_eq_true.1 k x hx)
theorem c4U {N M : Nat} (h : N <= M) {x : Api_TypeNode} (hx : W7 N x = true) : W7 M x = true := by
 unfold W7 at *
 simp only [Bool.and_eq_true] at *
 refine ⟨c23 (fun k => b2B h) hx.1, hx.2.1, hx.2.2.1, hx.2.2.2.1, ?_⟩
 have hk := hx.2.2.2.2
 unfold a3W at *
 split <;> rename_i h3
 ·rwa [if_pos h3] at hk
 rw [if_neg h3] at hk
 split <;> rename_i h4
 ·rwa [if_pos h4] at hk
 rw [if_neg h4] at hk
 split <;> rename_i h6
 ·rwa [if_pos h6] at hk
 rw [if_neg h6] at hk
 split <;> rename_i h19
 ·rwa [if_pos h19] at hk
 rw [if_neg h19] at hk
 split <;> rename_i hs
 ·rwa [if_pos hs] at hk
 rw [if_neg hs] at hk
 split <;> rename_i h10
 ·rwa [if_pos h10] at hk
 rw [if_neg h10] at hk
 split <;> rename_i h12
 ·rwa [if_pos h12] at hk
 rw [if_neg h12] at hk
 split <;> rename_i h14
 ·rwa [if_pos h14] at hk
 rw [if_neg h14] at hk
 split <;> rename_i h16
 ·rwa [if_pos h16] at hk
 rw [if_neg h16] at hk
 split <;> rename_i h18
 ·rwa [if_pos h18] at hk
 rw [if_neg h18] at hk
 split <;> rename_i h13
 ·rw [if_pos h13] at hk
  unfold a6W at *
  simp only [Bool.and_eq_true] at *
  exact ⟨⟨hk.1.1, hk.1.2.1, c23 (fun f => b2B h) hk.1.2.2⟩, hk.2.1, b2B h hk.2.2.1, b2B h hk.2.2.2⟩
 ·rwa [if_neg h13] at hk
theorem GN.mono {N M i : Nat} {x : Api_TypeNode} (h : GN N i x) (k : N <= M) : GN M i x := ⟨c4U k h.ok, h.ord, h.kids, h.text, h.flds, h.keys⟩
abbrev a8S (k : Int) (l : List Int) : Api_TypeNode := Api_TypeNode.mk k 0 0 (⟨#[]⟩ : ByteArray) l ([] : List Api_Field) (0, 0)
abbrev d1f (k : Int) (s : ByteArray) : Api_TypeNode := Api_TypeNode.mk k 0 0 s ([] : List Int) ([] : List Api_Field) (0, 0)
theorem b07 {N i : Nat} {k : Int} {l : List Int} (hl : l.all (inR N) = true) (h4 : l.length <= 4) (hk : a3W N (a8S k l) = true) (ho : k = 16 \/ k = 17 \/ k = 18 -> ∀ x ∈ l, (i : Int) < x) : GN N i (a8S k l) := by
 refine ⟨?_, fun hb => ho ?_, h4, by show (⟨#[]⟩ : ByteArray).size <= 5; decide, by show (0 : Nat) <= 3; omega, fun f hf => by cases hf⟩
 ·unfold W7
  rw [hk]
  simp [hl, a8l, a7g]
 ·unfold isB at hb
  simp at hb
  omega
theorem c2L {N i : Nat} {k : Int} {s : ByteArray} (hs : s.size <= 5) (hk : (k = 4) \/ (k = 6 /\ a4v s = true) \/ (k = 19 /\ a6G s = true)) : GN N i (d1f k s) := by
 refine ⟨?_, fun hb => ?_, by show (0 : Nat) <= 4; omega, hs, by show (0 : Nat) <= 3; omega, fun f hf => by cases hf⟩
 ·have h64 : (s.size : Int) <= 64 := by omega
  rcases hk with rfl | ⟨rfl, h⟩ | ⟨rfl, h⟩
  ·simp [W7, a3W, a7g, h64]
  ·simp [W7, a3W, a7g, h]
  ·simp [W7, a3W, a7g, h]
 ·intro x hx; cases hx
section
variable {L : List Int}
theorem b3k {γ σ τ : Type} {step : σ -> Option (Fl σ τ)} (pack : γ -> Int -> Semtypebase_Source -> σ) (out : γ -> Semtypebase_Source -> τ) (Inv : Nat -> γ -> Prop) (J : Nat)
 (hst : ∀ (j : Nat) (g : γ) (s : Semtypebase_Source), j < J -> Inv j g -> OS L s -> ∃ g' s', step (pack g (j : Int) s) = some (.next (pack g' ((j + 1 : Nat) : Int) s')) /\ OS L s' /\ Inv (j + 1) g')
 (hend : ∀ g s, step (pack g (J : Int) s) = some (.done (out g s))) :
 ∀ (n j k : Nat) (g : γ) (s : Semtypebase_Source), j + n = J -> n + 1 <= k -> Inv j g -> OS L s -> ∃ g' s', j7 step k (pack g (j : Int) s) = some (out g' s') /\ OS L s' /\ Inv J g' := by
 intro n
 induction n with
 | zero =>
   intro j k g s hJ hk hI hs
   obtain ⟨k, rfl⟩ : ∃ m, k = m + 1 := ⟨k - 1, by omega⟩
   have e : j = J := by omega
   subst e
   exact ⟨g, s, by have := hend g s; simp [j7, this], hs, hI⟩
 | succ n ih =>
   intro j k g s hJ hk hI hs
   obtain ⟨k, rfl⟩ : ∃ m, k = m + 1 := ⟨k - 1, by omega⟩
   obtain ⟨g1, s1, e, hs1, hI1⟩ := hst j g s (by omega) hI hs
   obtain ⟨g2, s2, e2, hs2, hI2⟩ := ih (j + 1) k g1 s1 (by omega) (by omega) hI1 hs1
   refine ⟨g2, s2, ?_, hs2, hI2⟩
   simp only [j7, e, Option.bind_some]
   exact e2
theorem c3S (hL : L.length <= 4194304) {s : Semtypebase_Source} (h : OS L s) (m i N : Nat) (hm : m <= 4) (hi : i < N) (hN : N <= 100) :
 ∃ l t, w7 s (m : Int) (i : Int) (N : Int) = some (l, t) /\ OS L t /\ l.length = m /\ ∀ k ∈ l, (i : Int) <= k /\ k < (N : Int) := by
 unfold w7
 obtain ⟨g, s', e, hs', h1, h2⟩ := b0j (γ := List Int) (L := L) (step := a1n (i : Int) (N : Int)) (fun g j s => (j, g, s)) (fun g s => (g, s)) (fun j g => g.length = j /\ ∀ k ∈ g, (i : Int) <= k /\ k < (N : Int)) m
  (fun j n g s hj hn hI hs => by
    obtain ⟨x, t, e, ht, a, b⟩ := Y9 hL hs (n := w64 ((N : Int) - (i : Int))) (by rw [J4 (by omega) (by omega)]; omega) (by rw [J4 (by omega) (by omega)]; omega)
    rw [J4 (by omega) (by omega)] at b
    have hw : w64 ((i : Int) + x) = (i : Int) + x := J4 (by omega) (by omega)
    refine ⟨g ++ [(i : Int) + x], t, ?_, ht, ?_, ?_⟩
    ·unfold a1n
     simp only [Z1]
     rw [show decide (0 < ((n + 1 : Nat) : Int)) = true from decide_eq_true (by omega), e]
     simp only [cond_true, Option.bind_some, hw]
     rw [Y0 (by simp only [List.length_cons, List.length_nil]; have := hI.1; omega), show w64 (((n + 1 : Nat) : Int) - 1) = (n : Int) by rw [J4 (by omega) (by omega)]; omega]
     rfl
    ·simp [hI.1]
    ·intro k hk
     rcases List.mem_append.1 hk with hk | hk
     ·exact hI.2 k hk
     ·rw [List.mem_singleton.1 hk]; omega) (fun g s => by
    unfold a1n
    rfl) m 0 ((m : Int).toNat + 2) [] s (by omega) (by omega) ⟨rfl, fun k hk => by cases hk⟩ h
 rw [e]
 exact ⟨g, s', rfl, hs', by simpa using h1, h2⟩
theorem b3i {N : Nat} {k : Int} (h0 : 0 <= k) (h1 : k < (N : Int)) : inR N k = true := by
 unfold inR
 simp [h0, h1]
theorem b2t {N i : Nat} {l : List Int} (h : ∀ k ∈ l, (i : Int) <= k /\ k < (N : Int)) : l.all (inR N) = true := List.all_eq_true.2 fun k hk => by
 have := h k hk
 exact b3i (by omega) this.2
abbrev c9l : Key := Key.mk 0 ⟨#[97]⟩
abbrev c98 : Key := Key.mk 0 ⟨#[98]⟩
abbrev c9m : Key := Key.mk 1 ⟨#[115]⟩
abbrev d0Y : Type := Int × Int × Int × ByteArray × (List Int) × (List Api_Field) × Int × Int
abbrev c0O (F : List Api_Field) (a b : Int) : d0Y := (13, 0, 0, (⟨#[]⟩ : ByteArray), [], F, a, b)
theorem b6V (hL : L.length <= 4194304) {s : Semtypebase_Source} (h : OS L s) (N j : Nat) (hN : 1 <= N) (hN2 : N <= 100) (hj : j < 3) (K : Key) (hK : [c9l, c98, c9m][j]? = some K) (F : List Api_Field) (hF : F.length <= j) (a b : Int) :
 ∃ O t, X1 (N : Int) ((j : Int), s, c0O F a b) = some (.next (((j + 1 : Nat) : Int), t, c0O (F ++ O) a b)) /\ OS L t /\ (O = [] \/ ∃ n o, O = [Api_Field.mk K n o] /\ inR N n = true) := by
 obtain ⟨x, t, e, ht, _, _⟩ := Y9 hL h (n := 2) (by omega) (by omega)
 unfold X1
 simp only [Z1]
 rw [show decide ((j : Int) < 3) = true from decide_eq_true (by omega), e]
 simp only [cond_true, Option.bind_some]
 rw [k9 j (by omega)]
 cases hx : x == 1
 ·exact ⟨[], t, by simp only [cond_false, Option.bind_some, List.append_nil], ht, .inl rfl⟩
 ·simp only [cond_true]
  rw [k7 hK]
  obtain ⟨n, t2, e2, ht2, n0, n1⟩ := Y9 hL ht (n := (N : Int)) (by omega) (by omega)
  obtain ⟨o, t3, e3, ht3, _, _⟩ := Y9 hL ht2 (n := 2) (by omega) (by omega)
  simp only [Option.bind_some, e2, e3]
  rw [Y0 (by simp only [List.length_cons, List.length_nil]; omega)]
  exact ⟨[Api_Field.mk K n (o == 1)], t3, rfl, ht3, .inr ⟨n, _, rfl, b3i n0 n1⟩⟩
theorem c3F (hL : L.length <= 4194304) {s : Semtypebase_Source} (h : OS L s) (N i : Nat) (hN : 1 <= N) (hN2 : N <= 100) : ∃ x t, a1X s (N : Int) = some (x, t) /\ OS L t /\ GN N i x := by
 obtain ⟨a, t1, e1, ht1, a0, a1⟩ := Y9 hL h (n := (N : Int)) (by omega) (by omega)
 obtain ⟨b, t2, e2, ht2, b0, b1⟩ := Y9 hL ht1 (n := (N : Int)) (by omega) (by omega)
 obtain ⟨O0, t3, e3, ht3, h0⟩ := b6V hL ht2 N 0 hN hN2 (by omega) c9l rfl [] (by simp) a b
 have l0 : O0.length <= 1 := by rcases h0 with rfl | ⟨n, o, rfl, _⟩ <;> simp
 obtain ⟨O1, t4, e4, ht4, h1⟩ := b6V hL ht3 N 1 hN hN2 (by omega) c98 rfl ([] ++ O0) (by simpa using l0) a b
 have l1 : O1.length <= 1 := by rcases h1 with rfl | ⟨n, o, rfl, _⟩ <;> simp
 obtain ⟨O2, t5, e5, ht5, h2⟩ := b6V hL ht4 N 2 hN hN2 (by omega) c9m rfl (([] ++ O0) ++ O1) (by simp; omega) a b
 have e6 : X1 (N : Int) (((2 + 1 : Nat) : Int), t5, c0O ((([] ++ O0) ++ O1) ++ O2) a b) = some (.done (t5, c0O ((([] ++ O0) ++ O1) ++ O2) a b)) := rfl
 refine ⟨Api_TypeNode.mk 13 0 0 (⟨#[]⟩ : ByteArray) [] (O0 ++ O1 ++ O2) (a, b), t5, ?_, ht5, ?_⟩
 ·unfold a1X
  rw [e1]
  simp only [Option.bind_some]
  rw [e2]
  simp only [Option.bind_some]
  have ei : j7 (X1 (N : Int)) ((3 : Int).toNat + 1) (0, t2, (13, 0, 0, (⟨#[]⟩ : ByteArray), [], [], a, b)) = some (t5, c0O ((([] ++ O0) ++ O1) ++ O2) a b) := by
   show j7 (X1 (N : Int)) (3 + 1) (((0 : Nat) : Int), t2, c0O [] a b) = _
   simp only [j7, e3, e4, e5, e6, Option.bind_some]
  rw [ei]
  rfl
 ·refine ⟨?_, fun hb => absurd hb (show ¬ (false = true) by simp), by show (0 : Nat) <= 4; omega, by show (⟨#[]⟩ : ByteArray).size <= 5; decide, ?_, ?_⟩
  ·have ha := b3i (N := N) a0 a1
   have hb := b3i (N := N) b0 b1
   have hF : a6W N (O0 ++ O1 ++ O2) = true := by
    unfold a6W
    rw [Bool.and_eq_true, Bool.and_eq_true]
    refine ⟨?_, ?_, ?_⟩
    ·rcases h0 with rfl | ⟨n, o, rfl, _⟩ <;> rcases h1 with rfl | ⟨n', o', rfl, _⟩ <;> rcases h2 with rfl | ⟨n'', o'', rfl, _⟩ <;> kernel_rfl
    ·rcases h0 with rfl | ⟨n, o, rfl, _⟩ <;> rcases h1 with rfl | ⟨n', o', rfl, _⟩ <;> rcases h2 with rfl | ⟨n'', o'', rfl, _⟩ <;> kernel_rfl
    ·rcases h0 with rfl | ⟨n, o, rfl, q0⟩ <;> rcases h1 with rfl | ⟨n', o', rfl, q1⟩ <;> rcases h2 with rfl | ⟨n'', o'', rfl, q2⟩ <;> simp_all
   unfold W7 a3W
   simp only [hF, ha, hb, a8l]
   simp
  ·show (O0 ++ O1 ++ O2).length <= 3
   have l2 : O2.length <= 1 := by rcases h2 with rfl | ⟨n, o, rfl, _⟩ <;> simp
   simp only [List.length_append]
   omega
  ·intro f hf
   have hf : f ∈ O0 ++ O1 ++ O2 := hf
   have one : ∀ {O : List Api_Field} {K : Key}, (O = [] \/ ∃ n o, O = [Api_Field.mk K n o] /\ inR N n = true) -> f ∈ O -> f.Key_ = K := fun hO hm => by
    rcases hO with rfl | ⟨n, o, rfl, _⟩
    ·cases hm
    ·rw [List.mem_singleton.1 hm]
   rcases List.mem_append.1 hf with hf | hf
   ·rcases List.mem_append.1 hf with hf | hf
    ·rw [one h0 hf]; decide
    ·rw [one h1 hf]; decide
   ·rw [one h2 hf]; decide
end
end Go.Pl
namespace Go.Pl
open Go Go.RowKit Go.Sx Go.Qx
theorem b7v {N i : Nat} {k : Int} (hk : k = 1 \/ k = 2 \/ k = 5 \/ k = 7 \/ k = 8 \/ k = 9 \/ k = 11 \/ k = 15) : GN N i (a8S k []) :=
 b07 rfl (by simp) (by rcases hk with rfl | rfl | rfl | rfl | rfl | rfl | rfl | rfl <;> rfl) (fun _ x hx => by cases hx)
theorem c9g {N i : Nat} {lo hi : Int} (h : lo <= hi) : GN N i (Api_TypeNode.mk 3 lo hi (⟨#[]⟩ : ByteArray) ([] : List Int) ([] : List Api_Field) (0, 0)) :=
 ⟨by simp [W7, a3W, a7g, a8l, h], (fun _ x hx => by cases hx), (by show (0 : Nat) <= 4; omega), (by show (⟨#[]⟩ : ByteArray).size <= 5; decide), (by show (0 : Nat) <= 3; omega), (fun f hf => by cases hf)⟩
theorem c6w : b8g.all (fun x => a6G x && decide (x.size <= 5)) = true := by kernel_rfl
section
variable {L : List Int}
theorem a9C {x : Int} (h : 0 <= x) : ∃ m : Nat, x = (m : Int) := ⟨x.toNat, by omega⟩
theorem c6T (hL : L.length <= 4194304) {s : Semtypebase_Source} (h : OS L s) (N i : Nat) (hi : i < N) (hN2 : N <= 100) : ∃ x t, a2M s (i : Int) (N : Int) = some (x, t) /\ OS L t /\ GN N i x := by
 have hw : w64 ((N : Int) - 1) = (N : Int) - 1 := J4 (by omega) (by omega)
 have hwi := k9 i (by omega)
 obtain ⟨b, hb, hlast, hb18⟩ : ∃ b : Int, (bif ((i : Int) == (wr .i64 ((N : Int) - 1))) then (some 14 : Option Int) else some 18) = some b /\ (14 < b -> i + 1 < N) /\ (b = 14 \/ b = 18) := by
  by_cases e : i + 1 = N
  ·refine ⟨14, ?_, fun h => by omega, .inl rfl⟩
   have : ((i : Int) == (N : Int) - 1) = true := by simp; omega
   simp only [Z1, hw, this, cond_true]
  ·refine ⟨18, ?_, fun _ => by omega, .inr rfl⟩
   have : ((i : Int) == (N : Int) - 1) = false := by simp; omega
   simp only [Z1, hw, this, cond_false]
 unfold a2M
 rw [hb]
 simp only [Option.bind_some]
 obtain ⟨c, t, e, ht, c0, c1⟩ := Y9 hL h (n := b) (by omega) (by omega)
 rw [e]
 simp only [Option.bind_some]
 have ix : ∀ {s : Semtypebase_Source}, OS L s -> ∀ (m f : Nat), m <= 4 -> f < N -> ∃ l t, w7 s (m : Int) (f : Int) (N : Int) = some (l, t) /\ OS L t /\ l.length = m /\ ∀ k ∈ l, (f : Int) <= k /\ k < (N : Int) := fun hs m f hm hf => c3S hL hs m f N hm hf hN2
 have hc : c = 0 \/ c = 1 \/ c = 2 \/ c = 3 \/ c = 4 \/ c = 5 \/ c = 6 \/ c = 7 \/ c = 8 \/ c = 9 \/ c = 10 \/ c = 11 \/ c = 12 \/ c = 13 \/ c = 14 \/ c = 15 \/ c = 16 \/ c = 17 := by omega
 have tup : ∀ {s : Semtypebase_Source}, OS L s -> ∃ x t, (Option.bind (j0 s 3) fun r19 => Option.bind (w7 r19.2 r19.1 0 (N : Int)) fun r20 => some (a8S 10 r20.1, r20.2)) = some (x, t) /\ OS L t /\ GN N i x := fun hs => by
  obtain ⟨m, t2, e2, ht2, m0, m1⟩ := Y9 hL hs (n := 3) (by omega) (by omega)
  obtain ⟨m, rfl⟩ := a9C m0
  obtain ⟨l, t3, e3, ht3, hl, hr⟩ := ix ht2 m 0 (by omega) (by omega)
  rw [e2]
  simp only [Option.bind_some]
  have e3' : w7 t2 (m : Int) 0 (N : Int) = some (l, t3) := e3
  rw [e3']
  refine ⟨_, t3, rfl, ht3, b07 (l := l) (b2t hr) (show l.length <= 4 by omega) ?_ (fun h => by omega)⟩
  show decide ((l.length : Int) <= 4) = true
  exact decide_eq_true (by omega)
 have fun_ : ∀ {s : Semtypebase_Source}, OS L s -> ∃ x t, (Option.bind (j0 s 3) fun r24 => Option.bind (w7 r24.2 (w64 (1 + r24.1)) 0 (N : Int)) fun r25 => some (a8S 14 r25.1, r25.2)) = some (x, t) /\ OS L t /\ GN N i x := fun hs => by
  obtain ⟨m, t2, e2, ht2, m0, m1⟩ := Y9 hL hs (n := 3) (by omega) (by omega)
  obtain ⟨m, rfl⟩ := a9C m0
  obtain ⟨l, t3, e3, ht3, hl, hr⟩ := ix ht2 (m + 1) 0 (by omega) (by omega)
  rw [e2]
  simp only [Option.bind_some]
  have e3' : w7 t2 (w64 (1 + (m : Int))) 0 (N : Int) = some (l, t3) := by
   rw [J4 (by omega) (by omega), show 1 + (m : Int) = ((m + 1 : Nat) : Int) by omega]
   exact e3
  rw [e3']
  refine ⟨_, t3, rfl, ht3, b07 (l := l) (b2t hr) (show l.length <= 4 by omega) ?_ (fun h => by omega)⟩
  show (decide (1 <= (l.length : Int)) && decide ((l.length : Int) <= 5)) = true
  rw [Bool.and_eq_true]
  exact ⟨decide_eq_true (by omega), decide_eq_true (by omega)⟩
 have uni : i + 1 < N -> ∀ {s : Semtypebase_Source}, OS L s -> ∃ x t, (Option.bind (j0 s 2) fun r28 => Option.bind (w7 r28.2 (w64 (2 + r28.1)) (w64 ((i : Int) + 1)) (N : Int)) fun r29 => some (a8S 16 r29.1, r29.2)) = some (x, t) /\ OS L t /\ GN N i x := fun hlt s hs => by
  obtain ⟨m, t2, e2, ht2, m0, m1⟩ := Y9 hL hs (n := 2) (by omega) (by omega)
  obtain ⟨m, rfl⟩ := a9C m0
  obtain ⟨l, t3, e3, ht3, hl, hr⟩ := ix ht2 (m + 2) (i + 1) (by omega) hlt
  rw [e2]
  simp only [Option.bind_some]
  have e3' : w7 t2 (w64 (2 + (m : Int))) (w64 ((i : Int) + 1)) (N : Int) = some (l, t3) := by
   rw [J4 (x := 2 + (m : Int)) (by omega) (by omega), hwi, show 2 + (m : Int) = ((m + 2 : Nat) : Int) by omega]
   exact e3
  rw [e3']
  refine ⟨_, t3, rfl, ht3, b07 (l := l) (b2t hr) (show l.length <= 4 by omega) ?_ (fun _ x hx => by have := hr x hx; omega)⟩
  show decide (1 <= (l.length : Int)) = true
  exact decide_eq_true (by omega)
 rcases hc with rfl | rfl | rfl | rfl | rfl | rfl | rfl | rfl | rfl | rfl | rfl | rfl | rfl | rfl | rfl | rfl | rfl | rfl <;> simp only [Int.reduceBEq, cond_true, cond_false, Option.bind_some, Z1]
 ·obtain ⟨a, t2, e2, ht2, a0, a1⟩ := Y9 hL ht (n := 5) (by omega) (by omega)
  obtain ⟨d, t3, e3, ht3, d0, d1⟩ := Y9 hL ht2 (n := w64 (5 - a)) (by rw [J4 (by omega) (by omega)]; omega) (by rw [J4 (by omega) (by omega)]; omega)
  rw [J4 (x := 5 - a) (by omega) (by omega)] at d1
  rw [e2]
  simp only [Option.bind_some]
  rw [e3]
  simp only [Option.bind_some]
  rw [J4 (x := a + d) (by omega) (by omega)]
  have ha : a = 0 \/ a = 1 \/ a = 2 \/ a = 3 \/ a = 4 := by omega
  have hd : d = 0 \/ d = 1 \/ d = 2 \/ d = 3 \/ d = 4 := by omega
  rcases ha with rfl | rfl | rfl | rfl | rfl <;> rcases hd with rfl | rfl | rfl | rfl | rfl <;> first | (exfalso; omega) | exact ⟨_, t3, rfl, ht3, c9g (by decide)⟩
 ·obtain ⟨x, t2, e2, ht2, hx⟩ := b0J hL ht
  have hf := List.all_eq_true.1 b2m x hx
  simp only [Bool.and_eq_true, decide_eq_true_eq] at hf
  rw [e2]
  exact ⟨_, t2, rfl, ht2, c2L hf.2 (.inr (.inl ⟨rfl, hf.1⟩))⟩
 ·exact ⟨_, t, rfl, ht, b7v (by omega)⟩
 ·obtain ⟨x, t2, e2, ht2, hx⟩ := b7X hL ht
  have hf := List.all_eq_true.1 b1R x hx
  simp only [decide_eq_true_eq] at hf
  rw [e2]
  exact ⟨_, t2, rfl, ht2, c2L hf (.inl rfl)⟩
 ·obtain ⟨a, t2, e2, ht2, a0, a1⟩ := Y9 hL ht (n := 4) (by omega) (by omega)
  rw [e2]
  have ha : a = 0 \/ a = 1 \/ a = 2 \/ a = 3 := by omega
  rcases ha with rfl | rfl | rfl | rfl <;> exact ⟨_, t2, rfl, ht2, b7v (by omega)⟩
 ·exact ⟨_, t, rfl, ht, b7v (by omega)⟩
 ·obtain ⟨a, t2, e2, ht2, a0, a1⟩ := Y9 hL ht (n := 2) (by omega) (by omega)
  rw [e2]
  have ha : a = 0 \/ a = 1 := by omega
  rcases ha with rfl | rfl <;> exact ⟨_, t2, rfl, ht2, b7v (by omega)⟩
 ·obtain ⟨x, t2, e2, ht2, hx⟩ := b8R hL ht
  have hf := List.all_eq_true.1 c6w x hx
  simp only [Bool.and_eq_true, decide_eq_true_eq] at hf
  rw [e2]
  exact ⟨_, t2, rfl, ht2, c2L hf.2 (.inr (.inr ⟨rfl, hf.1⟩))⟩
 ·exact tup ht
 ·exact tup ht
 ·obtain ⟨l, t3, e3, ht3, hl, hr⟩ := ix ht 2 0 (by omega) (by omega)
  have e3' : w7 t 2 0 (N : Int) = some (l, t3) := e3
  rw [e3']
  refine ⟨_, t3, rfl, ht3, b07 (l := l) (b2t hr) (show l.length <= 4 by omega) ?_ (fun h => by omega)⟩
  show ((l.length : Int) == 2) = true
  simp [hl]
 ·obtain ⟨x, t2, e2, ht2, hg⟩ := c3F hL ht N i (by omega) hN2
  rw [e2]
  exact ⟨x, t2, rfl, ht2, hg⟩
 ·exact fun_ ht
 ·exact fun_ ht
 ·have hlt := hlast (by omega)
  obtain ⟨l, t3, e3, ht3, hl, hr⟩ := ix ht 1 (i + 1) (by omega) hlt
  have e3' : w7 t 1 (w64 ((i : Int) + 1)) (N : Int) = some (l, t3) := by rw [hwi]; exact e3
  rw [e3']
  refine ⟨_, t3, rfl, ht3, b07 (l := l) (b2t hr) (show l.length <= 4 by omega) ?_ (fun _ x hx => by have := hr x hx; omega)⟩
  show ((l.length : Int) == 1) = true
  simp [hl]
 ·have hlt := hlast (by omega)
  obtain ⟨l, t3, e3, ht3, hl, hr⟩ := ix ht 2 (i + 1) (by omega) hlt
  have e3' : w7 t 2 (w64 ((i : Int) + 1)) (N : Int) = some (l, t3) := by rw [hwi]; exact e3
  rw [e3']
  refine ⟨_, t3, rfl, ht3, b07 (l := l) (b2t hr) (show l.length <= 4 by omega) ?_ (fun _ x hx => by have := hr x hx; omega)⟩
  show decide (1 <= (l.length : Int)) = true
  exact decide_eq_true (by omega)
 ·exact uni (hlast (by omega)) ht
 ·exact uni (hlast (by omega)) ht
def GNs (N : Nat) (ns : List Api_TypeNode) : Prop := ∀ (i : Nat) (x : Api_TypeNode), ns[i]? = some x -> GN N i x
theorem GNs.snoc {N : Nat} {ns : List Api_TypeNode} {x : Api_TypeNode} (h : GNs N ns) (hx : GN N ns.length x) : GNs N (ns ++ [x]) := fun i y hy => by
 by_cases hi : i < ns.length
 ·rw [List.getElem?_append_left hi] at hy
  exact h i y hy
 ·have hlt := (List.getElem?_eq_some_iff.1 hy).1
  simp only [List.length_append, List.length_cons, List.length_nil] at hlt
  have e : i = ns.length := by omega
  subst e
  simp at hy
  subst hy
  exact hx
theorem c67 (hL : L.length <= 4194304) {s : Semtypebase_Source} (h : OS L s) (N : Nat) (hN : 1 <= N) (hN2 : N <= 100) : ∃ ns t, a0N s (N : Int) = some ((ns, 0), t) /\ OS L t /\ ns.length = N /\ GNs N ns := by
 unfold a0N
 have hmax : max (N : Int) 1 = (N : Int) := by omega
 rw [hmax, Int.toNat_natCast]
 obtain ⟨g, s', e, hs', h1, h2⟩ := b3k (γ := List Api_TypeNode) (L := L) (step := a0V (N : Int)) (fun g j s => (j, s, (g, 0))) (fun g s => (s, (g, 0))) (fun j g => g.length = j /\ GNs N g) N
  (fun j g s hj hI hs => by
    obtain ⟨x, t, e, ht, hx⟩ := c6T hL hs N j hj hN2
    refine ⟨g ++ [x], t, ?_, ht, by simp [hI.1], hI.2.snoc (by rw [hI.1]; exact hx)⟩
    unfold a0V
    simp only [Z1, hmax]
    rw [Z6 hj, e]
    simp only [cond_true, Option.bind_some]
    rw [Y0 (by simp only [List.length_cons, List.length_nil]; have := hI.1; omega), k9 j (by omega)]
    rfl) (fun g s => by
    unfold a0V
    simp [hmax]) N 0 (N + 1) [] s (by omega) (Nat.le_refl _) ⟨rfl, fun i x hx => by simp at hx⟩ h
 have e' : j7 (a0V (N : Int)) (N + 1) (0, s, ([], 0)) = some (s', (g, 0)) := e
 rw [e']
 exact ⟨g, s', rfl, hs', h1, h2⟩
end
end Go.Pl
end
section
namespace Go.Pl
open Go Go.RowKit Go.Sx Go.Qx
theorem c8d {a b : ByteArray} (h : cS a b = 0) : a = b := by
 rcases b67 a.data.toList b.data.toList with ⟨_, e, _⟩ | ⟨_, _, e⟩ | ⟨_, e, _⟩
 ·have : cS a b = -1 := e
  omega
 ·exact ByteArray.ext (Array.toList_inj.1 e)
 ·have : cS a b = 1 := e
  omega
theorem d0o {a b : Key} (h : cK a b = 0) : a = b := by
 obtain ⟨k, t⟩ := a
 obtain ⟨k2, t2⟩ := b
 unfold cK tn at h
 simp only at h
 rcases W3 k k2 with ⟨_, e⟩ | ⟨_, e⟩ | ⟨p, e⟩
 ·rw [e] at h; simp at h
 ·rw [e] at h; simp at h
 ·rw [e, if_pos rfl] at h
  rw [p, c8d h]
theorem c7o (a b c : Key) (h1 : cK a b <= 0) (h2 : cK b c <= 0) : cK a c <= 0 := by rw [c4P] at *; exact b9d _ _ _ h1 h2
theorem c5C {a b c : Key} (h1 : cK a b < 0) (h2 : cK b c <= 0) : cK a c < 0 := by
 have h3 := c7o a b c (by omega) h2
 by_cases h : cK a c = 0
 ·have := d0o h
  subst this
  have := c0A a b
  omega
 ·omega
abbrev ltK (a b : Key) : Prop := cK a b < 0
theorem asc_pw : ∀ l : List Key, asc cK l = true ↔ l.Pairwise ltK
 | [] => by simp [asc]
 | [a] => by simp [asc]
 | a :: b :: r => by
   have ih := asc_pw (b :: r)
   simp only [asc, Bool.and_eq_true, decide_eq_true_eq]
   rw [ih, List.pairwise_cons (a := a)]
   constructor
   ·intro ⟨h1, h2⟩
    refine ⟨fun x hx => ?_, h2⟩
    rcases List.mem_cons.1 hx with rfl | hx
    ·exact h1
    ·have := (List.pairwise_cons.1 h2).1 x hx
     exact c5C h1 (by unfold ltK at this; omega)
   ·intro ⟨h1, h2⟩
    exact ⟨h1 b (by simp), h2⟩
end Go.Pl
end
section
namespace Go.Pl
open Go Go.RowKit Go.Sx Go.Qx
structure CmpOk {α : Type} (c : α -> α -> Int) : Prop where
 anti : ∀ a b, c b a = - c a b
 trans : ∀ a b d, c a b <= 0 -> c b d <= 0 -> c a d <= 0
 eq0 : ∀ a b, c a b = 0 -> a = b
theorem cI0 {x y : Int} (h : cI x y = 0) : x = y := by
 rcases W3 x y with ⟨_, e⟩ | ⟨_, e⟩ | ⟨p, _⟩
 ·omega
 ·omega
 ·exact p
theorem c5l (a b : ByteArray) : cS a b = lx (eS a) (eS b) := by
 have := pfS a b [] []
 simpa [lx, b0f] using this.symm
theorem d00 : CmpOk cS := ⟨fun a b => by rw [c5l, c5l]; exact b4P _ _, fun a b d h1 h2 => by rw [c5l] at *; exact b9d _ _ _ h1 h2, fun _ _ h => c8d h⟩
section
variable {α : Type} {c : α -> α -> Int} (hc : CmpOk c)
include hc
theorem CmpOk.self (a : α) : c a a = 0 := by have := hc.anti a a; omega
theorem CmpOk.strict {a b d : α} (h1 : c a b < 0) (h2 : c b d <= 0) : c a d < 0 := by
 have h3 := hc.trans a b d (by omega) h2
 by_cases h : c a d = 0
 ·have := hc.eq0 _ _ h
  subst this
  have := hc.anti a b
  omega
 ·omega
theorem CmpOk.asc_pw : ∀ l : List α, asc c l = true ↔ l.Pairwise fun a b => c a b < 0
 | [] => by simp [asc]
 | [a] => by simp [asc]
 | a :: b :: r => by
   have ih := CmpOk.asc_pw (b :: r)
   simp only [asc, Bool.and_eq_true, decide_eq_true_eq]
   rw [ih, List.pairwise_cons (a := a)]
   constructor
   ·intro ⟨h1, h2⟩
    refine ⟨fun x hx => ?_, h2⟩
    rcases List.mem_cons.1 hx with rfl | hx
    ·exact h1
    ·have := (List.pairwise_cons.1 h2).1 x hx
     exact hc.strict h1 (by omega)
   ·intro ⟨h1, h2⟩
    exact ⟨h1 b (by simp), h2⟩
theorem CmpOk.nodup {l : List α} (h : l.Pairwise fun a b => c a b < 0) : l.Nodup := h.imp fun {a b} h e => by
 subst e
 have := hc.self a
 omega
theorem CmpOk.uniq {l m : List α} (h1 : asc c l = true) (h2 : asc c m = true) (h : ∀ x, x ∈ l ↔ x ∈ m) : l = m := by
 have p1 := (hc.asc_pw l).1 h1
 have p2 := (hc.asc_pw m).1 h2
 have hp := (List.perm_ext_iff_of_nodup (hc.nodup p1) (hc.nodup p2)).2 h
 exact hp.eq_of_pairwise (le := fun a b => c a b < 0) (fun a b _ _ h1 h2 => by have := hc.anti a b; omega) p1 p2
omit hc in
def a2A (c : α -> α -> Int) (out : List α) (x : α) : List α :=
 match (out.dropWhile (fun y => decide (c y x < 0))).head? with
 | some y => if c y x = 0 then out else a0n (fun y => decide (c y x < 0)) x out
 | none => a0n (fun y => decide (c y x < 0)) x out
omit hc in
theorem c1C {p : α -> Bool} {x y : α} {out : List α} : y ∈ a0n p x out ↔ y = x \/ y ∈ out := by
 constructor
 ·exact b3O
 ·intro h
  have e := List.takeWhile_append_dropWhile (p := p) (l := out)
  simp only [a0n, List.mem_append, List.mem_singleton]
  rcases h with h | h
  ·exact .inl (.inr h)
  ·rw [<- e] at h
   rcases List.mem_append.1 h with h | h
   ·exact .inl (.inl h)
   ·exact .inr h
theorem c7S {x y : α} {out : List α} : y ∈ a2A c out x ↔ y = x \/ y ∈ out := by
 unfold a2A
 split
 ·rename_i z hz
  split
  ·rename_i h0
   have := hc.eq0 _ _ h0
   subst this
   have hm : z ∈ out := (List.dropWhile_sublist _).subset (List.mem_of_mem_head? hz)
   constructor
   ·exact .inr
   ·rintro (rfl | h)
    ·exact hm
    ·exact h
  ·exact c1C
 ·exact c1C
theorem c7M (out : List α) (x : α) (h : asc c out = true) : asc c (a2A c out x) = true := by
 unfold a2A
 split
 ·rename_i y hy
  split
  ·exact h
  ·rename_i hne
   refine b2u c hc.anti x out h (fun z hz => ?_)
   rw [hy] at hz
   cases hz
   exact hne
 ·rename_i hy
  refine b2u c hc.anti x out h (fun z hz => ?_)
  rw [hy] at hz; cases hz
theorem c70 : ∀ (xs out : List α), asc c out = true -> asc c (xs.foldl (a2A c) out) = true /\ ∀ y, y ∈ xs.foldl (a2A c) out ↔ y ∈ out \/ y ∈ xs
 | [], out, h => ⟨h, fun y => by simp⟩
 | x :: r, out, h => by
   obtain ⟨h1, h2⟩ := c70 r (a2A c out x) (c7M hc out x h)
   refine ⟨h1, fun y => ?_⟩
   rw [List.foldl_cons, h2, c7S hc, List.mem_cons]
   constructor
   ·rintro ((h | h) | h)
    ·exact .inr (.inl h)
    ·exact .inl h
    ·exact .inr (.inr h)
   ·rintro (h | h | h)
    ·exact .inl (.inr h)
    ·exact .inl (.inl h)
    ·exact .inr h
theorem c5b (xs : List α) : asc c (xs.foldl (a2A c) []) = true /\ ∀ y, y ∈ xs.foldl (a2A c) [] ↔ y ∈ xs := by
 obtain ⟨h1, h2⟩ := c70 hc xs [] rfl
 exact ⟨h1, fun y => by rw [h2]; simp⟩
omit hc in
def dd (r : α -> α -> Bool) : α -> List α -> List α
 | _, [] => []
 | p, x :: l => if r x p = true then dd r x l else x :: dd r x l
omit hc in
def a9S (r : α -> α -> Bool) : List α -> List α
 | [] => []
 | x :: l => x :: dd r x l
theorem c8h : ∀ (l : List α) (p : α), (p :: l).Pairwise (fun a b => ¬ c b a < 0) ->
 (p :: dd (fun x y => decide (c x y = 0)) p l).Pairwise (fun a b => c a b < 0) /\ ∀ y, y ∈ p :: dd (fun x y => decide (c x y = 0)) p l ↔ y ∈ p :: l
 | [], p, _ => ⟨by simp [dd], fun y => by simp [dd]⟩
 | x :: l, p, h => by
   have hp := List.pairwise_cons.1 h
   obtain ⟨h1, h2⟩ := c8h l x hp.2
   simp only [dd]
   by_cases h0 : c x p = 0
   ·rw [if_pos (by simpa using h0)]
    have := hc.eq0 _ _ h0
    subst this
    refine ⟨h1, fun y => ?_⟩
    rw [h2]
    simp
   ·rw [if_neg (by simpa using h0)]
    have hlt : c p x < 0 := by have := hp.1 x (by simp); have := hc.anti p x; omega
    refine ⟨List.pairwise_cons.2 ⟨fun b hb => ?_, h1⟩, fun y => ?_⟩
    ·rcases List.mem_cons.1 hb with rfl | hb
     ·exact hlt
     ·exact hc.strict hlt (by have := (List.pairwise_cons.1 h1).1 b hb; omega)
    ·rw [List.mem_cons, h2, List.mem_cons (b := p)]
theorem c64 (l : List α) (h : l.Pairwise fun a b => ¬ c b a < 0) : asc c (a9S (fun x y => decide (c x y = 0)) l) = true /\ ∀ y, y ∈ a9S (fun x y => decide (c x y = 0)) l ↔ y ∈ l := by
 cases l with
 | nil => exact ⟨rfl, fun y => Iff.rfl⟩
 | cons p l =>
   obtain ⟨h1, h2⟩ := c8h hc l p h
   exact ⟨(hc.asc_pw _).2 h1, h2⟩
theorem c3P {xs p : List α} (hp : p.Perm xs) (hs : p.Pairwise fun a b => ¬ c b a < 0) : a9S (fun x y => decide (c x y = 0)) p = xs.foldl (a2A c) [] := by
 obtain ⟨h1, h2⟩ := c64 hc p hs
 obtain ⟨h3, h4⟩ := c5b hc xs
 exact hc.uniq h1 h3 fun y => by rw [h2, h4, hp.mem_iff]
theorem c7h {xs : List α} (h : asc c xs = true) : xs.foldl (a2A c) [] = xs := by
 obtain ⟨h3, h4⟩ := c5b hc xs
 exact hc.uniq h3 h h4
end
section
variable {α : Type} {r : α -> α -> Bool}
theorem c4S {ok : α -> Prop} {step : (Int × Int) × List α -> Option (Fl ((Int × Int) × List α) (Int × List α))} (i0 n : Nat)
 (hst : ∀ (i k : Nat) (s : List α) (x y : α), ok x -> s.length = n -> i0 + k < n -> 1 <= k -> i < i0 + k -> s[i0 + k]? = some x -> s[i0 + k - 1]? = some y ->
   step (((i : Int), (k : Int)), s) = some (.next (if r x y = true then (((i : Int), ((k + 1 : Nat) : Int)), s) else ((((i + 1 : Nat) : Int), ((k + 1 : Nat) : Int)), s.set i x))))
 (hend : ∀ (i : Int) (k : Nat) (s : List α), s.length = n -> i0 + k = n -> step ((i, (k : Int)), s) = some (.done (i, s))) :
 ∀ (m i k : Nat) (s : List α) (y : α) (fuel : Nat), s.length = n -> i0 + k + m = n -> 1 <= k -> i < i0 + k -> s[i0 + k - 1]? = some y -> m + 1 <= fuel -> (∀ x ∈ s, ok x) ->
  ∃ s', j7 step fuel (((i : Int), (k : Int)), s) = some (((i + (dd r y (s.drop (i0 + k))).length : Nat) : Int), s') /\ s'.length = n /\ s'.take (i + (dd r y (s.drop (i0 + k))).length) = s.take i ++ dd r y (s.drop (i0 + k)) := by
 intro m
 induction m with
 | zero =>
   intro i k s y fuel hl hm hk hi hy hf hok
   obtain ⟨fuel, rfl⟩ : ∃ m, fuel = m + 1 := ⟨fuel - 1, by omega⟩
   have e : s.drop (i0 + k) = [] := List.drop_eq_nil_of_le (by omega)
   rw [e]
   refine ⟨s, ?_, hl, ?_⟩
   ·simp only [j7, hend (i : Int) k s hl (by omega), Option.bind_some]
    rfl
   ·simp [dd]
 | succ m ih =>
   intro i k s y fuel hl hm hk hi hy hf hok
   obtain ⟨fuel, rfl⟩ : ∃ m, fuel = m + 1 := ⟨fuel - 1, by omega⟩
   have hlt : i0 + k < s.length := by omega
   have hx := List.getElem?_eq_getElem hlt
   rw [List.drop_eq_getElem_cons hlt]
   simp only [dd]
   simp only [j7, hst i k s _ y (hok _ (List.getElem_mem hlt)) hl (by omega) hk hi hx hy, Option.bind_some]
   by_cases h : r s[i0 + k] y = true
   ·rw [if_pos h, if_pos h]
    have := ih i (k + 1) s s[i0 + k] fuel hl (by omega) (by omega) (by omega) (by rw [show i0 + (k + 1) - 1 = i0 + k by omega]; exact hx) (by omega) hok
    rw [show i0 + (k + 1) = i0 + k + 1 by omega] at this
    exact this
   ·rw [if_neg h, if_neg h]
    have hd : (s.set i s[i0 + k]).drop (i0 + k + 1) = s.drop (i0 + k + 1) := by
     rw [List.drop_set_of_lt (by omega)]
    have := ih (i + 1) (k + 1) (s.set i s[i0 + k]) s[i0 + k] fuel (by rw [List.length_set]; exact hl) (by omega) (by omega) (by omega) (by
     rw [show i0 + (k + 1) - 1 = i0 + k by omega]
     by_cases e : i = i0 + k
     ·omega
     ·rw [List.getElem?_set_ne e]; exact hx) (by omega) (fun z hz => by
     rcases List.mem_or_eq_of_mem_set hz with hz | rfl
     ·exact hok z hz
     ·exact hok _ (List.getElem_mem hlt))
    rw [show i0 + (k + 1) = i0 + k + 1 by omega, hd] at this
    obtain ⟨s', h1, h2, h3⟩ := this
    refine ⟨s', ?_, h2, ?_⟩
    ·rw [h1, List.length_cons]
     congr 3
     omega
    ·rw [List.length_cons, show i + ((dd r s[i0 + k] (s.drop (i0 + k + 1))).length + 1) = i + 1 + (dd r s[i0 + k] (s.drop (i0 + k + 1))).length by omega, h3]
     have e : (s.set i s[i0 + k]).take (i + 1) = s.take i ++ [s[i0 + k]] := by
      rw [a3r (x := s[i0 + k]) (by rw [List.getElem?_set_self (by omega)]), List.take_set_of_le (Nat.le_refl _)]
     rw [e, List.append_assoc]
     rfl
theorem c5V {step : (Int × Int) × List α -> Option (Fl ((Int × Int) × List α) (Int × List α))} (i0 n : Nat)
 (hst : ∀ (i k : Nat) (s : List α) (x y : α), s.length = n -> i0 + k < n -> 1 <= k -> i < i0 + k -> s[i0 + k]? = some x -> s[i0 + k - 1]? = some y ->
   step (((i : Int), (k : Int)), s) = some (.next (if r x y = true then (((i : Int), ((k + 1 : Nat) : Int)), s) else ((((i + 1 : Nat) : Int), ((k + 1 : Nat) : Int)), s.set i x))))
 (hend : ∀ (i : Int) (k : Nat) (s : List α), s.length = n -> i0 + k = n -> step ((i, (k : Int)), s) = some (.done (i, s)))
 (m i k : Nat) (s : List α) (y : α) (fuel : Nat) (h1 : s.length = n) (h2 : i0 + k + m = n) (h3 : 1 <= k) (h4 : i < i0 + k) (h5 : s[i0 + k - 1]? = some y) (h6 : m + 1 <= fuel) :
   ∃ s', j7 step fuel (((i : Int), (k : Int)), s) = some (((i + (dd r y (s.drop (i0 + k))).length : Nat) : Int), s') /\ s'.length = n /\ s'.take (i + (dd r y (s.drop (i0 + k))).length) = s.take i ++ dd r y (s.drop (i0 + k)) :=
 c4S (ok := fun _ => True) i0 n (fun i k s x y _ => hst i k s x y) hend m i k s y fuel h1 h2 h3 h4 h5 h6 (fun _ _ => trivial)
theorem c5X : ∀ (l : List α) (p : α), (dd r p l).length <= l.length
 | [], _ => Nat.le_refl _
 | x :: l, p => by
   have := c5X l x
   simp only [dd]
   split
   ·simp only [List.length_cons]; omega
   ·simp only [List.length_cons]; omega
theorem b4s : ∀ (a : List α) (p : α) (l : List α), (∀ (i : Nat) (x y : α), (a ++ [p])[i + 1]? = some x -> (a ++ [p])[i]? = some y -> r x y = false) -> a9S r (a ++ p :: l) = a ++ p :: dd r p l
 | [], p, l, _ => rfl
 | x :: a, p, l, h => by
   have h2 := b4s a p l (fun i u v h1 h2 => h (i + 1) u v (by simpa using h1) (by simpa using h2))
   cases a with
   | nil =>
     have h0 := h 0 p x rfl rfl
     show x :: dd r x (p :: l) = _
     simp [dd, h0]
   | cons y a =>
     have h0 := h 0 y x rfl rfl
     show x :: dd r x (y :: (a ++ p :: l)) = _
     simp only [dd, h0, Bool.false_eq_true, if_false]
     have h2' : y :: dd r y (a ++ p :: l) = y :: a ++ p :: dd r p l := h2
     rw [h2']
     rfl
end
end Go.Pl
namespace Go.Pl
open Go Go.RowKit Go.Sx Go.Qx
theorem b82 (x y : ByteArray) : Q7 x y = decide (cS x y = 0) := by
 rcases a8Z x y with ⟨_, h, e⟩ | ⟨_, h, e⟩ | ⟨_, h, e⟩ <;> simp [h, e]
theorem c63 (x y : ByteArray) : a2T x y = decide (cS x y < 0) := by
 rcases a8Z x y with ⟨h, _, e⟩ | ⟨h, _, e⟩ | ⟨h, _, e⟩ <;> simp [h, e]
theorem c3O (l out : List ByteArray) (i : Nat) (x : ByteArray) (hx : l[i]? = some x) (hl : out.length <= 4194304) (hi : i <= 4194304) :
 a0I l (out, (i : Int)) = some (.next (a2A cS out x, ((i + 1 : Nat) : Int))) := by
 have hlt : i < l.length := (List.getElem?_eq_some_iff.1 hx).1
 have hix : idx l (i : Int) = some x := k7 hx
 unfold a0I
 simp only [Y1]
 rw [c0p (step := a3x l (out, (i : Int))) out (fun y => decide (cS y x < 0)) ?_ ?_]
 ·simp only [a0a, Z1]
  rw [if_pos (by simp; omega)]
  simp only [Option.bind_some, hix]
  have hk := b2N (fun y => decide (cS y x < 0)) out
  have hat := c0e (fun y => decide (cS y x < 0)) out
  have go : (Option.bind (cut out 0 ((out.takeWhile (fun y => decide (cS y x < 0))).length : Int)) fun u => Option.bind (Z7 (0 + u.length) 16) fun _ =>
   Option.bind (Z7 (u.length + [x].length) 16) fun _ => Option.bind (cut out ((out.takeWhile (fun y => decide (cS y x < 0))).length : Int) (out.length : Int)) fun w =>
   Option.bind (Z7 ((u ++ [x]).length + w.length) 16) fun _ => some ((u ++ [x]) ++ w)) = some (a0n (fun y => decide (cS y x < 0)) x out) :=
   c3A out x _ 16 (by omega) hl (fun l => some l)
  rw [k9 i (by omega), go]
  unfold a2A
  cases hh : (out.dropWhile (fun y => decide (cS y x < 0))).head? with
  | none =>
    rw [hh] at hat
    have hge := List.getElem?_eq_none_iff.1 hat
    rw [if_neg (by simp; omega)]
    rfl
  | some y =>
    rw [hh] at hat
    have hlt2 := (List.getElem?_eq_some_iff.1 hat).1
    rw [if_pos (by simp; omega), k7 hat]
    simp only [Option.bind_some, b82]
    by_cases h0 : cS y x = 0
    ·rw [if_pos (by simp [h0]), if_pos h0]
     rfl
    ·rw [if_neg (by simp [h0]), if_neg h0]
     rfl
 ·intro j y hy
  have hj : j < out.length := (List.getElem?_eq_some_iff.1 hy).1
  unfold a3x
  simp only [a0a, Z1]
  rw [if_pos (by simp; omega), k7 hy, hix]
  simp only [Option.bind_some, c63, k9 j (by omega)]
  by_cases h : cS y x < 0 <;> simp [h]
 ·unfold a3x
  simp
theorem b8Z {α : Type} (c : α -> α -> Int) (out : List α) (x : α) : (a2A c out x).length <= out.length + 1 := by
 unfold a2A
 split
 ·split
  ·omega
  ·rw [a7t]; omega
 ·rw [a7t]; omega
theorem c1k (l : List ByteArray) (hl : l.length <= 4194304) : a0t l = some (l.foldl (a2A cS) []) := by
 unfold a0t
 have key := b00 (σ := List ByteArray) (step := a0I l) l (fun s i => (s, (i : Int))) (a2A cS) (fun i s => s.length <= i) (fun s => s)
  ?_ ?_ [] (by simp) _ (Nat.le_refl _)
 ·have e : j7 (a0I l) (l.length + 1) (([] : List ByteArray), 0) = j7 (a0I l) (l.length + 1) (([] : List ByteArray), ((0 : Nat) : Int)) := rfl
  rw [Y1, e, key]
  rfl
 ·intro i s x hx hI
  have hi : i < l.length := (List.getElem?_eq_some_iff.1 hx).1
  refine ⟨c3O l s i x hx (by omega) (by omega), ?_⟩
  have := b8Z cS s x
  omega
 ·intro s _
  unfold a0I
  simp
theorem b2H (a b : List ByteArray) : K0 (a ++ b) = K0 a + K0 b := by
 induction a with
 | nil => simp [K0]
 | cons x r ih => simp only [List.cons_append, K0, ih]; omega
theorem c5Q (out : List ByteArray) (x : ByteArray) : K0 (a2A cS out x) <= K0 out + a3D x := by
 have hk : ∀ p : ByteArray -> Bool, K0 (a0n p x out) = K0 out + a3D x := fun p => by
  have e := congrArg K0 (List.takeWhile_append_dropWhile (p := p) (l := out))
  rw [b2H] at e
  simp only [a0n, b2H, K0]
  omega
 unfold a2A
 split
 ·split
  ·omega
  ·rw [hk]; omega
 ·rw [hk]; omega
theorem b5N : ∀ (l out : List ByteArray), K0 (l.foldl (a2A cS) out) <= K0 out + K0 l
 | [], out => by simp [K0]
 | x :: r, out => by
   have h1 := b5N r (a2A cS out x)
   have h2 := c5Q out x
   simp only [List.foldl_cons, K0]
   omega
section
variable {α : Type} {r : α -> α -> Bool}
theorem c6H {step : List α × Int -> Option (Fl (List α × Int) (Sum (List α) (List α × List α)))} (s : List α) (hl : 1 <= s.length)
 (hst : ∀ (i : Nat) (x y : α), 1 <= i -> s[i]? = some x -> s[i - 1]? = some y -> r x y = false -> step (s, (i : Int)) = some (.next (s, ((i + 1 : Nat) : Int))))
 (hhit : ∀ (i : Nat) (x y : α), 1 <= i -> s[i]? = some x -> s[i - 1]? = some y -> r x y = true -> ∃ q, step (s, (i : Int)) = some (.done (.inr (q, s.take i ++ dd r x (s.drop (i + 1))))))
 (hend : step (s, (s.length : Int)) = some (.done (.inl s))) :
 (j7 step (s.length + 1) (s, 1) = some (.inl s) /\ a9S r s = s) \/ ∃ q, j7 step (s.length + 1) (s, 1) = some (.inr (q, a9S r s)) := by
 have key : ∀ (m i fuel : Nat), i + m = s.length -> 1 <= i -> m + 1 <= fuel -> (∀ j : Nat, (hj : j + 1 < s.length) -> j + 1 < i -> r s[j + 1] (s[j]'(by omega)) = false) ->
  (j7 step fuel (s, (i : Int)) = some (.inl s) /\ a9S r s = s) \/ ∃ q, j7 step fuel (s, (i : Int)) = some (.inr (q, a9S r s)) := by
  intro m
  induction m with
  | zero =>
    intro i fuel hm hi hf hok
    obtain ⟨fuel, rfl⟩ : ∃ m, fuel = m + 1 := ⟨fuel - 1, by omega⟩
    have e : i = s.length := by omega
    subst e
    left
    refine ⟨by simp only [j7, hend, Option.bind_some], ?_⟩
    have h1 : s.length - 1 < s.length := by omega
    have hs : s = s.take (s.length - 1) ++ s[s.length - 1] :: [] := by
     have := a3r (List.getElem?_eq_getElem h1)
     rw [show s.length - 1 + 1 = s.length by omega, List.take_length] at this
     exact this
    have hc := b4s (r := r) (s.take (s.length - 1)) s[s.length - 1] [] (by
     rw [<- hs]
     intro j x y h1 h2
     have hj := (List.getElem?_eq_some_iff.1 h1).1
     rw [List.getElem?_eq_getElem hj] at h1
     rw [List.getElem?_eq_getElem (by omega)] at h2
     cases h1; cases h2
     exact hok j hj (by omega))
    rw [<- hs] at hc
    rw [hc]
    exact hs.symm
  | succ m ih =>
    intro i fuel hm hi hf hok
    obtain ⟨fuel, rfl⟩ : ∃ m, fuel = m + 1 := ⟨fuel - 1, by omega⟩
    have hlt : i < s.length := by omega
    have hlt2 : i - 1 < s.length := by omega
    have hx := List.getElem?_eq_getElem hlt
    have hy := List.getElem?_eq_getElem hlt2
    by_cases h : r s[i] s[i - 1] = true
    ·right
     obtain ⟨q, hq⟩ := hhit i _ _ hi hx hy h
     refine ⟨q, ?_⟩
     simp only [j7, hq, Option.bind_some]
     have hs : s = s.take (i - 1) ++ s[i - 1] :: s[i] :: s.drop (i + 1) := by
      have e1 := List.take_append_drop (i - 1) s
      have e2 := List.drop_eq_getElem_cons hlt2
      have e3 := List.drop_eq_getElem_cons hlt
      rw [show i - 1 + 1 = i by omega, e3] at e2
      rw [<- e2]
      exact e1.symm
     have hc := b4s (r := r) (s.take (i - 1)) s[i - 1] (s[i] :: s.drop (i + 1)) (by
      have e : s.take (i - 1) ++ [s[i - 1]] = s.take i := by
       have := a3r hy
       rw [show i - 1 + 1 = i by omega] at this
       exact this.symm
      rw [e]
      intro j x y h1 h2
      have hj := (List.getElem?_eq_some_iff.1 h1).1
      have hj' : j + 1 < i := by rw [List.length_take] at hj; omega
      rw [List.getElem?_take_of_lt hj', List.getElem?_eq_getElem (by omega)] at h1
      rw [List.getElem?_take_of_lt (by omega), List.getElem?_eq_getElem (by omega)] at h2
      cases h1; cases h2
      exact hok j (by omega) hj')
     rw [<- hs] at hc
     rw [hc]
     have e : s.take i = s.take (i - 1) ++ [s[i - 1]] := by
      have := a3r hy
      rw [show i - 1 + 1 = i by omega] at this
      exact this
     rw [e, List.append_assoc]
     simp only [dd, h, if_true]
     rfl
    ·have h' : r s[i] s[i - 1] = false := by simpa using h
     simp only [j7, hst i _ _ hi hx hy h', Option.bind_some]
     refine ih (i + 1) fuel (by omega) (by omega) (by omega) (fun j hj hji => ?_)
     by_cases e : j + 1 < i
     ·exact hok j hj e
     ·have : j + 1 = i := by omega
      subst this
      exact h'
 exact key (s.length - 1) 1 (s.length + 1) (by omega) (Nat.le_refl _) (by omega) (fun j _ h => by omega)
theorem c8m {β γ : Type} (z : α) (j n : Nat) (s' T : List α) (hl : s'.length = n) (hj : j < n) (ht : s'.take j = T) :
 ∃ q, (Option.bind (idx s' (j : Int)) fun _ => bif Nat.blt (j : Int).toNat s'.length then (Option.bind (cut (s'.take (j : Int).toNat ++ List.replicate (s'.length - (j : Int).toNat) z) 0 (j : Int)) fun y =>
  some (Fl.done (Sum.inr (s'.take (j : Int).toNat ++ List.replicate (s'.length - (j : Int).toNat) z, y)) : Fl β (Sum γ (List α × List α)))) else none) = some (.done (.inr (q, T))) := by
 refine ⟨s'.take j ++ List.replicate (s'.length - j) z, ?_⟩
 have e : (j : Int).toNat = j := by omega
 rw [k7 (List.getElem?_eq_getElem (show j < s'.length by omega)), e]
 simp only [Option.bind_some]
 have eb : Nat.blt j s'.length = true := by simp [Nat.blt]; omega
 rw [eb, b7x _ (by simp; omega)]
 simp only [cond_true, Option.bind_some]
 rw [List.take_append_of_le_length (by simp; omega), List.take_take, Nat.min_self, ht]
end
theorem b80 (n : Nat) (h : n <= 4611686018427387904) (h1 : 1 <= n) : w64 ((n : Int) - 1) = ((n - 1 : Nat) : Int) := by rw [J4 (by omega) (by omega)]; omega
end Go.Pl
end
section
namespace Go.Pl
open Go Go.RowKit Go.Sx Go.Qx
section
variable {L : List Int} {t : Api_Type} {N b : Nat} {h : Nat} {rN : Semtypebase_Source -> Api_Type -> Int -> Int -> Option (Val × Semtypebase_Source)}
def a82 (L : List Int) (t : Api_Type) (N b h : Nat) (rN : Semtypebase_Source -> Api_Type -> Int -> Int -> Option (Val × Semtypebase_Source)) : Prop :=
 ∀ (k : Nat) (s : Semtypebase_Source), k < N -> OS L s -> ∃ v u, rN s t (k : Int) (h : Int) = some (v, u) /\ OS L u /\ vOK v = true /\ w6 v <= b
theorem b7B {N : Nat} {x : Api_TypeNode} (hx : W7 N x = true) {j : Nat} (hj : j < x.Kids.length) : ∃ k : Nat, idx x.Kids (j : Int) = some (k : Int) /\ x.Kids[j]? = some (k : Int) /\ k < N := by
 have e := List.getElem?_eq_getElem hj
 obtain ⟨k, hk, hk2⟩ := a2e (a2x hx _ (List.getElem_mem hj))
 rw [hk] at e
 exact ⟨k, k7 e, e, hk2⟩
theorem b9I (hd : a82 L t N b h rN) {x : Api_TypeNode} (hx : W7 N x = true) (hl : x.Kids.length <= 4) (hh : h <= 10) {s : Semtypebase_Source} (hs : OS L s) :
 ∃ g u, j7 (a0Y t ((h : Int) + 1) x rN) (x.Kids.length + 1) (0, s, (0, 0, (⟨#[]⟩ : ByteArray), [], [], [], [])) = some (u, (0, 0, (⟨#[]⟩ : ByteArray), g, [], [], [])) /\ OS L u /\ g.length = x.Kids.length /\ w5 g <= x.Kids.length * b := by
 have hw : w64 ((h : Int) + 1 - 1) = (h : Int) := by rw [J4 (by omega) (by omega)]; omega
 obtain ⟨g, u, e, hu, h1, h2⟩ := b3k (γ := List Val) (L := L) (step := a0Y t ((h : Int) + 1) x rN) (fun g j s => (j, s, (0, 0, (⟨#[]⟩ : ByteArray), g, [], [], []))) (fun g s => (s, (0, 0, (⟨#[]⟩ : ByteArray), g, [], [], []))) (fun j g => g.length = j /\ w5 g <= j * b) x.Kids.length
  (fun j g s hj hI hs => by
    obtain ⟨k, e1, _, e2⟩ := b7B hx hj
    obtain ⟨v, u, e3, hu, _, hb⟩ := hd k s e2 hs
    refine ⟨g ++ [v], u, ?_, hu, by simp [hI.1], by rw [a1b, Nat.add_mul]; simp only [w5]; have := hI.2; omega⟩
    unfold a0Y
    simp only [Z1, hw]
    rw [Z6 hj, e1]
    simp only [cond_true, Option.bind_some]
    rw [e3]
    simp only [Option.bind_some]
    rw [Y0 (by simp only [List.length_cons, List.length_nil]; have := hI.1; omega), k9 j (by omega)]
    rfl) (fun g s => by
    unfold a0Y
    simp) x.Kids.length 0 (x.Kids.length + 1) [] s (by omega) (Nat.le_refl _) ⟨rfl, by simp [w5]⟩ hs
 exact ⟨g, u, e, hu, h1, h2⟩
theorem c5I (hd : a82 L t N b h rN) {x : Api_TypeNode} (hx : W7 N x = true) (hl : x.Kids.length <= 4) (h1l : 1 <= x.Kids.length) (hh : h <= 10) {s : Semtypebase_Source} (hs : OS L s) :
 ∃ g u, j7 (K6 t x ((h : Int) + 1) rN) ((w64 ((x.Kids.length : Int) - 1)).toNat + 1) (0, s, ([], false, 0, 0, (⟨#[]⟩ : ByteArray), [], [], [], [])) = some (u, (g, false, 0, 0, (⟨#[]⟩ : ByteArray), [], [], [], [])) /\ OS L u /\ g.length = x.Kids.length - 1 /\ a1a g = true /\ w5 g <= 3 * b := by
 have hw : w64 ((h : Int) + 1 - 1) = (h : Int) := by rw [J4 (by omega) (by omega)]; omega
 have hw2 : w64 ((x.Kids.length : Int) - 1) = ((x.Kids.length - 1 : Nat) : Int) := by rw [J4 (by omega) (by omega)]; omega
 rw [hw2, Int.toNat_natCast]
 obtain ⟨g, u, e, hu, h1, h2, h3⟩ := b3k (γ := List Val) (L := L) (step := K6 t x ((h : Int) + 1) rN) (fun g j s => (j, s, (g, false, 0, 0, (⟨#[]⟩ : ByteArray), [], [], [], []))) (fun g s => (s, (g, false, 0, 0, (⟨#[]⟩ : ByteArray), [], [], [], []))) (fun j g => g.length = j /\ a1a g = true /\ w5 g <= j * b) (x.Kids.length - 1)
  (fun j g s hj hI hs => by
    obtain ⟨k, e1, _, e2⟩ := b7B hx (show j < x.Kids.length by omega)
    obtain ⟨v, u, e3, hu, ho, hb⟩ := hd k s e2 hs
    refine ⟨g ++ [v], u, ?_, hu, by simp [hI.1], by rw [b2J, hI.2.1]; simp [a1a, ho], by rw [a1b, Nat.add_mul]; simp only [w5]; have := hI.2.2; omega⟩
    unfold K6
    simp only [Z1, hw, hw2]
    rw [Z6 hj, e1]
    simp only [cond_true, Option.bind_some]
    rw [e3]
    simp only [Option.bind_some]
    rw [Y0 (by simp only [List.length_cons, List.length_nil]; have := hI.1; omega), k9 j (by omega)]
    rfl) (fun g s => by
    unfold K6
    simp [Z1, hw2]) (x.Kids.length - 1) 0 (x.Kids.length - 1 + 1) [] s (by omega) (Nat.le_refl _) ⟨rfl, rfl, by simp [w5]⟩ hs
 have e' : j7 (K6 t x ((h : Int) + 1) rN) (x.Kids.length - 1 + 1) (0, s, ([], false, 0, 0, (⟨#[]⟩ : ByteArray), [], [], [], [])) = some (u, (g, false, 0, 0, (⟨#[]⟩ : ByteArray), [], [], [], [])) := e
 refine ⟨g, u, e', hu, h1, h2, Nat.le_trans h3 (Nat.mul_le_mul_right _ (by omega))⟩
theorem c6L (hL : L.length <= 4194304) (hd : a82 L t N b h rN) (hb : 8 <= b) {x : Api_TypeNode} (hx : W7 N x = true) (hl : x.Kids.length <= 4) (h1l : 1 <= x.Kids.length) (hh : h <= 10) (m : Nat) (hm : m <= 2) {s : Semtypebase_Source} (hs : OS L s) :
 ∃ es u, j7 (W8 t x ((h : Int) + 1) rN) ((m : Int).toNat + 2) ([], (m : Int), s) = some (es, u) /\ OS L u /\ Z2 es <= m * (4 * b + 3) := by
 have hw : w64 ((h : Int) + 1 - 1) = (h : Int) := by rw [J4 (by omega) (by omega)]; omega
 have hw2 : w64 ((x.Kids.length : Int) - 1) = ((x.Kids.length - 1 : Nat) : Int) := by rw [J4 (by omega) (by omega)]; omega
 obtain ⟨g, u, e, hu, h1, h2⟩ := b0j (γ := List Ent) (L := L) (step := W8 t x ((h : Int) + 1) rN) (fun g n s => (g, n, s)) (fun g s => (g, s)) (fun j g => g.length = j /\ Z2 g <= j * (4 * b + 3)) m
  (fun j n g s hj hn hI hs => by
    obtain ⟨ag, u1, e1, hu1, ha1, _, ha2⟩ := c5I hd hx hl h1l hh hs
    obtain ⟨z, u2, e2, hu2, _, _⟩ := Y9 hL hu1 (n := 6) (by omega) (by omega)
    obtain ⟨k, e3, _, e4⟩ := b7B hx (show x.Kids.length - 1 < x.Kids.length by omega)
    have fin : ∀ (fl : Bool) (v : Val) (u3 : Semtypebase_Source), OS L u3 -> w6 v <= b -> ∃ g' s', (Option.bind (Z7 (g.length + ([Ent.mk ag fl v] : List Ent).length) 160) fun _ => (some (Fl.next (g ++ ([Ent.mk ag fl v] : List Ent), w64 (((n + 1 : Nat) : Int) - 1), u3)) : Option (Fl (List Ent × Int × Semtypebase_Source) (List Ent × Semtypebase_Source)))) = some (.next (g', (n : Int), s')) /\ OS L s' /\ (g'.length = j + 1 /\ Z2 g' <= (j + 1) * (4 * b + 3)) := fun fl v u3 hu3 hv => by
     rw [Y0 (by simp only [List.length_cons, List.length_nil]; have := hI.1; omega), show w64 (((n + 1 : Nat) : Int) - 1) = (n : Int) by rw [J4 (by omega) (by omega)]; omega]
     refine ⟨_, u3, rfl, hu3, by simp [hI.1], ?_⟩
     have hbe := a0f (Ent.mk ag fl v)
     simp only [Ent.Args, Ent.Result] at hbe
     rw [b1U, Nat.add_mul]
     simp only [Z2, hbe]
     have := hI.2
     omega
    unfold W8
    simp only [Z1, hw, hw2]
    rw [show decide (0 < ((n + 1 : Nat) : Int)) = true from decide_eq_true (by omega)]
    rw [hw2] at e1
    rw [e1]
    simp only [cond_true, Option.bind_some]
    rw [e2]
    simp only [Option.bind_some]
    cases hz : z == 1
    ·simp only [cond_false]
     obtain ⟨v, u3, e5, hu3, _, hv⟩ := hd k u2 e4 hu2
     rw [e3]
     simp only [Option.bind_some]
     rw [e5]
     simp only [Option.bind_some]
     have := fin false v u3 hu3 hv
     cases v
     exact this
    ·simp only [cond_true, Option.bind_some]
     exact fin true a38 u2 hu2 (by rw [a38, V7]; simp only [a3l, w5, Z0, Z2]; omega)) (fun g s => by
    unfold W8
    rfl) m 0 ((m : Int).toNat + 2) [] s (by omega) (by omega) ⟨rfl, by simp [Z2]⟩ hs
 exact ⟨g, u, e, hu, by simpa using h2⟩
theorem c3N (hL : L.length <= 4194304) (hd : a82 L t N b h rN) {x : Api_TypeNode} (hf : ∀ f ∈ x.Fields, inR N f.Node = true) (hk : ∀ f ∈ x.Fields, a6Y f.Key_ <= 8) (hl : x.Fields.length <= 3) (hh : h <= 10) {s : Semtypebase_Source} (hs : OS L s) :
 ∃ ks vs u, j7 (a0B t x ((h : Int) + 1) rN) (x.Fields.length + 1) ([], [], 0, s) = some (ks, vs, u) /\ OS L u /\ ks.length <= 3 /\ vs.length <= 3 /\ Z0 ks <= 24 /\ w5 vs <= 3 * b := by
 have hw : w64 ((h : Int) + 1 - 1) = (h : Int) := by rw [J4 (by omega) (by omega)]; omega
 obtain ⟨g, u, e, hu, h1, h2, h3, h4⟩ := b3k (γ := List Key × List Val) (L := L) (step := a0B t x ((h : Int) + 1) rN) (fun g j s => (g.1, g.2, j, s)) (fun g s => (g.1, g.2, s)) (fun j g => g.1.length <= j /\ g.2.length <= j /\ Z0 g.1 <= j * 8 /\ w5 g.2 <= j * b) x.Fields.length
  (fun j g s hj hI hs => by
    have ex := List.getElem?_eq_getElem hj
    have hm := List.getElem_mem hj
    generalize x.Fields[j] = f at ex hm
    obtain ⟨k, e1, e2⟩ := a2e (hf f hm)
    have hkb := hk f hm
    have skip : ∀ u, OS L u -> ∃ (g' : List Key × List Val) (s' : Semtypebase_Source), (some (Fl.next (g.1, g.2, w64 ((j : Int) + 1), u)) : Option (Fl (List Key × List Val × Int × Semtypebase_Source) (List Key × List Val × Semtypebase_Source))) = some (.next (g'.1, g'.2, ((j + 1 : Nat) : Int), s')) /\ OS L s' /\ (g'.1.length <= j + 1 /\ g'.2.length <= j + 1 /\ Z0 g'.1 <= (j + 1) * 8 /\ w5 g'.2 <= (j + 1) * b) := fun u hu => by
     rw [k9 j (by omega)]
     exact ⟨(g.1, g.2), u, rfl, hu, Nat.le_succ_of_le hI.1, Nat.le_succ_of_le hI.2.1, Nat.le_trans hI.2.2.1 (Nat.mul_le_mul_right _ (Nat.le_succ _)), Nat.le_trans hI.2.2.2 (Nat.mul_le_mul_right _ (Nat.le_succ _))⟩
    have take : ∀ u, OS L u -> ∃ (g' : List Key × List Val) (s' : Semtypebase_Source), (Option.bind (Option.bind (Z7 (g.1.length + ([f.Key_] : List Key).length) 24) fun _ => Option.bind (rN u t f.Node (h : Int)) fun r8 => Option.bind (Z7 (g.2.length + ([r8.1] : List Val).length) 128) fun _ => some (g.1 ++ ([f.Key_] : List Key), g.2 ++ ([r8.1] : List Val), r8.2)) fun b10 =>
     (some (Fl.next (b10.1, b10.2.1, w64 ((j : Int) + 1), b10.2.2)) : Option (Fl (List Key × List Val × Int × Semtypebase_Source) (List Key × List Val × Semtypebase_Source)))) = some (.next (g'.1, g'.2, ((j + 1 : Nat) : Int), s')) /\ OS L s' /\ (g'.1.length <= j + 1 /\ g'.2.length <= j + 1 /\ Z0 g'.1 <= (j + 1) * 8 /\ w5 g'.2 <= (j + 1) * b) := fun u hu => by
     obtain ⟨v, u2, e3, hu2, _, hv⟩ := hd k u e2 hu
     rw [Y0 (by simp only [List.length_cons, List.length_nil]; have := hI.1; omega), e1, e3]
     simp only [Option.bind_some]
     rw [Y0 (by simp only [List.length_cons, List.length_nil]; have := hI.2.1; omega), k9 j (by omega)]
     refine ⟨(g.1 ++ [f.Key_], g.2 ++ [v]), u2, rfl, hu2, ?_, ?_, ?_, ?_⟩
     ·simp only [List.length_append, List.length_cons, List.length_nil]; have := hI.1; omega
     ·simp only [List.length_append, List.length_cons, List.length_nil]; have := hI.2.1; omega
     ·rw [a7u]; simp only [Z0]; have := hI.2.2.1; omega
     ·rw [a1b, Nat.add_mul]; simp only [w5]; have := hI.2.2.2; omega
    unfold a0B
    simp only [Z1, hw]
    rw [Z6 hj, k7 ex]
    simp only [cond_true, Option.bind_some]
    cases hO : f.Optional
    ·simp only [cond_false, Option.bind_some]
     exact take s hs
    ·simp only [cond_true]
     obtain ⟨z, u, e4, hu, _, _⟩ := Y9 hL hs (n := 2) (by omega) (by omega)
     rw [e4]
     simp only [Option.bind_some]
     cases hz : z == 1
     ·simp only [cond_false]
      exact take u hu
     ·simp only [cond_true, Option.bind_some]
      exact skip u hu) (fun g s => by
    unfold a0B
    simp) x.Fields.length 0 (x.Fields.length + 1) ([], []) s (by omega) (Nat.le_refl _) ⟨Nat.le_refl _, Nat.le_refl _, by simp [Z0], by simp [w5]⟩ hs
 refine ⟨g.1, g.2, u, e, hu, by omega, by omega, by omega, Nat.le_trans h4 (Nat.mul_le_mul_right _ hl)⟩
end
end Go.Pl
namespace Go.Pl
open Go Go.RowKit Go.Sx Go.Qx
structure GT (t : Api_Type) : Prop where
 len : t.Nodes.length <= 10
 nodes : GNs t.Nodes.length t.Nodes
def DB : Nat -> Nat
 | 0 => 300
 | h + 1 => 3300 + 8 * DB h
theorem c12 {h : Nat} (hh : h <= 2) : DB h <= 48900 := by
 match h, hh with
 | 0, _ => decide
 | 1, _ => decide
 | 2, _ => decide
theorem c6l (h : Nat) : 300 <= DB h := by cases h <;> simp [DB]; omega
theorem c2G (x : Val) : ∀ (l : List Val) (i : Nat), w5 (l.set i x) <= w5 l + w6 x
 | [], _ => by simp [w5]
 | y :: r, 0 => by simp only [List.set_cons_zero, w5]; omega
 | y :: r, i + 1 => by have := c2G x r i; simp only [List.set_cons_succ, w5]; omega
theorem c7N (k n : Int) (s : ByteArray) (a : List Val) (b : List Key) (c : List Ent) (l m : List ByteArray) (q : Nat) (h : K0 m <= K0 l + q) : w6 (Val.mk k n s a b c m) <= w6 (Val.mk k n s a b c l) + q := by
 simp only [w6]; omega
theorem c3R {t : Api_Type} (hT : GT t) {i : Nat} {x : Api_TypeNode} (hx : t.Nodes[i]? = some x) (v : Val) (hv : w6 v <= 100000) : ∃ w, j7 (W2 t x) (x.Kids.length + 1) (0, v) = some w /\ w6 w <= w6 v + x.Kids.length * 6 := by
 have hg := hT.nodes i x hx
 have key : ∀ (m a k : Nat) (w : Val), a + m = x.Kids.length -> m + 1 <= k -> w6 w <= w6 v + a * 6 -> ∃ w', j7 (W2 t x) k ((a : Int), w) = some w' /\ w6 w' <= w6 v + x.Kids.length * 6 := by
  intro m
  induction m with
  | zero =>
    intro a k w h1 h2 h3
    obtain ⟨k, rfl⟩ : ∃ m, k = m + 1 := ⟨k - 1, by omega⟩
    have e : a = x.Kids.length := by omega
    subst e
    have : W2 t x ((x.Kids.length : Int), w) = some (.done w) := by
     unfold W2
     simp
    exact ⟨w, by simp only [j7, this, Option.bind_some], h3⟩
  | succ m ih =>
    intro a k w h1 h2 h3
    obtain ⟨k, rfl⟩ : ∃ m, k = m + 1 := ⟨k - 1, by omega⟩
    have ha : a < x.Kids.length := by omega
    have hk4 := hg.kids
    obtain ⟨j, e1, _, hj⟩ := b7B hg.ok ha
    have e2 := List.getElem?_eq_getElem hj
    generalize t.Nodes[j] = y at e2
    have hy := (hT.nodes j y e2).text
    have step : ∃ w', W2 t x ((a : Int), w) = some (.next (((a + 1 : Nat) : Int), w')) /\ w6 w' <= w6 w + 6 := by
     unfold W2
     simp only [Z1]
     rw [Z6 ha, e1]
     simp only [cond_true, Option.bind_some]
     rw [k7 e2]
     simp only [Option.bind_some]
     rw [k9 a (by omega)]
     cases hc : y.Kind == 19
     ·simp only [cond_false, Option.bind_some]
      exact ⟨w, rfl, by omega⟩
     ·simp only [cond_true]
      obtain ⟨kk, n, s, kids, keys, ents, labs⟩ := w
      simp only [Val.Labels, Val.Kind, Val.Int_, Val.Text, Val.Kids, Val.Keys, Val.Entries]
      have hlab : labs.length <= w6 (Val.mk kk n s kids keys ents labs) := by
       have := a4A labs
       simp only [w6]; omega
      rw [Y0 (by omega), Y0 (by simp only [List.length_cons, List.length_nil]; omega)]
      simp only [Option.bind_some]
      rw [c1k (labs ++ [y.Text]) (by simp only [List.length_append, List.length_cons, List.length_nil]; omega)]
      refine ⟨_, rfl, c7N _ _ _ _ _ _ _ _ 6 ?_⟩
      have h4 := b5N (labs ++ [y.Text]) []
      rw [b2H] at h4
      simp only [K0, a3D] at h4
      omega
    obtain ⟨w', e3, h5⟩ := step
    simp only [j7, e3, Option.bind_some]
    exact ih (a + 1) k w' (by omega) (by omega) (by omega)
 exact key x.Kids.length 0 (x.Kids.length + 1) v (by omega) (Nat.le_refl _) (by omega)
theorem c5T {ks : List Key} {vs : List Val} {u : List Val × List Key} (h : a6V (ks.zip vs) ([], []) = some u) : w6 (b4u u) <= 8 + Z0 ks + w5 vs := by
 obtain ⟨_, _, _, _, _, m⟩ := b2Z (ks.zip vs) ([], []) u h rfl rfl
 have hz := b6P ks vs
 simp only [w5, Z0] at m
 simp only [b4u, V7, a3l, Z2]
 omega
section
variable {L : List Int} {t : Api_Type}
theorem c7i (hL : L.length <= 4194304) {b h : Nat} {rN} (hd : a82 L t t.Nodes.length b h rN) (hb : 8 <= b) (hb2 : b <= 100000) (hh : h <= 10) {i : Nat} {x : Api_TypeNode} (hg : GN t.Nodes.length i x) (hk : x.Kind = 13) {s : Semtypebase_Source} (hs : OS L s) (f : Nat) (r1 : Semtypebase_Source -> Api_Type -> Int -> Int -> Option (Val × Semtypebase_Source)) (r2 r3 : Semtypebase_Source -> Api_Type -> Api_TypeNode -> Int -> Option (Val × Semtypebase_Source)) :
 ∃ v u, a3a f rN r1 r2 r3 s t x ((h : Int) + 1) = some (v, u) /\ OS L u /\ w6 v <= 100 + 4 * b := by
 have hw : w64 ((h : Int) + 1 - 1) = (h : Int) := by rw [J4 (by omega) (by omega)]; omega
 have hn := hg.ok
 unfold W7 a3W a6W at hn
 simp only [hk] at hn
 simp only [Bool.and_eq_true] at hn
 have hn2 := hn.2.2.2.2
 simp at hn2
 obtain ⟨⟨_, _, hfn⟩, _, hr0, hr1⟩ := hn2
 obtain ⟨ks, vs, u, e, hu, l1, l2, b1, b2⟩ := c3N hL hd hfn hg.keys hg.flds hh hs
 obtain ⟨k0, hk0, hk0'⟩ := a2e hr0
 obtain ⟨k1, hk1, hk1'⟩ := a2e hr1
 unfold a3a
 rw [Y1, e]
 simp only [Option.bind_some]
 obtain ⟨z, u2, e2, hu2, _, _⟩ := Y9 hL hu (n := 2) (by omega) (by omega)
 rw [e2]
 simp only [Option.bind_some, Z1, hw]
 have fin : ∀ (ks : List Key) (vs : List Val) (u3 : Semtypebase_Source), ks.length <= 4 -> OS L u3 -> Z0 ks <= 40 -> w5 vs <= 4 * b -> ∃ v u, (Option.bind (a2r ks vs) fun r20 => bif r20.2 != 0 then (Option.bind (a0b) fun r21 => some (r21, u3)) else (some (r20.1, u3))) = some (v, u) /\ OS L u /\ w6 v <= 100 + 4 * b := fun ks vs u3 q1 hu3 q2 q3 => by
  rw [b92 ks vs (by omega)]
  have nilb : w6 (Val.mk 5 0 (⟨#[]⟩ : ByteArray) ([] : List Val) ([] : List Key) ([] : List Ent) ([] : List ByteArray)) <= 100 + 4 * b := by
   rw [V7]; simp only [a3l, w5, Z0, Z2]; omega
  by_cases hc : ks.length = vs.length /\ ks.all a0c = true
  ·rw [if_pos hc]
   cases hm : a6V (ks.zip vs) ([], []) with
   | none => exact ⟨_, u3, rfl, hu3, nilb⟩
   | some t =>
     have := c5T hm
     exact ⟨b4u t, u3, rfl, hu3, by omega⟩
  ·rw [if_neg hc]
   exact ⟨_, u3, rfl, hu3, nilb⟩
 have other : ∀ (z : Int) (kk : Nat) (u4 : Semtypebase_Source), kk < t.Nodes.length -> OS L u4 -> ∃ v u, (Option.bind (Option.bind (rN u4 t (kk : Int) (h : Int)) fun r15 => Option.bind (Z7 (vs.length + ([r15.1] : List Val).length) 128) fun _ => some (ks ++ ([Key.mk z (⟨#[111, 116, 104, 101, 114]⟩ : ByteArray)] : List Key), vs ++ ([r15.1] : List Val), r15.2)) fun b19 =>
  Option.bind (a2r b19.1 b19.2.1) fun r20 => bif r20.2 != 0 then (Option.bind (a0b) fun r21 => some (r21, b19.2.2)) else (some (r20.1, b19.2.2))) = some (v, u) /\ OS L u /\ w6 v <= 100 + 4 * b := fun z kk u4 hkk hu4 => by
  obtain ⟨v, u5, e5, hu5, _, hv⟩ := hd kk u4 hkk hu4
  rw [e5]
  simp only [Option.bind_some]
  rw [Y0 (by simp only [List.length_cons, List.length_nil]; omega)]
  simp only [Option.bind_some]
  refine fin _ _ u5 (by simp only [List.length_append, List.length_cons, List.length_nil]; omega) hu5 ?_ ?_
  ·rw [a7u]
   have : Z0 ([Key.mk z (⟨#[111, 116, 104, 101, 114]⟩ : ByteArray)] : List Key) <= 10 := by
    simp only [Z0, a6Y, a3D]
    decide
   omega
  ·rw [a1b]; simp only [w5]; omega
 cases hz : z == 1
 ·simp only [cond_false, Option.bind_some]
  exact fin ks vs u2 (by omega) hu2 (by omega) (by omega)
 ·simp only [cond_true]
  obtain ⟨y, u3, e3, hu3, y0, y1⟩ := Y9 hL hu2 (n := 2) (by omega) (by omega)
  rw [e3]
  simp only [Option.bind_some]
  rw [Y0 (by simp only [List.length_cons, List.length_nil]; omega)]
  simp only [Option.bind_some]
  have hy : y = 0 \/ y = 1 := by omega
  rcases hy with rfl | rfl
  ·simp only [Int.reduceBEq, cond_true]
   rw [hk0]
   exact other 0 k0 u3 hk0' hu3
  ·simp only [Int.reduceBEq, cond_true, cond_false]
   rw [hk1]
   exact other 1 k1 u3 hk1' hu3
theorem c7Q (hL : L.length <= 4194304) {b h : Nat} {rN} (hd : a82 L t t.Nodes.length b h rN) (hb : 8 <= b) (hb2 : b <= 10000) (hh : h <= 10) {i : Nat} {x : Api_TypeNode} (hg : GN t.Nodes.length i x) (hk : x.Kind = 14) {s : Semtypebase_Source} (hs : OS L s) (f : Nat) (hf : 200000 <= f) (r1 : Semtypebase_Source -> Api_Type -> Int -> Int -> Option (Val × Semtypebase_Source)) (r2 r3 : Semtypebase_Source -> Api_Type -> Api_TypeNode -> Int -> Option (Val × Semtypebase_Source)) :
 ∃ v u, a1S f rN r1 r2 r3 s t x ((h : Int) + 1) = some (v, u) /\ OS L u /\ w6 v <= 100 + 8 * b := by
 have hn := hg.ok
 unfold W7 a3W at hn
 simp only [hk] at hn
 simp only [Bool.and_eq_true] at hn
 have hn2 := hn.2.2.2.2
 simp at hn2
 have hk4 := hg.kids
 have h1l : 1 <= x.Kids.length := by omega
 obtain ⟨m, u, e, hu, m0, m1⟩ := Y9 hL hs (n := 3) (by omega) (by omega)
 obtain ⟨m, rfl⟩ := a9C m0
 obtain ⟨es, u2, e2, hu2, hbe⟩ := c6L hL hd hb hg.ok hk4 h1l hh m (by omega) hu
 unfold a1S
 rw [e]
 simp only [Option.bind_some]
 rw [e2]
 simp only [Option.bind_some]
 have hbe2 : Z2 es <= 2 * (4 * b + 3) := Nat.le_trans hbe (Nat.mul_le_mul_right _ (by omega))
 rw [b3K f _ es (by omega) (by omega)]
 have hfb := b0a es []
 simp only [Z2] at hfb
 by_cases hc : 0 <= (wr .i64 ((x.Kids.length : Int) - 1)) /\ (wr .i64 ((x.Kids.length : Int) - 1)) <= 4 /\ es.all (a2h (wr .i64 ((x.Kids.length : Int) - 1))) = true
 ·rw [if_pos hc]
  refine ⟨_, u2, rfl, hu2, ?_⟩
  simp only [b6S, V7, a3l, w5, Z0]
  omega
 ·rw [if_neg hc]
  refine ⟨_, u2, rfl, hu2, ?_⟩
  rw [V7]; simp only [a3l, w5, Z0, Z2]; omega
end
end Go.Pl
namespace Go.Pl
open Go Go.RowKit Go.Sx Go.Qx
section
variable {L : List Int} {t : Api_Type}
def b9T (L : List Int) (t : Api_Type) (h : Nat) : Prop := ∀ (k f : Nat) (s : Semtypebase_Source), k < t.Nodes.length -> 200000 + 14 * h + (10 - k) <= f -> OS L s ->
 ∃ v u, (j5 f).2.1 s t (k : Int) (h : Int) = some (v, u) /\ OS L u /\ w6 v + 24 * k <= DB h
theorem c0g (hL : L.length <= 4194304) (hT : GT t) {h : Nat} (hh : h <= 2) (hP : b9T L t h) (f : Nat) (hf : 200000 + 14 * h + 11 <= f) : a82 L t t.Nodes.length (DB h) h (j5 f).1 := by
 intro k s hk hs
 obtain ⟨f, rfl⟩ : ∃ m, f = m + 1 := ⟨f - 1, by omega⟩
 obtain ⟨v, u, e, hu, hb⟩ := hP k f s hk (by omega) hs
 have hD := c12 hh
 show ∃ v u, a4c f (j5 f).1 (j5 f).2.1 (j5 f).2.2.1 (j5 f).2.2.2 s t (k : Int) (h : Int) = some (v, u) /\ _
 unfold a4c
 rw [e]
 simp only [Option.bind_some]
 rw [a9V f v (by omega) (by omega)]
 simp only [Option.bind_some]
 cases hv : vOK v
 ·obtain ⟨w, u2, e2, hu2, h1, h2⟩ := b5b hL hu
  have := c6l h
  simp only [Bool.not_false, cond_true]
  rw [e2]
  exact ⟨w, u2, rfl, hu2, h1, by omega⟩
 ·exact ⟨v, u, rfl, hu, hv, by omega⟩
theorem c9a (hL : L.length <= 4194304) (hT : GT t) : b9T L t 0 := by
 intro k f s hk hf hs
 obtain ⟨f, rfl⟩ : ∃ m, f = m + 1 := ⟨f - 1, by omega⟩
 obtain ⟨v, u, e, hu, _, hb⟩ := b5b hL hs
 refine ⟨v, u, ?_, hu, by have := hT.len; simp only [DB]; omega⟩
 show a1i f (j5 f).1 (j5 f).2.1 (j5 f).2.2.1 (j5 f).2.2.2 s t (k : Int) ((0 : Nat) : Int) = some (v, u)
 unfold a1i
 have e0 : decide (((0 : Nat) : Int) <= 0) = true := rfl
 rw [e0]
 simp only [cond_true, Option.bind_some]
 rw [e]
 rfl
theorem c6e (hL : L.length <= 4194304) (hT : GT t) {h : Nat} (hh : h <= 1) (hP : b9T L t h) : b9T L t (h + 1) := by
 have key : ∀ (d k f : Nat) (s : Semtypebase_Source), t.Nodes.length - k <= d -> k < t.Nodes.length -> 200000 + 14 * (h + 1) + (10 - k) <= f -> OS L s ->
  ∃ v u, (j5 f).2.1 s t (k : Int) ((h : Int) + 1) = some (v, u) /\ OS L u /\ w6 v + 24 * k <= DB (h + 1) := by
  intro d
  induction d with
  | zero => intro k f s h1 h2; omega
  | succ d ih =>
    intro k f s hd hk hf hs
    obtain ⟨f, rfl⟩ : ∃ m, f = m + 1 := ⟨f - 1, by omega⟩
    have hlen := hT.len
    have hD := c12 (show h <= 2 by omega)
    have hDp := c6l h
    have ex := List.getElem?_eq_getElem hk
    generalize t.Nodes[k] = x at ex
    have hg := hT.nodes k x ex
    have hn := hg.ok
    have small : ∀ {n : Nat}, n <= 3000 + 8 * DB h -> n + 24 * k <= DB (h + 1) := fun hn => by simp only [DB]; omega
    show ∃ v u, a1i f (j5 f).1 (j5 f).2.1 (j5 f).2.2.1 (j5 f).2.2.2 s t (k : Int) ((h : Int) + 1) = some (v, u) /\ _
    have hQ := c0g hL hT (show h <= 2 by omega) hP f (by omega)
    unfold a1i
    have q0 : decide ((h : Int) + 1 <= 0) = false := decide_eq_false (by omega)
    have q1 : decide ((k : Int) < 0) = false := decide_eq_false (by omega)
    have q2 : decide ((t.Nodes.length : Int) <= (k : Int)) = false := decide_eq_false (by omega)
    rw [q0, q1, q2, k7 ex]
    simp only [cond_false, Option.bind_some]
    have kid : ∀ (s : Semtypebase_Source), OS L s -> isB x = true -> 1 <= x.Kids.length -> ∃ (z : Int) (u : Semtypebase_Source) (k' : Nat) (v : Val) (u' : Semtypebase_Source), j0 s (x.Kids.length : Int) = some (z, u) /\ idx x.Kids z = some (k' : Int) /\
     (j5 f).2.1 u t (k' : Int) ((h : Int) + 1) = some (v, u') /\ OS L u' /\ w6 v + 24 * (k + 1) <= DB (h + 1) := fun s hs hb h1 => by
     have h4 := hg.kids
     obtain ⟨z, u, e, hu, z0, z1⟩ := Y9 hL hs (n := (x.Kids.length : Int)) (by omega) (by omega)
     obtain ⟨z, rfl⟩ := a9C z0
     obtain ⟨k', e1, e2, hk'⟩ := b7B hn (show z < x.Kids.length by omega)
     have hlt := hg.ord hb _ (List.mem_of_getElem? e2)
     obtain ⟨v, u', e3, hu', hbv⟩ := ih k' f u (by omega) hk' (by omega) hu
     exact ⟨z, u, k', v, u', e, e1, e3, hu', by omega⟩
    have other : ∃ v u, (Option.bind (a2k f s 2) fun r52 => some (r52.1, r52.2)) = some (v, u) /\ OS L u /\ w6 v + 24 * k <= DB (h + 1) := by
     obtain ⟨v, u, e, hu, _, hb⟩ := c8K hL 1 f (by omega) (by omega) s hs
     have e' : a2k f s 2 = some (v, u) := e
     rw [e']
     exact ⟨v, u, rfl, hu, small (by have := c5n (show 1 <= 2 by omega); omega)⟩
    have hKinds := a9I x.Kind
    rcases hKinds with hK | hK
    ·have kt := hn
     unfold W7 a3W at kt
     rcases hK with hK | hK | hK | hK | hK | hK | hK | hK | hK | hK | hK | hK | hK | hK | hK | hK | hK | hK | hK <;> simp only [hK] at kt ⊢ <;> simp only [Int.reduceBEq, cond_true, cond_false, Option.bind_some]
     ·exact other
     ·exact other
     ·have qd : ∀ a : Int, b5B .i64 a 2 = some (wr .i64 (a.tdiv 2)) := fun a => rfl
      rw [qd, qd]
      simp only [Option.bind_some]
      obtain ⟨z, u, e, hu, z0, z1⟩ := Y9 hL hs (n := 3) (by omega) (by omega)
      rw [e]
      simp only [Option.bind_some]
      generalize wr .i64 (x.Lo + (wr .i64 ((wr .i64 (x.Hi.tdiv 2)) - (wr .i64 (x.Lo.tdiv 2))))) = mid
      obtain ⟨y, ey, eg, _⟩ := b5c ([x.Lo, x.Hi, mid] : List Int) z0 (by simpa using z1)
      rw [ey, eg]
      refine ⟨_, u, rfl, hu, small ?_⟩
      rw [V7]; simp only [a3l, w5, Z0, Z2]; omega
     ·refine ⟨_, s, rfl, hs, small ?_⟩
      have := hg.text
      rw [V7]; simp only [w5, Z0, Z2]; omega
     ·obtain ⟨w, u, e, hu, hw⟩ := b7X hL hs
      have hw2 := List.all_eq_true.1 b1R w hw
      simp only [decide_eq_true_eq] at hw2
      rw [e]
      refine ⟨_, u, rfl, hu, small ?_⟩
      rw [V7]; simp only [w5, Z0, Z2]; omega
     ·refine ⟨_, s, rfl, hs, small ?_⟩
      have := hg.text
      rw [V7]; simp only [w5, Z0, Z2]; omega
     ·obtain ⟨w, u, e, hu, hw⟩ := b0J hL hs
      have hw2 := List.all_eq_true.1 b2m w hw
      simp only [Bool.and_eq_true, decide_eq_true_eq] at hw2
      rw [e]
      refine ⟨_, u, rfl, hu, small ?_⟩
      rw [V7]; simp only [w5, Z0, Z2]; omega
     ·obtain ⟨z, u, e, hu, z0, z1⟩ := Y9 hL hs (n := 2) (by omega) (by omega)
      rw [e]
      refine ⟨_, u, rfl, hu, small ?_⟩
      rw [V7]; simp only [a3l, w5, Z0, Z2]; omega
     ·refine ⟨_, s, rfl, hs, small ?_⟩
      rw [V7]; simp only [a3l, w5, Z0, Z2]; omega
     ·obtain ⟨g, u, e, hu, hl, hb⟩ := b9I hQ hn hg.kids (by omega) hs
      rw [Y1, e]
      refine ⟨_, u, rfl, hu, small ?_⟩
      have h4 := hg.kids
      have : x.Kids.length * DB h <= 4 * DB h := Nat.mul_le_mul_right _ h4
      rw [V7]; simp only [a3l, Z0, Z2]; omega
     ·exact other
     ·obtain ⟨g, u, e, hu, hl, hb⟩ := b9I hQ hn hg.kids (by omega) hs
      rw [Y1, e]
      simp only [Option.bind_some]
      have h4 := hg.kids
      have h2 : x.Kids.length = 2 := by
       simp only [Bool.and_eq_true] at kt
       have := kt.2.2.2.2
       simp at this
       omega
      have hgl : 1 < g.length := by omega
      have eg := List.getElem?_eq_getElem hgl
      generalize g[1] = w at eg
      have ei : idx g 1 = some w := k7 (i := 1) eg
      have e1 : (1 : Int).toNat = 1 := rfl
      rw [ei, e1, eg]
      simp only [Option.bind_some]
      have : x.Kids.length * DB h <= 4 * DB h := Nat.mul_le_mul_right _ h4
      cases hw : w.Kind != 7
      ·simp only [cond_false, Option.bind_some]
       refine ⟨_, u, rfl, hu, small ?_⟩
       rw [V7]; simp only [a3l, Z0, Z2]; omega
      ·simp only [cond_true]
       refine ⟨_, u, rfl, hu, small ?_⟩
       have hs := c2G (Val.mk 5 0 (⟨#[]⟩ : ByteArray) [] [] [] []) g 1
       rw [V7] at hs
       simp only [a3l, w5, Z0, Z2] at hs
       rw [V7]; simp only [a3l, Z0, Z2]; omega
     ·obtain ⟨f, rfl⟩ : ∃ m, f = m + 1 := ⟨f - 1, by omega⟩
      have hQ2 := c0g hL hT (show h <= 2 by omega) hP f (by omega)
      obtain ⟨v, u, e, hu, hb⟩ := c7i hL hQ2 (by omega) (by omega) (by omega) hg hK hs f (j5 f).2.1 (j5 f).2.2.1 (j5 f).2.2.2
      have e' : (j5 (f + 1)).2.2.2 s t x ((h : Int) + 1) = some (v, u) := e
      rw [e']
      exact ⟨v, u, rfl, hu, small (by omega)⟩
     ·obtain ⟨f, rfl⟩ : ∃ m, f = m + 1 := ⟨f - 1, by omega⟩
      have hQ2 := c0g hL hT (show h <= 2 by omega) hP f (by omega)
      obtain ⟨v, u, e, hu, hb⟩ := c7Q hL hQ2 (by omega) (by
       match h, hh with
       | 0, _ => decide
       | 1, _ => decide) (by omega) hg hK hs f (by omega) (j5 f).2.1 (j5 f).2.2.1 (j5 f).2.2.2
      have e' : (j5 (f + 1)).2.2.1 s t x ((h : Int) + 1) = some (v, u) := e
      rw [e']
      exact ⟨v, u, rfl, hu, small (by omega)⟩
     ·exact other
     ·have h1 : 1 <= x.Kids.length := by
       simp only [Bool.and_eq_true] at kt
       have := kt.2.2.2.2
       simp at this
       omega
      obtain ⟨z, u, k', v, u', e1, e2, e3, hu', hb⟩ := kid s hs (by unfold isB; rw [hK]; rfl) h1
      rw [e1]
      simp only [Option.bind_some]
      rw [e2]
      simp only [Option.bind_some]
      rw [e3]
      exact ⟨v, u', rfl, hu', by omega⟩
     ·have h1 : 1 <= x.Kids.length := by
       simp only [Bool.and_eq_true] at kt
       have := kt.2.2.2.2
       simp at this
       omega
      obtain ⟨z, u, k', v, u', e1, e2, e3, hu', hb⟩ := kid s hs (by unfold isB; rw [hK]; rfl) h1
      rw [e1]
      simp only [Option.bind_some]
      rw [e2]
      simp only [Option.bind_some]
      rw [e3]
      simp only [Option.bind_some]
      have hD2 := c12 (show h + 1 <= 2 by omega)
      obtain ⟨w, e4, hb4⟩ := c3R hT ex v (by omega)
      rw [Y1, e4]
      have h4 := hg.kids
      exact ⟨w, u', rfl, hu', by omega⟩
     ·exact other
     ·obtain ⟨v, u, e, hu, _, hb⟩ := b5b hL hs
      rw [e]
      simp only [Option.bind_some]
      unfold a5q
      rw [c1k [x.Text] (by simp)]
      refine ⟨_, u, rfl, hu, small ?_⟩
      have h5 := hg.text
      have h6 := b5N [x.Text] []
      simp only [K0, a3D] at h6
      have h7 := a7i v (List.foldl (a2A cS) [] [x.Text])
      unfold a7Y at h7
      show w6 (Val.mk v.Kind v.Int_ v.Text v.Kids v.Keys v.Entries (List.foldl (a2A cS) [] [x.Text])) <= _
      omega
    ·have e : ∀ n : Int, 1 <= n -> n <= 19 -> ¬ x.Kind = n := fun n h1 h2 => by simpa using hK n h1 h2
     unfold W7 a3W at hn
     rw [if_neg (e 3 (by omega) (by omega)), if_neg (e 4 (by omega) (by omega)), if_neg (e 6 (by omega) (by omega)), if_neg (e 19 (by omega) (by omega)), if_neg (by have := e 1 (by omega) (by omega); have := e 2 (by omega) (by omega); have := e 5 (by omega) (by omega); have := e 7 (by omega) (by omega); have := e 8 (by omega) (by omega); have := e 9 (by omega) (by omega); have := e 11 (by omega) (by omega); have := e 15 (by omega) (by omega); omega),
      if_neg (e 10 (by omega) (by omega)), if_neg (e 12 (by omega) (by omega)), if_neg (e 14 (by omega) (by omega)), if_neg (by have := e 16 (by omega) (by omega); have := e 17 (by omega) (by omega); omega), if_neg (e 18 (by omega) (by omega)), if_neg (e 13 (by omega) (by omega))] at hn
     simp at hn
 intro k f s hk hf hs
 exact key t.Nodes.length k f s (by omega) hk hf hs
theorem c3y (hL : L.length <= 4194304) (hT : GT t) : ∀ h : Nat, h <= 2 -> b9T L t h
 | 0, _ => c9a hL hT
 | h + 1, hh => c6e hL hT (by omega) (c3y hL hT h (by omega))
theorem c8R (hL : L.length <= 4194304) (hT : GT t) (f : Nat) (hf : 300000 <= f) : a82 L t t.Nodes.length 48900 2 (a0P f) := fun k s hk hs => by
 obtain ⟨v, u, h1, h2, h3, h4⟩ := c0g hL hT (Nat.le_refl 2) (c3y hL hT 2 (Nat.le_refl 2)) f (by omega) k s hk hs
 exact ⟨v, u, h1, h2, h3, Nat.le_trans h4 (c12 (Nat.le_refl 2))⟩
end
end Go.Pl
end
