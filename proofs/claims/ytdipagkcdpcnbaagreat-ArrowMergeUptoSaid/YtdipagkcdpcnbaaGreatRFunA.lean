/- Functions of the same entries; they are valid. No program in sight. -/
import Derived.Test.YtdipagkcdpcnbaaGreatRLabA
import Derived.Test.YtdipagkcdpcnbaaGreatRDraw
namespace Go.Pl
open Go Go.Sx Go.Qx

/-- The same entries, in any order and number. -/
theorem same_fun {xs ys : List Ent} (h : ∀ x, x ∈ xs ↔ x ∈ ys) : xs.foldl insE [] = ys.foldl insE [] := by
  rw [insE_U]
  obtain ⟨a1, a2⟩ := setU (c := cE) cmpE xs
  obtain ⟨b1, b2⟩ := setU (c := cE) cmpE ys
  exact cmpE.uniq a1 b1 fun x => by rw [a2, b2, h]
theorem same_all {xs ys : List Ent} (h : ∀ x, x ∈ xs ↔ x ∈ ys) (p : Ent → Bool) : xs.all p = ys.all p := by
  rw [Bool.eq_iff_iff, List.all_eq_true, List.all_eq_true]
  exact ⟨fun k x hx => k x ((h x).2 hx), fun k x hx => k x ((h x).1 hx)⟩
theorem funV_ok {n : Int} {es : List Ent} (h0 : 0 ≤ n) (h4 : n ≤ 4) (ha : es.all (entOK n) = true) (ho : esOK es = true) : vOK (funV n (es.foldl insE [])) = true := by
  have hs := setU (c := cE) cmpE es
  rw [← insE_U] at hs
  rw [vOK_fun, Bool.and_eq_true]
  constructor
  · simp only [funOK, funV, Val.Int_, Val.Entries]
    rw [hs.1]
    have : (es.foldl insE []).all (entOK n) = true := List.all_eq_true.2 fun x hx => List.all_eq_true.1 ha x ((hs.2 x).1 hx)
    rw [this]
    simp [h0, h4]
  · rw [esOK_all] at ho ⊢
    exact List.all_eq_true.2 fun x hx => List.all_eq_true.1 ho x ((hs.2 x).1 hx)
end Go.Pl
