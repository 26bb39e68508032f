/- Part 4. -/
import Derived.Test.YtdipagkcdpcnbaaGreatK2
import Derived.Test.YtdipagkcdpcnbaaGreatK3
import Derived.ChangeArms
import Derived.KernelRfl
import Derived.Shelf.Lays
import Derived.Test.YtdipagkcdpcnbaaGreatProg
import Derived.Test.YtdipagkcdpcnbaaGreatRows
section
namespace Go.Pl
open Go Go.RowKit Go.Sx Go.Qx
theorem a7X {α β : Type} {step : Int -> Option (Fl Int (Sum Unit β))} (xs : List α) (p : α -> Bool) (out : Nat -> α -> β)
 (hst : ∀ (i : Nat) (x : α), xs[i]? = some x -> step (i : Int) = some (if p x = true then .done (.inr (out i x)) else .next ((i + 1 : Nat) : Int)))
 (hend : step (xs.length : Int) = some (.done (.inl ()))) :
 (∃ i x, xs[i]? = some x /\ p x = true /\ (∀ j, j < i -> ∀ y, xs[j]? = some y -> p y = false) /\ j7 step (xs.length + 1) 0 = some (.inr (out i x))) \/ (xs.any p = false /\ j7 step (xs.length + 1) 0 = some (.inl ())) := by
 have key : ∀ (m a k : Nat), a + m = xs.length -> m + 1 <= k -> (∀ j, j < a -> ∀ y, xs[j]? = some y -> p y = false) ->
  (∃ i x, xs[i]? = some x /\ p x = true /\ (∀ j, j < i -> ∀ y, xs[j]? = some y -> p y = false) /\ j7 step k (a : Int) = some (.inr (out i x))) \/ (xs.any p = false /\ j7 step k (a : Int) = some (.inl ())) := by
  intro m
  induction m with
  | zero =>
    intro a k h1 h2 h3
    obtain ⟨k, rfl⟩ : ∃ m, k = m + 1 := ⟨k - 1, by omega⟩
    have e : a = xs.length := by omega
    subst e
    refine .inr ⟨?_, by simp only [j7, hend, Option.bind_some]⟩
    rw [List.any_eq_false]
    intro x hx
    obtain ⟨j, hj, rfl⟩ := List.getElem_of_mem hx
    have := h3 j hj _ (List.getElem?_eq_getElem hj)
    simp [this]
  | succ m ih =>
    intro a k h1 h2 h3
    obtain ⟨k, rfl⟩ : ∃ m, k = m + 1 := ⟨k - 1, by omega⟩
    have ha : a < xs.length := by omega
    have ex := List.getElem?_eq_getElem ha
    have hs := hst a _ ex
    cases hp : p xs[a] with
    | true =>
      rw [if_pos hp] at hs
      exact .inl ⟨a, xs[a], ex, hp, h3, by simp only [j7, hs, Option.bind_some]⟩
    | false =>
      rw [if_neg (by simp [hp])] at hs
      simp only [j7, hs, Option.bind_some]
      refine ih (a + 1) k (by omega) (by omega) fun j hj y hy => ?_
      by_cases hja : j = a
      ·subst hja
       rw [ex] at hy
       cases hy
       exact hp
      ·exact h3 j (by omega) y hy
 exact key xs.length 0 (xs.length + 1) (by omega) (Nat.le_refl _) (fun j hj => by omega)
theorem b3a {α : Type} {xs : List α} {p : α -> Bool} {i : Nat} {x : α} (h : xs[i]? = some x) (hp : p x = true) : xs.any p = true := List.any_eq_true.2 ⟨x, List.mem_of_getElem? h, hp⟩
theorem d0V : decide ((0 : Int) <= -1) = false := rfl
theorem c2K (i : Nat) : decide ((0 : Int) <= (i : Int)) = true := decide_eq_true (by omega)
theorem c6G (a b : Key) : a0T a b = a0T b a := by
 rw [Bool.eq_iff_iff, b6W, b6W, c0A a b]
 omega
theorem c5D (a b : ByteArray) : Q7 a b = Q7 b a := by
 rw [b82, b82]
 have : cS b a = - cS a b := d00.anti a b
 by_cases h : cS a b = 0
 ·simp [h, this]
 ·have h2 : ¬ cS b a = 0 := by omega
  simp [h, h2]
theorem c18 (a b : Key) : a5Y a b = a0T a b := rfl
theorem c3E (l : List Key) (k : Key) (hl : l.length <= 4194304) : a00 l k = some (l.any fun y => a0T y k) := by
 unfold a00 a27
 rw [Y1]
 rcases a7X (step := a02 l k) l (fun y => a0T y k) (fun i _ => (i : Int)) (fun i x hx => by
  have hi : i < l.length := (List.getElem?_eq_some_iff.1 hx).1
  unfold a02
  rw [Z6 hi, k7 hx]
  simp only [cond_true, Option.bind_some, c18, Z1]
  rw [k9 i (by omega), c6G k x]
  cases a0T x k <;> rfl) (by
  unfold a02
  simp) with ⟨i, x, hx, hp, _, e⟩ | ⟨h, e⟩
 ·rw [e, b3a hx hp]
  simp only [Option.bind_some, v7, c2K]
 ·rw [e, h]
  rfl
theorem c4M (l : List ByteArray) (k : ByteArray) (hl : l.length <= 4194304) : a1o l k = some (l.any fun y => Q7 y k) := by
 unfold a1o a3N
 rw [Y1]
 rcases a7X (step := a1p l k) l (fun y => Q7 y k) (fun i _ => (i : Int)) (fun i x hx => by
  have hi : i < l.length := (List.getElem?_eq_some_iff.1 hx).1
  unfold a1p
  rw [Z6 hi, k7 hx]
  simp only [cond_true, Option.bind_some, Z1]
  rw [k9 i (by omega), c5D k x]
  cases Q7 x k <;> rfl) (by
  unfold a1p
  simp) with ⟨i, x, hx, hp, _, e⟩ | ⟨h, e⟩
 ·rw [e, b3a hx hp]
  simp only [Option.bind_some, v7, c2K]
 ·rw [e, h]
  rfl
theorem a7W (l : List Int) (f : Int -> Option Bool) (p : Int -> Bool) (hl : l.length <= 4194304) (hf : ∀ x ∈ l, f x = some (p x)) : Y5 l f = some (l.any p) := by
 unfold Y5 a4B
 rw [Y1]
 rcases a7X (step := a1I l f) l p (fun i _ => (i : Int)) (fun i x hx => by
  have hi : i < l.length := (List.getElem?_eq_some_iff.1 hx).1
  unfold a1I
  rw [Z6 hi, k7 hx]
  simp only [cond_true, Option.bind_some, Z1]
  rw [k9 i (by omega), hf x (List.mem_of_getElem? hx)]
  cases p x <;> rfl) (by
  unfold a1I
  simp) with ⟨i, x, hx, hp, _, e⟩ | ⟨h, e⟩
 ·rw [e, b3a hx hp]
  simp only [Option.bind_some, v7, c2K]
 ·rw [e, h]
  rfl
def b59 (x : Api_TypeNode) (k : Key) : Int := if k.Kind = 0 then x.Rest.1 else x.Rest.2
def atM (x : Api_TypeNode) (k : Key) : Int := match x.Fields.find? (fun f => a0T f.Key_ k) with
 | some f => f.Node
 | none => b59 x k
theorem c03 {α : Type} {p : α -> Bool} : ∀ {l : List α} {i : Nat} {x : α}, l[i]? = some x -> p x = true -> (∀ j, j < i -> ∀ y, l[j]? = some y -> p y = false) -> l.find? p = some x
 | [], _, _, h, _, _ => by simp at h
 | y :: r, 0, x, h, hp, _ => by
   simp at h
   subst h
   simp [hp]
 | y :: r, i + 1, x, h, hp, hn => by
   have hy := hn 0 (by omega) y rfl
   rw [List.find?_cons, hy]
   exact c03 (l := r) (i := i) (by simpa using h) hp fun j hj z hz => hn (j + 1) (by omega) z (by simpa using hz)
theorem c4p {α : Type} {p : α -> Bool} {l : List α} (h : l.any p = false) : l.find? p = none := by
 rw [List.find?_eq_none]
 rw [List.any_eq_false] at h
 exact h
theorem c56 {k : Key} (h : a0c k = true) : k.Kind = 0 \/ k.Kind = 1 := by
 unfold a0c at h
 split at h
 ·left; assumption
 ·split at h
  ·right; assumption
  ·cases h
theorem d0c (x : Api_TypeNode) (k : Key) (hf : x.Fields.length <= 4194304) (hk : a0c k = true) : b7Y x k = some (atM x k) := by
 unfold b7Y atM
 rw [Y1]
 rcases a7X (step := b1T x k) x.Fields (fun f => a0T f.Key_ k) (fun _ f => f.Node) (fun i f hx => by
  have hi : i < x.Fields.length := (List.getElem?_eq_some_iff.1 hx).1
  unfold b1T
  rw [Z6 hi, k7 hx]
  simp only [cond_true, Option.bind_some, c18, Z1]
  rw [k9 i (by omega)]
  cases a0T f.Key_ k <;> rfl) (by
  unfold b1T
  simp) with ⟨i, f, hx, hp, hn, e⟩ | ⟨h, e⟩
 ·rw [e, c03 hx hp hn]
  rfl
 ·rw [e, c4p h]
  unfold b59
  rcases c56 hk with h0 | h1
  ·simp [v7, h0]
  ·simp [v7, h1]
theorem c8Q (v : Val) (k : Key) (hl : v.Keys.length <= 4194304) : ∃ r, a7b v k = some r /\ decide (r < 0) = !(v.Keys.any fun y => a0T y k) := by
 unfold a7b
 rw [Y1]
 rcases a7X (step := a44 v k) v.Keys (fun y => a0T y k) (fun i _ => (i : Int)) (fun i x hx => by
  have hi : i < v.Keys.length := (List.getElem?_eq_some_iff.1 hx).1
  unfold a44
  rw [Z6 hi, k7 hx]
  simp only [cond_true, Option.bind_some, c18, Z1]
  rw [k9 i (by omega)]
  cases a0T x k <;> rfl) (by
  unfold a44
  simp) with ⟨i, x, hx, hp, _, e⟩ | ⟨h, e⟩
 ·rw [e, b3a hx hp]
  exact ⟨(i : Int), rfl, decide_eq_false (by omega)⟩
 ·rw [e, h]
  exact ⟨-1, rfl, rfl⟩
theorem c5O (x : Api_TypeNode) (k : Key) (hl : x.Fields.length <= 4194304) : (∃ (i : Nat) (f : Api_Field), a2F x k = some (i : Int) /\ x.Fields[i]? = some f /\ atM x k = f.Node) \/ (a2F x k = some (-1) /\ atM x k = b59 x k) := by
 unfold a2F atM
 rw [Y1]
 rcases a7X (step := a3Y x k) x.Fields (fun f => a0T f.Key_ k) (fun i _ => (i : Int)) (fun i f hx => by
  have hi : i < x.Fields.length := (List.getElem?_eq_some_iff.1 hx).1
  unfold a3Y
  rw [Z6 hi, k7 hx]
  simp only [cond_true, Option.bind_some, c18, Z1]
  rw [k9 i (by omega)]
  cases a0T f.Key_ k <;> rfl) (by
  unfold a3Y
  simp) with ⟨i, f, hx, hp, hn, e⟩ | ⟨h, e⟩
 ·left
  rw [e, c03 hx hp hn]
  exact ⟨i, f, rfl, hx, rfl⟩
 ·right
  rw [e, c4p h]
  exact ⟨rfl, rfl⟩
end Go.Pl
namespace Go.Pl
open Go Go.RowKit Go.Sx Go.Qx
section
variable (μ : Val -> Int -> Bool)
def a9u (l : List Val) (ks : List Int) : Bool := ((l.length : Int) == (ks.length : Int)) && (l.zip ks).all fun p => μ p.1 p.2
def c13 (v : Val) (x : Api_TypeNode) : Bool := (x.Fields.all fun f => f.Optional || v.Keys.any fun y => a0T y f.Key_) && (v.Keys.zip v.Kids).all fun p => μ p.2 (atM x p.1)
def b8f (ks : List Int) : Int := ks.getD (ks.length - 1) 0
def a2L (e : Ent) (ks : List Int) : Bool := !a9u μ e.Args (ks.take (ks.length - 1)) || (!e.Fails && μ e.Result (b8f ks))
def c4L (v : Val) (x : Api_TypeNode) : Bool := (v.Int_ == ((x.Kids.length - 1 : Nat) : Int)) && v.Entries.all fun e => a2L μ e x.Kids
def unM (v : Val) (x : Api_TypeNode) : Bool :=
 if x.Kind = 2 then true else if x.Kind = 3 then v.Kind == 1 && (decide (x.Lo <= v.Int_) && decide (v.Int_ <= x.Hi)) else if x.Kind = 4 then v.Kind == 2 && Q7 v.Text x.Text else
 if x.Kind = 5 then v.Kind == 2 else if x.Kind = 6 then v.Kind == 3 && Q7 v.Text x.Text else if x.Kind = 7 then v.Kind == 3 else if x.Kind = 8 then v.Kind == 4 else if x.Kind = 9 then v.Kind == 5 else
 if x.Kind = 11 then v.Kind == 6 else if x.Kind = 15 then v.Kind == 9 else if x.Kind = 10 then v.Kind == 6 && a9u μ v.Kids x.Kids else if x.Kind = 12 then v.Kind == 7 && a9u μ v.Kids x.Kids else
 if x.Kind = 13 then v.Kind == 8 && c13 μ v x else if x.Kind = 14 then v.Kind == 9 && c4L μ v x else if x.Kind = 16 then x.Kids.any (μ v) else if x.Kind = 17 then x.Kids.all (μ v) else
 if x.Kind = 18 then !μ v (x.Kids.getD 0 0) else if x.Kind = 19 then v.Labels.any fun y => Q7 y x.Text else false
end
def FU (b : Nat) : Nat := 4 * (b * 11 + 10) + 4
def Z5 (t : Api_Type) (v : Val) (k : Int) : Bool := (w4 (FU (w6 v)) v t k).getD false
def MS (v : Val) (k : Nat) : Nat := w6 v * 11 + (10 - k)
theorem b0Q {α β : Type} {l : List α} {m : List β} {i : Nat} {p : α × β} (h : (l.zip m)[i]? = some p) : l[i]? = some p.1 /\ m[i]? = some p.2 := by
 obtain ⟨a, b⟩ := p
 rw [List.getElem?_zip_eq_some] at h
 exact h
theorem c8g {l : List Val} (h : a1a l = true) {x : Val} (hx : x ∈ l) : vOK x = true := by
 rw [a2B] at h
 exact List.all_eq_true.1 h x hx
section
variable {t : Api_Type} {f0 b : Nat}
def RH (t : Api_Type) (f0 b : Nat) : Prop := ∀ (v : Val) (k : Nat) (f : Nat), w6 v < b -> vOK v = true -> k < t.Nodes.length -> f0 <= f -> a0e f v t (k : Int) = some (Z5 t v (k : Int)) /\ w4 f v t (k : Int) = some (Z5 t v (k : Int))
theorem b8e (hR : RH t f0 b) {l : List Val} {ks : List Int} (hl : ∀ x ∈ l, w6 x < b) (ho : a1a l = true) (hk : ∀ k ∈ ks, inR t.Nodes.length k = true) (hlen : l.length <= 4194304) (f : Nat) (hf : f0 + 1 <= f) :
 a5s f l t ks = some (a9u (Z5 t) l ks) /\ a0g f l t ks = some (a9u (Z5 t) l ks) := by
 obtain ⟨f, rfl⟩ : ∃ m, f = m + 1 := ⟨f - 1, by omega⟩
 by_cases he : l.length = ks.length
 ·have e1 : ((l.length : Int) != (ks.length : Int)) = false := by simp [he]
  have e2 : ((l.length : Int) == (ks.length : Int)) = true := by simp [he]
  have hz : (l.zip ks).length = l.length := by rw [List.length_zip]; omega
  have one : ∀ (i : Nat) (p : Val × Int), (l.zip ks)[i]? = some p -> i < l.length /\ idx l (i : Int) = some p.1 /\ idx ks (i : Int) = some p.2 /\ a0e f p.1 t p.2 = some (Z5 t p.1 p.2) /\ w4 f p.1 t p.2 = some (Z5 t p.1 p.2) := fun i p hp => by
   obtain ⟨h1, h2⟩ := b0Q hp
   obtain ⟨j, hj, hj2⟩ := a2e (hk _ (List.mem_of_getElem? h2))
   have hm := List.mem_of_getElem? h1
   have := hR p.1 j f (hl _ hm) (c8g ho hm) hj2 (by omega)
   rw [<- hj] at this
   exact ⟨(List.getElem?_eq_some_iff.1 h1).1, k7 h1, k7 h2, this⟩
  have l1 := V9 (step := a8k l t ks (a0e f)) (l.zip ks) (fun p => Z5 t p.1 p.2) (fun i => (i : Int)) () false (fun i p hp => by
   obtain ⟨h0, h1, h2, h3, _⟩ := one i p hp
   unfold a8k
   rw [Z6 h0, h1]
   simp only [cond_true, Option.bind_some, Z1]
   rw [h2]
   simp only [Option.bind_some]
   rw [h3, k9 i (by omega)]
   exact a13 _ _) (by
   unfold a8k
   simp [hz])
  have l2 := V9 (step := a1O l t ks (w4 f)) (l.zip ks) (fun p => Z5 t p.1 p.2) (fun i => (i : Int)) () false (fun i p hp => by
   obtain ⟨h0, h1, h2, _, h3⟩ := one i p hp
   unfold a1O
   rw [Z6 h0, h1]
   simp only [cond_true, Option.bind_some, Z1]
   rw [h2]
   simp only [Option.bind_some]
   rw [h3, k9 i (by omega)]
   exact a13 _ _) (by
   unfold a1O
   simp [hz])
  rw [hz] at l1 l2
  unfold a9u
  constructor
  ·show a9J f (a5s f) (V4 f) (a0w f) (a0e f) (a3i f) (a3o f) (a2j f) l t ks = _
   unfold a9J
   have l1' : j7 (a8k l t ks (a0e f)) (l.length + 1) 0 = _ := l1
   rw [e1, Y1, l1', e2]
   cases (l.zip ks).all fun p => Z5 t p.1 p.2 <;> rfl
  ·show a11 f (a0S f) (a06 f) (w4 f) (a0g f) l t ks = _
   unfold a11
   have l2' : j7 (a1O l t ks (w4 f)) (l.length + 1) 0 = _ := l2
   rw [e1, Y1, l2', e2]
   cases (l.zip ks).all fun p => Z5 t p.1 p.2 <;> rfl
 ·have e1 : ((l.length : Int) != (ks.length : Int)) = true := by simp; omega
  have e2 : ((l.length : Int) == (ks.length : Int)) = false := by simp; omega
  unfold a9u
  rw [e2]
  constructor
  ·show a9J f (a5s f) (V4 f) (a0w f) (a0e f) (a3i f) (a3o f) (a2j f) l t ks = _
   unfold a9J
   rw [e1]; rfl
  ·show a11 f (a0S f) (a06 f) (w4 f) (a0g f) l t ks = _
   unfold a11
   rw [e1]; rfl
theorem c0L {ks : List Int} (h : 1 <= ks.length) : ks[ks.length - 1]? = some (b8f ks) := by
 unfold b8f
 rw [List.getD_eq_getElem?_getD, List.getElem?_eq_getElem (show ks.length - 1 < ks.length by omega)]
 rfl
theorem b89 {ks : List Int} (h : 1 <= ks.length) (h2 : ks.length <= 4194304) : cut ks 0 (w64 ((ks.length : Int) - 1)) = some (ks.take (ks.length - 1)) := by
 rw [show w64 ((ks.length : Int) - 1) = ((ks.length - 1 : Nat) : Int) by rw [J4 (by omega) (by omega)]; omega]
 unfold cut
 rw [if_pos (by omega)]
 simp
theorem c84 (hR : RH t f0 b) {e : Ent} (ha : ∀ x ∈ e.Args, w6 x < b) (hr : w6 e.Result < b) (he : eOK e = true) (hlen : e.Args.length <= 4194304) {x : Api_TypeNode} (hk : ∀ k ∈ x.Kids, inR t.Nodes.length k = true) (h1 : 1 <= x.Kids.length) (h4 : x.Kids.length <= 4194304) (f : Nat) (hf : f0 + 2 <= f) :
 V4 f e t x = some (a2L (Z5 t) e x.Kids) := by
 obtain ⟨f, rfl⟩ : ∃ m, f = m + 1 := ⟨f - 1, by omega⟩
 rw [a9H] at he
 simp only [Bool.and_eq_true] at he
 have hall := (b8e hR (ks := x.Kids.take (x.Kids.length - 1)) ha he.1 (fun k hkk => hk k (List.mem_of_mem_take hkk)) hlen f (by omega)).1
 show a6Z f (a5s f) (V4 f) (a0w f) (a0e f) (a3i f) (a3o f) (a2j f) e t x = _
 unfold a6Z a2L
 simp only [Z1]
 rw [b89 h1 h4]
 simp only [Option.bind_some]
 rw [hall]
 simp only [Option.bind_some, a0z]
 cases a9u (Z5 t) e.Args (x.Kids.take (x.Kids.length - 1))
 ·rfl
 cases hF : e.Fails
 ·have hl := c0L h1
  obtain ⟨j, hj, hj2⟩ := a2e (hk _ (List.mem_of_getElem? hl))
  have hv : vOK e.Result = true := by have := he.2; rw [hF] at this; simpa using this
  have := (hR e.Result j f hr hv hj2 (by omega)).1
  rw [<- hj] at this
  have hw : w64 ((x.Kids.length : Int) - 1) = ((x.Kids.length - 1 : Nat) : Int) := by rw [J4 (by omega) (by omega)]; omega
  simp only [Bool.not_true, Bool.not_false, cond_false, cond_true, Bool.false_or, Bool.true_and]
  rw [hw, k7 hl]
  simp only [Option.bind_some]
  rw [this]
 ·rfl
theorem c38 (hR : RH t f0 b) {v : Val} (hv : w6 v <= b) (ho : a4T v.Entries = true) (hb : b <= 4194304) {x : Api_TypeNode} (hk : ∀ k ∈ x.Kids, inR t.Nodes.length k = true) (h1 : 1 <= x.Kids.length) (h4 : x.Kids.length <= 4194304) (f : Nat) (hf : f0 + 3 <= f) :
 a0w f v t x = some (c4L (Z5 t) v x) /\ a0S f v t x = some (c4L (Z5 t) v x) := by
 obtain ⟨f, rfl⟩ : ∃ m, f = m + 1 := ⟨f - 1, by omega⟩
 have hbe := a1x v
 have hle := a3f v.Entries
 have hw : w64 ((x.Kids.length : Int) - 1) = ((x.Kids.length - 1 : Nat) : Int) := by rw [J4 (by omega) (by omega)]; omega
 have ent : ∀ e ∈ v.Entries, (∀ y ∈ e.Args, w6 y < b) /\ w6 e.Result < b /\ eOK e = true /\ e.Args.length <= 4194304 := fun e he => by
  have hm := a0h he
  have h2 := a0f e
  have h3 := a1c e.Args
  refine ⟨fun y hy => by have := X2 hy; omega, by omega, ?_, by omega⟩
  rw [a8T] at ho
  exact List.all_eq_true.1 ho e he
 have l1 : j7 (a4M v t x (V4 f)) (v.Entries.length + 1) 0 = some (if (v.Entries.all fun e => a2L (Z5 t) e x.Kids) = true then .inl () else .inr false) := by
  refine V9 v.Entries (fun e => a2L (Z5 t) e x.Kids) (fun i => (i : Int)) () false ?_ ?_
  ·intro i e he
   have hi : i < v.Entries.length := (List.getElem?_eq_some_iff.1 he).1
   obtain ⟨a1, a2, a3, a4⟩ := ent e (List.mem_of_getElem? he)
   unfold a4M
   rw [Z6 hi, k7 he]
   simp only [cond_true, Option.bind_some, Z1]
   rw [c84 hR a1 a2 a3 a4 hk h1 h4 f (by omega), k9 i (by omega)]
   exact a13 _ _
  ·unfold a4M
   simp
 have l2 : j7 (a2R v t x (a0g f) (w4 f)) (v.Entries.length + 1) 0 = some (if (v.Entries.all fun e => a2L (Z5 t) e x.Kids) = true then .inl () else .inr false) := by
  refine V9 v.Entries (fun e => a2L (Z5 t) e x.Kids) (fun i => (i : Int)) () false ?_ ?_
  ·intro i e he
   have hi : i < v.Entries.length := (List.getElem?_eq_some_iff.1 he).1
   obtain ⟨a1, a2, a3, a4⟩ := ent e (List.mem_of_getElem? he)
   have a3' := a3
   rw [a9H] at a3'
   simp only [Bool.and_eq_true] at a3'
   have hall := (b8e hR (ks := x.Kids.take (x.Kids.length - 1)) a1 a3'.1 (fun k hkk => hk k (List.mem_of_mem_take hkk)) a4 f (by omega)).2
   unfold a2R
   rw [Z6 hi, k7 he]
   simp only [cond_true, Option.bind_some, Z1]
   rw [b89 h1 h4]
   simp only [Option.bind_some]
   rw [hall, k9 i (by omega)]
   simp only [Option.bind_some, a0z]
   unfold a2L
   cases a9u (Z5 t) e.Args (x.Kids.take (x.Kids.length - 1))
   ·rfl
   cases hF : e.Fails
   ·have hl := c0L h1
    obtain ⟨j, hj, hj2⟩ := a2e (hk _ (List.mem_of_getElem? hl))
    have hv2 : vOK e.Result = true := by have := a3'.2; rw [hF] at this; simpa using this
    have := (hR e.Result j f a2 hv2 hj2 (by omega)).2
    rw [<- hj] at this
    simp only [Bool.not_true, Bool.not_false, cond_false, cond_true, Bool.false_or, Bool.true_and]
    rw [hw, k7 hl]
    simp only [Option.bind_some]
    rw [this]
    simp only [Option.bind_some]
    cases Z5 t e.Result (b8f x.Kids) <;> rfl
   ·rfl
  ·unfold a2R
   simp
 unfold c4L
 have e0 : (v.Int_ != ((x.Kids.length - 1 : Nat) : Int)) = !(v.Int_ == ((x.Kids.length - 1 : Nat) : Int)) := rfl
 constructor
 ·show a7r f (a5s f) (V4 f) (a0w f) (a0e f) (a3i f) (a3o f) (a2j f) v t x = _
  unfold a7r
  simp only [Z1]
  rw [hw, Y1, l1, e0]
  cases (v.Int_ == ((x.Kids.length - 1 : Nat) : Int))
  ·rfl
  cases v.Entries.all fun e => a2L (Z5 t) e x.Kids <;> rfl
 ·show a5t f (a0S f) (a06 f) (w4 f) (a0g f) v t x = _
  unfold a5t
  simp only [Z1]
  rw [hw, Y1, l2, e0]
  cases (v.Int_ == ((x.Kids.length - 1 : Nat) : Int))
  ·rfl
  cases v.Entries.all fun e => a2L (Z5 t) e x.Kids <;> rfl
theorem d0a {x : Api_TypeNode} {N : Nat} (hf : ∀ f ∈ x.Fields, inR N f.Node = true) (h0 : inR N x.Rest.1 = true) (h1 : inR N x.Rest.2 = true) (k : Key) : inR N (atM x k) = true := by
 unfold atM
 cases h : x.Fields.find? fun f => a0T f.Key_ k with
 | some f => exact hf f (List.mem_of_find?_eq_some h)
 | none =>
   simp only
   unfold b59
   split <;> assumption
theorem c36 (hR : RH t f0 b) {v : Val} (hv : w6 v <= b) (ho : a1a v.Kids = true) (hm : a9t v = true) (hb : b <= 4194304) {x : Api_TypeNode} (hf : ∀ f ∈ x.Fields, inR t.Nodes.length f.Node = true) (h0 : inR t.Nodes.length x.Rest.1 = true) (h1 : inR t.Nodes.length x.Rest.2 = true) (h3 : x.Fields.length <= 4194304) (f : Nat) (hff : f0 + 1 <= f) :
 a2j f v t x = some (c13 (Z5 t) v x) /\ a06 f v t x = some (c13 (Z5 t) v x) := by
 obtain ⟨f, rfl⟩ : ∃ m, f = m + 1 := ⟨f - 1, by omega⟩
 have hbe := a1x v
 have hkl := a52 v.Keys
 unfold a9t at hm
 simp only [Bool.and_eq_true] at hm
 have hlen : v.Keys.length = v.Kids.length := by simpa using hm.1
 have hz : (v.Keys.zip v.Kids).length = v.Keys.length := by rw [List.length_zip]; omega
 have a1 : j7 (a7O v x) (x.Fields.length + 1) 0 = some (if (x.Fields.all fun f => f.Optional || v.Keys.any fun y => a0T y f.Key_) = true then .inl () else .inr false) := by
  refine V9 x.Fields (fun f => f.Optional || v.Keys.any fun y => a0T y f.Key_) (fun i => (i : Int)) () false ?_ ?_
  ·intro i g hx
   have hi : i < x.Fields.length := (List.getElem?_eq_some_iff.1 hx).1
   unfold a7O
   rw [Z6 hi, k7 hx]
   simp only [cond_true, Option.bind_some, Z1]
   rw [c3E _ _ (by omega), k9 i (by omega)]
   cases g.Optional <;> cases (v.Keys.any fun y => a0T y g.Key_) <;> rfl
  ·unfold a7O
   simp
 have a2 : j7 (a3m v x) (x.Fields.length + 1) 0 = some (if (x.Fields.all fun f => f.Optional || v.Keys.any fun y => a0T y f.Key_) = true then .inl () else .inr false) := by
  refine V9 x.Fields (fun f => f.Optional || v.Keys.any fun y => a0T y f.Key_) (fun i => (i : Int)) () false ?_ ?_
  ·intro i g hx
   have hi : i < x.Fields.length := (List.getElem?_eq_some_iff.1 hx).1
   obtain ⟨r, e1, e2⟩ := c8Q v g.Key_ (by omega)
   unfold a3m
   rw [Z6 hi, k7 hx]
   simp only [cond_true, Option.bind_some, Z1]
   rw [e1, k9 i (by omega)]
   simp only [Option.bind_some]
   rw [e2]
   cases g.Optional <;> cases (v.Keys.any fun y => a0T y g.Key_) <;> rfl
  ·unfold a3m
   simp
 have one : ∀ (i : Nat) (p : Key × Val), (v.Keys.zip v.Kids)[i]? = some p -> i < v.Keys.length /\ idx v.Keys (i : Int) = some p.1 /\ idx v.Kids (i : Int) = some p.2 /\ a0c p.1 = true /\ a0e f p.2 t (atM x p.1) = some (Z5 t p.2 (atM x p.1)) /\ w4 f p.2 t (atM x p.1) = some (Z5 t p.2 (atM x p.1)) := fun i p hp => by
  obtain ⟨q1, q2⟩ := b0Q hp
  have m1 := List.mem_of_getElem? q1
  have m2 := List.mem_of_getElem? q2
  obtain ⟨j, hj, hj2⟩ := a2e (d0a hf h0 h1 p.1)
  have hbm := X2 m2
  have := hR p.2 j f (by omega) (c8g ho m2) hj2 (by omega)
  rw [<- hj] at this
  exact ⟨(List.getElem?_eq_some_iff.1 q1).1, k7 q1, k7 q2, List.all_eq_true.1 hm.2.2 _ m1, this⟩
 have b1 := V9 (step := a5V v t x (a0e f)) (v.Keys.zip v.Kids) (fun p => Z5 t p.2 (atM x p.1)) (fun i => (i : Int)) () false (fun i p hp => by
  obtain ⟨h0, h1, h2, h3', h4, _⟩ := one i p hp
  unfold a5V
  rw [Z6 h0, h1]
  simp only [cond_true, Option.bind_some, Z1]
  rw [h2]
  simp only [Option.bind_some]
  rw [d0c x p.1 h3 h3']
  simp only [Option.bind_some]
  rw [h4, k9 i (by omega)]
  exact a13 _ _) (by
  unfold a5V
  simp [hz])
 have b2 := V9 (step := a1N v t x (w4 f)) (v.Keys.zip v.Kids) (fun p => Z5 t p.2 (atM x p.1)) (fun i => (i : Int)) () false (fun i p hp => by
  obtain ⟨h0, h1, h2, h3', _, h4⟩ := one i p hp
  unfold a1N
  rw [Z6 h0, h1]
  simp only [cond_true, Option.bind_some, Z1]
  have hrest : (bif p.1.Kind == 0 then some x.Rest.1 else (bif p.1.Kind == 1 then some x.Rest.2 else none)) = some (b59 x p.1) := by
   unfold b59
   rcases c56 h3' with h | h
   ·simp [h]
   ·simp [h]
  rw [hrest]
  have hto : ∀ {β : Type} (g : Int -> Option β), (Option.bind (a2F x p.1) fun r11 => Option.bind (some (b59 x p.1)) fun b13 => Option.bind (bif decide (0 <= r11) then (Option.bind (idx x.Fields r11) fun e14 => some e14.Node) else (some b13)) g) = g (atM x p.1) := by
   intro β g
   rcases c5O x p.1 h3 with ⟨i', fl, e1, e2, e3⟩ | ⟨e1, e3⟩
   ·rw [e1]
    simp only [Option.bind_some, c2K, cond_true]
    rw [k7 e2]
    simp only [Option.bind_some, e3]
   ·rw [e1]
    simp only [Option.bind_some, d0V, cond_false, e3]
  rw [hto, h2]
  simp only [Option.bind_some]
  rw [h4, k9 i (by omega)]
  exact a13 _ _) (by
  unfold a1N
  simp [hz])
 rw [hz] at b1 b2
 unfold c13
 constructor
 ·show b1o f (a5s f) (V4 f) (a0w f) (a0e f) (a3i f) (a3o f) (a2j f) v t x = _
  unfold b1o
  have b1' : j7 (a5V v t x (a0e f)) (v.Keys.length + 1) 0 = _ := b1
  rw [Y1, a1, Y1, b1']
  cases (x.Fields.all fun f => f.Optional || v.Keys.any fun y => a0T y f.Key_)
  ·rfl
  cases (v.Keys.zip v.Kids).all fun p => Z5 t p.2 (atM x p.1) <;> rfl
 ·show a5W f (a0S f) (a06 f) (w4 f) (a0g f) v t x = _
  unfold a5W
  have b2' : j7 (a1N v t x (w4 f)) (v.Keys.length + 1) 0 = _ := b2
  rw [Y1, a2, Y1, b2']
  cases (x.Fields.all fun f => f.Optional || v.Keys.any fun y => a0T y f.Key_)
  ·rfl
  cases (v.Keys.zip v.Kids).all fun p => Z5 t p.2 (atM x p.1) <;> rfl
end
end Go.Pl
namespace Go.Pl
open Go Go.RowKit Go.Sx Go.Qx
section
variable {t : Api_Type}
theorem GT.ord (hT : GT t) {k : Nat} {x : Api_TypeNode} (hx : t.Nodes[k]? = some x) (hb : isB x = true) {j : Int} (hj : j ∈ x.Kids) : ∃ j' : Nat, j = (j' : Int) /\ k < j' /\ j' < t.Nodes.length := by
 have hg := hT.nodes k x hx
 obtain ⟨j', e, h1⟩ := a2e (a2x hg.ok j hj)
 have := hg.ord hb j hj
 exact ⟨j', e, by omega, h1⟩
theorem c0q {N : Nat} {x : Api_TypeNode} (h : W7 N x = true) : a3W N x = true := by
 unfold W7 at h
 simp only [Bool.and_eq_true] at h
 exact h.2.2.2.2
theorem c4k {N : Nat} {x : Api_TypeNode} (h : W7 N x = true) : x.Kind = 1 \/ x.Kind = 2 \/ x.Kind = 3 \/ x.Kind = 4 \/ x.Kind = 5 \/ x.Kind = 6 \/ x.Kind = 7 \/ x.Kind = 8 \/ x.Kind = 9 \/ x.Kind = 10 \/ x.Kind = 11 \/ x.Kind = 12 \/ x.Kind = 13 \/ x.Kind = 14 \/ x.Kind = 15 \/ x.Kind = 16 \/ x.Kind = 17 \/ x.Kind = 18 \/ x.Kind = 19 := by
 rcases a9I x.Kind with hk | hk
 ·exact hk
 ·have e : ∀ n : Int, 1 <= n -> n <= 19 -> ¬ x.Kind = n := fun n h1 h2 => by simpa using hk n h1 h2
  have hn := c0q h
  unfold a3W at hn
  rw [if_neg (e 3 (by omega) (by omega)), if_neg (e 4 (by omega) (by omega)), if_neg (e 6 (by omega) (by omega)), if_neg (e 19 (by omega) (by omega)), if_neg (by have := e 1 (by omega) (by omega); have := e 2 (by omega) (by omega); have := e 5 (by omega) (by omega); have := e 7 (by omega) (by omega); have := e 8 (by omega) (by omega); have := e 9 (by omega) (by omega); have := e 11 (by omega) (by omega); have := e 15 (by omega) (by omega); omega),
   if_neg (e 10 (by omega) (by omega)), if_neg (e 12 (by omega) (by omega)), if_neg (e 14 (by omega) (by omega)), if_neg (by have := e 16 (by omega) (by omega); have := e 17 (by omega) (by omega); omega), if_neg (e 18 (by omega) (by omega)), if_neg (e 13 (by omega) (by omega))] at hn
  cases hn
theorem b9n {N : Nat} {x : Api_TypeNode} (h : W7 N x = true) (hk : x.Kind = 14) : 1 <= x.Kids.length /\ x.Kids.length <= 5 := by
 have hn := c0q h
 unfold a3W at hn
 simp [hk] at hn
 omega
theorem c2E {N : Nat} {x : Api_TypeNode} (h : W7 N x = true) (hk : x.Kind = 18) : x.Kids.length = 1 := by
 have hn := c0q h
 unfold a3W at hn
 simp [hk] at hn
 omega
theorem c2r {N : Nat} {x : Api_TypeNode} (h : W7 N x = true) (hk : x.Kind = 13) : (∀ f ∈ x.Fields, inR N f.Node = true) /\ inR N x.Rest.1 = true /\ inR N x.Rest.2 = true := by
 have hn := c0q h
 unfold a3W a6W at hn
 simp [hk] at hn
 exact ⟨hn.1.2.2, hn.2.2.1, hn.2.2.2⟩
theorem c1H {v : Val} (h : vOK v = true) (hk : v.Kind = 8) : a9t v = true := by
 rw [b9x] at h
 simp only [Bool.and_eq_true] at h
 have := h.1
 unfold a16 a4q at this
 simp only [Bool.and_eq_true] at this
 have h2 := this.2.2
 simp [hk] at h2
 exact h2
theorem c6Q {v : Val} (h : vOK v = true) : a1a v.Kids = true /\ a4T v.Entries = true := by
 rw [b9x] at h
 simp only [Bool.and_eq_true] at h
 exact h.2
theorem b72 {α : Type} (p : α -> Bool) (l : List α) : (!(l.any fun x => !p x)) = l.all p := by
 rw [Bool.eq_iff_iff]
 simp
theorem c8L (hT : GT t) {v : Val} {k : Nat} {x : Api_TypeNode} (hx : t.Nodes[k]? = some x) (ho : vOK v = true) (hb : w6 v <= 4194304) {f0 : Nat} (hR : RH t f0 (w6 v))
 (hB : isB x = true -> ∀ j ∈ x.Kids, ∀ f, f0 <= f -> a0e f v t j = some (Z5 t v j) /\ w4 f v t j = some (Z5 t v j)) (f : Nat) (hf : f0 + 4 <= f) :
 a0e f v t (k : Int) = some (unM (Z5 t) v x) /\ w4 f v t (k : Int) = some (unM (Z5 t) v x) := by
 obtain ⟨f, rfl⟩ : ∃ m, f = m + 1 := ⟨f - 1, by omega⟩
 have hg := hT.nodes k x hx
 have hn := hg.ok
 have hk4 := hg.kids
 have hf3 := hg.flds
 have hkr := a2x hn
 obtain ⟨ho1, ho2⟩ := c6Q ho
 have hbe := a1x v
 have hkl := a1c v.Kids
 have hll := a4A v.Labels
 have hall := b8e hR (l := v.Kids) (ks := x.Kids) (fun y hy => by have := X2 hy; omega) ho1 hkr (by omega) f (by omega)
 have hlab := c4M v.Labels x.Text (by omega)
 have hlab2 : (Option.bind (j7 (a2d v x) (v.Labels.length + 1) 0) fun b30 => v7 (fun _ => some false) (fun y32 => some y32) b30) = some (v.Labels.any fun y => Q7 y x.Text) := by
  rcases a7X (step := a2d v x) v.Labels (fun y => Q7 y x.Text) (fun _ _ => true) (fun i y hy => by
   have hi : i < v.Labels.length := (List.getElem?_eq_some_iff.1 hy).1
   unfold a2d
   rw [Z6 hi, k7 hy]
   simp only [cond_true, Option.bind_some, Z1]
   rw [k9 i (by omega)]
   cases Q7 y x.Text <;> rfl) (by
   unfold a2d
   simp) with ⟨i, y, hy, hp, _, e⟩ | ⟨h, e⟩
  ·rw [e, b3a hy hp]; rfl
  ·rw [e, h]; rfl
 have hbool : isB x = true -> Y5 x.Kids (fun z => a3i f z v t) = some (x.Kids.any (Z5 t v)) /\ (Option.bind (Y5 x.Kids (fun z => a3o f z v t)) fun r => some (!r)) = some (x.Kids.all (Z5 t v)) /\
  (Option.bind (j7 (a18 v t x (w4 f)) (x.Kids.length + 1) 0) fun b17 => v7 (fun _ => some false) (fun y19 => some y19) b17) = some (x.Kids.any (Z5 t v)) /\
  (Option.bind (j7 (a1l v t x (w4 f)) (x.Kids.length + 1) 0) fun b23 => v7 (fun _ => some true) (fun y25 => some y25) b23) = some (x.Kids.all (Z5 t v)) := fun hb => by
  have hB := hB hb
  obtain ⟨f, rfl⟩ : ∃ m, f = m + 1 := ⟨f - 1, by omega⟩
  refine ⟨a7W _ _ _ (by omega) fun z hz => ?_, ?_, ?_, ?_⟩
  ·show b2R f (a5s f) (V4 f) (a0w f) (a0e f) (a3i f) (a3o f) (a2j f) z v t = _
   unfold b2R
   rw [(hB z hz f (by omega)).1]
   rfl
  ·rw [a7W _ _ (fun z => !Z5 t v z) (by omega) fun z hz => ?_]
   ·simp only [Option.bind_some]
    rw [b72]
   ·show b3g f (a5s f) (V4 f) (a0w f) (a0e f) (a3i f) (a3o f) (a2j f) z v t = _
    unfold b3g
    rw [(hB z hz f (by omega)).1]
    rfl
  ·rcases a7X (step := a18 v t x (w4 (f + 1))) x.Kids (Z5 t v) (fun _ _ => true) (fun i y hy => by
    have hi : i < x.Kids.length := (List.getElem?_eq_some_iff.1 hy).1
    unfold a18
    rw [Z6 hi, k7 hy]
    simp only [cond_true, Option.bind_some, Z1]
    rw [(hB y (List.mem_of_getElem? hy) (f + 1) (by omega)).2, k9 i (by omega)]
    simp only [Option.bind_some]
    cases Z5 t v y <;> rfl) (by
    unfold a18
    simp) with ⟨i, y, hy, hp, _, e⟩ | ⟨h, e⟩
   ·rw [e, b3a hy hp]; rfl
   ·rw [e, h]; rfl
  ·have l2 := V9 (step := a1l v t x (w4 (f + 1))) x.Kids (Z5 t v) (fun i => (i : Int)) () false (fun i y hy => by
    have hi : i < x.Kids.length := (List.getElem?_eq_some_iff.1 hy).1
    unfold a1l
    rw [Z6 hi, k7 hy]
    simp only [cond_true, Option.bind_some, Z1]
    rw [(hB y (List.mem_of_getElem? hy) (f + 1) (by omega)).2, k9 i (by omega)]
    exact a13 _ _) (by
    unfold a1l
    simp)
   have l2' : j7 (a1l v t x (w4 (f + 1))) (x.Kids.length + 1) 0 = _ := l2
   rw [l2']
   cases x.Kids.all (Z5 t v) <;> rfl
 have hidx := k7 hx
 constructor
 ·show b54 f (a5s f) (V4 f) (a0w f) (a0e f) (a3i f) (a3o f) (a2j f) v t (k : Int) = _
  unfold b54
  rw [hidx]
  simp only [Option.bind_some, a0z]
  rcases c4k hn with hK | hK | hK | hK | hK | hK | hK | hK | hK | hK | hK | hK | hK | hK | hK | hK | hK | hK | hK <;> unfold unM <;> simp only [hK, Int.reduceBEq, Int.reduceEq, if_true, if_false, cond_true, cond_false, Option.bind_some]
  ·cases v.Kind == 1 <;> cases decide (x.Lo <= v.Int_) <;> rfl
  ·cases v.Kind == 2 <;> rfl
  ·rfl
  ·cases v.Kind == 3 <;> rfl
  ·rfl
  ·rfl
  ·rfl
  ·rw [hall.1]
   cases v.Kind == 6 <;> rfl
  ·rfl
  ·rw [hall.1]
   cases v.Kind == 7 <;> rfl
  ·cases hv : v.Kind == 8
   ·rfl
   ·obtain ⟨q1, q2, q3⟩ := c2r hn hK
    rw [(c36 hR (Nat.le_refl _) ho1 (c1H ho (by simpa using hv)) hb q1 q2 q3 (by omega) f (by omega)).1]
    rfl
  ·obtain ⟨q1, q2⟩ := b9n hn hK
   rw [(c38 hR (Nat.le_refl _) ho2 hb hkr q1 (by omega) f (by omega)).1]
   cases v.Kind == 9 <;> rfl
  ·rfl
  ·exact (hbool (by unfold isB; rw [hK]; rfl)).1
  ·exact (hbool (by unfold isB; rw [hK]; rfl)).2.1
  ·have h1 := c2E hn hK
   have ek := List.getElem?_eq_getElem (show 0 < x.Kids.length by omega)
   have e0 : idx x.Kids 0 = some x.Kids[0] := k7 ek
   rw [e0]
   simp only [Option.bind_some]
   rw [(hB (by unfold isB; rw [hK]; rfl) _ (List.mem_of_getElem? ek) f (by omega)).1, List.getD_eq_getElem?_getD, ek]
   rfl
  ·exact hlab
 ·show a6t f (a0S f) (a06 f) (w4 f) (a0g f) v t (k : Int) = _
  unfold a6t
  rw [hidx]
  simp only [Option.bind_some, Y1]
  rcases c4k hn with hK | hK | hK | hK | hK | hK | hK | hK | hK | hK | hK | hK | hK | hK | hK | hK | hK | hK | hK <;> unfold unM <;> simp only [hK, Int.reduceBEq, Int.reduceEq, if_true, if_false, cond_true, cond_false, Option.bind_some]
  ·cases v.Kind == 1 <;> cases decide (x.Lo <= v.Int_) <;> rfl
  ·cases v.Kind == 2 <;> rfl
  ·cases v.Kind == 3 <;> rfl
  ·rw [hall.2]
   cases v.Kind == 6 <;> rfl
  ·rw [hall.2]
   cases v.Kind == 7 <;> rfl
  ·cases hv : v.Kind == 8
   ·rfl
   ·obtain ⟨q1, q2, q3⟩ := c2r hn hK
    rw [(c36 hR (Nat.le_refl _) ho1 (c1H ho (by simpa using hv)) hb q1 q2 q3 (by omega) f (by omega)).2]
    rfl
  ·obtain ⟨q1, q2⟩ := b9n hn hK
   rw [(c38 hR (Nat.le_refl _) ho2 hb hkr q1 (by omega) f (by omega)).2]
   cases v.Kind == 9 <;> rfl
  ·exact (hbool (by unfold isB; rw [hK]; rfl)).2.2.1
  ·exact (hbool (by unfold isB; rw [hK]; rfl)).2.2.2
  ·have h1 := c2E hn hK
   have ek := List.getElem?_eq_getElem (show 0 < x.Kids.length by omega)
   have e0 : idx x.Kids 0 = some x.Kids[0] := k7 ek
   rw [e0]
   simp only [Option.bind_some]
   rw [(hB (by unfold isB; rw [hK]; rfl) _ (List.mem_of_getElem? ek) f (by omega)).2, List.getD_eq_getElem?_getD, ek]
   rfl
  ·exact hlab2
theorem b8L (hT : GT t) : ∀ (m : Nat) (v : Val) (k : Nat) (x : Api_TypeNode), MS v k <= m -> vOK v = true -> w6 v <= 4194304 -> t.Nodes[k]? = some x ->
 (∀ f, 4 * MS v k + 4 <= f -> a0e f v t (k : Int) = some (Z5 t v (k : Int)) /\ w4 f v t (k : Int) = some (Z5 t v (k : Int))) /\ Z5 t v (k : Int) = unM (Z5 t) v x := by
 intro m
 induction m with
 | zero => intro v k x h; have := a88 v; unfold MS at h; omega
 | succ m ih =>
   intro v k x hm ho hb hx
   have hkN : k < t.Nodes.length := (List.getElem?_eq_some_iff.1 hx).1
   have hN := hT.len
   have hR : RH t (4 * MS v k) (w6 v) := fun w j f hw hwo hj hf => by
    have ej := List.getElem?_eq_getElem hj
    have hlt : MS w j + 1 <= MS v k := by unfold MS; omega
    exact (ih w j _ (by omega) hwo (by omega) ej).1 f (by omega)
   have hst := c8L hT hx ho hb hR (fun hbx j hj f hf => by
    obtain ⟨j', rfl, h1, h2⟩ := hT.ord hx hbx hj
    have ej := List.getElem?_eq_getElem h2
    have hlt : MS v j' + 1 <= MS v k := by unfold MS; omega
    exact (ih v j' _ (by omega) ho hb ej).1 f (by omega))
   have hmem : Z5 t v (k : Int) = unM (Z5 t) v x := by
    have hFU : 4 * MS v k + 4 <= FU (w6 v) := by unfold FU MS; omega
    have := (hst (FU (w6 v)) hFU).2
    unfold Z5 at *
    rw [this]
    rfl
   refine ⟨fun f hf => ?_, hmem⟩
   rw [hmem]
   exact hst f hf
theorem c5u (hT : GT t) {v : Val} {k : Nat} (ho : vOK v = true) (hb : w6 v <= 4194304) (hk : k < t.Nodes.length) (f : Nat) (hf : FU (w6 v) <= f) : a0e f v t (k : Int) = some (Z5 t v (k : Int)) :=
 ((b8L hT (MS v k) v k _ (Nat.le_refl _) ho hb (List.getElem?_eq_getElem hk)).1 f (by unfold FU at hf; unfold MS; omega)).1
theorem c1p (hT : GT t) {v : Val} {k : Nat} (ho : vOK v = true) (hb : w6 v <= 4194304) (hk : k < t.Nodes.length) (f : Nat) (hf : FU (w6 v) <= f) : w4 f v t (k : Int) = some (Z5 t v (k : Int)) :=
 ((b8L hT (MS v k) v k _ (Nat.le_refl _) ho hb (List.getElem?_eq_getElem hk)).1 f (by unfold FU at hf; unfold MS; omega)).2
theorem c8H (hT : GT t) {v : Val} {k : Nat} {x : Api_TypeNode} (hx : t.Nodes[k]? = some x) (ho : vOK v = true) (hb : w6 v <= 4194304) : Z5 t v (k : Int) = unM (Z5 t) v x :=
 (b8L hT (MS v k) v k x (Nat.le_refl _) ho hb hx).2
theorem c9J (hT : GT t) (b : Nat) (hb : b <= 4194304) : RH t (FU b) b := fun v k f hv ho hk hf => by
 have hFU : FU (w6 v) <= FU b := by unfold FU; omega
 exact ⟨c5u hT ho (by omega) hk f (by omega), c1p hT ho (by omega) hk f (by omega)⟩
end
end Go.Pl
namespace Go.Pl
open Go Go.RowKit Go.Sx Go.Qx
section
variable {t : Api_Type}
theorem GT.all (hT : GT t) : a7A t.Nodes = true := List.all_eq_true.2 fun x hx => by
 obtain ⟨i, hi, rfl⟩ := List.getElem_of_mem hx
 exact (hT.nodes i _ (List.getElem?_eq_getElem hi)).ok
theorem GT.ordT (hT : GT t) : c2S t.Nodes := fun i x hx hb k hk => (hT.nodes i x hx).ord hb k hk
theorem GT.small (hT : GT t) : ∀ x ∈ t.Nodes, x.Kids.length <= 1100000 /\ x.Fields.length <= 1100000 := fun x hx => by
 obtain ⟨i, hi, rfl⟩ := List.getElem_of_mem hx
 have hg := hT.nodes i _ (List.getElem?_eq_getElem hi)
 have h1 := hg.kids
 have h2 := hg.flds
 omega
theorem wf0 (hT : GT t) (hr : inR t.Nodes.length t.Root = true) (f : Nat) (hf : 1100001 <= f) : a0i f t = some 0 := by
 have hN := hT.len
 rw [d0t t hT.ordT hT.small (by omega) f (by omega), hT.all, hr]
 rfl
theorem c7C (hT : GT t) (hr : inR t.Nodes.length t.Root = true) (f : Nat) (hf : 1100001 <= f) : X6 f t = some 0 := by
 have hN := hT.len
 rw [c93 t hT.ordT hT.small (by omega) f hf, hT.all, hr]
 rfl
def fnB (t : Api_Type) (k : Int) : Bool := inR t.Nodes.length k && (match t.Nodes[k.toNat]? with | some x => x.Kind == 14 | none => false)
def arB (t : Api_Type) (e : Ent) (k : Int) : Bool := match t.Nodes[k.toNat]? with
 | some x => ((x.Kids.length : Int) == (e.Args.length : Int) + 1) && a2L (Z5 t) e x.Kids
 | none => false
def b5e (t : Api_Type) (e : Ent) (pos : List Int) : Bool := eOK e && pos.all fun k => fnB t k && arB t e k
theorem c9X (pos : List Int) (hp : pos.length <= 4194304) : a5c t pos = some (pos.all (fnB t)) := by
 unfold a5c
 rw [a7W pos _ (fun k => !fnB t k) hp fun k hk => ?_]
 ·simp only [Option.bind_some]
  rw [b72]
 ·unfold a8h fnB inR
  simp only [a0z]
  by_cases h1 : k < 0
  ·have a1 : decide (k < 0) = true := by simpa using h1
   have a2 : decide (0 <= k) = false := by simp; omega
   rw [a1, a2]; rfl
  ·have a1 : decide (k < 0) = false := by simpa using h1
   have a2 : decide (0 <= k) = true := by simp; omega
   rw [a1, a2]
   by_cases h2 : k < (t.Nodes.length : Int)
   ·have a3 : decide ((t.Nodes.length : Int) <= k) = false := by simp; omega
    have a4 : decide (k < (t.Nodes.length : Int)) = true := by simpa using h2
    have ek := List.getElem?_eq_getElem (show k.toNat < t.Nodes.length by omega)
    have ei : idx t.Nodes k = some t.Nodes[k.toNat] := by
     have := k7 ek
     rwa [show ((k.toNat : Nat) : Int) = k by omega] at this
    rw [a3, a4, ei, ek]
    rfl
   ·have a3 : decide ((t.Nodes.length : Int) <= k) = true := by simp; omega
    have a4 : decide (k < (t.Nodes.length : Int)) = false := by simpa using h2
    rw [a3, a4]; rfl
theorem c6P (n : Nat) (h : n <= 4194304) : w64 ((n : Int) + 1) = (n : Int) + 1 := J4 (by omega) (by omega)
end
end Go.Pl
end
section
namespace Go.Pl
open Go Go.RowKit Go.Sx Go.Qx
section
variable {t : Api_Type}
abbrev c4u : Api_Type := Api_Type.mk ([Api_TypeNode.mk 2 0 0 (⟨#[]⟩ : ByteArray) ([] : List Int) ([] : List Api_Field) (0, 0)] : List Api_TypeNode) 0
theorem c9U : GT c4u := ⟨by decide, fun i x hx => by
 cases i with
 | zero =>
   have e : x = a8S 2 [] := by
    have : some (a8S 2 []) = some x := hx
    cases this; rfl
   rw [e]
   exact b7v (by omega)
 | succ i => simp at hx⟩
theorem c6v (v : Val) (f : Nat) (hf : 1100001 <= f) (h : 2 * w6 v <= f) (hb : w6 v <= 4194304) : a30 f v c4u 0 = some (vOK v) := by
 unfold a30
 rw [a9V f v h hb, c7C c9U rfl f hf]
 obtain ⟨f, rfl⟩ : ∃ m, f = m + 1 := ⟨f - 1, by omega⟩
 have hm : w4 (f + 1) v c4u 0 = some true := rfl
 have hi : V3 c4u 0 = some true := rfl
 rw [hm, hi]
 cases vOK v <;> rfl
theorem c8v (hT : GT t) (e : Ent) (hE : eOK e = true) (hb : a1W e <= 4194304) {j : Nat} {x : Api_TypeNode} (hx : t.Nodes[j]? = some x) (hK : x.Kind = 14) (f : Nat) (hf : 200000000 <= f) : a6A f e t (j : Int) = some (a2L (Z5 t) e x.Kids) := by
 have h2 := a0f e
 have h3 := a1c e.Args
 have hFU : FU (a1W e) + 4 <= f := by unfold FU; omega
 have hR := c9J hT (a1W e) hb
 have hg := hT.nodes j x hx
 have hkl := hg.kids
 obtain ⟨q1, q2⟩ := b9n hg.ok hK
 rw [a9H] at hE
 simp only [Bool.and_eq_true] at hE
 have hall := (b8e hR (ks := x.Kids.take (x.Kids.length - 1)) (fun y hy => by have := X2 hy; omega) hE.1 (fun k hkk => a2x hg.ok k (List.mem_of_mem_take hkk)) (by omega) f (by omega)).2
 unfold a6A a2L
 simp only [Z1]
 rw [k7 hx]
 simp only [Option.bind_some]
 rw [b89 q1 (by omega)]
 simp only [Option.bind_some]
 rw [hall]
 simp only [Option.bind_some, a0z]
 cases a9u (Z5 t) e.Args (x.Kids.take (x.Kids.length - 1))
 ·rfl
 cases hF : e.Fails
 ·have hl := c0L q1
  obtain ⟨i, hi, hi2⟩ := a2e (a2x hg.ok _ (List.mem_of_getElem? hl))
  have hv : vOK e.Result = true := by have := hE.2; rw [hF] at this; simpa using this
  have := (hR e.Result i f (by omega) hv hi2 (by omega)).2
  rw [<- hi] at this
  have hw : w64 ((x.Kids.length : Int) - 1) = ((x.Kids.length - 1 : Nat) : Int) := by rw [J4 (by omega) (by omega)]; omega
  simp only [Bool.not_true, Bool.not_false, cond_false, cond_true, Bool.false_or, Bool.true_and]
  rw [hw, k7 hl]
  simp only [Option.bind_some]
  rw [this]
 ·rfl
theorem b8I (hT : GT t) (hr : inR t.Nodes.length t.Root = true) (e : Ent) (hb : a1W e <= 4194304) (pos : List Int) (hp : pos.length <= 4194304) (f : Nat) (hf : 200000000 <= f) : a2U f e t pos = some (b5e t e pos) := by
 have h2 := a0f e
 have h3 := a1c e.Args
 unfold a2U
 rw [Y0 (by omega)]
 have hb3 : (Option.bind (bif !e.Fails then (Option.bind (Z7 (e.Args.length + ([e.Result] : List Val).length) 128) fun _ => some (e.Args ++ ([e.Result] : List Val))) else (some e.Args)) fun q => some q) = some (if e.Fails = true then e.Args else e.Args ++ [e.Result]) := by
  rw [Y0 (by simp only [List.length_cons, List.length_nil]; omega)]
  cases e.Fails <;> rfl
 rw [a0z] at hb3
 simp only [Option.bind_some]
 rw [hb3, c7C hT hr f (by omega)]
 simp only [Option.bind_some, bne_self_eq_false, cond_false, Y1]
 generalize hb4 : (if e.Fails = true then e.Args else e.Args ++ [e.Result]) = vs
 have hvs : ∀ v ∈ vs, w6 v <= a1W e := fun v hv => by
  rw [<- hb4] at hv
  split at hv
  ·have := X2 hv; omega
  ·rcases List.mem_append.1 hv with hv | hv
   ·have := X2 hv; omega
   ·rw [List.mem_singleton.1 hv]; omega
 have hvl : vs.length <= 4194305 := by
  rw [<- hb4]
  split
  ·omega
  ·simp only [List.length_append, List.length_cons, List.length_nil]; omega
 have heq : vs.all vOK = eOK e := by
  rw [<- hb4, a9H, a2B]
  cases e.Fails <;> simp
 have l1 := V9 (step := a1M vs f) vs vOK (fun i => (i : Int)) () false (fun i v hv => by
  have hi : i < vs.length := (List.getElem?_eq_some_iff.1 hv).1
  have hbv := hvs v (List.mem_of_getElem? hv)
  unfold a1M
  rw [Z6 hi, k7 hv]
  simp only [cond_true, Option.bind_some, Z1]
  rw [c6v v f (by omega) (by omega) (by omega), k9 i (by omega)]
  exact a13 _ _) (by
  unfold a1M
  simp)
 have l1' : j7 (a1M vs f) (vs.length + 1) 0 = _ := l1
 rw [l1', heq]
 unfold b5e
 cases hE : eOK e
 ·rfl
 have l2 := V9 (step := a1Q e t pos f) pos (fun k => fnB t k && arB t e k) (fun i => (i : Int)) () false (fun i k hk => by
  have hi : i < pos.length := (List.getElem?_eq_some_iff.1 hk).1
  unfold a1Q
  rw [Z6 hi, k7 hk]
  simp only [cond_true, Option.bind_some, Z1]
  rw [b0n, k9 i (by omega)]
  simp only [Option.bind_some, a0z]
  cases hR0 : inR t.Nodes.length k with
  | false =>
    have : fnB t k = false := by unfold fnB; rw [hR0]; rfl
    rw [this]; rfl
  | true =>
    obtain ⟨j, rfl, hj⟩ := a2e hR0
    have ej := List.getElem?_eq_getElem hj
    generalize t.Nodes[j] = x at ej
    simp only [Bool.not_true, cond_false]
    rw [k7 ej]
    simp only [Option.bind_some]
    have hfn : fnB t (j : Int) = (x.Kind == 14) := by
     unfold fnB
     rw [hR0, Int.toNat_natCast, ej]
     rfl
    have har : arB t e (j : Int) = (((x.Kids.length : Int) == (e.Args.length : Int) + 1) && a2L (Z5 t) e x.Kids) := by
     unfold arB
     rw [Int.toNat_natCast, ej]
    rw [hfn, har, c6P e.Args.length (by omega)]
    by_cases hK : x.Kind = 14
    ·have a0 : (x.Kind == 14) = true := by simpa using hK
     have a1 : (x.Kind != 14) = false := by simp [hK]
     rw [a0, a1, c8v hT e hE hb ej hK f hf]
     have a2 : ((x.Kids.length : Int) != (e.Args.length : Int) + 1) = !((x.Kids.length : Int) == (e.Args.length : Int) + 1) := rfl
     rw [a2]
     cases ((x.Kids.length : Int) == (e.Args.length : Int) + 1) <;> cases a2L (Z5 t) e x.Kids <;> rfl
    ·have a0 : (x.Kind == 14) = false := by simpa using hK
     have a1 : (x.Kind != 14) = true := by simpa using hK
     rw [a0, a1]
     rfl) (by
  unfold a1Q
  simp)
 have l2' : j7 (a1Q e t pos f) (pos.length + 1) 0 = _ := l2
 simp only [if_true, v7, Option.bind_some, Bool.true_and]
 rw [l2']
 cases pos.all fun k => fnB t k && arB t e k <;> rfl
end
end Go.Pl
end
section
namespace Go.Pl
open Go Go.RowKit Go.Sx Go.Qx
abbrev d0U : Type := Int × Int × Int × ByteArray × (List Int) × (List Api_Field) × Int × Int
abbrev c69 (l : List Int) : d0U := (14, 0, 0, (⟨#[]⟩ : ByteArray), l, [], 0, 0)
structure MadeT (T : Api_Type) (N a : Nat) : Prop where
 gt : GT T
 root : T.Root = 0
 pos : 1 <= N
 len : T.Nodes.length = N + 3
 ar : a <= 2
 fn : ∀ j, j < 3 -> ∃ l, T.Nodes[N + j]? = some (a8S 14 l) /\ l.length = a + 1
structure MadeE (a : Nat) (e : Ent) : Prop where
 args : e.Args.length = a
 ok : a1a e.Args = true
 res : (e.Fails = true /\ e.Result = a38) \/ (e.Fails = false /\ vOK e.Result = true)
 bulk : a1W e <= 200000
section
variable {L : List Int}
theorem c5q (hL : L.length <= 4194304) (r2 : ((List Api_TypeNode) × Int) × Semtypebase_Source) (N a : Nat) (hN : r2.1.1.length = N) (hN1 : 1 <= N) (hN2 : N <= 100) (ha : a <= 2) (q : Semtypebase_Source) {s : Semtypebase_Source} (hs : OS L s) :
 ∃ l u, j7 (a2q r2 ((a : Int), q)) ((a : Int).toNat + 2) (0, s, (14, 0, 0, (⟨#[]⟩ : ByteArray), [], [], 0, 0)) = some (u, c69 l) /\ OS L u /\ l.length = a + 1 /\ ∀ k ∈ l, inR N k = true := by
 obtain ⟨g, u, e, hu, h1, h2⟩ := b3k (γ := List Int) (L := L) (step := a2q r2 ((a : Int), q)) (fun g j s => (j, s, c69 g)) (fun g s => (s, c69 g)) (fun j g => g.length = j /\ ∀ k ∈ g, inR N k = true) (a + 1)
  (fun j g s hj hI hs => by
    obtain ⟨k, u, e, hu, k0, k1⟩ := Y9 hL hs (n := (r2.1.1.length : Int)) (by omega) (by omega)
    refine ⟨g ++ [k], u, ?_, hu, by simp [hI.1], fun y hy => ?_⟩
    ·unfold a2q
     simp only [Z1]
     rw [show decide ((j : Int) <= (a : Int)) = true from decide_eq_true (by omega), e]
     simp only [cond_true, Option.bind_some]
     rw [Y0 (by simp only [List.length_cons, List.length_nil]; have := hI.1; omega), k9 j (by omega)]
     rfl
    ·rcases List.mem_append.1 hy with hy | hy
     ·exact hI.2 y hy
     ·rw [List.mem_singleton.1 hy]; exact b3i k0 (by rw [<- hN]; exact k1)) (fun g s => by
    unfold a2q
    rw [show decide (((a + 1 : Nat) : Int) <= (a : Int)) = false from decide_eq_false (by omega)]
    rfl) (a + 1) 0 ((a : Int).toNat + 2) [] s (by omega) (by omega) ⟨rfl, fun k hk => by cases hk⟩ hs
 exact ⟨g, u, e, hu, h1, h2⟩
theorem c9D {M i : Nat} {l : List Int} (hl : ∀ k ∈ l, inR M k = true) (h1 : 1 <= l.length) (h4 : l.length <= 4) : GN M i (a8S 14 l) :=
 b07 (List.all_eq_true.2 hl) h4 (by
  show (decide (1 <= (l.length : Int)) && decide ((l.length : Int) <= 5)) = true
  rw [Bool.and_eq_true]
  exact ⟨decide_eq_true (by omega), decide_eq_true (by omega)⟩) (fun h => by omega)
theorem c57 (d : List Int) (hd : d.length <= 4194304) : ∃ T N a r1 r2 r3 b10 q,
 j0 (Semtypebase_Source.mk d 0) 4 = some r1 /\ a0N r1.2 (w64 (1 + r1.1)) = some r2 /\ r2.1.1.length = N /\ j0 r2.2 3 = some r3 /\ r3.1 = ((a : Nat) : Int) /\
  j7 (a2y r2 r3) ((3 : Int).toNat + 1) (0, r3.2, (r2.1.1, r2.1.2)) = some b10 /\ b10 = (q, (T.Nodes, T.Root)) /\ MadeT T N a := by
 obtain ⟨m, s1, e1, hs1, m0, m1⟩ := Y9 hd (s := Semtypebase_Source.mk d 0) ⟨rfl, by show (0 : Int) <= 0; omega, by show (0 : Int) <= _; omega⟩ (n := 4) (by omega) (by omega)
 obtain ⟨m, rfl⟩ := a9C m0
 obtain ⟨ns, s2, e2, hs2, hlen, hg⟩ := c67 hd hs1 (m + 1) (by omega) (by omega)
 have e2' : a0N s1 (w64 (1 + (m : Int))) = some ((ns, 0), s2) := by
  rw [J4 (by omega) (by omega), show 1 + (m : Int) = ((m + 1 : Nat) : Int) by omega]; exact e2
 obtain ⟨a, s3, e3, hs3, a0, a1⟩ := Y9 hd hs2 (n := 3) (by omega) (by omega)
 obtain ⟨a, rfl⟩ := a9C a0
 obtain ⟨g, s4, e4, hs4, h1, h2, h3⟩ := b3k (γ := List Api_TypeNode) (L := d) (step := a2y ((ns, 0), s2) ((a : Int), s3)) (fun g j s => (j, s, (g, 0))) (fun g s => (s, (g, 0)))
  (fun j g => g.length = m + 1 + j /\ GNs (m + 1 + 3) g /\ ∀ i, i < j -> ∃ l, g[m + 1 + i]? = some (a8S 14 l) /\ l.length = a + 1) 3
  (fun j g s hj hI hs => by
    obtain ⟨l, u, e, hu, hl, hr⟩ := c5q hd ((ns, 0), s2) (m + 1) a hlen (by omega) (by omega) (by omega) s3 hs
    refine ⟨g ++ [a8S 14 l], u, ?_, hu, by simp only [List.length_append, List.length_cons, List.length_nil]; have := hI.1; omega, hI.2.1.snoc (c9D (fun k hk => b2B (by omega) (hr k hk)) (by omega) (by omega)), fun i hi => ?_⟩
    ·unfold a2y
     simp only [Z1]
     rw [show decide ((j : Int) < 3) = true from decide_eq_true (by omega), e]
     simp only [cond_true, Option.bind_some]
     rw [Y0 (by simp only [List.length_cons, List.length_nil]; have := hI.1; omega), k9 j (by omega)]
     rfl
    ·by_cases hij : i < j
     ·obtain ⟨l', e', hl'⟩ := hI.2.2 i hij
      exact ⟨l', by rw [List.getElem?_append_left (by have := hI.1; omega)]; exact e', hl'⟩
     ·have : i = j := by omega
      subst this
      exact ⟨l, by rw [List.getElem?_append_right (by have := hI.1; omega), show m + 1 + i - g.length = 0 by have := hI.1; omega]; rfl, hl⟩) (fun g s => by
    unfold a2y
    rfl) 3 0 ((3 : Int).toNat + 1) ns s3 (by omega) (by decide) ⟨by omega, fun i x hx => (hg i x hx).mono (by omega), fun i hi => by omega⟩ hs3
 refine ⟨Api_Type.mk g 0, m + 1, a, ((m : Int), s1), ((ns, 0), s2), ((a : Int), s3), (s4, (g, 0)), s4, e1, e2', hlen, e3, rfl, e4, rfl, ?_⟩
 refine ⟨⟨by show g.length <= 10; omega, ?_⟩, rfl, by omega, by show g.length = m + 1 + 3; omega, by omega, h3⟩
 show GNs g.length g
 rw [h1]
 exact h2
end
theorem c88 (f : Nat) (hf : 300000 <= f) (d : List Int) (hd : d.length <= 4194304) : ∃ T N a, MadeT T N a /\ ∀ g : List Int, g.length <= 4194304 -> ∃ e, a5B f d g = some (T, (N : Int), e) /\ MadeE a e := by
 obtain ⟨T, N, a, r1, r2, r3, b10, q, e1, e2, e3, e4, e5, e6, e7, hM⟩ := c57 d hd
 refine ⟨T, N, a, hM, fun g hg => ?_⟩
 subst e7
 have hd := c8R hg hM.gt f hf
 have hN3 := hM.len
 have hN10 := hM.gt.len
 have hN1 := hM.pos
 have hTe : Api_Type.mk T.Nodes T.Root = T := rfl
 obtain ⟨r31, r32⟩ := r3
 have e5 : r31 = (a : Int) := e5
 subst e5
 unfold a5B
 simp only [Z1]
 rw [e1]
 simp only [Option.bind_some]
 rw [e2]
 simp only [Option.bind_some]
 rw [e4]
 simp only [Option.bind_some]
 rw [e6]
 simp only [Option.bind_some]
 obtain ⟨ag, s5, e8, hs5, h1, h2, h3⟩ := b3k (γ := List Val) (L := g) (step := a2p r2 ((a : Int), r32) (q, (T.Nodes, T.Root)) f) (fun g j s => (j, s, (g, false, 0, 0, (⟨#[]⟩ : ByteArray), [], [], [], []))) (fun g s => (s, (g, false, 0, 0, (⟨#[]⟩ : ByteArray), [], [], [], []))) (fun j g => g.length = j /\ a1a g = true /\ w5 g <= j * 48900) a
  (fun j ag s hj hI hs => by
    obtain ⟨k, u, e9, hu, k0, k1⟩ := Y9 hg hs (n := (r2.1.1.length : Int)) (by omega) (by omega)
    obtain ⟨k, rfl⟩ := a9C k0
    obtain ⟨v, u2, e10, hu2, ho, hb⟩ := hd k u (by omega) hu
    have e10 : a0P f u T (k : Int) 2 = some (v, u2) := e10
    have har := hM.ar
    refine ⟨ag ++ [v], u2, ?_, hu2, by simp [hI.1], by rw [b2J, hI.2.1]; simp [a1a, ho], by rw [a1b, Nat.add_mul]; simp only [w5]; have := hI.2.2; omega⟩
    unfold a2p
    simp only [Z1]
    rw [Z6 hj, e9]
    simp only [cond_true, Option.bind_some]
    rw [hTe, e10]
    simp only [Option.bind_some]
    rw [Y0 (by simp only [List.length_cons, List.length_nil]; have := hI.1; omega), k9 j (by omega)]
    rfl) (fun ag s => by
    unfold a2p
    simp) a 0 ((a : Int).toNat + 1) [] (Semtypebase_Source.mk g 0) (by omega) (by omega) ⟨rfl, rfl, by simp [w5]⟩ ⟨rfl, by show (0 : Int) <= 0; omega, by show (0 : Int) <= _; omega⟩
 have e8' : j7 (a2p r2 ((a : Int), r32) (q, (T.Nodes, T.Root)) f) ((a : Int).toNat + 1) (0, Semtypebase_Source.mk g 0, ([], false, 0, 0, (⟨#[]⟩ : ByteArray), [], [], [], [])) = some (s5, (ag, false, 0, 0, (⟨#[]⟩ : ByteArray), [], [], [], [])) := e8
 rw [e8']
 simp only [Option.bind_some]
 have har := hM.ar
 have h3' : w5 ag <= 2 * 48900 := Nat.le_trans h3 (Nat.mul_le_mul_right _ har)
 obtain ⟨z, s6, e11, hs6, _, _⟩ := Y9 hg hs5 (n := 3) (by omega) (by omega)
 rw [e11]
 simp only [Option.bind_some]
 rw [e3, hTe]
 cases hz : z == 1
 ·simp only [cond_false]
  obtain ⟨k, u, e9, hu, k0, k1⟩ := Y9 hg hs6 (n := (r2.1.1.length : Int)) (by omega) (by omega)
  rw [e3] at e9
  obtain ⟨k, rfl⟩ := a9C k0
  obtain ⟨v, u2, e10, hu2, ho, hb⟩ := hd k u (by omega) hu
  have e10 : a0P f u T (k : Int) 2 = some (v, u2) := e10
  rw [e9]
  simp only [Option.bind_some]
  rw [e10]
  have hv : Val.mk v.Kind v.Int_ v.Text v.Kids v.Keys v.Entries v.Labels = v := by cases v; rfl
  simp only [Option.bind_some, hv]
  refine ⟨Ent.mk ag false v, rfl, h1, h2, .inr ⟨rfl, ho⟩, ?_⟩
  have := a0f (Ent.mk ag false v)
  simp only [Ent.Args, Ent.Result] at this
  omega
 ·simp only [cond_true, Option.bind_some]
  refine ⟨Ent.mk ag true a38, rfl, h1, h2, .inl ⟨rfl, rfl⟩, ?_⟩
  have := a0f (Ent.mk ag true a38)
  have hz : w6 a38 = 8 := by rw [a38, V7]; rfl
  simp only [Ent.Args, Ent.Result] at this
  omega
end Go.Pl
end
section
namespace Go.Pl
open Go Go.RowKit Go.Sx Go.Qx
theorem c85 (n : Nat) : a1q (n + 60) = some true := by kernel_rfl
theorem c7z (l : List (List Int)) (hl : l.length <= 1000) : a5d l = some (l.all fun x => !decide (80 < (x.length : Int))) := by
 have l1 := V9 (step := a19 l) l (fun x => !decide (80 < (x.length : Int))) (fun i => (i : Int)) () false (fun i x hx => by
  have hi : i < l.length := (List.getElem?_eq_some_iff.1 hx).1
  unfold a19
  rw [Z6 hi, k7 hx]
  simp only [cond_true, Option.bind_some, Z1]
  rw [k9 i (by omega)]
  cases decide (80 < (x.length : Int)) <;> rfl) (by
  unfold a19
  simp)
 have l1' : j7 (a19 l) (l.length + 1) 0 = _ := l1
 unfold a5d
 rw [Y1, l1']
 cases l.all fun x => !decide (80 < (x.length : Int)) <;> rfl
theorem c8n {T : Api_Type} {N a : Nat} (h : MadeT T N a) : inR T.Nodes.length T.Root = true := by
 have h1 := h.len
 have h2 := h.pos
 rw [h.root]
 exact b3i (by omega) (by omega)
end Go.Pl
end
section
namespace Go.Pl
open Go Go.Sx Go.Qx
end Go.Pl
end
section
namespace Go.Pl
open Go Go.RowKit Go.Sx Go.Qx
theorem c2q {a : Nat} {e : Ent} (h : MadeE a e) : a2h (a : Int) e = true /\ eOK e = true := by
 constructor
 ·unfold a2h
  rw [h.args]
  rcases h.res with ⟨h1, h2⟩ | ⟨h1, _⟩
  ·rw [h1, h2, c4h]; simp
  ·rw [h1]; simp
 ·rw [a9H, h.ok]
  rcases h.res with ⟨h1, _⟩ | ⟨h1, h2⟩
  ·rw [h1]; rfl
  ·rw [h1, h2]; rfl
theorem c5i {T : Api_Type} {N a : Nat} (hM : MadeT T N a) {j : Nat} (hj : j < 3) : ∃ l, T.Nodes[N + j]? = some (a8S 14 l) /\ l.length = a + 1 /\ fnB T ((N + j : Nat) : Int) = true := by
 obtain ⟨l, e, hl⟩ := hM.fn j hj
 refine ⟨l, e, hl, ?_⟩
 unfold fnB
 rw [Int.toNat_natCast, e]
 have := hM.len
 rw [b3i (by omega) (by omega)]
 rfl
theorem c3x {T : Api_Type} {N a : Nat} {j : Nat} {l : List Int} (hx : T.Nodes[N + j]? = some (a8S 14 l)) (hl : l.length = a + 1) {e : Ent} (he : e.Args.length = a) : arB T e ((N + j : Nat) : Int) = a2L (Z5 T) e l := by
 unfold arB
 rw [Int.toNat_natCast, hx]
 show (((l.length : Int) == (e.Args.length : Int) + 1) && a2L (Z5 T) e l) = _
 rw [hl, he]
 simp
end Go.Pl
end
section
namespace Go.Pl
open Go Go.RowKit Go.Sx Go.Qx
theorem c4N : CmpOk cI := ⟨fun x y => by
 rcases W3 x y with ⟨_, h⟩ | ⟨_, h⟩ | ⟨_, h⟩ <;> rcases W3 y x with ⟨_, k⟩ | ⟨_, k⟩ | ⟨_, k⟩ <;> rw [h, k] <;> omega,
 fun x y z h1 h2 => by
  rcases W3 x y with ⟨_, h⟩ | ⟨_, h⟩ | ⟨_, h⟩ <;> rcases W3 y z with ⟨_, k⟩ | ⟨_, k⟩ | ⟨_, k⟩ <;> rcases W3 x z with ⟨_, l⟩ | ⟨_, l⟩ | ⟨_, l⟩ <;> rw [h] at h1 <;> rw [k] at h2 <;> rw [l] <;> omega,
 fun _ _ h => cI0 h⟩
abbrev b57 (x y : Int) : Bool := decide (cI x y = 0)
theorem c15 (x y : Int) : (x == y) = decide (cI x y = 0) := by
 rcases W3 x y with ⟨h, k⟩ | ⟨h, k⟩ | ⟨h, k⟩
 ·rw [k]; simp; omega
 ·rw [k]; simp; omega
 ·rw [k]; simp [h]
theorem d0D (x y : Int) : decide (x < y) = decide (cI x y < 0) := by
 rcases W3 x y with ⟨h, k⟩ | ⟨h, k⟩ | ⟨h, k⟩
 ·rw [k]; simp [h]
 ·rw [k]; simp; omega
 ·rw [k]; simp [h]
theorem d0G (s0 : List Int) (i0 n : Nat) (hn : n <= 4194304) (i k : Nat) (s : List Int) (x y : Int) (hl : s.length = n) (hk : i0 + k < n) (h1 : 1 <= k) (hi : i < i0 + k) (hx : s[i0 + k]? = some x) (hy : s[i0 + k - 1]? = some y) :
 a0y (s0, (i0 : Int)) (((i : Int), (k : Int)), s) = some (.next (if b57 x y = true then (((i : Int), ((k + 1 : Nat) : Int)), s) else ((((i + 1 : Nat) : Int), ((k + 1 : Nat) : Int)), s.set i x))) := by
 unfold a0y
 simp only [a0a, Z1, Int.toNat_natCast]
 have hdl : (s.drop i0).length = n - i0 := by rw [List.length_drop, hl]
 rw [if_pos (decide_eq_true (by show (k : Int) < (((s.drop i0).length : Nat) : Int); rw [hdl]; omega)), k9 i (by omega), k9 k (by omega), b80 k (by omega) h1]
 simp only [Int.toNat_natCast]
 have a1 : idx (s.drop i0) (k : Int) = some x := k7 (by rw [List.getElem?_drop]; exact hx)
 have a2 : idx (s.drop i0) ((k - 1 : Nat) : Int) = some y := k7 (by rw [List.getElem?_drop, show i0 + (k - 1) = i0 + k - 1 by omega]; exact hy)
 have a3 : idx s (i : Int) = some (s[i]'(by omega)) := k7 (List.getElem?_eq_getElem (by omega))
 rw [a1, a2, a3, hx, show i0 + (k - 1) = i0 + k - 1 by omega, hy, List.getElem?_eq_getElem (show i < s.length by omega)]
 simp only [Option.bind_some, bne]
 rw [c15]
 by_cases h : cI x y = 0 <;> simp [b57, h]
theorem c3C (l : List Int) (hl : l.length <= 4194304) : a3d l = some (a9S b57 l) := by
 unfold a3d
 by_cases h2 : (l.length : Int) < 2
 ·have e : decide ((l.length : Int) < 2) = true := by simpa using h2
  rw [e]
  match l, h2 with
  | [], _ => rfl
  | [_], _ => rfl
  | _ :: _ :: _, h => exact absurd h (by simp; omega)
 ·have e : decide ((l.length : Int) < 2) = false := by simpa using h2
  rw [e, Y1]
  simp only [cond_false]
  have key := c6H (r := b57) (step := a1g) l (by omega) ?_ ?_ ?_
  ·rcases key with ⟨h, hc⟩ | ⟨q, h⟩
   ·rw [h, hc]; rfl
   ·rw [h]; rfl
  ·intro i x y hi hx hy hr
   have hlt : i < l.length := (List.getElem?_eq_some_iff.1 hx).1
   unfold a1g
   simp only [a0a, Z1, Int.toNat_natCast]
   rw [if_pos (by simp; omega), b80 i (by omega) hi, k7 hx, k7 hy]
   simp only [Int.toNat_natCast, hx, hy, Option.bind_some]
   rw [c15]
   have hr' : decide (cI x y = 0) = false := hr
   rw [hr', k9 i (by omega)]
   rfl
  ·intro i x y hi hx hy hr
   have hlt : i < l.length := (List.getElem?_eq_some_iff.1 hx).1
   unfold a1g
   simp only [a0a, Z1, Int.toNat_natCast]
   rw [if_pos (by simp; omega), b80 i (by omega) hi, k7 hx, k7 hy]
   simp only [Int.toNat_natCast, hx, hy, Option.bind_some]
   rw [c15]
   have hr' : decide (cI x y = 0) = true := hr
   rw [hr', if_pos rfl]
   obtain ⟨s', e1, e2, e3⟩ := c5V (r := b57) (step := a0y (l, (i : Int))) i l.length (fun i' k s x y a1 a2 a3 a4 a5 a6 => d0G l i l.length hl i' k s x y a1 a2 a3 a4 a5 a6)
    (fun i' k s a1 a2 => by
      unfold a0y
      simp only [Int.toNat_natCast]
      have : decide ((k : Int) < (((s.drop i).length : Nat) : Int)) = false := by rw [List.length_drop]; simp; omega
      rw [this]
      rfl) (l.length - (i + 1)) i 1 l x ((l.drop i).length + 1) rfl (by omega) (Nat.le_refl _) (by omega) (by simpa using hx) (by rw [List.length_drop]; omega)
   have e1' : j7 (a0y (l, (i : Int))) ((l.drop i).length + 1) (((i : Int), 1), l) = _ := e1
   rw [e1']
   simp only [Option.bind_some, <- a0a]
   have hd := c5X (r := b57) (l.drop (i + 1)) x
   rw [List.length_drop] at hd
   exact c8m (0 : Int) _ l.length s' _ e2 (by omega) e3
  ·unfold a1g
   simp
theorem c42 (l : List Int) : (l.mergeSort fun x y => decide (x <= y)).Pairwise fun a b => ¬ cI b a < 0 := by
 refine (List.pairwise_mergeSort (le := fun x y : Int => decide (x <= y)) (fun a b c h1 h2 => ?_) (fun a b => ?_) l).imp fun {a b} h => ?_
 ·simp only [decide_eq_true_eq] at *
  omega
 ·simp only [Bool.or_eq_true, decide_eq_true_eq]
  omega
 ·simp only [decide_eq_true_eq] at h
  rcases W3 b a with ⟨_, k⟩ | ⟨_, k⟩ | ⟨_, k⟩ <;> rw [k] <;> omega
def srt (l : List Int) : List Int := l.foldl (a2A cI) []
theorem b9A (l : List Int) (hl : l.length <= 4194304) : a8n l = some (srt l) := by
 unfold a8n a2W
 rw [Y0 (by omega)]
 simp only [Option.bind_some]
 unfold c04 b2K
 have e : decide (l.length < 4611686018427387904) = true := by simp; omega
 rw [e]
 simp only [cond_true, Option.bind_some]
 have hp := List.mergeSort_perm l fun x y : Int => decide (x <= y)
 rw [c3C _ (by rw [hp.length_eq]; exact hl)]
 simp only [Option.bind_some]
 unfold a62
 have := c3P c4N hp (c42 l)
 rw [show a9S (fun x y => decide (cI x y = 0)) = a9S b57 from rfl] at this
 rw [this]
 simp [srt]
theorem c8y (l : List Int) : asc cI (srt l) = true := (c5b (c := cI) c4N l).1
theorem b8h (l : List Int) (y : Int) : y ∈ srt l ↔ y ∈ l := (c5b (c := cI) c4N l).2 y
theorem c0Q (l : List Int) : srt (srt l) = srt l := c7h c4N (c8y l)
theorem b79 (l : List Int) : (srt l).length <= l.length := by
 have key : ∀ (l out : List Int), (l.foldl (a2A cI) out).length <= out.length + l.length := by
  intro l
  induction l with
  | nil => intro out; simp
  | cons x r ih =>
    intro out
    have h1 := ih (a2A cI out x)
    have h2 := b8Z cI out x
    simp only [List.foldl_cons, List.length_cons]
    omega
 have := key l []
 simpa [srt] using this
theorem c8o (out : List Int) (x : Int) (hl : out.length <= 4194304) : a6D out x = some (a2A cI out x) := by
 unfold a6D
 simp only [Y1]
 have p := c0p (step := a2Y out x) out (fun y => decide (cI y x < 0)) ?_ ?_
 ·have p' : j7 (a2Y out x) (out.length + 1) 0 = _ := p
  rw [p']
  simp only [Option.bind_some]
  have hk := b2N (fun y => decide (cI y x < 0)) out
  have hat := c0e (fun y => decide (cI y x < 0)) out
  have go : (Option.bind (cut out 0 ((out.takeWhile (fun y => decide (cI y x < 0))).length : Int)) fun u => Option.bind (Z7 (0 + u.length) 8) fun _ =>
   Option.bind (Z7 (u.length + [x].length) 8) fun _ => Option.bind (cut out ((out.takeWhile (fun y => decide (cI y x < 0))).length : Int) (out.length : Int)) fun w =>
   Option.bind (Z7 ((u ++ [x]).length + w.length) 8) fun _ => some ((u ++ [x]) ++ w)) = some (a0n (fun y => decide (cI y x < 0)) x out) :=
   c3A out x _ 8 (by omega) hl (fun l => some l)
  rw [go]
  unfold a2A
  cases hh : (out.dropWhile (fun y => decide (cI y x < 0))).head? with
  | none =>
    rw [hh] at hat
    have hge := List.getElem?_eq_none_iff.1 hat
    have : decide (((out.takeWhile (fun y => decide (cI y x < 0))).length : Int) < (out.length : Int)) = false := by simp; omega
    rw [this]
    rfl
  | some y =>
    rw [hh] at hat
    have hlt2 := (List.getElem?_eq_some_iff.1 hat).1
    have : decide (((out.takeWhile (fun y => decide (cI y x < 0))).length : Int) < (out.length : Int)) = true := by simp; omega
    rw [this, k7 hat]
    simp only [cond_true, Option.bind_some, c15]
    by_cases h0 : cI y x = 0 <;> simp [h0]
 ·intro j y hy
  have hj : j < out.length := (List.getElem?_eq_some_iff.1 hy).1
  unfold a2Y
  simp only [Z1]
  rw [show decide ((j : Int) < (out.length : Int)) = true from by simp; omega, k7 hy]
  simp only [cond_true, Option.bind_some, k9 j (by omega)]
  rw [d0D y x]
  by_cases h : cI y x < 0 <;> simp [h]
 ·unfold a2Y
  simp
theorem b9Y (l : List Int) (hl : l.length <= 4194304) : a4t l = some (srt l) := by
 unfold a4t
 have key := b00 (σ := List Int) (step := a1K l) l (fun s i => (s, (i : Int))) (a2A cI) (fun i s => s.length <= i) (fun s => s)
  ?_ ?_ [] (by simp) _ (Nat.le_refl _)
 ·have e : j7 (a1K l) (l.length + 1) (([] : List Int), 0) = j7 (a1K l) (l.length + 1) (([] : List Int), ((0 : Nat) : Int)) := rfl
  rw [Y1, e, key]
  rfl
 ·intro i s x hx hI
  have hi : i < l.length := (List.getElem?_eq_some_iff.1 hx).1
  refine ⟨?_, ?_⟩
  ·unfold a1K
   simp only [Z1]
   rw [show decide ((i : Int) < (l.length : Int)) = true from by simp; omega, k7 hx]
   simp only [cond_true, Option.bind_some]
   rw [c8o s x (by omega), k9 i (by omega)]
   rfl
  ·have := b8Z cI s x
   omega
 ·intro s _
  unfold a1K
  simp
end Go.Pl
end
section
namespace Go.Pl
open Go Go.RowKit Go.Sx Go.Qx
abbrev g0 (p q : List Int) : Api_Goal := Api_Goal.mk p q false
theorem b0P {α : Type} {step : Int -> Option (Fl Int (Sum Unit Bool))} (xs : List α) (p : α -> Bool) (b : Bool) (hst : ∀ (i : Nat) (x : α), xs[i]? = some x -> step (i : Int) = some (if p x = true then Fl.next ((i + 1 : Nat) : Int) else Fl.done (.inr b)))
 (hend : step (xs.length : Int) = some (.done (.inl ()))) : j7 step (xs.length + 1) 0 = some (if xs.all p = true then .inl () else .inr b) :=
 V9 (step := step) xs p (fun i => (i : Int)) () b hst hend
theorem b7A (p q : List Int) (b : Bool) (h1 : p.length <= 4194304) (h2 : q.length <= 4194304) : a6X (Api_Goal.mk p q b) = some (Api_Goal.mk (srt p) (srt q) b) := by
 unfold a6X
 rw [b9A p h1, b9A q h2]
 rfl
theorem b9W (p q : List Int) (b : Bool) (h1 : p.length <= 4194304) (h2 : q.length <= 4194304) : a17 (Api_Goal.mk p q b) = some (Api_Goal.mk (srt p) (srt q) b) := by
 unfold a17
 rw [b9Y p h1, b9Y q h2]
 rfl
theorem c1l (a b : List Int) (h : a.length <= 4194304) : a2b a b = some (a == b) := by
 unfold a2b
 by_cases hl : a.length = b.length
 ·have e : ((a.length : Int) != (b.length : Int)) = false := by simp [hl]
  rw [e]
  simp only [cond_false, Y1]
  have l1 := b0P (step := a2v a b) (a.zip b) (fun p => p.1 == p.2) false (fun i p hp => by
   obtain ⟨e1, e2⟩ := b0Q hp
   have hi : i < a.length := (List.getElem?_eq_some_iff.1 e1).1
   unfold a2v
   simp only [Z1]
   rw [Z6 hi, k7 e1, k7 e2]
   simp only [cond_true, Option.bind_some, bne]
   rw [k9 i (by omega)]
   exact a13 _ _) (by
   unfold a2v
   simp [hl])
  have hz : (a.zip b).length = a.length := by simp [hl]
  rw [hz] at l1
  rw [l1]
  have key : ∀ (a b : List Int), a.length = b.length -> ((a.zip b).all fun p => p.1 == p.2) = (a == b) := by
   intro a
   induction a with
   | nil => intro b hb; cases b with
     | nil => rfl
     | cons => cases hb
   | cons x a ih =>
     intro b hb
     cases b with
     | nil => cases hb
     | cons y b =>
       rw [List.zip_cons_cons, List.all_cons, ih b (by simpa using hb)]
       rfl
  rw [key a b hl]
  cases a == b <;> rfl
 ·have e : ((a.length : Int) != (b.length : Int)) = true := by simp; omega
  rw [e]
  have : (a == b) = false := by simp; intro e; exact hl (by rw [e])
  rw [this]; rfl
theorem c1E (a b : Api_Goal) (h1 : a.Pos.length <= 4194304) (h2 : a.Neg.length <= 4194304) : a0x a b = some (a.Lists == b.Lists && (a.Pos == b.Pos && a.Neg == b.Neg)) := by
 unfold a0x
 rw [c1l _ _ h1, c1l _ _ h2]
 cases a.Lists == b.Lists <;> cases a.Pos == b.Pos <;> cases a.Neg == b.Neg <;> rfl
theorem c2k (l : List Int) (x : Int) (hl : l.length <= 4194304) : a2Q l x = some (l.any fun y => x == y) := by
 unfold a2Q a6y
 rw [Y1]
 rcases a7X (step := a2S l x) l (fun y => x == y) (fun i _ => (i : Int)) (fun i y hy => by
  have hi : i < l.length := (List.getElem?_eq_some_iff.1 hy).1
  unfold a2S
  rw [Z6 hi, k7 hy]
  simp only [cond_true, Option.bind_some, Z1]
  rw [k9 i (by omega)]
  cases x == y <;> rfl) (by
  unfold a2S
  simp) with ⟨i, y, hy, hp, _, e⟩ | ⟨h, e⟩
 ·rw [e, b3a hy hp]
  simp only [Option.bind_some, v7, c2K]
 ·rw [e, h]
  rfl
def a4K (p q : List Int) : Bool := p.any fun x => q.any fun y => x == y
theorem c0s (p q : List Int) (h1 : p.length <= 4194304) (h2 : q.length <= 4194304) : a6Q p q = some (a4K p q) := by
 unfold a6Q
 rw [a7W p _ (fun x => q.any fun y => x == y) h1 fun x _ => by
  unfold a9E
  simp only [a0z]
  exact c2k q x h2]
 rfl
end Go.Pl
end
section
namespace Go.Pl
open Go Go.RowKit Go.Sx Go.Qx
section
variable {T : Api_Type}
def gIn (N : Nat) (g : Api_Goal) : Bool := g.Pos.all (inR N) && g.Neg.all (inR N)
def gM (T : Api_Type) (v : Val) (g : Api_Goal) : Bool := g.Pos.all (Z5 T v) && g.Neg.all fun k => !Z5 T v k
theorem c6u (g : Api_Goal) (h1 : g.Pos.length <= 1000000) (h2 : g.Neg.length <= 1000000) : b0L T g = some (gIn T.Nodes.length g) := by
 unfold b0L a2W
 rw [Y0 (by omega)]
 simp only [Option.bind_some]
 rw [Y0 (by omega)]
 simp only [Option.bind_some, Y1]
 have l1 := V9 (step := a5K T g g.Pos) (g.Pos ++ g.Neg) (inR T.Nodes.length) (fun i => (i : Int)) () false (fun i k hk => by
  have hi : i < (g.Pos ++ g.Neg).length := (List.getElem?_eq_some_iff.1 hk).1
  have hi' := hi
  rw [List.length_append] at hi'
  unfold a5K
  simp only [Z1]
  rw [Z6 hi, k7 hk]
  simp only [cond_true, Option.bind_some]
  rw [k9 i (by omega)]
  unfold inR
  by_cases a1 : k < 0
  ·have b1 : decide (k < 0) = true := by simpa using a1
   have b2 : decide (0 <= k) = false := by simp; omega
   rw [b1, b2]; rfl
  ·have b1 : decide (k < 0) = false := by simpa using a1
   have b2 : decide (0 <= k) = true := by simp; omega
   rw [b1, b2]
   by_cases a2 : k < (T.Nodes.length : Int)
   ·have b3 : decide ((T.Nodes.length : Int) <= k) = false := by simp; omega
    have b4 : decide (k < (T.Nodes.length : Int)) = true := by simpa using a2
    rw [b3, b4]; rfl
   ·have b3 : decide ((T.Nodes.length : Int) <= k) = true := by simp; omega
    have b4 : decide (k < (T.Nodes.length : Int)) = false := by simpa using a2
    rw [b3, b4]; rfl) (by
  unfold a5K
  simp)
 have l1' : j7 (a5K T g g.Pos) ((g.Pos ++ g.Neg).length + 1) 0 = _ := l1
 rw [l1', List.all_append]
 unfold gIn
 cases g.Pos.all (inR T.Nodes.length) && g.Neg.all (inR T.Nodes.length) <;> rfl
theorem b9J (g : Api_Goal) (h1 : g.Pos.length <= 1000000) (h2 : g.Neg.length <= 1000000) : a2Z T g = some (gIn T.Nodes.length g) := by
 unfold a2Z
 rw [Y0 (by omega), Y0 (by omega)]
 simp only [Option.bind_some, Y1]
 have l1 := V9 (step := a1T T g) (g.Pos ++ g.Neg) (inR T.Nodes.length) (fun i => (i : Int)) () false (fun i k hk => by
  have hi : i < (g.Pos ++ g.Neg).length := (List.getElem?_eq_some_iff.1 hk).1
  have hi' := hi
  rw [List.length_append] at hi'
  unfold a1T
  simp only [Z1]
  rw [Z6 hi, k7 hk]
  simp only [cond_true, Option.bind_some]
  rw [b0n, k9 i (by omega)]
  exact a13 _ _) (by
  unfold a1T
  simp)
 have l1' : j7 (a1T T g) ((g.Pos ++ g.Neg).length + 1) 0 = _ := l1
 rw [l1', List.all_append]
 unfold gIn
 cases g.Pos.all (inR T.Nodes.length) && g.Neg.all (inR T.Nodes.length) <;> rfl
theorem c4w (hT : GT T) {v : Val} (ho : vOK v = true) (hb : w6 v <= 2097152) (f : Nat) (hf : 200000000 <= f) {k : Int} (hk : inR T.Nodes.length k = true) : a0e f v T k = some (Z5 T v k) /\ w4 f v T k = some (Z5 T v k) := by
 obtain ⟨j, rfl⟩ : ∃ j : Nat, k = (j : Int) := ⟨k.toNat, by unfold inR at hk; simp at hk; omega⟩
 have hj : j < T.Nodes.length := by unfold inR at hk; simp at hk; omega
 have hFU : FU (w6 v) <= f := by unfold FU; omega
 exact ⟨c5u hT ho (by omega) hj f hFU, c1p hT ho (by omega) hj f hFU⟩
theorem c5H (hT : GT T) (hr : inR T.Nodes.length T.Root = true) {v : Val} (ho : vOK v = true) (hb : w6 v <= 2097152) (p q : List Int) (hg : gIn T.Nodes.length (g0 p q) = true) (h1 : p.length <= 1000000) (h2 : q.length <= 1000000) (f : Nat) (hf : 200000000 <= f) :
 a4y f v T (g0 p q) = some (gM T v (g0 p q)) := by
 unfold a4y
 rw [c3K f v (by omega) (by omega), ho, wf0 hT hr f (by omega), c6u (g0 p q) h1 h2, hg]
 have hg' := hg
 unfold gIn at hg'
 simp only [Bool.and_eq_true] at hg'
 simp only [if_true, Option.bind_some, bne_self_eq_false, cond_false, Bool.not_true]
 unfold b4d
 rw [a7W p _ (fun k => !Z5 T v k) (by omega) fun k hk => by
  unfold b1A
  simp only [a0z]
  rw [(c4w hT ho hb f hf (List.all_eq_true.1 hg'.1 k hk)).1]
  rfl]
 simp only [Option.bind_some]
 rw [b72]
 cases hp : p.all (Z5 T v)
 ·simp [gM, hp]
 ·simp only [cond_true]
  rw [a7W q _ (fun k => Z5 T v k) (by omega) fun k hk => by
   unfold b1z
   simp only [a0z]
   exact (c4w hT ho hb f hf (List.all_eq_true.1 hg'.2 k hk)).1]
  simp only [Option.bind_some, gM, hp, Bool.true_and]
  congr 1
  rw [<- b72]
  simp
theorem c4Z (hT : GT T) (hr : inR T.Nodes.length T.Root = true) {v : Val} (ho : vOK v = true) (hb : w6 v <= 2097152) (p q : List Int) (hg : gIn T.Nodes.length (g0 p q) = true) (h1 : p.length <= 1000000) (h2 : q.length <= 1000000) (f : Nat) (hf : 200000000 <= f) :
 a1s f v T (g0 p q) = some (gM T v (g0 p q)) := by
 unfold a1s
 rw [a9V f v (by omega) (by omega), ho, c7C hT hr f (by omega), b9J (g0 p q) h1 h2, hg]
 have hg' := hg
 unfold gIn at hg'
 simp only [Bool.and_eq_true] at hg'
 simp only [Option.bind_some, beq_self_eq_true, cond_true, a0z]
 unfold a7D
 have l1 := b0P (step := a3E v T (g0 p q) f) p (Z5 T v) false (fun i k hk => by
  have hi : i < p.length := (List.getElem?_eq_some_iff.1 hk).1
  unfold a3E
  simp only [Z1]
  rw [Z6 (show i < (g0 p q).Pos.length from hi), k7 (show (g0 p q).Pos[i]? = some k from hk)]
  simp only [cond_true, Option.bind_some]
  rw [(c4w hT ho hb f hf (List.all_eq_true.1 hg'.1 k (List.mem_of_getElem? hk))).2, k9 i (by omega)]
  exact a13 _ _) (by
  unfold a3E
  simp)
 have l2 := b0P (step := a3w v T (g0 p q) f) q (fun k => !Z5 T v k) false (fun i k hk => by
  have hi : i < q.length := (List.getElem?_eq_some_iff.1 hk).1
  unfold a3w
  simp only [Z1]
  rw [Z6 (show i < (g0 p q).Neg.length from hi), k7 (show (g0 p q).Neg[i]? = some k from hk)]
  simp only [cond_true, Option.bind_some]
  rw [(c4w hT ho hb f hf (List.all_eq_true.1 hg'.2 k (List.mem_of_getElem? hk))).2, k9 i (by omega)]
  simp only [Option.bind_some]
  cases Z5 T v k <;> rfl) (by
  unfold a3w
  simp)
 simp only [Y1]
 rw [show (g0 p q).Pos.length = p.length from rfl, l1]
 cases hp : p.all (Z5 T v)
 ·simp [gM, hp, v7]
 ·simp only [if_true, Option.bind_some, v7]
  rw [show (g0 p q).Neg.length = q.length from rfl, l2]
  cases hq : q.all fun k => !Z5 T v k
  ·simp [gM, hp, hq, v7]
  ·simp [gM, hp, hq, v7]
theorem c6m (v : Val) (p q : List Int) : gM T v (g0 (srt p) (srt q)) = gM T v (g0 p q) := by
 unfold gM
 have key : ∀ (l : List Int) (r : Int -> Bool), (srt l).all r = l.all r := fun l r => by
  rw [Bool.eq_iff_iff, List.all_eq_true, List.all_eq_true]
  exact ⟨fun h x hx => h x ((b8h l x).2 hx), fun h x hx => h x ((b8h l x).1 hx)⟩
 rw [key, key]
theorem c8V (N : Nat) (p q : List Int) : gIn N (g0 (srt p) (srt q)) = gIn N (g0 p q) := by
 unfold gIn
 have key : ∀ (l : List Int) (r : Int -> Bool), (srt l).all r = l.all r := fun l r => by
  rw [Bool.eq_iff_iff, List.all_eq_true, List.all_eq_true]
  exact ⟨fun h x hx => h x ((b8h l x).2 hx), fun h x hx => h x ((b8h l x).1 hx)⟩
 rw [key, key]
end
end Go.Pl
end
section
namespace Go.Pl
open Go Go.RowKit Go.Sx Go.Qx
theorem a6r {St β : Type} {step : St -> Option (Fl St β)} (st : Nat -> St) (n : Nat) (r : β) (hs : ∀ i, i < n -> step (st i) = some (.next (st (i + 1)))) (he : step (st n) = some (.done r)) (k : Nat) (hk : n + 1 <= k) : j7 step k (st 0) = some r := by
 have key : ∀ (m i k : Nat), i + m = n -> m + 1 <= k -> j7 step k (st i) = some r := by
  intro m
  induction m with
  | zero =>
    intro i k h1 h2
    obtain ⟨k, rfl⟩ : ∃ q, k = q + 1 := ⟨k - 1, by omega⟩
    have e : i = n := by omega
    subst e
    simp only [j7, he, Option.bind_some]
  | succ m ih =>
    intro i k h1 h2
    obtain ⟨k, rfl⟩ : ∃ q, k = q + 1 := ⟨k - 1, by omega⟩
    simp only [j7, hs i (by omega), Option.bind_some]
    exact ih (i + 1) k (by omega) (by omega)
 exact key n 0 k (by omega) hk
theorem c1F {St β : Type} {step : St -> Option (Fl St β)} (st : Nat -> St) (bad : Nat -> Bool) (n : Nat) (r : β) (R : β -> Prop) (hs : ∀ i, i < n -> bad i = false -> step (st i) = some (.next (st (i + 1)))) (hb : ∀ i, i < n -> bad i = true -> ∃ q, step (st i) = some (.done q) /\ R q)
 (he : step (st n) = some (.done r)) (k : Nat) (hk : n + 1 <= k) : (j7 step k (st 0) = some r /\ ∀ i, i < n -> bad i = false) \/ ∃ q, j7 step k (st 0) = some q /\ R q /\ ∃ i, i < n /\ bad i = true := by
 have key : ∀ (m i k : Nat), i + m = n -> m + 1 <= k -> (∀ j, j < i -> bad j = false) -> (j7 step k (st i) = some r /\ ∀ i, i < n -> bad i = false) \/ ∃ q, j7 step k (st i) = some q /\ R q /\ ∃ i, i < n /\ bad i = true := by
  intro m
  induction m with
  | zero =>
    intro i k h1 h2 h3
    obtain ⟨k, rfl⟩ : ∃ q, k = q + 1 := ⟨k - 1, by omega⟩
    have e : i = n := by omega
    subst e
    exact .inl ⟨by simp only [j7, he, Option.bind_some], h3⟩
  | succ m ih =>
    intro i k h1 h2 h3
    obtain ⟨k, rfl⟩ : ∃ q, k = q + 1 := ⟨k - 1, by omega⟩
    cases hbi : bad i with
    | true =>
      obtain ⟨q, e, hR⟩ := hb i (by omega) hbi
      exact .inr ⟨q, by simp only [j7, e, Option.bind_some], hR, i, by omega, hbi⟩
    | false =>
      simp only [j7, hs i (by omega) hbi, Option.bind_some]
      refine ih (i + 1) k (by omega) (by omega) fun j hj => ?_
      by_cases e : j = i
      ·subst e; exact hbi
      ·exact h3 j (by omega)
 exact key n 0 k (by omega) hk (fun j hj => by omega)
def chs (a : Nat) : Nat -> List (List Int)
 | 0 => [[]]
 | m + 1 => (chs a m).flatMap fun c => (List.range (a + 1)).map fun i : Nat => c ++ [(i : Int)]
theorem c0N (a : Nat) : ∀ m, (chs a m).length = (a + 1) ^ m
 | 0 => rfl
 | m + 1 => by
   have key : ∀ l : List (List Int), (l.flatMap fun c => (List.range (a + 1)).map fun i : Nat => c ++ [(i : Int)]).length = l.length * (a + 1) := by
    intro l
    induction l with
    | nil => simp
    | cons x r ih => rw [List.flatMap_cons, List.length_append, ih, List.length_map, List.length_range, List.length_cons, Nat.add_mul, Nat.one_mul, Nat.add_comm]
   rw [chs, key, c0N a m, Nat.pow_succ]
theorem b2q (a : Nat) : ∀ (m : Nat) (c : List Int), c ∈ chs a m ↔ c.length = m /\ ∀ x ∈ c, 0 <= x /\ x <= (a : Int)
 | 0, c => by
   simp only [chs, List.mem_singleton]
   constructor
   ·rintro rfl; exact ⟨rfl, fun x hx => by cases hx⟩
   ·rintro ⟨h, _⟩; exact List.eq_nil_of_length_eq_zero h
 | m + 1, c => by
   simp only [chs, List.mem_flatMap, List.mem_map, List.mem_range]
   constructor
   ·rintro ⟨d, hd, i, hi, rfl⟩
    obtain ⟨h1, h2⟩ := (b2q a m d).1 hd
    refine ⟨by simp [h1], fun x hx => ?_⟩
    rcases List.mem_append.1 hx with hx | hx
    ·exact h2 x hx
    ·rw [List.mem_singleton.1 hx]; omega
   ·rintro ⟨h1, h2⟩
    have hne : c ≠ [] := by intro e; subst e; simp at h1
    have e := List.dropLast_concat_getLast hne
    have hl := h2 _ (List.getLast_mem hne)
    refine ⟨c.dropLast, (b2q a m _).2 ⟨by rw [List.length_dropLast]; omega, fun x hx => h2 x (List.dropLast_subset c hx)⟩, (c.getLast hne).toNat, by omega, ?_⟩
    rw [show (((c.getLast hne).toNat : Nat) : Int) = c.getLast hne by omega]
    exact e
theorem c7H (a : Nat) (ha : a <= 1000) (c : List Int) (hc : c.length <= 1000) (out : List (List Int)) (ho : out.length <= 1000000) : j7 (a4u (a : Int) c) ((a : Int).toNat + 2) (out, 0) = some (out ++ (List.range (a + 1)).map fun i : Nat => c ++ [(i : Int)]) := by
 have := a6r (step := a4u (a : Int) c) (fun i => (out ++ (List.range i).map fun i : Nat => c ++ [(i : Int)], (i : Int))) (a + 1) (out ++ (List.range (a + 1)).map fun i : Nat => c ++ [(i : Int)]) (fun i hi => by
  unfold a4u a2W
  simp only [Z1]
  rw [show decide ((i : Int) <= (a : Int)) = true from by simp; omega, Y0 (by omega)]
  simp only [cond_true, Option.bind_some]
  rw [Y0 (by simp; omega)]
  simp only [Option.bind_some]
  rw [Y0 (by simp only [List.length_append, List.length_map, List.length_range, List.length_cons, List.length_nil]; omega), k9 i (by omega)]
  simp only [Option.bind_some, List.range_succ, List.map_append, List.map_cons, List.map_nil, List.append_assoc]) (by
  unfold a4u
  simp only
  rw [show decide (((a + 1 : Nat) : Int) <= (a : Int)) = false from by simp; omega]
  rfl) ((a : Int).toNat + 2) (by omega)
 simpa using this
theorem c7T (a : Nat) (ha : a <= 1000) (l : List (List Int)) (hl : l.length * (a + 1) <= 1000000) (hc : ∀ c ∈ l, c.length <= 1000) (z : Int) : j7 (a4x (a : Int) (l, z)) (l.length + 1) ([], 0) = some (l.flatMap fun c => (List.range (a + 1)).map fun i : Nat => c ++ [(i : Int)]) := by
 have hlen : ∀ l : List (List Int), (l.flatMap fun c => (List.range (a + 1)).map fun i : Nat => c ++ [(i : Int)]).length = l.length * (a + 1) := by
  intro l
  induction l with
  | nil => simp
  | cons x r ih => rw [List.flatMap_cons, List.length_append, ih, List.length_map, List.length_range, List.length_cons, Nat.add_mul, Nat.one_mul, Nat.add_comm]
 have hll : l.length <= 1000000 := by
  have : l.length * 1 <= l.length * (a + 1) := Nat.mul_le_mul_left _ (by omega)
  omega
 have := a6r (step := a4x (a : Int) (l, z)) (fun i => ((l.take i).flatMap fun c => (List.range (a + 1)).map fun i : Nat => c ++ [(i : Int)], (i : Int))) l.length (l.flatMap fun c => (List.range (a + 1)).map fun i : Nat => c ++ [(i : Int)]) (fun i hi => by
  have hx := List.getElem?_eq_getElem hi
  unfold a4x
  simp only [Z1]
  rw [Z6 hi, k7 hx]
  simp only [cond_true, Option.bind_some]
  rw [c7H a ha l[i] (hc _ (List.getElem_mem hi)) _ (by
   rw [hlen, List.length_take]
   have : min i l.length * (a + 1) <= l.length * (a + 1) := Nat.mul_le_mul_right _ (by omega)
   omega), k9 i (by omega)]
  simp only [Option.bind_some]
  rw [a3r hx, List.flatMap_append]
  simp) (by
  unfold a4x
  simp) (l.length + 1) (Nat.le_refl _)
 simpa using this
theorem c47 (a m : Nat) (ha : a <= 20) (hm : m <= 3) : a8J (a : Int) (m : Int) = some (chs a m) := by
 have hpow : ∀ i, i <= 3 -> (a + 1) ^ i <= 9261 := fun i hi => by
  have h1 : (a + 1) ^ i <= (a + 1) ^ 3 := Nat.pow_le_pow_right (by omega) hi
  have h2 : (a + 1) ^ 3 <= 21 ^ 3 := Nat.pow_le_pow_left (by omega) 3
  omega
 unfold a8J
 have := a6r (step := a4o (a : Int) (m : Int)) (fun i => (chs a i, (i : Int))) m (chs a m) (fun i hi => by
  unfold a4o
  simp only [Z1, Y1]
  rw [Z6 hi]
  simp only [cond_true]
  rw [c7T a (by omega) (chs a i) (by
   rw [c0N]
   have := hpow i (by omega)
   have h2 : (a + 1) ^ i * (a + 1) <= 9261 * 21 := Nat.mul_le_mul this (by omega)
   omega) (fun c hc => by have := ((b2q a i c).1 hc).1; omega) (i : Int), k9 i (by omega)]
  rfl) (by
  unfold a4o
  simp) ((m : Int).toNat + 1) (by omega)
 have h0 : j7 (a4o (a : Int) (m : Int)) ((m : Int).toNat + 1) (([([] : List Int)] : List (List Int)), 0) = some (chs a m) := this
 rw [h0]
 rfl
end Go.Pl
end
section
namespace Go.Pl
open Go Go.RowKit Go.Sx Go.Qx
theorem c1A {α : Type} (f : Nat -> α) (a j : Nat) (v : α) : ((List.range a).map f).set j v = (List.range a).map fun i => if i = j then v else f i := by
 apply List.ext_getElem?
 intro i
 rw [List.getElem?_set]
 by_cases hi : i < a
 ·by_cases e : j = i
  ·subst e; simp [hi]
  ·simp [e, hi, Ne.symm e]
 ·by_cases e : j = i
  ·subst e; simp [hi]
  ·simp [e, hi]
section
variable {T : Api_Type}
def a5L (T : Api_Type) (k : Int) : Int := match T.Nodes[k.toNat]? with
 | some x => x.Kind
 | none => 0
abbrev ZT := List ((Int × List Int) × Int)
def a7M (q : (Int × List Int) × Int) : Int := q.1.2.getD q.2.toNat 0
def K7 (z : ZT) (i : Nat) : List Int := (z.filter fun q => q.2 == (i : Int)).map a7M
def b5Q (T : Api_Type) (a : Nat) (q : (Int × List Int) × Int) : Bool := decide (q.2 < (a : Int)) && a5L T (a7M q) == 2
def K2 (a : Nat) (kn : List Int) (z : ZT) : List Api_Goal := (List.range a).map fun i => g0 [kn.getD i 0] (K7 z i)
def a5i (a : Nat) (z : ZT) : Bool := !(z.any fun q => q.2 == (a : Int))
def a0r (g : Api_Goal) : Api_Goal := Api_Goal.mk (srt g.Pos) (srt g.Neg) g.Lists
def a7H (T : Api_Type) (a : Nat) (kn : List Int) (z : ZT) : List Api_EntryForm :=
 if z.any (b5Q T a) = true \/ (K2 a kn z).any (fun g => a4K g.Pos g.Neg) = true then [] else
  (if a4K (K7 z a) [kn.getD a 0] = false /\ a5L T (kn.getD a 0) ≠ 2 then [Api_EntryForm.mk ((K2 a kn z).map a0r) false (a0r (g0 (K7 z a) [kn.getD a 0]))] else []) ++
  (if a5i a z = true then [Api_EntryForm.mk ((K2 a kn z).map a0r) true (g0 [] [])] else [])
theorem a7v (z : ZT) (i : Nat) : (K7 z i).length <= z.length := by
 unfold K7
 rw [List.length_map]
 exact List.length_filter_le _ _
theorem c4c {k : Int} (h : inR T.Nodes.length k = true) : ∃ x, idx T.Nodes k = some x /\ x.Kind = a5L T k := by
 unfold inR at h
 simp only [Bool.and_eq_true, decide_eq_true_eq] at h
 have hk : k.toNat < T.Nodes.length := by omega
 have e := List.getElem?_eq_getElem hk
 refine ⟨_, by have := k7 e; rwa [show ((k.toNat : Nat) : Int) = k by omega] at this, ?_⟩
 unfold a5L
 rw [e]
theorem a71 {l : List Int} {i : Nat} (h : i < l.length) : l[i]? = some (l.getD i 0) := by
 rw [List.getElem?_eq_getElem h]
 simp [List.getD, List.getElem?_eq_getElem h]
theorem c5Z (a : Nat) (ha : a <= 1000) {e : Api_TypeNode} {kn : List Int} (he : e.Kids = kn) (hk : kn.length = a + 1) :
 j7 (a5S e a) (((List.replicate a (Api_Goal.mk ([]) ([]) false : Api_Goal)).length : Int).toNat + 1) (0, List.replicate a (Api_Goal.mk ([]) ([]) false : Api_Goal)) = some ((), K2 a kn []) := by
 have := a6r (step := a5S e a) (fun i => ((i : Int), (List.range a).map fun j => if j < i then g0 [kn.getD j 0] [] else g0 [] [])) a ((), K2 a kn []) (fun i hi => by
  have hx : ((List.range a).map fun j => if j < i then g0 [kn.getD j 0] [] else g0 [] [])[i]? = some (g0 [] []) := by simp [hi]
  unfold a5S
  simp only [Z1, List.length_replicate, Int.toNat_natCast]
  rw [Z6 hi, he, k7 (a71 (show i < kn.length by omega)), k7 hx, hx, k9 i (by omega)]
  simp only [cond_true, Option.bind_some]
  rw [c1A]
  congr 3
  apply List.map_congr_left
  intro j hj
  by_cases h1 : j = i
  ·subst h1; simp
  ·by_cases h2 : j < i
   ·simp [h1, h2, show j < i + 1 by omega]
   ·simp [h1, h2, show ¬ j < i + 1 by omega]) (by
  unfold a5S
  simp only [List.length_replicate]
  rw [show decide ((a : Int) < (a : Int)) = false from by simp]
  simp only [cond_false]
  congr 3
  unfold K2 K7
  apply List.map_congr_left
  intro j hj
  simp [List.mem_range.1 hj]) (((List.replicate a (Api_Goal.mk ([]) ([]) false : Api_Goal)).length : Int).toNat + 1) (by simp)
 rw [show List.replicate a (Api_Goal.mk ([]) ([]) false : Api_Goal) = (List.range a).map fun j => if j < 0 then g0 [kn.getD j 0] [] else g0 [] [] from by
  apply List.ext_getElem?
  intro i
  by_cases hi : i < a <;> simp [hi]] at this ⊢
 exact this
def okZ (T : Api_Type) (a : Nat) (z : ZT) : Prop := ∀ q ∈ z, (∃ x, idx T.Nodes q.1.1 = some x /\ x.Kids = q.1.2) /\ q.1.2.length = a + 1 /\ (∀ k ∈ q.1.2, inR T.Nodes.length k = true) /\ 0 <= q.2 /\ q.2 <= (a : Int)
theorem b5Y {z : ZT} {k : Nat} {q : (Int × List Int) × Int} (h : z[k]? = some q) (i : Nat) : K7 (z.take (k + 1)) i = K7 (z.take k) i ++ (if q.2 == (i : Int) then [a7M q] else []) := by
 unfold K7
 rw [a3r h, List.filter_append, List.map_append]
 by_cases e : q.2 == (i : Int) <;> simp [e]
theorem c3J {a : Nat} {z : ZT} {k : Nat} {q : (Int × List Int) × Int} (h : z[k]? = some q) : a5i a (z.take (k + 1)) = (a5i a (z.take k) && !(q.2 == (a : Int))) := by
 unfold a5i
 rw [a3r h, List.any_append]
 simp
theorem a5o {a : Nat} {kn : List Int} {z : ZT} {i : Nat} (hi : i < a) : (K2 a kn z)[i]? = some (g0 [kn.getD i 0] (K7 z i)) := by
 unfold K2
 simp [hi]
theorem c5M {a : Nat} {z : ZT} (hz : okZ T a z) {q : (Int × List Int) × Int} (hq : q ∈ z) : idx q.1.2 q.2 = some (a7M q) /\ inR T.Nodes.length (a7M q) = true := by
 obtain ⟨_, h2, h3, h4, h5⟩ := hz q hq
 have hlt : q.2.toNat < q.1.2.length := by omega
 have e := a71 hlt
 refine ⟨?_, h3 _ (List.mem_of_getElem? e)⟩
 have := k7 e
 rwa [show ((q.2.toNat : Nat) : Int) = q.2 by omega] at this
theorem c5z (a : Nat) (ha : a <= 1000) {e : Api_TypeNode} {kn : List Int} (he : e.Kids = kn) (hk : kn.length = a + 1) (z : ZT) (hz : okZ T a z) (hzl : z.length <= 1000) :
 (j7 (a24 T (z.map fun q => q.1.1) (z.map fun q => q.2) e) (((z.map fun q => q.1.1).length : Int).toNat + 1) ((true, 0, ([], ([kn.getD a 0] : List Int), false)), K2 a kn []) = some (.inl ((a5i a z, (K7 z a, [kn.getD a 0], false)), K2 a kn z)) /\ z.any (b5Q T a) = false) \/
 ∃ r, j7 (a24 T (z.map fun q => q.1.1) (z.map fun q => q.2) e) (((z.map fun q => q.1.1).length : Int).toNat + 1) ((true, 0, ([], ([kn.getD a 0] : List Int), false)), K2 a kn []) = some (.inr r) /\ r.1.1 = [] /\ z.any (b5Q T a) = true := by
 have hw : w64 ((kn.length : Int) - 1) = (a : Int) := by rw [hk, J4 (by omega) (by omega)]; omega
 have hlen : (z.map fun q => q.1.1).length = z.length := List.length_map _
 have key := c1F (step := a24 T (z.map fun q => q.1.1) (z.map fun q => q.2) e) (fun k => ((a5i a (z.take k), (k : Int), (K7 (z.take k) a, ([kn.getD a 0] : List Int), false)), K2 a kn (z.take k)))
  (fun k => match z[k]? with | some q => b5Q T a q | none => false) z.length (.inl ((a5i a z, (K7 z a, [kn.getD a 0], false)), K2 a kn z)) (fun r => ∃ r', r = .inr r' /\ r'.1.1 = []) (fun k hkl hb => ?_) (fun k hkl hb => ?_) ?_ (((z.map fun q => q.1.1).length : Int).toNat + 1) (by rw [hlen]; omega)
 ·rcases key with ⟨k1, k2⟩ | ⟨r, k1, ⟨r', rfl, k2⟩, i, hi, k3⟩
  ·left
   refine ⟨k1, ?_⟩
   rw [List.any_eq_false]
   intro q hq
   obtain ⟨i, hi, e⟩ := List.getElem_of_mem hq
   have := k2 i hi
   rw [List.getElem?_eq_getElem hi, e] at this
   simpa using this
  ·right
   refine ⟨r', k1, k2, ?_⟩
   rw [List.getElem?_eq_getElem hi] at k3
   exact List.any_eq_true.2 ⟨_, List.getElem_mem hi, k3⟩
 all_goals
  try
   have hq := List.getElem?_eq_getElem hkl
   have hm := List.getElem_mem hkl
   generalize z[k] = q at hq hm
   rw [hq] at hb
   simp only at hb
   obtain ⟨⟨x, hx1, hx2⟩, h2, h3, h4, h5⟩ := hz q hm
   obtain ⟨w1, w2⟩ := c5M hz hm
   obtain ⟨y, y1, y2⟩ := c4c w2
   have t1 : (z.map fun q => q.1.1)[k]? = some q.1.1 := by rw [List.getElem?_map, hq]; rfl
   have t2 : (z.map fun q => q.2)[k]? = some q.2 := by rw [List.getElem?_map, hq]; rfl
   have hk1 : decide ((k : Int) < ((z.map fun q => q.1.1).length : Int)) = true := by rw [hlen]; exact Z6 hkl
 ·unfold a24
  simp only [Z1]
  rw [hk1, k7 t1, k7 t2]
  simp only [cond_true, Option.bind_some]
  rw [hx1]
  simp only [Option.bind_some]
  rw [hx2, w1]
  simp only [he, hw, Option.bind_some]
  rw [y1, k9 k (by omega)]
  simp only [Option.bind_some, y2]
  unfold b5Q at hb
  have hq15 : (bif decide (q.2 < (a : Int)) then some (a5L T (a7M q) == 2) else some false) = some false := by
   cases hd : decide (q.2 < (a : Int)) with
   | true => rw [hd] at hb; simp only [Bool.true_and] at hb; rw [cond_true, hb]
   | false => rfl
  rw [hq15]
  simp only [Option.bind_some, cond_false]
  rw [c3J hq, b5Y hq a]
  cases hqa : q.2 == (a : Int) with
  | true =>
    simp only [cond_true]
    rw [Y0 (by have := a7v (z.take k) a; rw [List.length_take] at this; simp only [List.length_cons, List.length_nil]; omega)]
    simp only [Option.bind_some, if_true, Bool.not_true, Bool.and_false]
    congr 3
    unfold K2
    apply List.map_congr_left
    intro i hi
    have hi := List.mem_range.1 hi
    have hqe : q.2 = (a : Int) := by simpa using hqa
    rw [b5Y hq i, if_neg (by simp; omega), List.append_nil]
  | false =>
    have hqe : q.2 ≠ (a : Int) := by simpa using hqa
    have hlt : q.2.toNat < a := by omega
    have ha1 := a5o (kn := kn) (z := z.take k) hlt
    have ha2 : idx (K2 a kn (z.take k)) q.2 = some (g0 [kn.getD q.2.toNat 0] (K7 (z.take k) q.2.toNat)) := by
     have := k7 ha1
     rwa [show ((q.2.toNat : Nat) : Int) = q.2 by omega] at this
    simp only [cond_false]
    rw [ha2, ha1]
    simp only [Option.bind_some]
    rw [Y0 (by have := a7v (z.take k) q.2.toNat; rw [List.length_take] at this; simp only [List.length_cons, List.length_nil]; omega)]
    have hbq : Nat.beq (q.2.toNat + 2) (q.2.toNat + 2) = true := by simp
    simp only [Option.bind_some, hbq, cond_true, Bool.not_false, Bool.and_true, Bool.false_eq_true, if_false, List.append_nil]
    congr 3
    unfold K2
    rw [c1A]
    apply List.map_congr_left
    intro i hi
    rw [b5Y hq i]
    by_cases e : i = q.2.toNat
    ·subst e
     rw [if_pos rfl, if_pos (by simp; omega)]
    ·rw [if_neg e, if_neg (by simp; omega), List.append_nil]
 ·unfold b5Q at hb
  simp only [Bool.and_eq_true] at hb
  refine ⟨.inr (([], (K7 (z.take k) a, [kn.getD a 0], false)), K2 a kn (z.take k)), ?_, (([], (K7 (z.take k) a, [kn.getD a 0], false)), K2 a kn (z.take k)), rfl, rfl⟩
  unfold a24
  simp only [Z1]
  rw [hk1, k7 t1, k7 t2]
  simp only [cond_true, Option.bind_some]
  rw [hx1]
  simp only [Option.bind_some]
  rw [hx2, w1]
  simp only [he, hw, Option.bind_some]
  rw [y1]
  simp only [Option.bind_some, y2, hb.1, hb.2, cond_true]
 ·unfold a24
  simp only [hlen, List.take_length]
  rw [show decide ((z.length : Int) < (z.length : Int)) = false from by simp]
  rfl
theorem b7K (a : Nat) (kn : List Int) (z : ZT) : (K2 a kn z).length = a := by simp [K2]
theorem b7P {a : Nat} {kn : List Int} {z : ZT} {g : Api_Goal} (h : g ∈ K2 a kn z) : ∃ i, i < a /\ g = g0 [kn.getD i 0] (K7 z i) := by
 unfold K2 at h
 obtain ⟨i, hi, e⟩ := List.mem_map.1 h
 exact ⟨i, List.mem_range.1 hi, e.symm⟩
theorem c43 (g : Api_Goal) : a0r (a0r g) = a0r g := by
 unfold a0r
 simp only [c0Q]
theorem c6J (a : Nat) (ha : a <= 1000) (kn : List Int) (z : ZT) (hzl : z.length <= 1000) (x : Bool × ((List Int) × (List Int) × Bool)) :
 (j7 (a26 (x, K2 a kn z)) (((K2 a kn z).length : Int).toNat + 1) ([], 0) = some (.inl ((K2 a kn z).map a0r)) /\ (K2 a kn z).any (fun g => a4K g.Pos g.Neg) = false) \/
 ∃ r, j7 (a26 (x, K2 a kn z)) (((K2 a kn z).length : Int).toNat + 1) ([], 0) = some (.inr r) /\ r = [] /\ (K2 a kn z).any (fun g => a4K g.Pos g.Neg) = true := by
 have hl := b7K a kn z
 have key := c1F (step := a26 (x, K2 a kn z)) (fun k => (((K2 a kn z).take k).map a0r, (k : Int)))
  (fun k => match (K2 a kn z)[k]? with | some g => a4K g.Pos g.Neg | none => false) a (.inl ((K2 a kn z).map a0r)) (fun r => ∃ r', r = .inr r' /\ r' = []) (fun k hkl hb => ?_) (fun k hkl hb => ?_) ?_ (((K2 a kn z).length : Int).toNat + 1) (by rw [hl]; omega)
 ·rcases key with ⟨k1, k2⟩ | ⟨r, k1, ⟨r', rfl, k2⟩, i, hi, k3⟩
  ·left
   refine ⟨k1, ?_⟩
   rw [List.any_eq_false]
   intro g hg
   obtain ⟨i, hi, e⟩ := List.getElem_of_mem hg
   have := k2 i (by omega)
   rw [List.getElem?_eq_getElem hi, e] at this
   simpa using this
  ·right
   refine ⟨r', k1, k2, ?_⟩
   rw [a5o hi] at k3
   exact List.any_eq_true.2 ⟨_, List.mem_of_getElem? (a5o hi), k3⟩
 ·rw [a5o hkl] at hb
  have hb : a4K [kn.getD k 0] (K7 z k) = false := hb
  have hn := a7v z k
  unfold a26
  simp only [Z1, Int.toNat_natCast]
  rw [show decide ((k : Int) < ((K2 a kn z).length : Int)) = true from by rw [hl]; exact Z6 hkl, k7 (a5o hkl)]
  simp only [cond_true, Option.bind_some]
  rw [c0s _ _ (by simp) (by omega), hb]
  simp only [Option.bind_some, cond_false]
  rw [b7A _ _ _ (by simp) (by omega)]
  simp only [Option.bind_some]
  rw [Y0 (by simp only [List.length_map, List.length_take, List.length_cons, List.length_nil]; omega), k9 k (by omega), a3r (a5o hkl)]
  simp [a0r]
 ·rw [a5o hkl] at hb
  have hb : a4K [kn.getD k 0] (K7 z k) = true := hb
  have hn := a7v z k
  refine ⟨.inr [], ?_, [], rfl, rfl⟩
  unfold a26
  simp only [Z1, Int.toNat_natCast]
  rw [show decide ((k : Int) < ((K2 a kn z).length : Int)) = true from by rw [hl]; exact Z6 hkl, k7 (a5o hkl)]
  simp only [cond_true, Option.bind_some]
  rw [c0s _ _ (by simp) (by omega), hb]
  rfl
 ·unfold a26
  simp only [hl]
  rw [show decide ((a : Int) < (a : Int)) = false from by simp, List.take_of_length_le (by omega)]
  rfl
theorem c6t (l : List Api_Goal) (out : List Api_EntryForm) (hl : l.length <= 1000) (hp : ∀ g ∈ l, g.Pos.length <= 1000 /\ g.Neg.length <= 1000) : j7 (a4i (l, out)) ((l.length : Int).toNat + 1) ([], 0) = some (l.map a0r) := by
 have := a6r (step := a4i (l, out)) (fun k => ((l.take k).map a0r, (k : Int))) l.length (l.map a0r) (fun k hk => by
  have hx := List.getElem?_eq_getElem hk
  obtain ⟨h1, h2⟩ := hp _ (List.getElem_mem hk)
  unfold a4i
  simp only [Z1]
  rw [Z6 hk, k7 hx]
  simp only [cond_true, Option.bind_some]
  generalize l[k] = g at hx h1 h2
  obtain ⟨p, q, b⟩ := g
  rw [b7A p q b (by have : p.length <= 1000 := h1; omega) (by have : q.length <= 1000 := h2; omega)]
  simp only [Option.bind_some]
  rw [Y0 (by simp only [List.length_map, List.length_take, List.length_cons, List.length_nil]; omega), k9 k (by omega), a3r hx]
  simp [a0r]) (by
  unfold a4i
  simp) ((l.length : Int).toNat + 1) (by omega)
 exact this
theorem c7Y (a : Nat) (ha : a <= 1000) {e : Api_TypeNode} {kn : List Int} {jn : Int} (hj : idx T.Nodes jn = some e) (he : e.Kids = kn) (hk : kn.length = a + 1) (hkr : ∀ k ∈ kn, inR T.Nodes.length k = true) (z : ZT) (hz : okZ T a z) (hzl : z.length <= 1000) :
 b0N T (z.map fun q => q.1.1) jn (z.map fun q => q.2) = some (a7H T a kn z) := by
 have hw : wr .i64 ((e.Kids.length : Int) - 1) = (a : Int) := by rw [Z1, he, hk, J4 (by omega) (by omega)]; omega
 have hroom : a8H (a : Int) (a : Int) 56 = some a := by
  unfold a8H
  rw [show (decide (0 <= (a : Int)) && decide ((a : Int) <= (a : Int)) && decide ((a : Int) * ((56 : Nat) : Int) <= 140737488355328)) = true from by simp; omega]
  rfl
 have hka : idx kn (a : Int) = some (kn.getD a 0) := k7 (a71 (by omega))
 have hkin := hkr _ (List.mem_of_getElem? (a71 (show a < kn.length by omega)))
 obtain ⟨y, y1, y2⟩ := c4c hkin
 have hna := a7v z a
 unfold b0N
 rw [hj]
 simp only [Option.bind_some, hw]
 rw [hroom]
 simp only [Option.bind_some]
 rw [c5Z a ha he hk]
 simp only [Option.bind_some]
 rw [he, hka]
 simp only [Option.bind_some]
 unfold a7H
 rcases c5z a ha he hk z hz hzl with ⟨k1, k2⟩ | ⟨r, k1, k2, k3⟩
 ·rw [k1, k2]
  simp only [Option.bind_some, v7]
  rcases c6J a ha kn z hzl (a5i a z, (K7 z a, [kn.getD a 0], false)) with ⟨m1, m2⟩ | ⟨r, m1, m2, m3⟩
  ·rw [m1, m2]
   simp only [Option.bind_some, v7, Bool.false_eq_true, or_self, if_false]
   rw [c0s _ _ (by omega) (by simp)]
   simp only [Option.bind_some]
   have hq37 : (bif !(a4K (K7 z a) [kn.getD a 0]) then (Option.bind (idx T.Nodes (kn.getD a 0)) fun e36 => some (e36.Kind != 2)) else some false) = some (decide (a4K (K7 z a) [kn.getD a 0] = false /\ a5L T (kn.getD a 0) ≠ 2)) := by
    rw [y1]
    simp only [Option.bind_some, y2]
    cases a4K (K7 z a) [kn.getD a 0]
    ·simp [bne]
     cases h : (a5L T (kn.getD a 0) == 2) <;> simp_all
    ·simp
   rw [hq37]
   simp only [Option.bind_some]
   have hargs : ∀ out, j7 (a4i ((K2 a kn z).map a0r, out)) ((((K2 a kn z).map a0r).length : Int).toNat + 1) ([], 0) = some ((K2 a kn z).map a0r) := fun out => by
    rw [c6t _ out (by rw [List.length_map, b7K]; exact ha) fun g hg => by
     obtain ⟨g', hg', rfl⟩ := List.mem_map.1 hg
     obtain ⟨i, hi, rfl⟩ := b7P hg'
     have h1 := b79 [kn.getD i 0]
     have h2 := b79 (K7 z i)
     have h3 := a7v z i
     simp only [List.length_cons, List.length_nil] at h1
     exact ⟨by show (srt [kn.getD i 0]).length <= 1000; omega, by show (srt (K7 z i)).length <= 1000; omega⟩]
    rw [List.map_map]
    congr 1
    exact List.map_congr_left fun g _ => c43 g
   by_cases hf : a4K (K7 z a) [kn.getD a 0] = false /\ a5L T (kn.getD a 0) ≠ 2
   ·rw [decide_eq_true hf, if_pos hf]
    simp only [cond_true]
    rw [b7A _ _ _ (by omega) (by simp)]
    simp only [Option.bind_some]
    rw [Y0 (by simp)]
    simp only [Option.bind_some]
    cases a5i a z
    ·simp [a0r]
    ·simp only [cond_true]
     rw [hargs]
     simp only [Option.bind_some]
     rw [Y0 (by simp)]
     simp [a0r]
   ·rw [decide_eq_false hf, if_neg hf]
    simp only [cond_false, Option.bind_some]
    cases a5i a z
    ·simp
    ·simp only [cond_true]
     rw [hargs]
     simp only [Option.bind_some]
     rw [Y0 (by simp)]
     simp
  ·rw [m1, m3]
   simp only [Option.bind_some, v7, or_true, if_true, m2]
 ·rw [k1, k3]
  simp only [Option.bind_some, v7, true_or, if_true, k2]
end
end Go.Pl
end
section
namespace Go.Pl
open Go Go.RowKit Go.Sx Go.Qx
section
variable {T : Api_Type}
abbrev PS := List (Int × List Int)
def okP (T : Api_Type) (a : Nat) (ps : PS) : Prop := ∀ q ∈ ps, (∃ x, idx T.Nodes q.1 = some x /\ x.Kids = q.2) /\ q.2.length = a + 1 /\ (∀ k ∈ q.2, inR T.Nodes.length k = true)
def b2x (T : Api_Type) (a : Nat) (kn : List Int) (ps : PS) : List Api_EntryForm := (chs a ps.length).flatMap fun c => a7H T a kn (ps.zip c)
theorem c54 {a : Nat} {ps : PS} (h : okP T a ps) {c : List Int} (hc : c ∈ chs a ps.length) : okZ T a (ps.zip c) /\ (ps.zip c).map (fun q => q.1.1) = ps.map (fun q => q.1) /\ (ps.zip c).map (fun q => q.2) = c /\ (ps.zip c).length = ps.length := by
 obtain ⟨h1, h2⟩ := (b2q a _ c).1 hc
 refine ⟨fun q hq => ?_, ?_, ?_, by simp [h1]⟩
 ·have hq1 := List.of_mem_zip (show (q.1, q.2) ∈ ps.zip c from hq)
  obtain ⟨k1, k2, k3⟩ := h _ hq1.1
  exact ⟨k1, k2, k3, (h2 _ hq1.2).1, (h2 _ hq1.2).2⟩
 ·have : (ps.zip c).map (fun q => q.1.1) = ((ps.zip c).map Prod.fst).map (fun q => q.1) := by rw [List.map_map]; rfl
  rw [this, List.map_fst_zip (by omega)]
 ·exact List.map_snd_zip (by omega)
theorem b9N (a : Nat) (kn : List Int) (z : ZT) : (a7H T a kn z).length <= 2 := by
 unfold a7H
 split
 ·simp
 ·rw [List.length_append]
  split <;> split <;> simp
theorem c2Y {α β : Type} (f : α -> List β) (b : Nat) (hf : ∀ x, (f x).length <= b) : ∀ l : List α, (l.flatMap f).length <= l.length * b
 | [] => by simp
 | x :: l => by
   rw [List.flatMap_cons, List.length_append, List.length_cons, Nat.add_mul, Nat.one_mul]
   have h1 := hf x
   have h2 := c2Y f b hf l
   omega
theorem c7e (a : Nat) (ha : a <= 20) {e : Api_TypeNode} {kn : List Int} {jn : Int} (hj : idx T.Nodes jn = some e) (he : e.Kids = kn) (hk : kn.length = a + 1) (hkr : ∀ k ∈ kn, inR T.Nodes.length k = true) (ps : PS) (hz : okP T a ps) (hzl : ps.length <= 3)
 (hfn : (ps.map (fun q => q.1)).all (fnB T) = true) (hfj : fnB T jn = true) (n : Nat) (hwf : a0i n T = some 0) : a8x n T (ps.map fun q => q.1) jn = some (b2x T a kn ps, 0) := by
 have hw : wr .i64 ((e.Kids.length : Int) - 1) = (a : Int) := by rw [Z1, he, hk, J4 (by omega) (by omega)]; omega
 have hlm : (ps.map fun q => q.1).length = ps.length := List.length_map _
 unfold a8x a2W
 rw [hwf]
 simp only [Option.bind_some, bne_self_eq_false, cond_false]
 rw [Y0 (by rw [hlm]; omega)]
 simp only [Option.bind_some]
 rw [Y0 (by simp only [hlm, List.length_cons, List.length_nil]; omega)]
 simp only [Option.bind_some]
 rw [c9X _ (by simp only [List.length_append, hlm, List.length_cons, List.length_nil]; omega), List.all_append, hfn]
 simp only [List.all_cons, List.all_nil, hfj, Bool.and_self, Option.bind_some, Bool.not_true, cond_false]
 rw [hj]
 simp only [Option.bind_some, hw]
 have l1 := a6r (step := a5N T (ps.map fun q => q.1) e) (fun i => (i : Int)) ps.length (.inl ()) (fun i hi => by
  have hq := List.getElem?_eq_getElem hi
  obtain ⟨⟨x, x1, x2⟩, x3, _⟩ := hz _ (List.getElem_mem hi)
  generalize ps[i] = q at hq x1 x2 x3
  unfold a5N
  simp only [Z1]
  rw [show decide ((i : Int) < ((ps.map fun q => q.1).length : Int)) = true from by rw [hlm]; exact Z6 hi, k7 (show (ps.map fun q => q.1)[i]? = some q.1 by rw [List.getElem?_map, hq]; rfl)]
  simp only [cond_true, Option.bind_some]
  rw [x1]
  simp only [Option.bind_some]
  rw [x2, he, x3, hk, k9 i (by omega)]
  simp) (by
  unfold a5N
  simp [hlm]) (((ps.map fun q => q.1).length : Int).toNat + 1) (by rw [hlm]; omega)
 have l1' : j7 (a5N T (ps.map fun q => q.1) e) (((ps.map fun q => q.1).length : Int).toNat + 1) 0 = some (.inl ()) := l1
 rw [l1']
 simp only [Option.bind_some, v7]
 rw [hlm, c47 a ps.length ha hzl]
 simp only [Option.bind_some]
 have hcl : (chs a ps.length).length <= 9261 := by
  rw [c0N]
  have h1 : (a + 1) ^ ps.length <= (a + 1) ^ 3 := Nat.pow_le_pow_right (by omega) hzl
  have h2 : (a + 1) ^ 3 <= 21 ^ 3 := Nat.pow_le_pow_left (by omega) 3
  omega
 have l2 := a6r (step := a5E T (ps.map fun q => q.1) jn (chs a ps.length)) (fun i => (((chs a ps.length).take i).flatMap fun c => a7H T a kn (ps.zip c), (i : Int))) (chs a ps.length).length (b2x T a kn ps) (fun i hi => by
  have hq := List.getElem?_eq_getElem hi
  have hm := List.getElem_mem hi
  generalize (chs a ps.length)[i] = c at hq hm
  obtain ⟨z1, z2, z3, z4⟩ := c54 hz hm
  have hf := c7Y a (by omega) hj he hk hkr (ps.zip c) z1 (by omega)
  rw [z2, z3] at hf
  unfold a5E
  simp only [Z1]
  rw [Z6 hi, k7 hq]
  simp only [cond_true, Option.bind_some]
  rw [hf]
  simp only [Option.bind_some]
  have b1 := c2Y (fun c => a7H T a kn (ps.zip c)) 2 (fun c => b9N a kn _) ((chs a ps.length).take i)
  have b2 := b9N (T := T) a kn (ps.zip c)
  rw [List.length_take] at b1
  rw [Y0 (by omega), k9 i (by omega), a3r hq, List.flatMap_append]
  simp) (by
  unfold a5E
  simp [b2x]) (((chs a ps.length).length : Int).toNat + 1) (by omega)
 have l2' : j7 (a5E T (ps.map fun q => q.1) jn (chs a ps.length)) (((chs a ps.length).length : Int).toNat + 1) ([], 0) = some (b2x T a kn ps) := l2
 rw [l2']
 rfl
end
end Go.Pl
end
section
namespace Go.Pl
open Go Go.RowKit Go.Sx Go.Qx
section
variable {T : Api_Type}
def inF (T : Api_Type) (e : Ent) (f : Api_EntryForm) : Bool := (e.Fails == f.Fails) && ((e.Args.zip f.Args).all fun p => gM T p.1 p.2) && (e.Fails || gM T e.Result f.Result)
theorem b5L {μ : Val -> Int -> Bool} {e : Ent} {a : Nat} {ks : List Int} (ha : e.Args.length = a) (hk : ks.length = a + 1) :
 a2L μ e ks = true ↔ (∃ i x, e.Args[i]? = some x /\ μ x (ks.getD i 0) = false) \/ (e.Fails = false /\ μ e.Result (ks.getD a 0) = true) := by
 have h1 : a9u μ e.Args (ks.take (ks.length - 1)) = true ↔ ∀ i x, e.Args[i]? = some x -> μ x (ks.getD i 0) = true := by
  unfold a9u
  have e1 : ((e.Args.length : Int) == ((ks.take (ks.length - 1)).length : Int)) = true := by simp; omega
  rw [e1, Bool.true_and, List.all_eq_true]
  constructor
  ·intro h i x hx
   have hi := (List.getElem?_eq_some_iff.1 hx).1
   have : (e.Args.zip (ks.take (ks.length - 1)))[i]? = some (x, ks.getD i 0) := by
    rw [List.getElem?_zip_eq_some]
    exact ⟨hx, by rw [List.getElem?_take_of_lt (by omega)]; exact a71 (by omega)⟩
   exact h _ (List.mem_of_getElem? this)
  ·intro h p hp
   obtain ⟨i, hi, e2⟩ := List.getElem_of_mem hp
   have hp' := List.getElem?_eq_getElem hi
   rw [e2] at hp'
   obtain ⟨k1, k2⟩ := b0Q hp'
   have hia := (List.getElem?_eq_some_iff.1 k1).1
   rw [List.getElem?_take_of_lt (by omega), a71 (by omega)] at k2
   cases p with
   | mk x y =>
     simp only at k1 k2 ⊢
     cases k2
     exact h i x k1
 have h2 : b8f ks = ks.getD a 0 := by unfold b8f; rw [hk]; rfl
 unfold a2L
 rw [h2, Bool.or_eq_true, Bool.and_eq_true, Bool.not_eq_true', Bool.not_eq_true']
 constructor
 ·rintro (h | h)
  ·left
   apply Classical.byContradiction
   intro hn
   have : a9u μ e.Args (ks.take (ks.length - 1)) = true := h1.2 fun i x hx => by
    cases hm : μ x (ks.getD i 0) with
    | true => rfl
    | false => exact absurd ⟨i, x, hx, hm⟩ hn
   rw [h] at this; cases this
  ·exact .inr h
 ·rintro (⟨i, x, hx, hm⟩ | h)
  ·left
   cases hall : a9u μ e.Args (ks.take (ks.length - 1)) with
   | false => rfl
   | true => rw [h1.1 hall i x hx] at hm; cases hm
  ·exact .inr h
theorem c4f {e : Ent} {a : Nat} (ha : e.Args.length = a) (kn : List Int) (z : ZT) :
 ((e.Args.zip ((K2 a kn z).map a0r)).all fun p => gM T p.1 p.2) = true ↔ ∀ i x, e.Args[i]? = some x -> Z5 T x (kn.getD i 0) = true /\ ∀ k ∈ K7 z i, Z5 T x k = false := by
 have hg : ∀ i x, gM T x (a0r (g0 [kn.getD i 0] (K7 z i))) = true ↔ Z5 T x (kn.getD i 0) = true /\ ∀ k ∈ K7 z i, Z5 T x k = false := fun i x => by
  have : gM T x (a0r (g0 [kn.getD i 0] (K7 z i))) = gM T x (g0 [kn.getD i 0] (K7 z i)) := c6m x _ _
  rw [this]
  unfold gM
  simp
 rw [List.all_eq_true]
 constructor
 ·intro h i x hx
  have hi := (List.getElem?_eq_some_iff.1 hx).1
  have : (e.Args.zip ((K2 a kn z).map a0r))[i]? = some (x, a0r (g0 [kn.getD i 0] (K7 z i))) := by
   rw [List.getElem?_zip_eq_some]
   exact ⟨hx, by rw [List.getElem?_map, a5o (by omega)]; rfl⟩
  exact (hg i x).1 (h _ (List.mem_of_getElem? this))
 ·intro h p hp
  obtain ⟨i, hi, e2⟩ := List.getElem_of_mem hp
  have hp' := List.getElem?_eq_getElem hi
  rw [e2] at hp'
  obtain ⟨k1, k2⟩ := b0Q hp'
  have hia := (List.getElem?_eq_some_iff.1 k1).1
  rw [List.getElem?_map, a5o (by omega)] at k2
  cases p with
  | mk x y =>
    simp only [Option.map_some, Option.some.injEq] at k1 k2 ⊢
    subst k2
    exact (hg i x).2 (h i x k1)
theorem c3j {v : Val} {a : Nat} {kn : List Int} {z : ZT} : gM T v (a0r (g0 (K7 z a) [kn.getD a 0])) = true ↔ (∀ k ∈ K7 z a, Z5 T v k = true) /\ Z5 T v (kn.getD a 0) = false := by
 have : gM T v (a0r (g0 (K7 z a) [kn.getD a 0])) = gM T v (g0 (K7 z a) [kn.getD a 0]) := c6m v _ _
 rw [this]
 unfold gM
 simp
theorem b03 {z : ZT} {i : Nat} {k : Int} : k ∈ K7 z i ↔ ∃ q ∈ z, q.2 = (i : Int) /\ a7M q = k := by
 unfold K7
 simp only [List.mem_map, List.mem_filter, beq_iff_eq]
 constructor
 ·rintro ⟨q, ⟨h1, h2⟩, h3⟩; exact ⟨q, h1, h2, h3⟩
 ·rintro ⟨q, h1, h2, h3⟩; exact ⟨q, ⟨h1, h2⟩, h3⟩
theorem c1G {p q : List Int} : a4K p q = true ↔ ∃ x ∈ p, x ∈ q := by
 unfold a4K
 simp
theorem c6F {a : Nat} {kn : List Int} (hkn : kn.length = a + 1) (hkr : ∀ k ∈ kn, inR T.Nodes.length k = true) {ps : PS} (hps : ∀ q ∈ ps, q.2.length = a + 1) (hpr : ∀ q ∈ ps, ∀ k ∈ q.2, inR T.Nodes.length k = true) {e : Ent} (he : e.Args.length = a) (hany : ∀ v, v ∈ e.Args \/ (e.Fails = false /\ v = e.Result) -> ∀ k, inR T.Nodes.length k = true -> a5L T k = 2 -> Z5 T v k = true) :
 ((b2x T a kn ps).any (inF T e)) = ((ps.all fun q => a2L (Z5 T) e q.2) && !(a2L (Z5 T) e kn)) := by
 rw [Bool.eq_iff_iff, Bool.and_eq_true, Bool.not_eq_true', List.all_eq_true, List.any_eq_true]
 constructor
 ·rintro ⟨f, hf, hin⟩
  unfold b2x at hf
  obtain ⟨c, hc, hf⟩ := List.mem_flatMap.1 hf
  obtain ⟨c1, c2⟩ := (b2q a _ c).1 hc
  unfold a7H at hf
  split at hf
  ·cases hf
  unfold inF at hin
  simp only [Bool.and_eq_true, Bool.or_eq_true, beq_iff_eq] at hin
  obtain ⟨⟨i1, i2⟩, i3⟩ := hin
  have hcase : f.Args = (K2 a kn (ps.zip c)).map a0r /\ ((f.Fails = false /\ f.Result = a0r (g0 (K7 (ps.zip c) a) [kn.getD a 0])) \/ (f.Fails = true /\ a5i a (ps.zip c) = true)) := by
   rcases List.mem_append.1 hf with hf | hf
   ·split at hf
    ·rw [List.mem_singleton.1 hf]; exact ⟨rfl, .inl ⟨rfl, rfl⟩⟩
    ·cases hf
   ·split at hf
    ·rename_i hff
     rw [List.mem_singleton.1 hf]; exact ⟨rfl, .inr ⟨rfl, hff⟩⟩
    ·cases hf
  obtain ⟨j1, j2⟩ := hcase
  rw [j1] at i2
  have i2' := (c4f he kn (ps.zip c)).1 i2
  constructor
  ·intro q hq
   obtain ⟨k, hk, e1⟩ := List.getElem_of_mem hq
   have hkc : k < c.length := by omega
   have hz : (q, c[k]) ∈ ps.zip c := by
    refine List.mem_of_getElem? (i := k) ?_
    rw [List.getElem?_zip_eq_some]
    exact ⟨by rw [List.getElem?_eq_getElem hk, e1], List.getElem?_eq_getElem hkc⟩
   obtain ⟨r1, r2⟩ := c2 _ (List.getElem_mem hkc)
   generalize c[k] = w at hz r1 r2
   refine (b5L he (hps q hq)).2 ?_
   by_cases hwa : w = (a : Int)
   ·right
    have hway : a7M (q, w) = q.2.getD a 0 := by unfold a7M; simp only; rw [hwa]; rfl
    rcases j2 with ⟨j2, j3⟩ | ⟨j2, j3⟩
    ·rw [j2] at i1
     refine ⟨i1, ?_⟩
     rw [i1, j3] at i3
     rcases i3 with i3 | i3
     ·cases i3
     ·exact (c3j.1 i3).1 _ (b03.2 ⟨_, hz, hwa, hway⟩)
    ·exfalso
     unfold a5i at j3
     rw [Bool.not_eq_true', List.any_eq_false] at j3
     exact j3 _ hz (by simpa using hwa)
   ·left
    have hwn : w = ((w.toNat : Nat) : Int) := by omega
    have hwl : w.toNat < e.Args.length := by omega
    refine ⟨w.toNat, e.Args[w.toNat], List.getElem?_eq_getElem hwl, ?_⟩
    exact (i2' _ _ (List.getElem?_eq_getElem hwl)).2 _ (b03.2 ⟨_, hz, hwn, rfl⟩)
  ·cases hkk : a2L (Z5 T) e kn with
   | false => rfl
   | true =>
     rcases (b5L he hkn).1 hkk with ⟨i, x, hx, hm⟩ | ⟨h1, h2⟩
     ·rw [(i2' i x hx).1] at hm; cases hm
     ·rcases j2 with ⟨j2, j3⟩ | ⟨j2, j3⟩
      ·rw [h1, j3] at i3
       rcases i3 with i3 | i3
       ·cases i3
       ·rw [(c3j.1 i3).2] at h2; cases h2
      ·rw [h1, j2] at i1; cases i1
 ·rintro ⟨hpos, hneg⟩
  have hneg' : ¬ ((∃ i x, e.Args[i]? = some x /\ Z5 T x (kn.getD i 0) = false) \/ (e.Fails = false /\ Z5 T e.Result (kn.getD a 0) = true)) := fun h => by
   rw [(b5L he hkn).2 h] at hneg; cases hneg
  rw [not_or] at hneg'
  obtain ⟨n1, n2⟩ := hneg'
  have n1' : ∀ i x, e.Args[i]? = some x -> Z5 T x (kn.getD i 0) = true := fun i x hx => by
   cases hm : Z5 T x (kn.getD i 0) with
   | true => rfl
   | false => exact absurd ⟨i, x, hx, hm⟩ n1
  have hway : ∀ q ∈ ps, ∃ w : Int, 0 <= w /\ w <= (a : Int) /\ ((w < (a : Int) /\ ∃ x, e.Args[w.toNat]? = some x /\ Z5 T x (q.2.getD w.toNat 0) = false) \/ (w = (a : Int) /\ e.Fails = false /\ Z5 T e.Result (q.2.getD a 0) = true)) := fun q hq => by
   rcases (b5L he (hps q hq)).1 (hpos q hq) with ⟨i, x, hx, hm⟩ | ⟨h1, h2⟩
   ·have hi := (List.getElem?_eq_some_iff.1 hx).1
    exact ⟨(i : Int), by omega, by omega, .inl ⟨by omega, x, by simpa using hx, by simpa using hm⟩⟩
   ·exact ⟨(a : Int), by omega, by omega, .inr ⟨rfl, h1, h2⟩⟩
  have hcs : ∃ c : List Int, c.length = ps.length /\ ∀ (k : Nat) (q : Int × List Int) (w : Int), ps[k]? = some q -> c[k]? = some w -> 0 <= w /\ w <= (a : Int) /\ ((w < (a : Int) /\ ∃ x, e.Args[w.toNat]? = some x /\ Z5 T x (q.2.getD w.toNat 0) = false) \/ (w = (a : Int) /\ e.Fails = false /\ Z5 T e.Result (q.2.getD a 0) = true)) := by
   clear hpos hps hpr
   induction ps with
   | nil => exact ⟨[], rfl, fun k q w h => by simp at h⟩
   | cons p r ih =>
     obtain ⟨c, h1, h2⟩ := ih fun q hq => hway q (by simp [hq])
     obtain ⟨w, hw⟩ := hway p (by simp)
     refine ⟨w :: c, by simp [h1], fun k q w' hk hk' => ?_⟩
     cases k with
     | zero => simp at hk hk'; subst hk; subst hk'; exact hw
     | succ k => exact h2 k q w' (by simpa using hk) (by simpa using hk')
  obtain ⟨c, hcl, hc⟩ := hcs
  have hz : ∀ q ∈ ps.zip c, 0 <= q.2 /\ q.2 <= (a : Int) /\ ((q.2 < (a : Int) /\ ∃ x, e.Args[q.2.toNat]? = some x /\ Z5 T x (a7M q) = false) \/ (q.2 = (a : Int) /\ e.Fails = false /\ Z5 T e.Result (a7M q) = true)) := fun q hq => by
   obtain ⟨k, hk, e2⟩ := List.getElem_of_mem hq
   have hp' := List.getElem?_eq_getElem hk
   rw [e2] at hp'
   obtain ⟨k1, k2⟩ := b0Q hp'
   obtain ⟨r1, r2, r3⟩ := hc k q.1 q.2 k1 k2
   refine ⟨r1, r2, r3.imp (fun h => h) fun ⟨h1, h2, h3⟩ => ⟨h1, h2, ?_⟩⟩
   unfold a7M
   rw [h1]
   exact h3
  have hmemc : c ∈ chs a ps.length := (b2q a _ c).2 ⟨hcl, fun w hw => by
   obtain ⟨k, hk, e2⟩ := List.getElem_of_mem hw
   have hkp : k < ps.length := by omega
   obtain ⟨r1, r2, _⟩ := hc k ps[k] w (List.getElem?_eq_getElem hkp) (by rw [List.getElem?_eq_getElem hk, e2])
   exact ⟨r1, r2⟩⟩
  have hargs : ∀ i x, e.Args[i]? = some x -> Z5 T x (kn.getD i 0) = true /\ ∀ k ∈ K7 (ps.zip c) i, Z5 T x k = false := fun i x hx => by
   refine ⟨n1' i x hx, fun k hk => ?_⟩
   obtain ⟨q, hq, q1, q2⟩ := b03.1 hk
   have hi := (List.getElem?_eq_some_iff.1 hx).1
   obtain ⟨_, _, ⟨_, y, hy, hm⟩ | ⟨h1, _⟩⟩ := hz q hq
   ·rw [q1, Int.toNat_natCast, hx] at hy
    cases hy
    rw [<- q2]; exact hm
   ·omega
  have hbad : (ps.zip c).any (b5Q T a) = false := by
   rw [List.any_eq_false]
   intro q hq hb
   unfold b5Q at hb
   simp only [Bool.and_eq_true, decide_eq_true_eq, beq_iff_eq] at hb
   obtain ⟨b1, b2, ⟨_, y, hy, hm⟩ | ⟨h1, _⟩⟩ := hz q hq
   ·have hq1 := (List.of_mem_zip (show (q.1, q.2) ∈ ps.zip c from hq)).1
    have hql := hps _ hq1
    have hin : inR T.Nodes.length (a7M q) = true := hpr _ hq1 _ (List.mem_of_getElem? (a71 (show q.2.toNat < q.1.2.length by omega)))
    rw [hany y (.inl (List.mem_of_getElem? hy)) _ hin hb.2] at hm; cases hm
   ·omega
  have hmeet : (K2 a kn (ps.zip c)).any (fun g => a4K g.Pos g.Neg) = false := by
   rw [List.any_eq_false]
   intro g hg hb
   obtain ⟨i, hi, rfl⟩ := b7P hg
   obtain ⟨k, k1, k2⟩ := c1G.1 hb
   have hx := List.getElem?_eq_getElem (show i < e.Args.length by omega)
   obtain ⟨h1, h2⟩ := hargs i _ hx
   have k1 : k = kn.getD i 0 := by simpa using k1
   rw [k1] at k2
   rw [h2 _ k2] at h1; cases h1
  have hcond : ¬ ((ps.zip c).any (b5Q T a) = true \/ (K2 a kn (ps.zip c)).any (fun g => a4K g.Pos g.Neg) = true) := by
   rw [hbad, hmeet]; simp
  have hin := (c4f (T := T) he kn (ps.zip c)).2 hargs
  cases hF : e.Fails with
  | false =>
    have hres : (∀ k ∈ K7 (ps.zip c) a, Z5 T e.Result k = true) /\ Z5 T e.Result (kn.getD a 0) = false := by
     constructor
     ·intro k hk
      obtain ⟨q, hq, q1, q2⟩ := b03.1 hk
      obtain ⟨_, _, ⟨h1, _⟩ | ⟨_, _, h3⟩⟩ := hz q hq
      ·omega
      ·rw [<- q2]; exact h3
     ·cases hm : Z5 T e.Result (kn.getD a 0) with
      | false => rfl
      | true => exact absurd ⟨hF, hm⟩ n2
    have hc1 : a4K (K7 (ps.zip c) a) [kn.getD a 0] = false /\ a5L T (kn.getD a 0) ≠ 2 := by
     constructor
     ·cases hm : a4K (K7 (ps.zip c) a) [kn.getD a 0] with
      | false => rfl
      | true =>
        obtain ⟨k, k1, k2⟩ := c1G.1 hm
        have k2 : k = kn.getD a 0 := by simpa using k2
        rw [k2] at k1
        rw [hres.1 _ k1] at hres
        cases hres.2
     ·intro hk
      rw [hany e.Result (.inr ⟨hF, rfl⟩) _ (hkr _ (List.mem_of_getElem? (a71 (show a < kn.length by omega)))) hk] at hres
      cases hres.2
    refine ⟨Api_EntryForm.mk ((K2 a kn (ps.zip c)).map a0r) false (a0r (g0 (K7 (ps.zip c) a) [kn.getD a 0])), List.mem_flatMap.2 ⟨c, hmemc, ?_⟩, ?_⟩
    ·unfold a7H
     rw [if_neg hcond, if_pos hc1]
     simp
    ·unfold inF
     simp only
     rw [hF, hin, c3j.2 hres]
     rfl
  | true =>
    have hff : a5i a (ps.zip c) = true := by
     unfold a5i
     rw [Bool.not_eq_true', List.any_eq_false]
     intro q hq hb
     have hb : q.2 = (a : Int) := by simpa using hb
     obtain ⟨_, _, ⟨h1, _⟩ | ⟨_, h2, _⟩⟩ := hz q hq
     ·omega
     ·rw [hF] at h2; cases h2
    refine ⟨Api_EntryForm.mk ((K2 a kn (ps.zip c)).map a0r) true (g0 [] []), List.mem_flatMap.2 ⟨c, hmemc, ?_⟩, ?_⟩
    ·unfold a7H
     rw [if_neg hcond, if_pos hff]
     simp
    ·unfold inF
     simp only
     rw [hF, hin]
     rfl
end
end Go.Pl
end
section
namespace Go.Pl
open Go Go.RowKit Go.Sx Go.Qx
theorem c9s (x : Int) {n : Int} (h1 : 1 <= n) (h2 : n <= 1000) : ∃ m : Nat, (m : Int) < n /\ b4y (wr .u64 x) n = some (m : Int) := by
 have h0 : 0 <= wr .u64 x := by
  have : wr .u64 x = x % 18446744073709551616 := by
   unfold wr IntKind.wrap
   rfl
  rw [this]
  omega
 have b1 := Int.tmod_lt_of_pos (wr .u64 x) (show 0 < n by omega)
 have b2 := Int.tmod_nonneg n h0
 refine ⟨((wr .u64 x).tmod n).toNat, by omega, ?_⟩
 unfold b4y
 rw [if_neg (by omega)]
 congr 1
 omega
end Go.Pl
end
section
namespace Go.Pl
open Go Go.RowKit Go.Sx Go.Qx
section
variable {T : Api_Type}
def ngB (T : Api_Type) (g : Api_Goal) : Prop := ∃ p q, g = g0 p q /\ srt p = p /\ srt q = q /\ gIn T.Nodes.length g = true /\ p.length <= 1000 /\ q.length <= 1000
structure FormT (T : Api_Type) (a : Nat) (f : Api_EntryForm) : Prop where
 len : f.Args.length = a
 args : ∀ g ∈ f.Args, ngB T g
 res : ngB T f.Result
 fails : f.Fails = true -> f.Result = g0 [] []
theorem c3k {p q : List Int} (hi : gIn T.Nodes.length (g0 p q) = true) (h1 : p.length <= 1000) (h2 : q.length <= 1000) : ngB T (a0r (g0 p q)) :=
 ⟨srt p, srt q, rfl, c0Q p, c0Q q, by
  have : gIn T.Nodes.length (g0 (srt p) (srt q)) = gIn T.Nodes.length (g0 p q) := c8V _ p q
  exact this.trans hi, Nat.le_trans (b79 p) h1, Nat.le_trans (b79 q) h2⟩
theorem c8Z : ngB T (g0 [] []) := ⟨[], [], rfl, rfl, rfl, rfl, by simp, by simp⟩
theorem c3z {a : Nat} {z : ZT} (hz : okZ T a z) (i : Nat) : ∀ k ∈ K7 z i, inR T.Nodes.length k = true := fun k hk => by
 obtain ⟨q, hq, _, rfl⟩ := b03.1 hk
 exact (c5M hz hq).2
theorem c8X {a : Nat} {kn : List Int} (hk : kn.length = a + 1) (hkr : ∀ k ∈ kn, inR T.Nodes.length k = true) {ps : PS} (hz : okP T a ps) (hzl : ps.length <= 3) {f : Api_EntryForm} (hf : f ∈ b2x T a kn ps) : FormT T a f := by
 unfold b2x at hf
 obtain ⟨c, hc, hf⟩ := List.mem_flatMap.1 hf
 obtain ⟨z1, _, _, z4⟩ := c54 hz hc
 have hkin : ∀ i, i <= a -> inR T.Nodes.length (kn.getD i 0) = true := fun i hi => hkr _ (List.mem_of_getElem? (a71 (by omega)))
 have hneg : ∀ i, (K7 (ps.zip c) i).length <= 1000 := fun i => by have := a7v (ps.zip c) i; omega
 have hargs : ∀ g ∈ (K2 a kn (ps.zip c)).map a0r, ngB T g := fun g hg => by
  obtain ⟨g', hg', rfl⟩ := List.mem_map.1 hg
  obtain ⟨i, hi, rfl⟩ := b7P hg'
  refine c3k ?_ (by simp) (hneg i)
  unfold gIn
  rw [Bool.and_eq_true, List.all_eq_true, List.all_eq_true]
  exact ⟨fun x hx => by rw [List.mem_singleton.1 hx]; exact hkin i (by omega), fun x hx => c3z z1 i x hx⟩
 have hlen : ((K2 a kn (ps.zip c)).map a0r).length = a := by rw [List.length_map, b7K]
 unfold a7H at hf
 split at hf
 ·cases hf
 rcases List.mem_append.1 hf with hf | hf
 ·split at hf
  ·rw [List.mem_singleton.1 hf]
   refine ⟨hlen, hargs, c3k ?_ (hneg a) (by simp), fun h => by cases h⟩
   unfold gIn
   rw [Bool.and_eq_true, List.all_eq_true, List.all_eq_true]
   exact ⟨fun x hx => c3z z1 a x hx, fun x hx => by rw [List.mem_singleton.1 hx]; exact hkin a (by omega)⟩
  ·cases hf
 ·split at hf
  ·rw [List.mem_singleton.1 hf]
   exact ⟨hlen, hargs, c8Z, fun _ => rfl⟩
  ·cases hf
theorem c51 {g : Api_Goal} (h : ngB T g) : (Option.bind (a17 g) fun r => a0x g r) = some true := by
 obtain ⟨p, q, rfl, h1, h2, _, h4, h5⟩ := h
 rw [b9W p q false (by omega) (by omega), h1, h2]
 simp only [Option.bind_some]
 rw [c1E _ _ (by show p.length <= 4194304; omega) (by show q.length <= 4194304; omega)]
 simp
theorem c0t (hT : GT T) (hr : inR T.Nodes.length T.Root = true) {v : Val} (ho : vOK v = true) (hb : w6 v <= 2097152) {g : Api_Goal} (hg : ngB T g) (f : Nat) (hf : 200000000 <= f) : a4y f v T g = some (gM T v g) /\ a1s f v T g = some (gM T v g) := by
 obtain ⟨p, q, rfl, _, _, h3, h4, h5⟩ := hg
 exact ⟨c5H hT hr ho hb p q h3 (by omega) (by omega) f hf, c4Z hT hr ho hb p q h3 (by omega) (by omega) f hf⟩
theorem c6y (hT : GT T) (hr : inR T.Nodes.length T.Root = true) {a : Nat} {e : Ent} (hE : MadeE a e) {f : Api_EntryForm} (hF : FormT T a f) (n : Nat) (hn : 200000000 <= n) :
 a9r n e T f = some (inF T e f) /\ a2V n e T f = some (inF T e f) := by
 have hb := hE.bulk
 have hbe := a0f e
 have hal := hE.args
 have hfl := hF.len
 have hba := a1c e.Args
 have hv : ∀ v ∈ e.Args, vOK v = true /\ w6 v <= 2097152 := fun v hv => by
  have h1 := hE.ok
  rw [a2B, List.all_eq_true] at h1
  have := X2 hv
  exact ⟨h1 v hv, by omega⟩
 have hlen : ((e.Args.length : Int) != (f.Args.length : Int)) = false := by simp; omega
 have hzl : (e.Args.zip f.Args).length = e.Args.length := by rw [List.length_zip]; omega
 have l1 := b0P (step := a7f e T f n) (e.Args.zip f.Args) (fun p => gM T p.1 p.2) false (fun i p hp => by
  obtain ⟨e1, e2⟩ := b0Q hp
  have hi : i < e.Args.length := (List.getElem?_eq_some_iff.1 e1).1
  obtain ⟨v1, v2⟩ := hv _ (List.mem_of_getElem? e1)
  unfold a7f
  simp only [Z1]
  rw [Z6 hi, k7 e1, k7 e2]
  simp only [cond_true, Option.bind_some]
  rw [(c0t hT hr v1 v2 (hF.args _ (List.mem_of_getElem? e2)) n hn).1, k9 i (by omega)]
  exact a13 _ _) (by
  unfold a7f
  simp [hzl])
 have l2 := b0P (step := a33 e.Args T f.Args n) (e.Args.zip f.Args) (fun p => gM T p.1 p.2) false (fun i p hp => by
  obtain ⟨e1, e2⟩ := b0Q hp
  have hi : i < e.Args.length := (List.getElem?_eq_some_iff.1 e1).1
  obtain ⟨v1, v2⟩ := hv _ (List.mem_of_getElem? e1)
  unfold a33
  simp only [Z1]
  rw [Z6 hi, k7 e1, k7 e2]
  simp only [cond_true, Option.bind_some]
  rw [(c0t hT hr v1 v2 (hF.args _ (List.mem_of_getElem? e2)) n hn).2, k9 i (by omega)]
  exact a13 _ _) (by
  unfold a33
  simp [hzl])
 rw [hzl] at l1 l2
 have hres : e.Fails = false -> a4y n e.Result T f.Result = some (gM T e.Result f.Result) /\ a1s n e.Result T f.Result = some (gM T e.Result f.Result) := fun h => by
  rcases hE.res with ⟨h1, _⟩ | ⟨_, h1⟩
  ·rw [h] at h1; cases h1
  ·exact c0t hT hr h1 (by omega) hF.res n hn
 constructor
 ·unfold a9r inF
  rw [hlen, Y1, l1]
  cases hef : e.Fails
  ·obtain ⟨r1, _⟩ := hres hef
   cases f.Fails
   ·cases (e.Args.zip f.Args).all fun p => gM T p.1 p.2
    ·rfl
    ·simp only [cond_false, Option.bind_some, if_true, v7, bne_self_eq_false]
     rw [r1]
     simp
   ·rfl
  ·cases f.Fails
   ·rfl
   ·cases (e.Args.zip f.Args).all fun p => gM T p.1 p.2 <;> rfl
 ·unfold a2V a8d inF
  rw [hlen, Y1, l2]
  cases hef : e.Fails
  ·obtain ⟨_, r1⟩ := hres hef
   cases f.Fails
   ·cases (e.Args.zip f.Args).all fun p => gM T p.1 p.2
    ·rfl
    ·simp only [cond_true, cond_false, Option.bind_some, if_true, v7, beq_self_eq_true]
     rw [r1]
     simp
   ·rfl
  ·cases f.Fails
   ·rfl
   ·cases (e.Args.zip f.Args).all fun p => gM T p.1 p.2 <;> rfl
theorem c5d (hn : T.Nodes.length <= 10) {r3 : Api_Type × Int × Ent} (h3 : r3.1 = T) {a : Nat} (ha : a <= 1000) {f : Api_EntryForm} (hF : FormT T a f) : j7 (a0X r3 f) ((f.Args.length : Int).toNat + 2) 0 = some (.inl ()) := by
 have hfl := hF.len
 refine a6r (step := a0X r3 f) (fun i => (i : Int)) (f.Args.length + 1) (.inl ()) (fun i hi => ?_) ?_ _ (by omega)
 ·have hg : ∃ g, (Option.bind (bif decide ((i : Int) < (f.Args.length : Int)) then (Option.bind (idx f.Args (i : Int)) fun e19 => some e19) else (some f.Result)) fun q => some q) = some g /\ ngB T g := by
   by_cases h : i < f.Args.length
   ·refine ⟨f.Args[i], ?_, hF.args _ (List.getElem_mem h)⟩
    rw [Z6 h, k7 (List.getElem?_eq_getElem h)]
    rfl
   ·refine ⟨f.Result, ?_, hF.res⟩
    have : decide ((i : Int) < (f.Args.length : Int)) = false := by simp; omega
    rw [this]
    rfl
  obtain ⟨g, h1, h2⟩ := hg
  rw [a0z] at h1
  unfold a0X
  rw [show decide ((i : Int) <= (f.Args.length : Int)) = true from by simp; omega, h1]
  have h4 := c51 h2
  obtain ⟨p, q, rfl, _, _, h5, h6, h7⟩ := h2
  have h8 : a17 (g0 p q) = _ := b9W p q false (by omega) (by omega)
  rw [h8] at h4
  simp only [cond_true, Option.bind_some] at h4 ⊢
  rw [h8]
  simp only [Option.bind_some]
  rw [h4, h3, b9J _ (by show p.length <= 1000000; omega) (by show q.length <= 1000000; omega), h5]
  simp only [Z1]
  rw [k9 i (by omega)]
  rfl
 ·unfold a0X
  rw [show decide (((f.Args.length + 1 : Nat) : Int) <= (f.Args.length : Int)) = false from by simp; omega]
  rfl
theorem c41 (hT : GT T) (hr : inR T.Nodes.length T.Root = true) {a N : Nat} (ha : a <= 1000) {e : Ent} (hE : MadeE a e) (l : List Api_EntryForm) (hl : l.length <= 4194304) (c : Int) (hF : ∀ f ∈ l, FormT T a f) (n : Nat) (hn : 200000000 <= n) :
 j7 (a0W n (T, (N : Int), e) (l, c)) ((l.length : Int).toNat + 1) (false, 0) = some (.inl (l.any (inF T e))) := by
 have := a6r (step := a0W n (T, (N : Int), e) (l, c)) (fun i => ((l.take i).any (inF T e), (i : Int))) l.length (.inl (l.any (inF T e))) (fun i hi => by
  have hx := List.getElem?_eq_getElem hi
  have hf := hF _ (List.getElem_mem hi)
  generalize l[i] = f at hx hf
  obtain ⟨i1, i2⟩ := c6y hT hr hE hf n hn
  have hlen : ((f.Args.length : Int) != (e.Args.length : Int)) = false := by simp; have := hf.len; have := hE.args; omega
  unfold a0W
  simp only
  rw [Z6 hi, k7 hx]
  simp only [cond_true, Option.bind_some]
  rw [hlen]
  have hq13 : (Option.bind (bif f.Fails then (Option.bind (a0x f.Result (Api_Goal.mk ([] : List Int) ([] : List Int) false)) fun r12 => some (!r12)) else (some false)) fun q13 => some q13) = some false := by
   cases hff : f.Fails
   ·rfl
   ·rw [hf.fails hff, c1E _ _ (by simp) (by simp)]
    rfl
  simp only [cond_false]
  rw [hq13]
  simp only [cond_false, Option.bind_some]
  rw [i1, i2]
  simp only [Option.bind_some, bne_self_eq_false, cond_false]
  rw [c5d hT.len rfl ha hf]
  simp only [Option.bind_some, v7, Z1]
  rw [k9 i (by omega), a3r hx, List.any_append]
  cases (l.take i).any (inF T e)
  ·simp
  ·simp) (by
  unfold a0W
  simp) ((l.length : Int).toNat + 1) (by omega)
 exact this
end
theorem c82 {T : Api_Type} (hT : GT T) {v : Val} (ho : vOK v = true) (hb : w6 v <= 4194304) {k : Int} (hi : inR T.Nodes.length k = true) (hk : a5L T k = 2) : Z5 T v k = true := by
 obtain ⟨j, rfl, hj⟩ := a2e hi
 have hx := List.getElem?_eq_getElem hj
 generalize T.Nodes[j] = x at hx
 have hK : x.Kind = 2 := by
  unfold a5L at hk
  rwa [Int.toNat_natCast, hx] at hk
 rw [c8H hT hx ho hb]
 unfold unM
 rw [if_pos hK]
theorem c00 (fuel : Nat) (hf : 300000000 <= fuel) (d t : List Int) (many : Int) : a2O fuel d t many = some true := by
 obtain ⟨q, hq⟩ : ∃ q, fuel = q + 60 := ⟨fuel - 60, by omega⟩
 have haw : a1q fuel = some true := by rw [hq]; exact c85 q
 unfold a2O
 rw [c7z [d, t] (by simp), haw]
 simp only [Option.bind_some]
 cases hs : ([d, t].all fun x => !decide (80 < (x.length : Int)))
 ·rfl
 have hs' : d.length <= 80 /\ t.length <= 80 := by
  simp at hs
  omega
 simp only [Bool.not_true, cond_false]
 obtain ⟨T, N, a, hM, hmade⟩ := c88 fuel (by omega) d (by omega)
 obtain ⟨e, e3, hE⟩ := hmade t (by omega)
 have hr := c8n hM
 have hbe := hE.bulk
 have hbe2 := a0f e
 have hlenT := hM.len
 have h10 := hM.gt.len
 have har := hM.ar
 rw [e3]
 simp only [Option.bind_some]
 obtain ⟨l0, x0, hl0, f0⟩ := c5i hM (j := 0) (by omega)
 obtain ⟨l1, x1, hl1, f1⟩ := c5i hM (j := 1) (by omega)
 obtain ⟨l2, x2, hl2, f2⟩ := c5i hM (j := 2) (by omega)
 have hw1 : wr .i64 ((N : Int) + 1) = ((N + 1 : Nat) : Int) := by rw [Z1, J4 (by omega) (by omega)]; omega
 have hw2 : wr .i64 ((N : Int) + 2) = ((N + 2 : Nat) : Int) := by rw [Z1, J4 (by omega) (by omega)]; omega
 simp only [hw1, hw2]
 have hkids : ∀ {j : Nat} {l : List Int}, T.Nodes[N + j]? = some (a8S 14 l) -> ∀ k ∈ l, inR T.Nodes.length k = true := fun hx k hk =>
  a2x (hM.gt.nodes _ _ hx).ok k hk
 obtain ⟨m, hm3, hmz⟩ := c9s many (n := 3) (by omega) (by omega)
 rw [hmz]
 have hwm : wr .i64 (m : Int) = (m : Int) := by rw [Z1, J4 (by omega) (by omega)]
 simp only [Option.bind_some, hwm]
 obtain ⟨ps, hps⟩ : ∃ ps : PS, ps = ([((N : Int), l0), (((N + 1 : Nat) : Int), l1)] : PS).take m := ⟨_, rfl⟩
 have hmap : ([(N : Int), ((N + 1 : Nat) : Int)] : List Int).take m = ps.map fun q => q.1 := by rw [hps, List.map_take]; rfl
 have hpl : ps.length <= 3 := by rw [hps, List.length_take]; simp; omega
 have hpm : ∀ q ∈ ps, (q = ((N : Int), l0) \/ q = (((N + 1 : Nat) : Int), l1)) := fun q hq => by
  rw [hps] at hq
  have := List.mem_of_mem_take hq
  simpa using this
 have hokP : okP T a ps := fun q hq => by
  rcases hpm q hq with rfl | rfl
  ·exact ⟨⟨_, k7 x0, rfl⟩, hl0, hkids x0⟩
  ·exact ⟨⟨_, k7 x1, rfl⟩, hl1, hkids x1⟩
 have hfn : (ps.map (fun q => q.1)).all (fnB T) = true := by
  rw [List.all_eq_true]
  intro k hk
  obtain ⟨q, hq, rfl⟩ := List.mem_map.1 hk
  rcases hpm q hq with rfl | rfl
  ·exact f0
  ·exact f1
 rw [b7x _ (by simp; omega)]
 simp only [Option.bind_some]
 rw [hmap, c7e a (by omega) (k7 x2) rfl hl2 (hkids x2) ps hokP hpl hfn f2 fuel (wf0 hM.gt hr fuel (by omega))]
 simp only [Option.bind_some, bne_self_eq_false, cond_false]
 rcases Bool.eq_false_or_eq_true (decide (2000 < ((b2x T a l2 ps).length : Int))) with h2 | h2
 ·rw [h2]; rfl
 rw [h2]
 have hal : (b2x T a l2 ps).length <= 2000 := by simp at h2; omega
 simp only [cond_false]
 rw [c41 hM.gt hr (by omega) hE (b2x T a l2 ps) (by omega) 0 (fun f hf => c8X hl2 (hkids x2) hokP hpl hf) fuel (by omega)]
 simp only [Option.bind_some, v7]
 have hany : ∀ v, v ∈ e.Args \/ (e.Fails = false /\ v = e.Result) -> ∀ k, inR T.Nodes.length k = true -> a5L T k = 2 -> Z5 T v k = true := fun v hv k hi hk => by
  have hv2 : vOK v = true /\ w6 v <= 4194304 := by
   rcases hv with hv | ⟨hv, rfl⟩
   ·have h1 := hE.ok
    rw [a2B, List.all_eq_true] at h1
    have := X2 hv
    exact ⟨h1 v hv, by omega⟩
   ·rcases hE.res with ⟨h1, _⟩ | ⟨_, h1⟩
    ·rw [hv] at h1; cases h1
    ·exact ⟨h1, by omega⟩
  exact c82 hM.gt hv2.1 hv2.2 hi hk
 rw [c6F hl2 (hkids x2) (fun q hq => (hokP q hq).2.1) (fun q hq => (hokP q hq).2.2) hE.args hany]
 rw [b8I hM.gt hr e (by omega) _ (by rw [List.length_map]; omega) fuel (by omega), b8I hM.gt hr e (by omega) _ (by simp) fuel (by omega)]
 have ha1 : b5e T e (ps.map fun q => q.1) = ps.all fun q => a2L (Z5 T) e q.2 := by
  unfold b5e
  rw [(c2q hE).2, Bool.true_and, List.all_map]
  rw [Bool.eq_iff_iff, List.all_eq_true, List.all_eq_true]
  have key : ∀ q ∈ ps, ((fun k => fnB T k && arB T e k) ∘ fun q : Int × List Int => q.1) q = a2L (Z5 T) e q.2 := fun q hq => by
   rcases hpm q hq with rfl | rfl
   ·show (fnB T (N : Int) && arB T e (N : Int)) = _
    have f0' : fnB T (N : Int) = true := f0
    have a0 : arB T e (N : Int) = a2L (Z5 T) e l0 := c3x (j := 0) x0 hl0 hE.args
    rw [f0', a0]; rfl
   ·show (fnB T ((N + 1 : Nat) : Int) && arB T e ((N + 1 : Nat) : Int)) = _
    rw [f1, c3x x1 hl1 hE.args]; rfl
  exact ⟨fun h q hq => by rw [<- key q hq]; exact h q hq, fun h q hq => by rw [key q hq]; exact h q hq⟩
 have ha2 : b5e T e [((N + 2 : Nat) : Int)] = a2L (Z5 T) e l2 := by
  unfold b5e
  rw [(c2q hE).2]
  simp only [List.all_cons, List.all_nil, Bool.and_true, Bool.true_and]
  rw [f2, c3x x2 hl2 hE.args]
  rfl
 rw [ha1, ha2]
 cases ps.all fun q => a2L (Z5 T) e q.2 <;> cases a2L (Z5 T) e l2 <;> rfl
end Go.Pl
end
section
namespace Go.Proofs
open Go.Shelf
set_option maxRecDepth 100000
def Tryz.lay151_ren : Go.Shelf.Ren := ⟨fun | 189 => 151 | 125 => 163 | 257 => 172 | 128 => 186 | 129 => 187 | 294 => 195 | 295 => 196 | 296 => 197 | 297 => 198 | 298 => 199 | 299 => 200 | 216 => 201 | 300 => 202 | 301 => 203 | 328 => 211 | 329 => 205 | 330 => 206 | 331 => 212 | 332 => 213 | 215 => 193 | 343 => 215 | n => n, fun | 28 => 22 | 3 => 3 | 46 => 49 | 0 => 0 | 51 => 178 | 53 => 180 | 4 => 4 | 183 => 171 | 182 => 170 | 131 => 175 | 5 => 5 | 9 => 9 | 218 => 191 | 222 => 195 | 228 => 200 | 229 => 201 | n => n, fun | n => n⟩
theorem Tryz.lay151 : Go.Proofs.Lays.n189 Tryz.prog Tryz.lay151_ren := {
 mixed := by kernel_rfl
 f125 := Tryz.func163.trans (congrArg some (by kernel_rfl))
 f128 := Tryz.func186.trans (congrArg some (by kernel_rfl))
 f129 := Tryz.func187.trans (congrArg some (by kernel_rfl))
 f189 := Tryz.func151.trans (congrArg some (by kernel_rfl))
 f215 := Tryz.func193.trans (congrArg some (by kernel_rfl))
 f216 := Tryz.func201.trans (congrArg some (by kernel_rfl))
 f257 := Tryz.func172.trans (congrArg some (by kernel_rfl))
 f294 := Tryz.func195.trans (congrArg some (by kernel_rfl))
 f295 := Tryz.func196.trans (congrArg some (by kernel_rfl))
 f296 := Tryz.func197.trans (congrArg some (by kernel_rfl))
 f297 := Tryz.func198.trans (congrArg some (by kernel_rfl))
 f298 := Tryz.func199.trans (congrArg some (by kernel_rfl))
 f299 := Tryz.func200.trans (congrArg some (by kernel_rfl))
 f300 := Tryz.func202.trans (congrArg some (by kernel_rfl))
 f301 := Tryz.func203.trans (congrArg some (by kernel_rfl))
 f328 := Tryz.func211.trans (congrArg some (by kernel_rfl))
 f329 := Tryz.func205.trans (congrArg some (by kernel_rfl))
 f330 := Tryz.func206.trans (congrArg some (by kernel_rfl))
 f331 := Tryz.func212.trans (congrArg some (by kernel_rfl))
 f332 := Tryz.func213.trans (congrArg some (by kernel_rfl))
 f343 := Tryz.func215.trans (congrArg some (by kernel_rfl))
 t0 := Tryz.underlying0
 a0 := Tryz.isAgg0
 z0 := Tryz.sizeOf0
 v0 := Tryz.zeroValue0
 t3 := Tryz.underlying3
 a3 := Tryz.isAgg3
 z3 := Tryz.sizeOf3
 v3 := Tryz.zeroValue3
 t4 := Tryz.underlying4
 a4 := Tryz.isAgg4
 z4 := Tryz.sizeOf4
 v4 := Tryz.zeroValue4
 t5 := Tryz.underlying5
 a5 := Tryz.isAgg5
 z5 := Tryz.sizeOf5
 v5 := Tryz.zeroValue5
 t9 := Tryz.underlying9
 a9 := Tryz.isAgg9
 z9 := Tryz.sizeOf9
 v9 := Tryz.zeroValue9
 t28 := Tryz.underlying22
 a28 := Tryz.isAgg22
 z28 := Tryz.sizeOf22
 v28 := Tryz.zeroValue22
 t46 := Tryz.underlying49
 a46 := Tryz.isAgg49
 z46 := Tryz.sizeOf49
 v46 := Tryz.zeroValue49
 t51 := Tryz.underlying178
 a51 := Tryz.isAgg178
 z51 := Tryz.sizeOf178
 v51 := Tryz.zeroValue178
 t53 := Tryz.underlying180
 a53 := Tryz.isAgg180
 z53 := Tryz.sizeOf180
 v53 := Tryz.zeroValue180
 t131 := Tryz.underlying175
 a131 := Tryz.isAgg175
 z131 := Tryz.sizeOf175
 v131 := Tryz.zeroValue175
 t182 := Tryz.underlying170
 a182 := Tryz.isAgg170
 z182 := Tryz.sizeOf170
 v182 := Tryz.zeroValue170
 t183 := Tryz.underlying171
 a183 := Tryz.isAgg171
 z183 := Tryz.sizeOf171
 v183 := Tryz.zeroValue171
 t218 := Tryz.underlying191
 a218 := Tryz.isAgg191
 z218 := Tryz.sizeOf191
 v218 := Tryz.zeroValue191
 t222 := Tryz.underlying195
 a222 := Tryz.isAgg195
 z222 := Tryz.sizeOf195
 v222 := Tryz.zeroValue195
 t228 := Tryz.underlying200
 a228 := Tryz.isAgg200
 z228 := Tryz.sizeOf200
 v228 := Tryz.zeroValue200
 t229 := Tryz.underlying201
 a229 := Tryz.isAgg201
 z229 := Tryz.sizeOf201
 v229 := Tryz.zeroValue201 }
end Go.Proofs
end
section
namespace Go.Qx
open Go Go.RowKit Go.Sx
set_option maxRecDepth 100000
abbrev b61 (v : Api_Field) : Key × Int × Bool := (v.Key_, v.Node, v.Optional)
abbrev c2u (x : Key × Int × Bool) : Api_Field := ⟨x.1, x.2.1, x.2.2⟩
@[reducible] def a5I : Rp Api_Field := b5u b61 (X7 (rpKey) (X7 (rpK .i64) (rpBool)))
abbrev b3R (v : Api_TypeNode) : Int × Int × Int × ByteArray × (List Int) × (List Api_Field) × (Int × Int) := (v.Kind, v.Lo, v.Hi, v.Text, v.Kids, v.Fields, v.Rest)
abbrev b9Q (x : Int × Int × Int × ByteArray × (List Int) × (List Api_Field) × (Int × Int)) : Api_TypeNode := ⟨x.1, x.2.1, x.2.2.1, x.2.2.2.1, x.2.2.2.2.1, x.2.2.2.2.2.1, x.2.2.2.2.2.2⟩
@[reducible] def a3y : Rp Api_TypeNode := b5u b3R (X7 (rpK .i64) (X7 (rpK .i64) (X7 (rpK .i64) (X7 (rpStr) (X7 (@rpList _ (rpK .i64)) (X7 (@rpList _ (a5I)) (X7 (rpK .i64) (rpK .i64))))))))
abbrev b8H (v : Api_Type) : (List Api_TypeNode) × Int := (v.Nodes, v.Root)
abbrev c3Q (x : (List Api_TypeNode) × Int) : Api_Type := ⟨x.1, x.2⟩
@[reducible] def b38 : Rp Api_Type := b5u b8H (X7 (@rpList _ (a3y)) (rpK .i64))
abbrev b8E (v : Api_Goal) : (List Int) × (List Int) × Bool := (v.Pos, v.Neg, v.Lists)
abbrev c3H (x : (List Int) × (List Int) × Bool) : Api_Goal := ⟨x.1, x.2.1, x.2.2⟩
@[reducible] def a4e : Rp Api_Goal := b5u b8E (X7 (@rpList _ (rpK .i64)) (X7 (@rpList _ (rpK .i64)) (rpBool)))
abbrev b2D (v : Api_EntryForm) : (List Api_Goal) × Bool × Api_Goal := (v.Args, v.Fails, v.Result)
abbrev b9m (x : (List Api_Goal) × Bool × Api_Goal) : Api_EntryForm := ⟨x.1, x.2.1, x.2.2⟩
@[reducible] def a8O : Rp Api_EntryForm := b5u b2D (X7 (@rpList _ (a4e)) (X7 (rpBool) (a4e)))
abbrev a87 (v : Semtypebase_Source) : (List Int) × Int := (v.L, v.At)
abbrev b4V (x : (List Int) × Int) : Semtypebase_Source := ⟨x.1, x.2⟩
@[reducible] def a56 : Rp Semtypebase_Source := b5u a87 (X7 (@rpList _ (rpK .i64)) (rpK .i64))
abbrev b6l (v : Value_used) : Bool × Bool × Bool × Bool × Bool := (v.number, v.text_, v.kids, v.keys, v.entries)
abbrev c1S (x : Bool × Bool × Bool × Bool × Bool) : Value_used := ⟨x.1, x.2.1, x.2.2.1, x.2.2.2.1, x.2.2.2.2⟩
@[reducible] def b1B : Rp Value_used := b5u b6l (X7 (rpBool) (X7 (rpBool) (X7 (rpBool) (X7 (rpBool) (rpBool)))))
def tyL : List TE := [⟨2, Int, rpK .i64⟩,
 ⟨3, Int, rpK .i64⟩,
 ⟨4, Bool, rpBool⟩,
 ⟨9, ByteArray, rpStr⟩,
 ⟨22, List Int, @rpList _ (rpK .i64)⟩,
 ⟨23, List Val, @rpList _ (rpVal)⟩,
 ⟨24, List Key, @rpList _ (rpKey)⟩,
 ⟨25, List Ent, @rpList _ (rpEnt)⟩,
 ⟨26, List ByteArray, @rpList _ (rpStr)⟩,
 ⟨28, Val, rpVal⟩,
 ⟨30, Ent, rpEnt⟩,
 ⟨34, List Api_TypeNode, @rpList _ (a3y)⟩,
 ⟨36, Api_Type, b38⟩,
 ⟨47, Api_Goal, a4e⟩,
 ⟨55, List Api_Goal, @rpList _ (a4e)⟩,
 ⟨57, Api_EntryForm, a8O⟩,
 ⟨69, List Api_Field, @rpList _ (a5I)⟩,
 ⟨70, Int × Int, X7 (rpK .i64) (rpK .i64)⟩,
 ⟨72, Api_TypeNode, a3y⟩,
 ⟨76, Semtypebase_Source, a56⟩,
 ⟨114, Key, rpKey⟩,
 ⟨132, Api_Field, a5I⟩,
 ⟨153, Value_used, b1B⟩]
abbrev I (E : TypeId) : Type := (c4K tyL E).α
instance rI (E : TypeId) : Rp (I E) := (c4K tyL E).rp
def c6M : Fd I (I 28) inferInstance := (b0O (rg := rpVal) (a0A (a7V .i64 : Fd I Int (rpK .i64)) (a0A (a7V .i64 : Fd I Int (rpK .i64)) (a0A (c2c : Fd I ByteArray (rpStr)) (a0A (a6b 28 : Fd I (List Val) (@rpList _ (rpVal))) (a0A (a6b 114 : Fd I (List Key) (@rpList _ (rpKey))) (a0A (a6b 30 : Fd I (List Ent) (@rpList _ (rpEnt))) ((a6b 9 : Fd I (List ByteArray) (@rpList _ (rpStr)))))))))) Val.to Val.of (fun _ => rfl) Val.cells_to : Fd I Val rpVal)
def c9o : Fd I (I 30) inferInstance := (b0O (rg := rpEnt) (a0A (a6b 28 : Fd I (List Val) (@rpList _ (rpVal))) (a0A (a8z : Fd I Bool (rpBool)) ((c14 28 c6M : Fd I Val (rpVal))))) Ent.to Ent.of (fun _ => rfl) Ent.cells_to : Fd I Ent rpEnt)
def c3M : Fd I (I 36) inferInstance := (b0O (rg := b38) (a0A (a6b 72 : Fd I (List Api_TypeNode) (@rpList _ (a3y))) ((a7V .i64 : Fd I Int (rpK .i64)))) b8H c3Q (fun _ => rfl) (fun _ _ _ => Iff.rfl) : Fd I Api_Type b38)
def b8F : Fd I (I 47) inferInstance := (b0O (rg := a4e) (a0A (a6b 3 : Fd I (List Int) (@rpList _ (rpK .i64))) (a0A (a6b 3 : Fd I (List Int) (@rpList _ (rpK .i64))) ((a8z : Fd I Bool (rpBool))))) b8E c3H (fun _ => rfl) (fun _ _ _ => Iff.rfl) : Fd I Api_Goal a4e)
def b8W : Fd I (I 57) inferInstance := (b0O (rg := a8O) (a0A (a6b 47 : Fd I (List Api_Goal) (@rpList _ (a4e))) (a0A (a8z : Fd I Bool (rpBool)) ((c14 47 b8F : Fd I Api_Goal (a4e))))) b2D b9m (fun _ => rfl) (fun _ _ _ => Iff.rfl) : Fd I Api_EntryForm a8O)
def c6s : Fd I (I 70) inferInstance := (a0A (a7V .i64 : Fd I Int (rpK .i64)) ((a7V .i64 : Fd I Int (rpK .i64))) : Fd I (Int × Int) (X7 (rpK .i64) (rpK .i64)))
def b9S : Fd I (I 72) inferInstance := (b0O (rg := a3y) (a0A (a7V .i64 : Fd I Int (rpK .i64)) (a0A (a7V .i64 : Fd I Int (rpK .i64)) (a0A (a7V .i64 : Fd I Int (rpK .i64)) (a0A (c2c : Fd I ByteArray (rpStr)) (a0A (a6b 3 : Fd I (List Int) (@rpList _ (rpK .i64))) (a0A (a6b 132 : Fd I (List Api_Field) (@rpList _ (a5I))) ((c14 70 c6s : Fd I (Int × Int) (X7 (rpK .i64) (rpK .i64)))))))))) b3R b9Q (fun _ => rfl) (fun _ _ _ => Iff.rfl) : Fd I Api_TypeNode a3y)
def b5p : Fd I (I 76) inferInstance := (b0O (rg := a56) (a0A (a6b 3 : Fd I (List Int) (@rpList _ (rpK .i64))) ((a7V .i64 : Fd I Int (rpK .i64)))) a87 b4V (fun _ => rfl) (fun _ _ _ => Iff.rfl) : Fd I Semtypebase_Source a56)
def c53 : Fd I (I 114) inferInstance := (b0O (rg := rpKey) (a0A (a7V .i64 : Fd I Int (rpK .i64)) ((c2c : Fd I ByteArray (rpStr)))) Key.to Key.of (fun _ => rfl) Key.cells_to : Fd I Key rpKey)
def c3d : Fd I (I 132) inferInstance := (b0O (rg := a5I) (a0A (c14 114 c53 : Fd I Key (rpKey)) (a0A (a7V .i64 : Fd I Int (rpK .i64)) ((a8z : Fd I Bool (rpBool))))) b61 c2u (fun _ => rfl) (fun _ _ _ => Iff.rfl) : Fd I Api_Field a5I)
def c1W : Fd I (I 153) inferInstance := (b0O (rg := b1B) (a0A (a8z : Fd I Bool (rpBool)) (a0A (a8z : Fd I Bool (rpBool)) (a0A (a8z : Fd I Bool (rpBool)) (a0A (a8z : Fd I Bool (rpBool)) ((a8z : Fd I Bool (rpBool))))))) b6l c1S (fun _ => rfl) (fun _ _ _ => Iff.rfl) : Fd I Value_used b1B)
def feL : List (FE I) := [⟨2, a7V .i64⟩,
 ⟨3, a7V .i64⟩,
 ⟨4, a8z⟩,
 ⟨9, c2c⟩,
 ⟨22, a6b 3⟩,
 ⟨23, a6b 28⟩,
 ⟨24, a6b 114⟩,
 ⟨25, a6b 30⟩,
 ⟨26, a6b 9⟩,
 ⟨28, c6M⟩,
 ⟨30, c9o⟩,
 ⟨34, a6b 72⟩,
 ⟨36, c3M⟩,
 ⟨47, b8F⟩,
 ⟨55, a6b 47⟩,
 ⟨57, b8W⟩,
 ⟨69, a6b 132⟩,
 ⟨70, c6s⟩,
 ⟨72, b9S⟩,
 ⟨76, b5p⟩,
 ⟨114, c53⟩,
 ⟨132, c3d⟩,
 ⟨153, c1W⟩]
def c9p : TabL I where
 sz := [(28, 7), (30, 9), (36, 2), (47, 3), (57, 5), (70, 2), (72, 8), (114, 2), (132, 4), (153, 5)]
 one := [(2, ()), (3, ()), (4, ()), (9, ()), (22, ()), (23, ()), (24, ()), (25, ()), (26, ()), (34, ()), (55, ()), (69, ()), (101, ())]
 fld := [(28, [(0, 3), (1, 2), (2, 9), (3, 23), (4, 24), (5, 25), (6, 26)]), (30, [(0, 23), (1, 4), (2, 28)]), (36, [(0, 34), (1, 3)]), (47, [(0, 22), (1, 22), (2, 4)]), (57, [(0, 55), (1, 4), (2, 47)]), (72, [(0, 3), (1, 2), (2, 2), (3, 9), (4, 22), (5, 69), (6, 70)]), (76, [(0, 22), (1, 3)]), (114, [(0, 3), (1, 9)]), (132, [(0, 114), (2, 3), (3, 4)]), (153, [(0, 4), (1, 4), (2, 4), (3, 4), (4, 4)])]
 el := [(22, 3), (23, 28), (24, 114), (25, 30), (26, 9), (34, 72), (41, 22), (52, 57), (55, 47), (69, 132), (105, 4), (120, 2)]
 str := [(9, ())]
 bool := [(4, ())]
 ik := [(3, .i64), (49, .u64)]
 fe := feL
 inf := [(2, 1, 8, [.int .i64 0]), (3, 1, 8, [.int .i64 0]), (4, 1, 1, [.bool false]), (9, 1, 16, [.str ⟨#[]⟩]), (22, 1, 24, [.nl 3]), (23, 1, 24, [.nl 28]), (24, 1, 24, [.nl 114]), (26, 1, 24, [.nl 9]), (28, 7, 128, [.int .i64 0, .int .i64 0, .str ⟨#[]⟩, .nl 28, .nl 114, .nl 30, .nl 9]), (30, 9, 160, [.nl 28, .bool false, .int .i64 0, .int .i64 0, .str ⟨#[]⟩, .nl 28, .nl 114, .nl 30, .nl 9]), (34, 1, 24, [.nl 72]), (36, 2, 32, [.nl 72, .int .i64 0]), (47, 3, 56, [.nl 3, .nl 3, .bool false]), (57, 5, 88, [.nl 47, .bool false, .nl 3, .nl 3, .bool false]), (69, 1, 24, [.nl 132]), (70, 2, 16, [.int .i64 0, .int .i64 0]), (72, 8, 104, [.int .i64 0, .int .i64 0, .int .i64 0, .str ⟨#[]⟩, .nl 3, .nl 132, .int .i64 0, .int .i64 0]), (76, 2, 32, [.nl 3, .int .i64 0]), (101, 1, 8, [.any]), (114, 2, 24, [.int .i64 0, .str ⟨#[]⟩]), (132, 4, 40, [.int .i64 0, .str ⟨#[]⟩, .int .i64 0, .bool false]), (153, 5, 5, [.bool false, .bool false, .bool false, .bool false, .bool false])]
 st := [(28, [(0, 1), (1, 1), (2, 1), (3, 1), (4, 1), (5, 1), (6, 1)]), (30, [(0, 1), (1, 1), (2, 7)]), (36, [(0, 1), (1, 1)]), (47, [(0, 1), (1, 1), (2, 1)]), (57, [(0, 1), (1, 1), (2, 3)]), (70, [(0, 1), (1, 1)]), (72, [(0, 1), (1, 1), (2, 1), (3, 1), (4, 1), (5, 1), (6, 2)]), (76, [(0, 1), (1, 1)]), (114, [(0, 1), (1, 1)]), (132, [(0, 2), (2, 1), (3, 1)]), (153, [(0, 1), (1, 1), (2, 1), (3, 1), (4, 1)])]
 eq := [(70, c28 feL 70 b2w), (114, c28 feL 114 a5Y)]
 nest := [(47, 3, 1)]
 arr := [(70, 3, 2, 1)]
 fb := [(62, ()), (63, ()), (113, ()), (114, ()), (116, ()), (119, ()), (120, ()), (126, ()), (140, ()), (141, ()), (143, ()), (144, ()), (146, ()), (165, ()), (170, ())]
abbrev tb : Tab I := c8k c9p
theorem ti2 : W1 Go.Proofs.Tryz.prog 2 (.int .i64 0) 1 8 := W5 (by kernel_rfl)
theorem ti3 : W1 Go.Proofs.Tryz.prog 3 (.int .i64 0) 1 8 := W5 (by kernel_rfl)
theorem ti4 : W1 Go.Proofs.Tryz.prog 4 (.bool false) 1 1 := W5 (by kernel_rfl)
theorem ti9 : W1 Go.Proofs.Tryz.prog 9 (.string ⟨#[]⟩) 1 16 := W5 (by kernel_rfl)
theorem c9E : W1 Go.Proofs.Tryz.prog 22 (.slice none 0 0) 1 24 := W5 (by kernel_rfl)
theorem d0P : W1 Go.Proofs.Tryz.prog 23 (.slice none 0 0) 1 24 := W5 (by kernel_rfl)
theorem d1g : W1 Go.Proofs.Tryz.prog 24 (.slice none 0 0) 1 24 := W5 (by kernel_rfl)
theorem d1h : W1 Go.Proofs.Tryz.prog 26 (.slice none 0 0) 1 24 := W5 (by kernel_rfl)
theorem c9W : W1 Go.Proofs.Tryz.prog 28 (.agg #[.int .i64 0, .int .i64 0, .string ⟨#[]⟩, .slice none 0 0, .slice none 0 0, .slice none 0 0, .slice none 0 0]) 7 128 := W5 (by kernel_rfl)
theorem c9w : W1 Go.Proofs.Tryz.prog 30 (.agg #[.slice none 0 0, .bool false, .int .i64 0, .int .i64 0, .string ⟨#[]⟩, .slice none 0 0, .slice none 0 0, .slice none 0 0, .slice none 0 0]) 9 160 := W5 (by kernel_rfl)
theorem d08 : W1 Go.Proofs.Tryz.prog 34 (.slice none 0 0) 1 24 := W5 (by kernel_rfl)
theorem d0W : W1 Go.Proofs.Tryz.prog 36 (.agg #[.slice none 0 0, .int .i64 0]) 2 32 := W5 (by kernel_rfl)
theorem c9H : W1 Go.Proofs.Tryz.prog 47 (.agg #[.slice none 0 0, .slice none 0 0, .bool false]) 3 56 := W5 (by kernel_rfl)
theorem c9z : W1 Go.Proofs.Tryz.prog 57 (.agg #[.slice none 0 0, .bool false, .slice none 0 0, .slice none 0 0, .bool false]) 5 88 := W5 (by kernel_rfl)
theorem d07 : W1 Go.Proofs.Tryz.prog 69 (.slice none 0 0) 1 24 := W5 (by kernel_rfl)
theorem d1e : W1 Go.Proofs.Tryz.prog 70 (.agg #[.int .i64 0, .int .i64 0]) 2 16 := W5 (by kernel_rfl)
theorem c92 : W1 Go.Proofs.Tryz.prog 72 (.agg #[.int .i64 0, .int .i64 0, .int .i64 0, .string ⟨#[]⟩, .slice none 0 0, .slice none 0 0, .int .i64 0, .int .i64 0]) 8 104 := W5 (by kernel_rfl)
theorem d0Z : W1 Go.Proofs.Tryz.prog 76 (.agg #[.slice none 0 0, .int .i64 0]) 2 32 := W5 (by kernel_rfl)
theorem d0s : W1 Go.Proofs.Tryz.prog 101 (.nilFunc) 1 8 := W5 (by kernel_rfl)
theorem c8f : W1 Go.Proofs.Tryz.prog 114 (.agg #[.int .i64 0, .string ⟨#[]⟩]) 2 24 := W5 (by kernel_rfl)
theorem c72 : W1 Go.Proofs.Tryz.prog 132 (.agg #[.int .i64 0, .string ⟨#[]⟩, .int .i64 0, .bool false]) 4 40 := W5 (by kernel_rfl)
theorem d0f : W1 Go.Proofs.Tryz.prog 153 (.agg #[.bool false, .bool false, .bool false, .bool false, .bool false]) 5 5 := W5 (by kernel_rfl)
theorem to2 : a4G Go.Proofs.Tryz.prog 2 := ⟨_, Go.Proofs.Tryz.underlying2, rfl, by kernel_rfl⟩
theorem to3 : a4G Go.Proofs.Tryz.prog 3 := ⟨_, Go.Proofs.Tryz.underlying3, rfl, by kernel_rfl⟩
theorem to4 : a4G Go.Proofs.Tryz.prog 4 := ⟨_, Go.Proofs.Tryz.underlying4, rfl, by kernel_rfl⟩
theorem to9 : a4G Go.Proofs.Tryz.prog 9 := ⟨_, Go.Proofs.Tryz.underlying9, rfl, by kernel_rfl⟩
theorem d05 : a4G Go.Proofs.Tryz.prog 22 := ⟨_, Go.Proofs.Tryz.underlying22, rfl, by kernel_rfl⟩
theorem d0O : a4G Go.Proofs.Tryz.prog 23 := ⟨_, Go.Proofs.Tryz.underlying23, rfl, by kernel_rfl⟩
theorem d1b : a4G Go.Proofs.Tryz.prog 24 := ⟨_, Go.Proofs.Tryz.underlying24, rfl, by kernel_rfl⟩
theorem d06 : a4G Go.Proofs.Tryz.prog 25 := ⟨_, Go.Proofs.Tryz.underlying25, rfl, by kernel_rfl⟩
theorem d09 : a4G Go.Proofs.Tryz.prog 26 := ⟨_, Go.Proofs.Tryz.underlying26, rfl, by kernel_rfl⟩
theorem d1c : a4G Go.Proofs.Tryz.prog 34 := ⟨_, Go.Proofs.Tryz.underlying34, rfl, by kernel_rfl⟩
theorem d0R : a4G Go.Proofs.Tryz.prog 55 := ⟨_, Go.Proofs.Tryz.underlying55, rfl, by kernel_rfl⟩
theorem d1d : a4G Go.Proofs.Tryz.prog 69 := ⟨_, Go.Proofs.Tryz.underlying69, rfl, by kernel_rfl⟩
theorem d0K : a4G Go.Proofs.Tryz.prog 101 := ⟨_, Go.Proofs.Tryz.underlying101, rfl, by kernel_rfl⟩
theorem d04 {σ : S} {x y : Int × Int} {cs ds : List Value} (h : (rI 70).cells σ x cs) (k : (rI 70).cells σ y ds) : Sx.EqAt Go.Proofs.Tryz.prog 2 70 (.agg cs.toArray) (.agg ds.toArray) (b2w x y) := by
 obtain ⟨_, _, rfl, rfl, rfl⟩ := h
 obtain ⟨_, _, rfl, rfl, rfl⟩ := k
 exact c7n Go.Proofs.Tryz.underlying70 ti3 (c1v (a6u to3 rfl) (a6u to3 rfl) (b9o Go.Proofs.Tryz.underlying3) (c1v (a6u to3 rfl) (a6u to3 rfl) (b9o Go.Proofs.Tryz.underlying3) c7I))
theorem d0j {σ : S} {x y : Key} {cs ds : List Value} (h : (rI 114).cells σ x cs) (k : (rI 114).cells σ y ds) : Sx.EqAt Go.Proofs.Tryz.prog 2 114 (.agg cs.toArray) (.agg ds.toArray) (a5Y x y) := by
 obtain ⟨_, _, rfl, rfl, rfl⟩ := h
 obtain ⟨_, _, rfl, rfl, rfl⟩ := k
 exact c3W Go.Proofs.Tryz.underlying114 (by kernel_rfl) (c1I (by decide) (a6u to3 rfl) (a6u to3 rfl) (b9o Go.Proofs.Tryz.underlying3) (c1I (by decide) (a6u to9 rfl) (a6u to9 rfl) (c7c Go.Proofs.Tryz.underlying9) c62))
theorem eqT (T : TypeId) (g : I T -> I T -> Bool) {K : Nat} (h : ∀ {σ : S} {x y : I T} {cs ds : List Value}, Rp.cells σ x cs -> Rp.cells σ y ds -> Sx.EqAt Go.Proofs.Tryz.prog K T (.agg cs.toArray) (.agg ds.toArray) (g x y)) (hg : Go.Proofs.Tryz.prog.eqGuardType (Go.Proofs.Tryz.prog).depth T = false) (hK : Nat.ble K 10000 = true)
 {X : Cxt} {c : Cx} {σ : S} {ls ms : List (PV I)} {r : Bool} {cs ds : List Value} (h1 : c28 feL T g ls ms = some r) (h2 : RG X c σ ls cs) (h3 : RG X c σ ms ds) :
 Go.Proofs.Tryz.prog.eqGuardType (Go.Proofs.Tryz.prog).depth T = false /\ ∃ j, Nat.ble j 10000 = true /\ Sx.EqAt Go.Proofs.Tryz.prog j T (.agg cs.toArray) (.agg ds.toArray) r := by
 obtain ⟨x, y, k1, k2, rfl⟩ := c8s h1 h2 h3
 exact ⟨hg, K, hK, h k1 k2⟩
theorem c9k : TabLOk Go.Proofs.Tryz.prog c9p where
 sz := ⟨⟨_, Go.Proofs.Tryz.underlying28, rfl, by kernel_rfl⟩, ⟨⟨_, Go.Proofs.Tryz.underlying30, rfl, by kernel_rfl⟩, ⟨⟨_, Go.Proofs.Tryz.underlying36, rfl, by kernel_rfl⟩, ⟨⟨_, Go.Proofs.Tryz.underlying47, rfl, by kernel_rfl⟩, ⟨⟨_, Go.Proofs.Tryz.underlying57, rfl, by kernel_rfl⟩, ⟨⟨_, Go.Proofs.Tryz.underlying70, rfl, by kernel_rfl⟩, ⟨⟨_, Go.Proofs.Tryz.underlying72, rfl, by kernel_rfl⟩, ⟨⟨_, Go.Proofs.Tryz.underlying114, rfl, by kernel_rfl⟩, ⟨⟨_, Go.Proofs.Tryz.underlying132, rfl, by kernel_rfl⟩, ⟨⟨_, Go.Proofs.Tryz.underlying153, rfl, by kernel_rfl⟩, trivial⟩⟩⟩⟩⟩⟩⟩⟩⟩⟩
 one := ⟨to2, ⟨to3, ⟨to4, ⟨to9, ⟨d05, ⟨d0O, ⟨d1b, ⟨d06, ⟨d09, ⟨d1c, ⟨d0R, ⟨d1d, ⟨d0K, trivial⟩⟩⟩⟩⟩⟩⟩⟩⟩⟩⟩⟩⟩
 fld := ⟨⟨⟨_, _, Go.Proofs.Tryz.underlying28, rfl, rfl, by kernel_rfl⟩, ⟨⟨_, _, Go.Proofs.Tryz.underlying28, rfl, rfl⟩, ⟨⟨_, _, Go.Proofs.Tryz.underlying28, rfl, rfl, by kernel_rfl⟩, ⟨⟨_, _, Go.Proofs.Tryz.underlying28, rfl, rfl⟩, ⟨⟨_, _, Go.Proofs.Tryz.underlying28, rfl, rfl, by kernel_rfl⟩, ⟨⟨_, _, Go.Proofs.Tryz.underlying28, rfl, rfl⟩, ⟨⟨_, _, Go.Proofs.Tryz.underlying28, rfl, rfl, by kernel_rfl⟩, ⟨⟨_, _, Go.Proofs.Tryz.underlying28, rfl, rfl⟩, ⟨⟨_, _, Go.Proofs.Tryz.underlying28, rfl, rfl, by kernel_rfl⟩, ⟨⟨_, _, Go.Proofs.Tryz.underlying28, rfl, rfl⟩, ⟨⟨_, _, Go.Proofs.Tryz.underlying28, rfl, rfl, by kernel_rfl⟩, ⟨⟨_, _, Go.Proofs.Tryz.underlying28, rfl, rfl⟩, ⟨⟨_, _, Go.Proofs.Tryz.underlying28, rfl, rfl, by kernel_rfl⟩, ⟨⟨_, _, Go.Proofs.Tryz.underlying28, rfl, rfl⟩, trivial⟩⟩⟩⟩⟩⟩⟩⟩⟩⟩⟩⟩⟩⟩, ⟨⟨⟨_, _, Go.Proofs.Tryz.underlying30, rfl, rfl, by kernel_rfl⟩, ⟨⟨_, _, Go.Proofs.Tryz.underlying30, rfl, rfl⟩, ⟨⟨_, _, Go.Proofs.Tryz.underlying30, rfl, rfl, by kernel_rfl⟩, ⟨⟨_, _, Go.Proofs.Tryz.underlying30, rfl, rfl⟩, ⟨⟨_, _, Go.Proofs.Tryz.underlying30, rfl, rfl, by kernel_rfl⟩, ⟨⟨_, _, Go.Proofs.Tryz.underlying30, rfl, rfl⟩, trivial⟩⟩⟩⟩⟩⟩, ⟨⟨⟨_, _, Go.Proofs.Tryz.underlying36, rfl, rfl, by kernel_rfl⟩, ⟨⟨_, _, Go.Proofs.Tryz.underlying36, rfl, rfl⟩, ⟨⟨_, _, Go.Proofs.Tryz.underlying36, rfl, rfl, by kernel_rfl⟩, ⟨⟨_, _, Go.Proofs.Tryz.underlying36, rfl, rfl⟩, trivial⟩⟩⟩⟩, ⟨⟨⟨_, _, Go.Proofs.Tryz.underlying47, rfl, rfl, by kernel_rfl⟩, ⟨⟨_, _, Go.Proofs.Tryz.underlying47, rfl, rfl⟩, ⟨⟨_, _, Go.Proofs.Tryz.underlying47, rfl, rfl, by kernel_rfl⟩, ⟨⟨_, _, Go.Proofs.Tryz.underlying47, rfl, rfl⟩, ⟨⟨_, _, Go.Proofs.Tryz.underlying47, rfl, rfl, by kernel_rfl⟩, ⟨⟨_, _, Go.Proofs.Tryz.underlying47, rfl, rfl⟩, trivial⟩⟩⟩⟩⟩⟩, ⟨⟨⟨_, _, Go.Proofs.Tryz.underlying57, rfl, rfl, by kernel_rfl⟩, ⟨⟨_, _, Go.Proofs.Tryz.underlying57, rfl, rfl⟩, ⟨⟨_, _, Go.Proofs.Tryz.underlying57, rfl, rfl, by kernel_rfl⟩, ⟨⟨_, _, Go.Proofs.Tryz.underlying57, rfl, rfl⟩, ⟨⟨_, _, Go.Proofs.Tryz.underlying57, rfl, rfl, by kernel_rfl⟩, ⟨⟨_, _, Go.Proofs.Tryz.underlying57, rfl, rfl⟩, trivial⟩⟩⟩⟩⟩⟩, ⟨⟨⟨_, _, Go.Proofs.Tryz.underlying72, rfl, rfl, by kernel_rfl⟩, ⟨⟨_, _, Go.Proofs.Tryz.underlying72, rfl, rfl⟩, ⟨⟨_, _, Go.Proofs.Tryz.underlying72, rfl, rfl, by kernel_rfl⟩, ⟨⟨_, _, Go.Proofs.Tryz.underlying72, rfl, rfl⟩, ⟨⟨_, _, Go.Proofs.Tryz.underlying72, rfl, rfl, by kernel_rfl⟩, ⟨⟨_, _, Go.Proofs.Tryz.underlying72, rfl, rfl⟩, ⟨⟨_, _, Go.Proofs.Tryz.underlying72, rfl, rfl, by kernel_rfl⟩, ⟨⟨_, _, Go.Proofs.Tryz.underlying72, rfl, rfl⟩, ⟨⟨_, _, Go.Proofs.Tryz.underlying72, rfl, rfl, by kernel_rfl⟩, ⟨⟨_, _, Go.Proofs.Tryz.underlying72, rfl, rfl⟩, ⟨⟨_, _, Go.Proofs.Tryz.underlying72, rfl, rfl, by kernel_rfl⟩, ⟨⟨_, _, Go.Proofs.Tryz.underlying72, rfl, rfl⟩, ⟨⟨_, _, Go.Proofs.Tryz.underlying72, rfl, rfl, by kernel_rfl⟩, ⟨⟨_, _, Go.Proofs.Tryz.underlying72, rfl, rfl⟩, trivial⟩⟩⟩⟩⟩⟩⟩⟩⟩⟩⟩⟩⟩⟩, ⟨⟨⟨_, _, Go.Proofs.Tryz.underlying76, rfl, rfl, by kernel_rfl⟩, ⟨⟨_, _, Go.Proofs.Tryz.underlying76, rfl, rfl⟩, ⟨⟨_, _, Go.Proofs.Tryz.underlying76, rfl, rfl, by kernel_rfl⟩, ⟨⟨_, _, Go.Proofs.Tryz.underlying76, rfl, rfl⟩, trivial⟩⟩⟩⟩, ⟨⟨⟨_, _, Go.Proofs.Tryz.underlying114, rfl, rfl, by kernel_rfl⟩, ⟨⟨_, _, Go.Proofs.Tryz.underlying114, rfl, rfl⟩, ⟨⟨_, _, Go.Proofs.Tryz.underlying114, rfl, rfl, by kernel_rfl⟩, ⟨⟨_, _, Go.Proofs.Tryz.underlying114, rfl, rfl⟩, trivial⟩⟩⟩⟩, ⟨⟨⟨_, _, Go.Proofs.Tryz.underlying132, rfl, rfl, by kernel_rfl⟩, ⟨⟨_, _, Go.Proofs.Tryz.underlying132, rfl, rfl⟩, ⟨⟨_, _, Go.Proofs.Tryz.underlying132, rfl, rfl, by kernel_rfl⟩, ⟨⟨_, _, Go.Proofs.Tryz.underlying132, rfl, rfl⟩, ⟨⟨_, _, Go.Proofs.Tryz.underlying132, rfl, rfl, by kernel_rfl⟩, ⟨⟨_, _, Go.Proofs.Tryz.underlying132, rfl, rfl⟩, trivial⟩⟩⟩⟩⟩⟩, ⟨⟨⟨_, _, Go.Proofs.Tryz.underlying153, rfl, rfl, by kernel_rfl⟩, ⟨⟨_, _, Go.Proofs.Tryz.underlying153, rfl, rfl⟩, ⟨⟨_, _, Go.Proofs.Tryz.underlying153, rfl, rfl, by kernel_rfl⟩, ⟨⟨_, _, Go.Proofs.Tryz.underlying153, rfl, rfl⟩, ⟨⟨_, _, Go.Proofs.Tryz.underlying153, rfl, rfl, by kernel_rfl⟩, ⟨⟨_, _, Go.Proofs.Tryz.underlying153, rfl, rfl⟩, ⟨⟨_, _, Go.Proofs.Tryz.underlying153, rfl, rfl, by kernel_rfl⟩, ⟨⟨_, _, Go.Proofs.Tryz.underlying153, rfl, rfl⟩, ⟨⟨_, _, Go.Proofs.Tryz.underlying153, rfl, rfl, by kernel_rfl⟩, ⟨⟨_, _, Go.Proofs.Tryz.underlying153, rfl, rfl⟩, trivial⟩⟩⟩⟩⟩⟩⟩⟩⟩⟩, trivial⟩⟩⟩⟩⟩⟩⟩⟩⟩⟩
 el := ⟨⟨Go.Proofs.Tryz.underlying22, _, _, ti3, rfl, by decide⟩, ⟨⟨Go.Proofs.Tryz.underlying23, _, _, c9W, rfl, by decide⟩, ⟨⟨Go.Proofs.Tryz.underlying24, _, _, c8f, rfl, by decide⟩, ⟨⟨Go.Proofs.Tryz.underlying25, _, _, c9w, rfl, by decide⟩, ⟨⟨Go.Proofs.Tryz.underlying26, _, _, ti9, rfl, by decide⟩, ⟨⟨Go.Proofs.Tryz.underlying34, _, _, c92, rfl, by decide⟩, ⟨⟨Go.Proofs.Tryz.underlying41, _, _, c9E, rfl, by decide⟩, ⟨⟨Go.Proofs.Tryz.underlying52, _, _, c9z, rfl, by decide⟩, ⟨⟨Go.Proofs.Tryz.underlying55, _, _, c9H, rfl, by decide⟩, ⟨⟨Go.Proofs.Tryz.underlying69, _, _, c72, rfl, by decide⟩, ⟨⟨Go.Proofs.Tryz.underlying105, _, _, ti4, rfl, by decide⟩, ⟨⟨Go.Proofs.Tryz.underlying120, _, _, ti2, rfl, by decide⟩, trivial⟩⟩⟩⟩⟩⟩⟩⟩⟩⟩⟩⟩
 str := ⟨Go.Proofs.Tryz.underlying9, trivial⟩
 bool := ⟨Go.Proofs.Tryz.underlying4, trivial⟩
 ik := ⟨Go.Proofs.Tryz.underlying3, ⟨Go.Proofs.Tryz.underlying49, trivial⟩⟩
 inf := ⟨⟨_, ti2, fun X c σ => RG.cns rfl a4C (RG.nl)⟩, ⟨⟨_, ti3, fun X c σ => RG.cns rfl a4C (RG.nl)⟩, ⟨⟨_, ti4, fun X c σ => RG.cns rfl a7w (RG.nl)⟩, ⟨⟨_, ti9, fun X c σ => RG.cns rfl b8i (RG.nl)⟩, ⟨⟨_, c9E, fun X c σ => RG.cns rfl a3U (RG.nl)⟩, ⟨⟨_, d0P, fun X c σ => RG.cns rfl a3U (RG.nl)⟩, ⟨⟨_, d1g, fun X c σ => RG.cns rfl a3U (RG.nl)⟩, ⟨⟨_, d1h, fun X c σ => RG.cns rfl a3U (RG.nl)⟩, ⟨⟨_, c9W, fun X c σ => RG.cns rfl a4C (RG.cns rfl a4C (RG.cns rfl b8i (RG.cns rfl a3U (RG.cns rfl a3U (RG.cns rfl a3U (RG.cns rfl a3U (RG.nl)))))))⟩, ⟨⟨_, c9w, fun X c σ => RG.cns rfl a3U (RG.cns rfl a7w (RG.cns rfl a4C (RG.cns rfl a4C (RG.cns rfl b8i (RG.cns rfl a3U (RG.cns rfl a3U (RG.cns rfl a3U (RG.cns rfl a3U (RG.nl)))))))))⟩, ⟨⟨_, d08, fun X c σ => RG.cns rfl a3U (RG.nl)⟩, ⟨⟨_, d0W, fun X c σ => RG.cns rfl a3U (RG.cns rfl a4C (RG.nl))⟩, ⟨⟨_, c9H, fun X c σ => RG.cns rfl a3U (RG.cns rfl a3U (RG.cns rfl a7w (RG.nl)))⟩, ⟨⟨_, c9z, fun X c σ => RG.cns rfl a3U (RG.cns rfl a7w (RG.cns rfl a3U (RG.cns rfl a3U (RG.cns rfl a7w (RG.nl)))))⟩, ⟨⟨_, d07, fun X c σ => RG.cns rfl a3U (RG.nl)⟩, ⟨⟨_, d1e, fun X c σ => RG.cns rfl a4C (RG.cns rfl a4C (RG.nl))⟩, ⟨⟨_, c92, fun X c σ => RG.cns rfl a4C (RG.cns rfl a4C (RG.cns rfl a4C (RG.cns rfl b8i (RG.cns rfl a3U (RG.cns rfl a3U (RG.cns rfl a4C (RG.cns rfl a4C (RG.nl))))))))⟩, ⟨⟨_, d0Z, fun X c σ => RG.cns rfl a3U (RG.cns rfl a4C (RG.nl))⟩, ⟨⟨_, d0s, fun X c σ => RG.cns rfl d0J (RG.nl)⟩, ⟨⟨_, c8f, fun X c σ => RG.cns rfl a4C (RG.cns rfl b8i (RG.nl))⟩, ⟨⟨_, c72, fun X c σ => RG.cns rfl a4C (RG.cns rfl b8i (RG.cns rfl a4C (RG.cns rfl a7w (RG.nl))))⟩, ⟨⟨_, d0f, fun X c σ => RG.cns rfl a7w (RG.cns rfl a7w (RG.cns rfl a7w (RG.cns rfl a7w (RG.cns rfl a7w (RG.nl)))))⟩, trivial⟩⟩⟩⟩⟩⟩⟩⟩⟩⟩⟩⟩⟩⟩⟩⟩⟩⟩⟩⟩⟩⟩
 st := ⟨.inl ⟨_, Go.Proofs.Tryz.underlying28, by kernel_rfl⟩, ⟨.inl ⟨_, Go.Proofs.Tryz.underlying30, by kernel_rfl⟩, ⟨.inl ⟨_, Go.Proofs.Tryz.underlying36, by kernel_rfl⟩, ⟨.inl ⟨_, Go.Proofs.Tryz.underlying47, by kernel_rfl⟩, ⟨.inl ⟨_, Go.Proofs.Tryz.underlying57, by kernel_rfl⟩, ⟨.inr (c9Q Go.Proofs.Tryz.underlying70 ti3 rfl), ⟨.inl ⟨_, Go.Proofs.Tryz.underlying72, by kernel_rfl⟩, ⟨.inl ⟨_, Go.Proofs.Tryz.underlying76, by kernel_rfl⟩, ⟨.inl ⟨_, Go.Proofs.Tryz.underlying114, by kernel_rfl⟩, ⟨.inl ⟨_, Go.Proofs.Tryz.underlying132, by kernel_rfl⟩, ⟨.inl ⟨_, Go.Proofs.Tryz.underlying153, by kernel_rfl⟩, trivial⟩⟩⟩⟩⟩⟩⟩⟩⟩⟩⟩
 eq := ⟨fun X c σ ls ms r cs ds h1 h2 h3 => eqT 70 b2w (fun h k => d04 h k) (by kernel_rfl) (by decide) h1 h2 h3, ⟨fun X c σ ls ms r cs ds h1 h2 h3 => eqT 114 a5Y (fun h k => d0j h k) (by kernel_rfl) (by decide) h1 h2 h3, trivial⟩⟩
 arr := ⟨⟨Go.Proofs.Tryz.underlying70, by kernel_rfl⟩, trivial⟩
 fb := ⟨⟨_, _, Go.Proofs.Tryz.func62, rfl, by kernel_rfl⟩, ⟨⟨_, _, Go.Proofs.Tryz.func63, rfl, by kernel_rfl⟩, ⟨⟨_, _, Go.Proofs.Tryz.func113, rfl, by kernel_rfl⟩, ⟨⟨_, _, Go.Proofs.Tryz.func114, rfl, by kernel_rfl⟩, ⟨⟨_, _, Go.Proofs.Tryz.func116, rfl, by kernel_rfl⟩, ⟨⟨_, _, Go.Proofs.Tryz.func119, rfl, by kernel_rfl⟩, ⟨⟨_, _, Go.Proofs.Tryz.func120, rfl, by kernel_rfl⟩, ⟨⟨_, _, Go.Proofs.Tryz.func126, rfl, by kernel_rfl⟩, ⟨⟨_, _, Go.Proofs.Tryz.func140, rfl, by kernel_rfl⟩, ⟨⟨_, _, Go.Proofs.Tryz.func141, rfl, by kernel_rfl⟩, ⟨⟨_, _, Go.Proofs.Tryz.func143, rfl, by kernel_rfl⟩, ⟨⟨_, _, Go.Proofs.Tryz.func144, rfl, by kernel_rfl⟩, ⟨⟨_, _, Go.Proofs.Tryz.func146, rfl, by kernel_rfl⟩, ⟨⟨_, _, Go.Proofs.Tryz.func165, rfl, by kernel_rfl⟩, ⟨⟨_, _, Go.Proofs.Tryz.func170, rfl, by kernel_rfl⟩, trivial⟩⟩⟩⟩⟩⟩⟩⟩⟩⟩⟩⟩⟩⟩⟩
theorem z7 : TabOk Go.Proofs.Tryz.prog tb := c7K c9k
theorem mixed : (Go.Proofs.Tryz.prog).follows .mixedOrders = true := by kernel_rfl
end Go.Qx
end
section
namespace Go.Pl
open Go Go.RowKit Go.Sx Go.Qx Go.Proofs.YtdipagkcdpcnbaaGreat
def b0b (w : World) : S := ⟨w, fun b => match w.heap[b]? with | some (.cells c _ _) => (c.size, 0) | _ => (0, 0)⟩
theorem c4J {w : World} {b o : Nat} {cs : List Value} (hn : cs ≠ []) (h : w.rangeAt b o cs) : a3O (b0b w) b o cs := by
 refine ⟨?_, h⟩
 have hl : 0 < cs.length := List.length_pos_iff.2 hn
 have hj := h (cs.length - 1) _ (List.getElem?_eq_getElem (by omega))
 unfold World.cell? at hj
 simp only at hj
 split at hj
 ·rename_i c e f hb
  have h2 : o + (cs.length - 1) < c.size := by
   simp only [Option.isSome_none, Bool.false_eq_true, if_false] at hj
   exact (Array.getElem?_eq_some_iff.1 hj).1
  show o + cs.length <= (match w.heap[b]? with | some (.cells c _ _) => (c.size, 0) | _ => (0, 0)).1
  rw [hb]
  show o + cs.length <= c.size
  omega
 ·cases hj
theorem c46 {w : World} {base : Nat} {a : Addr} {n : Nat} {cs : List Value} (h : w.cells? base a n = some cs) :
 cs.length = n /\ ∀ (i : Nat) (v : Value), cs[i]? = some v -> w.cell? (a.add i) = some v := by
 unfold World.cells? at h
 split at h
 ·have hl : cs.length = n := by simpa using mapM_some_length h
  refine ⟨hl, fun i v hv => ?_⟩
  have hi : i < n := by have := (List.getElem?_eq_some_iff.1 hv).1; omega
  have := mapM_some_get h i i (by simp [hi])
  rw [this, hv]
 ·cases h
theorem c8r (a : Addr) (x j : Nat) : (a.add x).add j = a.add (x + j) := by
 unfold Addr.add
 by_cases hx : x = 0
 ·subst hx; simp
 ·by_cases hj : j = 0
  ·subst hj; simp [hx]
  ·rw [if_neg hj, if_neg hx, if_neg (by omega), Nat.add_assoc]
theorem c6x {w : World} {a : Addr} {v : Value} (h : w.cell? a = some v) : a.spot = none := by
 unfold World.cell? at h
 split at h
 ·split at h
  ·cases h
  ·rename_i hs; simpa using hs
 ·cases h
section
variable {H : Type} {enc : TypeId × Value -> H} {P : Program} {w : World} {base : Nat} {spare : Nat -> Bool} {held : Bool}
theorem b9X {α : Type} [Rp α] {fuel : Nat} {t e : TypeId} {cs : List Value} {x : DataW H × List MemPlace} (ht : P.underlying t = some (.slice e)) (hc : P.cellsOf e = Rp.sz α) (bk : α -> Nat)
 (hrd : ∀ (n : Nat) (cs : List Value) (x : DataW H × List MemPlace), n < fuel -> DataW.trod enc P w base spare held n e cs = some x -> ∃ d : α, Rp.cells (b0b w) d cs /\ bk d <= Rows.uptoBulk x.1)
 (h : DataW.trod enc P w base spare held fuel t cs = some x) :
 ∃ (ds : List α) (A : Option Addr) (c : Nat), cs = [.slice A ds.length c] /\ Sl (b0b w) ds A c /\ (ds.map bk).sum + 1 <= Rows.uptoBulk x.1 := by
 rcases DataW.trod_slice ht h with ⟨rfl, rfl⟩ | ⟨a, len, cap, elems, rest, n, rfl, rfl, rfl, hb, hl, hm, hle, hget, -, -⟩
 ·exact ⟨[], none, 0, rfl, Sl.nil_ _ _ _ (Nat.zero_le _), by simp [Rows.uptoBulk]⟩
 have key : ∀ (m i : Nat), i + m = len -> ∃ (ds : List α) (cs : List Value), ds.length = m /\ X5 (b0b w) ds cs /\
  (∀ (j : Nat) (v : Value), cs[j]? = some v -> w.cell? (a.add (i * Rp.sz α + j)) = some v) /\ (ds.map bk).sum <= Rows.uptoBulkAll ((elems.drop i).map (·.1)) := by
  intro m
  induction m with
  | zero => intro i _; exact ⟨[], [], rfl, rfl, fun j v hv => by simp at hv, by simp⟩
  | succ m ih =>
    intro i hi
    obtain ⟨ds, cs, h1, h2, h3, h4⟩ := ih (i + 1) (by omega)
    have hlt : i < elems.length := by omega
    have hg := hget i (by omega)
    rw [List.getElem?_eq_getElem hlt, Option.bind_eq_some_iff] at hg
    obtain ⟨cs0, hcs, htr⟩ := hg
    obtain ⟨d, hd, hbk⟩ := hrd n cs0 _ (by omega) htr
    obtain ⟨hcl, hci⟩ := c46 hcs
    rw [hc] at hcl hci
    refine ⟨d :: ds, cs0 ++ cs, by simp [h1], ⟨cs0, cs, rfl, hd, h2⟩, ?_, ?_⟩
    ·intro j v hv
     by_cases hj : j < Rp.sz α
     ·rw [List.getElem?_append_left (by omega)] at hv
      rw [<- c8r]
      exact hci j v hv
     ·rw [List.getElem?_append_right (by omega)] at hv
      have := h3 _ v hv
      rw [hcl, Nat.add_mul, Nat.one_mul] at this
      have e : i * Rp.sz α + Rp.sz α + (j - Rp.sz α) = i * Rp.sz α + j := by omega
      rw [e] at this
      exact this
    ·rw [List.drop_eq_getElem_cons hlt]
     simp only [List.map_cons, List.sum_cons, Rows.uptoBulkAll]
     omega
 obtain ⟨ds, cs, h1, h2, h3, h4⟩ := key len 0 (by omega)
 simp only [Nat.zero_mul, Nat.zero_add, List.drop_zero] at h3 h4
 refine ⟨ds, some a, cap, by rw [h1], ⟨by omega, hm, cs, h2, fun hn => ?_⟩, by simp only [Rows.uptoBulk]; omega⟩
 have hne := h2.ne_nil hn
 cases cs with
 | nil => exact absurd rfl hne
 | cons v0 r =>
   have h0 := h3 0 v0 rfl
   have hs : a.spot = none := c6x (by simpa [Addr.add] using h0)
   obtain ⟨b, o, sp⟩ := a
   simp only at hs
   subst hs
   refine ⟨b, o, rfl, c4J (by simp) ?_⟩
   intro j v hv
   have := h3 j v hv
   unfold Addr.add at this
   by_cases hj : j = 0
   ·subst hj; simpa using this
   ·rw [if_neg hj] at this
    exact this
end
end Go.Pl
namespace Go.Pl
open Go Go.RowKit Go.Sx Go.Qx Go.Proofs.YtdipagkcdpcnbaaGreat
theorem c2 : Go.Proofs.Tryz.prog.cellsOf 2 = 1 := by kernel_rfl
theorem c4 : Go.Proofs.Tryz.prog.cellsOf 4 = 1 := by kernel_rfl
theorem c3 : Go.Proofs.Tryz.prog.cellsOf 3 = 1 := by kernel_rfl
section
variable {H : Type} {enc : TypeId × Value -> H} {w : World} {base : Nat} {spare : Nat -> Bool} {held : Bool}
end
end Go.Pl
end
