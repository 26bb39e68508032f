/- Part 3. -/
import Derived.Test.YtdipagkcdpcnbaaGreatK2
import Derived.KernelRfl
section
namespace Go.Pl
open Go Go.RowKit Go.Sx Go.Qx
theorem b6v {step : Int -> Option (Fl Int (Sum Unit Bool))} (n : Nat) (p : Nat -> Bool)
 (hst : ∀ i : Nat, i < n -> step (i : Int) = some (if p i = true then .next ((i + 1 : Nat) : Int) else .done (.inr false)))
 (hend : ∀ i : Nat, n <= i -> step (i : Int) = some (.done (.inl ()))) (i0 : Nat) (b : Bool) (hb : b = true ↔ ∀ i, i0 <= i -> i < n -> p i = true) :
 Option.bind (j5 step (n + 1) (i0 : Int)) (w5 (fun _ => some true) (fun r => some r)) = some b := by
 have fin : ∀ (i k : Nat), n <= i -> (∀ j, i0 <= j -> j < i -> j < n -> p j = true) -> Option.bind (j5 step (k + 1) (i : Int)) (w5 (fun _ => some true) (fun r => some r)) = some b := by
  intro i k h1 h4
  simp only [j5, hend i h1, Option.bind_some, w5]
  have : b = true := hb.2 fun j a c => h4 j a (by omega) c
  rw [this]
 have key : ∀ (m i k : Nat), n <= i + m -> m + 1 <= k -> i0 <= i -> (∀ j, i0 <= j -> j < i -> j < n -> p j = true) -> Option.bind (j5 step k (i : Int)) (w5 (fun _ => some true) (fun r => some r)) = some b := by
  intro m
  induction m with
  | zero =>
    intro i k h1 h2 h3 h4
    obtain ⟨k, rfl⟩ : ∃ m, k = m + 1 := ⟨k - 1, by omega⟩
    exact fin i k (by omega) h4
  | succ m ih =>
    intro i k h1 h2 h3 h4
    obtain ⟨k, rfl⟩ : ∃ m, k = m + 1 := ⟨k - 1, by omega⟩
    by_cases hlt : i < n
    ·simp only [j5, hst i hlt]
     cases hp : p i
     ·simp only [Bool.false_eq_true, if_false, Option.bind_some, w5]
      have : b = false := by
       cases b
       ·rfl
       ·have := hb.1 rfl i h3 hlt
        rw [hp] at this; cases this
      rw [this]
     ·simp only [if_true, Option.bind_some]
      refine ih (i + 1) k (by omega) (by omega) (by omega) (fun j a c d => ?_)
      by_cases e : j < i
      ·exact h4 j a e d
      ·have : j = i := by omega
       subst this; exact hp
    ·exact fin i k (by omega) h4
 exact key n i0 (n + 1) (by omega) (by omega) (Nat.le_refl _) (fun j a c => by omega)
theorem w6 (i : Nat) (h : i <= 4611686018427387904) : w64 ((i : Int) + 1) = ((i + 1 : Nat) : Int) := by rw [K7 (by omega) (by omega)]; rfl
theorem b2x (b : Bool) (x : Int) : (bif (!b) then some (Fl.done (Sum.inr false)) else some (Fl.next x)) = some (if b = true then Fl.next x else (Fl.done (Sum.inr false) : Fl Int (Sum Unit Bool))) := by cases b <;> rfl
def asc {α : Type} (c : α -> α -> Int) : List α -> Bool
 | x :: y :: r => decide (c x y < 0) && asc c (y :: r)
 | _ => true
theorem b5A {α : Type} (c : α -> α -> Int) : ∀ xs : List α, asc c xs = true ↔ ∀ i, 1 <= i -> (hi : i < xs.length) -> c xs[i - 1] xs[i] < 0
 | [] => by simp [asc]
 | [x] => by
   simp only [asc, true_iff]
   intro i h1 hi
   simp at hi; omega
 | x :: y :: r => by
   have ih := b5A c (y :: r)
   simp only [asc, Bool.and_eq_true, decide_eq_true_eq, ih]
   constructor
   ·intro ⟨h1, h2⟩ i hi hl
    obtain ⟨i, rfl⟩ : ∃ m, i = m + 1 := ⟨i - 1, by omega⟩
    cases i with
    | zero => exact h1
    | succ i => exact h2 (i + 1) (by omega) (by simpa using hl)
   ·intro h
    refine ⟨h 1 (by omega) (by simp), fun i hi hl => ?_⟩
    obtain ⟨i, rfl⟩ : ∃ m, i = m + 1 := ⟨i - 1, by omega⟩
    have := h (i + 2) (by omega) (by simpa using hl)
    simpa using this
def a5p (c : UInt8) : Bool := decide (97 <= (c.toNat : Int)) && decide ((c.toNat : Int) <= 122)
def upC (c : UInt8) : Bool := decide (65 <= (c.toNat : Int)) && decide ((c.toNat : Int) <= 90)
def a6r (c : UInt8) : Bool := decide (48 <= (c.toNat : Int)) && decide ((c.toNat : Int) <= 57)
def b2C (f g : UInt8 -> Bool) (s : ByteArray) : Bool :=
 match s.data.toList with
 | [] => false
 | c :: r => decide (r.length <= 15) && f c && r.all g
def a5z (s : ByteArray) : Bool := b2C upC (fun c => a5p c || upC c || a6r c || (c.toNat : Int) == 95) s
def a3L (s : ByteArray) : Bool := b2C a5p (fun c => a5p c || a6r c || (c.toNat : Int) == 95) s
theorem b9y (c : UInt8) : a3K (c.toNat : Int) = some (a5p c) := by
 unfold a3K a5p
 cases decide (97 <= (c.toNat : Int)) <;> simp
theorem c43 (c : UInt8) : a5e (c.toNat : Int) = some (upC c) := by
 unfold a5e upC
 cases decide (65 <= (c.toNat : Int)) <;> simp
theorem c2K (c : UInt8) : a5k (c.toNat : Int) = some (a6r c) := by
 unfold a5k a6r
 cases decide (48 <= (c.toNat : Int)) <;> simp
theorem b0k {s : ByteArray} {i : Nat} {c : UInt8} (h : s.data.toList[i]? = some c) : a4P s (i : Int) = some c := by
 unfold a4P
 rw [if_pos (by omega)]
 obtain ⟨hi, e⟩ := List.getElem?_eq_some_iff.1 h
 have hs : i < s.size := by simpa using hi
 show s[((i : Int)).toNat]? = some c
 rw [Int.toNat_natCast, getElem?_pos s i hs]
 show some s.data[i] = some c
 simpa using e
theorem b4q (s : ByteArray) : s.size = s.data.toList.length := by simp
theorem c0Y {a1 a2 : Int -> Option Bool} {f g : UInt8 -> Bool} (h1 : ∀ c : UInt8, a1 (c.toNat : Int) = some (f c)) (h2 : ∀ c : UInt8, a2 (c.toNat : Int) = some (g c)) (s : ByteArray) : a5Q s a1 a2 = some (b2C f g s) := by
 unfold a5Q b2C
 simp only [a0r, b8i]
 have hsz := b4q s
 cases hs : s.data.toList with
 | nil =>
   rw [hs] at hsz
   rw [hsz]
   simp
 | cons c r =>
   rw [hs] at hsz
   simp only [List.length_cons] at hsz
   have e1 : decide ((s.size : Int) < 1) = false := by simp; omega
   rw [e1]
   simp only [Bool.false_eq_true, if_false, Option.bind_some]
   by_cases hb : 16 < (s.size : Int)
   ·rw [if_pos (by simpa using hb)]
    have : decide (r.length <= 15) = false := by simp; omega
    rw [this]; rfl
   ·rw [if_neg (by simpa using hb)]
    have e2 : decide (r.length <= 15) = true := by simp; omega
    have e3 : a4P s 0 = some c := b0k (i := 0) (by rw [hs]; rfl)
    rw [e2, e3]
    simp only [Option.bind_some, h1, Bool.true_and]
    cases f c
    ·rfl
    ·simp only [Bool.not_true, Bool.false_eq_true, if_false, Bool.true_and]
     refine b6v s.size (fun i => match s.data.toList[i]? with | some x => g x | none => true) ?_ ?_ 1 (r.all g) ?_
     ·intro i hi
      have hi' : i < s.data.toList.length := by rw [hs]; simp; omega
      unfold a7T
      rw [a0r, if_pos (by simp; omega), b0k (List.getElem?_eq_getElem hi')]
      simp only [Option.bind_some, h2]
      rw [List.getElem?_eq_getElem hi', Z8, w6 i (by omega)]
      exact b2x _ _
     ·intro i hi
      unfold a7T
      rw [a0r, if_neg (by simp; omega)]
     ·rw [hs, List.all_eq_true]
      constructor
      ·intro h i h1 hi
       obtain ⟨i, rfl⟩ : ∃ m, i = m + 1 := ⟨i - 1, by omega⟩
       have hr : i < r.length := by omega
       simp only [List.getElem?_cons_succ, List.getElem?_eq_getElem hr]
       exact h _ (List.getElem_mem hr)
      ·intro h x hx
       obtain ⟨i, hi, rfl⟩ := List.getElem_of_mem hx
       have := h (i + 1) (by omega) (by omega)
       simpa only [List.getElem?_cons_succ, List.getElem?_eq_getElem hi] using this
theorem c59 (s : ByteArray) : a3m s = some (a5z s) := by
 unfold a3m
 simp only [a4e]
 rw [c0Y c43 (g := fun c => a5p c || upC c || a6r c || (c.toNat : Int) == 95) (fun c => by
  unfold a5T
  rw [b9y, c43, c2K]
  simp only [Option.bind_some]
  cases a5p c <;> cases upC c <;> cases a6r c <;> simp)]
 rfl
theorem c04 (s : ByteArray) : a4B s = some (a3L s) := by
 unfold a4B
 simp only [a4e]
 rw [c0Y b9y (g := fun c => a5p c || a6r c || (c.toNat : Int) == 95) (fun c => by
  unfold a8w
  rw [b9y, c2K]
  simp only [Option.bind_some]
  cases a5p c <;> cases a6r c <;> simp)]
 rfl
def a1m (l : List ByteArray) : Bool := asc cS l && l.all a5z
def a0d (k : Key) : Bool := if k.Kind = 0 then a3L k.Text else if k.Kind = 1 then decide ((k.Text.size : Int) <= 64) else false
def b7g (v : Val) : Bool := v.Keys.length == v.Kids.length && (asc cK v.Keys && v.Keys.all a0d)
abbrev a3x : Val := Val.mk 0 0 (⟨#[]⟩) ([] : List Val) ([] : List Key) ([] : List Ent) ([] : List ByteArray)
def a2Q (n : Int) (e : Ent) : Bool := (e.Args.length : Int) == n && (!e.Fails || cV e.Result a3x == 0)
def b7G (v : Val) : Bool := decide (0 <= v.Int_) && decide (v.Int_ <= 4) && (asc cE v.Entries && v.Entries.all (a2Q v.Int_))
theorem c6T (k : Key) : a4j k = some (a0d k) := by
 unfold a4j a0d
 rw [c04]
 simp only [a0r, beq_iff_eq, a4e]
 by_cases h : k.Kind = 0
 ·simp [h]
 ·by_cases h1 : k.Kind = 1
  ·simp [h1]
  ·simp [h, h1]
def a3k (v : Val) : Bool :=
 (v.Kind == 1 || v.Kind == 4 || v.Kind == 9 || v.Int_ == 0) && (v.Kind == 2 || v.Kind == 3 || V3 v.Text ⟨#[]⟩) &&
 (v.Kind == 6 || v.Kind == 7 || v.Kind == 8 || v.Kids.isEmpty) && (v.Kind == 8 || v.Keys.isEmpty) && (v.Kind == 9 || v.Entries.isEmpty)
def b4A (l : List Val) : Bool :=
 match l with
 | [_, t] => t.Kind == 5 || t.Kind == 7
 | _ => false
def a5Z (v : Val) : Bool :=
 if v.Kind = 1 then true else if v.Kind = 2 then decide ((v.Text.size : Int) <= 64) else if v.Kind = 3 then a3L v.Text else if v.Kind = 4 then decide (0 <= v.Int_) else
 if v.Kind = 5 then true else if v.Kind = 6 then decide (v.Kids.length <= 4) else if v.Kind = 7 then b4A v.Kids else if v.Kind = 8 then b7g v else if v.Kind = 9 then b7G v else false
def a3h (v : Val) : Bool := a1m v.Labels && (a3k v && a5Z v)
theorem b8z {α : Type} (l : List α) : decide (0 < (l.length : Int)) = !l.isEmpty := by cases l <;> simp
mutual
def vOK : Val -> Bool
 | .mk k n t kids keys ents labs => a3h (.mk k n t kids keys ents labs) && (a00 kids && a52 ents)
def a00 : List Val -> Bool
 | [] => true
 | x :: r => vOK x && a00 r
def eOK : Ent -> Bool
 | .mk args fails res => a00 args && (fails || vOK res)
def a52 : List Ent -> Bool
 | [] => true
 | x :: r => eOK x && a52 r
end
theorem c57 (v : Val) : vOK v = (a3h v && (a00 v.Kids && a52 v.Entries)) := by cases v; simp only [vOK, Val.Kids, Val.Entries]
theorem c0u (e : Ent) : eOK e = (a00 e.Args && (e.Fails || vOK e.Result)) := by cases e; simp only [eOK, Ent.Args, Ent.Fails, Ent.Result]
theorem a5H : ∀ l : List Val, a00 l = l.all vOK
 | [] => by simp [a00]
 | x :: r => by simp only [a00, List.all_cons, a5H r]
theorem a8j : ∀ l : List Ent, a52 l = l.all eOK
 | [] => by simp [a52]
 | x :: r => by simp only [a52, List.all_cons, a8j r]
end Go.Pl
end
section
namespace Go.Pl
open Go Go.RowKit Go.Sx Go.Qx
def X3 {α : Type} (p : α -> Bool) (x : α) (out : List α) : List α := out.takeWhile p ++ [x] ++ out.dropWhile p
theorem b7X {α : Type} (p : α -> Bool) : ∀ l : List α, l.take (l.takeWhile p).length = l.takeWhile p
 | [] => rfl
 | x :: r => by
   by_cases h : p x = true
   ·simp [h, b7X p r]
   ·simp [h]
theorem b8v {α : Type} (p : α -> Bool) : ∀ l : List α, l.drop (l.takeWhile p).length = l.dropWhile p
 | [] => rfl
 | x :: r => by
   by_cases h : p x = true
   ·simp [h, b8v p r]
   ·simp [h]
theorem b2r {α : Type} (p : α -> Bool) : ∀ l : List α, (l.takeWhile p).length <= l.length
 | [] => Nat.le_refl _
 | x :: r => by
   have := b2r p r
   by_cases h : p x = true
   ·simp [h, this]
   ·simp [h]
theorem b9d {α : Type} (p : α -> Bool) : ∀ (l : List α), l[(l.takeWhile p).length]? = (l.dropWhile p).head?
 | [] => rfl
 | x :: r => by
   have := b9d p r
   by_cases h : p x = true
   ·simp [h, this]
   ·simp [h]
theorem b9F {α : Type} {step : Int -> Option (Fl Int Int)} (out : List α) (p : α -> Bool)
 (hst : ∀ (i : Nat) (x : α), out[i]? = some x -> step (i : Int) = some (if p x = true then .next ((i + 1 : Nat) : Int) else .done (i : Int)))
 (hend : step (out.length : Int) = some (.done (out.length : Int))) : j5 step (out.length + 1) 0 = some ((out.takeWhile p).length : Int) := by
 have key : ∀ (m i k : Nat), i + m = out.length -> m + 1 <= k -> j5 step k (i : Int) = some (((i + ((out.drop i).takeWhile p).length : Nat)) : Int) := by
  intro m
  induction m with
  | zero =>
    intro i k h1 h2
    obtain ⟨k, rfl⟩ : ∃ m, k = m + 1 := ⟨k - 1, by omega⟩
    have e : i = out.length := by omega
    subst e
    simp [j5, hend]
  | succ m ih =>
    intro i k h1 h2
    obtain ⟨k, rfl⟩ : ∃ m, k = m + 1 := ⟨k - 1, by omega⟩
    have hlt : i < out.length := by omega
    have hs := hst i out[i] (List.getElem?_eq_getElem hlt)
    rw [List.drop_eq_getElem_cons hlt, List.takeWhile_cons]
    by_cases hp : p out[i] = true
    ·rw [if_pos hp] at hs
     simp only [j5, hs, Option.bind_some, ih (i + 1) k (by omega) (by omega), hp, if_true, List.length_cons]
     congr 2
     omega
    ·rw [if_neg hp] at hs
     simp [j5, hs, hp]
 have := key out.length 0 (out.length + 1) (by omega) (Nat.le_refl _)
 simpa using this
theorem a1M {α σ τ β : Type} {step : σ -> Option (Fl σ (Sum τ β))} (xs : List α) (p : α -> Bool) (pk : Nat -> σ) (d : τ) (b : β)
 (hst : ∀ (i : Nat) (x : α), xs[i]? = some x -> step (pk i) = some (if p x = true then .next (pk (i + 1)) else .done (.inr b)))
 (hend : step (pk xs.length) = some (.done (.inl d))) : j5 step (xs.length + 1) (pk 0) = some (if xs.all p = true then .inl d else .inr b) := by
 have key : ∀ (m i k : Nat), i + m = xs.length -> m + 1 <= k -> j5 step k (pk i) = some (if (xs.drop i).all p = true then .inl d else .inr b) := by
  intro m
  induction m with
  | zero =>
    intro i k h1 h2
    obtain ⟨k, rfl⟩ : ∃ m, k = m + 1 := ⟨k - 1, by omega⟩
    have e : i = xs.length := by omega
    subst e
    simp [j5, hend]
  | succ m ih =>
    intro i k h1 h2
    obtain ⟨k, rfl⟩ : ∃ m, k = m + 1 := ⟨k - 1, by omega⟩
    have hlt : i < xs.length := by omega
    have hs := hst i xs[i] (List.getElem?_eq_getElem hlt)
    rw [List.drop_eq_getElem_cons hlt, List.all_cons]
    by_cases hp : p xs[i] = true
    ·rw [if_pos hp] at hs
     simp only [j5, hs, Option.bind_some, ih (i + 1) k (by omega) (by omega), hp, Bool.true_and]
    ·rw [if_neg hp] at hs
     simp [j5, hs, hp]
 have := key xs.length 0 (xs.length + 1) (by omega) (Nat.le_refl _)
 simpa using this
theorem b0f {α : Type} (c : α -> α -> Int) (hanti : ∀ a b, c b a = - c a b) (x : α) : ∀ out : List α, asc c out = true -> (∀ y, (out.dropWhile (fun y => decide (c y x < 0))).head? = some y -> c y x ≠ 0) ->
 asc c (X3 (fun y => decide (c y x < 0)) x out) = true
 | [], _, _ => by simp [X3, asc]
 | y :: r, h, hne => by
   by_cases hp : c y x < 0
   ·have ih := b0f c hanti x r (by cases r with | nil => simp [asc] | cons z r => simp [asc] at h; exact h.2) (by
     intro z hz
     refine hne z ?_
     simpa [hp] using hz)
    have e : X3 (fun y => decide (c y x < 0)) x (y :: r) = y :: X3 (fun y => decide (c y x < 0)) x r := by simp [X3, hp]
    rw [e]
    cases r with
    | nil => simp [X3, asc, hp]
    | cons z r =>
      simp only [asc, Bool.and_eq_true, decide_eq_true_eq] at h
      by_cases hz : c z x < 0
      ·have e2 : X3 (fun y => decide (c y x < 0)) x (z :: r) = z :: X3 (fun y => decide (c y x < 0)) x r := by simp [X3, hz]
       rw [e2] at ih ⊢
       simp only [asc, Bool.and_eq_true, decide_eq_true_eq]
       exact ⟨h.1, ih⟩
      ·have e2 : X3 (fun y => decide (c y x < 0)) x (z :: r) = x :: z :: r := by simp [X3, hz]
       rw [e2] at ih ⊢
       simp only [asc, Bool.and_eq_true, decide_eq_true_eq] at ih ⊢
       exact ⟨hp, ih⟩
   ·have e : X3 (fun y => decide (c y x < 0)) x (y :: r) = x :: y :: r := by simp [X3, hp]
    have hy := hne y (by simp [hp])
    have ha := hanti y x
    rw [e]
    simp only [asc, Bool.and_eq_true, decide_eq_true_eq]
    exact ⟨by omega, h⟩
theorem b1d {α : Type} {p : α -> Bool} {x y : α} {out : List α} (h : y ∈ X3 p x out) : y = x \/ y ∈ out := by
 have e := List.takeWhile_append_dropWhile (p := p) (l := out)
 simp only [X3, List.mem_append, List.mem_singleton] at h
 rcases h with (h | h) | h
 ·exact .inr (by rw [<- e]; exact List.mem_append_left _ h)
 ·exact .inl h
 ·exact .inr (by rw [<- e]; exact List.mem_append_right _ h)
theorem a5M {α : Type} (p : α -> Bool) (x : α) (out : List α) : (X3 p x out).length = out.length + 1 := by
 have e := congrArg List.length (List.takeWhile_append_dropWhile (p := p) (l := out))
 simp only [List.length_append] at e
 simp only [X3, List.length_append, List.length_singleton]
 omega
theorem b6X {α : Type} (l : List α) {k : Nat} (h : k <= l.length) : cut l 0 (k : Int) = some (l.take k) := by
 unfold cut
 rw [if_pos ⟨by omega, by omega, by omega⟩]
 simp
theorem c0n {α : Type} (l : List α) {k : Nat} (h : k <= l.length) : cut l (k : Int) (l.length : Int) = some (l.drop k) := by
 unfold cut
 rw [if_pos ⟨by omega, by omega, by omega⟩]
 simp
theorem c2G {α β : Type} (out : List α) (x : α) (p : α -> Bool) (b : Nat) (hb : b <= 1024) (hl : out.length <= 4194304) (f : List α -> Option β) :
 (Option.bind (cut out 0 ((out.takeWhile p).length : Int)) fun u => Option.bind (Z5 (0 + u.length) b) fun _ =>
   Option.bind (Z5 (u.length + [x].length) b) fun _ => Option.bind (cut out ((out.takeWhile p).length : Int) (out.length : Int)) fun w =>
   Option.bind (Z5 ((u ++ [x]).length + w.length) b) fun _ => f ((u ++ [x]) ++ w)) = f (X3 p x out) := by
 have hk := b2r p out
 have rm : ∀ n, n <= 4194305 -> Z5 n b = some () := fun n hn => Z7 (by
  have : n * b <= 4194305 * 1024 := Nat.mul_le_mul hn hb
  omega)
 rw [b6X out hk, c0n out hk, b7X, b8v]
 have hl2 := a5M p x out
 simp only [X3, List.length_append, List.length_singleton] at hl2
 simp only [Option.bind_some]
 rw [rm _ (by simp; omega), rm _ (by simp; omega), rm _ (by simp only [List.length_append, List.length_singleton]; omega)]
 rfl
theorem c4W (a b : Ent) : cE a b = lx (eE a) (eE b) := by
 have := (c3u (a4Z a)).2 a (Nat.le_refl _) b [] []
 simpa [lx, b2t] using this.symm
theorem c1j (a b : Ent) : cE b a = - cE a b := by rw [c4W, c4W]; exact b5z _ _
def a2Y (out : List Ent) (x : Ent) : List Ent :=
 match (out.dropWhile (fun y => decide (cE y x < 0))).head? with
 | some y => if cE y x = 0 then out else X3 (fun y => decide (cE y x < 0)) x out
 | none => X3 (fun y => decide (cE y x < 0)) x out
theorem b0d (a b : List Ent) : w9 (a ++ b) = w9 a + w9 b := by
 induction a with
 | nil => simp [w9]
 | cons x r ih => simp only [List.cons_append, w9, ih]; omega
theorem b56 (p : Ent -> Bool) (x : Ent) (out : List Ent) : w9 (X3 p x out) = w9 out + a4Z x := by
 have e := congrArg w9 (List.takeWhile_append_dropWhile (p := p) (l := out))
 rw [b0d] at e
 simp only [X3, b0d, w9]
 omega
theorem c2y (out : List Ent) (x : Ent) : w9 (a2Y out x) <= w9 out + a4Z x := by
 unfold a2Y
 split
 ·split
  ·omega
  ·rw [b56]; omega
 ·rw [b56]; omega
theorem c4e (out : List Ent) (x : Ent) : (a2Y out x).length <= out.length + 1 := by
 unfold a2Y
 split
 ·split
  ·omega
  ·rw [a5M]; omega
 ·rw [a5M]; omega
theorem b96 {out : List Ent} {x y : Ent} (h : y ∈ a2Y out x) : y = x \/ y ∈ out := by
 unfold a2Y at h
 split at h
 ·split at h
  ·exact .inr h
  ·exact b1d h
 ·exact b1d h
theorem c30 (out : List Ent) (x : Ent) (h : asc cE out = true) : asc cE (a2Y out x) = true := by
 unfold a2Y
 split
 ·rename_i y hy
  split
  ·exact h
  ·rename_i hne
   refine b0f cE c1j x out h (fun z hz => ?_)
   rw [hy] at hz
   cases hz
   exact hne
 ·rename_i hy
  refine b0f cE c1j x out h (fun z hz => ?_)
  rw [hy] at hz; cases hz
theorem b92 (fuel : Nat) (es out : List Ent) (i : Nat) (x : Ent) (hx : es[i]? = some x) (hf : ∀ e ∈ out, 2 * a4Z e <= fuel) (hb : ∀ e ∈ out, a4Z e <= 4194304) (hl : out.length <= 4194304) (hi : i <= 4194304) :
 X5 es fuel (out, (i : Int)) = some (.next (a2Y out x, ((i + 1 : Nat) : Int))) := by
 have hlt : i < es.length := (List.getElem?_eq_some_iff.1 hx).1
 have hix : idx es (i : Int) = some x := v8 hx
 have hcmp : ∀ e ∈ out, Z4 fuel e x = some (cE e x) := fun e he => (a4v fuel).2.2 e x (hf e he) (hb e he)
 unfold X5
 simp only [V6]
 rw [b9F (step := a2d es (out, (i : Int)) fuel) out (fun y => decide (cE y x < 0)) ?_ ?_]
 ·simp only [a0r, Z8]
  rw [if_pos (by simp; omega)]
  simp only [Option.bind_some, hix, Int.toNat_natCast, hx]
  have hk := b2r (fun y => decide (cE y x < 0)) out
  have hat := b9d (fun y => decide (cE y x < 0)) out
  have go : (Option.bind (cut out 0 ((out.takeWhile (fun y => decide (cE y x < 0))).length : Int)) fun u => Option.bind (Z5 (0 + u.length) 160) fun _ =>
   Option.bind (Z5 (u.length + [x].length) 160) fun _ => Option.bind (cut out ((out.takeWhile (fun y => decide (cE y x < 0))).length : Int) (out.length : Int)) fun w =>
   Option.bind (Z5 ((u ++ [x]).length + w.length) 160) fun _ => some ((u ++ [x]) ++ w)) = some (X3 (fun y => decide (cE y x < 0)) x out) :=
   c2G out x _ 160 (by omega) hl (fun l => some l)
  rw [w6 i (by omega)]
  have fin : ∀ (b : Bool) (r : List Ent), (if b = true then some out else some r) = some (a2Y out x) -> (Option.bind (if b = true then some out else some r) fun b18 => some (Fl.next (b18, ((i + 1 : Nat) : Int)) : Fl (List Ent × Int) (List Ent))) = some (.next (a2Y out x, ((i + 1 : Nat) : Int))) := by
   intro b r h
   rw [h]; rfl
  rw [go]
  unfold a2Y at fin ⊢
  cases hh : (out.dropWhile (fun y => decide (cE y x < 0))).head? with
  | none =>
    rw [hh] at hat
    have hge := List.getElem?_eq_none_iff.1 hat
    rw [if_neg (by simp; omega)]
    rfl
  | some y =>
    rw [hh] at hat
    have hlt2 := (List.getElem?_eq_some_iff.1 hat).1
    rw [if_pos (by simp; omega), v8 hat]
    simp only [Option.bind_some]
    rw [hcmp y (List.mem_of_getElem? hat)]
    simp only [Option.bind_some]
    by_cases h0 : cE y x = 0
    ·rw [if_pos (by simp [h0]), if_pos h0]
     rfl
    ·rw [if_neg (by simp [h0]), if_neg h0]
     rfl
 ·intro j y hy
  have hj : j < out.length := (List.getElem?_eq_some_iff.1 hy).1
  unfold a2d
  simp only [a0r, Z8]
  rw [if_pos (by simp; omega), v8 hy, hix]
  simp only [Option.bind_some, Int.toNat_natCast, hx]
  rw [hcmp y (List.mem_of_getElem? hy)]
  simp only [Option.bind_some, w6 j (by omega)]
  by_cases h : cE y x < 0 <;> simp [h]
 ·unfold a2d
  simp
theorem a8n : ∀ (es out : List Ent), w9 (es.foldl a2Y out) <= w9 out + w9 es
 | [], out => by simp [w9]
 | x :: r, out => by
   have h1 := a8n r (a2Y out x)
   have h2 := c2y out x
   simp only [List.foldl_cons, w9]
   omega
theorem a9t {y : Ent} : ∀ (es out : List Ent), y ∈ es.foldl a2Y out -> y ∈ out \/ y ∈ es
 | [], _, h => .inl h
 | x :: r, out, h => by
   rcases a9t r (a2Y out x) h with h | h
   ·rcases b96 h with rfl | h
    ·exact .inr (by simp)
    ·exact .inl h
   ·exact .inr (by simp [h])
theorem b3G : ∀ (es out : List Ent), asc cE out = true -> asc cE (es.foldl a2Y out) = true
 | [], _, h => h
 | x :: r, out, h => b3G r (a2Y out x) (c30 out x h)
theorem c16 (fuel : Nat) (es : List Ent) (hf : 2 * w9 es <= fuel) (hb : w9 es <= 4194304) : a3t fuel es = some (es.foldl a2Y []) := by
 have hlen := a6b es
 unfold a3t
 have key := b43 (σ := List Ent) (step := X5 es fuel) es (fun s i => (s, (i : Int))) a2Y (fun i s => s.length <= i /\ (∀ e ∈ s, e ∈ es)) (fun s => s)
  ?_ ?_ [] ⟨by simp, by simp⟩ _ (Nat.le_refl _)
 ·have e : j5 (X5 es fuel) (es.length + 1) (([] : List Ent), 0) = j5 (X5 es fuel) (es.length + 1) (([] : List Ent), ((0 : Nat) : Int)) := rfl
  rw [V6, e, key]
  rfl
 ·intro i s x hx ⟨hI, hm⟩
  have hi : i < es.length := (List.getElem?_eq_some_iff.1 hx).1
  refine ⟨b92 fuel es s i x hx (fun e he => by have := a2l (hm e he); omega) (fun e he => by have := a2l (hm e he); omega) (by omega) (by omega), ?_, ?_⟩
  ·have := c4e s x; omega
  ·intro e he
   rcases b96 he with rfl | he
   ·exact List.mem_of_getElem? hx
   ·exact hm e he
 ·intro s _
  unfold X5
  simp
def b4s (n : Int) (es : List Ent) : Val := Val.mk 9 n (⟨#[]⟩) ([] : List Val) ([] : List Key) es ([] : List ByteArray)
abbrev b41 : Type := Int × Int × ByteArray × (List Val) × (List Key) × (List Ent) × (List ByteArray)
abbrev a1I : b41 := (0, 0, (⟨#[]⟩ : ByteArray), [], [], [], [])
theorem b1f (fuel : Nat) (n : Int) (es : List Ent) (hf : 2 * w9 es <= fuel) (hb : w9 es <= 4194304) :
 a1K fuel n es = some (if 0 <= n /\ n <= 4 /\ es.all (a2Q n) = true then (b4s n (es.foldl a2Y []), 0) else (a3x, 1)) := by
 have hlen := a6b es
 unfold a1K
 simp only [V6]
 by_cases h1 : n < 0
 ·have e1 : decide (n < 0) = true := by simpa using h1
  rw [e1, if_neg (by omega)]; rfl
 by_cases h2 : 4 < n
 ·have e1 : decide (n < 0) = false := by simpa using h1
  have e2 : decide (4 < n) = true := by simpa using h2
  rw [e1, e2, if_neg (by omega)]; rfl
 have e1 : decide (n < 0) = false := by simpa using h1
 have e2 : decide (4 < n) = false := by simpa using h2
 rw [e1, e2, c16 fuel es hf hb]
 have key := a1M (step := a0p n es fuel) es (a2Q n) (fun i => ((i : Int), a1I)) a1I (1, a1I) ?_ ?_
 ·have e : j5 (a0p n es fuel) (es.length + 1) (0, (0, 0, (⟨#[]⟩ : ByteArray), [], [], [], [])) = j5 (a0p n es fuel) (es.length + 1) (((0 : Nat) : Int), a1I) := rfl
  rw [e, key]
  by_cases ha : es.all (a2Q n) = true
  ·rw [if_pos ha, if_pos ⟨by omega, by omega, ha⟩]
   rfl
  ·rw [if_neg ha, if_neg (fun h => ha h.2.2)]
   rfl
 ·intro i x hx
  have hi : i < es.length := (List.getElem?_eq_some_iff.1 hx).1
  have hm := a2l (List.mem_of_getElem? hx)
  have hbe := a13 x
  unfold a0p a2M
  simp only [a0r, Z8]
  rw [if_pos (by simp; omega), v8 hx]
  simp only [Option.bind_some, Int.toNat_natCast, hx]
  rw [show Val.mk 0 0 (⟨#[]⟩ : ByteArray) ([] : List Val) ([] : List Key) ([] : List Ent) ([] : List ByteArray) = a3x from rfl, (a4v fuel).1 x.Result a3x (by omega) (by omega), w6 i (by omega)]
  unfold a2Q
  by_cases hl : (x.Args.length : Int) = n
  ·have e1 : ((x.Args.length : Int) != n) = false := by simp [hl]
   have e2 : ((x.Args.length : Int) == n) = true := by simp [hl]
   rw [e1, e2]
   simp only [Bool.false_eq_true, if_false, Option.bind_some, Bool.true_and]
   cases x.Fails
   ·simp
   ·by_cases h0 : cV x.Result a3x = 0 <;> simp [h0]
  ·have e1 : ((x.Args.length : Int) != n) = true := by simp [hl]
   have e2 : ((x.Args.length : Int) == n) = false := by simp [hl]
   rw [e1, e2]
   simp
 ·unfold a0p
  simp
end Go.Pl
end
section
namespace Go.Pl
open Go Go.RowKit Go.Sx Go.Qx
theorem b24 (c : UInt8) : a1N (c.toNat : Int) = some (a5p c) := by
 unfold a1N a5p
 cases decide (97 <= (c.toNat : Int)) <;> simp
theorem b68 (c : UInt8) : a2K (c.toNat : Int) = some (a6r c) := by
 unfold a2K a6r
 cases decide (48 <= (c.toNat : Int)) <;> simp
theorem b1T (s : ByteArray) : a1r s = some (a3L s) := by
 unfold a1r a3L b2C
 simp only [a0r, b8i]
 have hsz := b4q s
 cases hs : s.data.toList with
 | nil =>
   rw [hs] at hsz
   rw [hsz]
   simp
 | cons c r =>
   rw [hs] at hsz
   simp only [List.length_cons] at hsz
   have e1 : decide ((s.size : Int) < 1) = false := by simp; omega
   rw [e1]
   simp only [Bool.false_eq_true, if_false, Option.bind_some]
   by_cases hb : 16 < (s.size : Int)
   ·rw [if_pos (by simpa using hb)]
    have : decide (r.length <= 15) = false := by simp; omega
    rw [this]; rfl
   ·rw [if_neg (by simpa using hb)]
    have e2 : decide (r.length <= 15) = true := by simp; omega
    have e3 : a4P s 0 = some c := b0k (i := 0) (by rw [hs]; rfl)
    rw [e2, e3]
    simp only [Option.bind_some, b24, Bool.true_and]
    cases a5p c
    ·rfl
    ·simp only [Bool.not_true, Bool.false_eq_true, if_false, Bool.true_and]
     refine b6v s.size (fun i => match s.data.toList[i]? with | some x => (a5p x || a6r x || (x.toNat : Int) == 95) | none => true) ?_ ?_ 1 _ ?_
     ·intro i hi
      have hi' : i < s.data.toList.length := by rw [hs]; simp; omega
      unfold a4A
      simp only [a0r, Z8]
      rw [if_pos (by simp; omega), b0k (List.getElem?_eq_getElem hi')]
      simp only [Option.bind_some, b24, b68]
      rw [List.getElem?_eq_getElem hi', w6 i (by omega)]
      generalize s.data.toList[i] = x
      have hn : ((x.toNat : Int) != 95) = !((x.toNat : Int) == 95) := rfl
      rw [hn]
      show _ = some (if (a5p x || a6r x || (x.toNat : Int) == 95) = true then _ else _)
      cases a5p x <;> cases a6r x <;> cases (x.toNat : Int) == 95 <;> rfl
     ·intro i hi
      unfold a4A
      rw [a0r, if_neg (by simp; omega)]
     ·rw [hs, List.all_eq_true]
      constructor
      ·intro h i h1 hi
       obtain ⟨i, rfl⟩ : ∃ m, i = m + 1 := ⟨i - 1, by omega⟩
       have hr : i < r.length := by omega
       simp only [List.getElem?_cons_succ, List.getElem?_eq_getElem hr]
       exact h _ (List.getElem_mem hr)
      ·intro h x hx
       obtain ⟨i, hi, rfl⟩ := List.getElem_of_mem hx
       have := h (i + 1) (by omega) (by omega)
       simpa only [List.getElem?_cons_succ, List.getElem?_eq_getElem hi] using this
theorem b2Y (k : Key) : a0V k = some (a0d k) := by
 unfold a0V a0d
 rw [b1T]
 by_cases h : k.Kind = 0
 ·cases a3L k.Text <;> simp [h]
 ·by_cases h1 : k.Kind = 1
  ·simp [h1]
  ·have e0 : (k.Kind == 0) = false := by simpa using h
   have e1 : (k.Kind == 1) = false := by simpa using h1
   rw [e0, e1, if_neg h, if_neg h1]
   rfl
theorem c1O (a b : Key) : cK a b = lx (eK a) (eK b) := by
 have := pfK a b [] []
 simpa [lx, b2t] using this.symm
theorem c02 (a b : Key) : cK b a = - cK a b := by rw [c1O, c1O]; exact b5z _ _
def b3e (a b : Key) : Bool := a7b a b
theorem c29 (a b : Key) : b3e a b = ((a.Kind == b.Kind) && V3 a.Text b.Text) := by unfold b3e a7b; simp
theorem c2V (a b : Key) : b3e a b = true ↔ cK a b = 0 := by
 rw [c29]
 unfold cK
 rcases X0 a.Kind b.Kind with ⟨h, e⟩ | ⟨h, e⟩ | ⟨h, e⟩
 ·have : (a.Kind == b.Kind) = false := by simp; omega
  simp [this, e, tn]
 ·have : (a.Kind == b.Kind) = false := by simp; omega
  simp [this, e, tn]
 ·rw [h]
  rw [h] at e
  rcases a7f a.Text b.Text with ⟨_, p, q⟩ | ⟨_, p, q⟩ | ⟨_, p, q⟩ <;> simp [p, q, e, tn]
abbrev a1B (k : Key) : Key -> Bool := fun y => decide (cK y k < 0)
def b4g (s : List Val × List Key) (x : Key × Val) : Option (List Val × List Key) :=
 if ((s.2.dropWhile (a1B x.1)).head?.map fun y => b3e y x.1) = some true then none
 else some (s.1.take (s.2.takeWhile (a1B x.1)).length ++ [x.2] ++ s.1.drop (s.2.takeWhile (a1B x.1)).length, X3 (a1B x.1) x.1 s.2)
def a5g : List (Key × Val) -> List Val × List Key -> Option (List Val × List Key)
 | [], s => some s
 | x :: r, s => (b4g s x).bind (a5g r)
abbrev a6U (s : List Val × List Key) : b41 := (8, 0, (⟨#[]⟩ : ByteArray), s.1, s.2, [], [])
theorem c3C (keys : List Key) (l : List Val) (i : Nat) (k : Key) (x : Val) (hk : keys[i]? = some k) (hx : l[i]? = some x) (s : List Val × List Key) (hs : s.1.length = s.2.length) (hl : s.2.length <= 4194304) (hi : i <= 4194304) :
 ∃ y, a0O keys l ((i : Int), a1I, a6U s) = some (match b4g s (k, x) with | some t => .next (((i + 1 : Nat) : Int), a1I, a6U t) | none => .done (.inr (6, a1I, y))) := by
 refine ⟨a6U s, ?_⟩
 have hlt : i < keys.length := (List.getElem?_eq_some_iff.1 hk).1
 have hik : idx keys (i : Int) = some k := v8 hk
 have hix : idx l (i : Int) = some x := v8 hx
 unfold a0O
 simp only [V6]
 rw [b9F (step := a3W keys ((i : Int), a1I, a6U s)) s.2 (a1B k) ?_ ?_]
 ·simp only [a0r, Z8]
  rw [if_pos (by simp; omega)]
  simp only [Option.bind_some, hik, hix]
  have hp := b2r (a1B k) s.2
  have hat := b9d (a1B k) s.2
  have rmk : ∀ n, n <= 4194305 -> Z5 n 24 = some () := fun n hn => Z7 (by omega)
  have rmv : ∀ n, n <= 4194305 -> Z5 n 128 = some () := fun n hn => Z7 (by omega)
  have h1 := a5M (a1B k) k s.2
  simp only [X3, List.length_append, List.length_singleton] at h1
  have go : (Option.bind (cut s.2 0 ((s.2.takeWhile (a1B k)).length : Int)) fun u => Option.bind (Z5 (0 + u.length) 24) fun _ =>
   Option.bind (cut s.1 0 ((s.2.takeWhile (a1B k)).length : Int)) fun u2 => Option.bind (a0S u2) fun r2 =>
   Option.bind (Z5 (u.length + [k].length) 24) fun _ => Option.bind (cut s.2 ((s.2.takeWhile (a1B k)).length : Int) (s.2.length : Int)) fun w =>
   Option.bind (Z5 ((u ++ [k]).length + w.length) 24) fun _ => Option.bind (Z5 (r2.length + [x].length) 128) fun _ =>
   Option.bind (cut s.1 ((s.2.takeWhile (a1B k)).length : Int) (s.1.length : Int)) fun w2 => Option.bind (Z5 ((r2 ++ [x]).length + w2.length) 128) fun _ =>
   some (Fl.next (w64 ((i : Int) + 1), a1I, a6U ((r2 ++ [x]) ++ w2, (u ++ [k]) ++ w)))) = some (Fl.next (((i + 1 : Nat) : Int), a1I, a6U (s.1.take (s.2.takeWhile (a1B k)).length ++ [x] ++ s.1.drop (s.2.takeWhile (a1B k)).length, X3 (a1B k) k s.2)) : Fl (Int × b41 × b41) (Sum (b41 × b41) (Int × b41 × b41))) := by
   have ht : (s.1.take (s.2.takeWhile (a1B k)).length).length <= 4194304 := by rw [List.length_take]; omega
   have hd : (s.1.take (s.2.takeWhile (a1B k)).length).length + (s.1.drop (s.2.takeWhile (a1B k)).length).length = s.1.length := by rw [List.length_take, List.length_drop]; omega
   rw [b6X s.2 hp, c0n s.2 hp, b6X s.1 (by omega), c0n s.1 (by omega), b7X, b8v]
   unfold a0S
   simp only [Option.bind_some]
   rw [rmk _ (by simp; omega), rmv _ (by simp; omega)]
   simp only [Option.bind_some]
   rw [rmk _ (by simp; omega), rmk _ (by simp only [List.length_append, List.length_singleton]; omega), rmv _ (by simp; omega), rmv _ (by simp only [List.length_append, List.length_singleton]; omega), w6 i (by omega)]
   rfl
  unfold b4g
  cases hh : (s.2.dropWhile (a1B k)).head? with
  | none =>
    rw [hh] at hat
    have hge := List.getElem?_eq_none_iff.1 hat
    rw [if_neg (by simp; omega), if_neg (by simp)]
    exact go
  | some y =>
    rw [hh] at hat
    have hlt2 := (List.getElem?_eq_some_iff.1 hat).1
    rw [if_pos (by simp; omega), v8 hat]
    simp only [Option.bind_some, Option.map_some]
    cases hq : b3e y k
    ·unfold b3e at hq
     rw [hq, if_neg (by simp), if_neg (by simp)]
     exact go
    ·unfold b3e at hq
     rw [hq, if_pos rfl, if_pos rfl]
 ·intro j y hy
  have hj : j < s.2.length := (List.getElem?_eq_some_iff.1 hy).1
  unfold a3W
  simp only [a0r, Z8]
  rw [if_pos (by simp; omega), v8 hy, hik]
  simp only [Option.bind_some, a8P, w6 j (by omega)]
  by_cases h : cK y k < 0 <;> simp [h]
 ·unfold a3W
  simp
theorem c0h {s t : List Val × List Key} {x : Key × Val} (h : b4g s x = some t) (hs : s.1.length = s.2.length) : t.1.length = t.2.length /\ t.2.length = s.2.length + 1 := by
 unfold b4g at h
 split at h
 ·cases h
 ·cases h
  have h1 := a5M (a1B x.1) x.1 s.2
  have hp := b2r (a1B x.1) s.2
  refine ⟨?_, h1⟩
  rw [h1]
  simp only [List.length_append, List.length_singleton, List.length_take, List.length_drop]
  omega
theorem c3X (keys : List Key) (l : List Val) (hkl : keys.length = l.length) (hl : keys.length <= 4194304) :
 ∃ y, j5 (a0O keys l) (keys.length + 1) (0, a1I, a6U ([], [])) = some (match a5g (keys.zip l) ([], []) with | some t => .inl (a1I, a6U t) | none => .inr (6, a1I, y)) := by
 have key : ∀ (m i k : Nat) (s : List Val × List Key), i + m = keys.length -> m + 1 <= k -> s.1.length = s.2.length -> s.2.length <= i ->
  ∃ y, j5 (a0O keys l) k ((i : Int), a1I, a6U s) = some (match a5g ((keys.drop i).zip (l.drop i)) s with | some t => .inl (a1I, a6U t) | none => .inr (6, a1I, y)) := by
  intro m
  induction m with
  | zero =>
    intro i k s h1 h2 hs hn
    obtain ⟨k, rfl⟩ : ∃ m, k = m + 1 := ⟨k - 1, by omega⟩
    have e : i = keys.length := by omega
    subst e
    rw [List.drop_length, List.zip_nil_left]
    have : a0O keys l ((keys.length : Int), a1I, a6U s) = some (.done (.inl (a1I, a6U s))) := by
     unfold a0O
     simp
    exact ⟨a1I, by simp only [j5, this, a5g, Option.bind_some]⟩
  | succ m ih =>
    intro i k s h1 h2 hs hn
    obtain ⟨k, rfl⟩ : ∃ m, k = m + 1 := ⟨k - 1, by omega⟩
    have hlt : i < keys.length := by omega
    have hlt2 : i < l.length := by omega
    rw [List.drop_eq_getElem_cons hlt, List.drop_eq_getElem_cons hlt2, List.zip_cons_cons]
    obtain ⟨y, hy⟩ := c3C keys l i _ _ (List.getElem?_eq_getElem hlt) (List.getElem?_eq_getElem hlt2) s hs (by omega) (by omega)
    simp only [j5, hy, a5g]
    cases hi : b4g s (keys[i], l[i]) with
    | none => exact ⟨y, by simp⟩
    | some t =>
      obtain ⟨h3, h4⟩ := c0h hi hs
      simp only [Option.bind_some]
      exact ih (i + 1) k t (by omega) (by omega) h3 (by omega)
 obtain ⟨y, hy⟩ := key keys.length 0 (keys.length + 1) ([], []) (by omega) (Nat.le_refl _) rfl (Nat.le_refl _)
 exact ⟨y, by simpa using hy⟩
def b1o (s : List Val × List Key) : Val := Val.mk 8 0 (⟨#[]⟩) s.1 s.2 ([] : List Ent) ([] : List ByteArray)
theorem b7b (keys : List Key) (l : List Val) (hl : keys.length <= 4194304) :
 a1A keys l = some (if keys.length = l.length /\ keys.all a0d = true then (match a5g (keys.zip l) ([], []) with | some t => ((b1o t, 0) : Val × Int) | none => (a3x, 6)) else (a3x, 1)) := by
 unfold a1A
 simp only [V6]
 by_cases hkl : keys.length = l.length
 ·have e1 : ((keys.length : Int) != (l.length : Int)) = false := by simp; omega
  rw [e1]
  have k1 := a1M (step := a1p keys) keys a0d (fun i => ((i : Int), a1I)) a1I (1, a1I) ?_ ?_
  ·obtain ⟨y, hy⟩ := c3X keys l hkl hl
   have e2 : j5 (a1p keys) (keys.length + 1) (0, (0, 0, (⟨#[]⟩ : ByteArray), [], [], [], [])) = j5 (a1p keys) (keys.length + 1) (((0 : Nat) : Int), a1I) := rfl
   rw [e2, k1]
   by_cases ha : keys.all a0d = true
   ·rw [if_pos ha, if_pos ⟨hkl, ha⟩]
    simp only [Option.bind_some, w5, cond_false]
    rw [hy]
    cases a5g (keys.zip l) ([], []) <;> rfl
   ·rw [if_neg ha, if_neg (fun h => ha h.2)]
    rfl
  ·intro i x hx
   have hi : i < keys.length := (List.getElem?_eq_some_iff.1 hx).1
   unfold a1p
   simp only [a0r, Z8]
   rw [if_pos (by simp; omega), v8 hx]
   simp only [Option.bind_some, b2Y, w6 i (by omega)]
   cases a0d x <;> rfl
  ·unfold a1p
   simp
 ·have e1 : ((keys.length : Int) != (l.length : Int)) = true := by simp; omega
  rw [e1, if_neg (fun h => hkl h.1)]
  rfl
theorem a5R (a b : List Key) : w4 (a ++ b) = w4 a + w4 b := by
 induction a with
 | nil => simp [w4]
 | cons x r ih => simp only [List.cons_append, w4, ih]; omega
theorem c1w {s t : List Val × List Key} {x : Key × Val} (h : b4g s x = some t) (ha : asc cK s.2 = true) :
 asc cK t.2 = true /\ (∀ y ∈ t.2, y = x.1 \/ y ∈ s.2) /\ (∀ y ∈ t.1, y = x.2 \/ y ∈ s.1) /\ v7 t.1 = v7 s.1 + Y1 x.2 /\ w4 t.2 = w4 s.2 + a2y x.1 := by
 unfold b4g at h
 split at h
 ·cases h
 ·rename_i hne
  cases h
  refine ⟨b0f cK c02 x.1 s.2 ha ?_, fun y hy => b1d hy, fun y hy => ?_, ?_, ?_⟩
  ·intro y hy h0
   rw [hy] at hne
   simp only [Option.map_some] at hne
   exact hne (congrArg some ((c2V y x.1).2 h0))
  ·simp only [List.mem_append, List.mem_singleton] at hy
   rcases hy with (hy | hy) | hy
   ·exact .inr (List.mem_of_mem_take hy)
   ·exact .inl hy
   ·exact .inr (List.mem_of_mem_drop hy)
  ·have e := congrArg v7 (List.take_append_drop (s.2.takeWhile (a1B x.1)).length s.1)
   rw [a2f] at e
   simp only [a2f, v7]
   omega
  ·have e := congrArg w4 (List.takeWhile_append_dropWhile (p := a1B x.1) (l := s.2))
   rw [a5R] at e
   simp only [X3, a5R, w4]
   omega
def b3x : List (Key × Val) -> Nat
 | [] => 0
 | x :: r => a2y x.1 + Y1 x.2 + b3x r
theorem b0s : ∀ (xs : List (Key × Val)) (s t : List Val × List Key), a5g xs s = some t -> asc cK s.2 = true -> s.1.length = s.2.length ->
 asc cK t.2 = true /\ t.1.length = t.2.length /\ t.2.length = s.2.length + xs.length /\ (∀ y ∈ t.2, y ∈ s.2 \/ ∃ x ∈ xs, y = x.1) /\ (∀ y ∈ t.1, y ∈ s.1 \/ ∃ x ∈ xs, y = x.2) /\ v7 t.1 + w4 t.2 = v7 s.1 + w4 s.2 + b3x xs
 | [], s, t, h, ha, hl => by
   cases h
   exact ⟨ha, hl, rfl, fun y hy => .inl hy, fun y hy => .inl hy, rfl⟩
 | x :: r, s, t, h, ha, hl => by
   simp only [a5g] at h
   obtain ⟨u, hu, h⟩ := Option.bind_eq_some_iff.1 h
   obtain ⟨k1, k2, k3, k4, k5⟩ := c1w hu ha
   obtain ⟨l1, l2⟩ := c0h hu hl
   obtain ⟨m1, m2, m3, m4, m5, m6⟩ := b0s r u t h k1 l1
   refine ⟨m1, m2, by rw [m3, l2, List.length_cons]; omega, fun y hy => ?_, fun y hy => ?_, by simp only [b3x]; omega⟩
   ·rcases m4 y hy with hy | ⟨z, hz, rfl⟩
    ·rcases k2 y hy with rfl | hy
     ·exact .inr ⟨x, by simp, rfl⟩
     ·exact .inl hy
    ·exact .inr ⟨z, by simp [hz], rfl⟩
   ·rcases m5 y hy with hy | ⟨z, hz, rfl⟩
    ·rcases k3 y hy with rfl | hy
     ·exact .inr ⟨x, by simp, rfl⟩
     ·exact .inl hy
    ·exact .inr ⟨z, by simp [hz], rfl⟩
end Go.Pl
namespace Go.Pl
open Go Go.RowKit Go.Sx Go.Qx
theorem b8A (c : UInt8) : a2N (c.toNat : Int) = some (upC c) := by
 unfold a2N upC
 cases decide (65 <= (c.toNat : Int)) <;> simp
theorem b7q (s : ByteArray) : a1g s = some (a5z s) := by
 unfold a1g a5z b2C
 simp only [a0r, b8i]
 have hsz := b4q s
 cases hs : s.data.toList with
 | nil =>
   rw [hs] at hsz
   rw [hsz]
   simp
 | cons c r =>
   rw [hs] at hsz
   simp only [List.length_cons] at hsz
   have e1 : decide ((s.size : Int) < 1) = false := by simp; omega
   rw [e1]
   simp only [Bool.false_eq_true, if_false, Option.bind_some]
   by_cases hb : 16 < (s.size : Int)
   ·rw [if_pos (by simpa using hb)]
    have : decide (r.length <= 15) = false := by simp; omega
    rw [this]; rfl
   ·rw [if_neg (by simpa using hb)]
    have e2 : decide (r.length <= 15) = true := by simp; omega
    have e3 : a4P s 0 = some c := b0k (i := 0) (by rw [hs]; rfl)
    rw [e2, e3]
    simp only [Option.bind_some, b8A, Bool.true_and]
    cases upC c
    ·rfl
    ·simp only [Bool.not_true, Bool.false_eq_true, if_false, Bool.true_and]
     refine b6v s.size (fun i => match s.data.toList[i]? with | some x => (a5p x || upC x || a6r x || (x.toNat : Int) == 95) | none => true) ?_ ?_ 1 _ ?_
     ·intro i hi
      have hi' : i < s.data.toList.length := by rw [hs]; simp; omega
      unfold a2X
      simp only [a0r, Z8]
      rw [if_pos (by simp; omega), b0k (List.getElem?_eq_getElem hi')]
      simp only [Option.bind_some, b24, b68, b8A]
      rw [List.getElem?_eq_getElem hi', w6 i (by omega)]
      generalize s.data.toList[i] = x
      have hn : ((x.toNat : Int) != 95) = !((x.toNat : Int) == 95) := rfl
      rw [hn]
      show _ = some (if (a5p x || upC x || a6r x || (x.toNat : Int) == 95) = true then _ else _)
      cases a5p x <;> cases upC x <;> cases a6r x <;> cases (x.toNat : Int) == 95 <;> rfl
     ·intro i hi
      unfold a2X
      rw [a0r, if_neg (by simp; omega)]
     ·rw [hs, List.all_eq_true]
      constructor
      ·intro h i h1 hi
       obtain ⟨i, rfl⟩ : ∃ m, i = m + 1 := ⟨i - 1, by omega⟩
       have hr : i < r.length := by omega
       simp only [List.getElem?_cons_succ, List.getElem?_eq_getElem hr]
       exact h _ (List.getElem_mem hr)
      ·intro h x hx
       obtain ⟨i, hi, rfl⟩ := List.getElem_of_mem hx
       have := h (i + 1) (by omega) (by omega)
       simpa only [List.getElem?_cons_succ, List.getElem?_eq_getElem hi] using this
end Go.Pl
end
section
namespace Go.Pl
open Go Go.RowKit Go.Sx Go.Qx
theorem a6F : V3 (⟨#[]⟩ : ByteArray) ⟨#[]⟩ = true := by simp [V3]
theorem c5t (n : Int) : vOK (Val.mk 1 n (⟨#[]⟩) [] [] [] []) = true := by simp [vOK, a00, a52, a3h, a1m, asc, a3k, a5Z, a6F, Val.Kind, Val.Int_, Val.Text, Val.Kids, Val.Keys, Val.Entries, Val.Labels]
theorem c5x (s : ByteArray) : vOK (Val.mk 2 0 s [] [] [] []) = decide ((s.size : Int) <= 64) := by rw [Bool.eq_iff_iff]; simp [vOK, a00, a52, a3h, a1m, asc, a3k, a5Z, Val.Kind, Val.Int_, Val.Text, Val.Kids, Val.Keys, Val.Entries, Val.Labels]; exact decide_eq_true_iff
theorem c4B (s : ByteArray) : vOK (Val.mk 3 0 s [] [] [] []) = a3L s := by simp [vOK, a00, a52, a3h, a1m, asc, a3k, a5Z, Val.Kind, Val.Int_, Val.Text, Val.Kids, Val.Keys, Val.Entries, Val.Labels]
theorem c5D (n : Int) : vOK (Val.mk 4 n (⟨#[]⟩) [] [] [] []) = decide (0 <= n) := by rw [Bool.eq_iff_iff]; simp [vOK, a00, a52, a3h, a1m, asc, a3k, a5Z, a6F, Val.Kind, Val.Int_, Val.Text, Val.Kids, Val.Keys, Val.Entries, Val.Labels]; exact decide_eq_true_iff
theorem b5t : vOK (Val.mk 5 0 (⟨#[]⟩) [] [] [] []) = true := by simp [vOK, a00, a52, a3h, a1m, asc, a3k, a5Z, a6F, Val.Kind, Val.Int_, Val.Text, Val.Kids, Val.Keys, Val.Entries, Val.Labels]
theorem b8I (l : List Val) : vOK (Val.mk 6 0 (⟨#[]⟩) l [] [] []) = (decide (l.length <= 4) && a00 l) := by rw [Bool.eq_iff_iff]; simp [vOK, a52, a3h, a1m, asc, a3k, a5Z, a6F, Val.Kind, Val.Int_, Val.Text, Val.Kids, Val.Keys, Val.Entries, Val.Labels]; intro _; exact decide_eq_true_iff
theorem b9K (x t : Val) : vOK (Val.mk 7 0 (⟨#[]⟩) [x, t] [] [] []) = ((t.Kind == 5 || t.Kind == 7) && (vOK x && vOK t)) := by simp [vOK, a00, a52, a3h, a1m, asc, a3k, a5Z, b4A, a6F, Val.Kind, Val.Int_, Val.Text, Val.Kids, Val.Keys, Val.Entries, Val.Labels]
theorem c5N (t : List Val × List Key) : vOK (b1o t) = (b7g (b1o t) && a00 t.1) := by simp [b1o, vOK, a52, a3h, a1m, asc, a3k, a5Z, a6F, Val.Kind, Val.Int_, Val.Text, Val.Kids, Val.Keys, Val.Entries, Val.Labels]
theorem c5r (n : Int) (es : List Ent) : vOK (b4s n es) = (b7G (b4s n es) && a52 es) := by simp [b4s, vOK, a00, a3h, a1m, asc, a3k, a5Z, a6F, Val.Kind, Val.Int_, Val.Text, Val.Kids, Val.Keys, Val.Entries, Val.Labels]
def a59 (v : Val) (l : List ByteArray) : Val := Val.mk v.Kind v.Int_ v.Text v.Kids v.Keys v.Entries l
theorem a8V {v : Val} {l : List ByteArray} (h : vOK v = true) (hl : a1m l = true) : vOK (a59 v l) = true := by
 cases v
 simp only [vOK, a3h, Bool.and_eq_true, a59, Val.Kind, Val.Int_, Val.Text, Val.Kids, Val.Keys, Val.Entries, Val.Labels] at h ⊢
 exact ⟨⟨hl, h.1.2⟩, h.2⟩
theorem a5I (v : Val) (l : List ByteArray) : Y1 (a59 v l) <= Y1 v + J0 l := by
 rw [a5G, a5G v]
 simp only [a59, Val.Text, Val.Kids, Val.Keys, Val.Entries, Val.Labels]
 omega
theorem a2a : (⟨#[]⟩ : ByteArray).size = 0 := rfl
theorem K3 (k n : Int) (t : ByteArray) (kids : List Val) (keys : List Key) (es : List Ent) : Y1 (Val.mk k n t kids keys es []) = 8 + t.size + v7 kids + w4 keys + w9 es := by
 simp only [Y1, a0Y, J0]; omega
structure OS (L : List Int) (s : Semtypebase_Source) : Prop where
 l : s.L = L
 lo : 0 <= s.At
 hi : s.At <= (L.length : Int)
section
variable {L : List Int}
theorem Y2 (hL : L.length <= 4194304) {s : Semtypebase_Source} (h : OS L s) {n : Int} (h1 : 1 <= n) (h2 : n <= 1000) : ∃ x t, y4 s n = some (x, t) /\ OS L t /\ 0 <= x /\ x < n := by
 obtain ⟨hl, lo, hi⟩ := h
 unfold y4
 have e1 : decide (n < 1) = false := by simp; omega
 rw [e1, hl]
 by_cases he : (L.length : Int) <= s.At
 ·have e2 : decide ((L.length : Int) <= s.At) = true := by simpa using he
  rw [e2]
  exact ⟨0, s, rfl, ⟨hl, lo, hi⟩, by omega, by omega⟩
 ·have e2 : decide ((L.length : Int) <= s.At) = false := by simpa using he
  rw [e2]
  simp only [cond_false, Option.bind_some]
  have hlt : s.At.toNat < L.length := by omega
  have e : idx L s.At = some L[s.At.toNat] := by
   have := v8 (List.getElem?_eq_getElem hlt)
   rwa [show ((s.At.toNat : Nat) : Int) = s.At by omega] at this
  rw [e]
  simp only [Option.bind_some]
  have hq : b1y L[s.At.toNat] n = some (L[s.At.toNat].tmod n) := by unfold b1y; rw [if_neg (by omega)]
  rw [hq]
  simp only [Option.bind_some, Z8]
  have b1 := Int.tmod_lt_of_pos L[s.At.toNat] (show 0 < n by omega)
  have b2 := Int.lt_tmod_of_pos L[s.At.toNat] (show 0 < n by omega)
  have hw : w64 (s.At + 1) = s.At + 1 := K7 (by omega) (by omega)
  have hos : OS L (Semtypebase_Source.mk L (w64 (s.At + 1))) := ⟨rfl, by show 0 <= w64 (s.At + 1); omega, by show w64 (s.At + 1) <= _; omega⟩
  by_cases hn : L[s.At.toNat].tmod n < 0
  ·rw [a0r, if_pos (by simpa using hn), K7 (x := L[s.At.toNat].tmod n + n) (by omega) (by omega)]
   exact ⟨_, _, rfl, hos, by omega, by omega⟩
  ·rw [a0r, if_neg (by simpa using hn)]
   exact ⟨_, _, rfl, hos, by omega, by omega⟩
theorem b2L {α : Type} (l : List α) {x : Int} (h0 : 0 <= x) (h1 : x < (l.length : Int)) : ∃ t, idx l x = some t /\ l[x.toNat]? = some t /\ t ∈ l := by
 have hlt : x.toNat < l.length := by omega
 have := v8 (List.getElem?_eq_getElem hlt)
 rw [show ((x.toNat : Nat) : Int) = x by omega] at this
 exact ⟨_, this, List.getElem?_eq_getElem hlt, List.getElem_mem hlt⟩
abbrev b5I : List ByteArray := [⟨#[65]⟩, ⟨#[66]⟩, ⟨#[67]⟩]
abbrev c0i : List ByteArray := [⟨#[97]⟩, ⟨#[98]⟩, ⟨#[111, 107]⟩, ⟨#[101, 114, 114, 111, 114]⟩]
abbrev b9V : List ByteArray := [⟨#[]⟩, ⟨#[115]⟩, ⟨#[120, 32, 121]⟩, ⟨#[97]⟩]
theorem b6t (hL : L.length <= 4194304) {s : Semtypebase_Source} (h : OS L s) : ∃ x t, a0g s = some (x, t) /\ OS L t /\ x ∈ b5I := by
 obtain ⟨n, t, e, ht, a, b⟩ := Y2 hL h (n := 3) (by omega) (by omega)
 obtain ⟨x, ex, eg, hx⟩ := b2L b5I a (by simpa using b)
 exact ⟨x, t, by unfold a0g; rw [e]; simp only [Option.bind_some]; rw [ex, eg]; rfl, ht, hx⟩
theorem a8T (hL : L.length <= 4194304) {s : Semtypebase_Source} (h : OS L s) : ∃ x t, K5 s = some (x, t) /\ OS L t /\ x ∈ c0i := by
 obtain ⟨n, t, e, ht, a, b⟩ := Y2 hL h (n := 4) (by omega) (by omega)
 obtain ⟨x, ex, eg, hx⟩ := b2L c0i a (by simpa using b)
 exact ⟨x, t, by unfold K5; rw [e]; simp only [Option.bind_some]; rw [ex, eg]; rfl, ht, hx⟩
theorem b5n (hL : L.length <= 4194304) {s : Semtypebase_Source} (h : OS L s) : ∃ x t, X1 s = some (x, t) /\ OS L t /\ x ∈ b9V := by
 obtain ⟨n, t, e, ht, a, b⟩ := Y2 hL h (n := 4) (by omega) (by omega)
 obtain ⟨x, ex, eg, hx⟩ := b2L b9V a (by simpa using b)
 exact ⟨x, t, by unfold X1; rw [e]; simp only [Option.bind_some]; rw [ex, eg]; rfl, ht, hx⟩
theorem c2q (hL : L.length <= 4194304) {s : Semtypebase_Source} (h : OS L s) : ∃ x t, a1v s = some (x, t) /\ OS L t := by
 obtain ⟨n, t, e, ht, a, b⟩ := Y2 hL h (n := 10) (by omega) (by omega)
 obtain ⟨x, ex, eg, hx⟩ := b2L ([0, 1, (-1), 2, 3, (-2), 7, (-9223372036854775808), 9223372036854775807, 10] : List Int) a (by simpa using b)
 exact ⟨x, t, by unfold a1v; rw [e]; simp only [Option.bind_some]; rw [ex, eg]; rfl, ht⟩
def chk (o : Option (List ByteArray)) : Bool :=
 match o with
 | some l => a1m l && decide (J0 l <= 4)
 | none => false
theorem b4p {o : Option (List ByteArray)} (h : chk o = true) : ∃ l, o = some l /\ a1m l = true /\ J0 l <= 4 := by
 cases o with
 | none => cases h
 | some l => simp only [chk, Bool.and_eq_true, decide_eq_true_eq] at h; exact ⟨l, rfl, h⟩
theorem c5R : chk (X4 ([] : List ByteArray)) = true := by kernel_rfl
theorem c5C : b5I.all (fun x => chk (X4 [x])) = true := by kernel_rfl
theorem c5l : b5I.all (fun x => b5I.all (fun y => chk (X4 ([x] ++ [y])))) = true := by kernel_rfl
theorem a90 (hL : L.length <= 4194304) {s : Semtypebase_Source} (h : OS L s) : ∃ l t, a0I s = some (l, t) /\ OS L t /\ a1m l = true /\ J0 l <= 4 := by
 obtain ⟨n, t, e, ht, _, _⟩ := Y2 hL h (n := 3) (by omega) (by omega)
 unfold a0I
 rw [e]
 simp only [Option.bind_some]
 cases hn : n == 1
 ·simp only [cond_false, Option.bind_some]
  obtain ⟨l, el, h1, h2⟩ := b4p c5R
  exact ⟨l, t, by rw [el]; rfl, ht, h1, h2⟩
 ·simp only [cond_true, Option.bind_some]
  obtain ⟨x, t2, e2, ht2, hx⟩ := b6t hL ht
  obtain ⟨m, t3, e3, ht3, _, _⟩ := Y2 hL ht2 (n := 2) (by omega) (by omega)
  rw [e2]
  simp only [Option.bind_some]
  rw [Z7 (by simp), e3]
  simp only [Option.bind_some]
  cases hm : m == 1
  ·simp only [cond_false, Option.bind_some]
   obtain ⟨l, el, h1, h2⟩ := b4p (List.all_eq_true.1 c5C x hx)
   exact ⟨l, t3, by rw [el]; rfl, ht3, h1, h2⟩
  ·simp only [cond_true, Option.bind_some]
   obtain ⟨y, t4, e4, ht4, hy⟩ := b6t hL ht3
   rw [e4]
   simp only [Option.bind_some]
   rw [Z7 (by simp)]
   obtain ⟨l, el, h1, h2⟩ := b4p (List.all_eq_true.1 (List.all_eq_true.1 c5l x hx) y hy)
   exact ⟨l, t4, by simp only [Option.bind_some]; rw [el]; rfl, ht4, h1, h2⟩
theorem a92 : c0i.all (fun x => a3L x && decide (x.size <= 5)) = true := by kernel_rfl
theorem a95 : b9V.all (fun x => decide (x.size <= 5)) = true := by kernel_rfl
theorem b2p (hL : L.length <= 4194304) {s : Semtypebase_Source} (h : OS L s) : ∃ v t, J9 s = some (v, t) /\ OS L t /\ vOK v = true /\ Y1 v <= 16 := by
 obtain ⟨n, t, e, ht, _, _⟩ := Y2 hL h (n := 6) (by omega) (by omega)
 unfold J9
 rw [e]
 simp only [Option.bind_some]
 cases n == 0
 ·simp only [cond_false, Option.bind_some]
  cases n == 1
  ·simp only [cond_false, Option.bind_some]
   cases n == 2
   ·simp only [cond_false, Option.bind_some]
    cases n == 3
    ·simp only [cond_false, Option.bind_some]
     cases n == 4
     ·simp only [cond_false, Option.bind_some]
      unfold a2O a0S
      rw [Z7 (by simp)]
      exact ⟨_, t, rfl, ht, by rw [b8I]; rfl, by rw [K3]; simp [a2a, v7, w4, w9]⟩
     ·simp only [cond_true, Option.bind_some]
      exact ⟨_, t, rfl, ht, b5t, by rw [K3]; simp [a2a, v7, w4, w9]⟩
    ·simp only [cond_true, Option.bind_some]
     obtain ⟨x, t2, e2, ht2, h0, _⟩ := Y2 hL ht (n := 3) (by omega) (by omega)
     rw [e2]
     exact ⟨_, t2, rfl, ht2, by rw [c5D]; simpa using h0, by rw [K3]; simp [a2a, v7, w4, w9]⟩
   ·simp only [cond_true, Option.bind_some]
    obtain ⟨x, t2, e2, ht2, hx⟩ := b5n hL ht
    have hw := List.all_eq_true.1 a95 x hx
    simp only [decide_eq_true_eq] at hw
    rw [e2]
    exact ⟨_, t2, rfl, ht2, by rw [c5x]; simp; omega, by rw [K3]; simp only [v7, w4, w9]; omega⟩
  ·simp only [cond_true, Option.bind_some]
   obtain ⟨x, t2, e2, ht2, hx⟩ := a8T hL ht
   have hw := List.all_eq_true.1 a92 x hx
   simp only [Bool.and_eq_true, decide_eq_true_eq] at hw
   rw [e2]
   exact ⟨_, t2, rfl, ht2, by rw [c4B]; exact hw.1, by rw [K3]; simp only [v7, w4, w9]; omega⟩
 ·simp only [cond_true, Option.bind_some]
  obtain ⟨x, t2, e2, ht2⟩ := c2q hL ht
  rw [e2]
  exact ⟨_, t2, rfl, ht2, c5t x, by rw [K3]; simp [a2a, v7, w4, w9]⟩
theorem c5M (hL : L.length <= 4194304) {s : Semtypebase_Source} (h : OS L s) : ∃ k t, a2i s = some (k, t) /\ OS L t /\ a0d k = true /\ a2y k <= 8 := by
 obtain ⟨n, t, e, ht, _, _⟩ := Y2 hL h (n := 2) (by omega) (by omega)
 unfold a2i
 rw [e]
 simp only [Option.bind_some]
 cases n == 0
 ·simp only [cond_false, Option.bind_some]
  obtain ⟨x, t2, e2, ht2, hx⟩ := b5n hL ht
  have hw := List.all_eq_true.1 a95 x hx
  simp only [decide_eq_true_eq] at hw
  rw [e2]
  refine ⟨_, t2, rfl, ht2, ?_, ?_⟩
  ·simp [a0d]; omega
  ·simp only [a2y, a0Y]; omega
 ·simp only [cond_true, Option.bind_some]
  obtain ⟨x, t2, e2, ht2, hx⟩ := a8T hL ht
  have hw := List.all_eq_true.1 a92 x hx
  simp only [Bool.and_eq_true, decide_eq_true_eq] at hw
  rw [e2]
  refine ⟨_, t2, rfl, ht2, ?_, ?_⟩
  ·simpa [a0d] using hw.1
  ·simp only [a2y, a0Y]; omega
theorem a8I {γ σ τ : Type} {step : σ -> Option (Fl σ τ)} (pack : γ -> Int -> Semtypebase_Source -> σ) (out : γ -> Semtypebase_Source -> τ) (Inv : Nat -> γ -> Prop) (J : Nat)
 (hst : ∀ (j n : Nat) (g : γ) (s : Semtypebase_Source), j < J -> n <= J -> Inv j g -> OS L s -> ∃ g' s', step (pack g ((n + 1 : Nat) : Int) s) = some (.next (pack g' (n : Int) s')) /\ OS L s' /\ Inv (j + 1) g')
 (hend : ∀ g s, step (pack g 0 s) = some (.done (out g s))) :
 ∀ (n j k : Nat) (g : γ) (s : Semtypebase_Source), j + n <= J -> n + 1 <= k -> Inv j g -> OS L s -> ∃ g' s', j5 step k (pack g (n : Int) s) = some (out g' s') /\ OS L s' /\ Inv (j + n) g' := by
 intro n
 induction n with
 | zero =>
   intro j k g s _ hk hI hs
   obtain ⟨k, rfl⟩ : ∃ m, k = m + 1 := ⟨k - 1, by omega⟩
   exact ⟨g, s, by have := hend g s; simp [j5, this], hs, hI⟩
 | succ n ih =>
   intro j k g s hJ hk hI hs
   obtain ⟨k, rfl⟩ : ∃ m, k = m + 1 := ⟨k - 1, by omega⟩
   obtain ⟨g1, s1, e, hs1, hI1⟩ := hst j n g s (by omega) (by omega) hI hs
   obtain ⟨g2, s2, e2, hs2, hI2⟩ := ih (j + 1) k g1 s1 (by omega) (by omega) hI1 hs1
   refine ⟨g2, s2, ?_, hs2, by rw [show j + (n + 1) = j + 1 + n by omega]; exact hI2⟩
   simp only [j5, e, Option.bind_some]
   exact e2
def hb : Nat -> Nat
 | 0 => 32
 | h + 1 => 64 + 8 * hb h
theorem c1C {h : Nat} (hh : h <= 2) : hb h <= 2624 := by
 match h, hh with
 | 0, _ => decide
 | 1, _ => decide
 | 2, _ => decide
theorem c21 (h : Nat) : 32 <= hb h := by cases h <;> simp [hb]; omega
def c0v (b : Nat) (v : Val) : Prop := vOK v = true /\ Y1 v <= b
end
end Go.Pl
namespace Go.Pl
open Go Go.RowKit Go.Sx Go.Qx
theorem b0G (a b : List Val) : a00 (a ++ b) = (a00 a && a00 b) := by rw [a5H, a5H, a5H, List.all_append]
theorem b5b : ∀ (ks : List Key) (vs : List Val), b3x (ks.zip vs) <= w4 ks + v7 vs
 | [], _ => by simp [b3x]
 | _ :: _, [] => by simp [b3x]
 | k :: r, v :: q => by have := b5b r q; simp only [List.zip_cons_cons, b3x, w4, v7]; omega
theorem b5r (n : Nat) (h : n <= 1000) (b : Nat) (hb : b <= 1024) : Z5 n b = some () := Z7 (by
 have : n * b <= 1000 * 1024 := Nat.mul_le_mul h hb
 omega)
section
variable {L : List Int}
theorem c2U (hL : L.length <= 4194304) {rv : Semtypebase_Source -> Int -> Option (Val × Semtypebase_Source)} {b : Nat} {h : Int} (hv : ∀ s, OS L s -> ∃ v t, rv s h = some (v, t) /\ OS L t /\ c0v b v)
 (hb : b <= 100000) (hb8 : 8 <= b) (rx : Semtypebase_Source -> Int -> Option (Val × Semtypebase_Source)) (ry : Semtypebase_Source -> Int -> Int -> Option (Ent × Semtypebase_Source)) (fuel : Nat) {n : Nat} (hn : n <= 4) {s : Semtypebase_Source} (hs : OS L s) :
 ∃ e t, a2D fuel rv rx ry s (n : Int) h = some (e, t) /\ OS L t /\ eOK e = true /\ a2Q (n : Int) e = true /\ a4Z e <= n * b + b + 3 := by
 obtain ⟨g, s1, e1, hs1, h1, h2, h3⟩ := a8I (L := L) (step := a04 h rv) (fun (g : List Val) (m : Int) (s : Semtypebase_Source) => (m, s, (g, false, 0, 0, (⟨#[]⟩ : ByteArray), ([] : List Val), ([] : List Key), ([] : List Ent), ([] : List ByteArray))))
  (fun (g : List Val) (s : Semtypebase_Source) => (s, (g, false, 0, 0, (⟨#[]⟩ : ByteArray), ([] : List Val), ([] : List Key), ([] : List Ent), ([] : List ByteArray)))) (fun j g => g.length = j /\ a00 g = true /\ v7 g <= j * b) 4
  (by
    intro j m g s hj hm ⟨i1, i2, i3⟩ hs
    obtain ⟨v, t, e, ht, k1, k2⟩ := hv s hs
    refine ⟨g ++ [v], t, ?_, ht, by simp [i1], by rw [b0G, i2]; simp [a00, k1], ?_⟩
    ·unfold a04
     simp only [a0r, Z8]
     rw [if_pos (decide_eq_true (by omega)), e]
     simp only [Option.bind_some]
     rw [b5r _ (by simp; omega) _ (by omega), K7 (by omega) (by omega)]
     simp only [Option.bind_some]
     rw [show ((m + 1 : Nat) : Int) - 1 = (m : Int) by omega]
    ·rw [a2f]
     simp only [v7, Nat.add_mul]
     omega)
  (by
    intro g s
    unfold a04
    simp) n 0 (n + 2) [] s (by omega) (by omega) ⟨rfl, rfl, by simp [v7]⟩ hs
 obtain ⟨x, t, e2, ht, _, _⟩ := Y2 hL hs1 (n := 4) (by omega) (by omega)
 rw [Nat.zero_add] at h1 h3
 unfold a2D
 rw [show ((n : Int)).toNat = n by omega, e1]
 simp only [Option.bind_some]
 rw [e2]
 simp only [Option.bind_some]
 cases x == 1
 ·simp only [cond_false]
  obtain ⟨v, t2, e3, ht2, k1, k2⟩ := hv t ht
  rw [e3]
  refine ⟨_, t2, rfl, ht2, by rw [c0u]; simp only [Ent.Args, Ent.Fails, Ent.Result]; rw [h2, k1]; rfl, ?_, ?_⟩
  ·simp [a2Q, Ent.Args, Ent.Fails, h1]
  ·rw [a13]
   simp only [Ent.Args, Ent.Result]
   omega
 ·simp only [cond_true]
  refine ⟨_, t, rfl, ht, by rw [c0u]; simp only [Ent.Args, Ent.Fails]; rw [h2]; rfl, ?_, ?_⟩
  ·simp [a2Q, Ent.Args, Ent.Fails, Ent.Result, h1, c5z]
  ·rw [a13]
   simp only [Ent.Args, Ent.Result]
   have : Y1 (Val.mk 0 0 (⟨#[]⟩) [] [] [] []) = 8 := by rw [K3]; rfl
   omega
theorem b08 {x : Int} {b : Int} (h0 : 0 <= x) (h1 : x < b) : ∃ n : Nat, x = (n : Int) /\ (n : Int) < b := ⟨x.toNat, by omega, by omega⟩
theorem c2n (hL : L.length <= 4194304) {rv : Semtypebase_Source -> Int -> Option (Val × Semtypebase_Source)} {re : Semtypebase_Source -> Int -> Int -> Option (Ent × Semtypebase_Source)} {h : Nat} (hh : h <= 2)
 (hv : ∀ s, OS L s -> ∃ v t, rv s ((h : Int) + 1) = some (v, t) /\ OS L t /\ c0v (hb h) v)
 (hv2 : 1 <= h -> ∀ s, OS L s -> ∃ v t, rv s (h : Int) = some (v, t) /\ OS L t /\ c0v (hb h) v)
 (he : ∀ n : Nat, n <= 4 -> ∀ s, OS L s -> ∃ e t, re s (n : Int) ((h : Int) + 1) = some (e, t) /\ OS L t /\ eOK e = true /\ a2Q (n : Int) e = true /\ a4Z e <= n * hb h + hb h + 3)
 (rx : Semtypebase_Source -> Int -> Option (Val × Semtypebase_Source)) {fuel : Nat} (hf : 40000 <= fuel) {s : Semtypebase_Source} (hs : OS L s) :
 ∃ v t, a0v fuel rv rx re s ((h : Int) + 2) = some (v, t) /\ OS L t /\ vOK v = true /\ Y1 v + 8 <= hb (h + 1) := by
 have hb1 := c1C hh
 have hb2 := c21 h
 have hbs : hb (h + 1) = 64 + 8 * hb h := rfl
 have w1 : w64 ((h : Int) + 2 - 1) = (h : Int) + 1 := by rw [K7 (by omega) (by omega)]; omega
 have w2 : w64 ((h : Int) + 2 - 2) = (h : Int) := by rw [K7 (by omega) (by omega)]; omega
 have wn : ∀ m : Nat, m <= 10 -> w64 (((m + 1 : Nat) : Int) - 1) = (m : Int) := fun m hm => by rw [K7 (by omega) (by omega)]; omega
 have lf : ∀ s, OS L s -> ∃ v t, J9 s = some (v, t) /\ OS L t /\ vOK v = true /\ Y1 v + 8 <= hb (h + 1) := fun s hs => by
  obtain ⟨v, t, e, ht, h1, h2⟩ := b2p hL hs
  exact ⟨v, t, e, ht, h1, by omega⟩
 obtain ⟨c, t, e, ht, _, _⟩ := Y2 hL hs (n := 6) (by omega) (by omega)
 unfold a0v
 have e0 : decide ((h : Int) + 2 <= 1) = false := by simp; omega
 rw [e0, e]
 simp only [Option.bind_some, cond_false, Z8, w1, w2]
 cases c == 1
 ·simp only [cond_false, Option.bind_some, w5]
  cases c == 2
  ·simp only [cond_false, Option.bind_some, w5]
   cases c == 3
   ·simp only [cond_false, Option.bind_some, w5]
    cases c == 4
    ·simp only [cond_false, Option.bind_some, w5]
     obtain ⟨v, t2, e2, h2⟩ := lf t ht
     rw [e2]
     exact ⟨v, t2, rfl, h2⟩
    ·simp only [cond_true, Option.bind_some, w5]
     obtain ⟨x, t2, e2, ht2, x0, x1⟩ := Y2 hL ht (n := 3) (by omega) (by omega)
     obtain ⟨y, t3, e3, ht3, y0, y1⟩ := Y2 hL ht2 (n := 3) (by omega) (by omega)
     obtain ⟨n, rfl, hn⟩ := b08 x0 x1
     obtain ⟨m, rfl, hm⟩ := b08 y0 y1
     rw [e2]
     simp only [Option.bind_some]
     rw [e3]
     simp only [Option.bind_some]
     have hnb : n * hb h <= 2 * hb h := Nat.mul_le_mul_right _ (by omega)
     obtain ⟨g, s1, e4, hs1, i1, i2, i3, i4⟩ := a8I (L := L) (step := a03 ((h : Int) + 2) ((n : Int), t2) re) (fun (g : List Ent) (m : Int) (s : Semtypebase_Source) => (g, m, s)) (fun (g : List Ent) (s : Semtypebase_Source) => (g, s)) (fun j g => g.length = j /\ a52 g = true /\ g.all (a2Q (n : Int)) = true /\ w9 g <= j * (3 * hb h + 3)) 4
      (by
        intro j m g s hj hm ⟨i1, i2, i3, i4⟩ hs
        obtain ⟨v, t, e, ht, k1, k2, k3⟩ := he n (by omega) s hs
        refine ⟨g ++ [v], t, ?_, ht, by simp [i1], by rw [a8j, List.all_append, <- a8j, i2]; simp [k1], by rw [List.all_append, i3]; simp [k2], ?_⟩
        ·unfold a03
         simp only [a0r, Z8]
         rw [if_pos (decide_eq_true (by omega)), w1, e]
         simp only [Option.bind_some]
         rw [b5r _ (by simp; omega) _ (by omega), wn m (by omega)]
         rfl
        ·rw [b0d]
         simp only [w9, Nat.add_mul]
         omega)
      (by
        intro g s
        unfold a03
        simp) m 0 (m + 2) [] t3 (by omega) (by omega) ⟨rfl, rfl, rfl, by simp [w9]⟩ ht3
     simp only [Option.bind_some, Int.toNat_natCast]
     rw [e4]
     simp only [Option.bind_some]
     rw [Nat.zero_add] at i1 i4
     have hmb : m * (3 * hb h + 3) <= 2 * (3 * hb h + 3) := Nat.mul_le_mul_right _ (by omega)
     rw [b1f fuel (n : Int) g (by omega) (by omega), if_pos ⟨by omega, by omega, i3⟩]
     simp only [Option.bind_some]
     simp only [show ((0 : Int) == 0) = true from rfl, cond_true, Option.bind_some, w5]
     refine ⟨b4s (n : Int) (g.foldl a2Y []), s1, rfl, hs1, ?_, ?_⟩
     ·rw [c5r]
      have a1 : (g.foldl a2Y []).all (a2Q (n : Int)) = true := List.all_eq_true.2 fun y hy => by
       rcases a9t g [] hy with hy | hy
       ·simp at hy
       ·exact List.all_eq_true.1 i3 y hy
      have a2 : a52 (g.foldl a2Y []) = true := by
       rw [a8j]
       rw [a8j] at i2
       exact List.all_eq_true.2 fun y hy => by
        rcases a9t g [] hy with hy | hy
        ·simp at hy
        ·exact List.all_eq_true.1 i2 y hy
      rw [a2]
      simp only [b7G, b4s, Val.Int_, Val.Entries]
      rw [a1, b3G g [] rfl]
      simp only [Bool.and_true, Bool.and_eq_true]
      exact ⟨decide_eq_true (by omega), decide_eq_true (by omega)⟩
     ·have := a8n g []
      simp only [b4s, K3, a2a, v7, w4]
      simp only [w9] at this
      omega
   ·simp only [cond_true, Option.bind_some, w5]
    obtain ⟨y, t3, e3, ht3, y0, y1⟩ := Y2 hL ht (n := 3) (by omega) (by omega)
    obtain ⟨m, rfl, hm⟩ := b08 y0 y1
    rw [e3]
    simp only [Option.bind_some]
    obtain ⟨g, s1, e4, hs1, i1, i2, i3, i4, i5, i6⟩ := a8I (L := L) (step := a06 ((h : Int) + 2) rv) (fun (g : List Key × List Val) (m : Int) (s : Semtypebase_Source) => (g.1, g.2, m, s)) (fun (g : List Key × List Val) (s : Semtypebase_Source) => (g.1, g.2, s)) (fun j g => g.1.length = j /\ g.2.length = j /\ g.1.all a0d = true /\ a00 g.2 = true /\ v7 g.2 <= j * hb h /\ w4 g.1 <= j * 8) 4
     (by
       intro j m g s hj hm ⟨i1, i2, i3, i4, i5, i6⟩ hs
       obtain ⟨k, t, e, ht, k1, k2⟩ := c5M hL hs
       obtain ⟨v, t2, e2, ht2, l1, l2⟩ := hv t ht
       refine ⟨(g.1 ++ [k], g.2 ++ [v]), t2, ?_, ht2, by simp [i1], by simp [i2], by rw [List.all_append, i3]; simp [k1], by rw [b0G, i4]; simp [a00, l1], ?_, ?_⟩
       ·unfold a06
        simp only [a0r, Z8]
        rw [if_pos (decide_eq_true (by omega)), e, w1]
        simp only [Option.bind_some]
        rw [b5r _ (by simp; omega) _ (by omega), e2]
        simp only [Option.bind_some]
        rw [b5r _ (by simp; omega) _ (by omega), wn m (by omega)]
        rfl
       ·rw [a2f]
        simp only [v7, Nat.add_mul]
        omega
       ·rw [a5R]
        simp only [w4, Nat.add_mul]
        omega)
     (by
       intro g s
       unfold a06
       simp) m 0 (m + 2) ([], []) t3 (by omega) (by omega) ⟨rfl, rfl, rfl, rfl, by simp [v7], by simp [w4]⟩ ht3
    simp only [Int.toNat_natCast]
    rw [e4]
    simp only [Option.bind_some]
    rw [Nat.zero_add] at i1 i2 i5 i6
    have hmb : m * hb h <= 2 * hb h := Nat.mul_le_mul_right _ (by omega)
    rw [b7b g.1 g.2 (by omega), if_pos ⟨by omega, i3⟩]
    simp only [Option.bind_some]
    cases hx : a5g (g.1.zip g.2) ([], []) with
    | none =>
      simp only [show ((6 : Int) == 0) = false from rfl, cond_false, Option.bind_some, w5]
      obtain ⟨v, t2, e2, h2⟩ := lf _ hs1
      rw [e2]
      exact ⟨v, t2, rfl, h2⟩
    | some u =>
      simp only
      simp only [show ((0 : Int) == 0) = true from rfl, cond_true, Option.bind_some, w5]
      obtain ⟨m1, m2, m3, m4, m5, m6⟩ := b0s _ _ _ hx rfl rfl
      have hz := b5b g.1 g.2
      simp only [v7, w4] at m6
      refine ⟨b1o u, s1, rfl, hs1, ?_, ?_⟩
      ·rw [c5N]
       have a1 : u.2.all a0d = true := List.all_eq_true.2 fun y hy => by
        rcases m4 y hy with hy | ⟨x, hx, rfl⟩
        ·simp at hy
        ·exact List.all_eq_true.1 i3 _ (List.of_mem_zip hx).1
       have a2 : a00 u.1 = true := by
        rw [a5H]
        rw [a5H] at i4
        exact List.all_eq_true.2 fun y hy => by
         rcases m5 y hy with hy | ⟨x, hx, rfl⟩
         ·simp at hy
         ·exact List.all_eq_true.1 i4 _ (List.of_mem_zip hx).2
       rw [a2]
       simp only [b7g, b1o, Val.Keys, Val.Kids]
       rw [a1, m1, m2]
       simp
      ·simp only [b1o, K3, a2a, w9]
       omega
  ·simp only [cond_true, Option.bind_some, w5]
   have fin : ∀ (tl v : Val), vOK tl = true -> (tl.Kind = 5 \/ tl.Kind = 7) -> Y1 tl <= 24 + hb h -> c0v (hb h) v ->
    vOK (Val.mk 7 0 (⟨#[]⟩) [v, tl] [] [] []) = true /\ Y1 (Val.mk 7 0 (⟨#[]⟩) [v, tl] [] [] []) + 8 <= hb (h + 1) := by
    intro tl v ho hk hbt ⟨k1, k2⟩
    refine ⟨?_, ?_⟩
    ·rw [b9K, k1, ho]
     rcases hk with hk | hk <;> simp [hk]
    ·rw [K3]
     simp only [a2a, v7, w4, w9]
     omega
   have nilB : Y1 (Val.mk 5 0 (⟨#[]⟩) [] [] [] []) = 8 := by rw [K3]; rfl
   unfold W4 a43
   simp only [Option.bind_some]
   by_cases h2 : 1 <= h
   ·have e5 : decide (2 < (h : Int) + 2) = true := by simp; omega
    obtain ⟨x, t2, e2, ht2, _, _⟩ := Y2 hL ht (n := 2) (by omega) (by omega)
    rw [e5, e2]
    simp only [Option.bind_some, cond_true]
    cases x == 1
    ·simp only [Option.bind_some, cond_false]
     obtain ⟨l, t3, e3, ht3, l1, l2⟩ := a90 hL ht2
     rw [e3]
     simp only [Option.bind_some]
     obtain ⟨v, t5, e5, ht5, k5⟩ := hv t3 ht3
     rw [e5]
     exact ⟨_, t5, rfl, ht5, fin (a59 (Val.mk 5 0 (⟨#[]⟩) [] [] [] []) l) v (a8V b5t l1) (.inl rfl) (by have := a5I (Val.mk 5 0 (⟨#[]⟩) [] [] [] []) l; omega) k5⟩
    ·simp only [Option.bind_some, cond_true]
     obtain ⟨v, t3, e3, ht3, k1, k2⟩ := hv2 h2 t2 ht2
     rw [e3]
     simp only [Option.bind_some]
     obtain ⟨l, t4, e4, ht4, l1, l2⟩ := a90 hL ht3
     have ho : vOK (Val.mk 7 0 (⟨#[]⟩) [v, Val.mk 5 0 (⟨#[]⟩) [] [] [] []] [] [] []) = true := by rw [b9K, k1, b5t]; rfl
     have hbb : Y1 (Val.mk 7 0 (⟨#[]⟩) [v, Val.mk 5 0 (⟨#[]⟩) [] [] [] []] [] [] []) <= 16 + hb h := by
      rw [K3]
      simp only [a2a, v7, w4, w9, nilB]
      omega
     rw [e4]
     simp only [Option.bind_some]
     obtain ⟨v5, t5, e5, ht5, k5⟩ := hv t4 ht4
     rw [e5]
     exact ⟨_, t5, rfl, ht5, fin (a59 (Val.mk 7 0 (⟨#[]⟩) [v, Val.mk 5 0 (⟨#[]⟩) [] [] [] []] [] [] []) l) v5 (a8V ho l1) (.inr rfl) (by have := a5I (Val.mk 7 0 (⟨#[]⟩) [v, Val.mk 5 0 (⟨#[]⟩) [] [] [] []] [] [] []) l; omega) k5⟩
   ·have e5 : decide (2 < (h : Int) + 2) = false := by simp; omega
    rw [e5]
    simp only [Option.bind_some, cond_false]
    obtain ⟨l, t3, e3, ht3, l1, l2⟩ := a90 hL ht
    rw [e3]
    simp only [Option.bind_some]
    obtain ⟨v, t5, e5, ht5, k5⟩ := hv t3 ht3
    rw [e5]
    exact ⟨_, t5, rfl, ht5, fin (a59 (Val.mk 5 0 (⟨#[]⟩) [] [] [] []) l) v (a8V b5t l1) (.inl rfl) (by have := a5I (Val.mk 5 0 (⟨#[]⟩) [] [] [] []) l; omega) k5⟩
 ·simp only [cond_true, Option.bind_some, w5]
  obtain ⟨y, t3, e3, ht3, y0, y1⟩ := Y2 hL ht (n := 4) (by omega) (by omega)
  obtain ⟨m, rfl, hm⟩ := b08 y0 y1
  rw [e3]
  simp only [Option.bind_some]
  obtain ⟨g, s1, e4, hs1, i1, i2, i3⟩ := a8I (L := L) (step := a02 ((h : Int) + 2) rv) (fun (g : List Val) (m : Int) (s : Semtypebase_Source) => (g, m, s)) (fun (g : List Val) (s : Semtypebase_Source) => (g, s)) (fun j g => g.length = j /\ a00 g = true /\ v7 g <= j * hb h) 4
   (by
     intro j m g s hj hm ⟨i1, i2, i3⟩ hs
     obtain ⟨v, t, e, ht, k1, k2⟩ := hv s hs
     refine ⟨g ++ [v], t, ?_, ht, by simp [i1], by rw [b0G, i2]; simp [a00, k1], ?_⟩
     ·unfold a02
      simp only [a0r, Z8]
      rw [if_pos (decide_eq_true (by omega)), w1, e]
      simp only [Option.bind_some]
      rw [b5r _ (by simp; omega) _ (by omega), wn m (by omega)]
      rfl
     ·rw [a2f]
      simp only [v7, Nat.add_mul]
      omega)
   (by
     intro g s
     unfold a02
     simp) m 0 (m + 2) [] t3 (by omega) (by omega) ⟨rfl, rfl, by simp [v7]⟩ ht3
  simp only [Int.toNat_natCast]
  rw [e4]
  simp only [Option.bind_some]
  rw [Nat.zero_add] at i1 i3
  have hmb : m * hb h <= 3 * hb h := Nat.mul_le_mul_right _ (by omega)
  unfold a2O a0S
  rw [b5r _ (by simp; omega) _ (by omega)]
  refine ⟨Val.mk 6 0 (⟨#[]⟩) g [] [] [], s1, rfl, hs1, ?_, ?_⟩
  ·rw [b8I, i2]
   simp
   omega
  ·rw [K3]
   simp only [a2a, w4, w9]
   omega
theorem c5A (hL : L.length <= 4194304) : ∀ (h k : Nat), h <= 3 -> 50000 + 3 * h <= k -> ∀ s, OS L s -> ∃ v t, (j8 k).1 s ((h : Int) + 1) = some (v, t) /\ OS L t /\ c0v (hb h) v := by
 intro h
 induction h using Nat.strongRecOn with
 | ind h ih =>
   intro k hh hk s hs
   obtain ⟨k, rfl⟩ : ∃ m, k = m + 2 := ⟨k - 2, by omega⟩
   have key : ∃ v t, (j8 (k + 1)).2.1 s ((h : Int) + 1) = some (v, t) /\ OS L t /\ vOK v = true /\ Y1 v + 8 <= hb h := by
    show ∃ v t, a0v k (j8 k).1 (j8 k).2.1 (j8 k).2.2 s ((h : Int) + 1) = some (v, t) /\ _
    cases h with
    | zero =>
      obtain ⟨v, t, e, ht, h1, h2⟩ := b2p hL hs
      refine ⟨v, t, ?_, ht, h1, by simp only [hb]; omega⟩
      unfold a0v
      have e0 : decide (((0 : Nat) : Int) + 1 <= 1) = true := rfl
      rw [e0, e]
      rfl
    | succ h =>
      have := c2n hL (h := h) (by omega) (rv := (j8 k).1) (re := (j8 k).2.2) (fun s hs => ih h (by omega) k (by omega) (by omega) s hs)
       (fun h1 s hs => by
         obtain ⟨h, rfl⟩ : ∃ m, h = m + 1 := ⟨h - 1, by omega⟩
         obtain ⟨v, t, e, ht, k1, k2⟩ := ih h (by omega) k (by omega) (by omega) s hs
         exact ⟨v, t, e, ht, k1, by simp only [hb]; omega⟩)
       (fun n hn s hs => by
         obtain ⟨p, rfl⟩ : ∃ m, k = m + 1 := ⟨k - 1, by omega⟩
         have hb1 := c1C (show h <= 2 by omega)
         have hb2 := c21 h
         exact c2U hL (rv := (j8 p).1) (b := hb h) (fun s hs => ih h (by omega) p (by omega) (by omega) s hs) (by omega) (by omega) (j8 p).2.1 (j8 p).2.2 p hn hs)
       (j8 k).2.1 (fuel := k) (by omega) hs
      rw [show (((h + 1 : Nat) : Int)) + 1 = (h : Int) + 2 by omega]
      exact this
   obtain ⟨v, t, e, ht, h1, h2⟩ := key
   obtain ⟨l, t2, e2, ht2, l1, l2⟩ := a90 hL ht
   show ∃ v t, a2G (k + 1) (j8 (k + 1)).1 (j8 (k + 1)).2.1 (j8 (k + 1)).2.2 s ((h : Int) + 1) = some (v, t) /\ _
   unfold a2G
   rw [e]
   simp only [Option.bind_some]
   rw [e2]
   have := a5I v l
   exact ⟨a59 v l, t2, rfl, ht2, a8V h1 l1, by omega⟩
end
end Go.Pl
end
section
namespace Go.Pl
open Go Go.RowKit Go.Sx Go.Qx
def b1C {α : Type} (c : α -> α -> Int) (q : α -> Bool) (l : List α) (i : Nat) : Bool :=
 match l[i]? with
 | some x => q x && (match i with
   | 0 => true
   | j + 1 => match l[j]? with
     | some y => decide (c y x < 0)
     | none => true)
 | none => true
theorem b9N {α : Type} (c : α -> α -> Int) (q : α -> Bool) (l : List α) : (List.range l.length).all (b1C c q l) = (asc c l && l.all q) := by
 rw [Bool.eq_iff_iff, Bool.and_eq_true, b5A, List.all_eq_true, List.all_eq_true]
 constructor
 ·intro h
  refine ⟨fun i h1 hi => ?_, fun x hx => ?_⟩
  ·obtain ⟨j, rfl⟩ : ∃ m, i = m + 1 := ⟨i - 1, by omega⟩
   have := h (j + 1) (by simpa using hi)
   unfold b1C at this
   rw [List.getElem?_eq_getElem hi] at this
   simp only [Bool.and_eq_true] at this
   have h2 := this.2
   rw [List.getElem?_eq_getElem (show j < l.length by omega)] at h2
   simpa using h2
  ·obtain ⟨i, hi, rfl⟩ := List.getElem_of_mem hx
   have := h i (by simpa using hi)
   unfold b1C at this
   rw [List.getElem?_eq_getElem hi] at this
   simp only [Bool.and_eq_true] at this
   exact this.1
 ·intro ⟨h1, h2⟩ i hi
  have hi : i < l.length := by simpa using hi
  unfold b1C
  rw [List.getElem?_eq_getElem hi]
  simp only [Bool.and_eq_true]
  refine ⟨h2 _ (List.getElem_mem hi), ?_⟩
  cases i with
  | zero => rfl
  | succ j =>
    simp only
    rw [List.getElem?_eq_getElem (show j < l.length by omega)]
    have := h1 (j + 1) (by omega) hi
    simpa using this
theorem b5H {α β : Type} {step : Int -> Option (Fl Int (Sum Unit β))} (c : α -> α -> Int) (q : α -> Bool) (l : List α) (b : β)
 (hst : ∀ (i : Nat) (x : α), l[i]? = some x -> step (i : Int) = some (if b1C c q l i = true then .next ((i + 1 : Nat) : Int) else .done (.inr b)))
 (hend : step (l.length : Int) = some (.done (.inl ()))) : j5 step (l.length + 1) 0 = some (if (asc c l && l.all q) = true then .inl () else .inr b) := by
 have := a1M (step := step) (List.range l.length) (b1C c q l) (fun i => (i : Int)) () b (fun i x hx => by
  have hi : i < l.length := by have := (List.getElem?_eq_some_iff.1 hx).1; simpa using this
  have e : x = i := by
   rw [List.getElem?_range hi] at hx
   cases hx; rfl
  subst e
  exact hst x _ (List.getElem?_eq_getElem hi)) (by rw [List.length_range]; exact hend)
 rw [List.length_range, b9N] at this
 exact this
theorem b2n {α : Type} (c : α -> α -> Int) (q : α -> Bool) (l : List α) (i : Nat) (x : α) (hx : l[i]? = some x) (hl : l.length <= 4194304) {o : Option (Fl Int (Sum Unit Bool))}
 (h0 : q x = false -> o = some (.done (.inr false)))
 (h1 : q x = true -> i = 0 -> o = some (.next (w64 ((i : Int) + 1))))
 (h2 : q x = true -> ∀ j y, i = j + 1 -> l[j]? = some y -> idx l (w64 ((i : Int) - 1)) = some y -> o = some (if c y x < 0 then .next (w64 ((i : Int) + 1)) else .done (.inr false))) :
 o = some (if b1C c q l i = true then .next ((i + 1 : Nat) : Int) else .done (.inr false)) := by
 have hi : i < l.length := (List.getElem?_eq_some_iff.1 hx).1
 have hw := w6 i (by omega)
 unfold b1C
 rw [hx]
 cases hq : q x
 ·rw [h0 hq]; simp [hq]
 ·cases i with
  | zero => rw [h1 hq rfl, hw]; simp [hq]
  | succ j =>
    have hy := List.getElem?_eq_getElem (show j < l.length by omega)
    have hj : w64 (((j + 1 : Nat) : Int) - 1) = (j : Int) := by rw [K7 (by omega) (by omega)]; omega
    rw [h2 hq j _ rfl hy (by rw [hj]; exact v8 hy), hw]
    simp only [hy]
    by_cases hc : c l[j] x < 0 <;> simp [hq, hc]
theorem c3f (a b : ByteArray) : a1V a b = decide (cS a b < 0) := by
 rcases a7f a b with ⟨h, _, e⟩ | ⟨h, _, e⟩ | ⟨h, _, e⟩ <;> simp [h, e]
theorem b9v (i : Nat) : decide (0 < (((i + 1 : Nat)) : Int)) = true := decide_eq_true (by omega)
theorem c0J (l : List Val) : (bif ((l.length : Int) == 2) then Option.bind (idx l 1) fun x => Option.bind (bif (x.Kind == 5) then some true else Option.bind (idx l 1) fun y => some (y.Kind == 7)) fun q => some q else some false) = some (b4A l) := by
 unfold b4A
 match l with
 | [] => rfl
 | [_] => rfl
 | [x, t] =>
   have e2 : ((([x, t] : List Val).length : Int) == 2) = true := rfl
   rw [e2]
   have : idx [x, t] 1 = some t := rfl
   simp only [cond_true, this, Option.bind_some]
   cases t.Kind == 5 <;> rfl
 | _ :: _ :: _ :: r =>
   rename_i a b c
   have : ((((a :: b :: c :: r : List Val)).length : Int) == 2) = false := by simp; omega
   rw [this]; rfl
theorem c0G (fuel : Nat) (v : Val) (hf : 2 * Y1 v <= fuel + 2) (hb : Y1 v <= 4194304) : a44 fuel v = some (a3h v) := by
 have he := a5G v
 have hs := a7H v.Labels
 have hk := b0L v.Keys
 have hn := a6b v.Entries
 have l1 : j5 (a3r v) (v.Labels.length + 1) 0 = some (if (asc cS v.Labels && v.Labels.all a5z) = true then .inl () else .inr false) := by
  refine b5H cS a5z v.Labels false ?_ ?_
  ·intro i x hx
   have hi : i < v.Labels.length := (List.getElem?_eq_some_iff.1 hx).1
   unfold a3r
   simp only [a0r, Z8]
   rw [if_pos (by simp; omega), v8 hx]
   simp only [Option.bind_some, b7q]
   refine b2n cS a5z v.Labels i x hx (by omega) (fun h => by rw [h]; rfl) (fun h h0 => by subst h0; rw [h]; rfl) (fun h j y hj hy hiy => ?_)
   subst hj
   rw [h, hiy, b9v]
   simp only [Bool.not_true, Bool.false_eq_true, if_false, if_true, Option.bind_some]
   rw [c3f]
   by_cases hc : cS y x < 0 <;> simp [hc]
  ·unfold a3r
   simp
 have l2 : j5 (a3v v) (v.Keys.length + 1) 0 = some (if (asc cK v.Keys && v.Keys.all a0d) = true then .inl () else .inr false) := by
  refine b5H cK a0d v.Keys false ?_ ?_
  ·intro i x hx
   have hi : i < v.Keys.length := (List.getElem?_eq_some_iff.1 hx).1
   unfold a3v
   simp only [a0r, Z8]
   rw [if_pos (by simp; omega), v8 hx]
   simp only [Option.bind_some, b2Y]
   refine b2n cK a0d v.Keys i x hx (by omega) (fun h => by rw [h]; rfl) (fun h h0 => by subst h0; rw [h]; rfl) (fun h j y hj hy hiy => ?_)
   subst hj
   rw [h, hiy, b9v]
   simp only [Bool.not_true, Bool.false_eq_true, if_false, if_true, Option.bind_some, a8P]
   by_cases hc : cK y x < 0
   ·have : ¬ 0 <= cK y x := by omega
    simp [hc, this]
   ·have : 0 <= cK y x := by omega
    simp [hc, this]
  ·unfold a3v
   simp
 have l3 : j5 (a3s v fuel) (v.Entries.length + 1) 0 = some (if (asc cE v.Entries && v.Entries.all (a2Q v.Int_)) = true then .inl () else .inr false) := by
  refine b5H cE (a2Q v.Int_) v.Entries false ?_ ?_
  ·intro i x hx
   have hi : i < v.Entries.length := (List.getElem?_eq_some_iff.1 hx).1
   have hm := a2l (List.mem_of_getElem? hx)
   have hbe := a13 x
   unfold a3s a2M
   simp only [a0r, Z8]
   rw [if_pos (by simp; omega), v8 hx]
   simp only [Option.bind_some]
   rw [show Val.mk 0 0 (⟨#[]⟩ : ByteArray) ([] : List Val) ([] : List Key) ([] : List Ent) ([] : List ByteArray) = a3x from rfl, (a4v fuel).1 x.Result a3x (by omega) (by omega)]
   simp only [Option.bind_some]
   have hq : (Option.bind (if ((x.Args.length : Int) != v.Int_) = true then some true else Option.bind (if x.Fails = true then some (!(cV x.Result a3x == 0)) else some false) fun q => some q) fun q => some q) = some (!(a2Q v.Int_ x)) := by
    unfold a2Q
    have e0 : ((x.Args.length : Int) != v.Int_) = !((x.Args.length : Int) == v.Int_) := rfl
    rw [e0]
    cases ((x.Args.length : Int) == v.Int_) <;> cases x.Fails <;> cases (cV x.Result a3x == 0) <;> rfl
   rw [a4e] at hq
   simp only [a4e] at hq ⊢
   rw [hq]
   simp only [Option.bind_some]
   refine b2n cE (a2Q v.Int_) v.Entries i x hx (by omega) (fun h => by rw [h]; rfl) (fun h h0 => by subst h0; rw [h]; rfl) (fun h j y hj hy hiy => ?_)
   subst hj
   have hmy := a2l (List.mem_of_getElem? hy)
   have hc : Z4 fuel y x = some (cE y x) := (a4v fuel).2.2 y x (by omega) (by omega)
   rw [h, hiy, b9v]
   simp only [Bool.not_true, Bool.false_eq_true, if_false, if_true, Option.bind_some, hc]
   by_cases hc : cE y x < 0
   ·have : ¬ 0 <= cE y x := by omega
    simp [hc, this]
   ·have : 0 <= cE y x := by omega
    simp [hc, this]
  ·unfold a3s
   simp
 unfold a44
 simp only [V6, a4e]
 rw [l1, l2, l3, b1T]
 have hcons := c0J v.Kids
 simp only [a4e] at hcons
 rw [hcons]
 simp only [Option.bind_some, b8z]
 unfold a3h a1m
 cases hlab : (asc cS v.Labels && v.Labels.all a5z)
 ·rfl
 have h6 : decide ((v.Kids.length : Int) <= 4) = decide (v.Kids.length <= 4) := by
  by_cases h : v.Kids.length <= 4
  ·simp [h]; omega
  ·simp [h]; omega
 have hm : b7g v = (decide (v.Keys.length = v.Kids.length) && (asc cK v.Keys && v.Keys.all a0d)) := by
  unfold b7g
  by_cases h : v.Keys.length = v.Kids.length <;> simp [h]
 have hm2 : ((v.Keys.length : Int) == (v.Kids.length : Int)) = decide (v.Keys.length = v.Kids.length) := by
  by_cases h : v.Keys.length = v.Kids.length
  ·simp [h]
  ·simp [h]; omega
 have hfu : b7G v = (!decide (v.Int_ < 0) && !decide (4 < v.Int_) && (asc cE v.Entries && v.Entries.all (a2Q v.Int_))) := by
  unfold b7G
  by_cases h1 : v.Int_ < 0 <;> by_cases h2 : 4 < v.Int_
  ·omega
  ·have : ¬ 0 <= v.Int_ := by omega
   simp [h1, this]
  ·have : ¬ v.Int_ <= 4 := by omega
   simp [h2, this]
  ·have a : 0 <= v.Int_ := by omega
   have b : v.Int_ <= 4 := by omega
   simp [h1, h2, a, b]
 have hi : (v.Int_ != 0) = !(v.Int_ == 0) := rfl
 rw [hm2, hi, h6]
 simp only [w5, if_true]
 unfold a3k a5Z
 rw [hm, hfu]
 generalize (asc cE v.Entries && v.Entries.all (a2Q v.Int_)) = f
 generalize (asc cK v.Keys && v.Keys.all a0d) = k
 generalize decide (v.Keys.length = v.Kids.length) = m
 generalize decide (v.Int_ < 0) = p
 generalize decide (4 < v.Int_) = r
 generalize V3 v.Text ⟨#[]⟩ = t
 generalize v.Keys.isEmpty = y
 generalize v.Entries.isEmpty = e
 generalize v.Kids.isEmpty = d
 generalize (v.Int_ == 0) = i
 generalize a3L v.Text = a
 generalize decide ((v.Text.size : Int) <= 64) = z
 generalize b4A v.Kids = c
 generalize decide (0 <= v.Int_) = g
 generalize decide (v.Kids.length <= 4) = n
 by_cases hk : v.Kind = 1 \/ v.Kind = 2 \/ v.Kind = 3 \/ v.Kind = 4 \/ v.Kind = 5 \/ v.Kind = 6 \/ v.Kind = 7 \/ v.Kind = 8 \/ v.Kind = 9
 ·rcases hk with h | h | h | h | h | h | h | h | h <;> rw [h] <;> cases i <;> cases t <;> cases d <;> cases y <;> cases e <;> simp
  all_goals first
   | rfl
   | (cases k <;> cases m <;> simp)
   | (cases p <;> cases r <;> cases f <;> simp)
 ·simp only [not_or] at hk
  obtain ⟨h1, h2, h3, h4, h5, h6', h7, h8, h9⟩ := hk
  have e1 : (v.Kind == 1) = false := by simpa using h1
  have e2 : (v.Kind == 2) = false := by simpa using h2
  have e3 : (v.Kind == 3) = false := by simpa using h3
  have e4 : (v.Kind == 4) = false := by simpa using h4
  have e5 : (v.Kind == 5) = false := by simpa using h5
  have e6 : (v.Kind == 6) = false := by simpa using h6'
  have e7 : (v.Kind == 7) = false := by simpa using h7
  have e8 : (v.Kind == 8) = false := by simpa using h8
  have e9 : (v.Kind == 9) = false := by simpa using h9
  simp only [bne, e1, e2, e3, e4, e5, e6, e7, e8, e9, if_neg h1, if_neg h2, if_neg h3, if_neg h4, if_neg h5, if_neg h6', if_neg h7, if_neg h8, if_neg h9]
  cases i <;> cases t <;> cases d <;> cases y <;> cases e <;> rfl
theorem b4N : ∀ (k : Nat) (v : Val), 2 * Y1 v <= k -> Y1 v <= 4194304 -> a0b k v = some (vOK v)
 | 0, v, h, _ => by have := b42 v; omega
 | k + 1, v, h, hb => by
   have he := a5G v
   have hv := b0b v.Kids
   have hn := a6b v.Entries
   have hrec : ∀ x, Y1 x < Y1 v -> a0b k x = some (vOK x) := fun x hx => b4N k x (by omega) (by omega)
   show a5v k (a0b k) v = _
   unfold a5v
   rw [c0G k v (by omega) hb, c57, a5H, a8j]
   simp only [Option.bind_some, V6]
   have l1 : j5 (a20 v (a0b k)) (v.Kids.length + 1) 0 = some (if v.Kids.all vOK = true then .inl () else .inr false) := by
    refine a1M v.Kids vOK (fun i => (i : Int)) () false ?_ ?_
    ·intro i x hx
     have hi : i < v.Kids.length := (List.getElem?_eq_some_iff.1 hx).1
     have hm := a4Q (List.mem_of_getElem? hx)
     unfold a20
     simp only [Z8]
     rw [show decide ((i : Int) < (v.Kids.length : Int)) = true by simp; omega, v8 hx]
     simp only [cond_true, Option.bind_some]
     rw [hrec x (by omega), w6 i (by omega)]
     exact b2x _ _
    ·unfold a20
     simp
   have l2 : j5 (a2U v (a0b k)) (v.Entries.length + 1) 0 = some (if v.Entries.all eOK = true then .inl () else .inr false) := by
    refine a1M v.Entries eOK (fun i => (i : Int)) () false ?_ ?_
    ·intro i x hx
     have hi : i < v.Entries.length := (List.getElem?_eq_some_iff.1 hx).1
     have hm := a2l (List.mem_of_getElem? hx)
     have hbe := a13 x
     have hal := b0b x.Args
     unfold a2U
     simp only [Z8, V6]
     rw [show decide ((i : Int) < (v.Entries.length : Int)) = true by simp; omega, v8 hx]
     simp only [cond_true, Option.bind_some]
     have l3 : j5 (a2Z (a0b k) x) (x.Args.length + 1) 0 = some (if x.Args.all vOK = true then .inl () else .inr false) := by
      refine a1M x.Args vOK (fun i => (i : Int)) () false ?_ ?_
      ·intro j y hy
       have hj : j < x.Args.length := (List.getElem?_eq_some_iff.1 hy).1
       have hmy := a4Q (List.mem_of_getElem? hy)
       unfold a2Z
       simp only [Z8]
       rw [show decide ((j : Int) < (x.Args.length : Int)) = true by simp; omega, v8 hy]
       simp only [cond_true, Option.bind_some]
       rw [hrec y (by omega), w6 j (by omega)]
       exact b2x _ _
      ·unfold a2Z
       simp
     rw [l3, hrec x.Result (by omega), c0u, a5H, w6 i (by omega)]
     simp only [Option.bind_some]
     cases x.Args.all vOK <;> cases x.Fails <;> cases vOK x.Result <;> rfl
    ·unfold a2U
     simp
   rw [l1, l2]
   cases a3h v <;> cases v.Kids.all vOK <;> cases v.Entries.all eOK <;> rfl
end Go.Pl
end
section
namespace Go.Pl
open Go Go.RowKit Go.Sx Go.Qx
def inR (N : Nat) (k : Int) : Bool := decide (0 <= k) && decide (k < (N : Int))
def a6g (N : Nat) (l : List Api_Field) : Bool := asc cK (l.map (·.Key_)) && (l.all (fun f => a0d f.Key_) && l.all fun f => inR N f.Node)
def a4c (N : Nat) (x : Api_TypeNode) : Bool :=
 if x.Kind = 3 then x.Kids.isEmpty && decide (x.Lo <= x.Hi) else if x.Kind = 4 then x.Kids.isEmpty && decide ((x.Text.size : Int) <= 64) else
 if x.Kind = 6 then x.Kids.isEmpty && a3L x.Text else if x.Kind = 19 then x.Kids.isEmpty && a5z x.Text else
 if x.Kind = 1 \/ x.Kind = 2 \/ x.Kind = 5 \/ x.Kind = 7 \/ x.Kind = 8 \/ x.Kind = 9 \/ x.Kind = 11 \/ x.Kind = 15 then x.Kids.isEmpty else
 if x.Kind = 10 then decide ((x.Kids.length : Int) <= 4) else if x.Kind = 12 then (x.Kids.length : Int) == 2 else
 if x.Kind = 14 then decide (1 <= (x.Kids.length : Int)) && decide ((x.Kids.length : Int) <= 5) else
 if x.Kind = 16 \/ x.Kind = 17 then decide (1 <= (x.Kids.length : Int)) else if x.Kind = 18 then (x.Kids.length : Int) == 1 else
 if x.Kind = 13 then a6g N x.Fields && (x.Kids.isEmpty && (inR N x.Rest.1 && inR N x.Rest.2)) else false
def a5D (r : Int × Int) : Bool := r.1 == 0 && r.2 == 0
def W7 (N : Nat) (x : Api_TypeNode) : Bool :=
 x.Kids.all (inR N) && ((x.Kind == 3 || (x.Lo == 0 && x.Hi == 0)) && ((x.Kind == 4 || x.Kind == 6 || x.Kind == 19 || V3 x.Text ⟨#[]⟩) && ((x.Kind == 13 || (x.Fields.isEmpty && a5D x.Rest)) && a4c N x)))
theorem c0A {α : Type} (l : List α) : ((l.length : Int) == 0) = l.isEmpty := by cases l <;> simp <;> omega
theorem b94 (r : Int × Int) : b0J r (0, 0) = a5D r := by unfold b0J a5D; simp
theorem b0V (t : Api_Type) (k : Int) : a0e t k = some (inR t.Nodes.length k) := by
 unfold a0e inR
 cases decide (0 <= k) <;> rfl
theorem Q7 {i n : Nat} (h : i < n) : decide ((i : Int) < (n : Int)) = true := decide_eq_true (by omega)
theorem c5I (q : Api_Field -> Bool) (l : List Api_Field) : (List.range l.length).all (b1C (fun a b => cK a.Key_ b.Key_) q l) = (asc cK (l.map (·.Key_)) && l.all q) := by
 rw [b9N]
 congr 1
 rw [Bool.eq_iff_iff, b5A, b5A]
 constructor
 ·intro h i h1 hi
  have := h i h1 (by simpa using hi)
  simpa using this
 ·intro h i h1 hi
  have := h i h1 (by simpa using hi)
  simpa using this
theorem b97 {step : Int -> Option (Fl Int (Sum Unit Bool))} (q : Api_Field -> Bool) (l : List Api_Field)
 (hst : ∀ (i : Nat) (x : Api_Field), l[i]? = some x -> step (i : Int) = some (if b1C (fun a b => cK a.Key_ b.Key_) q l i = true then .next ((i + 1 : Nat) : Int) else .done (.inr false)))
 (hend : step (l.length : Int) = some (.done (.inl ()))) : j5 step (l.length + 1) 0 = some (if (asc cK (l.map (·.Key_)) && l.all q) = true then .inl () else .inr false) := by
 have := b5H (step := step) (fun a b : Api_Field => cK a.Key_ b.Key_) q l false hst hend
 rw [<- b9N, c5I] at this
 exact this
theorem c0l (t : Api_Type) (x : Api_TypeNode) (hk : x.Kids.length <= 4194304) (hf : x.Fields.length <= 4194304) : a4Y t x = some (W7 t.Nodes.length x) := by
 have l1 : j5 (a3u t x) (x.Kids.length + 1) 0 = some (if x.Kids.all (inR t.Nodes.length) = true then .inl () else .inr false) := by
  refine a1M x.Kids (inR t.Nodes.length) (fun i => (i : Int)) () false ?_ ?_
  ·intro i k hx
   have hi : i < x.Kids.length := (List.getElem?_eq_some_iff.1 hx).1
   unfold a3u
   rw [Q7 hi, v8 hx]
   simp only [cond_true, Option.bind_some, b0V, Z8]
   rw [w6 i (by omega)]
   exact b2x _ _
  ·unfold a3u
   simp
 have l2 : j5 (a3w t x) (x.Fields.length + 1) 0 = some (if (asc cK (x.Fields.map (·.Key_)) && x.Fields.all fun f => inR t.Nodes.length f.Node && a0d f.Key_) = true then .inl () else .inr false) := by
  refine b97 (fun f => inR t.Nodes.length f.Node && a0d f.Key_) x.Fields ?_ ?_
  ·intro i f hx
   have hi : i < x.Fields.length := (List.getElem?_eq_some_iff.1 hx).1
   unfold a3w
   rw [Q7 hi, v8 hx]
   simp only [cond_true, Option.bind_some, b0V, b2Y, Z8, a4e]
   have hq : (Option.bind (bif !inR t.Nodes.length f.Node then some true else some (!a0d f.Key_)) fun q => some q) = some (!(inR t.Nodes.length f.Node && a0d f.Key_)) := by
    cases inR t.Nodes.length f.Node <;> cases a0d f.Key_ <;> rfl
   rw [a4e] at hq
   rw [hq]
   simp only [Option.bind_some]
   refine b2n (fun a b : Api_Field => cK a.Key_ b.Key_) (fun f => inR t.Nodes.length f.Node && a0d f.Key_) x.Fields i f hx (by omega) (fun h => by rw [h]; rfl) (fun h h0 => by subst h0; rw [h]; rfl) (fun h j y hj hy hiy => ?_)
   subst hj
   rw [h, hiy, b9v]
   simp only [Bool.not_true, cond_false, cond_true, Option.bind_some, a8P]
   by_cases hc : cK y.Key_ f.Key_ < 0
   ·have : ¬ 0 <= cK y.Key_ f.Key_ := by omega
    simp [hc, this]
   ·have : 0 <= cK y.Key_ f.Key_ := by omega
    simp [hc, this]
  ·unfold a3w
   simp
 unfold a4Y
 simp only [V6, a4e, b0V, b94, b1T, b7q, c0A, b8z]
 rw [l1, l2]
 unfold W7
 cases x.Kids.all (inR t.Nodes.length)
 ·rfl
 simp only [Option.bind_some, if_true, w5]
 have hF : (asc cK (x.Fields.map (·.Key_)) && x.Fields.all fun f => inR t.Nodes.length f.Node && a0d f.Key_) = a6g t.Nodes.length x.Fields := by
  unfold a6g
  congr 1
  rw [Bool.eq_iff_iff, Bool.and_eq_true, List.all_eq_true, List.all_eq_true, List.all_eq_true]
  simp only [Bool.and_eq_true]
  exact ⟨fun h => ⟨fun f hf => (h f hf).2, fun f hf => (h f hf).1⟩, fun h f hf => ⟨h.2 f hf, h.1 f hf⟩⟩
 rw [hF]
 unfold a4c
 simp only [bne]
 generalize a6g t.Nodes.length x.Fields = A
 generalize inR t.Nodes.length x.Rest.1 = B
 generalize inR t.Nodes.length x.Rest.2 = C
 generalize a5D x.Rest = D
 generalize x.Fields.isEmpty = E
 generalize V3 x.Text ⟨#[]⟩ = G
 generalize (x.Lo == 0) = H
 generalize (x.Hi == 0) = J
 generalize x.Kids.isEmpty = M
 generalize a3L x.Text = O
 generalize a5z x.Text = Q
 generalize decide (x.Lo <= x.Hi) = R
 generalize decide ((x.Text.size : Int) <= 64) = T
 generalize decide ((x.Kids.length : Int) <= 4) = U
 generalize ((x.Kids.length : Int) == 2) = V
 generalize ((x.Kids.length : Int) == 1) = W
 generalize decide (1 <= (x.Kids.length : Int)) = X
 generalize decide ((x.Kids.length : Int) <= 5) = Y
 by_cases hk : x.Kind = 1 \/ x.Kind = 2 \/ x.Kind = 3 \/ x.Kind = 4 \/ x.Kind = 5 \/ x.Kind = 6 \/ x.Kind = 7 \/ x.Kind = 8 \/ x.Kind = 9 \/ x.Kind = 10 \/ x.Kind = 11 \/ x.Kind = 12 \/ x.Kind = 13 \/ x.Kind = 14 \/ x.Kind = 15 \/ x.Kind = 16 \/ x.Kind = 17 \/ x.Kind = 18 \/ x.Kind = 19
 ·rcases hk with h | h | h | h | h | h | h | h | h | h | h | h | h | h | h | h | h | h | h <;> rw [h] <;> cases G <;> cases H <;> cases J <;> cases E <;> cases D <;> simp
  all_goals first
   | rfl
   | (cases M <;> rfl)
   | (cases X <;> rfl)
   | (cases A <;> cases M <;> cases B <;> rfl)
 ·simp only [not_or] at hk
  obtain ⟨h1, h2, h3, h4, h5, h6, h7, h8, h9, h10, h11, h12, h13, h14, h15, h16, h17, h18, h19⟩ := hk
  have e : ∀ {n : Int}, ¬ x.Kind = n -> (x.Kind == n) = false := fun h => by simpa using h
  simp only [e h1, e h2, e h3, e h4, e h5, e h6, e h7, e h8, e h9, e h10, e h11, e h12, e h13, e h14, e h15, e h16, e h17, e h18, e h19, if_neg h3, if_neg h4, if_neg h6, if_neg h19, if_neg h10, if_neg h12, if_neg h14, if_neg h18, if_neg h13, h1, h2, h5, h7, h8, h9, h11, h15, h16, h17, or_self, if_false]
  cases G <;> cases H <;> cases J <;> cases E <;> cases D <;> rfl
end Go.Pl
namespace Go.Pl
open Go Go.RowKit Go.Sx Go.Qx
def b4C (x : Api_TypeNode) : Bool :=
 (x.Kind == 3 || (x.Lo == 0 && x.Hi == 0)) && ((x.Kind == 4 || x.Kind == 6 || x.Kind == 19 || V3 x.Text ⟨#[]⟩) &&
   ((x.Kind == 10 || x.Kind == 12 || x.Kind == 14 || x.Kind == 16 || x.Kind == 17 || x.Kind == 18 || x.Kids.isEmpty) && (x.Kind == 13 || (x.Fields.isEmpty && a5D x.Rest))))
def b7a (l : List Api_Field) : Bool := asc cK (l.map (·.Key_)) && l.all fun f => a0d f.Key_
def b4u (x : Api_TypeNode) : Bool :=
 if x.Kind = 3 then decide (x.Lo <= x.Hi) else if x.Kind = 4 then decide ((x.Text.size : Int) <= 64) else
 if x.Kind = 6 then a3L x.Text else if x.Kind = 19 then a5z x.Text else
 if x.Kind = 1 \/ x.Kind = 2 \/ x.Kind = 5 \/ x.Kind = 7 \/ x.Kind = 8 \/ x.Kind = 9 \/ x.Kind = 11 \/ x.Kind = 15 then true else
 if x.Kind = 10 then decide ((x.Kids.length : Int) <= 4) else if x.Kind = 12 then (x.Kids.length : Int) == 2 else
 if x.Kind = 14 then decide (1 <= (x.Kids.length : Int)) && decide ((x.Kids.length : Int) <= 5) else
 if x.Kind = 16 \/ x.Kind = 17 then decide (1 <= (x.Kids.length : Int)) else if x.Kind = 18 then (x.Kids.length : Int) == 1 else
 if x.Kind = 13 then b7a x.Fields else false
def a5c (x : Api_TypeNode) : List Int := x.Kids ++ x.Fields.map (·.Node) ++ (if x.Kind = 13 then [x.Rest.1, x.Rest.2] else [])
theorem a97 (k : Int) : (k = 1 \/ k = 2 \/ k = 3 \/ k = 4 \/ k = 5 \/ k = 6 \/ k = 7 \/ k = 8 \/ k = 9 \/ k = 10 \/ k = 11 \/ k = 12 \/ k = 13 \/ k = 14 \/ k = 15 \/ k = 16 \/ k = 17 \/ k = 18 \/ k = 19) \/ ∀ n : Int, 1 <= n -> n <= 19 -> (k == n) = false := by
 by_cases h : 1 <= k /\ k <= 19
 ·left; omega
 ·right
  intro n h1 h2
  have : k ≠ n := by omega
  simpa using this
theorem c4x (x : Api_TypeNode) : a3N x = some (b4C x) := by
 unfold a3N b4C
 simp only [a4e, b94, c0A]
 generalize a5D x.Rest = D
 generalize x.Fields.isEmpty = E
 generalize V3 x.Text ⟨#[]⟩ = G
 generalize (x.Lo == 0) = H
 generalize (x.Hi == 0) = J
 generalize x.Kids.isEmpty = M
 rcases a97 x.Kind with h | h
 ·rcases h with h | h | h | h | h | h | h | h | h | h | h | h | h | h | h | h | h | h | h <;> rw [h] <;> cases G <;> cases H <;> cases J <;> cases E <;> cases D <;> cases M <;> rfl
 ·simp only [h 3 (by omega) (by omega), h 4 (by omega) (by omega), h 6 (by omega) (by omega), h 19 (by omega) (by omega), h 10 (by omega) (by omega), h 12 (by omega) (by omega), h 14 (by omega) (by omega), h 16 (by omega) (by omega), h 17 (by omega) (by omega), h 18 (by omega) (by omega), h 13 (by omega) (by omega)]
  cases G <;> cases H <;> cases J <;> cases E <;> cases D <;> cases M <;> rfl
theorem c2v (l : List Api_Field) (hl : l.length <= 4194304) : a2S l = some (b7a l) := by
 have l2 : j5 (a1W l) (l.length + 1) 0 = some (if (asc cK (l.map (·.Key_)) && l.all fun f => a0d f.Key_) = true then .inl () else .inr false) := by
  refine b97 (fun f => a0d f.Key_) l ?_ ?_
  ·intro i f hx
   have hi : i < l.length := (List.getElem?_eq_some_iff.1 hx).1
   unfold a1W
   rw [Q7 hi, v8 hx]
   simp only [cond_true, Option.bind_some, c6T, Z8, a4e]
   refine b2n (fun a b : Api_Field => cK a.Key_ b.Key_) (fun f => a0d f.Key_) l i f hx (by omega) (fun h => by rw [h]; rfl) (fun h h0 => by subst h0; rw [h]; rfl) (fun h j y hj hy hiy => ?_)
   subst hj
   rw [h, hiy, b9v]
   simp only [Bool.not_true, cond_false, cond_true, Option.bind_some, c0K]
   by_cases hc : cK y.Key_ f.Key_ < 0
   ·have : ¬ 0 <= cK y.Key_ f.Key_ := by omega
    simp [hc, this]
   ·have : 0 <= cK y.Key_ f.Key_ := by omega
    simp [hc, this]
  ·unfold a1W
   simp
 unfold a2S b7a
 rw [V6, l2]
 cases (asc cK (l.map (·.Key_)) && l.all fun f => a0d f.Key_) <;> rfl
theorem c37 (x : Api_TypeNode) (hf : x.Fields.length <= 4194304) : a3T x = some (b4u x) := by
 unfold a3T b4u
 simp only [a4e, c04, c59, c2v x.Fields hf]
 generalize b7a x.Fields = A
 generalize a3L x.Text = O
 generalize a5z x.Text = Q
 generalize decide (x.Lo <= x.Hi) = R
 generalize decide ((x.Text.size : Int) <= 64) = T
 generalize decide ((x.Kids.length : Int) <= 4) = U
 generalize ((x.Kids.length : Int) == 2) = V
 generalize ((x.Kids.length : Int) == 1) = W
 generalize decide (1 <= (x.Kids.length : Int)) = X
 generalize decide ((x.Kids.length : Int) <= 5) = Y
 rcases a97 x.Kind with h | h
 ·rcases h with h | h | h | h | h | h | h | h | h | h | h | h | h | h | h | h | h | h | h <;> rw [h] <;> first | rfl | (cases X <;> rfl)
 ·have e : ∀ n : Int, 1 <= n -> n <= 19 -> ¬ x.Kind = n := fun n h1 h2 => by simpa using h n h1 h2
  simp only [h 1 (by omega) (by omega), h 2 (by omega) (by omega), h 5 (by omega) (by omega), h 7 (by omega) (by omega), h 8 (by omega) (by omega), h 9 (by omega) (by omega), h 11 (by omega) (by omega), h 15 (by omega) (by omega), h 3 (by omega) (by omega), h 4 (by omega) (by omega), h 6 (by omega) (by omega), h 19 (by omega) (by omega), h 10 (by omega) (by omega), h 12 (by omega) (by omega), h 14 (by omega) (by omega), h 16 (by omega) (by omega), h 17 (by omega) (by omega), h 18 (by omega) (by omega), h 13 (by omega) (by omega),
   e 1 (by omega) (by omega), e 2 (by omega) (by omega), e 5 (by omega) (by omega), e 7 (by omega) (by omega), e 8 (by omega) (by omega), e 9 (by omega) (by omega), e 11 (by omega) (by omega), e 15 (by omega) (by omega), e 3 (by omega) (by omega), e 4 (by omega) (by omega), e 6 (by omega) (by omega), e 19 (by omega) (by omega), e 10 (by omega) (by omega), e 12 (by omega) (by omega), e 14 (by omega) (by omega), e 16 (by omega) (by omega), e 17 (by omega) (by omega), e 18 (by omega) (by omega), e 13 (by omega) (by omega), or_self, if_false]
  rfl
theorem c05 {α β : Type} (f : α -> β) : ∀ (l : List α) (s : List β), l.foldl (fun s x => s ++ [f x]) s = s ++ l.map f
 | [], s => by simp
 | x :: r, s => by rw [List.foldl_cons, c05 f r]; simp
theorem c4s (x : Api_TypeNode) (hk : x.Kids.length <= 1100000) (hf : x.Fields.length <= 1100000) : a57 x = some (a5c x) := by
 unfold a57 a2m a5c
 rw [Z7 (by omega)]
 simp only [Option.bind_some, V6]
 have key := b43 (σ := List Int) (step := a1P x) x.Fields (fun s i => (s, (i : Int))) (fun s f => s ++ [f.Node]) (fun i s => s.length <= x.Kids.length + i) (fun s => s)
  ?_ ?_ x.Kids (by simp) _ (Nat.le_refl _)
 ·have e : j5 (a1P x) (x.Fields.length + 1) (x.Kids, 0) = j5 (a1P x) (x.Fields.length + 1) (x.Kids, ((0 : Nat) : Int)) := rfl
  rw [e, key, c05]
  simp only [Option.bind_some]
  by_cases h : x.Kind = 13
  ·rw [show (x.Kind == 13) = true by simpa using h, if_pos h, Z7 (by simp only [List.length_append, List.length_map, List.length_cons, List.length_nil]; omega)]
   rfl
  ·rw [show (x.Kind == 13) = false by simpa using h, if_neg h, List.append_nil]
   rfl
 ·intro i s f hx hI
  have hi : i < x.Fields.length := (List.getElem?_eq_some_iff.1 hx).1
  refine ⟨?_, by simp only [List.length_append, List.length_cons, List.length_nil]; omega⟩
  unfold a1P
  simp only [Z8]
  rw [Q7 hi, v8 hx]
  simp only [cond_true, Option.bind_some]
  rw [Z7 (by simp only [List.length_cons, List.length_nil]; omega), w6 i (by omega)]
  rfl
 ·intro s _
  unfold a1P
  simp
theorem c2F (N : Nat) (x : Api_TypeNode) : (b4C x && (b4u x && (a5c x).all (inR N))) = W7 N x := by
 unfold b4C b4u W7 a4c a5c a6g b7a
 simp only [List.all_append, List.all_map]
 have hE : x.Fields.isEmpty = true -> x.Fields = [] := List.isEmpty_iff.1
 have hM : x.Kids.isEmpty = true -> x.Kids = [] := List.isEmpty_iff.1
 rcases a97 x.Kind with h | h
 ·have hK : x.Kids.isEmpty = true -> x.Kids.all (inR N) = true := fun e => by rw [hM e]; rfl
  have hF : x.Fields.isEmpty = true -> (x.Fields.all (inR N ∘ fun f => f.Node)) = true := fun e => by rw [hE e]; rfl
  have hcomp : (x.Fields.all fun f => inR N f.Node) = x.Fields.all (inR N ∘ fun f => f.Node) := rfl
  rw [hcomp]
  generalize x.Fields.all (inR N ∘ fun f => f.Node) = a1 at hF
  generalize x.Kids.all (inR N) = a2 at hK
  generalize x.Fields.isEmpty = E at hF
  generalize x.Kids.isEmpty = M at hK
  generalize a5D x.Rest = D
  generalize V3 x.Text ⟨#[]⟩ = G
  generalize (x.Lo == 0) = H
  generalize (x.Hi == 0) = J
  rcases h with h | h | h | h | h | h | h | h | h | h | h | h | h | h | h | h | h | h | h <;> rw [h] <;> simp <;>
   cases G <;> cases H <;> cases J <;> cases E <;> cases D <;> cases M <;> simp_all
  all_goals first
   | (simp only [Bool.and_assoc]; done)
   | (cases a2 <;> simp; done)
 ·have e : ∀ n : Int, 1 <= n -> n <= 19 -> ¬ x.Kind = n := fun n h1 h2 => by simpa using h n h1 h2
  simp only [e 1 (by omega) (by omega), e 2 (by omega) (by omega), e 5 (by omega) (by omega), e 7 (by omega) (by omega), e 8 (by omega) (by omega), e 9 (by omega) (by omega), e 11 (by omega) (by omega), e 15 (by omega) (by omega), e 3 (by omega) (by omega), e 4 (by omega) (by omega), e 6 (by omega) (by omega), e 19 (by omega) (by omega), e 10 (by omega) (by omega), e 12 (by omega) (by omega), e 14 (by omega) (by omega), e 16 (by omega) (by omega), e 17 (by omega) (by omega), e 18 (by omega) (by omega), e 13 (by omega) (by omega), or_self, if_false]
  simp
end Go.Pl
namespace Go.Pl
open Go Go.RowKit Go.Sx Go.Qx
def isB (x : Api_TypeNode) : Bool := x.Kind == 16 || x.Kind == 17 || x.Kind == 18
def c6W (ns : List Api_TypeNode) : Prop := ∀ (i : Nat) (x : Api_TypeNode), ns[i]? = some x -> isB x = true -> ∀ k ∈ x.Kids, (i : Int) < k
def a5V (ns : List Api_TypeNode) : Bool := ns.all (W7 ns.length)
theorem c6S (x : Api_TypeNode) : a3S x.Kind = some (isB x) := by
 unfold a3S isB
 cases (x.Kind == 16) <;> cases (x.Kind == 17) <;> rfl
theorem b7Z (x : Api_TypeNode) : a3y x = some (isB x) := by
 unfold a3y isB
 cases (x.Kind == 16) <;> cases (x.Kind == 17) <;> rfl
theorem a2R {N : Nat} {x : Api_TypeNode} (h : W7 N x = true) : ∀ k ∈ x.Kids, inR N k = true := by
 unfold W7 at h
 simp only [Bool.and_eq_true] at h
 exact List.all_eq_true.1 h.1
theorem a25 {N : Nat} {k : Int} (h : inR N k = true) : ∃ j : Nat, k = (j : Int) /\ j < N := by
 unfold inR at h
 simp only [Bool.and_eq_true, decide_eq_true_eq] at h
 exact ⟨k.toNat, by omega, by omega⟩
def Rk (ns : List Api_TypeNode) (r : Nat -> Nat) : Prop := ∀ (i : Nat) (x : Api_TypeNode), ns[i]? = some x -> isB x = true -> ∀ k ∈ x.Kids, r k.toNat < r i
def Acy (ns : List Api_TypeNode) : Prop := ∃ r, Rk ns r
open Classical in
noncomputable def a4x (ns : List Api_TypeNode) : Bool := decide (Acy ns)
theorem b0C {ns : List Api_TypeNode} : a4x ns = true ↔ Acy ns := by
 unfold a4x
 classical exact decide_eq_true_iff
theorem c6W.acy {ns : List Api_TypeNode} (h : c6W ns) (hT : a5V ns = true) : a4x ns = true :=
 b0C.2 ⟨fun i => ns.length - i, fun i x hx hb k hk => by
  obtain ⟨j, rfl, hj⟩ := a25 (a2R (List.all_eq_true.1 hT x (List.mem_of_getElem? hx)) k hk)
  have := h i x hx hb _ hk
  show ns.length - ((j : Int)).toNat < ns.length - i
  rw [Int.toNat_natCast]
  omega⟩
def Gd (ns : List Api_TypeNode) (D : Nat -> Prop) : Prop := ∃ r : Nat -> Nat, ∀ (i : Nat) (x : Api_TypeNode), D i -> ns[i]? = some x -> isB x = true -> ∀ k ∈ x.Kids, D k.toNat /\ r k.toNat < r i
theorem c06 (r : Nat -> Nat) : ∀ (l : List Int) (k : Int), k ∈ l -> r k.toNat <= (l.map fun k => r k.toNat).sum
 | [], _, h => by cases h
 | y :: l, k, h => by
   rw [List.map_cons, List.sum_cons]
   rcases List.mem_cons.1 h with rfl | h
   ·omega
   ·have := c06 r l k h; omega
theorem Gd.add {ns : List Api_TypeNode} {D D' : Nat -> Prop} (h : Gd ns D) {i : Nat} {x : Api_TypeNode} (hx : ns[i]? = some x) (hk : isB x = true -> ∀ k ∈ x.Kids, D k.toNat) (hD : ∀ j, D' j ↔ D j \/ j = i) : Gd ns D' := by
 obtain ⟨r, hr⟩ := h
 by_cases hi : D i
 ·have e : ∀ j, D' j ↔ D j := fun j => (hD j).trans ⟨fun h => h.elim id (fun h => by rw [h]; exact hi), .inl⟩
  exact ⟨r, fun j y h1 h2 h3 k h4 => by
   obtain ⟨k1, k2⟩ := hr j y ((e j).1 h1) h2 h3 k h4
   exact ⟨(e _).2 k1, k2⟩⟩
 ·refine ⟨fun j => if j = i then 1 + (x.Kids.map fun k => r k.toNat).sum else r j, fun j y h1 h2 h3 k h4 => ?_⟩
  by_cases hj : j = i
  ·subst hj
   rw [hx] at h2
   cases h2
   have hDk := hk h3 k h4
   have hne : k.toNat ≠ j := fun e => hi (e ▸ hDk)
   refine ⟨(hD _).2 (.inl hDk), ?_⟩
   simp only [if_neg hne, if_true]
   have := c06 r x.Kids k h4
   omega
  ·obtain ⟨k1, k2⟩ := hr j y (((hD j).1 h1).resolve_right hj) h2 h3 k h4
   have hne : k.toNat ≠ i := fun e => hi (e ▸ k1)
   refine ⟨(hD _).2 (.inl k1), ?_⟩
   simp only [if_neg hne, if_neg hj]
   exact k2
theorem Gd.acy {ns : List Api_TypeNode} {D : Nat -> Prop} (h : Gd ns D) (hD : ∀ j, j < ns.length -> D j) : Acy ns := by
 obtain ⟨r, hr⟩ := h
 exact ⟨r, fun i x hx hb k hk => (hr i x (hD i (List.getElem?_eq_some_iff.1 hx).1) hx hb k hk).2⟩
theorem Acy.small {ns : List Api_TypeNode} (h : Acy ns) (hT : a5V ns = true) : ∃ r, Rk ns r /\ ∀ i, i < ns.length -> r i < ns.length := by
 obtain ⟨r, hr⟩ := h
 have mono : ∀ (l : List Nat) (a b : Nat), a <= b -> (l.countP fun j => decide (j < a)) <= l.countP fun j => decide (j < b) := fun l a b hab =>
  List.countP_mono_left fun x _ hx => by simp at hx ⊢; omega
 have strict : ∀ (l : List Nat) (a b : Nat), a < b -> a ∈ l -> (l.countP fun j => decide (j < a)) < l.countP fun j => decide (j < b) := by
  intro l
  induction l with
  | nil => intro a b _ h; cases h
  | cons y l ih =>
    intro a b hab hm
    rw [List.countP_cons, List.countP_cons]
    rcases List.mem_cons.1 hm with rfl | hm
    ·have := mono l a b (by omega)
     simp only [Nat.lt_irrefl, decide_false, hab, decide_true, if_true]
     simp
     omega
    ·have h1 := ih a b hab hm
     by_cases h2 : y < a
     ·simp only [h2, show y < b by omega, decide_true, if_true]; omega
     ·simp only [h2, decide_false]
      by_cases h3 : y < b <;> simp [h3] <;> omega
 have hlt : ∀ (l : List Nat) (a : Nat), a ∈ l -> (l.countP fun j => decide (j < a)) < l.length := fun l a hm => by
  have h1 := strict l a (a + 1) (by omega) hm
  have h2 : (l.countP fun j => decide (j < a + 1)) <= l.length := List.countP_le_length
  omega
 refine ⟨fun i => ((List.range ns.length).map r).countP fun j => decide (j < r i), fun i x hx hb k hk => ?_, fun i hi => ?_⟩
 ·obtain ⟨j, rfl, hj⟩ := a25 (a2R (List.all_eq_true.1 hT x (List.mem_of_getElem? hx)) k hk)
  exact strict _ _ _ (hr i x hx hb _ hk) (List.mem_map.2 ⟨j, by simpa using hj, by simp⟩)
 ·have := hlt ((List.range ns.length).map r) (r i) (List.mem_map.2 ⟨i, by simpa using hi, rfl⟩)
  simpa using this
def DF (ns : List Api_TypeNode) (st : List Int) (j : Nat) : Prop := st[j]? = some 2 \/ ∃ x, ns[j]? = some x /\ isB x = false
theorem c1g : ∀ (l : List Int) (i : Nat), l[i]? = some 0 -> (l.set i 1).count 0 + 1 = l.count 0
 | [], i, h => by simp at h
 | x :: l, 0, h => by
   have : x = 0 := by simpa using h
   subst this
   simp
 | x :: l, i + 1, h => by
   have := c1g l i (by simpa using h)
   rw [List.set_cons_succ, List.count_cons, List.count_cons]
   omega
theorem c2M : ∀ (l : List Int) (i : Nat), (l.set i 2).count 0 <= l.count 0
 | [], i => by simp
 | x :: l, 0 => by
   rw [List.set_cons_zero, List.count_cons, List.count_cons]
   simp
 | x :: l, i + 1 => by
   have := c2M l i
   rw [List.set_cons_succ, List.count_cons, List.count_cons]
   omega
structure DfsR (ns : List Api_TypeNode) (st st' : List Int) : Prop where
 len : st'.length = ns.length
 val : ∀ (j : Nat) e, st'[j]? = some e -> e = 0 \/ e = 1 \/ e = 2
 gd : Gd ns (DF ns st')
 opn : ∀ j : Nat, st'[j]? = some 1 ↔ st[j]? = some 1
 don : ∀ j : Nat, st[j]? = some 2 -> st'[j]? = some 2
 zer : st'.count 0 <= st.count 0
theorem c6D (t : Api_Type) (hT : a5V t.Nodes = true) (hk : ∀ x ∈ t.Nodes, x.Kids.length <= 1100000) :
 ∀ (fuel i : Nat) (st : List Int), st.count 0 < fuel -> i < t.Nodes.length -> DfsR t.Nodes st st ->
  ∃ b st', Y8 fuel (i : Int) st t () = some (b, st') /\ (b = true -> DfsR t.Nodes st st' /\ DF t.Nodes st' i) /\ (b = false -> ∀ r, Rk t.Nodes r -> (∀ o : Nat, st[o]? = some 1 -> r i < r o) -> False) := by
 intro fuel
 induction fuel with
 | zero => intro i st h1; omega
 | succ f ih =>
   intro i st h1 h2 hS
   show ∃ b st', a3n f (Y8 f) (i : Int) st t () = some (b, st') /\ _
   have h3 := hS.len
   have hi : i < st.length := by omega
   have hst := List.getElem?_eq_getElem hi
   have hn := List.getElem?_eq_getElem h2
   generalize st[i] = e at hst
   generalize hx : t.Nodes[i] = x at hn
   have hxm : x ∈ t.Nodes := List.mem_of_getElem? hn
   unfold a3n
   simp only [v8 hst, v8 hn, Int.toNat_natCast, hst, Option.bind_some, c6S, V6, Z8]
   by_cases hq : e = 0 /\ isB x = true
   ·obtain ⟨he, hb⟩ := hq
    subst he
    rw [hb]
    simp only [bne_self_eq_false, cond_false, Bool.not_true, Option.bind_some]
    have hke := hk x hxm
    have hz := c1g st i hst
    have hset : ∀ j : Nat, (st.set i 1)[j]? = some 1 ↔ st[j]? = some 1 \/ j = i := fun j => by
     by_cases e : i = j
     ·subst e; rw [List.getElem?_set_self hi]; simp
     ·rw [List.getElem?_set_ne e]; exact ⟨.inl, fun h => h.resolve_right (Ne.symm e)⟩
    have hset2 : ∀ j : Nat, (st.set i 1)[j]? = some 2 ↔ st[j]? = some 2 := fun j => by
     by_cases e : i = j
     ·subst e; rw [List.getElem?_set_self hi, hst]; simp
     ·rw [List.getElem?_set_ne e]
    have hS1 : DfsR t.Nodes (st.set i 1) (st.set i 1) := by
     refine ⟨by simpa using h3, fun j e hj => ?_, ?_, fun _ => Iff.rfl, fun _ h => h, Nat.le_refl _⟩
     ·by_cases e1 : i = j
      ·subst e1; rw [List.getElem?_set_self hi] at hj; simp at hj; omega
      ·rw [List.getElem?_set_ne e1] at hj; exact hS.val j e hj
     ·have e : ∀ j, DF t.Nodes (st.set i 1) j ↔ DF t.Nodes st j := fun j => or_congr (hset2 j) Iff.rfl
      obtain ⟨r, hr⟩ := hS.gd
      exact ⟨r, fun j y a1 a2 a3 k a4 => by
       obtain ⟨k1, k2⟩ := hr j y ((e j).1 a1) a2 a3 k a4
       exact ⟨(e _).2 k1, k2⟩⟩
    have key : ∀ (m a k : Nat) (s : List Int), a + m = x.Kids.length -> m + 1 <= k -> DfsR t.Nodes (st.set i 1) s -> (∀ (q : Nat) (y : Int), q < a -> x.Kids[q]? = some y -> DF t.Nodes s y.toNat) ->
     (∃ s', j5 (Y3 t x (Y8 f)) k ((a : Int), s) = some (.inl s') /\ DfsR t.Nodes (st.set i 1) s' /\ ∀ y ∈ x.Kids, DF t.Nodes s' y.toNat) \/
     ∃ s', j5 (Y3 t x (Y8 f)) k ((a : Int), s) = some (.inr (false, s')) /\ ∀ r, Rk t.Nodes r -> (∀ o : Nat, st[o]? = some 1 -> r i < r o) -> False := by
     intro m
     induction m with
     | zero =>
       intro a k s b1 b2 b3 b4
       obtain ⟨k, rfl⟩ : ∃ m, k = m + 1 := ⟨k - 1, by omega⟩
       have e : a = x.Kids.length := by omega
       subst e
       have : Y3 t x (Y8 f) ((x.Kids.length : Int), s) = some (.done (.inl s)) := by
        unfold Y3
        simp
       exact .inl ⟨s, by simp only [j5, this, Option.bind_some], b3, fun y hy => by
        obtain ⟨q, hq, e⟩ := List.getElem_of_mem hy
        exact b4 q y hq (by rw [List.getElem?_eq_getElem hq, e])⟩
     | succ m ihm =>
       intro a k s b1 b2 b3 b4
       obtain ⟨k, rfl⟩ : ∃ m, k = m + 1 := ⟨k - 1, by omega⟩
       have ha : a < x.Kids.length := by omega
       have hka := List.getElem?_eq_getElem ha
       have hkm := List.getElem_mem ha
       obtain ⟨j, hj1, hj3⟩ := a25 (a2R (List.all_eq_true.1 hT x hxm) _ hkm)
       obtain ⟨b, s', c1, c2, c3⟩ := ih j s (by have := b3.zer; omega) hj3 ⟨b3.len, b3.val, b3.gd, fun _ => Iff.rfl, fun _ h => h, Nat.le_refl _⟩
       cases b with
       | true =>
         obtain ⟨c4, c5⟩ := c2 rfl
         have : Y3 t x (Y8 f) ((a : Int), s) = some (.next (((a + 1 : Nat) : Int), s')) := by
          unfold Y3
          rw [Q7 ha, v8 hka, hj1]
          simp only [cond_true, Option.bind_some, Z8]
          rw [c1, w6 a (by omega)]
          rfl
         simp only [j5, this, Option.bind_some]
         refine ihm (a + 1) k s' (by omega) (by omega) ⟨c4.len, c4.val, c4.gd, fun q => (c4.opn q).trans (b3.opn q), fun q hq => c4.don q (b3.don q hq), Nat.le_trans c4.zer b3.zer⟩ (fun q y hq hy => ?_)
         by_cases hqa : q = a
         ·subst hqa
          rw [hka] at hy
          cases hy
          rw [hj1, Int.toNat_natCast]
          exact c5
         ·exact (b4 q y (by omega) hy).imp (fun h => c4.don _ h) id
       | false =>
         have : Y3 t x (Y8 f) ((a : Int), s) = some (.done (.inr (false, s'))) := by
          unfold Y3
          rw [Q7 ha, v8 hka, hj1]
          simp only [cond_true, Option.bind_some, Z8]
          rw [c1]
          rfl
         refine .inr ⟨s', by simp only [j5, this, Option.bind_some], fun r hr ho => c3 rfl r hr fun o hopn => ?_⟩
         have hrk : r j < r i := by
          have := hr i x hn hb _ hkm
          rwa [hj1, Int.toNat_natCast] at this
         rcases (hset o).1 ((b3.opn o).1 hopn) with h | rfl
         ·exact Nat.lt_trans hrk (ho o h)
         ·exact hrk
    have e0 : j5 (Y3 t x (Y8 f)) (x.Kids.length + 1) (0, st.set i 1) = j5 (Y3 t x (Y8 f)) (x.Kids.length + 1) (((0 : Nat) : Int), st.set i 1) := rfl
    rw [e0]
    rcases key x.Kids.length 0 (x.Kids.length + 1) (st.set i 1) (by omega) (Nat.le_refl _) hS1 (fun q y hq => by omega) with ⟨s', c1, c2, c3⟩ | ⟨s', c1, c2⟩
    ·rw [c1]
     have hi' : i < s'.length := by rw [c2.len]; exact h2
     have hs' := List.getElem?_eq_getElem hi'
     have hs1 : s'[i]? = some 1 := (c2.opn i).2 ((hset i).2 (.inr rfl))
     simp only [Option.bind_some, w5, v8 hs', hs']
     refine ⟨true, s'.set i 2, rfl, fun _ => ⟨⟨by simpa using c2.len, fun j e hj => ?_, ?_, fun j => ?_, fun j hj => ?_, ?_⟩, .inl (List.getElem?_set_self hi')⟩, fun h => by cases h⟩
     ·by_cases e1 : i = j
      ·subst e1; rw [List.getElem?_set_self hi'] at hj; simp at hj; omega
      ·rw [List.getElem?_set_ne e1] at hj; exact c2.val j e hj
     ·refine Gd.add c2.gd hn (fun _ => c3) fun j => ?_
      unfold DF
      by_cases e1 : i = j
      ·subst e1; rw [List.getElem?_set_self hi']; simp
      ·rw [List.getElem?_set_ne e1]; exact ⟨.inl, fun h => h.resolve_right (Ne.symm e1)⟩
     ·by_cases e1 : i = j
      ·subst e1; rw [List.getElem?_set_self hi', hst]; simp
      ·rw [List.getElem?_set_ne e1]
       exact (c2.opn j).trans ((hset j).trans ⟨fun h => h.resolve_right (Ne.symm e1), .inl⟩)
     ·have h2' := c2.don j ((hset2 j).2 hj)
      by_cases e1 : i = j
      ·subst e1; rw [List.getElem?_set_self hi']
      ·rw [List.getElem?_set_ne e1]; exact h2'
     ·have a1 := c2M s' i
      have a2 := c2.zer
      omega
    ·rw [c1]
     exact ⟨false, s', rfl, (fun h => by cases h), fun _ => c2⟩
   ·by_cases he1 : e = 1
    ·subst he1
     exact ⟨false, st, by cases isB x <;> rfl, (fun h => by cases h), fun _ r _ ho => Nat.lt_irrefl _ (ho i hst)⟩
    ·refine ⟨true, st, ?_, fun _ => ⟨hS, ?_⟩, fun h => by cases h⟩
     ·by_cases he : e = 0
      ·subst he
       have hb : isB x = false := by
        cases hb : isB x with
        | true => exact absurd ⟨rfl, hb⟩ hq
        | false => rfl
       rw [hb]
       rfl
      ·have e2 : (e != 0) = true := by simpa using he
       have e3 : (e != 1) = true := by simpa using he1
       rw [e2, e3]
       rfl
     ·rcases hS.val i e hst with rfl | rfl | rfl
      ·right
       refine ⟨x, hn, ?_⟩
       cases hb : isB x with
       | true => exact absurd ⟨rfl, hb⟩ hq
       | false => rfl
      ·exact absurd rfl he1
      ·exact .inl hst
theorem c31 (t : Api_Type) (hT : a5V t.Nodes = true) (hk : ∀ x ∈ t.Nodes, x.Kids.length <= 1100000) (hN : t.Nodes.length <= 1100000) (fuel : Nat) (hf : t.Nodes.length + 1 <= fuel) : a21 fuel t = some (a4x t.Nodes) := by
 unfold a21 a6y
 have e0 : (decide (0 <= (t.Nodes.length : Int)) && decide ((t.Nodes.length : Int) <= (t.Nodes.length : Int)) && decide ((t.Nodes.length : Int) * ((8 : Nat) : Int) <= 140737488355328)) = true := by
  simp; omega
 rw [e0]
 simp only [cond_true, Option.bind_some, V6]
 have key : ∀ (m a k : Nat) (s : List Int), a + m = t.Nodes.length -> m + 1 <= k -> DfsR t.Nodes s s -> (∀ j : Nat, s[j]? ≠ some 1) -> (∀ j, j < a -> DF t.Nodes s j) ->
  (∃ s', j5 (Q2 t fuel) k ((a : Int), s) = some (.inl s') /\ a4x t.Nodes = true) \/ ∃ s', j5 (Q2 t fuel) k ((a : Int), s) = some (.inr (false, s')) /\ a4x t.Nodes = false := by
  intro m
  induction m with
  | zero =>
    intro a k s b1 b2 b3 b4 b5
    obtain ⟨k, rfl⟩ : ∃ m, k = m + 1 := ⟨k - 1, by omega⟩
    have e : a = t.Nodes.length := by omega
    subst e
    have : Q2 t fuel ((t.Nodes.length : Int), s) = some (.done (.inl s)) := by
     unfold Q2
     simp
    exact .inl ⟨s, by simp only [j5, this, Option.bind_some], b0C.2 (b3.gd.acy b5)⟩
  | succ m ih =>
    intro a k s b1 b2 b3 b4 b5
    obtain ⟨k, rfl⟩ : ∃ m, k = m + 1 := ⟨k - 1, by omega⟩
    have hz : s.count 0 <= t.Nodes.length := by rw [<- b3.len]; exact List.count_le_length
    obtain ⟨b, s', c1, c2, c3⟩ := c6D t hT hk fuel a s (by omega) (by omega) b3
    cases b with
    | true =>
      obtain ⟨c4, c5⟩ := c2 rfl
      have : Q2 t fuel ((a : Int), s) = some (.next (((a + 1 : Nat) : Int), s')) := by
       unfold Q2
       rw [Q7 (show a < t.Nodes.length by omega)]
       simp only [cond_true, Option.bind_some, Z8]
       rw [c1, w6 a (by omega)]
       rfl
      simp only [j5, this, Option.bind_some]
      refine ih (a + 1) k s' (by omega) (by omega) ⟨c4.len, c4.val, c4.gd, fun _ => Iff.rfl, fun _ h => h, Nat.le_refl _⟩ (fun j h => b4 j ((c4.opn j).1 h)) (fun j hj => ?_)
      by_cases h : j = a
      ·rw [h]; exact c5
      ·exact (b5 j (by omega)).imp (fun h => c4.don _ h) id
    | false =>
      have : Q2 t fuel ((a : Int), s) = some (.done (.inr (false, s'))) := by
       unfold Q2
       rw [Q7 (show a < t.Nodes.length by omega)]
       simp only [cond_true, Option.bind_some, Z8]
       rw [c1]
       rfl
      refine .inr ⟨s', by simp only [j5, this, Option.bind_some], ?_⟩
      cases hA : a4x t.Nodes with
      | false => rfl
      | true =>
        obtain ⟨r, hr⟩ := b0C.1 hA
        exact (c3 rfl r hr fun o ho => absurd ho (b4 o)).elim
 have hrep : ∀ (j : Nat) (e : Int), (List.replicate t.Nodes.length (0 : Int))[j]? = some e -> e = 0 := fun j e h => by
  rw [List.getElem?_replicate] at h
  split at h
  ·simpa using h.symm
  ·cases h
 have hS : DfsR t.Nodes (List.replicate t.Nodes.length (0 : Int)) (List.replicate t.Nodes.length (0 : Int)) :=
  ⟨by simp, fun j e h => .inl (hrep j e h), ⟨fun _ => 0, fun i x hi hx hb => by
   rcases hi with hi | ⟨y, hy, hyb⟩
   ·have := hrep i 2 hi; omega
   ·rw [hx] at hy; cases hy; rw [hb] at hyb; cases hyb⟩, fun _ => Iff.rfl, fun _ h => h, Nat.le_refl _⟩
 have e' : ∀ s, j5 (Q2 t fuel) (t.Nodes.length + 1) (0, s) = j5 (Q2 t fuel) (t.Nodes.length + 1) (((0 : Nat) : Int), s) := fun _ => rfl
 rw [e']
 rcases key t.Nodes.length 0 (t.Nodes.length + 1) (List.replicate t.Nodes.length (0 : Int)) (by omega) (Nat.le_refl _) hS (fun j h => by have := hrep j 1 h; omega) (fun j hj => by omega) with ⟨s', e, hA⟩ | ⟨s', e, hA⟩
 ·rw [e, hA]; rfl
 ·rw [e, hA]; rfl
theorem c53 (t : Api_Type) (hk : ∀ x ∈ t.Nodes, x.Kids.length <= 1100000 /\ x.Fields.length <= 1100000) (hN : t.Nodes.length <= 1100000) (fuel : Nat) (hf : t.Nodes.length + 1 <= fuel) : a1b fuel t = some (if inR t.Nodes.length t.Root && a5V t.Nodes then (if a4x t.Nodes then 0 else 3) else 1) := by
 have l2 : j5 (a2c t) (t.Nodes.length + 1) 0 = some (if t.Nodes.all (W7 t.Nodes.length) = true then .inl () else .inr 1) := by
  refine a1M t.Nodes (W7 t.Nodes.length) (fun i => (i : Int)) () 1 ?_ ?_
  ·intro i x hx
   have hi : i < t.Nodes.length := (List.getElem?_eq_some_iff.1 hx).1
   obtain ⟨hk1, hk2⟩ := hk x (List.mem_of_getElem? hx)
   unfold a2c
   rw [Q7 hi, v8 hx]
   simp only [cond_true, Option.bind_some, c4x, c37 x (by omega), Z8, V6]
   rw [<- c2F, w6 i (by omega)]
   cases b4C x
   ·rfl
   cases b4u x
   ·rfl
   simp only [Bool.not_true, cond_false, Option.bind_some, Bool.true_and]
   rw [c4s x hk1 hk2]
   simp only [Option.bind_some]
   have he : (a5c x).length <= 4194304 := by
    unfold a5c
    simp only [List.length_append, List.length_map]
    split <;> simp <;> omega
   have l1 : j5 (a19 t (a5c x)) ((a5c x).length + 1) 0 = some (if (a5c x).all (inR t.Nodes.length) = true then .inl () else .inr 1) := by
    refine a1M (a5c x) (inR t.Nodes.length) (fun i => (i : Int)) () 1 ?_ ?_
    ·intro j y hy
     have hj : j < (a5c x).length := (List.getElem?_eq_some_iff.1 hy).1
     unfold a19
     rw [Q7 hj, v8 hy]
     simp only [cond_true, Option.bind_some, Z8]
     rw [w6 j (by omega)]
     unfold inR
     by_cases h1 : y < 0
     ·have a1 : decide (y < 0) = true := by simpa using h1
      have a2 : decide (0 <= y) = false := by simp; omega
      rw [a1, a2]; rfl
     ·have a1 : decide (y < 0) = false := by simpa using h1
      have a2 : decide (0 <= y) = true := by simp; omega
      rw [a1, a2]
      by_cases h2 : y < (t.Nodes.length : Int)
      ·have a3 : decide ((t.Nodes.length : Int) <= y) = false := by simp; omega
       have a4 : decide (y < (t.Nodes.length : Int)) = true := by simpa using h2
       rw [a3, a4]; rfl
      ·have a3 : decide ((t.Nodes.length : Int) <= y) = true := by simp; omega
       have a4 : decide (y < (t.Nodes.length : Int)) = false := by simpa using h2
       rw [a3, a4]; rfl
    ·unfold a19
     simp
   rw [l1]
   cases (a5c x).all (inR t.Nodes.length) <;> rfl
  ·unfold a2c
   simp
 unfold a1b
 rw [V6, l2]
 have hq : (Option.bind (bif decide (t.Root < 0) then some true else some (decide ((t.Nodes.length : Int) <= t.Root))) fun q => some q) = some (!inR t.Nodes.length t.Root) := by
  unfold inR
  by_cases h1 : t.Root < 0
  ·have a1 : decide (t.Root < 0) = true := by simpa using h1
   have a2 : decide (0 <= t.Root) = false := by simp; omega
   rw [a1, a2]; rfl
  ·have a1 : decide (t.Root < 0) = false := by simpa using h1
   have a2 : decide (0 <= t.Root) = true := by simp; omega
   rw [a1, a2]
   by_cases h2 : t.Root < (t.Nodes.length : Int)
   ·have a3 : decide ((t.Nodes.length : Int) <= t.Root) = false := by simp; omega
    have a4 : decide (t.Root < (t.Nodes.length : Int)) = true := by simpa using h2
    rw [a3, a4]; rfl
   ·have a3 : decide ((t.Nodes.length : Int) <= t.Root) = true := by simp; omega
    have a4 : decide (t.Root < (t.Nodes.length : Int)) = false := by simpa using h2
    rw [a3, a4]; rfl
 rw [a4e] at hq
 rw [hq]
 simp only [Option.bind_some]
 cases inR t.Nodes.length t.Root
 ·rfl
 show _ = some (if a5V t.Nodes = true then (if a4x t.Nodes then (0 : Int) else 3) else 1)
 cases hA : a5V t.Nodes with
 | true =>
   have hA' : t.Nodes.all (W7 t.Nodes.length) = true := hA
   rw [hA']
   simp only [Bool.not_true, cond_false, if_true, Option.bind_some, w5]
   rw [c31 t hA (fun x hx => (hk x hx).1) hN fuel hf]
   cases a4x t.Nodes <;> rfl
 | false =>
   have hA' : t.Nodes.all (W7 t.Nodes.length) = false := hA
   rw [hA']
   rfl
end Go.Pl
namespace Go.Pl
open Go Go.RowKit Go.Sx Go.Qx
theorem c5s (t : Api_Type) (D : List Bool) (i fuel : Nat) (x : Api_TypeNode) (hx : t.Nodes[i]? = some x) (hD : D.length = t.Nodes.length) (hT : a5V t.Nodes = true) (hk : x.Kids.length <= 1100000) (hf : x.Kids.length + 1 <= fuel) :
 ∃ A, j5 (Q9 t (D, (i : Int))) fuel (D, true, 0) = some (D, A) /\ ((isB x = true -> ∀ k ∈ x.Kids, D[k.toNat]? = some true) ↔ A = true) := by
 have hxm : x ∈ t.Nodes := List.mem_of_getElem? hx
 have hkr := a2R (List.all_eq_true.1 hT x hxm)
 have hix := v8 hx
 cases hb : isB x with
 | false =>
   obtain ⟨k, rfl⟩ : ∃ m, fuel = m + 1 := ⟨fuel - 1, by omega⟩
   have : Q9 t (D, (i : Int)) (D, true, 0) = some (.done (D, true)) := by
    unfold Q9
    simp only [hix, Option.bind_some, b7Z, hb]
    rfl
   exact ⟨true, by simp only [j5, this, Option.bind_some], fun _ => rfl, fun _ h => by cases h⟩
 | true =>
   have key : ∀ (m a k : Nat) (A : Bool), a + m = x.Kids.length -> m + 1 <= k ->
    ∃ A', j5 (Q9 t (D, (i : Int))) k (D, A, (a : Int)) = some (D, A') /\ ((A = true /\ ∀ (q : Nat) (y : Int), a <= q -> x.Kids[q]? = some y -> D[y.toNat]? = some true) ↔ A' = true) := by
    intro m
    induction m with
    | zero =>
      intro a k A b1 b2
      obtain ⟨k, rfl⟩ : ∃ m, k = m + 1 := ⟨k - 1, by omega⟩
      have e : a = x.Kids.length := by omega
      subst e
      have : Q9 t (D, (i : Int)) (D, A, (x.Kids.length : Int)) = some (.done (D, A)) := by
       unfold Q9
       simp only [hix, Option.bind_some, b7Z, hb, cond_true]
       simp
      exact ⟨A, by simp only [j5, this, Option.bind_some], fun h => h.1, fun h => ⟨h, fun q y h1 h2 => by have := (List.getElem?_eq_some_iff.1 h2).1; omega⟩⟩
    | succ m ih =>
      intro a k A b1 b2
      obtain ⟨k, rfl⟩ : ∃ m, k = m + 1 := ⟨k - 1, by omega⟩
      have ha : a < x.Kids.length := by omega
      have hka := List.getElem?_eq_getElem ha
      have hkm := List.getElem_mem ha
      obtain ⟨j, hj, hj2⟩ := a25 (hkr _ hkm)
      have hDj := List.getElem?_eq_getElem (show j < D.length by omega)
      obtain ⟨A', c1, c2⟩ := ih (a + 1) k (bif A then D[j] else false) (by omega) (by omega)
      have : Q9 t (D, (i : Int)) (D, A, (a : Int)) = some (.next (D, (bif A then D[j] else false), ((a + 1 : Nat) : Int))) := by
       unfold Q9
       simp only [hix, Option.bind_some, b7Z, hb, cond_true, Q7 ha, v8 hka, hj, v8 hDj, Int.toNat_natCast, hDj, Z8]
       rw [w6 a (by omega)]
       cases A <;> rfl
      simp only [j5, this, Option.bind_some]
      refine ⟨A', c1, Iff.trans ⟨fun ⟨hA, hall⟩ => ⟨?_, fun q y hq hy => hall q y (by omega) hy⟩, fun ⟨hA, hall⟩ => ?_⟩ c2⟩
      ·have hq := hall a _ (Nat.le_refl _) hka
       rw [hj, Int.toNat_natCast, hDj] at hq
       subst hA
       simpa using hq
      ·cases A with
       | false => cases hA
       | true =>
         refine ⟨rfl, fun q y hq hy => ?_⟩
         by_cases e : q = a
         ·subst e
          rw [hka] at hy
          cases hy
          rw [hj, Int.toNat_natCast, hDj]
          simpa using hA
         ·exact hall q y (by omega) hy
   obtain ⟨A, c1, c2⟩ := key x.Kids.length 0 fuel true (by omega) hf
   refine ⟨A, c1, Iff.trans ⟨fun h => ⟨rfl, fun q y _ hy => h rfl y (List.mem_of_getElem? hy)⟩, fun h _ y hy => ?_⟩ c2⟩
   obtain ⟨q, hq, e⟩ := List.getElem_of_mem hy
   exact h.2 q y (Nat.zero_le _) (by rw [List.getElem?_eq_getElem hq, e])
def trD (D : List Bool) (j : Nat) : Prop := D[j]? = some true
theorem c4C (t : Api_Type) (hT : a5V t.Nodes = true) (hk : ∀ x ∈ t.Nodes, x.Kids.length <= 1100000) (hN : t.Nodes.length <= 1100000) (fuel : Nat) (hf : 1100001 <= fuel) (r : Nat -> Nat) (q : Nat) :
 ∀ (m a k : Nat) (D : List Bool), a + m = t.Nodes.length -> m + 1 <= k -> D.length = t.Nodes.length -> Gd t.Nodes (trD D) -> (Rk t.Nodes r -> (∀ j, j < t.Nodes.length -> r j < q -> D[j]? = some true) /\ ∀ j, j < a -> r j < q + 1 -> D[j]? = some true) ->
  ∃ D', j5 (V9 t fuel) k (D, (a : Int)) = some D' /\ D'.length = t.Nodes.length /\ Gd t.Nodes (trD D') /\ (Rk t.Nodes r -> ∀ j, j < t.Nodes.length -> r j < q + 1 -> D'[j]? = some true) := by
 intro m
 induction m with
 | zero =>
   intro a k D b1 b2 b3 b4 b5
   obtain ⟨k, rfl⟩ : ∃ m, k = m + 1 := ⟨k - 1, by omega⟩
   have e : a = t.Nodes.length := by omega
   subst e
   have : V9 t fuel (D, (t.Nodes.length : Int)) = some (.done D) := by
    unfold V9
    simp
   exact ⟨D, by simp only [j5, this, Option.bind_some], b3, b4, fun hr => (b5 hr).2⟩
 | succ m ih =>
   intro a k D b1 b2 b3 b4 b5
   obtain ⟨k, rfl⟩ : ∃ m, k = m + 1 := ⟨k - 1, by omega⟩
   have ha : a < t.Nodes.length := by omega
   have hn := List.getElem?_eq_getElem ha
   generalize hx : t.Nodes[a] = x at hn
   have hxm : x ∈ t.Nodes := List.mem_of_getElem? hn
   have hkx := hk x hxm
   obtain ⟨A, c1, c2⟩ := c5s t D a fuel x hn b3 hT hkx (by omega)
   have haD : a < D.length := by omega
   have hDa := List.getElem?_eq_getElem haD
   generalize D[a] = e at hDa
   have step : V9 t fuel (D, (a : Int)) = some (.next (D.set a (e || A), ((a + 1 : Nat) : Int))) := by
    unfold V9
    simp only
    rw [Q7 ha, c1]
    simp only [cond_true, Option.bind_some, v8 hDa, Int.toNat_natCast, hDa, Z8]
    rw [w6 a (by omega)]
    cases e <;> rfl
   simp only [j5, step, Option.bind_some]
   have hset : ∀ j, D[j]? = some true -> (D.set a (e || A))[j]? = some true := fun j hj => by
    by_cases h : a = j
    ·subst h
     rw [List.getElem?_set_self haD]
     rw [hDa] at hj
     cases hj
     rfl
    ·rw [List.getElem?_set_ne h]; exact hj
   refine ih (a + 1) k (D.set a (e || A)) (by omega) (by omega) (by simpa using b3) ?_ (fun hr => ⟨fun j hj h => hset j ((b5 hr).1 j hj h), fun j hj h => ?_⟩)
   ·cases hA : A with
    | false =>
      have : D.set a (e || false) = D := by
       apply List.ext_getElem?
       intro j
       by_cases h : a = j
       ·subst h; rw [List.getElem?_set_self haD, hDa, Bool.or_false]
       ·rw [List.getElem?_set_ne h]
      rw [this]; exact b4
    | true =>
      refine Gd.add b4 hn (fun hb k hk => c2.2 hA hb k hk) fun j => ?_
      unfold trD
      by_cases h : a = j
      ·subst h; rw [List.getElem?_set_self haD]; simp
      ·rw [List.getElem?_set_ne h]; exact ⟨.inl, fun h1 => h1.resolve_right (Ne.symm h)⟩
   ·by_cases e1 : j = a
    ·subst e1
     rw [List.getElem?_set_self haD]
     have hA : A = true := c2.1 fun hb kk hkk => by
      obtain ⟨i, rfl, hi⟩ := a25 (a2R (List.all_eq_true.1 hT x hxm) kk hkk)
      have := hr j x hn hb _ hkk
      rw [Int.toNat_natCast] at this ⊢
      exact (b5 hr).1 i hi (by omega)
     rw [hA]
     simp
    ·exact hset j ((b5 hr).2 j (by omega) h)
theorem c5G (t : Api_Type) (hk : ∀ x ∈ t.Nodes, x.Kids.length <= 1100000 /\ x.Fields.length <= 1100000) (hN : t.Nodes.length <= 1100000) (fuel : Nat) (hf : 1100001 <= fuel) : a1e fuel t = some (if inR t.Nodes.length t.Root && a5V t.Nodes then (if a4x t.Nodes then 0 else 3) else 1) := by
 have l1 : j5 (a1w t) (t.Nodes.length + 1) 0 = some (if t.Nodes.all (W7 t.Nodes.length) = true then .inl () else .inr 1) := by
  refine a1M t.Nodes (W7 t.Nodes.length) (fun i => (i : Int)) () 1 ?_ ?_
  ·intro i x hx
   have hi : i < t.Nodes.length := (List.getElem?_eq_some_iff.1 hx).1
   obtain ⟨hk1, hk2⟩ := hk x (List.mem_of_getElem? hx)
   unfold a1w
   rw [Q7 hi, v8 hx]
   simp only [cond_true, Option.bind_some, Z8]
   rw [c0l t x (by omega) (by omega), w6 i (by omega)]
   cases W7 t.Nodes.length x <;> rfl
  ·unfold a1w
   simp
 unfold a1e
 rw [b0V, V6, l1]
 simp only [Option.bind_some]
 cases inR t.Nodes.length t.Root
 ·rfl
 show _ = some (if a5V t.Nodes = true then (if a4x t.Nodes then (0 : Int) else 3) else 1)
 cases hA : a5V t.Nodes with
 | false =>
   have hA' : t.Nodes.all (W7 t.Nodes.length) = false := hA
   rw [hA']
   rfl
 | true =>
   have hA' : t.Nodes.all (W7 t.Nodes.length) = true := hA
   rw [hA']
   simp only [Bool.not_true, cond_false, if_true, Option.bind_some, w5]
   have e0 : a6y (t.Nodes.length : Int) (t.Nodes.length : Int) 1 = some t.Nodes.length := by
    unfold a6y
    have : (decide (0 <= (t.Nodes.length : Int)) && decide ((t.Nodes.length : Int) <= (t.Nodes.length : Int)) && decide ((t.Nodes.length : Int) * ((1 : Nat) : Int) <= 140737488355328)) = true := by
     simp; omega
    rw [this]
    simp
   rw [e0]
   simp only [Option.bind_some]
   obtain ⟨r, hrr⟩ : ∃ r, a4x t.Nodes = true -> Rk t.Nodes r /\ ∀ i, i < t.Nodes.length -> r i < t.Nodes.length := by
    cases hA2 : a4x t.Nodes with
    | false => exact ⟨fun _ => 0, fun h => by cases h⟩
    | true =>
      obtain ⟨r, h⟩ := (b0C.1 hA2).small hA
      exact ⟨r, fun _ => h⟩
   have key : ∀ (m q k : Nat) (D : List Bool), q + m = t.Nodes.length -> m + 1 <= k -> D.length = t.Nodes.length -> Gd t.Nodes (trD D) -> (Rk t.Nodes r -> ∀ j, j < t.Nodes.length -> r j < q -> D[j]? = some true) ->
    ∃ D', j5 (V8 t fuel) k (D, (q : Int)) = some D' /\ D'.length = t.Nodes.length /\ Gd t.Nodes (trD D') /\ (Rk t.Nodes r -> ∀ j, j < t.Nodes.length -> r j < t.Nodes.length -> D'[j]? = some true) := by
    intro m
    induction m with
    | zero =>
      intro q k D b1 b2 b3 b4 b5
      obtain ⟨k, rfl⟩ : ∃ m, k = m + 1 := ⟨k - 1, by omega⟩
      have e : q = t.Nodes.length := by omega
      subst e
      have : V8 t fuel (D, (t.Nodes.length : Int)) = some (.done D) := by
       unfold V8
       simp
      exact ⟨D, by simp only [j5, this, Option.bind_some], b3, b4, b5⟩
    | succ m ih =>
      intro q k D b1 b2 b3 b4 b5
      obtain ⟨k, rfl⟩ : ∃ m, k = m + 1 := ⟨k - 1, by omega⟩
      obtain ⟨D', c1, c2, c3, c4⟩ := c4C t hA (fun x hx => (hk x hx).1) hN fuel hf r q t.Nodes.length 0 (t.Nodes.length + 1) D (by omega) (Nat.le_refl _) b3 b4 (fun hr => ⟨b5 hr, fun j hj => by omega⟩)
      have c1' : j5 (V9 t fuel) (t.Nodes.length + 1) (D, 0) = some D' := c1
      have step : V8 t fuel (D, (q : Int)) = some (.next (D', ((q + 1 : Nat) : Int))) := by
       unfold V8
       simp only
       rw [Q7 (show q < t.Nodes.length by omega), V6, c1']
       simp only [cond_true, Option.bind_some, Z8]
       rw [w6 q (by omega)]
      simp only [j5, step, Option.bind_some]
      exact ih (q + 1) k D' (by omega) (by omega) c2 c3 c4
   have hrep : ∀ (j : Nat), (List.replicate t.Nodes.length false)[j]? ≠ some true := fun j h => by
    rw [List.getElem?_replicate] at h
    split at h <;> cases h
   obtain ⟨D, c1, c2, c3, c4⟩ := key t.Nodes.length 0 (t.Nodes.length + 1) (List.replicate t.Nodes.length false) (by omega) (Nat.le_refl _) (by simp) ⟨fun _ => 0, fun i x hi => absurd hi (hrep i)⟩ (fun _ j hj h => by omega)
   have c1' : j5 (V8 t fuel) (t.Nodes.length + 1) (List.replicate t.Nodes.length false, 0) = some D := c1
   rw [c1']
   simp only [Option.bind_some]
   have hall : D.all (fun b => b) = a4x t.Nodes := by
    rw [Bool.eq_iff_iff, List.all_eq_true]
    constructor
    ·intro h
     refine b0C.2 (c3.acy fun j hj => ?_)
     have hj' : j < D.length := by omega
     unfold trD
     rw [List.getElem?_eq_getElem hj', h _ (List.getElem_mem hj')]
    ·intro h b hb
     obtain ⟨j, hj, rfl⟩ := List.getElem_of_mem hb
     have := c4 (hrr h).1 j (by omega) ((hrr h).2 j (by omega))
     rw [List.getElem?_eq_getElem hj] at this
     simpa using this
   have l5 := a1M (step := a0H) D (fun b => b) (fun i => (D, (i : Int))) D ((3 : Int), D) (fun i x hx => by
    have hi : i < D.length := (List.getElem?_eq_some_iff.1 hx).1
    unfold a0H
    simp only
    rw [Q7 hi, v8 hx]
    simp only [cond_true, Option.bind_some, Int.toNat_natCast, hx, Z8]
    rw [w6 i (by omega)]
    cases x <;> rfl) (by
    unfold a0H
    simp)
   rw [hall] at l5
   have l5' : j5 a0H (D.length + 1) (D, 0) = some (if a4x t.Nodes = true then .inl D else .inr ((3 : Int), D)) := l5
   rw [V6, l5']
   cases a4x t.Nodes <;> rfl
end Go.Pl
end
section
namespace Go.Pl
open Go Go.RowKit Go.Sx Go.Qx
structure GN (N i : Nat) (x : Api_TypeNode) : Prop where
 ok : W7 N x = true
 ord : isB x = true -> ∀ k ∈ x.Kids, (i : Int) < k
 kids : x.Kids.length <= 4
 text : x.Text.size <= 5
 flds : x.Fields.length <= 3
 keys : ∀ f ∈ x.Fields, a2y f.Key_ <= 8
theorem b0n {N M : Nat} (h : N <= M) {k : Int} (hk : inR N k = true) : inR M k = true := by
 unfold inR at *
 simp only [Bool.and_eq_true, decide_eq_true_eq] at *
 omega
theorem b90 {α : Type} {p q : α -> Bool} {l : List α} (h : ∀ x, p x = true -> q x = true) (k : l.all p = true) : l.all q = true := List.all_eq_true.2 fun x hx => h x (List.all_eq_true.1 k x hx)
theorem c1Y {N M : Nat} (h : N <= M) {x : Api_TypeNode} (hx : W7 N x = true) : W7 M x = true := by
 unfold W7 at *
 simp only [Bool.and_eq_true] at *
 refine ⟨b90 (fun k => b0n h) hx.1, hx.2.1, hx.2.2.1, hx.2.2.2.1, ?_⟩
 have hk := hx.2.2.2.2
 unfold a4c at *
 split <;> rename_i h3
 ·rwa [if_pos h3] at hk
 rw [if_neg h3] at hk
 split <;> rename_i h4
 ·rwa [if_pos h4] at hk
 rw [if_neg h4] at hk
 split <;> rename_i h6
 ·rwa [if_pos h6] at hk
 rw [if_neg h6] at hk
 split <;> rename_i h19
 ·rwa [if_pos h19] at hk
 rw [if_neg h19] at hk
 split <;> rename_i hs
 ·rwa [if_pos hs] at hk
 rw [if_neg hs] at hk
 split <;> rename_i h10
 ·rwa [if_pos h10] at hk
 rw [if_neg h10] at hk
 split <;> rename_i h12
 ·rwa [if_pos h12] at hk
 rw [if_neg h12] at hk
 split <;> rename_i h14
 ·rwa [if_pos h14] at hk
 rw [if_neg h14] at hk
 split <;> rename_i h16
 ·rwa [if_pos h16] at hk
 rw [if_neg h16] at hk
 split <;> rename_i h18
 ·rwa [if_pos h18] at hk
 rw [if_neg h18] at hk
 split <;> rename_i h13
 ·rw [if_pos h13] at hk
  unfold a6g at *
  simp only [Bool.and_eq_true] at *
  exact ⟨⟨hk.1.1, hk.1.2.1, b90 (fun f => b0n h) hk.1.2.2⟩, hk.2.1, b0n h hk.2.2.1, b0n h hk.2.2.2⟩
 ·rwa [if_neg h13] at hk
theorem GN.mono {N M i : Nat} {x : Api_TypeNode} (h : GN N i x) (k : N <= M) : GN M i x := ⟨c1Y k h.ok, h.ord, h.kids, h.text, h.flds, h.keys⟩
abbrev b1t (k : Int) (l : List Int) : Api_TypeNode := Api_TypeNode.mk k 0 0 (⟨#[]⟩ : ByteArray) l ([] : List Api_Field) (0, 0)
abbrev c8b (k : Int) (s : ByteArray) : Api_TypeNode := Api_TypeNode.mk k 0 0 s ([] : List Int) ([] : List Api_Field) (0, 0)
theorem a9e {N i : Nat} {k : Int} {l : List Int} (hl : l.all (inR N) = true) (h4 : l.length <= 4) (hk : a4c N (b1t k l) = true) (ho : k = 16 \/ k = 17 \/ k = 18 -> ∀ x ∈ l, (i : Int) < x) : GN N i (b1t k l) := by
 refine ⟨?_, fun hb => ho ?_, h4, by show (⟨#[]⟩ : ByteArray).size <= 5; decide, by show (0 : Nat) <= 3; omega, fun f hf => by cases hf⟩
 ·unfold W7
  rw [hk]
  simp [hl, a6F, a5D]
 ·unfold isB at hb
  simp at hb
  omega
theorem c0B {N i : Nat} {k : Int} {s : ByteArray} (hs : s.size <= 5) (hk : (k = 4) \/ (k = 6 /\ a3L s = true) \/ (k = 19 /\ a5z s = true)) : GN N i (c8b k s) := by
 refine ⟨?_, fun hb => ?_, by show (0 : Nat) <= 4; omega, hs, by show (0 : Nat) <= 3; omega, fun f hf => by cases hf⟩
 ·have h64 : (s.size : Int) <= 64 := by omega
  rcases hk with rfl | ⟨rfl, h⟩ | ⟨rfl, h⟩
  ·simp [W7, a4c, a5D, h64]
  ·simp [W7, a4c, a5D, h]
  ·simp [W7, a4c, a5D, h]
 ·intro x hx; cases hx
section
variable {L : List Int}
theorem b0t {γ σ τ : Type} {step : σ -> Option (Fl σ τ)} (pack : γ -> Int -> Semtypebase_Source -> σ) (out : γ -> Semtypebase_Source -> τ) (Inv : Nat -> γ -> Prop) (J : Nat)
 (hst : ∀ (j : Nat) (g : γ) (s : Semtypebase_Source), j < J -> Inv j g -> OS L s -> ∃ g' s', step (pack g (j : Int) s) = some (.next (pack g' ((j + 1 : Nat) : Int) s')) /\ OS L s' /\ Inv (j + 1) g')
 (hend : ∀ g s, step (pack g (J : Int) s) = some (.done (out g s))) :
 ∀ (n j k : Nat) (g : γ) (s : Semtypebase_Source), j + n = J -> n + 1 <= k -> Inv j g -> OS L s -> ∃ g' s', j5 step k (pack g (j : Int) s) = some (out g' s') /\ OS L s' /\ Inv J g' := by
 intro n
 induction n with
 | zero =>
   intro j k g s hJ hk hI hs
   obtain ⟨k, rfl⟩ : ∃ m, k = m + 1 := ⟨k - 1, by omega⟩
   have e : j = J := by omega
   subst e
   exact ⟨g, s, by have := hend g s; simp [j5, this], hs, hI⟩
 | succ n ih =>
   intro j k g s hJ hk hI hs
   obtain ⟨k, rfl⟩ : ∃ m, k = m + 1 := ⟨k - 1, by omega⟩
   obtain ⟨g1, s1, e, hs1, hI1⟩ := hst j g s (by omega) hI hs
   obtain ⟨g2, s2, e2, hs2, hI2⟩ := ih (j + 1) k g1 s1 (by omega) (by omega) hI1 hs1
   refine ⟨g2, s2, ?_, hs2, hI2⟩
   simp only [j5, e, Option.bind_some]
   exact e2
theorem c0I (hL : L.length <= 4194304) {s : Semtypebase_Source} (h : OS L s) (m i N : Nat) (hm : m <= 4) (hi : i < N) (hN : N <= 100) :
 ∃ l t, k9 s (m : Int) (i : Int) (N : Int) = some (l, t) /\ OS L t /\ l.length = m /\ ∀ k ∈ l, (i : Int) <= k /\ k < (N : Int) := by
 unfold k9
 obtain ⟨g, s', e, hs', h1, h2⟩ := a8I (γ := List Int) (L := L) (step := a0N (i : Int) (N : Int)) (fun g j s => (j, g, s)) (fun g s => (g, s)) (fun j g => g.length = j /\ ∀ k ∈ g, (i : Int) <= k /\ k < (N : Int)) m
  (fun j n g s hj hn hI hs => by
    obtain ⟨x, t, e, ht, a, b⟩ := Y2 hL hs (n := w64 ((N : Int) - (i : Int))) (by rw [K7 (by omega) (by omega)]; omega) (by rw [K7 (by omega) (by omega)]; omega)
    rw [K7 (by omega) (by omega)] at b
    have hw : w64 ((i : Int) + x) = (i : Int) + x := K7 (by omega) (by omega)
    refine ⟨g ++ [(i : Int) + x], t, ?_, ht, ?_, ?_⟩
    ·unfold a0N
     simp only [Z8]
     rw [show decide (0 < ((n + 1 : Nat) : Int)) = true from decide_eq_true (by omega), e]
     simp only [cond_true, Option.bind_some, hw]
     rw [Z7 (by simp only [List.length_cons, List.length_nil]; have := hI.1; omega), show w64 (((n + 1 : Nat) : Int) - 1) = (n : Int) by rw [K7 (by omega) (by omega)]; omega]
     rfl
    ·simp [hI.1]
    ·intro k hk
     rcases List.mem_append.1 hk with hk | hk
     ·exact hI.2 k hk
     ·rw [List.mem_singleton.1 hk]; omega) (fun g s => by
    unfold a0N
    rfl) m 0 ((m : Int).toNat + 2) [] s (by omega) (by omega) ⟨rfl, fun k hk => by cases hk⟩ h
 rw [e]
 exact ⟨g, s', rfl, hs', by simpa using h1, h2⟩
theorem b4f {N : Nat} {k : Int} (h0 : 0 <= k) (h1 : k < (N : Int)) : inR N k = true := by
 unfold inR
 simp [h0, h1]
theorem b0j {N i : Nat} {l : List Int} (h : ∀ k ∈ l, (i : Int) <= k /\ k < (N : Int)) : l.all (inR N) = true := List.all_eq_true.2 fun k hk => by
 have := h k hk
 exact b4f (by omega) this.2
abbrev c6U : Key := Key.mk 0 ⟨#[97]⟩
abbrev c5W : Key := Key.mk 0 ⟨#[98]⟩
abbrev c6s : Key := Key.mk 1 ⟨#[115]⟩
abbrev c8e : Type := Int × Int × Int × ByteArray × (List Int) × (List Api_Field) × Int × Int
abbrev b71 (F : List Api_Field) (a b : Int) : c8e := (13, 0, 0, (⟨#[]⟩ : ByteArray), [], F, a, b)
theorem b4o (hL : L.length <= 4194304) {s : Semtypebase_Source} (h : OS L s) (N j : Nat) (hN : 1 <= N) (hN2 : N <= 100) (hj : j < 3) (K : Key) (hK : [c6U, c5W, c6s][j]? = some K) (F : List Api_Field) (hF : F.length <= j) (a b : Int) :
 ∃ O t, V7 (N : Int) ((j : Int), s, b71 F a b) = some (.next (((j + 1 : Nat) : Int), t, b71 (F ++ O) a b)) /\ OS L t /\ (O = [] \/ ∃ n o, O = [Api_Field.mk K n o] /\ inR N n = true) := by
 obtain ⟨x, t, e, ht, _, _⟩ := Y2 hL h (n := 2) (by omega) (by omega)
 unfold V7
 simp only [Z8]
 rw [show decide ((j : Int) < 3) = true from decide_eq_true (by omega), e]
 simp only [cond_true, Option.bind_some]
 rw [w6 j (by omega)]
 cases hx : x == 1
 ·exact ⟨[], t, by simp only [cond_false, Option.bind_some, List.append_nil], ht, .inl rfl⟩
 ·simp only [cond_true]
  rw [v8 hK]
  obtain ⟨n, t2, e2, ht2, n0, n1⟩ := Y2 hL ht (n := (N : Int)) (by omega) (by omega)
  obtain ⟨o, t3, e3, ht3, _, _⟩ := Y2 hL ht2 (n := 2) (by omega) (by omega)
  simp only [Option.bind_some, e2, e3]
  rw [Z7 (by simp only [List.length_cons, List.length_nil]; omega)]
  exact ⟨[Api_Field.mk K n (o == 1)], t3, rfl, ht3, .inr ⟨n, _, rfl, b4f n0 n1⟩⟩
theorem c0E (hL : L.length <= 4194304) {s : Semtypebase_Source} (h : OS L s) (N i : Nat) (hN : 1 <= N) (hN2 : N <= 100) : ∃ x t, a1h s (N : Int) = some (x, t) /\ OS L t /\ GN N i x := by
 obtain ⟨a, t1, e1, ht1, a0, a1⟩ := Y2 hL h (n := (N : Int)) (by omega) (by omega)
 obtain ⟨b, t2, e2, ht2, b0, b1⟩ := Y2 hL ht1 (n := (N : Int)) (by omega) (by omega)
 obtain ⟨O0, t3, e3, ht3, h0⟩ := b4o hL ht2 N 0 hN hN2 (by omega) c6U rfl [] (by simp) a b
 have l0 : O0.length <= 1 := by rcases h0 with rfl | ⟨n, o, rfl, _⟩ <;> simp
 obtain ⟨O1, t4, e4, ht4, h1⟩ := b4o hL ht3 N 1 hN hN2 (by omega) c5W rfl ([] ++ O0) (by simpa using l0) a b
 have l1 : O1.length <= 1 := by rcases h1 with rfl | ⟨n, o, rfl, _⟩ <;> simp
 obtain ⟨O2, t5, e5, ht5, h2⟩ := b4o hL ht4 N 2 hN hN2 (by omega) c6s rfl (([] ++ O0) ++ O1) (by simp; omega) a b
 have e6 : V7 (N : Int) (((2 + 1 : Nat) : Int), t5, b71 ((([] ++ O0) ++ O1) ++ O2) a b) = some (.done (t5, b71 ((([] ++ O0) ++ O1) ++ O2) a b)) := rfl
 refine ⟨Api_TypeNode.mk 13 0 0 (⟨#[]⟩ : ByteArray) [] (O0 ++ O1 ++ O2) (a, b), t5, ?_, ht5, ?_⟩
 ·unfold a1h
  rw [e1]
  simp only [Option.bind_some]
  rw [e2]
  simp only [Option.bind_some]
  have ei : j5 (V7 (N : Int)) ((3 : Int).toNat + 1) (0, t2, (13, 0, 0, (⟨#[]⟩ : ByteArray), [], [], a, b)) = some (t5, b71 ((([] ++ O0) ++ O1) ++ O2) a b) := by
   show j5 (V7 (N : Int)) (3 + 1) (((0 : Nat) : Int), t2, b71 [] a b) = _
   simp only [j5, e3, e4, e5, e6, Option.bind_some]
  rw [ei]
  rfl
 ·refine ⟨?_, fun hb => absurd hb (show ¬ (false = true) by simp), by show (0 : Nat) <= 4; omega, by show (⟨#[]⟩ : ByteArray).size <= 5; decide, ?_, ?_⟩
  ·have ha := b4f (N := N) a0 a1
   have hb := b4f (N := N) b0 b1
   have hF : a6g N (O0 ++ O1 ++ O2) = true := by
    unfold a6g
    rw [Bool.and_eq_true, Bool.and_eq_true]
    refine ⟨?_, ?_, ?_⟩
    ·rcases h0 with rfl | ⟨n, o, rfl, _⟩ <;> rcases h1 with rfl | ⟨n', o', rfl, _⟩ <;> rcases h2 with rfl | ⟨n'', o'', rfl, _⟩ <;> kernel_rfl
    ·rcases h0 with rfl | ⟨n, o, rfl, _⟩ <;> rcases h1 with rfl | ⟨n', o', rfl, _⟩ <;> rcases h2 with rfl | ⟨n'', o'', rfl, _⟩ <;> kernel_rfl
    ·rcases h0 with rfl | ⟨n, o, rfl, q0⟩ <;> rcases h1 with rfl | ⟨n', o', rfl, q1⟩ <;> rcases h2 with rfl | ⟨n'', o'', rfl, q2⟩ <;> simp_all
   unfold W7 a4c
   simp only [hF, ha, hb, a6F]
   simp
  ·show (O0 ++ O1 ++ O2).length <= 3
   have l2 : O2.length <= 1 := by rcases h2 with rfl | ⟨n, o, rfl, _⟩ <;> simp
   simp only [List.length_append]
   omega
  ·intro f hf
   have hf : f ∈ O0 ++ O1 ++ O2 := hf
   have one : ∀ {O : List Api_Field} {K : Key}, (O = [] \/ ∃ n o, O = [Api_Field.mk K n o] /\ inR N n = true) -> f ∈ O -> f.Key_ = K := fun hO hm => by
    rcases hO with rfl | ⟨n, o, rfl, _⟩
    ·cases hm
    ·rw [List.mem_singleton.1 hm]
   rcases List.mem_append.1 hf with hf | hf
   ·rcases List.mem_append.1 hf with hf | hf
    ·rw [one h0 hf]; decide
    ·rw [one h1 hf]; decide
   ·rw [one h2 hf]; decide
end
end Go.Pl
namespace Go.Pl
open Go Go.RowKit Go.Sx Go.Qx
theorem b7r {N i : Nat} {k : Int} (hk : k = 1 \/ k = 2 \/ k = 5 \/ k = 7 \/ k = 8 \/ k = 9 \/ k = 11 \/ k = 15) : GN N i (b1t k []) :=
 a9e rfl (by simp) (by rcases hk with rfl | rfl | rfl | rfl | rfl | rfl | rfl | rfl <;> rfl) (fun _ x hx => by cases hx)
theorem c56 {N i : Nat} {lo hi : Int} (h : lo <= hi) : GN N i (Api_TypeNode.mk 3 lo hi (⟨#[]⟩ : ByteArray) ([] : List Int) ([] : List Api_Field) (0, 0)) :=
 ⟨by simp [W7, a4c, a5D, a6F, h], (fun _ x hx => by cases hx), (by show (0 : Nat) <= 4; omega), (by show (⟨#[]⟩ : ByteArray).size <= 5; decide), (by show (0 : Nat) <= 3; omega), (fun f hf => by cases hf)⟩
theorem c28 : b5I.all (fun x => a5z x && decide (x.size <= 5)) = true := by kernel_rfl
section
variable {L : List Int}
theorem a7Y {x : Int} (h : 0 <= x) : ∃ m : Nat, x = (m : Int) := ⟨x.toNat, by omega⟩
theorem c4E (hL : L.length <= 4194304) {s : Semtypebase_Source} (h : OS L s) (N i : Nat) (hi : i < N) (hN2 : N <= 100) : ∃ x t, a1Z s (i : Int) (N : Int) = some (x, t) /\ OS L t /\ GN N i x := by
 have hw : w64 ((N : Int) - 1) = (N : Int) - 1 := K7 (by omega) (by omega)
 have hwi := w6 i (by omega)
 obtain ⟨b, hb, hlast, hb18⟩ : ∃ b : Int, (bif ((i : Int) == (wr .i64 ((N : Int) - 1))) then (some 14 : Option Int) else some 18) = some b /\ (14 < b -> i + 1 < N) /\ (b = 14 \/ b = 18) := by
  by_cases e : i + 1 = N
  ·refine ⟨14, ?_, fun h => by omega, .inl rfl⟩
   have : ((i : Int) == (N : Int) - 1) = true := by simp; omega
   simp only [Z8, hw, this, cond_true]
  ·refine ⟨18, ?_, fun _ => by omega, .inr rfl⟩
   have : ((i : Int) == (N : Int) - 1) = false := by simp; omega
   simp only [Z8, hw, this, cond_false]
 unfold a1Z
 rw [hb]
 simp only [Option.bind_some]
 obtain ⟨c, t, e, ht, c0, c1⟩ := Y2 hL h (n := b) (by omega) (by omega)
 rw [e]
 simp only [Option.bind_some]
 have ix : ∀ {s : Semtypebase_Source}, OS L s -> ∀ (m f : Nat), m <= 4 -> f < N -> ∃ l t, k9 s (m : Int) (f : Int) (N : Int) = some (l, t) /\ OS L t /\ l.length = m /\ ∀ k ∈ l, (f : Int) <= k /\ k < (N : Int) := fun hs m f hm hf => c0I hL hs m f N hm hf hN2
 have hc : c = 0 \/ c = 1 \/ c = 2 \/ c = 3 \/ c = 4 \/ c = 5 \/ c = 6 \/ c = 7 \/ c = 8 \/ c = 9 \/ c = 10 \/ c = 11 \/ c = 12 \/ c = 13 \/ c = 14 \/ c = 15 \/ c = 16 \/ c = 17 := by omega
 have tup : ∀ {s : Semtypebase_Source}, OS L s -> ∃ x t, (Option.bind (y4 s 3) fun r19 => Option.bind (k9 r19.2 r19.1 0 (N : Int)) fun r20 => some (b1t 10 r20.1, r20.2)) = some (x, t) /\ OS L t /\ GN N i x := fun hs => by
  obtain ⟨m, t2, e2, ht2, m0, m1⟩ := Y2 hL hs (n := 3) (by omega) (by omega)
  obtain ⟨m, rfl⟩ := a7Y m0
  obtain ⟨l, t3, e3, ht3, hl, hr⟩ := ix ht2 m 0 (by omega) (by omega)
  rw [e2]
  simp only [Option.bind_some]
  have e3' : k9 t2 (m : Int) 0 (N : Int) = some (l, t3) := e3
  rw [e3']
  refine ⟨_, t3, rfl, ht3, a9e (l := l) (b0j hr) (show l.length <= 4 by omega) ?_ (fun h => by omega)⟩
  show decide ((l.length : Int) <= 4) = true
  exact decide_eq_true (by omega)
 have fun_ : ∀ {s : Semtypebase_Source}, OS L s -> ∃ x t, (Option.bind (y4 s 3) fun r24 => Option.bind (k9 r24.2 (w64 (1 + r24.1)) 0 (N : Int)) fun r25 => some (b1t 14 r25.1, r25.2)) = some (x, t) /\ OS L t /\ GN N i x := fun hs => by
  obtain ⟨m, t2, e2, ht2, m0, m1⟩ := Y2 hL hs (n := 3) (by omega) (by omega)
  obtain ⟨m, rfl⟩ := a7Y m0
  obtain ⟨l, t3, e3, ht3, hl, hr⟩ := ix ht2 (m + 1) 0 (by omega) (by omega)
  rw [e2]
  simp only [Option.bind_some]
  have e3' : k9 t2 (w64 (1 + (m : Int))) 0 (N : Int) = some (l, t3) := by
   rw [K7 (by omega) (by omega), show 1 + (m : Int) = ((m + 1 : Nat) : Int) by omega]
   exact e3
  rw [e3']
  refine ⟨_, t3, rfl, ht3, a9e (l := l) (b0j hr) (show l.length <= 4 by omega) ?_ (fun h => by omega)⟩
  show (decide (1 <= (l.length : Int)) && decide ((l.length : Int) <= 5)) = true
  rw [Bool.and_eq_true]
  exact ⟨decide_eq_true (by omega), decide_eq_true (by omega)⟩
 have uni : i + 1 < N -> ∀ {s : Semtypebase_Source}, OS L s -> ∃ x t, (Option.bind (y4 s 2) fun r28 => Option.bind (k9 r28.2 (w64 (2 + r28.1)) (w64 ((i : Int) + 1)) (N : Int)) fun r29 => some (b1t 16 r29.1, r29.2)) = some (x, t) /\ OS L t /\ GN N i x := fun hlt s hs => by
  obtain ⟨m, t2, e2, ht2, m0, m1⟩ := Y2 hL hs (n := 2) (by omega) (by omega)
  obtain ⟨m, rfl⟩ := a7Y m0
  obtain ⟨l, t3, e3, ht3, hl, hr⟩ := ix ht2 (m + 2) (i + 1) (by omega) hlt
  rw [e2]
  simp only [Option.bind_some]
  have e3' : k9 t2 (w64 (2 + (m : Int))) (w64 ((i : Int) + 1)) (N : Int) = some (l, t3) := by
   rw [K7 (x := 2 + (m : Int)) (by omega) (by omega), hwi, show 2 + (m : Int) = ((m + 2 : Nat) : Int) by omega]
   exact e3
  rw [e3']
  refine ⟨_, t3, rfl, ht3, a9e (l := l) (b0j hr) (show l.length <= 4 by omega) ?_ (fun _ x hx => by have := hr x hx; omega)⟩
  show decide (1 <= (l.length : Int)) = true
  exact decide_eq_true (by omega)
 rcases hc with rfl | rfl | rfl | rfl | rfl | rfl | rfl | rfl | rfl | rfl | rfl | rfl | rfl | rfl | rfl | rfl | rfl | rfl <;> simp only [Int.reduceBEq, cond_true, cond_false, Option.bind_some, Z8]
 ·obtain ⟨a, t2, e2, ht2, a0, a1⟩ := Y2 hL ht (n := 5) (by omega) (by omega)
  obtain ⟨d, t3, e3, ht3, d0, d1⟩ := Y2 hL ht2 (n := w64 (5 - a)) (by rw [K7 (by omega) (by omega)]; omega) (by rw [K7 (by omega) (by omega)]; omega)
  rw [K7 (x := 5 - a) (by omega) (by omega)] at d1
  rw [e2]
  simp only [Option.bind_some]
  rw [e3]
  simp only [Option.bind_some]
  rw [K7 (x := a + d) (by omega) (by omega)]
  have ha : a = 0 \/ a = 1 \/ a = 2 \/ a = 3 \/ a = 4 := by omega
  have hd : d = 0 \/ d = 1 \/ d = 2 \/ d = 3 \/ d = 4 := by omega
  rcases ha with rfl | rfl | rfl | rfl | rfl <;> rcases hd with rfl | rfl | rfl | rfl | rfl <;> first | (exfalso; omega) | exact ⟨_, t3, rfl, ht3, c56 (by decide)⟩
 ·obtain ⟨x, t2, e2, ht2, hx⟩ := a8T hL ht
  have hf := List.all_eq_true.1 a92 x hx
  simp only [Bool.and_eq_true, decide_eq_true_eq] at hf
  rw [e2]
  exact ⟨_, t2, rfl, ht2, c0B hf.2 (.inr (.inl ⟨rfl, hf.1⟩))⟩
 ·exact ⟨_, t, rfl, ht, b7r (by omega)⟩
 ·obtain ⟨x, t2, e2, ht2, hx⟩ := b5n hL ht
  have hf := List.all_eq_true.1 a95 x hx
  simp only [decide_eq_true_eq] at hf
  rw [e2]
  exact ⟨_, t2, rfl, ht2, c0B hf (.inl rfl)⟩
 ·obtain ⟨a, t2, e2, ht2, a0, a1⟩ := Y2 hL ht (n := 4) (by omega) (by omega)
  rw [e2]
  have ha : a = 0 \/ a = 1 \/ a = 2 \/ a = 3 := by omega
  rcases ha with rfl | rfl | rfl | rfl <;> exact ⟨_, t2, rfl, ht2, b7r (by omega)⟩
 ·exact ⟨_, t, rfl, ht, b7r (by omega)⟩
 ·obtain ⟨a, t2, e2, ht2, a0, a1⟩ := Y2 hL ht (n := 2) (by omega) (by omega)
  rw [e2]
  have ha : a = 0 \/ a = 1 := by omega
  rcases ha with rfl | rfl <;> exact ⟨_, t2, rfl, ht2, b7r (by omega)⟩
 ·obtain ⟨x, t2, e2, ht2, hx⟩ := b6t hL ht
  have hf := List.all_eq_true.1 c28 x hx
  simp only [Bool.and_eq_true, decide_eq_true_eq] at hf
  rw [e2]
  exact ⟨_, t2, rfl, ht2, c0B hf.2 (.inr (.inr ⟨rfl, hf.1⟩))⟩
 ·exact tup ht
 ·exact tup ht
 ·obtain ⟨l, t3, e3, ht3, hl, hr⟩ := ix ht 2 0 (by omega) (by omega)
  have e3' : k9 t 2 0 (N : Int) = some (l, t3) := e3
  rw [e3']
  refine ⟨_, t3, rfl, ht3, a9e (l := l) (b0j hr) (show l.length <= 4 by omega) ?_ (fun h => by omega)⟩
  show ((l.length : Int) == 2) = true
  simp [hl]
 ·obtain ⟨x, t2, e2, ht2, hg⟩ := c0E hL ht N i (by omega) hN2
  rw [e2]
  exact ⟨x, t2, rfl, ht2, hg⟩
 ·exact fun_ ht
 ·exact fun_ ht
 ·have hlt := hlast (by omega)
  obtain ⟨l, t3, e3, ht3, hl, hr⟩ := ix ht 1 (i + 1) (by omega) hlt
  have e3' : k9 t 1 (w64 ((i : Int) + 1)) (N : Int) = some (l, t3) := by rw [hwi]; exact e3
  rw [e3']
  refine ⟨_, t3, rfl, ht3, a9e (l := l) (b0j hr) (show l.length <= 4 by omega) ?_ (fun _ x hx => by have := hr x hx; omega)⟩
  show ((l.length : Int) == 1) = true
  simp [hl]
 ·have hlt := hlast (by omega)
  obtain ⟨l, t3, e3, ht3, hl, hr⟩ := ix ht 2 (i + 1) (by omega) hlt
  have e3' : k9 t 2 (w64 ((i : Int) + 1)) (N : Int) = some (l, t3) := by rw [hwi]; exact e3
  rw [e3']
  refine ⟨_, t3, rfl, ht3, a9e (l := l) (b0j hr) (show l.length <= 4 by omega) ?_ (fun _ x hx => by have := hr x hx; omega)⟩
  show decide (1 <= (l.length : Int)) = true
  exact decide_eq_true (by omega)
 ·exact uni (hlast (by omega)) ht
 ·exact uni (hlast (by omega)) ht
def GNs (N : Nat) (ns : List Api_TypeNode) : Prop := ∀ (i : Nat) (x : Api_TypeNode), ns[i]? = some x -> GN N i x
theorem GNs.snoc {N : Nat} {ns : List Api_TypeNode} {x : Api_TypeNode} (h : GNs N ns) (hx : GN N ns.length x) : GNs N (ns ++ [x]) := fun i y hy => by
 by_cases hi : i < ns.length
 ·rw [List.getElem?_append_left hi] at hy
  exact h i y hy
 ·have hlt := (List.getElem?_eq_some_iff.1 hy).1
  simp only [List.length_append, List.length_cons, List.length_nil] at hlt
  have e : i = ns.length := by omega
  subst e
  simp at hy
  subst hy
  exact hx
theorem c4L (hL : L.length <= 4194304) {s : Semtypebase_Source} (h : OS L s) (N : Nat) (hN : 1 <= N) (hN2 : N <= 100) : ∃ ns t, a0q s (N : Int) = some ((ns, 0), t) /\ OS L t /\ ns.length = N /\ GNs N ns := by
 unfold a0q
 have hmax : max (N : Int) 1 = (N : Int) := by omega
 rw [hmax, Int.toNat_natCast]
 obtain ⟨g, s', e, hs', h1, h2⟩ := b0t (γ := List Api_TypeNode) (L := L) (step := a0x (N : Int)) (fun g j s => (j, s, (g, 0))) (fun g s => (s, (g, 0))) (fun j g => g.length = j /\ GNs N g) N
  (fun j g s hj hI hs => by
    obtain ⟨x, t, e, ht, hx⟩ := c4E hL hs N j hj hN2
    refine ⟨g ++ [x], t, ?_, ht, by simp [hI.1], hI.2.snoc (by rw [hI.1]; exact hx)⟩
    unfold a0x
    simp only [Z8, hmax]
    rw [Q7 hj, e]
    simp only [cond_true, Option.bind_some]
    rw [Z7 (by simp only [List.length_cons, List.length_nil]; have := hI.1; omega), w6 j (by omega)]
    rfl) (fun g s => by
    unfold a0x
    simp [hmax]) N 0 (N + 1) [] s (by omega) (Nat.le_refl _) ⟨rfl, fun i x hx => by simp at hx⟩ h
 have e' : j5 (a0x (N : Int)) (N + 1) (0, s, ([], 0)) = some (s', (g, 0)) := e
 rw [e']
 exact ⟨g, s', rfl, hs', h1, h2⟩
end
end Go.Pl
end
section
namespace Go.Pl
open Go Go.RowKit Go.Sx Go.Qx
theorem c67 {a b : ByteArray} (h : cS a b = 0) : a = b := by
 rcases b4D a.data.toList b.data.toList with ⟨_, e, _⟩ | ⟨_, _, e⟩ | ⟨_, e, _⟩
 ·have : cS a b = -1 := e
  omega
 ·exact ByteArray.ext (Array.toList_inj.1 e)
 ·have : cS a b = 1 := e
  omega
theorem c7d {a b : Key} (h : cK a b = 0) : a = b := by
 obtain ⟨k, t⟩ := a
 obtain ⟨k2, t2⟩ := b
 unfold cK tn at h
 simp only at h
 rcases X0 k k2 with ⟨_, e⟩ | ⟨_, e⟩ | ⟨p, e⟩
 ·rw [e] at h; simp at h
 ·rw [e] at h; simp at h
 ·rw [e, if_pos rfl] at h
  rw [p, c67 h]
theorem c4o (a b c : Key) (h1 : cK a b <= 0) (h2 : cK b c <= 0) : cK a c <= 0 := by rw [c1O] at *; exact b9G _ _ _ h1 h2
theorem c2J {a b c : Key} (h1 : cK a b < 0) (h2 : cK b c <= 0) : cK a c < 0 := by
 have h3 := c4o a b c (by omega) h2
 by_cases h : cK a c = 0
 ·have := c7d h
  subst this
  have := c02 a b
  omega
 ·omega
abbrev ltK (a b : Key) : Prop := cK a b < 0
theorem asc_pw : ∀ l : List Key, asc cK l = true ↔ l.Pairwise ltK
 | [] => by simp [asc]
 | [a] => by simp [asc]
 | a :: b :: r => by
   have ih := asc_pw (b :: r)
   simp only [asc, Bool.and_eq_true, decide_eq_true_eq]
   rw [ih, List.pairwise_cons (a := a)]
   constructor
   ·intro ⟨h1, h2⟩
    refine ⟨fun x hx => ?_, h2⟩
    rcases List.mem_cons.1 hx with rfl | hx
    ·exact h1
    ·have := (List.pairwise_cons.1 h2).1 x hx
     exact c2J h1 (by unfold ltK at this; omega)
   ·intro ⟨h1, h2⟩
    exact ⟨h1 b (by simp), h2⟩
end Go.Pl
end
section
namespace Go.Pl
open Go Go.RowKit Go.Sx Go.Qx
structure CmpOk {α : Type} (c : α -> α -> Int) : Prop where
 anti : ∀ a b, c b a = - c a b
 trans : ∀ a b d, c a b <= 0 -> c b d <= 0 -> c a d <= 0
 eq0 : ∀ a b, c a b = 0 -> a = b
theorem cI0 {x y : Int} (h : cI x y = 0) : x = y := by
 rcases X0 x y with ⟨_, e⟩ | ⟨_, e⟩ | ⟨p, _⟩
 ·omega
 ·omega
 ·exact p
section
variable {α : Type} {c : α -> α -> Int} (hc : CmpOk c)
include hc
theorem CmpOk.self (a : α) : c a a = 0 := by have := hc.anti a a; omega
theorem CmpOk.strict {a b d : α} (h1 : c a b < 0) (h2 : c b d <= 0) : c a d < 0 := by
 have h3 := hc.trans a b d (by omega) h2
 by_cases h : c a d = 0
 ·have := hc.eq0 _ _ h
  subst this
  have := hc.anti a b
  omega
 ·omega
theorem CmpOk.asc_pw : ∀ l : List α, asc c l = true ↔ l.Pairwise fun a b => c a b < 0
 | [] => by simp [asc]
 | [a] => by simp [asc]
 | a :: b :: r => by
   have ih := CmpOk.asc_pw (b :: r)
   simp only [asc, Bool.and_eq_true, decide_eq_true_eq]
   rw [ih, List.pairwise_cons (a := a)]
   constructor
   ·intro ⟨h1, h2⟩
    refine ⟨fun x hx => ?_, h2⟩
    rcases List.mem_cons.1 hx with rfl | hx
    ·exact h1
    ·have := (List.pairwise_cons.1 h2).1 x hx
     exact hc.strict h1 (by omega)
   ·intro ⟨h1, h2⟩
    exact ⟨h1 b (by simp), h2⟩
theorem CmpOk.nodup {l : List α} (h : l.Pairwise fun a b => c a b < 0) : l.Nodup := h.imp fun {a b} h e => by
 subst e
 have := hc.self a
 omega
theorem CmpOk.uniq {l m : List α} (h1 : asc c l = true) (h2 : asc c m = true) (h : ∀ x, x ∈ l ↔ x ∈ m) : l = m := by
 have p1 := (hc.asc_pw l).1 h1
 have p2 := (hc.asc_pw m).1 h2
 have hp := (List.perm_ext_iff_of_nodup (hc.nodup p1) (hc.nodup p2)).2 h
 exact hp.eq_of_pairwise (le := fun a b => c a b < 0) (fun a b _ _ h1 h2 => by have := hc.anti a b; omega) p1 p2
omit hc in
def a2o (c : α -> α -> Int) (out : List α) (x : α) : List α :=
 match (out.dropWhile (fun y => decide (c y x < 0))).head? with
 | some y => if c y x = 0 then out else X3 (fun y => decide (c y x < 0)) x out
 | none => X3 (fun y => decide (c y x < 0)) x out
omit hc in
theorem b8C {p : α -> Bool} {x y : α} {out : List α} : y ∈ X3 p x out ↔ y = x \/ y ∈ out := by
 constructor
 ·exact b1d
 ·intro h
  have e := List.takeWhile_append_dropWhile (p := p) (l := out)
  simp only [X3, List.mem_append, List.mem_singleton]
  rcases h with h | h
  ·exact .inl (.inr h)
  ·rw [<- e] at h
   rcases List.mem_append.1 h with h | h
   ·exact .inl (.inl h)
   ·exact .inr h
theorem c4S {x y : α} {out : List α} : y ∈ a2o c out x ↔ y = x \/ y ∈ out := by
 unfold a2o
 split
 ·rename_i z hz
  split
  ·rename_i h0
   have := hc.eq0 _ _ h0
   subst this
   have hm : z ∈ out := (List.dropWhile_sublist _).subset (List.mem_of_mem_head? hz)
   constructor
   ·exact .inr
   ·rintro (rfl | h)
    ·exact hm
    ·exact h
  ·exact b8C
 ·exact b8C
theorem c38 (out : List α) (x : α) (h : asc c out = true) : asc c (a2o c out x) = true := by
 unfold a2o
 split
 ·rename_i y hy
  split
  ·exact h
  ·rename_i hne
   refine b0f c hc.anti x out h (fun z hz => ?_)
   rw [hy] at hz
   cases hz
   exact hne
 ·rename_i hy
  refine b0f c hc.anti x out h (fun z hz => ?_)
  rw [hy] at hz; cases hz
theorem c49 : ∀ (xs out : List α), asc c out = true -> asc c (xs.foldl (a2o c) out) = true /\ ∀ y, y ∈ xs.foldl (a2o c) out ↔ y ∈ out \/ y ∈ xs
 | [], out, h => ⟨h, fun y => by simp⟩
 | x :: r, out, h => by
   obtain ⟨h1, h2⟩ := c49 r (a2o c out x) (c38 hc out x h)
   refine ⟨h1, fun y => ?_⟩
   rw [List.foldl_cons, h2, c4S hc, List.mem_cons]
   constructor
   ·rintro ((h | h) | h)
    ·exact .inr (.inl h)
    ·exact .inl h
    ·exact .inr (.inr h)
   ·rintro (h | h | h)
    ·exact .inl (.inr h)
    ·exact .inl (.inl h)
    ·exact .inr h
theorem c3Q (xs : List α) : asc c (xs.foldl (a2o c) []) = true /\ ∀ y, y ∈ xs.foldl (a2o c) [] ↔ y ∈ xs := by
 obtain ⟨h1, h2⟩ := c49 hc xs [] rfl
 exact ⟨h1, fun y => by rw [h2]; simp⟩
omit hc in
def dd (r : α -> α -> Bool) : α -> List α -> List α
 | _, [] => []
 | p, x :: l => if r x p = true then dd r x l else x :: dd r x l
omit hc in
def a7Q (r : α -> α -> Bool) : List α -> List α
 | [] => []
 | x :: l => x :: dd r x l
theorem c4Z : ∀ (l : List α) (p : α), (p :: l).Pairwise (fun a b => ¬ c b a < 0) ->
 (p :: dd (fun x y => decide (c x y = 0)) p l).Pairwise (fun a b => c a b < 0) /\ ∀ y, y ∈ p :: dd (fun x y => decide (c x y = 0)) p l ↔ y ∈ p :: l
 | [], p, _ => ⟨by simp [dd], fun y => by simp [dd]⟩
 | x :: l, p, h => by
   have hp := List.pairwise_cons.1 h
   obtain ⟨h1, h2⟩ := c4Z l x hp.2
   simp only [dd]
   by_cases h0 : c x p = 0
   ·rw [if_pos (by simpa using h0)]
    have := hc.eq0 _ _ h0
    subst this
    refine ⟨h1, fun y => ?_⟩
    rw [h2]
    simp
   ·rw [if_neg (by simpa using h0)]
    have hlt : c p x < 0 := by have := hp.1 x (by simp); have := hc.anti p x; omega
    refine ⟨List.pairwise_cons.2 ⟨fun b hb => ?_, h1⟩, fun y => ?_⟩
    ·rcases List.mem_cons.1 hb with rfl | hb
     ·exact hlt
     ·exact hc.strict hlt (by have := (List.pairwise_cons.1 h1).1 b hb; omega)
    ·rw [List.mem_cons, h2, List.mem_cons (b := p)]
theorem c3K (l : List α) (h : l.Pairwise fun a b => ¬ c b a < 0) : asc c (a7Q (fun x y => decide (c x y = 0)) l) = true /\ ∀ y, y ∈ a7Q (fun x y => decide (c x y = 0)) l ↔ y ∈ l := by
 cases l with
 | nil => exact ⟨rfl, fun y => Iff.rfl⟩
 | cons p l =>
   obtain ⟨h1, h2⟩ := c4Z hc l p h
   exact ⟨(hc.asc_pw _).2 h1, h2⟩
theorem c0D {xs p : List α} (hp : p.Perm xs) (hs : p.Pairwise fun a b => ¬ c b a < 0) : a7Q (fun x y => decide (c x y = 0)) p = xs.foldl (a2o c) [] := by
 obtain ⟨h1, h2⟩ := c3K hc p hs
 obtain ⟨h3, h4⟩ := c3Q hc xs
 exact hc.uniq h1 h3 fun y => by rw [h2, h4, hp.mem_iff]
theorem c3J {xs : List α} (h : asc c xs = true) : xs.foldl (a2o c) [] = xs := by
 obtain ⟨h3, h4⟩ := c3Q hc xs
 exact hc.uniq h3 h h4
end
section
variable {α : Type} {r : α -> α -> Bool}
theorem c1u {ok : α -> Prop} {step : (Int × Int) × List α -> Option (Fl ((Int × Int) × List α) (Int × List α))} (i0 n : Nat)
 (hst : ∀ (i k : Nat) (s : List α) (x y : α), ok x -> s.length = n -> i0 + k < n -> 1 <= k -> i < i0 + k -> s[i0 + k]? = some x -> s[i0 + k - 1]? = some y ->
   step (((i : Int), (k : Int)), s) = some (.next (if r x y = true then (((i : Int), ((k + 1 : Nat) : Int)), s) else ((((i + 1 : Nat) : Int), ((k + 1 : Nat) : Int)), s.set i x))))
 (hend : ∀ (i : Int) (k : Nat) (s : List α), s.length = n -> i0 + k = n -> step ((i, (k : Int)), s) = some (.done (i, s))) :
 ∀ (m i k : Nat) (s : List α) (y : α) (fuel : Nat), s.length = n -> i0 + k + m = n -> 1 <= k -> i < i0 + k -> s[i0 + k - 1]? = some y -> m + 1 <= fuel -> (∀ x ∈ s, ok x) ->
  ∃ s', j5 step fuel (((i : Int), (k : Int)), s) = some (((i + (dd r y (s.drop (i0 + k))).length : Nat) : Int), s') /\ s'.length = n /\ s'.take (i + (dd r y (s.drop (i0 + k))).length) = s.take i ++ dd r y (s.drop (i0 + k)) := by
 intro m
 induction m with
 | zero =>
   intro i k s y fuel hl hm hk hi hy hf hok
   obtain ⟨fuel, rfl⟩ : ∃ m, fuel = m + 1 := ⟨fuel - 1, by omega⟩
   have e : s.drop (i0 + k) = [] := List.drop_eq_nil_of_le (by omega)
   rw [e]
   refine ⟨s, ?_, hl, ?_⟩
   ·simp only [j5, hend (i : Int) k s hl (by omega), Option.bind_some]
    rfl
   ·simp [dd]
 | succ m ih =>
   intro i k s y fuel hl hm hk hi hy hf hok
   obtain ⟨fuel, rfl⟩ : ∃ m, fuel = m + 1 := ⟨fuel - 1, by omega⟩
   have hlt : i0 + k < s.length := by omega
   have hx := List.getElem?_eq_getElem hlt
   rw [List.drop_eq_getElem_cons hlt]
   simp only [dd]
   simp only [j5, hst i k s _ y (hok _ (List.getElem_mem hlt)) hl (by omega) hk hi hx hy, Option.bind_some]
   by_cases h : r s[i0 + k] y = true
   ·rw [if_pos h, if_pos h]
    have := ih i (k + 1) s s[i0 + k] fuel hl (by omega) (by omega) (by omega) (by rw [show i0 + (k + 1) - 1 = i0 + k by omega]; exact hx) (by omega) hok
    rw [show i0 + (k + 1) = i0 + k + 1 by omega] at this
    exact this
   ·rw [if_neg h, if_neg h]
    have hd : (s.set i s[i0 + k]).drop (i0 + k + 1) = s.drop (i0 + k + 1) := by
     rw [List.drop_set_of_lt (by omega)]
    have := ih (i + 1) (k + 1) (s.set i s[i0 + k]) s[i0 + k] fuel (by rw [List.length_set]; exact hl) (by omega) (by omega) (by omega) (by
     rw [show i0 + (k + 1) - 1 = i0 + k by omega]
     by_cases e : i = i0 + k
     ·omega
     ·rw [List.getElem?_set_ne e]; exact hx) (by omega) (fun z hz => by
     rcases List.mem_or_eq_of_mem_set hz with hz | rfl
     ·exact hok z hz
     ·exact hok _ (List.getElem_mem hlt))
    rw [show i0 + (k + 1) = i0 + k + 1 by omega, hd] at this
    obtain ⟨s', h1, h2, h3⟩ := this
    refine ⟨s', ?_, h2, ?_⟩
    ·rw [h1, List.length_cons]
     congr 3
     omega
    ·rw [List.length_cons, show i + ((dd r s[i0 + k] (s.drop (i0 + k + 1))).length + 1) = i + 1 + (dd r s[i0 + k] (s.drop (i0 + k + 1))).length by omega, h3]
     have e : (s.set i s[i0 + k]).take (i + 1) = s.take i ++ [s[i0 + k]] := by
      rw [a22 (x := s[i0 + k]) (by rw [List.getElem?_set_self (by omega)]), List.take_set_of_le (Nat.le_refl _)]
     rw [e, List.append_assoc]
     rfl
theorem c2T {step : (Int × Int) × List α -> Option (Fl ((Int × Int) × List α) (Int × List α))} (i0 n : Nat)
 (hst : ∀ (i k : Nat) (s : List α) (x y : α), s.length = n -> i0 + k < n -> 1 <= k -> i < i0 + k -> s[i0 + k]? = some x -> s[i0 + k - 1]? = some y ->
   step (((i : Int), (k : Int)), s) = some (.next (if r x y = true then (((i : Int), ((k + 1 : Nat) : Int)), s) else ((((i + 1 : Nat) : Int), ((k + 1 : Nat) : Int)), s.set i x))))
 (hend : ∀ (i : Int) (k : Nat) (s : List α), s.length = n -> i0 + k = n -> step ((i, (k : Int)), s) = some (.done (i, s)))
 (m i k : Nat) (s : List α) (y : α) (fuel : Nat) (h1 : s.length = n) (h2 : i0 + k + m = n) (h3 : 1 <= k) (h4 : i < i0 + k) (h5 : s[i0 + k - 1]? = some y) (h6 : m + 1 <= fuel) :
   ∃ s', j5 step fuel (((i : Int), (k : Int)), s) = some (((i + (dd r y (s.drop (i0 + k))).length : Nat) : Int), s') /\ s'.length = n /\ s'.take (i + (dd r y (s.drop (i0 + k))).length) = s.take i ++ dd r y (s.drop (i0 + k)) :=
 c1u (ok := fun _ => True) i0 n (fun i k s x y _ => hst i k s x y) hend m i k s y fuel h1 h2 h3 h4 h5 h6 (fun _ _ => trivial)
theorem c3h : ∀ (l : List α) (p : α), (dd r p l).length <= l.length
 | [], _ => Nat.le_refl _
 | x :: l, p => by
   have := c3h l x
   simp only [dd]
   split
   ·simp only [List.length_cons]; omega
   ·simp only [List.length_cons]; omega
theorem b1S : ∀ (a : List α) (p : α) (l : List α), (∀ (i : Nat) (x y : α), (a ++ [p])[i + 1]? = some x -> (a ++ [p])[i]? = some y -> r x y = false) -> a7Q r (a ++ p :: l) = a ++ p :: dd r p l
 | [], p, l, _ => rfl
 | x :: a, p, l, h => by
   have h2 := b1S a p l (fun i u v h1 h2 => h (i + 1) u v (by simpa using h1) (by simpa using h2))
   cases a with
   | nil =>
     have h0 := h 0 p x rfl rfl
     show x :: dd r x (p :: l) = _
     simp [dd, h0]
   | cons y a =>
     have h0 := h 0 y x rfl rfl
     show x :: dd r x (y :: (a ++ p :: l)) = _
     simp only [dd, h0, Bool.false_eq_true, if_false]
     have h2' : y :: dd r y (a ++ p :: l) = y :: a ++ p :: dd r p l := h2
     rw [h2']
     rfl
end
end Go.Pl
namespace Go.Pl
open Go Go.RowKit Go.Sx Go.Qx
theorem c4K (x y : ByteArray) : V3 x y = decide (cS x y = 0) := by
 rcases a7f x y with ⟨_, h, e⟩ | ⟨_, h, e⟩ | ⟨_, h, e⟩ <;> simp [h, e]
theorem c3L (x y : ByteArray) : a1V x y = decide (cS x y < 0) := by
 rcases a7f x y with ⟨h, _, e⟩ | ⟨h, _, e⟩ | ⟨h, _, e⟩ <;> simp [h, e]
theorem c0R (l out : List ByteArray) (i : Nat) (x : ByteArray) (hx : l[i]? = some x) (hl : out.length <= 4194304) (hi : i <= 4194304) :
 a0h l (out, (i : Int)) = some (.next (a2o cS out x, ((i + 1 : Nat) : Int))) := by
 have hlt : i < l.length := (List.getElem?_eq_some_iff.1 hx).1
 have hix : idx l (i : Int) = some x := v8 hx
 unfold a0h
 simp only [V6]
 rw [b9F (step := a2v l (out, (i : Int))) out (fun y => decide (cS y x < 0)) ?_ ?_]
 ·simp only [a0r, Z8]
  rw [if_pos (by simp; omega)]
  simp only [Option.bind_some, hix]
  have hk := b2r (fun y => decide (cS y x < 0)) out
  have hat := b9d (fun y => decide (cS y x < 0)) out
  have go : (Option.bind (cut out 0 ((out.takeWhile (fun y => decide (cS y x < 0))).length : Int)) fun u => Option.bind (Z5 (0 + u.length) 16) fun _ =>
   Option.bind (Z5 (u.length + [x].length) 16) fun _ => Option.bind (cut out ((out.takeWhile (fun y => decide (cS y x < 0))).length : Int) (out.length : Int)) fun w =>
   Option.bind (Z5 ((u ++ [x]).length + w.length) 16) fun _ => some ((u ++ [x]) ++ w)) = some (X3 (fun y => decide (cS y x < 0)) x out) :=
   c2G out x _ 16 (by omega) hl (fun l => some l)
  rw [w6 i (by omega), go]
  unfold a2o
  cases hh : (out.dropWhile (fun y => decide (cS y x < 0))).head? with
  | none =>
    rw [hh] at hat
    have hge := List.getElem?_eq_none_iff.1 hat
    rw [if_neg (by simp; omega)]
    rfl
  | some y =>
    rw [hh] at hat
    have hlt2 := (List.getElem?_eq_some_iff.1 hat).1
    rw [if_pos (by simp; omega), v8 hat]
    simp only [Option.bind_some, c4K]
    by_cases h0 : cS y x = 0
    ·rw [if_pos (by simp [h0]), if_pos h0]
     rfl
    ·rw [if_neg (by simp [h0]), if_neg h0]
     rfl
 ·intro j y hy
  have hj : j < out.length := (List.getElem?_eq_some_iff.1 hy).1
  unfold a2v
  simp only [a0r, Z8]
  rw [if_pos (by simp; omega), v8 hy, hix]
  simp only [Option.bind_some, c3L, w6 j (by omega)]
  by_cases h : cS y x < 0 <;> simp [h]
 ·unfold a2v
  simp
theorem b9W {α : Type} (c : α -> α -> Int) (out : List α) (x : α) : (a2o c out x).length <= out.length + 1 := by
 unfold a2o
 split
 ·split
  ·omega
  ·rw [a5M]; omega
 ·rw [a5M]; omega
theorem b8K (l : List ByteArray) (hl : l.length <= 4194304) : X4 l = some (l.foldl (a2o cS) []) := by
 unfold X4
 have key := b43 (σ := List ByteArray) (step := a0h l) l (fun s i => (s, (i : Int))) (a2o cS) (fun i s => s.length <= i) (fun s => s)
  ?_ ?_ [] (by simp) _ (Nat.le_refl _)
 ·have e : j5 (a0h l) (l.length + 1) (([] : List ByteArray), 0) = j5 (a0h l) (l.length + 1) (([] : List ByteArray), ((0 : Nat) : Int)) := rfl
  rw [V6, e, key]
  rfl
 ·intro i s x hx hI
  have hi : i < l.length := (List.getElem?_eq_some_iff.1 hx).1
  refine ⟨c0R l s i x hx (by omega) (by omega), ?_⟩
  have := b9W cS s x
  omega
 ·intro s _
  unfold a0h
  simp
theorem b0H (a b : List ByteArray) : J0 (a ++ b) = J0 a + J0 b := by
 induction a with
 | nil => simp [J0]
 | cons x r ih => simp only [List.cons_append, J0, ih]; omega
theorem c25 (out : List ByteArray) (x : ByteArray) : J0 (a2o cS out x) <= J0 out + a0Y x := by
 have hk : ∀ p : ByteArray -> Bool, J0 (X3 p x out) = J0 out + a0Y x := fun p => by
  have e := congrArg J0 (List.takeWhile_append_dropWhile (p := p) (l := out))
  rw [b0H] at e
  simp only [X3, b0H, J0]
  omega
 unfold a2o
 split
 ·split
  ·omega
  ·rw [hk]; omega
 ·rw [hk]; omega
theorem b3y : ∀ (l out : List ByteArray), J0 (l.foldl (a2o cS) out) <= J0 out + J0 l
 | [], out => by simp [J0]
 | x :: r, out => by
   have h1 := b3y r (a2o cS out x)
   have h2 := c25 out x
   simp only [List.foldl_cons, J0]
   omega
section
variable {α : Type} {r : α -> α -> Bool}
theorem c2B {step : List α × Int -> Option (Fl (List α × Int) (Sum (List α) (List α × List α)))} (s : List α) (hl : 1 <= s.length)
 (hst : ∀ (i : Nat) (x y : α), 1 <= i -> s[i]? = some x -> s[i - 1]? = some y -> r x y = false -> step (s, (i : Int)) = some (.next (s, ((i + 1 : Nat) : Int))))
 (hhit : ∀ (i : Nat) (x y : α), 1 <= i -> s[i]? = some x -> s[i - 1]? = some y -> r x y = true -> ∃ q, step (s, (i : Int)) = some (.done (.inr (q, s.take i ++ dd r x (s.drop (i + 1))))))
 (hend : step (s, (s.length : Int)) = some (.done (.inl s))) :
 (j5 step (s.length + 1) (s, 1) = some (.inl s) /\ a7Q r s = s) \/ ∃ q, j5 step (s.length + 1) (s, 1) = some (.inr (q, a7Q r s)) := by
 have key : ∀ (m i fuel : Nat), i + m = s.length -> 1 <= i -> m + 1 <= fuel -> (∀ j : Nat, (hj : j + 1 < s.length) -> j + 1 < i -> r s[j + 1] (s[j]'(by omega)) = false) ->
  (j5 step fuel (s, (i : Int)) = some (.inl s) /\ a7Q r s = s) \/ ∃ q, j5 step fuel (s, (i : Int)) = some (.inr (q, a7Q r s)) := by
  intro m
  induction m with
  | zero =>
    intro i fuel hm hi hf hok
    obtain ⟨fuel, rfl⟩ : ∃ m, fuel = m + 1 := ⟨fuel - 1, by omega⟩
    have e : i = s.length := by omega
    subst e
    left
    refine ⟨by simp only [j5, hend, Option.bind_some], ?_⟩
    have h1 : s.length - 1 < s.length := by omega
    have hs : s = s.take (s.length - 1) ++ s[s.length - 1] :: [] := by
     have := a22 (List.getElem?_eq_getElem h1)
     rw [show s.length - 1 + 1 = s.length by omega, List.take_length] at this
     exact this
    have hc := b1S (r := r) (s.take (s.length - 1)) s[s.length - 1] [] (by
     rw [<- hs]
     intro j x y h1 h2
     have hj := (List.getElem?_eq_some_iff.1 h1).1
     rw [List.getElem?_eq_getElem hj] at h1
     rw [List.getElem?_eq_getElem (by omega)] at h2
     cases h1; cases h2
     exact hok j hj (by omega))
    rw [<- hs] at hc
    rw [hc]
    exact hs.symm
  | succ m ih =>
    intro i fuel hm hi hf hok
    obtain ⟨fuel, rfl⟩ : ∃ m, fuel = m + 1 := ⟨fuel - 1, by omega⟩
    have hlt : i < s.length := by omega
    have hlt2 : i - 1 < s.length := by omega
    have hx := List.getElem?_eq_getElem hlt
    have hy := List.getElem?_eq_getElem hlt2
    by_cases h : r s[i] s[i - 1] = true
    ·right
     obtain ⟨q, hq⟩ := hhit i _ _ hi hx hy h
     refine ⟨q, ?_⟩
     simp only [j5, hq, Option.bind_some]
     have hs : s = s.take (i - 1) ++ s[i - 1] :: s[i] :: s.drop (i + 1) := by
      have e1 := List.take_append_drop (i - 1) s
      have e2 := List.drop_eq_getElem_cons hlt2
      have e3 := List.drop_eq_getElem_cons hlt
      rw [show i - 1 + 1 = i by omega, e3] at e2
      rw [<- e2]
      exact e1.symm
     have hc := b1S (r := r) (s.take (i - 1)) s[i - 1] (s[i] :: s.drop (i + 1)) (by
      have e : s.take (i - 1) ++ [s[i - 1]] = s.take i := by
       have := a22 hy
       rw [show i - 1 + 1 = i by omega] at this
       exact this.symm
      rw [e]
      intro j x y h1 h2
      have hj := (List.getElem?_eq_some_iff.1 h1).1
      have hj' : j + 1 < i := by rw [List.length_take] at hj; omega
      rw [List.getElem?_take_of_lt hj', List.getElem?_eq_getElem (by omega)] at h1
      rw [List.getElem?_take_of_lt (by omega), List.getElem?_eq_getElem (by omega)] at h2
      cases h1; cases h2
      exact hok j (by omega) hj')
     rw [<- hs] at hc
     rw [hc]
     have e : s.take i = s.take (i - 1) ++ [s[i - 1]] := by
      have := a22 hy
      rw [show i - 1 + 1 = i by omega] at this
      exact this
     rw [e, List.append_assoc]
     simp only [dd, h, if_true]
     rfl
    ·have h' : r s[i] s[i - 1] = false := by simpa using h
     simp only [j5, hst i _ _ hi hx hy h', Option.bind_some]
     refine ih (i + 1) fuel (by omega) (by omega) (by omega) (fun j hj hji => ?_)
     by_cases e : j + 1 < i
     ·exact hok j hj e
     ·have : j + 1 = i := by omega
      subst this
      exact h'
 exact key (s.length - 1) 1 (s.length + 1) (by omega) (Nat.le_refl _) (by omega) (fun j _ h => by omega)
theorem c5u {β γ : Type} (z : α) (j n : Nat) (s' T : List α) (hl : s'.length = n) (hj : j < n) (ht : s'.take j = T) :
 ∃ q, (Option.bind (idx s' (j : Int)) fun _ => bif Nat.blt (j : Int).toNat s'.length then (Option.bind (cut (s'.take (j : Int).toNat ++ List.replicate (s'.length - (j : Int).toNat) z) 0 (j : Int)) fun y =>
  some (Fl.done (Sum.inr (s'.take (j : Int).toNat ++ List.replicate (s'.length - (j : Int).toNat) z, y)) : Fl β (Sum γ (List α × List α)))) else none) = some (.done (.inr (q, T))) := by
 refine ⟨s'.take j ++ List.replicate (s'.length - j) z, ?_⟩
 have e : (j : Int).toNat = j := by omega
 rw [v8 (List.getElem?_eq_getElem (show j < s'.length by omega)), e]
 simp only [Option.bind_some]
 have eb : Nat.blt j s'.length = true := by simp [Nat.blt]; omega
 rw [eb, b6X _ (by simp; omega)]
 simp only [cond_true, Option.bind_some]
 rw [List.take_append_of_le_length (by simp; omega), List.take_take, Nat.min_self, ht]
end
theorem b6m (n : Nat) (h : n <= 4611686018427387904) (h1 : 1 <= n) : w64 ((n : Int) - 1) = ((n - 1 : Nat) : Int) := by rw [K7 (by omega) (by omega)]; omega
end Go.Pl
end
section
namespace Go.Pl
open Go Go.RowKit Go.Sx Go.Qx
section
variable {L : List Int} {t : Api_Type} {N b : Nat} {h : Nat} {rN : Semtypebase_Source -> Api_Type -> Int -> Int -> Option (Val × Semtypebase_Source)}
def a7g (L : List Int) (t : Api_Type) (N b h : Nat) (rN : Semtypebase_Source -> Api_Type -> Int -> Int -> Option (Val × Semtypebase_Source)) : Prop :=
 ∀ (k : Nat) (s : Semtypebase_Source), k < N -> OS L s -> ∃ v u, rN s t (k : Int) (h : Int) = some (v, u) /\ OS L u /\ vOK v = true /\ Y1 v <= b
theorem b4E {N : Nat} {x : Api_TypeNode} (hx : W7 N x = true) {j : Nat} (hj : j < x.Kids.length) : ∃ k : Nat, idx x.Kids (j : Int) = some (k : Int) /\ x.Kids[j]? = some (k : Int) /\ k < N := by
 have e := List.getElem?_eq_getElem hj
 obtain ⟨k, hk, hk2⟩ := a25 (a2R hx _ (List.getElem_mem hj))
 rw [hk] at e
 exact ⟨k, v8 e, e, hk2⟩
theorem b7B (hd : a7g L t N b h rN) {x : Api_TypeNode} (hx : W7 N x = true) (hl : x.Kids.length <= 4) (hh : h <= 10) {s : Semtypebase_Source} (hs : OS L s) :
 ∃ g u, j5 (a0u t ((h : Int) + 1) x rN) (x.Kids.length + 1) (0, s, (0, 0, (⟨#[]⟩ : ByteArray), [], [], [], [])) = some (u, (0, 0, (⟨#[]⟩ : ByteArray), g, [], [], [])) /\ OS L u /\ g.length = x.Kids.length /\ v7 g <= x.Kids.length * b := by
 have hw : w64 ((h : Int) + 1 - 1) = (h : Int) := by rw [K7 (by omega) (by omega)]; omega
 obtain ⟨g, u, e, hu, h1, h2⟩ := b0t (γ := List Val) (L := L) (step := a0u t ((h : Int) + 1) x rN) (fun g j s => (j, s, (0, 0, (⟨#[]⟩ : ByteArray), g, [], [], []))) (fun g s => (s, (0, 0, (⟨#[]⟩ : ByteArray), g, [], [], []))) (fun j g => g.length = j /\ v7 g <= j * b) x.Kids.length
  (fun j g s hj hI hs => by
    obtain ⟨k, e1, _, e2⟩ := b4E hx hj
    obtain ⟨v, u, e3, hu, _, hb⟩ := hd k s e2 hs
    refine ⟨g ++ [v], u, ?_, hu, by simp [hI.1], by rw [a2f, Nat.add_mul]; simp only [v7]; have := hI.2; omega⟩
    unfold a0u
    simp only [Z8, hw]
    rw [Q7 hj, e1]
    simp only [cond_true, Option.bind_some]
    rw [e3]
    simp only [Option.bind_some]
    rw [Z7 (by simp only [List.length_cons, List.length_nil]; have := hI.1; omega), w6 j (by omega)]
    rfl) (fun g s => by
    unfold a0u
    simp) x.Kids.length 0 (x.Kids.length + 1) [] s (by omega) (Nat.le_refl _) ⟨rfl, by simp [v7]⟩ hs
 exact ⟨g, u, e, hu, h1, h2⟩
theorem c3s (hd : a7g L t N b h rN) {x : Api_TypeNode} (hx : W7 N x = true) (hl : x.Kids.length <= 4) (h1l : 1 <= x.Kids.length) (hh : h <= 10) {s : Semtypebase_Source} (hs : OS L s) :
 ∃ g u, j5 (J6 t x ((h : Int) + 1) rN) ((w64 ((x.Kids.length : Int) - 1)).toNat + 1) (0, s, ([], false, 0, 0, (⟨#[]⟩ : ByteArray), [], [], [], [])) = some (u, (g, false, 0, 0, (⟨#[]⟩ : ByteArray), [], [], [], [])) /\ OS L u /\ g.length = x.Kids.length - 1 /\ a00 g = true /\ v7 g <= 3 * b := by
 have hw : w64 ((h : Int) + 1 - 1) = (h : Int) := by rw [K7 (by omega) (by omega)]; omega
 have hw2 : w64 ((x.Kids.length : Int) - 1) = ((x.Kids.length - 1 : Nat) : Int) := by rw [K7 (by omega) (by omega)]; omega
 rw [hw2, Int.toNat_natCast]
 obtain ⟨g, u, e, hu, h1, h2, h3⟩ := b0t (γ := List Val) (L := L) (step := J6 t x ((h : Int) + 1) rN) (fun g j s => (j, s, (g, false, 0, 0, (⟨#[]⟩ : ByteArray), [], [], [], []))) (fun g s => (s, (g, false, 0, 0, (⟨#[]⟩ : ByteArray), [], [], [], []))) (fun j g => g.length = j /\ a00 g = true /\ v7 g <= j * b) (x.Kids.length - 1)
  (fun j g s hj hI hs => by
    obtain ⟨k, e1, _, e2⟩ := b4E hx (show j < x.Kids.length by omega)
    obtain ⟨v, u, e3, hu, ho, hb⟩ := hd k s e2 hs
    refine ⟨g ++ [v], u, ?_, hu, by simp [hI.1], by rw [b0G, hI.2.1]; simp [a00, ho], by rw [a2f, Nat.add_mul]; simp only [v7]; have := hI.2.2; omega⟩
    unfold J6
    simp only [Z8, hw, hw2]
    rw [Q7 hj, e1]
    simp only [cond_true, Option.bind_some]
    rw [e3]
    simp only [Option.bind_some]
    rw [Z7 (by simp only [List.length_cons, List.length_nil]; have := hI.1; omega), w6 j (by omega)]
    rfl) (fun g s => by
    unfold J6
    simp [Z8, hw2]) (x.Kids.length - 1) 0 (x.Kids.length - 1 + 1) [] s (by omega) (Nat.le_refl _) ⟨rfl, rfl, by simp [v7]⟩ hs
 have e' : j5 (J6 t x ((h : Int) + 1) rN) (x.Kids.length - 1 + 1) (0, s, ([], false, 0, 0, (⟨#[]⟩ : ByteArray), [], [], [], [])) = some (u, (g, false, 0, 0, (⟨#[]⟩ : ByteArray), [], [], [], [])) := e
 refine ⟨g, u, e', hu, h1, h2, Nat.le_trans h3 (Nat.mul_le_mul_right _ (by omega))⟩
theorem c3m (hL : L.length <= 4194304) (hd : a7g L t N b h rN) (hb : 8 <= b) {x : Api_TypeNode} (hx : W7 N x = true) (hl : x.Kids.length <= 4) (h1l : 1 <= x.Kids.length) (hh : h <= 10) (m : Nat) (hm : m <= 2) {s : Semtypebase_Source} (hs : OS L s) :
 ∃ es u, j5 (V5 t x ((h : Int) + 1) rN) ((m : Int).toNat + 2) ([], (m : Int), s) = some (es, u) /\ OS L u /\ w9 es <= m * (4 * b + 3) := by
 have hw : w64 ((h : Int) + 1 - 1) = (h : Int) := by rw [K7 (by omega) (by omega)]; omega
 have hw2 : w64 ((x.Kids.length : Int) - 1) = ((x.Kids.length - 1 : Nat) : Int) := by rw [K7 (by omega) (by omega)]; omega
 obtain ⟨g, u, e, hu, h1, h2⟩ := a8I (γ := List Ent) (L := L) (step := V5 t x ((h : Int) + 1) rN) (fun g n s => (g, n, s)) (fun g s => (g, s)) (fun j g => g.length = j /\ w9 g <= j * (4 * b + 3)) m
  (fun j n g s hj hn hI hs => by
    obtain ⟨ag, u1, e1, hu1, ha1, _, ha2⟩ := c3s hd hx hl h1l hh hs
    obtain ⟨z, u2, e2, hu2, _, _⟩ := Y2 hL hu1 (n := 6) (by omega) (by omega)
    obtain ⟨k, e3, _, e4⟩ := b4E hx (show x.Kids.length - 1 < x.Kids.length by omega)
    have fin : ∀ (fl : Bool) (v : Val) (u3 : Semtypebase_Source), OS L u3 -> Y1 v <= b -> ∃ g' s', (Option.bind (Z5 (g.length + ([Ent.mk ag fl v] : List Ent).length) 160) fun _ => (some (Fl.next (g ++ ([Ent.mk ag fl v] : List Ent), w64 (((n + 1 : Nat) : Int) - 1), u3)) : Option (Fl (List Ent × Int × Semtypebase_Source) (List Ent × Semtypebase_Source)))) = some (.next (g', (n : Int), s')) /\ OS L s' /\ (g'.length = j + 1 /\ w9 g' <= (j + 1) * (4 * b + 3)) := fun fl v u3 hu3 hv => by
     rw [Z7 (by simp only [List.length_cons, List.length_nil]; have := hI.1; omega), show w64 (((n + 1 : Nat) : Int) - 1) = (n : Int) by rw [K7 (by omega) (by omega)]; omega]
     refine ⟨_, u3, rfl, hu3, by simp [hI.1], ?_⟩
     have hbe := a13 (Ent.mk ag fl v)
     simp only [Ent.Args, Ent.Result] at hbe
     rw [b0d, Nat.add_mul]
     simp only [w9, hbe]
     have := hI.2
     omega
    unfold V5
    simp only [Z8, hw, hw2]
    rw [show decide (0 < ((n + 1 : Nat) : Int)) = true from decide_eq_true (by omega)]
    rw [hw2] at e1
    rw [e1]
    simp only [cond_true, Option.bind_some]
    rw [e2]
    simp only [Option.bind_some]
    cases hz : z == 1
    ·simp only [cond_false]
     obtain ⟨v, u3, e5, hu3, _, hv⟩ := hd k u2 e4 hu2
     rw [e3]
     simp only [Option.bind_some]
     rw [e5]
     simp only [Option.bind_some]
     have := fin false v u3 hu3 hv
     cases v
     exact this
    ·simp only [cond_true, Option.bind_some]
     exact fin true a3x u2 hu2 (by rw [a3x, K3]; simp only [a2a, v7, w4, w9]; omega)) (fun g s => by
    unfold V5
    rfl) m 0 ((m : Int).toNat + 2) [] s (by omega) (by omega) ⟨rfl, by simp [w9]⟩ hs
 exact ⟨g, u, e, hu, by simpa using h2⟩
theorem c0X (hL : L.length <= 4194304) (hd : a7g L t N b h rN) {x : Api_TypeNode} (hf : ∀ f ∈ x.Fields, inR N f.Node = true) (hk : ∀ f ∈ x.Fields, a2y f.Key_ <= 8) (hl : x.Fields.length <= 3) (hh : h <= 10) {s : Semtypebase_Source} (hs : OS L s) :
 ∃ ks vs u, j5 (X8 t x ((h : Int) + 1) rN) (x.Fields.length + 1) ([], [], 0, s) = some (ks, vs, u) /\ OS L u /\ ks.length <= 3 /\ vs.length <= 3 /\ w4 ks <= 24 /\ v7 vs <= 3 * b := by
 have hw : w64 ((h : Int) + 1 - 1) = (h : Int) := by rw [K7 (by omega) (by omega)]; omega
 obtain ⟨g, u, e, hu, h1, h2, h3, h4⟩ := b0t (γ := List Key × List Val) (L := L) (step := X8 t x ((h : Int) + 1) rN) (fun g j s => (g.1, g.2, j, s)) (fun g s => (g.1, g.2, s)) (fun j g => g.1.length <= j /\ g.2.length <= j /\ w4 g.1 <= j * 8 /\ v7 g.2 <= j * b) x.Fields.length
  (fun j g s hj hI hs => by
    have ex := List.getElem?_eq_getElem hj
    have hm := List.getElem_mem hj
    generalize x.Fields[j] = f at ex hm
    obtain ⟨k, e1, e2⟩ := a25 (hf f hm)
    have hkb := hk f hm
    have skip : ∀ u, OS L u -> ∃ (g' : List Key × List Val) (s' : Semtypebase_Source), (some (Fl.next (g.1, g.2, w64 ((j : Int) + 1), u)) : Option (Fl (List Key × List Val × Int × Semtypebase_Source) (List Key × List Val × Semtypebase_Source))) = some (.next (g'.1, g'.2, ((j + 1 : Nat) : Int), s')) /\ OS L s' /\ (g'.1.length <= j + 1 /\ g'.2.length <= j + 1 /\ w4 g'.1 <= (j + 1) * 8 /\ v7 g'.2 <= (j + 1) * b) := fun u hu => by
     rw [w6 j (by omega)]
     exact ⟨(g.1, g.2), u, rfl, hu, Nat.le_succ_of_le hI.1, Nat.le_succ_of_le hI.2.1, Nat.le_trans hI.2.2.1 (Nat.mul_le_mul_right _ (Nat.le_succ _)), Nat.le_trans hI.2.2.2 (Nat.mul_le_mul_right _ (Nat.le_succ _))⟩
    have take : ∀ u, OS L u -> ∃ (g' : List Key × List Val) (s' : Semtypebase_Source), (Option.bind (Option.bind (Z5 (g.1.length + ([f.Key_] : List Key).length) 24) fun _ => Option.bind (rN u t f.Node (h : Int)) fun r8 => Option.bind (Z5 (g.2.length + ([r8.1] : List Val).length) 128) fun _ => some (g.1 ++ ([f.Key_] : List Key), g.2 ++ ([r8.1] : List Val), r8.2)) fun b10 =>
     (some (Fl.next (b10.1, b10.2.1, w64 ((j : Int) + 1), b10.2.2)) : Option (Fl (List Key × List Val × Int × Semtypebase_Source) (List Key × List Val × Semtypebase_Source)))) = some (.next (g'.1, g'.2, ((j + 1 : Nat) : Int), s')) /\ OS L s' /\ (g'.1.length <= j + 1 /\ g'.2.length <= j + 1 /\ w4 g'.1 <= (j + 1) * 8 /\ v7 g'.2 <= (j + 1) * b) := fun u hu => by
     obtain ⟨v, u2, e3, hu2, _, hv⟩ := hd k u e2 hu
     rw [Z7 (by simp only [List.length_cons, List.length_nil]; have := hI.1; omega), e1, e3]
     simp only [Option.bind_some]
     rw [Z7 (by simp only [List.length_cons, List.length_nil]; have := hI.2.1; omega), w6 j (by omega)]
     refine ⟨(g.1 ++ [f.Key_], g.2 ++ [v]), u2, rfl, hu2, ?_, ?_, ?_, ?_⟩
     ·simp only [List.length_append, List.length_cons, List.length_nil]; have := hI.1; omega
     ·simp only [List.length_append, List.length_cons, List.length_nil]; have := hI.2.1; omega
     ·rw [a5R]; simp only [w4]; have := hI.2.2.1; omega
     ·rw [a2f, Nat.add_mul]; simp only [v7]; have := hI.2.2.2; omega
    unfold X8
    simp only [Z8, hw]
    rw [Q7 hj, v8 ex]
    simp only [cond_true, Option.bind_some]
    cases hO : f.Optional
    ·simp only [cond_false, Option.bind_some]
     exact take s hs
    ·simp only [cond_true]
     obtain ⟨z, u, e4, hu, _, _⟩ := Y2 hL hs (n := 2) (by omega) (by omega)
     rw [e4]
     simp only [Option.bind_some]
     cases hz : z == 1
     ·simp only [cond_false]
      exact take u hu
     ·simp only [cond_true, Option.bind_some]
      exact skip u hu) (fun g s => by
    unfold X8
    simp) x.Fields.length 0 (x.Fields.length + 1) ([], []) s (by omega) (Nat.le_refl _) ⟨Nat.le_refl _, Nat.le_refl _, by simp [w4], by simp [v7]⟩ hs
 refine ⟨g.1, g.2, u, e, hu, by omega, by omega, by omega, Nat.le_trans h4 (Nat.mul_le_mul_right _ hl)⟩
end
end Go.Pl
namespace Go.Pl
open Go Go.RowKit Go.Sx Go.Qx
structure GT (t : Api_Type) : Prop where
 len : t.Nodes.length <= 10
 nodes : GNs t.Nodes.length t.Nodes
def DB : Nat -> Nat
 | 0 => 300
 | h + 1 => 3300 + 8 * DB h
theorem b9g {h : Nat} (hh : h <= 2) : DB h <= 48900 := by
 match h, hh with
 | 0, _ => decide
 | 1, _ => decide
 | 2, _ => decide
theorem c20 (h : Nat) : 300 <= DB h := by cases h <;> simp [DB]; omega
theorem b9s (x : Val) : ∀ (l : List Val) (i : Nat), v7 (l.set i x) <= v7 l + Y1 x
 | [], _ => by simp [v7]
 | y :: r, 0 => by simp only [List.set_cons_zero, v7]; omega
 | y :: r, i + 1 => by have := b9s x r i; simp only [List.set_cons_succ, v7]; omega
theorem c4v (k n : Int) (s : ByteArray) (a : List Val) (b : List Key) (c : List Ent) (l m : List ByteArray) (q : Nat) (h : J0 m <= J0 l + q) : Y1 (Val.mk k n s a b c m) <= Y1 (Val.mk k n s a b c l) + q := by
 simp only [Y1]; omega
theorem c0F {t : Api_Type} (hT : GT t) {i : Nat} {x : Api_TypeNode} (hx : t.Nodes[i]? = some x) (v : Val) (hv : Y1 v <= 100000) : ∃ w, j5 (V0 t x) (x.Kids.length + 1) (0, v) = some w /\ Y1 w <= Y1 v + x.Kids.length * 6 := by
 have hg := hT.nodes i x hx
 have key : ∀ (m a k : Nat) (w : Val), a + m = x.Kids.length -> m + 1 <= k -> Y1 w <= Y1 v + a * 6 -> ∃ w', j5 (V0 t x) k ((a : Int), w) = some w' /\ Y1 w' <= Y1 v + x.Kids.length * 6 := by
  intro m
  induction m with
  | zero =>
    intro a k w h1 h2 h3
    obtain ⟨k, rfl⟩ : ∃ m, k = m + 1 := ⟨k - 1, by omega⟩
    have e : a = x.Kids.length := by omega
    subst e
    have : V0 t x ((x.Kids.length : Int), w) = some (.done w) := by
     unfold V0
     simp
    exact ⟨w, by simp only [j5, this, Option.bind_some], h3⟩
  | succ m ih =>
    intro a k w h1 h2 h3
    obtain ⟨k, rfl⟩ : ∃ m, k = m + 1 := ⟨k - 1, by omega⟩
    have ha : a < x.Kids.length := by omega
    have hk4 := hg.kids
    obtain ⟨j, e1, _, hj⟩ := b4E hg.ok ha
    have e2 := List.getElem?_eq_getElem hj
    generalize t.Nodes[j] = y at e2
    have hy := (hT.nodes j y e2).text
    have step : ∃ w', V0 t x ((a : Int), w) = some (.next (((a + 1 : Nat) : Int), w')) /\ Y1 w' <= Y1 w + 6 := by
     unfold V0
     simp only [Z8]
     rw [Q7 ha, e1]
     simp only [cond_true, Option.bind_some]
     rw [v8 e2]
     simp only [Option.bind_some]
     rw [w6 a (by omega)]
     cases hc : y.Kind == 19
     ·simp only [cond_false, Option.bind_some]
      exact ⟨w, rfl, by omega⟩
     ·simp only [cond_true]
      obtain ⟨kk, n, s, kids, keys, ents, labs⟩ := w
      simp only [Val.Labels, Val.Kind, Val.Int_, Val.Text, Val.Kids, Val.Keys, Val.Entries]
      have hlab : labs.length <= Y1 (Val.mk kk n s kids keys ents labs) := by
       have := a7H labs
       simp only [Y1]; omega
      rw [Z7 (by omega), Z7 (by simp only [List.length_cons, List.length_nil]; omega)]
      simp only [Option.bind_some]
      rw [b8K (labs ++ [y.Text]) (by simp only [List.length_append, List.length_cons, List.length_nil]; omega)]
      refine ⟨_, rfl, c4v _ _ _ _ _ _ _ _ 6 ?_⟩
      have h4 := b3y (labs ++ [y.Text]) []
      rw [b0H] at h4
      simp only [J0, a0Y] at h4
      omega
    obtain ⟨w', e3, h5⟩ := step
    simp only [j5, e3, Option.bind_some]
    exact ih (a + 1) k w' (by omega) (by omega) (by omega)
 exact key x.Kids.length 0 (x.Kids.length + 1) v (by omega) (Nat.le_refl _) (by omega)
theorem c3d {ks : List Key} {vs : List Val} {u : List Val × List Key} (h : a5g (ks.zip vs) ([], []) = some u) : Y1 (b1o u) <= 8 + w4 ks + v7 vs := by
 obtain ⟨_, _, _, _, _, m⟩ := b0s (ks.zip vs) ([], []) u h rfl rfl
 have hz := b5b ks vs
 simp only [v7, w4] at m
 simp only [b1o, K3, a2a, w9]
 omega
section
variable {L : List Int} {t : Api_Type}
theorem c4n (hL : L.length <= 4194304) {b h : Nat} {rN} (hd : a7g L t t.Nodes.length b h rN) (hb : 8 <= b) (hb2 : b <= 100000) (hh : h <= 10) {i : Nat} {x : Api_TypeNode} (hg : GN t.Nodes.length i x) (hk : x.Kind = 13) {s : Semtypebase_Source} (hs : OS L s) (f : Nat) (r1 : Semtypebase_Source -> Api_Type -> Int -> Int -> Option (Val × Semtypebase_Source)) (r2 r3 : Semtypebase_Source -> Api_Type -> Api_TypeNode -> Int -> Option (Val × Semtypebase_Source)) :
 ∃ v u, a12 f rN r1 r2 r3 s t x ((h : Int) + 1) = some (v, u) /\ OS L u /\ Y1 v <= 100 + 4 * b := by
 have hw : w64 ((h : Int) + 1 - 1) = (h : Int) := by rw [K7 (by omega) (by omega)]; omega
 have hn := hg.ok
 unfold W7 a4c a6g at hn
 simp only [hk] at hn
 simp only [Bool.and_eq_true] at hn
 have hn2 := hn.2.2.2.2
 simp at hn2
 obtain ⟨⟨_, _, hfn⟩, _, hr0, hr1⟩ := hn2
 obtain ⟨ks, vs, u, e, hu, l1, l2, b1, b2⟩ := c0X hL hd hfn hg.keys hg.flds hh hs
 obtain ⟨k0, hk0, hk0'⟩ := a25 hr0
 obtain ⟨k1, hk1, hk1'⟩ := a25 hr1
 unfold a12
 rw [V6, e]
 simp only [Option.bind_some]
 obtain ⟨z, u2, e2, hu2, _, _⟩ := Y2 hL hu (n := 2) (by omega) (by omega)
 rw [e2]
 simp only [Option.bind_some, Z8, hw]
 have fin : ∀ (ks : List Key) (vs : List Val) (u3 : Semtypebase_Source), ks.length <= 4 -> OS L u3 -> w4 ks <= 40 -> v7 vs <= 4 * b -> ∃ v u, (Option.bind (a1A ks vs) fun r20 => bif r20.2 != 0 then (Option.bind (W4) fun r21 => some (r21, u3)) else (some (r20.1, u3))) = some (v, u) /\ OS L u /\ Y1 v <= 100 + 4 * b := fun ks vs u3 q1 hu3 q2 q3 => by
  rw [b7b ks vs (by omega)]
  have nilb : Y1 (Val.mk 5 0 (⟨#[]⟩ : ByteArray) ([] : List Val) ([] : List Key) ([] : List Ent) ([] : List ByteArray)) <= 100 + 4 * b := by
   rw [K3]; simp only [a2a, v7, w4, w9]; omega
  by_cases hc : ks.length = vs.length /\ ks.all a0d = true
  ·rw [if_pos hc]
   cases hm : a5g (ks.zip vs) ([], []) with
   | none => exact ⟨_, u3, rfl, hu3, nilb⟩
   | some t =>
     have := c3d hm
     exact ⟨b1o t, u3, rfl, hu3, by omega⟩
  ·rw [if_neg hc]
   exact ⟨_, u3, rfl, hu3, nilb⟩
 have other : ∀ (z : Int) (kk : Nat) (u4 : Semtypebase_Source), kk < t.Nodes.length -> OS L u4 -> ∃ v u, (Option.bind (Option.bind (rN u4 t (kk : Int) (h : Int)) fun r15 => Option.bind (Z5 (vs.length + ([r15.1] : List Val).length) 128) fun _ => some (ks ++ ([Key.mk z (⟨#[111, 116, 104, 101, 114]⟩ : ByteArray)] : List Key), vs ++ ([r15.1] : List Val), r15.2)) fun b19 =>
  Option.bind (a1A b19.1 b19.2.1) fun r20 => bif r20.2 != 0 then (Option.bind (W4) fun r21 => some (r21, b19.2.2)) else (some (r20.1, b19.2.2))) = some (v, u) /\ OS L u /\ Y1 v <= 100 + 4 * b := fun z kk u4 hkk hu4 => by
  obtain ⟨v, u5, e5, hu5, _, hv⟩ := hd kk u4 hkk hu4
  rw [e5]
  simp only [Option.bind_some]
  rw [Z7 (by simp only [List.length_cons, List.length_nil]; omega)]
  simp only [Option.bind_some]
  refine fin _ _ u5 (by simp only [List.length_append, List.length_cons, List.length_nil]; omega) hu5 ?_ ?_
  ·rw [a5R]
   have : w4 ([Key.mk z (⟨#[111, 116, 104, 101, 114]⟩ : ByteArray)] : List Key) <= 10 := by
    simp only [w4, a2y, a0Y]
    decide
   omega
  ·rw [a2f]; simp only [v7]; omega
 cases hz : z == 1
 ·simp only [cond_false, Option.bind_some]
  exact fin ks vs u2 (by omega) hu2 (by omega) (by omega)
 ·simp only [cond_true]
  obtain ⟨y, u3, e3, hu3, y0, y1⟩ := Y2 hL hu2 (n := 2) (by omega) (by omega)
  rw [e3]
  simp only [Option.bind_some]
  rw [Z7 (by simp only [List.length_cons, List.length_nil]; omega)]
  simp only [Option.bind_some]
  have hy : y = 0 \/ y = 1 := by omega
  rcases hy with rfl | rfl
  ·simp only [Int.reduceBEq, cond_true]
   rw [hk0]
   exact other 0 k0 u3 hk0' hu3
  ·simp only [Int.reduceBEq, cond_true, cond_false]
   rw [hk1]
   exact other 1 k1 u3 hk1' hu3
theorem c4D (hL : L.length <= 4194304) {b h : Nat} {rN} (hd : a7g L t t.Nodes.length b h rN) (hb : 8 <= b) (hb2 : b <= 10000) (hh : h <= 10) {i : Nat} {x : Api_TypeNode} (hg : GN t.Nodes.length i x) (hk : x.Kind = 14) {s : Semtypebase_Source} (hs : OS L s) (f : Nat) (hf : 200000 <= f) (r1 : Semtypebase_Source -> Api_Type -> Int -> Int -> Option (Val × Semtypebase_Source)) (r2 r3 : Semtypebase_Source -> Api_Type -> Api_TypeNode -> Int -> Option (Val × Semtypebase_Source)) :
 ∃ v u, a1d f rN r1 r2 r3 s t x ((h : Int) + 1) = some (v, u) /\ OS L u /\ Y1 v <= 100 + 8 * b := by
 have hn := hg.ok
 unfold W7 a4c at hn
 simp only [hk] at hn
 simp only [Bool.and_eq_true] at hn
 have hn2 := hn.2.2.2.2
 simp at hn2
 have hk4 := hg.kids
 have h1l : 1 <= x.Kids.length := by omega
 obtain ⟨m, u, e, hu, m0, m1⟩ := Y2 hL hs (n := 3) (by omega) (by omega)
 obtain ⟨m, rfl⟩ := a7Y m0
 obtain ⟨es, u2, e2, hu2, hbe⟩ := c3m hL hd hb hg.ok hk4 h1l hh m (by omega) hu
 unfold a1d
 rw [e]
 simp only [Option.bind_some]
 rw [e2]
 simp only [Option.bind_some]
 have hbe2 : w9 es <= 2 * (4 * b + 3) := Nat.le_trans hbe (Nat.mul_le_mul_right _ (by omega))
 rw [b1f f _ es (by omega) (by omega)]
 have hfb := a8n es []
 simp only [w9] at hfb
 by_cases hc : 0 <= (wr .i64 ((x.Kids.length : Int) - 1)) /\ (wr .i64 ((x.Kids.length : Int) - 1)) <= 4 /\ es.all (a2Q (wr .i64 ((x.Kids.length : Int) - 1))) = true
 ·rw [if_pos hc]
  refine ⟨_, u2, rfl, hu2, ?_⟩
  simp only [b4s, K3, a2a, v7, w4]
  omega
 ·rw [if_neg hc]
  refine ⟨_, u2, rfl, hu2, ?_⟩
  rw [K3]; simp only [a2a, v7, w4, w9]; omega
end
end Go.Pl
namespace Go.Pl
open Go Go.RowKit Go.Sx Go.Qx
section
variable {L : List Int} {t : Api_Type}
def b7C (L : List Int) (t : Api_Type) (h : Nat) : Prop := ∀ (k f : Nat) (s : Semtypebase_Source), k < t.Nodes.length -> 200000 + 14 * h + (10 - k) <= f -> OS L s ->
 ∃ v u, (y9 f).2.1 s t (k : Int) (h : Int) = some (v, u) /\ OS L u /\ Y1 v + 24 * k <= DB h
theorem b6U (hL : L.length <= 4194304) (hT : GT t) {h : Nat} (hh : h <= 2) (hP : b7C L t h) (f : Nat) (hf : 200000 + 14 * h + 11 <= f) : a7g L t t.Nodes.length (DB h) h (y9 f).1 := by
 intro k s hk hs
 obtain ⟨f, rfl⟩ : ∃ m, f = m + 1 := ⟨f - 1, by omega⟩
 obtain ⟨v, u, e, hu, hb⟩ := hP k f s hk (by omega) hs
 have hD := b9g hh
 show ∃ v u, a2V f (y9 f).1 (y9 f).2.1 (y9 f).2.2.1 (y9 f).2.2.2 s t (k : Int) (h : Int) = some (v, u) /\ _
 unfold a2V
 rw [e]
 simp only [Option.bind_some]
 rw [b4N f v (by omega) (by omega)]
 simp only [Option.bind_some]
 cases hv : vOK v
 ·obtain ⟨w, u2, e2, hu2, h1, h2⟩ := b2p hL hu
  have := c20 h
  simp only [Bool.not_false, cond_true]
  rw [e2]
  exact ⟨w, u2, rfl, hu2, h1, by omega⟩
 ·exact ⟨v, u, rfl, hu, hv, by omega⟩
theorem c6K (hL : L.length <= 4194304) (hT : GT t) : b7C L t 0 := by
 intro k f s hk hf hs
 obtain ⟨f, rfl⟩ : ∃ m, f = m + 1 := ⟨f - 1, by omega⟩
 obtain ⟨v, u, e, hu, _, hb⟩ := b2p hL hs
 refine ⟨v, u, ?_, hu, by have := hT.len; simp only [DB]; omega⟩
 show a0G f (y9 f).1 (y9 f).2.1 (y9 f).2.2.1 (y9 f).2.2.2 s t (k : Int) ((0 : Nat) : Int) = some (v, u)
 unfold a0G
 have e0 : decide (((0 : Nat) : Int) <= 0) = true := rfl
 rw [e0]
 simp only [cond_true, Option.bind_some]
 rw [e]
 rfl
theorem c3B (hL : L.length <= 4194304) (hT : GT t) {h : Nat} (hh : h <= 1) (hP : b7C L t h) : b7C L t (h + 1) := by
 have key : ∀ (d k f : Nat) (s : Semtypebase_Source), t.Nodes.length - k <= d -> k < t.Nodes.length -> 200000 + 14 * (h + 1) + (10 - k) <= f -> OS L s ->
  ∃ v u, (y9 f).2.1 s t (k : Int) ((h : Int) + 1) = some (v, u) /\ OS L u /\ Y1 v + 24 * k <= DB (h + 1) := by
  intro d
  induction d with
  | zero => intro k f s h1 h2; omega
  | succ d ih =>
    intro k f s hd hk hf hs
    obtain ⟨f, rfl⟩ : ∃ m, f = m + 1 := ⟨f - 1, by omega⟩
    have hlen := hT.len
    have hD := b9g (show h <= 2 by omega)
    have hDp := c20 h
    have ex := List.getElem?_eq_getElem hk
    generalize t.Nodes[k] = x at ex
    have hg := hT.nodes k x ex
    have hn := hg.ok
    have small : ∀ {n : Nat}, n <= 3000 + 8 * DB h -> n + 24 * k <= DB (h + 1) := fun hn => by simp only [DB]; omega
    show ∃ v u, a0G f (y9 f).1 (y9 f).2.1 (y9 f).2.2.1 (y9 f).2.2.2 s t (k : Int) ((h : Int) + 1) = some (v, u) /\ _
    have hQ := b6U hL hT (show h <= 2 by omega) hP f (by omega)
    unfold a0G
    have q0 : decide ((h : Int) + 1 <= 0) = false := decide_eq_false (by omega)
    have q1 : decide ((k : Int) < 0) = false := decide_eq_false (by omega)
    have q2 : decide ((t.Nodes.length : Int) <= (k : Int)) = false := decide_eq_false (by omega)
    rw [q0, q1, q2, v8 ex]
    simp only [cond_false, Option.bind_some]
    have kid : ∀ (s : Semtypebase_Source), OS L s -> isB x = true -> 1 <= x.Kids.length -> ∃ (z : Int) (u : Semtypebase_Source) (k' : Nat) (v : Val) (u' : Semtypebase_Source), y4 s (x.Kids.length : Int) = some (z, u) /\ idx x.Kids z = some (k' : Int) /\
     (y9 f).2.1 u t (k' : Int) ((h : Int) + 1) = some (v, u') /\ OS L u' /\ Y1 v + 24 * (k + 1) <= DB (h + 1) := fun s hs hb h1 => by
     have h4 := hg.kids
     obtain ⟨z, u, e, hu, z0, z1⟩ := Y2 hL hs (n := (x.Kids.length : Int)) (by omega) (by omega)
     obtain ⟨z, rfl⟩ := a7Y z0
     obtain ⟨k', e1, e2, hk'⟩ := b4E hn (show z < x.Kids.length by omega)
     have hlt := hg.ord hb _ (List.mem_of_getElem? e2)
     obtain ⟨v, u', e3, hu', hbv⟩ := ih k' f u (by omega) hk' (by omega) hu
     exact ⟨z, u, k', v, u', e, e1, e3, hu', by omega⟩
    have other : ∃ v u, (Option.bind (a1y f s 2) fun r52 => some (r52.1, r52.2)) = some (v, u) /\ OS L u /\ Y1 v + 24 * k <= DB (h + 1) := by
     obtain ⟨v, u, e, hu, _, hb⟩ := c5A hL 1 f (by omega) (by omega) s hs
     have e' : a1y f s 2 = some (v, u) := e
     rw [e']
     exact ⟨v, u, rfl, hu, small (by have := c1C (show 1 <= 2 by omega); omega)⟩
    have hKinds := a97 x.Kind
    rcases hKinds with hK | hK
    ·have kt := hn
     unfold W7 a4c at kt
     rcases hK with hK | hK | hK | hK | hK | hK | hK | hK | hK | hK | hK | hK | hK | hK | hK | hK | hK | hK | hK <;> simp only [hK] at kt ⊢ <;> simp only [Int.reduceBEq, cond_true, cond_false, Option.bind_some]
     ·exact other
     ·exact other
     ·have qd : ∀ a : Int, b3h .i64 a 2 = some (wr .i64 (a.tdiv 2)) := fun a => rfl
      rw [qd, qd]
      simp only [Option.bind_some]
      obtain ⟨z, u, e, hu, z0, z1⟩ := Y2 hL hs (n := 3) (by omega) (by omega)
      rw [e]
      simp only [Option.bind_some]
      generalize wr .i64 (x.Lo + (wr .i64 ((wr .i64 (x.Hi.tdiv 2)) - (wr .i64 (x.Lo.tdiv 2))))) = mid
      obtain ⟨y, ey, eg, _⟩ := b2L ([x.Lo, x.Hi, mid] : List Int) z0 (by simpa using z1)
      rw [ey, eg]
      refine ⟨_, u, rfl, hu, small ?_⟩
      rw [K3]; simp only [a2a, v7, w4, w9]; omega
     ·refine ⟨_, s, rfl, hs, small ?_⟩
      have := hg.text
      rw [K3]; simp only [v7, w4, w9]; omega
     ·obtain ⟨w, u, e, hu, hw⟩ := b5n hL hs
      have hw2 := List.all_eq_true.1 a95 w hw
      simp only [decide_eq_true_eq] at hw2
      rw [e]
      refine ⟨_, u, rfl, hu, small ?_⟩
      rw [K3]; simp only [v7, w4, w9]; omega
     ·refine ⟨_, s, rfl, hs, small ?_⟩
      have := hg.text
      rw [K3]; simp only [v7, w4, w9]; omega
     ·obtain ⟨w, u, e, hu, hw⟩ := a8T hL hs
      have hw2 := List.all_eq_true.1 a92 w hw
      simp only [Bool.and_eq_true, decide_eq_true_eq] at hw2
      rw [e]
      refine ⟨_, u, rfl, hu, small ?_⟩
      rw [K3]; simp only [v7, w4, w9]; omega
     ·obtain ⟨z, u, e, hu, z0, z1⟩ := Y2 hL hs (n := 2) (by omega) (by omega)
      rw [e]
      refine ⟨_, u, rfl, hu, small ?_⟩
      rw [K3]; simp only [a2a, v7, w4, w9]; omega
     ·refine ⟨_, s, rfl, hs, small ?_⟩
      rw [K3]; simp only [a2a, v7, w4, w9]; omega
     ·obtain ⟨g, u, e, hu, hl, hb⟩ := b7B hQ hn hg.kids (by omega) hs
      rw [V6, e]
      refine ⟨_, u, rfl, hu, small ?_⟩
      have h4 := hg.kids
      have : x.Kids.length * DB h <= 4 * DB h := Nat.mul_le_mul_right _ h4
      rw [K3]; simp only [a2a, w4, w9]; omega
     ·exact other
     ·obtain ⟨g, u, e, hu, hl, hb⟩ := b7B hQ hn hg.kids (by omega) hs
      rw [V6, e]
      simp only [Option.bind_some]
      have h4 := hg.kids
      have h2 : x.Kids.length = 2 := by
       simp only [Bool.and_eq_true] at kt
       have := kt.2.2.2.2
       simp at this
       omega
      have hgl : 1 < g.length := by omega
      have eg := List.getElem?_eq_getElem hgl
      generalize g[1] = w at eg
      have ei : idx g 1 = some w := v8 (i := 1) eg
      have e1 : (1 : Int).toNat = 1 := rfl
      rw [ei, e1, eg]
      simp only [Option.bind_some]
      have : x.Kids.length * DB h <= 4 * DB h := Nat.mul_le_mul_right _ h4
      cases hw : w.Kind != 7
      ·simp only [cond_false, Option.bind_some]
       refine ⟨_, u, rfl, hu, small ?_⟩
       rw [K3]; simp only [a2a, w4, w9]; omega
      ·simp only [cond_true]
       refine ⟨_, u, rfl, hu, small ?_⟩
       have hs := b9s (Val.mk 5 0 (⟨#[]⟩ : ByteArray) [] [] [] []) g 1
       rw [K3] at hs
       simp only [a2a, v7, w4, w9] at hs
       rw [K3]; simp only [a2a, w4, w9]; omega
     ·obtain ⟨f, rfl⟩ : ∃ m, f = m + 1 := ⟨f - 1, by omega⟩
      have hQ2 := b6U hL hT (show h <= 2 by omega) hP f (by omega)
      obtain ⟨v, u, e, hu, hb⟩ := c4n hL hQ2 (by omega) (by omega) (by omega) hg hK hs f (y9 f).2.1 (y9 f).2.2.1 (y9 f).2.2.2
      have e' : (y9 (f + 1)).2.2.2 s t x ((h : Int) + 1) = some (v, u) := e
      rw [e']
      exact ⟨v, u, rfl, hu, small (by omega)⟩
     ·obtain ⟨f, rfl⟩ : ∃ m, f = m + 1 := ⟨f - 1, by omega⟩
      have hQ2 := b6U hL hT (show h <= 2 by omega) hP f (by omega)
      obtain ⟨v, u, e, hu, hb⟩ := c4D hL hQ2 (by omega) (by
       match h, hh with
       | 0, _ => decide
       | 1, _ => decide) (by omega) hg hK hs f (by omega) (y9 f).2.1 (y9 f).2.2.1 (y9 f).2.2.2
      have e' : (y9 (f + 1)).2.2.1 s t x ((h : Int) + 1) = some (v, u) := e
      rw [e']
      exact ⟨v, u, rfl, hu, small (by omega)⟩
     ·exact other
     ·have h1 : 1 <= x.Kids.length := by
       simp only [Bool.and_eq_true] at kt
       have := kt.2.2.2.2
       simp at this
       omega
      obtain ⟨z, u, k', v, u', e1, e2, e3, hu', hb⟩ := kid s hs (by unfold isB; rw [hK]; rfl) h1
      rw [e1]
      simp only [Option.bind_some]
      rw [e2]
      simp only [Option.bind_some]
      rw [e3]
      exact ⟨v, u', rfl, hu', by omega⟩
     ·have h1 : 1 <= x.Kids.length := by
       simp only [Bool.and_eq_true] at kt
       have := kt.2.2.2.2
       simp at this
       omega
      obtain ⟨z, u, k', v, u', e1, e2, e3, hu', hb⟩ := kid s hs (by unfold isB; rw [hK]; rfl) h1
      rw [e1]
      simp only [Option.bind_some]
      rw [e2]
      simp only [Option.bind_some]
      rw [e3]
      simp only [Option.bind_some]
      have hD2 := b9g (show h + 1 <= 2 by omega)
      obtain ⟨w, e4, hb4⟩ := c0F hT ex v (by omega)
      rw [V6, e4]
      have h4 := hg.kids
      exact ⟨w, u', rfl, hu', by omega⟩
     ·exact other
     ·obtain ⟨v, u, e, hu, _, hb⟩ := b2p hL hs
      rw [e]
      simp only [Option.bind_some]
      unfold a30
      rw [b8K [x.Text] (by simp)]
      refine ⟨_, u, rfl, hu, small ?_⟩
      have h5 := hg.text
      have h6 := b3y [x.Text] []
      simp only [J0, a0Y] at h6
      have h7 := a5I v (List.foldl (a2o cS) [] [x.Text])
      unfold a59 at h7
      show Y1 (Val.mk v.Kind v.Int_ v.Text v.Kids v.Keys v.Entries (List.foldl (a2o cS) [] [x.Text])) <= _
      omega
    ·have e : ∀ n : Int, 1 <= n -> n <= 19 -> ¬ x.Kind = n := fun n h1 h2 => by simpa using hK n h1 h2
     unfold W7 a4c at hn
     rw [if_neg (e 3 (by omega) (by omega)), if_neg (e 4 (by omega) (by omega)), if_neg (e 6 (by omega) (by omega)), if_neg (e 19 (by omega) (by omega)), if_neg (by have := e 1 (by omega) (by omega); have := e 2 (by omega) (by omega); have := e 5 (by omega) (by omega); have := e 7 (by omega) (by omega); have := e 8 (by omega) (by omega); have := e 9 (by omega) (by omega); have := e 11 (by omega) (by omega); have := e 15 (by omega) (by omega); omega),
      if_neg (e 10 (by omega) (by omega)), if_neg (e 12 (by omega) (by omega)), if_neg (e 14 (by omega) (by omega)), if_neg (by have := e 16 (by omega) (by omega); have := e 17 (by omega) (by omega); omega), if_neg (e 18 (by omega) (by omega)), if_neg (e 13 (by omega) (by omega))] at hn
     simp at hn
 intro k f s hk hf hs
 exact key t.Nodes.length k f s (by omega) hk hf hs
theorem b9z (hL : L.length <= 4194304) (hT : GT t) : ∀ h : Nat, h <= 2 -> b7C L t h
 | 0, _ => c6K hL hT
 | h + 1, hh => c3B hL hT (by omega) (b9z hL hT h (by omega))
theorem c5U (hL : L.length <= 4194304) (hT : GT t) (f : Nat) (hf : 300000 <= f) : a7g L t t.Nodes.length 48900 2 (a0o f) := fun k s hk hs => by
 obtain ⟨v, u, h1, h2, h3, h4⟩ := b6U hL hT (Nat.le_refl 2) (b9z hL hT 2 (Nat.le_refl 2)) f (by omega) k s hk hs
 exact ⟨v, u, h1, h2, h3, Nat.le_trans h4 (b9g (Nat.le_refl 2))⟩
end
end Go.Pl
end
section
namespace Go.Pl
open Go Go.RowKit Go.Sx Go.Qx
theorem c1n {α β : Type} {step : Int -> Option (Fl Int (Sum Unit β))} (xs : List α) (p : α -> Bool) (out : Nat -> α -> β)
 (hst : ∀ (i : Nat) (x : α), xs[i]? = some x -> step (i : Int) = some (if p x = true then .done (.inr (out i x)) else .next ((i + 1 : Nat) : Int)))
 (hend : step (xs.length : Int) = some (.done (.inl ()))) :
 (∃ i x, xs[i]? = some x /\ p x = true /\ (∀ j, j < i -> ∀ y, xs[j]? = some y -> p y = false) /\ j5 step (xs.length + 1) 0 = some (.inr (out i x))) \/ (xs.any p = false /\ j5 step (xs.length + 1) 0 = some (.inl ())) := by
 have key : ∀ (m a k : Nat), a + m = xs.length -> m + 1 <= k -> (∀ j, j < a -> ∀ y, xs[j]? = some y -> p y = false) ->
  (∃ i x, xs[i]? = some x /\ p x = true /\ (∀ j, j < i -> ∀ y, xs[j]? = some y -> p y = false) /\ j5 step k (a : Int) = some (.inr (out i x))) \/ (xs.any p = false /\ j5 step k (a : Int) = some (.inl ())) := by
  intro m
  induction m with
  | zero =>
    intro a k h1 h2 h3
    obtain ⟨k, rfl⟩ : ∃ m, k = m + 1 := ⟨k - 1, by omega⟩
    have e : a = xs.length := by omega
    subst e
    refine .inr ⟨?_, by simp only [j5, hend, Option.bind_some]⟩
    rw [List.any_eq_false]
    intro x hx
    obtain ⟨j, hj, rfl⟩ := List.getElem_of_mem hx
    have := h3 j hj _ (List.getElem?_eq_getElem hj)
    simp [this]
  | succ m ih =>
    intro a k h1 h2 h3
    obtain ⟨k, rfl⟩ : ∃ m, k = m + 1 := ⟨k - 1, by omega⟩
    have ha : a < xs.length := by omega
    have ex := List.getElem?_eq_getElem ha
    have hs := hst a _ ex
    cases hp : p xs[a] with
    | true =>
      rw [if_pos hp] at hs
      exact .inl ⟨a, xs[a], ex, hp, h3, by simp only [j5, hs, Option.bind_some]⟩
    | false =>
      rw [if_neg (by simp [hp])] at hs
      simp only [j5, hs, Option.bind_some]
      refine ih (a + 1) k (by omega) (by omega) fun j hj y hy => ?_
      by_cases hja : j = a
      ·subst hja
       rw [ex] at hy
       cases hy
       exact hp
      ·exact h3 j (by omega) y hy
 exact key xs.length 0 (xs.length + 1) (by omega) (Nat.le_refl _) (fun j hj => by omega)
theorem c2O {α : Type} {xs : List α} {p : α -> Bool} {i : Nat} {x : α} (h : xs[i]? = some x) (hp : p x = true) : xs.any p = true := List.any_eq_true.2 ⟨x, List.mem_of_getElem? h, hp⟩
theorem c6B (i : Nat) : decide ((0 : Int) <= (i : Int)) = true := decide_eq_true (by omega)
theorem b62 (l : List Int) (f : Int -> Option Bool) (p : Int -> Bool) (hl : l.length <= 4194304) (hf : ∀ x ∈ l, f x = some (p x)) : K6 l f = some (l.any p) := by
 unfold K6 a3f
 rw [V6]
 rcases c1n (step := a05 l f) l p (fun i _ => (i : Int)) (fun i x hx => by
  have hi : i < l.length := (List.getElem?_eq_some_iff.1 hx).1
  unfold a05
  rw [Q7 hi, v8 hx]
  simp only [cond_true, Option.bind_some, Z8]
  rw [w6 i (by omega), hf x (List.mem_of_getElem? hx)]
  cases p x <;> rfl) (by
  unfold a05
  simp) with ⟨i, x, hx, hp, _, e⟩ | ⟨h, e⟩
 ·rw [e, c2O hx hp]
  simp only [Option.bind_some, w5, c6B]
 ·rw [e, h]
  rfl
end Go.Pl
namespace Go.Pl
open Go Go.RowKit Go.Sx Go.Qx
section
variable (μ : Val -> Int -> Bool)
end
section
variable {t : Api_Type} {f0 b : Nat}
end
end Go.Pl
namespace Go.Pl
open Go Go.RowKit Go.Sx Go.Qx
section
variable {t : Api_Type}
theorem GT.ord (hT : GT t) {k : Nat} {x : Api_TypeNode} (hx : t.Nodes[k]? = some x) (hb : isB x = true) {j : Int} (hj : j ∈ x.Kids) : ∃ j' : Nat, j = (j' : Int) /\ k < j' /\ j' < t.Nodes.length := by
 have hg := hT.nodes k x hx
 obtain ⟨j', e, h1⟩ := a25 (a2R hg.ok j hj)
 have := hg.ord hb j hj
 exact ⟨j', e, by omega, h1⟩
theorem c6E {N : Nat} {x : Api_TypeNode} (h : W7 N x = true) : a4c N x = true := by
 unfold W7 at h
 simp only [Bool.and_eq_true] at h
 exact h.2.2.2.2
theorem c4G {N : Nat} {x : Api_TypeNode} (h : W7 N x = true) (hk : x.Kind = 14) : 1 <= x.Kids.length /\ x.Kids.length <= 5 := by
 have hn := c6E h
 unfold a4c at hn
 simp [hk] at hn
 omega
theorem c5O {α : Type} (p : α -> Bool) (l : List α) : (!(l.any fun x => !p x)) = l.all p := by
 rw [Bool.eq_iff_iff]
 simp
end
end Go.Pl
namespace Go.Pl
open Go Go.RowKit Go.Sx Go.Qx
section
variable {t : Api_Type}
theorem GT.all (hT : GT t) : a5V t.Nodes = true := List.all_eq_true.2 fun x hx => by
 obtain ⟨i, hi, rfl⟩ := List.getElem_of_mem hx
 exact (hT.nodes i _ (List.getElem?_eq_getElem hi)).ok
theorem GT.small (hT : GT t) : ∀ x ∈ t.Nodes, x.Kids.length <= 1100000 /\ x.Fields.length <= 1100000 := fun x hx => by
 obtain ⟨i, hi, rfl⟩ := List.getElem_of_mem hx
 have hg := hT.nodes i _ (List.getElem?_eq_getElem hi)
 have h1 := hg.kids
 have h2 := hg.flds
 omega
end
end Go.Pl
end
section
namespace Go.Pl
open Go Go.RowKit Go.Sx Go.Qx
section
variable {t : Api_Type}
def fnB (t : Api_Type) (k : Int) : Bool := inR t.Nodes.length k && (match t.Nodes[k.toNat]? with | some x => x.Kind == 14 | none => false)
theorem c0g (pos : List Int) (hp : pos.length <= 4194304) : a3P t pos = some (pos.all (fnB t)) := by
 unfold a3P
 rw [b62 pos _ (fun k => !fnB t k) hp fun k hk => ?_]
 ·simp only [Option.bind_some]
  rw [c5O]
 ·unfold a6s fnB inR
  simp only [a4e]
  by_cases h1 : k < 0
  ·have a1 : decide (k < 0) = true := by simpa using h1
   have a2 : decide (0 <= k) = false := by simp; omega
   rw [a1, a2]; rfl
  ·have a1 : decide (k < 0) = false := by simpa using h1
   have a2 : decide (0 <= k) = true := by simp; omega
   rw [a1, a2]
   by_cases h2 : k < (t.Nodes.length : Int)
   ·have a3 : decide ((t.Nodes.length : Int) <= k) = false := by simp; omega
    have a4 : decide (k < (t.Nodes.length : Int)) = true := by simpa using h2
    have ek := List.getElem?_eq_getElem (show k.toNat < t.Nodes.length by omega)
    have ei : idx t.Nodes k = some t.Nodes[k.toNat] := by
     have := v8 ek
     rwa [show ((k.toNat : Nat) : Int) = k by omega] at this
    rw [a3, a4, ei, ek]
    rfl
   ·have a3 : decide ((t.Nodes.length : Int) <= k) = true := by simp; omega
    have a4 : decide (k < (t.Nodes.length : Int)) = false := by simpa using h2
    rw [a3, a4]; rfl
end
end Go.Pl
end
section
namespace Go.Pl
open Go Go.RowKit Go.Sx Go.Qx
abbrev c8g : Type := Int × Int × Int × ByteArray × (List Int) × (List Api_Field) × Int × Int
abbrev c4Q (l : List Int) : c8g := (14, 0, 0, (⟨#[]⟩ : ByteArray), l, [], 0, 0)
structure MadeT (T : Api_Type) (N a : Nat) : Prop where
 gt : GT T
 root : T.Root = 0
 pos : 1 <= N
 len : T.Nodes.length = N + 3
 ar : a <= 2
 fn : ∀ j, j < 3 -> ∃ l, T.Nodes[N + j]? = some (b1t 14 l) /\ l.length = a + 1
structure MadeE (a : Nat) (e : Ent) : Prop where
 args : e.Args.length = a
 ok : a00 e.Args = true
 res : (e.Fails = true /\ e.Result = a3x) \/ (e.Fails = false /\ vOK e.Result = true)
 bulk : a4Z e <= 200000
section
variable {L : List Int}
theorem c3q (hL : L.length <= 4194304) (r2 : ((List Api_TypeNode) × Int) × Semtypebase_Source) (N a : Nat) (hN : r2.1.1.length = N) (hN1 : 1 <= N) (hN2 : N <= 100) (ha : a <= 2) (q : Semtypebase_Source) {s : Semtypebase_Source} (hs : OS L s) :
 ∃ l u, j5 (a1L r2 ((a : Int), q)) ((a : Int).toNat + 2) (0, s, (14, 0, 0, (⟨#[]⟩ : ByteArray), [], [], 0, 0)) = some (u, c4Q l) /\ OS L u /\ l.length = a + 1 /\ ∀ k ∈ l, inR N k = true := by
 obtain ⟨g, u, e, hu, h1, h2⟩ := b0t (γ := List Int) (L := L) (step := a1L r2 ((a : Int), q)) (fun g j s => (j, s, c4Q g)) (fun g s => (s, c4Q g)) (fun j g => g.length = j /\ ∀ k ∈ g, inR N k = true) (a + 1)
  (fun j g s hj hI hs => by
    obtain ⟨k, u, e, hu, k0, k1⟩ := Y2 hL hs (n := (r2.1.1.length : Int)) (by omega) (by omega)
    refine ⟨g ++ [k], u, ?_, hu, by simp [hI.1], fun y hy => ?_⟩
    ·unfold a1L
     simp only [Z8]
     rw [show decide ((j : Int) <= (a : Int)) = true from decide_eq_true (by omega), e]
     simp only [cond_true, Option.bind_some]
     rw [Z7 (by simp only [List.length_cons, List.length_nil]; have := hI.1; omega), w6 j (by omega)]
     rfl
    ·rcases List.mem_append.1 hy with hy | hy
     ·exact hI.2 y hy
     ·rw [List.mem_singleton.1 hy]; exact b4f k0 (by rw [<- hN]; exact k1)) (fun g s => by
    unfold a1L
    rw [show decide (((a + 1 : Nat) : Int) <= (a : Int)) = false from decide_eq_false (by omega)]
    rfl) (a + 1) 0 ((a : Int).toNat + 2) [] s (by omega) (by omega) ⟨rfl, fun k hk => by cases hk⟩ hs
 exact ⟨g, u, e, hu, h1, h2⟩
theorem c5Y {M i : Nat} {l : List Int} (hl : ∀ k ∈ l, inR M k = true) (h1 : 1 <= l.length) (h4 : l.length <= 4) : GN M i (b1t 14 l) :=
 a9e (List.all_eq_true.2 hl) h4 (by
  show (decide (1 <= (l.length : Int)) && decide ((l.length : Int) <= 5)) = true
  rw [Bool.and_eq_true]
  exact ⟨decide_eq_true (by omega), decide_eq_true (by omega)⟩) (fun h => by omega)
theorem c3w (d : List Int) (hd : d.length <= 4194304) : ∃ T N a r1 r2 r3 b10 q,
 y4 (Semtypebase_Source.mk d 0) 4 = some r1 /\ a0q r1.2 (w64 (1 + r1.1)) = some r2 /\ r2.1.1.length = N /\ y4 r2.2 3 = some r3 /\ r3.1 = ((a : Nat) : Int) /\
  j5 (a1F r2 r3) ((3 : Int).toNat + 1) (0, r3.2, (r2.1.1, r2.1.2)) = some b10 /\ b10 = (q, (T.Nodes, T.Root)) /\ MadeT T N a := by
 obtain ⟨m, s1, e1, hs1, m0, m1⟩ := Y2 hd (s := Semtypebase_Source.mk d 0) ⟨rfl, by show (0 : Int) <= 0; omega, by show (0 : Int) <= _; omega⟩ (n := 4) (by omega) (by omega)
 obtain ⟨m, rfl⟩ := a7Y m0
 obtain ⟨ns, s2, e2, hs2, hlen, hg⟩ := c4L hd hs1 (m + 1) (by omega) (by omega)
 have e2' : a0q s1 (w64 (1 + (m : Int))) = some ((ns, 0), s2) := by
  rw [K7 (by omega) (by omega), show 1 + (m : Int) = ((m + 1 : Nat) : Int) by omega]; exact e2
 obtain ⟨a, s3, e3, hs3, a0, a1⟩ := Y2 hd hs2 (n := 3) (by omega) (by omega)
 obtain ⟨a, rfl⟩ := a7Y a0
 obtain ⟨g, s4, e4, hs4, h1, h2, h3⟩ := b0t (γ := List Api_TypeNode) (L := d) (step := a1F ((ns, 0), s2) ((a : Int), s3)) (fun g j s => (j, s, (g, 0))) (fun g s => (s, (g, 0)))
  (fun j g => g.length = m + 1 + j /\ GNs (m + 1 + 3) g /\ ∀ i, i < j -> ∃ l, g[m + 1 + i]? = some (b1t 14 l) /\ l.length = a + 1) 3
  (fun j g s hj hI hs => by
    obtain ⟨l, u, e, hu, hl, hr⟩ := c3q hd ((ns, 0), s2) (m + 1) a hlen (by omega) (by omega) (by omega) s3 hs
    refine ⟨g ++ [b1t 14 l], u, ?_, hu, by simp only [List.length_append, List.length_cons, List.length_nil]; have := hI.1; omega, hI.2.1.snoc (c5Y (fun k hk => b0n (by omega) (hr k hk)) (by omega) (by omega)), fun i hi => ?_⟩
    ·unfold a1F
     simp only [Z8]
     rw [show decide ((j : Int) < 3) = true from decide_eq_true (by omega), e]
     simp only [cond_true, Option.bind_some]
     rw [Z7 (by simp only [List.length_cons, List.length_nil]; have := hI.1; omega), w6 j (by omega)]
     rfl
    ·by_cases hij : i < j
     ·obtain ⟨l', e', hl'⟩ := hI.2.2 i hij
      exact ⟨l', by rw [List.getElem?_append_left (by have := hI.1; omega)]; exact e', hl'⟩
     ·have : i = j := by omega
      subst this
      exact ⟨l, by rw [List.getElem?_append_right (by have := hI.1; omega), show m + 1 + i - g.length = 0 by have := hI.1; omega]; rfl, hl⟩) (fun g s => by
    unfold a1F
    rfl) 3 0 ((3 : Int).toNat + 1) ns s3 (by omega) (by decide) ⟨by omega, fun i x hx => (hg i x hx).mono (by omega), fun i hi => by omega⟩ hs3
 refine ⟨Api_Type.mk g 0, m + 1, a, ((m : Int), s1), ((ns, 0), s2), ((a : Int), s3), (s4, (g, 0)), s4, e1, e2', hlen, e3, rfl, e4, rfl, ?_⟩
 refine ⟨⟨by show g.length <= 10; omega, ?_⟩, rfl, by omega, by show g.length = m + 1 + 3; omega, by omega, h3⟩
 show GNs g.length g
 rw [h1]
 exact h2
end
theorem c5j (f : Nat) (hf : 300000 <= f) (d : List Int) (hd : d.length <= 4194304) : ∃ T N a, MadeT T N a /\ ∀ g : List Int, g.length <= 4194304 -> ∃ e, a4a f d g = some (T, (N : Int), e) /\ MadeE a e := by
 obtain ⟨T, N, a, r1, r2, r3, b10, q, e1, e2, e3, e4, e5, e6, e7, hM⟩ := c3w d hd
 refine ⟨T, N, a, hM, fun g hg => ?_⟩
 subst e7
 have hd := c5U hg hM.gt f hf
 have hN3 := hM.len
 have hN10 := hM.gt.len
 have hN1 := hM.pos
 have hTe : Api_Type.mk T.Nodes T.Root = T := rfl
 obtain ⟨r31, r32⟩ := r3
 have e5 : r31 = (a : Int) := e5
 subst e5
 unfold a4a
 simp only [Z8]
 rw [e1]
 simp only [Option.bind_some]
 rw [e2]
 simp only [Option.bind_some]
 rw [e4]
 simp only [Option.bind_some]
 rw [e6]
 simp only [Option.bind_some]
 obtain ⟨ag, s5, e8, hs5, h1, h2, h3⟩ := b0t (γ := List Val) (L := g) (step := a1J r2 ((a : Int), r32) (q, (T.Nodes, T.Root)) f) (fun g j s => (j, s, (g, false, 0, 0, (⟨#[]⟩ : ByteArray), [], [], [], []))) (fun g s => (s, (g, false, 0, 0, (⟨#[]⟩ : ByteArray), [], [], [], []))) (fun j g => g.length = j /\ a00 g = true /\ v7 g <= j * 48900) a
  (fun j ag s hj hI hs => by
    obtain ⟨k, u, e9, hu, k0, k1⟩ := Y2 hg hs (n := (r2.1.1.length : Int)) (by omega) (by omega)
    obtain ⟨k, rfl⟩ := a7Y k0
    obtain ⟨v, u2, e10, hu2, ho, hb⟩ := hd k u (by omega) hu
    have e10 : a0o f u T (k : Int) 2 = some (v, u2) := e10
    have har := hM.ar
    refine ⟨ag ++ [v], u2, ?_, hu2, by simp [hI.1], by rw [b0G, hI.2.1]; simp [a00, ho], by rw [a2f, Nat.add_mul]; simp only [v7]; have := hI.2.2; omega⟩
    unfold a1J
    simp only [Z8]
    rw [Q7 hj, e9]
    simp only [cond_true, Option.bind_some]
    rw [hTe, e10]
    simp only [Option.bind_some]
    rw [Z7 (by simp only [List.length_cons, List.length_nil]; have := hI.1; omega), w6 j (by omega)]
    rfl) (fun ag s => by
    unfold a1J
    simp) a 0 ((a : Int).toNat + 1) [] (Semtypebase_Source.mk g 0) (by omega) (by omega) ⟨rfl, rfl, by simp [v7]⟩ ⟨rfl, by show (0 : Int) <= 0; omega, by show (0 : Int) <= _; omega⟩
 have e8' : j5 (a1J r2 ((a : Int), r32) (q, (T.Nodes, T.Root)) f) ((a : Int).toNat + 1) (0, Semtypebase_Source.mk g 0, ([], false, 0, 0, (⟨#[]⟩ : ByteArray), [], [], [], [])) = some (s5, (ag, false, 0, 0, (⟨#[]⟩ : ByteArray), [], [], [], [])) := e8
 rw [e8']
 simp only [Option.bind_some]
 have har := hM.ar
 have h3' : v7 ag <= 2 * 48900 := Nat.le_trans h3 (Nat.mul_le_mul_right _ har)
 obtain ⟨z, s6, e11, hs6, _, _⟩ := Y2 hg hs5 (n := 3) (by omega) (by omega)
 rw [e11]
 simp only [Option.bind_some]
 rw [e3, hTe]
 cases hz : z == 1
 ·simp only [cond_false]
  obtain ⟨k, u, e9, hu, k0, k1⟩ := Y2 hg hs6 (n := (r2.1.1.length : Int)) (by omega) (by omega)
  rw [e3] at e9
  obtain ⟨k, rfl⟩ := a7Y k0
  obtain ⟨v, u2, e10, hu2, ho, hb⟩ := hd k u (by omega) hu
  have e10 : a0o f u T (k : Int) 2 = some (v, u2) := e10
  rw [e9]
  simp only [Option.bind_some]
  rw [e10]
  have hv : Val.mk v.Kind v.Int_ v.Text v.Kids v.Keys v.Entries v.Labels = v := by cases v; rfl
  simp only [Option.bind_some, hv]
  refine ⟨Ent.mk ag false v, rfl, h1, h2, .inr ⟨rfl, ho⟩, ?_⟩
  have := a13 (Ent.mk ag false v)
  simp only [Ent.Args, Ent.Result] at this
  omega
 ·simp only [cond_true, Option.bind_some]
  refine ⟨Ent.mk ag true a3x, rfl, h1, h2, .inl ⟨rfl, rfl⟩, ?_⟩
  have := a13 (Ent.mk ag true a3x)
  have hz : Y1 a3x = 8 := by rw [a3x, K3]; rfl
  simp only [Ent.Args, Ent.Result] at this
  omega
end Go.Pl
end
section
namespace Go.Pl
open Go Go.RowKit Go.Sx Go.Qx
theorem c5k (n : Nat) : a2n (n + 60) = some true := by kernel_rfl
theorem c4w (l : List (List Int)) (hl : l.length <= 1000) : a3Z l = some (l.all fun x => !decide (80 < (x.length : Int))) := by
 have l1 := a1M (step := a1q l) l (fun x => !decide (80 < (x.length : Int))) (fun i => (i : Int)) () false (fun i x hx => by
  have hi : i < l.length := (List.getElem?_eq_some_iff.1 hx).1
  unfold a1q
  rw [Q7 hi, v8 hx]
  simp only [cond_true, Option.bind_some, Z8]
  rw [w6 i (by omega)]
  cases decide (80 < (x.length : Int)) <;> rfl) (by
  unfold a1q
  simp)
 have l1' : j5 (a1q l) (l.length + 1) 0 = _ := l1
 unfold a3Z
 rw [V6, l1']
 cases l.all fun x => !decide (80 < (x.length : Int)) <;> rfl
end Go.Pl
end
section
namespace Go.Pl
open Go Go.Sx Go.Qx
end Go.Pl
end
section
namespace Go.Pl
open Go Go.RowKit Go.Sx Go.Qx
end Go.Pl
end
section
namespace Go.Pl
open Go Go.RowKit Go.Sx Go.Qx
theorem c4q : CmpOk cI := ⟨fun x y => by
 rcases X0 x y with ⟨_, h⟩ | ⟨_, h⟩ | ⟨_, h⟩ <;> rcases X0 y x with ⟨_, k⟩ | ⟨_, k⟩ | ⟨_, k⟩ <;> rw [h, k] <;> omega,
 fun x y z h1 h2 => by
  rcases X0 x y with ⟨_, h⟩ | ⟨_, h⟩ | ⟨_, h⟩ <;> rcases X0 y z with ⟨_, k⟩ | ⟨_, k⟩ | ⟨_, k⟩ <;> rcases X0 x z with ⟨_, l⟩ | ⟨_, l⟩ | ⟨_, l⟩ <;> rw [h] at h1 <;> rw [k] at h2 <;> rw [l] <;> omega,
 fun _ _ h => cI0 h⟩
abbrev b3l (x y : Int) : Bool := decide (cI x y = 0)
theorem c2j (x y : Int) : (x == y) = decide (cI x y = 0) := by
 rcases X0 x y with ⟨h, k⟩ | ⟨h, k⟩ | ⟨h, k⟩
 ·rw [k]; simp; omega
 ·rw [k]; simp; omega
 ·rw [k]; simp [h]
theorem c7C (s0 : List Int) (i0 n : Nat) (hn : n <= 4194304) (i k : Nat) (s : List Int) (x y : Int) (hl : s.length = n) (hk : i0 + k < n) (h1 : 1 <= k) (hi : i < i0 + k) (hx : s[i0 + k]? = some x) (hy : s[i0 + k - 1]? = some y) :
 X7 (s0, (i0 : Int)) (((i : Int), (k : Int)), s) = some (.next (if b3l x y = true then (((i : Int), ((k + 1 : Nat) : Int)), s) else ((((i + 1 : Nat) : Int), ((k + 1 : Nat) : Int)), s.set i x))) := by
 unfold X7
 simp only [a0r, Z8, Int.toNat_natCast]
 have hdl : (s.drop i0).length = n - i0 := by rw [List.length_drop, hl]
 rw [if_pos (decide_eq_true (by show (k : Int) < (((s.drop i0).length : Nat) : Int); rw [hdl]; omega)), w6 i (by omega), w6 k (by omega), b6m k (by omega) h1]
 simp only [Int.toNat_natCast]
 have a1 : idx (s.drop i0) (k : Int) = some x := v8 (by rw [List.getElem?_drop]; exact hx)
 have a2 : idx (s.drop i0) ((k - 1 : Nat) : Int) = some y := v8 (by rw [List.getElem?_drop, show i0 + (k - 1) = i0 + k - 1 by omega]; exact hy)
 have a3 : idx s (i : Int) = some (s[i]'(by omega)) := v8 (List.getElem?_eq_getElem (by omega))
 rw [a1, a2, a3, hx, show i0 + (k - 1) = i0 + k - 1 by omega, hy, List.getElem?_eq_getElem (show i < s.length by omega)]
 simp only [Option.bind_some, bne]
 rw [c2j]
 by_cases h : cI x y = 0 <;> simp [b3l, h]
theorem c0T (l : List Int) (hl : l.length <= 4194304) : a2g l = some (a7Q b3l l) := by
 unfold a2g
 by_cases h2 : (l.length : Int) < 2
 ·have e : decide ((l.length : Int) < 2) = true := by simpa using h2
  rw [e]
  match l, h2 with
  | [], _ => rfl
  | [_], _ => rfl
  | _ :: _ :: _, h => exact absurd h (by simp; omega)
 ·have e : decide ((l.length : Int) < 2) = false := by simpa using h2
  rw [e, V6]
  simp only [cond_false]
  have key := c2B (r := b3l) (step := a0F) l (by omega) ?_ ?_ ?_
  ·rcases key with ⟨h, hc⟩ | ⟨q, h⟩
   ·rw [h, hc]; rfl
   ·rw [h]; rfl
  ·intro i x y hi hx hy hr
   have hlt : i < l.length := (List.getElem?_eq_some_iff.1 hx).1
   unfold a0F
   simp only [a0r, Z8, Int.toNat_natCast]
   rw [if_pos (by simp; omega), b6m i (by omega) hi, v8 hx, v8 hy]
   simp only [Int.toNat_natCast, hx, hy, Option.bind_some]
   rw [c2j]
   have hr' : decide (cI x y = 0) = false := hr
   rw [hr', w6 i (by omega)]
   rfl
  ·intro i x y hi hx hy hr
   have hlt : i < l.length := (List.getElem?_eq_some_iff.1 hx).1
   unfold a0F
   simp only [a0r, Z8, Int.toNat_natCast]
   rw [if_pos (by simp; omega), b6m i (by omega) hi, v8 hx, v8 hy]
   simp only [Int.toNat_natCast, hx, hy, Option.bind_some]
   rw [c2j]
   have hr' : decide (cI x y = 0) = true := hr
   rw [hr', if_pos rfl]
   obtain ⟨s', e1, e2, e3⟩ := c2T (r := b3l) (step := X7 (l, (i : Int))) i l.length (fun i' k s x y a1 a2 a3 a4 a5 a6 => c7C l i l.length hl i' k s x y a1 a2 a3 a4 a5 a6)
    (fun i' k s a1 a2 => by
      unfold X7
      simp only [Int.toNat_natCast]
      have : decide ((k : Int) < (((s.drop i).length : Nat) : Int)) = false := by rw [List.length_drop]; simp; omega
      rw [this]
      rfl) (l.length - (i + 1)) i 1 l x ((l.drop i).length + 1) rfl (by omega) (Nat.le_refl _) (by omega) (by simpa using hx) (by rw [List.length_drop]; omega)
   have e1' : j5 (X7 (l, (i : Int))) ((l.drop i).length + 1) (((i : Int), 1), l) = _ := e1
   rw [e1']
   simp only [Option.bind_some, <- a0r]
   have hd := c3h (r := b3l) (l.drop (i + 1)) x
   rw [List.length_drop] at hd
   exact c5u (0 : Int) _ l.length s' _ e2 (by omega) e3
  ·unfold a0F
   simp
theorem c1G (l : List Int) : (l.mergeSort fun x y => decide (x <= y)).Pairwise fun a b => ¬ cI b a < 0 := by
 refine (List.pairwise_mergeSort (le := fun x y : Int => decide (x <= y)) (fun a b c h1 h2 => ?_) (fun a b => ?_) l).imp fun {a b} h => ?_
 ·simp only [decide_eq_true_eq] at *
  omega
 ·simp only [Bool.or_eq_true, decide_eq_true_eq]
  omega
 ·simp only [decide_eq_true_eq] at h
  rcases X0 b a with ⟨_, k⟩ | ⟨_, k⟩ | ⟨_, k⟩ <;> rw [k] <;> omega
def srt (l : List Int) : List Int := l.foldl (a2o cI) []
theorem b60 (l : List Int) (hl : l.length <= 4194304) : a6S l = some (srt l) := by
 unfold a6S a2m
 rw [Z7 (by omega)]
 simp only [Option.bind_some]
 unfold b8l b0z
 have e : decide (l.length < 4611686018427387904) = true := by simp; omega
 rw [e]
 simp only [cond_true, Option.bind_some]
 have hp := List.mergeSort_perm l fun x y : Int => decide (x <= y)
 rw [c0T _ (by rw [hp.length_eq]; exact hl)]
 simp only [Option.bind_some]
 unfold a5s
 have := c0D c4q hp (c1G l)
 rw [show a7Q (fun x y => decide (cI x y = 0)) = a7Q b3l from rfl] at this
 rw [this]
 simp [srt]
theorem c5V (l : List Int) : asc cI (srt l) = true := (c3Q (c := cI) c4q l).1
theorem c5L (l : List Int) : srt (srt l) = srt l := c3J c4q (c5V l)
theorem c09 (l : List Int) : (srt l).length <= l.length := by
 have key : ∀ (l out : List Int), (l.foldl (a2o cI) out).length <= out.length + l.length := by
  intro l
  induction l with
  | nil => intro out; simp
  | cons x r ih =>
    intro out
    have h1 := ih (a2o cI out x)
    have h2 := b9W cI out x
    simp only [List.foldl_cons, List.length_cons]
    omega
 have := key l []
 simpa [srt] using this
end Go.Pl
end
section
namespace Go.Pl
open Go Go.RowKit Go.Sx Go.Qx
abbrev g0 (p q : List Int) : Api_Goal := Api_Goal.mk p q false
theorem b40 (p q : List Int) (b : Bool) (h1 : p.length <= 4194304) (h2 : q.length <= 4194304) : a5o (Api_Goal.mk p q b) = some (Api_Goal.mk (srt p) (srt q) b) := by
 unfold a5o
 rw [b60 p h1, b60 q h2]
 rfl
theorem c0y (l : List Int) (x : Int) (hl : l.length <= 4194304) : a1Y l x = some (l.any fun y => x == y) := by
 unfold a1Y a4V
 rw [V6]
 rcases c1n (step := a1X l x) l (fun y => x == y) (fun i _ => (i : Int)) (fun i y hy => by
  have hi : i < l.length := (List.getElem?_eq_some_iff.1 hy).1
  unfold a1X
  rw [Q7 hi, v8 hy]
  simp only [cond_true, Option.bind_some, Z8]
  rw [w6 i (by omega)]
  cases x == y <;> rfl) (by
  unfold a1X
  simp) with ⟨i, y, hy, hp, _, e⟩ | ⟨h, e⟩
 ·rw [e, c2O hy hp]
  simp only [Option.bind_some, w5, c6B]
 ·rw [e, h]
  rfl
def a6W (p q : List Int) : Bool := p.any fun x => q.any fun y => x == y
theorem b75 (p q : List Int) (h1 : p.length <= 4194304) (h2 : q.length <= 4194304) : a5n p q = some (a6W p q) := by
 unfold a5n
 rw [b62 p _ (fun x => q.any fun y => x == y) h1 fun x _ => by
  unfold a7N
  simp only [a4e]
  exact c0y q x h2]
 rfl
theorem a66 {St β : Type} {step : St -> Option (Fl St β)} (st : Nat -> St) (n : Nat) (r : β) (hs : ∀ i, i < n -> step (st i) = some (.next (st (i + 1)))) (he : step (st n) = some (.done r)) (k : Nat) (hk : n + 1 <= k) : j5 step k (st 0) = some r := by
 have key : ∀ (m i k : Nat), i + m = n -> m + 1 <= k -> j5 step k (st i) = some r := by
  intro m
  induction m with
  | zero =>
    intro i k h1 h2
    obtain ⟨k, rfl⟩ : ∃ q, k = q + 1 := ⟨k - 1, by omega⟩
    have e : i = n := by omega
    subst e
    simp only [j5, he, Option.bind_some]
  | succ m ih =>
    intro i k h1 h2
    obtain ⟨k, rfl⟩ : ∃ q, k = q + 1 := ⟨k - 1, by omega⟩
    simp only [j5, hs i (by omega), Option.bind_some]
    exact ih (i + 1) k (by omega) (by omega)
 exact key n 0 k (by omega) hk
theorem b8D {St β : Type} {step : St -> Option (Fl St β)} (st : Nat -> St) (bad : Nat -> Bool) (n : Nat) (r : β) (R : β -> Prop) (hs : ∀ i, i < n -> bad i = false -> step (st i) = some (.next (st (i + 1)))) (hb : ∀ i, i < n -> bad i = true -> ∃ q, step (st i) = some (.done q) /\ R q)
 (he : step (st n) = some (.done r)) (k : Nat) (hk : n + 1 <= k) : (j5 step k (st 0) = some r /\ ∀ i, i < n -> bad i = false) \/ ∃ q, j5 step k (st 0) = some q /\ R q /\ ∃ i, i < n /\ bad i = true := by
 have key : ∀ (m i k : Nat), i + m = n -> m + 1 <= k -> (∀ j, j < i -> bad j = false) -> (j5 step k (st i) = some r /\ ∀ i, i < n -> bad i = false) \/ ∃ q, j5 step k (st i) = some q /\ R q /\ ∃ i, i < n /\ bad i = true := by
  intro m
  induction m with
  | zero =>
    intro i k h1 h2 h3
    obtain ⟨k, rfl⟩ : ∃ q, k = q + 1 := ⟨k - 1, by omega⟩
    have e : i = n := by omega
    subst e
    exact .inl ⟨by simp only [j5, he, Option.bind_some], h3⟩
  | succ m ih =>
    intro i k h1 h2 h3
    obtain ⟨k, rfl⟩ : ∃ q, k = q + 1 := ⟨k - 1, by omega⟩
    cases hbi : bad i with
    | true =>
      obtain ⟨q, e, hR⟩ := hb i (by omega) hbi
      exact .inr ⟨q, by simp only [j5, e, Option.bind_some], hR, i, by omega, hbi⟩
    | false =>
      simp only [j5, hs i (by omega) hbi, Option.bind_some]
      refine ih (i + 1) k (by omega) (by omega) fun j hj => ?_
      by_cases e : j = i
      ·subst e; exact hbi
      ·exact h3 j (by omega)
 exact key n 0 k (by omega) hk (fun j hj => by omega)
theorem b8M {α : Type} (f : Nat -> α) (a j : Nat) (v : α) : ((List.range a).map f).set j v = (List.range a).map fun i => if i = j then v else f i := by
 apply List.ext_getElem?
 intro i
 rw [List.getElem?_set]
 by_cases hi : i < a
 ·by_cases e : j = i
  ·subst e; simp [hi]
  ·simp [e, hi, Ne.symm e]
 ·by_cases e : j = i
  ·subst e; simp [hi]
  ·simp [e, hi]
theorem b5M {l : List Int} {i : Nat} (h : i < l.length) : l[i]? = some (l.getD i 0) := by
 rw [List.getElem?_eq_getElem h]
 simp [List.getD, List.getElem?_eq_getElem h]
def a2w (g : Api_Goal) : Api_Goal := Api_Goal.mk (srt g.Pos) (srt g.Neg) g.Lists
theorem c11 (g : Api_Goal) : a2w (a2w g) = a2w g := by
 unfold a2w
 simp only [c5L]
end Go.Pl
end
section
namespace Go.Pl
open Go Go.RowKit Go.Sx Go.Qx
section
variable {T : Api_Type}
def gIn (N : Nat) (g : Api_Goal) : Bool := g.Pos.all (inR N) && g.Neg.all (inR N)
theorem c1T (g : Api_Goal) (h1 : g.Pos.length <= 1000000) (h2 : g.Neg.length <= 1000000) : a10 T g = some (gIn T.Nodes.length g) := by
 unfold a10
 rw [Z7 (by omega), Z7 (by omega)]
 simp only [Option.bind_some, V6]
 have l1 := a1M (step := a1c T g) (g.Pos ++ g.Neg) (inR T.Nodes.length) (fun i => (i : Int)) () false (fun i k hk => by
  have hi : i < (g.Pos ++ g.Neg).length := (List.getElem?_eq_some_iff.1 hk).1
  have hi' := hi
  rw [List.length_append] at hi'
  unfold a1c
  simp only [Z8]
  rw [Q7 hi, v8 hk]
  simp only [cond_true, Option.bind_some]
  rw [b0V, w6 i (by omega)]
  exact b2x _ _) (by
  unfold a1c
  simp)
 have l1' : j5 (a1c T g) ((g.Pos ++ g.Neg).length + 1) 0 = _ := l1
 rw [l1', List.all_append]
 unfold gIn
 cases g.Pos.all (inR T.Nodes.length) && g.Neg.all (inR T.Nodes.length) <;> rfl
end
end Go.Pl
end
section
namespace Go.Pl
open Go Go.RowKit Go.Sx Go.Qx
def chs (a : Nat) : Nat -> List (List Int)
 | 0 => [[]]
 | m + 1 => (chs a m).flatMap fun c => (List.range (a + 1)).map fun i : Nat => c ++ [(i : Int)]
theorem b78 (a : Nat) : ∀ m, (chs a m).length = (a + 1) ^ m
 | 0 => rfl
 | m + 1 => by
   have key : ∀ l : List (List Int), (l.flatMap fun c => (List.range (a + 1)).map fun i : Nat => c ++ [(i : Int)]).length = l.length * (a + 1) := by
    intro l
    induction l with
    | nil => simp
    | cons x r ih => rw [List.flatMap_cons, List.length_append, ih, List.length_map, List.length_range, List.length_cons, Nat.add_mul, Nat.one_mul, Nat.add_comm]
   rw [chs, key, b78 a m, Nat.pow_succ]
theorem b5l (a : Nat) : ∀ (m : Nat) (c : List Int), c ∈ chs a m ↔ c.length = m /\ ∀ x ∈ c, 0 <= x /\ x <= (a : Int)
 | 0, c => by
   simp only [chs, List.mem_singleton]
   constructor
   ·rintro rfl; exact ⟨rfl, fun x hx => by cases hx⟩
   ·rintro ⟨h, _⟩; exact List.eq_nil_of_length_eq_zero h
 | m + 1, c => by
   simp only [chs, List.mem_flatMap, List.mem_map, List.mem_range]
   constructor
   ·rintro ⟨d, hd, i, hi, rfl⟩
    obtain ⟨h1, h2⟩ := (b5l a m d).1 hd
    refine ⟨by simp [h1], fun x hx => ?_⟩
    rcases List.mem_append.1 hx with hx | hx
    ·exact h2 x hx
    ·rw [List.mem_singleton.1 hx]; omega
   ·rintro ⟨h1, h2⟩
    have hne : c ≠ [] := by intro e; subst e; simp at h1
    have e := List.dropLast_concat_getLast hne
    have hl := h2 _ (List.getLast_mem hne)
    refine ⟨c.dropLast, (b5l a m _).2 ⟨by rw [List.length_dropLast]; omega, fun x hx => h2 x (List.dropLast_subset c hx)⟩, (c.getLast hne).toNat, by omega, ?_⟩
    rw [show (((c.getLast hne).toNat : Nat) : Int) = c.getLast hne by omega]
    exact e
theorem c3S (a : Nat) (ha : a <= 1000) (c : List Int) (hc : c.length <= 1000) (out : List (List Int)) (ho : out.length <= 1000000) : j5 (a3b (a : Int) c) ((a : Int).toNat + 2) (out, 0) = some (out ++ (List.range (a + 1)).map fun i : Nat => c ++ [(i : Int)]) := by
 have := a66 (step := a3b (a : Int) c) (fun i => (out ++ (List.range i).map fun i : Nat => c ++ [(i : Int)], (i : Int))) (a + 1) (out ++ (List.range (a + 1)).map fun i : Nat => c ++ [(i : Int)]) (fun i hi => by
  unfold a3b a2m
  simp only [Z8]
  rw [show decide ((i : Int) <= (a : Int)) = true from by simp; omega, Z7 (by omega)]
  simp only [cond_true, Option.bind_some]
  rw [Z7 (by simp; omega)]
  simp only [Option.bind_some]
  rw [Z7 (by simp only [List.length_append, List.length_map, List.length_range, List.length_cons, List.length_nil]; omega), w6 i (by omega)]
  simp only [Option.bind_some, List.range_succ, List.map_append, List.map_cons, List.map_nil, List.append_assoc]) (by
  unfold a3b
  simp only
  rw [show decide (((a + 1 : Nat) : Int) <= (a : Int)) = false from by simp; omega]
  rfl) ((a : Int).toNat + 2) (by omega)
 simpa using this
theorem c4F (a : Nat) (ha : a <= 1000) (l : List (List Int)) (hl : l.length * (a + 1) <= 1000000) (hc : ∀ c ∈ l, c.length <= 1000) (z : Int) : j5 (a3d (a : Int) (l, z)) (l.length + 1) ([], 0) = some (l.flatMap fun c => (List.range (a + 1)).map fun i : Nat => c ++ [(i : Int)]) := by
 have hlen : ∀ l : List (List Int), (l.flatMap fun c => (List.range (a + 1)).map fun i : Nat => c ++ [(i : Int)]).length = l.length * (a + 1) := by
  intro l
  induction l with
  | nil => simp
  | cons x r ih => rw [List.flatMap_cons, List.length_append, ih, List.length_map, List.length_range, List.length_cons, Nat.add_mul, Nat.one_mul, Nat.add_comm]
 have hll : l.length <= 1000000 := by
  have : l.length * 1 <= l.length * (a + 1) := Nat.mul_le_mul_left _ (by omega)
  omega
 have := a66 (step := a3d (a : Int) (l, z)) (fun i => ((l.take i).flatMap fun c => (List.range (a + 1)).map fun i : Nat => c ++ [(i : Int)], (i : Int))) l.length (l.flatMap fun c => (List.range (a + 1)).map fun i : Nat => c ++ [(i : Int)]) (fun i hi => by
  have hx := List.getElem?_eq_getElem hi
  unfold a3d
  simp only [Z8]
  rw [Q7 hi, v8 hx]
  simp only [cond_true, Option.bind_some]
  rw [c3S a ha l[i] (hc _ (List.getElem_mem hi)) _ (by
   rw [hlen, List.length_take]
   have : min i l.length * (a + 1) <= l.length * (a + 1) := Nat.mul_le_mul_right _ (by omega)
   omega), w6 i (by omega)]
  simp only [Option.bind_some]
  rw [a22 hx, List.flatMap_append]
  simp) (by
  unfold a3d
  simp) (l.length + 1) (Nat.le_refl _)
 simpa using this
theorem c1E (a m : Nat) (ha : a <= 20) (hm : m <= 3) : a6X (a : Int) (m : Int) = some (chs a m) := by
 have hpow : ∀ i, i <= 3 -> (a + 1) ^ i <= 9261 := fun i hi => by
  have h1 : (a + 1) ^ i <= (a + 1) ^ 3 := Nat.pow_le_pow_right (by omega) hi
  have h2 : (a + 1) ^ 3 <= 21 ^ 3 := Nat.pow_le_pow_left (by omega) 3
  omega
 unfold a6X
 have := a66 (step := a3a (a : Int) (m : Int)) (fun i => (chs a i, (i : Int))) m (chs a m) (fun i hi => by
  unfold a3a
  simp only [Z8, V6]
  rw [Q7 hi]
  simp only [cond_true]
  rw [c4F a (by omega) (chs a i) (by
   rw [b78]
   have := hpow i (by omega)
   have h2 : (a + 1) ^ i * (a + 1) <= 9261 * 21 := Nat.mul_le_mul this (by omega)
   omega) (fun c hc => by have := ((b5l a i c).1 hc).1; omega) (i : Int), w6 i (by omega)]
  rfl) (by
  unfold a3a
  simp) ((m : Int).toNat + 1) (by omega)
 have h0 : j5 (a3a (a : Int) (m : Int)) ((m : Int).toNat + 1) (([([] : List Int)] : List (List Int)), 0) = some (chs a m) := this
 rw [h0]
 rfl
end Go.Pl
end
section
namespace Go.Pl
open Go Go.RowKit Go.Sx Go.Qx
section
variable {T : Api_Type}
def a9j (T : Api_Type) (k : Int) : Int := match T.Nodes[k.toNat]? with
 | some x => x.Kind
 | none => 0
abbrev ZT := List ((Int × List Int) × Int)
def b5F (q : (Int × List Int) × Int) : Int := q.1.2.getD q.2.toNat 0
def a07 (z : ZT) (i : Nat) : List Int := (z.filter fun q => q.2 == (i : Int)).map b5F
def b8n (T : Api_Type) (a : Nat) (q : (Int × List Int) × Int) : Bool := decide (q.2 < (a : Int)) && a9j T (b5F q) == 2
def W1 (a : Nat) (kn : List Int) (z : ZT) : List Api_Goal := (List.range a).map fun i => g0 [kn.getD i 0] (a07 z i)
def a6O (a : Nat) (z : ZT) : Bool := !(z.any fun q => q.2 == (a : Int))
def b0B (T : Api_Type) (a : Nat) (kn : List Int) (z : ZT) : List Api_EntryForm :=
 if z.any (b8n T a) = true \/ (W1 a kn z).any (fun g => a6W g.Pos g.Neg) = true then [] else
  (if a6W (a07 z a) [kn.getD a 0] = false /\ a9j T (kn.getD a 0) ≠ 2 then [Api_EntryForm.mk ((W1 a kn z).map a2w) false (a2w (g0 (a07 z a) [kn.getD a 0]))] else []) ++
  (if a6O a z = true then [Api_EntryForm.mk ((W1 a kn z).map a2w) true (g0 [] [])] else [])
theorem a7e (z : ZT) (i : Nat) : (a07 z i).length <= z.length := by
 unfold a07
 rw [List.length_map]
 exact List.length_filter_le _ _
theorem c1m {k : Int} (h : inR T.Nodes.length k = true) : ∃ x, idx T.Nodes k = some x /\ x.Kind = a9j T k := by
 unfold inR at h
 simp only [Bool.and_eq_true, decide_eq_true_eq] at h
 have hk : k.toNat < T.Nodes.length := by omega
 have e := List.getElem?_eq_getElem hk
 refine ⟨_, by have := v8 e; rwa [show ((k.toNat : Nat) : Int) = k by omega] at this, ?_⟩
 unfold a9j
 rw [e]
theorem c27 (a : Nat) (ha : a <= 1000) {e : Api_TypeNode} {kn : List Int} (he : e.Kids = kn) (hk : kn.length = a + 1) :
 j5 (a4f e a) (((List.replicate a (Api_Goal.mk ([]) ([]) false : Api_Goal)).length : Int).toNat + 1) (0, List.replicate a (Api_Goal.mk ([]) ([]) false : Api_Goal)) = some ((), W1 a kn []) := by
 have := a66 (step := a4f e a) (fun i => ((i : Int), (List.range a).map fun j => if j < i then g0 [kn.getD j 0] [] else g0 [] [])) a ((), W1 a kn []) (fun i hi => by
  have hx : ((List.range a).map fun j => if j < i then g0 [kn.getD j 0] [] else g0 [] [])[i]? = some (g0 [] []) := by simp [hi]
  unfold a4f
  simp only [Z8, List.length_replicate, Int.toNat_natCast]
  rw [Q7 hi, he, v8 (b5M (show i < kn.length by omega)), v8 hx, hx, w6 i (by omega)]
  simp only [cond_true, Option.bind_some]
  rw [b8M]
  congr 3
  apply List.map_congr_left
  intro j hj
  by_cases h1 : j = i
  ·subst h1; simp
  ·by_cases h2 : j < i
   ·simp [h1, h2, show j < i + 1 by omega]
   ·simp [h1, h2, show ¬ j < i + 1 by omega]) (by
  unfold a4f
  simp only [List.length_replicate]
  rw [show decide ((a : Int) < (a : Int)) = false from by simp]
  simp only [cond_false]
  congr 3
  unfold W1 a07
  apply List.map_congr_left
  intro j hj
  simp [List.mem_range.1 hj]) (((List.replicate a (Api_Goal.mk ([]) ([]) false : Api_Goal)).length : Int).toNat + 1) (by simp)
 rw [show List.replicate a (Api_Goal.mk ([]) ([]) false : Api_Goal) = (List.range a).map fun j => if j < 0 then g0 [kn.getD j 0] [] else g0 [] [] from by
  apply List.ext_getElem?
  intro i
  by_cases hi : i < a <;> simp [hi]] at this ⊢
 exact this
def okZ (T : Api_Type) (a : Nat) (z : ZT) : Prop := ∀ q ∈ z, (∃ x, idx T.Nodes q.1.1 = some x /\ x.Kids = q.1.2) /\ q.1.2.length = a + 1 /\ (∀ k ∈ q.1.2, inR T.Nodes.length k = true) /\ 0 <= q.2 /\ q.2 <= (a : Int)
theorem b3z {z : ZT} {k : Nat} {q : (Int × List Int) × Int} (h : z[k]? = some q) (i : Nat) : a07 (z.take (k + 1)) i = a07 (z.take k) i ++ (if q.2 == (i : Int) then [b5F q] else []) := by
 unfold a07
 rw [a22 h, List.filter_append, List.map_append]
 by_cases e : q.2 == (i : Int) <;> simp [e]
theorem c0V {a : Nat} {z : ZT} {k : Nat} {q : (Int × List Int) × Int} (h : z[k]? = some q) : a6O a (z.take (k + 1)) = (a6O a (z.take k) && !(q.2 == (a : Int))) := by
 unfold a6O
 rw [a22 h, List.any_append]
 simp
theorem a5P {a : Nat} {kn : List Int} {z : ZT} {i : Nat} (hi : i < a) : (W1 a kn z)[i]? = some (g0 [kn.getD i 0] (a07 z i)) := by
 unfold W1
 simp [hi]
theorem c52 {a : Nat} {z : ZT} (hz : okZ T a z) {q : (Int × List Int) × Int} (hq : q ∈ z) : idx q.1.2 q.2 = some (b5F q) /\ inR T.Nodes.length (b5F q) = true := by
 obtain ⟨_, h2, h3, h4, h5⟩ := hz q hq
 have hlt : q.2.toNat < q.1.2.length := by omega
 have e := b5M hlt
 refine ⟨?_, h3 _ (List.mem_of_getElem? e)⟩
 have := v8 e
 rwa [show ((q.2.toNat : Nat) : Int) = q.2 by omega] at this
theorem c2P (a : Nat) (ha : a <= 1000) {e : Api_TypeNode} {kn : List Int} (he : e.Kids = kn) (hk : kn.length = a + 1) (z : ZT) (hz : okZ T a z) (hzl : z.length <= 1000) :
 (j5 (a16 T (z.map fun q => q.1.1) (z.map fun q => q.2) e) (((z.map fun q => q.1.1).length : Int).toNat + 1) ((true, 0, ([], ([kn.getD a 0] : List Int), false)), W1 a kn []) = some (.inl ((a6O a z, (a07 z a, [kn.getD a 0], false)), W1 a kn z)) /\ z.any (b8n T a) = false) \/
 ∃ r, j5 (a16 T (z.map fun q => q.1.1) (z.map fun q => q.2) e) (((z.map fun q => q.1.1).length : Int).toNat + 1) ((true, 0, ([], ([kn.getD a 0] : List Int), false)), W1 a kn []) = some (.inr r) /\ r.1.1 = [] /\ z.any (b8n T a) = true := by
 have hw : w64 ((kn.length : Int) - 1) = (a : Int) := by rw [hk, K7 (by omega) (by omega)]; omega
 have hlen : (z.map fun q => q.1.1).length = z.length := List.length_map _
 have key := b8D (step := a16 T (z.map fun q => q.1.1) (z.map fun q => q.2) e) (fun k => ((a6O a (z.take k), (k : Int), (a07 (z.take k) a, ([kn.getD a 0] : List Int), false)), W1 a kn (z.take k)))
  (fun k => match z[k]? with | some q => b8n T a q | none => false) z.length (.inl ((a6O a z, (a07 z a, [kn.getD a 0], false)), W1 a kn z)) (fun r => ∃ r', r = .inr r' /\ r'.1.1 = []) (fun k hkl hb => ?_) (fun k hkl hb => ?_) ?_ (((z.map fun q => q.1.1).length : Int).toNat + 1) (by rw [hlen]; omega)
 ·rcases key with ⟨k1, k2⟩ | ⟨r, k1, ⟨r', rfl, k2⟩, i, hi, k3⟩
  ·left
   refine ⟨k1, ?_⟩
   rw [List.any_eq_false]
   intro q hq
   obtain ⟨i, hi, e⟩ := List.getElem_of_mem hq
   have := k2 i hi
   rw [List.getElem?_eq_getElem hi, e] at this
   simpa using this
  ·right
   refine ⟨r', k1, k2, ?_⟩
   rw [List.getElem?_eq_getElem hi] at k3
   exact List.any_eq_true.2 ⟨_, List.getElem_mem hi, k3⟩
 all_goals
  try
   have hq := List.getElem?_eq_getElem hkl
   have hm := List.getElem_mem hkl
   generalize z[k] = q at hq hm
   rw [hq] at hb
   simp only at hb
   obtain ⟨⟨x, hx1, hx2⟩, h2, h3, h4, h5⟩ := hz q hm
   obtain ⟨w1, w2⟩ := c52 hz hm
   obtain ⟨y, y1, y2⟩ := c1m w2
   have t1 : (z.map fun q => q.1.1)[k]? = some q.1.1 := by rw [List.getElem?_map, hq]; rfl
   have t2 : (z.map fun q => q.2)[k]? = some q.2 := by rw [List.getElem?_map, hq]; rfl
   have hk1 : decide ((k : Int) < ((z.map fun q => q.1.1).length : Int)) = true := by rw [hlen]; exact Q7 hkl
 ·unfold a16
  simp only [Z8]
  rw [hk1, v8 t1, v8 t2]
  simp only [cond_true, Option.bind_some]
  rw [hx1]
  simp only [Option.bind_some]
  rw [hx2, w1]
  simp only [he, hw, Option.bind_some]
  rw [y1, w6 k (by omega)]
  simp only [Option.bind_some, y2]
  unfold b8n at hb
  have hq15 : (bif decide (q.2 < (a : Int)) then some (a9j T (b5F q) == 2) else some false) = some false := by
   cases hd : decide (q.2 < (a : Int)) with
   | true => rw [hd] at hb; simp only [Bool.true_and] at hb; rw [cond_true, hb]
   | false => rfl
  rw [hq15]
  simp only [Option.bind_some, cond_false]
  rw [c0V hq, b3z hq a]
  cases hqa : q.2 == (a : Int) with
  | true =>
    simp only [cond_true]
    rw [Z7 (by have := a7e (z.take k) a; rw [List.length_take] at this; simp only [List.length_cons, List.length_nil]; omega)]
    simp only [Option.bind_some, if_true, Bool.not_true, Bool.and_false]
    congr 3
    unfold W1
    apply List.map_congr_left
    intro i hi
    have hi := List.mem_range.1 hi
    have hqe : q.2 = (a : Int) := by simpa using hqa
    rw [b3z hq i, if_neg (by simp; omega), List.append_nil]
  | false =>
    have hqe : q.2 ≠ (a : Int) := by simpa using hqa
    have hlt : q.2.toNat < a := by omega
    have ha1 := a5P (kn := kn) (z := z.take k) hlt
    have ha2 : idx (W1 a kn (z.take k)) q.2 = some (g0 [kn.getD q.2.toNat 0] (a07 (z.take k) q.2.toNat)) := by
     have := v8 ha1
     rwa [show ((q.2.toNat : Nat) : Int) = q.2 by omega] at this
    simp only [cond_false]
    rw [ha2, ha1]
    simp only [Option.bind_some]
    rw [Z7 (by have := a7e (z.take k) q.2.toNat; rw [List.length_take] at this; simp only [List.length_cons, List.length_nil]; omega)]
    have hbq : Nat.beq (q.2.toNat + 2) (q.2.toNat + 2) = true := by simp
    simp only [Option.bind_some, hbq, cond_true, Bool.not_false, Bool.and_true, Bool.false_eq_true, if_false, List.append_nil]
    congr 3
    unfold W1
    rw [b8M]
    apply List.map_congr_left
    intro i hi
    rw [b3z hq i]
    by_cases e : i = q.2.toNat
    ·subst e
     rw [if_pos rfl, if_pos (by simp; omega)]
    ·rw [if_neg e, if_neg (by simp; omega), List.append_nil]
 ·unfold b8n at hb
  simp only [Bool.and_eq_true] at hb
  refine ⟨.inr (([], (a07 (z.take k) a, [kn.getD a 0], false)), W1 a kn (z.take k)), ?_, (([], (a07 (z.take k) a, [kn.getD a 0], false)), W1 a kn (z.take k)), rfl, rfl⟩
  unfold a16
  simp only [Z8]
  rw [hk1, v8 t1, v8 t2]
  simp only [cond_true, Option.bind_some]
  rw [hx1]
  simp only [Option.bind_some]
  rw [hx2, w1]
  simp only [he, hw, Option.bind_some]
  rw [y1]
  simp only [Option.bind_some, y2, hb.1, hb.2, cond_true]
 ·unfold a16
  simp only [hlen, List.take_length]
  rw [show decide ((z.length : Int) < (z.length : Int)) = false from by simp]
  rfl
theorem b8Q (a : Nat) (kn : List Int) (z : ZT) : (W1 a kn z).length = a := by simp [W1]
theorem c2Q {a : Nat} {kn : List Int} {z : ZT} {g : Api_Goal} (h : g ∈ W1 a kn z) : ∃ i, i < a /\ g = g0 [kn.getD i 0] (a07 z i) := by
 unfold W1 at h
 obtain ⟨i, hi, e⟩ := List.mem_map.1 h
 exact ⟨i, List.mem_range.1 hi, e.symm⟩
theorem c2S (a : Nat) (ha : a <= 1000) (kn : List Int) (z : ZT) (hzl : z.length <= 1000) (x : Bool × ((List Int) × (List Int) × Bool)) :
 (j5 (a14 (x, W1 a kn z)) (((W1 a kn z).length : Int).toNat + 1) ([], 0) = some (.inl ((W1 a kn z).map a2w)) /\ (W1 a kn z).any (fun g => a6W g.Pos g.Neg) = false) \/
 ∃ r, j5 (a14 (x, W1 a kn z)) (((W1 a kn z).length : Int).toNat + 1) ([], 0) = some (.inr r) /\ r = [] /\ (W1 a kn z).any (fun g => a6W g.Pos g.Neg) = true := by
 have hl := b8Q a kn z
 have key := b8D (step := a14 (x, W1 a kn z)) (fun k => (((W1 a kn z).take k).map a2w, (k : Int)))
  (fun k => match (W1 a kn z)[k]? with | some g => a6W g.Pos g.Neg | none => false) a (.inl ((W1 a kn z).map a2w)) (fun r => ∃ r', r = .inr r' /\ r' = []) (fun k hkl hb => ?_) (fun k hkl hb => ?_) ?_ (((W1 a kn z).length : Int).toNat + 1) (by rw [hl]; omega)
 ·rcases key with ⟨k1, k2⟩ | ⟨r, k1, ⟨r', rfl, k2⟩, i, hi, k3⟩
  ·left
   refine ⟨k1, ?_⟩
   rw [List.any_eq_false]
   intro g hg
   obtain ⟨i, hi, e⟩ := List.getElem_of_mem hg
   have := k2 i (by omega)
   rw [List.getElem?_eq_getElem hi, e] at this
   simpa using this
  ·right
   refine ⟨r', k1, k2, ?_⟩
   rw [a5P hi] at k3
   exact List.any_eq_true.2 ⟨_, List.mem_of_getElem? (a5P hi), k3⟩
 ·rw [a5P hkl] at hb
  have hb : a6W [kn.getD k 0] (a07 z k) = false := hb
  have hn := a7e z k
  unfold a14
  simp only [Z8, Int.toNat_natCast]
  rw [show decide ((k : Int) < ((W1 a kn z).length : Int)) = true from by rw [hl]; exact Q7 hkl, v8 (a5P hkl)]
  simp only [cond_true, Option.bind_some]
  rw [b75 _ _ (by simp) (by omega), hb]
  simp only [Option.bind_some, cond_false]
  rw [b40 _ _ _ (by simp) (by omega)]
  simp only [Option.bind_some]
  rw [Z7 (by simp only [List.length_map, List.length_take, List.length_cons, List.length_nil]; omega), w6 k (by omega), a22 (a5P hkl)]
  simp [a2w]
 ·rw [a5P hkl] at hb
  have hb : a6W [kn.getD k 0] (a07 z k) = true := hb
  have hn := a7e z k
  refine ⟨.inr [], ?_, [], rfl, rfl⟩
  unfold a14
  simp only [Z8, Int.toNat_natCast]
  rw [show decide ((k : Int) < ((W1 a kn z).length : Int)) = true from by rw [hl]; exact Q7 hkl, v8 (a5P hkl)]
  simp only [cond_true, Option.bind_some]
  rw [b75 _ _ (by simp) (by omega), hb]
  rfl
 ·unfold a14
  simp only [hl]
  rw [show decide ((a : Int) < (a : Int)) = false from by simp, List.take_of_length_le (by omega)]
  rfl
theorem c2s (l : List Api_Goal) (out : List Api_EntryForm) (hl : l.length <= 1000) (hp : ∀ g ∈ l, g.Pos.length <= 1000 /\ g.Neg.length <= 1000) : j5 (a29 (l, out)) ((l.length : Int).toNat + 1) ([], 0) = some (l.map a2w) := by
 have := a66 (step := a29 (l, out)) (fun k => ((l.take k).map a2w, (k : Int))) l.length (l.map a2w) (fun k hk => by
  have hx := List.getElem?_eq_getElem hk
  obtain ⟨h1, h2⟩ := hp _ (List.getElem_mem hk)
  unfold a29
  simp only [Z8]
  rw [Q7 hk, v8 hx]
  simp only [cond_true, Option.bind_some]
  generalize l[k] = g at hx h1 h2
  obtain ⟨p, q, b⟩ := g
  rw [b40 p q b (by have : p.length <= 1000 := h1; omega) (by have : q.length <= 1000 := h2; omega)]
  simp only [Option.bind_some]
  rw [Z7 (by simp only [List.length_map, List.length_take, List.length_cons, List.length_nil]; omega), w6 k (by omega), a22 hx]
  simp [a2w]) (by
  unfold a29
  simp) ((l.length : Int).toNat + 1) (by omega)
 exact this
theorem c4J (a : Nat) (ha : a <= 1000) {e : Api_TypeNode} {kn : List Int} {jn : Int} (hj : idx T.Nodes jn = some e) (he : e.Kids = kn) (hk : kn.length = a + 1) (hkr : ∀ k ∈ kn, inR T.Nodes.length k = true) (z : ZT) (hz : okZ T a z) (hzl : z.length <= 1000) :
 a8S T (z.map fun q => q.1.1) jn (z.map fun q => q.2) = some (b0B T a kn z) := by
 have hw : wr .i64 ((e.Kids.length : Int) - 1) = (a : Int) := by rw [Z8, he, hk, K7 (by omega) (by omega)]; omega
 have hroom : a6y (a : Int) (a : Int) 56 = some a := by
  unfold a6y
  rw [show (decide (0 <= (a : Int)) && decide ((a : Int) <= (a : Int)) && decide ((a : Int) * ((56 : Nat) : Int) <= 140737488355328)) = true from by simp; omega]
  rfl
 have hka : idx kn (a : Int) = some (kn.getD a 0) := v8 (b5M (by omega))
 have hkin := hkr _ (List.mem_of_getElem? (b5M (show a < kn.length by omega)))
 obtain ⟨y, y1, y2⟩ := c1m hkin
 have hna := a7e z a
 unfold a8S
 rw [hj]
 simp only [Option.bind_some, hw]
 rw [hroom]
 simp only [Option.bind_some]
 rw [c27 a ha he hk]
 simp only [Option.bind_some]
 rw [he, hka]
 simp only [Option.bind_some]
 unfold b0B
 rcases c2P a ha he hk z hz hzl with ⟨k1, k2⟩ | ⟨r, k1, k2, k3⟩
 ·rw [k1, k2]
  simp only [Option.bind_some, w5]
  rcases c2S a ha kn z hzl (a6O a z, (a07 z a, [kn.getD a 0], false)) with ⟨m1, m2⟩ | ⟨r, m1, m2, m3⟩
  ·rw [m1, m2]
   simp only [Option.bind_some, w5, Bool.false_eq_true, or_self, if_false]
   rw [b75 _ _ (by omega) (by simp)]
   simp only [Option.bind_some]
   have hq37 : (bif !(a6W (a07 z a) [kn.getD a 0]) then (Option.bind (idx T.Nodes (kn.getD a 0)) fun e36 => some (e36.Kind != 2)) else some false) = some (decide (a6W (a07 z a) [kn.getD a 0] = false /\ a9j T (kn.getD a 0) ≠ 2)) := by
    rw [y1]
    simp only [Option.bind_some, y2]
    cases a6W (a07 z a) [kn.getD a 0]
    ·simp [bne]
     cases h : (a9j T (kn.getD a 0) == 2) <;> simp_all
    ·simp
   rw [hq37]
   simp only [Option.bind_some]
   have hargs : ∀ out, j5 (a29 ((W1 a kn z).map a2w, out)) ((((W1 a kn z).map a2w).length : Int).toNat + 1) ([], 0) = some ((W1 a kn z).map a2w) := fun out => by
    rw [c2s _ out (by rw [List.length_map, b8Q]; exact ha) fun g hg => by
     obtain ⟨g', hg', rfl⟩ := List.mem_map.1 hg
     obtain ⟨i, hi, rfl⟩ := c2Q hg'
     have h1 := c09 [kn.getD i 0]
     have h2 := c09 (a07 z i)
     have h3 := a7e z i
     simp only [List.length_cons, List.length_nil] at h1
     exact ⟨by show (srt [kn.getD i 0]).length <= 1000; omega, by show (srt (a07 z i)).length <= 1000; omega⟩]
    rw [List.map_map]
    congr 1
    exact List.map_congr_left fun g _ => c11 g
   by_cases hf : a6W (a07 z a) [kn.getD a 0] = false /\ a9j T (kn.getD a 0) ≠ 2
   ·rw [decide_eq_true hf, if_pos hf]
    simp only [cond_true]
    rw [b40 _ _ _ (by omega) (by simp)]
    simp only [Option.bind_some]
    rw [Z7 (by simp)]
    simp only [Option.bind_some]
    cases a6O a z
    ·simp [a2w]
    ·simp only [cond_true]
     rw [hargs]
     simp only [Option.bind_some]
     rw [Z7 (by simp)]
     simp [a2w]
   ·rw [decide_eq_false hf, if_neg hf]
    simp only [cond_false, Option.bind_some]
    cases a6O a z
    ·simp
    ·simp only [cond_true]
     rw [hargs]
     simp only [Option.bind_some]
     rw [Z7 (by simp)]
     simp
  ·rw [m1, m3]
   simp only [Option.bind_some, w5, or_true, if_true, m2]
 ·rw [k1, k3]
  simp only [Option.bind_some, w5, true_or, if_true, k2]
end
end Go.Pl
end
section
namespace Go.Pl
open Go Go.RowKit Go.Sx Go.Qx
section
variable {T : Api_Type}
abbrev PS := List (Int × List Int)
def okP (T : Api_Type) (a : Nat) (ps : PS) : Prop := ∀ q ∈ ps, (∃ x, idx T.Nodes q.1 = some x /\ x.Kids = q.2) /\ q.2.length = a + 1 /\ (∀ k ∈ q.2, inR T.Nodes.length k = true)
def c2l (T : Api_Type) (a : Nat) (kn : List Int) (ps : PS) : List Api_EntryForm := (chs a ps.length).flatMap fun c => b0B T a kn (ps.zip c)
theorem c6d {a : Nat} {ps : PS} (h : okP T a ps) {c : List Int} (hc : c ∈ chs a ps.length) : okZ T a (ps.zip c) /\ (ps.zip c).map (fun q => q.1.1) = ps.map (fun q => q.1) /\ (ps.zip c).map (fun q => q.2) = c /\ (ps.zip c).length = ps.length := by
 obtain ⟨h1, h2⟩ := (b5l a _ c).1 hc
 refine ⟨fun q hq => ?_, ?_, ?_, by simp [h1]⟩
 ·have hq1 := List.of_mem_zip (show (q.1, q.2) ∈ ps.zip c from hq)
  obtain ⟨k1, k2, k3⟩ := h _ hq1.1
  exact ⟨k1, k2, k3, (h2 _ hq1.2).1, (h2 _ hq1.2).2⟩
 ·have : (ps.zip c).map (fun q => q.1.1) = ((ps.zip c).map Prod.fst).map (fun q => q.1) := by rw [List.map_map]; rfl
  rw [this, List.map_fst_zip (by omega)]
 ·exact List.map_snd_zip (by omega)
theorem b7x (a : Nat) (kn : List Int) (z : ZT) : (b0B T a kn z).length <= 2 := by
 unfold b0B
 split
 ·simp
 ·rw [List.length_append]
  split <;> split <;> simp
theorem c0s {α β : Type} (f : α -> List β) (b : Nat) (hf : ∀ x, (f x).length <= b) : ∀ l : List α, (l.flatMap f).length <= l.length * b
 | [] => by simp
 | x :: l => by
   rw [List.flatMap_cons, List.length_append, List.length_cons, Nat.add_mul, Nat.one_mul]
   have h1 := hf x
   have h2 := c0s f b hf l
   omega
theorem c4i (a : Nat) (ha : a <= 20) {e : Api_TypeNode} {kn : List Int} {jn : Int} (hj : idx T.Nodes jn = some e) (he : e.Kids = kn) (hk : kn.length = a + 1) (hkr : ∀ k ∈ kn, inR T.Nodes.length k = true) (ps : PS) (hz : okP T a ps) (hzl : ps.length <= 3)
 (hfn : (ps.map (fun q => q.1)).all (fnB T) = true) (hfj : fnB T jn = true) (n : Nat) (hwf : a1b n T = some 0) : a2e n T (ps.map fun q => q.1) jn = some (c2l T a kn ps, 0) := by
 have hw : wr .i64 ((e.Kids.length : Int) - 1) = (a : Int) := by rw [Z8, he, hk, K7 (by omega) (by omega)]; omega
 have hlm : (ps.map fun q => q.1).length = ps.length := List.length_map _
 unfold a2e a2m
 rw [hwf]
 simp only [Option.bind_some, bne_self_eq_false, cond_false]
 rw [Z7 (by rw [hlm]; omega)]
 simp only [Option.bind_some]
 rw [Z7 (by simp only [hlm, List.length_cons, List.length_nil]; omega)]
 simp only [Option.bind_some]
 rw [c0g _ (by simp only [List.length_append, hlm, List.length_cons, List.length_nil]; omega), List.all_append, hfn]
 simp only [List.all_cons, List.all_nil, hfj, Bool.and_self, Option.bind_some, Bool.not_true, cond_false]
 rw [hj]
 simp only [Option.bind_some, hw]
 have l1 := a66 (step := a0U T (ps.map fun q => q.1) e) (fun i => (i : Int)) ps.length (.inl ()) (fun i hi => by
  have hq := List.getElem?_eq_getElem hi
  obtain ⟨⟨x, x1, x2⟩, x3, _⟩ := hz _ (List.getElem_mem hi)
  generalize ps[i] = q at hq x1 x2 x3
  unfold a0U
  simp only [Z8]
  rw [show decide ((i : Int) < ((ps.map fun q => q.1).length : Int)) = true from by rw [hlm]; exact Q7 hi, v8 (show (ps.map fun q => q.1)[i]? = some q.1 by rw [List.getElem?_map, hq]; rfl)]
  simp only [cond_true, Option.bind_some]
  rw [x1]
  simp only [Option.bind_some]
  rw [x2, he, x3, hk, w6 i (by omega)]
  simp) (by
  unfold a0U
  simp [hlm]) (((ps.map fun q => q.1).length : Int).toNat + 1) (by rw [hlm]; omega)
 have l1' : j5 (a0U T (ps.map fun q => q.1) e) (((ps.map fun q => q.1).length : Int).toNat + 1) 0 = some (.inl ()) := l1
 rw [l1']
 simp only [Option.bind_some, w5]
 rw [hlm, c1E a ps.length ha hzl]
 simp only [Option.bind_some]
 have hcl : (chs a ps.length).length <= 9261 := by
  rw [b78]
  have h1 : (a + 1) ^ ps.length <= (a + 1) ^ 3 := Nat.pow_le_pow_right (by omega) hzl
  have h2 : (a + 1) ^ 3 <= 21 ^ 3 := Nat.pow_le_pow_left (by omega) 3
  omega
 have l2 := a66 (step := a4t T (ps.map fun q => q.1) jn (chs a ps.length)) (fun i => (((chs a ps.length).take i).flatMap fun c => b0B T a kn (ps.zip c), (i : Int))) (chs a ps.length).length (c2l T a kn ps) (fun i hi => by
  have hq := List.getElem?_eq_getElem hi
  have hm := List.getElem_mem hi
  generalize (chs a ps.length)[i] = c at hq hm
  obtain ⟨z1, z2, z3, z4⟩ := c6d hz hm
  have hf := c4J a (by omega) hj he hk hkr (ps.zip c) z1 (by omega)
  rw [z2, z3] at hf
  unfold a4t
  simp only [Z8]
  rw [Q7 hi, v8 hq]
  simp only [cond_true, Option.bind_some]
  rw [hf]
  simp only [Option.bind_some]
  have b1 := c0s (fun c => b0B T a kn (ps.zip c)) 2 (fun c => b7x a kn _) ((chs a ps.length).take i)
  have b2 := b7x (T := T) a kn (ps.zip c)
  rw [List.length_take] at b1
  rw [Z7 (by omega), w6 i (by omega), a22 hq, List.flatMap_append]
  simp) (by
  unfold a4t
  simp [c2l]) (((chs a ps.length).length : Int).toNat + 1) (by omega)
 have l2' : j5 (a4t T (ps.map fun q => q.1) jn (chs a ps.length)) (((chs a ps.length).length : Int).toNat + 1) ([], 0) = some (c2l T a kn ps) := l2
 rw [l2']
 rfl
end
end Go.Pl
end
section
namespace Go.Pl
open Go Go.RowKit Go.Sx Go.Qx
theorem c6a (x : Int) {n : Int} (h1 : 1 <= n) (h2 : n <= 1000) : ∃ m : Nat, (m : Int) < n /\ b1y (wr .u64 x) n = some (m : Int) := by
 have h0 : 0 <= wr .u64 x := by
  have : wr .u64 x = x % 18446744073709551616 := by
   unfold wr IntKind.wrap
   rfl
  rw [this]
  omega
 have b1 := Int.tmod_lt_of_pos (wr .u64 x) (show 0 < n by omega)
 have b2 := Int.tmod_nonneg n h0
 refine ⟨((wr .u64 x).tmod n).toNat, by omega, ?_⟩
 unfold b1y
 rw [if_neg (by omega)]
 congr 1
 omega
end Go.Pl
end
section
namespace Go.Pl
open Go Go.RowKit Go.Sx Go.Qx
def a2J (_ : Int) : Nat := 1
def b0x (l : List Int) : Nat := (l.map a2J).sum + 1
def b8t (_ : Bool) : Nat := 1
def a4y (v : Api_Field) : Nat := a2y v.Key_ + a2J v.Node + b8t v.Optional + 1
def a8l (l : List Api_Field) : Nat := (l.map a4y).sum + 1
def b4x (v : Int × Int) : Nat := a2J v.1 + a2J v.2 + 1
def a0k (v : Api_TypeNode) : Nat := a2J v.Kind + a2J v.Lo + a2J v.Hi + a0Y v.Text + b0x v.Kids + a8l v.Fields + b4x v.Rest + 1
def a9J (l : List Api_TypeNode) : Nat := (l.map a0k).sum + 1
def a33 (v : Api_Type) : Nat := a9J v.Nodes + a2J v.Root + 1
theorem c00 {α : Type} (b : α -> Nat) : ∀ {l : List α} {x : α}, x ∈ l -> b x <= (l.map b).sum
 | [], _, h => by cases h
 | y :: l, x, h => by
   rw [List.map_cons, List.sum_cons]
   rcases List.mem_cons.1 h with rfl | h
   ·omega
   ·have := c00 b h; omega
theorem b7T {α : Type} (b : α -> Nat) (h : ∀ x, 1 <= b x) : ∀ l : List α, l.length <= (l.map b).sum
 | [] => Nat.zero_le _
 | y :: l => by
   have h1 := h y
   have h2 := b7T b h l
   rw [List.map_cons, List.sum_cons, List.length_cons]
   omega
end Go.Pl
end
