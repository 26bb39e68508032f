/- Part 3. -/
import Derived.Test.YtcbgcnbnnodhdaaGreatK2
import Derived.ChangeArms
import Derived.KernelRfl
import Derived.OpenShut
import Derived.Shelf.Lays
import Derived.Test.YtcbgcnbnnodhdaaGreatProg
import Derived.Test.YtcbgcnbnnodhdaaGreatRows
section
namespace Go.Pl
open Go Go.RowKit Go.Sx Go.Qx
theorem b0c (l : List (List Int)) (f : List Int -> Option Bool) (p : List Int -> Bool) (hl : l.length <= 4194304) (hf : ∀ x ∈ l, f x = some (p x)) : K5 l f = some (l.any p) := by
 unfold K5 a0x
 rw [a0w]
 rcases b1f (step := K6 l f) l p (fun i _ => (i : Int)) (fun i x hx => by
  have hi : i < l.length := (List.getElem?_eq_some_iff.1 hx).1
  unfold K6
  rw [X7 hi, w7 hx]
  simp only [cond_true, Option.bind_some, W8]
  rw [Y6 i (by omega), hf x (List.mem_of_getElem? hx)]
  cases p x <;> rfl) (by
  unfold K6
  simp) with ⟨i, x, hx, hp, _, e⟩ | ⟨h, e⟩
 ·rw [e, b3z hx hp]
  simp only [Option.bind_some, w9, b6t]
 ·rw [e, h]
  rfl
theorem b4t (d : Int) (l : List (List Int)) (hl : l.length <= 4194304) : a2f d l = some (l.all fun r => (r.length : Int) == d) := by
 unfold a2f
 have h := b0c l (fun z1 => Option.bind (a36 z1 d) fun r2 => some r2) (fun r => !((r.length : Int) == d)) hl fun x _ => rfl
 rw [h]
 simp only [Option.bind_some]
 rw [b7Q]
def a6x (vi : Int -> Bool) (r : List Int) (j : Nat) : List Int := ((List.range j).filter fun i => vi (r.getD i 0)).map fun i : Nat => (i : Int)
def J8 (vi : Int -> Bool) (r : List Int) : List Int := a6x vi r r.length
theorem b5y (vi : Int -> Bool) (r : List Int) (j : Nat) : a6x vi r (j + 1) = a6x vi r j ++ (if vi (r.getD j 0) = true then [(j : Int)] else []) := by
 unfold a6x
 rw [List.range_succ, List.filter_append, List.map_append, List.filter_cons]
 by_cases h : vi (r.getD j 0) = true
 ·rw [if_pos h, if_pos h]; rfl
 ·rw [if_neg h, if_neg h]; rfl
theorem a97 (vi : Int -> Bool) (r : List Int) (j : Nat) : (a6x vi r j).length <= j := by
 unfold a6x
 rw [List.length_map]
 exact Nat.le_trans (List.length_filter_le _ _) (by simp)
theorem b64 {α : Type} {l : List α} {k : Nat} {x : α} (h : l[k]? = some x) : l.set k x = l := by
 apply List.ext_getElem?
 intro i
 by_cases e : k = i
 ·subst e; rw [List.getElem?_set_self (List.getElem?_eq_some_iff.1 h).1, h]
 ·rw [List.getElem?_set_ne e]
theorem b7d (vi : Int -> Bool) (vf : Int -> Option Bool) (k : Nat) (S0 base : List (List Int)) (r : List Int) (hr : r.length <= 1000) (hv : ∀ x ∈ r, vf x = some (vi x)) (hb : base[k]? = some []) :
 j5 (a0K vf ((k : Int), S0) r) (r.length + 1) (0, base) = some ((), base.set k (J8 vi r)) := by
 have hk := (List.getElem?_eq_some_iff.1 hb).1
 have := a2c (step := a0K vf ((k : Int), S0) r) (fun j => ((j : Int), base.set k (a6x vi r j))) r.length ((), base.set k (J8 vi r)) (fun j hj => by
  have hx := List.getElem?_eq_getElem hj
  have hg : r.getD j 0 = r[j] := by simp [List.getD, hx]
  have hl := a97 vi r j
  unfold a0K
  simp only [W8, Int.toNat_natCast]
  rw [X7 hj, w7 hx]
  simp only [cond_true, Option.bind_some]
  rw [hv _ (List.getElem_mem hj), b5y, hg]
  simp only [Option.bind_some]
  have hs : (base.set k (a6x vi r j))[k]? = some (a6x vi r j) := List.getElem?_set_self hk
  cases vi r[j] with
  | false =>
    rw [Y6 j (by omega)]
    simp
  | true =>
    simp only [cond_true]
    rw [w7 hs, hs]
    simp only [Option.bind_some]
    rw [a1N (by simp only [List.length_cons, List.length_nil]; omega), Y6 j (by omega)]
    have hbq : Nat.beq (k + 2) (k + 2) = true := by simp
    simp only [Option.bind_some, hbq, cond_true, List.set_set, if_true]) (by
  unfold a0K
  simp [J8]) (r.length + 1) (Nat.le_refl _)
 have e0 : base.set k (a6x vi r 0) = base := b64 hb
 simp only [e0] at this
 exact this
theorem b6D (vi : Int -> Bool) (vf : Int -> Option Bool) (neg : List (List Int)) (hn : neg.length <= 1000) (hr : ∀ r ∈ neg, r.length <= 1000) (hv : ∀ r ∈ neg, ∀ x ∈ r, vf x = some (vi x)) :
 (j5 (V9 neg vf) (neg.length + 1) (0, List.replicate neg.length ([] : List Int)) = some (.inl ((), neg.map (J8 vi))) /\ ∀ r ∈ neg, J8 vi r ≠ []) \/
 ∃ q, j5 (V9 neg vf) (neg.length + 1) (0, List.replicate neg.length ([] : List Int)) = some (.inr q) /\ q.1 = [] /\ ∃ r ∈ neg, J8 vi r = [] := by
 have key := b1V (step := V9 neg vf) (fun k => ((k : Int), (List.range neg.length).map fun i => if i < k then J8 vi (neg.getD i []) else [])) (fun k => (J8 vi (neg.getD k [])).isEmpty) neg.length
  (.inl ((), neg.map (J8 vi))) (fun q => ∃ q', q = .inr q' /\ q'.1 = []) (fun k hk hb => ?_) (fun k hk hb => ?_) ?_ (neg.length + 1) (Nat.le_refl _)
 ·have e0 : (List.range neg.length).map (fun i => if i < 0 then J8 vi (neg.getD i []) else []) = List.replicate neg.length ([] : List Int) := by
   apply List.ext_getElem?
   intro i
   by_cases hi : i < neg.length <;> simp [hi]
  simp only [e0] at key
  have hgd : ∀ i (hi : i < neg.length), neg.getD i [] = neg[i] := fun i hi => by simp [List.getD, List.getElem?_eq_getElem hi]
  rcases key with ⟨k1, k2⟩ | ⟨q, k1, ⟨q', rfl, k2⟩, i, hi, k3⟩
  ·left
   refine ⟨k1, fun r hr e => ?_⟩
   obtain ⟨i, hi, rfl⟩ := List.getElem_of_mem hr
   have := k2 i hi
   rw [hgd i hi, e] at this
   cases this
  ·right
   refine ⟨q', k1, k2, neg[i], List.getElem_mem hi, ?_⟩
   rw [hgd i hi] at k3
   exact List.isEmpty_iff.1 k3
 all_goals
  try
   have hx := List.getElem?_eq_getElem hk
   have hg : neg.getD k [] = neg[k] := by simp [List.getD, hx]
   have hm := List.getElem_mem hk
   have hb0 : ((List.range neg.length).map fun i => if i < k then J8 vi (neg.getD i []) else [])[k]? = some [] := by simp [hk]
   have h1 := b7d vi vf k ((List.range neg.length).map fun i => if i < k then J8 vi (neg.getD i []) else []) _ neg[k] (hr _ hm) (hv _ hm) hb0
   rw [b5w] at h1
   have hnew : ((List.range neg.length).map fun i => if i = k then J8 vi neg[k] else if i < k then J8 vi (neg.getD i []) else []) = (List.range neg.length).map fun i => if i < k + 1 then J8 vi (neg.getD i []) else [] := by
    apply List.map_congr_left
    intro j hj
    by_cases h1 : j = k
    ·subst h1; rw [if_pos rfl, if_pos (by omega), hg]
    ·by_cases h2 : j < k
     ·rw [if_neg h1, if_pos h2, if_pos (by omega)]
     ·rw [if_neg h1, if_neg h2, if_neg (by omega)]
   rw [hnew] at h1
   have hs : ((List.range neg.length).map fun i => if i < k + 1 then J8 vi (neg.getD i []) else [])[k]? = some (J8 vi neg[k]) := by simp only [List.getElem?_map, List.getElem?_range hk, Option.map_some, if_pos (show k < k + 1 by omega), hg]
   rw [hg] at hb
 ·unfold V9
  simp only [W8, a0w]
  rw [X7 hk, w7 hx]
  simp only [cond_true, Option.bind_some]
  rw [h1]
  simp only [Option.bind_some, Int.toNat_natCast]
  rw [w7 hs, hs, Y6 k (by omega)]
  simp only [Option.bind_some]
  have : (((J8 vi neg[k]).length : Int) == 0) = false := by
   cases h : J8 vi neg[k] with
   | nil => rw [h] at hb; cases hb
   | cons a b => simp; omega
  rw [this]
  rfl
 ·refine ⟨.inr ([], (List.range neg.length).map fun i => if i < k + 1 then J8 vi (neg.getD i []) else []), ?_, _, rfl, rfl⟩
  unfold V9
  simp only [W8, a0w]
  rw [X7 hk, w7 hx]
  simp only [cond_true, Option.bind_some]
  rw [h1]
  simp only [Option.bind_some, Int.toNat_natCast]
  rw [w7 hs, hs]
  simp only [Option.bind_some]
  rw [List.isEmpty_iff.1 hb]
  rfl
 ·unfold V9
  simp only [Int.lt_irrefl, decide_false, cond_false]
  have : ((List.range neg.length).map fun i => if i < neg.length then J8 vi (neg.getD i []) else []) = neg.map (J8 vi) := by
   apply List.ext_getElem?
   intro i
   by_cases hi : i < neg.length
   ·simp [hi]
   ·simp [hi]
  rw [this]
theorem b0m : ∀ (ds : List Int) (os : List (List Int)) (i k : Nat) (digits : List Int) (options : List (List Int)), digits.length = i + ds.length -> options.length = i + os.length -> options.drop i = os -> ds.length = os.length -> ds.length + 1 <= k -> i + ds.length <= 4194304 ->
 (∀ d ∈ ds, 0 <= d /\ d <= 4194304) -> j5 (Y8 digits options) k ((i : Int), List.replicate i 0 ++ ds) = some (if (adv ds (os.map List.length)).2 = true then .inr (true, List.replicate i 0 ++ (adv ds (os.map List.length)).1) else .inl ((), List.replicate i 0 ++ (adv ds (os.map List.length)).1))
 | [], [], i, k, digits, options, h1, h2, h3, h4, h5, h6, h7 => by
   obtain ⟨k, rfl⟩ : ∃ q, k = q + 1 := ⟨k - 1, by omega⟩
   have : Y8 digits options ((i : Int), List.replicate i 0 ++ []) = some (.done (.inl ((), List.replicate i 0 ++ []))) := by
    unfold Y8
    have : decide ((i : Int) < (digits.length : Int)) = false := by rw [h1]; simp
    simp only [this, cond_false]
   simp only [j5, this, Option.bind_some]
   rfl
 | [], _ :: _, _, _, _, _, _, _, _, h, _, _, _ => by simp at h
 | _ :: _, [], _, _, _, _, _, _, _, h, _, _, _ => by simp at h
 | d :: ds, o :: os, i, k, digits, options, h1, h2, h3, h4, h5, h6, h7 => by
   obtain ⟨k, rfl⟩ : ∃ q, k = q + 1 := ⟨k - 1, by omega⟩
   obtain ⟨d1, d2⟩ := h7 d (by simp)
   simp only [List.length_cons] at h1 h2 h4 h5 h6
   have hA : (List.replicate i (0 : Int) ++ d :: ds)[i]? = some d := by rw [List.getElem?_append_right (by simp)]; simp
   have hil : i < (List.replicate i (0 : Int) ++ d :: ds).length := (List.getElem?_eq_some_iff.1 hA).1
   have ho : options[i]? = some o := by
    have : (options.drop i)[0]? = some o := by rw [h3]; rfl
    rwa [List.getElem?_drop, Nat.add_zero] at this
   have hset : ∀ x : Int, (List.replicate i (0 : Int) ++ d :: ds).set i x = List.replicate i 0 ++ x :: ds := fun x => by
    rw [List.set_append_right _ _ (by simp)]
    simp
   have hA2 : ∀ x : Int, (List.replicate i (0 : Int) ++ x :: ds)[i]? = some x := fun x => by rw [List.getElem?_append_right (by simp)]; simp
   have hw : w64 (d + 1) = d + 1 := a2I (by omega) (by omega)
   have hmap : (o :: os).map List.length = o.length :: os.map List.length := rfl
   rw [hmap]
   by_cases hc : d + 1 < (o.length : Int)
   ·have : Y8 digits options ((i : Int), List.replicate i 0 ++ d :: ds) = some (.done (.inr (true, List.replicate i 0 ++ (d + 1) :: ds))) := by
     unfold Y8
     simp only [W8, Int.toNat_natCast]
     rw [show decide ((i : Int) < (digits.length : Int)) = true from decide_eq_true (by omega), w7 hA, hA]
     simp only [cond_true, Option.bind_some, hw, hset]
     rw [w7 (hA2 (d + 1)), hA2, w7 ho]
     simp only [Option.bind_some]
     rw [show decide (d + 1 < (o.length : Int)) = true from by simpa using hc]
     rfl
    simp only [j5, this, Option.bind_some, adv, if_pos hc, if_true]
   ·have : Y8 digits options ((i : Int), List.replicate i 0 ++ d :: ds) = some (.next (((i + 1 : Nat) : Int), List.replicate (i + 1) 0 ++ ds)) := by
     unfold Y8
     simp only [W8, Int.toNat_natCast]
     rw [show decide ((i : Int) < (digits.length : Int)) = true from decide_eq_true (by omega), w7 hA, hA]
     simp only [cond_true, Option.bind_some, hw, hset]
     rw [w7 (hA2 (d + 1)), hA2, w7 ho]
     simp only [Option.bind_some]
     rw [show decide (d + 1 < (o.length : Int)) = false from by simpa using hc, Y6 i (by omega)]
     simp only [cond_false]
     rw [List.set_append_right _ _ (by simp)]
     simp [List.replicate_succ']
    simp only [j5, this, Option.bind_some, adv, if_neg hc]
    have ih := b0m ds os (i + 1) k digits options (by omega) (by omega) (by rw [<- List.drop_drop, h3]; rfl) (by omega) (by omega) (by omega) (fun x hx => h7 x (by simp [hx]))
    rw [ih]
    simp [List.replicate_succ']
theorem b8S (ds : List Int) (os : List (List Int)) (h : ds.length = os.length) (hl : ds.length <= 4194304) (hd : ∀ d ∈ ds, 0 <= d /\ d <= 4194304) : a1U ds os = some ((adv ds (os.map List.length)).2, (adv ds (os.map List.length)).1) := by
 have := b0m ds os 0 (ds.length + 1) ds os (by omega) (by omega) rfl h (Nat.le_refl _) (by omega) hd
 have e : j5 (Y8 ds os) (ds.length + 1) (0, ds) = _ := this
 unfold a1U
 rw [a0w, e]
 cases hf : (adv ds (os.map List.length)).2 <;> simp [w9]
def a1h (pos : List (List Int)) (i : Nat) : List Int := pos.map fun r => r.getD i 0
def a11 (z : List (List Int × Int)) (i : Nat) : List Int := (z.filter fun q => q.2 == (i : Int)).map fun q => q.1.getD i 0
def a2O (pos : List (List Int)) (z : List (List Int × Int)) (i : Nat) : Api_Goal := g0 (a1h pos i) (a11 z i)
def a2V (w : Nat) (pos : List (List Int)) (z : List (List Int × Int)) : Option Api_Box :=
 if (List.range w).any (fun i => a4h (a1h pos i) (a11 z i)) = true then none else some (Api_Box.mk ((List.range w).map fun i => a2P (a2O pos z i)))
theorem a7f (z : List (List Int × Int)) (i : Nat) : (a11 z i).length <= z.length := by
 unfold a11
 rw [List.length_map]
 exact List.length_filter_le _ _
theorem b4f (pos : List (List Int)) (i w : Nat) (hp : pos.length <= 1000) (hr : ∀ r ∈ pos, r.length = w) (hi : i < w) (g h : List Api_Goal) : j5 (a1f pos ((i : Int), g, h)) (pos.length + 1) (0, ([], [], false)) = some (a1h pos i, [], false) := by
 have := a2c (step := a1f pos ((i : Int), g, h)) (fun k => ((k : Int), (a1h (pos.take k) i, ([] : List Int), false))) pos.length (a1h pos i, [], false) (fun k hk => by
  have hx := List.getElem?_eq_getElem hk
  have hl := hr _ (List.getElem_mem hk)
  generalize pos[k] = r at hx hl
  unfold a1f
  simp only [W8]
  rw [X7 hk, w7 hx]
  simp only [cond_true, Option.bind_some]
  rw [w7 (a6Z (show i < r.length by omega))]
  simp only [Option.bind_some]
  rw [a1N (by unfold a1h; simp only [List.length_map, List.length_take, List.length_cons, List.length_nil]; omega), Y6 k (by omega), a25 hx]
  simp [a1h]) (by
  unfold a1f
  simp) (pos.length + 1) (Nat.le_refl _)
 exact this
theorem b39 (neg opts : List (List Int)) (digits : List Int) (i w : Nat) (z : List (List Int × Int)) (hn : neg.length <= 1000) (hr : ∀ r ∈ neg, r.length = w) (hi : i < w) (hzl : z.length = neg.length)
 (hz : ∀ (k : Nat) (q : List Int × Int), z[k]? = some q -> neg[k]? = some q.1 /\ ∃ o d, opts[k]? = some o /\ digits[k]? = some d /\ idx o d = some q.2) (g h : List Api_Goal) (P : List Int) :
 j5 (a1j neg opts digits ((i : Int), g, h)) (neg.length + 1) (0, (P, [], false)) = some (P, a11 z i, false) := by
 have := a2c (step := a1j neg opts digits ((i : Int), g, h)) (fun k => ((k : Int), (P, a11 (z.take k) i, false))) neg.length (P, a11 z i, false) (fun k hk => by
  have hq := List.getElem?_eq_getElem (show k < z.length by omega)
  generalize z[k] = q at hq
  obtain ⟨h1, o, d, h2, h3, h4⟩ := hz k q hq
  have hl := hr _ (List.mem_of_getElem? h1)
  have hneg : a11 (z.take (k + 1)) i = a11 (z.take k) i ++ (if q.2 == (i : Int) then [q.1.getD i 0] else []) := by
   unfold a11
   rw [a25 hq, List.filter_append, List.map_append]
   by_cases e : q.2 == (i : Int) <;> simp [e]
  have hlen := a7f (z.take k) i
  rw [List.length_take] at hlen
  unfold a1j
  simp only [W8, Int.toNat_natCast]
  rw [X7 hk, w7 h1, w7 h2, w7 h3, h3]
  simp only [cond_true, Option.bind_some]
  rw [h4, hneg]
  simp only [Option.bind_some]
  cases q.2 == (i : Int) with
  | true =>
    simp only [cond_true]
    rw [w7 (a6Z (show i < q.1.length by omega))]
    simp only [Option.bind_some]
    rw [a1N (by simp only [List.length_cons, List.length_nil]; omega), Y6 k (by omega)]
    rfl
  | false =>
    rw [Y6 k (by omega)]
    simp) (by
  unfold a1j
  rw [List.take_of_length_le (by omega)]
  simp) (neg.length + 1) (Nat.le_refl _)
 exact this
theorem b8v (w : Nat) (hw : w <= 1000) (pos neg opts : List (List Int)) (digits : List Int) (z : List (List Int × Int)) (hp : pos.length <= 1000) (hpr : ∀ r ∈ pos, r.length = w) (hn : neg.length <= 1000) (hnr : ∀ r ∈ neg, r.length = w) (hzl : z.length = neg.length)
 (hz : ∀ (k : Nat) (q : List Int × Int), z[k]? = some q -> neg[k]? = some q.1 /\ ∃ o d, opts[k]? = some o /\ digits[k]? = some d /\ idx o d = some q.2) :
 ∃ b, a4k (w : Int) pos neg opts digits = some (b, (a2V w pos z).isSome) /\ ∀ b', a2V w pos z = some b' -> b = b' := by
 have key := b1V (step := a0e (w : Int) pos neg opts digits) (fun i => ((i : Int), ([] : List Api_Goal), (List.range i).map fun i => a2P (a2O pos z i))) (fun i => a4h (a1h pos i) (a11 z i)) w
  (.inl (([] : List Api_Goal), (List.range w).map fun i => a2P (a2O pos z i))) (fun q => ∃ q', q = .inr q' /\ q'.1 = false) (fun i hi hb => ?_) (fun i hi hb => ?_) ?_ (w + 1) (Nat.le_refl _)
 ·unfold a4k
  rw [Int.toNat_natCast]
  rcases key with ⟨k1, k2⟩ | ⟨q, k1, ⟨q', rfl, k2⟩, i, hi, k3⟩
  ·have k1' : j5 (a0e (w : Int) pos neg opts digits) (w + 1) (0, ([] : List Api_Goal), []) = _ := k1
   have hb : a2V w pos z = some (Api_Box.mk ((List.range w).map fun i => a2P (a2O pos z i))) := by
    unfold a2V
    rw [if_neg]
    rw [List.any_eq_true]
    rintro ⟨i, hi, h⟩
    rw [k2 i (by simpa using hi)] at h
    cases h
   rw [k1', hb]
   exact ⟨_, rfl, fun b' h => by simpa using h⟩
  ·have k1' : j5 (a0e (w : Int) pos neg opts digits) (w + 1) (0, ([] : List Api_Goal), []) = _ := k1
   have hb : a2V w pos z = none := by
    unfold a2V
    rw [if_pos]
    rw [List.any_eq_true]
    exact ⟨i, by simpa using hi, k3⟩
   rw [k1', hb]
   refine ⟨Api_Box.mk q'.2.1, ?_, fun b' h => by cases h⟩
   simp only [Option.bind_some, w9, k2]
   rfl
 ·have b1 := b4f pos i w hp hpr hi ([] : List Api_Goal) ((List.range i).map fun i => a2P (a2O pos z i))
  have b2 := b39 neg opts digits i w z hn hnr hi hzl hz ([] : List Api_Goal) ((List.range i).map fun i => a2P (a2O pos z i)) (a1h pos i)
  have h1 : (a1h pos i).length <= 1000 := by unfold a1h; rw [List.length_map]; exact hp
  have h2 := a7f z i
  unfold a0e
  simp only [W8, a0w]
  rw [X7 hi, b1]
  simp only [cond_true, Option.bind_some]
  rw [b2]
  simp only [Option.bind_some]
  rw [b37 _ _ (by omega) (by omega), hb]
  simp only [Option.bind_some, cond_false]
  rw [b5D _ _ _ (by omega) (by omega)]
  simp only [Option.bind_some]
  rw [a1N (by simp only [List.length_map, List.length_range, List.length_cons, List.length_nil]; omega), Y6 i (by omega)]
  simp [List.range_succ, a2P, a2O]
 ·have b1 := b4f pos i w hp hpr hi ([] : List Api_Goal) ((List.range i).map fun i => a2P (a2O pos z i))
  have b2 := b39 neg opts digits i w z hn hnr hi hzl hz ([] : List Api_Goal) ((List.range i).map fun i => a2P (a2O pos z i)) (a1h pos i)
  have h1 : (a1h pos i).length <= 1000 := by unfold a1h; rw [List.length_map]; exact hp
  have h2 := a7f z i
  refine ⟨.inr (false, (List.range i).map fun i => a2P (a2O pos z i), (List.range i).map fun i => a2P (a2O pos z i)), ?_, _, rfl, rfl⟩
  unfold a0e
  simp only [W8, a0w]
  rw [X7 hi, b1]
  simp only [cond_true, Option.bind_some]
  rw [b2]
  simp only [Option.bind_some]
  rw [b37 _ _ (by omega) (by omega), hb]
  rfl
 ·unfold a0e
  simp
def a2W (opts : List (List Int)) (digits : List Int) : List Int := (opts.zip digits).map fun q => q.1.getD q.2.toNat 0
def b6y (w : Nat) (pos neg opts : List (List Int)) : List Api_Box := (List.range (tot (opts.map List.length))).filterMap fun k => a2V w pos (neg.zip (a2W opts (dig (opts.map List.length) k)))
def a1I (d : Int) (vi : Int -> Bool) (pos neg : List (List Int)) : List Api_Box :=
 if d < 0 \/ 4 < d \/ (∃ r ∈ pos, (r.length : Int) ≠ d) \/ (∃ r ∈ neg, (r.length : Int) ≠ d) \/ (∃ r ∈ neg, J8 vi r = []) then [] else b6y d.toNat pos neg (neg.map (J8 vi))
theorem b05 {α β : Type} (f : α -> Option β) (l : List α) (x : α) : (l ++ [x]).filterMap f = l.filterMap f ++ (f x).toList := by
 rw [List.filterMap_append]
 cases h : f x <;> simp [h]
theorem b5t (w : Nat) (hw : w <= 1000) (pos neg opts : List (List Int)) (hp : pos.length <= 1000) (hpr : ∀ r ∈ pos, r.length = w) (hn : neg.length <= 1000) (hnr : ∀ r ∈ neg, r.length = w) (hol : opts.length = neg.length) (ho : ∀ o ∈ opts, o ≠ [] /\ o.length <= 1000) (ht : tot (opts.map List.length) <= 4194304) (n : Nat) (hn2 : 4194304 <= n) :
 ∃ q, j5 (a0M (w : Int) pos neg ((), opts)) n (List.replicate neg.length (0 : Int), []) = some (b6y w pos neg opts, q) := by
 have hms : ∀ m ∈ opts.map List.length, 1 <= m := fun m hm => by
  obtain ⟨o, ho1, rfl⟩ := List.mem_map.1 hm
  have := List.length_pos_iff.2 (ho o ho1).1
  omega
 have htp := b4n _ hms
 have hml : (opts.map List.length).length = neg.length := by rw [List.length_map, hol]
 have hd0 : List.replicate neg.length (0 : Int) = dig (opts.map List.length) 0 := by rw [b3i, hml]
 have hfl : ∀ k, ((List.range k).filterMap fun k => a2V w pos (neg.zip (a2W opts (dig (opts.map List.length) k)))).length <= k := fun k => Nat.le_trans (List.length_filterMap_le _ _) (by simp)
 have hround : ∀ k, k < tot (opts.map List.length) -> ∃ b27, b27 = ((List.range (k + 1)).filterMap fun k => a2V w pos (neg.zip (a2W opts (dig (opts.map List.length) k)))) /\
  a0M (w : Int) pos neg ((), opts) (dig (opts.map List.length) k, (List.range k).filterMap fun k => a2V w pos (neg.zip (a2W opts (dig (opts.map List.length) k)))) =
   some (if (adv (dig (opts.map List.length) k) (opts.map List.length)).2 = true then .next ((adv (dig (opts.map List.length) k) (opts.map List.length)).1, b27) else .done (b27, (adv (dig (opts.map List.length) k) (opts.map List.length)).1)) := fun k hk => by
  have hdl := b1i (opts.map List.length) k
  have hdm : ∀ (j : Nat) (d : Int) (o : List Int), (dig (opts.map List.length) k)[j]? = some d -> opts[j]? = some o -> 0 <= d /\ d < (o.length : Int) := fun j d o h1 h2 => b3g _ k hms j d o.length h1 (by rw [List.getElem?_map, h2]; rfl)
  have hcl : (a2W opts (dig (opts.map List.length) k)).length = neg.length := by unfold a2W; rw [List.length_map, List.length_zip, hdl, hml, hol]; omega
  obtain ⟨b, b1, b2⟩ := b8v w hw pos neg opts (dig (opts.map List.length) k) (neg.zip (a2W opts (dig (opts.map List.length) k))) hp hpr hn hnr (by rw [List.length_zip, hcl]; omega) (fun j q hq => by
   obtain ⟨q1, q2⟩ := b5L hq
   have hj := (List.getElem?_eq_some_iff.1 q1).1
   have ho1 := List.getElem?_eq_getElem (show j < opts.length by omega)
   have hd1 := List.getElem?_eq_getElem (show j < (dig (opts.map List.length) k).length by omega)
   refine ⟨q1, _, _, ho1, hd1, ?_⟩
   obtain ⟨e1, e2⟩ := hdm j _ _ hd1 ho1
   generalize opts[j] = o at ho1 e2
   generalize (dig (opts.map List.length) k)[j] = d at hd1 e1 e2
   have hc : (a2W opts (dig (opts.map List.length) k))[j]? = some (o.getD d.toNat 0) := by
    unfold a2W
    rw [List.getElem?_map, (List.getElem?_zip_eq_some (z := (o, d))).2 ⟨ho1, hd1⟩]
    rfl
   rw [hc] at q2
   have q3 : o.getD d.toNat 0 = q.2 := Option.some.inj q2
   have := w7 (a6Z (show d.toNat < o.length by omega))
   rw [show ((d.toNat : Nat) : Int) = d by omega] at this
   rw [this, q3])
  refine ⟨_, rfl, ?_⟩
  have hfk := hfl k
  unfold a0M
  simp only
  rw [b1, List.range_succ, b05]
  simp only [Option.bind_some]
  have hadv := b8S (dig (opts.map List.length) k) opts (by rw [hdl, hml, hol]) (by rw [hdl, hml]; omega) (fun d hd => by
   obtain ⟨j, hj, rfl⟩ := List.getElem_of_mem hd
   have hd1 := List.getElem?_eq_getElem hj
   have ho1 := List.getElem?_eq_getElem (show j < opts.length by rw [hdl, hml] at hj; omega)
   obtain ⟨e1, e2⟩ := hdm j _ _ hd1 ho1
   have := (ho _ (List.mem_of_getElem? ho1)).2
   omega)
  cases hbx : a2V w pos (neg.zip (a2W opts (dig (opts.map List.length) k))) with
  | none =>
    simp only [Option.isSome_none, cond_false, Option.bind_some, Option.toList_none, List.append_nil]
    rw [hadv]
    simp only [Option.bind_some]
    cases (adv (dig (opts.map List.length) k) (opts.map List.length)).2 <;> rfl
  | some b' =>
    rw [b2 b' hbx]
    simp only [Option.isSome_some, cond_true, Option.toList_some]
    rw [a1N (by simp only [List.length_cons, List.length_nil]; omega)]
    simp only [Option.bind_some]
    rw [hadv]
    simp only [Option.bind_some]
    cases (adv (dig (opts.map List.length) k) (opts.map List.length)).2 <;> rfl
 obtain ⟨b27, e27, hlast⟩ := hround (tot (opts.map List.length) - 1) (by omega)
 obtain ⟨_, a2⟩ := b1C (opts.map List.length) (tot (opts.map List.length) - 1) hms (by omega)
 rw [a2 (by omega)] at hlast
 simp only [Bool.false_eq_true, if_false] at hlast
 rw [show tot (opts.map List.length) - 1 + 1 = tot (opts.map List.length) by omega] at e27
 refine ⟨(adv (dig (opts.map List.length) (tot (opts.map List.length) - 1)) (opts.map List.length)).1, ?_⟩
 have := a2c (step := a0M (w : Int) pos neg ((), opts)) (fun k => (dig (opts.map List.length) k, (List.range k).filterMap fun k => a2V w pos (neg.zip (a2W opts (dig (opts.map List.length) k))))) (tot (opts.map List.length) - 1) _ (fun k hk => by
  obtain ⟨b27, e27, hr⟩ := hround k (by omega)
  obtain ⟨a1, _⟩ := b1C (opts.map List.length) k hms (by omega)
  rw [a1 (by omega)] at hr
  rw [hr, e27]
  rfl) hlast n (by omega)
 rw [hd0]
 refine this.trans ?_
 rw [e27]
 rfl
theorem b6o (d : Int) (vi : Int -> Bool) (vf : Int -> Option Bool) (pos neg : List (List Int)) (hp : pos.length <= 1000) (hn : neg.length <= 10) (hv : ∀ r ∈ neg, ∀ x ∈ r, vf x = some (vi x)) (n : Nat) (hn2 : 4194304 <= n) :
 a2R n d pos neg vf = some (a1I d vi pos neg) := by
 unfold a2R a1I
 have hq1 : (Option.bind (bif decide (d < 0) then some true else some (decide (4 < d))) fun q => some q) = some (decide (d < 0 \/ 4 < d)) := by
  by_cases h1 : d < 0
  ·simp [h1]
  ·by_cases h2 : 4 < d <;> simp [h1, h2]
 rw [b4P] at hq1
 rw [hq1, b4t d pos (by omega), b4t d neg (by omega)]
 simp only [Option.bind_some]
 by_cases h0 : d < 0 \/ 4 < d
 ·rw [decide_eq_true h0, if_pos (by rcases h0 with h | h <;> simp [h])]
  rfl
 rw [decide_eq_false h0]
 have h0' : ¬ d < 0 /\ ¬ 4 < d := not_or.1 h0
 simp only [cond_false, Option.bind_some]
 have hall : ∀ l : List (List Int), (l.all fun r => (r.length : Int) == d) = false ↔ ∃ r ∈ l, (r.length : Int) ≠ d := fun l => by
  rw [List.all_eq_false]
  simp
 cases hP : pos.all fun r => (r.length : Int) == d with
 | false =>
   rw [if_pos (.inr (.inr (.inl ((hall pos).1 hP))))]
   rfl
 | true =>
   simp only [Bool.not_true, cond_false, Option.bind_some]
   cases hN : neg.all fun r => (r.length : Int) == d with
   | false =>
     rw [if_pos (.inr (.inr (.inr (.inl ((hall neg).1 hN)))))]
     rfl
   | true =>
     simp only [Bool.not_true, cond_false]
     have hpr : ∀ r ∈ pos, r.length = d.toNat := fun r hr => by
      have h1 := List.all_eq_true.1 hP r hr
      have h2 : (r.length : Int) = d := by simpa using h1
      omega
     have hnr : ∀ r ∈ neg, r.length = d.toNat := fun r hr => by
      have h1 := List.all_eq_true.1 hN r hr
      have h2 : (r.length : Int) = d := by simpa using h1
      omega
     have hroom : ∀ b, b <= 1000 -> a5t (neg.length : Int) (neg.length : Int) b = some neg.length := fun b hb => by
      unfold a5t
      have h1 : neg.length * b <= 10 * 1000 := Nat.mul_le_mul hn hb
      have h2 : ((neg.length : Int)) * ((b : Nat) : Int) <= 140737488355328 := by rw [<- Int.natCast_mul]; omega
      rw [show (decide (0 <= (neg.length : Int)) && decide ((neg.length : Int) <= (neg.length : Int)) && decide ((neg.length : Int) * ((b : Nat) : Int) <= 140737488355328)) = true from by simp [h2]]
      simp
     rw [hroom 24 (by omega)]
     simp only [Option.bind_some, a0w]
     rcases b6D vi vf neg (by omega) (fun r hr => by have := hnr r hr; omega) hv with ⟨k1, k2⟩ | ⟨q, k1, k2, k3⟩
     ·rw [k1]
      simp only [Option.bind_some, w9]
      rw [hroom 8 (by omega)]
      simp only [Option.bind_some]
      have hto : ∀ l : List (List Int), (∀ r ∈ l, r.length <= 4) -> l.length <= 10 -> tot ((l.map (J8 vi)).map List.length) <= 4 ^ l.length := by
       intro l
       induction l with
       | nil => intro _ _; simp [tot]
       | cons r l ih =>
         intro h1 h2
         have ih := ih (fun r hr => h1 r (by simp [hr])) (by simp at h2; omega)
         simp only [List.map_cons, tot, List.length_cons, Nat.pow_succ]
         have h3 := a97 vi r r.length
         have h4 := h1 r (by simp)
         have h5 : (J8 vi r).length <= 4 := by unfold J8; omega
         rw [Nat.mul_comm]
         exact Nat.mul_le_mul ih h5
      have ht := hto neg (fun r hr => by have := hnr r hr; omega) hn
      have hpow : 4 ^ neg.length <= 4 ^ 10 := Nat.pow_le_pow_right (by omega) hn
      obtain ⟨q, hq⟩ := b5t d.toNat (by omega) pos neg (neg.map (J8 vi)) hp hpr (by omega) hnr (by rw [List.length_map]) (fun o ho => by
       obtain ⟨r, hr, rfl⟩ := List.mem_map.1 ho
       have h3 := a97 vi r r.length
       have h4 := hnr r hr
       exact ⟨k2 r hr, by unfold J8; omega⟩) (Nat.le_trans (Nat.le_trans ht hpow) (by decide)) n hn2
      rw [show ((d.toNat : Nat) : Int) = d by omega] at hq
      rw [hq, if_neg]
      ·rfl
      ·rintro (h | h | ⟨r, hr, h⟩ | ⟨r, hr, h⟩ | ⟨r, hr, h⟩)
       ·exact h0'.1 h
       ·exact h0'.2 h
       ·have := hpr r hr; omega
       ·have := hnr r hr; omega
       ·exact k2 r hr h
     ·rw [k1]
      simp only [Option.bind_some, w9]
      rw [if_pos (.inr (.inr (.inr (.inr k3)))), k2]
end Go.Pl
end
section
namespace Go.Pl
open Go Go.RowKit Go.Sx Go.Qx
theorem b8V (x : Int) {n : Int} (h1 : 1 <= n) (h2 : n <= 1000) : ∃ m : Nat, (m : Int) < n /\ a6f (wr .u64 x) n = some (m : Int) := by
 have h0 : 0 <= wr .u64 x := by
  have : wr .u64 x = x % 18446744073709551616 := by
   unfold wr IntKind.wrap
   rfl
  rw [this]
  omega
 have b1 := Int.tmod_lt_of_pos (wr .u64 x) (show 0 < n by omega)
 have b2 := Int.tmod_nonneg n h0
 refine ⟨((wr .u64 x).tmod n).toNat, by omega, ?_⟩
 unfold a6f
 rw [if_neg (by omega)]
 congr 1
 omega
end Go.Pl
end
section
namespace Go.Pl
open Go Go.RowKit Go.Sx Go.Qx
theorem b7i {z : List (List Int × Int)} {i : Nat} {x : Int} : x ∈ a11 z i ↔ ∃ q ∈ z, q.2 = (i : Int) /\ q.1.getD i 0 = x := by
 unfold a11
 simp only [List.mem_map, List.mem_filter, beq_iff_eq]
 constructor
 ·rintro ⟨q, ⟨h1, h2⟩, h3⟩; exact ⟨q, h1, h2, h3⟩
 ·rintro ⟨q, h1, h2, h3⟩; exact ⟨q, ⟨h1, h2⟩, h3⟩
theorem a8p {p q : List Int} : a4h p q = true ↔ ∃ x ∈ p, x ∈ q := by
 unfold a4h
 simp
theorem b5p {d : Int} {vi : Int -> Bool} {pos neg : List (List Int)} {b : Api_Box} (h : b ∈ a1I d vi pos neg) : ∃ (w : Nat) (ds : List Int), d = (w : Int) /\ w <= 4 /\ (∀ r ∈ pos, r.length = w) /\ (∀ r ∈ neg, r.length = w) /\ ds.length = neg.length /\
 (∀ (j : Nat) (r : List Int) (e : Int), neg[j]? = some r -> ds[j]? = some e -> 0 <= e /\ e < ((J8 vi r).length : Int)) /\ a2V w pos (neg.zip (a2W (neg.map (J8 vi)) ds)) = some b := by
 unfold a1I at h
 split at h
 ·cases h
 rename_i hc
 simp only [not_or, not_exists, not_and] at hc
 obtain ⟨h1, h2, h3, h4, h5⟩ := hc
 unfold b6y at h
 obtain ⟨k, hk, hb⟩ := List.mem_filterMap.1 h
 have hms : ∀ m ∈ (neg.map (J8 vi)).map List.length, 1 <= m := fun m hm => by
  obtain ⟨o, ho, rfl⟩ := List.mem_map.1 hm
  obtain ⟨r, hr, rfl⟩ := List.mem_map.1 ho
  have := List.length_pos_iff.2 (h5 r hr)
  omega
 refine ⟨d.toNat, dig ((neg.map (J8 vi)).map List.length) k, by omega, by omega, fun r hr => ?_, fun r hr => ?_, by rw [b1i, List.length_map, List.length_map], fun j r e hr he => ?_, hb⟩
 ·have := Classical.not_not.1 (h3 r hr); omega
 ·have := Classical.not_not.1 (h4 r hr); omega
 ·exact b3g _ k hms j e _ he (by rw [List.getElem?_map, List.getElem?_map, hr]; rfl)
theorem b5T {w : Nat} {pos : List (List Int)} {z : List (List Int × Int)} {b : Api_Box} (h : a2V w pos z = some b) : b.Parts = (List.range w).map (fun i => a2P (a2O pos z i)) /\ ∀ i, i < w -> a4h (a1h pos i) (a11 z i) = false := by
 unfold a2V at h
 split at h
 ·cases h
 rename_i hc
 have := Option.some.inj h
 subst this
 refine ⟨rfl, fun i hi => ?_⟩
 cases hm : a4h (a1h pos i) (a11 z i) with
 | false => rfl
 | true => exact absurd (List.any_eq_true.2 ⟨i, by simpa using hi, hm⟩) hc
theorem b72 {w : Nat} {f : Nat -> Api_Goal} {i : Nat} (hi : i < w) : ((List.range w).map f)[i]? = some (f i) := by simp [hi]
end Go.Pl
end
section
namespace Go.Pl
open Go Go.RowKit Go.Sx Go.Qx
def a5J (_ : Int) : Nat := 1
def a19 (l : List Int) : Nat := (l.map a5J).sum + 1
theorem b1J {α : Type} (b : α -> Nat) (h : ∀ x, 1 <= b x) : ∀ l : List α, l.length <= (l.map b).sum
 | [] => Nat.zero_le _
 | y :: l => by
   have h1 := h y
   have h2 := b1J b h l
   rw [List.map_cons, List.sum_cons, List.length_cons]
   omega
end Go.Pl
end
section
namespace Go.Pl
open Go Go.RowKit Go.Sx Go.Qx
theorem b7X (n : Nat) : a0j (n + 60) = some true := by kernel_rfl
def i7 (x : Int) : Prop := 0 <= x /\ x <= 7
def b0H (w : Nat) (rs : List (List Int)) : Prop := ∀ r ∈ rs, (r.length = w \/ r.length = w + 1) /\ ∀ x ∈ r, i7 x
section
variable {L : List Int}
theorem b7L (hL : L.length <= 4194304) (w : Nat) (hw : w <= 1000) {s : Semtypebase_Source} (h : OS L s) : ∃ r u, j5 (X6 (w : Int)) (w + 1) ([], 0, s) = some (r, u) /\ OS L u /\ r.length = w /\ ∀ x ∈ r, i7 x := by
 obtain ⟨g, u, e, hu, h1, h2⟩ := b8Q (γ := List Int) (L := L) (step := X6 (w : Int)) (fun g j s => (g, j, s)) (fun g s => (g, s)) (fun j g => g.length = j /\ ∀ x ∈ g, i7 x) w
  (fun j g s hj hI hs => by
    obtain ⟨k, u, e, hu, k0, k1⟩ := b1O hL hs (n := 8) (by omega) (by omega)
    refine ⟨g ++ [k], u, ?_, hu, by simp [hI.1], fun y hy => ?_⟩
    ·unfold X6
     simp only [W8]
     rw [X7 hj, e]
     simp only [cond_true, Option.bind_some]
     rw [a1N (by simp only [List.length_cons, List.length_nil]; have := hI.1; omega), Y6 j (by omega)]
     rfl
    ·rcases List.mem_append.1 hy with hy | hy
     ·exact hI.2 y hy
     ·rw [List.mem_singleton.1 hy]; exact ⟨k0, by omega⟩) (fun g s => by
    unfold X6
    simp) w 0 (w + 1) [] s (by omega) (Nat.le_refl _) ⟨rfl, fun x hx => by cases hx⟩ h
 exact ⟨g, u, e, hu, h1, h2⟩
theorem b3u (hL : L.length <= 4194304) (w : Nat) (hw : w <= 1000) : ∀ (m k : Nat) (out : List (List Int)) (s : Semtypebase_Source), m + 1 <= k -> m <= 1000 -> out.length + m <= 1000 -> OS L s -> b0H w out ->
 ∃ rs u, j5 (X4 (w : Int)) k (out, (m : Int), s) = some (rs, u) /\ rs.length = out.length + m /\ b0H w rs
 | 0, k, out, s, hk, _, _, hs, hr => by
   obtain ⟨k, rfl⟩ : ∃ q, k = q + 1 := ⟨k - 1, by omega⟩
   have : X4 (w : Int) (out, ((0 : Nat) : Int), s) = some (.done (out, s)) := rfl
   exact ⟨out, s, by simp only [j5, this, Option.bind_some], rfl, hr⟩
 | m + 1, k, out, s, hk, hm, ho, hs, hr => by
   obtain ⟨k, rfl⟩ : ∃ q, k = q + 1 := ⟨k - 1, by omega⟩
   obtain ⟨r, u, e1, hu, r1, r2⟩ := b7L hL w hw hs
   obtain ⟨z, u2, e2, hu2, _, _⟩ := b1O hL hu (n := 12) (by omega) (by omega)
   obtain ⟨r', hr', hr'1⟩ : ∃ r', (Option.bind (bif z == 11 then (Option.bind (K8 (r.length + ([0] : List Int).length) 8) fun _ => some (r ++ ([0] : List Int))) else (some r)) fun q => some q) = some r' /\ ((r'.length = w \/ r'.length = w + 1) /\ ∀ x ∈ r', i7 x) := by
    cases z == 11
    ·exact ⟨r, rfl, .inl r1, r2⟩
    ·refine ⟨r ++ [0], ?_, .inr (by simp [r1]), fun x hx => ?_⟩
     ·rw [a1N (by simp only [List.length_cons, List.length_nil]; omega)]; rfl
     ·rcases List.mem_append.1 hx with hx | hx
      ·exact r2 x hx
      ·rw [List.mem_singleton.1 hx]; exact ⟨by omega, by omega⟩
   rw [b4P] at hr'
   have : X4 (w : Int) (out, ((m + 1 : Nat) : Int), s) = some (.next (out ++ [r'], (m : Int), u2)) := by
    unfold X4
    rw [show decide (0 < ((m + 1 : Nat) : Int)) = true from decide_eq_true (by omega), Int.toNat_natCast, e1]
    simp only [cond_true, Option.bind_some]
    rw [e2]
    simp only [Option.bind_some]
    rw [hr']
    simp only [Option.bind_some]
    rw [a1N (by simp only [List.length_cons, List.length_nil]; omega), W8, a2I (by omega) (by omega)]
    simp only [Option.bind_some]
    congr 4
    omega
   obtain ⟨rs, u3, e3, l3, t3⟩ := b3u hL w hw m k (out ++ [r']) u2 (by omega) (by omega) (by simp; omega) hu2 (fun x hx => by
    rcases List.mem_append.1 hx with hx | hx
    ·exact hr x hx
    ·rw [List.mem_singleton.1 hx]; exact hr'1)
   exact ⟨rs, u3, by simp only [j5, this, Option.bind_some]; exact e3, by rw [l3]; simp; omega, t3⟩
end
theorem b4w (l : List Int) (hl : l.length <= 4194304) (w m : Nat) (hw : w <= 1000) (hm : m <= 100) : ∃ rs, V0 l (w : Int) (m : Int) = some rs /\ rs.length <= m /\ b0H w rs := by
 have h0 : OS l (Semtypebase_Source.mk l 0) := ⟨rfl, by show (0 : Int) <= 0; omega, by show (0 : Int) <= _; omega⟩
 obtain ⟨k, u, e, hu, k0, k1⟩ := b1O hl h0 (n := ((m + 1 : Nat) : Int)) (by omega) (by omega)
 obtain ⟨j, rfl⟩ : ∃ j : Nat, k = (j : Int) := ⟨k.toNat, by omega⟩
 obtain ⟨rs, u3, e3, l3, t3⟩ := b3u hl w hw j (j + 2) [] u (by omega) (by omega) (by simp; omega) hu (fun x hx => by cases hx)
 refine ⟨rs, ?_, by simp at l3; omega, t3⟩
 unfold V0
 rw [W8, a2I (by omega) (by omega), show ((m : Int) + 1) = ((m + 1 : Nat) : Int) by omega, e]
 simp only [Option.bind_some, Int.toNat_natCast]
 rw [e3]
 rfl
theorem a9Z (d : Int) (pos neg : List (List Int)) (hp : pos.length <= 1000) (hn : neg.length <= 10) (n : Nat) (hn2 : 4194304 <= n) : a0r n d pos neg = some (a1I d (fun _ => true) pos neg) := by
 unfold a0r
 have h := b6o d (fun _ => true) (fun z1 => Option.bind (a3m z1) fun r2 => some r2) pos neg hp hn (fun r _ x _ => rfl) n hn2
 rw [h]
 rfl
theorem b4V {w : Nat} {pos neg : List (List Int)} (hp : b0H w pos) (hn : b0H w neg) (hpl : pos.length <= 100) (hnl : neg.length <= 100) {b : Api_Box} (hb : b ∈ a1I (w : Int) (fun _ => true) pos neg) :
 b.Parts.length = w /\ ∀ (i : Nat) (g : Api_Goal), b.Parts[i]? = some g -> ∃ p q, g = g0 p q /\ srt p = p /\ srt q = q /\ (∀ x ∈ p, i7 x) /\ (∀ x ∈ q, i7 x) /\ p.length <= 1000 /\ q.length <= 1000 /\ a4h p q = false := by
 obtain ⟨w', ds, e, _, hpr, hnr, hdl, hdd, hbx⟩ := b5p hb
 obtain rfl : w = w' := by omega
 obtain ⟨hP, hM⟩ := b5T hbx
 refine ⟨by rw [hP]; simp, fun i g hg => ?_⟩
 rw [hP] at hg
 have hi : i < w := by have := (List.getElem?_eq_some_iff.1 hg).1; simpa using this
 rw [b72 hi] at hg
 have hg := Option.some.inj hg
 subst hg
 have h1 : (a1h pos i).length <= 1000 := by unfold a1h; rw [List.length_map]; omega
 have h2 := a7f (neg.zip (a2W (neg.map (J8 fun _ => true)) ds)) i
 rw [List.length_zip] at h2
 refine ⟨srt (a1h pos i), srt (a11 (neg.zip (a2W (neg.map (J8 fun _ => true)) ds)) i), rfl, b4r _, b4r _, fun x hx => ?_, fun x hx => ?_, Nat.le_trans (b4l _) h1, Nat.le_trans (b4l _) (by omega), ?_⟩
 ·obtain ⟨r, hr, rfl⟩ := List.mem_map.1 ((a80 _ x).1 hx)
  exact (hp r hr).2 _ (List.mem_of_getElem? (a6Z (by have := hpr r hr; omega)))
 ·obtain ⟨q, hq, _, rfl⟩ := b7i.1 ((a80 _ x).1 hx)
  have hr := (List.of_mem_zip (show (q.1, q.2) ∈ neg.zip _ from hq)).1
  exact (hn q.1 hr).2 _ (List.mem_of_getElem? (a6Z (by have := hnr q.1 hr; omega)))
 ·cases hm : a4h (srt (a1h pos i)) (srt (a11 (neg.zip (a2W (neg.map (J8 fun _ => true)) ds)) i)) with
  | false => rfl
  | true =>
    obtain ⟨x, x1, x2⟩ := a8p.1 hm
    have := hM i hi
    rw [a8p.2 ⟨x, (a80 _ x).1 x1, (a80 _ x).1 x2⟩] at this
    cases this
theorem b65 (p q : List Int) (h1 : p.length <= 1000) (h2 : q.length <= 1000) (hm : a4h p q = false) : a00 (g0 p q) = some true := by
 have hno : ∀ x ∈ p, ∀ y ∈ q, (x == y) = false := fun x hx y hy => by
  cases h : x == y with
  | false => rfl
  | true =>
    have e : x = y := by simpa using h
    rw [a8p.2 ⟨x, hx, by rw [e]; exact hy⟩] at hm
    cases hm
 unfold a00
 have l2 := a2c (step := W5 (g0 p q)) (fun i => (i : Int)) p.length (.inl ()) (fun i hi => by
  have hx := List.getElem?_eq_getElem hi
  have l1 := a2c (step := W2 (g0 p q) (i : Int)) (fun j => (j : Int)) q.length (.inl ()) (fun j hj => by
   have hy := List.getElem?_eq_getElem hj
   unfold W2
   simp only [W8]
   rw [X7 (show j < (g0 p q).Neg.length from hj), w7 (show (g0 p q).Pos[i]? = some p[i] from hx), w7 (show (g0 p q).Neg[j]? = some q[j] from hy)]
   simp only [cond_true, Option.bind_some]
   rw [hno _ (List.getElem_mem hi) _ (List.getElem_mem hj), Y6 j (by omega)]
   rfl) (by
   unfold W2
   simp) (q.length + 1) (Nat.le_refl _)
  have l1' : j5 (W2 (g0 p q) (i : Int)) (q.length + 1) 0 = some (.inl ()) := l1
  unfold W5
  simp only [W8, a0w]
  rw [X7 (show i < (g0 p q).Pos.length from hi), show (g0 p q).Neg.length = q.length from rfl, l1', Y6 i (by omega)]
  rfl) (by
  unfold W5
  simp) (p.length + 1) (Nat.le_refl _)
 have l2' : j5 (W5 (g0 p q)) (p.length + 1) 0 = some (.inl ()) := l2
 rw [a0w, show (g0 p q).Pos.length = p.length from rfl, l2']
 rfl
end Go.Pl
end
section
namespace Go.Pl
open Go Go.RowKit Go.Sx Go.Qx
theorem b63 (fuel : Nat) (hf : 300000000 <= fuel) (d : Int) (pos neg : List Int) (hb0 : a19 pos <= 1048576) (hb1 : a19 neg <= 1048576) : W9 fuel d pos neg = some true := by
 obtain ⟨q, hq⟩ : ∃ q, fuel = q + 60 := ⟨fuel - 60, by omega⟩
 have haw : a0j fuel = some true := by rw [hq]; exact b7X q
 have hlp : pos.length <= 4194304 := by have := b1J a5J (fun _ => Nat.le_refl _) pos; unfold a19 at hb0; omega
 have hln : neg.length <= 4194304 := by have := b1J a5J (fun _ => Nat.le_refl _) neg; unfold a19 at hb1; omega
 obtain ⟨w, hw, hdq⟩ := b8V d (n := 4) (by omega) (by omega)
 have hww : wr .i64 (w : Int) = (w : Int) := by rw [W8, a2I (by omega) (by omega)]
 obtain ⟨P, hP, hPl, hPt⟩ := b4w pos hlp w 3 (by omega) (by omega)
 obtain ⟨Q, hQ, hQl, hQt⟩ := b4w neg hln w 4 (by omega) (by omega)
 have hP : V0 pos (w : Int) 3 = some P := hP
 have hQ : V0 neg (w : Int) 4 = some Q := hQ
 unfold W9
 rw [hdq]
 simp only [Option.bind_some, hww]
 rw [hP, hQ]
 simp only [Option.bind_some]
 rw [a9Z (w : Int) P Q (by omega) (by omega) fuel (by omega), haw]
 simp only [Option.bind_some]
 have hfacts := fun (b : Api_Box) (hb : b ∈ a1I (w : Int) (fun _ => true) P Q) => b4V hPt hQt (by omega) (by omega) hb
 generalize a1I (w : Int) (fun _ => true) P Q = B at hfacts
 rcases Bool.eq_false_or_eq_true (decide (2000 < (B.length : Int))) with h2 | h2
 ·rw [h2]; rfl
 rw [h2]
 have hBl : B.length <= 2000 := by simp at h2; omega
 simp only [cond_false]
 have l2 := a2c (step := Q5 fuel B) (fun i => (i : Int)) B.length (.inl ()) (fun i hi => by
  have hx := List.getElem?_eq_getElem hi
  obtain ⟨f1, f2⟩ := hfacts _ (List.getElem_mem hi)
  generalize B[i] = b at hx f1 f2
  have l1 := a2c (step := Q3 B (i : Int)) (fun k => (k : Int)) b.Parts.length (.inl ()) (fun k hk => by
   have hg := List.getElem?_eq_getElem hk
   obtain ⟨p, q, e, s1, s2, _, _, p1, q1, m1⟩ := f2 k _ hg
   generalize b.Parts[k] = g at hg e
   subst e
   unfold Q3
   simp only [W8]
   rw [w7 hx]
   simp only [Option.bind_some]
   rw [X7 hk]
   simp only [cond_true]
   rw [w7 hg]
   simp only [Option.bind_some, cond_false]
   have hn : W4 (g0 p q) = some (g0 p q) := by
    have : W4 (g0 p q) = _ := b5c p q false (by omega) (by omega)
    rw [this, s1, s2]
   rw [hn]
   simp only [Option.bind_some]
   rw [b5z _ _ (by show p.length <= 4194304; omega) (by show q.length <= 4194304; omega)]
   simp only [beq_self_eq_true, Bool.and_self, Bool.not_true, Option.bind_some, cond_false]
   rw [b65 p q p1 q1 m1, Y6 k (by omega)]
   rfl) (by
   unfold Q3
   rw [w7 hx]
   simp) fuel (by omega)
  have l1' : j5 (Q3 B (i : Int)) fuel 0 = some (.inl ()) := l1
  unfold Q5
  simp only [W8]
  rw [X7 hi, l1', Y6 i (by omega)]
  rfl) (by
  unfold Q5
  simp) (B.length + 1) (Nat.le_refl _)
 have l2' : j5 (Q5 fuel B) (B.length + 1) 0 = some (.inl ()) := l2
 rw [a0w, l2']
 simp only [Option.bind_some, w9]
 have hw1 : wr .i64 ((-1) - (w : Int)) = -1 - (w : Int) := by rw [W8, a2I (by omega) (by omega)]
 have hw2 : wr .i64 (5 + (w : Int)) = 5 + (w : Int) := by rw [W8, a2I (by omega) (by omega)]
 rw [hw1, hw2, a9Z (-1 - (w : Int)) [] [] (by simp) (by simp) fuel (by omega), a9Z (5 + (w : Int)) [] [] (by simp) (by simp) fuel (by omega)]
 have e1 : a1I (-1 - (w : Int)) (fun _ => true) [] [] = [] := by unfold a1I; rw [if_pos (.inl (by omega))]
 have e2 : a1I (5 + (w : Int)) (fun _ => true) [] [] = [] := by unfold a1I; rw [if_pos (.inr (.inl (by omega)))]
 rw [e1, e2]
 rfl
end Go.Pl
end
section
namespace Go.Proofs
open Go.Shelf
set_option maxRecDepth 100000
def Tryz.lay135_ren : Go.Shelf.Ren := ⟨fun | 189 => 135 | 125 => 155 | 257 => 154 | 128 => 173 | 129 => 174 | 294 => 164 | 295 => 165 | 296 => 166 | 297 => 167 | 298 => 168 | 299 => 169 | 216 => 170 | 300 => 171 | 301 => 172 | 328 => 179 | 329 => 180 | 330 => 181 | 331 => 182 | 332 => 183 | 215 => 156 | 343 => 190 | n => n, fun | 28 => 22 | 3 => 3 | 46 => 24 | 0 => 0 | 51 => 183 | 53 => 185 | 4 => 4 | 183 => 175 | 182 => 174 | 131 => 180 | 5 => 5 | 9 => 9 | 218 => 186 | 222 => 190 | 228 => 196 | 229 => 197 | n => n, fun | n => n⟩
theorem Tryz.lay135 : Go.Proofs.Lays.n189 Tryz.prog Tryz.lay135_ren := {
 mixed := by kernel_rfl
 f125 := Tryz.func155.trans (congrArg some (by kernel_rfl))
 f128 := Tryz.func173.trans (congrArg some (by kernel_rfl))
 f129 := Tryz.func174.trans (congrArg some (by kernel_rfl))
 f189 := Tryz.func135.trans (congrArg some (by kernel_rfl))
 f215 := Tryz.func156.trans (congrArg some (by kernel_rfl))
 f216 := Tryz.func170.trans (congrArg some (by kernel_rfl))
 f257 := Tryz.func154.trans (congrArg some (by kernel_rfl))
 f294 := Tryz.func164.trans (congrArg some (by kernel_rfl))
 f295 := Tryz.func165.trans (congrArg some (by kernel_rfl))
 f296 := Tryz.func166.trans (congrArg some (by kernel_rfl))
 f297 := Tryz.func167.trans (congrArg some (by kernel_rfl))
 f298 := Tryz.func168.trans (congrArg some (by kernel_rfl))
 f299 := Tryz.func169.trans (congrArg some (by kernel_rfl))
 f300 := Tryz.func171.trans (congrArg some (by kernel_rfl))
 f301 := Tryz.func172.trans (congrArg some (by kernel_rfl))
 f328 := Tryz.func179.trans (congrArg some (by kernel_rfl))
 f329 := Tryz.func180.trans (congrArg some (by kernel_rfl))
 f330 := Tryz.func181.trans (congrArg some (by kernel_rfl))
 f331 := Tryz.func182.trans (congrArg some (by kernel_rfl))
 f332 := Tryz.func183.trans (congrArg some (by kernel_rfl))
 f343 := Tryz.func190.trans (congrArg some (by kernel_rfl))
 t0 := Tryz.underlying0
 a0 := Tryz.isAgg0
 z0 := Tryz.sizeOf0
 v0 := Tryz.zeroValue0
 t3 := Tryz.underlying3
 a3 := Tryz.isAgg3
 z3 := Tryz.sizeOf3
 v3 := Tryz.zeroValue3
 t4 := Tryz.underlying4
 a4 := Tryz.isAgg4
 z4 := Tryz.sizeOf4
 v4 := Tryz.zeroValue4
 t5 := Tryz.underlying5
 a5 := Tryz.isAgg5
 z5 := Tryz.sizeOf5
 v5 := Tryz.zeroValue5
 t9 := Tryz.underlying9
 a9 := Tryz.isAgg9
 z9 := Tryz.sizeOf9
 v9 := Tryz.zeroValue9
 t28 := Tryz.underlying22
 a28 := Tryz.isAgg22
 z28 := Tryz.sizeOf22
 v28 := Tryz.zeroValue22
 t46 := Tryz.underlying24
 a46 := Tryz.isAgg24
 z46 := Tryz.sizeOf24
 v46 := Tryz.zeroValue24
 t51 := Tryz.underlying183
 a51 := Tryz.isAgg183
 z51 := Tryz.sizeOf183
 v51 := Tryz.zeroValue183
 t53 := Tryz.underlying185
 a53 := Tryz.isAgg185
 z53 := Tryz.sizeOf185
 v53 := Tryz.zeroValue185
 t131 := Tryz.underlying180
 a131 := Tryz.isAgg180
 z131 := Tryz.sizeOf180
 v131 := Tryz.zeroValue180
 t182 := Tryz.underlying174
 a182 := Tryz.isAgg174
 z182 := Tryz.sizeOf174
 v182 := Tryz.zeroValue174
 t183 := Tryz.underlying175
 a183 := Tryz.isAgg175
 z183 := Tryz.sizeOf175
 v183 := Tryz.zeroValue175
 t218 := Tryz.underlying186
 a218 := Tryz.isAgg186
 z218 := Tryz.sizeOf186
 v218 := Tryz.zeroValue186
 t222 := Tryz.underlying190
 a222 := Tryz.isAgg190
 z222 := Tryz.sizeOf190
 v222 := Tryz.zeroValue190
 t228 := Tryz.underlying196
 a228 := Tryz.isAgg196
 z228 := Tryz.sizeOf196
 v228 := Tryz.zeroValue196
 t229 := Tryz.underlying197
 a229 := Tryz.isAgg197
 z229 := Tryz.sizeOf197
 v229 := Tryz.zeroValue197 }
end Go.Proofs
end
section
namespace Go.Qx
open Go Go.RowKit Go.Sx
set_option maxRecDepth 100000
abbrev a9r (v : Api_Goal) : (List Int) × (List Int) × Bool := (v.Pos, v.Neg, v.Lists)
abbrev b3V (x : (List Int) × (List Int) × Bool) : Api_Goal := ⟨x.1, x.2.1, x.2.2⟩
@[reducible] def a1O : Rp Api_Goal := a7j a9r (Y4 (@rpList _ (rpK .i64)) (Y4 (@rpList _ (rpK .i64)) (rpBool)))
abbrev b0o (v : Api_Box) : (List Api_Goal) := v.Parts
abbrev b5h (x : (List Api_Goal)) : Api_Box := ⟨x⟩
@[reducible] def a7B : Rp Api_Box := a7j b0o (@rpList _ (a1O))
abbrev a8d (v : Api_Field) : Key × Int × Bool := (v.Key_, v.Node, v.Optional)
abbrev b3s (x : Key × Int × Bool) : Api_Field := ⟨x.1, x.2.1, x.2.2⟩
@[reducible] def a1p : Rp Api_Field := a7j a8d (Y4 (rpKey) (Y4 (rpK .i64) (rpBool)))
abbrev a6c (v : Api_TypeNode) : Int × Int × Int × ByteArray × (List Int) × (List Api_Field) × (Int × Int) := (v.Kind, v.Lo, v.Hi, v.Text, v.Kids, v.Fields, v.Rest)
abbrev b02 (x : Int × Int × Int × ByteArray × (List Int) × (List Api_Field) × (Int × Int)) : Api_TypeNode := ⟨x.1, x.2.1, x.2.2.1, x.2.2.2.1, x.2.2.2.2.1, x.2.2.2.2.2.1, x.2.2.2.2.2.2⟩
@[reducible] def a0p : Rp Api_TypeNode := a7j a6c (Y4 (rpK .i64) (Y4 (rpK .i64) (Y4 (rpK .i64) (Y4 (rpStr) (Y4 (@rpList _ (rpK .i64)) (Y4 (@rpList _ (a1p)) (Y4 (rpK .i64) (rpK .i64))))))))
abbrev a9x (v : Api_Type) : (List Api_TypeNode) × Int := (v.Nodes, v.Root)
abbrev b3X (x : (List Api_TypeNode) × Int) : Api_Type := ⟨x.1, x.2⟩
@[reducible] def a6h : Rp Api_Type := a7j a9x (Y4 (@rpList _ (a0p)) (rpK .i64))
abbrev a24 (v : Semtypebase_Source) : (List Int) × Int := (v.L, v.At)
abbrev a6F (x : (List Int) × Int) : Semtypebase_Source := ⟨x.1, x.2⟩
@[reducible] def a1k : Rp Semtypebase_Source := a7j a24 (Y4 (@rpList _ (rpK .i64)) (rpK .i64))
abbrev a7K (v : Value_used) : Bool × Bool × Bool × Bool × Bool := (v.number, v.text_, v.kids, v.keys, v.entries)
abbrev b2v (x : Bool × Bool × Bool × Bool × Bool) : Value_used := ⟨x.1, x.2.1, x.2.2.1, x.2.2.2.1, x.2.2.2.2⟩
@[reducible] def a4T : Rp Value_used := a7j a7K (Y4 (rpBool) (Y4 (rpBool) (Y4 (rpBool) (Y4 (rpBool) (rpBool)))))
def tyL : List TE := [⟨2, Int, rpK .i64⟩,
 ⟨3, Int, rpK .i64⟩,
 ⟨4, Bool, rpBool⟩,
 ⟨5, Int, rpK .u8⟩,
 ⟨9, ByteArray, rpStr⟩,
 ⟨22, List Int, @rpList _ (rpK .i64)⟩,
 ⟨31, List Api_Goal, @rpList _ (a1O)⟩,
 ⟨33, Api_Box, a7B⟩,
 ⟨36, Api_Goal, a1O⟩,
 ⟨43, List Api_TypeNode, @rpList _ (a0p)⟩,
 ⟨45, Api_Type, a6h⟩,
 ⟨46, List Val, @rpList _ (rpVal)⟩,
 ⟨47, List Key, @rpList _ (rpKey)⟩,
 ⟨48, List Ent, @rpList _ (rpEnt)⟩,
 ⟨49, List ByteArray, @rpList _ (rpStr)⟩,
 ⟨51, Val, rpVal⟩,
 ⟨62, Semtypebase_Source, a1k⟩,
 ⟨75, List Api_Field, @rpList _ (a1p)⟩,
 ⟨76, Int × Int, Y4 (rpK .i64) (rpK .i64)⟩,
 ⟨78, Api_TypeNode, a0p⟩,
 ⟨101, Ent, rpEnt⟩,
 ⟨123, Key, rpKey⟩,
 ⟨125, Api_Field, a1p⟩,
 ⟨159, Value_used, a4T⟩]
abbrev I (E : TypeId) : Type := (b5m tyL E).α
instance rI (E : TypeId) : Rp (I E) := (b5m tyL E).rp
def b5q : Fd I (I 33) inferInstance := (a4l (rg := a7B) ((a1n 36 : Fd I (List Api_Goal) (@rpList _ (a1O)))) b0o b5h (fun _ => rfl) (fun _ _ _ => Iff.rfl) : Fd I Api_Box a7B)
def b30 : Fd I (I 36) inferInstance := (a4l (rg := a1O) (Q4 (a1n 3 : Fd I (List Int) (@rpList _ (rpK .i64))) (Q4 (a1n 3 : Fd I (List Int) (@rpList _ (rpK .i64))) ((a3t : Fd I Bool (rpBool))))) a9r b3V (fun _ => rfl) (fun _ _ _ => Iff.rfl) : Fd I Api_Goal a1O)
def b3T : Fd I (I 45) inferInstance := (a4l (rg := a6h) (Q4 (a1n 78 : Fd I (List Api_TypeNode) (@rpList _ (a0p))) ((a1S .i64 : Fd I Int (rpK .i64)))) a9x b3X (fun _ => rfl) (fun _ _ _ => Iff.rfl) : Fd I Api_Type a6h)
def b5B : Fd I (I 51) inferInstance := (a4l (rg := rpVal) (Q4 (a1S .i64 : Fd I Int (rpK .i64)) (Q4 (a1S .i64 : Fd I Int (rpK .i64)) (Q4 (b2G : Fd I ByteArray (rpStr)) (Q4 (a1n 51 : Fd I (List Val) (@rpList _ (rpVal))) (Q4 (a1n 123 : Fd I (List Key) (@rpList _ (rpKey))) (Q4 (a1n 101 : Fd I (List Ent) (@rpList _ (rpEnt))) ((a1n 9 : Fd I (List ByteArray) (@rpList _ (rpStr)))))))))) Val.to Val.of (fun _ => rfl) Val.cells_to : Fd I Val rpVal)
def a6W : Fd I (I 62) inferInstance := (a4l (rg := a1k) (Q4 (a1n 3 : Fd I (List Int) (@rpList _ (rpK .i64))) ((a1S .i64 : Fd I Int (rpK .i64)))) a24 a6F (fun _ => rfl) (fun _ _ _ => Iff.rfl) : Fd I Semtypebase_Source a1k)
def b50 : Fd I (I 76) inferInstance := (Q4 (a1S .i64 : Fd I Int (rpK .i64)) ((a1S .i64 : Fd I Int (rpK .i64))) : Fd I (Int × Int) (Y4 (rpK .i64) (rpK .i64)))
def b00 : Fd I (I 78) inferInstance := (a4l (rg := a0p) (Q4 (a1S .i64 : Fd I Int (rpK .i64)) (Q4 (a1S .i64 : Fd I Int (rpK .i64)) (Q4 (a1S .i64 : Fd I Int (rpK .i64)) (Q4 (b2G : Fd I ByteArray (rpStr)) (Q4 (a1n 3 : Fd I (List Int) (@rpList _ (rpK .i64))) (Q4 (a1n 125 : Fd I (List Api_Field) (@rpList _ (a1p))) ((b4C 76 b50 : Fd I (Int × Int) (Y4 (rpK .i64) (rpK .i64)))))))))) a6c b02 (fun _ => rfl) (fun _ _ _ => Iff.rfl) : Fd I Api_TypeNode a0p)
def b8j : Fd I (I 101) inferInstance := (a4l (rg := rpEnt) (Q4 (a1n 51 : Fd I (List Val) (@rpList _ (rpVal))) (Q4 (a3t : Fd I Bool (rpBool)) ((b4C 51 b5B : Fd I Val (rpVal))))) Ent.to Ent.of (fun _ => rfl) Ent.cells_to : Fd I Ent rpEnt)
def b5Z : Fd I (I 123) inferInstance := (a4l (rg := rpKey) (Q4 (a1S .i64 : Fd I Int (rpK .i64)) ((b2G : Fd I ByteArray (rpStr)))) Key.to Key.of (fun _ => rfl) Key.cells_to : Fd I Key rpKey)
def b2Z : Fd I (I 125) inferInstance := (a4l (rg := a1p) (Q4 (b4C 123 b5Z : Fd I Key (rpKey)) (Q4 (a1S .i64 : Fd I Int (rpK .i64)) ((a3t : Fd I Bool (rpBool))))) a8d b3s (fun _ => rfl) (fun _ _ _ => Iff.rfl) : Fd I Api_Field a1p)
def b2m : Fd I (I 159) inferInstance := (a4l (rg := a4T) (Q4 (a3t : Fd I Bool (rpBool)) (Q4 (a3t : Fd I Bool (rpBool)) (Q4 (a3t : Fd I Bool (rpBool)) (Q4 (a3t : Fd I Bool (rpBool)) ((a3t : Fd I Bool (rpBool))))))) a7K b2v (fun _ => rfl) (fun _ _ _ => Iff.rfl) : Fd I Value_used a4T)
def feL : List (FE I) := [⟨2, a1S .i64⟩,
 ⟨3, a1S .i64⟩,
 ⟨4, a3t⟩,
 ⟨5, a1S .u8⟩,
 ⟨9, b2G⟩,
 ⟨22, a1n 3⟩,
 ⟨31, a1n 36⟩,
 ⟨33, b5q⟩,
 ⟨36, b30⟩,
 ⟨43, a1n 78⟩,
 ⟨45, b3T⟩,
 ⟨46, a1n 51⟩,
 ⟨47, a1n 123⟩,
 ⟨48, a1n 101⟩,
 ⟨49, a1n 9⟩,
 ⟨51, b5B⟩,
 ⟨62, a6W⟩,
 ⟨75, a1n 125⟩,
 ⟨76, b50⟩,
 ⟨78, b00⟩,
 ⟨101, b8j⟩,
 ⟨123, b5Z⟩,
 ⟨125, b2Z⟩,
 ⟨159, b2m⟩]
def b81 : TabL I where
 sz := [(33, 1), (36, 3), (45, 2), (51, 7), (76, 2), (78, 8), (101, 9), (123, 2), (125, 4), (159, 5)]
 one := [(2, ()), (3, ()), (4, ()), (5, ()), (9, ()), (22, ()), (31, ()), (43, ()), (46, ()), (47, ()), (48, ()), (49, ()), (74, ()), (75, ())]
 fld := [(33, [(0, 31)]), (36, [(0, 22), (1, 22), (2, 4)]), (45, [(0, 43), (1, 3)]), (51, [(0, 3), (1, 2), (2, 9), (3, 46), (4, 47), (5, 48), (6, 49)]), (62, [(0, 22), (1, 3)]), (78, [(0, 3), (1, 2), (2, 2), (3, 9), (4, 22), (5, 75), (6, 76)]), (101, [(0, 46), (1, 4), (2, 51)]), (123, [(0, 3), (1, 9)]), (125, [(0, 123), (2, 3), (3, 4)]), (159, [(0, 4), (1, 4), (2, 4), (3, 4), (4, 4)])]
 el := [(22, 3), (23, 5), (25, 22), (27, 33), (31, 36), (43, 78), (46, 51), (47, 123), (48, 101), (49, 9), (75, 125), (104, 4), (108, 2)]
 str := [(9, ())]
 bool := [(4, ())]
 ik := [(3, .i64), (24, .u64)]
 fe := feL
 inf := [(2, 1, 8, [.int .i64 0]), (3, 1, 8, [.int .i64 0]), (4, 1, 1, [.bool false]), (5, 1, 1, [.int .u8 0]), (9, 1, 16, [.str ⟨#[]⟩]), (22, 1, 24, [.nl 3]), (31, 1, 24, [.nl 36]), (33, 1, 24, [.nl 36]), (36, 3, 56, [.nl 3, .nl 3, .bool false]), (43, 1, 24, [.nl 78]), (45, 2, 32, [.nl 78, .int .i64 0]), (46, 1, 24, [.nl 51]), (47, 1, 24, [.nl 123]), (49, 1, 24, [.nl 9]), (51, 7, 128, [.int .i64 0, .int .i64 0, .str ⟨#[]⟩, .nl 51, .nl 123, .nl 101, .nl 9]), (62, 2, 32, [.nl 3, .int .i64 0]), (74, 1, 8, [.any]), (75, 1, 24, [.nl 125]), (76, 2, 16, [.int .i64 0, .int .i64 0]), (78, 8, 104, [.int .i64 0, .int .i64 0, .int .i64 0, .str ⟨#[]⟩, .nl 3, .nl 125, .int .i64 0, .int .i64 0]), (101, 9, 160, [.nl 51, .bool false, .int .i64 0, .int .i64 0, .str ⟨#[]⟩, .nl 51, .nl 123, .nl 101, .nl 9]), (123, 2, 24, [.int .i64 0, .str ⟨#[]⟩]), (125, 4, 40, [.int .i64 0, .str ⟨#[]⟩, .int .i64 0, .bool false]), (159, 5, 5, [.bool false, .bool false, .bool false, .bool false, .bool false])]
 st := [(33, [(0, 1)]), (36, [(0, 1), (1, 1), (2, 1)]), (45, [(0, 1), (1, 1)]), (51, [(0, 1), (1, 1), (2, 1), (3, 1), (4, 1), (5, 1), (6, 1)]), (62, [(0, 1), (1, 1)]), (76, [(0, 1), (1, 1)]), (78, [(0, 1), (1, 1), (2, 1), (3, 1), (4, 1), (5, 1), (6, 2)]), (123, [(0, 1), (1, 1)]), (125, [(0, 2), (2, 1), (3, 1)]), (159, [(0, 1), (1, 1), (2, 1), (3, 1), (4, 1)])]
 eq := [(76, b3N feL 76 b0C), (123, b3N feL 123 a6Y)]
 nest := [(22, 3, 0)]
 arr := [(76, 3, 2, 1)]
 fb := [(25, ()), (59, ()), (86, ()), (88, ()), (99, ()), (108, ()), (109, ()), (111, ()), (112, ()), (114, ()), (122, ()), (123, ()), (143, ()), (161, ()), (177, ())]
abbrev tb : Tab I := b7p b81
theorem ti2 : Z7 Go.Proofs.Tryz.prog 2 (.int .i64 0) 1 8 := Z6 (by kernel_rfl)
theorem ti3 : Z7 Go.Proofs.Tryz.prog 3 (.int .i64 0) 1 8 := Z6 (by kernel_rfl)
theorem ti4 : Z7 Go.Proofs.Tryz.prog 4 (.bool false) 1 1 := Z6 (by kernel_rfl)
theorem ti5 : Z7 Go.Proofs.Tryz.prog 5 (.int .u8 0) 1 1 := Z6 (by kernel_rfl)
theorem ti9 : Z7 Go.Proofs.Tryz.prog 9 (.string ⟨#[]⟩) 1 16 := Z6 (by kernel_rfl)
theorem b8R : Z7 Go.Proofs.Tryz.prog 22 (.slice none 0 0) 1 24 := Z6 (by kernel_rfl)
theorem b9N : Z7 Go.Proofs.Tryz.prog 31 (.slice none 0 0) 1 24 := Z6 (by kernel_rfl)
theorem b8G : Z7 Go.Proofs.Tryz.prog 33 (.agg #[.slice none 0 0]) 1 24 := Z6 (by kernel_rfl)
theorem b8W : Z7 Go.Proofs.Tryz.prog 36 (.agg #[.slice none 0 0, .slice none 0 0, .bool false]) 3 56 := Z6 (by kernel_rfl)
theorem b9C : Z7 Go.Proofs.Tryz.prog 43 (.slice none 0 0) 1 24 := Z6 (by kernel_rfl)
theorem b9T : Z7 Go.Proofs.Tryz.prog 45 (.agg #[.slice none 0 0, .int .i64 0]) 2 32 := Z6 (by kernel_rfl)
theorem b9G : Z7 Go.Proofs.Tryz.prog 46 (.slice none 0 0) 1 24 := Z6 (by kernel_rfl)
theorem b9R : Z7 Go.Proofs.Tryz.prog 47 (.slice none 0 0) 1 24 := Z6 (by kernel_rfl)
theorem b9Q : Z7 Go.Proofs.Tryz.prog 49 (.slice none 0 0) 1 24 := Z6 (by kernel_rfl)
theorem b8w : Z7 Go.Proofs.Tryz.prog 51 (.agg #[.int .i64 0, .int .i64 0, .string ⟨#[]⟩, .slice none 0 0, .slice none 0 0, .slice none 0 0, .slice none 0 0]) 7 128 := Z6 (by kernel_rfl)
theorem b9V : Z7 Go.Proofs.Tryz.prog 62 (.agg #[.slice none 0 0, .int .i64 0]) 2 32 := Z6 (by kernel_rfl)
theorem b9Z : Z7 Go.Proofs.Tryz.prog 74 (.nilFunc) 1 8 := Z6 (by kernel_rfl)
theorem b9F : Z7 Go.Proofs.Tryz.prog 75 (.slice none 0 0) 1 24 := Z6 (by kernel_rfl)
theorem b9L : Z7 Go.Proofs.Tryz.prog 76 (.agg #[.int .i64 0, .int .i64 0]) 2 16 := Z6 (by kernel_rfl)
theorem b8t : Z7 Go.Proofs.Tryz.prog 78 (.agg #[.int .i64 0, .int .i64 0, .int .i64 0, .string ⟨#[]⟩, .slice none 0 0, .slice none 0 0, .int .i64 0, .int .i64 0]) 8 104 := Z6 (by kernel_rfl)
theorem b7r : Z7 Go.Proofs.Tryz.prog 101 (.agg #[.slice none 0 0, .bool false, .int .i64 0, .int .i64 0, .string ⟨#[]⟩, .slice none 0 0, .slice none 0 0, .slice none 0 0, .slice none 0 0]) 9 160 := Z6 (by kernel_rfl)
theorem b7s : Z7 Go.Proofs.Tryz.prog 123 (.agg #[.int .i64 0, .string ⟨#[]⟩]) 2 24 := Z6 (by kernel_rfl)
theorem b7B : Z7 Go.Proofs.Tryz.prog 125 (.agg #[.int .i64 0, .string ⟨#[]⟩, .int .i64 0, .bool false]) 4 40 := Z6 (by kernel_rfl)
theorem b9o : Z7 Go.Proofs.Tryz.prog 159 (.agg #[.bool false, .bool false, .bool false, .bool false, .bool false]) 5 5 := Z6 (by kernel_rfl)
theorem to2 : a0y Go.Proofs.Tryz.prog 2 := ⟨_, Go.Proofs.Tryz.underlying2, rfl, by kernel_rfl⟩
theorem to3 : a0y Go.Proofs.Tryz.prog 3 := ⟨_, Go.Proofs.Tryz.underlying3, rfl, by kernel_rfl⟩
theorem to4 : a0y Go.Proofs.Tryz.prog 4 := ⟨_, Go.Proofs.Tryz.underlying4, rfl, by kernel_rfl⟩
theorem to5 : a0y Go.Proofs.Tryz.prog 5 := ⟨_, Go.Proofs.Tryz.underlying5, rfl, by kernel_rfl⟩
theorem to9 : a0y Go.Proofs.Tryz.prog 9 := ⟨_, Go.Proofs.Tryz.underlying9, rfl, by kernel_rfl⟩
theorem b91 : a0y Go.Proofs.Tryz.prog 22 := ⟨_, Go.Proofs.Tryz.underlying22, rfl, by kernel_rfl⟩
theorem b94 : a0y Go.Proofs.Tryz.prog 31 := ⟨_, Go.Proofs.Tryz.underlying31, rfl, by kernel_rfl⟩
theorem b9U : a0y Go.Proofs.Tryz.prog 43 := ⟨_, Go.Proofs.Tryz.underlying43, rfl, by kernel_rfl⟩
theorem b92 : a0y Go.Proofs.Tryz.prog 46 := ⟨_, Go.Proofs.Tryz.underlying46, rfl, by kernel_rfl⟩
theorem b9X : a0y Go.Proofs.Tryz.prog 47 := ⟨_, Go.Proofs.Tryz.underlying47, rfl, by kernel_rfl⟩
theorem b9P : a0y Go.Proofs.Tryz.prog 48 := ⟨_, Go.Proofs.Tryz.underlying48, rfl, by kernel_rfl⟩
theorem b9H : a0y Go.Proofs.Tryz.prog 49 := ⟨_, Go.Proofs.Tryz.underlying49, rfl, by kernel_rfl⟩
theorem b9J : a0y Go.Proofs.Tryz.prog 74 := ⟨_, Go.Proofs.Tryz.underlying74, rfl, by kernel_rfl⟩
theorem b9W : a0y Go.Proofs.Tryz.prog 75 := ⟨_, Go.Proofs.Tryz.underlying75, rfl, by kernel_rfl⟩
theorem b9M {σ : S} {x y : Int × Int} {cs ds : List Value} (h : (rI 76).cells σ x cs) (k : (rI 76).cells σ y ds) : Sx.EqAt Go.Proofs.Tryz.prog 2 76 (.agg cs.toArray) (.agg ds.toArray) (b0C x y) := by
 obtain ⟨_, _, rfl, rfl, rfl⟩ := h
 obtain ⟨_, _, rfl, rfl, rfl⟩ := k
 exact b6K Go.Proofs.Tryz.underlying76 ti3 (b1Y (a1B to3 rfl) (a1B to3 rfl) (a9R Go.Proofs.Tryz.underlying3) (b1Y (a1B to3 rfl) (a1B to3 rfl) (a9R Go.Proofs.Tryz.underlying3) b7a))
theorem b85 {σ : S} {x y : Key} {cs ds : List Value} (h : (rI 123).cells σ x cs) (k : (rI 123).cells σ y ds) : Sx.EqAt Go.Proofs.Tryz.prog 2 123 (.agg cs.toArray) (.agg ds.toArray) (a6Y x y) := by
 obtain ⟨_, _, rfl, rfl, rfl⟩ := h
 obtain ⟨_, _, rfl, rfl, rfl⟩ := k
 exact b3W Go.Proofs.Tryz.underlying123 (by kernel_rfl) (b2g (by decide) (a1B to3 rfl) (a1B to3 rfl) (a9R Go.Proofs.Tryz.underlying3) (b2g (by decide) (a1B to9 rfl) (a1B to9 rfl) (b6v Go.Proofs.Tryz.underlying9) b6X))
theorem eqT (T : TypeId) (g : I T -> I T -> Bool) {K : Nat} (h : ∀ {σ : S} {x y : I T} {cs ds : List Value}, Rp.cells σ x cs -> Rp.cells σ y ds -> Sx.EqAt Go.Proofs.Tryz.prog K T (.agg cs.toArray) (.agg ds.toArray) (g x y)) (hg : Go.Proofs.Tryz.prog.eqGuardType (Go.Proofs.Tryz.prog).depth T = false) (hK : Nat.ble K 10000 = true)
 {X : Cxt} {c : Cx} {σ : S} {ls ms : List (PV I)} {r : Bool} {cs ds : List Value} (h1 : b3N feL T g ls ms = some r) (h2 : RG X c σ ls cs) (h3 : RG X c σ ms ds) :
 Go.Proofs.Tryz.prog.eqGuardType (Go.Proofs.Tryz.prog).depth T = false /\ ∃ j, Nat.ble j 10000 = true /\ Sx.EqAt Go.Proofs.Tryz.prog j T (.agg cs.toArray) (.agg ds.toArray) r := by
 obtain ⟨x, y, k1, k2, rfl⟩ := b7O h1 h2 h3
 exact ⟨hg, K, hK, h k1 k2⟩
theorem b8k : TabLOk Go.Proofs.Tryz.prog b81 where
 sz := ⟨⟨_, Go.Proofs.Tryz.underlying33, rfl, by kernel_rfl⟩, ⟨⟨_, Go.Proofs.Tryz.underlying36, rfl, by kernel_rfl⟩, ⟨⟨_, Go.Proofs.Tryz.underlying45, rfl, by kernel_rfl⟩, ⟨⟨_, Go.Proofs.Tryz.underlying51, rfl, by kernel_rfl⟩, ⟨⟨_, Go.Proofs.Tryz.underlying76, rfl, by kernel_rfl⟩, ⟨⟨_, Go.Proofs.Tryz.underlying78, rfl, by kernel_rfl⟩, ⟨⟨_, Go.Proofs.Tryz.underlying101, rfl, by kernel_rfl⟩, ⟨⟨_, Go.Proofs.Tryz.underlying123, rfl, by kernel_rfl⟩, ⟨⟨_, Go.Proofs.Tryz.underlying125, rfl, by kernel_rfl⟩, ⟨⟨_, Go.Proofs.Tryz.underlying159, rfl, by kernel_rfl⟩, trivial⟩⟩⟩⟩⟩⟩⟩⟩⟩⟩
 one := ⟨to2, ⟨to3, ⟨to4, ⟨to5, ⟨to9, ⟨b91, ⟨b94, ⟨b9U, ⟨b92, ⟨b9X, ⟨b9P, ⟨b9H, ⟨b9J, ⟨b9W, trivial⟩⟩⟩⟩⟩⟩⟩⟩⟩⟩⟩⟩⟩⟩
 fld := ⟨⟨⟨_, _, Go.Proofs.Tryz.underlying33, rfl, rfl, by kernel_rfl⟩, ⟨⟨_, _, Go.Proofs.Tryz.underlying33, rfl, rfl⟩, trivial⟩⟩, ⟨⟨⟨_, _, Go.Proofs.Tryz.underlying36, rfl, rfl, by kernel_rfl⟩, ⟨⟨_, _, Go.Proofs.Tryz.underlying36, rfl, rfl⟩, ⟨⟨_, _, Go.Proofs.Tryz.underlying36, rfl, rfl, by kernel_rfl⟩, ⟨⟨_, _, Go.Proofs.Tryz.underlying36, rfl, rfl⟩, ⟨⟨_, _, Go.Proofs.Tryz.underlying36, rfl, rfl, by kernel_rfl⟩, ⟨⟨_, _, Go.Proofs.Tryz.underlying36, rfl, rfl⟩, trivial⟩⟩⟩⟩⟩⟩, ⟨⟨⟨_, _, Go.Proofs.Tryz.underlying45, rfl, rfl, by kernel_rfl⟩, ⟨⟨_, _, Go.Proofs.Tryz.underlying45, rfl, rfl⟩, ⟨⟨_, _, Go.Proofs.Tryz.underlying45, rfl, rfl, by kernel_rfl⟩, ⟨⟨_, _, Go.Proofs.Tryz.underlying45, rfl, rfl⟩, trivial⟩⟩⟩⟩, ⟨⟨⟨_, _, Go.Proofs.Tryz.underlying51, rfl, rfl, by kernel_rfl⟩, ⟨⟨_, _, Go.Proofs.Tryz.underlying51, rfl, rfl⟩, ⟨⟨_, _, Go.Proofs.Tryz.underlying51, rfl, rfl, by kernel_rfl⟩, ⟨⟨_, _, Go.Proofs.Tryz.underlying51, rfl, rfl⟩, ⟨⟨_, _, Go.Proofs.Tryz.underlying51, rfl, rfl, by kernel_rfl⟩, ⟨⟨_, _, Go.Proofs.Tryz.underlying51, rfl, rfl⟩, ⟨⟨_, _, Go.Proofs.Tryz.underlying51, rfl, rfl, by kernel_rfl⟩, ⟨⟨_, _, Go.Proofs.Tryz.underlying51, rfl, rfl⟩, ⟨⟨_, _, Go.Proofs.Tryz.underlying51, rfl, rfl, by kernel_rfl⟩, ⟨⟨_, _, Go.Proofs.Tryz.underlying51, rfl, rfl⟩, ⟨⟨_, _, Go.Proofs.Tryz.underlying51, rfl, rfl, by kernel_rfl⟩, ⟨⟨_, _, Go.Proofs.Tryz.underlying51, rfl, rfl⟩, ⟨⟨_, _, Go.Proofs.Tryz.underlying51, rfl, rfl, by kernel_rfl⟩, ⟨⟨_, _, Go.Proofs.Tryz.underlying51, rfl, rfl⟩, trivial⟩⟩⟩⟩⟩⟩⟩⟩⟩⟩⟩⟩⟩⟩, ⟨⟨⟨_, _, Go.Proofs.Tryz.underlying62, rfl, rfl, by kernel_rfl⟩, ⟨⟨_, _, Go.Proofs.Tryz.underlying62, rfl, rfl⟩, ⟨⟨_, _, Go.Proofs.Tryz.underlying62, rfl, rfl, by kernel_rfl⟩, ⟨⟨_, _, Go.Proofs.Tryz.underlying62, rfl, rfl⟩, trivial⟩⟩⟩⟩, ⟨⟨⟨_, _, Go.Proofs.Tryz.underlying78, rfl, rfl, by kernel_rfl⟩, ⟨⟨_, _, Go.Proofs.Tryz.underlying78, rfl, rfl⟩, ⟨⟨_, _, Go.Proofs.Tryz.underlying78, rfl, rfl, by kernel_rfl⟩, ⟨⟨_, _, Go.Proofs.Tryz.underlying78, rfl, rfl⟩, ⟨⟨_, _, Go.Proofs.Tryz.underlying78, rfl, rfl, by kernel_rfl⟩, ⟨⟨_, _, Go.Proofs.Tryz.underlying78, rfl, rfl⟩, ⟨⟨_, _, Go.Proofs.Tryz.underlying78, rfl, rfl, by kernel_rfl⟩, ⟨⟨_, _, Go.Proofs.Tryz.underlying78, rfl, rfl⟩, ⟨⟨_, _, Go.Proofs.Tryz.underlying78, rfl, rfl, by kernel_rfl⟩, ⟨⟨_, _, Go.Proofs.Tryz.underlying78, rfl, rfl⟩, ⟨⟨_, _, Go.Proofs.Tryz.underlying78, rfl, rfl, by kernel_rfl⟩, ⟨⟨_, _, Go.Proofs.Tryz.underlying78, rfl, rfl⟩, ⟨⟨_, _, Go.Proofs.Tryz.underlying78, rfl, rfl, by kernel_rfl⟩, ⟨⟨_, _, Go.Proofs.Tryz.underlying78, rfl, rfl⟩, trivial⟩⟩⟩⟩⟩⟩⟩⟩⟩⟩⟩⟩⟩⟩, ⟨⟨⟨_, _, Go.Proofs.Tryz.underlying101, rfl, rfl, by kernel_rfl⟩, ⟨⟨_, _, Go.Proofs.Tryz.underlying101, rfl, rfl⟩, ⟨⟨_, _, Go.Proofs.Tryz.underlying101, rfl, rfl, by kernel_rfl⟩, ⟨⟨_, _, Go.Proofs.Tryz.underlying101, rfl, rfl⟩, ⟨⟨_, _, Go.Proofs.Tryz.underlying101, rfl, rfl, by kernel_rfl⟩, ⟨⟨_, _, Go.Proofs.Tryz.underlying101, rfl, rfl⟩, trivial⟩⟩⟩⟩⟩⟩, ⟨⟨⟨_, _, Go.Proofs.Tryz.underlying123, rfl, rfl, by kernel_rfl⟩, ⟨⟨_, _, Go.Proofs.Tryz.underlying123, rfl, rfl⟩, ⟨⟨_, _, Go.Proofs.Tryz.underlying123, rfl, rfl, by kernel_rfl⟩, ⟨⟨_, _, Go.Proofs.Tryz.underlying123, rfl, rfl⟩, trivial⟩⟩⟩⟩, ⟨⟨⟨_, _, Go.Proofs.Tryz.underlying125, rfl, rfl, by kernel_rfl⟩, ⟨⟨_, _, Go.Proofs.Tryz.underlying125, rfl, rfl⟩, ⟨⟨_, _, Go.Proofs.Tryz.underlying125, rfl, rfl, by kernel_rfl⟩, ⟨⟨_, _, Go.Proofs.Tryz.underlying125, rfl, rfl⟩, ⟨⟨_, _, Go.Proofs.Tryz.underlying125, rfl, rfl, by kernel_rfl⟩, ⟨⟨_, _, Go.Proofs.Tryz.underlying125, rfl, rfl⟩, trivial⟩⟩⟩⟩⟩⟩, ⟨⟨⟨_, _, Go.Proofs.Tryz.underlying159, rfl, rfl, by kernel_rfl⟩, ⟨⟨_, _, Go.Proofs.Tryz.underlying159, rfl, rfl⟩, ⟨⟨_, _, Go.Proofs.Tryz.underlying159, rfl, rfl, by kernel_rfl⟩, ⟨⟨_, _, Go.Proofs.Tryz.underlying159, rfl, rfl⟩, ⟨⟨_, _, Go.Proofs.Tryz.underlying159, rfl, rfl, by kernel_rfl⟩, ⟨⟨_, _, Go.Proofs.Tryz.underlying159, rfl, rfl⟩, ⟨⟨_, _, Go.Proofs.Tryz.underlying159, rfl, rfl, by kernel_rfl⟩, ⟨⟨_, _, Go.Proofs.Tryz.underlying159, rfl, rfl⟩, ⟨⟨_, _, Go.Proofs.Tryz.underlying159, rfl, rfl, by kernel_rfl⟩, ⟨⟨_, _, Go.Proofs.Tryz.underlying159, rfl, rfl⟩, trivial⟩⟩⟩⟩⟩⟩⟩⟩⟩⟩, trivial⟩⟩⟩⟩⟩⟩⟩⟩⟩⟩
 el := ⟨⟨Go.Proofs.Tryz.underlying22, _, _, ti3, rfl, by decide⟩, ⟨⟨Go.Proofs.Tryz.underlying23, _, _, ti5, rfl, by decide⟩, ⟨⟨Go.Proofs.Tryz.underlying25, _, _, b8R, rfl, by decide⟩, ⟨⟨Go.Proofs.Tryz.underlying27, _, _, b8G, rfl, by decide⟩, ⟨⟨Go.Proofs.Tryz.underlying31, _, _, b8W, rfl, by decide⟩, ⟨⟨Go.Proofs.Tryz.underlying43, _, _, b8t, rfl, by decide⟩, ⟨⟨Go.Proofs.Tryz.underlying46, _, _, b8w, rfl, by decide⟩, ⟨⟨Go.Proofs.Tryz.underlying47, _, _, b7s, rfl, by decide⟩, ⟨⟨Go.Proofs.Tryz.underlying48, _, _, b7r, rfl, by decide⟩, ⟨⟨Go.Proofs.Tryz.underlying49, _, _, ti9, rfl, by decide⟩, ⟨⟨Go.Proofs.Tryz.underlying75, _, _, b7B, rfl, by decide⟩, ⟨⟨Go.Proofs.Tryz.underlying104, _, _, ti4, rfl, by decide⟩, ⟨⟨Go.Proofs.Tryz.underlying108, _, _, ti2, rfl, by decide⟩, trivial⟩⟩⟩⟩⟩⟩⟩⟩⟩⟩⟩⟩⟩
 str := ⟨Go.Proofs.Tryz.underlying9, trivial⟩
 bool := ⟨Go.Proofs.Tryz.underlying4, trivial⟩
 ik := ⟨Go.Proofs.Tryz.underlying3, ⟨Go.Proofs.Tryz.underlying24, trivial⟩⟩
 inf := ⟨⟨_, ti2, fun X c σ => RG.cns rfl a0B (RG.nl)⟩, ⟨⟨_, ti3, fun X c σ => RG.cns rfl a0B (RG.nl)⟩, ⟨⟨_, ti4, fun X c σ => RG.cns rfl a3z (RG.nl)⟩, ⟨⟨_, ti5, fun X c σ => RG.cns rfl a0B (RG.nl)⟩, ⟨⟨_, ti9, fun X c σ => RG.cns rfl a8R (RG.nl)⟩, ⟨⟨_, b8R, fun X c σ => RG.cns rfl a0J (RG.nl)⟩, ⟨⟨_, b9N, fun X c σ => RG.cns rfl a0J (RG.nl)⟩, ⟨⟨_, b8G, fun X c σ => RG.cns rfl a0J (RG.nl)⟩, ⟨⟨_, b8W, fun X c σ => RG.cns rfl a0J (RG.cns rfl a0J (RG.cns rfl a3z (RG.nl)))⟩, ⟨⟨_, b9C, fun X c σ => RG.cns rfl a0J (RG.nl)⟩, ⟨⟨_, b9T, fun X c σ => RG.cns rfl a0J (RG.cns rfl a0B (RG.nl))⟩, ⟨⟨_, b9G, fun X c σ => RG.cns rfl a0J (RG.nl)⟩, ⟨⟨_, b9R, fun X c σ => RG.cns rfl a0J (RG.nl)⟩, ⟨⟨_, b9Q, fun X c σ => RG.cns rfl a0J (RG.nl)⟩, ⟨⟨_, b8w, fun X c σ => RG.cns rfl a0B (RG.cns rfl a0B (RG.cns rfl a8R (RG.cns rfl a0J (RG.cns rfl a0J (RG.cns rfl a0J (RG.cns rfl a0J (RG.nl)))))))⟩, ⟨⟨_, b9V, fun X c σ => RG.cns rfl a0J (RG.cns rfl a0B (RG.nl))⟩, ⟨⟨_, b9Z, fun X c σ => RG.cns rfl b9c (RG.nl)⟩, ⟨⟨_, b9F, fun X c σ => RG.cns rfl a0J (RG.nl)⟩, ⟨⟨_, b9L, fun X c σ => RG.cns rfl a0B (RG.cns rfl a0B (RG.nl))⟩, ⟨⟨_, b8t, fun X c σ => RG.cns rfl a0B (RG.cns rfl a0B (RG.cns rfl a0B (RG.cns rfl a8R (RG.cns rfl a0J (RG.cns rfl a0J (RG.cns rfl a0B (RG.cns rfl a0B (RG.nl))))))))⟩, ⟨⟨_, b7r, fun X c σ => RG.cns rfl a0J (RG.cns rfl a3z (RG.cns rfl a0B (RG.cns rfl a0B (RG.cns rfl a8R (RG.cns rfl a0J (RG.cns rfl a0J (RG.cns rfl a0J (RG.cns rfl a0J (RG.nl)))))))))⟩, ⟨⟨_, b7s, fun X c σ => RG.cns rfl a0B (RG.cns rfl a8R (RG.nl))⟩, ⟨⟨_, b7B, fun X c σ => RG.cns rfl a0B (RG.cns rfl a8R (RG.cns rfl a0B (RG.cns rfl a3z (RG.nl))))⟩, ⟨⟨_, b9o, fun X c σ => RG.cns rfl a3z (RG.cns rfl a3z (RG.cns rfl a3z (RG.cns rfl a3z (RG.cns rfl a3z (RG.nl)))))⟩, trivial⟩⟩⟩⟩⟩⟩⟩⟩⟩⟩⟩⟩⟩⟩⟩⟩⟩⟩⟩⟩⟩⟩⟩⟩
 st := ⟨.inl ⟨_, Go.Proofs.Tryz.underlying33, by kernel_rfl⟩, ⟨.inl ⟨_, Go.Proofs.Tryz.underlying36, by kernel_rfl⟩, ⟨.inl ⟨_, Go.Proofs.Tryz.underlying45, by kernel_rfl⟩, ⟨.inl ⟨_, Go.Proofs.Tryz.underlying51, by kernel_rfl⟩, ⟨.inl ⟨_, Go.Proofs.Tryz.underlying62, by kernel_rfl⟩, ⟨.inr (b8O Go.Proofs.Tryz.underlying76 ti3 rfl), ⟨.inl ⟨_, Go.Proofs.Tryz.underlying78, by kernel_rfl⟩, ⟨.inl ⟨_, Go.Proofs.Tryz.underlying123, by kernel_rfl⟩, ⟨.inl ⟨_, Go.Proofs.Tryz.underlying125, by kernel_rfl⟩, ⟨.inl ⟨_, Go.Proofs.Tryz.underlying159, by kernel_rfl⟩, trivial⟩⟩⟩⟩⟩⟩⟩⟩⟩⟩
 eq := ⟨fun X c σ ls ms r cs ds h1 h2 h3 => eqT 76 b0C (fun h k => b9M h k) (by kernel_rfl) (by decide) h1 h2 h3, ⟨fun X c σ ls ms r cs ds h1 h2 h3 => eqT 123 a6Y (fun h k => b85 h k) (by kernel_rfl) (by decide) h1 h2 h3, trivial⟩⟩
 arr := ⟨⟨Go.Proofs.Tryz.underlying76, by kernel_rfl⟩, trivial⟩
 fb := ⟨⟨_, _, Go.Proofs.Tryz.func25, rfl, by kernel_rfl⟩, ⟨⟨_, _, Go.Proofs.Tryz.func59, rfl, by kernel_rfl⟩, ⟨⟨_, _, Go.Proofs.Tryz.func86, rfl, by kernel_rfl⟩, ⟨⟨_, _, Go.Proofs.Tryz.func88, rfl, by kernel_rfl⟩, ⟨⟨_, _, Go.Proofs.Tryz.func99, rfl, by kernel_rfl⟩, ⟨⟨_, _, Go.Proofs.Tryz.func108, rfl, by kernel_rfl⟩, ⟨⟨_, _, Go.Proofs.Tryz.func109, rfl, by kernel_rfl⟩, ⟨⟨_, _, Go.Proofs.Tryz.func111, rfl, by kernel_rfl⟩, ⟨⟨_, _, Go.Proofs.Tryz.func112, rfl, by kernel_rfl⟩, ⟨⟨_, _, Go.Proofs.Tryz.func114, rfl, by kernel_rfl⟩, ⟨⟨_, _, Go.Proofs.Tryz.func122, rfl, by kernel_rfl⟩, ⟨⟨_, _, Go.Proofs.Tryz.func123, rfl, by kernel_rfl⟩, ⟨⟨_, _, Go.Proofs.Tryz.func143, rfl, by kernel_rfl⟩, ⟨⟨_, _, Go.Proofs.Tryz.func161, rfl, by kernel_rfl⟩, ⟨⟨_, _, Go.Proofs.Tryz.func177, rfl, by kernel_rfl⟩, trivial⟩⟩⟩⟩⟩⟩⟩⟩⟩⟩⟩⟩⟩⟩⟩
theorem z7 : TabOk Go.Proofs.Tryz.prog tb := b6A b8k
theorem mixed : (Go.Proofs.Tryz.prog).follows .mixedOrders = true := by kernel_rfl
end Go.Qx
end
section
namespace Go.Qx
open Go Go.RowKit Go.Sx
set_option maxHeartbeats 1600000
set_option maxRecDepth 100000
def b0Z : Row I := ⟨81, [.d (.sl 3)], [.k (.row 3 false)], a15 8⟩
theorem b4Y : y0 Go.Proofs.Tryz.prog b0Z := b3K z7 mixed Go.Proofs.Tryz.func81 (by kernel_rfl) (by kernel_rfl) (by kernel_rfl) Go.Proofs.Tryz.underlying22 rfl (by kernel_rfl) (fun _ => by kernel_rfl)
def b4o : Rio I := ⟨135, 3, [], [], b1n⟩
theorem b8p : a8W Go.Proofs.Tryz.prog b4o := b56 (I := I) (E := 3) Go.Proofs.Tryz.lay135 135 (by kernel_rfl) (fun x => x) Iff.rfl ⟨_, _, Go.Proofs.Tryz.func135, rfl, by kernel_rfl⟩
def b4m : Row I := ⟨175, [.d (.str), .d (.str)], [.k (.d (.int .i64))], b49⟩
theorem b8L : y0 Go.Proofs.Tryz.prog b4m := b8q Go.Proofs.Tryz.func175 (by kernel_rfl) rfl (by kernel_rfl) (by kernel_rfl)
def b4q : Row I := ⟨148, [.d (.sl 51)], [.k (.row 51 false)], a15 128⟩
theorem b8x : y0 Go.Proofs.Tryz.prog b4q := b3K z7 mixed Go.Proofs.Tryz.func148 (by kernel_rfl) (by kernel_rfl) (by kernel_rfl) Go.Proofs.Tryz.underlying46 rfl (by kernel_rfl) (fun _ => by kernel_rfl)
def a5f : Hints I where
 tds := fun i => (asc [(1, [[], [0], [0, 1], [0, 1, 2], [0, 1, 2, 3], [0, 1, 2, 3, 4], [0, 1, 2, 3, 4, 5], [0, 1, 2], [0, 1, 2, 7], [0, 1, 2, 7, 8], [0, 1, 2, 7, 8, 9], [0, 1, 2, 7, 8, 9, 10], [0, 1, 2, 3, 4, 5, 6, 7, 8, 9, 10, 11], [0, 1, 2, 3, 4, 5, 6, 7, 8, 9, 10, 11, 12]]), (3, [[], [0], [0, 1], [0, 1, 2], [], [4], [4, 5], [4, 5, 6], [0, 1, 2, 3, 4, 5, 6, 7], [0, 1, 2, 3, 4, 5, 6, 7, 8], [], [0, 1, 2, 3, 4, 5, 6, 7, 8, 9, 10], [0, 1, 2, 3, 4, 5, 6, 7, 8, 9, 10, 11]])] i).getD []
 spl := fun i => (asc [] i).getD []
 pre := fun i => (asc [] i).getD []
 join := asc []
 loop := asc []
 keep := asc []
def a1r : Row I := ⟨23, [.var 62 (.k (.d (.dat 62))) true, .d (.int .i64)], [.k (.d (.int .i64))], Q6⟩
theorem a4F : y0 Go.Proofs.Tryz.prog (a1r) :=
 y9 z7 (y2 (es := []) trivial 3) mixed 46 (fn := Go.Proofs.Tryz.f23) (cd := j7 Go.Proofs.Tryz.f23) (H := a5f) (rl := [.tmp 4]) Go.Proofs.Tryz.func23 (by kernel_rfl) (by kernel_rfl) (by kernel_rfl) (by kernel_rfl) (by kernel_rfl) (by kernel_rfl) (by kernel_rfl)
def a7Z : Hints I where
 tds := fun i => (asc [] i).getD []
 spl := fun i => (asc [] i).getD []
 pre := fun i => (asc [] i).getD []
 join := asc [(31309, ⟨481036338176, [], [], [(.normal, [(10, .k (.row 3 false))])]⟩)]
 loop := asc [(122, ⟨8796092501760, [], [(7, .k (.d (.dat 62)))], [(8, .k (.row 22 false)), (9, .k (.d (.int .i64)))], [((.exit 0), [(8, .k (.row 22 false))])], bnd tb (.slot 9) 2⟩),
  (31306, ⟨8581549056, [], [(7, .k (.d (.dat 62)))], [(10, .k (.row 3 false)), (11, .k (.d (.int .i64)))], [((.exit 2), [(10, .k (.row 3 false))])], bnd tb (.slot 1) 1⟩)]
 keep := asc []
def a3c : Row I := ⟨7, [.d (.sl 3), .d (.int .i64), .d (.int .i64)], [.k (.row 22 false)], V0⟩
theorem a7i : y0 Go.Proofs.Tryz.prog (a3c) :=
 y9 z7 (y2 (es := [j0 tb (a1r)]) ⟨z8 z7 a4F, trivial⟩ 3) mixed 44 (fn := Go.Proofs.Tryz.f7) (cd := j7 Go.Proofs.Tryz.f7) (H := a7Z) (rl := [.tmp 6]) Go.Proofs.Tryz.func7 (by kernel_rfl) (by kernel_rfl) (by kernel_rfl) (by kernel_rfl) (by kernel_rfl) (by kernel_rfl) (by kernel_rfl)
def a4w : Hints I where
 tds := fun i => (asc [] i).getD []
 spl := fun i => (asc [] i).getD []
 pre := fun i => (asc [] i).getD []
 join := asc []
 loop := asc [(26, ⟨524080, [], [], [(8, .k (.d (.int .i64)))], [((.exit 0), []), (.ret, [(4, .k (.d (.int .i64)))])], bnd tb (.slot 7) 1⟩)]
 keep := asc []
def a08 : Row I := ⟨98, [.d (.sl 22), .fn [.sl 3] [.k (.d (.bool))]], [.k (.d (.int .i64))], a0x⟩
theorem a4d : y0 Go.Proofs.Tryz.prog (a08) :=
 y9 z7 (y2 (es := []) trivial 3) mixed 19 (fn := Go.Proofs.Tryz.f98) (cd := j7 Go.Proofs.Tryz.f98) (H := a4w) (rl := [.tmp 4]) Go.Proofs.Tryz.func98 (by kernel_rfl) (by kernel_rfl) (by kernel_rfl) (by kernel_rfl) (by kernel_rfl) (by kernel_rfl) (by kernel_rfl)
def a3y : Hints I where
 tds := fun i => (asc [] i).getD []
 spl := fun i => (asc [] i).getD []
 pre := fun i => (asc [] i).getD []
 join := asc []
 loop := asc []
 keep := asc []
def a0O : Row I := ⟨58, [.d (.sl 22), .fn [.sl 3] [.k (.d (.bool))]], [.k (.d (.bool))], K5⟩
theorem a3k : y0 Go.Proofs.Tryz.prog (a0O) :=
 y9 z7 (y2 (es := [j0 tb (a08)]) ⟨z8 z7 a4d, trivial⟩ 3) mixed 9 (fn := Go.Proofs.Tryz.f58) (cd := j7 Go.Proofs.Tryz.f58) (H := a3y) (rl := [.tmp 4]) Go.Proofs.Tryz.func58 (by kernel_rfl) (by kernel_rfl) (by kernel_rfl) (by kernel_rfl) (by kernel_rfl) (by kernel_rfl) (by kernel_rfl)
def a9A : Hints I where
 tds := fun i => (asc [] i).getD []
 spl := fun i => (asc [] i).getD []
 pre := fun i => (asc [] i).getD []
 join := asc []
 loop := asc []
 keep := asc []
def a4A : Row I := ⟨59, [.d (.sl 3), .var 3 (.k (.d (.int .i64))) false], [.k (.d (.bool))], a36⟩
theorem a9m : y0 Go.Proofs.Tryz.prog (a4A) :=
 y9 z7 (y2 (es := []) trivial 3) mixed 8 (fn := Go.Proofs.Tryz.f59) (cd := j7 Go.Proofs.Tryz.f59) (H := a9A) (rl := [.tmp 3]) Go.Proofs.Tryz.func59 (by kernel_rfl) (by kernel_rfl) (by kernel_rfl) (by kernel_rfl) (by kernel_rfl) (by kernel_rfl) (by kernel_rfl)
def b1u : Hints I where
 tds := fun i => (asc [] i).getD []
 spl := fun i => (asc [] i).getD []
 pre := fun i => (asc [] i).getD []
 join := asc []
 loop := asc []
 keep := asc []
def a5I : Row I := ⟨39, [.d (.int .i64), .d (.sl 22)], [.k (.d (.bool))], a2f⟩
theorem b0e : y0 Go.Proofs.Tryz.prog (a5I) :=
 y9 z7 (y2 (es := [j0 tb (a0O), j0 tb (a4A)]) ⟨z8 z7 a3k, ⟨z8 z7 a9m, trivial⟩⟩ 3) mixed 9 (fn := Go.Proofs.Tryz.f39) (cd := j7 Go.Proofs.Tryz.f39) (H := b1u) (rl := [.tmp 4]) Go.Proofs.Tryz.func39 (by kernel_rfl) (by kernel_rfl) (by kernel_rfl) (by kernel_rfl) (by kernel_rfl) (by kernel_rfl) (by kernel_rfl)
def a4H : Hints I where
 tds := fun i => (asc [] i).getD []
 spl := fun i => (asc [] i).getD []
 pre := fun i => (asc [] i).getD []
 join := asc []
 loop := asc [(26, ⟨524080, [], [], [(8, .k (.d (.int .i64)))], [((.exit 0), []), (.ret, [(4, .k (.d (.int .i64)))])], bnd tb (.slot 7) 1⟩)]
 keep := asc []
def a1g : Row I := ⟨117, [.d (.sl 3), .fn [.int .i64] [.k (.d (.bool))]], [.k (.d (.int .i64))], a0N⟩
theorem a4C : y0 Go.Proofs.Tryz.prog (a1g) :=
 y9 z7 (y2 (es := []) trivial 3) mixed 19 (fn := Go.Proofs.Tryz.f117) (cd := j7 Go.Proofs.Tryz.f117) (H := a4H) (rl := [.tmp 4]) Go.Proofs.Tryz.func117 (by kernel_rfl) (by kernel_rfl) (by kernel_rfl) (by kernel_rfl) (by kernel_rfl) (by kernel_rfl) (by kernel_rfl)
def a3J : Hints I where
 tds := fun i => (asc [] i).getD []
 spl := fun i => (asc [] i).getD []
 pre := fun i => (asc [] i).getD []
 join := asc []
 loop := asc []
 keep := asc []
def J1 : Row I := ⟨85, [.d (.sl 3), .fn [.int .i64] [.k (.d (.bool))]], [.k (.d (.bool))], Z2⟩
theorem X1 : y0 Go.Proofs.Tryz.prog (J1) :=
 y9 z7 (y2 (es := [j0 tb (a1g)]) ⟨z8 z7 a4C, trivial⟩ 3) mixed 9 (fn := Go.Proofs.Tryz.f85) (cd := j7 Go.Proofs.Tryz.f85) (H := a3J) (rl := [.tmp 4]) Go.Proofs.Tryz.func85 (by kernel_rfl) (by kernel_rfl) (by kernel_rfl) (by kernel_rfl) (by kernel_rfl) (by kernel_rfl) (by kernel_rfl)
def a6w : Hints I where
 tds := fun i => (asc [] i).getD []
 spl := fun i => (asc [] i).getD []
 pre := fun i => (asc [] i).getD []
 join := asc []
 loop := asc [(26, ⟨524080, [], [], [(8, .k (.d (.int .i64)))], [((.exit 0), []), (.ret, [(4, .k (.d (.int .i64)))])], bnd tb (.slot 7) 1⟩)]
 keep := asc []
def a18 : Row I := ⟨134, [.d (.sl 3), .d (.int .i64)], [.k (.d (.int .i64))], a1z⟩
theorem a5O : y0 Go.Proofs.Tryz.prog (a18) :=
 y9 z7 (y2 (es := []) trivial 3) mixed 19 (fn := Go.Proofs.Tryz.f134) (cd := j7 Go.Proofs.Tryz.f134) (H := a6w) (rl := [.tmp 4]) Go.Proofs.Tryz.func134 (by kernel_rfl) (by kernel_rfl) (by kernel_rfl) (by kernel_rfl) (by kernel_rfl) (by kernel_rfl) (by kernel_rfl)
def a5b : Hints I where
 tds := fun i => (asc [] i).getD []
 spl := fun i => (asc [] i).getD []
 pre := fun i => (asc [] i).getD []
 join := asc []
 loop := asc []
 keep := asc []
def a1s : Row I := ⟨100, [.d (.sl 3), .d (.int .i64)], [.k (.d (.bool))], a0b⟩
theorem a4I : y0 Go.Proofs.Tryz.prog (a1s) :=
 y9 z7 (y2 (es := [j0 tb (a18)]) ⟨z8 z7 a5O, trivial⟩ 3) mixed 9 (fn := Go.Proofs.Tryz.f100) (cd := j7 Go.Proofs.Tryz.f100) (H := a5b) (rl := [.tmp 4]) Go.Proofs.Tryz.func100 (by kernel_rfl) (by kernel_rfl) (by kernel_rfl) (by kernel_rfl) (by kernel_rfl) (by kernel_rfl) (by kernel_rfl)
def a9d : Hints I where
 tds := fun i => (asc [] i).getD []
 spl := fun i => (asc [] i).getD []
 pre := fun i => (asc [] i).getD []
 join := asc []
 loop := asc []
 keep := asc []
def a3N : Row I := ⟨99, [.d (.int .i64), .var 22 (.k (.d (.sl 3))) false], [.k (.d (.bool))], a3w⟩
theorem a8e : y0 Go.Proofs.Tryz.prog (a3N) :=
 y9 z7 (y2 (es := [j0 tb (a1s)]) ⟨z8 z7 a4I, trivial⟩ 3) mixed 7 (fn := Go.Proofs.Tryz.f99) (cd := j7 Go.Proofs.Tryz.f99) (H := a9d) (rl := [.tmp 3]) Go.Proofs.Tryz.func99 (by kernel_rfl) (by kernel_rfl) (by kernel_rfl) (by kernel_rfl) (by kernel_rfl) (by kernel_rfl) (by kernel_rfl)
def b0V : Hints I where
 tds := fun i => (asc [] i).getD []
 spl := fun i => (asc [] i).getD []
 pre := fun i => (asc [] i).getD []
 join := asc []
 loop := asc []
 keep := asc []
def a4U : Row I := ⟨60, [.d (.sl 3), .d (.sl 3)], [.k (.d (.bool))], a2Q⟩
theorem a9N : y0 Go.Proofs.Tryz.prog (a4U) :=
 y9 z7 (y2 (es := [j0 tb (J1), j0 tb (a3N)]) ⟨z8 z7 X1, ⟨z8 z7 a8e, trivial⟩⟩ 3) mixed 8 (fn := Go.Proofs.Tryz.f60) (cd := j7 Go.Proofs.Tryz.f60) (H := b0V) (rl := [.tmp 4]) Go.Proofs.Tryz.func60 (by kernel_rfl) (by kernel_rfl) (by kernel_rfl) (by kernel_rfl) (by kernel_rfl) (by kernel_rfl) (by kernel_rfl)
def a5D : Hints I where
 tds := fun i => (asc [(6, [[], [], [0, 1], [0, 1, 2], [], [], [5], [4, 5, 6], [4, 5, 6, 7], [0, 1, 2, 3, 4, 5, 6, 7, 8]]), (11, [[], [], [0, 1], [0, 1, 2], [], [], [5], [4, 5, 6], [4, 5, 6, 7], [0, 1, 2, 3, 4, 5, 6, 7, 8]])] i).getD []
 spl := fun i => (asc [] i).getD []
 pre := fun i => (asc [] i).getD []
 join := asc []
 loop := asc [(58, ⟨1152921504606846012, [], [], [(0, .k (.row 3 false)), (3, .k (.d (.int .i64)))], [((.exit 0), [(0, .k (.row 3 false))]), (.ret, [(0, .k (.row 3 true)), (2, .k (.d (.sl 3)))])], bnd tb (.len (.slot 0)) 1⟩)]
 keep := asc [(59690, ⟨18014397972611112, 0, 3, [(3, .k (.d (.int .i64))), (5, .k (.d (.int .i64)))], [((.exit 2), [(3, .k (.d (.int .i64)))])], bnd tb (.len (.slot 4)) 1⟩)]
def a1J : Row I := ⟨137, [.row 3 false], [.k (.d (.sl 3))], a0i⟩
theorem a47 : y0 Go.Proofs.Tryz.prog (a1J) :=
 y9 z7 (y2 (es := []) trivial 3) mixed 61 (fn := Go.Proofs.Tryz.f137) (cd := j7 Go.Proofs.Tryz.f137) (H := a5D) (rl := [.tmp 2]) Go.Proofs.Tryz.func137 (by kernel_rfl) (by kernel_rfl) (by kernel_rfl) (by kernel_rfl) (by kernel_rfl) (by kernel_rfl) (by kernel_rfl)
def a6L : Hints I where
 tds := fun i => (asc [] i).getD []
 spl := fun i => (asc [] i).getD []
 pre := fun i => (asc [] i).getD []
 join := asc []
 loop := asc []
 keep := asc []
def a2o : Row I := ⟨136, [.d (.sl 3)], [.k (.row 3 true)], a1P⟩
theorem a6t : y0 Go.Proofs.Tryz.prog (a2o) :=
 y9 z7 (y2 (es := []) trivial 3) mixed 9 (fn := Go.Proofs.Tryz.f136) (cd := j7 Go.Proofs.Tryz.f136) (H := a6L) (rl := [.tmp 2]) Go.Proofs.Tryz.func136 (by kernel_rfl) (by kernel_rfl) (by kernel_rfl) (by kernel_rfl) (by kernel_rfl) (by kernel_rfl) (by kernel_rfl)
def b2w : Hints I where
 tds := fun i => (asc [] i).getD []
 spl := fun i => (asc [] i).getD []
 pre := fun i => (asc [] i).getD []
 join := asc []
 loop := asc []
 keep := asc []
def a55 : Row I := ⟨101, [.d (.sl 3)], [.k (.row 3 true)], a2E⟩
theorem b1E : y0 Go.Proofs.Tryz.prog (a55) :=
 y9 z7 (y2 (es := [j0 tb b0Z, b6T tb b4o, j0 tb (a1J), j0 tb (a2o)]) ⟨z8 z7 b4Y, ⟨b4e z7 b8p, ⟨z8 z7 a47, ⟨z8 z7 a6t, trivial⟩⟩⟩⟩ 3) mixed 11 (fn := Go.Proofs.Tryz.f101) (cd := j7 Go.Proofs.Tryz.f101) (H := b2w) (rl := [.tmp 2]) Go.Proofs.Tryz.func101 (by kernel_rfl) (by kernel_rfl) (by kernel_rfl) (by kernel_rfl) (by kernel_rfl) (by kernel_rfl) (by kernel_rfl)
def b2t : Hints I where
 tds := fun i => (asc [(1, [[], [0], [0, 1], [], [3], [0, 1, 2, 3, 4], [], [6], [0, 1, 2, 3, 4, 5, 6, 7], [0, 1, 2, 3, 4, 5, 6, 7, 8]])] i).getD []
 spl := fun i => (asc [] i).getD []
 pre := fun i => (asc [] i).getD []
 join := asc []
 loop := asc []
 keep := asc []
def a5X : Row I := ⟨61, [.d (.dat 36)], [.k (.d (.dat 36))], a4i⟩
theorem b06 : y0 Go.Proofs.Tryz.prog (a5X) :=
 y9 z7 (y2 (es := [j0 tb (a55)]) ⟨z8 z7 b1E, trivial⟩ 3) mixed 12 (fn := Go.Proofs.Tryz.f61) (cd := j7 Go.Proofs.Tryz.f61) (H := b2t) (rl := [.cell 2 36]) Go.Proofs.Tryz.func61 (by kernel_rfl) (by kernel_rfl) (by kernel_rfl) (by kernel_rfl) (by kernel_rfl) (by kernel_rfl) (by kernel_rfl)
def b2r : Hints I where
 tds := fun i => (asc [(9, [[], [0], [], [], [2, 3], [2, 3, 4], [2, 3, 4, 5], [0, 1, 2, 3, 4, 5, 6], [0, 1, 2, 3, 4, 5, 6, 7], [0, 1, 2, 3, 4, 5, 6, 7, 8]]), (14, [[], [], [0, 1], [0, 1, 2], [], [], [4, 5], [4, 5, 6], [0, 1, 2, 3, 4, 5, 6, 7], [0, 1, 2, 3, 4, 5, 6, 7, 8], [], [0, 1, 2, 3, 4, 5, 6, 7, 8, 9, 10]]), (15, [[], [0], [], [], [2, 3], [2, 3, 4], [2, 3, 4, 5], [0, 1, 2, 3, 4, 5, 6], [0, 1, 2, 3, 4, 5, 6, 7], [0, 1, 2, 3, 4, 5, 6, 7, 8]]), (19, [[], [0], [], [2], [2, 3], [0, 1, 2, 3, 4], [0, 1, 2, 3, 4, 5], [0, 1, 2, 3, 4, 5, 6]])] i).getD []
 spl := fun i => (asc [] i).getD []
 pre := fun i => (asc [(18, [10, 12]), (19, [12]), (20, [10, 12])] i).getD []
 join := asc []
 loop := asc [(58, ⟨4835703278458516698261504, [], [(10, .lvs [.d (.sl 36)]), (12, .lvs [.row 36 true])], [(20, .k (.d (.int .i64)))], [((.exit 0), []), (.ret, [(11, .k (.d (.bool)))])], bnd tb (.slot 19) 1⟩),
  (59802, ⟨549722324992, [], [(14, .lvs [.row 3 false, .row 3 false, .d (.bool)])], [(25, .k (.d (.int .i64)))], [((.exit 2), [])], bnd tb (.slot 24) 1⟩),
  (119610, ⟨295147902980329963520, [], [(14, .lvs [.row 3 false, .row 3 false, .d (.bool)])], [(41, .k (.d (.int .i64)))], [((.exit 4), [])], bnd tb (.slot 40) 1⟩)]
 keep := asc []
def a6a : Row I := ⟨40, [.d (.int .i64), .d (.sl 22), .d (.sl 22), .d (.sl 22), .bor 3], [.k (.d (.dat 33)), .k (.d (.bool))], a4k⟩
theorem b1b : y0 Go.Proofs.Tryz.prog (a6a) :=
 y9 z7 (y2 (es := [j0 tb (a4U), j0 tb (a5X)]) ⟨z8 z7 a9N, ⟨z8 z7 b06, trivial⟩⟩ 3) mixed 83 (fn := Go.Proofs.Tryz.f40) (cd := j7 Go.Proofs.Tryz.f40) (H := b2r) (rl := [.cell 10 33, .tmp 11]) Go.Proofs.Tryz.func40 (by kernel_rfl) (by kernel_rfl) (by kernel_rfl) (by kernel_rfl) (by kernel_rfl) (by kernel_rfl) (by kernel_rfl)
def a9l : Hints I where
 tds := fun i => (asc [(5, [[], [], [0, 1], [0, 1, 2], [], [], [4, 5], [4, 5, 6], [4, 5, 6, 7], [0, 1, 2, 3, 4, 5, 6, 7, 8]])] i).getD []
 spl := fun i => (asc [] i).getD []
 pre := fun i => (asc [] i).getD []
 join := asc []
 loop := asc []
 keep := asc [(26, ⟨2147483440, 0, 3, [(8, .k (.d (.int .i64)))], [((.exit 0), []), (.ret, [(4, .k (.d (.bool)))])], bnd tb (.slot 7) 1⟩)]
def a3P : Rio I := ⟨41, 3, [.d (.sl 22)], [.k (.d (.bool))], a1U⟩
theorem a8u : a8W Go.Proofs.Tryz.prog (a3P) :=
 b8g z7 (y2 (es := []) trivial 3) mixed 31 (fn := Go.Proofs.Tryz.f41) (cd := j7 Go.Proofs.Tryz.f41) (H := a9l) (rl := [.tmp 4]) Go.Proofs.Tryz.func41 (by kernel_rfl) (by kernel_rfl) (by kernel_rfl) (by kernel_rfl) (by kernel_rfl) (by kernel_rfl) (by kernel_rfl)
def b0N (n : Nat) : Hints I where
 tds := fun i => (asc [] i).getD []
 spl := fun i => (asc [] i).getD []
 pre := fun i => (asc [(11, [1000009]), (17, [9])] i).getD []
 join := asc [(8131, ⟨2321137573660088015435890688, [], [], [(.normal, [(15, .k (.row 33 false))])]⟩)]
 loop := asc [(254, ⟨79228011398536885764897341696, [], [], [(14, .k (.row 3 false)), (15, .k (.row 33 false))], [(.ret, [(8, .k (.row 33 false)), (14, .k (.row 3 false))])], fun _ => some n⟩)]
 keep := asc []
 nst := asc [(122, ⟨⟨18889465929279557614848, [], [], [(41, .k (.d (.int .i64)))], [((.exit 0), []), (.ret, [(8, .k (.row 33 false))])], bnd tb (.slot 40) 1⟩, 9, 22⟩),
  (62666, ⟨⟨147573671114699714560, [], [], [(48, .k (.d (.int .i64)))], [((.exit 2), [])], bnd tb (.slot 47) 1⟩, 9, 22⟩)]
def a42 (n : Nat) : Row I := ⟨24, [.d (.int .i64), .d (.sl 22), .d (.sl 22), .fn [.int .i64] [.k (.d (.bool))]], [.k (.row 33 false)], a2R n⟩
theorem a9E (n : Nat) : y0 Go.Proofs.Tryz.prog (a42 n) :=
 y9 z7 (y2 (es := [j0 tb (a5I), j0 tb (a6a), b6T tb a3P]) ⟨z8 z7 b0e, ⟨z8 z7 b1b, ⟨b4e z7 a8u, trivial⟩⟩⟩ 3) mixed 96 (fn := Go.Proofs.Tryz.f24) (cd := j7 Go.Proofs.Tryz.f24) (H := (b0N n)) (rl := [.tmp 8]) Go.Proofs.Tryz.func24 (by kernel_rfl) (by kernel_rfl) (by kernel_rfl) (by kernel_rfl) (by kernel_rfl) (by kernel_rfl) (by kernel_rfl)
def a9g : Hints I where
 tds := fun i => (asc [] i).getD []
 spl := fun i => (asc [] i).getD []
 pre := fun i => (asc [] i).getD []
 join := asc []
 loop := asc []
 keep := asc []
def a3S : Row I := ⟨25, [.d (.int .i64)], [.k (.d (.bool))], a3m⟩
theorem a77 : y0 Go.Proofs.Tryz.prog (a3S) :=
 y9 z7 (y2 (es := []) trivial 3) mixed 3 (fn := Go.Proofs.Tryz.f25) (cd := j7 Go.Proofs.Tryz.f25) (H := a9g) (rl := [.tmp 2]) Go.Proofs.Tryz.func25 (by kernel_rfl) (by kernel_rfl) (by kernel_rfl) (by kernel_rfl) (by kernel_rfl) (by kernel_rfl) (by kernel_rfl)
def b0I (_ : Nat) : Hints I where
 tds := fun i => (asc [] i).getD []
 spl := fun i => (asc [] i).getD []
 pre := fun i => (asc [] i).getD []
 join := asc []
 loop := asc []
 keep := asc []
def a2s (n : Nat) : Row I := ⟨8, [.d (.int .i64), .d (.sl 22), .d (.sl 22)], [.k (.row 33 false)], a0r n⟩
theorem a5B (n : Nat) : y0 Go.Proofs.Tryz.prog (a2s n) :=
 y9 z7 (y2 (es := [j0 tb (a42 n), j0 tb (a3S)]) ⟨z8 z7 (a9E n), ⟨z8 z7 a77, trivial⟩⟩ 3) mixed 11 (fn := Go.Proofs.Tryz.f8) (cd := j7 Go.Proofs.Tryz.f8) (H := (b0I n)) (rl := [.tmp 6]) Go.Proofs.Tryz.func8 (by kernel_rfl) (by kernel_rfl) (by kernel_rfl) (by kernel_rfl) (by kernel_rfl) (by kernel_rfl) (by kernel_rfl)
def a9h : Hints I where
 tds := fun i => (asc [] i).getD []
 spl := fun i => (asc [] i).getD []
 pre := fun i => (asc [] i).getD []
 join := asc []
 loop := asc []
 keep := asc []
def a3L : Row I := ⟨26, [], [.k (.d (.dat 51))], a6d⟩
theorem a8r : y0 Go.Proofs.Tryz.prog (a3L) :=
 y9 z7 (y2 (es := []) trivial 3) mixed 2 (fn := Go.Proofs.Tryz.f26) (cd := j7 Go.Proofs.Tryz.f26) (H := a9h) (rl := [.cell 0 51]) Go.Proofs.Tryz.func26 (by kernel_rfl) (by kernel_rfl) (by kernel_rfl) (by kernel_rfl) (by kernel_rfl) (by kernel_rfl) (by kernel_rfl)
def b3F : Hints I where
 tds := fun i => (asc [] i).getD []
 spl := fun i => (asc [] i).getD []
 pre := fun i => (asc [] i).getD []
 join := asc [(105, ⟨160, [], [], [(.normal, [(5, .k (.d (.bool)))])]⟩),
  (429, ⟨2560, [], [], [(.normal, [(9, .k (.d (.bool)))])]⟩),
  (6909, ⟨327680, [], [], [(.normal, [(16, .k (.d (.bool)))])]⟩)]
 loop := asc []
 keep := asc []
def a61 : Row I := ⟨144, [.d (.int .i64)], [.k (.d (.dat 159)), .k (.d (.bool))], b0x⟩
theorem b2s : y0 Go.Proofs.Tryz.prog (a61) :=
 y9 z7 (y2 (es := []) trivial 3) mixed 27 (fn := Go.Proofs.Tryz.f144) (cd := j7 Go.Proofs.Tryz.f144) (H := b3F) (rl := [.cell 2 159, .tmp 3]) Go.Proofs.Tryz.func144 (by kernel_rfl) (by kernel_rfl) (by kernel_rfl) (by kernel_rfl) (by kernel_rfl) (by kernel_rfl) (by kernel_rfl)
def a5p : Hints I where
 tds := fun i => (asc [(4, [[], [], [], [2], [1, 2, 3], [1, 2, 3, 4], [], [], [6, 7], [6, 7, 8], [0, 1, 2, 3, 4, 5, 6, 7, 8, 9], [0, 1, 2, 3, 4, 5, 6, 7, 8, 9, 10]])] i).getD []
 spl := fun i => (asc [] i).getD []
 pre := fun i => (asc [] i).getD []
 join := asc []
 loop := asc [(26, ⟨16777200, [], [], [(5, .k (.d (.int .i64)))], [((.exit 0), []), (.ret, [(4, .k (.d (.bool)))])], bnd tb (.len (.slot 0)) 1⟩)]
 keep := asc []
def a1L : Row I := ⟨158, [.d (.sl 9), .fn [.str, .str] [.k (.d (.int .i64))]], [.k (.d (.bool))], a2B⟩
theorem a5d : y0 Go.Proofs.Tryz.prog (a1L) :=
 y9 z7 (y2 (es := []) trivial 3) mixed 24 (fn := Go.Proofs.Tryz.f158) (cd := j7 Go.Proofs.Tryz.f158) (H := a5p) (rl := [.tmp 4]) Go.Proofs.Tryz.func158 (by kernel_rfl) (by kernel_rfl) (by kernel_rfl) (by kernel_rfl) (by kernel_rfl) (by kernel_rfl) (by kernel_rfl)
def a2X : Hints I where
 tds := fun i => (asc [] i).getD []
 spl := fun i => (asc [] i).getD []
 pre := fun i => (asc [] i).getD []
 join := asc []
 loop := asc []
 keep := asc []
def a0v : Row I := ⟨157, [.d (.str), .d (.str)], [.k (.d (.int .i64))], a01⟩
theorem a2A : y0 Go.Proofs.Tryz.prog (a0v) :=
 y9 z7 (y2 (es := [j0 tb b4m]) ⟨z8 z7 b8L, trivial⟩ 3) mixed 8 (fn := Go.Proofs.Tryz.f157) (cd := j7 Go.Proofs.Tryz.f157) (H := a2X) (rl := [.tmp 4]) Go.Proofs.Tryz.func157 (by kernel_rfl) (by kernel_rfl) (by kernel_rfl) (by kernel_rfl) (by kernel_rfl) (by kernel_rfl) (by kernel_rfl)
def a86 : Hints I where
 tds := fun i => (asc [] i).getD []
 spl := fun i => (asc [] i).getD []
 pre := fun i => (asc [] i).getD []
 join := asc []
 loop := asc []
 keep := asc []
def a0R : Row I := ⟨143, [.d (.str), .d (.str)], [.k (.d (.int .i64))], a0Z⟩
theorem a2d : y0 Go.Proofs.Tryz.prog (a0R) :=
 y9 z7 (y2 (es := [j0 tb (a0v)]) ⟨z8 z7 a2A, trivial⟩ 3) mixed 8 (fn := Go.Proofs.Tryz.f143) (cd := j7 Go.Proofs.Tryz.f143) (H := a86) (rl := [.tmp 4]) Go.Proofs.Tryz.func143 (by kernel_rfl) (by kernel_rfl) (by kernel_rfl) (by kernel_rfl) (by kernel_rfl) (by kernel_rfl) (by kernel_rfl)
def b1P : Hints I where
 tds := fun i => (asc [] i).getD []
 spl := fun i => (asc [] i).getD []
 pre := fun i => (asc [] i).getD []
 join := asc []
 loop := asc [(58, ⟨34351349952, [], [], [(7, .k (.d (.int .i64)))], [((.exit 0), []), (.ret, [(6, .k (.d (.bool)))])], bnd tb (.len (.slot 0)) 1⟩)]
 keep := asc []
def a22 : Row I := ⟨107, [.d (.str), .fn [.int .u8] [.k (.d (.bool))], .fn [.int .u8] [.k (.d (.bool))]], [.k (.d (.bool))], a5G⟩
theorem a59 : y0 Go.Proofs.Tryz.prog (a22) :=
 y9 z7 (y2 (es := []) trivial 3) mixed 35 (fn := Go.Proofs.Tryz.f107) (cd := j7 Go.Proofs.Tryz.f107) (H := b1P) (rl := [.tmp 6]) Go.Proofs.Tryz.func107 (by kernel_rfl) (by kernel_rfl) (by kernel_rfl) (by kernel_rfl) (by kernel_rfl) (by kernel_rfl) (by kernel_rfl)
def b0U : Hints I where
 tds := fun i => (asc [] i).getD []
 spl := fun i => (asc [] i).getD []
 pre := fun i => (asc [] i).getD []
 join := asc []
 loop := asc []
 keep := asc []
def a2v : Row I := ⟨111, [.d (.int .u8)], [.k (.d (.bool))], a4N⟩
theorem a5u : y0 Go.Proofs.Tryz.prog (a2v) :=
 y9 z7 (y2 (es := []) trivial 3) mixed 9 (fn := Go.Proofs.Tryz.f111) (cd := j7 Go.Proofs.Tryz.f111) (H := b0U) (rl := [.tmp 2]) Go.Proofs.Tryz.func111 (by kernel_rfl) (by kernel_rfl) (by kernel_rfl) (by kernel_rfl) (by kernel_rfl) (by kernel_rfl) (by kernel_rfl)
def b0i : Hints I where
 tds := fun i => (asc [] i).getD []
 spl := fun i => (asc [] i).getD []
 pre := fun i => (asc [] i).getD []
 join := asc []
 loop := asc []
 keep := asc []
def a1e : Row I := ⟨108, [.d (.int .u8)], [.k (.d (.bool))], a2S⟩
theorem a2Y : y0 Go.Proofs.Tryz.prog (a1e) :=
 y9 z7 (y2 (es := []) trivial 3) mixed 9 (fn := Go.Proofs.Tryz.f108) (cd := j7 Go.Proofs.Tryz.f108) (H := b0i) (rl := [.tmp 2]) Go.Proofs.Tryz.func108 (by kernel_rfl) (by kernel_rfl) (by kernel_rfl) (by kernel_rfl) (by kernel_rfl) (by kernel_rfl) (by kernel_rfl)
def b01 : Hints I where
 tds := fun i => (asc [] i).getD []
 spl := fun i => (asc [] i).getD []
 pre := fun i => (asc [] i).getD []
 join := asc []
 loop := asc []
 keep := asc []
def a2t : Row I := ⟨110, [.d (.int .u8)], [.k (.d (.bool))], a4E⟩
theorem a5r : y0 Go.Proofs.Tryz.prog (a2t) :=
 y9 z7 (y2 (es := []) trivial 3) mixed 9 (fn := Go.Proofs.Tryz.f110) (cd := j7 Go.Proofs.Tryz.f110) (H := b01) (rl := [.tmp 2]) Go.Proofs.Tryz.func110 (by kernel_rfl) (by kernel_rfl) (by kernel_rfl) (by kernel_rfl) (by kernel_rfl) (by kernel_rfl) (by kernel_rfl)
def a7A : Hints I where
 tds := fun i => (asc [] i).getD []
 spl := fun i => (asc [] i).getD []
 pre := fun i => (asc [] i).getD []
 join := asc []
 loop := asc []
 keep := asc []
def a2x : Row I := ⟨112, [.d (.int .u8)], [.k (.d (.bool))], a4o⟩
theorem a6X : y0 Go.Proofs.Tryz.prog (a2x) :=
 y9 z7 (y2 (es := [j0 tb (a1e), j0 tb (a2v), j0 tb (a2t)]) ⟨z8 z7 a2Y, ⟨z8 z7 a5u, ⟨z8 z7 a5r, trivial⟩⟩⟩ 3) mixed 17 (fn := Go.Proofs.Tryz.f112) (cd := j7 Go.Proofs.Tryz.f112) (H := a7A) (rl := [.tmp 2]) Go.Proofs.Tryz.func112 (by kernel_rfl) (by kernel_rfl) (by kernel_rfl) (by kernel_rfl) (by kernel_rfl) (by kernel_rfl) (by kernel_rfl)
def a8a : Hints I where
 tds := fun i => (asc [] i).getD []
 spl := fun i => (asc [] i).getD []
 pre := fun i => (asc [] i).getD []
 join := asc []
 loop := asc []
 keep := asc []
def a1E : Row I := ⟨79, [.d (.str)], [.k (.d (.bool))], a2Z⟩
theorem a3Q : y0 Go.Proofs.Tryz.prog (a1E) :=
 y9 z7 (y2 (es := [j0 tb (a22), j0 tb (a2v), j0 tb (a2x)]) ⟨z8 z7 a59, ⟨z8 z7 a5u, ⟨z8 z7 a6X, trivial⟩⟩⟩ 3) mixed 5 (fn := Go.Proofs.Tryz.f79) (cd := j7 Go.Proofs.Tryz.f79) (H := a8a) (rl := [.tmp 2]) Go.Proofs.Tryz.func79 (by kernel_rfl) (by kernel_rfl) (by kernel_rfl) (by kernel_rfl) (by kernel_rfl) (by kernel_rfl) (by kernel_rfl)
def a7R : Hints I where
 tds := fun i => (asc [] i).getD []
 spl := fun i => (asc [] i).getD []
 pre := fun i => (asc [] i).getD []
 join := asc []
 loop := asc [(58, ⟨261140, [], [], [(10, .k (.d (.int .i64)))], [((.exit 0), []), (.ret, [(2, .k (.d (.bool)))])], bnd tb (.slot 9) 1⟩)]
 keep := asc []
def a3a : Row I := ⟨145, [.d (.sl 9)], [.k (.d (.bool))], a4Y⟩
theorem a7t : y0 Go.Proofs.Tryz.prog (a3a) :=
 y9 z7 (y2 (es := [j0 tb (a1L), j0 tb (a0R), j0 tb (a1E)]) ⟨z8 z7 a5d, ⟨z8 z7 a2d, ⟨z8 z7 a3Q, trivial⟩⟩⟩ 3) mixed 18 (fn := Go.Proofs.Tryz.f145) (cd := j7 Go.Proofs.Tryz.f145) (H := a7R) (rl := [.tmp 2]) Go.Proofs.Tryz.func145 (by kernel_rfl) (by kernel_rfl) (by kernel_rfl) (by kernel_rfl) (by kernel_rfl) (by kernel_rfl) (by kernel_rfl)
def a9B : Hints I where
 tds := fun i => (asc [] i).getD []
 spl := fun i => (asc [] i).getD []
 pre := fun i => (asc [] i).getD []
 join := asc []
 loop := asc []
 keep := asc []
def a4p : Row I := ⟨109, [.d (.int .u8)], [.k (.d (.bool))], a68⟩
theorem a87 : y0 Go.Proofs.Tryz.prog (a4p) :=
 y9 z7 (y2 (es := [j0 tb (a1e), j0 tb (a2t)]) ⟨z8 z7 a2Y, ⟨z8 z7 a5r, trivial⟩⟩ 3) mixed 13 (fn := Go.Proofs.Tryz.f109) (cd := j7 Go.Proofs.Tryz.f109) (H := a9B) (rl := [.tmp 2]) Go.Proofs.Tryz.func109 (by kernel_rfl) (by kernel_rfl) (by kernel_rfl) (by kernel_rfl) (by kernel_rfl) (by kernel_rfl) (by kernel_rfl)
def b1A : Hints I where
 tds := fun i => (asc [] i).getD []
 spl := fun i => (asc [] i).getD []
 pre := fun i => (asc [] i).getD []
 join := asc []
 loop := asc []
 keep := asc []
def a1G : Row I := ⟨78, [.d (.str)], [.k (.d (.bool))], a3v⟩
theorem a3r : y0 Go.Proofs.Tryz.prog (a1G) :=
 y9 z7 (y2 (es := [j0 tb (a22), j0 tb (a1e), j0 tb (a4p)]) ⟨z8 z7 a59, ⟨z8 z7 a2Y, ⟨z8 z7 a87, trivial⟩⟩⟩ 3) mixed 5 (fn := Go.Proofs.Tryz.f78) (cd := j7 Go.Proofs.Tryz.f78) (H := b1A) (rl := [.tmp 2]) Go.Proofs.Tryz.func78 (by kernel_rfl) (by kernel_rfl) (by kernel_rfl) (by kernel_rfl) (by kernel_rfl) (by kernel_rfl) (by kernel_rfl)
def a43 : Hints I where
 tds := fun i => (asc [(4, [[], [], [], [2], [1, 2, 3], [1, 2, 3, 4], [], [], [6, 7], [6, 7, 8], [0, 1, 2, 3, 4, 5, 6, 7, 8, 9], [0, 1, 2, 3, 4, 5, 6, 7, 8, 9, 10]])] i).getD []
 spl := fun i => (asc [] i).getD []
 pre := fun i => (asc [] i).getD []
 join := asc []
 loop := asc [(26, ⟨16777200, [], [], [(5, .k (.d (.int .i64)))], [((.exit 0), []), (.ret, [(4, .k (.d (.bool)))])], bnd tb (.len (.slot 0)) 1⟩)]
 keep := asc []
def a1v : Row I := ⟨159, [.d (.sl 123), .fn [.dat 123, .dat 123] [.k (.d (.int .i64))]], [.k (.d (.bool))], a2q⟩
theorem a4K : y0 Go.Proofs.Tryz.prog (a1v) :=
 y9 z7 (y2 (es := []) trivial 3) mixed 24 (fn := Go.Proofs.Tryz.f159) (cd := j7 Go.Proofs.Tryz.f159) (H := a43) (rl := [.tmp 4]) Go.Proofs.Tryz.func159 (by kernel_rfl) (by kernel_rfl) (by kernel_rfl) (by kernel_rfl) (by kernel_rfl) (by kernel_rfl) (by kernel_rfl)
def b04 : Hints I where
 tds := fun i => (asc [] i).getD []
 spl := fun i => (asc [] i).getD []
 pre := fun i => (asc [] i).getD []
 join := asc []
 loop := asc []
 keep := asc []
def a41 : Row I := ⟨156, [.d (.int .i64)], [.k (.d (.bool))], a4O⟩
theorem a92 : y0 Go.Proofs.Tryz.prog (a41) :=
 y9 z7 (y2 (es := []) trivial 3) mixed 6 (fn := Go.Proofs.Tryz.f156) (cd := j7 Go.Proofs.Tryz.f156) (H := b04) (rl := [.tmp 2]) Go.Proofs.Tryz.func156 (by kernel_rfl) (by kernel_rfl) (by kernel_rfl) (by kernel_rfl) (by kernel_rfl) (by kernel_rfl) (by kernel_rfl)
def a9c : Hints I where
 tds := fun i => (asc [] i).getD []
 spl := fun i => (asc [] i).getD []
 pre := fun i => (asc [] i).getD []
 join := asc []
 loop := asc []
 keep := asc []
def J6 : Row I := ⟨142, [.d (.int .i64), .d (.int .i64)], [.k (.d (.int .i64))], X2⟩
theorem W0 : y0 Go.Proofs.Tryz.prog (J6) :=
 y9 z7 (y2 (es := [j0 tb (a41)]) ⟨z8 z7 a92, trivial⟩ 3) mixed 20 (fn := Go.Proofs.Tryz.f142) (cd := j7 Go.Proofs.Tryz.f142) (H := a9c) (rl := [.tmp 4]) Go.Proofs.Tryz.func142 (by kernel_rfl) (by kernel_rfl) (by kernel_rfl) (by kernel_rfl) (by kernel_rfl) (by kernel_rfl) (by kernel_rfl)
def a70 : Hints I where
 tds := fun i => (asc [] i).getD []
 spl := fun i => (asc [] i).getD []
 pre := fun i => (asc [] i).getD []
 join := asc []
 loop := asc []
 keep := asc []
def a0l : Row I := ⟨114, [.d (.dat 123), .d (.dat 123)], [.k (.d (.int .i64))], a1c⟩
theorem a1A : y0 Go.Proofs.Tryz.prog (a0l) :=
 y9 z7 (y2 (es := [j0 tb (J6), j0 tb (a0R)]) ⟨z8 z7 W0, ⟨z8 z7 a2d, trivial⟩⟩ 3) mixed 19 (fn := Go.Proofs.Tryz.f114) (cd := j7 Go.Proofs.Tryz.f114) (H := a70) (rl := [.tmp 4]) Go.Proofs.Tryz.func114 (by kernel_rfl) (by kernel_rfl) (by kernel_rfl) (by kernel_rfl) (by kernel_rfl) (by kernel_rfl) (by kernel_rfl)
def a9y : Hints I where
 tds := fun i => (asc [] i).getD []
 spl := fun i => (asc [] i).getD []
 pre := fun i => (asc [] i).getD []
 join := asc []
 loop := asc []
 keep := asc []
def a10 : Row I := ⟨113, [.d (.dat 123)], [.k (.d (.bool))], a3U⟩
theorem a40 : y0 Go.Proofs.Tryz.prog (a10) :=
 y9 z7 (y2 (es := [j0 tb (a1G)]) ⟨z8 z7 a3r, trivial⟩ 3) mixed 16 (fn := Go.Proofs.Tryz.f113) (cd := j7 Go.Proofs.Tryz.f113) (H := a9y) (rl := [.tmp 2]) Go.Proofs.Tryz.func113 (by kernel_rfl) (by kernel_rfl) (by kernel_rfl) (by kernel_rfl) (by kernel_rfl) (by kernel_rfl) (by kernel_rfl)
def a9W : Hints I where
 tds := fun i => (asc [] i).getD []
 spl := fun i => (asc [] i).getD []
 pre := fun i => (asc [] i).getD []
 join := asc []
 loop := asc [(58, ⟨534773780, [], [], [(21, .k (.d (.int .i64)))], [((.exit 0), []), (.ret, [(2, .k (.d (.bool)))])], bnd tb (.slot 20) 1⟩)]
 keep := asc []
def a4D : Row I := ⟨146, [.d (.dat 51)], [.k (.d (.bool))], a6G⟩
theorem a9a : y0 Go.Proofs.Tryz.prog (a4D) :=
 y9 z7 (y2 (es := [j0 tb (a1v), j0 tb (a0l), j0 tb (a10)]) ⟨z8 z7 a4K, ⟨z8 z7 a1A, ⟨z8 z7 a40, trivial⟩⟩⟩ 3) mixed 29 (fn := Go.Proofs.Tryz.f146) (cd := j7 Go.Proofs.Tryz.f146) (H := a9W) (rl := [.tmp 2]) Go.Proofs.Tryz.func146 (by kernel_rfl) (by kernel_rfl) (by kernel_rfl) (by kernel_rfl) (by kernel_rfl) (by kernel_rfl) (by kernel_rfl)
def a4q : Hints I where
 tds := fun i => (asc [(4, [[], [], [], [2], [1, 2, 3], [1, 2, 3, 4], [], [], [6, 7], [6, 7, 8], [0, 1, 2, 3, 4, 5, 6, 7, 8, 9], [0, 1, 2, 3, 4, 5, 6, 7, 8, 9, 10]])] i).getD []
 spl := fun i => (asc [] i).getD []
 pre := fun i => (asc [] i).getD []
 join := asc []
 loop := asc [(26, ⟨16777200, [], [], [(5, .k (.d (.int .i64)))], [((.exit 0), []), (.ret, [(4, .k (.d (.bool)))])], bnd tb (.len (.slot 0)) 1⟩)]
 keep := asc []
def a09 : Row I := ⟨160, [.d (.sl 101), .fn [.dat 101, .dat 101] [.k (.d (.int .i64))]], [.k (.d (.bool))], a1V⟩
theorem a33 : y0 Go.Proofs.Tryz.prog (a09) :=
 y9 z7 (y2 (es := []) trivial 3) mixed 24 (fn := Go.Proofs.Tryz.f160) (cd := j7 Go.Proofs.Tryz.f160) (H := a4q) (rl := [.tmp 4]) Go.Proofs.Tryz.func160 (by kernel_rfl) (by kernel_rfl) (by kernel_rfl) (by kernel_rfl) (by kernel_rfl) (by kernel_rfl) (by kernel_rfl)
def a3C : Hints I where
 tds := fun i => (asc [(7, [[], [], [], [1, 2], [1, 2, 3], [], [], [5, 6], [5, 6, 7], [0, 1, 2, 3, 4, 5, 6, 7, 8], [0, 1, 2, 3, 4, 5, 6, 7, 8, 9]])] i).getD []
 spl := fun i => (asc [] i).getD []
 pre := fun i => (asc [] i).getD []
 join := asc []
 loop := asc [(58, ⟨137437905728, [], [], [(20, .k (.d (.int .i64)))], [((.exit 0), []), (.ret, [(6, .k (.d (.int .i64)))])], bnd tb (.slot 19) 1⟩)]
 keep := asc []
def a0L : Row I := ⟨184, [.d (.sl 51), .d (.sl 51), .fn [.dat 51, .dat 51] [.k (.d (.int .i64))]], [.k (.d (.int .i64))], a1l⟩
theorem a3g : y0 Go.Proofs.Tryz.prog (a0L) :=
 y9 z7 (y2 (es := [j0 tb (J6)]) ⟨z8 z7 W0, trivial⟩ 3) mixed 37 (fn := Go.Proofs.Tryz.f184) (cd := j7 Go.Proofs.Tryz.f184) (H := a3C) (rl := [.tmp 6]) Go.Proofs.Tryz.func184 (by kernel_rfl) (by kernel_rfl) (by kernel_rfl) (by kernel_rfl) (by kernel_rfl) (by kernel_rfl) (by kernel_rfl)
def a9i : Hints I where
 tds := fun i => (asc [] i).getD []
 spl := fun i => (asc [] i).getD []
 pre := fun i => (asc [] i).getD []
 join := asc []
 loop := asc []
 keep := asc []
def a3T : Row I := ⟨191, [.d (.int .i64)], [.k (.d (.bool))], a3l⟩
theorem a8A : y0 Go.Proofs.Tryz.prog (a3T) :=
 y9 z7 (y2 (es := []) trivial 3) mixed 6 (fn := Go.Proofs.Tryz.f191) (cd := j7 Go.Proofs.Tryz.f191) (H := a9i) (rl := [.tmp 2]) Go.Proofs.Tryz.func191 (by kernel_rfl) (by kernel_rfl) (by kernel_rfl) (by kernel_rfl) (by kernel_rfl) (by kernel_rfl) (by kernel_rfl)
def a7V : Hints I where
 tds := fun i => (asc [] i).getD []
 spl := fun i => (asc [] i).getD []
 pre := fun i => (asc [] i).getD []
 join := asc []
 loop := asc []
 keep := asc []
def a3b : Row I := ⟨185, [.d (.int .i64), .d (.int .i64)], [.k (.d (.int .i64))], a4X⟩
theorem a7q : y0 Go.Proofs.Tryz.prog (a3b) :=
 y9 z7 (y2 (es := [j0 tb (a3T)]) ⟨z8 z7 a8A, trivial⟩ 3) mixed 20 (fn := Go.Proofs.Tryz.f185) (cd := j7 Go.Proofs.Tryz.f185) (H := a7V) (rl := [.tmp 4]) Go.Proofs.Tryz.func185 (by kernel_rfl) (by kernel_rfl) (by kernel_rfl) (by kernel_rfl) (by kernel_rfl) (by kernel_rfl) (by kernel_rfl)
def a4c : Hints I where
 tds := fun i => (asc [(7, [[], [], [], [1, 2], [1, 2, 3], [], [], [5, 6], [5, 6, 7], [0, 1, 2, 3, 4, 5, 6, 7, 8], [0, 1, 2, 3, 4, 5, 6, 7, 8, 9]])] i).getD []
 spl := fun i => (asc [] i).getD []
 pre := fun i => (asc [] i).getD []
 join := asc []
 loop := asc [(58, ⟨137437905728, [], [], [(20, .k (.d (.int .i64)))], [((.exit 0), []), (.ret, [(6, .k (.d (.int .i64)))])], bnd tb (.slot 19) 1⟩)]
 keep := asc []
def a04 : Row I := ⟨186, [.d (.sl 123), .d (.sl 123), .fn [.dat 123, .dat 123] [.k (.d (.int .i64))]], [.k (.d (.int .i64))], a1H⟩
theorem a3K : y0 Go.Proofs.Tryz.prog (a04) :=
 y9 z7 (y2 (es := [j0 tb (J6)]) ⟨z8 z7 W0, trivial⟩ 3) mixed 37 (fn := Go.Proofs.Tryz.f186) (cd := j7 Go.Proofs.Tryz.f186) (H := a4c) (rl := [.tmp 6]) Go.Proofs.Tryz.func186 (by kernel_rfl) (by kernel_rfl) (by kernel_rfl) (by kernel_rfl) (by kernel_rfl) (by kernel_rfl) (by kernel_rfl)
def a3E : Hints I where
 tds := fun i => (asc [(7, [[], [], [], [1, 2], [1, 2, 3], [], [], [5, 6], [5, 6, 7], [0, 1, 2, 3, 4, 5, 6, 7, 8], [0, 1, 2, 3, 4, 5, 6, 7, 8, 9]])] i).getD []
 spl := fun i => (asc [] i).getD []
 pre := fun i => (asc [] i).getD []
 join := asc []
 loop := asc [(58, ⟨137437905728, [], [], [(20, .k (.d (.int .i64)))], [((.exit 0), []), (.ret, [(6, .k (.d (.int .i64)))])], bnd tb (.slot 19) 1⟩)]
 keep := asc []
def a0F : Row I := ⟨187, [.d (.sl 101), .d (.sl 101), .fn [.dat 101, .dat 101] [.k (.d (.int .i64))]], [.k (.d (.int .i64))], a1o⟩
theorem a3h : y0 Go.Proofs.Tryz.prog (a0F) :=
 y9 z7 (y2 (es := [j0 tb (J6)]) ⟨z8 z7 W0, trivial⟩ 3) mixed 37 (fn := Go.Proofs.Tryz.f187) (cd := j7 Go.Proofs.Tryz.f187) (H := a3E) (rl := [.tmp 6]) Go.Proofs.Tryz.func187 (by kernel_rfl) (by kernel_rfl) (by kernel_rfl) (by kernel_rfl) (by kernel_rfl) (by kernel_rfl) (by kernel_rfl)
def a4u : Hints I where
 tds := fun i => (asc [(7, [[], [], [], [1, 2], [1, 2, 3], [], [], [5, 6], [5, 6, 7], [0, 1, 2, 3, 4, 5, 6, 7, 8], [0, 1, 2, 3, 4, 5, 6, 7, 8, 9]])] i).getD []
 spl := fun i => (asc [] i).getD []
 pre := fun i => (asc [] i).getD []
 join := asc []
 loop := asc [(58, ⟨137437905728, [], [], [(20, .k (.d (.int .i64)))], [((.exit 0), []), (.ret, [(6, .k (.d (.int .i64)))])], bnd tb (.slot 19) 1⟩)]
 keep := asc []
def a1a : Row I := ⟨188, [.d (.sl 9), .d (.sl 9), .fn [.str, .str] [.k (.d (.int .i64))]], [.k (.d (.int .i64))], a1W⟩
theorem a39 : y0 Go.Proofs.Tryz.prog (a1a) :=
 y9 z7 (y2 (es := [j0 tb (J6)]) ⟨z8 z7 W0, trivial⟩ 3) mixed 37 (fn := Go.Proofs.Tryz.f188) (cd := j7 Go.Proofs.Tryz.f188) (H := a4u) (rl := [.tmp 6]) Go.Proofs.Tryz.func188 (by kernel_rfl) (by kernel_rfl) (by kernel_rfl) (by kernel_rfl) (by kernel_rfl) (by kernel_rfl) (by kernel_rfl)
def b0W (_ : Nat) : Hints I where
 tds := fun i => (asc [] i).getD []
 spl := fun i => (asc [] i).getD []
 pre := fun i => (asc [] i).getD []
 join := asc []
 loop := asc []
 keep := asc []
def Q0 (n : Nat) : Row I := ⟨177, [.d (.dat 51), .d (.dat 51)], [.k (.d (.int .i64))], a7L n⟩
def a6C (_ : Nat) : Hints I where
 tds := fun i => (asc [] i).getD []
 spl := fun i => (asc [] i).getD []
 pre := fun i => (asc [] i).getD []
 join := asc []
 loop := asc []
 keep := asc []
def Y0 (n : Nat) : Row I := ⟨161, [.d (.dat 101), .d (.dat 101)], [.k (.d (.int .i64))], a3o n⟩
def a6T (_ : Nat) : Hints I where
 tds := fun i => (asc [] i).getD []
 spl := fun i => (asc [] i).getD []
 pre := fun i => (asc [] i).getD []
 join := asc []
 loop := asc []
 keep := asc []
def Y7 (n : Nat) : Row I := ⟨176, [.d (.sl 51), .d (.sl 51)], [.k (.d (.int .i64))], a7Y n⟩
theorem a9k (n : Nat) (_ : y0 Go.Proofs.Tryz.prog (Q0 n)) (h_value_compareEntries : y0 Go.Proofs.Tryz.prog (Y0 n)) (h_value_compareValues : y0 Go.Proofs.Tryz.prog (Y7 n)) : y0 Go.Proofs.Tryz.prog (Q0 (n + 1)) :=
 y9 z7 (y2 (es := [j0 tb (J6), j0 tb (a3b), j0 tb (a0R), j0 tb (a04), j0 tb (a0l), j0 tb (Y7 n), j0 tb (a0F), j0 tb (Y0 n), j0 tb (a1a)]) ⟨z8 z7 W0, ⟨z8 z7 a7q, ⟨z8 z7 a2d, ⟨z8 z7 a3K, ⟨z8 z7 a1A, ⟨z8 z7 h_value_compareValues, ⟨z8 z7 a3h, ⟨z8 z7 h_value_compareEntries, ⟨z8 z7 a39, trivial⟩⟩⟩⟩⟩⟩⟩⟩⟩ 3) mixed 64 (fn := Go.Proofs.Tryz.f177) (cd := j7 Go.Proofs.Tryz.f177) (H := (b0W n)) (rl := [.tmp 4]) Go.Proofs.Tryz.func177 (by kernel_rfl) (by kernel_rfl) (by kernel_rfl) (by kernel_rfl) (by kernel_rfl) (by kernel_rfl) (by kernel_rfl)
theorem a5w (n : Nat) (h_value_Compare : y0 Go.Proofs.Tryz.prog (Q0 n)) (_ : y0 Go.Proofs.Tryz.prog (Y0 n)) (h_value_compareValues : y0 Go.Proofs.Tryz.prog (Y7 n)) : y0 Go.Proofs.Tryz.prog (Y0 (n + 1)) :=
 y9 z7 (y2 (es := [j0 tb (Y7 n), j0 tb (Q0 n)]) ⟨z8 z7 h_value_compareValues, ⟨z8 z7 h_value_Compare, trivial⟩⟩ 3) mixed 26 (fn := Go.Proofs.Tryz.f161) (cd := j7 Go.Proofs.Tryz.f161) (H := (a6C n)) (rl := [.tmp 4]) Go.Proofs.Tryz.func161 (by kernel_rfl) (by kernel_rfl) (by kernel_rfl) (by kernel_rfl) (by kernel_rfl) (by kernel_rfl) (by kernel_rfl)
theorem a5T (n : Nat) (h_value_Compare : y0 Go.Proofs.Tryz.prog (Q0 n)) (_ : y0 Go.Proofs.Tryz.prog (Y0 n)) (_ : y0 Go.Proofs.Tryz.prog (Y7 n)) : y0 Go.Proofs.Tryz.prog (Y7 (n + 1)) :=
 y9 z7 (y2 (es := [j0 tb (a0L), j0 tb (Q0 n)]) ⟨z8 z7 a3g, ⟨z8 z7 h_value_Compare, trivial⟩⟩ 3) mixed 8 (fn := Go.Proofs.Tryz.f176) (cd := j7 Go.Proofs.Tryz.f176) (H := (a6T n)) (rl := [.tmp 4]) Go.Proofs.Tryz.func176 (by kernel_rfl) (by kernel_rfl) (by kernel_rfl) (by kernel_rfl) (by kernel_rfl) (by kernel_rfl) (by kernel_rfl)
theorem a1D : ∀ n : Nat, y0 Go.Proofs.Tryz.prog (Q0 n) /\ y0 Go.Proofs.Tryz.prog (Y0 n) /\ y0 Go.Proofs.Tryz.prog (Y7 n)
 | 0 => ⟨V6 (by kernel_rfl), V6 (by kernel_rfl), V6 (by kernel_rfl)⟩
 | n + 1 => by
   obtain ⟨h0, h1, h2⟩ := a1D n
   exact ⟨a9k n h0 h1 h2, a5w n h0 h1 h2, a5T n h0 h1 h2⟩
theorem b0a (n : Nat) : y0 Go.Proofs.Tryz.prog (Q0 n) := (a1D n).1
theorem a5P (n : Nat) : y0 Go.Proofs.Tryz.prog (Y0 n) := (a1D n).2.1
def b2n (_ : Nat) : Hints I where
 tds := fun i => (asc [] i).getD []
 spl := fun i => (asc [] i).getD []
 pre := fun i => (asc [] i).getD []
 join := asc []
 loop := asc []
 keep := asc []
def a5Z (n : Nat) : Row I := ⟨189, [.d (.dat 51), .d (.dat 51)], [.k (.d (.bool))], a9o n⟩
theorem b1G (n : Nat) : y0 Go.Proofs.Tryz.prog (a5Z n) :=
 y9 z7 (y2 (es := [j0 tb (Q0 n)]) ⟨z8 z7 (b0a n), trivial⟩ 3) mixed 9 (fn := Go.Proofs.Tryz.f189) (cd := j7 Go.Proofs.Tryz.f189) (H := (b2n n)) (rl := [.tmp 4]) Go.Proofs.Tryz.func189 (by kernel_rfl) (by kernel_rfl) (by kernel_rfl) (by kernel_rfl) (by kernel_rfl) (by kernel_rfl) (by kernel_rfl)
def b1p (_ : Nat) : Hints I where
 tds := fun i => (asc [] i).getD []
 spl := fun i => (asc [] i).getD []
 pre := fun i => (asc [] i).getD []
 join := asc []
 loop := asc []
 keep := asc []
def a5m (n : Nat) : Row I := ⟨178, [.d (.dat 51)], [.k (.d (.bool))], a8f n⟩
theorem b0G (n : Nat) : y0 Go.Proofs.Tryz.prog (a5m n) :=
 y9 z7 (y2 (es := [j0 tb (a5Z n)]) ⟨z8 z7 (b1G n), trivial⟩ 3) mixed 6 (fn := Go.Proofs.Tryz.f178) (cd := j7 Go.Proofs.Tryz.f178) (H := (b1p n)) (rl := [.tmp 2]) Go.Proofs.Tryz.func178 (by kernel_rfl) (by kernel_rfl) (by kernel_rfl) (by kernel_rfl) (by kernel_rfl) (by kernel_rfl) (by kernel_rfl)
def a8F (_ : Nat) : Hints I where
 tds := fun i => (asc [] i).getD []
 spl := fun i => (asc [] i).getD []
 pre := fun i => (asc [] i).getD []
 join := asc []
 loop := asc []
 keep := asc []
def a3F (n : Nat) : Row I := ⟨162, [.d (.dat 101), .d (.int .i64)], [.k (.d (.bool))], a5K n⟩
theorem a7U (n : Nat) : y0 Go.Proofs.Tryz.prog (a3F n) :=
 y9 z7 (y2 (es := [j0 tb (a5m n)]) ⟨z8 z7 (b0G n), trivial⟩ 3) mixed 20 (fn := Go.Proofs.Tryz.f162) (cd := j7 Go.Proofs.Tryz.f162) (H := (a8F n)) (rl := [.tmp 4]) Go.Proofs.Tryz.func162 (by kernel_rfl) (by kernel_rfl) (by kernel_rfl) (by kernel_rfl) (by kernel_rfl) (by kernel_rfl) (by kernel_rfl)
def a6P (_ : Nat) : Hints I where
 tds := fun i => (asc [] i).getD []
 spl := fun i => (asc [] i).getD []
 pre := fun i => (asc [] i).getD []
 join := asc []
 loop := asc [(58, ⟨4290773012, [], [], [(22, .k (.d (.int .i64)))], [((.exit 0), []), (.ret, [(2, .k (.d (.bool)))])], bnd tb (.slot 21) 1⟩)]
 keep := asc []
def a2n (n : Nat) : Row I := ⟨147, [.d (.dat 51)], [.k (.d (.bool))], a3M n⟩
theorem a6A (n : Nat) : y0 Go.Proofs.Tryz.prog (a2n n) :=
 y9 z7 (y2 (es := [j0 tb (a09), j0 tb (Y0 n), j0 tb (a3F n)]) ⟨z8 z7 a33, ⟨z8 z7 (a5P n), ⟨z8 z7 (a7U n), trivial⟩⟩⟩ 3) mixed 32 (fn := Go.Proofs.Tryz.f147) (cd := j7 Go.Proofs.Tryz.f147) (H := (a6P n)) (rl := [.tmp 2]) Go.Proofs.Tryz.func147 (by kernel_rfl) (by kernel_rfl) (by kernel_rfl) (by kernel_rfl) (by kernel_rfl) (by kernel_rfl) (by kernel_rfl)
def a84 (_ : Nat) : Hints I where
 tds := fun i => (asc [] i).getD []
 spl := fun i => (asc [] i).getD []
 pre := fun i => (asc [] i).getD []
 join := asc []
 loop := asc []
 keep := asc []
def a3O (n : Nat) : Row I := ⟨115, [.d (.dat 51)], [.k (.d (.bool))], a5W n⟩
theorem a8g (n : Nat) : y0 Go.Proofs.Tryz.prog (a3O n) :=
 y9 z7 (y2 (es := [j0 tb (a61), j0 tb (a3a), j0 tb (a1G), j0 tb (a4D), j0 tb (a2n n)]) ⟨z8 z7 b2s, ⟨z8 z7 a7t, ⟨z8 z7 a3r, ⟨z8 z7 a9a, ⟨z8 z7 (a6A n), trivial⟩⟩⟩⟩⟩ 3) mixed 124 (fn := Go.Proofs.Tryz.f115) (cd := j7 Go.Proofs.Tryz.f115) (H := (a84 n)) (rl := [.tmp 2]) Go.Proofs.Tryz.func115 (by kernel_rfl) (by kernel_rfl) (by kernel_rfl) (by kernel_rfl) (by kernel_rfl) (by kernel_rfl) (by kernel_rfl)
def b2o : Hints I where
 tds := fun i => (asc [] i).getD []
 spl := fun i => (asc [] i).getD []
 pre := fun i => (asc [] i).getD []
 join := asc []
 loop := asc [(58, ⟨536866856, [], [], [(3, .k (.row 51 false)), (12, .k (.d (.int .i64)))], [((.exit 0), [(3, .k (.row 51 false))])], bnd tb (.slot 11) 1⟩)]
 keep := asc []
def a50 : Row I := ⟨116, [.d (.dat 51)], [.k (.row 51 false)], a9p⟩
theorem b1K : y0 Go.Proofs.Tryz.prog (a50) :=
 y9 z7 (y2 (es := [j0 tb b4q]) ⟨z8 z7 b8x, trivial⟩ 3) mixed 30 (fn := Go.Proofs.Tryz.f116) (cd := j7 Go.Proofs.Tryz.f116) (H := b2o) (rl := [.tmp 2]) Go.Proofs.Tryz.func116 (by kernel_rfl) (by kernel_rfl) (by kernel_rfl) (by kernel_rfl) (by kernel_rfl) (by kernel_rfl) (by kernel_rfl)
def a9j (_ : Nat) : Hints I where
 tds := fun i => (asc [] i).getD []
 spl := fun i => (asc [] i).getD []
 pre := fun i => (asc [] i).getD []
 join := asc []
 loop := asc [(58, ⟨522260, [9], [], [(11, .k (.d (.int .i64)))], [((.exit 0), []), (.ret, [(2, .k (.d (.bool)))])], bnd tb (.slot 10) 1⟩)]
 keep := asc []
def a0c (n : Nat) : Row I := ⟨84, [.d (.dat 51)], [.k (.d (.bool))], a3u n⟩
theorem a7X (n : Nat) (h_value_validTree : y0 Go.Proofs.Tryz.prog (a0c n)) : y0 Go.Proofs.Tryz.prog (a0c (n + 1)) :=
 y9 z7 (y2 (es := [j0 tb (a3O n), j0 tb (a50), j0 tb (a0c n)]) ⟨z8 z7 (a8g n), ⟨z8 z7 b1K, ⟨z8 z7 h_value_validTree, trivial⟩⟩⟩ 3) mixed 19 (fn := Go.Proofs.Tryz.f84) (cd := j7 Go.Proofs.Tryz.f84) (H := (a9j n)) (rl := [.tmp 2]) Go.Proofs.Tryz.func84 (by kernel_rfl) (by kernel_rfl) (by kernel_rfl) (by kernel_rfl) (by kernel_rfl) (by kernel_rfl) (by kernel_rfl)
theorem a4v : ∀ n : Nat, y0 Go.Proofs.Tryz.prog (a0c n)
 | 0 => V6 (by kernel_rfl)
 | n + 1 => a7X n (a4v n)
def a9M (_ : Nat) : Hints I where
 tds := fun i => (asc [] i).getD []
 spl := fun i => (asc [] i).getD []
 pre := fun i => (asc [] i).getD []
 join := asc []
 loop := asc []
 keep := asc []
def a4s (n : Nat) : Row I := ⟨50, [.d (.dat 51)], [.k (.d (.int .i64))], a64 n⟩
theorem a9b (n : Nat) : y0 Go.Proofs.Tryz.prog (a4s n) :=
 y9 z7 (y2 (es := [j0 tb (a0c n)]) ⟨z8 z7 (a4v n), trivial⟩ 3) mixed 6 (fn := Go.Proofs.Tryz.f50) (cd := j7 Go.Proofs.Tryz.f50) (H := (a9M n)) (rl := [.tmp 2]) Go.Proofs.Tryz.func50 (by kernel_rfl) (by kernel_rfl) (by kernel_rfl) (by kernel_rfl) (by kernel_rfl) (by kernel_rfl) (by kernel_rfl)
def a7c : Hints I where
 tds := fun i => (asc [] i).getD []
 spl := fun i => (asc [] i).getD []
 pre := fun i => (asc [] i).getD []
 join := asc [(29, ⟨16776824, [], [], [(.normal, [(3, .k (.d (.bool))), (4, .k (.d (.bool))), (5, .k (.d (.bool))), (6, .k (.d (.bool)))])]⟩),
  (941, ⟨26624, [], [], [(.normal, [(11, .k (.d (.bool)))])]⟩),
  (3773, ⟨4096000, [], [], [(.normal, [(15, .k (.d (.bool)))])]⟩)]
 loop := asc []
 keep := asc []
def a2L : Row I := ⟨46, [.d (.dat 78)], [.k (.d (.bool))], a4B⟩
theorem a63 : y0 Go.Proofs.Tryz.prog (a2L) :=
 y9 z7 (y2 (es := []) trivial 3) mixed 67 (fn := Go.Proofs.Tryz.f46) (cd := j7 Go.Proofs.Tryz.f46) (H := a7c) (rl := [.tmp 2]) Go.Proofs.Tryz.func46 (by kernel_rfl) (by kernel_rfl) (by kernel_rfl) (by kernel_rfl) (by kernel_rfl) (by kernel_rfl) (by kernel_rfl)
def a6k : Hints I where
 tds := fun i => (asc [(4, [[], [0], [0, 1], [0, 1, 2], [0, 1, 2, 3], [0, 1, 2, 3, 4], [0, 1, 2, 3, 4, 5], [0, 1, 2, 3, 4, 5, 6], [0, 1, 2, 3, 4, 5, 6, 7], [0, 1, 2, 3, 4, 5, 6, 7], [0, 1, 2, 3, 4, 5, 6, 7, 9], [0, 1, 2, 3, 4, 5, 6, 7, 8, 9, 10], [0, 1, 2, 3, 4, 5, 6, 7, 8, 9, 10, 11], [0, 1, 2, 3, 4, 5, 6, 7, 8, 9, 10, 11, 12], [0, 1, 2, 3, 4, 5, 6, 7], [0, 1, 2, 3, 4, 5, 6, 7, 14], [0, 1, 2, 3, 4, 5, 6, 7, 8, 9, 10, 11, 12, 13, 14, 15], [0, 1, 2, 3, 4, 5, 6, 7, 8, 9, 10, 11, 12, 13, 14, 15, 16], [0, 1, 2, 3, 4, 5, 6, 7, 8, 9, 10, 11, 12, 13, 14, 15, 16, 17], [0, 1, 2, 3, 4, 5, 6, 7, 8, 9, 10, 11, 12, 13, 14, 15, 16, 17, 18]])] i).getD []
 spl := fun i => (asc [] i).getD []
 pre := fun i => (asc [] i).getD []
 join := asc []
 loop := asc [(26, ⟨8589934492, [], [], [(7, .k (.d (.int .i64)))], [((.exit 0), []), (.ret, [(2, .k (.d (.bool)))])], bnd tb (.slot 6) 1⟩)]
 keep := asc []
def a2a : Row I := ⟨80, [.d (.sl 125)], [.k (.d (.bool))], a3x⟩
theorem a5R : y0 Go.Proofs.Tryz.prog (a2a) :=
 y9 z7 (y2 (es := [j0 tb (a10), j0 tb (a0l)]) ⟨z8 z7 a40, ⟨z8 z7 a1A, trivial⟩⟩ 3) mixed 33 (fn := Go.Proofs.Tryz.f80) (cd := j7 Go.Proofs.Tryz.f80) (H := a6k) (rl := [.tmp 2]) Go.Proofs.Tryz.func80 (by kernel_rfl) (by kernel_rfl) (by kernel_rfl) (by kernel_rfl) (by kernel_rfl) (by kernel_rfl) (by kernel_rfl)
def a7w : Hints I where
 tds := fun i => (asc [] i).getD []
 spl := fun i => (asc [] i).getD []
 pre := fun i => (asc [] i).getD []
 join := asc [(105, ⟨16288, [], [], [(.normal, [(5, .k (.d (.bool)))])]⟩),
  (28311549, ⟨368934881474191032320, [], [], [(.normal, [(66, .k (.d (.bool)))])]⟩)]
 loop := asc []
 keep := asc []
def a2y : Row I := ⟨47, [.d (.dat 78)], [.k (.d (.bool))], a4r⟩
theorem a67 : y0 Go.Proofs.Tryz.prog (a2y) :=
 y9 z7 (y2 (es := [j0 tb (a1G), j0 tb (a1E), j0 tb (a2a)]) ⟨z8 z7 a3r, ⟨z8 z7 a3Q, ⟨z8 z7 a5R, trivial⟩⟩⟩ 3) mixed 79 (fn := Go.Proofs.Tryz.f47) (cd := j7 Go.Proofs.Tryz.f47) (H := a7w) (rl := [.tmp 2]) Go.Proofs.Tryz.func47 (by kernel_rfl) (by kernel_rfl) (by kernel_rfl) (by kernel_rfl) (by kernel_rfl) (by kernel_rfl) (by kernel_rfl)
def a9L : Hints I where
 tds := fun i => (asc [] i).getD []
 spl := fun i => (asc [] i).getD []
 pre := fun i => (asc [] i).getD []
 join := asc []
 loop := asc [(58, ⟨4190248, [], [], [(3, .k (.row 3 false)), (12, .k (.d (.int .i64)))], [((.exit 0), [(3, .k (.row 3 false))])], bnd tb (.slot 11) 1⟩)]
 keep := asc []
def a4y : Row I := ⟨48, [.d (.dat 78)], [.k (.row 3 false)], a6K⟩
theorem a9e : y0 Go.Proofs.Tryz.prog (a4y) :=
 y9 z7 (y2 (es := [j0 tb b0Z]) ⟨z8 z7 b4Y, trivial⟩ 3) mixed 35 (fn := Go.Proofs.Tryz.f48) (cd := j7 Go.Proofs.Tryz.f48) (H := a9L) (rl := [.tmp 2]) Go.Proofs.Tryz.func48 (by kernel_rfl) (by kernel_rfl) (by kernel_rfl) (by kernel_rfl) (by kernel_rfl) (by kernel_rfl) (by kernel_rfl)
def a7u : Hints I where
 tds := fun i => (asc [] i).getD []
 spl := fun i => (asc [] i).getD []
 pre := fun i => (asc [] i).getD []
 join := asc []
 loop := asc []
 keep := asc []
def a2H : Row I := ⟨83, [.d (.int .i64)], [.k (.d (.bool))], a4x⟩
theorem a6J : y0 Go.Proofs.Tryz.prog (a2H) :=
 y9 z7 (y2 (es := []) trivial 3) mixed 13 (fn := Go.Proofs.Tryz.f83) (cd := j7 Go.Proofs.Tryz.f83) (H := a7u) (rl := [.tmp 2]) Go.Proofs.Tryz.func83 (by kernel_rfl) (by kernel_rfl) (by kernel_rfl) (by kernel_rfl) (by kernel_rfl) (by kernel_rfl) (by kernel_rfl)
def a5n (_ : Nat) : Hints I where
 tds := fun i => (asc [] i).getD []
 spl := fun i => (asc [] i).getD []
 pre := fun i => (asc [] i).getD []
 join := asc []
 loop := asc [(122, ⟨140462610448544, [], [(1, .k (.row 3 false))], [(38, .k (.d (.int .i64)))], [((.exit 0), []), (.ret, [(5, .k (.d (.bool)))])], bnd tb (.slot 37) 1⟩)]
 keep := asc []
def Q9 (n : Nat) : Row I := ⟨82, [.d (.int .i64), .var 22 (.k (.row 3 false)) true, .var 45 (.k (.d (.dat 45))) false, .var 74 (.k (.d .any)) false], [.k (.d (.bool))], a07 n⟩
theorem a4J (n : Nat) (h_typeexpr_contractive_1 : a5E Go.Proofs.Tryz.prog (Q9 n) (b0y 74 82 3 [1, 2, 3])) : a5E Go.Proofs.Tryz.prog (Q9 (n + 1)) (b0y 74 82 3 [1, 2, 3]) :=
 b7F z7 (y2 (es := [j0 tb (a2H), b5j tb (Q9 n) (a8S 74 82 3 [1, 2, 3])]) ⟨z8 z7 a6J, ⟨a91 z7 h_typeexpr_contractive_1 (fun _ _ _ _ _ _ _ _ _ hO h hc hv => b0u hO h hc hv), trivial⟩⟩ 3) mixed 50 (s0 := fun a => b7u 74 82 3 3 [1, 2, 3] (a3Y tb 50 [.d (.int .i64), .var 22 (.k (.row 3 false)) true, .var 45 (.k (.d (.dat 45))) false, .var 74 (.k (.d .any)) false] a)) (fn := Go.Proofs.Tryz.f82) (cd := j7 Go.Proofs.Tryz.f82) (H := (a5n n)) (rl := [.tmp 5]) (fun X c σ a vs F h hv hC => b6w rfl rfl rfl h hv hC) Go.Proofs.Tryz.func82 (by kernel_rfl) (by kernel_rfl) (by kernel_rfl) (by kernel_rfl) (by kernel_rfl) (by kernel_rfl) (by kernel_rfl)
theorem a1Q : ∀ n : Nat, a5E Go.Proofs.Tryz.prog (Q9 n) (b0y 74 82 3 [1, 2, 3])
 | 0 => b57 (V6 (by kernel_rfl))
 | n + 1 => a4J n (a1Q n)
def a6v (_ : Nat) : Hints I where
 tds := fun i => (asc [] i).getD []
 spl := fun i => (asc [] i).getD []
 pre := fun i => (asc [] i).getD []
 join := asc []
 loop := asc [(250, ⟨4177956, [], [(3, .k (.row 3 false))], [(14, .k (.d (.int .i64)))], [((.exit 0), []), (.ret, [(2, .k (.d (.bool)))])], bnd tb (.slot 13) 1⟩)]
 keep := asc []
def a1Z (n : Nat) : Row I := ⟨49, [.d (.dat 45)], [.k (.d (.bool))], a3B n⟩
theorem a5Q (n : Nat) : y0 Go.Proofs.Tryz.prog (a1Z n) :=
 y9 z7 (y2 (es := [b5j tb (Q9 n) (a8S 74 82 3 [1, 2, 3])]) ⟨a91 z7 (a1Q n) (fun _ _ _ _ _ _ _ _ _ hO h hc hv => b0u hO h hc hv), trivial⟩ 3) mixed 22 (fn := Go.Proofs.Tryz.f49) (cd := j7 Go.Proofs.Tryz.f49) (H := (a6v n)) (rl := [.tmp 2]) Go.Proofs.Tryz.func49 (by kernel_rfl) (by kernel_rfl) (by kernel_rfl) (by kernel_rfl) (by kernel_rfl) (by kernel_rfl) (by kernel_rfl)
def a6Q (_ : Nat) : Hints I where
 tds := fun i => (asc [] i).getD []
 spl := fun i => (asc [] i).getD []
 pre := fun i => (asc [] i).getD []
 join := asc []
 loop := asc [(58, ⟨2251799811588180, [], [], [(21, .k (.d (.int .i64)))], [((.exit 0), []), (.ret, [(2, .k (.d (.int .i64)))])], bnd tb (.slot 20) 1⟩),
  (29902, ⟨1125831187365956, [34], [], [(36, .k (.d (.int .i64)))], [((.exit 2), []), (.ret, [(2, .k (.d (.int .i64)))])], bnd tb (.slot 35) 1⟩)]
 keep := asc []
def a2p (n : Nat) : Row I := ⟨31, [.d (.dat 45)], [.k (.d (.int .i64))], a3R n⟩
theorem a6y (n : Nat) : y0 Go.Proofs.Tryz.prog (a2p n) :=
 y9 z7 (y2 (es := [j0 tb (a2L), j0 tb (a2y), j0 tb (a4y), j0 tb (a1Z n)]) ⟨z8 z7 a63, ⟨z8 z7 a67, ⟨z8 z7 a9e, ⟨z8 z7 (a5Q n), trivial⟩⟩⟩⟩ 3) mixed 54 (fn := Go.Proofs.Tryz.f31) (cd := j7 Go.Proofs.Tryz.f31) (H := (a6Q n)) (rl := [.tmp 2]) Go.Proofs.Tryz.func31 (by kernel_rfl) (by kernel_rfl) (by kernel_rfl) (by kernel_rfl) (by kernel_rfl) (by kernel_rfl) (by kernel_rfl)
def b2j : Hints I where
 tds := fun i => (asc [(1, [[], [0], [0, 1], [], [3], [0, 1, 2, 3, 4], [0, 1, 2, 3, 4, 5], []])] i).getD []
 spl := fun i => (asc [] i).getD []
 pre := fun i => (asc [] i).getD []
 join := asc []
 loop := asc [(26, ⟨268419152, [12], [], [(14, .k (.d (.int .i64)))], [((.exit 0), []), (.ret, [(4, .k (.d (.bool)))])], bnd tb (.slot 13) 1⟩)]
 keep := asc []
def a54 : Row I := ⟨51, [.d (.dat 45), .d (.dat 36)], [.k (.d (.bool))], a9s⟩
theorem b09 : y0 Go.Proofs.Tryz.prog (a54) :=
 y9 z7 (y2 (es := [j0 tb b0Z]) ⟨z8 z7 b4Y, trivial⟩ 3) mixed 28 (fn := Go.Proofs.Tryz.f51) (cd := j7 Go.Proofs.Tryz.f51) (H := b2j) (rl := [.tmp 4]) Go.Proofs.Tryz.func51 (by kernel_rfl) (by kernel_rfl) (by kernel_rfl) (by kernel_rfl) (by kernel_rfl) (by kernel_rfl) (by kernel_rfl)
def b2k : Hints I where
 tds := fun i => (asc [] i).getD []
 spl := fun i => (asc [] i).getD []
 pre := fun i => (asc [] i).getD []
 join := asc []
 loop := asc []
 keep := asc []
def a52 : Row I := ⟨118, [.d (.int .i64)], [.k (.d (.int .i64))], a9w⟩
theorem b1e : y0 Go.Proofs.Tryz.prog (a52) :=
 y9 z7 (y2 (es := []) trivial 3) mixed 14 (fn := Go.Proofs.Tryz.f118) (cd := j7 Go.Proofs.Tryz.f118) (H := b2k) (rl := [.tmp 2]) Go.Proofs.Tryz.func118 (by kernel_rfl) (by kernel_rfl) (by kernel_rfl) (by kernel_rfl) (by kernel_rfl) (by kernel_rfl) (by kernel_rfl)
def a3p : Hints I where
 tds := fun i => (asc [(4, [[], [], [], [1, 2], [1, 2, 3], [0, 1, 2, 3, 4]])] i).getD []
 spl := fun i => (asc [] i).getD []
 pre := fun i => (asc [] i).getD []
 join := asc []
 loop := asc [(26, ⟨524080, [], [], [(8, .k (.d (.int .i64)))], [((.exit 0), []), (.ret, [(4, .k (.d (.int .i64)))])], bnd tb (.slot 7) 1⟩)]
 keep := asc []
def a0Q : Row I := ⟨163, [.d (.sl 123), .d (.dat 123)], [.k (.d (.int .i64))], a1i⟩
theorem a3i : y0 Go.Proofs.Tryz.prog (a0Q) :=
 y9 z7 (y2 (es := []) trivial 3) mixed 19 (fn := Go.Proofs.Tryz.f163) (cd := j7 Go.Proofs.Tryz.f163) (H := a3p) (rl := [.tmp 4]) Go.Proofs.Tryz.func163 (by kernel_rfl) (by kernel_rfl) (by kernel_rfl) (by kernel_rfl) (by kernel_rfl) (by kernel_rfl) (by kernel_rfl)
def a2F : Hints I where
 tds := fun i => (asc [] i).getD []
 spl := fun i => (asc [] i).getD []
 pre := fun i => (asc [] i).getD []
 join := asc []
 loop := asc []
 keep := asc []
def a0o : Row I := ⟨149, [.d (.sl 123), .d (.dat 123)], [.k (.d (.bool))], a0S⟩
theorem a2u : y0 Go.Proofs.Tryz.prog (a0o) :=
 y9 z7 (y2 (es := [j0 tb (a0Q)]) ⟨z8 z7 a3i, trivial⟩ 3) mixed 9 (fn := Go.Proofs.Tryz.f149) (cd := j7 Go.Proofs.Tryz.f149) (H := a2F) (rl := [.tmp 4]) Go.Proofs.Tryz.func149 (by kernel_rfl) (by kernel_rfl) (by kernel_rfl) (by kernel_rfl) (by kernel_rfl) (by kernel_rfl) (by kernel_rfl)
def b5A : Hints I where
 tds := fun i => (asc [] i).getD []
 spl := fun i => (asc [] i).getD []
 pre := fun i => (asc [] i).getD []
 join := asc []
 loop := asc [(26, ⟨2096208, [], [], [(10, .k (.d (.int .i64)))], [((.exit 0), []), (.ret, [(4, .k (.d (.int .i64)))])], bnd tb (.slot 9) 1⟩)]
 keep := asc []
def a9u : Row I := ⟨150, [.d (.dat 78), .d (.dat 123)], [.k (.d (.int .i64))], b4i⟩
theorem b4Z : y0 Go.Proofs.Tryz.prog (a9u) :=
 y9 z7 (y2 (es := []) trivial 3) mixed 26 (fn := Go.Proofs.Tryz.f150) (cd := j7 Go.Proofs.Tryz.f150) (H := b5A) (rl := [.tmp 4]) Go.Proofs.Tryz.func150 (by kernel_rfl) (by kernel_rfl) (by kernel_rfl) (by kernel_rfl) (by kernel_rfl) (by kernel_rfl) (by kernel_rfl)
def a4b : Hints I where
 tds := fun i => (asc [] i).getD []
 spl := fun i => (asc [] i).getD []
 pre := fun i => (asc [] i).getD []
 join := asc []
 loop := asc [(26, ⟨524080, [], [], [(8, .k (.d (.int .i64)))], [((.exit 0), []), (.ret, [(4, .k (.d (.int .i64)))])], bnd tb (.slot 7) 1⟩)]
 keep := asc []
def a0Y : Row I := ⟨152, [.d (.sl 9), .d (.str)], [.k (.d (.int .i64))], a1M⟩
theorem a3G : y0 Go.Proofs.Tryz.prog (a0Y) :=
 y9 z7 (y2 (es := []) trivial 3) mixed 19 (fn := Go.Proofs.Tryz.f152) (cd := j7 Go.Proofs.Tryz.f152) (H := a4b) (rl := [.tmp 4]) Go.Proofs.Tryz.func152 (by kernel_rfl) (by kernel_rfl) (by kernel_rfl) (by kernel_rfl) (by kernel_rfl) (by kernel_rfl) (by kernel_rfl)
def a3f : Hints I where
 tds := fun i => (asc [] i).getD []
 spl := fun i => (asc [] i).getD []
 pre := fun i => (asc [] i).getD []
 join := asc []
 loop := asc []
 keep := asc []
def a0C : Row I := ⟨124, [.d (.sl 9), .d (.str)], [.k (.d (.bool))], a1b⟩
theorem a20 : y0 Go.Proofs.Tryz.prog (a0C) :=
 y9 z7 (y2 (es := [j0 tb (a0Y)]) ⟨z8 z7 a3G, trivial⟩ 3) mixed 9 (fn := Go.Proofs.Tryz.f124) (cd := j7 Go.Proofs.Tryz.f124) (H := a3f) (rl := [.tmp 4]) Go.Proofs.Tryz.func124 (by kernel_rfl) (by kernel_rfl) (by kernel_rfl) (by kernel_rfl) (by kernel_rfl) (by kernel_rfl) (by kernel_rfl)
def b4G (_ : Nat) : Hints I where
 tds := fun i => (asc [(6, [[], [], [], [], [2, 3], [2, 3, 4], [0, 1, 2, 3, 4, 5], [0, 1, 2, 3, 4, 5, 6]])] i).getD []
 spl := fun i => (asc [] i).getD []
 pre := fun i => (asc [] i).getD []
 join := asc []
 loop := asc [(58, ⟨1073676736, [], [], [(16, .k (.d (.int .i64)))], [((.exit 0), []), (.ret, [(6, .k (.d (.bool)))])], bnd tb (.slot 15) 1⟩)]
 keep := asc []
def K1 (n : Nat) : Row I := ⟨119, [.d (.sl 51), .d (.dat 45), .d (.sl 3)], [.k (.d (.bool))], b6W n⟩
def a71 (_ : Nat) : Hints I where
 tds := fun i => (asc [(2, [[], [0], [], [], [3], [], [3, 4, 5], [0, 1, 2, 3, 4, 5, 6], [0, 1, 2, 3, 4, 5, 6, 7], [0, 1, 2, 3, 4, 5, 6, 7, 8], [0, 1, 2, 3, 4, 5, 6, 7, 8, 9], [0, 1, 2, 3, 4, 5, 6, 7, 8, 9, 10], [0, 1, 2, 3, 4, 5, 6, 7, 8, 9, 10, 11], [0, 1, 2, 3, 4, 5, 6, 7, 8, 9, 10, 11, 12], [0, 1, 2, 3, 4, 5, 6, 7, 8, 9, 10, 11, 12, 13], [0, 1, 2, 3, 4, 5, 6, 7, 8, 9, 10, 11, 12, 13, 14], [0, 1, 2, 3, 4, 5, 6, 7, 8, 9, 10, 11, 12, 13], [0, 1, 2, 3, 4, 5, 6, 7, 8, 9, 10, 11, 12, 13], [0, 1, 2, 3, 4, 5, 6, 7, 8, 9, 10, 11, 12, 13, 17], [0, 1, 2, 3, 4, 5, 6, 7, 8, 9, 10, 11, 12, 13], [0, 1, 2, 3, 4, 5, 6, 7, 8, 9, 10, 11, 12, 13, 17, 18, 19], [0, 1, 2, 3, 4, 5, 6, 7, 8, 9, 10, 11, 12, 13, 17, 18, 19, 20], [0, 1, 2, 3, 4, 5, 6, 7, 8, 9, 10, 11, 12, 13, 14, 15, 16, 17, 18, 19, 20, 21], [0, 1, 2, 3, 4, 5, 6, 7, 8, 9, 10, 11, 12, 13, 14, 15, 16, 17, 18, 19, 20, 21, 22], [0, 1, 2, 3, 4, 5, 6, 7, 8, 9, 10, 11, 12, 13, 14, 15, 16, 17, 18, 19, 20, 21, 22, 23], [0, 1, 2, 3, 4, 5, 6, 7, 8, 9, 10, 11, 12, 13, 14, 15, 16, 17, 18, 19, 20, 21, 22, 23, 24]])] i).getD []
 spl := fun i => (asc [] i).getD []
 pre := fun i => (asc [] i).getD []
 join := asc []
 loop := asc []
 keep := asc []
def Z4 (n : Nat) : Row I := ⟨151, [.d (.dat 101), .d (.dat 45), .d (.dat 78)], [.k (.d (.bool))], a9f n⟩
def a8m (_ : Nat) : Hints I where
 tds := fun i => (asc [] i).getD []
 spl := fun i => (asc [] i).getD []
 pre := fun i => (asc [] i).getD []
 join := asc []
 loop := asc [(58, ⟨536346944, [], [], [(19, .k (.d (.int .i64)))], [((.exit 0), []), (.ret, [(6, .k (.d (.bool)))])], bnd tb (.slot 18) 1⟩)]
 keep := asc []
def Z9 (n : Nat) : Row I := ⟨121, [.d (.dat 51), .d (.dat 45), .d (.dat 78)], [.k (.d (.bool))], a9O n⟩
def b4L (_ : Nat) : Hints I where
 tds := fun i => (asc [(17, [[], [0], [], [2], [2, 3], [0, 1, 2, 3, 4], [0, 1, 2, 3, 4, 5]]), (31, [[], [], [], [2], [2, 3], [2, 3, 4], [0, 1, 2, 3, 4, 5], [0, 1, 2, 3, 4, 5, 6], [0, 1, 2, 3, 4, 5, 6, 7]])] i).getD []
 spl := fun i => (asc [] i).getD []
 pre := fun i => (asc [] i).getD []
 join := asc [(60413, ⟨144115188075855872000, [], [], [(.normal, [(60, .k (.d (.bool)))])]⟩)]
 loop := asc []
 keep := asc []
def Z5 (n : Nat) : Row I := ⟨87, [.d (.dat 51), .d (.dat 45), .d (.int .i64)], [.k (.d (.bool))], a99 n⟩
def b3R (_ : Nat) : Hints I where
 tds := fun i => (asc [] i).getD []
 spl := fun i => (asc [] i).getD []
 pre := fun i => (asc [] i).getD []
 join := asc []
 loop := asc []
 keep := asc []
def J4 (n : Nat) : Row I := ⟨122, [.d (.int .i64), .var 51 (.k (.d (.dat 51))) false, .var 45 (.k (.d (.dat 45))) false], [.k (.d (.bool))], b42 n⟩
def b3c (_ : Nat) : Hints I where
 tds := fun i => (asc [] i).getD []
 spl := fun i => (asc [] i).getD []
 pre := fun i => (asc [] i).getD []
 join := asc []
 loop := asc []
 keep := asc []
def J3 (n : Nat) : Row I := ⟨123, [.d (.int .i64), .var 51 (.k (.d (.dat 51))) false, .var 45 (.k (.d (.dat 45))) false], [.k (.d (.bool))], b5g n⟩
def b2l (_ : Nat) : Hints I where
 tds := fun i => (asc [(10, [[], [0], [], [0, 1, 2], [0, 1, 2, 3], [], [], [], [6, 7], [0, 1, 2, 3, 4, 5, 6, 7, 8], [0, 1, 2, 3, 4, 5, 6, 7, 8, 9]])] i).getD []
 spl := fun i => (asc [] i).getD []
 pre := fun i => (asc [] i).getD []
 join := asc []
 loop := asc [(26, ⟨1073725760, [], [], [(14, .k (.d (.int .i64)))], [((.exit 0), []), (.ret, [(6, .k (.d (.bool)))])], bnd tb (.slot 13) 1⟩),
  (58, ⟨1125891316909632, [], [], [(33, .k (.d (.int .i64)))], [((.exit 2), []), (.ret, [(6, .k (.d (.bool)))])], bnd tb (.slot 32) 1⟩)]
 keep := asc []
def Q2 (n : Nat) : Row I := ⟨120, [.d (.dat 51), .d (.dat 45), .d (.dat 78)], [.k (.d (.bool))], b3Z n⟩
theorem b3b (n : Nat) (_ : y0 Go.Proofs.Tryz.prog (K1 n)) (_ : y0 Go.Proofs.Tryz.prog (Z4 n)) (_ : y0 Go.Proofs.Tryz.prog (Z9 n)) (h_core_Has : y0 Go.Proofs.Tryz.prog (Z5 n)) (_ : y0 Go.Proofs.Tryz.prog (J4 n)) (_ : y0 Go.Proofs.Tryz.prog (J3 n)) (_ : y0 Go.Proofs.Tryz.prog (Q2 n)) : y0 Go.Proofs.Tryz.prog (K1 (n + 1)) :=
 y9 z7 (y2 (es := [j0 tb (Z5 n)]) ⟨z8 z7 h_core_Has, trivial⟩ 3) mixed 30 (fn := Go.Proofs.Tryz.f119) (cd := j7 Go.Proofs.Tryz.f119) (H := (b4G n)) (rl := [.tmp 6]) Go.Proofs.Tryz.func119 (by kernel_rfl) (by kernel_rfl) (by kernel_rfl) (by kernel_rfl) (by kernel_rfl) (by kernel_rfl) (by kernel_rfl)
theorem a62 (n : Nat) (h_core_all : y0 Go.Proofs.Tryz.prog (K1 n)) (_ : y0 Go.Proofs.Tryz.prog (Z4 n)) (_ : y0 Go.Proofs.Tryz.prog (Z9 n)) (h_core_Has : y0 Go.Proofs.Tryz.prog (Z5 n)) (_ : y0 Go.Proofs.Tryz.prog (J4 n)) (_ : y0 Go.Proofs.Tryz.prog (J3 n)) (_ : y0 Go.Proofs.Tryz.prog (Q2 n)) : y0 Go.Proofs.Tryz.prog (Z4 (n + 1)) :=
 y9 z7 (y2 (es := [j0 tb (K1 n), j0 tb (Z5 n)]) ⟨z8 z7 h_core_all, ⟨z8 z7 h_core_Has, trivial⟩⟩ 3) mixed 37 (fn := Go.Proofs.Tryz.f151) (cd := j7 Go.Proofs.Tryz.f151) (H := (a71 n)) (rl := [.tmp 6]) Go.Proofs.Tryz.func151 (by kernel_rfl) (by kernel_rfl) (by kernel_rfl) (by kernel_rfl) (by kernel_rfl) (by kernel_rfl) (by kernel_rfl)
theorem a7y (n : Nat) (_ : y0 Go.Proofs.Tryz.prog (K1 n)) (h_core_EntryAllowed : y0 Go.Proofs.Tryz.prog (Z4 n)) (_ : y0 Go.Proofs.Tryz.prog (Z9 n)) (_ : y0 Go.Proofs.Tryz.prog (Z5 n)) (_ : y0 Go.Proofs.Tryz.prog (J4 n)) (_ : y0 Go.Proofs.Tryz.prog (J3 n)) (_ : y0 Go.Proofs.Tryz.prog (Q2 n)) : y0 Go.Proofs.Tryz.prog (Z9 (n + 1)) :=
 y9 z7 (y2 (es := [j0 tb (Z4 n)]) ⟨z8 z7 h_core_EntryAllowed, trivial⟩ 3) mixed 29 (fn := Go.Proofs.Tryz.f121) (cd := j7 Go.Proofs.Tryz.f121) (H := (a8m n)) (rl := [.tmp 6]) Go.Proofs.Tryz.func121 (by kernel_rfl) (by kernel_rfl) (by kernel_rfl) (by kernel_rfl) (by kernel_rfl) (by kernel_rfl) (by kernel_rfl)
theorem b3d (n : Nat) (h_core_all : y0 Go.Proofs.Tryz.prog (K1 n)) (_ : y0 Go.Proofs.Tryz.prog (Z4 n)) (h_core_functionHas : y0 Go.Proofs.Tryz.prog (Z9 n)) (h_core_Has : y0 Go.Proofs.Tryz.prog (Z5 n)) (h_core_Has_1 : y0 Go.Proofs.Tryz.prog (J4 n)) (h_core_Has_2 : y0 Go.Proofs.Tryz.prog (J3 n)) (h_core_mapHas : y0 Go.Proofs.Tryz.prog (Q2 n)) : y0 Go.Proofs.Tryz.prog (Z5 (n + 1)) :=
 y9 z7 (y2 (es := [j0 tb (a52), j0 tb (K1 n), j0 tb (Q2 n), j0 tb (Z9 n), j0 tb (J1), j0 tb (J4 n), j0 tb (J3 n), j0 tb (Z5 n), j0 tb (a0C)]) ⟨z8 z7 b1e, ⟨z8 z7 h_core_all, ⟨z8 z7 h_core_mapHas, ⟨z8 z7 h_core_functionHas, ⟨z8 z7 X1, ⟨z8 z7 h_core_Has_1, ⟨z8 z7 h_core_Has_2, ⟨z8 z7 h_core_Has, ⟨z8 z7 a20, trivial⟩⟩⟩⟩⟩⟩⟩⟩⟩ 3) mixed 151 (fn := Go.Proofs.Tryz.f87) (cd := j7 Go.Proofs.Tryz.f87) (H := (b4L n)) (rl := [.tmp 6]) Go.Proofs.Tryz.func87 (by kernel_rfl) (by kernel_rfl) (by kernel_rfl) (by kernel_rfl) (by kernel_rfl) (by kernel_rfl) (by kernel_rfl)
theorem b1h (n : Nat) (_ : y0 Go.Proofs.Tryz.prog (K1 n)) (_ : y0 Go.Proofs.Tryz.prog (Z4 n)) (_ : y0 Go.Proofs.Tryz.prog (Z9 n)) (h_core_Has : y0 Go.Proofs.Tryz.prog (Z5 n)) (_ : y0 Go.Proofs.Tryz.prog (J4 n)) (_ : y0 Go.Proofs.Tryz.prog (J3 n)) (_ : y0 Go.Proofs.Tryz.prog (Q2 n)) : y0 Go.Proofs.Tryz.prog (J4 (n + 1)) :=
 y9 z7 (y2 (es := [j0 tb (Z5 n)]) ⟨z8 z7 h_core_Has, trivial⟩ 3) mixed 9 (fn := Go.Proofs.Tryz.f122) (cd := j7 Go.Proofs.Tryz.f122) (H := (b3R n)) (rl := [.tmp 4]) Go.Proofs.Tryz.func122 (by kernel_rfl) (by kernel_rfl) (by kernel_rfl) (by kernel_rfl) (by kernel_rfl) (by kernel_rfl) (by kernel_rfl)
theorem b1j (n : Nat) (_ : y0 Go.Proofs.Tryz.prog (K1 n)) (_ : y0 Go.Proofs.Tryz.prog (Z4 n)) (_ : y0 Go.Proofs.Tryz.prog (Z9 n)) (h_core_Has : y0 Go.Proofs.Tryz.prog (Z5 n)) (_ : y0 Go.Proofs.Tryz.prog (J4 n)) (_ : y0 Go.Proofs.Tryz.prog (J3 n)) (_ : y0 Go.Proofs.Tryz.prog (Q2 n)) : y0 Go.Proofs.Tryz.prog (J3 (n + 1)) :=
 y9 z7 (y2 (es := [j0 tb (Z5 n)]) ⟨z8 z7 h_core_Has, trivial⟩ 3) mixed 10 (fn := Go.Proofs.Tryz.f123) (cd := j7 Go.Proofs.Tryz.f123) (H := (b3c n)) (rl := [.tmp 4]) Go.Proofs.Tryz.func123 (by kernel_rfl) (by kernel_rfl) (by kernel_rfl) (by kernel_rfl) (by kernel_rfl) (by kernel_rfl) (by kernel_rfl)
theorem b0E (n : Nat) (_ : y0 Go.Proofs.Tryz.prog (K1 n)) (_ : y0 Go.Proofs.Tryz.prog (Z4 n)) (_ : y0 Go.Proofs.Tryz.prog (Z9 n)) (h_core_Has : y0 Go.Proofs.Tryz.prog (Z5 n)) (_ : y0 Go.Proofs.Tryz.prog (J4 n)) (_ : y0 Go.Proofs.Tryz.prog (J3 n)) (_ : y0 Go.Proofs.Tryz.prog (Q2 n)) : y0 Go.Proofs.Tryz.prog (Q2 (n + 1)) :=
 y9 z7 (y2 (es := [j0 tb (a0o), j0 tb (a9u), j0 tb (Z5 n)]) ⟨z8 z7 a2u, ⟨z8 z7 b4Z, ⟨z8 z7 h_core_Has, trivial⟩⟩⟩ 3) mixed 50 (fn := Go.Proofs.Tryz.f120) (cd := j7 Go.Proofs.Tryz.f120) (H := (b2l n)) (rl := [.tmp 6]) Go.Proofs.Tryz.func120 (by kernel_rfl) (by kernel_rfl) (by kernel_rfl) (by kernel_rfl) (by kernel_rfl) (by kernel_rfl) (by kernel_rfl)
theorem a5Y : ∀ n : Nat, y0 Go.Proofs.Tryz.prog (K1 n) /\ y0 Go.Proofs.Tryz.prog (Z4 n) /\ y0 Go.Proofs.Tryz.prog (Z9 n) /\ y0 Go.Proofs.Tryz.prog (Z5 n) /\ y0 Go.Proofs.Tryz.prog (J4 n) /\ y0 Go.Proofs.Tryz.prog (J3 n) /\ y0 Go.Proofs.Tryz.prog (Q2 n)
 | 0 => ⟨V6 (by kernel_rfl), V6 (by kernel_rfl), V6 (by kernel_rfl), V6 (by kernel_rfl), V6 (by kernel_rfl), V6 (by kernel_rfl), V6 (by kernel_rfl)⟩
 | n + 1 => by
   obtain ⟨h0, h1, h2, h3, h4, h5, h6⟩ := a5Y n
   exact ⟨b3b n h0 h1 h2 h3 h4 h5 h6, a62 n h0 h1 h2 h3 h4 h5 h6, a7y n h0 h1 h2 h3 h4 h5 h6, b3d n h0 h1 h2 h3 h4 h5 h6, b1h n h0 h1 h2 h3 h4 h5 h6, b1j n h0 h1 h2 h3 h4 h5 h6, b0E n h0 h1 h2 h3 h4 h5 h6⟩
theorem a9n (n : Nat) : y0 Go.Proofs.Tryz.prog (Z5 n) := (a5Y n).2.2.2.1
def b0R (_ : Nat) : Hints I where
 tds := fun i => (asc [] i).getD []
 spl := fun i => (asc [] i).getD []
 pre := fun i => (asc [] i).getD []
 join := asc []
 loop := asc []
 keep := asc []
def a4V (n : Nat) : Row I := ⟨86, [.d (.int .i64), .var 51 (.k (.d (.dat 51))) false, .var 45 (.k (.d (.dat 45))) false], [.k (.d (.bool))], a7M n⟩
theorem a9C (n : Nat) : y0 Go.Proofs.Tryz.prog (a4V n) :=
 y9 z7 (y2 (es := [j0 tb (Z5 n)]) ⟨z8 z7 (a9n n), trivial⟩ 3) mixed 10 (fn := Go.Proofs.Tryz.f86) (cd := j7 Go.Proofs.Tryz.f86) (H := (b0R n)) (rl := [.tmp 4]) Go.Proofs.Tryz.func86 (by kernel_rfl) (by kernel_rfl) (by kernel_rfl) (by kernel_rfl) (by kernel_rfl) (by kernel_rfl) (by kernel_rfl)
def b0s (_ : Nat) : Hints I where
 tds := fun i => (asc [] i).getD []
 spl := fun i => (asc [] i).getD []
 pre := fun i => (asc [] i).getD []
 join := asc []
 loop := asc []
 keep := asc []
def a4W (n : Nat) : Row I := ⟨88, [.d (.int .i64), .var 51 (.k (.d (.dat 51))) false, .var 45 (.k (.d (.dat 45))) false], [.k (.d (.bool))], a7O n⟩
theorem a94 (n : Nat) : y0 Go.Proofs.Tryz.prog (a4W n) :=
 y9 z7 (y2 (es := [j0 tb (Z5 n)]) ⟨z8 z7 (a9n n), trivial⟩ 3) mixed 9 (fn := Go.Proofs.Tryz.f88) (cd := j7 Go.Proofs.Tryz.f88) (H := (b0s n)) (rl := [.tmp 4]) Go.Proofs.Tryz.func88 (by kernel_rfl) (by kernel_rfl) (by kernel_rfl) (by kernel_rfl) (by kernel_rfl) (by kernel_rfl) (by kernel_rfl)
def b2p (_ : Nat) : Hints I where
 tds := fun i => (asc [] i).getD []
 spl := fun i => (asc [] i).getD []
 pre := fun i => (asc [] i).getD []
 join := asc []
 loop := asc []
 keep := asc []
def a5V (n : Nat) : Row I := ⟨52, [.d (.dat 51), .d (.dat 45), .d (.sl 3), .d (.sl 3)], [.k (.d (.bool))], a9v n⟩
theorem b07 (n : Nat) : y0 Go.Proofs.Tryz.prog (a5V n) :=
 y9 z7 (y2 (es := [j0 tb (J1), j0 tb (a4V n), j0 tb (a4W n)]) ⟨z8 z7 X1, ⟨z8 z7 (a9C n), ⟨z8 z7 (a94 n), trivial⟩⟩⟩ 3) mixed 19 (fn := Go.Proofs.Tryz.f52) (cd := j7 Go.Proofs.Tryz.f52) (H := (b2p n)) (rl := [.tmp 8]) Go.Proofs.Tryz.func52 (by kernel_rfl) (by kernel_rfl) (by kernel_rfl) (by kernel_rfl) (by kernel_rfl) (by kernel_rfl) (by kernel_rfl)
def b1F (_ : Nat) : Hints I where
 tds := fun i => (asc [] i).getD []
 spl := fun i => (asc [] i).getD []
 pre := fun i => (asc [] i).getD []
 join := asc []
 loop := asc []
 keep := asc []
def a5M (n : Nat) : Row I := ⟨34, [.d (.dat 51), .d (.dat 45), .d (.dat 36)], [.k (.d (.bool))], a8c n⟩
theorem b0f (n : Nat) : y0 Go.Proofs.Tryz.prog (a5M n) :=
 y9 z7 (y2 (es := [j0 tb (a4s n), j0 tb (a2p n), j0 tb (a54), j0 tb (a5V n)]) ⟨z8 z7 (a9b n), ⟨z8 z7 (a6y n), ⟨z8 z7 b09, ⟨z8 z7 (b07 n), trivial⟩⟩⟩⟩ 3) mixed 40 (fn := Go.Proofs.Tryz.f34) (cd := j7 Go.Proofs.Tryz.f34) (H := (b1F n)) (rl := [.tmp 6]) Go.Proofs.Tryz.func34 (by kernel_rfl) (by kernel_rfl) (by kernel_rfl) (by kernel_rfl) (by kernel_rfl) (by kernel_rfl) (by kernel_rfl)
def b0p (_ : Nat) : Hints I where
 tds := fun i => (asc [(6, [[], [], [0, 1], [0, 1, 2], [], [], [5], [], [5, 6, 7], [5, 6, 7, 8], [0, 1, 2, 3, 4, 5, 6, 7, 8, 9], [0, 1, 2, 3, 4, 5, 6, 7, 8, 9, 10]])] i).getD []
 spl := fun i => (asc [] i).getD []
 pre := fun i => (asc [] i).getD []
 join := asc []
 loop := asc [(58, ⟨4294901952, [], [], [(16, .k (.d (.int .i64)))], [((.exit 0), []), (.ret, [(6, .k (.d (.bool)))])], bnd tb (.slot 15) 1⟩)]
 keep := asc []
def a4Z (n : Nat) : Row I := ⟨20, [.d (.sl 51), .d (.dat 45), .d (.dat 33)], [.k (.d (.bool))], a7N n⟩
theorem a9T (n : Nat) : y0 Go.Proofs.Tryz.prog (a4Z n) :=
 y9 z7 (y2 (es := [j0 tb (a5M n)]) ⟨z8 z7 (b0f n), trivial⟩ 3) mixed 32 (fn := Go.Proofs.Tryz.f20) (cd := j7 Go.Proofs.Tryz.f20) (H := (b0p n)) (rl := [.tmp 6]) Go.Proofs.Tryz.func20 (by kernel_rfl) (by kernel_rfl) (by kernel_rfl) (by kernel_rfl) (by kernel_rfl) (by kernel_rfl) (by kernel_rfl)
def a7F (_ : Nat) : Hints I where
 tds := fun i => (asc [(3, [[], [0], [0, 1], [0, 1, 2], [0, 1, 2, 3], [0, 1, 2, 3, 4], [0, 1, 2, 3, 4, 5], [0, 1, 2, 3, 4, 5, 6], [0, 1, 2, 3, 4, 5, 6, 7], [0, 1, 2, 3, 4, 5, 6, 7, 8], [0, 1, 2, 3, 4, 5, 6, 7, 8, 9], [0, 1, 2, 3, 4, 5, 6, 7, 8, 9, 10], [0, 1, 2, 3, 4, 5, 6, 7, 8, 9, 10, 11], [0, 1, 2, 3, 4, 5, 6, 7, 8, 9, 10, 11, 12], [0, 1, 2, 3, 4, 5, 6, 7, 8, 9, 10, 11], [0, 1, 2, 3, 4, 5, 6, 7, 8, 9, 10, 11], [0, 1, 2, 3, 4, 5, 6, 7, 8, 9, 10, 11, 15], [0, 1, 2, 3, 4, 5, 6, 7, 8, 9, 10, 11, 15, 16], [0, 1, 2, 3, 4, 5, 6, 7, 8, 9, 10, 11, 15, 16, 17], [0, 1, 2, 3, 4, 5, 6, 7, 8, 9, 10, 11, 12, 13, 14, 15, 16, 17, 18], [0, 1, 2, 3, 4, 5, 6, 7, 8, 9, 10, 11, 12, 13, 14, 15, 16, 17, 18, 19], [0, 1, 2, 3, 4, 5, 6, 7, 8, 9, 10, 11, 12, 13, 14, 15, 16, 17, 18, 19, 20]])] i).getD []
 spl := fun i => (asc [(3, [22])] i).getD []
 pre := fun i => (asc [] i).getD []
 join := asc []
 loop := asc []
 keep := asc []
def a2C (n : Nat) : Row I := ⟨9, [], [.k (.d (.bool))], a0j n⟩
theorem a6U (n : Nat) : y0 Go.Proofs.Tryz.prog (a2C n) :=
 y9 z7 (y2 (es := [j0 tb (a2s n), j0 tb (a3L), j0 tb (a4Z n)]) ⟨z8 z7 (a5B n), ⟨z8 z7 a8r, ⟨z8 z7 (a9T n), trivial⟩⟩⟩ 3) mixed 32 (fn := Go.Proofs.Tryz.f9) (cd := j7 Go.Proofs.Tryz.f9) (H := (a7F n)) (rl := [.tmp 0]) Go.Proofs.Tryz.func9 (by kernel_rfl) (by kernel_rfl) (by kernel_rfl) (by kernel_rfl) (by kernel_rfl) (by kernel_rfl) (by kernel_rfl)
def a73 : Hints I where
 tds := fun i => (asc [(7, [[], [], [1], [0, 1, 2], [], [], [4, 5], [0, 1, 2, 3, 4, 5, 6], [0, 1, 2, 3, 4, 5, 6, 7]])] i).getD []
 spl := fun i => (asc [] i).getD []
 pre := fun i => (asc [] i).getD []
 join := asc []
 loop := asc [(28, ⟨2097056, [], [], [(5, .k (.d (.int .i64)))], [((.exit 0), [(5, .k (.d (.int .i64)))])], bnd tb (.len (.slot 0)) 1⟩)]
 keep := asc []
def a3D : Row I := ⟨42, [.d (.sl 3), .d (.int .i64)], [.k (.d (.sl 3))], a1F⟩
theorem a7S : y0 Go.Proofs.Tryz.prog (a3D) :=
 y9 z7 (y2 (es := []) trivial 3) mixed 46 (fn := Go.Proofs.Tryz.f42) (cd := j7 Go.Proofs.Tryz.f42) (H := a73) (rl := [.tmp 4]) Go.Proofs.Tryz.func42 (by kernel_rfl) (by kernel_rfl) (by kernel_rfl) (by kernel_rfl) (by kernel_rfl) (by kernel_rfl) (by kernel_rfl)
def a8o : Hints I where
 tds := fun i => (asc [] i).getD []
 spl := fun i => (asc [] i).getD []
 pre := fun i => (asc [] i).getD []
 join := asc []
 loop := asc [(58, ⟨131064, [], [], [(3, .k (.d (.sl 3))), (4, .k (.d (.int .i64)))], [((.exit 0), [(3, .k (.d (.sl 3)))])], bnd tb (.len (.slot 0)) 1⟩)]
 keep := asc []
def a3q : Row I := ⟨28, [.d (.sl 3)], [.k (.d (.sl 3))], a0I⟩
theorem a7T : y0 Go.Proofs.Tryz.prog (a3q) :=
 y9 z7 (y2 (es := [j0 tb (a3D)]) ⟨z8 z7 a7S, trivial⟩ 3) mixed 18 (fn := Go.Proofs.Tryz.f28) (cd := j7 Go.Proofs.Tryz.f28) (H := a8o) (rl := [.tmp 2]) Go.Proofs.Tryz.func28 (by kernel_rfl) (by kernel_rfl) (by kernel_rfl) (by kernel_rfl) (by kernel_rfl) (by kernel_rfl) (by kernel_rfl)
def a7G : Hints I where
 tds := fun i => (asc [(1, [[], [0], [0, 1], [], [3], [0, 1, 2, 3, 4], [], [6], [0, 1, 2, 3, 4, 5, 6, 7], [0, 1, 2, 3, 4, 5, 6, 7, 8]])] i).getD []
 spl := fun i => (asc [] i).getD []
 pre := fun i => (asc [] i).getD []
 join := asc []
 loop := asc []
 keep := asc []
def a2D : Row I := ⟨13, [.d (.dat 36)], [.k (.d (.dat 36))], W4⟩
theorem a66 : y0 Go.Proofs.Tryz.prog (a2D) :=
 y9 z7 (y2 (es := [j0 tb (a3q)]) ⟨z8 z7 a7T, trivial⟩ 3) mixed 12 (fn := Go.Proofs.Tryz.f13) (cd := j7 Go.Proofs.Tryz.f13) (H := a7G) (rl := [.cell 2 36]) Go.Proofs.Tryz.func13 (by kernel_rfl) (by kernel_rfl) (by kernel_rfl) (by kernel_rfl) (by kernel_rfl) (by kernel_rfl) (by kernel_rfl)
def a5S : Hints I where
 tds := fun i => (asc [(6, [[], [], [0, 1], [0, 1, 2], [], [], [4, 5], [4, 5, 6], [0, 1, 2, 3, 4, 5, 6, 7]])] i).getD []
 spl := fun i => (asc [] i).getD []
 pre := fun i => (asc [] i).getD []
 join := asc []
 loop := asc [(58, ⟨67106864, [], [], [(5, .k (.d (.int .i64)))], [((.exit 0), []), (.ret, [(4, .k (.d (.bool)))])], bnd tb (.len (.slot 0)) 1⟩)]
 keep := asc []
def a1R : Row I := ⟨27, [.d (.sl 3), .d (.sl 3)], [.k (.d (.bool))], W1⟩
theorem a5x : y0 Go.Proofs.Tryz.prog (a1R) :=
 y9 z7 (y2 (es := []) trivial 3) mixed 26 (fn := Go.Proofs.Tryz.f27) (cd := j7 Go.Proofs.Tryz.f27) (H := a5S) (rl := [.tmp 4]) Go.Proofs.Tryz.func27 (by kernel_rfl) (by kernel_rfl) (by kernel_rfl) (by kernel_rfl) (by kernel_rfl) (by kernel_rfl) (by kernel_rfl)
def a5A : Hints I where
 tds := fun i => (asc [] i).getD []
 spl := fun i => (asc [] i).getD []
 pre := fun i => (asc [] i).getD []
 join := asc []
 loop := asc []
 keep := asc []
def a1K : Row I := ⟨12, [.d (.dat 36), .d (.dat 36)], [.k (.d (.bool))], a0g⟩
theorem a45 : y0 Go.Proofs.Tryz.prog (a1K) :=
 y9 z7 (y2 (es := [j0 tb (a1R)]) ⟨z8 z7 a5x, trivial⟩ 3) mixed 24 (fn := Go.Proofs.Tryz.f12) (cd := j7 Go.Proofs.Tryz.f12) (H := a5A) (rl := [.tmp 4]) Go.Proofs.Tryz.func12 (by kernel_rfl) (by kernel_rfl) (by kernel_rfl) (by kernel_rfl) (by kernel_rfl) (by kernel_rfl) (by kernel_rfl)
def a7s : Hints I where
 tds := fun i => (asc [(7, [[], [0], [], [0, 1, 2], [0, 1, 2, 3], [], [5], [], [5, 6, 7], [5, 6, 7, 8], [0, 1, 2, 3, 4, 5, 6, 7, 8, 9]])] i).getD []
 spl := fun i => (asc [] i).getD []
 pre := fun i => (asc [] i).getD []
 join := asc []
 loop := asc [(26, ⟨1073741820, [], [], [(3, .k (.d (.int .i64)))], [((.exit 0), []), (.ret, [(2, .k (.d (.bool)))])], bnd tb (.len (.ld 22 (.fld 36 0 (.slot 1)))) 1⟩),
  (1682, ⟨1073737748, [], [], [(4, .k (.d (.int .i64)))], [((.exit 2), []), (.ret, [(2, .k (.d (.bool)))])], bnd tb (.len (.ld 22 (.fld 36 1 (.slot 1)))) 1⟩)]
 keep := asc []
def a2J : Row I := ⟨14, [.d (.dat 36)], [.k (.d (.bool))], a00⟩
theorem a6S : y0 Go.Proofs.Tryz.prog (a2J) :=
 y9 z7 (y2 (es := []) trivial 3) mixed 30 (fn := Go.Proofs.Tryz.f14) (cd := j7 Go.Proofs.Tryz.f14) (H := a7s) (rl := [.tmp 2]) Go.Proofs.Tryz.func14 (by kernel_rfl) (by kernel_rfl) (by kernel_rfl) (by kernel_rfl) (by kernel_rfl) (by kernel_rfl) (by kernel_rfl)
def a4Q (n : Nat) : Hints I where
 tds := fun i => (asc [(12, [[], [0], [0, 1], [0, 1, 2], [0, 1, 2], [0, 1, 2, 4], [0, 1, 2, 3, 4, 5], [0, 1, 2, 3, 4, 5, 6], [0, 1, 2, 3, 4, 5, 6, 7], [0, 1, 2, 3, 4, 5, 6, 7, 8], [0, 1, 2, 3, 4, 5, 6, 7, 8, 9], [0, 1, 2, 3, 4, 5, 6, 7, 8, 9, 10], [0, 1, 2, 3, 4, 5, 6, 7, 8, 9, 10, 11], [0, 1, 2, 3, 4, 5, 6, 7, 8, 9, 10, 11, 12]])] i).getD []
 spl := fun i => (asc [(14, [71])] i).getD []
 pre := fun i => (asc [] i).getD []
 join := asc []
 loop := asc [(250, ⟨73786976294569774656, [8], [], [(9, .k (.d (.int .i64)))], [((.exit 0), []), (.ret, [(6, .k (.d (.bool)))])], bnd tb (.len (.slot 8)) 1⟩),
  (16018, ⟨73786976277658340416, [], [], [(10, .k (.d (.int .i64)))], [((.exit 2), []), (.ret, [(6, .k (.d (.bool)))])], fun _ => some n⟩)]
 keep := asc []
def a4f (n : Nat) : Row I := ⟨4, [.d (.int .i64), .d (.sl 3), .d (.sl 3)], [.k (.d (.bool))], W9 n⟩
theorem a4z (n : Nat) : y0 Go.Proofs.Tryz.prog (a4f n) :=
 y9 z7 (y2 (es := [j0 tb (a3c), j0 tb (a2s n), j0 tb (a2C n), j0 tb (a2D), j0 tb (a1K), j0 tb (a2J)]) ⟨z8 z7 a7i, ⟨z8 z7 (a5B n), ⟨z8 z7 (a6U n), ⟨z8 z7 a66, ⟨z8 z7 a45, ⟨z8 z7 a6S, trivial⟩⟩⟩⟩⟩⟩ 3) mixed 81 (fn := Go.Proofs.Tryz.f4) (cd := j7 Go.Proofs.Tryz.f4) (H := (a4Q n)) (rl := [.tmp 6]) Go.Proofs.Tryz.func4 (by kernel_rfl) (by kernel_rfl) (by kernel_rfl) (by kernel_rfl) (by kernel_rfl) (by kernel_rfl) (by kernel_rfl)
end Go.Qx
end
section
namespace Go.Qx
open Go Go.RowKit Go.Sx
set_option maxHeartbeats 1600000
set_option maxRecDepth 100000
end Go.Qx
end
section
namespace Go.Pl
open Go Go.RowKit Go.Sx Go.Qx Go.Proofs.YtcbgcnbnnodhdaaGreat
def a3W (w : World) : S := ⟨w, fun b => match w.heap[b]? with | some (.cells c _ _) => (c.size, 0) | _ => (0, 0)⟩
theorem b4A {w : World} {b o : Nat} {cs : List Value} (hn : cs ≠ []) (h : w.rangeAt b o cs) : a0u (a3W w) b o cs := by
 refine ⟨?_, h⟩
 have hl : 0 < cs.length := List.length_pos_iff.2 hn
 have hj := h (cs.length - 1) _ (List.getElem?_eq_getElem (by omega))
 unfold World.cell? at hj
 simp only at hj
 split at hj
 ·rename_i c e f hb
  have h2 : o + (cs.length - 1) < c.size := by
   simp only [Option.isSome_none, Bool.false_eq_true, if_false] at hj
   exact (Array.getElem?_eq_some_iff.1 hj).1
  show o + cs.length <= (match w.heap[b]? with | some (.cells c _ _) => (c.size, 0) | _ => (0, 0)).1
  rw [hb]
  show o + cs.length <= c.size
  omega
 ·cases hj
theorem b48 {w : World} {base : Nat} {a : Addr} {n : Nat} {cs : List Value} (h : w.cells? base a n = some cs) :
 cs.length = n /\ ∀ (i : Nat) (v : Value), cs[i]? = some v -> w.cell? (a.add i) = some v := by
 unfold World.cells? at h
 split at h
 ·have hl : cs.length = n := by simpa using mapM_some_length h
  refine ⟨hl, fun i v hv => ?_⟩
  have hi : i < n := by have := (List.getElem?_eq_some_iff.1 hv).1; omega
  have := mapM_some_get h i i (by simp [hi])
  rw [this, hv]
 ·cases h
theorem b71 (a : Addr) (x j : Nat) : (a.add x).add j = a.add (x + j) := by
 unfold Addr.add
 by_cases hx : x = 0
 ·subst hx; simp
 ·by_cases hj : j = 0
  ·subst hj; simp [hx]
  ·rw [if_neg hj, if_neg hx, if_neg (by omega), Nat.add_assoc]
theorem b6a {w : World} {a : Addr} {v : Value} (h : w.cell? a = some v) : a.spot = none := by
 unfold World.cell? at h
 split at h
 ·split at h
  ·cases h
  ·rename_i hs; simpa using hs
 ·cases h
section
variable {H : Type} {enc : TypeId × Value -> H} {P : Program} {w : World} {base : Nat} {spare : Nat -> Bool} {held : Bool}
theorem b0h {α : Type} [Rp α] {fuel : Nat} {t e : TypeId} {cs : List Value} {x : DataW H × List MemPlace} (ht : P.underlying t = some (.slice e)) (hc : P.cellsOf e = Rp.sz α) (bk : α -> Nat)
 (hrd : ∀ (n : Nat) (cs : List Value) (x : DataW H × List MemPlace), n < fuel -> DataW.trod enc P w base spare held n e cs = some x -> ∃ d : α, Rp.cells (a3W w) d cs /\ bk d <= Rows.uptoBulk x.1)
 (h : DataW.trod enc P w base spare held fuel t cs = some x) :
 ∃ (ds : List α) (A : Option Addr) (c : Nat), cs = [.slice A ds.length c] /\ Sl (a3W w) ds A c /\ (ds.map bk).sum + 1 <= Rows.uptoBulk x.1 := by
 rcases DataW.trod_slice ht h with ⟨rfl, rfl⟩ | ⟨a, len, cap, elems, rest, n, rfl, rfl, rfl, hb, hl, hm, hle, hget, -, -⟩
 ·exact ⟨[], none, 0, rfl, Sl.nil_ _ _ _ (Nat.zero_le _), by simp [Rows.uptoBulk]⟩
 have key : ∀ (m i : Nat), i + m = len -> ∃ (ds : List α) (cs : List Value), ds.length = m /\ Y3 (a3W w) ds cs /\
  (∀ (j : Nat) (v : Value), cs[j]? = some v -> w.cell? (a.add (i * Rp.sz α + j)) = some v) /\ (ds.map bk).sum <= Rows.uptoBulkAll ((elems.drop i).map (·.1)) := by
  intro m
  induction m with
  | zero => intro i _; exact ⟨[], [], rfl, rfl, fun j v hv => by simp at hv, by simp⟩
  | succ m ih =>
    intro i hi
    obtain ⟨ds, cs, h1, h2, h3, h4⟩ := ih (i + 1) (by omega)
    have hlt : i < elems.length := by omega
    have hg := hget i (by omega)
    rw [List.getElem?_eq_getElem hlt, Option.bind_eq_some_iff] at hg
    obtain ⟨cs0, hcs, htr⟩ := hg
    obtain ⟨d, hd, hbk⟩ := hrd n cs0 _ (by omega) htr
    obtain ⟨hcl, hci⟩ := b48 hcs
    rw [hc] at hcl hci
    refine ⟨d :: ds, cs0 ++ cs, by simp [h1], ⟨cs0, cs, rfl, hd, h2⟩, ?_, ?_⟩
    ·intro j v hv
     by_cases hj : j < Rp.sz α
     ·rw [List.getElem?_append_left (by omega)] at hv
      rw [<- b71]
      exact hci j v hv
     ·rw [List.getElem?_append_right (by omega)] at hv
      have := h3 _ v hv
      rw [hcl, Nat.add_mul, Nat.one_mul] at this
      have e : i * Rp.sz α + Rp.sz α + (j - Rp.sz α) = i * Rp.sz α + j := by omega
      rw [e] at this
      exact this
    ·rw [List.drop_eq_getElem_cons hlt]
     simp only [List.map_cons, List.sum_cons, Rows.uptoBulkAll]
     omega
 obtain ⟨ds, cs, h1, h2, h3, h4⟩ := key len 0 (by omega)
 simp only [Nat.zero_mul, Nat.zero_add, List.drop_zero] at h3 h4
 refine ⟨ds, some a, cap, by rw [h1], ⟨by omega, hm, cs, h2, fun hn => ?_⟩, by simp only [Rows.uptoBulk]; omega⟩
 have hne := h2.ne_nil hn
 cases cs with
 | nil => exact absurd rfl hne
 | cons v0 r =>
   have h0 := h3 0 v0 rfl
   have hs : a.spot = none := b6a (by simpa [Addr.add] using h0)
   obtain ⟨b, o, sp⟩ := a
   simp only at hs
   subst hs
   refine ⟨b, o, rfl, b4A (by simp) ?_⟩
   intro j v hv
   have := h3 j v hv
   unfold Addr.add at this
   by_cases hj : j = 0
   ·subst hj; simpa using this
   ·rw [if_neg hj] at this
    exact this
end
theorem b6Y {α : Type} {l : List α} (h : l.length = 2) : ∃ a b, l = [a, b] := by
 match l, h with
 | [a, b], _ => exact ⟨a, b, rfl⟩
end Go.Pl
end
section
namespace Go.Pl
open Go Go.RowKit Go.Sx Go.Qx Go.Proofs.YtcbgcnbnnodhdaaGreat
theorem c3 : Go.Proofs.Tryz.prog.cellsOf 3 = 1 := by kernel_rfl
theorem c5 : Go.Proofs.Tryz.prog.cellsOf 5 = 1 := by kernel_rfl
section
variable {H : Type} {enc : TypeId × Value -> H} {w : World} {base : Nat} {spare : Nat -> Bool} {held : Bool}
theorem b80 {n : Nat} {cs : List Value} {x : DataW H × List MemPlace} (h : DataW.trod enc Go.Proofs.Tryz.prog w base spare held n 3 cs = some x) : ∃ d : Int, (rpK .i64).cells (a3W w) d cs /\ a5J d <= Rows.uptoBulk x.1 := by
 obtain ⟨k, e0, rfl, _⟩ := DataW.trod_int Go.Proofs.Tryz.underlying3 h
 exact ⟨k, e0, by simp [a5J, Rows.uptoBulk]⟩
end
end Go.Pl
end
