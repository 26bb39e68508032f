/- Part 3. -/
import Derived.Test.YtcbgcnbnnodhdaaGreatK2
import Derived.ChangeArms
import Derived.KernelRfl
import Derived.OpenShut
import Derived.Shelf.Lays
import Derived.Test.YtcbgcnbnnodhdaaGreatProg
import Derived.Test.YtcbgcnbnnodhdaaGreatRows
section
namespace Go.Pl
open Go Go.RowKit Go.Sx Go.Qx
theorem a9F (l : List (List Int)) (f : List Int -> Option Bool) (p : List Int -> Bool) (hl : l.length <= 4194304) (hf : ∀ x ∈ l, f x = some (p x)) : V1 l f = some (l.any p) := by
 unfold V1 a0u
 rw [a05]
 rcases b1h (step := V2 l f) l p (fun i _ => (i : Int)) (fun i x hx => by
  have hi : i < l.length := (List.getElem?_eq_some_iff.1 hx).1
  unfold V2
  rw [J3 hi, w8 hx]
  simp only [cond_true, Option.bind_some, X0]
  rw [Y6 i (by omega), hf x (List.mem_of_getElem? hx)]
  cases p x <;> rfl) (by
  unfold V2
  simp) with ⟨i, x, hx, hp, _, e⟩ | ⟨h, e⟩
 ·rw [e, b3F hx hp]
  simp only [Option.bind_some, w9, b6N]
 ·rw [e, h]
  rfl
theorem b32 (d : Int) (l : List (List Int)) (hl : l.length <= 4194304) : a2c d l = some (l.all fun r => (r.length : Int) == d) := by
 unfold a2c
 have h := a9F l (fun z1 => Option.bind (a33 z1 d) fun r2 => some r2) (fun r => !((r.length : Int) == d)) hl fun x _ => rfl
 rw [h]
 simp only [Option.bind_some]
 rw [b7z]
def a5G (vi : Int -> Bool) (r : List Int) (j : Nat) : List Int := ((List.range j).filter fun i => vi (r.getD i 0)).map fun i : Nat => (i : Int)
def Y1 (vi : Int -> Bool) (r : List Int) : List Int := a5G vi r r.length
theorem b5y (vi : Int -> Bool) (r : List Int) (j : Nat) : a5G vi r (j + 1) = a5G vi r j ++ (if vi (r.getD j 0) = true then [(j : Int)] else []) := by
 unfold a5G
 rw [List.range_succ, List.filter_append, List.map_append, List.filter_cons]
 by_cases h : vi (r.getD j 0) = true
 ·rw [if_pos h, if_pos h]; rfl
 ·rw [if_neg h, if_neg h]; rfl
theorem a9C (vi : Int -> Bool) (r : List Int) (j : Nat) : (a5G vi r j).length <= j := by
 unfold a5G
 rw [List.length_map]
 exact Nat.le_trans (List.length_filter_le _ _) (by simp)
theorem b2U {vi : Int -> Bool} {r : List Int} {x : Int} : x ∈ Y1 vi r ↔ ∃ i : Nat, x = (i : Int) /\ i < r.length /\ vi (r.getD i 0) = true := by
 unfold Y1 a5G
 simp only [List.mem_map, List.mem_filter, List.mem_range]
 constructor
 ·rintro ⟨i, ⟨h1, h2⟩, rfl⟩; exact ⟨i, rfl, h1, h2⟩
 ·rintro ⟨i, rfl, h1, h2⟩; exact ⟨i, ⟨h1, h2⟩, rfl⟩
theorem b67 {α : Type} {l : List α} {k : Nat} {x : α} (h : l[k]? = some x) : l.set k x = l := by
 apply List.ext_getElem?
 intro i
 by_cases e : k = i
 ·subst e; rw [List.getElem?_set_self (List.getElem?_eq_some_iff.1 h).1, h]
 ·rw [List.getElem?_set_ne e]
theorem b6v (vi : Int -> Bool) (vf : Int -> Option Bool) (k : Nat) (S0 base : List (List Int)) (r : List Int) (hr : r.length <= 1000) (hv : ∀ x ∈ r, vf x = some (vi x)) (hb : base[k]? = some []) :
 j5 (a0G vf ((k : Int), S0) r) (r.length + 1) (0, base) = some ((), base.set k (Y1 vi r)) := by
 have hk := (List.getElem?_eq_some_iff.1 hb).1
 have := a1x (step := a0G vf ((k : Int), S0) r) (fun j => ((j : Int), base.set k (a5G vi r j))) r.length ((), base.set k (Y1 vi r)) (fun j hj => by
  have hx := List.getElem?_eq_getElem hj
  have hg : r.getD j 0 = r[j] := by simp [List.getD, hx]
  have hl := a9C vi r j
  unfold a0G
  simp only [X0, Int.toNat_natCast]
  rw [J3 hj, w8 hx]
  simp only [cond_true, Option.bind_some]
  rw [hv _ (List.getElem_mem hj), b5y, hg]
  simp only [Option.bind_some]
  have hs : (base.set k (a5G vi r j))[k]? = some (a5G vi r j) := List.getElem?_set_self hk
  cases vi r[j] with
  | false =>
    rw [Y6 j (by omega)]
    simp
  | true =>
    simp only [cond_true]
    rw [w8 hs, hs]
    simp only [Option.bind_some]
    rw [a1p (by simp only [List.length_cons, List.length_nil]; omega), Y6 j (by omega)]
    have hbq : Nat.beq (k + 2) (k + 2) = true := by simp
    simp only [Option.bind_some, hbq, cond_true, List.set_set, if_true]) (by
  unfold a0G
  simp [Y1]) (r.length + 1) (Nat.le_refl _)
 have e0 : base.set k (a5G vi r 0) = base := b67 hb
 simp only [e0] at this
 exact this
theorem b6z (vi : Int -> Bool) (vf : Int -> Option Bool) (neg : List (List Int)) (hn : neg.length <= 1000) (hr : ∀ r ∈ neg, r.length <= 1000) (hv : ∀ r ∈ neg, ∀ x ∈ r, vf x = some (vi x)) :
 (j5 (W3 neg vf) (neg.length + 1) (0, List.replicate neg.length ([] : List Int)) = some (.inl ((), neg.map (Y1 vi))) /\ ∀ r ∈ neg, Y1 vi r ≠ []) \/
 ∃ q, j5 (W3 neg vf) (neg.length + 1) (0, List.replicate neg.length ([] : List Int)) = some (.inr q) /\ q.1 = [] /\ ∃ r ∈ neg, Y1 vi r = [] := by
 have key := b1Q (step := W3 neg vf) (fun k => ((k : Int), (List.range neg.length).map fun i => if i < k then Y1 vi (neg.getD i []) else [])) (fun k => (Y1 vi (neg.getD k [])).isEmpty) neg.length
  (.inl ((), neg.map (Y1 vi))) (fun q => ∃ q', q = .inr q' /\ q'.1 = []) (fun k hk hb => ?_) (fun k hk hb => ?_) ?_ (neg.length + 1) (Nat.le_refl _)
 ·have e0 : (List.range neg.length).map (fun i => if i < 0 then Y1 vi (neg.getD i []) else []) = List.replicate neg.length ([] : List Int) := by
   apply List.ext_getElem?
   intro i
   by_cases hi : i < neg.length <;> simp [hi]
  simp only [e0] at key
  have hgd : ∀ i (hi : i < neg.length), neg.getD i [] = neg[i] := fun i hi => by simp [List.getD, List.getElem?_eq_getElem hi]
  rcases key with ⟨k1, k2⟩ | ⟨q, k1, ⟨q', rfl, k2⟩, i, hi, k3⟩
  ·left
   refine ⟨k1, fun r hr e => ?_⟩
   obtain ⟨i, hi, rfl⟩ := List.getElem_of_mem hr
   have := k2 i hi
   rw [hgd i hi, e] at this
   cases this
  ·right
   refine ⟨q', k1, k2, neg[i], List.getElem_mem hi, ?_⟩
   rw [hgd i hi] at k3
   exact List.isEmpty_iff.1 k3
 all_goals
  try
   have hx := List.getElem?_eq_getElem hk
   have hg : neg.getD k [] = neg[k] := by simp [List.getD, hx]
   have hm := List.getElem_mem hk
   have hb0 : ((List.range neg.length).map fun i => if i < k then Y1 vi (neg.getD i []) else [])[k]? = some [] := by simp [hk]
   have h1 := b6v vi vf k ((List.range neg.length).map fun i => if i < k then Y1 vi (neg.getD i []) else []) _ neg[k] (hr _ hm) (hv _ hm) hb0
   rw [b5G] at h1
   have hnew : ((List.range neg.length).map fun i => if i = k then Y1 vi neg[k] else if i < k then Y1 vi (neg.getD i []) else []) = (List.range neg.length).map fun i => if i < k + 1 then Y1 vi (neg.getD i []) else [] := by
    apply List.map_congr_left
    intro j hj
    by_cases h1 : j = k
    ·subst h1; rw [if_pos rfl, if_pos (by omega), hg]
    ·by_cases h2 : j < k
     ·rw [if_neg h1, if_pos h2, if_pos (by omega)]
     ·rw [if_neg h1, if_neg h2, if_neg (by omega)]
   rw [hnew] at h1
   have hs : ((List.range neg.length).map fun i => if i < k + 1 then Y1 vi (neg.getD i []) else [])[k]? = some (Y1 vi neg[k]) := by simp only [List.getElem?_map, List.getElem?_range hk, Option.map_some, if_pos (show k < k + 1 by omega), hg]
   rw [hg] at hb
 ·unfold W3
  simp only [X0, a05]
  rw [J3 hk, w8 hx]
  simp only [cond_true, Option.bind_some]
  rw [h1]
  simp only [Option.bind_some, Int.toNat_natCast]
  rw [w8 hs, hs, Y6 k (by omega)]
  simp only [Option.bind_some]
  have : (((Y1 vi neg[k]).length : Int) == 0) = false := by
   cases h : Y1 vi neg[k] with
   | nil => rw [h] at hb; cases hb
   | cons a b => simp; omega
  rw [this]
  rfl
 ·refine ⟨.inr ([], (List.range neg.length).map fun i => if i < k + 1 then Y1 vi (neg.getD i []) else []), ?_, _, rfl, rfl⟩
  unfold W3
  simp only [X0, a05]
  rw [J3 hk, w8 hx]
  simp only [cond_true, Option.bind_some]
  rw [h1]
  simp only [Option.bind_some, Int.toNat_natCast]
  rw [w8 hs, hs]
  simp only [Option.bind_some]
  rw [List.isEmpty_iff.1 hb]
  rfl
 ·unfold W3
  simp only [Int.lt_irrefl, decide_false, cond_false]
  have : ((List.range neg.length).map fun i => if i < neg.length then Y1 vi (neg.getD i []) else []) = neg.map (Y1 vi) := by
   apply List.ext_getElem?
   intro i
   by_cases hi : i < neg.length
   ·simp [hi]
   ·simp [hi]
  rw [this]
theorem b0j : ∀ (ds : List Int) (os : List (List Int)) (i k : Nat) (digits : List Int) (options : List (List Int)), digits.length = i + ds.length -> options.length = i + os.length -> options.drop i = os -> ds.length = os.length -> ds.length + 1 <= k -> i + ds.length <= 4194304 ->
 (∀ d ∈ ds, 0 <= d /\ d <= 4194304) -> j5 (Q1 digits options) k ((i : Int), List.replicate i 0 ++ ds) = some (if (adv ds (os.map List.length)).2 = true then .inr (true, List.replicate i 0 ++ (adv ds (os.map List.length)).1) else .inl ((), List.replicate i 0 ++ (adv ds (os.map List.length)).1))
 | [], [], i, k, digits, options, h1, h2, h3, h4, h5, h6, h7 => by
   obtain ⟨k, rfl⟩ : ∃ q, k = q + 1 := ⟨k - 1, by omega⟩
   have : Q1 digits options ((i : Int), List.replicate i 0 ++ []) = some (.done (.inl ((), List.replicate i 0 ++ []))) := by
    unfold Q1
    have : decide ((i : Int) < (digits.length : Int)) = false := by rw [h1]; simp
    simp only [this, cond_false]
   simp only [j5, this, Option.bind_some]
   rfl
 | [], _ :: _, _, _, _, _, _, _, _, h, _, _, _ => by simp at h
 | _ :: _, [], _, _, _, _, _, _, _, h, _, _, _ => by simp at h
 | d :: ds, o :: os, i, k, digits, options, h1, h2, h3, h4, h5, h6, h7 => by
   obtain ⟨k, rfl⟩ : ∃ q, k = q + 1 := ⟨k - 1, by omega⟩
   obtain ⟨d1, d2⟩ := h7 d (by simp)
   simp only [List.length_cons] at h1 h2 h4 h5 h6
   have hA : (List.replicate i (0 : Int) ++ d :: ds)[i]? = some d := by rw [List.getElem?_append_right (by simp)]; simp
   have hil : i < (List.replicate i (0 : Int) ++ d :: ds).length := (List.getElem?_eq_some_iff.1 hA).1
   have ho : options[i]? = some o := by
    have : (options.drop i)[0]? = some o := by rw [h3]; rfl
    rwa [List.getElem?_drop, Nat.add_zero] at this
   have hset : ∀ x : Int, (List.replicate i (0 : Int) ++ d :: ds).set i x = List.replicate i 0 ++ x :: ds := fun x => by
    rw [List.set_append_right _ _ (by simp)]
    simp
   have hA2 : ∀ x : Int, (List.replicate i (0 : Int) ++ x :: ds)[i]? = some x := fun x => by rw [List.getElem?_append_right (by simp)]; simp
   have hw : w64 (d + 1) = d + 1 := a3n (by omega) (by omega)
   have hmap : (o :: os).map List.length = o.length :: os.map List.length := rfl
   rw [hmap]
   by_cases hc : d + 1 < (o.length : Int)
   ·have : Q1 digits options ((i : Int), List.replicate i 0 ++ d :: ds) = some (.done (.inr (true, List.replicate i 0 ++ (d + 1) :: ds))) := by
     unfold Q1
     simp only [X0, Int.toNat_natCast]
     rw [show decide ((i : Int) < (digits.length : Int)) = true from decide_eq_true (by omega), w8 hA, hA]
     simp only [cond_true, Option.bind_some, hw, hset]
     rw [w8 (hA2 (d + 1)), hA2, w8 ho]
     simp only [Option.bind_some]
     rw [show decide (d + 1 < (o.length : Int)) = true from by simpa using hc]
     rfl
    simp only [j5, this, Option.bind_some, adv, if_pos hc, if_true]
   ·have : Q1 digits options ((i : Int), List.replicate i 0 ++ d :: ds) = some (.next (((i + 1 : Nat) : Int), List.replicate (i + 1) 0 ++ ds)) := by
     unfold Q1
     simp only [X0, Int.toNat_natCast]
     rw [show decide ((i : Int) < (digits.length : Int)) = true from decide_eq_true (by omega), w8 hA, hA]
     simp only [cond_true, Option.bind_some, hw, hset]
     rw [w8 (hA2 (d + 1)), hA2, w8 ho]
     simp only [Option.bind_some]
     rw [show decide (d + 1 < (o.length : Int)) = false from by simpa using hc, Y6 i (by omega)]
     simp only [cond_false]
     rw [List.set_append_right _ _ (by simp)]
     simp [List.replicate_succ']
    simp only [j5, this, Option.bind_some, adv, if_neg hc]
    have ih := b0j ds os (i + 1) k digits options (by omega) (by omega) (by rw [<- List.drop_drop, h3]; rfl) (by omega) (by omega) (by omega) (fun x hx => h7 x (by simp [hx]))
    rw [ih]
    simp [List.replicate_succ']
theorem b8I (ds : List Int) (os : List (List Int)) (h : ds.length = os.length) (hl : ds.length <= 4194304) (hd : ∀ d ∈ ds, 0 <= d /\ d <= 4194304) : a1S ds os = some ((adv ds (os.map List.length)).2, (adv ds (os.map List.length)).1) := by
 have := b0j ds os 0 (ds.length + 1) ds os (by omega) (by omega) rfl h (Nat.le_refl _) (by omega) hd
 have e : j5 (Q1 ds os) (ds.length + 1) (0, ds) = _ := this
 unfold a1S
 rw [a05, e]
 cases hf : (adv ds (os.map List.length)).2 <;> simp [w9]
def a0K (pos : List (List Int)) (i : Nat) : List Int := pos.map fun r => r.getD i 0
def a1I (z : List (List Int × Int)) (i : Nat) : List Int := (z.filter fun q => q.2 == (i : Int)).map fun q => q.1.getD i 0
def a2g (pos : List (List Int)) (z : List (List Int × Int)) (i : Nat) : Api_Goal := g0 (a0K pos i) (a1I z i)
def a1R (w : Nat) (pos : List (List Int)) (z : List (List Int × Int)) : Option Api_Box :=
 if (List.range w).any (fun i => a5d (a0K pos i) (a1I z i)) = true then none else some (Api_Box.mk ((List.range w).map fun i => a1E (a2g pos z i)))
theorem a69 (z : List (List Int × Int)) (i : Nat) : (a1I z i).length <= z.length := by
 unfold a1I
 rw [List.length_map]
 exact List.length_filter_le _ _
theorem b4q (pos : List (List Int)) (i w : Nat) (hp : pos.length <= 1000) (hr : ∀ r ∈ pos, r.length = w) (hi : i < w) (g h : List Api_Goal) : j5 (a1k pos ((i : Int), g, h)) (pos.length + 1) (0, ([], [], false)) = some (a0K pos i, [], false) := by
 have := a1x (step := a1k pos ((i : Int), g, h)) (fun k => ((k : Int), (a0K (pos.take k) i, ([] : List Int), false))) pos.length (a0K pos i, [], false) (fun k hk => by
  have hx := List.getElem?_eq_getElem hk
  have hl := hr _ (List.getElem_mem hk)
  generalize pos[k] = r at hx hl
  unfold a1k
  simp only [X0]
  rw [J3 hk, w8 hx]
  simp only [cond_true, Option.bind_some]
  rw [w8 (a2m (show i < r.length by omega))]
  simp only [Option.bind_some]
  rw [a1p (by unfold a0K; simp only [List.length_map, List.length_take, List.length_cons, List.length_nil]; omega), Y6 k (by omega), a0z hx]
  simp [a0K]) (by
  unfold a1k
  simp) (pos.length + 1) (Nat.le_refl _)
 exact this
theorem b4h (neg opts : List (List Int)) (digits : List Int) (i w : Nat) (z : List (List Int × Int)) (hn : neg.length <= 1000) (hr : ∀ r ∈ neg, r.length = w) (hi : i < w) (hzl : z.length = neg.length)
 (hz : ∀ (k : Nat) (q : List Int × Int), z[k]? = some q -> neg[k]? = some q.1 /\ ∃ o d, opts[k]? = some o /\ digits[k]? = some d /\ idx o d = some q.2) (g h : List Api_Goal) (P : List Int) :
 j5 (a1h neg opts digits ((i : Int), g, h)) (neg.length + 1) (0, (P, [], false)) = some (P, a1I z i, false) := by
 have := a1x (step := a1h neg opts digits ((i : Int), g, h)) (fun k => ((k : Int), (P, a1I (z.take k) i, false))) neg.length (P, a1I z i, false) (fun k hk => by
  have hq := List.getElem?_eq_getElem (show k < z.length by omega)
  generalize z[k] = q at hq
  obtain ⟨h1, o, d, h2, h3, h4⟩ := hz k q hq
  have hl := hr _ (List.mem_of_getElem? h1)
  have hneg : a1I (z.take (k + 1)) i = a1I (z.take k) i ++ (if q.2 == (i : Int) then [q.1.getD i 0] else []) := by
   unfold a1I
   rw [a0z hq, List.filter_append, List.map_append]
   by_cases e : q.2 == (i : Int) <;> simp [e]
  have hlen := a69 (z.take k) i
  rw [List.length_take] at hlen
  unfold a1h
  simp only [X0, Int.toNat_natCast]
  rw [J3 hk, w8 h1, w8 h2, w8 h3, h3]
  simp only [cond_true, Option.bind_some]
  rw [h4, hneg]
  simp only [Option.bind_some]
  cases q.2 == (i : Int) with
  | true =>
    simp only [cond_true]
    rw [w8 (a2m (show i < q.1.length by omega))]
    simp only [Option.bind_some]
    rw [a1p (by simp only [List.length_cons, List.length_nil]; omega), Y6 k (by omega)]
    rfl
  | false =>
    rw [Y6 k (by omega)]
    simp) (by
  unfold a1h
  rw [List.take_of_length_le (by omega)]
  simp) (neg.length + 1) (Nat.le_refl _)
 exact this
theorem b75 (w : Nat) (hw : w <= 1000) (pos neg opts : List (List Int)) (digits : List Int) (z : List (List Int × Int)) (hp : pos.length <= 1000) (hpr : ∀ r ∈ pos, r.length = w) (hn : neg.length <= 1000) (hnr : ∀ r ∈ neg, r.length = w) (hzl : z.length = neg.length)
 (hz : ∀ (k : Nat) (q : List Int × Int), z[k]? = some q -> neg[k]? = some q.1 /\ ∃ o d, opts[k]? = some o /\ digits[k]? = some d /\ idx o d = some q.2) :
 ∃ b, a4h (w : Int) pos neg opts digits = some (b, (a1R w pos z).isSome) /\ ∀ b', a1R w pos z = some b' -> b = b' := by
 have key := b1Q (step := a0c (w : Int) pos neg opts digits) (fun i => ((i : Int), ([] : List Api_Goal), (List.range i).map fun i => a1E (a2g pos z i))) (fun i => a5d (a0K pos i) (a1I z i)) w
  (.inl (([] : List Api_Goal), (List.range w).map fun i => a1E (a2g pos z i))) (fun q => ∃ q', q = .inr q' /\ q'.1 = false) (fun i hi hb => ?_) (fun i hi hb => ?_) ?_ (w + 1) (Nat.le_refl _)
 ·unfold a4h
  rw [Int.toNat_natCast]
  rcases key with ⟨k1, k2⟩ | ⟨q, k1, ⟨q', rfl, k2⟩, i, hi, k3⟩
  ·have k1' : j5 (a0c (w : Int) pos neg opts digits) (w + 1) (0, ([] : List Api_Goal), []) = _ := k1
   have hb : a1R w pos z = some (Api_Box.mk ((List.range w).map fun i => a1E (a2g pos z i))) := by
    unfold a1R
    rw [if_neg]
    rw [List.any_eq_true]
    rintro ⟨i, hi, h⟩
    rw [k2 i (by simpa using hi)] at h
    cases h
   rw [k1', hb]
   exact ⟨_, rfl, fun b' h => by simpa using h⟩
  ·have k1' : j5 (a0c (w : Int) pos neg opts digits) (w + 1) (0, ([] : List Api_Goal), []) = _ := k1
   have hb : a1R w pos z = none := by
    unfold a1R
    rw [if_pos]
    rw [List.any_eq_true]
    exact ⟨i, by simpa using hi, k3⟩
   rw [k1', hb]
   refine ⟨Api_Box.mk q'.2.1, ?_, fun b' h => by cases h⟩
   simp only [Option.bind_some, w9, k2]
   rfl
 ·have b1 := b4q pos i w hp hpr hi ([] : List Api_Goal) ((List.range i).map fun i => a1E (a2g pos z i))
  have b2 := b4h neg opts digits i w z hn hnr hi hzl hz ([] : List Api_Goal) ((List.range i).map fun i => a1E (a2g pos z i)) (a0K pos i)
  have h1 : (a0K pos i).length <= 1000 := by unfold a0K; rw [List.length_map]; exact hp
  have h2 := a69 z i
  unfold a0c
  simp only [X0, a05]
  rw [J3 hi, b1]
  simp only [cond_true, Option.bind_some]
  rw [b2]
  simp only [Option.bind_some]
  rw [b4n _ _ (by omega) (by omega), hb]
  simp only [Option.bind_some, cond_false]
  rw [b54 _ _ _ (by omega) (by omega)]
  simp only [Option.bind_some]
  rw [a1p (by simp only [List.length_map, List.length_range, List.length_cons, List.length_nil]; omega), Y6 i (by omega)]
  simp [List.range_succ, a1E, a2g]
 ·have b1 := b4q pos i w hp hpr hi ([] : List Api_Goal) ((List.range i).map fun i => a1E (a2g pos z i))
  have b2 := b4h neg opts digits i w z hn hnr hi hzl hz ([] : List Api_Goal) ((List.range i).map fun i => a1E (a2g pos z i)) (a0K pos i)
  have h1 : (a0K pos i).length <= 1000 := by unfold a0K; rw [List.length_map]; exact hp
  have h2 := a69 z i
  refine ⟨.inr (false, (List.range i).map fun i => a1E (a2g pos z i), (List.range i).map fun i => a1E (a2g pos z i)), ?_, _, rfl, rfl⟩
  unfold a0c
  simp only [X0, a05]
  rw [J3 hi, b1]
  simp only [cond_true, Option.bind_some]
  rw [b2]
  simp only [Option.bind_some]
  rw [b4n _ _ (by omega) (by omega), hb]
  rfl
 ·unfold a0c
  simp
def a0R (opts : List (List Int)) (digits : List Int) : List Int := (opts.zip digits).map fun q => q.1.getD q.2.toNat 0
def b4Y (w : Nat) (pos neg opts : List (List Int)) : List Api_Box := (List.range (tot (opts.map List.length))).filterMap fun k => a1R w pos (neg.zip (a0R opts (dig (opts.map List.length) k)))
def a1J (d : Int) (vi : Int -> Bool) (pos neg : List (List Int)) : List Api_Box :=
 if d < 0 \/ 4 < d \/ (∃ r ∈ pos, (r.length : Int) ≠ d) \/ (∃ r ∈ neg, (r.length : Int) ≠ d) \/ (∃ r ∈ neg, Y1 vi r = []) then [] else b4Y d.toNat pos neg (neg.map (Y1 vi))
theorem b03 {α β : Type} (f : α -> Option β) (l : List α) (x : α) : (l ++ [x]).filterMap f = l.filterMap f ++ (f x).toList := by
 rw [List.filterMap_append]
 cases h : f x <;> simp [h]
theorem b5S (w : Nat) (hw : w <= 1000) (pos neg opts : List (List Int)) (hp : pos.length <= 1000) (hpr : ∀ r ∈ pos, r.length = w) (hn : neg.length <= 1000) (hnr : ∀ r ∈ neg, r.length = w) (hol : opts.length = neg.length) (ho : ∀ o ∈ opts, o ≠ [] /\ o.length <= 1000) (ht : tot (opts.map List.length) <= 4194304) (n : Nat) (hn2 : 4194304 <= n) :
 ∃ q, j5 (a0E (w : Int) pos neg ((), opts)) n (List.replicate neg.length (0 : Int), []) = some (b4Y w pos neg opts, q) := by
 have hms : ∀ m ∈ opts.map List.length, 1 <= m := fun m hm => by
  obtain ⟨o, ho1, rfl⟩ := List.mem_map.1 hm
  have := List.length_pos_iff.2 (ho o ho1).1
  omega
 have htp := b4b _ hms
 have hml : (opts.map List.length).length = neg.length := by rw [List.length_map, hol]
 have hd0 : List.replicate neg.length (0 : Int) = dig (opts.map List.length) 0 := by rw [b2V, hml]
 have hfl : ∀ k, ((List.range k).filterMap fun k => a1R w pos (neg.zip (a0R opts (dig (opts.map List.length) k)))).length <= k := fun k => Nat.le_trans (List.length_filterMap_le _ _) (by simp)
 have hround : ∀ k, k < tot (opts.map List.length) -> ∃ b27, b27 = ((List.range (k + 1)).filterMap fun k => a1R w pos (neg.zip (a0R opts (dig (opts.map List.length) k)))) /\
  a0E (w : Int) pos neg ((), opts) (dig (opts.map List.length) k, (List.range k).filterMap fun k => a1R w pos (neg.zip (a0R opts (dig (opts.map List.length) k)))) =
   some (if (adv (dig (opts.map List.length) k) (opts.map List.length)).2 = true then .next ((adv (dig (opts.map List.length) k) (opts.map List.length)).1, b27) else .done (b27, (adv (dig (opts.map List.length) k) (opts.map List.length)).1)) := fun k hk => by
  have hdl := b04 (opts.map List.length) k
  have hdm : ∀ (j : Nat) (d : Int) (o : List Int), (dig (opts.map List.length) k)[j]? = some d -> opts[j]? = some o -> 0 <= d /\ d < (o.length : Int) := fun j d o h1 h2 => b22 _ k hms j d o.length h1 (by rw [List.getElem?_map, h2]; rfl)
  have hcl : (a0R opts (dig (opts.map List.length) k)).length = neg.length := by unfold a0R; rw [List.length_map, List.length_zip, hdl, hml, hol]; omega
  obtain ⟨b, b1, b2⟩ := b75 w hw pos neg opts (dig (opts.map List.length) k) (neg.zip (a0R opts (dig (opts.map List.length) k))) hp hpr hn hnr (by rw [List.length_zip, hcl]; omega) (fun j q hq => by
   obtain ⟨q1, q2⟩ := b5Z hq
   have hj := (List.getElem?_eq_some_iff.1 q1).1
   have ho1 := List.getElem?_eq_getElem (show j < opts.length by omega)
   have hd1 := List.getElem?_eq_getElem (show j < (dig (opts.map List.length) k).length by omega)
   refine ⟨q1, _, _, ho1, hd1, ?_⟩
   obtain ⟨e1, e2⟩ := hdm j _ _ hd1 ho1
   generalize opts[j] = o at ho1 e2
   generalize (dig (opts.map List.length) k)[j] = d at hd1 e1 e2
   have hc : (a0R opts (dig (opts.map List.length) k))[j]? = some (o.getD d.toNat 0) := by
    unfold a0R
    rw [List.getElem?_map, (List.getElem?_zip_eq_some (z := (o, d))).2 ⟨ho1, hd1⟩]
    rfl
   rw [hc] at q2
   have q3 : o.getD d.toNat 0 = q.2 := Option.some.inj q2
   have := w8 (a2m (show d.toNat < o.length by omega))
   rw [show ((d.toNat : Nat) : Int) = d by omega] at this
   rw [this, q3])
  refine ⟨_, rfl, ?_⟩
  have hfk := hfl k
  unfold a0E
  simp only
  rw [b1, List.range_succ, b03]
  simp only [Option.bind_some]
  have hadv := b8I (dig (opts.map List.length) k) opts (by rw [hdl, hml, hol]) (by rw [hdl, hml]; omega) (fun d hd => by
   obtain ⟨j, hj, rfl⟩ := List.getElem_of_mem hd
   have hd1 := List.getElem?_eq_getElem hj
   have ho1 := List.getElem?_eq_getElem (show j < opts.length by rw [hdl, hml] at hj; omega)
   obtain ⟨e1, e2⟩ := hdm j _ _ hd1 ho1
   have := (ho _ (List.mem_of_getElem? ho1)).2
   omega)
  cases hbx : a1R w pos (neg.zip (a0R opts (dig (opts.map List.length) k))) with
  | none =>
    simp only [Option.isSome_none, cond_false, Option.bind_some, Option.toList_none, List.append_nil]
    rw [hadv]
    simp only [Option.bind_some]
    cases (adv (dig (opts.map List.length) k) (opts.map List.length)).2 <;> rfl
  | some b' =>
    rw [b2 b' hbx]
    simp only [Option.isSome_some, cond_true, Option.toList_some]
    rw [a1p (by simp only [List.length_cons, List.length_nil]; omega)]
    simp only [Option.bind_some]
    rw [hadv]
    simp only [Option.bind_some]
    cases (adv (dig (opts.map List.length) k) (opts.map List.length)).2 <;> rfl
 obtain ⟨b27, e27, hlast⟩ := hround (tot (opts.map List.length) - 1) (by omega)
 obtain ⟨_, a2⟩ := b1u (opts.map List.length) (tot (opts.map List.length) - 1) hms (by omega)
 rw [a2 (by omega)] at hlast
 simp only [Bool.false_eq_true, if_false] at hlast
 rw [show tot (opts.map List.length) - 1 + 1 = tot (opts.map List.length) by omega] at e27
 refine ⟨(adv (dig (opts.map List.length) (tot (opts.map List.length) - 1)) (opts.map List.length)).1, ?_⟩
 have := a1x (step := a0E (w : Int) pos neg ((), opts)) (fun k => (dig (opts.map List.length) k, (List.range k).filterMap fun k => a1R w pos (neg.zip (a0R opts (dig (opts.map List.length) k))))) (tot (opts.map List.length) - 1) _ (fun k hk => by
  obtain ⟨b27, e27, hr⟩ := hround k (by omega)
  obtain ⟨a1, _⟩ := b1u (opts.map List.length) k hms (by omega)
  rw [a1 (by omega)] at hr
  rw [hr, e27]
  rfl) hlast n (by omega)
 rw [hd0]
 refine this.trans ?_
 rw [e27]
 rfl
theorem b6O (d : Int) (vi : Int -> Bool) (vf : Int -> Option Bool) (pos neg : List (List Int)) (hp : pos.length <= 1000) (hn : neg.length <= 10) (hv : ∀ r ∈ neg, ∀ x ∈ r, vf x = some (vi x)) (n : Nat) (hn2 : 4194304 <= n) :
 a2O n d pos neg vf = some (a1J d vi pos neg) := by
 unfold a2O a1J
 have hq1 : (Option.bind (bif decide (d < 0) then some true else some (decide (4 < d))) fun q => some q) = some (decide (d < 0 \/ 4 < d)) := by
  by_cases h1 : d < 0
  ·simp [h1]
  ·by_cases h2 : 4 < d <;> simp [h1, h2]
 rw [b4Z] at hq1
 rw [hq1, b32 d pos (by omega), b32 d neg (by omega)]
 simp only [Option.bind_some]
 by_cases h0 : d < 0 \/ 4 < d
 ·rw [decide_eq_true h0, if_pos (by rcases h0 with h | h <;> simp [h])]
  rfl
 rw [decide_eq_false h0]
 have h0' : ¬ d < 0 /\ ¬ 4 < d := not_or.1 h0
 simp only [cond_false, Option.bind_some]
 have hall : ∀ l : List (List Int), (l.all fun r => (r.length : Int) == d) = false ↔ ∃ r ∈ l, (r.length : Int) ≠ d := fun l => by
  rw [List.all_eq_false]
  simp
 cases hP : pos.all fun r => (r.length : Int) == d with
 | false =>
   rw [if_pos (.inr (.inr (.inl ((hall pos).1 hP))))]
   rfl
 | true =>
   simp only [Bool.not_true, cond_false, Option.bind_some]
   cases hN : neg.all fun r => (r.length : Int) == d with
   | false =>
     rw [if_pos (.inr (.inr (.inr (.inl ((hall neg).1 hN)))))]
     rfl
   | true =>
     simp only [Bool.not_true, cond_false]
     have hpr : ∀ r ∈ pos, r.length = d.toNat := fun r hr => by
      have h1 := List.all_eq_true.1 hP r hr
      have h2 : (r.length : Int) = d := by simpa using h1
      omega
     have hnr : ∀ r ∈ neg, r.length = d.toNat := fun r hr => by
      have h1 := List.all_eq_true.1 hN r hr
      have h2 : (r.length : Int) = d := by simpa using h1
      omega
     have hroom : ∀ b, b <= 1000 -> a2N (neg.length : Int) (neg.length : Int) b = some neg.length := fun b hb => by
      unfold a2N
      have h1 : neg.length * b <= 10 * 1000 := Nat.mul_le_mul hn hb
      have h2 : ((neg.length : Int)) * ((b : Nat) : Int) <= 140737488355328 := by rw [<- Int.natCast_mul]; omega
      rw [show (decide (0 <= (neg.length : Int)) && decide ((neg.length : Int) <= (neg.length : Int)) && decide ((neg.length : Int) * ((b : Nat) : Int) <= 140737488355328)) = true from by simp [h2]]
      simp
     rw [hroom 24 (by omega)]
     simp only [Option.bind_some, a05]
     rcases b6z vi vf neg (by omega) (fun r hr => by have := hnr r hr; omega) hv with ⟨k1, k2⟩ | ⟨q, k1, k2, k3⟩
     ·rw [k1]
      simp only [Option.bind_some, w9]
      rw [hroom 8 (by omega)]
      simp only [Option.bind_some]
      have hto : ∀ l : List (List Int), (∀ r ∈ l, r.length <= 4) -> l.length <= 10 -> tot ((l.map (Y1 vi)).map List.length) <= 4 ^ l.length := by
       intro l
       induction l with
       | nil => intro _ _; simp [tot]
       | cons r l ih =>
         intro h1 h2
         have ih := ih (fun r hr => h1 r (by simp [hr])) (by simp at h2; omega)
         simp only [List.map_cons, tot, List.length_cons, Nat.pow_succ]
         have h3 := a9C vi r r.length
         have h4 := h1 r (by simp)
         have h5 : (Y1 vi r).length <= 4 := by unfold Y1; omega
         rw [Nat.mul_comm]
         exact Nat.mul_le_mul ih h5
      have ht := hto neg (fun r hr => by have := hnr r hr; omega) hn
      have hpow : 4 ^ neg.length <= 4 ^ 10 := Nat.pow_le_pow_right (by omega) hn
      obtain ⟨q, hq⟩ := b5S d.toNat (by omega) pos neg (neg.map (Y1 vi)) hp hpr (by omega) hnr (by rw [List.length_map]) (fun o ho => by
       obtain ⟨r, hr, rfl⟩ := List.mem_map.1 ho
       have h3 := a9C vi r r.length
       have h4 := hnr r hr
       exact ⟨k2 r hr, by unfold Y1; omega⟩) (Nat.le_trans (Nat.le_trans ht hpow) (by decide)) n hn2
      rw [show ((d.toNat : Nat) : Int) = d by omega] at hq
      rw [hq, if_neg]
      ·rfl
      ·rintro (h | h | ⟨r, hr, h⟩ | ⟨r, hr, h⟩ | ⟨r, hr, h⟩)
       ·exact h0'.1 h
       ·exact h0'.2 h
       ·have := hpr r hr; omega
       ·have := hnr r hr; omega
       ·exact k2 r hr h
     ·rw [k1]
      simp only [Option.bind_some, w9]
      rw [if_pos (.inr (.inr (.inr (.inr k3)))), k2]
end Go.Pl
end
section
namespace Go.Pl
open Go Go.RowKit Go.Sx Go.Qx
theorem b76 (x : Int) {n : Int} (h1 : 1 <= n) (h2 : n <= 1000) : ∃ m : Nat, (m : Int) < n /\ a6c (wr .u64 x) n = some (m : Int) := by
 have h0 : 0 <= wr .u64 x := by
  have : wr .u64 x = x % 18446744073709551616 := by
   unfold wr IntKind.wrap
   rfl
  rw [this]
  omega
 have b1 := Int.tmod_lt_of_pos (wr .u64 x) (show 0 < n by omega)
 have b2 := Int.tmod_nonneg n h0
 refine ⟨((wr .u64 x).tmod n).toNat, by omega, ?_⟩
 unfold a6c
 rw [if_neg (by omega)]
 congr 1
 omega
end Go.Pl
end
section
namespace Go.Pl
open Go Go.RowKit Go.Sx Go.Qx
def inB (g : Api_Goal) (S : Int -> Bool) : Bool := g.Pos.all S && g.Neg.all fun x => !S x
theorem b6i (p q : List Int) (S : Int -> Bool) : inB (a1E (g0 p q)) S = true ↔ (∀ x ∈ p, S x = true) /\ ∀ x ∈ q, S x = false := by
 unfold inB a1E
 rw [Bool.and_eq_true, List.all_eq_true, List.all_eq_true]
 constructor
 ·rintro ⟨h1, h2⟩
  exact ⟨fun x hx => h1 x ((a22 p x).2 hx), fun x hx => by simpa using h2 x ((a22 q x).2 hx)⟩
 ·rintro ⟨h1, h2⟩
  exact ⟨fun x hx => h1 x ((a22 p x).1 hx), fun x hx => by simpa using h2 x ((a22 q x).1 hx)⟩
theorem a9h {α β : Type} (P : α -> β -> Prop) : ∀ l : List α, (∀ x ∈ l, ∃ y, P x y) -> ∃ m : List β, m.length = l.length /\ ∀ (j : Nat) (x : α) (y : β), l[j]? = some x -> m[j]? = some y -> P x y
 | [], _ => ⟨[], rfl, fun j x y h => by simp at h⟩
 | a :: l, h => by
   obtain ⟨m, h1, h2⟩ := a9h P l fun x hx => h x (by simp [hx])
   obtain ⟨y, hy⟩ := h a (by simp)
   refine ⟨y :: m, by simp [h1], fun j x z hx hz => ?_⟩
   cases j with
   | zero => simp at hx hz; subst hx; subst hz; exact hy
   | succ j => exact h2 j x z (by simpa using hx) (by simpa using hz)
theorem b4j {vi : Int -> Bool} {neg : List (List Int)} {ds : List Int} (h : ds.length = neg.length) {q : List Int × Int} : q ∈ neg.zip (a0R (neg.map (Y1 vi)) ds) ↔ ∃ (j : Nat) (d : Int), neg[j]? = some q.1 /\ ds[j]? = some d /\ q.2 = (Y1 vi q.1).getD d.toNat 0 := by
 constructor
 ·intro hq
  obtain ⟨j, hj, e⟩ := List.getElem_of_mem hq
  have hq' := List.getElem?_eq_getElem hj
  rw [e] at hq'
  obtain ⟨q1, q2⟩ := b5Z hq'
  have hjn := (List.getElem?_eq_some_iff.1 q1).1
  have hd := List.getElem?_eq_getElem (show j < ds.length by omega)
  refine ⟨j, _, q1, hd, ?_⟩
  unfold a0R at q2
  rw [List.getElem?_map, (List.getElem?_zip_eq_some (z := (Y1 vi q.1, ds[j]))).2 ⟨by rw [List.getElem?_map, q1]; rfl, hd⟩] at q2
  exact (Option.some.inj q2).symm
 ·rintro ⟨j, d, q1, hd, q2⟩
  refine List.mem_of_getElem? (i := j) ?_
  rw [List.getElem?_zip_eq_some]
  refine ⟨q1, ?_⟩
  unfold a0R
  rw [List.getElem?_map, (List.getElem?_zip_eq_some (z := (Y1 vi q.1, d))).2 ⟨by rw [List.getElem?_map, q1]; rfl, hd⟩, q2]
  rfl
theorem a9z {z : List (List Int × Int)} {i : Nat} {x : Int} : x ∈ a1I z i ↔ ∃ q ∈ z, q.2 = (i : Int) /\ q.1.getD i 0 = x := by
 unfold a1I
 simp only [List.mem_map, List.mem_filter, beq_iff_eq]
 constructor
 ·rintro ⟨q, ⟨h1, h2⟩, h3⟩; exact ⟨q, h1, h2, h3⟩
 ·rintro ⟨q, h1, h2, h3⟩; exact ⟨q, ⟨h1, h2⟩, h3⟩
theorem a8n {p q : List Int} : a5d p q = true ↔ ∃ x ∈ p, x ∈ q := by
 unfold a5d
 simp
theorem b0q {d : Int} {vi : Int -> Bool} {pos neg : List (List Int)} {b : Api_Box} (h : b ∈ a1J d vi pos neg) : ∃ (w : Nat) (ds : List Int), d = (w : Int) /\ w <= 4 /\ (∀ r ∈ pos, r.length = w) /\ (∀ r ∈ neg, r.length = w) /\ ds.length = neg.length /\
 (∀ (j : Nat) (r : List Int) (e : Int), neg[j]? = some r -> ds[j]? = some e -> 0 <= e /\ e < ((Y1 vi r).length : Int)) /\ a1R w pos (neg.zip (a0R (neg.map (Y1 vi)) ds)) = some b := by
 unfold a1J at h
 split at h
 ·cases h
 rename_i hc
 simp only [not_or, not_exists, not_and] at hc
 obtain ⟨h1, h2, h3, h4, h5⟩ := hc
 unfold b4Y at h
 obtain ⟨k, hk, hb⟩ := List.mem_filterMap.1 h
 have hms : ∀ m ∈ (neg.map (Y1 vi)).map List.length, 1 <= m := fun m hm => by
  obtain ⟨o, ho, rfl⟩ := List.mem_map.1 hm
  obtain ⟨r, hr, rfl⟩ := List.mem_map.1 ho
  have := List.length_pos_iff.2 (h5 r hr)
  omega
 refine ⟨d.toNat, dig ((neg.map (Y1 vi)).map List.length) k, by omega, by omega, fun r hr => ?_, fun r hr => ?_, by rw [b04, List.length_map, List.length_map], fun j r e hr he => ?_, hb⟩
 ·have := Classical.not_not.1 (h3 r hr); omega
 ·have := Classical.not_not.1 (h4 r hr); omega
 ·exact b22 _ k hms j e _ he (by rw [List.getElem?_map, List.getElem?_map, hr]; rfl)
theorem b1W {w : Nat} {pos : List (List Int)} {z : List (List Int × Int)} {b : Api_Box} (h : a1R w pos z = some b) : b.Parts = (List.range w).map (fun i => a1E (a2g pos z i)) /\ ∀ i, i < w -> a5d (a0K pos i) (a1I z i) = false := by
 unfold a1R at h
 split at h
 ·cases h
 rename_i hc
 have := Option.some.inj h
 subst this
 refine ⟨rfl, fun i hi => ?_⟩
 cases hm : a5d (a0K pos i) (a1I z i) with
 | false => rfl
 | true => exact absurd (List.any_eq_true.2 ⟨i, by simpa using hi, hm⟩) hc
theorem b4s {w : Nat} {f : Nat -> Api_Goal} {i : Nat} (hi : i < w) : ((List.range w).map f)[i]? = some (f i) := by simp [hi]
theorem b6c {w : Nat} (hw : w <= 4) {vi : Int -> Bool} {pos neg : List (List Int)} (hpr : ∀ r ∈ pos, r.length = w) (hnr : ∀ r ∈ neg, r.length = w) (S : Nat -> Int -> Bool) (hS : ∀ i, i < w -> ∀ r ∈ neg, vi (r.getD i 0) = false -> S i (r.getD i 0) = true) :
 (∃ b ∈ a1J (w : Int) vi pos neg, ∀ i, i < w -> inB (b.Parts.getD i (g0 [] [])) (S i) = true) ↔ (∀ r ∈ pos, ∀ i, i < w -> S i (r.getD i 0) = true) /\ ∀ r ∈ neg, ∃ i, i < w /\ S i (r.getD i 0) = false := by
 have hpart : ∀ {b : Api_Box} {z : List (List Int × Int)}, a1R w pos z = some b -> ∀ i, i < w -> (inB (b.Parts.getD i (g0 [] [])) (S i) = true ↔ (∀ x ∈ a0K pos i, S i x = true) /\ ∀ x ∈ a1I z i, S i x = false) := fun hb i hi => by
  rw [(b1W hb).1, List.getD, b4s hi, Option.getD_some]
  exact b6i _ _ _
 have hposR : ∀ i, (∀ x ∈ a0K pos i, S i x = true) ↔ ∀ r ∈ pos, S i (r.getD i 0) = true := fun i => by
  unfold a0K
  constructor
  ·exact fun h r hr => h _ (List.mem_map.2 ⟨r, hr, rfl⟩)
  ·intro h x hx
   obtain ⟨r, hr, rfl⟩ := List.mem_map.1 hx
   exact h r hr
 constructor
 ·rintro ⟨b, hb, hin⟩
  obtain ⟨w', ds, e, _, _, _, hdl, hdd, hbx⟩ := b0q hb
  obtain rfl : w = w' := by omega
  refine ⟨fun r hr i hi => (hposR i).1 ((hpart hbx i hi).1 (hin i hi)).1 r hr, fun r hr => ?_⟩
  obtain ⟨j, hj, e⟩ := List.getElem_of_mem hr
  have hrj := List.getElem?_eq_getElem hj
  rw [e] at hrj
  have hdj := List.getElem?_eq_getElem (show j < ds.length by omega)
  obtain ⟨d1, d2⟩ := hdd j r _ hrj hdj
  have ho := a2m (show (ds[j]).toNat < (Y1 vi r).length by omega)
  obtain ⟨i, e1, e2, e3⟩ := b2U.1 (List.mem_of_getElem? ho)
  have hiw : i < w := by have := hnr r hr; omega
  refine ⟨i, hiw, ((hpart hbx i hiw).1 (hin i hiw)).2 _ (a9z.2 ⟨(r, (Y1 vi r).getD (ds[j]).toNat 0), (b4j hdl).2 ⟨j, _, hrj, hdj, rfl⟩, e1, rfl⟩)⟩
 ·rintro ⟨h1, h2⟩
  obtain ⟨ds, hdl, hdd⟩ := a9h (fun r (d : Int) => 0 <= d /\ d < ((Y1 vi r).length : Int) /\ ∃ i : Nat, (Y1 vi r).getD d.toNat 0 = (i : Int) /\ i < w /\ S i (r.getD i 0) = false) neg fun r hr => by
   obtain ⟨i, hi, hs⟩ := h2 r hr
   have hv : vi (r.getD i 0) = true := by
    cases h : vi (r.getD i 0) with
    | true => rfl
    | false => rw [hS i hi r hr h] at hs; cases hs
   have hm : ((i : Nat) : Int) ∈ Y1 vi r := b2U.2 ⟨i, rfl, by have := hnr r hr; omega, hv⟩
   obtain ⟨k, hk, e⟩ := List.getElem_of_mem hm
   refine ⟨(k : Int), by omega, by omega, i, ?_, hi, hs⟩
   rw [Int.toNat_natCast]
   simp [List.getD, List.getElem?_eq_getElem hk, e]
  have hne : ∀ r ∈ neg, Y1 vi r ≠ [] := fun r hr he => by
   obtain ⟨j, hj, e⟩ := List.getElem_of_mem hr
   have hrj := List.getElem?_eq_getElem hj
   rw [e] at hrj
   obtain ⟨d1, d2, _⟩ := hdd j r _ hrj (List.getElem?_eq_getElem (show j < ds.length by omega))
   rw [he] at d2
   simp at d2
   omega
  obtain ⟨k, hk, hdig⟩ := b3q ((neg.map (Y1 vi)).map List.length) ds (by rw [List.length_map, List.length_map, hdl]) fun j d m hd hm => by
   rw [List.getElem?_map, List.getElem?_map] at hm
   have hjn : j < neg.length := by have := (List.getElem?_eq_some_iff.1 hd).1; omega
   have hrj := List.getElem?_eq_getElem hjn
   rw [hrj] at hm
   have hm' : (Y1 vi neg[j]).length = m := by simpa using hm
   obtain ⟨d1, d2, _⟩ := hdd j _ d hrj hd
   exact ⟨d1, by omega⟩
  have hz : ∀ q ∈ neg.zip (a0R (neg.map (Y1 vi)) ds), ∃ i : Nat, q.2 = (i : Int) /\ i < w /\ S i (q.1.getD i 0) = false := fun q hq => by
   obtain ⟨j, d, q1, q2, q3⟩ := (b4j hdl).1 hq
   obtain ⟨_, _, i, e1, e2, e3⟩ := hdd j q.1 d q1 q2
   exact ⟨i, q3.trans e1, e2, e3⟩
  have hnegS : ∀ i, i < w -> ∀ x ∈ a1I (neg.zip (a0R (neg.map (Y1 vi)) ds)) i, S i x = false := fun i _ x hx => by
   obtain ⟨q, hq, q1, rfl⟩ := a9z.1 hx
   obtain ⟨i', e1, _, e3⟩ := hz q hq
   obtain rfl : i = i' := by omega
   exact e3
  have hbx : a1R w pos (neg.zip (a0R (neg.map (Y1 vi)) ds)) = some (Api_Box.mk ((List.range w).map fun i => a1E (a2g pos (neg.zip (a0R (neg.map (Y1 vi)) ds)) i))) := by
   unfold a1R
   rw [if_neg]
   rw [List.any_eq_true]
   rintro ⟨i, hi, hm⟩
   have hi : i < w := by simpa using hi
   obtain ⟨x, x1, x2⟩ := a8n.1 hm
   have a1 := (hposR i).2 (fun r hr => h1 r hr i hi) x x1
   rw [hnegS i hi x x2] at a1
   cases a1
  refine ⟨_, ?_, fun i hi => (hpart hbx i hi).2 ⟨(hposR i).2 fun r hr => h1 r hr i hi, hnegS i hi⟩⟩
  unfold a1J
  rw [if_neg]
  ·unfold b4Y
   rw [Int.toNat_natCast]
   refine List.mem_filterMap.2 ⟨k, by simpa using hk, ?_⟩
   rw [hdig]
   exact hbx
  ·rintro (h | h | ⟨r, hr, h⟩ | ⟨r, hr, h⟩ | ⟨r, hr, h⟩)
   ·omega
   ·omega
   ·have := hpr r hr; omega
   ·have := hnr r hr; omega
   ·exact hne r hr h
end Go.Pl
end
section
namespace Go.Pl
open Go Go.RowKit Go.Sx Go.Qx
def a5v (_ : Int) : Nat := 1
def a2f (l : List Int) : Nat := (l.map a5v).sum + 1
def a5R (_ : Int) : Nat := 1
def b3Q (l : List Int) : Nat := (l.map a5R).sum + 1
theorem b1q {α : Type} (b : α -> Nat) (h : ∀ x, 1 <= b x) : ∀ l : List α, l.length <= (l.map b).sum
 | [] => Nat.zero_le _
 | y :: l => by
   have h1 := h y
   have h2 := b1q b h l
   rw [List.map_cons, List.sum_cons, List.length_cons]
   omega
end Go.Pl
end
section
namespace Go.Pl
open Go Go.RowKit Go.Sx Go.Qx
theorem b7T (n : Nat) : W4 (n + 60) = some true := by kernel_rfl
def Q0 (t x : Int) : Bool := !((a3Y .u8 (t.fdiv (2 ^ (min x.toNat IntKind.u8.bits))) 1) == 0)
theorem b9T (a : Int) : a3Y .u8 a 1 = 0 \/ a3Y .u8 a 1 = 1 := by
 unfold a3Y
 have h1 : (BitVec.ofInt IntKind.u8.bits a &&& BitVec.ofInt IntKind.u8.bits 1).toNat = (BitVec.ofInt IntKind.u8.bits a).toNat % 2 := by
  rw [BitVec.toNat_and]
  exact Nat.and_one_is_mod _
 rw [h1]
 have h2 : IntKind.u8.wrap (((BitVec.ofInt IntKind.u8.bits a).toNat % 2 : Nat) : Int) = (((BitVec.ofInt IntKind.u8.bits a).toNat % 2 : Nat) : Int) % 256 := by
  unfold IntKind.wrap
  rfl
 rw [h2]
 omega
theorem b7I (t x : Int) : ((a3Y .u8 (t.fdiv (2 ^ (min x.toNat IntKind.u8.bits))) 1) == 1) = Q0 t x := by
 unfold Q0
 rcases b9T (t.fdiv (2 ^ (min x.toNat IntKind.u8.bits))) with h | h <;> rw [h] <;> rfl
theorem b2D (t : Int) {x : Int} (h0 : 0 <= x) (h7 : x <= 7) : a65 .u8 t (wr .u64 x) = some (t.fdiv (2 ^ (min x.toNat IntKind.u8.bits))) := by
 have hw : wr .u64 x = x := by
  have : wr .u64 x = x % 18446744073709551616 := by
   unfold wr IntKind.wrap
   rfl
  rw [this]
  omega
 rw [hw]
 unfold a65
 rw [if_neg (by omega)]
def i7 (x : Int) : Prop := 0 <= x /\ x <= 7
theorem b82 (p q : List Int) (b : Bool) (t : Int) (hp : ∀ x ∈ p, i7 x) (hq : ∀ x ∈ q, i7 x) (h1 : p.length <= 4194304) (h2 : q.length <= 4194304) : a1Y (Api_Goal.mk p q b) t = some (inB (Api_Goal.mk p q b) (Q0 t)) := by
 unfold a1Y inB
 have l1 := a8f (step := a0Z (Api_Goal.mk p q b) t) p (Q0 t) false (fun i x hx => by
  have hi : i < p.length := (List.getElem?_eq_some_iff.1 hx).1
  obtain ⟨a1, a2⟩ := hp x (List.mem_of_getElem? hx)
  unfold a0Z
  simp only [X0]
  rw [J3 (show i < (Api_Goal.mk p q b).Pos.length from hi), w8 (show (Api_Goal.mk p q b).Pos[i]? = some x from hx)]
  simp only [cond_true, Option.bind_some]
  rw [show decide (x < 0) = false from by simpa using a1, show decide (7 < x) = false from by simpa using a2]
  simp only [cond_false, Option.bind_some]
  rw [b2D t a1 a2, Y6 i (by omega)]
  simp only [Option.bind_some]
  unfold Q0
  cases (a3Y .u8 (t.fdiv (2 ^ (min x.toNat IntKind.u8.bits))) 1) == 0 <;> rfl) (by
  unfold a0Z
  simp)
 have l2 := a8f (step := a0X (Api_Goal.mk p q b) t) q (fun x => !Q0 t x) false (fun i x hx => by
  have hi : i < q.length := (List.getElem?_eq_some_iff.1 hx).1
  obtain ⟨a1, a2⟩ := hq x (List.mem_of_getElem? hx)
  unfold a0X
  simp only [X0]
  rw [J3 (show i < (Api_Goal.mk p q b).Neg.length from hi), w8 (show (Api_Goal.mk p q b).Neg[i]? = some x from hx)]
  simp only [cond_true, Option.bind_some]
  rw [show decide (x < 0) = false from by simpa using a1, show decide (7 < x) = false from by simpa using a2]
  simp only [cond_false, Option.bind_some]
  rw [b2D t a1 a2, Y6 i (by omega)]
  simp only [Option.bind_some]
  rw [b7I]
  cases Q0 t x <;> rfl) (by
  unfold a0X
  simp)
 simp only [a05]
 rw [show (Api_Goal.mk p q b).Pos.length = p.length from rfl, l1]
 cases hp' : p.all (Q0 t)
 ·simp [w9]
 ·simp only [if_true, Option.bind_some, w9]
  rw [show (Api_Goal.mk p q b).Neg.length = q.length from rfl, l2]
  cases hq' : q.all fun x => !Q0 t x
  ·simp [w9]
  ·simp [w9]
theorem b6B (r el : List Int) (hr : ∀ x ∈ r, i7 x) (hl : r.length <= el.length) (h1 : r.length <= 4194304) : W6 r el = some ((List.range r.length).all fun i => Q0 (el.getD i 0) (r.getD i 0)) := by
 unfold W6
 have l1 := a8f (step := a0l r el) (List.range r.length) (fun i => Q0 (el.getD i 0) (r.getD i 0)) false (fun i j hj => by
  have hi : i < r.length := by have := (List.getElem?_eq_some_iff.1 hj).1; simpa using this
  obtain rfl : i = j := by rw [List.getElem?_range hi] at hj; exact Option.some.inj hj
  have hx := a2m hi
  obtain ⟨a1, a2⟩ := hr _ (List.mem_of_getElem? hx)
  unfold a0l
  simp only [X0]
  rw [J3 hi, w8 (a2m (show i < el.length by omega)), w8 hx]
  simp only [cond_true, Option.bind_some]
  rw [b2D _ a1 a2, Y6 i (by omega)]
  simp only [Option.bind_some]
  unfold Q0
  cases (a3Y .u8 ((el.getD i 0).fdiv (2 ^ (min (r.getD i 0).toNat IntKind.u8.bits))) 1) == 0 <;> rfl) (by
  unfold a0l
  simp)
 rw [List.length_range] at l1
 rw [a05, l1]
 cases (List.range r.length).all fun i => Q0 (el.getD i 0) (r.getD i 0) <;> rfl
def b0z (w : Nat) (rs : List (List Int)) : Prop := ∀ r ∈ rs, (r.length = w \/ r.length = w + 1) /\ ∀ x ∈ r, i7 x
section
variable {L : List Int}
theorem b7O (hL : L.length <= 4194304) (w : Nat) (hw : w <= 1000) {s : Semtypebase_Source} (h : OS L s) : ∃ r u, j5 (X6 (w : Int)) (w + 1) ([], 0, s) = some (r, u) /\ OS L u /\ r.length = w /\ ∀ x ∈ r, i7 x := by
 obtain ⟨g, u, e, hu, h1, h2⟩ := b8d (γ := List Int) (L := L) (step := X6 (w : Int)) (fun g j s => (g, j, s)) (fun g s => (g, s)) (fun j g => g.length = j /\ ∀ x ∈ g, i7 x) w
  (fun j g s hj hI hs => by
    obtain ⟨k, u, e, hu, k0, k1⟩ := b1w hL hs (n := 8) (by omega) (by omega)
    refine ⟨g ++ [k], u, ?_, hu, by simp [hI.1], fun y hy => ?_⟩
    ·unfold X6
     simp only [X0]
     rw [J3 hj, e]
     simp only [cond_true, Option.bind_some]
     rw [a1p (by simp only [List.length_cons, List.length_nil]; have := hI.1; omega), Y6 j (by omega)]
     rfl
    ·rcases List.mem_append.1 hy with hy | hy
     ·exact hI.2 y hy
     ·rw [List.mem_singleton.1 hy]; exact ⟨k0, by omega⟩) (fun g s => by
    unfold X6
    simp) w 0 (w + 1) [] s (by omega) (Nat.le_refl _) ⟨rfl, fun x hx => by cases hx⟩ h
 exact ⟨g, u, e, hu, h1, h2⟩
theorem b2Z (hL : L.length <= 4194304) (w : Nat) (hw : w <= 1000) : ∀ (m k : Nat) (out : List (List Int)) (s : Semtypebase_Source), m + 1 <= k -> m <= 1000 -> out.length + m <= 1000 -> OS L s -> b0z w out ->
 ∃ rs u, j5 (X2 (w : Int)) k (out, (m : Int), s) = some (rs, u) /\ rs.length = out.length + m /\ b0z w rs
 | 0, k, out, s, hk, _, _, hs, hr => by
   obtain ⟨k, rfl⟩ : ∃ q, k = q + 1 := ⟨k - 1, by omega⟩
   have : X2 (w : Int) (out, ((0 : Nat) : Int), s) = some (.done (out, s)) := rfl
   exact ⟨out, s, by simp only [j5, this, Option.bind_some], rfl, hr⟩
 | m + 1, k, out, s, hk, hm, ho, hs, hr => by
   obtain ⟨k, rfl⟩ : ∃ q, k = q + 1 := ⟨k - 1, by omega⟩
   obtain ⟨r, u, e1, hu, r1, r2⟩ := b7O hL w hw hs
   obtain ⟨z, u2, e2, hu2, _, _⟩ := b1w hL hu (n := 12) (by omega) (by omega)
   obtain ⟨r', hr', hr'1⟩ : ∃ r', (Option.bind (bif z == 11 then (Option.bind (a0q (r.length + ([0] : List Int).length) 8) fun _ => some (r ++ ([0] : List Int))) else (some r)) fun q => some q) = some r' /\ ((r'.length = w \/ r'.length = w + 1) /\ ∀ x ∈ r', i7 x) := by
    cases z == 11
    ·exact ⟨r, rfl, .inl r1, r2⟩
    ·refine ⟨r ++ [0], ?_, .inr (by simp [r1]), fun x hx => ?_⟩
     ·rw [a1p (by simp only [List.length_cons, List.length_nil]; omega)]; rfl
     ·rcases List.mem_append.1 hx with hx | hx
      ·exact r2 x hx
      ·rw [List.mem_singleton.1 hx]; exact ⟨by omega, by omega⟩
   rw [b4Z] at hr'
   have : X2 (w : Int) (out, ((m + 1 : Nat) : Int), s) = some (.next (out ++ [r'], (m : Int), u2)) := by
    unfold X2
    rw [show decide (0 < ((m + 1 : Nat) : Int)) = true from decide_eq_true (by omega), Int.toNat_natCast, e1]
    simp only [cond_true, Option.bind_some]
    rw [e2]
    simp only [Option.bind_some]
    rw [hr']
    simp only [Option.bind_some]
    rw [a1p (by simp only [List.length_cons, List.length_nil]; omega), X0, a3n (by omega) (by omega)]
    simp only [Option.bind_some]
    congr 4
    omega
   obtain ⟨rs, u3, e3, l3, t3⟩ := b2Z hL w hw m k (out ++ [r']) u2 (by omega) (by omega) (by simp; omega) hu2 (fun x hx => by
    rcases List.mem_append.1 hx with hx | hx
    ·exact hr x hx
    ·rw [List.mem_singleton.1 hx]; exact hr'1)
   exact ⟨rs, u3, by simp only [j5, this, Option.bind_some]; exact e3, by rw [l3]; simp; omega, t3⟩
end
theorem b4r (l : List Int) (hl : l.length <= 4194304) (w m : Nat) (hw : w <= 1000) (hm : m <= 100) : ∃ rs, V3 l (w : Int) (m : Int) = some rs /\ rs.length <= m /\ b0z w rs := by
 have h0 : OS l (Semtypebase_Source.mk l 0) := ⟨rfl, by show (0 : Int) <= 0; omega, by show (0 : Int) <= _; omega⟩
 obtain ⟨k, u, e, hu, k0, k1⟩ := b1w hl h0 (n := ((m + 1 : Nat) : Int)) (by omega) (by omega)
 obtain ⟨j, rfl⟩ : ∃ j : Nat, k = (j : Int) := ⟨k.toNat, by omega⟩
 obtain ⟨rs, u3, e3, l3, t3⟩ := b2Z hl w hw j (j + 2) [] u (by omega) (by omega) (by simp; omega) hu (fun x hx => by cases hx)
 refine ⟨rs, ?_, by simp at l3; omega, t3⟩
 unfold V3
 rw [X0, a3n (by omega) (by omega), show ((m : Int) + 1) = ((m + 1 : Nat) : Int) by omega, e]
 simp only [Option.bind_some, Int.toNat_natCast]
 rw [e3]
 rfl
theorem b6y (d : Int) (pos neg : List (List Int)) (hp : pos.length <= 1000) (hn : neg.length <= 10) (n : Nat) (hn2 : 4194304 <= n) : a1N n d pos neg = some (a1J d (fun _ => true) pos neg) := by
 unfold a1N
 have h := b6O d (fun _ => true) (fun z1 => Option.bind (a3s z1) fun r2 => some r2) pos neg hp hn (fun r _ x _ => rfl) n hn2
 rw [h]
 rfl
theorem b4S {w : Nat} {pos neg : List (List Int)} (hp : b0z w pos) (hn : b0z w neg) (hpl : pos.length <= 100) (hnl : neg.length <= 100) {b : Api_Box} (hb : b ∈ a1J (w : Int) (fun _ => true) pos neg) :
 b.Parts.length = w /\ ∀ (i : Nat) (g : Api_Goal), b.Parts[i]? = some g -> ∃ p q, g = g0 p q /\ srt p = p /\ srt q = q /\ (∀ x ∈ p, i7 x) /\ (∀ x ∈ q, i7 x) /\ p.length <= 1000 /\ q.length <= 1000 /\ a5d p q = false := by
 obtain ⟨w', ds, e, _, hpr, hnr, hdl, hdd, hbx⟩ := b0q hb
 obtain rfl : w = w' := by omega
 obtain ⟨hP, hM⟩ := b1W hbx
 refine ⟨by rw [hP]; simp, fun i g hg => ?_⟩
 rw [hP] at hg
 have hi : i < w := by have := (List.getElem?_eq_some_iff.1 hg).1; simpa using this
 rw [b4s hi] at hg
 have hg := Option.some.inj hg
 subst hg
 have h1 : (a0K pos i).length <= 1000 := by unfold a0K; rw [List.length_map]; omega
 have h2 := a69 (neg.zip (a0R (neg.map (Y1 fun _ => true)) ds)) i
 rw [List.length_zip] at h2
 refine ⟨srt (a0K pos i), srt (a1I (neg.zip (a0R (neg.map (Y1 fun _ => true)) ds)) i), rfl, b4f _, b4f _, fun x hx => ?_, fun x hx => ?_, Nat.le_trans (b4m _) h1, Nat.le_trans (b4m _) (by omega), ?_⟩
 ·obtain ⟨r, hr, rfl⟩ := List.mem_map.1 ((a22 _ x).1 hx)
  exact (hp r hr).2 _ (List.mem_of_getElem? (a2m (by have := hpr r hr; omega)))
 ·obtain ⟨q, hq, _, rfl⟩ := a9z.1 ((a22 _ x).1 hx)
  have hr := (List.of_mem_zip (show (q.1, q.2) ∈ neg.zip _ from hq)).1
  exact (hn q.1 hr).2 _ (List.mem_of_getElem? (a2m (by have := hnr q.1 hr; omega)))
 ·cases hm : a5d (srt (a0K pos i)) (srt (a1I (neg.zip (a0R (neg.map (Y1 fun _ => true)) ds)) i)) with
  | false => rfl
  | true =>
    obtain ⟨x, x1, x2⟩ := a8n.1 hm
    have := hM i hi
    rw [a8n.2 ⟨x, (a22 _ x).1 x1, (a22 _ x).1 x2⟩] at this
    cases this
end Go.Pl
end
section
namespace Go.Pl
open Go Go.RowKit Go.Sx Go.Qx
theorem b8F (sets : List Int) (w : Nat) (hw : w <= 1000) : ∀ (m i k : Nat) (el : List Int), i + m = w -> m + 1 <= k -> el.length = w -> ∃ el', j5 (w4 sets (w : Int)) k (el, (i : Int)) = some el' /\ el'.length = w := by
 have hww : wr .i64 (w : Int) = (w : Int) := by rw [X0, a3n (by omega) (by omega)]
 intro m
 induction m with
 | zero =>
   intro i k el h1 h2 h3
   obtain ⟨k, rfl⟩ : ∃ q, k = q + 1 := ⟨k - 1, by omega⟩
   have e : i = w := by omega
   subst e
   have : w4 sets (i : Int) (el, (i : Int)) = some (.done el) := by
    unfold w4
    simp only [hww, Int.lt_irrefl, decide_false, cond_false, Option.bind_some]
   exact ⟨el, by simp only [j5, this, Option.bind_some], h3⟩
 | succ m ih =>
   intro i k el h1 h2 h3
   obtain ⟨k, rfl⟩ : ∃ q, k = q + 1 := ⟨k - 1, by omega⟩
   by_cases hs : i < sets.length
   ·have hx := List.getElem?_eq_getElem hs
    have he := List.getElem?_eq_getElem (show i < el.length by omega)
    have : w4 sets (w : Int) (el, (i : Int)) = some (.next (el.set i sets[i], ((i + 1 : Nat) : Int))) := by
     unfold w4
     simp only [hww, Int.toNat_natCast]
     rw [J3 (show i < w by omega), J3 hs]
     simp only [cond_true, Option.bind_some]
     rw [w8 hx, w8 he, he, X0, Y6 i (by omega)]
     rfl
    obtain ⟨el', e1, e2⟩ := ih (i + 1) k (el.set i sets[i]) (by omega) (by omega) (by simpa using h3)
    exact ⟨el', by simp only [j5, this, Option.bind_some]; exact e1, e2⟩
   ·have : w4 sets (w : Int) (el, (i : Int)) = some (.done el) := by
     unfold w4
     simp only [hww]
     rw [J3 (show i < w by omega), show decide ((i : Int) < (sets.length : Int)) = false from by simp; omega]
     rfl
    exact ⟨el, by simp only [j5, this, Option.bind_some], h3⟩
theorem b52 (fuel : Nat) (hf : 300000000 <= fuel) (d : Int) (pos neg sets : List Int) (hb0 : a2f pos <= 1048576) (hb1 : a2f neg <= 1048576) : W9 fuel d pos neg sets = some true := by
 obtain ⟨q, hq⟩ : ∃ q, fuel = q + 60 := ⟨fuel - 60, by omega⟩
 have haw : W4 fuel = some true := by rw [hq]; exact b7T q
 have hlp : pos.length <= 4194304 := by have := b1q a5v (fun _ => Nat.le_refl _) pos; unfold a2f at hb0; omega
 have hln : neg.length <= 4194304 := by have := b1q a5v (fun _ => Nat.le_refl _) neg; unfold a2f at hb1; omega
 obtain ⟨w, hw, hdq⟩ := b76 d (n := 4) (by omega) (by omega)
 have hww : wr .i64 (w : Int) = (w : Int) := by rw [X0, a3n (by omega) (by omega)]
 obtain ⟨P, hP, hPl, hPt⟩ := b4r pos hlp w 3 (by omega) (by omega)
 obtain ⟨Q, hQ, hQl, hQt⟩ := b4r neg hln w 4 (by omega) (by omega)
 have hP : V3 pos (w : Int) 3 = some P := hP
 have hQ : V3 neg (w : Int) 4 = some Q := hQ
 unfold W9
 rw [hdq]
 simp only [Option.bind_some, hww]
 rw [hP, hQ]
 simp only [Option.bind_some]
 rw [b6y (w : Int) P Q (by omega) (by omega) fuel (by omega), haw, a1p (by omega), a1p (by omega)]
 simp only [Option.bind_some]
 have l1 := a1x (step := Q5 (w : Int) P Q) (fun i => (((P ++ Q).take i).all fun r => (r.length : Int) == (w : Int), (i : Int))) (P ++ Q).length ((P ++ Q).all fun r => (r.length : Int) == (w : Int)) (fun i hi => by
  have hx := List.getElem?_eq_getElem hi
  have hil : (P ++ Q).length <= 10 := by rw [List.length_append]; omega
  unfold Q5
  simp only [hww, X0]
  rw [J3 hi, w8 hx, a0z hx, List.all_append, Y6 i (by omega)]
  simp only [cond_true, Option.bind_some]
  cases ((P ++ Q).take i).all fun r => (r.length : Int) == (w : Int) <;> simp) (by
  unfold Q5
  simp only [List.take_length, Int.lt_irrefl, decide_false, cond_false]) ((P ++ Q).length + 1) (Nat.le_refl _)
 have l1' : j5 (Q5 (w : Int) P Q) ((P ++ Q).length + 1) (true, 0) = _ := l1
 rw [a05, l1']
 simp only [Option.bind_some]
 cases hG : (P ++ Q).all fun r => (r.length : Int) == (w : Int) with
 | false =>
   have hbad : a1J (w : Int) (fun _ => true) P Q = [] := by
    unfold a1J
    rw [if_pos]
    rw [List.all_append, Bool.and_eq_false_iff] at hG
    rcases hG with h | h
    ·obtain ⟨r, hr, h⟩ := List.all_eq_false.1 h
     exact .inr (.inr (.inl ⟨r, hr, by simpa using h⟩))
    ·obtain ⟨r, hr, h⟩ := List.all_eq_false.1 h
     exact .inr (.inr (.inr (.inl ⟨r, hr, by simpa using h⟩)))
   rw [hbad]
   rfl
 | true =>
   simp only [Bool.not_true, cond_false]
   have hlen : ∀ r ∈ P ++ Q, r.length = w := fun r hr => by
    have h1 := List.all_eq_true.1 hG r hr
    have h2 : (r.length : Int) = (w : Int) := by simpa using h1
    omega
   have hpr : ∀ r ∈ P, r.length = w := fun r hr => hlen r (by simp [hr])
   have hnr : ∀ r ∈ Q, r.length = w := fun r hr => hlen r (by simp [hr])
   have hsem := b6c (w := w) (by omega) (vi := fun _ => true) hpr hnr
   have hfacts := fun (b : Api_Box) (hb : b ∈ a1J (w : Int) (fun _ => true) P Q) => b4S hPt hQt (by omega) (by omega) hb
   generalize a1J (w : Int) (fun _ => true) P Q = B at hsem hfacts
   rcases Bool.eq_false_or_eq_true (decide (2000 < (B.length : Int))) with h2 | h2
   ·rw [h2]; rfl
   rw [h2]
   have hBl : B.length <= 2000 := by simp at h2; omega
   simp only [cond_false, Option.bind_some]
   rcases Bool.eq_false_or_eq_true (decide (12 < (sets.length : Int))) with h3 | h3
   ·rw [h3]; rfl
   rw [h3]
   simp only [cond_false]
   have hroom : a2N (w : Int) (w : Int) 1 = some w := by
    unfold a2N
    rw [show (decide (0 <= (w : Int)) && decide ((w : Int) <= (w : Int)) && decide ((w : Int) * ((1 : Nat) : Int) <= 140737488355328)) = true from by simp; omega]
    simp
   rw [hroom]
   simp only [Option.bind_some, Int.toNat_natCast]
   obtain ⟨el, he, hel⟩ := b8F sets w (by omega) w 0 (w + 1) (List.replicate w 0) (by omega) (Nat.le_refl _) (by simp)
   have he' : j5 (w4 sets (w : Int)) (w + 1) (List.replicate w (0 : Int), 0) = some el := he
   rw [he']
   simp only [Option.bind_some, a05]
   have hrow : ∀ r, r.length = w -> (∀ x ∈ r, i7 x) -> W6 r el = some ((List.range w).all fun i => Q0 (el.getD i 0) (r.getD i 0)) := fun r hr h7 => by
    rw [b6B r el h7 (by omega) (by omega), hr]
   have l3 := a1x (step := Q7 P) (fun i => (el, (P.take i).all (fun r => (List.range w).all fun i => Q0 (el.getD i 0) (r.getD i 0)), (i : Int))) P.length (el, P.all fun r => (List.range w).all fun i => Q0 (el.getD i 0) (r.getD i 0)) (fun i hi => by
    have hx := List.getElem?_eq_getElem hi
    have hm := List.getElem_mem hi
    have hr := hrow _ (hpr _ hm) (hPt _ hm).2
    unfold Q7
    simp only [X0]
    rw [J3 hi, w8 hx, a0z hx, List.all_append, Y6 i (by omega)]
    simp only [cond_true, Option.bind_some]
    rw [hr]
    cases (P.take i).all fun r => (List.range w).all fun i => Q0 (el.getD i 0) (r.getD i 0) <;> simp) (by
    unfold Q7
    simp) (P.length + 1) (Nat.le_refl _)
   have l3' : j5 (Q7 P) (P.length + 1) (el, true, 0) = _ := l3
   rw [l3']
   simp only [Option.bind_some]
   have l4 := a1x (step := Q8 Q (el, P.all fun r => (List.range w).all fun i => Q0 (el.getD i 0) (r.getD i 0))) (fun i => ((P.all fun r => (List.range w).all fun i => Q0 (el.getD i 0) (r.getD i 0)) && (Q.take i).all (fun r => !((List.range w).all fun i => Q0 (el.getD i 0) (r.getD i 0))), (i : Int))) Q.length
    ((P.all fun r => (List.range w).all fun i => Q0 (el.getD i 0) (r.getD i 0)) && Q.all fun r => !((List.range w).all fun i => Q0 (el.getD i 0) (r.getD i 0))) (fun i hi => by
    have hx := List.getElem?_eq_getElem hi
    have hm := List.getElem_mem hi
    have hr := hrow _ (hnr _ hm) (hQt _ hm).2
    unfold Q8
    simp only [X0]
    rw [J3 hi, w8 hx, a0z hx, List.all_append, Y6 i (by omega)]
    simp only [cond_true, Option.bind_some]
    rw [hr]
    cases (P.all fun r => (List.range w).all fun i => Q0 (el.getD i 0) (r.getD i 0)) <;> cases (Q.take i).all (fun r => !((List.range w).all fun i => Q0 (el.getD i 0) (r.getD i 0))) <;> simp) (by
    unfold Q8
    simp) (Q.length + 1) (Nat.le_refl _)
   have l4' : j5 (Q8 Q (el, P.all fun r => (List.range w).all fun i => Q0 (el.getD i 0) (r.getD i 0))) (Q.length + 1) (P.all fun r => (List.range w).all fun i => Q0 (el.getD i 0) (r.getD i 0), 0) = some ((P.all fun r => (List.range w).all fun i => Q0 (el.getD i 0) (r.getD i 0)) && Q.all fun r => !((List.range w).all fun i => Q0 (el.getD i 0) (r.getD i 0))) := by
    have := l4
    simp only [List.take_zero, List.all_nil, Bool.and_true] at this
    exact this
   rw [l4']
   simp only [Option.bind_some]
   have l6 := a1x (step := Q9 (w : Int) B (el, P.all fun r => (List.range w).all fun i => Q0 (el.getD i 0) (r.getD i 0))) (fun i => ((B.take i).any (fun b => (List.range w).all fun k => inB (b.Parts.getD k (g0 [] [])) (Q0 (el.getD k 0))), (i : Int))) B.length
    (.inl (B.any fun b => (List.range w).all fun k => inB (b.Parts.getD k (g0 [] [])) (Q0 (el.getD k 0)))) (fun i hi => by
    have hx := List.getElem?_eq_getElem hi
    obtain ⟨f1, f2⟩ := hfacts _ (List.getElem_mem hi)
    generalize hbq : B[i] = b at hx f1 f2
    have l5 := a1x (step := Q6 (w : Int) B (el, P.all fun r => (List.range w).all fun i => Q0 (el.getD i 0) (r.getD i 0)) ((B.take i).any (fun b => (List.range w).all fun k => inB (b.Parts.getD k (g0 [] [])) (Q0 (el.getD k 0))), (i : Int)))
     (fun k => ((List.range k).all (fun k => inB (b.Parts.getD k (g0 [] [])) (Q0 (el.getD k 0))), (k : Int))) w ((List.range w).all fun k => inB (b.Parts.getD k (g0 [] [])) (Q0 (el.getD k 0))) (fun k hk => by
     have hg := List.getElem?_eq_getElem (show k < b.Parts.length by omega)
     obtain ⟨p, q, e, s1, s2, i1, i2, p1, q1, m1⟩ := f2 k _ hg
     have hgd : b.Parts.getD k (g0 [] []) = g0 p q := by rw [List.getD, hg, e]; rfl
     rw [e] at hg
     unfold Q6
     simp only [hww, X0]
     rw [J3 hk, w8 hx]
     simp only [cond_true, Option.bind_some]
     rw [w8 hg, w8 (a2m (show k < el.length by omega))]
     simp only [Option.bind_some]
     rw [b82 p q false _ i1 i2 (by omega) (by omega), Y6 k (by omega), List.range_succ, List.all_append]
     simp only [List.all_cons, List.all_nil, Bool.and_true, hgd]
     cases (List.range k).all (fun k => inB (b.Parts.getD k (g0 [] [])) (Q0 (el.getD k 0))) <;> simp) (by
     unfold Q6
     simp [hww]) (w + 1) (Nat.le_refl _)
    have l5' : j5 (Q6 (w : Int) B (el, P.all fun r => (List.range w).all fun i => Q0 (el.getD i 0) (r.getD i 0)) ((B.take i).any (fun b => (List.range w).all fun k => inB (b.Parts.getD k (g0 [] [])) (Q0 (el.getD k 0))), (i : Int))) (w + 1) (true, 0) = _ := l5
    unfold Q9
    simp only [hww, X0, Int.toNat_natCast]
    rw [J3 hi, w8 hx]
    simp only [cond_true, Option.bind_some]
    rw [show ((b.Parts.length : Int) != (w : Int)) = false from by simp [f1], l5', a0z hx, List.any_append, Y6 i (by omega)]
    simp only [cond_false, Option.bind_some, List.any_cons, List.any_nil, Bool.or_false]
    cases (B.take i).any (fun b => (List.range w).all fun k => inB (b.Parts.getD k (g0 [] [])) (Q0 (el.getD k 0))) <;> rfl) (by
    unfold Q9
    simp) (B.length + 1) (Nat.le_refl _)
   have l6' : j5 (Q9 (w : Int) B (el, P.all fun r => (List.range w).all fun i => Q0 (el.getD i 0) (r.getD i 0))) (B.length + 1) (false, 0) = _ := l6
   rw [l6']
   simp only [Option.bind_some, w9]
   have hs := hsem (fun i => Q0 (el.getD i 0)) (fun i _ r _ h => by cases h)
   have heq : (B.any fun b => (List.range w).all fun k => inB (b.Parts.getD k (g0 [] [])) (Q0 (el.getD k 0))) = ((P.all fun r => (List.range w).all fun i => Q0 (el.getD i 0) (r.getD i 0)) && Q.all fun r => !((List.range w).all fun i => Q0 (el.getD i 0) (r.getD i 0))) := by
    rw [Bool.eq_iff_iff]
    simp only [List.any_eq_true, List.all_eq_true, Bool.and_eq_true, List.mem_range, Bool.not_eq_true', List.all_eq_false]
    simp only [Bool.not_eq_true]
    exact hs
   rw [heq]
   simp only [beq_self_eq_true, cond_true, Option.bind_some]
end Go.Pl
end
section
namespace Go.Proofs
open Go.Shelf
set_option maxRecDepth 100000
def Tryz.lay135_ren : Go.Shelf.Ren := ⟨fun | 189 => 135 | 125 => 155 | 257 => 154 | 128 => 173 | 129 => 174 | 294 => 164 | 295 => 165 | 296 => 166 | 297 => 167 | 298 => 168 | 299 => 169 | 216 => 170 | 300 => 171 | 301 => 172 | 328 => 179 | 329 => 180 | 330 => 181 | 331 => 182 | 332 => 183 | 215 => 156 | 343 => 190 | n => n, fun | 28 => 22 | 3 => 3 | 46 => 24 | 0 => 0 | 51 => 183 | 53 => 185 | 4 => 4 | 183 => 175 | 182 => 174 | 131 => 180 | 5 => 5 | 9 => 9 | 218 => 186 | 222 => 190 | 228 => 196 | 229 => 197 | n => n, fun | n => n⟩
theorem Tryz.lay135 : Go.Proofs.Lays.n189 Tryz.prog Tryz.lay135_ren := {
 mixed := by kernel_rfl
 f125 := Tryz.func155.trans (congrArg some (by kernel_rfl))
 f128 := Tryz.func173.trans (congrArg some (by kernel_rfl))
 f129 := Tryz.func174.trans (congrArg some (by kernel_rfl))
 f189 := Tryz.func135.trans (congrArg some (by kernel_rfl))
 f215 := Tryz.func156.trans (congrArg some (by kernel_rfl))
 f216 := Tryz.func170.trans (congrArg some (by kernel_rfl))
 f257 := Tryz.func154.trans (congrArg some (by kernel_rfl))
 f294 := Tryz.func164.trans (congrArg some (by kernel_rfl))
 f295 := Tryz.func165.trans (congrArg some (by kernel_rfl))
 f296 := Tryz.func166.trans (congrArg some (by kernel_rfl))
 f297 := Tryz.func167.trans (congrArg some (by kernel_rfl))
 f298 := Tryz.func168.trans (congrArg some (by kernel_rfl))
 f299 := Tryz.func169.trans (congrArg some (by kernel_rfl))
 f300 := Tryz.func171.trans (congrArg some (by kernel_rfl))
 f301 := Tryz.func172.trans (congrArg some (by kernel_rfl))
 f328 := Tryz.func179.trans (congrArg some (by kernel_rfl))
 f329 := Tryz.func180.trans (congrArg some (by kernel_rfl))
 f330 := Tryz.func181.trans (congrArg some (by kernel_rfl))
 f331 := Tryz.func182.trans (congrArg some (by kernel_rfl))
 f332 := Tryz.func183.trans (congrArg some (by kernel_rfl))
 f343 := Tryz.func190.trans (congrArg some (by kernel_rfl))
 t0 := Tryz.underlying0
 a0 := Tryz.isAgg0
 z0 := Tryz.sizeOf0
 v0 := Tryz.zeroValue0
 t3 := Tryz.underlying3
 a3 := Tryz.isAgg3
 z3 := Tryz.sizeOf3
 v3 := Tryz.zeroValue3
 t4 := Tryz.underlying4
 a4 := Tryz.isAgg4
 z4 := Tryz.sizeOf4
 v4 := Tryz.zeroValue4
 t5 := Tryz.underlying5
 a5 := Tryz.isAgg5
 z5 := Tryz.sizeOf5
 v5 := Tryz.zeroValue5
 t9 := Tryz.underlying9
 a9 := Tryz.isAgg9
 z9 := Tryz.sizeOf9
 v9 := Tryz.zeroValue9
 t28 := Tryz.underlying22
 a28 := Tryz.isAgg22
 z28 := Tryz.sizeOf22
 v28 := Tryz.zeroValue22
 t46 := Tryz.underlying24
 a46 := Tryz.isAgg24
 z46 := Tryz.sizeOf24
 v46 := Tryz.zeroValue24
 t51 := Tryz.underlying183
 a51 := Tryz.isAgg183
 z51 := Tryz.sizeOf183
 v51 := Tryz.zeroValue183
 t53 := Tryz.underlying185
 a53 := Tryz.isAgg185
 z53 := Tryz.sizeOf185
 v53 := Tryz.zeroValue185
 t131 := Tryz.underlying180
 a131 := Tryz.isAgg180
 z131 := Tryz.sizeOf180
 v131 := Tryz.zeroValue180
 t182 := Tryz.underlying174
 a182 := Tryz.isAgg174
 z182 := Tryz.sizeOf174
 v182 := Tryz.zeroValue174
 t183 := Tryz.underlying175
 a183 := Tryz.isAgg175
 z183 := Tryz.sizeOf175
 v183 := Tryz.zeroValue175
 t218 := Tryz.underlying186
 a218 := Tryz.isAgg186
 z218 := Tryz.sizeOf186
 v218 := Tryz.zeroValue186
 t222 := Tryz.underlying190
 a222 := Tryz.isAgg190
 z222 := Tryz.sizeOf190
 v222 := Tryz.zeroValue190
 t228 := Tryz.underlying196
 a228 := Tryz.isAgg196
 z228 := Tryz.sizeOf196
 v228 := Tryz.zeroValue196
 t229 := Tryz.underlying197
 a229 := Tryz.isAgg197
 z229 := Tryz.sizeOf197
 v229 := Tryz.zeroValue197 }
end Go.Proofs
end
section
namespace Go.Qx
open Go Go.RowKit Go.Sx
set_option maxRecDepth 100000
abbrev a9n (v : Api_Goal) : (List Int) × (List Int) × Bool := (v.Pos, v.Neg, v.Lists)
abbrev b3O (x : (List Int) × (List Int) × Bool) : Api_Goal := ⟨x.1, x.2.1, x.2.2⟩
@[reducible] def a1P : Rp Api_Goal := a67 a9n (Y7 (@rpList _ (rpK .i64)) (Y7 (@rpList _ (rpK .i64)) (rpBool)))
abbrev b0v (v : Api_Box) : (List Api_Goal) := v.Parts
abbrev b4B (x : (List Api_Goal)) : Api_Box := ⟨x⟩
@[reducible] def a7j : Rp Api_Box := a67 b0v (@rpList _ (a1P))
abbrev a8p (v : Api_Field) : Key × Int × Bool := (v.Key_, v.Node, v.Optional)
abbrev b3B (x : Key × Int × Bool) : Api_Field := ⟨x.1, x.2.1, x.2.2⟩
@[reducible] def a1l : Rp Api_Field := a67 a8p (Y7 (rpKey) (Y7 (rpK .i64) (rpBool)))
abbrev a5T (v : Api_TypeNode) : Int × Int × Int × ByteArray × (List Int) × (List Api_Field) × (Int × Int) := (v.Kind, v.Lo, v.Hi, v.Text, v.Kids, v.Fields, v.Rest)
abbrev b0A (x : Int × Int × Int × ByteArray × (List Int) × (List Api_Field) × (Int × Int)) : Api_TypeNode := ⟨x.1, x.2.1, x.2.2.1, x.2.2.2.1, x.2.2.2.2.1, x.2.2.2.2.2.1, x.2.2.2.2.2.2⟩
@[reducible] def a0n : Rp Api_TypeNode := a67 a5T (Y7 (rpK .i64) (Y7 (rpK .i64) (Y7 (rpK .i64) (Y7 (rpStr) (Y7 (@rpList _ (rpK .i64)) (Y7 (@rpList _ (a1l)) (Y7 (rpK .i64) (rpK .i64))))))))
abbrev a9j (v : Api_Type) : (List Api_TypeNode) × Int := (v.Nodes, v.Root)
abbrev b3L (x : (List Api_TypeNode) × Int) : Api_Type := ⟨x.1, x.2⟩
@[reducible] def a6o : Rp Api_Type := a67 a9j (Y7 (@rpList _ (a0n)) (rpK .i64))
abbrev a26 (v : Semtypebase_Source) : (List Int) × Int := (v.L, v.At)
abbrev a6F (x : (List Int) × Int) : Semtypebase_Source := ⟨x.1, x.2⟩
@[reducible] def a1q : Rp Semtypebase_Source := a67 a26 (Y7 (@rpList _ (rpK .i64)) (rpK .i64))
abbrev a7H (v : Value_used) : Bool × Bool × Bool × Bool × Bool := (v.number, v.text_, v.kids, v.keys, v.entries)
abbrev b2b (x : Bool × Bool × Bool × Bool × Bool) : Value_used := ⟨x.1, x.2.1, x.2.2.1, x.2.2.2.1, x.2.2.2.2⟩
@[reducible] def a4R : Rp Value_used := a67 a7H (Y7 (rpBool) (Y7 (rpBool) (Y7 (rpBool) (Y7 (rpBool) (rpBool)))))
def tyL : List TE := [⟨2, Int, rpK .i64⟩,
 ⟨3, Int, rpK .i64⟩,
 ⟨4, Bool, rpBool⟩,
 ⟨5, Int, rpK .u8⟩,
 ⟨9, ByteArray, rpStr⟩,
 ⟨22, List Int, @rpList _ (rpK .i64)⟩,
 ⟨31, List Api_Goal, @rpList _ (a1P)⟩,
 ⟨33, Api_Box, a7j⟩,
 ⟨36, Api_Goal, a1P⟩,
 ⟨43, List Api_TypeNode, @rpList _ (a0n)⟩,
 ⟨45, Api_Type, a6o⟩,
 ⟨46, List Val, @rpList _ (rpVal)⟩,
 ⟨47, List Key, @rpList _ (rpKey)⟩,
 ⟨48, List Ent, @rpList _ (rpEnt)⟩,
 ⟨49, List ByteArray, @rpList _ (rpStr)⟩,
 ⟨51, Val, rpVal⟩,
 ⟨62, Semtypebase_Source, a1q⟩,
 ⟨75, List Api_Field, @rpList _ (a1l)⟩,
 ⟨76, Int × Int, Y7 (rpK .i64) (rpK .i64)⟩,
 ⟨78, Api_TypeNode, a0n⟩,
 ⟨101, Ent, rpEnt⟩,
 ⟨123, Key, rpKey⟩,
 ⟨125, Api_Field, a1l⟩,
 ⟨159, Value_used, a4R⟩]
abbrev I (E : TypeId) : Type := (b4Q tyL E).α
instance rI (E : TypeId) : Rp (I E) := (b4Q tyL E).rp
def b5c : Fd I (I 33) inferInstance := (a4l (rg := a7j) ((a1m 36 : Fd I (List Api_Goal) (@rpList _ (a1P)))) b0v b4B (fun _ => rfl) (fun _ _ _ => Iff.rfl) : Fd I Api_Box a7j)
def b3R : Fd I (I 36) inferInstance := (a4l (rg := a1P) (J1 (a1m 3 : Fd I (List Int) (@rpList _ (rpK .i64))) (J1 (a1m 3 : Fd I (List Int) (@rpList _ (rpK .i64))) ((a3o : Fd I Bool (rpBool))))) a9n b3O (fun _ => rfl) (fun _ _ _ => Iff.rfl) : Fd I Api_Goal a1P)
def b3W : Fd I (I 45) inferInstance := (a4l (rg := a6o) (J1 (a1m 78 : Fd I (List Api_TypeNode) (@rpList _ (a0n))) ((a1U .i64 : Fd I Int (rpK .i64)))) a9j b3L (fun _ => rfl) (fun _ _ _ => Iff.rfl) : Fd I Api_Type a6o)
def b5M : Fd I (I 51) inferInstance := (a4l (rg := rpVal) (J1 (a1U .i64 : Fd I Int (rpK .i64)) (J1 (a1U .i64 : Fd I Int (rpK .i64)) (J1 (b2q : Fd I ByteArray (rpStr)) (J1 (a1m 51 : Fd I (List Val) (@rpList _ (rpVal))) (J1 (a1m 123 : Fd I (List Key) (@rpList _ (rpKey))) (J1 (a1m 101 : Fd I (List Ent) (@rpList _ (rpEnt))) ((a1m 9 : Fd I (List ByteArray) (@rpList _ (rpStr)))))))))) Val.to Val.of (fun _ => rfl) Val.cells_to : Fd I Val rpVal)
def a6G : Fd I (I 62) inferInstance := (a4l (rg := a1q) (J1 (a1m 3 : Fd I (List Int) (@rpList _ (rpK .i64))) ((a1U .i64 : Fd I Int (rpK .i64)))) a26 a6F (fun _ => rfl) (fun _ _ _ => Iff.rfl) : Fd I Semtypebase_Source a1q)
def b56 : Fd I (I 76) inferInstance := (J1 (a1U .i64 : Fd I Int (rpK .i64)) ((a1U .i64 : Fd I Int (rpK .i64))) : Fd I (Int × Int) (Y7 (rpK .i64) (rpK .i64)))
def b0G : Fd I (I 78) inferInstance := (a4l (rg := a0n) (J1 (a1U .i64 : Fd I Int (rpK .i64)) (J1 (a1U .i64 : Fd I Int (rpK .i64)) (J1 (a1U .i64 : Fd I Int (rpK .i64)) (J1 (b2q : Fd I ByteArray (rpStr)) (J1 (a1m 3 : Fd I (List Int) (@rpList _ (rpK .i64))) (J1 (a1m 125 : Fd I (List Api_Field) (@rpList _ (a1l))) ((b4N 76 b56 : Fd I (Int × Int) (Y7 (rpK .i64) (rpK .i64)))))))))) a5T b0A (fun _ => rfl) (fun _ _ _ => Iff.rfl) : Fd I Api_TypeNode a0n)
def b8b : Fd I (I 101) inferInstance := (a4l (rg := rpEnt) (J1 (a1m 51 : Fd I (List Val) (@rpList _ (rpVal))) (J1 (a3o : Fd I Bool (rpBool)) ((b4N 51 b5M : Fd I Val (rpVal))))) Ent.to Ent.of (fun _ => rfl) Ent.cells_to : Fd I Ent rpEnt)
def b55 : Fd I (I 123) inferInstance := (a4l (rg := rpKey) (J1 (a1U .i64 : Fd I Int (rpK .i64)) ((b2q : Fd I ByteArray (rpStr)))) Key.to Key.of (fun _ => rfl) Key.cells_to : Fd I Key rpKey)
def b2S : Fd I (I 125) inferInstance := (a4l (rg := a1l) (J1 (b4N 123 b55 : Fd I Key (rpKey)) (J1 (a1U .i64 : Fd I Int (rpK .i64)) ((a3o : Fd I Bool (rpBool))))) a8p b3B (fun _ => rfl) (fun _ _ _ => Iff.rfl) : Fd I Api_Field a1l)
def b2m : Fd I (I 159) inferInstance := (a4l (rg := a4R) (J1 (a3o : Fd I Bool (rpBool)) (J1 (a3o : Fd I Bool (rpBool)) (J1 (a3o : Fd I Bool (rpBool)) (J1 (a3o : Fd I Bool (rpBool)) ((a3o : Fd I Bool (rpBool))))))) a7H b2b (fun _ => rfl) (fun _ _ _ => Iff.rfl) : Fd I Value_used a4R)
def feL : List (FE I) := [⟨2, a1U .i64⟩,
 ⟨3, a1U .i64⟩,
 ⟨4, a3o⟩,
 ⟨5, a1U .u8⟩,
 ⟨9, b2q⟩,
 ⟨22, a1m 3⟩,
 ⟨31, a1m 36⟩,
 ⟨33, b5c⟩,
 ⟨36, b3R⟩,
 ⟨43, a1m 78⟩,
 ⟨45, b3W⟩,
 ⟨46, a1m 51⟩,
 ⟨47, a1m 123⟩,
 ⟨48, a1m 101⟩,
 ⟨49, a1m 9⟩,
 ⟨51, b5M⟩,
 ⟨62, a6G⟩,
 ⟨75, a1m 125⟩,
 ⟨76, b56⟩,
 ⟨78, b0G⟩,
 ⟨101, b8b⟩,
 ⟨123, b55⟩,
 ⟨125, b2S⟩,
 ⟨159, b2m⟩]
def b8l : TabL I where
 sz := [(33, 1), (36, 3), (45, 2), (51, 7), (76, 2), (78, 8), (101, 9), (123, 2), (125, 4), (159, 5)]
 one := [(2, ()), (3, ()), (4, ()), (5, ()), (9, ()), (22, ()), (31, ()), (43, ()), (46, ()), (47, ()), (48, ()), (49, ()), (74, ()), (75, ())]
 fld := [(33, [(0, 31)]), (36, [(0, 22), (1, 22), (2, 4)]), (45, [(0, 43), (1, 3)]), (51, [(0, 3), (1, 2), (2, 9), (3, 46), (4, 47), (5, 48), (6, 49)]), (62, [(0, 22), (1, 3)]), (78, [(0, 3), (1, 2), (2, 2), (3, 9), (4, 22), (5, 75), (6, 76)]), (101, [(0, 46), (1, 4), (2, 51)]), (123, [(0, 3), (1, 9)]), (125, [(0, 123), (2, 3), (3, 4)]), (159, [(0, 4), (1, 4), (2, 4), (3, 4), (4, 4)])]
 el := [(22, 3), (23, 5), (25, 22), (27, 33), (31, 36), (43, 78), (46, 51), (47, 123), (48, 101), (49, 9), (75, 125), (104, 4), (108, 2)]
 str := [(9, ())]
 bool := [(4, ())]
 ik := [(3, .i64), (24, .u64)]
 fe := feL
 inf := [(2, 1, 8, [.int .i64 0]), (3, 1, 8, [.int .i64 0]), (4, 1, 1, [.bool false]), (5, 1, 1, [.int .u8 0]), (9, 1, 16, [.str ⟨#[]⟩]), (22, 1, 24, [.nl 3]), (31, 1, 24, [.nl 36]), (33, 1, 24, [.nl 36]), (36, 3, 56, [.nl 3, .nl 3, .bool false]), (43, 1, 24, [.nl 78]), (45, 2, 32, [.nl 78, .int .i64 0]), (46, 1, 24, [.nl 51]), (47, 1, 24, [.nl 123]), (49, 1, 24, [.nl 9]), (51, 7, 128, [.int .i64 0, .int .i64 0, .str ⟨#[]⟩, .nl 51, .nl 123, .nl 101, .nl 9]), (62, 2, 32, [.nl 3, .int .i64 0]), (74, 1, 8, [.any]), (75, 1, 24, [.nl 125]), (76, 2, 16, [.int .i64 0, .int .i64 0]), (78, 8, 104, [.int .i64 0, .int .i64 0, .int .i64 0, .str ⟨#[]⟩, .nl 3, .nl 125, .int .i64 0, .int .i64 0]), (101, 9, 160, [.nl 51, .bool false, .int .i64 0, .int .i64 0, .str ⟨#[]⟩, .nl 51, .nl 123, .nl 101, .nl 9]), (123, 2, 24, [.int .i64 0, .str ⟨#[]⟩]), (125, 4, 40, [.int .i64 0, .str ⟨#[]⟩, .int .i64 0, .bool false]), (159, 5, 5, [.bool false, .bool false, .bool false, .bool false, .bool false])]
 st := [(33, [(0, 1)]), (36, [(0, 1), (1, 1), (2, 1)]), (45, [(0, 1), (1, 1)]), (51, [(0, 1), (1, 1), (2, 1), (3, 1), (4, 1), (5, 1), (6, 1)]), (62, [(0, 1), (1, 1)]), (76, [(0, 1), (1, 1)]), (78, [(0, 1), (1, 1), (2, 1), (3, 1), (4, 1), (5, 1), (6, 2)]), (123, [(0, 1), (1, 1)]), (125, [(0, 2), (2, 1), (3, 1)]), (159, [(0, 1), (1, 1), (2, 1), (3, 1), (4, 1)])]
 eq := [(76, b3A feL 76 b0d), (123, b3A feL 123 a6A)]
 nest := [(22, 3, 0)]
 arr := [(76, 3, 2, 1)]
 fb := [(25, ()), (59, ()), (86, ()), (88, ()), (99, ()), (108, ()), (109, ()), (111, ()), (112, ()), (114, ()), (122, ()), (123, ()), (143, ()), (161, ()), (177, ())]
abbrev tb : Tab I := b7n b8l
theorem ti2 : Z8 Go.Proofs.Tryz.prog 2 (.int .i64 0) 1 8 := Z7 (by kernel_rfl)
theorem ti3 : Z8 Go.Proofs.Tryz.prog 3 (.int .i64 0) 1 8 := Z7 (by kernel_rfl)
theorem ti4 : Z8 Go.Proofs.Tryz.prog 4 (.bool false) 1 1 := Z7 (by kernel_rfl)
theorem ti5 : Z8 Go.Proofs.Tryz.prog 5 (.int .u8 0) 1 1 := Z7 (by kernel_rfl)
theorem ti9 : Z8 Go.Proofs.Tryz.prog 9 (.string ⟨#[]⟩) 1 16 := Z7 (by kernel_rfl)
theorem b8a : Z8 Go.Proofs.Tryz.prog 22 (.slice none 0 0) 1 24 := Z7 (by kernel_rfl)
theorem b9q : Z8 Go.Proofs.Tryz.prog 31 (.slice none 0 0) 1 24 := Z7 (by kernel_rfl)
theorem b8t : Z8 Go.Proofs.Tryz.prog 33 (.agg #[.slice none 0 0]) 1 24 := Z7 (by kernel_rfl)
theorem b74 : Z8 Go.Proofs.Tryz.prog 36 (.agg #[.slice none 0 0, .slice none 0 0, .bool false]) 3 56 := Z7 (by kernel_rfl)
theorem b9J : Z8 Go.Proofs.Tryz.prog 43 (.slice none 0 0) 1 24 := Z7 (by kernel_rfl)
theorem b9t : Z8 Go.Proofs.Tryz.prog 45 (.agg #[.slice none 0 0, .int .i64 0]) 2 32 := Z7 (by kernel_rfl)
theorem b9S : Z8 Go.Proofs.Tryz.prog 46 (.slice none 0 0) 1 24 := Z7 (by kernel_rfl)
theorem b9H : Z8 Go.Proofs.Tryz.prog 47 (.slice none 0 0) 1 24 := Z7 (by kernel_rfl)
theorem b9V : Z8 Go.Proofs.Tryz.prog 49 (.slice none 0 0) 1 24 := Z7 (by kernel_rfl)
theorem b71 : Z8 Go.Proofs.Tryz.prog 51 (.agg #[.int .i64 0, .int .i64 0, .string ⟨#[]⟩, .slice none 0 0, .slice none 0 0, .slice none 0 0, .slice none 0 0]) 7 128 := Z7 (by kernel_rfl)
theorem b9u : Z8 Go.Proofs.Tryz.prog 62 (.agg #[.slice none 0 0, .int .i64 0]) 2 32 := Z7 (by kernel_rfl)
theorem b9F : Z8 Go.Proofs.Tryz.prog 74 (.nilFunc) 1 8 := Z7 (by kernel_rfl)
theorem b9r : Z8 Go.Proofs.Tryz.prog 75 (.slice none 0 0) 1 24 := Z7 (by kernel_rfl)
theorem b9O : Z8 Go.Proofs.Tryz.prog 76 (.agg #[.int .i64 0, .int .i64 0]) 2 16 := Z7 (by kernel_rfl)
theorem b77 : Z8 Go.Proofs.Tryz.prog 78 (.agg #[.int .i64 0, .int .i64 0, .int .i64 0, .string ⟨#[]⟩, .slice none 0 0, .slice none 0 0, .int .i64 0, .int .i64 0]) 8 104 := Z7 (by kernel_rfl)
theorem b7e : Z8 Go.Proofs.Tryz.prog 101 (.agg #[.slice none 0 0, .bool false, .int .i64 0, .int .i64 0, .string ⟨#[]⟩, .slice none 0 0, .slice none 0 0, .slice none 0 0, .slice none 0 0]) 9 160 := Z7 (by kernel_rfl)
theorem b7l : Z8 Go.Proofs.Tryz.prog 123 (.agg #[.int .i64 0, .string ⟨#[]⟩]) 2 24 := Z7 (by kernel_rfl)
theorem b7f : Z8 Go.Proofs.Tryz.prog 125 (.agg #[.int .i64 0, .string ⟨#[]⟩, .int .i64 0, .bool false]) 4 40 := Z7 (by kernel_rfl)
theorem b8Y : Z8 Go.Proofs.Tryz.prog 159 (.agg #[.bool false, .bool false, .bool false, .bool false, .bool false]) 5 5 := Z7 (by kernel_rfl)
theorem to2 : a0v Go.Proofs.Tryz.prog 2 := ⟨_, Go.Proofs.Tryz.underlying2, rfl, by kernel_rfl⟩
theorem to3 : a0v Go.Proofs.Tryz.prog 3 := ⟨_, Go.Proofs.Tryz.underlying3, rfl, by kernel_rfl⟩
theorem to4 : a0v Go.Proofs.Tryz.prog 4 := ⟨_, Go.Proofs.Tryz.underlying4, rfl, by kernel_rfl⟩
theorem to5 : a0v Go.Proofs.Tryz.prog 5 := ⟨_, Go.Proofs.Tryz.underlying5, rfl, by kernel_rfl⟩
theorem to9 : a0v Go.Proofs.Tryz.prog 9 := ⟨_, Go.Proofs.Tryz.underlying9, rfl, by kernel_rfl⟩
theorem b9C : a0v Go.Proofs.Tryz.prog 22 := ⟨_, Go.Proofs.Tryz.underlying22, rfl, by kernel_rfl⟩
theorem b9P : a0v Go.Proofs.Tryz.prog 31 := ⟨_, Go.Proofs.Tryz.underlying31, rfl, by kernel_rfl⟩
theorem b9G : a0v Go.Proofs.Tryz.prog 43 := ⟨_, Go.Proofs.Tryz.underlying43, rfl, by kernel_rfl⟩
theorem b9E : a0v Go.Proofs.Tryz.prog 46 := ⟨_, Go.Proofs.Tryz.underlying46, rfl, by kernel_rfl⟩
theorem b9Q : a0v Go.Proofs.Tryz.prog 47 := ⟨_, Go.Proofs.Tryz.underlying47, rfl, by kernel_rfl⟩
theorem b9M : a0v Go.Proofs.Tryz.prog 48 := ⟨_, Go.Proofs.Tryz.underlying48, rfl, by kernel_rfl⟩
theorem b9s : a0v Go.Proofs.Tryz.prog 49 := ⟨_, Go.Proofs.Tryz.underlying49, rfl, by kernel_rfl⟩
theorem b9z : a0v Go.Proofs.Tryz.prog 74 := ⟨_, Go.Proofs.Tryz.underlying74, rfl, by kernel_rfl⟩
theorem b9I : a0v Go.Proofs.Tryz.prog 75 := ⟨_, Go.Proofs.Tryz.underlying75, rfl, by kernel_rfl⟩
theorem b9N {σ : S} {x y : Int × Int} {cs ds : List Value} (h : (rI 76).cells σ x cs) (k : (rI 76).cells σ y ds) : Sx.EqAt Go.Proofs.Tryz.prog 2 76 (.agg cs.toArray) (.agg ds.toArray) (b0d x y) := by
 obtain ⟨_, _, rfl, rfl, rfl⟩ := h
 obtain ⟨_, _, rfl, rfl, rfl⟩ := k
 exact b6x Go.Proofs.Tryz.underlying76 ti3 (b1N (a1y to3 rfl) (a1y to3 rfl) (a9L Go.Proofs.Tryz.underlying3) (b1N (a1y to3 rfl) (a1y to3 rfl) (a9L Go.Proofs.Tryz.underlying3) b6u))
theorem b8W {σ : S} {x y : Key} {cs ds : List Value} (h : (rI 123).cells σ x cs) (k : (rI 123).cells σ y ds) : Sx.EqAt Go.Proofs.Tryz.prog 2 123 (.agg cs.toArray) (.agg ds.toArray) (a6A x y) := by
 obtain ⟨_, _, rfl, rfl, rfl⟩ := h
 obtain ⟨_, _, rfl, rfl, rfl⟩ := k
 exact b3P Go.Proofs.Tryz.underlying123 (by kernel_rfl) (b1J (by decide) (a1y to3 rfl) (a1y to3 rfl) (a9L Go.Proofs.Tryz.underlying3) (b1J (by decide) (a1y to9 rfl) (a1y to9 rfl) (b6q Go.Proofs.Tryz.underlying9) b6F))
theorem eqT (T : TypeId) (g : I T -> I T -> Bool) {K : Nat} (h : ∀ {σ : S} {x y : I T} {cs ds : List Value}, Rp.cells σ x cs -> Rp.cells σ y ds -> Sx.EqAt Go.Proofs.Tryz.prog K T (.agg cs.toArray) (.agg ds.toArray) (g x y)) (hg : Go.Proofs.Tryz.prog.eqGuardType (Go.Proofs.Tryz.prog).depth T = false) (hK : Nat.ble K 10000 = true)
 {X : Cxt} {c : Cx} {σ : S} {ls ms : List (PV I)} {r : Bool} {cs ds : List Value} (h1 : b3A feL T g ls ms = some r) (h2 : RG X c σ ls cs) (h3 : RG X c σ ms ds) :
 Go.Proofs.Tryz.prog.eqGuardType (Go.Proofs.Tryz.prog).depth T = false /\ ∃ j, Nat.ble j 10000 = true /\ Sx.EqAt Go.Proofs.Tryz.prog j T (.agg cs.toArray) (.agg ds.toArray) r := by
 obtain ⟨x, y, k1, k2, rfl⟩ := b7V h1 h2 h3
 exact ⟨hg, K, hK, h k1 k2⟩
theorem b8B : TabLOk Go.Proofs.Tryz.prog b8l where
 sz := ⟨⟨_, Go.Proofs.Tryz.underlying33, rfl, by kernel_rfl⟩, ⟨⟨_, Go.Proofs.Tryz.underlying36, rfl, by kernel_rfl⟩, ⟨⟨_, Go.Proofs.Tryz.underlying45, rfl, by kernel_rfl⟩, ⟨⟨_, Go.Proofs.Tryz.underlying51, rfl, by kernel_rfl⟩, ⟨⟨_, Go.Proofs.Tryz.underlying76, rfl, by kernel_rfl⟩, ⟨⟨_, Go.Proofs.Tryz.underlying78, rfl, by kernel_rfl⟩, ⟨⟨_, Go.Proofs.Tryz.underlying101, rfl, by kernel_rfl⟩, ⟨⟨_, Go.Proofs.Tryz.underlying123, rfl, by kernel_rfl⟩, ⟨⟨_, Go.Proofs.Tryz.underlying125, rfl, by kernel_rfl⟩, ⟨⟨_, Go.Proofs.Tryz.underlying159, rfl, by kernel_rfl⟩, trivial⟩⟩⟩⟩⟩⟩⟩⟩⟩⟩
 one := ⟨to2, ⟨to3, ⟨to4, ⟨to5, ⟨to9, ⟨b9C, ⟨b9P, ⟨b9G, ⟨b9E, ⟨b9Q, ⟨b9M, ⟨b9s, ⟨b9z, ⟨b9I, trivial⟩⟩⟩⟩⟩⟩⟩⟩⟩⟩⟩⟩⟩⟩
 fld := ⟨⟨⟨_, _, Go.Proofs.Tryz.underlying33, rfl, rfl, by kernel_rfl⟩, ⟨⟨_, _, Go.Proofs.Tryz.underlying33, rfl, rfl⟩, trivial⟩⟩, ⟨⟨⟨_, _, Go.Proofs.Tryz.underlying36, rfl, rfl, by kernel_rfl⟩, ⟨⟨_, _, Go.Proofs.Tryz.underlying36, rfl, rfl⟩, ⟨⟨_, _, Go.Proofs.Tryz.underlying36, rfl, rfl, by kernel_rfl⟩, ⟨⟨_, _, Go.Proofs.Tryz.underlying36, rfl, rfl⟩, ⟨⟨_, _, Go.Proofs.Tryz.underlying36, rfl, rfl, by kernel_rfl⟩, ⟨⟨_, _, Go.Proofs.Tryz.underlying36, rfl, rfl⟩, trivial⟩⟩⟩⟩⟩⟩, ⟨⟨⟨_, _, Go.Proofs.Tryz.underlying45, rfl, rfl, by kernel_rfl⟩, ⟨⟨_, _, Go.Proofs.Tryz.underlying45, rfl, rfl⟩, ⟨⟨_, _, Go.Proofs.Tryz.underlying45, rfl, rfl, by kernel_rfl⟩, ⟨⟨_, _, Go.Proofs.Tryz.underlying45, rfl, rfl⟩, trivial⟩⟩⟩⟩, ⟨⟨⟨_, _, Go.Proofs.Tryz.underlying51, rfl, rfl, by kernel_rfl⟩, ⟨⟨_, _, Go.Proofs.Tryz.underlying51, rfl, rfl⟩, ⟨⟨_, _, Go.Proofs.Tryz.underlying51, rfl, rfl, by kernel_rfl⟩, ⟨⟨_, _, Go.Proofs.Tryz.underlying51, rfl, rfl⟩, ⟨⟨_, _, Go.Proofs.Tryz.underlying51, rfl, rfl, by kernel_rfl⟩, ⟨⟨_, _, Go.Proofs.Tryz.underlying51, rfl, rfl⟩, ⟨⟨_, _, Go.Proofs.Tryz.underlying51, rfl, rfl, by kernel_rfl⟩, ⟨⟨_, _, Go.Proofs.Tryz.underlying51, rfl, rfl⟩, ⟨⟨_, _, Go.Proofs.Tryz.underlying51, rfl, rfl, by kernel_rfl⟩, ⟨⟨_, _, Go.Proofs.Tryz.underlying51, rfl, rfl⟩, ⟨⟨_, _, Go.Proofs.Tryz.underlying51, rfl, rfl, by kernel_rfl⟩, ⟨⟨_, _, Go.Proofs.Tryz.underlying51, rfl, rfl⟩, ⟨⟨_, _, Go.Proofs.Tryz.underlying51, rfl, rfl, by kernel_rfl⟩, ⟨⟨_, _, Go.Proofs.Tryz.underlying51, rfl, rfl⟩, trivial⟩⟩⟩⟩⟩⟩⟩⟩⟩⟩⟩⟩⟩⟩, ⟨⟨⟨_, _, Go.Proofs.Tryz.underlying62, rfl, rfl, by kernel_rfl⟩, ⟨⟨_, _, Go.Proofs.Tryz.underlying62, rfl, rfl⟩, ⟨⟨_, _, Go.Proofs.Tryz.underlying62, rfl, rfl, by kernel_rfl⟩, ⟨⟨_, _, Go.Proofs.Tryz.underlying62, rfl, rfl⟩, trivial⟩⟩⟩⟩, ⟨⟨⟨_, _, Go.Proofs.Tryz.underlying78, rfl, rfl, by kernel_rfl⟩, ⟨⟨_, _, Go.Proofs.Tryz.underlying78, rfl, rfl⟩, ⟨⟨_, _, Go.Proofs.Tryz.underlying78, rfl, rfl, by kernel_rfl⟩, ⟨⟨_, _, Go.Proofs.Tryz.underlying78, rfl, rfl⟩, ⟨⟨_, _, Go.Proofs.Tryz.underlying78, rfl, rfl, by kernel_rfl⟩, ⟨⟨_, _, Go.Proofs.Tryz.underlying78, rfl, rfl⟩, ⟨⟨_, _, Go.Proofs.Tryz.underlying78, rfl, rfl, by kernel_rfl⟩, ⟨⟨_, _, Go.Proofs.Tryz.underlying78, rfl, rfl⟩, ⟨⟨_, _, Go.Proofs.Tryz.underlying78, rfl, rfl, by kernel_rfl⟩, ⟨⟨_, _, Go.Proofs.Tryz.underlying78, rfl, rfl⟩, ⟨⟨_, _, Go.Proofs.Tryz.underlying78, rfl, rfl, by kernel_rfl⟩, ⟨⟨_, _, Go.Proofs.Tryz.underlying78, rfl, rfl⟩, ⟨⟨_, _, Go.Proofs.Tryz.underlying78, rfl, rfl, by kernel_rfl⟩, ⟨⟨_, _, Go.Proofs.Tryz.underlying78, rfl, rfl⟩, trivial⟩⟩⟩⟩⟩⟩⟩⟩⟩⟩⟩⟩⟩⟩, ⟨⟨⟨_, _, Go.Proofs.Tryz.underlying101, rfl, rfl, by kernel_rfl⟩, ⟨⟨_, _, Go.Proofs.Tryz.underlying101, rfl, rfl⟩, ⟨⟨_, _, Go.Proofs.Tryz.underlying101, rfl, rfl, by kernel_rfl⟩, ⟨⟨_, _, Go.Proofs.Tryz.underlying101, rfl, rfl⟩, ⟨⟨_, _, Go.Proofs.Tryz.underlying101, rfl, rfl, by kernel_rfl⟩, ⟨⟨_, _, Go.Proofs.Tryz.underlying101, rfl, rfl⟩, trivial⟩⟩⟩⟩⟩⟩, ⟨⟨⟨_, _, Go.Proofs.Tryz.underlying123, rfl, rfl, by kernel_rfl⟩, ⟨⟨_, _, Go.Proofs.Tryz.underlying123, rfl, rfl⟩, ⟨⟨_, _, Go.Proofs.Tryz.underlying123, rfl, rfl, by kernel_rfl⟩, ⟨⟨_, _, Go.Proofs.Tryz.underlying123, rfl, rfl⟩, trivial⟩⟩⟩⟩, ⟨⟨⟨_, _, Go.Proofs.Tryz.underlying125, rfl, rfl, by kernel_rfl⟩, ⟨⟨_, _, Go.Proofs.Tryz.underlying125, rfl, rfl⟩, ⟨⟨_, _, Go.Proofs.Tryz.underlying125, rfl, rfl, by kernel_rfl⟩, ⟨⟨_, _, Go.Proofs.Tryz.underlying125, rfl, rfl⟩, ⟨⟨_, _, Go.Proofs.Tryz.underlying125, rfl, rfl, by kernel_rfl⟩, ⟨⟨_, _, Go.Proofs.Tryz.underlying125, rfl, rfl⟩, trivial⟩⟩⟩⟩⟩⟩, ⟨⟨⟨_, _, Go.Proofs.Tryz.underlying159, rfl, rfl, by kernel_rfl⟩, ⟨⟨_, _, Go.Proofs.Tryz.underlying159, rfl, rfl⟩, ⟨⟨_, _, Go.Proofs.Tryz.underlying159, rfl, rfl, by kernel_rfl⟩, ⟨⟨_, _, Go.Proofs.Tryz.underlying159, rfl, rfl⟩, ⟨⟨_, _, Go.Proofs.Tryz.underlying159, rfl, rfl, by kernel_rfl⟩, ⟨⟨_, _, Go.Proofs.Tryz.underlying159, rfl, rfl⟩, ⟨⟨_, _, Go.Proofs.Tryz.underlying159, rfl, rfl, by kernel_rfl⟩, ⟨⟨_, _, Go.Proofs.Tryz.underlying159, rfl, rfl⟩, ⟨⟨_, _, Go.Proofs.Tryz.underlying159, rfl, rfl, by kernel_rfl⟩, ⟨⟨_, _, Go.Proofs.Tryz.underlying159, rfl, rfl⟩, trivial⟩⟩⟩⟩⟩⟩⟩⟩⟩⟩, trivial⟩⟩⟩⟩⟩⟩⟩⟩⟩⟩
 el := ⟨⟨Go.Proofs.Tryz.underlying22, _, _, ti3, rfl, by decide⟩, ⟨⟨Go.Proofs.Tryz.underlying23, _, _, ti5, rfl, by decide⟩, ⟨⟨Go.Proofs.Tryz.underlying25, _, _, b8a, rfl, by decide⟩, ⟨⟨Go.Proofs.Tryz.underlying27, _, _, b8t, rfl, by decide⟩, ⟨⟨Go.Proofs.Tryz.underlying31, _, _, b74, rfl, by decide⟩, ⟨⟨Go.Proofs.Tryz.underlying43, _, _, b77, rfl, by decide⟩, ⟨⟨Go.Proofs.Tryz.underlying46, _, _, b71, rfl, by decide⟩, ⟨⟨Go.Proofs.Tryz.underlying47, _, _, b7l, rfl, by decide⟩, ⟨⟨Go.Proofs.Tryz.underlying48, _, _, b7e, rfl, by decide⟩, ⟨⟨Go.Proofs.Tryz.underlying49, _, _, ti9, rfl, by decide⟩, ⟨⟨Go.Proofs.Tryz.underlying75, _, _, b7f, rfl, by decide⟩, ⟨⟨Go.Proofs.Tryz.underlying104, _, _, ti4, rfl, by decide⟩, ⟨⟨Go.Proofs.Tryz.underlying108, _, _, ti2, rfl, by decide⟩, trivial⟩⟩⟩⟩⟩⟩⟩⟩⟩⟩⟩⟩⟩
 str := ⟨Go.Proofs.Tryz.underlying9, trivial⟩
 bool := ⟨Go.Proofs.Tryz.underlying4, trivial⟩
 ik := ⟨Go.Proofs.Tryz.underlying3, ⟨Go.Proofs.Tryz.underlying24, trivial⟩⟩
 inf := ⟨⟨_, ti2, fun X c σ => RG.cns rfl a0x (RG.nl)⟩, ⟨⟨_, ti3, fun X c σ => RG.cns rfl a0x (RG.nl)⟩, ⟨⟨_, ti4, fun X c σ => RG.cns rfl a3B (RG.nl)⟩, ⟨⟨_, ti5, fun X c σ => RG.cns rfl a0x (RG.nl)⟩, ⟨⟨_, ti9, fun X c σ => RG.cns rfl a8D (RG.nl)⟩, ⟨⟨_, b8a, fun X c σ => RG.cns rfl a0J (RG.nl)⟩, ⟨⟨_, b9q, fun X c σ => RG.cns rfl a0J (RG.nl)⟩, ⟨⟨_, b8t, fun X c σ => RG.cns rfl a0J (RG.nl)⟩, ⟨⟨_, b74, fun X c σ => RG.cns rfl a0J (RG.cns rfl a0J (RG.cns rfl a3B (RG.nl)))⟩, ⟨⟨_, b9J, fun X c σ => RG.cns rfl a0J (RG.nl)⟩, ⟨⟨_, b9t, fun X c σ => RG.cns rfl a0J (RG.cns rfl a0x (RG.nl))⟩, ⟨⟨_, b9S, fun X c σ => RG.cns rfl a0J (RG.nl)⟩, ⟨⟨_, b9H, fun X c σ => RG.cns rfl a0J (RG.nl)⟩, ⟨⟨_, b9V, fun X c σ => RG.cns rfl a0J (RG.nl)⟩, ⟨⟨_, b71, fun X c σ => RG.cns rfl a0x (RG.cns rfl a0x (RG.cns rfl a8D (RG.cns rfl a0J (RG.cns rfl a0J (RG.cns rfl a0J (RG.cns rfl a0J (RG.nl)))))))⟩, ⟨⟨_, b9u, fun X c σ => RG.cns rfl a0J (RG.cns rfl a0x (RG.nl))⟩, ⟨⟨_, b9F, fun X c σ => RG.cns rfl b9f (RG.nl)⟩, ⟨⟨_, b9r, fun X c σ => RG.cns rfl a0J (RG.nl)⟩, ⟨⟨_, b9O, fun X c σ => RG.cns rfl a0x (RG.cns rfl a0x (RG.nl))⟩, ⟨⟨_, b77, fun X c σ => RG.cns rfl a0x (RG.cns rfl a0x (RG.cns rfl a0x (RG.cns rfl a8D (RG.cns rfl a0J (RG.cns rfl a0J (RG.cns rfl a0x (RG.cns rfl a0x (RG.nl))))))))⟩, ⟨⟨_, b7e, fun X c σ => RG.cns rfl a0J (RG.cns rfl a3B (RG.cns rfl a0x (RG.cns rfl a0x (RG.cns rfl a8D (RG.cns rfl a0J (RG.cns rfl a0J (RG.cns rfl a0J (RG.cns rfl a0J (RG.nl)))))))))⟩, ⟨⟨_, b7l, fun X c σ => RG.cns rfl a0x (RG.cns rfl a8D (RG.nl))⟩, ⟨⟨_, b7f, fun X c σ => RG.cns rfl a0x (RG.cns rfl a8D (RG.cns rfl a0x (RG.cns rfl a3B (RG.nl))))⟩, ⟨⟨_, b8Y, fun X c σ => RG.cns rfl a3B (RG.cns rfl a3B (RG.cns rfl a3B (RG.cns rfl a3B (RG.cns rfl a3B (RG.nl)))))⟩, trivial⟩⟩⟩⟩⟩⟩⟩⟩⟩⟩⟩⟩⟩⟩⟩⟩⟩⟩⟩⟩⟩⟩⟩⟩
 st := ⟨.inl ⟨_, Go.Proofs.Tryz.underlying33, by kernel_rfl⟩, ⟨.inl ⟨_, Go.Proofs.Tryz.underlying36, by kernel_rfl⟩, ⟨.inl ⟨_, Go.Proofs.Tryz.underlying45, by kernel_rfl⟩, ⟨.inl ⟨_, Go.Proofs.Tryz.underlying51, by kernel_rfl⟩, ⟨.inl ⟨_, Go.Proofs.Tryz.underlying62, by kernel_rfl⟩, ⟨.inr (b78 Go.Proofs.Tryz.underlying76 ti3 rfl), ⟨.inl ⟨_, Go.Proofs.Tryz.underlying78, by kernel_rfl⟩, ⟨.inl ⟨_, Go.Proofs.Tryz.underlying123, by kernel_rfl⟩, ⟨.inl ⟨_, Go.Proofs.Tryz.underlying125, by kernel_rfl⟩, ⟨.inl ⟨_, Go.Proofs.Tryz.underlying159, by kernel_rfl⟩, trivial⟩⟩⟩⟩⟩⟩⟩⟩⟩⟩
 eq := ⟨fun X c σ ls ms r cs ds h1 h2 h3 => eqT 76 b0d (fun h k => b9N h k) (by kernel_rfl) (by decide) h1 h2 h3, ⟨fun X c σ ls ms r cs ds h1 h2 h3 => eqT 123 a6A (fun h k => b8W h k) (by kernel_rfl) (by decide) h1 h2 h3, trivial⟩⟩
 arr := ⟨⟨Go.Proofs.Tryz.underlying76, by kernel_rfl⟩, trivial⟩
 fb := ⟨⟨_, _, Go.Proofs.Tryz.func25, rfl, by kernel_rfl⟩, ⟨⟨_, _, Go.Proofs.Tryz.func59, rfl, by kernel_rfl⟩, ⟨⟨_, _, Go.Proofs.Tryz.func86, rfl, by kernel_rfl⟩, ⟨⟨_, _, Go.Proofs.Tryz.func88, rfl, by kernel_rfl⟩, ⟨⟨_, _, Go.Proofs.Tryz.func99, rfl, by kernel_rfl⟩, ⟨⟨_, _, Go.Proofs.Tryz.func108, rfl, by kernel_rfl⟩, ⟨⟨_, _, Go.Proofs.Tryz.func109, rfl, by kernel_rfl⟩, ⟨⟨_, _, Go.Proofs.Tryz.func111, rfl, by kernel_rfl⟩, ⟨⟨_, _, Go.Proofs.Tryz.func112, rfl, by kernel_rfl⟩, ⟨⟨_, _, Go.Proofs.Tryz.func114, rfl, by kernel_rfl⟩, ⟨⟨_, _, Go.Proofs.Tryz.func122, rfl, by kernel_rfl⟩, ⟨⟨_, _, Go.Proofs.Tryz.func123, rfl, by kernel_rfl⟩, ⟨⟨_, _, Go.Proofs.Tryz.func143, rfl, by kernel_rfl⟩, ⟨⟨_, _, Go.Proofs.Tryz.func161, rfl, by kernel_rfl⟩, ⟨⟨_, _, Go.Proofs.Tryz.func177, rfl, by kernel_rfl⟩, trivial⟩⟩⟩⟩⟩⟩⟩⟩⟩⟩⟩⟩⟩⟩⟩
theorem z7 : TabOk Go.Proofs.Tryz.prog tb := b63 b8B
theorem mixed : (Go.Proofs.Tryz.prog).follows .mixedOrders = true := by kernel_rfl
end Go.Qx
end
section
namespace Go.Qx
open Go Go.RowKit Go.Sx
set_option maxHeartbeats 1600000
set_option maxRecDepth 100000
def a96 : Row I := ⟨81, [.d (.sl 3)], [.k (.row 3 false)], a2d 8⟩
theorem b4I : y0 Go.Proofs.Tryz.prog a96 := b2M z7 mixed Go.Proofs.Tryz.func81 (by kernel_rfl) (by kernel_rfl) (by kernel_rfl) Go.Proofs.Tryz.underlying22 rfl (by kernel_rfl) (fun _ => by kernel_rfl)
def b4c : Rio I := ⟨135, 3, [], [], b1r⟩
theorem b8f : a8J Go.Proofs.Tryz.prog b4c := b5D (I := I) (E := 3) Go.Proofs.Tryz.lay135 135 (by kernel_rfl) (fun x => x) Iff.rfl ⟨_, _, Go.Proofs.Tryz.func135, rfl, by kernel_rfl⟩
def b4l : Row I := ⟨175, [.d (.str), .d (.str)], [.k (.d (.int .i64))], b5d⟩
theorem b8m : y0 Go.Proofs.Tryz.prog b4l := b79 Go.Proofs.Tryz.func175 (by kernel_rfl) rfl (by kernel_rfl) (by kernel_rfl)
def b3Z : Row I := ⟨148, [.d (.sl 51)], [.k (.row 51 false)], a2d 128⟩
theorem b8x : y0 Go.Proofs.Tryz.prog b3Z := b2M z7 mixed Go.Proofs.Tryz.func148 (by kernel_rfl) (by kernel_rfl) (by kernel_rfl) Go.Proofs.Tryz.underlying46 rfl (by kernel_rfl) (fun _ => by kernel_rfl)
def a45 : Hints I where
 tds := fun i => (asc [(1, [[], [0], [0, 1], [0, 1, 2], [0, 1, 2, 3], [0, 1, 2, 3, 4], [0, 1, 2, 3, 4, 5], [0, 1, 2], [0, 1, 2, 7], [0, 1, 2, 7, 8], [0, 1, 2, 7, 8, 9], [0, 1, 2, 7, 8, 9, 10], [0, 1, 2, 3, 4, 5, 6, 7, 8, 9, 10, 11], [0, 1, 2, 3, 4, 5, 6, 7, 8, 9, 10, 11, 12]]), (3, [[], [0], [0, 1], [0, 1, 2], [], [4], [4, 5], [4, 5, 6], [0, 1, 2, 3, 4, 5, 6, 7], [0, 1, 2, 3, 4, 5, 6, 7, 8], [], [0, 1, 2, 3, 4, 5, 6, 7, 8, 9, 10], [0, 1, 2, 3, 4, 5, 6, 7, 8, 9, 10, 11]])] i).getD []
 spl := fun i => (asc [] i).getD []
 pre := fun i => (asc [] i).getD []
 join := asc []
 loop := asc []
 keep := asc []
def a1v : Row I := ⟨23, [.var 62 (.k (.d (.dat 62))) true, .d (.int .i64)], [.k (.d (.int .i64))], J2⟩
theorem a4H : y0 Go.Proofs.Tryz.prog (a1v) :=
 y9 z7 (y2 (es := []) trivial 3) mixed 46 (fn := Go.Proofs.Tryz.f23) (cd := j9 Go.Proofs.Tryz.f23) (H := a45) (rl := [.tmp 4]) Go.Proofs.Tryz.func23 (by kernel_rfl) (by kernel_rfl) (by kernel_rfl) (by kernel_rfl) (by kernel_rfl) (by kernel_rfl) (by kernel_rfl)
def a7O : Hints I where
 tds := fun i => (asc [] i).getD []
 spl := fun i => (asc [] i).getD []
 pre := fun i => (asc [] i).getD []
 join := asc [(31309, ⟨481036338176, [], [], [(.normal, [(10, .k (.row 3 false))])]⟩)]
 loop := asc [(122, ⟨8796092501760, [], [(7, .k (.d (.dat 62)))], [(8, .k (.row 22 false)), (9, .k (.d (.int .i64)))], [((.exit 0), [(8, .k (.row 22 false))])], bnd tb (.slot 9) 2⟩),
  (31306, ⟨8581549056, [], [(7, .k (.d (.dat 62)))], [(10, .k (.row 3 false)), (11, .k (.d (.int .i64)))], [((.exit 2), [(10, .k (.row 3 false))])], bnd tb (.slot 1) 1⟩)]
 keep := asc []
def a23 : Row I := ⟨7, [.d (.sl 3), .d (.int .i64), .d (.int .i64)], [.k (.row 22 false)], V3⟩
theorem a7A : y0 Go.Proofs.Tryz.prog (a23) :=
 y9 z7 (y2 (es := [j0 tb (a1v)]) ⟨z8 z7 a4H, trivial⟩ 3) mixed 44 (fn := Go.Proofs.Tryz.f7) (cd := j9 Go.Proofs.Tryz.f7) (H := a7O) (rl := [.tmp 6]) Go.Proofs.Tryz.func7 (by kernel_rfl) (by kernel_rfl) (by kernel_rfl) (by kernel_rfl) (by kernel_rfl) (by kernel_rfl) (by kernel_rfl)
def a4B : Hints I where
 tds := fun i => (asc [] i).getD []
 spl := fun i => (asc [] i).getD []
 pre := fun i => (asc [] i).getD []
 join := asc []
 loop := asc [(26, ⟨524080, [], [], [(8, .k (.d (.int .i64)))], [((.exit 0), []), (.ret, [(4, .k (.d (.int .i64)))])], bnd tb (.slot 7) 1⟩)]
 keep := asc []
def a1b : Row I := ⟨98, [.d (.sl 22), .fn [.sl 3] [.k (.d (.bool))]], [.k (.d (.int .i64))], a0u⟩
theorem a4e : y0 Go.Proofs.Tryz.prog (a1b) :=
 y9 z7 (y2 (es := []) trivial 3) mixed 19 (fn := Go.Proofs.Tryz.f98) (cd := j9 Go.Proofs.Tryz.f98) (H := a4B) (rl := [.tmp 4]) Go.Proofs.Tryz.func98 (by kernel_rfl) (by kernel_rfl) (by kernel_rfl) (by kernel_rfl) (by kernel_rfl) (by kernel_rfl) (by kernel_rfl)
def a3l : Hints I where
 tds := fun i => (asc [] i).getD []
 spl := fun i => (asc [] i).getD []
 pre := fun i => (asc [] i).getD []
 join := asc []
 loop := asc []
 keep := asc []
def a0H : Row I := ⟨58, [.d (.sl 22), .fn [.sl 3] [.k (.d (.bool))]], [.k (.d (.bool))], V1⟩
theorem a3c : y0 Go.Proofs.Tryz.prog (a0H) :=
 y9 z7 (y2 (es := [j0 tb (a1b)]) ⟨z8 z7 a4e, trivial⟩ 3) mixed 9 (fn := Go.Proofs.Tryz.f58) (cd := j9 Go.Proofs.Tryz.f58) (H := a3l) (rl := [.tmp 4]) Go.Proofs.Tryz.func58 (by kernel_rfl) (by kernel_rfl) (by kernel_rfl) (by kernel_rfl) (by kernel_rfl) (by kernel_rfl) (by kernel_rfl)
def a9Y : Hints I where
 tds := fun i => (asc [] i).getD []
 spl := fun i => (asc [] i).getD []
 pre := fun i => (asc [] i).getD []
 join := asc []
 loop := asc []
 keep := asc []
def a4p : Row I := ⟨59, [.d (.sl 3), .var 3 (.k (.d (.int .i64))) false], [.k (.d (.bool))], a33⟩
theorem a81 : y0 Go.Proofs.Tryz.prog (a4p) :=
 y9 z7 (y2 (es := []) trivial 3) mixed 8 (fn := Go.Proofs.Tryz.f59) (cd := j9 Go.Proofs.Tryz.f59) (H := a9Y) (rl := [.tmp 3]) Go.Proofs.Tryz.func59 (by kernel_rfl) (by kernel_rfl) (by kernel_rfl) (by kernel_rfl) (by kernel_rfl) (by kernel_rfl) (by kernel_rfl)
def b1o : Hints I where
 tds := fun i => (asc [] i).getD []
 spl := fun i => (asc [] i).getD []
 pre := fun i => (asc [] i).getD []
 join := asc []
 loop := asc []
 keep := asc []
def a5w : Row I := ⟨39, [.d (.int .i64), .d (.sl 22)], [.k (.d (.bool))], a2c⟩
theorem a97 : y0 Go.Proofs.Tryz.prog (a5w) :=
 y9 z7 (y2 (es := [j0 tb (a0H), j0 tb (a4p)]) ⟨z8 z7 a3c, ⟨z8 z7 a81, trivial⟩⟩ 3) mixed 9 (fn := Go.Proofs.Tryz.f39) (cd := j9 Go.Proofs.Tryz.f39) (H := b1o) (rl := [.tmp 4]) Go.Proofs.Tryz.func39 (by kernel_rfl) (by kernel_rfl) (by kernel_rfl) (by kernel_rfl) (by kernel_rfl) (by kernel_rfl) (by kernel_rfl)
def a4L : Hints I where
 tds := fun i => (asc [] i).getD []
 spl := fun i => (asc [] i).getD []
 pre := fun i => (asc [] i).getD []
 join := asc []
 loop := asc [(26, ⟨524080, [], [], [(8, .k (.d (.int .i64)))], [((.exit 0), []), (.ret, [(4, .k (.d (.int .i64)))])], bnd tb (.slot 7) 1⟩)]
 keep := asc []
def a1n : Row I := ⟨117, [.d (.sl 3), .fn [.int .i64] [.k (.d (.bool))]], [.k (.d (.int .i64))], a0F⟩
theorem a4u : y0 Go.Proofs.Tryz.prog (a1n) :=
 y9 z7 (y2 (es := []) trivial 3) mixed 19 (fn := Go.Proofs.Tryz.f117) (cd := j9 Go.Proofs.Tryz.f117) (H := a4L) (rl := [.tmp 4]) Go.Proofs.Tryz.func117 (by kernel_rfl) (by kernel_rfl) (by kernel_rfl) (by kernel_rfl) (by kernel_rfl) (by kernel_rfl) (by kernel_rfl)
def a3H : Hints I where
 tds := fun i => (asc [] i).getD []
 spl := fun i => (asc [] i).getD []
 pre := fun i => (asc [] i).getD []
 join := asc []
 loop := asc []
 keep := asc []
def J8 : Row I := ⟨85, [.d (.sl 3), .fn [.int .i64] [.k (.d (.bool))]], [.k (.d (.bool))], Z3⟩
theorem X5 : y0 Go.Proofs.Tryz.prog (J8) :=
 y9 z7 (y2 (es := [j0 tb (a1n)]) ⟨z8 z7 a4u, trivial⟩ 3) mixed 9 (fn := Go.Proofs.Tryz.f85) (cd := j9 Go.Proofs.Tryz.f85) (H := a3H) (rl := [.tmp 4]) Go.Proofs.Tryz.func85 (by kernel_rfl) (by kernel_rfl) (by kernel_rfl) (by kernel_rfl) (by kernel_rfl) (by kernel_rfl) (by kernel_rfl)
def a6e : Hints I where
 tds := fun i => (asc [] i).getD []
 spl := fun i => (asc [] i).getD []
 pre := fun i => (asc [] i).getD []
 join := asc []
 loop := asc [(26, ⟨524080, [], [], [(8, .k (.d (.int .i64)))], [((.exit 0), []), (.ret, [(4, .k (.d (.int .i64)))])], bnd tb (.slot 7) 1⟩)]
 keep := asc []
def a13 : Row I := ⟨134, [.d (.sl 3), .d (.int .i64)], [.k (.d (.int .i64))], a1D⟩
theorem a5J : y0 Go.Proofs.Tryz.prog (a13) :=
 y9 z7 (y2 (es := []) trivial 3) mixed 19 (fn := Go.Proofs.Tryz.f134) (cd := j9 Go.Proofs.Tryz.f134) (H := a6e) (rl := [.tmp 4]) Go.Proofs.Tryz.func134 (by kernel_rfl) (by kernel_rfl) (by kernel_rfl) (by kernel_rfl) (by kernel_rfl) (by kernel_rfl) (by kernel_rfl)
def a5b : Hints I where
 tds := fun i => (asc [] i).getD []
 spl := fun i => (asc [] i).getD []
 pre := fun i => (asc [] i).getD []
 join := asc []
 loop := asc []
 keep := asc []
def a1s : Row I := ⟨100, [.d (.sl 3), .d (.int .i64)], [.k (.d (.bool))], a0a⟩
theorem a4O : y0 Go.Proofs.Tryz.prog (a1s) :=
 y9 z7 (y2 (es := [j0 tb (a13)]) ⟨z8 z7 a5J, trivial⟩ 3) mixed 9 (fn := Go.Proofs.Tryz.f100) (cd := j9 Go.Proofs.Tryz.f100) (H := a5b) (rl := [.tmp 4]) Go.Proofs.Tryz.func100 (by kernel_rfl) (by kernel_rfl) (by kernel_rfl) (by kernel_rfl) (by kernel_rfl) (by kernel_rfl) (by kernel_rfl)
def a86 : Hints I where
 tds := fun i => (asc [] i).getD []
 spl := fun i => (asc [] i).getD []
 pre := fun i => (asc [] i).getD []
 join := asc []
 loop := asc []
 keep := asc []
def a3M : Row I := ⟨99, [.d (.int .i64), .var 22 (.k (.d (.sl 3))) false], [.k (.d (.bool))], a3u⟩
theorem a8s : y0 Go.Proofs.Tryz.prog (a3M) :=
 y9 z7 (y2 (es := [j0 tb (a1s)]) ⟨z8 z7 a4O, trivial⟩ 3) mixed 7 (fn := Go.Proofs.Tryz.f99) (cd := j9 Go.Proofs.Tryz.f99) (H := a86) (rl := [.tmp 3]) Go.Proofs.Tryz.func99 (by kernel_rfl) (by kernel_rfl) (by kernel_rfl) (by kernel_rfl) (by kernel_rfl) (by kernel_rfl) (by kernel_rfl)
def b0U : Hints I where
 tds := fun i => (asc [] i).getD []
 spl := fun i => (asc [] i).getD []
 pre := fun i => (asc [] i).getD []
 join := asc []
 loop := asc []
 keep := asc []
def a4U : Row I := ⟨60, [.d (.sl 3), .d (.sl 3)], [.k (.d (.bool))], a2P⟩
theorem a9w : y0 Go.Proofs.Tryz.prog (a4U) :=
 y9 z7 (y2 (es := [j0 tb (J8), j0 tb (a3M)]) ⟨z8 z7 X5, ⟨z8 z7 a8s, trivial⟩⟩ 3) mixed 8 (fn := Go.Proofs.Tryz.f60) (cd := j9 Go.Proofs.Tryz.f60) (H := b0U) (rl := [.tmp 4]) Go.Proofs.Tryz.func60 (by kernel_rfl) (by kernel_rfl) (by kernel_rfl) (by kernel_rfl) (by kernel_rfl) (by kernel_rfl) (by kernel_rfl)
def a5H : Hints I where
 tds := fun i => (asc [(6, [[], [], [0, 1], [0, 1, 2], [], [], [5], [4, 5, 6], [4, 5, 6, 7], [0, 1, 2, 3, 4, 5, 6, 7, 8]]), (11, [[], [], [0, 1], [0, 1, 2], [], [], [5], [4, 5, 6], [4, 5, 6, 7], [0, 1, 2, 3, 4, 5, 6, 7, 8]])] i).getD []
 spl := fun i => (asc [] i).getD []
 pre := fun i => (asc [] i).getD []
 join := asc []
 loop := asc [(58, ⟨1152921504606846012, [], [], [(0, .k (.row 3 false)), (3, .k (.d (.int .i64)))], [((.exit 0), [(0, .k (.row 3 false))]), (.ret, [(0, .k (.row 3 true)), (2, .k (.d (.sl 3)))])], bnd tb (.len (.slot 0)) 1⟩)]
 keep := asc [(59690, ⟨18014397972611112, 0, 3, [(3, .k (.d (.int .i64))), (5, .k (.d (.int .i64)))], [((.exit 2), [(3, .k (.d (.int .i64)))])], bnd tb (.len (.slot 4)) 1⟩)]
def a1K : Row I := ⟨137, [.row 3 false], [.k (.d (.sl 3))], a0e⟩
theorem a42 : y0 Go.Proofs.Tryz.prog (a1K) :=
 y9 z7 (y2 (es := []) trivial 3) mixed 61 (fn := Go.Proofs.Tryz.f137) (cd := j9 Go.Proofs.Tryz.f137) (H := a5H) (rl := [.tmp 2]) Go.Proofs.Tryz.func137 (by kernel_rfl) (by kernel_rfl) (by kernel_rfl) (by kernel_rfl) (by kernel_rfl) (by kernel_rfl) (by kernel_rfl)
def a6y : Hints I where
 tds := fun i => (asc [] i).getD []
 spl := fun i => (asc [] i).getD []
 pre := fun i => (asc [] i).getD []
 join := asc []
 loop := asc []
 keep := asc []
def a2p : Row I := ⟨136, [.d (.sl 3)], [.k (.row 3 true)], a1Q⟩
theorem a6i : y0 Go.Proofs.Tryz.prog (a2p) :=
 y9 z7 (y2 (es := []) trivial 3) mixed 9 (fn := Go.Proofs.Tryz.f136) (cd := j9 Go.Proofs.Tryz.f136) (H := a6y) (rl := [.tmp 2]) Go.Proofs.Tryz.func136 (by kernel_rfl) (by kernel_rfl) (by kernel_rfl) (by kernel_rfl) (by kernel_rfl) (by kernel_rfl) (by kernel_rfl)
def b2h : Hints I where
 tds := fun i => (asc [] i).getD []
 spl := fun i => (asc [] i).getD []
 pre := fun i => (asc [] i).getD []
 join := asc []
 loop := asc []
 keep := asc []
def a5Z : Row I := ⟨101, [.d (.sl 3)], [.k (.row 3 true)], a2L⟩
theorem b1b : y0 Go.Proofs.Tryz.prog (a5Z) :=
 y9 z7 (y2 (es := [j0 tb a96, b6E tb b4c, j0 tb (a1K), j0 tb (a2p)]) ⟨z8 z7 b4I, ⟨b39 z7 b8f, ⟨z8 z7 a42, ⟨z8 z7 a6i, trivial⟩⟩⟩⟩ 3) mixed 11 (fn := Go.Proofs.Tryz.f101) (cd := j9 Go.Proofs.Tryz.f101) (H := b2h) (rl := [.tmp 2]) Go.Proofs.Tryz.func101 (by kernel_rfl) (by kernel_rfl) (by kernel_rfl) (by kernel_rfl) (by kernel_rfl) (by kernel_rfl) (by kernel_rfl)
def b2g : Hints I where
 tds := fun i => (asc [(1, [[], [0], [0, 1], [], [3], [0, 1, 2, 3, 4], [], [6], [0, 1, 2, 3, 4, 5, 6, 7], [0, 1, 2, 3, 4, 5, 6, 7, 8]])] i).getD []
 spl := fun i => (asc [] i).getD []
 pre := fun i => (asc [] i).getD []
 join := asc []
 loop := asc []
 keep := asc []
def a5W : Row I := ⟨61, [.d (.dat 36)], [.k (.d (.dat 36))], a4k⟩
theorem b02 : y0 Go.Proofs.Tryz.prog (a5W) :=
 y9 z7 (y2 (es := [j0 tb (a5Z)]) ⟨z8 z7 b1b, trivial⟩ 3) mixed 12 (fn := Go.Proofs.Tryz.f61) (cd := j9 Go.Proofs.Tryz.f61) (H := b2g) (rl := [.cell 2 36]) Go.Proofs.Tryz.func61 (by kernel_rfl) (by kernel_rfl) (by kernel_rfl) (by kernel_rfl) (by kernel_rfl) (by kernel_rfl) (by kernel_rfl)
def b2l : Hints I where
 tds := fun i => (asc [(9, [[], [0], [], [], [2, 3], [2, 3, 4], [2, 3, 4, 5], [0, 1, 2, 3, 4, 5, 6], [0, 1, 2, 3, 4, 5, 6, 7], [0, 1, 2, 3, 4, 5, 6, 7, 8]]), (14, [[], [], [0, 1], [0, 1, 2], [], [], [4, 5], [4, 5, 6], [0, 1, 2, 3, 4, 5, 6, 7], [0, 1, 2, 3, 4, 5, 6, 7, 8], [], [0, 1, 2, 3, 4, 5, 6, 7, 8, 9, 10]]), (15, [[], [0], [], [], [2, 3], [2, 3, 4], [2, 3, 4, 5], [0, 1, 2, 3, 4, 5, 6], [0, 1, 2, 3, 4, 5, 6, 7], [0, 1, 2, 3, 4, 5, 6, 7, 8]]), (19, [[], [0], [], [2], [2, 3], [0, 1, 2, 3, 4], [0, 1, 2, 3, 4, 5], [0, 1, 2, 3, 4, 5, 6]])] i).getD []
 spl := fun i => (asc [] i).getD []
 pre := fun i => (asc [(18, [10, 12]), (19, [12]), (20, [10, 12])] i).getD []
 join := asc []
 loop := asc [(58, ⟨4835703278458516698261504, [], [(10, .lvs [.d (.sl 36)]), (12, .lvs [.row 36 true])], [(20, .k (.d (.int .i64)))], [((.exit 0), []), (.ret, [(11, .k (.d (.bool)))])], bnd tb (.slot 19) 1⟩),
  (59802, ⟨549722324992, [], [(14, .lvs [.row 3 false, .row 3 false, .d (.bool)])], [(25, .k (.d (.int .i64)))], [((.exit 2), [])], bnd tb (.slot 24) 1⟩),
  (119610, ⟨295147902980329963520, [], [(14, .lvs [.row 3 false, .row 3 false, .d (.bool)])], [(41, .k (.d (.int .i64)))], [((.exit 4), [])], bnd tb (.slot 40) 1⟩)]
 keep := asc []
def a5S : Row I := ⟨40, [.d (.int .i64), .d (.sl 22), .d (.sl 22), .d (.sl 22), .bor 3], [.k (.d (.dat 33)), .k (.d (.bool))], a4h⟩
theorem b1y : y0 Go.Proofs.Tryz.prog (a5S) :=
 y9 z7 (y2 (es := [j0 tb (a4U), j0 tb (a5W)]) ⟨z8 z7 a9w, ⟨z8 z7 b02, trivial⟩⟩ 3) mixed 83 (fn := Go.Proofs.Tryz.f40) (cd := j9 Go.Proofs.Tryz.f40) (H := b2l) (rl := [.cell 10 33, .tmp 11]) Go.Proofs.Tryz.func40 (by kernel_rfl) (by kernel_rfl) (by kernel_rfl) (by kernel_rfl) (by kernel_rfl) (by kernel_rfl) (by kernel_rfl)
def a8V : Hints I where
 tds := fun i => (asc [(5, [[], [], [0, 1], [0, 1, 2], [], [], [4, 5], [4, 5, 6], [4, 5, 6, 7], [0, 1, 2, 3, 4, 5, 6, 7, 8]])] i).getD []
 spl := fun i => (asc [] i).getD []
 pre := fun i => (asc [] i).getD []
 join := asc []
 loop := asc []
 keep := asc [(26, ⟨2147483440, 0, 3, [(8, .k (.d (.int .i64)))], [((.exit 0), []), (.ret, [(4, .k (.d (.bool)))])], bnd tb (.slot 7) 1⟩)]
def a3R : Rio I := ⟨41, 3, [.d (.sl 22)], [.k (.d (.bool))], a1S⟩
theorem a78 : a8J Go.Proofs.Tryz.prog (a3R) :=
 b8v z7 (y2 (es := []) trivial 3) mixed 31 (fn := Go.Proofs.Tryz.f41) (cd := j9 Go.Proofs.Tryz.f41) (H := a8V) (rl := [.tmp 4]) Go.Proofs.Tryz.func41 (by kernel_rfl) (by kernel_rfl) (by kernel_rfl) (by kernel_rfl) (by kernel_rfl) (by kernel_rfl) (by kernel_rfl)
def b0T (n : Nat) : Hints I where
 tds := fun i => (asc [] i).getD []
 spl := fun i => (asc [] i).getD []
 pre := fun i => (asc [(11, [1000009]), (17, [9])] i).getD []
 join := asc [(8131, ⟨2321137573660088015435890688, [], [], [(.normal, [(15, .k (.row 33 false))])]⟩)]
 loop := asc [(254, ⟨79228011398536885764897341696, [], [], [(14, .k (.row 3 false)), (15, .k (.row 33 false))], [(.ret, [(8, .k (.row 33 false)), (14, .k (.row 3 false))])], fun _ => some n⟩)]
 keep := asc []
 nst := asc [(122, ⟨⟨18889465929279557614848, [], [], [(41, .k (.d (.int .i64)))], [((.exit 0), []), (.ret, [(8, .k (.row 33 false))])], bnd tb (.slot 40) 1⟩, 9, 22⟩),
  (62666, ⟨⟨147573671114699714560, [], [], [(48, .k (.d (.int .i64)))], [((.exit 2), [])], bnd tb (.slot 47) 1⟩, 9, 22⟩)]
def a4T (n : Nat) : Row I := ⟨24, [.d (.int .i64), .d (.sl 22), .d (.sl 22), .fn [.int .i64] [.k (.d (.bool))]], [.k (.row 33 false)], a2O n⟩
theorem a9M (n : Nat) : y0 Go.Proofs.Tryz.prog (a4T n) :=
 y9 z7 (y2 (es := [j0 tb (a5w), j0 tb (a5S), b6E tb a3R]) ⟨z8 z7 a97, ⟨z8 z7 b1y, ⟨b39 z7 a78, trivial⟩⟩⟩ 3) mixed 96 (fn := Go.Proofs.Tryz.f24) (cd := j9 Go.Proofs.Tryz.f24) (H := (b0T n)) (rl := [.tmp 8]) Go.Proofs.Tryz.func24 (by kernel_rfl) (by kernel_rfl) (by kernel_rfl) (by kernel_rfl) (by kernel_rfl) (by kernel_rfl) (by kernel_rfl)
def a80 : Hints I where
 tds := fun i => (asc [] i).getD []
 spl := fun i => (asc [] i).getD []
 pre := fun i => (asc [] i).getD []
 join := asc []
 loop := asc []
 keep := asc []
def a3L : Row I := ⟨25, [.d (.int .i64)], [.k (.d (.bool))], a3s⟩
theorem a72 : y0 Go.Proofs.Tryz.prog (a3L) :=
 y9 z7 (y2 (es := []) trivial 3) mixed 3 (fn := Go.Proofs.Tryz.f25) (cd := j9 Go.Proofs.Tryz.f25) (H := a80) (rl := [.tmp 2]) Go.Proofs.Tryz.func25 (by kernel_rfl) (by kernel_rfl) (by kernel_rfl) (by kernel_rfl) (by kernel_rfl) (by kernel_rfl) (by kernel_rfl)
def b0h (_ : Nat) : Hints I where
 tds := fun i => (asc [] i).getD []
 spl := fun i => (asc [] i).getD []
 pre := fun i => (asc [] i).getD []
 join := asc []
 loop := asc []
 keep := asc []
def a2u (n : Nat) : Row I := ⟨8, [.d (.int .i64), .d (.sl 22), .d (.sl 22)], [.k (.row 33 false)], a1N n⟩
theorem a5D (n : Nat) : y0 Go.Proofs.Tryz.prog (a2u n) :=
 y9 z7 (y2 (es := [j0 tb (a4T n), j0 tb (a3L)]) ⟨z8 z7 (a9M n), ⟨z8 z7 a72, trivial⟩⟩ 3) mixed 11 (fn := Go.Proofs.Tryz.f8) (cd := j9 Go.Proofs.Tryz.f8) (H := (b0h n)) (rl := [.tmp 6]) Go.Proofs.Tryz.func8 (by kernel_rfl) (by kernel_rfl) (by kernel_rfl) (by kernel_rfl) (by kernel_rfl) (by kernel_rfl) (by kernel_rfl)
def a8Z : Hints I where
 tds := fun i => (asc [] i).getD []
 spl := fun i => (asc [] i).getD []
 pre := fun i => (asc [] i).getD []
 join := asc []
 loop := asc []
 keep := asc []
def a3N : Row I := ⟨26, [], [.k (.d (.dat 51))], a54⟩
theorem a7X : y0 Go.Proofs.Tryz.prog (a3N) :=
 y9 z7 (y2 (es := []) trivial 3) mixed 2 (fn := Go.Proofs.Tryz.f26) (cd := j9 Go.Proofs.Tryz.f26) (H := a8Z) (rl := [.cell 0 51]) Go.Proofs.Tryz.func26 (by kernel_rfl) (by kernel_rfl) (by kernel_rfl) (by kernel_rfl) (by kernel_rfl) (by kernel_rfl) (by kernel_rfl)
def b3r : Hints I where
 tds := fun i => (asc [] i).getD []
 spl := fun i => (asc [] i).getD []
 pre := fun i => (asc [] i).getD []
 join := asc [(105, ⟨160, [], [], [(.normal, [(5, .k (.d (.bool)))])]⟩),
  (429, ⟨2560, [], [], [(.normal, [(9, .k (.d (.bool)))])]⟩),
  (6909, ⟨327680, [], [], [(.normal, [(16, .k (.d (.bool)))])]⟩)]
 loop := asc []
 keep := asc []
def a6M : Row I := ⟨144, [.d (.int .i64)], [.k (.d (.dat 159)), .k (.d (.bool))], b0n⟩
theorem b2n : y0 Go.Proofs.Tryz.prog (a6M) :=
 y9 z7 (y2 (es := []) trivial 3) mixed 27 (fn := Go.Proofs.Tryz.f144) (cd := j9 Go.Proofs.Tryz.f144) (H := b3r) (rl := [.cell 2 159, .tmp 3]) Go.Proofs.Tryz.func144 (by kernel_rfl) (by kernel_rfl) (by kernel_rfl) (by kernel_rfl) (by kernel_rfl) (by kernel_rfl) (by kernel_rfl)
def a5F : Hints I where
 tds := fun i => (asc [(4, [[], [], [], [2], [1, 2, 3], [1, 2, 3, 4], [], [], [6, 7], [6, 7, 8], [0, 1, 2, 3, 4, 5, 6, 7, 8, 9], [0, 1, 2, 3, 4, 5, 6, 7, 8, 9, 10]])] i).getD []
 spl := fun i => (asc [] i).getD []
 pre := fun i => (asc [] i).getD []
 join := asc []
 loop := asc [(26, ⟨16777200, [], [], [(5, .k (.d (.int .i64)))], [((.exit 0), []), (.ret, [(4, .k (.d (.bool)))])], bnd tb (.len (.slot 0)) 1⟩)]
 keep := asc []
def a1O : Row I := ⟨158, [.d (.sl 9), .fn [.str, .str] [.k (.d (.int .i64))]], [.k (.d (.bool))], a2K⟩
theorem a49 : y0 Go.Proofs.Tryz.prog (a1O) :=
 y9 z7 (y2 (es := []) trivial 3) mixed 24 (fn := Go.Proofs.Tryz.f158) (cd := j9 Go.Proofs.Tryz.f158) (H := a5F) (rl := [.tmp 4]) Go.Proofs.Tryz.func158 (by kernel_rfl) (by kernel_rfl) (by kernel_rfl) (by kernel_rfl) (by kernel_rfl) (by kernel_rfl) (by kernel_rfl)
def a2Z : Hints I where
 tds := fun i => (asc [] i).getD []
 spl := fun i => (asc [] i).getD []
 pre := fun i => (asc [] i).getD []
 join := asc []
 loop := asc []
 keep := asc []
def a0t : Row I := ⟨157, [.d (.str), .d (.str)], [.k (.d (.int .i64))], a00⟩
theorem a2C : y0 Go.Proofs.Tryz.prog (a0t) :=
 y9 z7 (y2 (es := [j0 tb b4l]) ⟨z8 z7 b8m, trivial⟩ 3) mixed 8 (fn := Go.Proofs.Tryz.f157) (cd := j9 Go.Proofs.Tryz.f157) (H := a2Z) (rl := [.tmp 4]) Go.Proofs.Tryz.func157 (by kernel_rfl) (by kernel_rfl) (by kernel_rfl) (by kernel_rfl) (by kernel_rfl) (by kernel_rfl) (by kernel_rfl)
def a8W : Hints I where
 tds := fun i => (asc [] i).getD []
 spl := fun i => (asc [] i).getD []
 pre := fun i => (asc [] i).getD []
 join := asc []
 loop := asc []
 keep := asc []
def a0P : Row I := ⟨143, [.d (.str), .d (.str)], [.k (.d (.int .i64))], a02⟩
theorem a12 : y0 Go.Proofs.Tryz.prog (a0P) :=
 y9 z7 (y2 (es := [j0 tb (a0t)]) ⟨z8 z7 a2C, trivial⟩ 3) mixed 8 (fn := Go.Proofs.Tryz.f143) (cd := j9 Go.Proofs.Tryz.f143) (H := a8W) (rl := [.tmp 4]) Go.Proofs.Tryz.func143 (by kernel_rfl) (by kernel_rfl) (by kernel_rfl) (by kernel_rfl) (by kernel_rfl) (by kernel_rfl) (by kernel_rfl)
def b1F : Hints I where
 tds := fun i => (asc [] i).getD []
 spl := fun i => (asc [] i).getD []
 pre := fun i => (asc [] i).getD []
 join := asc []
 loop := asc [(58, ⟨34351349952, [], [], [(7, .k (.d (.int .i64)))], [((.exit 0), []), (.ret, [(6, .k (.d (.bool)))])], bnd tb (.len (.slot 0)) 1⟩)]
 keep := asc []
def a2V : Row I := ⟨107, [.d (.str), .fn [.int .u8] [.k (.d (.bool))], .fn [.int .u8] [.k (.d (.bool))]], [.k (.d (.bool))], a5B⟩
theorem a57 : y0 Go.Proofs.Tryz.prog (a2V) :=
 y9 z7 (y2 (es := []) trivial 3) mixed 35 (fn := Go.Proofs.Tryz.f107) (cd := j9 Go.Proofs.Tryz.f107) (H := b1F) (rl := [.tmp 6]) Go.Proofs.Tryz.func107 (by kernel_rfl) (by kernel_rfl) (by kernel_rfl) (by kernel_rfl) (by kernel_rfl) (by kernel_rfl) (by kernel_rfl)
def b0g : Hints I where
 tds := fun i => (asc [] i).getD []
 spl := fun i => (asc [] i).getD []
 pre := fun i => (asc [] i).getD []
 join := asc []
 loop := asc []
 keep := asc []
def a2z : Row I := ⟨111, [.d (.int .u8)], [.k (.d (.bool))], a4E⟩
theorem a5x : y0 Go.Proofs.Tryz.prog (a2z) :=
 y9 z7 (y2 (es := []) trivial 3) mixed 9 (fn := Go.Proofs.Tryz.f111) (cd := j9 Go.Proofs.Tryz.f111) (H := b0g) (rl := [.tmp 2]) Go.Proofs.Tryz.func111 (by kernel_rfl) (by kernel_rfl) (by kernel_rfl) (by kernel_rfl) (by kernel_rfl) (by kernel_rfl) (by kernel_rfl)
def b0S : Hints I where
 tds := fun i => (asc [] i).getD []
 spl := fun i => (asc [] i).getD []
 pre := fun i => (asc [] i).getD []
 join := asc []
 loop := asc []
 keep := asc []
def a1e : Row I := ⟨108, [.d (.int .u8)], [.k (.d (.bool))], a2S⟩
theorem a2Y : y0 Go.Proofs.Tryz.prog (a1e) :=
 y9 z7 (y2 (es := []) trivial 3) mixed 9 (fn := Go.Proofs.Tryz.f108) (cd := j9 Go.Proofs.Tryz.f108) (H := b0S) (rl := [.tmp 2]) Go.Proofs.Tryz.func108 (by kernel_rfl) (by kernel_rfl) (by kernel_rfl) (by kernel_rfl) (by kernel_rfl) (by kernel_rfl) (by kernel_rfl)
def b0R : Hints I where
 tds := fun i => (asc [] i).getD []
 spl := fun i => (asc [] i).getD []
 pre := fun i => (asc [] i).getD []
 join := asc []
 loop := asc []
 keep := asc []
def a2t : Row I := ⟨110, [.d (.int .u8)], [.k (.d (.bool))], a4F⟩
theorem a5y : y0 Go.Proofs.Tryz.prog (a2t) :=
 y9 z7 (y2 (es := []) trivial 3) mixed 9 (fn := Go.Proofs.Tryz.f110) (cd := j9 Go.Proofs.Tryz.f110) (H := b0R) (rl := [.tmp 2]) Go.Proofs.Tryz.func110 (by kernel_rfl) (by kernel_rfl) (by kernel_rfl) (by kernel_rfl) (by kernel_rfl) (by kernel_rfl) (by kernel_rfl)
def a7i : Hints I where
 tds := fun i => (asc [] i).getD []
 spl := fun i => (asc [] i).getD []
 pre := fun i => (asc [] i).getD []
 join := asc []
 loop := asc []
 keep := asc []
def a2D : Row I := ⟨112, [.d (.int .u8)], [.k (.d (.bool))], a4t⟩
theorem a6K : y0 Go.Proofs.Tryz.prog (a2D) :=
 y9 z7 (y2 (es := [j0 tb (a1e), j0 tb (a2z), j0 tb (a2t)]) ⟨z8 z7 a2Y, ⟨z8 z7 a5x, ⟨z8 z7 a5y, trivial⟩⟩⟩ 3) mixed 17 (fn := Go.Proofs.Tryz.f112) (cd := j9 Go.Proofs.Tryz.f112) (H := a7i) (rl := [.tmp 2]) Go.Proofs.Tryz.func112 (by kernel_rfl) (by kernel_rfl) (by kernel_rfl) (by kernel_rfl) (by kernel_rfl) (by kernel_rfl) (by kernel_rfl)
def a8m : Hints I where
 tds := fun i => (asc [] i).getD []
 spl := fun i => (asc [] i).getD []
 pre := fun i => (asc [] i).getD []
 join := asc []
 loop := asc []
 keep := asc []
def a1G : Row I := ⟨79, [.d (.str)], [.k (.d (.bool))], a2T⟩
theorem a3T : y0 Go.Proofs.Tryz.prog (a1G) :=
 y9 z7 (y2 (es := [j0 tb (a2V), j0 tb (a2z), j0 tb (a2D)]) ⟨z8 z7 a57, ⟨z8 z7 a5x, ⟨z8 z7 a6K, trivial⟩⟩⟩ 3) mixed 5 (fn := Go.Proofs.Tryz.f79) (cd := j9 Go.Proofs.Tryz.f79) (H := a8m) (rl := [.tmp 2]) Go.Proofs.Tryz.func79 (by kernel_rfl) (by kernel_rfl) (by kernel_rfl) (by kernel_rfl) (by kernel_rfl) (by kernel_rfl) (by kernel_rfl)
def a7S : Hints I where
 tds := fun i => (asc [] i).getD []
 spl := fun i => (asc [] i).getD []
 pre := fun i => (asc [] i).getD []
 join := asc []
 loop := asc [(58, ⟨261140, [], [], [(10, .k (.d (.int .i64)))], [((.exit 0), []), (.ret, [(2, .k (.d (.bool)))])], bnd tb (.slot 9) 1⟩)]
 keep := asc []
def a25 : Row I := ⟨145, [.d (.sl 9)], [.k (.d (.bool))], a40⟩
theorem a7e : y0 Go.Proofs.Tryz.prog (a25) :=
 y9 z7 (y2 (es := [j0 tb (a1O), j0 tb (a0P), j0 tb (a1G)]) ⟨z8 z7 a49, ⟨z8 z7 a12, ⟨z8 z7 a3T, trivial⟩⟩⟩ 3) mixed 18 (fn := Go.Proofs.Tryz.f145) (cd := j9 Go.Proofs.Tryz.f145) (H := a7S) (rl := [.tmp 2]) Go.Proofs.Tryz.func145 (by kernel_rfl) (by kernel_rfl) (by kernel_rfl) (by kernel_rfl) (by kernel_rfl) (by kernel_rfl) (by kernel_rfl)
def a9u : Hints I where
 tds := fun i => (asc [] i).getD []
 spl := fun i => (asc [] i).getD []
 pre := fun i => (asc [] i).getD []
 join := asc []
 loop := asc []
 keep := asc []
def a4A : Row I := ⟨109, [.d (.int .u8)], [.k (.d (.bool))], a6O⟩
theorem a89 : y0 Go.Proofs.Tryz.prog (a4A) :=
 y9 z7 (y2 (es := [j0 tb (a1e), j0 tb (a2t)]) ⟨z8 z7 a2Y, ⟨z8 z7 a5y, trivial⟩⟩ 3) mixed 13 (fn := Go.Proofs.Tryz.f109) (cd := j9 Go.Proofs.Tryz.f109) (H := a9u) (rl := [.tmp 2]) Go.Proofs.Tryz.func109 (by kernel_rfl) (by kernel_rfl) (by kernel_rfl) (by kernel_rfl) (by kernel_rfl) (by kernel_rfl) (by kernel_rfl)
def b1I : Hints I where
 tds := fun i => (asc [] i).getD []
 spl := fun i => (asc [] i).getD []
 pre := fun i => (asc [] i).getD []
 join := asc []
 loop := asc []
 keep := asc []
def a1H : Row I := ⟨78, [.d (.str)], [.k (.d (.bool))], a3v⟩
theorem a3k : y0 Go.Proofs.Tryz.prog (a1H) :=
 y9 z7 (y2 (es := [j0 tb (a2V), j0 tb (a1e), j0 tb (a4A)]) ⟨z8 z7 a57, ⟨z8 z7 a2Y, ⟨z8 z7 a89, trivial⟩⟩⟩ 3) mixed 5 (fn := Go.Proofs.Tryz.f78) (cd := j9 Go.Proofs.Tryz.f78) (H := b1I) (rl := [.tmp 2]) Go.Proofs.Tryz.func78 (by kernel_rfl) (by kernel_rfl) (by kernel_rfl) (by kernel_rfl) (by kernel_rfl) (by kernel_rfl) (by kernel_rfl)
def a48 : Hints I where
 tds := fun i => (asc [(4, [[], [], [], [2], [1, 2, 3], [1, 2, 3, 4], [], [], [6, 7], [6, 7, 8], [0, 1, 2, 3, 4, 5, 6, 7, 8, 9], [0, 1, 2, 3, 4, 5, 6, 7, 8, 9, 10]])] i).getD []
 spl := fun i => (asc [] i).getD []
 pre := fun i => (asc [] i).getD []
 join := asc []
 loop := asc [(26, ⟨16777200, [], [], [(5, .k (.d (.int .i64)))], [((.exit 0), []), (.ret, [(4, .k (.d (.bool)))])], bnd tb (.len (.slot 0)) 1⟩)]
 keep := asc []
def a1w : Row I := ⟨159, [.d (.sl 123), .fn [.dat 123, .dat 123] [.k (.d (.int .i64))]], [.k (.d (.bool))], a2q⟩
theorem a4I : y0 Go.Proofs.Tryz.prog (a1w) :=
 y9 z7 (y2 (es := []) trivial 3) mixed 24 (fn := Go.Proofs.Tryz.f159) (cd := j9 Go.Proofs.Tryz.f159) (H := a48) (rl := [.tmp 4]) Go.Proofs.Tryz.func159 (by kernel_rfl) (by kernel_rfl) (by kernel_rfl) (by kernel_rfl) (by kernel_rfl) (by kernel_rfl) (by kernel_rfl)
def b0P : Hints I where
 tds := fun i => (asc [] i).getD []
 spl := fun i => (asc [] i).getD []
 pre := fun i => (asc [] i).getD []
 join := asc []
 loop := asc []
 keep := asc []
def a4Y : Row I := ⟨156, [.d (.int .i64)], [.k (.d (.bool))], a4M⟩
theorem a9B : y0 Go.Proofs.Tryz.prog (a4Y) :=
 y9 z7 (y2 (es := []) trivial 3) mixed 6 (fn := Go.Proofs.Tryz.f156) (cd := j9 Go.Proofs.Tryz.f156) (H := b0P) (rl := [.tmp 2]) Go.Proofs.Tryz.func156 (by kernel_rfl) (by kernel_rfl) (by kernel_rfl) (by kernel_rfl) (by kernel_rfl) (by kernel_rfl) (by kernel_rfl)
def a8U : Hints I where
 tds := fun i => (asc [] i).getD []
 spl := fun i => (asc [] i).getD []
 pre := fun i => (asc [] i).getD []
 join := asc []
 loop := asc []
 keep := asc []
def K3 : Row I := ⟨142, [.d (.int .i64), .d (.int .i64)], [.k (.d (.int .i64))], X3⟩
theorem W5 : y0 Go.Proofs.Tryz.prog (K3) :=
 y9 z7 (y2 (es := [j0 tb (a4Y)]) ⟨z8 z7 a9B, trivial⟩ 3) mixed 20 (fn := Go.Proofs.Tryz.f142) (cd := j9 Go.Proofs.Tryz.f142) (H := a8U) (rl := [.tmp 4]) Go.Proofs.Tryz.func142 (by kernel_rfl) (by kernel_rfl) (by kernel_rfl) (by kernel_rfl) (by kernel_rfl) (by kernel_rfl) (by kernel_rfl)
def a7M : Hints I where
 tds := fun i => (asc [] i).getD []
 spl := fun i => (asc [] i).getD []
 pre := fun i => (asc [] i).getD []
 join := asc []
 loop := asc []
 keep := asc []
def a0i : Row I := ⟨114, [.d (.dat 123), .d (.dat 123)], [.k (.d (.int .i64))], a1f⟩
theorem a1A : y0 Go.Proofs.Tryz.prog (a0i) :=
 y9 z7 (y2 (es := [j0 tb (K3), j0 tb (a0P)]) ⟨z8 z7 W5, ⟨z8 z7 a12, trivial⟩⟩ 3) mixed 19 (fn := Go.Proofs.Tryz.f114) (cd := j9 Go.Proofs.Tryz.f114) (H := a7M) (rl := [.tmp 4]) Go.Proofs.Tryz.func114 (by kernel_rfl) (by kernel_rfl) (by kernel_rfl) (by kernel_rfl) (by kernel_rfl) (by kernel_rfl) (by kernel_rfl)
def a90 : Hints I where
 tds := fun i => (asc [] i).getD []
 spl := fun i => (asc [] i).getD []
 pre := fun i => (asc [] i).getD []
 join := asc []
 loop := asc []
 keep := asc []
def a1Z : Row I := ⟨113, [.d (.dat 123)], [.k (.d (.bool))], a4d⟩
theorem a4Z : y0 Go.Proofs.Tryz.prog (a1Z) :=
 y9 z7 (y2 (es := [j0 tb (a1H)]) ⟨z8 z7 a3k, trivial⟩ 3) mixed 16 (fn := Go.Proofs.Tryz.f113) (cd := j9 Go.Proofs.Tryz.f113) (H := a90) (rl := [.tmp 2]) Go.Proofs.Tryz.func113 (by kernel_rfl) (by kernel_rfl) (by kernel_rfl) (by kernel_rfl) (by kernel_rfl) (by kernel_rfl) (by kernel_rfl)
def a9O : Hints I where
 tds := fun i => (asc [] i).getD []
 spl := fun i => (asc [] i).getD []
 pre := fun i => (asc [] i).getD []
 join := asc []
 loop := asc [(58, ⟨534773780, [], [], [(21, .k (.d (.int .i64)))], [((.exit 0), []), (.ret, [(2, .k (.d (.bool)))])], bnd tb (.slot 20) 1⟩)]
 keep := asc []
def a4y : Row I := ⟨146, [.d (.dat 51)], [.k (.d (.bool))], a6R⟩
theorem a9c : y0 Go.Proofs.Tryz.prog (a4y) :=
 y9 z7 (y2 (es := [j0 tb (a1w), j0 tb (a0i), j0 tb (a1Z)]) ⟨z8 z7 a4I, ⟨z8 z7 a1A, ⟨z8 z7 a4Z, trivial⟩⟩⟩ 3) mixed 29 (fn := Go.Proofs.Tryz.f146) (cd := j9 Go.Proofs.Tryz.f146) (H := a9O) (rl := [.tmp 2]) Go.Proofs.Tryz.func146 (by kernel_rfl) (by kernel_rfl) (by kernel_rfl) (by kernel_rfl) (by kernel_rfl) (by kernel_rfl) (by kernel_rfl)
def a4x : Hints I where
 tds := fun i => (asc [(4, [[], [], [], [2], [1, 2, 3], [1, 2, 3, 4], [], [], [6, 7], [6, 7, 8], [0, 1, 2, 3, 4, 5, 6, 7, 8, 9], [0, 1, 2, 3, 4, 5, 6, 7, 8, 9, 10]])] i).getD []
 spl := fun i => (asc [] i).getD []
 pre := fun i => (asc [] i).getD []
 join := asc []
 loop := asc [(26, ⟨16777200, [], [], [(5, .k (.d (.int .i64)))], [((.exit 0), []), (.ret, [(4, .k (.d (.bool)))])], bnd tb (.len (.slot 0)) 1⟩)]
 keep := asc []
def a1c : Row I := ⟨160, [.d (.sl 101), .fn [.dat 101, .dat 101] [.k (.d (.int .i64))]], [.k (.d (.bool))], a1W⟩
theorem a31 : y0 Go.Proofs.Tryz.prog (a1c) :=
 y9 z7 (y2 (es := []) trivial 3) mixed 24 (fn := Go.Proofs.Tryz.f160) (cd := j9 Go.Proofs.Tryz.f160) (H := a4x) (rl := [.tmp 4]) Go.Proofs.Tryz.func160 (by kernel_rfl) (by kernel_rfl) (by kernel_rfl) (by kernel_rfl) (by kernel_rfl) (by kernel_rfl) (by kernel_rfl)
def a3x : Hints I where
 tds := fun i => (asc [(7, [[], [], [], [1, 2], [1, 2, 3], [], [], [5, 6], [5, 6, 7], [0, 1, 2, 3, 4, 5, 6, 7, 8], [0, 1, 2, 3, 4, 5, 6, 7, 8, 9]])] i).getD []
 spl := fun i => (asc [] i).getD []
 pre := fun i => (asc [] i).getD []
 join := asc []
 loop := asc [(58, ⟨137437905728, [], [], [(20, .k (.d (.int .i64)))], [((.exit 0), []), (.ret, [(6, .k (.d (.int .i64)))])], bnd tb (.slot 19) 1⟩)]
 keep := asc []
def a0N : Row I := ⟨184, [.d (.sl 51), .d (.sl 51), .fn [.dat 51, .dat 51] [.k (.d (.int .i64))]], [.k (.d (.int .i64))], a1i⟩
theorem a3g : y0 Go.Proofs.Tryz.prog (a0N) :=
 y9 z7 (y2 (es := [j0 tb (K3)]) ⟨z8 z7 W5, trivial⟩ 3) mixed 37 (fn := Go.Proofs.Tryz.f184) (cd := j9 Go.Proofs.Tryz.f184) (H := a3x) (rl := [.tmp 6]) Go.Proofs.Tryz.func184 (by kernel_rfl) (by kernel_rfl) (by kernel_rfl) (by kernel_rfl) (by kernel_rfl) (by kernel_rfl) (by kernel_rfl)
def a87 : Hints I where
 tds := fun i => (asc [] i).getD []
 spl := fun i => (asc [] i).getD []
 pre := fun i => (asc [] i).getD []
 join := asc []
 loop := asc []
 keep := asc []
def a3S : Row I := ⟨191, [.d (.int .i64)], [.k (.d (.bool))], a3C⟩
theorem a7W : y0 Go.Proofs.Tryz.prog (a3S) :=
 y9 z7 (y2 (es := []) trivial 3) mixed 6 (fn := Go.Proofs.Tryz.f191) (cd := j9 Go.Proofs.Tryz.f191) (H := a87) (rl := [.tmp 2]) Go.Proofs.Tryz.func191 (by kernel_rfl) (by kernel_rfl) (by kernel_rfl) (by kernel_rfl) (by kernel_rfl) (by kernel_rfl) (by kernel_rfl)
def a7K : Hints I where
 tds := fun i => (asc [] i).getD []
 spl := fun i => (asc [] i).getD []
 pre := fun i => (asc [] i).getD []
 join := asc []
 loop := asc []
 keep := asc []
def a27 : Row I := ⟨185, [.d (.int .i64), .d (.int .i64)], [.k (.d (.int .i64))], a4S⟩
theorem a64 : y0 Go.Proofs.Tryz.prog (a27) :=
 y9 z7 (y2 (es := [j0 tb (a3S)]) ⟨z8 z7 a7W, trivial⟩ 3) mixed 20 (fn := Go.Proofs.Tryz.f185) (cd := j9 Go.Proofs.Tryz.f185) (H := a7K) (rl := [.tmp 4]) Go.Proofs.Tryz.func185 (by kernel_rfl) (by kernel_rfl) (by kernel_rfl) (by kernel_rfl) (by kernel_rfl) (by kernel_rfl) (by kernel_rfl)
def a3X : Hints I where
 tds := fun i => (asc [(7, [[], [], [], [1, 2], [1, 2, 3], [], [], [5, 6], [5, 6, 7], [0, 1, 2, 3, 4, 5, 6, 7, 8], [0, 1, 2, 3, 4, 5, 6, 7, 8, 9]])] i).getD []
 spl := fun i => (asc [] i).getD []
 pre := fun i => (asc [] i).getD []
 join := asc []
 loop := asc [(58, ⟨137437905728, [], [], [(20, .k (.d (.int .i64)))], [((.exit 0), []), (.ret, [(6, .k (.d (.int .i64)))])], bnd tb (.slot 19) 1⟩)]
 keep := asc []
def a03 : Row I := ⟨186, [.d (.sl 123), .d (.sl 123), .fn [.dat 123, .dat 123] [.k (.d (.int .i64))]], [.k (.d (.int .i64))], a1L⟩
theorem a3F : y0 Go.Proofs.Tryz.prog (a03) :=
 y9 z7 (y2 (es := [j0 tb (K3)]) ⟨z8 z7 W5, trivial⟩ 3) mixed 37 (fn := Go.Proofs.Tryz.f186) (cd := j9 Go.Proofs.Tryz.f186) (H := a3X) (rl := [.tmp 6]) Go.Proofs.Tryz.func186 (by kernel_rfl) (by kernel_rfl) (by kernel_rfl) (by kernel_rfl) (by kernel_rfl) (by kernel_rfl) (by kernel_rfl)
def a3t : Hints I where
 tds := fun i => (asc [(7, [[], [], [], [1, 2], [1, 2, 3], [], [], [5, 6], [5, 6, 7], [0, 1, 2, 3, 4, 5, 6, 7, 8], [0, 1, 2, 3, 4, 5, 6, 7, 8, 9]])] i).getD []
 spl := fun i => (asc [] i).getD []
 pre := fun i => (asc [] i).getD []
 join := asc []
 loop := asc [(58, ⟨137437905728, [], [], [(20, .k (.d (.int .i64)))], [((.exit 0), []), (.ret, [(6, .k (.d (.int .i64)))])], bnd tb (.slot 19) 1⟩)]
 keep := asc []
def a0L : Row I := ⟨187, [.d (.sl 101), .d (.sl 101), .fn [.dat 101, .dat 101] [.k (.d (.int .i64))]], [.k (.d (.int .i64))], a1o⟩
theorem a3b : y0 Go.Proofs.Tryz.prog (a0L) :=
 y9 z7 (y2 (es := [j0 tb (K3)]) ⟨z8 z7 W5, trivial⟩ 3) mixed 37 (fn := Go.Proofs.Tryz.f187) (cd := j9 Go.Proofs.Tryz.f187) (H := a3t) (rl := [.tmp 6]) Go.Proofs.Tryz.func187 (by kernel_rfl) (by kernel_rfl) (by kernel_rfl) (by kernel_rfl) (by kernel_rfl) (by kernel_rfl) (by kernel_rfl)
def a4w : Hints I where
 tds := fun i => (asc [(7, [[], [], [], [1, 2], [1, 2, 3], [], [], [5, 6], [5, 6, 7], [0, 1, 2, 3, 4, 5, 6, 7, 8], [0, 1, 2, 3, 4, 5, 6, 7, 8, 9]])] i).getD []
 spl := fun i => (asc [] i).getD []
 pre := fun i => (asc [] i).getD []
 join := asc []
 loop := asc [(58, ⟨137437905728, [], [], [(20, .k (.d (.int .i64)))], [((.exit 0), []), (.ret, [(6, .k (.d (.int .i64)))])], bnd tb (.slot 19) 1⟩)]
 keep := asc []
def a1a : Row I := ⟨188, [.d (.sl 9), .d (.sl 9), .fn [.str, .str] [.k (.d (.int .i64))]], [.k (.d (.int .i64))], a1T⟩
theorem a4c : y0 Go.Proofs.Tryz.prog (a1a) :=
 y9 z7 (y2 (es := [j0 tb (K3)]) ⟨z8 z7 W5, trivial⟩ 3) mixed 37 (fn := Go.Proofs.Tryz.f188) (cd := j9 Go.Proofs.Tryz.f188) (H := a4w) (rl := [.tmp 6]) Go.Proofs.Tryz.func188 (by kernel_rfl) (by kernel_rfl) (by kernel_rfl) (by kernel_rfl) (by kernel_rfl) (by kernel_rfl) (by kernel_rfl)
def b0N (_ : Nat) : Hints I where
 tds := fun i => (asc [] i).getD []
 spl := fun i => (asc [] i).getD []
 pre := fun i => (asc [] i).getD []
 join := asc []
 loop := asc []
 keep := asc []
def Q3 (n : Nat) : Row I := ⟨177, [.d (.dat 51), .d (.dat 51)], [.k (.d (.int .i64))], a7I n⟩
def a6h (_ : Nat) : Hints I where
 tds := fun i => (asc [] i).getD []
 spl := fun i => (asc [] i).getD []
 pre := fun i => (asc [] i).getD []
 join := asc []
 loop := asc []
 keep := asc []
def Y2 (n : Nat) : Row I := ⟨161, [.d (.dat 101), .d (.dat 101)], [.k (.d (.int .i64))], a3y n⟩
def a6C (_ : Nat) : Hints I where
 tds := fun i => (asc [] i).getD []
 spl := fun i => (asc [] i).getD []
 pre := fun i => (asc [] i).getD []
 join := asc []
 loop := asc []
 keep := asc []
def Y9 (n : Nat) : Row I := ⟨176, [.d (.sl 51), .d (.sl 51)], [.k (.d (.int .i64))], a7Q n⟩
theorem a9a (n : Nat) (_ : y0 Go.Proofs.Tryz.prog (Q3 n)) (h_value_compareEntries : y0 Go.Proofs.Tryz.prog (Y2 n)) (h_value_compareValues : y0 Go.Proofs.Tryz.prog (Y9 n)) : y0 Go.Proofs.Tryz.prog (Q3 (n + 1)) :=
 y9 z7 (y2 (es := [j0 tb (K3), j0 tb (a27), j0 tb (a0P), j0 tb (a03), j0 tb (a0i), j0 tb (Y9 n), j0 tb (a0L), j0 tb (Y2 n), j0 tb (a1a)]) ⟨z8 z7 W5, ⟨z8 z7 a64, ⟨z8 z7 a12, ⟨z8 z7 a3F, ⟨z8 z7 a1A, ⟨z8 z7 h_value_compareValues, ⟨z8 z7 a3b, ⟨z8 z7 h_value_compareEntries, ⟨z8 z7 a4c, trivial⟩⟩⟩⟩⟩⟩⟩⟩⟩ 3) mixed 64 (fn := Go.Proofs.Tryz.f177) (cd := j9 Go.Proofs.Tryz.f177) (H := (b0N n)) (rl := [.tmp 4]) Go.Proofs.Tryz.func177 (by kernel_rfl) (by kernel_rfl) (by kernel_rfl) (by kernel_rfl) (by kernel_rfl) (by kernel_rfl) (by kernel_rfl)
theorem a5j (n : Nat) (h_value_Compare : y0 Go.Proofs.Tryz.prog (Q3 n)) (_ : y0 Go.Proofs.Tryz.prog (Y2 n)) (h_value_compareValues : y0 Go.Proofs.Tryz.prog (Y9 n)) : y0 Go.Proofs.Tryz.prog (Y2 (n + 1)) :=
 y9 z7 (y2 (es := [j0 tb (Y9 n), j0 tb (Q3 n)]) ⟨z8 z7 h_value_compareValues, ⟨z8 z7 h_value_Compare, trivial⟩⟩ 3) mixed 26 (fn := Go.Proofs.Tryz.f161) (cd := j9 Go.Proofs.Tryz.f161) (H := (a6h n)) (rl := [.tmp 4]) Go.Proofs.Tryz.func161 (by kernel_rfl) (by kernel_rfl) (by kernel_rfl) (by kernel_rfl) (by kernel_rfl) (by kernel_rfl) (by kernel_rfl)
theorem a5O (n : Nat) (h_value_Compare : y0 Go.Proofs.Tryz.prog (Q3 n)) (_ : y0 Go.Proofs.Tryz.prog (Y2 n)) (_ : y0 Go.Proofs.Tryz.prog (Y9 n)) : y0 Go.Proofs.Tryz.prog (Y9 (n + 1)) :=
 y9 z7 (y2 (es := [j0 tb (a0N), j0 tb (Q3 n)]) ⟨z8 z7 a3g, ⟨z8 z7 h_value_Compare, trivial⟩⟩ 3) mixed 8 (fn := Go.Proofs.Tryz.f176) (cd := j9 Go.Proofs.Tryz.f176) (H := (a6C n)) (rl := [.tmp 4]) Go.Proofs.Tryz.func176 (by kernel_rfl) (by kernel_rfl) (by kernel_rfl) (by kernel_rfl) (by kernel_rfl) (by kernel_rfl) (by kernel_rfl)
theorem a1B : ∀ n : Nat, y0 Go.Proofs.Tryz.prog (Q3 n) /\ y0 Go.Proofs.Tryz.prog (Y2 n) /\ y0 Go.Proofs.Tryz.prog (Y9 n)
 | 0 => ⟨V9 (by kernel_rfl), V9 (by kernel_rfl), V9 (by kernel_rfl)⟩
 | n + 1 => by
   obtain ⟨h0, h1, h2⟩ := a1B n
   exact ⟨a9a n h0 h1 h2, a5j n h0 h1 h2, a5O n h0 h1 h2⟩
theorem a94 (n : Nat) : y0 Go.Proofs.Tryz.prog (Q3 n) := (a1B n).1
theorem a5N (n : Nat) : y0 Go.Proofs.Tryz.prog (Y2 n) := (a1B n).2.1
def b2e (_ : Nat) : Hints I where
 tds := fun i => (asc [] i).getD []
 spl := fun i => (asc [] i).getD []
 pre := fun i => (asc [] i).getD []
 join := asc []
 loop := asc []
 keep := asc []
def a55 (n : Nat) : Row I := ⟨189, [.d (.dat 51), .d (.dat 51)], [.k (.d (.bool))], a9m n⟩
theorem b01 (n : Nat) : y0 Go.Proofs.Tryz.prog (a55 n) :=
 y9 z7 (y2 (es := [j0 tb (Q3 n)]) ⟨z8 z7 (a94 n), trivial⟩ 3) mixed 9 (fn := Go.Proofs.Tryz.f189) (cd := j9 Go.Proofs.Tryz.f189) (H := (b2e n)) (rl := [.tmp 4]) Go.Proofs.Tryz.func189 (by kernel_rfl) (by kernel_rfl) (by kernel_rfl) (by kernel_rfl) (by kernel_rfl) (by kernel_rfl) (by kernel_rfl)
def b1c (_ : Nat) : Hints I where
 tds := fun i => (asc [] i).getD []
 spl := fun i => (asc [] i).getD []
 pre := fun i => (asc [] i).getD []
 join := asc []
 loop := asc []
 keep := asc []
def a5q (n : Nat) : Row I := ⟨178, [.d (.dat 51)], [.k (.d (.bool))], a8h n⟩
theorem b0x (n : Nat) : y0 Go.Proofs.Tryz.prog (a5q n) :=
 y9 z7 (y2 (es := [j0 tb (a55 n)]) ⟨z8 z7 (b01 n), trivial⟩ 3) mixed 6 (fn := Go.Proofs.Tryz.f178) (cd := j9 Go.Proofs.Tryz.f178) (H := (b1c n)) (rl := [.tmp 2]) Go.Proofs.Tryz.func178 (by kernel_rfl) (by kernel_rfl) (by kernel_rfl) (by kernel_rfl) (by kernel_rfl) (by kernel_rfl) (by kernel_rfl)
def a71 (_ : Nat) : Hints I where
 tds := fun i => (asc [] i).getD []
 spl := fun i => (asc [] i).getD []
 pre := fun i => (asc [] i).getD []
 join := asc []
 loop := asc []
 keep := asc []
def a3D (n : Nat) : Row I := ⟨162, [.d (.dat 101), .d (.int .i64)], [.k (.d (.bool))], a5k n⟩
theorem a7P (n : Nat) : y0 Go.Proofs.Tryz.prog (a3D n) :=
 y9 z7 (y2 (es := [j0 tb (a5q n)]) ⟨z8 z7 (b0x n), trivial⟩ 3) mixed 20 (fn := Go.Proofs.Tryz.f162) (cd := j9 Go.Proofs.Tryz.f162) (H := (a71 n)) (rl := [.tmp 4]) Go.Proofs.Tryz.func162 (by kernel_rfl) (by kernel_rfl) (by kernel_rfl) (by kernel_rfl) (by kernel_rfl) (by kernel_rfl) (by kernel_rfl)
def a6E (_ : Nat) : Hints I where
 tds := fun i => (asc [] i).getD []
 spl := fun i => (asc [] i).getD []
 pre := fun i => (asc [] i).getD []
 join := asc []
 loop := asc [(58, ⟨4290773012, [], [], [(22, .k (.d (.int .i64)))], [((.exit 0), []), (.ret, [(2, .k (.d (.bool)))])], bnd tb (.slot 21) 1⟩)]
 keep := asc []
def a2s (n : Nat) : Row I := ⟨147, [.d (.dat 51)], [.k (.d (.bool))], a3K n⟩
theorem a6p (n : Nat) : y0 Go.Proofs.Tryz.prog (a2s n) :=
 y9 z7 (y2 (es := [j0 tb (a1c), j0 tb (Y2 n), j0 tb (a3D n)]) ⟨z8 z7 a31, ⟨z8 z7 (a5N n), ⟨z8 z7 (a7P n), trivial⟩⟩⟩ 3) mixed 32 (fn := Go.Proofs.Tryz.f147) (cd := j9 Go.Proofs.Tryz.f147) (H := (a6E n)) (rl := [.tmp 2]) Go.Proofs.Tryz.func147 (by kernel_rfl) (by kernel_rfl) (by kernel_rfl) (by kernel_rfl) (by kernel_rfl) (by kernel_rfl) (by kernel_rfl)
def a85 (_ : Nat) : Hints I where
 tds := fun i => (asc [] i).getD []
 spl := fun i => (asc [] i).getD []
 pre := fun i => (asc [] i).getD []
 join := asc []
 loop := asc []
 keep := asc []
def a3Q (n : Nat) : Row I := ⟨115, [.d (.dat 51)], [.k (.d (.bool))], a5X n⟩
theorem a8v (n : Nat) : y0 Go.Proofs.Tryz.prog (a3Q n) :=
 y9 z7 (y2 (es := [j0 tb (a6M), j0 tb (a25), j0 tb (a1H), j0 tb (a4y), j0 tb (a2s n)]) ⟨z8 z7 b2n, ⟨z8 z7 a7e, ⟨z8 z7 a3k, ⟨z8 z7 a9c, ⟨z8 z7 (a6p n), trivial⟩⟩⟩⟩⟩ 3) mixed 124 (fn := Go.Proofs.Tryz.f115) (cd := j9 Go.Proofs.Tryz.f115) (H := (a85 n)) (rl := [.tmp 2]) Go.Proofs.Tryz.func115 (by kernel_rfl) (by kernel_rfl) (by kernel_rfl) (by kernel_rfl) (by kernel_rfl) (by kernel_rfl) (by kernel_rfl)
def b2d : Hints I where
 tds := fun i => (asc [] i).getD []
 spl := fun i => (asc [] i).getD []
 pre := fun i => (asc [] i).getD []
 join := asc []
 loop := asc [(58, ⟨536866856, [], [], [(3, .k (.row 51 false)), (12, .k (.d (.int .i64)))], [((.exit 0), [(3, .k (.row 51 false))])], bnd tb (.slot 11) 1⟩)]
 keep := asc []
def a59 : Row I := ⟨116, [.d (.dat 51)], [.k (.row 51 false)], a9o⟩
theorem b1C : y0 Go.Proofs.Tryz.prog (a59) :=
 y9 z7 (y2 (es := [j0 tb b3Z]) ⟨z8 z7 b8x, trivial⟩ 3) mixed 30 (fn := Go.Proofs.Tryz.f116) (cd := j9 Go.Proofs.Tryz.f116) (H := b2d) (rl := [.tmp 2]) Go.Proofs.Tryz.func116 (by kernel_rfl) (by kernel_rfl) (by kernel_rfl) (by kernel_rfl) (by kernel_rfl) (by kernel_rfl) (by kernel_rfl)
def a84 (_ : Nat) : Hints I where
 tds := fun i => (asc [] i).getD []
 spl := fun i => (asc [] i).getD []
 pre := fun i => (asc [] i).getD []
 join := asc []
 loop := asc [(58, ⟨522260, [9], [], [(11, .k (.d (.int .i64)))], [((.exit 0), []), (.ret, [(2, .k (.d (.bool)))])], bnd tb (.slot 10) 1⟩)]
 keep := asc []
def a0b (n : Nat) : Row I := ⟨84, [.d (.dat 51)], [.k (.d (.bool))], a3A n⟩
theorem a7N (n : Nat) (h_value_validTree : y0 Go.Proofs.Tryz.prog (a0b n)) : y0 Go.Proofs.Tryz.prog (a0b (n + 1)) :=
 y9 z7 (y2 (es := [j0 tb (a3Q n), j0 tb (a59), j0 tb (a0b n)]) ⟨z8 z7 (a8v n), ⟨z8 z7 b1C, ⟨z8 z7 h_value_validTree, trivial⟩⟩⟩ 3) mixed 19 (fn := Go.Proofs.Tryz.f84) (cd := j9 Go.Proofs.Tryz.f84) (H := (a84 n)) (rl := [.tmp 2]) Go.Proofs.Tryz.func84 (by kernel_rfl) (by kernel_rfl) (by kernel_rfl) (by kernel_rfl) (by kernel_rfl) (by kernel_rfl) (by kernel_rfl)
theorem a4C : ∀ n : Nat, y0 Go.Proofs.Tryz.prog (a0b n)
 | 0 => V9 (by kernel_rfl)
 | n + 1 => a7N n (a4C n)
def a9S (_ : Nat) : Hints I where
 tds := fun i => (asc [] i).getD []
 spl := fun i => (asc [] i).getD []
 pre := fun i => (asc [] i).getD []
 join := asc []
 loop := asc []
 keep := asc []
def a4r (n : Nat) : Row I := ⟨50, [.d (.dat 51)], [.k (.d (.int .i64))], a6L n⟩
theorem a9b (n : Nat) : y0 Go.Proofs.Tryz.prog (a4r n) :=
 y9 z7 (y2 (es := [j0 tb (a0b n)]) ⟨z8 z7 (a4C n), trivial⟩ 3) mixed 6 (fn := Go.Proofs.Tryz.f50) (cd := j9 Go.Proofs.Tryz.f50) (H := (a9S n)) (rl := [.tmp 2]) Go.Proofs.Tryz.func50 (by kernel_rfl) (by kernel_rfl) (by kernel_rfl) (by kernel_rfl) (by kernel_rfl) (by kernel_rfl) (by kernel_rfl)
def a7q : Hints I where
 tds := fun i => (asc [] i).getD []
 spl := fun i => (asc [] i).getD []
 pre := fun i => (asc [] i).getD []
 join := asc [(29, ⟨16776824, [], [], [(.normal, [(3, .k (.d (.bool))), (4, .k (.d (.bool))), (5, .k (.d (.bool))), (6, .k (.d (.bool)))])]⟩),
  (941, ⟨26624, [], [], [(.normal, [(11, .k (.d (.bool)))])]⟩),
  (3773, ⟨4096000, [], [], [(.normal, [(15, .k (.d (.bool)))])]⟩)]
 loop := asc []
 keep := asc []
def a2F : Row I := ⟨46, [.d (.dat 78)], [.k (.d (.bool))], a4v⟩
theorem a6z : y0 Go.Proofs.Tryz.prog (a2F) :=
 y9 z7 (y2 (es := []) trivial 3) mixed 67 (fn := Go.Proofs.Tryz.f46) (cd := j9 Go.Proofs.Tryz.f46) (H := a7q) (rl := [.tmp 2]) Go.Proofs.Tryz.func46 (by kernel_rfl) (by kernel_rfl) (by kernel_rfl) (by kernel_rfl) (by kernel_rfl) (by kernel_rfl) (by kernel_rfl)
def a6a : Hints I where
 tds := fun i => (asc [(4, [[], [0], [0, 1], [0, 1, 2], [0, 1, 2, 3], [0, 1, 2, 3, 4], [0, 1, 2, 3, 4, 5], [0, 1, 2, 3, 4, 5, 6], [0, 1, 2, 3, 4, 5, 6, 7], [0, 1, 2, 3, 4, 5, 6, 7], [0, 1, 2, 3, 4, 5, 6, 7, 9], [0, 1, 2, 3, 4, 5, 6, 7, 8, 9, 10], [0, 1, 2, 3, 4, 5, 6, 7, 8, 9, 10, 11], [0, 1, 2, 3, 4, 5, 6, 7, 8, 9, 10, 11, 12], [0, 1, 2, 3, 4, 5, 6, 7], [0, 1, 2, 3, 4, 5, 6, 7, 14], [0, 1, 2, 3, 4, 5, 6, 7, 8, 9, 10, 11, 12, 13, 14, 15], [0, 1, 2, 3, 4, 5, 6, 7, 8, 9, 10, 11, 12, 13, 14, 15, 16], [0, 1, 2, 3, 4, 5, 6, 7, 8, 9, 10, 11, 12, 13, 14, 15, 16, 17], [0, 1, 2, 3, 4, 5, 6, 7, 8, 9, 10, 11, 12, 13, 14, 15, 16, 17, 18]])] i).getD []
 spl := fun i => (asc [] i).getD []
 pre := fun i => (asc [] i).getD []
 join := asc []
 loop := asc [(26, ⟨8589934492, [], [], [(7, .k (.d (.int .i64)))], [((.exit 0), []), (.ret, [(2, .k (.d (.bool)))])], bnd tb (.slot 6) 1⟩)]
 keep := asc []
def a2a : Row I := ⟨80, [.d (.sl 125)], [.k (.d (.bool))], a3q⟩
theorem a5M : y0 Go.Proofs.Tryz.prog (a2a) :=
 y9 z7 (y2 (es := [j0 tb (a1Z), j0 tb (a0i)]) ⟨z8 z7 a4Z, ⟨z8 z7 a1A, trivial⟩⟩ 3) mixed 33 (fn := Go.Proofs.Tryz.f80) (cd := j9 Go.Proofs.Tryz.f80) (H := a6a) (rl := [.tmp 2]) Go.Proofs.Tryz.func80 (by kernel_rfl) (by kernel_rfl) (by kernel_rfl) (by kernel_rfl) (by kernel_rfl) (by kernel_rfl) (by kernel_rfl)
def a7n : Hints I where
 tds := fun i => (asc [] i).getD []
 spl := fun i => (asc [] i).getD []
 pre := fun i => (asc [] i).getD []
 join := asc [(105, ⟨16288, [], [], [(.normal, [(5, .k (.d (.bool)))])]⟩),
  (28311549, ⟨368934881474191032320, [], [], [(.normal, [(66, .k (.d (.bool)))])]⟩)]
 loop := asc []
 keep := asc []
def a2J : Row I := ⟨47, [.d (.dat 78)], [.k (.d (.bool))], a4o⟩
theorem a6P : y0 Go.Proofs.Tryz.prog (a2J) :=
 y9 z7 (y2 (es := [j0 tb (a1H), j0 tb (a1G), j0 tb (a2a)]) ⟨z8 z7 a3k, ⟨z8 z7 a3T, ⟨z8 z7 a5M, trivial⟩⟩⟩ 3) mixed 79 (fn := Go.Proofs.Tryz.f47) (cd := j9 Go.Proofs.Tryz.f47) (H := a7n) (rl := [.tmp 2]) Go.Proofs.Tryz.func47 (by kernel_rfl) (by kernel_rfl) (by kernel_rfl) (by kernel_rfl) (by kernel_rfl) (by kernel_rfl) (by kernel_rfl)
def a9N : Hints I where
 tds := fun i => (asc [] i).getD []
 spl := fun i => (asc [] i).getD []
 pre := fun i => (asc [] i).getD []
 join := asc []
 loop := asc [(58, ⟨4190248, [], [], [(3, .k (.row 3 false)), (12, .k (.d (.int .i64)))], [((.exit 0), [(3, .k (.row 3 false))])], bnd tb (.slot 11) 1⟩)]
 keep := asc []
def a4s : Row I := ⟨48, [.d (.dat 78)], [.k (.row 3 false)], a6V⟩
theorem a83 : y0 Go.Proofs.Tryz.prog (a4s) :=
 y9 z7 (y2 (es := [j0 tb a96]) ⟨z8 z7 b4I, trivial⟩ 3) mixed 35 (fn := Go.Proofs.Tryz.f48) (cd := j9 Go.Proofs.Tryz.f48) (H := a9N) (rl := [.tmp 2]) Go.Proofs.Tryz.func48 (by kernel_rfl) (by kernel_rfl) (by kernel_rfl) (by kernel_rfl) (by kernel_rfl) (by kernel_rfl) (by kernel_rfl)
def a7p : Hints I where
 tds := fun i => (asc [] i).getD []
 spl := fun i => (asc [] i).getD []
 pre := fun i => (asc [] i).getD []
 join := asc []
 loop := asc []
 keep := asc []
def a2A : Row I := ⟨83, [.d (.int .i64)], [.k (.d (.bool))], a4q⟩
theorem a6Z : y0 Go.Proofs.Tryz.prog (a2A) :=
 y9 z7 (y2 (es := []) trivial 3) mixed 13 (fn := Go.Proofs.Tryz.f83) (cd := j9 Go.Proofs.Tryz.f83) (H := a7p) (rl := [.tmp 2]) Go.Proofs.Tryz.func83 (by kernel_rfl) (by kernel_rfl) (by kernel_rfl) (by kernel_rfl) (by kernel_rfl) (by kernel_rfl) (by kernel_rfl)
def a5t (_ : Nat) : Hints I where
 tds := fun i => (asc [] i).getD []
 spl := fun i => (asc [] i).getD []
 pre := fun i => (asc [] i).getD []
 join := asc []
 loop := asc [(122, ⟨140462610448544, [], [(1, .k (.row 3 false))], [(38, .k (.d (.int .i64)))], [((.exit 0), []), (.ret, [(5, .k (.d (.bool)))])], bnd tb (.slot 37) 1⟩)]
 keep := asc []
def J7 (n : Nat) : Row I := ⟨82, [.d (.int .i64), .var 22 (.k (.row 3 false)) true, .var 45 (.k (.d (.dat 45))) false, .var 74 (.k (.d .any)) false], [.k (.d (.bool))], a08 n⟩
theorem a4J (n : Nat) (h_typeexpr_contractive_1 : a5p Go.Proofs.Tryz.prog (J7 n) (b0L 74 82 3 [1, 2, 3])) : a5p Go.Proofs.Tryz.prog (J7 (n + 1)) (b0L 74 82 3 [1, 2, 3]) :=
 b7u z7 (y2 (es := [j0 tb (a2A), b5k tb (J7 n) (a8S 74 82 3 [1, 2, 3])]) ⟨z8 z7 a6Z, ⟨a9U z7 h_typeexpr_contractive_1 (fun _ _ _ _ _ _ _ _ _ hO h hc hv => b0o hO h hc hv), trivial⟩⟩ 3) mixed 50 (s0 := fun a => b7d 74 82 3 3 [1, 2, 3] (a35 tb 50 [.d (.int .i64), .var 22 (.k (.row 3 false)) true, .var 45 (.k (.d (.dat 45))) false, .var 74 (.k (.d .any)) false] a)) (fn := Go.Proofs.Tryz.f82) (cd := j9 Go.Proofs.Tryz.f82) (H := (a5t n)) (rl := [.tmp 5]) (fun X c σ a vs F h hv hC => b6K rfl rfl rfl h hv hC) Go.Proofs.Tryz.func82 (by kernel_rfl) (by kernel_rfl) (by kernel_rfl) (by kernel_rfl) (by kernel_rfl) (by kernel_rfl) (by kernel_rfl)
theorem a1V : ∀ n : Nat, a5p Go.Proofs.Tryz.prog (J7 n) (b0L 74 82 3 [1, 2, 3])
 | 0 => b5T (V9 (by kernel_rfl))
 | n + 1 => a4J n (a1V n)
def a6v (_ : Nat) : Hints I where
 tds := fun i => (asc [] i).getD []
 spl := fun i => (asc [] i).getD []
 pre := fun i => (asc [] i).getD []
 join := asc []
 loop := asc [(250, ⟨4177956, [], [(3, .k (.row 3 false))], [(14, .k (.d (.int .i64)))], [((.exit 0), []), (.ret, [(2, .k (.d (.bool)))])], bnd tb (.slot 13) 1⟩)]
 keep := asc []
def a18 (n : Nat) : Row I := ⟨49, [.d (.dat 45)], [.k (.d (.bool))], a3m n⟩
theorem a5K (n : Nat) : y0 Go.Proofs.Tryz.prog (a18 n) :=
 y9 z7 (y2 (es := [b5k tb (J7 n) (a8S 74 82 3 [1, 2, 3])]) ⟨a9U z7 (a1V n) (fun _ _ _ _ _ _ _ _ _ hO h hc hv => b0o hO h hc hv), trivial⟩ 3) mixed 22 (fn := Go.Proofs.Tryz.f49) (cd := j9 Go.Proofs.Tryz.f49) (H := (a6v n)) (rl := [.tmp 2]) Go.Proofs.Tryz.func49 (by kernel_rfl) (by kernel_rfl) (by kernel_rfl) (by kernel_rfl) (by kernel_rfl) (by kernel_rfl) (by kernel_rfl)
def a6Y (_ : Nat) : Hints I where
 tds := fun i => (asc [] i).getD []
 spl := fun i => (asc [] i).getD []
 pre := fun i => (asc [] i).getD []
 join := asc []
 loop := asc [(58, ⟨2251799811588180, [], [], [(21, .k (.d (.int .i64)))], [((.exit 0), []), (.ret, [(2, .k (.d (.int .i64)))])], bnd tb (.slot 20) 1⟩),
  (29902, ⟨1125831187365956, [34], [], [(36, .k (.d (.int .i64)))], [((.exit 2), []), (.ret, [(2, .k (.d (.int .i64)))])], bnd tb (.slot 35) 1⟩)]
 keep := asc []
def a2r (n : Nat) : Row I := ⟨31, [.d (.dat 45)], [.k (.d (.int .i64))], a3P n⟩
theorem a6t (n : Nat) : y0 Go.Proofs.Tryz.prog (a2r n) :=
 y9 z7 (y2 (es := [j0 tb (a2F), j0 tb (a2J), j0 tb (a4s), j0 tb (a18 n)]) ⟨z8 z7 a6z, ⟨z8 z7 a6P, ⟨z8 z7 a83, ⟨z8 z7 (a5K n), trivial⟩⟩⟩⟩ 3) mixed 54 (fn := Go.Proofs.Tryz.f31) (cd := j9 Go.Proofs.Tryz.f31) (H := (a6Y n)) (rl := [.tmp 2]) Go.Proofs.Tryz.func31 (by kernel_rfl) (by kernel_rfl) (by kernel_rfl) (by kernel_rfl) (by kernel_rfl) (by kernel_rfl) (by kernel_rfl)
def b2f : Hints I where
 tds := fun i => (asc [(1, [[], [0], [0, 1], [], [3], [0, 1, 2, 3, 4], [0, 1, 2, 3, 4, 5], []])] i).getD []
 spl := fun i => (asc [] i).getD []
 pre := fun i => (asc [] i).getD []
 join := asc []
 loop := asc [(26, ⟨268419152, [12], [], [(14, .k (.d (.int .i64)))], [((.exit 0), []), (.ret, [(4, .k (.d (.bool)))])], bnd tb (.slot 13) 1⟩)]
 keep := asc []
def a50 : Row I := ⟨51, [.d (.dat 45), .d (.dat 36)], [.k (.d (.bool))], a9e⟩
theorem b0X : y0 Go.Proofs.Tryz.prog (a50) :=
 y9 z7 (y2 (es := [j0 tb a96]) ⟨z8 z7 b4I, trivial⟩ 3) mixed 28 (fn := Go.Proofs.Tryz.f51) (cd := j9 Go.Proofs.Tryz.f51) (H := b2f) (rl := [.tmp 4]) Go.Proofs.Tryz.func51 (by kernel_rfl) (by kernel_rfl) (by kernel_rfl) (by kernel_rfl) (by kernel_rfl) (by kernel_rfl) (by kernel_rfl)
def b2j : Hints I where
 tds := fun i => (asc [] i).getD []
 spl := fun i => (asc [] i).getD []
 pre := fun i => (asc [] i).getD []
 join := asc []
 loop := asc []
 keep := asc []
def a56 : Row I := ⟨118, [.d (.int .i64)], [.k (.d (.int .i64))], a9i⟩
theorem b1i : y0 Go.Proofs.Tryz.prog (a56) :=
 y9 z7 (y2 (es := []) trivial 3) mixed 14 (fn := Go.Proofs.Tryz.f118) (cd := j9 Go.Proofs.Tryz.f118) (H := b2j) (rl := [.tmp 2]) Go.Proofs.Tryz.func118 (by kernel_rfl) (by kernel_rfl) (by kernel_rfl) (by kernel_rfl) (by kernel_rfl) (by kernel_rfl) (by kernel_rfl)
def a3r : Hints I where
 tds := fun i => (asc [(4, [[], [], [], [1, 2], [1, 2, 3], [0, 1, 2, 3, 4]])] i).getD []
 spl := fun i => (asc [] i).getD []
 pre := fun i => (asc [] i).getD []
 join := asc []
 loop := asc [(26, ⟨524080, [], [], [(8, .k (.d (.int .i64)))], [((.exit 0), []), (.ret, [(4, .k (.d (.int .i64)))])], bnd tb (.slot 7) 1⟩)]
 keep := asc []
def a0I : Row I := ⟨163, [.d (.sl 123), .d (.dat 123)], [.k (.d (.int .i64))], a1g⟩
theorem a3d : y0 Go.Proofs.Tryz.prog (a0I) :=
 y9 z7 (y2 (es := []) trivial 3) mixed 19 (fn := Go.Proofs.Tryz.f163) (cd := j9 Go.Proofs.Tryz.f163) (H := a3r) (rl := [.tmp 4]) Go.Proofs.Tryz.func163 (by kernel_rfl) (by kernel_rfl) (by kernel_rfl) (by kernel_rfl) (by kernel_rfl) (by kernel_rfl) (by kernel_rfl)
def a2I : Hints I where
 tds := fun i => (asc [] i).getD []
 spl := fun i => (asc [] i).getD []
 pre := fun i => (asc [] i).getD []
 join := asc []
 loop := asc []
 keep := asc []
def a0o : Row I := ⟨149, [.d (.sl 123), .d (.dat 123)], [.k (.d (.bool))], a0Q⟩
theorem a2w : y0 Go.Proofs.Tryz.prog (a0o) :=
 y9 z7 (y2 (es := [j0 tb (a0I)]) ⟨z8 z7 a3d, trivial⟩ 3) mixed 9 (fn := Go.Proofs.Tryz.f149) (cd := j9 Go.Proofs.Tryz.f149) (H := a2I) (rl := [.tmp 4]) Go.Proofs.Tryz.func149 (by kernel_rfl) (by kernel_rfl) (by kernel_rfl) (by kernel_rfl) (by kernel_rfl) (by kernel_rfl) (by kernel_rfl)
def b5E : Hints I where
 tds := fun i => (asc [] i).getD []
 spl := fun i => (asc [] i).getD []
 pre := fun i => (asc [] i).getD []
 join := asc []
 loop := asc [(26, ⟨2096208, [], [], [(10, .k (.d (.int .i64)))], [((.exit 0), []), (.ret, [(4, .k (.d (.int .i64)))])], bnd tb (.slot 9) 1⟩)]
 keep := asc []
def a9p : Row I := ⟨150, [.d (.dat 78), .d (.dat 123)], [.k (.d (.int .i64))], b4d⟩
theorem b4K : y0 Go.Proofs.Tryz.prog (a9p) :=
 y9 z7 (y2 (es := []) trivial 3) mixed 26 (fn := Go.Proofs.Tryz.f150) (cd := j9 Go.Proofs.Tryz.f150) (H := b5E) (rl := [.tmp 4]) Go.Proofs.Tryz.func150 (by kernel_rfl) (by kernel_rfl) (by kernel_rfl) (by kernel_rfl) (by kernel_rfl) (by kernel_rfl) (by kernel_rfl)
def a36 : Hints I where
 tds := fun i => (asc [] i).getD []
 spl := fun i => (asc [] i).getD []
 pre := fun i => (asc [] i).getD []
 join := asc []
 loop := asc [(26, ⟨524080, [], [], [(8, .k (.d (.int .i64)))], [((.exit 0), []), (.ret, [(4, .k (.d (.int .i64)))])], bnd tb (.slot 7) 1⟩)]
 keep := asc []
def a0Y : Row I := ⟨152, [.d (.sl 9), .d (.str)], [.k (.d (.int .i64))], a1M⟩
theorem a3G : y0 Go.Proofs.Tryz.prog (a0Y) :=
 y9 z7 (y2 (es := []) trivial 3) mixed 19 (fn := Go.Proofs.Tryz.f152) (cd := j9 Go.Proofs.Tryz.f152) (H := a36) (rl := [.tmp 4]) Go.Proofs.Tryz.func152 (by kernel_rfl) (by kernel_rfl) (by kernel_rfl) (by kernel_rfl) (by kernel_rfl) (by kernel_rfl) (by kernel_rfl)
def a3h : Hints I where
 tds := fun i => (asc [] i).getD []
 spl := fun i => (asc [] i).getD []
 pre := fun i => (asc [] i).getD []
 join := asc []
 loop := asc []
 keep := asc []
def a0A : Row I := ⟨124, [.d (.sl 9), .d (.str)], [.k (.d (.bool))], a09⟩
theorem a21 : y0 Go.Proofs.Tryz.prog (a0A) :=
 y9 z7 (y2 (es := [j0 tb (a0Y)]) ⟨z8 z7 a3G, trivial⟩ 3) mixed 9 (fn := Go.Proofs.Tryz.f124) (cd := j9 Go.Proofs.Tryz.f124) (H := a3h) (rl := [.tmp 4]) Go.Proofs.Tryz.func124 (by kernel_rfl) (by kernel_rfl) (by kernel_rfl) (by kernel_rfl) (by kernel_rfl) (by kernel_rfl) (by kernel_rfl)
def b4X (_ : Nat) : Hints I where
 tds := fun i => (asc [(6, [[], [], [], [], [2, 3], [2, 3, 4], [0, 1, 2, 3, 4, 5], [0, 1, 2, 3, 4, 5, 6]])] i).getD []
 spl := fun i => (asc [] i).getD []
 pre := fun i => (asc [] i).getD []
 join := asc []
 loop := asc [(58, ⟨1073676736, [], [], [(16, .k (.d (.int .i64)))], [((.exit 0), []), (.ret, [(6, .k (.d (.bool)))])], bnd tb (.slot 15) 1⟩)]
 keep := asc []
def K7 (n : Nat) : Row I := ⟨119, [.d (.sl 51), .d (.dat 45), .d (.sl 3)], [.k (.d (.bool))], b6h n⟩
def a7T (_ : Nat) : Hints I where
 tds := fun i => (asc [(2, [[], [0], [], [], [3], [], [3, 4, 5], [0, 1, 2, 3, 4, 5, 6], [0, 1, 2, 3, 4, 5, 6, 7], [0, 1, 2, 3, 4, 5, 6, 7, 8], [0, 1, 2, 3, 4, 5, 6, 7, 8, 9], [0, 1, 2, 3, 4, 5, 6, 7, 8, 9, 10], [0, 1, 2, 3, 4, 5, 6, 7, 8, 9, 10, 11], [0, 1, 2, 3, 4, 5, 6, 7, 8, 9, 10, 11, 12], [0, 1, 2, 3, 4, 5, 6, 7, 8, 9, 10, 11, 12, 13], [0, 1, 2, 3, 4, 5, 6, 7, 8, 9, 10, 11, 12, 13, 14], [0, 1, 2, 3, 4, 5, 6, 7, 8, 9, 10, 11, 12, 13], [0, 1, 2, 3, 4, 5, 6, 7, 8, 9, 10, 11, 12, 13], [0, 1, 2, 3, 4, 5, 6, 7, 8, 9, 10, 11, 12, 13, 17], [0, 1, 2, 3, 4, 5, 6, 7, 8, 9, 10, 11, 12, 13], [0, 1, 2, 3, 4, 5, 6, 7, 8, 9, 10, 11, 12, 13, 17, 18, 19], [0, 1, 2, 3, 4, 5, 6, 7, 8, 9, 10, 11, 12, 13, 17, 18, 19, 20], [0, 1, 2, 3, 4, 5, 6, 7, 8, 9, 10, 11, 12, 13, 14, 15, 16, 17, 18, 19, 20, 21], [0, 1, 2, 3, 4, 5, 6, 7, 8, 9, 10, 11, 12, 13, 14, 15, 16, 17, 18, 19, 20, 21, 22], [0, 1, 2, 3, 4, 5, 6, 7, 8, 9, 10, 11, 12, 13, 14, 15, 16, 17, 18, 19, 20, 21, 22, 23], [0, 1, 2, 3, 4, 5, 6, 7, 8, 9, 10, 11, 12, 13, 14, 15, 16, 17, 18, 19, 20, 21, 22, 23, 24]])] i).getD []
 spl := fun i => (asc [] i).getD []
 pre := fun i => (asc [] i).getD []
 join := asc []
 loop := asc []
 keep := asc []
def Z5 (n : Nat) : Row I := ⟨151, [.d (.dat 101), .d (.dat 45), .d (.dat 78)], [.k (.d (.bool))], a82 n⟩
def a8a (_ : Nat) : Hints I where
 tds := fun i => (asc [] i).getD []
 spl := fun i => (asc [] i).getD []
 pre := fun i => (asc [] i).getD []
 join := asc []
 loop := asc [(58, ⟨536346944, [], [], [(19, .k (.d (.int .i64)))], [((.exit 0), []), (.ret, [(6, .k (.d (.bool)))])], bnd tb (.slot 18) 1⟩)]
 keep := asc []
def Y0 (n : Nat) : Row I := ⟨121, [.d (.dat 51), .d (.dat 45), .d (.dat 78)], [.k (.d (.bool))], a9x n⟩
def b5b (_ : Nat) : Hints I where
 tds := fun i => (asc [(17, [[], [0], [], [2], [2, 3], [0, 1, 2, 3, 4], [0, 1, 2, 3, 4, 5]]), (31, [[], [], [], [2], [2, 3], [2, 3, 4], [0, 1, 2, 3, 4, 5], [0, 1, 2, 3, 4, 5, 6], [0, 1, 2, 3, 4, 5, 6, 7]])] i).getD []
 spl := fun i => (asc [] i).getD []
 pre := fun i => (asc [] i).getD []
 join := asc [(60413, ⟨144115188075855872000, [], [], [(.normal, [(60, .k (.d (.bool)))])]⟩)]
 loop := asc []
 keep := asc []
def Z6 (n : Nat) : Row I := ⟨87, [.d (.dat 51), .d (.dat 45), .d (.int .i64)], [.k (.d (.bool))], a9v n⟩
def b3D (_ : Nat) : Hints I where
 tds := fun i => (asc [] i).getD []
 spl := fun i => (asc [] i).getD []
 pre := fun i => (asc [] i).getD []
 join := asc []
 loop := asc []
 keep := asc []
def K0 (n : Nat) : Row I := ⟨122, [.d (.int .i64), .var 51 (.k (.d (.dat 51))) false, .var 45 (.k (.d (.dat 45))) false], [.k (.d (.bool))], b4x n⟩
def b23 (_ : Nat) : Hints I where
 tds := fun i => (asc [] i).getD []
 spl := fun i => (asc [] i).getD []
 pre := fun i => (asc [] i).getD []
 join := asc []
 loop := asc []
 keep := asc []
def K1 (n : Nat) : Row I := ⟨123, [.d (.int .i64), .var 51 (.k (.d (.dat 51))) false, .var 45 (.k (.d (.dat 45))) false], [.k (.d (.bool))], b5e n⟩
def b2c (_ : Nat) : Hints I where
 tds := fun i => (asc [(10, [[], [0], [], [0, 1, 2], [0, 1, 2, 3], [], [], [], [6, 7], [0, 1, 2, 3, 4, 5, 6, 7, 8], [0, 1, 2, 3, 4, 5, 6, 7, 8, 9]])] i).getD []
 spl := fun i => (asc [] i).getD []
 pre := fun i => (asc [] i).getD []
 join := asc []
 loop := asc [(26, ⟨1073725760, [], [], [(14, .k (.d (.int .i64)))], [((.exit 0), []), (.ret, [(6, .k (.d (.bool)))])], bnd tb (.slot 13) 1⟩),
  (58, ⟨1125891316909632, [], [], [(33, .k (.d (.int .i64)))], [((.exit 2), []), (.ret, [(6, .k (.d (.bool)))])], bnd tb (.slot 32) 1⟩)]
 keep := asc []
def J0 (n : Nat) : Row I := ⟨120, [.d (.dat 51), .d (.dat 45), .d (.dat 78)], [.k (.d (.bool))], b3T n⟩
theorem b2B (n : Nat) (_ : y0 Go.Proofs.Tryz.prog (K7 n)) (_ : y0 Go.Proofs.Tryz.prog (Z5 n)) (_ : y0 Go.Proofs.Tryz.prog (Y0 n)) (h_core_Has : y0 Go.Proofs.Tryz.prog (Z6 n)) (_ : y0 Go.Proofs.Tryz.prog (K0 n)) (_ : y0 Go.Proofs.Tryz.prog (K1 n)) (_ : y0 Go.Proofs.Tryz.prog (J0 n)) : y0 Go.Proofs.Tryz.prog (K7 (n + 1)) :=
 y9 z7 (y2 (es := [j0 tb (Z6 n)]) ⟨z8 z7 h_core_Has, trivial⟩ 3) mixed 30 (fn := Go.Proofs.Tryz.f119) (cd := j9 Go.Proofs.Tryz.f119) (H := (b4X n)) (rl := [.tmp 6]) Go.Proofs.Tryz.func119 (by kernel_rfl) (by kernel_rfl) (by kernel_rfl) (by kernel_rfl) (by kernel_rfl) (by kernel_rfl) (by kernel_rfl)
theorem a61 (n : Nat) (h_core_all : y0 Go.Proofs.Tryz.prog (K7 n)) (_ : y0 Go.Proofs.Tryz.prog (Z5 n)) (_ : y0 Go.Proofs.Tryz.prog (Y0 n)) (h_core_Has : y0 Go.Proofs.Tryz.prog (Z6 n)) (_ : y0 Go.Proofs.Tryz.prog (K0 n)) (_ : y0 Go.Proofs.Tryz.prog (K1 n)) (_ : y0 Go.Proofs.Tryz.prog (J0 n)) : y0 Go.Proofs.Tryz.prog (Z5 (n + 1)) :=
 y9 z7 (y2 (es := [j0 tb (K7 n), j0 tb (Z6 n)]) ⟨z8 z7 h_core_all, ⟨z8 z7 h_core_Has, trivial⟩⟩ 3) mixed 37 (fn := Go.Proofs.Tryz.f151) (cd := j9 Go.Proofs.Tryz.f151) (H := (a7T n)) (rl := [.tmp 6]) Go.Proofs.Tryz.func151 (by kernel_rfl) (by kernel_rfl) (by kernel_rfl) (by kernel_rfl) (by kernel_rfl) (by kernel_rfl) (by kernel_rfl)
theorem a7B (n : Nat) (_ : y0 Go.Proofs.Tryz.prog (K7 n)) (h_core_EntryAllowed : y0 Go.Proofs.Tryz.prog (Z5 n)) (_ : y0 Go.Proofs.Tryz.prog (Y0 n)) (_ : y0 Go.Proofs.Tryz.prog (Z6 n)) (_ : y0 Go.Proofs.Tryz.prog (K0 n)) (_ : y0 Go.Proofs.Tryz.prog (K1 n)) (_ : y0 Go.Proofs.Tryz.prog (J0 n)) : y0 Go.Proofs.Tryz.prog (Y0 (n + 1)) :=
 y9 z7 (y2 (es := [j0 tb (Z5 n)]) ⟨z8 z7 h_core_EntryAllowed, trivial⟩ 3) mixed 29 (fn := Go.Proofs.Tryz.f121) (cd := j9 Go.Proofs.Tryz.f121) (H := (a8a n)) (rl := [.tmp 6]) Go.Proofs.Tryz.func121 (by kernel_rfl) (by kernel_rfl) (by kernel_rfl) (by kernel_rfl) (by kernel_rfl) (by kernel_rfl) (by kernel_rfl)
theorem b3j (n : Nat) (h_core_all : y0 Go.Proofs.Tryz.prog (K7 n)) (_ : y0 Go.Proofs.Tryz.prog (Z5 n)) (h_core_functionHas : y0 Go.Proofs.Tryz.prog (Y0 n)) (h_core_Has : y0 Go.Proofs.Tryz.prog (Z6 n)) (h_core_Has_1 : y0 Go.Proofs.Tryz.prog (K0 n)) (h_core_Has_2 : y0 Go.Proofs.Tryz.prog (K1 n)) (h_core_mapHas : y0 Go.Proofs.Tryz.prog (J0 n)) : y0 Go.Proofs.Tryz.prog (Z6 (n + 1)) :=
 y9 z7 (y2 (es := [j0 tb (a56), j0 tb (K7 n), j0 tb (J0 n), j0 tb (Y0 n), j0 tb (J8), j0 tb (K0 n), j0 tb (K1 n), j0 tb (Z6 n), j0 tb (a0A)]) ⟨z8 z7 b1i, ⟨z8 z7 h_core_all, ⟨z8 z7 h_core_mapHas, ⟨z8 z7 h_core_functionHas, ⟨z8 z7 X5, ⟨z8 z7 h_core_Has_1, ⟨z8 z7 h_core_Has_2, ⟨z8 z7 h_core_Has, ⟨z8 z7 a21, trivial⟩⟩⟩⟩⟩⟩⟩⟩⟩ 3) mixed 151 (fn := Go.Proofs.Tryz.f87) (cd := j9 Go.Proofs.Tryz.f87) (H := (b5b n)) (rl := [.tmp 6]) Go.Proofs.Tryz.func87 (by kernel_rfl) (by kernel_rfl) (by kernel_rfl) (by kernel_rfl) (by kernel_rfl) (by kernel_rfl) (by kernel_rfl)
theorem b1g (n : Nat) (_ : y0 Go.Proofs.Tryz.prog (K7 n)) (_ : y0 Go.Proofs.Tryz.prog (Z5 n)) (_ : y0 Go.Proofs.Tryz.prog (Y0 n)) (h_core_Has : y0 Go.Proofs.Tryz.prog (Z6 n)) (_ : y0 Go.Proofs.Tryz.prog (K0 n)) (_ : y0 Go.Proofs.Tryz.prog (K1 n)) (_ : y0 Go.Proofs.Tryz.prog (J0 n)) : y0 Go.Proofs.Tryz.prog (K0 (n + 1)) :=
 y9 z7 (y2 (es := [j0 tb (Z6 n)]) ⟨z8 z7 h_core_Has, trivial⟩ 3) mixed 9 (fn := Go.Proofs.Tryz.f122) (cd := j9 Go.Proofs.Tryz.f122) (H := (b3D n)) (rl := [.tmp 4]) Go.Proofs.Tryz.func122 (by kernel_rfl) (by kernel_rfl) (by kernel_rfl) (by kernel_rfl) (by kernel_rfl) (by kernel_rfl) (by kernel_rfl)
theorem b1A (n : Nat) (_ : y0 Go.Proofs.Tryz.prog (K7 n)) (_ : y0 Go.Proofs.Tryz.prog (Z5 n)) (_ : y0 Go.Proofs.Tryz.prog (Y0 n)) (h_core_Has : y0 Go.Proofs.Tryz.prog (Z6 n)) (_ : y0 Go.Proofs.Tryz.prog (K0 n)) (_ : y0 Go.Proofs.Tryz.prog (K1 n)) (_ : y0 Go.Proofs.Tryz.prog (J0 n)) : y0 Go.Proofs.Tryz.prog (K1 (n + 1)) :=
 y9 z7 (y2 (es := [j0 tb (Z6 n)]) ⟨z8 z7 h_core_Has, trivial⟩ 3) mixed 10 (fn := Go.Proofs.Tryz.f123) (cd := j9 Go.Proofs.Tryz.f123) (H := (b23 n)) (rl := [.tmp 4]) Go.Proofs.Tryz.func123 (by kernel_rfl) (by kernel_rfl) (by kernel_rfl) (by kernel_rfl) (by kernel_rfl) (by kernel_rfl) (by kernel_rfl)
theorem a99 (n : Nat) (_ : y0 Go.Proofs.Tryz.prog (K7 n)) (_ : y0 Go.Proofs.Tryz.prog (Z5 n)) (_ : y0 Go.Proofs.Tryz.prog (Y0 n)) (h_core_Has : y0 Go.Proofs.Tryz.prog (Z6 n)) (_ : y0 Go.Proofs.Tryz.prog (K0 n)) (_ : y0 Go.Proofs.Tryz.prog (K1 n)) (_ : y0 Go.Proofs.Tryz.prog (J0 n)) : y0 Go.Proofs.Tryz.prog (J0 (n + 1)) :=
 y9 z7 (y2 (es := [j0 tb (a0o), j0 tb (a9p), j0 tb (Z6 n)]) ⟨z8 z7 a2w, ⟨z8 z7 b4K, ⟨z8 z7 h_core_Has, trivial⟩⟩⟩ 3) mixed 50 (fn := Go.Proofs.Tryz.f120) (cd := j9 Go.Proofs.Tryz.f120) (H := (b2c n)) (rl := [.tmp 6]) Go.Proofs.Tryz.func120 (by kernel_rfl) (by kernel_rfl) (by kernel_rfl) (by kernel_rfl) (by kernel_rfl) (by kernel_rfl) (by kernel_rfl)
theorem a5Y : ∀ n : Nat, y0 Go.Proofs.Tryz.prog (K7 n) /\ y0 Go.Proofs.Tryz.prog (Z5 n) /\ y0 Go.Proofs.Tryz.prog (Y0 n) /\ y0 Go.Proofs.Tryz.prog (Z6 n) /\ y0 Go.Proofs.Tryz.prog (K0 n) /\ y0 Go.Proofs.Tryz.prog (K1 n) /\ y0 Go.Proofs.Tryz.prog (J0 n)
 | 0 => ⟨V9 (by kernel_rfl), V9 (by kernel_rfl), V9 (by kernel_rfl), V9 (by kernel_rfl), V9 (by kernel_rfl), V9 (by kernel_rfl), V9 (by kernel_rfl)⟩
 | n + 1 => by
   obtain ⟨h0, h1, h2, h3, h4, h5, h6⟩ := a5Y n
   exact ⟨b2B n h0 h1 h2 h3 h4 h5 h6, a61 n h0 h1 h2 h3 h4 h5 h6, a7B n h0 h1 h2 h3 h4 h5 h6, b3j n h0 h1 h2 h3 h4 h5 h6, b1g n h0 h1 h2 h3 h4 h5 h6, b1A n h0 h1 h2 h3 h4 h5 h6, a99 n h0 h1 h2 h3 h4 h5 h6⟩
theorem a9k (n : Nat) : y0 Go.Proofs.Tryz.prog (Z6 n) := (a5Y n).2.2.2.1
def b0e (_ : Nat) : Hints I where
 tds := fun i => (asc [] i).getD []
 spl := fun i => (asc [] i).getD []
 pre := fun i => (asc [] i).getD []
 join := asc []
 loop := asc []
 keep := asc []
def a4V (n : Nat) : Row I := ⟨86, [.d (.int .i64), .var 51 (.k (.d (.dat 51))) false, .var 45 (.k (.d (.dat 45))) false], [.k (.d (.bool))], a7J n⟩
theorem a9y (n : Nat) : y0 Go.Proofs.Tryz.prog (a4V n) :=
 y9 z7 (y2 (es := [j0 tb (Z6 n)]) ⟨z8 z7 (a9k n), trivial⟩ 3) mixed 10 (fn := Go.Proofs.Tryz.f86) (cd := j9 Go.Proofs.Tryz.f86) (H := (b0e n)) (rl := [.tmp 4]) Go.Proofs.Tryz.func86 (by kernel_rfl) (by kernel_rfl) (by kernel_rfl) (by kernel_rfl) (by kernel_rfl) (by kernel_rfl) (by kernel_rfl)
def b0t (_ : Nat) : Hints I where
 tds := fun i => (asc [] i).getD []
 spl := fun i => (asc [] i).getD []
 pre := fun i => (asc [] i).getD []
 join := asc []
 loop := asc []
 keep := asc []
def a4X (n : Nat) : Row I := ⟨88, [.d (.int .i64), .var 51 (.k (.d (.dat 51))) false, .var 45 (.k (.d (.dat 45))) false], [.k (.d (.bool))], a7E n⟩
theorem a9s (n : Nat) : y0 Go.Proofs.Tryz.prog (a4X n) :=
 y9 z7 (y2 (es := [j0 tb (Z6 n)]) ⟨z8 z7 (a9k n), trivial⟩ 3) mixed 9 (fn := Go.Proofs.Tryz.f88) (cd := j9 Go.Proofs.Tryz.f88) (H := (b0t n)) (rl := [.tmp 4]) Go.Proofs.Tryz.func88 (by kernel_rfl) (by kernel_rfl) (by kernel_rfl) (by kernel_rfl) (by kernel_rfl) (by kernel_rfl) (by kernel_rfl)
def b2p (_ : Nat) : Hints I where
 tds := fun i => (asc [] i).getD []
 spl := fun i => (asc [] i).getD []
 pre := fun i => (asc [] i).getD []
 join := asc []
 loop := asc []
 keep := asc []
def a58 (n : Nat) : Row I := ⟨52, [.d (.dat 51), .d (.dat 45), .d (.sl 3), .d (.sl 3)], [.k (.d (.bool))], a9l n⟩
theorem b06 (n : Nat) : y0 Go.Proofs.Tryz.prog (a58 n) :=
 y9 z7 (y2 (es := [j0 tb (J8), j0 tb (a4V n), j0 tb (a4X n)]) ⟨z8 z7 X5, ⟨z8 z7 (a9y n), ⟨z8 z7 (a9s n), trivial⟩⟩⟩ 3) mixed 19 (fn := Go.Proofs.Tryz.f52) (cd := j9 Go.Proofs.Tryz.f52) (H := (b2p n)) (rl := [.tmp 8]) Go.Proofs.Tryz.func52 (by kernel_rfl) (by kernel_rfl) (by kernel_rfl) (by kernel_rfl) (by kernel_rfl) (by kernel_rfl) (by kernel_rfl)
def b00 (_ : Nat) : Hints I where
 tds := fun i => (asc [] i).getD []
 spl := fun i => (asc [] i).getD []
 pre := fun i => (asc [] i).getD []
 join := asc []
 loop := asc []
 keep := asc []
def a5r (n : Nat) : Row I := ⟨34, [.d (.dat 51), .d (.dat 45), .d (.dat 36)], [.k (.d (.bool))], a8j n⟩
theorem b0C (n : Nat) : y0 Go.Proofs.Tryz.prog (a5r n) :=
 y9 z7 (y2 (es := [j0 tb (a4r n), j0 tb (a2r n), j0 tb (a50), j0 tb (a58 n)]) ⟨z8 z7 (a9b n), ⟨z8 z7 (a6t n), ⟨z8 z7 b0X, ⟨z8 z7 (b06 n), trivial⟩⟩⟩⟩ 3) mixed 40 (fn := Go.Proofs.Tryz.f34) (cd := j9 Go.Proofs.Tryz.f34) (H := (b00 n)) (rl := [.tmp 6]) Go.Proofs.Tryz.func34 (by kernel_rfl) (by kernel_rfl) (by kernel_rfl) (by kernel_rfl) (by kernel_rfl) (by kernel_rfl) (by kernel_rfl)
def b0i (_ : Nat) : Hints I where
 tds := fun i => (asc [(6, [[], [], [0, 1], [0, 1, 2], [], [], [5], [], [5, 6, 7], [5, 6, 7, 8], [0, 1, 2, 3, 4, 5, 6, 7, 8, 9], [0, 1, 2, 3, 4, 5, 6, 7, 8, 9, 10]])] i).getD []
 spl := fun i => (asc [] i).getD []
 pre := fun i => (asc [] i).getD []
 join := asc []
 loop := asc [(58, ⟨4294901952, [], [], [(16, .k (.d (.int .i64)))], [((.exit 0), []), (.ret, [(6, .k (.d (.bool)))])], bnd tb (.slot 15) 1⟩)]
 keep := asc []
def a4W (n : Nat) : Row I := ⟨20, [.d (.sl 51), .d (.dat 45), .d (.dat 33)], [.k (.d (.bool))], a7D n⟩
theorem a9K (n : Nat) : y0 Go.Proofs.Tryz.prog (a4W n) :=
 y9 z7 (y2 (es := [j0 tb (a5r n)]) ⟨z8 z7 (b0C n), trivial⟩ 3) mixed 32 (fn := Go.Proofs.Tryz.f20) (cd := j9 Go.Proofs.Tryz.f20) (H := (b0i n)) (rl := [.tmp 6]) Go.Proofs.Tryz.func20 (by kernel_rfl) (by kernel_rfl) (by kernel_rfl) (by kernel_rfl) (by kernel_rfl) (by kernel_rfl) (by kernel_rfl)
def a7C (_ : Nat) : Hints I where
 tds := fun i => (asc [(3, [[], [0], [0, 1], [0, 1, 2], [0, 1, 2, 3], [0, 1, 2, 3, 4], [0, 1, 2, 3, 4, 5], [0, 1, 2, 3, 4, 5, 6], [0, 1, 2, 3, 4, 5, 6, 7], [0, 1, 2, 3, 4, 5, 6, 7, 8], [0, 1, 2, 3, 4, 5, 6, 7, 8, 9], [0, 1, 2, 3, 4, 5, 6, 7, 8, 9, 10], [0, 1, 2, 3, 4, 5, 6, 7, 8, 9, 10, 11], [0, 1, 2, 3, 4, 5, 6, 7, 8, 9, 10, 11, 12], [0, 1, 2, 3, 4, 5, 6, 7, 8, 9, 10, 11], [0, 1, 2, 3, 4, 5, 6, 7, 8, 9, 10, 11], [0, 1, 2, 3, 4, 5, 6, 7, 8, 9, 10, 11, 15], [0, 1, 2, 3, 4, 5, 6, 7, 8, 9, 10, 11, 15, 16], [0, 1, 2, 3, 4, 5, 6, 7, 8, 9, 10, 11, 15, 16, 17], [0, 1, 2, 3, 4, 5, 6, 7, 8, 9, 10, 11, 12, 13, 14, 15, 16, 17, 18], [0, 1, 2, 3, 4, 5, 6, 7, 8, 9, 10, 11, 12, 13, 14, 15, 16, 17, 18, 19], [0, 1, 2, 3, 4, 5, 6, 7, 8, 9, 10, 11, 12, 13, 14, 15, 16, 17, 18, 19, 20]])] i).getD []
 spl := fun i => (asc [(3, [22])] i).getD []
 pre := fun i => (asc [] i).getD []
 join := asc []
 loop := asc []
 keep := asc []
def a2G (n : Nat) : Row I := ⟨9, [], [.k (.d (.bool))], W4 n⟩
theorem a6J (n : Nat) : y0 Go.Proofs.Tryz.prog (a2G n) :=
 y9 z7 (y2 (es := [j0 tb (a2u n), j0 tb (a3N), j0 tb (a4W n)]) ⟨z8 z7 (a5D n), ⟨z8 z7 a7X, ⟨z8 z7 (a9K n), trivial⟩⟩⟩ 3) mixed 32 (fn := Go.Proofs.Tryz.f9) (cd := j9 Go.Proofs.Tryz.f9) (H := (a7C n)) (rl := [.tmp 0]) Go.Proofs.Tryz.func9 (by kernel_rfl) (by kernel_rfl) (by kernel_rfl) (by kernel_rfl) (by kernel_rfl) (by kernel_rfl) (by kernel_rfl)
def a7b : Hints I where
 tds := fun i => (asc [(4, [[], [], [0, 1], [0, 1, 2], [], [], [4, 5], [4, 5, 6], [4, 5, 6, 7], [0, 1, 2, 3, 4, 5, 6, 7, 8], [0, 1, 2, 3, 4, 5, 6, 7, 8, 9], [0, 1, 2, 3, 4, 5, 6, 7, 8, 9, 10]])] i).getD []
 spl := fun i => (asc [] i).getD []
 pre := fun i => (asc [] i).getD []
 join := asc []
 loop := asc [(26, ⟨16777200, [], [], [(5, .k (.d (.int .i64)))], [((.exit 0), []), (.ret, [(4, .k (.d (.bool)))])], bnd tb (.len (.slot 0)) 1⟩)]
 keep := asc []
def a2M : Row I := ⟨10, [.d (.sl 3), .d (.sl 5)], [.k (.d (.bool))], W6⟩
theorem a6W : y0 Go.Proofs.Tryz.prog (a2M) :=
 y9 z7 (y2 (es := []) trivial 3) mixed 24 (fn := Go.Proofs.Tryz.f10) (cd := j9 Go.Proofs.Tryz.f10) (H := a7b) (rl := [.tmp 4]) Go.Proofs.Tryz.func10 (by kernel_rfl) (by kernel_rfl) (by kernel_rfl) (by kernel_rfl) (by kernel_rfl) (by kernel_rfl) (by kernel_rfl)
def a8X : Hints I where
 tds := fun i => (asc [] i).getD []
 spl := fun i => (asc [] i).getD []
 pre := fun i => (asc [] i).getD []
 join := asc []
 loop := asc [(26, ⟨1099511627696, [], [], [(5, .k (.d (.int .i64)))], [((.exit 0), []), (.ret, [(4, .k (.d (.bool)))])], bnd tb (.len (.ld 22 (.fld 36 0 (.slot 2)))) 1⟩),
  (58, ⟨9444732964639778799696, [], [], [(6, .k (.d (.int .i64)))], [((.exit 2), []), (.ret, [(4, .k (.d (.bool)))])], bnd tb (.len (.ld 22 (.fld 36 1 (.slot 2)))) 1⟩)]
 keep := asc []
def a3O : Row I := ⟨11, [.d (.dat 36), .d (.int .u8)], [.k (.d (.bool))], a1Y⟩
theorem a75 : y0 Go.Proofs.Tryz.prog (a3O) :=
 y9 z7 (y2 (es := []) trivial 3) mixed 73 (fn := Go.Proofs.Tryz.f11) (cd := j9 Go.Proofs.Tryz.f11) (H := a8X) (rl := [.tmp 4]) Go.Proofs.Tryz.func11 (by kernel_rfl) (by kernel_rfl) (by kernel_rfl) (by kernel_rfl) (by kernel_rfl) (by kernel_rfl) (by kernel_rfl)
def a4z (_ : Nat) : Hints I where
 tds := fun i => (asc [(38, [[], [0], [0, 1], [0, 1], [0, 1, 2, 3], [0, 1, 2, 3, 4], [0, 1, 2, 3, 4, 5], [0, 1], [0, 1, 2, 3, 4, 5, 6, 7], [0, 1, 2, 3, 4, 5, 6, 7, 8], [0, 1], [0, 1], [0, 1, 10, 11], [0, 1, 10, 11, 12], [0, 1, 2, 3, 4, 5, 6, 7, 8, 9, 10, 11, 12, 13], [0, 1, 2, 3, 4, 5, 6, 7, 8, 9, 10, 11, 12, 13, 14], [0, 1, 2, 3, 4, 5, 6, 7, 8, 9, 10, 11, 12, 13, 14, 15]])] i).getD []
 spl := fun i => (asc [(23, [103])] i).getD []
 pre := fun i => (asc [] i).getD []
 join := asc [(1048484, ⟨2591077826866500896659261352050688, [], [], [(.normal, [(16, .k (.d (.sl 5))), (18, .k (.d (.bool)))])]⟩)]
 loop := asc [(1018, ⟨576451956210442240, [14], [], [(13, .k (.d (.bool))), (15, .k (.d (.int .i64)))], [((.exit 0), [(13, .k (.d (.bool)))])], bnd tb (.len (.slot 14)) 1⟩),
  (16378, ⟨79227860282809433936250404864, [], [], [(16, .k (.row 5 false)), (17, .k (.d (.int .i64)))], [((.exit 2), [(16, .k (.row 5 false))])], bnd tb (.slot 9) 1⟩),
  (65530, ⟨2596069201104899549927654621446144, [], [], [(16, .k (.d (.sl 5))), (18, .k (.d (.bool))), (19, .k (.d (.int .i64)))], [((.exit 4), [(16, .k (.d (.sl 5))), (18, .k (.d (.bool)))])], bnd tb (.len (.slot 10)) 1⟩),
  (131066, ⟨170138587312039964317873038467720806400, [], [], [(18, .k (.d (.bool))), (20, .k (.d (.int .i64)))], [((.exit 6), [(18, .k (.d (.bool)))])], bnd tb (.len (.slot 11)) 1⟩),
  (524282, ⟨93536104789007645581575360062110425954263830102272, [12], [], [(21, .k (.d (.bool))), (22, .k (.d (.int .i64)))], [((.exit 8), [(21, .k (.d (.bool)))]), (.ret, [(8, .k (.d (.bool)))])], bnd tb (.len (.slot 12)) 1⟩),
  (268432538, ⟨5846003761730461856486846638900347997578567090176, [], [], [(23, .k (.d (.bool))), (24, .k (.d (.int .i64)))], [((.exit 10), [(23, .k (.d (.bool)))])], bnd tb (.slot 9) 1⟩)]
 keep := asc []
def a3J (n : Nat) : Row I := ⟨3, [.d (.int .i64), .d (.sl 3), .d (.sl 3), .d (.sl 5)], [.k (.d (.bool))], W9 n⟩
theorem a4g (n : Nat) : y0 Go.Proofs.Tryz.prog (a3J n) :=
 y9 z7 (y2 (es := [j0 tb (a23), j0 tb (a2u n), j0 tb (a2G n), j0 tb (a2M), j0 tb (a3O)]) ⟨z8 z7 a7A, ⟨z8 z7 (a5D n), ⟨z8 z7 (a6J n), ⟨z8 z7 a6W, ⟨z8 z7 a75, trivial⟩⟩⟩⟩⟩ 3) mixed 172 (fn := Go.Proofs.Tryz.f3) (cd := j9 Go.Proofs.Tryz.f3) (H := (a4z n)) (rl := [.tmp 8]) Go.Proofs.Tryz.func3 (by kernel_rfl) (by kernel_rfl) (by kernel_rfl) (by kernel_rfl) (by kernel_rfl) (by kernel_rfl) (by kernel_rfl)
end Go.Qx
end
section
namespace Go.Qx
open Go Go.RowKit Go.Sx
set_option maxHeartbeats 1600000
set_option maxRecDepth 100000
end Go.Qx
end
section
namespace Go.Pl
open Go Go.RowKit Go.Sx Go.Qx Go.Proofs.YtcbgcnbnnodhdaaGreat
def a3z (w : World) : S := ⟨w, fun b => match w.heap[b]? with | some (.cells c _ _) => (c.size, 0) | _ => (0, 0)⟩
theorem b5l {w : World} {b o : Nat} {cs : List Value} (hn : cs ≠ []) (h : w.rangeAt b o cs) : a0r (a3z w) b o cs := by
 refine ⟨?_, h⟩
 have hl : 0 < cs.length := List.length_pos_iff.2 hn
 have hj := h (cs.length - 1) _ (List.getElem?_eq_getElem (by omega))
 unfold World.cell? at hj
 simp only at hj
 split at hj
 ·rename_i c e f hb
  have h2 : o + (cs.length - 1) < c.size := by
   simp only [Option.isSome_none, Bool.false_eq_true, if_false] at hj
   exact (Array.getElem?_eq_some_iff.1 hj).1
  show o + cs.length <= (match w.heap[b]? with | some (.cells c _ _) => (c.size, 0) | _ => (0, 0)).1
  rw [hb]
  show o + cs.length <= c.size
  omega
 ·cases hj
theorem b5j {w : World} {base : Nat} {a : Addr} {n : Nat} {cs : List Value} (h : w.cells? base a n = some cs) :
 cs.length = n /\ ∀ (i : Nat) (v : Value), cs[i]? = some v -> w.cell? (a.add i) = some v := by
 unfold World.cells? at h
 split at h
 ·have hl : cs.length = n := by simpa using mapM_some_length h
  refine ⟨hl, fun i v hv => ?_⟩
  have hi : i < n := by have := (List.getElem?_eq_some_iff.1 hv).1; omega
  have := mapM_some_get h i i (by simp [hi])
  rw [this, hv]
 ·cases h
theorem b7B (a : Addr) (x j : Nat) : (a.add x).add j = a.add (x + j) := by
 unfold Addr.add
 by_cases hx : x = 0
 ·subst hx; simp
 ·by_cases hj : j = 0
  ·subst hj; simp [hx]
  ·rw [if_neg hj, if_neg hx, if_neg (by omega), Nat.add_assoc]
theorem b5x {w : World} {a : Addr} {v : Value} (h : w.cell? a = some v) : a.spot = none := by
 unfold World.cell? at h
 split at h
 ·split at h
  ·cases h
  ·rename_i hs; simpa using hs
 ·cases h
section
variable {H : Type} {enc : TypeId × Value -> H} {P : Program} {w : World} {base : Nat} {spare : Nat -> Bool} {held : Bool}
theorem a7v {α : Type} [Rp α] {fuel : Nat} {t e : TypeId} {cs : List Value} {x : DataW H × List MemPlace} (ht : P.underlying t = some (.slice e)) (hc : P.cellsOf e = Rp.sz α) (bk : α -> Nat)
 (hrd : ∀ (n : Nat) (cs : List Value) (x : DataW H × List MemPlace), n < fuel -> DataW.trod enc P w base spare held n e cs = some x -> ∃ d : α, Rp.cells (a3z w) d cs /\ bk d <= Rows.uptoBulk x.1)
 (h : DataW.trod enc P w base spare held fuel t cs = some x) :
 ∃ (ds : List α) (A : Option Addr) (c : Nat), cs = [.slice A ds.length c] /\ Sl (a3z w) ds A c /\ (ds.map bk).sum + 1 <= Rows.uptoBulk x.1 := by
 rcases DataW.trod_slice ht h with ⟨rfl, rfl⟩ | ⟨a, len, cap, elems, rest, n, rfl, rfl, rfl, hb, hl, hm, hle, hget, -, -⟩
 ·exact ⟨[], none, 0, rfl, Sl.nil_ _ _ _ (Nat.zero_le _), by simp [Rows.uptoBulk]⟩
 have key : ∀ (m i : Nat), i + m = len -> ∃ (ds : List α) (cs : List Value), ds.length = m /\ Y5 (a3z w) ds cs /\
  (∀ (j : Nat) (v : Value), cs[j]? = some v -> w.cell? (a.add (i * Rp.sz α + j)) = some v) /\ (ds.map bk).sum <= Rows.uptoBulkAll ((elems.drop i).map (·.1)) := by
  intro m
  induction m with
  | zero => intro i _; exact ⟨[], [], rfl, rfl, fun j v hv => by simp at hv, by simp⟩
  | succ m ih =>
    intro i hi
    obtain ⟨ds, cs, h1, h2, h3, h4⟩ := ih (i + 1) (by omega)
    have hlt : i < elems.length := by omega
    have hg := hget i (by omega)
    rw [List.getElem?_eq_getElem hlt, Option.bind_eq_some_iff] at hg
    obtain ⟨cs0, hcs, htr⟩ := hg
    obtain ⟨d, hd, hbk⟩ := hrd n cs0 _ (by omega) htr
    obtain ⟨hcl, hci⟩ := b5j hcs
    rw [hc] at hcl hci
    refine ⟨d :: ds, cs0 ++ cs, by simp [h1], ⟨cs0, cs, rfl, hd, h2⟩, ?_, ?_⟩
    ·intro j v hv
     by_cases hj : j < Rp.sz α
     ·rw [List.getElem?_append_left (by omega)] at hv
      rw [<- b7B]
      exact hci j v hv
     ·rw [List.getElem?_append_right (by omega)] at hv
      have := h3 _ v hv
      rw [hcl, Nat.add_mul, Nat.one_mul] at this
      have e : i * Rp.sz α + Rp.sz α + (j - Rp.sz α) = i * Rp.sz α + j := by omega
      rw [e] at this
      exact this
    ·rw [List.drop_eq_getElem_cons hlt]
     simp only [List.map_cons, List.sum_cons, Rows.uptoBulkAll]
     omega
 obtain ⟨ds, cs, h1, h2, h3, h4⟩ := key len 0 (by omega)
 simp only [Nat.zero_mul, Nat.zero_add, List.drop_zero] at h3 h4
 refine ⟨ds, some a, cap, by rw [h1], ⟨by omega, hm, cs, h2, fun hn => ?_⟩, by simp only [Rows.uptoBulk]; omega⟩
 have hne := h2.ne_nil hn
 cases cs with
 | nil => exact absurd rfl hne
 | cons v0 r =>
   have h0 := h3 0 v0 rfl
   have hs : a.spot = none := b5x (by simpa [Addr.add] using h0)
   obtain ⟨b, o, sp⟩ := a
   simp only at hs
   subst hs
   refine ⟨b, o, rfl, b5l (by simp) ?_⟩
   intro j v hv
   have := h3 j v hv
   unfold Addr.add at this
   by_cases hj : j = 0
   ·subst hj; simpa using this
   ·rw [if_neg hj] at this
    exact this
end
theorem b6j {α : Type} {l : List α} (h : l.length = 2) : ∃ a b, l = [a, b] := by
 match l, h with
 | [a, b], _ => exact ⟨a, b, rfl⟩
end Go.Pl
end
section
namespace Go.Pl
open Go Go.RowKit Go.Sx Go.Qx Go.Proofs.YtcbgcnbnnodhdaaGreat
theorem c3 : Go.Proofs.Tryz.prog.cellsOf 3 = 1 := by kernel_rfl
theorem c5 : Go.Proofs.Tryz.prog.cellsOf 5 = 1 := by kernel_rfl
section
variable {H : Type} {enc : TypeId × Value -> H} {w : World} {base : Nat} {spare : Nat -> Bool} {held : Bool}
theorem b8e {n : Nat} {cs : List Value} {x : DataW H × List MemPlace} (h : DataW.trod enc Go.Proofs.Tryz.prog w base spare held n 3 cs = some x) : ∃ d : Int, (rpK .i64).cells (a3z w) d cs /\ a5v d <= Rows.uptoBulk x.1 := by
 obtain ⟨k, e0, rfl, _⟩ := DataW.trod_int Go.Proofs.Tryz.underlying3 h
 exact ⟨k, e0, by simp [a5v, Rows.uptoBulk]⟩
theorem b9K {n : Nat} {cs : List Value} {x : DataW H × List MemPlace} (h : DataW.trod enc Go.Proofs.Tryz.prog w base spare held n 5 cs = some x) : ∃ d : Int, (rpK .u8).cells (a3z w) d cs /\ a5R d <= Rows.uptoBulk x.1 := by
 obtain ⟨k, e0, rfl, _⟩ := DataW.trod_int Go.Proofs.Tryz.underlying5 h
 exact ⟨k, e0, by simp [a5R, Rows.uptoBulk]⟩
end
end Go.Pl
end
