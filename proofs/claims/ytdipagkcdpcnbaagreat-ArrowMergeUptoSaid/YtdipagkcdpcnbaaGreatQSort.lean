/- The library's sort (slices.SortFunc, slices.Sort) as functions that turn a row: what they compute, by the kit's contracts. -/
import Derived.Test.YtdipagkcdpcnbaaGreatQVal
import Derived.Shelf.SlSortCmp.NoneTotal
import Derived.Shelf.Slices.In.SortNone
import Derived.Shelf.Sort.Plain
namespace Go.Qx
open Go Go.RowKit Go.Sx

/-! ### plain: insertion sort, and that sorted rows are one -/
section
variable {α : Type}
def ltB (g : α → α → Option Int) (x y : α) : Bool := match g x y with
  | some r => decide (r < 0)
  | none => false
/-- On these elements lt is a strict weak order. -/
structure Swk (lt : α → α → Bool) (xs : List α) : Prop where
  irr : ∀ x ∈ xs, lt x x = false
  trans : ∀ x ∈ xs, ∀ y ∈ xs, ∀ z ∈ xs, lt x y = true → lt y z = true → lt x z = true
  ntrans : ∀ x ∈ xs, ∀ y ∈ xs, ∀ z ∈ xs, lt x y = false → lt y z = false → lt x z = false
/-- A comparison that orders these elements. -/
structure OkCmp (xs : List α) (g : α → α → Option Int) : Prop where
  len : xs.length < 4611686018427387904
  dfd : ∀ x ∈ xs, ∀ y ∈ xs, ∃ r, g x y = some r
  wk : Swk (ltB g) xs
/-- What the library's sort makes of a row: the kit's own function, at the row's places. -/
def sortP (lt : α → α → Bool) (xs : List α) : List α :=
  if h : 0 < xs.length then
    haveI : Inhabited (Fin xs.length) := ⟨⟨0, h⟩⟩
    (Sort.pdq (fun i j : Fin xs.length => lt xs[i] xs[j]) (Array.ofFn (n := xs.length) id) 0 xs.length (Lib.bitLen xs.length) true true).toList.map fun i => xs[i]
  else []
open Classical in
noncomputable def sortF (xs : List α) (g : α → α → Option Int) : Option (List α) := if OkCmp xs g then some (sortP (ltB g) xs) else none
variable {lt : α → α → Bool} {xs : List α}
/-- On these elements lt is a total order. -/
structure Tot (lt : α → α → Bool) (xs : List α) : Prop where
  irr : ∀ x ∈ xs, lt x x = false
  trans : ∀ x ∈ xs, ∀ y ∈ xs, ∀ z ∈ xs, lt x y = true → lt y z = true → lt x z = true
  tot : ∀ x ∈ xs, ∀ y ∈ xs, lt x y = false → lt y x = false → x = y
theorem Tot.sub {ys : List α} (h : Tot lt xs) (hs : ∀ x ∈ ys, x ∈ xs) : Tot lt ys :=
  ⟨fun x hx => h.irr x (hs x hx), fun x hx y hy z hz => h.trans x (hs x hx) y (hs y hy) z (hs z hz), fun x hx y hy => h.tot x (hs x hx) y (hs y hy)⟩
theorem Tot.ntrans (h : Tot lt xs) {x y z : α} (hx : x ∈ xs) (hy : y ∈ xs) (hz : z ∈ xs) (h1 : lt x y = false) (h2 : lt y z = false) : lt x z = false := by
  cases h3 : lt x z with
  | false => rfl
  | true =>
    exfalso
    cases h4 : lt y x with
    | true => rw [h.trans y hy x hx z hz h4 h3] at h2; cases h2
    | false =>
      have := h.tot x hx y hy h1 h4
      subst this
      rw [h3] at h2; cases h2
abbrev Srt (lt : α → α → Bool) (l : List α) : Prop := l.Pairwise fun a b => lt b a = false
theorem Tot.wk (h : Tot lt xs) : Swk lt xs := ⟨h.irr, h.trans, fun _ hx _ hy _ hz h1 h2 => h.ntrans hx hy hz h1 h2⟩
theorem ext_all {β : Type} (d : Array β) {m : Nat} (h : d.size = m) : d.extract 0 m = d := by subst h; simp
/-- A sorted row of the same elements. -/
theorem sortP_sorts (h : Swk lt xs) : (sortP lt xs).Perm xs ∧ Srt lt (sortP lt xs) := by
  unfold sortP
  split
  · rename_i hn
    letI : Inhabited (Fin xs.length) := ⟨⟨0, hn⟩⟩
    have hswo : Sort.SWO (fun i j : Fin xs.length => lt xs[i] xs[j]) := ⟨fun i => h.irr _ (List.getElem_mem _), fun i j k => h.trans _ (List.getElem_mem _) _ (List.getElem_mem _) _ (List.getElem_mem _), fun i j k => h.ntrans _ (List.getElem_mem _) _ (List.getElem_mem _) _ (List.getElem_mem _)⟩
    have hh := Sort.pdq_sorts (fun i j : Fin xs.length => lt xs[i] xs[j]) hswo (Array.ofFn (n := xs.length) id) 0 xs.length (Lib.bitLen xs.length) true true (Nat.zero_le _) (by simp) (Or.inl rfl)
    generalize Sort.pdq (fun i j : Fin xs.length => lt xs[i] xs[j]) (Array.ofFn (n := xs.length) id) 0 xs.length (Lib.bitLen xs.length) true true = d' at hh ⊢
    obtain ⟨⟨h1, _, h2⟩, hs⟩ := hh
    have hsz : d'.size = xs.length := by rw [h1]; simp
    have hp' : d'.toList.Perm (List.ofFn (n := xs.length) id) := by
      rw [ext_all d' hsz, ext_all (Array.ofFn (n := xs.length) (id : Fin xs.length → Fin xs.length)) (by simp)] at h2
      simpa using h2
    have hxs : (List.ofFn (n := xs.length) id).map (fun i : Fin xs.length => xs[i]) = xs := by
      apply List.ext_getElem
      · simp
      · intro i h1 h2
        simp
    refine ⟨?_, ?_⟩
    · have := hp'.map (fun i : Fin xs.length => xs[i])
      rwa [hxs] at this
    · rw [Srt, List.pairwise_iff_getElem]
      intro i j hi hj hij
      simp only [List.length_map, Array.length_toList] at hi hj
      have := hs i j (Nat.zero_le _) hij (by omega)
      rw [getElem!_pos d' j hj, getElem!_pos d' i hi] at this
      simp only [List.getElem_map, Array.getElem_toList]
      exact this
  · rename_i hn
    have : xs = [] := List.eq_nil_of_length_eq_zero (by omega)
    subst this
    exact ⟨List.Perm.refl _, List.Pairwise.nil⟩
theorem sortP_len (h : Swk lt xs) : (sortP lt xs).length = xs.length := (sortP_sorts h).1.length_eq
theorem sortF_some {g : α → α → Option Int} {ys : List α} (h : sortF xs g = some ys) : OkCmp xs g ∧ ys = sortP (ltB g) xs := by
  unfold sortF at h
  split at h
  · rename_i hk; cases h; exact ⟨hk, rfl⟩
  · cases h
end

/-! ### the row's cells -/
section
variable {α : Type} [Rp α] {σ τ : S}
def encI (cs : List Value) (sz n : Nat) (i : Fin n) : List Value := (cs.drop (i.val * sz)).take sz
theorem enc_at {xs : List α} {cs : List Value} (h : Flat σ xs cs) (i : Fin xs.length) : Rp.cells σ xs[i] (encI cs (Rp.sz α) xs.length i) := by
  obtain ⟨c1, cj, c2, e1, e2, e3, _⟩ := flat_at h (List.getElem?_eq_getElem i.isLt)
  have : encI cs (Rp.sz α) xs.length i = cj := by
    unfold encI
    rw [e1, List.append_assoc, ← e2, List.drop_left, ← Rp.len e3, List.take_left]
  rw [this]; exact e3
theorem flat_of {n : Nat} {enc : Fin n → List Value} {xs : Fin n → α} (h : ∀ i, Rp.cells σ (xs i) (enc i)) : ∀ l : List (Fin n), Flat σ (l.map xs) (l.flatMap enc)
  | [] => rfl
  | i :: l => ⟨_, _, rfl, h i, flat_of h l⟩
theorem get_flatMap {n k : Nat} {enc : Fin n → List Value} (hk : ∀ i, (enc i).length = k) (hp : 0 < k) : ∀ (l : List (Fin n)) (t : Nat), t < l.length * k → (l.flatMap enc)[t]? = (l[t / k]?.bind fun i => (enc i)[t % k]?)
  | [], t, h => by simp at h
  | i :: l, t, h => by
    rw [List.flatMap_cons]
    by_cases hlt : t < k
    · rw [List.getElem?_append_left (by rw [hk]; exact hlt), Nat.div_eq_of_lt hlt, Nat.mod_eq_of_lt hlt]
      rfl
    · have hle := Nat.le_of_not_lt hlt
      rw [List.getElem?_append_right (by rw [hk]; exact hle), hk, get_flatMap hk hp l (t - k) (by simp [Nat.add_mul] at h; omega)]
      have e1 : t / k = (t - k) / k + 1 := Nat.div_eq_sub_div hp hle
      have e2 : t % k = (t - k) % k := Nat.mod_eq_sub_mod hle
      rw [e1, e2, List.getElem?_cons_succ]
theorem flatK_list {n k : Nat} [Inhabited (Fin n)] {enc : Fin n → List Value} (hk : ∀ i, (enc i).length = k) (hp : 0 < k) (d : Array (Fin n)) : (Sort.flatK enc k d).toList = d.toList.flatMap enc := by
  apply List.ext_getElem?
  intro t
  by_cases ht : t < d.size * k
  · rw [get_flatMap hk hp d.toList t (by simpa using ht)]
    have hq : t / k < d.size := by rw [Nat.div_lt_iff_lt_mul hp]; exact ht
    have hm : t % k < k := Nat.mod_lt _ hp
    have e1 : (Sort.flatK enc k d)[t]! = (enc d[t / k]!)[t % k]! := Sort.get_flatK enc k d t ht
    rw [getElem!_pos (Sort.flatK enc k d) t (by simpa using ht)] at e1
    rw [Array.getElem?_toList, Array.getElem?_eq_getElem (by simpa using ht), e1, Array.getElem?_toList, Array.getElem?_eq_getElem hq, getElem!_pos d (t / k) hq]
    simp only [Option.bind_some]
    rw [List.getElem?_eq_getElem (by rw [hk]; exact hm), getElem!_pos _ _ (by rw [hk]; exact hm)]
  · rw [List.getElem?_eq_none (by simp; omega), List.getElem?_eq_none (by
      have : (d.toList.flatMap enc).length = d.size * k := by
        have : ∀ l : List (Fin n), (l.flatMap enc).length = l.length * k := by
          intro l
          induction l with
          | nil => simp
          | cons i l ih => simp [ih, hk, Nat.add_mul, Nat.add_comm]
        simpa using this d.toList
      omega)]
/-- The world whose row g holds F, some draws on, with new blocks behind. -/
def rowW (w : World) (g m : Nat) (F : Array Value) (os : Array Obj) : World := Sort.grow (Sort.putRow id (Sort.ahead w m) g 0 F) os
theorem rowW_old {w : World} {g m : Nat} {F : Array Value} {os : Array Obj} {b : Nat} (hb : b < w.heap.size) (hne : b ≠ g) : (rowW w g m F os).heap[b]? = w.heap[b]? := by
  simp only [rowW, Sort.grow, Sort.putRow, Sort.mapBlock, Sort.ahead]
  rw [Array.getElem?_append_left (by simpa using hb), Array.getElem?_modify, if_neg (fun e => hne e.symm)]
theorem rowW_row {w : World} {g m : Nat} {F : Array Value} {os : Array Obj} {cur : Array Value} {E : TypeId} (h : w.heap[g]? = some (.cells cur E (0, 0))) (hF : F.size ≤ cur.size) :
    (rowW w g m F os).heap[g]? = some (.cells (F.toList ++ cur.toList.drop F.size).toArray E (0, 0)) := by
  have hb : g < w.heap.size := heap_lt h
  simp only [rowW, Sort.grow, Sort.putRow, Sort.mapBlock, Sort.ahead]
  rw [Array.getElem?_append_left (by simpa using hb), Array.getElem?_modify, if_pos rfl, h]
  simp only [Option.map_some, Sort.onCells, Option.some.injEq, Obj.cells.injEq, and_self, and_true]
  apply Array.ext_getElem?
  intro i
  simp only [Sort.putCells, Array.getElem?_mapIdx, List.getElem?_toArray, id]
  by_cases hi : i < F.size
  · rw [List.getElem?_append_left (by simpa using hi), Array.getElem?_toList, Array.getElem?_eq_getElem hi, Array.getElem?_eq_getElem (by omega : i < cur.size)]
    simp only [Option.map_some, Nat.zero_le, Nat.zero_add, hi, and_self, if_true, Nat.sub_zero]
    rw [getElem!_pos F i hi]
  · rw [List.getElem?_append_right (by simpa using Nat.le_of_not_lt hi), List.getElem?_drop]
    rw [Array.length_toList, Nat.add_sub_cancel' (Nat.le_of_not_lt hi), Array.getElem?_toList]
    cases hc : cur[i]? with
    | none => rfl
    | some v => simp [hi]
def rowS (σ : S) (W : World) : S := ⟨W, fun b => if b < σ.N then σ.L b else (0, b)⟩
theorem rowW_size (w : World) (g m : Nat) (F : Array Value) (os : Array Obj) : (rowW w g m F os).heap.size = w.heap.size + os.size := by
  simp [rowW, Sort.grow, Sort.putRow, Sort.mapBlock, Sort.ahead]
theorem rowS_stp {g m k : Nat} {E : TypeId} {xs : List α} {A : Option Addr} {F : Array Value} {os : Array Obj} (hown : OwnR (some g) false E σ xs A k) : Stp (fun b => b = g) σ (rowS σ (rowW σ.w g m F os)) := by
  obtain ⟨cur, cs, rfl, hh, h1, h2, h3, h4, h5, h6⟩ := hown
  have hL : ∀ b, b < σ.N → (rowS σ (rowW σ.w g m F os)).L b = σ.L b := fun b hb => by simp [rowS, hb]
  refine ⟨⟨?_, fun b hb => by rw [hL b hb]; exact Nat.le_refl _, fun b o v ho hc => ?_, ?_⟩, rfl, rfl, rfl, fun b hb hn => ⟨rowW_old hb hn, by rw [hL b hb]⟩⟩
  · show σ.w.heap.size ≤ (rowW σ.w g m F os).heap.size
    rw [rowW_size]; omega
  · have hlt := cell_lt hc
    by_cases e : b = g
    · subst e
      rw [show (σ.L b).1 = 0 from h6] at ho
      omega
    · exact (cell_of_block (rowW_old hlt e) o).trans hc
  · show σ.w.drawn ≤ (rowW σ.w g m F os).drawn
    simp [rowW, Sort.grow, Sort.putRow, Sort.mapBlock, Sort.ahead]
theorem rowS_own {g m k : Nat} {E : TypeId} {xs ys : List α} {A : Option Addr} {F : Array Value} {os : Array Obj} (hown : OwnR (some g) false E σ xs A k) (hF : Flat σ ys F.toList) (hl : ys.length = xs.length) :
    OwnR (some g) false E (rowS σ (rowW σ.w g m F os)) ys A k := by
  have hst := rowS_stp (m := m) (F := F) (os := os) hown
  obtain ⟨cur, cs, rfl, hh, h1, h2, h3, h4, h5, h6⟩ := hown
  have hFs : F.size = xs.length * Rp.sz α := by rw [← Array.length_toList, hF.len, hl]
  have hle : F.size ≤ cur.size := by rw [hFs, h3]; exact Nat.mul_le_mul_right _ h1
  refine ⟨(F.toList ++ cur.toList.drop F.size).toArray, F.toList, rfl, rowW_row hh hle, by rw [hl]; exact h1, h2, ?_, hF.mono hst.wext, ?_, ?_⟩
  · simp; omega
  · rw [hl, ← hFs, ← Array.length_toList]
    exact List.take_left
  · show (if g < σ.N then σ.L g else (0, g)).1 = _
    rw [if_pos (heap_lt hh)]
    exact h6
theorem stp_grow {τ υ : S} (h : Stp NoB τ υ) : ∃ q os, υ.w = Sort.grow (τ.w.drewN q) os := by
  refine ⟨υ.w.drawn - τ.w.drawn, υ.w.heap.extract τ.w.heap.size υ.w.heap.size, ?_⟩
  have hd := h.wext.drawn
  have hs : τ.w.heap.size ≤ υ.w.heap.size := h.wext.size
  have e1 := h.os
  have e2 := h.tape
  have e3 := h.output
  have hheap : υ.w.heap = τ.w.heap ++ υ.w.heap.extract τ.w.heap.size υ.w.heap.size := by
    apply Array.ext_getElem?
    intro i
    by_cases hi : i < τ.w.heap.size
    · rw [Array.getElem?_append_left hi]
      exact (h.block i hi (fun h => h)).1
    · rw [Array.getElem?_append_right (Nat.le_of_not_lt hi), Array.getElem?_extract]
      have : τ.w.heap.size + (i - τ.w.heap.size) = i := by omega
      rw [this]
      split
      · rfl
      · rw [Array.getElem?_eq_none (by omega)]
  cases hu : υ.w with
  | mk heap tape drawn os output =>
    rw [hu] at hd hs e1 e2 e3 hheap
    simp only [Sort.grow, World.drewN]
    simp only at hd hheap e1 e2 e3
    rw [← hheap, e1, e2, e3]
    congr 1
    omega
theorem putRow_map {β : Type} [Inhabited β] (enc : β → Value) (w : World) (g : Nat) (dk : Array β) : Sort.putRow enc w g 0 dk = Sort.putRow id w g 0 (dk.map enc) := by
  unfold Sort.putRow
  congr 1
  funext c
  unfold Sort.putCells
  apply Array.ext_getElem?
  intro i
  simp only [Array.getElem?_mapIdx, Array.size_map]
  cases hc : c[i]? with
  | none => rfl
  | some v =>
    simp only [Option.map_some, Option.some.injEq]
    split
    · rename_i hi
      have hi' : i - 0 < dk.size := by omega
      rw [getElem!_pos dk (i - 0) hi', id, getElem!_pos (dk.map enc) (i - 0) (by simpa using hi'), Array.getElem_map]
    · rfl
theorem eg_of {P : Program} {g : FuncId} (h : HasBody P g) (args : Array Value) (w : World) : (callFunc g args).run P w = .ok (.enter g args) w := by
  obtain ⟨fn, c, h1, h2, h3⟩ := h
  have h3' : fn.name ≠ "runtime.NumGoroutine" := by simpa using h3
  simp [callFunc, h1, h2, h3']
theorem calls_of_S {P : Program} {g : FuncId} {vs : List Value} {τ : S} {E : S → Prop} {R : Value → S → Prop} (hb : HasBody P g) (h : CallS P g vs τ E R) : Calls P g vs.toArray τ.w fun e w' => ∃ v υ, e = .returned v ∧ υ.w = w' ∧ E υ ∧ R v υ := by
  rcases h with ⟨_, h⟩ | ⟨v, υ, h, _⟩
  · exact h
  · rw [eg_of hb] at h; cases h
omit [Rp α] in
theorem swo_fin {n : Nat} {xs : Fin n → α} {l : List α} {gf : α → α → Option Int} (hl : ∀ i, xs i ∈ l) (ht : Swk (ltB gf) l) (cf : Fin n → Fin n → Int) (hcf : ∀ i j, gf (xs i) (xs j) = some (cf i j)) : Sort.SWO (Go.Proofs.ltOf cf) := by
  have e : ∀ i j, Go.Proofs.ltOf cf i j = ltB gf (xs i) (xs j) := fun i j => by simp [Go.Proofs.ltOf, ltB, hcf i j]
  refine ⟨fun i => ?_, fun i j k h1 h2 => ?_, fun i j k h1 h2 => ?_⟩
  · rw [e]; exact ht.irr _ (hl i)
  · rw [e] at *; exact ht.trans _ (hl i) _ (hl j) _ (hl k) h1 h2
  · rw [e] at *; exact ht.ntrans _ (hl i) _ (hl j) _ (hl k) h1 h2
omit [Rp α] in
/-- What the kit's function makes of the places, is what it makes of the row. -/
theorem places_sorted {xs : List α} (hn : 0 < xs.length) [inst : Inhabited (Fin xs.length)] {gf : α → α → Option Int} {cf : Fin xs.length → Fin xs.length → Int} (hcf : ∀ i j : Fin xs.length, gf xs[i.val] xs[j.val] = some (cf i j)) (hi : inst = ⟨⟨0, hn⟩⟩) :
    (Sort.pdq (Go.Proofs.ltOf cf) (Array.ofFn (n := xs.length) id) 0 xs.length (Lib.bitLen xs.length) true true).toList.map (fun i : Fin xs.length => xs[i]) = sortP (ltB gf) xs := by
  have e : Go.Proofs.ltOf cf = fun i j : Fin xs.length => ltB gf xs[i] xs[j] := by
    funext i j
    have := hcf i j
    have e2 : gf xs[i] xs[j] = some (cf i j) := this
    simp only [Go.Proofs.ltOf, ltB, e2]
  rw [e]
  unfold sortP
  rw [dif_pos hn]
  subst hi
  rfl
open Go.Proofs in
theorem sortK_call {P : Program} {ρ : Go.Shelf.Ren} (L : Go.Proofs.SlLaysF0.n6 P ρ) {fs : Array Field} {E : TypeId} (hu : P.underlying (ρ.t 24) = some (.struct fs)) (hz : (P.info? (ρ.t 24)).map (·.size) = some (Rp.sz α)) {xs : List α} {A : Option Addr} {k : Nat} {ow : Option Nat} (hown : OwnR ow false E σ xs A k)
    {g : FuncId} {cb : List Value} {gf : α → α → Option Int} (hok : OkCmp xs gf) (hbody : HasBody P g)
    (hcmp : ∀ τ, Stp (fun b => σ.N ≤ b ∨ ow = some b) σ τ → ∀ x y cx cy r, Rp.cells τ x cx → Rp.cells τ y cy → gf x y = some r → CallS P g ([.agg cx.toArray, .agg cy.toArray] ++ cb) τ (Stp NoB τ) fun v _ => v = .int .i64 r) :
    CallS P (ρ.f 6) [.slice A xs.length k, .func (.func g) #[] cb.toArray] σ (Stp (fun b => ow = some b) σ) fun v τ => v = .tuple #[] ∧ OwnR ow false E τ (sortP (ltB gf) xs) A k := by
  have hb6 : HasBody P (ρ.f 6) := by
    obtain ⟨nm, hn, hf⟩ := L.f6
    exact ⟨_, _, hf, rfl, hn⟩
  refine .inl ⟨hb6, ?_⟩
  cases hx : xs with
  | nil =>
    subst hx
    refine (AnyF.slices_SortFunc_none L A k (.func (.func g) #[] cb.toArray) σ.w).mono fun e w' ⟨he, hw⟩ => ?_
    exact ⟨_, σ, he, hw.symm, Stp.refl _ _, rfl, hown⟩
  | cons x0 r0 =>
    rw [← hx]
    cases ow with
    | none =>
      rcases hown with ⟨e, _⟩ | ⟨e, _⟩
      · rw [hx] at e; cases e
      · cases e
    | some gb =>
      have hown0 := hown
      obtain ⟨cur, cs, rfl, hh, h1, h2, h3, h4, h5, h6⟩ := hown
      have hn : 0 < xs.length := by rw [hx]; simp
      let n := xs.length
      letI : Inhabited (Fin xs.length) := ⟨⟨0, hn⟩⟩
      let enc : Fin xs.length → List Value := encI cs (Rp.sz α) xs.length
      have hpos := Rp.pos (α := α)
      have hek : ∀ i, (enc i).length = Rp.sz α := fun i => Rp.len (enc_at h4 i)
      have he1 : ∀ i, ∀ v ∈ enc i, v.oneCell' = true := fun i v hv => Rp.one (enc_at h4 i) v hv
      let cf : Fin xs.length → Fin xs.length → Int := fun i j => (gf xs[i] xs[j]).getD 0
      have hcf : ∀ i j : Fin xs.length, gf xs[i.val] xs[j.val] = some (cf i j) := fun i j => by
        obtain ⟨r, hr⟩ := hok.dfd xs[i] (List.getElem_mem _) xs[j] (List.getElem_mem _)
        have hr' : gf xs[i.val] xs[j.val] = some r := hr
        show _ = some ((gf xs[i.val] xs[j.val]).getD 0)
        rw [hr']; rfl
      have hflat : ∀ {υ : S} (_ : Wext σ υ) (dk : Array (Fin xs.length)), Flat υ (dk.toList.map fun i => xs[i]) (Sort.flatK enc (Rp.sz α) dk).toList := fun hw dk => by
        rw [flatK_list hek hpos]
        exact (flat_of (fun i => enc_at h4 i) dk.toList).mono hw
      have hcur : ∀ j, j < xs.length * Rp.sz α → cur[j]? = cs[j]? := fun j hj => by
        rw [← h5, List.getElem?_take_of_lt hj, Array.getElem?_toList]
      have hd0 : (Sort.flatK enc (Rp.sz α) (Array.ofFn (n := xs.length) id)).toList = cs := by
        have hA := hflat (Wext.refl σ) (Array.ofFn (n := xs.length) id)
        apply List.ext_getElem?
        intro t
        by_cases ht : t < xs.length * Rp.sz α
        · rw [flatK_list hek hpos, get_flatMap hek hpos _ t (by simpa using ht)]
          have hq : t / Rp.sz α < xs.length := by rw [Nat.div_lt_iff_lt_mul hpos]; exact ht
          simp only [Array.toList_ofFn, List.getElem?_ofFn, hq, dite_true, Option.bind_some, id]
          simp only [enc, encI]
          rw [List.getElem?_take_of_lt (Nat.mod_lt _ hpos), List.getElem?_drop]
          congr 1
          exact Nat.div_add_mod' t (Rp.sz α)
        · rw [List.getElem?_eq_none (by simp; omega), List.getElem?_eq_none (by rw [h4.len]; omega)]
      have hholds : Sort.HoldsK enc (Rp.sz α) σ.w gb 0 (Array.ofFn (n := xs.length) id) := by
        intro j hj
        have hj' : j < xs.length * Rp.sz α := by simpa using hj
        have hjc : j < cs.length := by rw [h4.len]; exact hj'
        refine ⟨?_, by simp [World.frozen?, hh]⟩
        have e1 : σ.w.cell? ⟨gb, 0 + j, none⟩ = cur[j]? := by simp [World.cell?, hh]
        rw [e1, hcur j hj', getElem!_pos _ j (by simpa using hj'), List.getElem?_eq_getElem hjc]
        congr 1
        have := congrArg (fun l : List Value => l[j]?) hd0
        simp only [Array.getElem?_toList] at this
        rw [Array.getElem?_eq_getElem (by simpa using hj'), List.getElem?_eq_getElem hjc] at this
        exact (Option.some.inj this).symm
      have hlt : gb < σ.w.heap.size := heap_lt hh
      have hcl : CmpLays P g cb.toArray enc (Rp.sz α) cf gb 0 (Array.ofFn (n := xs.length) (id : Fin xs.length → Fin xs.length)).size σ.w := by
        intro m os dk hdk i j
        have hst := rowS_stp (m := m) (F := Sort.flatK enc (Rp.sz α) dk) (os := os) hown0
        have hc := hcmp (rowS σ (rowW σ.w gb m (Sort.flatK enc (Rp.sz α) dk) os)) (hst.mono fun b _ e => .inr (by rw [e])) xs[i] xs[j] (enc i) (enc j) (cf i j) (Rp.mono hst.wext (enc_at h4 i)) (Rp.mono hst.wext (enc_at h4 j)) (hcf i j)
        have hc' := calls_of_S hbody hc
        have e : (#[Value.agg (enc i).toArray, Value.agg (enc j).toArray] ++ cb.toArray) = ([Value.agg (enc i).toArray, Value.agg (enc j).toArray] ++ cb).toArray := by simp
        rw [e]
        refine Calls.mono hc' fun e w' ⟨v, υ, h1, h2, h3, h4⟩ => ?_
        obtain ⟨q, os', ho⟩ := stp_grow h3
        exact ⟨by rw [h1, h4], q, os', by rw [← h2]; exact ho⟩
      have aE : ∀ w, (isAgg (ρ.t 24)).run P w = .ok true w := fun w => by
        simp [isAgg, run_underlying hu]
      have main := AnyQ.slices_SortFunc_eq L (Rp.sz α) aE (fun w => Sx.run_sizeOf hz w) enc hek he1 cf (swo_fin (xs := fun i : Fin xs.length => xs[i]) (l := xs) (fun i => List.getElem_mem _) hok.wk cf hcf) g cb.toArray gb 0 k (Array.ofFn (n := xs.length) id) σ.w (eg_of hbody) hcl hholds hlt (by simp only [Array.size_ofFn]; exact hok.len)
      have hs : (Array.ofFn (n := xs.length) (id : Fin xs.length → Fin xs.length)).size = xs.length := by simp
      rw [hs] at main
      have hsorted := places_sorted hn hcf rfl
      have hswo := swo_fin (xs := fun i : Fin xs.length => xs[i]) (l := xs) (fun i => List.getElem_mem _) hok.wk cf hcf
      have hp := (Sort.pdq_sorts (ltOf cf) hswo (Array.ofFn (n := xs.length) id) 0 xs.length (Lib.bitLen xs.length) true true (Nat.zero_le _) (by simp) (Or.inl rfl)).1
      generalize Sort.pdq (ltOf cf) (Array.ofFn (n := xs.length) id) 0 xs.length (Lib.bitLen xs.length) true true = d' at main hsorted hp
      refine Calls.mono main fun e w' ⟨he, m, os, hw⟩ => ?_
      have hst := rowS_stp (m := m) (F := Sort.flatK enc (Rp.sz α) d') (os := os) hown0
      refine ⟨_, rowS σ (rowW σ.w gb m (Sort.flatK enc (Rp.sz α) d') os), he, hw.symm, hst.mono fun b _ e => by rw [e], rfl, ?_⟩
      rw [← hsorted]
      exact rowS_own hown0 (hflat (Wext.refl σ) d') (by simp; rw [hp.1]; simp)
end

/-! ### as rows of the executor's table -/
section
variable {I : TypeId → Type} [∀ E, Rp (I E)] {P : Program}
noncomputable def sortR {α : Type} (xs : List α) (g : α → α → Option Int) : Option (Unit × List α) := Option.bind (sortF xs g) fun ys => some ((), ys)
theorem sort_post {σ τ : S} {E : TypeId} {ks : List Kd} {rs : List V} {v1 v2 : Value} {gr : List Nat} {res : Unit} : Post (I := I) σ τ [.row E false, .fn ks rs] [] [v1, v2] res gr (.tuple #[]) [] [] [] :=
  ⟨rfl, rfl, ⟨rfl, rfl⟩, rfl, by simp [ows], fun g hg => by simp [ows] at hg⟩
theorem sortK_row {ρ : Go.Shelf.Ren} (L : Go.Proofs.SlLaysF0.n6 P ρ) {fs : Array Field} (f : FuncId) (hf : ρ.f 6 = f) {E : TypeId} (hE : ρ.t 24 = E) (hu : P.underlying E = some (.struct fs)) (hz : (P.info? E).map (·.size) = some (Rp.sz (I E))) :
    RioOk P (⟨f, E, [.fn [.dat E, .dat E] [.k (.d (.int .i64))]], [], fun xs g => sortR xs g⟩ : Rio I) := by
  subst hf
  subst hE
  intro σ xs a vs pls res ys hA hnd happ
  obtain ⟨v1, vs1, p1, q1, e1, e2, ⟨A, k, ow, e3, hown, e4⟩, v2, vs2, p2, q2, e5, e6, ⟨g, av, cb, e7, ⟨hbody, has, hfn⟩, e8⟩, e9, e10⟩ := hA
  obtain ⟨gf, u⟩ := a
  have happ : sortR xs gf = some (res, ys) := happ
  unfold sortR at happ
  obtain ⟨ys', hs, happ⟩ := bind_some happ
  cases happ
  obtain ⟨hok, hys⟩ := sortF_some hs
  have e9 : vs2 = [] := e9
  have e10 : q2 = [] := e10
  have e3 : v1 = .slice A xs.length k := e3
  have e4 : p1 = [⟨A, k, xs.length, ow⟩] := e4
  have e7 : v2 = .func (.func g) (List.toArray av) (List.toArray cb) := e7
  have e8 : p2 = [] := e8
  subst e9; subst e10; subst has; subst e8; subst e6; subst e4; subst e5; subst e7; subst e3; subst e1
  rw [List.append_nil] at e2
  subst e2
  have hc := sortK_call (σ := σ) L hu hz hown hok hbody (cb := cb) (fun τ hst x y cx cy r hx hy hr => by
    have h1 := hfn τ (hst.mono fun b _ hb => hb.imp id fun h => by rw [h]; simp [ows]) (x, y, ()) [.agg cx.toArray, .agg cy.toArray] r ⟨_, _, rfl, ⟨cx, rfl, hx⟩, _, _, rfl, ⟨cy, rfl, hy⟩, rfl⟩ hr
    exact CallS.mono h1 rfl fun v υ hE ⟨ws, hv, ht⟩ => ⟨υ, rfl, hE, by
      obtain ⟨w, hw, ht, _⟩ := ht
      rw [hv, hw]
      exact ht⟩)
  refine CallS.mono hc rfl fun v τ hE ⟨hv, hO⟩ => ⟨τ, rfl, hE.mono fun b _ hb => by rw [hb]; simp [ows], [], [], [], by rw [hv]; exact sort_post, A, k, ow, rfl, by rw [hys]; exact sortP_len hok.wk, by rw [hys]; exact hO, fun g _ => by simp [ows]⟩
/-! ### slices.Sort at strings -/
def sortIntG {α : Type} (toI : α → Int) (xs : List α) : Option (Unit × List α) := bif decide (xs.length < 4611686018427387904) then some ((), xs.mergeSort fun x y => decide (toI x ≤ toI y)) else none
def sortInt (xs : List Int) : Option (Unit × List Int) := sortIntG (fun x => x) xs
open Go.Proofs in
theorem sortI_row {ρ : Go.Shelf.Ren} (L : Go.Proofs.Lays.n189 P ρ) (f : FuncId) (hf : ρ.f 189 = f) {E : TypeId} (toI : I E → Int) (hI : ∀ {σ : S} {x : I E} {cs : List Value}, Rp.cells σ x cs ↔ cs = [.int .i64 (toI x)]) (hb : HasBody P f) :
    RioOk P (⟨f, E, [], [], fun xs => sortIntG toI xs⟩ : Rio I) := by
  subst hf
  intro σ xs a vs pls res ys hA hnd happ
  obtain ⟨v1, vs1, p1, q1, e1, e2, ⟨A, k, ow, e3, hown, e4⟩, e9, e10⟩ := hA
  have happ : sortIntG toI xs = some (res, ys) := happ
  unfold sortIntG at happ
  obtain ⟨hlen, happ⟩ := bif_some happ
  have hlen : xs.length < 4611686018427387904 := by simpa using hlen
  have e9 : vs1 = [] := e9
  have e10 : q1 = [] := e10
  have e3 : v1 = .slice A xs.length k := e3
  have e4 : p1 = [⟨A, k, xs.length, ow⟩] := e4
  subst e9; subst e10; subst e4; subst e3; subst e1
  rw [List.append_nil] at e2
  subst e2
  cases happ
  have hpost : ∀ {τ : S}, Post (I := I) σ τ [.row E false] [] [.slice A xs.length k] () (ows [(⟨A, k, xs.length, ow⟩ : Pl)]) (.tuple #[]) [] [] [] := ⟨rfl, rfl, ⟨rfl, rfl⟩, rfl, by simp [ows], fun g hg => by simp [ows] at hg⟩
  refine .inl ⟨hb, ?_⟩
  have hown : OwnR ow false E σ xs A k := hown
  cases hx : xs with
  | nil =>
    subst hx
    refine (Any.slices_Sort_int_none L A k σ.w).mono fun e w' ⟨he, hw⟩ => ?_
    exact ⟨_, σ, he, hw.symm, Stp.refl _ _, [], [], [], hpost, A, k, ow, rfl, by simp, by simpa using hown, fun g _ => by simp [ows]⟩
  | cons x0 r0 =>
    rw [← hx]
    cases ow with
    | none =>
      rcases hown with ⟨e, _⟩ | ⟨e, _⟩
      · rw [hx] at e; cases e
      · cases e
    | some gb =>
      have hown0 := hown
      obtain ⟨cur, cs, rfl, hh, h1, h2, h3, h4, h5, h6⟩ := hown
      have hsz1 : Rp.sz (I E) = 1 := by
        have := Rp.len (hI (σ := σ) (x := x0).2 rfl)
        simpa using this.symm
      have hcsU : ∀ {l : List (I E)} {ds : List Value}, Flat σ l ds → ds = l.map fun x => Value.int .i64 (toI x) := by
        intro l
        induction l with
        | nil => intro ds h; exact h
        | cons x l ih =>
          intro ds ⟨c, r, e, hc, hr⟩
          rw [e, hI.1 hc, ih hr]; rfl
      have hflat1 : ∀ {υ : S} (l : List (I E)), Flat υ l (l.map fun x => Value.int .i64 (toI x)) := by
        intro υ l
        induction l with
        | nil => rfl
        | cons x l ih => exact ⟨[_], _, rfl, hI.2 rfl, ih⟩
      let toL : I E → Int := toI
      have hholds : Sort.Holds (Value.int .i64) σ.w gb 0 (xs.map toL).toArray := by
        intro j hj
        have hj' : j < xs.length := by simpa using hj
        refine ⟨?_, by simp [World.frozen?, hh]⟩
        have e1 : σ.w.cell? ⟨gb, 0 + j, none⟩ = cur[j]? := by simp [World.cell?, hh]
        have e2 : cur[j]? = cs[j]? := by rw [← h5, hsz1, Nat.mul_one, List.getElem?_take_of_lt hj', Array.getElem?_toList]
        rw [e1, e2, hcsU h4, List.getElem?_map, List.getElem?_eq_getElem hj', getElem!_pos _ j (by simpa using hj')]
        simp [toL]
      have main := Any.slices_Sort_int L gb 0 k (xs.map toL) σ.w hholds (heap_lt hh) (by simpa using hlen)
      rw [List.length_map] at main
      refine Calls.mono main fun e w' ⟨he, m, os, hw⟩ => ?_
      have hmap : ((xs.mergeSort fun x y => decide (toL x ≤ toL y)).map toL) = (xs.map toL).mergeSort fun x y => decide (x ≤ y) := List.map_mergeSort fun a _ b _ => rfl
      let ys := xs.mergeSort fun x y => decide (toL x ≤ toL y)
      have hput : ∀ (w : World), Sort.putRow (Value.int .i64) w gb 0 ((xs.map toL).mergeSort fun x y => decide (x ≤ y)).toArray = Sort.putRow id w gb 0 (ys.map fun x => Value.int .i64 (toI x)).toArray := fun w => by
        rw [putRow_map, ← hmap]
        congr 1
        simp [ys, toL]
      have hst := rowS_stp (m := m) (F := (ys.map fun x => Value.int .i64 (toI x)).toArray) (os := os) hown0
      refine ⟨_, rowS σ (rowW σ.w gb m (ys.map fun x => Value.int .i64 (toI x)).toArray os), he, ?_, hst.mono fun b _ e => by rw [e]; simp [ows], [], [], [], hpost, _, k, some gb, rfl, by simp, ?_, fun g _ => by simp [ows]⟩
      · rw [hw]
        show rowW σ.w gb m (ys.map fun x => Value.int .i64 (toI x)).toArray os = _
        unfold rowW
        rw [hput]
      · exact rowS_own hown0 (hflat1 ys) (by simp [ys])
end
end Go.Qx
