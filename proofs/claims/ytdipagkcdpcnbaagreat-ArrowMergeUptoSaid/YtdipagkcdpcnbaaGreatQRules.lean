/- The symbolic executor: rules for rows that are held alone. -/
import Derived.Test.YtdipagkcdpcnbaaGreatQEff
import Derived.Laws.MakeOwn
namespace Go.Qx
open Go Go.RowKit Go.Sx

section
variable {P : Program} {ops : Array Oper} {Q : Exit → Act → World → Prop} {n : Nat} {F : Fr} {rest : List Oper} {d : Option Nat} {ty : TypeId} {pos : String} {aft : Array Edge} {σ : S}
/-- What an append leaves: a row in its own block g. -/
structure Apd (w w' : World) (E : TypeId) (sz m : Nat) (cs : List Value) (A : Option Addr) (c g : Nat) : Prop where
  A : A = some ⟨g, 0, none⟩
  le : m ≤ c
  max : c ≤ maxLen
  row : ∃ cur, w'.heap[g]? = some (.cells cur E (0, 0)) ∧ cur.size = c * sz ∧ cur.toList.take (m * sz) = cs
  old : ∀ b, b < w.heap.size → b ≠ g → w'.heap[b]? = w.heap[b]?
structure Calm (w w' : World) : Prop where
  os : w'.os = w.os
  tape : w'.tape = w.tape
  output : w'.output = w.output
  size : w.heap.size ≤ w'.heap.size
  drawn : w.drawn ≤ w'.drawn
theorem Calm.refl (w : World) : Calm w w := ⟨rfl, rfl, rfl, Nat.le_refl _, Nat.le_refl _⟩
theorem apd_of {w w1 : World} {E : TypeId} {sz m : Nat} {v : Value} {cs : List Value} (hown : w1.ownsRow w.heap.size E sz v m cs) (hgrow : w.grownBy w1 none) (hne : m ≠ 0) (hdr : w.drawn ≤ w1.drawn) :
    ∃ A c g, v = .slice A m c ∧ Apd w w1 E sz m cs A c g ∧ w.heap.size ≤ g ∧ Calm w w1 := by
  rcases hown.2 with ⟨_, h0⟩ | ⟨g, cap, cur, rfl, hg, hh, h1, h2, h3, h4⟩
  · exact absurd h0 hne
  · exact ⟨_, cap, g, rfl, ⟨rfl, h1, h2, ⟨cur, hh, h3, h4⟩, fun b hb _ => hgrow.block b hb (by simp)⟩, hg, ⟨hgrow.os, hgrow.tape, hgrow.output, hgrow.size, hdr⟩⟩
theorem append_nothing {T E : TypeId} {z : Value} {sz bytes : Nat} {A A2 : Option Addr} {c c2 nx : Nat} {w : World} (hT : TySlice P T E z sz bytes) (hle : nx ≤ c) :
    (Builtin.append_ #[T, T] ty #[.slice A nx c, .slice A2 0 c2]).run P w = .ok (.slice A nx c) w := by
  obtain ⟨hu, ⟨i, hi, hz, hsz, hby⟩, hzs, hp, hbp⟩ := hT
  have hf : ∀ w : World, (Builtin.firstCells i.size 0 (.slice A2 0 c2)).run P w = .ok #[] w := by
    intro w
    cases A2 <;> simp [Builtin.firstCells, loadCells, loadCellsFrom]
  cases A <;> simp [Builtin.append_, run_underlying hu, sizeOf, typeInfo, hi, Builtin.lenOf, hle, hf, storeCells]
theorem append_full {T E : TypeId} {z : Value} {sz bytes : Nat} {A A2 : Option Addr} {c2 nx ny : Nat} {os ns : List Value} {w : World} (hT : TySlice P T E z sz bytes) (hos : os.length = nx * sz) (hns : ns.length = ny * sz)
    (h1 : ∀ v ∈ ns, v.oneCell' = true) (hny : ny ≠ 0) (hsrc : ∃ b2 o2, A2 = some ⟨b2, o2, none⟩ ∧ w.rangeAt b2 o2 ns) (hroom : (nx + ny) * bytes ≤ 140737488355328) (hown : nx ≠ 0 → ∃ b o, A = some ⟨b, o, none⟩ ∧ w.rangeAt b o os) :
    ∃ w' A' c' g, (Builtin.append_ #[T, T] ty #[.slice A nx nx, .slice A2 ny c2]).run P w = .ok (.slice A' (nx + ny) c') w' ∧ Apd w w' E sz (nx + ny) (os ++ ns) A' c' g ∧ w.heap.size ≤ g ∧ Calm w w' := by
  obtain ⟨hu, ⟨i, hi, hz, hsz, hby⟩, hzs, hp, hbp⟩ := hT
  obtain ⟨b2, o2, rfl, hse⟩ := hsrc
  have hbpos : nx + ny ≤ maxLen := by
    have : nx + ny ≤ (nx + ny) * bytes := Nat.le_mul_of_pos_right _ hbp
    simp only [maxLen]; omega
  have hny' : ∀ j u, ns[j]? = some u → w.cell? ((⟨b2, o2, none⟩ : Addr).add j) = some u := fun j u hj => by rw [Addr.add_mid]; exact hse j u hj
  have key : ∃ v' w', (Builtin.append_ #[T, T] ty #[.slice A nx nx, .slice (some ⟨b2, o2, none⟩) ny c2]).run P w = .ok v' w' ∧ w'.ownsRow w.heap.size E sz v' (nx + ny) (os ++ ns) ∧ w.grownBy w' none := by
    cases A with
    | none =>
      have hx0 : nx = 0 := by
        apply Classical.byContradiction
        intro hne
        obtain ⟨_, _, e, _⟩ := hown hne
        cases e
      subst hx0
      have : os = [] := List.eq_nil_of_length_eq_zero (by simpa using hos)
      subst this
      obtain ⟨v', w', e1, e2, e3, _⟩ := run_append_own (P := P) w w.heap.size T ty E i z sz bytes hu hi hz hsz hby hzs hp (.slice none 0 0) 0 [] (World.ownsRow_nil w _ E _) ⟨b2, o2, none⟩ ny c2 ns hns hny' h1 (by simpa using hbpos) (by simpa using hroom) (Nat.le_refl _)
      exact ⟨v', w', e1, by simpa using e2, by simpa [Value.ownBlock] using e3⟩
    | some a =>
      have hold : ∀ j u, os[j]? = some u → w.cell? (a.add j) = some u := by
        intro j u hj
        by_cases hne : nx = 0
        · subst hne
          have : os = [] := List.eq_nil_of_length_eq_zero (by simpa using hos)
          subst this; simp at hj
        · obtain ⟨b, o, e, hs⟩ := hown hne
          injection e with e
          subst e
          rw [Addr.add_mid]
          exact hs j u hj
      exact run_append_arg_grows (P := P) w T ty E i z sz bytes hu hi hz hsz hby hzs hp a nx nx os hos hold ⟨b2, o2, none⟩ ny c2 ns hns hny' (by omega) hbpos hroom
  obtain ⟨v', w', e1, e2, e3⟩ := key
  obtain ⟨A', c', g, rfl, k1, k2, k3⟩ := apd_of e2 e3 (by omega) (run_drawn _ e1)
  exact ⟨w', A', c', g, e1, k1, k2, k3⟩
theorem append_row {T E : TypeId} {z : Value} {sz bytes : Nat} {A2 : Option Addr} {c c2 nx ny g : Nat} {os ns : List Value} {cur : Array Value} {w : World} (hT : TySlice P T E z sz bytes) (hos : os.length = nx * sz) (hns : ns.length = ny * sz)
    (h1 : ∀ v ∈ ns, v.oneCell' = true) (hny : ny ≠ 0) (hsrc : ∃ b2 o2, A2 = some ⟨b2, o2, none⟩ ∧ w.rangeAt b2 o2 ns) (hroom : (nx + ny) * bytes ≤ 140737488355328)
    (hh : w.heap[g]? = some (.cells cur E (0, 0))) (hc : nx ≤ c) (hmax : c ≤ maxLen) (hcs : cur.size = c * sz) (htk : cur.toList.take (nx * sz) = os) :
    ∃ w' A' c' g', (Builtin.append_ #[T, T] ty #[.slice (some ⟨g, 0, none⟩) nx c, .slice A2 ny c2]).run P w = .ok (.slice A' (nx + ny) c') w' ∧ Apd w w' E sz (nx + ny) (os ++ ns) A' c' g' ∧ (w.heap.size ≤ g' ∨ g' = g) ∧ Calm w w' ∧
      (∀ o v, o < nx * sz → w.cell? ⟨g, o, none⟩ = some v → w'.cell? ⟨g, o, none⟩ = some v) := by
  have hT' := hT
  obtain ⟨hu, ⟨i, hi, hz, hsz, hby⟩, hzs, hp, hbp⟩ := hT
  obtain ⟨b2, o2, rfl, hse⟩ := hsrc
  have hbpos : nx + ny ≤ maxLen := by
    have : nx + ny ≤ (nx + ny) * bytes := Nat.le_mul_of_pos_right _ hbp
    simp only [maxLen]; omega
  have hny' : ∀ j u, ns[j]? = some u → w.cell? ((⟨b2, o2, none⟩ : Addr).add j) = some u := fun j u hj => by rw [Addr.add_mid]; exact hse j u hj
  have hcell : ∀ o, w.cell? ⟨g, o, none⟩ = cur[o]? := fun o => by simp [World.cell?, hh]
  by_cases hroomy : nx + ny ≤ c
  · have hcl : nx * sz + ns.length ≤ cur.size := by
      rw [hns, hcs, ← Nat.add_mul]; exact Nat.mul_le_mul_right _ hroomy
    have hr := run_append_room (P := P) w T ty E i hu hi g nx c cur hh ⟨b2, o2, none⟩ ny c2 ns (by rw [hsz]; exact hns) hny' h1 hroomy (by rw [hsz]; exact hcl)
    rw [hsz] at hr
    let row := (cur.toList.take (nx * sz) ++ ns ++ cur.toList.drop (nx * sz + ns.length)).toArray
    have hrow : (w.setRow g row).heap[g]? = some (.cells row E (0, 0)) := setRow_heap w g cur row E _ hh
    have hoth : ∀ k, k ≠ g → (w.setRow g row).heap[k]? = w.heap[k]? := fun k hk => setRow_other w g k row hk
    refine ⟨w.setRow g row, some ⟨g, 0, none⟩, c, g, hr, ⟨rfl, hroomy, hmax, ⟨row, hrow, ?_, ?_⟩, fun b _ hb => hoth b hb⟩, .inr rfl, ⟨rfl, rfl, rfl, by simp [World.setRow], Nat.le_refl _⟩, fun o v ho hv => ?_⟩
    · simp only [row, List.size_toArray, List.length_append, List.length_take, List.length_drop, Array.length_toList]
      omega
    · simp only [row]
      rw [htk, Nat.add_mul, ← hns, ← hos, ← List.length_append]
      exact List.take_left
    · have e2 : (w.setRow g row).cell? ⟨g, o, none⟩ = row[o]? := by simp [World.cell?, hrow]
      have e3 : row[o]? = (cur.toList.take (nx * sz) ++ ns ++ cur.toList.drop (nx * sz + ns.length))[o]? := by simp [row]
      have hlt : o < (cur.toList.take (nx * sz)).length := by rw [htk, hos]; exact ho
      rw [e2, e3, List.append_assoc, List.getElem?_append_left hlt, List.getElem?_take_of_lt ho, Array.getElem?_toList, ← hcell, hv]
  · have hold : ∀ j u, os[j]? = some u → w.cell? ((⟨g, 0, none⟩ : Addr).add j) = some u := by
      intro j u hj
      have hj' := (List.getElem?_eq_some_iff.1 hj).1
      rw [Addr.add_mid, Nat.zero_add, hcell, ← Array.getElem?_toList, ← hj, ← htk, List.getElem?_take_of_lt (by omega)]
    obtain ⟨v', w', e1, e2, e3⟩ := run_append_arg_grows (P := P) w T ty E i z sz bytes hu hi hz hsz hby hzs hp ⟨g, 0, none⟩ nx c os hos hold ⟨b2, o2, none⟩ ny c2 ns hns hny' (by omega) hbpos hroom
    obtain ⟨A', c', g', rfl, k1, k2, k3⟩ := apd_of e2 e3 (by omega) (run_drawn _ e1)
    refine ⟨w', A', c', g', e1, k1, .inl k2, k3, fun o v ho hv => ?_⟩
    have hlt := heap_lt hh
    exact (cell_of_block (k1.old g hlt (by omega)) o).trans hv
/-- A row grows. -/
theorem own_append {α : Type} [Rp α] {T E : TypeId} {z : Value} {bytes : Nat} {xs ys : List α} {A A2 : Option Addr} {c c2 : Nat} {ow : Option Nat} {fl : Bool}
    (hown : OwnR ow fl E σ xs A c) (hsrc : Sl σ ys A2 c2) (hT : TySlice P T E z (Rp.sz α) bytes) (hroom : (xs.length + ys.length) * bytes ≤ 140737488355328) :
    ∃ τ A' c' ow', (Builtin.append_ #[T, T] ty #[.slice A xs.length c, .slice A2 ys.length c2]).run P σ.w = .ok (.slice A' (xs ++ ys).length c') τ.w ∧ Stp (fun b => ow = some b) σ τ ∧ OwnR ow' fl E τ (xs ++ ys) A' c' ∧
      ∀ g, ow' = some g → ow = some g ∨ σ.N ≤ g := by
  by_cases hys : ys = []
  · subst hys
    refine ⟨σ, A, c, ow, ?_, Stp.refl _ _, by simpa using hown, fun g h => .inl h⟩
    rw [List.append_nil]
    exact append_nothing hT hown.le.1
  have hny : ys.length ≠ 0 := fun e => hys (List.eq_nil_of_length_eq_zero e)
  obtain ⟨_, hm2, ns, hfy, haddr⟩ := hsrc
  obtain ⟨b2, o2, e2, hse⟩ := haddr hys
  have hsrc' : ∃ b2 o2, A2 = some ⟨b2, o2, none⟩ ∧ σ.w.rangeAt b2 o2 ns := ⟨b2, o2, e2, hse.2⟩
  -- the new world, told with marks
  have fin : ∀ (os : List Value) (w' : World) (A' : Option Addr) (c' g : Nat), Flat σ xs os → Apd σ.w w' E (Rp.sz α) (xs.length + ys.length) (os ++ ns) A' c' g → Calm σ.w w' → (σ.N ≤ g ∨ ow = some g) →
      (∀ g0, ow = some g0 → (σ.L g0).1 = bif fl then xs.length * Rp.sz α else 0) →
      (∀ g0, ow = some g0 → g = g0 → ∀ o v, o < xs.length * Rp.sz α → σ.w.cell? ⟨g0, o, none⟩ = some v → w'.cell? ⟨g0, o, none⟩ = some v) →
      ∃ τ : S, τ.w = w' ∧ Stp (fun b => ow = some b) σ τ ∧ OwnR (some g) fl E τ (xs ++ ys) A' c' := by
    intro os w' A' c' g hfx ha hc hg hmk hcell
    let τ : S := ⟨w', fun b => if b = g then (bif fl then (xs.length + ys.length) * Rp.sz α else 0, b) else σ.L b⟩
    have hL : ∀ b, b ≠ g → τ.L b = σ.L b := fun b hb => by simp [τ, hb]
    have hLg : (τ.L g).1 = bif fl then (xs.length + ys.length) * Rp.sz α else 0 := by simp [τ]
    have hw : Wext σ τ := by
      refine ⟨hc.size, fun b hb => ?_, fun b o v ho hv => ?_, hc.drawn⟩
      · by_cases e : b = g
        · subst e
          rcases hg with hg | hg
          · exact absurd hb (by omega)
          · rw [hmk b hg, hLg]
            cases fl
            · exact Nat.le_refl _
            · exact Nat.mul_le_mul_right _ (Nat.le_add_right _ _)
        · rw [hL b e]; exact Nat.le_refl _
      · have hlt := cell_lt hv
        by_cases e : b = g
        · subst e
          rcases hg with hg | hg
          · exact absurd hlt (by show ¬ b < σ.N; omega)
          · rw [hmk b hg] at ho
            cases fl
            · exact absurd ho (by simp)
            · exact hcell b hg rfl o v ho hv
        · exact (cell_of_block (ha.old b hlt e) o).trans hv
    obtain ⟨cur, h1, h2, h3⟩ := ha.row
    refine ⟨τ, rfl, ⟨hw, hc.os, hc.tape, hc.output, fun b hb hn => ?_⟩, cur, os ++ ns, ha.A, h1, by rw [List.length_append]; exact ha.le, ha.max, h2, (hfx.mono hw).app (hfy.mono hw), by rw [List.length_append]; exact h3, by rw [List.length_append]; exact hLg⟩
    have hbg : b ≠ g := by
      rintro rfl
      rcases hg with hg | hg
      · omega
      · exact hn hg
    exact ⟨ha.old b hb hbg, by rw [hL b hbg]⟩
  cases ow with
  | none =>
    have hfull : ∃ os, Flat σ xs os ∧ c = xs.length ∧ (xs.length ≠ 0 → ∃ b o, A = some ⟨b, o, none⟩ ∧ σ.w.rangeAt b o os) := by
      rcases hown with ⟨rfl, rfl⟩ | ⟨_, rfl, _, _, os, hfo, hao⟩
      · exact ⟨[], rfl, rfl, fun h => absurd rfl h⟩
      · exact ⟨os, hfo, rfl, fun hne => by
          obtain ⟨b, o, e, hs⟩ := hao (fun e => hne (by rw [e]; rfl))
          exact ⟨b, o, e, hs.2⟩⟩
    obtain ⟨os, hfo, rfl, hao⟩ := hfull
    obtain ⟨w', A', c', g, hr, ha, hg, hc⟩ := append_full (ty := ty) (c2 := c2) hT hfo.len hfy.len hfy.one hny hsrc' hroom hao
    obtain ⟨τ, e, hst, ho⟩ := fin os w' A' c' g hfo ha hc (.inl hg) (fun g0 h => by cases h) (fun g0 h => by cases h)
    subst e
    exact ⟨τ, A', c', some g, by rw [List.length_append]; exact hr, hst, ho, fun g' h => by cases h; exact .inr hg⟩
  | some g0 =>
    obtain ⟨cur, cs, rfl, hh, h1, h2, h3, h4, h5, h6⟩ := hown
    obtain ⟨w', A', c', g, hr, ha, hg, hc, hcell⟩ := append_row (ty := ty) (c2 := c2) hT h4.len hfy.len hfy.one hny hsrc' hroom hh h1 h2 h3 h5
    obtain ⟨τ, e, hst, ho⟩ := fin cs w' A' c' g h4 ha hc (hg.imp id (fun e => by rw [e])) (fun g1 h => by cases h; exact h6) (fun g1 h e o v ho hv => by cases h; exact hcell o v ho hv)
    subst e
    exact ⟨τ, A', c', some g, by rw [List.length_append]; exact hr, hst, ho, fun g' h => by cases h; exact hg.symm.imp (fun e => by rw [e]) id⟩
theorem r_buildSliceR {α : Type} [Rp α] {T E : TypeId} {len : Nat} {ps : List (Nat × Operand)} {z : Value} {bytes : Nat} (hT : TySlice P T E z (Rp.sz α) bytes) (xs : List α) (vs : List Value)
    (hps : ps.map (fun p => (p.1, ev F p.2)) = vs.zipIdx.map fun p => (p.2, p.1)) (hk : ps.all (fun p => opOk n p.2) = true) (hlen : len = xs.length) (hlv : vs.length = xs.length) (hpos : 0 < len) (hsmall : Nat.ble (len * Rp.sz α) 16777216 = true)
    (hsz : ∀ v ∈ vs, v.cells.size = Rp.sz α)
    (h : wpList P ops Q rest (fr n (putF F d (.slice (some ⟨σ.N, 0, none⟩) xs.length xs.length))) (σ.w.alloc (.cells (vs.flatMap (·.cells.toList)).toArray E))) :
    wpList P ops Q (⟨d, .buildSlice T len ps.toArray, ty, pos, aft, none⟩ :: rest) (fr n F) σ.w := by
  subst hlen
  obtain ⟨hu, ⟨i, hi, hz, hsi, hby⟩, hzs, hp, hbp⟩ := hT
  have hble := Nat.le_of_ble_eq_true hsmall
  refine r_value rfl (.slice (some ⟨σ.N, 0, none⟩) xs.length xs.length) (σ.w.alloc (.cells (vs.flatMap (·.cells.toList)).toArray E)) ?_ h
  have he : (ps.toArray.map fun (i, x) => (i, (fr n F).eval x)).toList = vs.zipIdx.map fun p => (p.2, p.1) := by
    rw [← hps]
    simp only [Array.toList_map]
    apply List.map_congr_left
    intro p hp'
    rw [eval_fr ((List.all_eq_true.1 hk) p hp')]
  have hfill := fill_seq (Rp.sz α) hp vs 0 (((Array.range (xs.length * Rp.sz α)).map (z.cells[· % z.cells.size]!)).toList) (by simp [hlv]) hsz
  simp only [Nat.zero_mul, List.take_zero, List.nil_append, Array.toArray_toList] at hfill
  have hnz : ¬ xs.length * Rp.sz α = 0 := by
    have := Nat.mul_pos hpos hp; omega
  show Sem.run P (do pure (Next.value (← Instr.buildSlice T xs.length (ps.toArray.map fun (i, x) => (i, (fr n F).eval x))))) σ.w = _
  have hns : ¬ (xs.length * Rp.sz α > 2 ^ 24) := by omega
  rw [hsi.symm] at hfill hnz hns
  have hrun : (Instr.buildSlice T xs.length (ps.toArray.map fun (i, x) => (i, (fr n F).eval x))).run P σ.w = .ok (.slice (some ⟨σ.N, 0, none⟩) xs.length xs.length) (σ.w.alloc (.cells (vs.flatMap (·.cells.toList)).toArray E)) := by
    unfold Instr.buildSlice
    rw [he]
    simp only [Sem.run_bind, run_underlying hu, Result.andThen_ok, sizeOf, typeInfo, run_program, hi, Sem.run_pure, if_neg hns, if_neg hnz, zeroValue, hz, hfill, newRow, run_newObj]
    rfl
  rw [Sem.run_bind, hrun]
  rfl
theorem zeros_flat (z : Array Value) (hz : 0 < z.size) : ∀ n : Nat, (Builtin.zeroCells z n).toList = (List.replicate n z.toList).flatten := by
  have hget : ∀ (k j : Nat), j < k * z.size → ((List.replicate k z.toList).flatten)[j]? = z[j % z.size]? := by
    intro k
    induction k with
    | zero => intro j hj; simp at hj
    | succ k ih =>
      intro j hj
      rw [List.replicate_succ, List.flatten_cons]
      by_cases hlt : j < z.size
      · rw [List.getElem?_append_left (by simpa using hlt), Nat.mod_eq_of_lt hlt, Array.getElem?_toList]
      · rw [List.getElem?_append_right (by simpa using Nat.le_of_not_lt hlt), Array.length_toList, ih (j - z.size) (by rw [Nat.add_mul, Nat.one_mul] at hj; omega)]
        congr 1
        exact (Nat.mod_eq_sub_mod (Nat.le_of_not_lt hlt)).symm
  intro n
  apply List.ext_getElem?
  intro j
  by_cases hj : j < n * z.size
  · rw [hget n j hj]
    have hmod : j % z.size < z.size := Nat.mod_lt _ hz
    simp [Builtin.zeroCells, hj, Array.getElem?_eq_getElem hmod, getElem!_pos z (j % z.size) hmod]
  · rw [List.getElem?_eq_none (by simp [Builtin.zeroCells]; omega), List.getElem?_eq_none (by simp; omega)]
/-- The rest of a row is cleared. -/
theorem own_clear {α : Type} [Rp α] {T E : TypeId} {z : Value} {bytes lo g k : Nat} {xs : List α} {a : α} {A : Option Addr} (hT : TySlice P T E z (Rp.sz α) bytes) (ha : Rp.cells σ a z.cells.toList) (hown : OwnR (some g) false E σ xs A k) (hlt : lo < xs.length) :
    ∃ τ, (Builtin.clear_ #[T] ty #[.slice (some ⟨g, lo * Rp.sz α, none⟩) (xs.length - lo) (k - lo)]).run P σ.w = .ok (.tuple #[]) τ.w ∧ Stp (fun b => b = g) σ τ ∧ OwnR (some g) false E τ (xs.take lo ++ List.replicate (xs.length - lo) a) A k := by
  obtain ⟨hu, ⟨i, hi, hz, hsz, hby⟩, hzs, hp, hbp⟩ := hT
  obtain ⟨cur, cs, rfl, hh, h1, h2, h3, h4, h5, h6⟩ := hown
  have hzl : z.cells.toList.length = Rp.sz α := by simpa using hzs
  let zs := (List.replicate (xs.length - lo) z.cells.toList).flatten
  have hzsl : zs.length = (xs.length - lo) * Rp.sz α := by simp [zs, hzs]
  have hz1 : ∀ v ∈ zs, v.oneCell' = true := fun v hv => by
    simp only [zs, List.mem_flatten, List.mem_replicate] at hv
    obtain ⟨l, ⟨_, rfl⟩, hv⟩ := hv
    exact Rp.one ha v hv
  have hB : Blk 0 g (can σ) g E cur.toList := ⟨Nat.zero_le _, by show σ.w.heap[g]? = _; simpa using hh, by show ((σ.L g).1, g) = _; rw [show (σ.L g).1 = 0 from h6]⟩
  have hmul : lo * Rp.sz α + (xs.length - lo) * Rp.sz α = xs.length * Rp.sz α := by rw [← Nat.add_mul]; congr 1; omega
  have hcl : cur.toList.length = k * Rp.sz α := (Array.length_toList (xs := cur)).trans h3
  have hle : lo * Rp.sz α + zs.length ≤ cur.toList.length := by
    rw [hzsl, hmul, hcl]; exact Nat.mul_le_mul_right _ h1
  have hcell : ∀ j, σ.w.cell? ⟨g, j, none⟩ = cur[j]? := fun j => by simp [World.cell?, hh]
  have hst := run_storeCells_cells (P := P) g (lo * Rp.sz α) zs 0 σ.w (fun j hj => by
      rw [Nat.add_zero, hcell]
      rw [Array.getElem?_eq_getElem (by rw [hcl] at hle; rw [h3]; omega)]; rfl) (fun j hj => by simp [World.frozen?, hh]) hz1
  rw [Nat.add_zero] at hst
  refine ⟨⟨σ.w.setCells g (lo * Rp.sz α) zs, (can σ).L⟩, ?_, stp_mod (mod_store hB _ zs), ?_⟩
  · have hn : xs.length - lo = (xs.length - lo - 1) + 1 := by omega
    have e : (Builtin.zeroCells z.cells (xs.length - lo)).toList = zs := zeros_flat z.cells (by omega) _
    unfold Builtin.clear_
    simp only [List.getElem?_toArray, List.getElem?_cons_zero, Sem.run_bind, run_underlying hu, Result.andThen_ok]
    generalize hm : xs.length - lo = m at *
    obtain ⟨m', rfl⟩ : ∃ m', m = m' + 1 := ⟨m - 1, hn⟩
    simp [zeroValue, typeInfo, hi, hz, e, hst]
  · have hsplit : xs = xs.take lo ++ xs.drop lo := (List.take_append_drop lo xs).symm
    rw [hsplit] at h4
    obtain ⟨c1, c2, e1, f1, f2⟩ := h4.split
    have hl1 : c1.length = lo * Rp.sz α := by rw [f1.len, List.length_take, Nat.min_eq_left (by omega)]
    have hw : Wext σ ⟨σ.w.setCells g (lo * Rp.sz α) zs, (can σ).L⟩ := (can_to σ).trans (mod_store hB (lo * Rp.sz α) zs).wext
    have hfz : ∀ m : Nat, Flat (⟨σ.w.setCells g (lo * Rp.sz α) zs, (can σ).L⟩ : S) (List.replicate m a) ((List.replicate m z.cells.toList).flatten) := by
      intro m
      induction m with
      | zero => rfl
      | succ m ih => exact ⟨_, _, by simp [List.replicate_succ], Rp.mono hw ha, ih⟩
    have hlen : (xs.take lo ++ List.replicate (xs.length - lo) a).length = xs.length := by simp; omega
    refine ⟨(cur.toList.take (lo * Rp.sz α) ++ zs ++ cur.toList.drop (lo * Rp.sz α + zs.length)).toArray, c1 ++ zs, rfl, setCells_heap g E zs (lo * Rp.sz α) σ.w cur.toList (by simpa using hh) hle, by rw [hlen]; exact h1, h2, ?_, (f1.mono hw).app (hfz _), ?_, ?_⟩
    · simp only [List.size_toArray, List.length_append, List.length_take, List.length_drop]
      rw [hcl] at hle ⊢
      omega
    · have e2 : cur.toList.take (lo * Rp.sz α) = c1 := by
        have : (cur.toList.take (xs.length * Rp.sz α)).take (lo * Rp.sz α) = c1 := by rw [h5, e1, ← hl1, List.take_left]
        rw [← this, List.take_take, Nat.min_eq_left (Nat.mul_le_mul_right _ (by omega))]
      rw [hlen, e2]
      have : (c1 ++ zs).length = xs.length * Rp.sz α := by rw [List.length_append, hl1, hzsl, hmul]
      rw [← this]
      exact List.take_left
    · show (σ.L g).1 = _
      exact h6
/-- A new row of zeros. -/
theorem run_mkRow {α : Type} [Rp α] {T E : TypeId} {z : Value} {bytes m : Nat} {len cap : Int} {a : α} (hT : TySlice P T E z (Rp.sz α) bytes) (ha : Rp.cells σ a z.cells.toList) (hm : mkRoom len cap bytes = some m) :
    ∃ τ k, (Instr.makeSlice T (.int .i64 len) (.int .i64 cap)).run P σ.w = .ok (.slice (some ⟨σ.N, 0, none⟩) (List.replicate m a).length k) τ.w ∧ Stp NoB σ τ ∧ OwnR (some σ.N) false E τ (List.replicate m a) (some ⟨σ.N, 0, none⟩) k := by
  obtain ⟨hu, ⟨i, hi, hz, hsz, hby⟩, hzs, hp, hbp⟩ := hT
  obtain ⟨hb, hm⟩ := bif_some hm
  cases hm
  simp only [Bool.and_eq_true, decide_eq_true_eq] at hb
  obtain ⟨⟨h0, h1⟩, h2⟩ := hb
  have hcap : cap ≤ 140737488355328 := Int.le_trans (by
    have : cap * 1 ≤ cap * (bytes : Int) := Int.mul_le_mul_of_nonneg_left (by omega) (by omega)
    omega) h2
  have hr := run_make (P := P) σ.w T E i z hu hi hz .i64 .i64 len cap h0 h1 (by rw [hby, Int.mul_comm]; omega) (by omega)
  rw [hsz] at hr
  let cs := (madeCells z.cells (cap.toNat * Rp.sz α))
  let τ : S := ⟨σ.w.alloc (.cells cs E), fun b => if b = σ.N then (0, b) else σ.L b⟩
  have hold : ∀ b, b < σ.N → τ.w.heap[b]? = σ.w.heap[b]? := fun b hb => heap_alloc_old σ.w _ hb
  have hL : ∀ b, b < σ.N → τ.L b = σ.L b := fun b hb => by simp [τ, Nat.ne_of_lt hb]
  have hw : Wext σ τ := ⟨by simp [S.N, τ], fun b hb => by rw [hL b hb]; exact Nat.le_refl _, fun b o v _ hv => (cell_of_block (hold b (cell_lt hv)) o).trans hv, Nat.le_refl _⟩
  have hlen : z.cells.toList.length = Rp.sz α := by simpa using hzs
  have hfl : ∀ k : Nat, Flat τ (List.replicate k a) ((List.replicate k z.cells.toList).flatten) := by
    intro k
    induction k with
    | zero => rfl
    | succ k ih => exact ⟨_, _, by simp [List.replicate_succ], Rp.mono hw ha, ih⟩
  have hget : ∀ (k j : Nat), j < k * Rp.sz α → ((List.replicate k z.cells.toList).flatten)[j]? = z.cells[j % Rp.sz α]? := by
    intro k
    induction k with
    | zero => intro j hj; simp at hj
    | succ k ih =>
      intro j hj
      rw [List.replicate_succ, List.flatten_cons]
      by_cases hlt : j < Rp.sz α
      · rw [List.getElem?_append_left (by omega), Nat.mod_eq_of_lt hlt, Array.getElem?_toList]
      · rw [List.getElem?_append_right (by omega), hlen, ih (j - Rp.sz α) (by rw [Nat.add_mul, Nat.one_mul] at hj; omega)]
        congr 1
        exact (Nat.mod_eq_sub_mod (Nat.le_of_not_lt hlt)).symm
  refine ⟨τ, cap.toNat, by rw [hr, List.length_replicate], ⟨hw, rfl, rfl, rfl, fun b hb _ => ⟨hold b hb, by rw [hL b hb]⟩⟩, cs, (List.replicate len.toNat z.cells.toList).flatten, rfl, heap_alloc_new _ _, by rw [List.length_replicate]; omega, by simp only [maxLen]; omega,
    size_madeCells _ _, hfl _, ?_, by simp [τ]⟩
  rw [List.length_replicate]
  apply List.ext_getElem?
  intro j
  have hle : len.toNat * Rp.sz α ≤ cap.toNat * Rp.sz α := Nat.mul_le_mul_right _ (by omega)
  by_cases hj : j < len.toNat * Rp.sz α
  · rw [List.getElem?_take_of_lt hj, hget _ _ hj, Array.getElem?_toList]
    have hmod : j % Rp.sz α < z.cells.size := by rw [hzs]; exact Nat.mod_lt _ hp
    simp only [cs, madeCells, Array.getElem?_map]
    rw [Array.getElem?_range]
    simp [show j < cap.toNat * Rp.sz α from by omega, hzs, Array.getElem?_eq_getElem hmod, getElem!_pos z.cells (j % Rp.sz α) hmod]
  · rw [List.getElem?_eq_none (by rw [List.length_take]; omega), List.getElem?_eq_none]
    rw [(hfl len.toNat).len, List.length_replicate]
    omega
end
end Go.Qx
