/- More rules of the walk: append, new slices, structs, cuts, calls, the function's frame, loops. -/
import Derived.Test.YtdipagkcdpcnbaaGreatSxRules
namespace Go.Sx
open Go Go.RowKit

section
variable {P : Program} {ops : Array Oper} {Q : Exit → Act → World → Prop} {n : Nat} {F : Fr} {rest : List Oper} {d : Option Nat} {ty : TypeId} {pos : String} {aft : Array Edge} {σ : S}

/-! ### append -/
theorem beq_false {a b : Nat} (h : a ≠ b) : Nat.beq a b = false := by
  cases hb : Nat.beq a b with
  | false => rfl
  | true => exact absurd (Nat.eq_of_beq_eq_true hb) h
/-- A new row, drawn or not, beside what was there. -/
theorem new_row {α : Type} [Rp α] {B id : Nat} {E : TypeId} {xs : List α} {cs : List Value} {w1 : World} {v : Value} (hB : B ≤ σ.N)
    (hown : w1.ownsRow σ.N E (Rp.sz α) v xs.length cs) (hgrow : σ.w.grownBy w1 none) (hfl : Flat σ xs cs) (hne : xs ≠ []) (hdr : σ.w.drawn ≤ w1.drawn) :
    ∃ τ A c, τ.w = w1 ∧ v = .slice A xs.length c ∧ Ext σ τ ∧ Own B id E τ xs A c := by
  rcases hown.2 with ⟨_, h0⟩ | ⟨g, cap, cur, rfl, hg, hh, h1, h2, h3, h4⟩
  · exact absurd (List.eq_nil_of_length_eq_zero h0) hne
  · refine ⟨⟨w1, fun b => cond (Nat.beq b g) (xs.length * Rp.sz α, id) (σ.L b)⟩, some ⟨g, 0, none⟩, cap, rfl, rfl, ?_, ?_⟩
    · refine ⟨⟨hgrow.os, hgrow.tape, hgrow.output, hgrow.size, fun k hk => hgrow.block k hk (by simp)⟩, fun b hb => ?_, hdr⟩
      have : Nat.beq b g = false := beq_false (by omega)
      simp [this]
    · have hx : Ext σ ⟨w1, fun b => cond (Nat.beq b g) (xs.length * Rp.sz α, id) (σ.L b)⟩ := by
        refine ⟨⟨hgrow.os, hgrow.tape, hgrow.output, hgrow.size, fun k hk => hgrow.block k hk (by simp)⟩, fun b hb => ?_, hdr⟩
        have : Nat.beq b g = false := beq_false (by omega)
        simp [this]
      exact .inr ⟨g, cur, cs, rfl, by omega, hh, h1, h2, h3, hfl.mono hx.wext, h4, by simp⟩
theorem mod_of_ext {B id : Nat} {σ τ : S} (h : Ext σ τ) : Mod B id σ τ := ⟨h.wext, h.below.os, h.below.tape, h.below.output, fun b hb _ => ⟨h.below.block b hb, h.mark b hb⟩⟩

theorem run_append {α : Type} [Rp α] {B id : Nat} {T E : TypeId} {z : Value} {bytes : Nat} {xs ys : List α} {A A2 : Option Addr} {c c2 : Nat}
    (hB : B ≤ σ.N) (hown : Own B id E σ xs A c) (hsrc : Sl σ ys A2 c2) (hT : TySlice P T E z (Rp.sz α) bytes) (hroom : (xs.length + ys.length) * bytes ≤ 140737488355328) :
    ∃ τ A' c', (Builtin.append_ #[T, T] ty #[.slice A xs.length c, .slice A2 ys.length c2]).run P σ.w = .ok (.slice A' (xs ++ ys).length c') τ.w ∧ Mod B id σ τ ∧ Own B id E τ (xs ++ ys) A' c' := by
  obtain ⟨hu, ⟨i, hi, hz, hsz, hby⟩, hzs, hp, hbp⟩ := hT
  have hbpos : xs.length + ys.length ≤ maxLen := by
    have : xs.length + ys.length ≤ (xs.length + ys.length) * bytes := Nat.le_mul_of_pos_right _ hbp
    simp only [maxLen]; omega
  by_cases hys : ys = []
  · -- nothing is appended
    subst hys
    refine ⟨σ, A, c, ?_, ⟨Wext.refl _, rfl, rfl, rfl, fun _ _ _ => ⟨rfl, rfl⟩⟩, by simpa using hown⟩
    have hle : xs.length ≤ c := hown.sl.1
    have hf : ∀ w : World, (Builtin.firstCells i.size 0 (.slice A2 0 c2)).run P w = .ok #[] w := by
      intro w
      cases A2 <;> simp [Builtin.firstCells, loadCells, loadCellsFrom]
    cases A <;> simp [Builtin.append_, run_underlying hu, sizeOf, typeInfo, hi, Builtin.lenOf, hle, hf, storeCells]
  · obtain ⟨_, hm2, ns, hfy, haddr⟩ := hsrc
    obtain ⟨b2, o2, rfl, hse⟩ := haddr hys
    have hny : ∀ j u, ns[j]? = some u → σ.w.cell? ((⟨b2, o2, none⟩ : Addr).add j) = some u := fun j u hj => by rw [Addr.add_mid]; exact hse.2 j u hj
    have hlen : ns.length = ys.length * Rp.sz α := hfy.len
    have hyp : 0 < ys.length := List.length_pos_iff.2 hys
    have hnn : xs ++ ys ≠ [] := by simp [hys]
    rcases hown with ⟨hcx, hsx⟩ | ⟨g, cur, cs, rfl, hg, hh, h1, h2, h3, hfx, h4, h5⟩
    · -- full: it is copied
      subst hcx
      obtain ⟨_, _, os, hfo, hao⟩ := hsx
      have hflat : Flat σ (xs ++ ys) (os ++ ns) := hfo.app hfy
      have key : ∃ v' w', (Builtin.append_ #[T, T] ty #[.slice A xs.length xs.length, .slice (some ⟨b2, o2, none⟩) ys.length c2]).run P σ.w = .ok v' w' ∧
          w'.ownsRow σ.w.heap.size E (Rp.sz α) v' (xs.length + ys.length) (os ++ ns) ∧ σ.w.grownBy w' none := by
        cases A with
        | none =>
          have hx0 : xs = [] := by
            apply Classical.byContradiction
            intro hne
            obtain ⟨_, _, e, _⟩ := hao hne
            cases e
          subst hx0
          cases hfo
          obtain ⟨v', w', e1, e2, e3, _⟩ := run_append_own (P := P) σ.w σ.w.heap.size T ty E i z (Rp.sz α) bytes hu hi hz hsz hby hzs hp (.slice none 0 0) 0 [] (World.ownsRow_nil σ.w _ E _) ⟨b2, o2, none⟩ ys.length c2 ns hlen hny hfy.one (by simpa using hbpos) (by simpa using hroom) (Nat.le_refl _)
          exact ⟨v', w', e1, by simpa using e2, by simpa [Value.ownBlock] using e3⟩
        | some a =>
          have hold : ∀ j u, os[j]? = some u → σ.w.cell? (a.add j) = some u := by
            intro j u hj
            by_cases hne : xs = []
            · subst hne; cases hfo; simp at hj
            · obtain ⟨b, o, e, hs⟩ := hao hne
              injection e with e
              subst e
              rw [Addr.add_mid]
              exact hs.2 j u hj
          exact run_append_arg_grows (P := P) σ.w T ty E i z (Rp.sz α) bytes hu hi hz hsz hby hzs hp a xs.length xs.length os hfo.len hold ⟨b2, o2, none⟩ ys.length c2 ns hlen hny (by omega) hbpos hroom
      obtain ⟨v', w', e1, e2, e3⟩ := key
      obtain ⟨τ, A', c', rfl, rfl, k1, k2⟩ := new_row (B := B) (id := id) hB (by rw [List.length_append]; exact e2) e3 hflat hnn (run_drawn _ e1)
      exact ⟨τ, A', c', e1, mod_of_ext k1, k2⟩
    · -- a row of one's own
      have hglt := heap_lt hh
      have hflat : Flat σ (xs ++ ys) (cs ++ ns) := hfx.app hfy
      have hcells : ∀ j u, cs[j]? = some u → σ.w.cell? ((⟨g, 0, none⟩ : Addr).add j) = some u := by
        intro j u hj
        have hj' := (List.getElem?_eq_some_iff.1 hj).1
        rw [hfx.len] at hj'
        rw [Addr.add_mid, Nat.zero_add]
        have : σ.w.cell? ⟨g, j, none⟩ = cur[j]? := by simp [World.cell?, hh]
        rw [this, ← Array.getElem?_toList, ← hj, ← h4, List.getElem?_take_of_lt hj']
      by_cases hroomy : xs.length + ys.length ≤ c
      · -- in place
        have hcl : xs.length * Rp.sz α + ns.length ≤ cur.size := by
          rw [hlen, h3, ← Nat.add_mul]; exact Nat.mul_le_mul_right _ hroomy
        have hr := run_append_room (P := P) σ.w T ty E i hu hi g xs.length c cur hh ⟨b2, o2, none⟩ ys.length c2 ns (by rw [hsz]; exact hlen) hny hfy.one hroomy (by rw [hsz]; exact hcl)
        rw [hsz] at hr
        let row := (cur.toList.take (xs.length * Rp.sz α) ++ ns ++ cur.toList.drop (xs.length * Rp.sz α + ns.length)).toArray
        let τ : S := ⟨σ.w.setRow g row, fun b => cond (Nat.beq b g) ((xs ++ ys).length * Rp.sz α, id) (σ.L b)⟩
        have hrow : τ.w.heap[g]? = some (.cells row E (0, 0)) := setRow_heap σ.w g cur row E _ hh
        have hoth : ∀ k, k ≠ g → τ.w.heap[k]? = σ.w.heap[k]? := fun k hk => setRow_other σ.w g k row hk
        have hL : ∀ b, b ≠ g → τ.L b = σ.L b := fun b hb => by simp [τ, beq_false hb]
        have hLg : τ.L g = ((xs ++ ys).length * Rp.sz α, id) := by simp [τ]
        have hsize : τ.N = σ.N := by simp [τ, S.N, World.setRow]
        have hw : Wext σ τ := by
          refine ⟨Nat.le_of_eq hsize.symm, fun b hb => ?_, fun b o v ho hc => ?_, Nat.le_refl _⟩
          · by_cases e : b = g
            · subst e; rw [hLg, h5, List.length_append]; exact Nat.mul_le_mul_right _ (Nat.le_add_right _ _)
            · rw [hL b e]; exact Nat.le_refl _
          · by_cases e : b = g
            · subst e
              have ho' : o < xs.length * Rp.sz α := by rw [h5] at ho; exact ho
              have e1 : σ.w.cell? ⟨b, o, none⟩ = cur[o]? := by simp [World.cell?, hh]
              have e2 : τ.w.cell? ⟨b, o, none⟩ = row[o]? := by simp [World.cell?, hrow]
              rw [e2, ← hc, e1]
              have e3 : row[o]? = (cur.toList.take (xs.length * Rp.sz α) ++ ns ++ cur.toList.drop (xs.length * Rp.sz α + ns.length))[o]? := by simp [row]
              rw [e3, List.append_assoc, List.getElem?_append_left (by simp; omega), List.getElem?_take_of_lt ho', Array.getElem?_toList]
            · exact (cell_of_block (hoth b e) o).trans hc
        refine ⟨τ, some ⟨g, 0, none⟩, c, ?_, ⟨hw, rfl, rfl, rfl, fun b hb hne => ?_⟩, .inr ⟨g, row, cs ++ ns, rfl, hg, hrow, by rw [List.length_append]; exact hroomy, h2, ?_, hflat.mono hw, ?_, hLg⟩⟩
        · rw [List.length_append]; exact hr
        · have hbg : b ≠ g := by
            rintro rfl
            rcases hne with hne | hne
            · omega
            · exact hne (by rw [h5])
          exact ⟨hoth b hbg, hL b hbg⟩
        · simp only [row, List.size_toArray, List.length_append, List.length_take, List.length_drop, Array.length_toList]
          omega
        · simp only [row]
          rw [h4, List.length_append, Nat.add_mul, ← hlen, ← hfx.len, ← List.length_append]
          exact List.take_left
      · obtain ⟨v', w', e1, e2, e3⟩ := run_append_arg_grows (P := P) σ.w T ty E i z (Rp.sz α) bytes hu hi hz hsz hby hzs hp ⟨g, 0, none⟩ xs.length c cs hfx.len hcells ⟨b2, o2, none⟩ ys.length c2 ns hlen hny (by omega) hbpos hroom
        obtain ⟨τ, A', c', rfl, rfl, k1, k2⟩ := new_row (B := B) (id := id) hB (by rw [List.length_append]; exact e2) e3 hflat hnn (run_drawn _ e1)
        exact ⟨τ, A', c', e1, mod_of_ext k1, k2⟩

theorem r_append {α : Type} [Rp α] {B id : Nat} {T E : TypeId} {x y : Operand} {z : Value} {bytes : Nat} {xs ys : List α} {A A2 : Option Addr} {c c2 : Nat}
    (hB : B ≤ σ.N) (hown : Own B id E σ xs A c) (hsrc : Sl σ ys A2 c2) (hT : TySlice P T E z (Rp.sz α) bytes) (hroom : (xs.length + ys.length) * bytes ≤ 140737488355328)
    (hx : ev F x = .slice A xs.length c) (hy : ev F y = .slice A2 ys.length c2) (hkx : opOk n x = true) (hky : opOk n y = true)
    (h : ∀ τ A' c', Mod B id σ τ → Own B id E τ (xs ++ ys) A' c' → wpList P ops Q rest (fr n (putF F d (.slice A' (xs ++ ys).length c'))) τ.w) :
    wpList P ops Q (⟨d, .call ⟨.builtin .append, #[x, y], #[T, T]⟩, ty, pos, aft, none⟩ :: rest) (fr n F) σ.w := by
  obtain ⟨τ, A', c', h1, h2, h3⟩ := run_append (ty := ty) hB hown hsrc hT hroom
  refine r_value rfl _ τ.w ?_ (h τ A' c' h2 h3)
  simp [execOp, resolve, invoke, builtin, eval_fr hkx, eval_fr hky, hx, hy, h1]

/-! ### new slices, structs -/
def fillL (pl : List (Nat × Nat)) : List Value → List (Nat × List Value) → Option (List Value)
  | cells, [] => some cells
  | cells, (i, vs) :: rest =>
    match pl[i]? with
    | none => none
    | some (off, size) => cond (Nat.beq vs.length size && Nat.ble (off + vs.length) cells.length) (fillL pl (cells.take off ++ vs ++ cells.drop (off + vs.length)) rest) none
theorem foldl_set (off : Nat) : ∀ (vs : List Value) (k : Nat) (cells : List Value), off + k + vs.length ≤ cells.length →
    (vs.zipIdx k).foldl (fun (cs : Array Value) (x : Value × Nat) => cs.setIfInBounds (off + x.2) x.1) cells.toArray = (cells.take (off + k) ++ vs ++ cells.drop (off + k + vs.length)).toArray
  | [], k, cells, h => by simp
  | v :: vs, k, cells, h => by
    simp only [List.zipIdx_cons, List.foldl_cons, List.setIfInBounds_toArray]
    rw [foldl_set off vs (k + 1) (cells.set (off + k) v) (by simp at h ⊢; omega)]
    have hl' : off + k < cells.length := by simp at h; omega
    have e1 : (cells.set (off + k) v).take (off + (k + 1)) = cells.take (off + k) ++ [v] := by
      rw [List.set_eq_take_append_cons_drop, if_pos hl', List.take_append]
      simp [List.length_take, Nat.min_eq_left (Nat.le_of_lt hl'), List.take_of_length_le, Nat.add_sub_add_left]
    have e2 : (cells.set (off + k) v).drop (off + (k + 1) + vs.length) = cells.drop (off + k + (v :: vs).length) := by
      rw [List.drop_set_of_lt (by omega)]
      congr 1
      simp; omega
    rw [e1, e2]
    simp
theorem fill_of (pl : List (Nat × Nat)) : ∀ (parts : List (Nat × Value)) (cells out : List Value), fillL pl cells (parts.map fun p => (p.1, p.2.cells.toList)) = some out →
    Instr.fill (pl.toArray[·]?) cells.toArray parts = some out.toArray
  | [], cells, out, h => by simp only [List.map_nil, fillL, Option.some.injEq] at h; rw [h]; rfl
  | (i, v) :: rest, cells, out, h => by
    simp only [List.map_cons, fillL] at h
    cases hp : pl[i]? with
    | none => rw [hp] at h; cases h
    | some q =>
      obtain ⟨off, size⟩ := q
      rw [hp] at h
      simp only at h
      cases hb : (Nat.beq v.cells.toList.length size && Nat.ble (off + v.cells.toList.length) cells.length) with
      | false => rw [hb] at h; cases h
      | true =>
        rw [hb] at h
        simp only [cond_true] at h
        obtain ⟨h1, h2⟩ := Bool.and_eq_true_iff.1 hb
        have h1' := Nat.eq_of_beq_eq_true h1
        have h2' := Nat.le_of_ble_eq_true h2
        have hsz : v.cells.size = size := by simpa using h1'
        have hn : ¬ (v.cells.size ≠ size || decide (off + v.cells.size > cells.toArray.size)) = true := by
          simp at h2' ⊢; omega
        have hf := foldl_set off v.cells.toList 0 cells (by simpa using h2')
        have ha : v.cells.zipIdx.foldl (fun (cs : Array Value) (x : Value × Nat) => cs.setIfInBounds (off + x.2) x.1) cells.toArray = (cells.take off ++ v.cells.toList ++ cells.drop (off + v.cells.toList.length)).toArray := by
          rw [← Array.foldl_toList, Array.toList_zipIdx]
          simpa using hf
        have := fill_of pl rest _ out h
        simp only [Instr.fill, List.getElem?_toArray, hp]
        rw [if_neg (by simpa using hn)]
        rw [← this, ← ha]
        congr 1
        funext x
        exact List.getElem?_toArray.symm
def TyStruct (P : Program) (T : TypeId) (pl : List (Nat × Nat)) (zs : List Value) : Prop :=
  ∃ fs i z, P.underlying T = some (.struct fs) ∧ P.info? T = some i ∧ i.zero = some z ∧ z.cells = zs.toArray ∧ fs.toList.mapM (fun f => (P.info? f.type).map fun i => (f.offset, i.size)) = some pl
theorem tyStruct_mk {P : Program} {T : TypeId} {pl : List (Nat × Nat)} {zs : List Value} {fs : Array Field} {z : Value} (h1 : P.underlying T = some (.struct fs)) (h2 : (P.info? T).map (·.zero) = some (some z)) (h3 : z.cells = zs.toArray)
    (h4 : fs.toList.mapM (fun f => (P.info? f.type).map fun i => (f.offset, i.size)) = some pl) : TyStruct P T pl zs := by
  cases hi : P.info? T with
  | none => rw [hi] at h2; cases h2
  | some i => rw [hi] at h2; simp at h2; exact ⟨fs, i, z, h1, hi, h2, h3, h4⟩
theorem r_build {T : TypeId} {ps : List (Nat × Operand)} {w : World} {pl : List (Nat × Nat)} {zs : List Value} (hT : TyStruct P T pl zs) (vs : List (Nat × Value)) (cs : List Value)
    (hps : ps.map (fun p => (p.1, ev F p.2)) = vs) (hk : ps.all (fun p => opOk n p.2) = true) (hf : fillL pl zs (vs.map fun p => (p.1, p.2.cells.toList)) = some cs)
    (h : wpList P ops Q rest (fr n (putF F d (.agg cs.toArray))) w) :
    wpList P ops Q (⟨d, .build T ps.toArray, ty, pos, aft, none⟩ :: rest) (fr n F) w := by
  refine r_value rfl (.agg cs.toArray) w ?_ h
  obtain ⟨fs, i, z, h1, h2, h3, h4, h5⟩ := hT
  have he : (ps.toArray.map fun (i, x) => (i, (fr n F).eval x)).toList = vs := by
    rw [← hps]
    simp only [Array.toList_map]
    apply List.map_congr_left
    intro p hp
    rw [eval_fr ((List.all_eq_true.1 hk) p hp)]
  have hb : P.built T vs = some cs.toArray := by
    simp only [Program.built, h2, h1, h3, h5, h4]
    exact fill_of pl vs zs cs hf
  have hr := run_build (P := P) w T (ps.toArray.map fun (i, x) => (i, (fr n F).eval x)) cs.toArray (by rw [he, hb])
  show Sem.run P (do pure (Next.value (← Instr.build T (ps.toArray.map fun (i, x) => (i, (fr n F).eval x))))) w = _
  rw [Sem.run_bind, hr]
  rfl
/-- The parts of a slice's literal, each element once, in order: their cells one behind the other. -/
theorem fill_seq (sz : Nat) (hsz : 0 < sz) : ∀ (vs : List Value) (k : Nat) (cells : List Value), cells.length = (k + vs.length) * sz → (∀ v ∈ vs, v.cells.size = sz) →
    Instr.fill (fun i => some (i * sz, sz)) cells.toArray ((vs.zipIdx k).map fun p => (p.2, p.1)) = some (cells.take (k * sz) ++ vs.flatMap (·.cells.toList)).toArray
  | [], k, cells, hl, hv => by
    simp only [List.zipIdx_nil, List.map_nil, Instr.fill, List.flatMap_nil, List.append_nil, List.length_nil, Nat.add_zero] at hl ⊢
    rw [← hl, List.take_length]
  | v :: vs, k, cells, hl, hv => by
    have hs : v.cells.size = sz := hv v (by simp)
    have hle : k * sz + v.cells.toList.length ≤ cells.length := by
      rw [hl, Array.length_toList, hs, List.length_cons, Nat.add_mul, Nat.add_mul]; omega
    have hf := foldl_set (k * sz) v.cells.toList 0 cells (by simpa using hle)
    have ha : v.cells.zipIdx.foldl (fun (cs : Array Value) (x : Value × Nat) => cs.setIfInBounds (k * sz + x.2) x.1) cells.toArray = (cells.take (k * sz) ++ v.cells.toList ++ cells.drop (k * sz + v.cells.toList.length)).toArray := by
      rw [← Array.foldl_toList, Array.toList_zipIdx]
      simpa using hf
    have ih := fill_seq sz hsz vs (k + 1) (cells.take (k * sz) ++ v.cells.toList ++ cells.drop (k * sz + v.cells.toList.length)) (by
      simp only [List.length_append, List.length_take, List.length_drop, Array.length_toList, hs] at hle ⊢
      rw [Nat.min_eq_left (by omega), hl]
      simp only [List.length_cons, Nat.add_mul, Nat.one_mul] at hl hle ⊢
      omega) (fun u hu => hv u (by simp [hu]))
    simp only [List.zipIdx_cons, List.map_cons, Instr.fill]
    rw [if_neg (by simp at hle ⊢; omega)]
    have e : (cells.take (k * sz) ++ v.cells.toList ++ cells.drop (k * sz + v.cells.toList.length)).take ((k + 1) * sz) = cells.take (k * sz) ++ v.cells.toList := by
      have hl2 : (cells.take (k * sz) ++ v.cells.toList).length = (k + 1) * sz := by
        simp only [List.length_append, List.length_take, Array.length_toList, hs, Nat.add_mul, Nat.one_mul] at hle ⊢
        omega
      rw [← hl2]; exact List.take_left
    rw [e] at ih
    simp only [List.flatMap_cons, ← List.append_assoc]
    rw [← ih]
    congr 1
theorem r_buildSlice {α : Type} [Rp α] {T E : TypeId} {len : Nat} {ps : List (Nat × Operand)} {z : Value} {bytes B : Nat} (id : Nat) (hB : B ≤ σ.N) (hT : TySlice P T E z (Rp.sz α) bytes) (xs : List α) (vs : List Value)
    (hps : ps.map (fun p => (p.1, ev F p.2)) = vs.zipIdx.map fun p => (p.2, p.1)) (hk : ps.all (fun p => opOk n p.2) = true) (hlen : len = xs.length) (hlv : vs.length = xs.length) (hpos : 0 < len) (hsmall : Nat.ble (len * Rp.sz α) 16777216 = true)
    (hsz : ∀ v ∈ vs, v.cells.size = Rp.sz α) (hfl : Flat σ xs (vs.flatMap (·.cells.toList)))
    (h : ∀ τ A c, Ext σ τ → Own B id E τ xs A c → wpList P ops Q rest (fr n (putF F d (.slice A xs.length c))) τ.w) :
    wpList P ops Q (⟨d, .buildSlice T len ps.toArray, ty, pos, aft, none⟩ :: rest) (fr n F) σ.w := by
  subst hlen
  obtain ⟨hu, ⟨i, hi, hz, hsi, hby⟩, hzs, hp, hbp⟩ := hT
  have hne : xs ≠ [] := List.length_pos_iff.1 hpos
  let cs := vs.flatMap (·.cells.toList)
  let τ : S := ⟨σ.w.alloc (.cells cs.toArray E), fun b => cond (Nat.beq b σ.N) (xs.length * Rp.sz α, id) (σ.L b)⟩
  have hext : Ext σ τ := ext_alloc σ _ _
  have hcs : cs.length = xs.length * Rp.sz α := hfl.len
  have hble := Nat.le_of_ble_eq_true hsmall
  have hmax : xs.length ≤ maxLen := by
    have : xs.length ≤ xs.length * Rp.sz α := Nat.le_mul_of_pos_right _ hp
    simp only [maxLen]; omega
  have hown : Own B id E τ xs (some ⟨σ.N, 0, none⟩) xs.length :=
    .inr ⟨σ.N, cs.toArray, cs, rfl, hB, heap_alloc_new _ _, Nat.le_refl _, hmax, by simpa using hcs, hfl.mono hext.wext, by rw [← hcs]; exact List.take_length, by simp [τ]⟩
  refine r_value rfl (.slice (some ⟨σ.N, 0, none⟩) xs.length xs.length) τ.w ?_ (h τ _ _ hext hown)
  have he : (ps.toArray.map fun (i, x) => (i, (fr n F).eval x)).toList = vs.zipIdx.map fun p => (p.2, p.1) := by
    rw [← hps]
    simp only [Array.toList_map]
    apply List.map_congr_left
    intro p hp'
    rw [eval_fr ((List.all_eq_true.1 hk) p hp')]
  have hfill := fill_seq (Rp.sz α) hp vs 0 (((Array.range (xs.length * Rp.sz α)).map (z.cells[· % z.cells.size]!)).toList) (by simp [hlv]) hsz
  simp only [Nat.zero_mul, List.take_zero, List.nil_append, Array.toArray_toList] at hfill
  have hnz : ¬ xs.length * Rp.sz α = 0 := by
    have := Nat.mul_pos hpos hp; omega
  show Sem.run P (do pure (Next.value (← Instr.buildSlice T xs.length (ps.toArray.map fun (i, x) => (i, (fr n F).eval x))))) σ.w = _
  have hns : ¬ (xs.length * Rp.sz α > 2 ^ 24) := by omega
  rw [hsi.symm] at hfill hnz hns
  have hrun : (Instr.buildSlice T xs.length (ps.toArray.map fun (i, x) => (i, (fr n F).eval x))).run P σ.w = .ok (.slice (some ⟨σ.N, 0, none⟩) xs.length xs.length) τ.w := by
    unfold Instr.buildSlice
    rw [he]
    simp only [Sem.run_bind, run_underlying hu, Result.andThen_ok, sizeOf, typeInfo, run_program, hi, Sem.run_pure, if_neg hns, if_neg hnz, zeroValue, hz, hfill, newRow, run_newObj]
    rfl
  rw [Sem.run_bind, hrun]
  rfl
/-! ### cuts -/
theorem r_slice {T : TypeId} {x : Operand} {lo hi mx : Option Operand} {w : World} (a v : Value) (l h' m : Option Value) (hx : ev F x = a) (hkx : opOk n x = true)
    (hl : lo.map (ev F) = l) (hh : hi.map (ev F) = h') (hm : mx.map (ev F) = m) (hk : (lo.all (opOk n) && hi.all (opOk n) && mx.all (opOk n)) = true)
    (hr : Runs P w (Instr.sliceAt T a l h' m) v) (h : wpList P ops Q rest (fr n (putF F d v)) w) :
    wpList P ops Q (⟨d, .slice T x lo hi mx, ty, pos, aft, none⟩ :: rest) (fr n F) w :=
  r_value rfl v w (by
    have e : ∀ o : Option Operand, o.all (opOk n) = true → o.map (fr n F).eval = o.map (ev F) := by
      intro o ho
      cases o with
      | none => rfl
      | some q => simp at ho; simp [eval_fr ho]
    obtain ⟨h12, h3⟩ := Bool.and_eq_true_iff.1 hk
    obtain ⟨h1, h2⟩ := Bool.and_eq_true_iff.1 h12
    show Sem.run P (do pure (Next.value (← Instr.sliceAt T ((fr n F).eval x) (lo.map (fr n F).eval) (hi.map (fr n F).eval) (mx.map (fr n F).eval)))) w = _
    rw [eval_fr hkx, hx, e lo h1, e hi h2, e mx h3, hl, hh, hm, Sem.run_bind, hr]; rfl) h

/-! ### calls -/
def HasBody (P : Program) (f : FuncId) : Prop := ∃ fn c, P.funcs[f]? = some fn ∧ fn.body = some c ∧ (fn.name == "runtime.NumGoroutine") = false
/-- A call of the function that comes back, with a value and a world that meet R; what was there before is untouched. -/
def Ctr (P : Program) (f : FuncId) (vs : List Value) (σ : S) (R : Value → S → Prop) : Prop :=
  HasBody P f ∧ Calls P f vs.toArray σ.w fun e w' => ∃ v τ, e = .returned v ∧ τ.w = w' ∧ Ext σ τ ∧ R v τ
theorem Ctr.mono {f : FuncId} {vs : List Value} {R R' : Value → S → Prop} (h : Ctr P f vs σ R) (k : ∀ v τ, Ext σ τ → R v τ → R' v τ) : Ctr P f vs σ R' :=
  ⟨h.1, h.2.mono fun _ _ ⟨v, τ, e, hw, he, hr⟩ => ⟨v, τ, e, hw, he, k v τ he hr⟩⟩
theorem wp_enter {f : FuncId} {as : List Value} {R : Value → S → Prop} {o : Oper} {a : Act} {K : Act → World → Prop} (hc : Ctr P f as σ R)
    (hrun : (execOp a.eval o).run P σ.w = (callFunc f as.toArray).run P σ.w) (h : ∀ v τ, Ext σ τ → R v τ → K (a.put o.dst v) τ.w) : o.wp P a σ.w K Q := by
  obtain ⟨⟨fn, c, h1, h2, h3⟩, hcalls⟩ := hc
  unfold Oper.wp
  have h3' : fn.name ≠ "runtime.NumGoroutine" := by simpa using h3
  have : (callFunc f as.toArray).run P σ.w = .ok (.enter f as.toArray) σ.w := by
    simp [callFunc, h1, h2, h3']
  rw [hrun, this, Oper.upon_enter]
  refine hcalls.mono fun e w' ⟨v, τ, he, hw, hx, hr⟩ => ?_
  subst he
  subst hw
  exact h v τ hx hr
theorem r_call {f : FuncId} {xs : List Operand} {ats : Array TypeId} (vs : List Value) {R : Value → S → Prop} (hvs : xs.map (ev F) = vs) (hk : xs.all (opOk n) = true) (hc : Ctr P f vs σ R)
    (h : ∀ v τ, Ext σ τ → R v τ → wpList P ops Q rest (fr n (putF F d v)) τ.w) :
    wpList P ops Q (⟨d, .call ⟨.value (.func f), xs.toArray, ats⟩, ty, pos, aft, none⟩ :: rest) (fr n F) σ.w :=
  wpList_plain rfl fun K hK => wp_enter hc (by
    have he : xs.toArray.map (fr n F).eval = vs.toArray := by
      rw [← hvs]
      simp only [List.map_toArray]
      congr 1
      exact List.map_congr_left fun x hx => eval_fr ((List.all_eq_true.1 hk) x hx)
    simp [execOp, resolve, Act.eval, Deferred.ofValue, invoke, he]) (fun v τ hx hr => by rw [put_fr]; exact hK _ _ (h v τ hx hr))
/-- A call of a function value: 'first' are a method value's receiver, 'capt' what a closure holds. -/
theorem r_callv {t : Tmp} {f : FuncId} {first capt : List Value} {xs : List Operand} {ats : Array TypeId} (vs : List Value) {R : Value → S → Prop} (ht : F t = .func (.func f) first.toArray capt.toArray) (hkt : Nat.blt t n = true)
    (hvs : xs.map (ev F) = vs) (hk : xs.all (opOk n) = true) (hc : Ctr P f (first ++ vs ++ capt) σ R)
    (h : ∀ v τ, Ext σ τ → R v τ → wpList P ops Q rest (fr n (putF F d v)) τ.w) :
    wpList P ops Q (⟨d, .call ⟨.value (.tmp t), xs.toArray, ats⟩, ty, pos, aft, none⟩ :: rest) (fr n F) σ.w :=
  wpList_plain rfl fun K hK => wp_enter hc (by
    have he : xs.toArray.map (fr n F).eval = vs.toArray := by
      rw [← hvs]
      simp only [List.map_toArray]
      congr 1
      exact List.map_congr_left fun x hx => eval_fr ((List.all_eq_true.1 hk) x hx)
    have ht' : (fr n F).eval (.tmp t) = .func (.func f) first.toArray capt.toArray := by rw [eval_fr (x := .tmp t) hkt]; exact ht
    simp [execOp, resolve, ht', Deferred.ofValue, invoke, he]) (fun v τ hx hr => by rw [put_fr]; exact hK _ _ (h v τ hx hr))
theorem r_makeFunc {fn : Fn} {xs ys : List Operand} {w : World} (as bs : List Value) (ha : xs.map (ev F) = as) (hb : ys.map (ev F) = bs) (hk : (xs.all (opOk n) && ys.all (opOk n)) = true)
    (h : wpList P ops Q rest (fr n (putF F d (.func fn as.toArray bs.toArray))) w) :
    wpList P ops Q (⟨d, .makeFunc fn xs.toArray ys.toArray, ty, pos, aft, none⟩ :: rest) (fr n F) w :=
  r_value rfl (.func fn as.toArray bs.toArray) w (by
    obtain ⟨h1, h2⟩ := Bool.and_eq_true_iff.1 hk
    have e : ∀ (l : List Operand), l.all (opOk n) = true → l.toArray.map (fr n F).eval = (l.map (ev F)).toArray := by
      intro l hl
      simp only [List.map_toArray]
      congr 1
      exact List.map_congr_left fun x hx => eval_fr ((List.all_eq_true.1 hl) x hx)
    simp [execOp, Instr.makeFunc, e xs h1, e ys h2, ha, hb]) h

/-! ### the function's frame -/
def initF (vs : List Value) : Fr := fun i => vs.getD i undef
theorem ctr_of {f : FuncId} {fn : Func} {c : Code} {vs : List Value} {R : Value → S → Prop} (nt : Nat) (hf : P.funcs[f]? = some fn) (hb : fn.body = some c) (hname : (fn.name == "runtime.NumGoroutine") = false) (hn : fn.ntmps = nt) (hle : Nat.ble vs.length nt = true)
    (h : c.wp P (bodyPost P fn fun e w' => ∃ v τ, e = .returned v ∧ τ.w = w' ∧ Ext σ τ ∧ R v τ) (fr nt (initF vs)) σ.w) : Ctr P f vs σ R := by
  refine ⟨⟨fn, c, hf, hb, hname⟩, calls_of_wp hf hb ?_⟩
  have hle' := Nat.le_of_ble_eq_true hle
  have e : (⟨vs.toArray ++ Array.replicate (fn.ntmps - vs.toArray.size) undef, []⟩ : Act) = fr nt (initF vs) := by
    rw [hn]
    simp only [fr]
    congr 1
    apply Array.ext
    · simp; omega
    · intro i h1 h2
      simp only [Array.getElem_ofFn, initF, Array.getElem_append]
      split
      · rename_i hi; simp at hi; simp [List.getD, List.getElem?_eq_getElem hi]
      · rename_i hi; simp at hi; simp [List.getD, List.getElem?_eq_none hi]
  rw [e]
  exact h
def ResV (P : Program) (n : Nat) (F : Fr) (w : World) : ResultVar → Value → Prop
  | .tmp t, v => Nat.blt t n = true ∧ F t = v
  | .cell t T, v => Nat.blt t n = true ∧ ∃ b, F t = .pointer (some ⟨b, 0, none⟩) ∧ Runs P w (loadVar T ⟨b, 0, none⟩) v
def rdRes (tmps : Array Value) : ResultVar → Sem Value
  | .tmp t => pure (tmps.getD t undef)
  | .cell a t => do loadVar t (← asAddr (tmps.getD a undef))
theorem results_eq (fn : Func) (tmps : Array Value) : results fn tmps = (do
    let vs ← fn.results.mapM (rdRes tmps)
    pure (if h : vs.size = 1 then vs[0] else .tuple vs)) := by
  have e : (rdRes tmps) = (fun | .tmp t => pure (tmps.getD t undef) | .cell a t => do loadVar t (← asAddr (tmps.getD a undef))) := by
    funext r; cases r <;> rfl
  rw [e]; rfl
theorem run_resV {w : World} {r : ResultVar} {v : Value} (h : ResV P n F w r v) : (rdRes (fr n F).tmps r).run P w = .ok v w := by
  cases r with
  | tmp t => obtain ⟨h1, h2⟩ := h; show Sem.run P (pure _) w = _; rw [fr_getD h1, h2]; rfl
  | cell t T =>
    obtain ⟨h1, b, h2, h3⟩ := h
    have h3' : (loadVar T ⟨b, 0, none⟩).run P w = .ok v w := h3
    show Sem.run P (do loadVar T (← asAddr ((fr n F).tmps.getD t undef))) w = _
    rw [fr_getD h1, h2]
    simp [asAddr, h3']
theorem ret_one {fn : Func} {R : Value → S → Prop} {r1 : ResultVar} {τ : S} (v : Value) (hr : fn.results = #[r1]) (h1 : ResV P n F τ.w r1 v) (hx : Ext σ τ) (h : R v τ) :
    bodyPost P fn (fun e w' => ∃ v τ, e = .returned v ∧ τ.w = w' ∧ Ext σ τ ∧ R v τ) .ret (fr n F) τ.w :=
  ⟨rfl, v, by
    have e1 := run_resV h1
    rw [results_eq, hr]
    simp only [List.mapM_toArray, List.mapM_cons, List.mapM_nil, Sem.run_bind, Sem.run_map, e1, Result.andThen_ok, Sem.run_pure]
    rfl, v, τ, rfl, rfl, hx, h⟩
theorem ret_two {fn : Func} {R : Value → S → Prop} {r1 r2 : ResultVar} {τ : S} (v1 v2 : Value) (hr : fn.results = #[r1, r2]) (h1 : ResV P n F τ.w r1 v1) (h2 : ResV P n F τ.w r2 v2) (hx : Ext σ τ) (h : R (.tuple #[v1, v2]) τ) :
    bodyPost P fn (fun e w' => ∃ v τ, e = .returned v ∧ τ.w = w' ∧ Ext σ τ ∧ R v τ) .ret (fr n F) τ.w :=
  ⟨rfl, .tuple #[v1, v2], by
    have e1 := run_resV h1
    have e2 := run_resV h2
    rw [results_eq, hr]
    simp only [List.mapM_toArray, List.mapM_cons, List.mapM_nil, Sem.run_bind, Sem.run_map, e1, e2, Result.andThen_ok, Sem.run_pure]
    rfl, _, τ, rfl, rfl, hx, h⟩

/-! ### loops -/
inductive Fl (α β : Type) where
  | next (a : α)
  | done (b : β)
def iter {α β : Type} (step : α → Option (Fl α β)) : Nat → α → Option β
  | 0, _ => none
  | k + 1, s => (step s).bind fun | .next s' => iter step k s' | .done b => some b
theorem wp_iter {α β : Type} {body : Code} {step : α → Option (Fl α β)} (Inv : α → Act → World → Prop) (Post : β → Exit → Act → World → Prop) (hno : ∀ b a w, ¬ Post b .normal a w)
    (hbody : ∀ s fl a w, step s = some fl → Inv s a w → body.wp P (fun e a' w' => match fl with | .next s' => e = .normal ∧ Inv s' a' w' | .done b => Post b e a' w') a w) :
    ∀ (k : Nat) (s : α) (b : β) (a : Act) (w : World), iter step k s = some b → Inv s a w → (Code.loop body).wp P (Post b) a w := by
  have key : ∀ (k : Nat) (s : α) (b : β) (a : Act) (w : World), iter step k s = some b → Inv s a w → Code.rounds P body (Post b) k a w := by
    intro k
    induction k with
    | zero => intro s b a w h; cases h
    | succ k ih =>
      intro s b a w h hI
      simp only [iter] at h
      cases hs : step s with
      | none => rw [hs] at h; cases h
      | some fl =>
        rw [hs] at h
        have hb := hbody s fl a w hs hI
        show body.wp P (Exit.then (Code.rounds P body (Post b) k) (Post b)) a w
        refine wp_mono hb fun e a' w' hp => ?_
        cases fl with
        | next s' =>
          obtain ⟨rfl, hI'⟩ := hp
          exact ih s' b a' w' h hI'
        | done b' =>
          simp only [Option.bind_some, Option.some.injEq] at h
          subst h
          cases e <;> first | exact absurd hp (hno _ _ _) | exact hp
  exact fun k s b a w h hI => wp_loop_rounds k (key k s b a w h hI)

end
end Go.Sx
