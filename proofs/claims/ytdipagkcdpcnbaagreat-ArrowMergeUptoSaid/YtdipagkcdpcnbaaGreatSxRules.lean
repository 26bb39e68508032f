/- The rules of the walk over frames as functions and worlds with marks, over any program. -/
import Derived.Test.YtdipagkcdpcnbaaGreatSxBase
namespace Go.Sx
open Go Go.RowKit

section
variable {P : Program} {ops : Array Oper} {Q : Exit → Act → World → Prop} {n : Nat} {F : Fr} {rest : List Oper} {d : Option Nat} {ty : TypeId} {pos : String} {aft : Array Edge} {σ : S}

/-- Any operation whose run is known. -/
theorem r_value {o : Oper} (hg : o.guard = none) (v : Value) (w' : World) {w : World} (hrun : (execOp (fr n F).eval o).run P w = .ok (.value v) w')
    (h : wpList P ops Q rest (fr n (putF F o.dst v)) w') : wpList P ops Q (o :: rest) (fr n F) w :=
  wpList_plain hg fun K hK => by unfold Oper.wp; rw [hrun]; exact hK _ _ (by rw [put_fr]; exact h)
theorem r_unit {o : Oper} (hg : o.guard = none) (w' : World) {w : World} (hrun : (execOp (fr n F).eval o).run P w = .ok .skip w')
    (h : wpList P ops Q rest (fr n (putF F o.dst undef)) w') : wpList P ops Q (o :: rest) (fr n F) w :=
  wpList_plain hg fun K hK => by unfold Oper.wp; rw [hrun]; exact hK _ _ (by rw [put_fr]; exact h)

theorem r_move {x : Operand} {w : World} (v : Value) (hx : ev F x = v) (hk : opOk n x = true) (h : wpList P ops Q rest (fr n (putF F d v)) w) :
    wpList P ops Q (⟨d, .move x, ty, pos, aft, none⟩ :: rest) (fr n F) w :=
  r_value rfl v w (by show Sem.run P (pure _) w = _; rw [eval_fr hk, hx]; rfl) h
theorem r_assign {x : Operand} {w : World} (v : Value) (hx : ev F x = v) (hk : opOk n x = true) (h : wpList P ops Q rest (fr n (putF F d v)) w) :
    wpList P ops Q (⟨d, .assign x, ty, pos, aft, none⟩ :: rest) (fr n F) w :=
  r_value rfl v w (by show Sem.run P (pure _) w = _; rw [eval_fr hk, hx]; rfl) h

/-- An operation that gives a value and leaves the world. -/
def Runs (P : Program) (w : World) (s : Sem Value) (v : Value) : Prop := s.run P w = .ok v w
theorem r_bin {bop : BinOp} {xt yt : TypeId} {x y : Operand} {w : World} (a b v : Value) (hx : ev F x = a) (hy : ev F y = b) (hkx : opOk n x = true) (hky : opOk n y = true)
    (hr : Runs P w (do eqGuard bop xt x y a b; binOp bop xt a b) v) (h : wpList P ops Q rest (fr n (putF F d v)) w) :
    wpList P ops Q (⟨d, .binOp bop xt x y yt, ty, pos, aft, none⟩ :: rest) (fr n F) w :=
  r_value rfl v w (by
    show Sem.run P (do pure (Next.value (← (do eqGuard bop xt x y ((fr n F).eval x) ((fr n F).eval y); binOp bop xt ((fr n F).eval x) ((fr n F).eval y))))) w = _
    rw [eval_fr hkx, eval_fr hky, hx, hy, Sem.run_bind, hr]; rfl) h
theorem r_un {uop : UnOp} {xt : TypeId} {x : Operand} {w : World} (a v : Value) (hx : ev F x = a) (hkx : opOk n x = true)
    (hr : Runs P w (Op.unary uop a) v) (h : wpList P ops Q rest (fr n (putF F d v)) w) :
    wpList P ops Q (⟨d, .unOp uop xt x, ty, pos, aft, none⟩ :: rest) (fr n F) w :=
  r_value rfl v w (by show Sem.run P (do pure (Next.value (← Op.unary uop ((fr n F).eval x)))) w = _; rw [eval_fr hkx, hx, Sem.run_bind, hr]; rfl) h
theorem r_convert {src dst : TypeId} {x : Operand} {w : World} (a v : Value) (hx : ev F x = a) (hkx : opOk n x = true)
    (hr : Runs P w (convert src dst a) v) (h : wpList P ops Q rest (fr n (putF F d v)) w) :
    wpList P ops Q (⟨d, .convert src dst x, ty, pos, aft, none⟩ :: rest) (fr n F) w :=
  r_value rfl v w (by show Sem.run P (do pure (Next.value (← convert src dst ((fr n F).eval x)))) w = _; rw [eval_fr hkx, hx, Sem.run_bind, hr]; rfl) h
theorem r_load {t : TypeId} {x : Operand} {w : World} (b o : Nat) (v : Value) (hx : ev F x = .pointer (some ⟨b, o, none⟩)) (hkx : opOk n x = true)
    (hr : Runs P w (loadVar t ⟨b, o, none⟩) v) (h : wpList P ops Q rest (fr n (putF F d v)) w) :
    wpList P ops Q (⟨d, .load t x, ty, pos, aft, none⟩ :: rest) (fr n F) w :=
  r_value rfl v w (by
    show Sem.run P (do pure (Next.value (← Instr.loadAt t ((fr n F).eval x)))) w = _
    rw [eval_fr hkx, hx]
    simp only [Instr.loadAt, Instr.sureAddr, Sem.run_bind, Sem.run_pure, Result.andThen_ok]
    rw [hr]; rfl) h
theorem r_index {t : TypeId} {x y : Operand} {w : World} (a b v : Value) (hx : ev F x = a) (hy : ev F y = b) (hkx : opOk n x = true) (hky : opOk n y = true)
    (hr : Runs P w (Instr.index t a b) v) (h : wpList P ops Q rest (fr n (putF F d v)) w) :
    wpList P ops Q (⟨d, .index t x y, ty, pos, aft, none⟩ :: rest) (fr n F) w :=
  r_value rfl v w (by show Sem.run P (do pure (Next.value (← Instr.index t ((fr n F).eval x) ((fr n F).eval y)))) w = _; rw [eval_fr hkx, eval_fr hky, hx, hy, Sem.run_bind, hr]; rfl) h
theorem r_field {t : TypeId} {x : Operand} {k : Nat} {w : World} (a v : Value) (hx : ev F x = a) (hkx : opOk n x = true)
    (hr : Runs P w (Instr.field t a k) v) (h : wpList P ops Q rest (fr n (putF F d v)) w) :
    wpList P ops Q (⟨d, .field t x k, ty, pos, aft, none⟩ :: rest) (fr n F) w :=
  r_value rfl v w (by show Sem.run P (do pure (Next.value (← Instr.field t ((fr n F).eval x) k))) w = _; rw [eval_fr hkx, hx, Sem.run_bind, hr]; rfl) h
theorem r_extract {x : Operand} {k : Nat} {w : World} (vs : List Value) (v : Value) (hx : ev F x = .tuple vs.toArray) (hkx : opOk n x = true)
    (hv : vs[k]? = some v) (h : wpList P ops Q rest (fr n (putF F d v)) w) :
    wpList P ops Q (⟨d, .extract x k, ty, pos, aft, none⟩ :: rest) (fr n F) w :=
  r_value rfl v w (by
    show Sem.run P (do pure (Next.value (← Instr.extract ((fr n F).eval x) k))) w = _
    rw [eval_fr hkx, hx]
    simp [Instr.extract, hv]) h
theorem r_pick {x y z : Operand} {w : World} (c : Bool) (v : Value) (hx : ev F x = .bool c) (hv : ev F (if c then y else z) = v) (hkx : opOk n x = true) (hky : opOk n y = true) (hkz : opOk n z = true)
    (h : wpList P ops Q rest (fr n (putF F d v)) w) : wpList P ops Q (⟨d, .pick x y z, ty, pos, aft, none⟩ :: rest) (fr n F) w :=
  r_value rfl v w (by
    show Sem.run P (do pure (Next.value (if ← asBool ((fr n F).eval x) then (fr n F).eval y else (fr n F).eval z))) w = _
    rw [eval_fr hkx, hx, eval_fr hky, eval_fr hkz]
    cases c <;> simp [asBool] at hv ⊢ <;> rw [hv]) h
theorem r_nilCheck {x : Operand} {w : World} (a : Addr) (hx : ev F x = .pointer (some a)) (hkx : opOk n x = true) (h : wpList P ops Q rest (fr n (putF F d (.pointer (some a)))) w) :
    wpList P ops Q (⟨d, .nilCheck x, ty, pos, aft, none⟩ :: rest) (fr n F) w :=
  r_value rfl (.pointer (some a)) w (by simp [execOp, eval_fr hkx, hx]) h

/-! ### types -/
def TyRow (P : Program) (T : TypeId) (k : Nat) : Prop := ∃ d, P.underlying T = some d ∧ d.isRow = true ∧ (P.info? T).map (·.size) = some k
def TyOne (P : Program) (T : TypeId) : Prop := ∃ d, P.underlying T = some d ∧ d.isRow = false ∧ (P.info? T).map (·.size) = some 1
def TyInfo (P : Program) (T : TypeId) (z : Value) (size bytes : Nat) : Prop := ∃ i, P.info? T = some i ∧ i.zero = some z ∧ i.size = size ∧ i.bytes = bytes
def TySlice (P : Program) (T E : TypeId) (z : Value) (size bytes : Nat) : Prop := P.underlying T = some (.slice E) ∧ TyInfo P E z size bytes ∧ z.cells.size = size ∧ 0 < size ∧ 0 < bytes
theorem tyInfo_mk {P : Program} {T : TypeId} {z : Value} {size bytes : Nat} (h : (P.info? T).map (fun i => (i.zero, i.size, i.bytes)) = some (some z, size, bytes)) : TyInfo P T z size bytes := by
  cases hi : P.info? T with
  | none => rw [hi] at h; cases h
  | some i => rw [hi] at h; simp at h; exact ⟨i, hi, h⟩
def FieldOk (P : Program) (T : TypeId) (f off : Nat) : Prop := ∃ fs fl, P.underlying T = some (.struct fs) ∧ fs[f]? = some fl ∧ fl.offset = off ∧ ((P.info? fl.type).map fun i => i.size == 0) = some false

theorem run_sizeOf {T : TypeId} {k : Nat} (h : (P.info? T).map (·.size) = some k) (w : World) : (sizeOf T).run P w = .ok k w := by
  cases hi : P.info? T with
  | none => rw [hi] at h; cases h
  | some i => rw [hi] at h; simp at h; simp [sizeOf, typeInfo, hi, h]

/-! ### reading memory -/
theorem loads_row {w : World} {T : TypeId} {b o : Nat} {cs : List Value} (hT : TyRow P T cs.length) (hc : w.rangeAt b o cs) : Runs P w (loadVar T ⟨b, o, none⟩) (.agg cs.toArray) := by
  obtain ⟨dd, h1, h2, h3⟩ := hT
  exact run_loadVar_mid w b o T cs dd hc h1 h2 h3
theorem loads_one {w : World} {T : TypeId} {b o : Nat} {v : Value} (hT : TyOne P T) (hc : w.cell? ⟨b, o, none⟩ = some v) : Runs P w (loadVar T ⟨b, o, none⟩) v := by
  obtain ⟨dd, h1, h2, h3⟩ := hT
  have hagg : (isAgg T).run P w = .ok false w := by
    unfold isAgg
    rw [Sem.run_bind, run_underlying h1 w]
    cases dd <;> simp_all [TypeDesc.isRow]
  show (loadVar T ⟨b, o, none⟩).run P w = _
  unfold loadVar
  simp [Sem.run_bind, hagg, hc]
theorem Blk.range {B id : Nat} {b : Nat} {T : TypeId} {cs : List Value} (h : Blk B id σ b T cs) (o : Nat) (vs : List Value) (hv : (cs.drop o).take vs.length = vs) : σ.w.rangeAt b o vs := by
  intro j v hj
  rw [h.cell]
  have hlt := (List.getElem?_eq_some_iff.1 hj).1
  rw [← hv, List.getElem?_take_of_lt hlt, List.getElem?_drop] at hj
  exact hj

/-! ### addresses -/
theorem r_fieldAddr {T : TypeId} {x : Operand} {f : Nat} {w : World} (b o off o' : Nat) (hx : ev F x = .pointer (some ⟨b, o, none⟩)) (hkx : opOk n x = true) (hf : FieldOk P T f off) (ho : o + off = o')
    (h : wpList P ops Q rest (fr n (putF F d (.pointer (some ⟨b, o', none⟩)))) w) : wpList P ops Q (⟨d, .fieldAddr T x f, ty, pos, aft, none⟩ :: rest) (fr n F) w :=
  r_value rfl (.pointer (some ⟨b, o', none⟩)) w (by
    show Sem.run P (do pure (Next.value (← Instr.fieldAt T ((fr n F).eval x) f))) w = _
    obtain ⟨fs, fl, h1, h2, h3, h4⟩ := hf
    rw [eval_fr hkx, hx]
    cases hi : P.info? fl.type with
    | none => rw [hi] at h4; cases h4
    | some i =>
      rw [hi] at h4
      have hs : ¬ i.size = 0 := by simpa using h4
      simp [Instr.fieldAt, run_underlying h1, h2, Instr.sureAddr, fieldPlace, sizeOf, typeInfo, hi, hs, Addr.add_mid, h3, ho]) h

def idx {α : Type} (xs : List α) (j : Int) : Option α := if 0 ≤ j then xs[j.toNat]? else none
theorem idx_some {α : Type} {xs : List α} {j : Int} {x : α} (h : idx xs j = some x) : 0 ≤ j ∧ xs[j.toNat]? = some x := by
  unfold idx at h
  split at h
  · exact ⟨‹_›, h⟩
  · cases h
theorem r_indexAddr {α : Type} [Rp α] {T E : TypeId} {x y : Operand} {xs : List α} {A : Option Addr} {c : Nat} {j : Int} {e : α} (hs : Sl σ xs A c) (hi : idx xs j = some e)
    (hx : ev F x = .slice A xs.length c) (hy : ev F y = .int .i64 j) (hkx : opOk n x = true) (hky : opOk n y = true)
    (hT : P.underlying T = some (.slice E)) (hE : (P.info? E).map (·.size) = some (Rp.sz α))
    (h : ∀ b o cs, Rp.cells σ e cs → Sealed σ b o cs → wpList P ops Q rest (fr n (putF F d (.pointer (some ⟨b, o, none⟩)))) σ.w) :
    wpList P ops Q (⟨d, .indexAddr T x y, ty, pos, aft, none⟩ :: rest) (fr n F) σ.w := by
  obtain ⟨h0, he⟩ := idx_some hi
  obtain ⟨b, o, cs, rfl, hc, hse⟩ := hs.at_ he
  have hlt : j < (xs.length : Int) := by have := (List.getElem?_eq_some_iff.1 he).1; omega
  refine r_value rfl (.pointer (some ⟨b, o + j.toNat * Rp.sz α, none⟩)) σ.w ?_ (h b _ cs hc hse)
  show Sem.run P (do pure (Next.value (← Instr.indexAt T ((fr n F).eval x) ((fr n F).eval y)))) σ.w = _
  rw [eval_fr hkx, eval_fr hky, hx, hy]
  simp only [Instr.indexAt, asIntOf, Sem.run_bind, Sem.run_pure, Result.andThen_ok, run_underlying hT, if_pos (And.intro h0 hlt), run_sizeOf hE, Addr.add_mid]

/-! ### new variables -/
theorem ext_alloc (σ : S) (o : Obj) (m : Nat × Nat) : Ext σ ⟨σ.w.alloc o, fun b => cond (Nat.beq b σ.N) m (σ.L b)⟩ :=
  ⟨(Below.refl _ _).alloc (Nat.le_refl _) o, fun b hb => by
    have : Nat.beq b σ.N = false := by
      cases h : Nat.beq b σ.N with
      | false => rfl
      | true => have := Nat.eq_of_beq_eq_true h; omega
    simp [this], Nat.le_refl _⟩
theorem blk_alloc {B : Nat} (σ : S) (hB : B ≤ σ.N) (T : TypeId) (cs : List Value) (id : Nat) : Blk B id ⟨σ.w.alloc (.cells cs.toArray T), fun b => cond (Nat.beq b σ.N) (0, id) (σ.L b)⟩ σ.N T cs :=
  ⟨hB, heap_alloc_new _ _, by simp⟩
theorem r_box {T : TypeId} {x : Operand} {B : Nat} (id : Nat) (hB : B ≤ σ.N) (v : Value) (cs : List Value) (hx : ev F x = v) (hkx : opOk n x = true) (hc : v.cells.toList = cs)
    (h : ∀ τ b, Ext σ τ → Blk B id τ b T cs → wpList P ops Q rest (fr n (putF F d (.pointer (some ⟨b, 0, none⟩)))) τ.w) :
    wpList P ops Q (⟨d, .box T x, ty, pos, aft, none⟩ :: rest) (fr n F) σ.w := by
  refine r_value rfl (.pointer (some ⟨σ.N, 0, none⟩)) (σ.w.alloc (.cells cs.toArray T)) ?_ (h _ σ.N (ext_alloc σ _ (0, id)) (blk_alloc σ hB T cs id))
  show Sem.run P (do pure (Next.value (← Instr.box T ((fr n F).eval x)))) σ.w = _
  rw [eval_fr hkx, hx]
  have hcc : v.cells = cs.toArray := by rw [← hc]
  simp [Instr.box, newVar, newRow, hcc]
theorem r_alloc {T : TypeId} {B : Nat} (id : Nat) (hB : B ≤ σ.N) (z : Value) (cs : List Value) {sz by_ : Nat} (hT : TyInfo P T z sz by_) (hc : z.cells.toList = cs)
    (h : ∀ τ b, Ext σ τ → Blk B id τ b T cs → wpList P ops Q rest (fr n (putF F d (.pointer (some ⟨b, 0, none⟩)))) τ.w) :
    wpList P ops Q (⟨d, .alloc T, ty, pos, aft, none⟩ :: rest) (fr n F) σ.w := by
  refine r_value rfl (.pointer (some ⟨σ.N, 0, none⟩)) (σ.w.alloc (.cells cs.toArray T)) ?_ (h _ σ.N (ext_alloc σ _ (0, id)) (blk_alloc σ hB T cs id))
  obtain ⟨i, h1, h2, _, _⟩ := hT
  have hcc : z.cells = cs.toArray := by rw [← hc]
  simp [execOp, Instr.alloc, zeroValue, typeInfo, h1, h2, newVar, newRow, hcc]

/-! ### writing a variable -/
theorem setCells_heap (b : Nat) (T : TypeId) : ∀ (vs : List Value) (o : Nat) (w : World) (cs : List Value), w.heap[b]? = some (.cells cs.toArray T (0, 0)) → o + vs.length ≤ cs.length →
    (w.setCells b o vs).heap[b]? = some (.cells (cs.take o ++ vs ++ cs.drop (o + vs.length)).toArray T (0, 0))
  | [], o, w, cs, h, hl => by simp only [World.setCells]; rw [h]; simp
  | v :: vs, o, w, cs, h, hl => by
    have h1 : (w.setCell ⟨b, o, none⟩ v).heap[b]? = some (.cells (cs.set o v).toArray T (0, 0)) := by
      simp [World.setCell, Array.getElem?_modify, h]
    have hl' : o < cs.length := by simp at hl; omega
    have ih := setCells_heap b T vs (o + 1) _ (cs.set o v) h1 (by simp at hl ⊢; omega)
    simp only [World.setCells]
    rw [ih]
    have e1 : (cs.set o v).take (o + 1) = cs.take o ++ [v] := by
      rw [List.set_eq_take_append_cons_drop, if_pos hl', List.take_append]
      simp [List.length_take, Nat.min_eq_left (Nat.le_of_lt hl'), List.take_of_length_le]
    have e2 : (cs.set o v).drop (o + 1 + vs.length) = cs.drop (o + (v :: vs).length) := by
      rw [List.drop_set_of_lt (by omega)]
      congr 1
      simp; omega
    rw [e1, e2]
    simp
theorem setCells_other (b : Nat) : ∀ (vs : List Value) (o : Nat) (w : World) (k : Nat), k ≠ b → (w.setCells b o vs).heap[k]? = w.heap[k]?
  | [], _, _, _, _ => rfl
  | v :: vs, o, w, k, h => by
    simp only [World.setCells]
    rw [setCells_other b vs (o + 1) _ k h]
    exact Below.heap_setCell w ⟨b, o, none⟩ v k h
theorem setCells_size (b : Nat) : ∀ (vs : List Value) (o : Nat) (w : World), (w.setCells b o vs).heap.size = w.heap.size
  | [], _, _ => rfl
  | v :: vs, o, w => by simp only [World.setCells]; rw [setCells_size b vs]; simp
theorem setCells_rest (b : Nat) : ∀ (vs : List Value) (o : Nat) (w : World), (w.setCells b o vs).os = w.os ∧ (w.setCells b o vs).tape = w.tape ∧ (w.setCells b o vs).output = w.output
  | [], _, _ => ⟨rfl, rfl, rfl⟩
  | v :: vs, o, w => by simp only [World.setCells]; exact setCells_rest b vs (o + 1) (w.setCell ⟨b, o, none⟩ v)
theorem setCells_drawn (b : Nat) : ∀ (vs : List Value) (o : Nat) (w : World), (w.setCells b o vs).drawn = w.drawn
  | [], _, _ => rfl
  | v :: vs, o, w => by simp only [World.setCells]; exact setCells_drawn b vs (o + 1) (w.setCell ⟨b, o, none⟩ v)
theorem mod_store {B id : Nat} {b : Nat} {T : TypeId} {cs : List Value} (h : Blk B id σ b T cs) (o : Nat) (vs : List Value) : Mod B id σ ⟨σ.w.setCells b o vs, σ.L⟩ := by
  obtain ⟨r1, r2, r3⟩ := setCells_rest b vs o σ.w
  refine ⟨⟨by simp [S.N, setCells_size], fun _ _ => Nat.le_refl _, fun b' o' v ho hc => ?_, Nat.le_of_eq (setCells_drawn b vs o σ.w).symm⟩, r1, r2, r3, fun b' hb' hne => ⟨setCells_other b vs o σ.w b' ?_, rfl⟩⟩
  · have hne : b' ≠ b := by rintro rfl; rw [h.2.2] at ho; exact absurd ho (by simp)
    exact (cell_of_block (setCells_other b vs o σ.w b' hne) o').trans hc
  · rintro rfl
    rcases hne with hne | hne
    · exact absurd h.1 (by omega)
    · exact hne (by rw [h.2.2])
theorem r_store {T T' : TypeId} {x y : Operand} {B id b : Nat} {cs : List Value} (hb : Blk B id σ b T' cs) (o : Nat) (v : Value) (vs cs' : List Value) (hx : ev F x = .pointer (some ⟨b, o, none⟩)) (hy : ev F y = v)
    (hkx : opOk n x = true) (hky : opOk n y = true) (hv : v.cells.toList = vs) (hT : (P.info? T).map (·.size) = some vs.length) (h1 : vs.all (·.oneCell') = true) (hl : Nat.ble (o + vs.length) cs.length = true)
    (hcs : cs.take o ++ vs ++ cs.drop (o + vs.length) = cs')
    (h : ∀ τ, Mod B id σ τ → Blk B id τ b T' cs' → wpList P ops Q rest (fr n (putF F d undef)) τ.w) :
    wpList P ops Q (⟨d, .store T x y, ty, pos, aft, none⟩ :: rest) (fr n F) σ.w := by
  have hle : o + vs.length ≤ cs.length := Nat.le_of_ble_eq_true hl
  have hsz : v.cells.size = vs.length := by rw [← hv]; simp
  refine r_unit rfl (σ.w.setCells b o vs) ?_ (h ⟨σ.w.setCells b o vs, σ.L⟩ (mod_store hb o vs) ⟨hb.1, by rw [← hcs]; exact setCells_heap b T' vs o σ.w cs hb.2.1 hle, hb.2.2⟩)
  show Sem.run P (do Instr.storeAt T ((fr n F).eval x) ((fr n F).eval y); pure Next.skip) σ.w = _
  rw [eval_fr hkx, eval_fr hky, hx, hy]
  have hst := run_storeCells_cells (P := P) b o vs 0 σ.w (fun j hj => by
      rw [Nat.add_zero, hb.cell, List.getElem?_eq_getElem (by omega)]; rfl) (fun j hj => by simp [World.frozen?, hb.2.1]) (fun u hu => (List.all_eq_true.1 h1) u hu)
  simp only [Nat.add_zero] at hst
  simp only [Instr.storeAt, Instr.sureAddr, storeVar, Sem.run_bind, Sem.run_pure, Result.andThen_ok, run_sizeOf hT, hsz, ne_eq, not_true_eq_false, if_false, hv, hst]

/-! ### lengths -/
theorem r_len {t : TypeId} {x : Operand} {w : World} (A : Option Addr) (len c : Nat) {E : TypeId} (hx : ev F x = .slice A len c) (hkx : opOk n x = true) (hT : P.underlying t = some (.slice E))
    (h : wpList P ops Q rest (fr n (putF F d (.int .i64 (len : Int)))) w) :
    wpList P ops Q (⟨d, .call ⟨.builtin .len, #[x], #[t]⟩, ty, pos, aft, none⟩ :: rest) (fr n F) w :=
  r_value rfl _ w (by simp [execOp, resolve, invoke, builtin, eval_fr hkx, hx, Builtin.len_, run_underlying hT, goInt]) h
theorem r_lenStr {t : TypeId} {x : Operand} {w : World} (s : ByteArray) (hx : ev F x = .string s) (hkx : opOk n x = true) (hT : P.underlying t = some .string)
    (h : wpList P ops Q rest (fr n (putF F d (.int .i64 (s.size : Int)))) w) :
    wpList P ops Q (⟨d, .call ⟨.builtin .len, #[x], #[t]⟩, ty, pos, aft, none⟩ :: rest) (fr n F) w :=
  r_value rfl _ w (by simp [execOp, resolve, invoke, builtin, eval_fr hkx, hx, Builtin.len_, run_underlying hT, goInt]) h
theorem r_max {t u : TypeId} {x y : Operand} {w : World} (k : IntKind) (a b : Int) (hx : ev F x = .int k a) (hy : ev F y = .int k b) (hkx : opOk n x = true) (hky : opOk n y = true)
    (h : wpList P ops Q rest (fr n (putF F d (.int k (max a b)))) w) :
    wpList P ops Q (⟨d, .call ⟨.builtin .max, #[x, y], #[t, u]⟩, ty, pos, aft, none⟩ :: rest) (fr n F) w :=
  r_value rfl _ w (by
    have e : (if b > a then b else a) = max a b := by split <;> omega
    simp [execOp, resolve, invoke, builtin, eval_fr hkx, eval_fr hky, hx, hy, Builtin.max_, Builtin.max2]
    exact e) h

end
end Go.Sx
