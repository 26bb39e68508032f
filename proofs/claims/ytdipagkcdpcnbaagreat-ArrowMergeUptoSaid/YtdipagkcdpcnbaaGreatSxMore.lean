/- More rules of the walk: append, new slices, structs, cuts, calls, the function's frame, loops. -/
import Derived.Test.YtdipagkcdpcnbaaGreatSxRules
namespace Go.Sx
open Go Go.RowKit

section
variable {P : Program} {ops : Array Oper} {Q : Exit → Act → World → Prop} {n : Nat} {F : Fr} {rest : List Oper} {d : Option Nat} {ty : TypeId} {pos : String} {aft : Array Edge} {σ : S}

/-! ### append -/
theorem beq_false {a b : Nat} (h : a ≠ b) : Nat.beq a b = false := by
  cases hb : Nat.beq a b with
  | false => rfl
  | true => exact absurd (Nat.eq_of_beq_eq_true hb) h
/-! ### new slices, structs -/
def fillL (pl : List (Nat × Nat)) : List Value → List (Nat × List Value) → Option (List Value)
  | cells, [] => some cells
  | cells, (i, vs) :: rest =>
    match pl[i]? with
    | none => none
    | some (off, size) => cond (Nat.beq vs.length size && Nat.ble (off + vs.length) cells.length) (fillL pl (cells.take off ++ vs ++ cells.drop (off + vs.length)) rest) none
theorem foldl_set (off : Nat) : ∀ (vs : List Value) (k : Nat) (cells : List Value), off + k + vs.length ≤ cells.length →
    (vs.zipIdx k).foldl (fun (cs : Array Value) (x : Value × Nat) => cs.setIfInBounds (off + x.2) x.1) cells.toArray = (cells.take (off + k) ++ vs ++ cells.drop (off + k + vs.length)).toArray
  | [], k, cells, h => by simp
  | v :: vs, k, cells, h => by
    simp only [List.zipIdx_cons, List.foldl_cons, List.setIfInBounds_toArray]
    rw [foldl_set off vs (k + 1) (cells.set (off + k) v) (by simp at h ⊢; omega)]
    have hl' : off + k < cells.length := by simp at h; omega
    have e1 : (cells.set (off + k) v).take (off + (k + 1)) = cells.take (off + k) ++ [v] := by
      rw [List.set_eq_take_append_cons_drop, if_pos hl', List.take_append]
      simp [List.length_take, Nat.min_eq_left (Nat.le_of_lt hl'), List.take_of_length_le, Nat.add_sub_add_left]
    have e2 : (cells.set (off + k) v).drop (off + (k + 1) + vs.length) = cells.drop (off + k + (v :: vs).length) := by
      rw [List.drop_set_of_lt (by omega)]
      congr 1
      simp; omega
    rw [e1, e2]
    simp
theorem fill_of (pl : List (Nat × Nat)) : ∀ (parts : List (Nat × Value)) (cells out : List Value), fillL pl cells (parts.map fun p => (p.1, p.2.cells.toList)) = some out →
    Instr.fill (pl.toArray[·]?) cells.toArray parts = some out.toArray
  | [], cells, out, h => by simp only [List.map_nil, fillL, Option.some.injEq] at h; rw [h]; rfl
  | (i, v) :: rest, cells, out, h => by
    simp only [List.map_cons, fillL] at h
    cases hp : pl[i]? with
    | none => rw [hp] at h; cases h
    | some q =>
      obtain ⟨off, size⟩ := q
      rw [hp] at h
      simp only at h
      cases hb : (Nat.beq v.cells.toList.length size && Nat.ble (off + v.cells.toList.length) cells.length) with
      | false => rw [hb] at h; cases h
      | true =>
        rw [hb] at h
        simp only [cond_true] at h
        obtain ⟨h1, h2⟩ := Bool.and_eq_true_iff.1 hb
        have h1' := Nat.eq_of_beq_eq_true h1
        have h2' := Nat.le_of_ble_eq_true h2
        have hsz : v.cells.size = size := by simpa using h1'
        have hn : ¬ (v.cells.size ≠ size || decide (off + v.cells.size > cells.toArray.size)) = true := by
          simp at h2' ⊢; omega
        have hf := foldl_set off v.cells.toList 0 cells (by simpa using h2')
        have ha : v.cells.zipIdx.foldl (fun (cs : Array Value) (x : Value × Nat) => cs.setIfInBounds (off + x.2) x.1) cells.toArray = (cells.take off ++ v.cells.toList ++ cells.drop (off + v.cells.toList.length)).toArray := by
          rw [← Array.foldl_toList, Array.toList_zipIdx]
          simpa using hf
        have := fill_of pl rest _ out h
        simp only [Instr.fill, List.getElem?_toArray, hp]
        rw [if_neg (by simpa using hn)]
        rw [← this, ← ha]
        congr 1
        funext x
        exact List.getElem?_toArray.symm
def TyStruct (P : Program) (T : TypeId) (pl : List (Nat × Nat)) (zs : List Value) : Prop :=
  ∃ fs i z, P.underlying T = some (.struct fs) ∧ P.info? T = some i ∧ i.zero = some z ∧ z.cells = zs.toArray ∧ fs.toList.mapM (fun f => (P.info? f.type).map fun i => (f.offset, i.size)) = some pl
theorem r_build {T : TypeId} {ps : List (Nat × Operand)} {w : World} {pl : List (Nat × Nat)} {zs : List Value} (hT : TyStruct P T pl zs) (vs : List (Nat × Value)) (cs : List Value)
    (hps : ps.map (fun p => (p.1, ev F p.2)) = vs) (hk : ps.all (fun p => opOk n p.2) = true) (hf : fillL pl zs (vs.map fun p => (p.1, p.2.cells.toList)) = some cs)
    (h : wpList P ops Q rest (fr n (putF F d (.agg cs.toArray))) w) :
    wpList P ops Q (⟨d, .build T ps.toArray, ty, pos, aft, none⟩ :: rest) (fr n F) w := by
  refine r_value rfl (.agg cs.toArray) w ?_ h
  obtain ⟨fs, i, z, h1, h2, h3, h4, h5⟩ := hT
  have he : (ps.toArray.map fun (i, x) => (i, (fr n F).eval x)).toList = vs := by
    rw [← hps]
    simp only [Array.toList_map]
    apply List.map_congr_left
    intro p hp
    rw [eval_fr ((List.all_eq_true.1 hk) p hp)]
  have hb : P.built T vs = some cs.toArray := by
    simp only [Program.built, h2, h1, h3, h5, h4]
    exact fill_of pl vs zs cs hf
  have hr := run_build (P := P) w T (ps.toArray.map fun (i, x) => (i, (fr n F).eval x)) cs.toArray (by rw [he, hb])
  show Sem.run P (do pure (Next.value (← Instr.build T (ps.toArray.map fun (i, x) => (i, (fr n F).eval x))))) w = _
  rw [Sem.run_bind, hr]
  rfl
/-- The parts of a slice's literal, each element once, in order: their cells one behind the other. -/
theorem fill_seq (sz : Nat) (hsz : 0 < sz) : ∀ (vs : List Value) (k : Nat) (cells : List Value), cells.length = (k + vs.length) * sz → (∀ v ∈ vs, v.cells.size = sz) →
    Instr.fill (fun i => some (i * sz, sz)) cells.toArray ((vs.zipIdx k).map fun p => (p.2, p.1)) = some (cells.take (k * sz) ++ vs.flatMap (·.cells.toList)).toArray
  | [], k, cells, hl, hv => by
    simp only [List.zipIdx_nil, List.map_nil, Instr.fill, List.flatMap_nil, List.append_nil, List.length_nil, Nat.add_zero] at hl ⊢
    rw [← hl, List.take_length]
  | v :: vs, k, cells, hl, hv => by
    have hs : v.cells.size = sz := hv v (by simp)
    have hle : k * sz + v.cells.toList.length ≤ cells.length := by
      rw [hl, Array.length_toList, hs, List.length_cons, Nat.add_mul, Nat.add_mul]; omega
    have hf := foldl_set (k * sz) v.cells.toList 0 cells (by simpa using hle)
    have ha : v.cells.zipIdx.foldl (fun (cs : Array Value) (x : Value × Nat) => cs.setIfInBounds (k * sz + x.2) x.1) cells.toArray = (cells.take (k * sz) ++ v.cells.toList ++ cells.drop (k * sz + v.cells.toList.length)).toArray := by
      rw [← Array.foldl_toList, Array.toList_zipIdx]
      simpa using hf
    have ih := fill_seq sz hsz vs (k + 1) (cells.take (k * sz) ++ v.cells.toList ++ cells.drop (k * sz + v.cells.toList.length)) (by
      simp only [List.length_append, List.length_take, List.length_drop, Array.length_toList, hs] at hle ⊢
      rw [Nat.min_eq_left (by omega), hl]
      simp only [List.length_cons, Nat.add_mul, Nat.one_mul] at hl hle ⊢
      omega) (fun u hu => hv u (by simp [hu]))
    simp only [List.zipIdx_cons, List.map_cons, Instr.fill]
    rw [if_neg (by simp at hle ⊢; omega)]
    have e : (cells.take (k * sz) ++ v.cells.toList ++ cells.drop (k * sz + v.cells.toList.length)).take ((k + 1) * sz) = cells.take (k * sz) ++ v.cells.toList := by
      have hl2 : (cells.take (k * sz) ++ v.cells.toList).length = (k + 1) * sz := by
        simp only [List.length_append, List.length_take, Array.length_toList, hs, Nat.add_mul, Nat.one_mul] at hle ⊢
        omega
      rw [← hl2]; exact List.take_left
    rw [e] at ih
    simp only [List.flatMap_cons, ← List.append_assoc]
    rw [← ih]
    congr 1
/-! ### cuts -/
theorem r_slice {T : TypeId} {x : Operand} {lo hi mx : Option Operand} {w : World} (a v : Value) (l h' m : Option Value) (hx : ev F x = a) (hkx : opOk n x = true)
    (hl : lo.map (ev F) = l) (hh : hi.map (ev F) = h') (hm : mx.map (ev F) = m) (hk : (lo.all (opOk n) && hi.all (opOk n) && mx.all (opOk n)) = true)
    (hr : Runs P w (Instr.sliceAt T a l h' m) v) (h : wpList P ops Q rest (fr n (putF F d v)) w) :
    wpList P ops Q (⟨d, .slice T x lo hi mx, ty, pos, aft, none⟩ :: rest) (fr n F) w :=
  r_value rfl v w (by
    have e : ∀ o : Option Operand, o.all (opOk n) = true → o.map (fr n F).eval = o.map (ev F) := by
      intro o ho
      cases o with
      | none => rfl
      | some q => simp at ho; simp [eval_fr ho]
    obtain ⟨h12, h3⟩ := Bool.and_eq_true_iff.1 hk
    obtain ⟨h1, h2⟩ := Bool.and_eq_true_iff.1 h12
    show Sem.run P (do pure (Next.value (← Instr.sliceAt T ((fr n F).eval x) (lo.map (fr n F).eval) (hi.map (fr n F).eval) (mx.map (fr n F).eval)))) w = _
    rw [eval_fr hkx, hx, e lo h1, e hi h2, e mx h3, hl, hh, hm, Sem.run_bind, hr]; rfl) h

/-! ### calls -/
def HasBody (P : Program) (f : FuncId) : Prop := ∃ fn c, P.funcs[f]? = some fn ∧ fn.body = some c ∧ (fn.name == "runtime.NumGoroutine") = false
/-- A call of the function that comes back, with a value and a world that meet R; what was there before is untouched. -/
def Ctr (P : Program) (f : FuncId) (vs : List Value) (σ : S) (R : Value → S → Prop) : Prop :=
  HasBody P f ∧ Calls P f vs.toArray σ.w fun e w' => ∃ v τ, e = .returned v ∧ τ.w = w' ∧ Ext σ τ ∧ R v τ
theorem Ctr.mono {f : FuncId} {vs : List Value} {R R' : Value → S → Prop} (h : Ctr P f vs σ R) (k : ∀ v τ, Ext σ τ → R v τ → R' v τ) : Ctr P f vs σ R' :=
  ⟨h.1, h.2.mono fun _ _ ⟨v, τ, e, hw, he, hr⟩ => ⟨v, τ, e, hw, he, k v τ he hr⟩⟩
theorem r_makeFunc {fn : Fn} {xs ys : List Operand} {w : World} (as bs : List Value) (ha : xs.map (ev F) = as) (hb : ys.map (ev F) = bs) (hk : (xs.all (opOk n) && ys.all (opOk n)) = true)
    (h : wpList P ops Q rest (fr n (putF F d (.func fn as.toArray bs.toArray))) w) :
    wpList P ops Q (⟨d, .makeFunc fn xs.toArray ys.toArray, ty, pos, aft, none⟩ :: rest) (fr n F) w :=
  r_value rfl (.func fn as.toArray bs.toArray) w (by
    obtain ⟨h1, h2⟩ := Bool.and_eq_true_iff.1 hk
    have e : ∀ (l : List Operand), l.all (opOk n) = true → l.toArray.map (fr n F).eval = (l.map (ev F)).toArray := by
      intro l hl
      simp only [List.map_toArray]
      congr 1
      exact List.map_congr_left fun x hx => eval_fr ((List.all_eq_true.1 hl) x hx)
    simp [execOp, Instr.makeFunc, e xs h1, e ys h2, ha, hb]) h

/-! ### the function's frame -/
def initF (vs : List Value) : Fr := fun i => vs.getD i undef
def ResV (P : Program) (n : Nat) (F : Fr) (w : World) : ResultVar → Value → Prop
  | .tmp t, v => Nat.blt t n = true ∧ F t = v
  | .cell t T, v => Nat.blt t n = true ∧ ∃ b, F t = .pointer (some ⟨b, 0, none⟩) ∧ Runs P w (loadVar T ⟨b, 0, none⟩) v
def rdRes (tmps : Array Value) : ResultVar → Sem Value
  | .tmp t => pure (tmps.getD t undef)
  | .cell a t => do loadVar t (← asAddr (tmps.getD a undef))
theorem results_eq (fn : Func) (tmps : Array Value) : results fn tmps = (do
    let vs ← fn.results.mapM (rdRes tmps)
    pure (if h : vs.size = 1 then vs[0] else .tuple vs)) := by
  have e : (rdRes tmps) = (fun | .tmp t => pure (tmps.getD t undef) | .cell a t => do loadVar t (← asAddr (tmps.getD a undef))) := by
    funext r; cases r <;> rfl
  rw [e]; rfl
theorem run_resV {w : World} {r : ResultVar} {v : Value} (h : ResV P n F w r v) : (rdRes (fr n F).tmps r).run P w = .ok v w := by
  cases r with
  | tmp t => obtain ⟨h1, h2⟩ := h; show Sem.run P (pure _) w = _; rw [fr_getD h1, h2]; rfl
  | cell t T =>
    obtain ⟨h1, b, h2, h3⟩ := h
    have h3' : (loadVar T ⟨b, 0, none⟩).run P w = .ok v w := h3
    show Sem.run P (do loadVar T (← asAddr ((fr n F).tmps.getD t undef))) w = _
    rw [fr_getD h1, h2]
    simp [asAddr, h3']
/-! ### loops -/
inductive Fl (α β : Type) where
  | next (a : α)
  | done (b : β)
def iter {α β : Type} (step : α → Option (Fl α β)) : Nat → α → Option β
  | 0, _ => none
  | k + 1, s => (step s).bind fun | .next s' => iter step k s' | .done b => some b
theorem wp_iter {α β : Type} {body : Code} {step : α → Option (Fl α β)} (Inv : α → Act → World → Prop) (Post : β → Exit → Act → World → Prop) (hno : ∀ b a w, ¬ Post b .normal a w)
    (hbody : ∀ s fl a w, step s = some fl → Inv s a w → body.wp P (fun e a' w' => match fl with | .next s' => e = .normal ∧ Inv s' a' w' | .done b => Post b e a' w') a w) :
    ∀ (k : Nat) (s : α) (b : β) (a : Act) (w : World), iter step k s = some b → Inv s a w → (Code.loop body).wp P (Post b) a w := by
  have key : ∀ (k : Nat) (s : α) (b : β) (a : Act) (w : World), iter step k s = some b → Inv s a w → Code.rounds P body (Post b) k a w := by
    intro k
    induction k with
    | zero => intro s b a w h; cases h
    | succ k ih =>
      intro s b a w h hI
      simp only [iter] at h
      cases hs : step s with
      | none => rw [hs] at h; cases h
      | some fl =>
        rw [hs] at h
        have hb := hbody s fl a w hs hI
        show body.wp P (Exit.then (Code.rounds P body (Post b) k) (Post b)) a w
        refine wp_mono hb fun e a' w' hp => ?_
        cases fl with
        | next s' =>
          obtain ⟨rfl, hI'⟩ := hp
          exact ih s' b a' w' h hI'
        | done b' =>
          simp only [Option.bind_some, Option.some.injEq] at h
          subst h
          cases e <;> first | exact absurd hp (hno _ _ _) | exact hp
  exact fun k s b a w h hI => wp_loop_rounds k (key k s b a w h hI)

end
end Go.Sx
