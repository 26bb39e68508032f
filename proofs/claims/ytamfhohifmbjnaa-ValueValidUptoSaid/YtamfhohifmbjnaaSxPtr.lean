/- Functions that are handed a pointer to a caller's variable: the frame of memory, contracts, calls, returns. -/
import Derived.Test.YtamfhohifmbjnaaSxDraw
namespace Go.Sx
open Go Go.RowKit

theorem Mod.refl (B id : Nat) (σ : S) : Mod B id σ σ := ⟨Wext.refl σ, rfl, rfl, rfl, fun _ _ _ => ⟨rfl, rfl⟩⟩
theorem Mod.size {B id : Nat} {σ τ : S} (h : Mod B id σ τ) : σ.N ≤ τ.N := h.wext.size
/-- One more step of the function's own: new blocks only. -/
theorem Mod.ext {B id : Nat} {σ τ υ : S} (h : Mod B id σ τ) (hN : σ.N ≤ τ.N) (k : Ext τ υ) : Mod B id σ υ :=
  ⟨h.wext.trans k.wext, k.below.os.trans h.os, k.below.tape.trans h.tape, k.below.output.trans h.output, fun b hb hn => by
    obtain ⟨h1, h2⟩ := h.block b hb hn
    have hb' := Nat.lt_of_lt_of_le hb hN
    exact ⟨(k.below.block b hb').trans h1, (k.mark b hb').trans h2⟩⟩
/-- One more step: a store to a block of the function's own. -/
theorem Mod.mod {B id id' : Nat} {σ τ υ : S} (h : Mod B id σ τ) (hN : σ.N ≤ τ.N) (k : Mod σ.N id' τ υ) : Mod B id σ υ :=
  ⟨h.wext.trans k.wext, k.os.trans h.os, k.tape.trans h.tape, k.output.trans h.output, fun b hb hn => by
    obtain ⟨h1, h2⟩ := h.block b hb hn
    obtain ⟨k1, k2⟩ := k.block b (Nat.lt_of_lt_of_le hb hN) (.inl hb)
    exact ⟨k1.trans h1, k2.trans h2⟩⟩
/-- One more step: a store to the variable that was handed over. -/
theorem Mod.modp {B id : Nat} {σ τ υ : S} (h : Mod B id σ τ) (hN : σ.N ≤ τ.N) (k : Mod B id τ υ) : Mod B id σ υ :=
  ⟨h.wext.trans k.wext, k.os.trans h.os, k.tape.trans h.tape, k.output.trans h.output, fun b hb hn => by
    obtain ⟨h1, h2⟩ := h.block b hb hn
    obtain ⟨k1, k2⟩ := k.block b (Nat.lt_of_lt_of_le hb hN) (hn.elim .inl fun hne => .inr (by rw [h.wext.tag b hb]; exact hne))
    exact ⟨k1.trans h1, k2.trans h2⟩⟩

/-- The frame of such a function, told from its entry on: of the blocks below N only those from B on with this tag have turned. -/
structure ExtP (N B id : Nat) (σ τ : S) : Prop where
  wext : Wext σ τ
  os : τ.w.os = σ.w.os
  tape : τ.w.tape = σ.w.tape
  output : τ.w.output = σ.w.output
  block : ∀ b, b < σ.N → b < N → (b < B ∨ (σ.L b).2 ≠ id) → τ.w.heap[b]? = σ.w.heap[b]? ∧ τ.L b = σ.L b
theorem ExtP.refl (N B id : Nat) (σ : S) : ExtP N B id σ σ := ⟨Wext.refl σ, rfl, rfl, rfl, fun _ _ _ _ => ⟨rfl, rfl⟩⟩
theorem ExtP.trans {N B id : Nat} {σ τ υ : S} (h : ExtP N B id σ τ) (k : ExtP N B id τ υ) : ExtP N B id σ υ :=
  ⟨h.wext.trans k.wext, k.os.trans h.os, k.tape.trans h.tape, k.output.trans h.output, fun b hb hN hn => by
    obtain ⟨h1, h2⟩ := h.block b hb hN hn
    obtain ⟨k1, k2⟩ := k.block b (Nat.lt_of_lt_of_le hb h.wext.size) hN (hn.elim .inl fun hne => .inr (by rw [h.wext.tag b hb]; exact hne))
    exact ⟨k1.trans h1, k2.trans h2⟩⟩
theorem ExtP.size {N B id : Nat} {σ τ : S} (h : ExtP N B id σ τ) : σ.N ≤ τ.N := h.wext.size
theorem ExtP.ext {N B id : Nat} {σ τ υ : S} (h : ExtP N B id σ τ) (_hN : N ≤ τ.N) (k : Ext τ υ) : ExtP N B id σ υ :=
  h.trans ⟨k.wext, k.below.os, k.below.tape, k.below.output, fun b hb _ _ => ⟨k.below.block b hb, k.mark b hb⟩⟩
theorem ExtP.mod {N B id id' : Nat} {σ τ υ : S} (h : ExtP N B id σ τ) (_hN : N ≤ τ.N) (k : Mod N id' τ υ) : ExtP N B id σ υ :=
  h.trans ⟨k.wext, k.os, k.tape, k.output, fun b hb hN _ => k.block b hb (.inl hN)⟩
theorem ExtP.modp {N B id : Nat} {σ τ υ : S} (h : ExtP N B id σ τ) (_hN : N ≤ τ.N) (k : Mod B id τ υ) : ExtP N B id σ υ :=
  h.trans ⟨k.wext, k.os, k.tape, k.output, fun b hb _ hn => k.block b hb hn⟩
theorem ExtP.mod_ {B id : Nat} {σ τ : S} (h : ExtP σ.N B id σ τ) : Mod B id σ τ := ⟨h.wext, h.os, h.tape, h.output, fun b hb hn => h.block b hb hb hn⟩
abbrev frP (N B id : Nat) : FrR := ⟨ExtP N B id, ExtP.refl N B id, ExtP.trans, fun σ => (ExtP.refl N B id σ).trans ⟨(ext_draw σ).wext, rfl, rfl, rfl, fun _ _ _ _ => ⟨rfl, rfl⟩⟩⟩

/-- What stands in the variable that was handed over. -/
def PtrR {α : Type} [Rp α] (B id : Nat) (T : TypeId) (τ : S) (a : α) (b : Nat) : Prop := ∃ cs, Rp.cells τ a cs ∧ Blk B id τ b T cs

section
variable {P : Program} {ops : Array Oper} {Q : Exit → Act → World → Prop} {n : Nat} {F : Fr} {rest : List Oper} {d : Option Nat} {ty : TypeId} {pos : String} {aft : Array Edge} {σ : S}
/-- A contract whose frame of memory is 'E'. -/
def CtrE (P : Program) (f : FuncId) (vs : List Value) (σ : S) (E : S → Prop) (R : Value → S → Prop) : Prop :=
  HasBody P f ∧ Calls P f vs.toArray σ.w fun e w' => ∃ v τ, e = .returned v ∧ τ.w = w' ∧ E τ ∧ R v τ
theorem wp_enterE {f : FuncId} {as : List Value} {E : S → Prop} {R : Value → S → Prop} {o : Oper} {a : Act} {K : Act → World → Prop} (hc : CtrE P f as σ E R)
    (hrun : (execOp a.eval o).run P σ.w = (callFunc f as.toArray).run P σ.w) (h : ∀ v τ, E τ → R v τ → K (a.put o.dst v) τ.w) : o.wp P a σ.w K Q := by
  obtain ⟨⟨fn, c, h1, h2, h3⟩, hcalls⟩ := hc
  unfold Oper.wp
  have h3' : fn.name ≠ "runtime.NumGoroutine" := by simpa using h3
  have : (callFunc f as.toArray).run P σ.w = .ok (.enter f as.toArray) σ.w := by
    simp [callFunc, h1, h2, h3']
  rw [hrun, this, Oper.upon_enter]
  refine hcalls.mono fun e w' ⟨v, τ, he, hw, hx, hr⟩ => ?_
  subst he
  subst hw
  exact h v τ hx hr
theorem r_callE {f : FuncId} {xs : List Operand} {ats : Array TypeId} (vs : List Value) {E : S → Prop} {R : Value → S → Prop} (hvs : xs.map (ev F) = vs) (hk : xs.all (opOk n) = true) (hc : CtrE P f vs σ E R)
    (h : ∀ v τ, E τ → R v τ → wpList P ops Q rest (fr n (putF F d v)) τ.w) :
    wpList P ops Q (⟨d, .call ⟨.value (.func f), xs.toArray, ats⟩, ty, pos, aft, none⟩ :: rest) (fr n F) σ.w :=
  wpList_plain rfl fun K hK => wp_enterE hc (by
    have he : xs.toArray.map (fr n F).eval = vs.toArray := by
      rw [← hvs]
      simp only [List.map_toArray]
      congr 1
      exact List.map_congr_left fun x hx => eval_fr ((List.all_eq_true.1 hk) x hx)
    simp [execOp, resolve, Act.eval, Deferred.ofValue, invoke, he]) (fun v τ hx hr => by rw [put_fr]; exact hK _ _ (h v τ hx hr))
theorem ctr_ofE {f : FuncId} {fn : Func} {c : Code} {vs : List Value} {E : S → Prop} {R : Value → S → Prop} (nt : Nat) (hf : P.funcs[f]? = some fn) (hb : fn.body = some c) (hname : (fn.name == "runtime.NumGoroutine") = false) (hn : fn.ntmps = nt) (hle : Nat.ble vs.length nt = true)
    (h : c.wp P (bodyPost P fn fun e w' => ∃ v τ, e = .returned v ∧ τ.w = w' ∧ E τ ∧ R v τ) (fr nt (initF vs)) σ.w) : CtrE P f vs σ E R := by
  refine ⟨⟨fn, c, hf, hb, hname⟩, calls_of_wp hf hb ?_⟩
  have hle' := Nat.le_of_ble_eq_true hle
  have e : (⟨vs.toArray ++ Array.replicate (fn.ntmps - vs.toArray.size) undef, []⟩ : Act) = fr nt (initF vs) := by
    rw [hn]
    simp only [fr]
    congr 1
    apply Array.ext
    · simp; omega
    · intro i h1 h2
      simp only [Array.getElem_ofFn, initF, Array.getElem_append]
      split
      · rename_i hi; simp at hi; simp [List.getD, List.getElem?_eq_getElem hi]
      · rename_i hi; simp at hi; simp [List.getD, List.getElem?_eq_none hi]
  rw [e]
  exact h
theorem ret_oneE {fn : Func} {E : S → Prop} {R : Value → S → Prop} {r1 : ResultVar} {τ : S} (v : Value) (hr : fn.results = #[r1]) (h1 : ResV P n F τ.w r1 v) (hx : E τ) (h : R v τ) :
    bodyPost P fn (fun e w' => ∃ v τ, e = .returned v ∧ τ.w = w' ∧ E τ ∧ R v τ) .ret (fr n F) τ.w :=
  ⟨rfl, v, by
    have e1 := run_resV h1
    rw [results_eq, hr]
    simp only [List.mapM_toArray, List.mapM_cons, List.mapM_nil, Sem.run_bind, Sem.run_map, e1, Result.andThen_ok, Sem.run_pure]
    rfl, v, τ, rfl, rfl, hx, h⟩
theorem ret_twoE {fn : Func} {E : S → Prop} {R : Value → S → Prop} {r1 r2 : ResultVar} {τ : S} (v1 v2 : Value) (hr : fn.results = #[r1, r2]) (h1 : ResV P n F τ.w r1 v1) (h2 : ResV P n F τ.w r2 v2) (hx : E τ) (h : R (.tuple #[v1, v2]) τ) :
    bodyPost P fn (fun e w' => ∃ v τ, e = .returned v ∧ τ.w = w' ∧ E τ ∧ R v τ) .ret (fr n F) τ.w :=
  ⟨rfl, .tuple #[v1, v2], by
    have e1 := run_resV h1
    have e2 := run_resV h2
    rw [results_eq, hr]
    simp only [List.mapM_toArray, List.mapM_cons, List.mapM_nil, Sem.run_bind, Sem.run_map, e1, e2, Result.andThen_ok, Sem.run_pure]
    rfl, _, τ, rfl, rfl, hx, h⟩
end
end Go.Sx
