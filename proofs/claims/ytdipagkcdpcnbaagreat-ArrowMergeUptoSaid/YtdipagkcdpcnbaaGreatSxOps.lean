/- Small facts that the printed walks name: operations on numbers and strings, pure partial operations, posts. -/
import Derived.Test.YtdipagkcdpcnbaaGreatSxMore
import Derived.Lib.Bytealg
namespace Go.Sx
open Go Go.RowKit

/-! ### pure words -/
theorem bind_some {α β : Type} {a : Option α} {f : α → Option β} {b : β} (h : a.bind f = some b) : ∃ x, a = some x ∧ f x = some b := by
  cases a with
  | none => cases h
  | some x => exact ⟨x, rfl, h⟩
def w64 (x : Int) : Int := IntKind.i64.wrap x
def strEq (a b : ByteArray) : Bool := a.toList == b.toList
def strLt (a b : ByteArray) : Bool := Op.bytesLess a.toList b.toList
def room (n bytes : Nat) : Option Unit := if n * bytes ≤ 140737488355328 then some () else none
theorem room_some {n bytes : Nat} {u : Unit} (h : room n bytes = some u) : n * bytes ≤ 140737488355328 := by
  unfold room at h
  split at h
  · assumption
  · cases h
def sidx (s : ByteArray) (j : Int) : Option UInt8 := if 0 ≤ j then s[j.toNat]? else none
def qrem (a b : Int) : Option Int := if b = 0 then none else some (a.tmod b)
def cut {α : Type} (xs : List α) (lo hi : Int) : Option (List α) := if 0 ≤ lo ∧ lo ≤ hi ∧ hi ≤ (xs.length : Int) then some ((xs.take hi.toNat).drop lo.toNat) else none
def onEnd {α β γ : Type} (f : α → Option γ) (g : β → Option γ) : Sum α β → Option γ
  | .inl a => f a
  | .inr b => g b
/-! ### posts -/
section
variable {P : Program} {Q : Exit → Act → World → Prop} {K : Act → World → Prop} {a : Act} {w : World}
theorem p_then {y : Code} (h : y.wp P Q a w) : Exit.then (y.wp P Q) Q .normal a w := h
theorem p_thenr (h : Q .ret a w) : Exit.then K Q .ret a w := h
theorem c_true {n : Nat} {F : Fr} {t : Tmp} {c : Bool} {x y : Code} (ht : F t = .bool c) (hc : c = true) (hk : Nat.blt t n = true) (h : x.wp P Q (fr n F) w) : (Code.cond (.tmp t) x y).wp P Q (fr n F) w :=
  wp_cond_true (by rw [eval_fr (x := .tmp t) hk]; show F t = _; rw [ht, hc]) h
theorem c_false {n : Nat} {F : Fr} {t : Tmp} {c : Bool} {x y : Code} (ht : F t = .bool c) (hc : c = false) (hk : Nat.blt t n = true) (h : y.wp P Q (fr n F) w) : (Code.cond (.tmp t) x y).wp P Q (fr n F) w :=
  wp_cond_false (by rw [eval_fr (x := .tmp t) hk]; show F t = _; rw [ht, hc]) h
end

/-! ### operands -/
section
variable {F : Fr} {x1 x2 x3 x4 x5 x6 : Operand} {v1 v2 v3 v4 v5 v6 : Value}
end

/-! ### frames that agree -/
def Agr (A : List Nat) (F G : Fr) : Prop := ∀ i, A.contains i = false → F i = G i
theorem Agr.refl (A : List Nat) (F : Fr) : Agr A F F := fun _ _ => rfl
theorem Agr.put {A : List Nat} {F G : Fr} {d : Nat} {v : Value} (h : Agr A F G) (hd : A.contains d = true) : Agr A (putF F (some d) v) G := fun i hi => by
  have : Nat.beq i d = false := beq_false (by rintro rfl; rw [hd] at hi; cases hi)
  simp only [putF, upd, this, cond_false]
  exact h i hi
theorem Agr.loop {A A2 : List Nat} {F G H : Fr} (h : Agr A G H) (k : Agr A2 F G) (hs : A2.all (fun i => A.contains i) = true) : Agr A F H := fun i hi => by
  refine (k i ?_).trans (h i hi)
  cases hc : A2.contains i with
  | false => rfl
  | true =>
    have := (List.all_eq_true.1 hs) i (by simpa using hc)
    rw [hi] at this; cases this

/-! ### runs of operations -/
section
variable {P : Program} {w : World} {T : TypeId} {x y : Operand} {k : IntKind} {a b : Int}
theorem b_add : Runs P w (do eqGuard .add T x y (.int k a) (.int k b); binOp .add T (.int k a) (.int k b)) (.int k (k.wrap (a + b))) := by
  simp [Runs, eqGuard_add, binOp_add, Op.intArith]
theorem b_sub : Runs P w (do eqGuard .sub T x y (.int k a) (.int k b); binOp .sub T (.int k a) (.int k b)) (.int k (k.wrap (a - b))) := by
  simp [Runs, eqGuard_sub, binOp_sub, Op.intArith]
theorem b_mul : Runs P w (do eqGuard .mul T x y (.int k a) (.int k b); binOp .mul T (.int k a) (.int k b)) (.int k (k.wrap (a * b))) := by
  simp [Runs, eqGuard_mul, binOp_mul, Op.intArith]
theorem b_lss : Runs P w (do eqGuard .lss T x y (.int k a) (.int k b); binOp .lss T (.int k a) (.int k b)) (.bool (decide (a < b))) := by simp [Runs, eqGuard_lss, binOp_lss]
theorem b_leq : Runs P w (do eqGuard .leq T x y (.int k a) (.int k b); binOp .leq T (.int k a) (.int k b)) (.bool (decide (a ≤ b))) := by simp [Runs, eqGuard_leq, binOp_leq]
theorem b_gtr : Runs P w (do eqGuard .gtr T x y (.int k a) (.int k b); binOp .gtr T (.int k a) (.int k b)) (.bool (decide (b < a))) := by simp [Runs, eqGuard_gtr, binOp_gtr]
theorem b_geq : Runs P w (do eqGuard .geq T x y (.int k a) (.int k b); binOp .geq T (.int k a) (.int k b)) (.bool (decide (b ≤ a))) := by simp [Runs, eqGuard_geq, binOp_geq]
theorem b_eql : Runs P w (do eqGuard .eql T x y (.int k a) (.int k b); binOp .eql T (.int k a) (.int k b)) (.bool (a == b)) := by simp [Runs, eqGuard_at_int, binOp_eql]
theorem b_neq : Runs P w (do eqGuard .neq T x y (.int k a) (.int k b); binOp .neq T (.int k a) (.int k b)) (.bool (a != b)) := by simp [Runs, eqGuard_at_int, binOp_neq]
variable {s t : ByteArray}
theorem b_seql : Runs P w (do eqGuard .eql T x y (.string s) (.string t); binOp .eql T (.string s) (.string t)) (.bool (strEq s t)) := by simp [Runs, eqGuard_at_string, binOp, Op.stringOp, strEq]
theorem b_sneq : Runs P w (do eqGuard .neq T x y (.string s) (.string t); binOp .neq T (.string s) (.string t)) (.bool (!strEq s t)) := by simp [Runs, eqGuard_at_string, binOp, Op.stringOp, strEq]
theorem b_slss : Runs P w (do eqGuard .lss T x y (.string s) (.string t); binOp .lss T (.string s) (.string t)) (.bool (strLt s t)) := by simp [Runs, eqGuard_at_string, binOp, Op.stringOp, strLt]
theorem b_sgtr : Runs P w (do eqGuard .gtr T x y (.string s) (.string t); binOp .gtr T (.string s) (.string t)) (.bool (!(strLt s t || strEq s t))) := by simp [Runs, eqGuard_at_string, binOp, Op.stringOp, strLt, strEq]
theorem b_sgeq : Runs P w (do eqGuard .geq T x y (.string s) (.string t); binOp .geq T (.string s) (.string t)) (.bool (!strLt s t)) := by simp [Runs, eqGuard_at_string, binOp, Op.stringOp, strLt]
theorem b_sleq : Runs P w (do eqGuard .leq T x y (.string s) (.string t); binOp .leq T (.string s) (.string t)) (.bool (strLt s t || strEq s t)) := by simp [Runs, eqGuard_at_string, binOp, Op.stringOp, strLt, strEq]
theorem run_eqBool (hT : P.underlying T = some .bool) (p q : Bool) (d : Nat) : (Op.equalIn (d + 1) T (.bool p) (.bool q)).run P w = .ok (p == q) w := by simp [Op.equalIn, run_underlying hT]
theorem b_beql {p q : Bool} (hT : P.underlying T = some .bool) : Runs P w (do eqGuard .eql T x y (.bool p) (.bool q); binOp .eql T (.bool p) (.bool q)) (.bool (p == q)) := by
  have h := run_eqBool (w := w) hT p q 9999
  show Sem.run P (do eqGuard .eql T x y (.bool p) (.bool q); pure (Value.bool (← Op.equalIn 10000 T (.bool p) (.bool q)))) w = _
  rw [eqGuard_at_bool]
  simp only [Sem.run_bind, Sem.run_pure, Result.andThen_ok, h]
theorem b_bneq {p q : Bool} (hT : P.underlying T = some .bool) : Runs P w (do eqGuard .neq T x y (.bool p) (.bool q); binOp .neq T (.bool p) (.bool q)) (.bool (p != q)) := by
  have h := run_eqBool (w := w) hT p q 9999
  show Sem.run P (do eqGuard .neq T x y (.bool p) (.bool q); pure (Value.bool (!(← Op.equalIn 10000 T (.bool p) (.bool q))))) w = _
  rw [eqGuard_at_bool]
  simp only [Sem.run_bind, Sem.run_pure, Result.andThen_ok, h]
  rfl
theorem u_not {p : Bool} : Runs P w (Op.unary .not (.bool p)) (.bool (!p)) := by simp [Runs, Op.unary]
theorem u_neg : Runs P w (Op.unary .neg (.int k a)) (.int k (k.wrap (0 - a))) := by simp [Runs, Op.unary, Op.intArith]
theorem cv_int {src dst : TypeId} {k' : IntKind} (hs : (P.underlying src).isSome = true) (hd : P.underlying dst = some (.int k')) : Runs P w (convert src dst (.int k a)) (.int k' (k'.wrap a)) := by
  obtain ⟨d, hd'⟩ := Option.isSome_iff_exists.1 hs
  simp [Runs, convert, run_underlying hd', run_underlying hd, Conv.intToInt]
theorem ix_str {j : Int} {c : UInt8} (hT : P.underlying T = some .string) (h : sidx s j = some c) : Runs P w (Instr.index T (.string s) (.int k j)) (.int .u8 (c.toNat : Int)) := by
  unfold sidx at h
  split at h
  · rename_i h0
    simp [Runs, Instr.index, asIntOf, run_underlying hT, h0, h]
  · cases h
end

/-! ### cuts -/
theorem cut_some {α : Type} {xs ys : List α} {lo hi : Int} (h : cut xs lo hi = some ys) : 0 ≤ lo ∧ lo ≤ hi ∧ hi ≤ (xs.length : Int) ∧ ys = (xs.take hi.toNat).drop lo.toNat := by
  unfold cut at h
  split at h
  · rename_i hh; simp only [Option.some.injEq] at h; exact ⟨hh.1, hh.2.1, hh.2.2, h.symm⟩
  · cases h
/-! ### guards, picks -/
section
variable {P : Program} {ops : Array Oper} {Q : Exit → Act → World → Prop} {n : Nat} {F : Fr} {rest : List Oper} {dst : Option Nat} {op : Op} {ty : TypeId} {pos : String} {aft : Array Edge} {w : World}
theorem wanted_at {j d : Nat} {want c : Bool} (hd : (ops[j]?).bind (·.dst) = some d) (hF : F d = .bool c) (hlt : Nat.blt d n = true) :
    Region.wanted ⟨dst, op, ty, pos, aft, some (j, want)⟩ (yielded ops (fr n F).tmps) = (c == want) := by
  have h2 : (fr n F).tmps[d]? = some (.bool c) := by simp [fr, blt_lt hlt, hF]
  have hy : yielded ops (fr n F).tmps j = some c := by
    unfold yielded
    rw [hd]
    show (match (fr n F).tmps[d]? with | some (.bool b) => some b | _ => none) = some c
    rw [h2]
  simp only [Region.wanted, hy]
  cases c <;> cases want <;> rfl
theorem r_min {t u : TypeId} {x y : Operand} (k : IntKind) (a b : Int) (hx : ev F x = .int k a) (hy : ev F y = .int k b) (hkx : opOk n x = true) (hky : opOk n y = true)
    (h : wpList P ops Q rest (fr n (putF F dst (.int k (min a b)))) w) :
    wpList P ops Q (⟨dst, .call ⟨.builtin .min, #[x, y], #[t, u]⟩, ty, pos, aft, none⟩ :: rest) (fr n F) w :=
  r_value rfl _ w (by
    have e : (if b < a then b else a) = min a b := by split <;> omega
    simp [execOp, resolve, invoke, builtin, eval_fr hkx, eval_fr hky, hx, hy, Builtin.min_, Builtin.min2]
    exact e) h
end
/-! ### parts of structs, ranges -/
/-- A variable that came in and is only read. -/
def Ro (B : Nat) (σ : S) (b : Nat) (T : TypeId) (cs : List Value) : Prop := b < B ∧ σ.w.heap[b]? = some (.cells cs.toArray T (0, 0))
section
variable {B id b : Nat} {σ τ : S} {T : TypeId} {cs : List Value}
theorem Ro.ext (h : Ro B σ b T cs) (k : Ext σ τ) : Ro B τ b T cs := ⟨h.1, (k.below.block b (heap_lt h.2)).trans h.2⟩
theorem Ro.cell (h : Ro B σ b T cs) (i : Nat) : σ.w.cell? ⟨b, i, none⟩ = cs[i]? := by simp [World.cell?, h.2]
theorem Ro.range (h : Ro B σ b T cs) (o : Nat) (vs : List Value) (hv : (cs.drop o).take vs.length = vs) : σ.w.rangeAt b o vs := by
  intro j v hj
  rw [h.cell]
  have hlt := (List.getElem?_eq_some_iff.1 hj).1
  rw [← hv, List.getElem?_take_of_lt hlt, List.getElem?_drop] at hj
  exact hj
end
/-! ### slices of slices -/
section
variable {P : Program} {α : Type} [Rp α] {σ : S} {T E : TypeId} {xs ys : List α} {A : Option Addr} {c : Nat}
theorem Sl.clip (h : Sl σ xs A c) : Sl σ xs A xs.length := by
  obtain ⟨h1, h2, h3⟩ := h
  exact ⟨Nat.le_refl _, Nat.le_trans h1 h2, h3⟩
theorem sl_zero {w : World} {len : Nat} {A : Option Addr} {c : Nat} (hT : P.underlying T = some (.slice E)) {k : Nat} (hE : (P.info? E).map (·.size) = some k) :
    Runs P w (Instr.sliceAt T (.slice A len c) none (some (.int .i64 0)) (some (.int .i64 0))) (.slice A 0 0) := by
  have := run_sizeOf hE w
  simp [Runs, Instr.sliceAt, Instr.slice, Instr.sliceBounds, Instr.sliceBound, asIntOf, run_underlying hT, this]
theorem sl_clip (h : Sl σ xs A c) (hT : P.underlying T = some (.slice E)) {k : Nat} (hE : (P.info? E).map (·.size) = some k) :
    Runs P σ.w (Instr.sliceAt T (.slice A xs.length c) none (some (.int .i64 (xs.length : Int))) (some (.int .i64 (xs.length : Int)))) (.slice A xs.length xs.length) := by
  have := run_sizeOf hE σ.w
  have hn := h.1
  have hlt : ¬ c < xs.length := by omega
  · cases A <;> simp [Runs, Instr.sliceAt, Instr.slice, Instr.sliceBounds, Instr.sliceBound, asIntOf, run_underlying hT, this, hlt, Addr.add]
theorem Sl.sub (h : Sl σ xs A c) {l hh : Nat} (h1 : l ≤ hh) (h2 : hh ≤ xs.length) : Sl σ ((xs.take hh).drop l) (if c = l then A else A.map (·.add (l * Rp.sz α))) (c - l) := by
  obtain ⟨k1, k2, cs, k3, k4⟩ := h
  have hlen : ((xs.take hh).drop l).length = hh - l := by simp; omega
  refine ⟨by rw [hlen]; omega, by omega, ?_⟩
  have hs : xs = xs.take l ++ ((xs.take hh).drop l ++ xs.drop hh) := by
    have e1 := List.take_append_drop l (xs.take hh)
    have e2 := List.take_append_drop hh xs
    have e3 : (xs.take hh).take l = xs.take l := by rw [List.take_take]; congr 1; omega
    rw [e3] at e1
    rw [← List.append_assoc, e1, e2]
  rw [hs] at k3
  obtain ⟨c1, d1, rfl, f1, f2⟩ := k3.split
  obtain ⟨c2, d2, rfl, f3, f4⟩ := f2.split
  refine ⟨c2, f3, fun hn => ?_⟩
  have hpos : 0 < hh - l := by rw [← hlen]; exact List.length_pos_iff.2 hn
  obtain ⟨b, o, rfl, hse⟩ := k4 (by intro e; rw [e] at h2; simp at h2; omega)
  rw [if_neg (by omega)]
  refine ⟨b, o + l * Rp.sz α, by simp [Addr.add_mid], ?_⟩
  have := (hse.app.2).app.1
  rw [f1.len, List.length_take, Nat.min_eq_left (by omega)] at this
  exact this
theorem sl_cut_l_h {lo hi : Int} (h : Sl σ xs A c) (hc : cut xs lo hi = some ys) (hT : P.underlying T = some (.slice E)) (hE : (P.info? E).map (·.size) = some (Rp.sz α)) :
    ∃ A' c', Runs P σ.w (Instr.sliceAt T (.slice A xs.length c) (some (.int .i64 lo)) (some (.int .i64 hi)) none) (.slice A' ys.length c') ∧ Sl σ ys A' c' := by
  obtain ⟨h1, h2, h3, rfl⟩ := cut_some hc
  have hk := h.1
  refine ⟨_, _, ?_, h.sub (l := lo.toNat) (hh := hi.toNat) (by omega) (by omega)⟩
  have hsz := run_sizeOf hE σ.w
  have a1 : hi ≤ (c : Int) := by omega
  have a2 : 0 ≤ hi := by omega
  have a3 : lo ≤ ((hi.toNat : Nat) : Int) := by omega
  have hlen : ((xs.take hi.toNat).drop lo.toNat).length = hi.toNat - lo.toNat := by simp; omega
  rw [hlen]
  simp only [Runs, Instr.sliceAt, Instr.slice, Instr.sliceBounds, Instr.sliceBound, asIntOf, Sem.run_bind, run_underlying hT, Result.andThen_ok, Sem.run_pure, if_pos (And.intro a2 a1), if_pos (And.intro h1 a3), hsz, if_true]
theorem sl_cut_h {hi : Int} (h : Sl σ xs A c) (hc : cut xs 0 hi = some ys) (hT : P.underlying T = some (.slice E)) (hE : (P.info? E).map (·.size) = some (Rp.sz α)) :
    ∃ A' c', Runs P σ.w (Instr.sliceAt T (.slice A xs.length c) none (some (.int .i64 hi)) none) (.slice A' ys.length c') ∧ Sl σ ys A' c' := by
  obtain ⟨h1, h2, h3, rfl⟩ := cut_some hc
  have hk := h.1
  refine ⟨_, _, ?_, h.sub (l := (0 : Int).toNat) (hh := hi.toNat) (by omega) (by omega)⟩
  have hsz := run_sizeOf hE σ.w
  have a1 : hi ≤ (c : Int) := by omega
  have hlen : ((xs.take hi.toNat).drop (0 : Int).toNat).length = hi.toNat - 0 := by simp; omega
  rw [hlen]
  simp only [Runs, Instr.sliceAt, Instr.slice, Instr.sliceBounds, Instr.sliceBound, asIntOf, Sem.run_bind, run_underlying hT, Result.andThen_ok, Sem.run_pure, if_pos (And.intro h2 a1), hsz]
  rfl
theorem sl_cut_l {lo : Int} (h : Sl σ xs A c) (hc : cut xs lo (xs.length : Int) = some ys) (hT : P.underlying T = some (.slice E)) (hE : (P.info? E).map (·.size) = some (Rp.sz α)) :
    ∃ A' c', Runs P σ.w (Instr.sliceAt T (.slice A xs.length c) (some (.int .i64 lo)) none none) (.slice A' ys.length c') ∧ Sl σ ys A' c' := by
  obtain ⟨h1, h2, h3, rfl⟩ := cut_some hc
  have hk := h.1
  refine ⟨_, _, ?_, h.sub (l := lo.toNat) (hh := (xs.length : Int).toNat) (by omega) (by omega)⟩
  have hsz := run_sizeOf hE σ.w
  have hlen : ((xs.take (xs.length : Int).toNat).drop lo.toNat).length = xs.length - lo.toNat := by simp
  rw [hlen]
  simp only [Runs, Instr.sliceAt, Instr.slice, Instr.sliceBounds, Instr.sliceBound, asIntOf, Sem.run_bind, run_underlying hT, Result.andThen_ok, Sem.run_pure, if_pos (And.intro h1 h2), hsz]
end

/-! ### nil slices, empty literals -/
theorem b_nil {P : Program} {w : World} {T E : TypeId} {x y : Operand} {A : Option Addr} {n c : Nat} (hT : P.underlying T = some (.slice E)) :
    Runs P w (do eqGuard .eql T x y (.slice A n c) (.slice none 0 0); binOp .eql T (.slice A n c) (.slice none 0 0)) (.bool A.isNone) := by
  have h : ∀ d : Nat, (Op.equalIn (d + 1) T (.slice A n c) (.slice none 0 0)).run P w = .ok A.isNone w := fun d => by
    cases A <;> simp [Op.equalIn, run_underlying hT]
  show Sem.run P (do eqGuard .eql T x y (.slice A n c) (.slice none 0 0); pure (Value.bool (← Op.equalIn 10000 T (.slice A n c) (.slice none 0 0)))) w = _
  rw [eqGuard_at_slice]
  simp only [Sem.run_bind, Sem.run_pure, Result.andThen_ok, h 9999]
theorem Sl.nil_of {α : Type} [Rp α] {σ : S} {xs : List α} {A : Option Addr} {c : Nat} (h : Sl σ xs A c) (hA : A.isNone = true) : xs = [] := by
  apply Classical.byContradiction
  intro hn
  obtain ⟨_, _, cs, _, h4⟩ := h
  obtain ⟨b, o, rfl, _⟩ := h4 hn
  cases hA
section
variable {P : Program} {ops : Array Oper} {Q : Exit → Act → World → Prop} {n : Nat} {F : Fr} {rest : List Oper} {d : Option Nat} {ty : TypeId} {pos : String} {aft : Array Edge} {σ : S}
theorem r_buildSlice0 {T E : TypeId} {z : Value} {size bytes : Nat} (hT : TySlice P T E z size bytes)
    (h : ∀ τ A, Ext σ τ → wpList P ops Q rest (fr n (putF F d (.slice A 0 0))) τ.w) :
    wpList P ops Q (⟨d, .buildSlice T 0 (List.toArray []), ty, pos, aft, none⟩ :: rest) (fr n F) σ.w := by
  obtain ⟨hu, ⟨i, hi, hz, hsi, hby⟩, hzs, hp, hbp⟩ := hT
  refine r_value rfl (.slice (some ⟨σ.N, 0, none⟩) 0 0) (σ.w.alloc (.cells #[] E)) ?_ (h _ _ (ext_alloc σ _ (0, 0)))
  show Sem.run P (do pure (Next.value (← Instr.buildSlice T 0 (Array.map _ (List.toArray []))))) σ.w = _
  simp [Instr.buildSlice, run_underlying hu, sizeOf, typeInfo, hi, Instr.fill, newRow, Array.range_zero']
end

/-! ### ways that meet again -/
section
variable {P : Program} {Q : Exit → Act → World → Prop} {x y z : Code} {a : Act} {w : World}
end

section
variable {P : Program} {ops : Array Oper} {Q : Exit → Act → World → Prop} {a : Act} {w : World}
end

/-! ### a function without a body -/
def strCmp (a b : ByteArray) : Int := Lib.compareBytes a.data.toList b.data.toList
section
variable {P : Program} {ops : Array Oper} {Q : Exit → Act → World → Prop} {n : Nat} {F : Fr} {rest : List Oper} {d : Option Nat} {ty : TypeId} {pos : String} {aft : Array Edge} {w : World}
theorem x_cmp {f : FuncId} {fn : Func} (hf : P.funcs[f]? = some fn) (hname : (fn.name == "runtime.NumGoroutine") = false) (hb : fn.body.isNone = true) (hn : Extern.findNext fn = none) (he : Extern.find fn = some Extern.BytealgCompare.compare) (a b : ByteArray) (w : World) :
    (callFunc f [Value.string a, .string b].toArray).run P w = .ok (.value (.int .i64 (strCmp a b))) w := by
  rw [run_callFunc_extern hf hname hb hn he]
  have := Lib.run_compareString (P := P) a b w
  simp only [strCmp]
  rw [this]
  rfl
end
end Go.Sx
