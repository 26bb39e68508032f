/- Short names, for the printed walks. -/
import Derived.Test.YtamfhohifmbjnaaSxPtr
import Derived.Test.YtamfhohifmbjnaaSxEq
namespace Go.Sx
open Go Go.RowKit
abbrev iv (n : Int) : Value := .int .i64 n
abbrev bv (b : Bool) : Value := .bool b
abbrev tv (s : ByteArray) : Value := .string s
abbrev lv (A : Option Addr) (n c : Nat) : Value := .slice A n c
abbrev oi := @Option.some.inj
theorem nc {c d e : Bool} {A : Prop} (x : c = d) (h : c = e) (hd : (d == e) = false := by rfl) : A := by subst x; subst h; simp at hd
abbrev j0 := @wpList_nil
abbrev j1 := @p_then
abbrev j2 := @wp_seq
abbrev j3 := @wp_region_lit
abbrev j4 := @wp_block
abbrev j5 := @p_bn
abbrev j6 := @p_bx
abbrev j7 := @p_br
abbrev j8 := @p_thenx
abbrev j9 := @p_thenr
abbrev ja := @wp_skip
abbrev jb := @wp_ret
abbrev jc := @wp_exit
/-- One step of an operation of a drawn region that turned no memory. -/
theorem d0 {P : Program} {n : Nat} {B : FrR} {ops : Array Oper} {F : Fr} {d : Option Nat} {v : Value} {τ : S} {X : Value → S → Prop} (h : X v τ) :
    wpList P ops (posts fun a w => ∃ v υ, a = fr n (putF F d v) ∧ w = υ.w ∧ B.rel τ υ ∧ Wext τ υ ∧ X v υ) [] (fr n (putF F d v)) τ.w :=
  wpList_nil ⟨v, τ, rfl, rfl, B.refl _, Wext.refl _, h⟩
theorem ExtB.x {σ τ υ : S} (h : ExtB σ.N σ τ) (k : Ext τ υ) : ExtB σ.N σ υ := h.ext h.size k
theorem ExtB.y {σ τ υ : S} {id : Nat} (h : ExtB σ.N σ τ) (k : Mod σ.N id τ υ) : ExtB σ.N σ υ := h.mod h.size k
theorem ExtP.x {B id : Nat} {σ τ υ : S} (h : ExtP σ.N B id σ τ) (k : Ext τ υ) : ExtP σ.N B id σ υ := h.ext h.size k
theorem ExtP.y {B id id' : Nat} {σ τ υ : S} (h : ExtP σ.N B id σ τ) (k : Mod σ.N id' τ υ) : ExtP σ.N B id σ υ := h.mod h.size k
theorem ExtP.z {B id : Nat} {σ τ υ : S} (h : ExtP σ.N B id σ τ) (k : Mod B id τ υ) : ExtP σ.N B id σ υ := h.modp h.size k
theorem Mod.x {id : Nat} {σ τ : S} {N : Nat} (k : Mod N id σ τ) : Wext σ τ := k.wext
/-- The like, where the memory grew. -/
theorem d1 {P : Program} {n : Nat} {N : Nat} {ops : Array Oper} {F : Fr} {d : Option Nat} {v : Value} {σ τ υ : S} {X : Value → S → Prop} (hE : ExtB N σ τ) (hN : N ≤ σ.N) (k : Ext τ υ) (h : X v υ) :
    wpList P ops (posts fun a w => ∃ v υ, a = fr n (putF F d v) ∧ w = υ.w ∧ (frExt N).rel τ υ ∧ Wext τ υ ∧ X v υ) [] (fr n (putF F d v)) υ.w :=
  wpList_nil ⟨v, υ, rfl, rfl, k.mono (Nat.le_trans hN hE.size), k.wext, h⟩
abbrev rg (n : Nat) : List Nat := List.range n
abbrev sm (a n : Nat) : List (Option Nat) := (List.range n).map fun i => some (a + i)
section
variable {A X Y : Prop} {o : Option Nat} {F : Fr} {dj : Nat} {c want : Bool}
theorem gd1 (ho : o = some dj) (q : F dj = .bool c) (hc : c = want) (hx : X) : A ∨ ∃ c, (∀ d, o = some d → F d = .bool c) ∧ (c = want → X) ∧ (c ≠ want → Y) :=
  .inr ⟨c, fun d hd => by rw [ho] at hd; cases hd; exact q, fun _ => hx, fun h => absurd hc h⟩
theorem gd0 (ho : o = some dj) (q : F dj = .bool c) (hc : c = !want) (hy : Y) : A ∨ ∃ c, (∀ d, o = some d → F d = .bool c) ∧ (c = want → X) ∧ (c ≠ want → Y) :=
  .inr ⟨c, fun d hd => by rw [ho] at hd; cases hd; exact q, fun h => (by have e := hc.symm.trans h; cases want <;> cases e), fun _ => hy⟩
theorem gdu {B : Prop} (ho : o = some dj) (q : F dj = undef) (hy : X) : ((∀ d, o = some d → F d = undef) ∧ X) ∨ B := .inl ⟨fun d hd => by rw [ho] at hd; cases hd; exact q, hy⟩
end
end Go.Sx
