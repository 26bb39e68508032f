/- Short names, for the printed walks. -/
import Derived.Test.YtamfhohifmbjnaaSxPtr
import Derived.Test.YtamfhohifmbjnaaSxEq
namespace Go.Sx
open Go Go.RowKit
abbrev j0 := @wpList_nil
abbrev j1 := @p_then
abbrev j2 := @wp_seq
abbrev j3 := @wp_region_lit
abbrev j4 := @wp_block
abbrev j5 := @p_bn
abbrev j6 := @p_bx
abbrev j7 := @p_br
abbrev j8 := @p_thenx
abbrev j9 := @p_thenr
abbrev ja := @wp_skip
abbrev jb := @wp_ret
abbrev jc := @wp_exit
/-- One step of an operation of a drawn region that turned no memory. -/
theorem d0 {P : Program} {n : Nat} {B : FrR} {ops : Array Oper} {F : Fr} {d : Option Nat} {v : Value} {τ : S} {X : Value → S → Prop} (h : X v τ) :
    wpList P ops (posts fun a w => ∃ v υ, a = fr n (putF F d v) ∧ w = υ.w ∧ B.rel τ υ ∧ Wext τ υ ∧ X v υ) [] (fr n (putF F d v)) τ.w :=
  wpList_nil ⟨v, τ, rfl, rfl, B.refl _, Wext.refl _, h⟩
theorem ExtB.x {σ τ υ : S} (h : ExtB σ.N σ τ) (k : Ext τ υ) : ExtB σ.N σ υ := h.ext h.size k
theorem ExtB.y {σ τ υ : S} {id : Nat} (h : ExtB σ.N σ τ) (k : Mod σ.N id τ υ) : ExtB σ.N σ υ := h.mod h.size k
theorem ExtP.x {B id : Nat} {σ τ υ : S} (h : ExtP σ.N B id σ τ) (k : Ext τ υ) : ExtP σ.N B id σ υ := h.ext h.size k
theorem ExtP.y {B id id' : Nat} {σ τ υ : S} (h : ExtP σ.N B id σ τ) (k : Mod σ.N id' τ υ) : ExtP σ.N B id σ υ := h.mod h.size k
theorem ExtP.z {B id : Nat} {σ τ υ : S} (h : ExtP σ.N B id σ τ) (k : Mod B id τ υ) : ExtP σ.N B id σ υ := h.modp h.size k
theorem Mod.x {id : Nat} {σ τ : S} {N : Nat} (k : Mod N id σ τ) : Wext σ τ := k.wext
end Go.Sx
