/- The law of the order: the statement. -/
import Derived.Test.YtamfhohifmbjnaaPlOrd2
import Derived.Test.YtamfhohifmbjnaaPlRead
import Derived.Test.YtamfhohifmbjnaaWk5
import Derived.WalkKit
import Derived.ProofKit
import Derived.OpenShut
import Derived.Carry
import Derived.JoinedCond
namespace Go.Proofs.Ytamfhohifmbjnaa.valueOrder
open Go Go.Sx Go.ChangeShapes Go.WideShapes Go.ChangeAt Go.RowKit

theorem own : ownKnob Go.Proofs.Try.prog.godebug = none := by kernel_rfl
theorem laid : laidOutB Go.Proofs.Try.prog = true := by kernel_rfl
theorem rec27 : Go.Proofs.Try.prog.readableRec 27 = true := by kernel_rfl
theorem lt27 : 27 < Go.Proofs.Try.prog.types.size := of_decide_eq_true (by kernel_rfl)

theorem contract (H : Type) (enc : TypeId × Value → H) (W : World) (base : Nat) (args : Array Value) (ds gs : List (DataW H)) (before : List MemPlace)
    (hval : ∀ (j : Nat) t v, Go.Proofs.Try.f4.params[j]? = some t → args[j]? = some v → Value.okWide Go.Proofs.Try.prog W .any base t v)
    (hW : DataW.Whole enc Go.Proofs.Try.prog Go.Proofs.Try.f4.params.toList Rows.valueOrderSpec.vars false W args.toList ds gs before)
    (hk : Rows.uptoSmall H (ds ++ gs) = true) :
    Calls Go.Proofs.Try.prog 4 args W fun e W' => ∃ v, e = .returned v ∧ Rows.valueOrderSpec.post enc Go.Proofs.Try.prog Go.Proofs.Try.f4 false true false false W args v W' := by
  have hW' := hW
  obtain ⟨p, q, hA0, hV, rfl, hfz, hnd⟩ := hW
  have hA : DataW.TrodAll enc Go.Proofs.Try.prog W 0 (fun _ => true) true Go.Proofs.Try.f4.params.toList args.toList ds p := hA0
  rw [Go.Proofs.Try.params4] at hA hval
  obtain ⟨v0, vs0, d0, ds0, p0, q0, hargs, rfl, rfl, h0, r0⟩ := trodAll_cons hA
  obtain ⟨v1, vs1, d1, ds1, p1, q1, rfl, rfl, rfl, h1, r1⟩ := trodAll_cons r0
  obtain ⟨v2, vs2, d2, ds2, p2, q2, rfl, rfl, rfl, h2, r2⟩ := trodAll_cons r1
  obtain ⟨rfl, rfl, rfl⟩ := trodAll_nil r2
  obtain rfl : args = #[v0, v1, v2] := by cases args; simp_all
  obtain ⟨rfl, rfl⟩ := trodVars_none hV
  obtain ⟨c0, rfl, hc0⟩ := okWide_struct Go.Proofs.Try.underlying27 (hval 0 27 v0 rfl rfl)
  obtain ⟨c1, rfl, hc1⟩ := okWide_struct Go.Proofs.Try.underlying27 (hval 1 27 v1 rfl rfl)
  obtain ⟨c2, rfl, hc2⟩ := okWide_struct Go.Proofs.Try.underlying27 (hval 2 27 v2 rfl rfl)
  obtain ⟨n0, t0⟩ := id h0
  obtain ⟨n1, t1⟩ := id h1
  obtain ⟨n2, t2⟩ := id h2
  obtain ⟨a0, k0, b0⟩ := (read_all n0).1 _ _ t0
  obtain ⟨a1, k1, b1⟩ := (read_all n1).1 _ _ t1
  obtain ⟨a2, k2, b2⟩ := (read_all n2).1 _ _ t2
  have hb : bulkV a0 + bulkV a1 + bulkV a2 ≤ 1048576 := by
    have h := of_decide_eq_true hk
    simp only [List.append_nil, Rows.uptoBulkAll] at h
    have b0' : bulkV a0 ≤ Rows.uptoBulk d0 := b0
    have b1' : bulkV a1 ≤ Rows.uptoBulk d1 := b1
    have b2' : bulkV a2 ≤ Rows.uptoBulk d2 := b2
    omega
  obtain ⟨fuel, hfuel⟩ : ∃ n : Nat, 8388608 ≤ n := ⟨_, Nat.le_refl _⟩
  have ctr := ok_semtypelaw4_ValueOrder fuel (allS W) (.agg c0) (.agg c1) (.agg c2) a0 a1 a2 true ⟨c0.toList, k0, rfl⟩ ⟨c1.toList, k1, rfl⟩ ⟨c2.toList, k2, rfl⟩ (law_order fuel hfuel a0 a1 a2 hb)
  clear hA0
  have hlt := hW'.lt
  refine ctr.2.mono fun e W' ⟨v, τ, he, hw, hx, hr⟩ => ?_
  obtain rfl := hr.bool
  subst he
  subst hw
  have hbl : Below W.heap.size W τ.w := hx.below
  refine ⟨_, rfl, [d0, d1, d2], [], _, [], p0 ++ (p1 ++ (p2 ++ [])), [], hW', ?_, ?_, rfl, hbl.frame _, fun h => by cases h⟩
  · exact trodAll_cons_mk (shut_bool Go.Proofs.Try.underlying4 _) trodAll_mk0
  · have s0 := Below.trod laid rec27 lt27 h0 hbl (fun x hx => hlt x (by simp [hx]))
    have s1 := Below.trod laid rec27 lt27 h1 hbl (fun x hx => hlt x (by simp [hx]))
    have s2 := Below.trod laid rec27 lt27 h2 hbl (fun x hx => hlt x (by simp [hx]))
    exact trodAll_cons_mk s0 (trodAll_cons_mk s1 (trodAll_cons_mk s2 trodAll_mk0))

set_option maxRecDepth 100000 in
theorem lifted (os : Os) (started : os.Started) (H : Type) (enc : TypeId × Value → H) (F : Stop.Interp) :
    ReturnsInHanded {} Go.Proofs.Try.checked os 4 .any ((Rows.OpenSpec.upto Rows.valueOrderSpec).pre6 enc Go.Proofs.Try.prog Go.Proofs.Try.f4 Rows.valueOrderUptoRow.domain false) (((Rows.OpenSpec.upto Rows.valueOrderSpec).at F).post enc Go.Proofs.Try.prog Go.Proofs.Try.f4 false true false false) := by
  refine returnsInHanded_of_cond (C := Go.Proofs.Try.checked) (s := Rows.OpenSpec.upto Rows.valueOrderSpec) (k := Rows.uptoSmall) rfl own started (by kernel_rfl) Go.Proofs.Try.func4
    (OpenSpec.witness (enc := enc) (C := Go.Proofs.Try.checked) (s := Rows.OpenSpec.upto Rows.valueOrderSpec) (k := Rows.uptoSmall) rfl false
      ⟨#[], #[.agg #[.int .i64 0, .int .i64 0, .string ⟨#[]⟩, .slice none 0 0, .slice none 0 0, .slice none 0 0, .slice none 0 0], .agg #[.int .i64 0, .int .i64 0, .string ⟨#[]⟩, .slice none 0 0, .slice none 0 0, .slice none 0 0, .slice none 0 0], .agg #[.int .i64 0, .int .i64 0, .string ⟨#[]⟩, .slice none 0 0, .slice none 0 0, .slice none 0 0, .slice none 0 0]], []⟩ 8
      (by kernel_rfl) (by kernel_rfl) (by kernel_rfl)
      (x := ([.agg [.lit (.int .i64 0), .lit (.int .i64 0), .lit (.string []), .nil, .nil, .nil, .nil], .agg [.lit (.int .i64 0), .lit (.int .i64 0), .lit (.string []), .nil, .nil, .nil, .nil], .agg [.lit (.int .i64 0), .lit (.int .i64 0), .lit (.string []), .nil, .nil, .nil, .nil]], [], [])) (by kernel_rfl) rfl (by kernel_rfl)) ?_
  intro W base args ds gs before hval hW _ hk _
  exact contract H enc W base args ds gs before hval hW hk

theorem over : Rows.valueOrderUptoRow.holds Try.pinned (Rows.OpenSpec.upto Rows.valueOrderSpec) :=
  OpenClaim.holds_of_cond 4 Go.Proofs.Try.f4 rfl rfl rfl rfl rfl rfl rfl ⟨rfl, rfl, rfl, rfl, rfl⟩ rfl rfl rfl rfl rfl (by kernel_rfl) Go.Proofs.Try.func4 (by kernel_rfl)
    (of_decide_eq_true (by kernel_rfl)) (by unfold Func.isWrapper; first | (rw [if_pos (by decide +kernel)]; kernel_rfl) | (rw [if_neg (by decide +kernel)]; exact ⟨rfl, rfl⟩))
    (fun os started H enc _ F => lifted os started H enc F)

theorem proved : Rows.ValueOrderUptoSaid :=
  over
end Go.Proofs.Ytamfhohifmbjnaa.valueOrder
