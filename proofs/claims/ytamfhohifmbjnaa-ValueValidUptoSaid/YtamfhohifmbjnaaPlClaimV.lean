/- The law of validity: the statement. -/
import Derived.Test.YtamfhohifmbjnaaPlRefV
import Derived.Test.YtamfhohifmbjnaaPlRead
import Derived.Test.YtamfhohifmbjnaaWk6
import Derived.WalkKit
import Derived.ProofKit
import Derived.OpenShut
import Derived.Carry
import Derived.JoinedCond
namespace Go.Proofs.Ytamfhohifmbjnaa.valueValid
open Go Go.Sx Go.ChangeShapes Go.WideShapes Go.ChangeAt Go.RowKit

theorem own : ownKnob Go.Proofs.Try.prog.godebug = none := by kernel_rfl
theorem laid : laidOutB Go.Proofs.Try.prog = true := by kernel_rfl
theorem rec27 : Go.Proofs.Try.prog.readableRec 27 = true := by kernel_rfl
theorem lt27 : 27 < Go.Proofs.Try.prog.types.size := of_decide_eq_true (by kernel_rfl)
theorem rec28 : Go.Proofs.Try.prog.readableRec 28 = true := by kernel_rfl
theorem lt28 : 28 < Go.Proofs.Try.prog.types.size := of_decide_eq_true (by kernel_rfl)
theorem rec3 : Go.Proofs.Try.prog.readableRec 3 = true := by kernel_rfl
theorem lt3 : 3 < Go.Proofs.Try.prog.types.size := of_decide_eq_true (by kernel_rfl)
theorem rec2 : Go.Proofs.Try.prog.readableRec 2 = true := by kernel_rfl
theorem lt2 : 2 < Go.Proofs.Try.prog.types.size := of_decide_eq_true (by kernel_rfl)
theorem rec9 : Go.Proofs.Try.prog.readableRec 9 = true := by kernel_rfl
theorem lt9 : 9 < Go.Proofs.Try.prog.types.size := of_decide_eq_true (by kernel_rfl)
theorem read_int {H : Type} {enc : TypeId × Value → H} {w : World} {base : Nat} {spare : Nat → Bool} {held : Bool} {n : Nat} {cs : List Value} {x : DataW H × List MemPlace} (h : DataW.trod enc Go.Proofs.Try.prog w base spare held n 3 cs = some x) :
    ∃ d : Int, Rp.cells (allS w) d cs ∧ (0 : Nat) ≤ Rows.uptoBulk x.1 := by
  obtain ⟨k, e0, _, _⟩ := DataW.trod_int Go.Proofs.Try.underlying3 h
  exact ⟨k, e0, Nat.zero_le _⟩
theorem contract (H : Type) (enc : TypeId × Value → H) (W : World) (base : Nat) (args : Array Value) (ds gs : List (DataW H)) (before : List MemPlace)
    (hval : ∀ (j : Nat) t v, Go.Proofs.Try.f3.params[j]? = some t → args[j]? = some v → Value.okWide Go.Proofs.Try.prog W .any base t v)
    (hW : DataW.Whole enc Go.Proofs.Try.prog Go.Proofs.Try.f3.params.toList Rows.valueValidSpec.vars false W args.toList ds gs before)
    (hk : Rows.uptoSmall H (ds ++ gs) = true) :
    Calls Go.Proofs.Try.prog 3 args W fun e W' => ∃ v, e = .returned v ∧ Rows.valueValidSpec.post enc Go.Proofs.Try.prog Go.Proofs.Try.f3 false true false false W args v W' := by
  have hW' := hW
  obtain ⟨p, q, hA0, hV, rfl, hfz, hnd⟩ := hW
  have hA : DataW.TrodAll enc Go.Proofs.Try.prog W 0 (fun _ => true) true Go.Proofs.Try.f3.params.toList args.toList ds p := hA0
  rw [Go.Proofs.Try.params3] at hA hval
  obtain ⟨v0, vs0, d0, ds0, p0, q0, hargs, rfl, rfl, h0, r0⟩ := trodAll_cons hA
  obtain ⟨v1, vs1, d1, ds1, p1, q1, rfl, rfl, rfl, h1, r1⟩ := trodAll_cons r0
  obtain ⟨v2, vs2, d2, ds2, p2, q2, rfl, rfl, rfl, h2, r2⟩ := trodAll_cons r1
  obtain ⟨v3, vs3, d3, ds3, p3, q3, rfl, rfl, rfl, h3, r3⟩ := trodAll_cons r2
  obtain ⟨v4, vs4, d4, ds4, p4, q4, rfl, rfl, rfl, h4, r4⟩ := trodAll_cons r3
  obtain ⟨rfl, rfl, rfl⟩ := trodAll_nil r4
  obtain rfl : args = #[v0, v1, v2, v3, v4] := by cases args; simp_all
  obtain ⟨rfl, rfl⟩ := trodVars_none hV
  obtain ⟨c0, rfl, hc0⟩ := okWide_struct Go.Proofs.Try.underlying27 (hval 0 27 v0 rfl rfl)
  obtain ⟨A, len, cap, rfl⟩ := okWide_slice Go.Proofs.Try.underlying28 (hval 1 28 v1 rfl rfl)
  obtain ⟨a2, rfl⟩ := okWide_int Go.Proofs.Try.underlying3 (hval 2 3 v2 rfl rfl)
  obtain ⟨a3, rfl⟩ := okWide_int Go.Proofs.Try.underlying2 (hval 3 2 v3 rfl rfl)
  obtain ⟨s4, rfl⟩ := okWide_string Go.Proofs.Try.underlying9 (hval 4 9 v4 rfl rfl)
  obtain ⟨n0, t0⟩ := id h0
  obtain ⟨n1, t1⟩ := id h1
  obtain ⟨n4, t4⟩ := id h4
  obtain ⟨a0, k0, b0⟩ := (read_all n0).1 _ _ t0
  obtain ⟨a1, B, c, e1, k1, _⟩ := read_slice (α := Int) Go.Proofs.Try.underlying28 c3 (fun _ => 0) (fun n cs x _ h => read_int h) t1
  have e1' : [Value.slice A len cap] = [Value.slice B a1.length c] := e1
  obtain ⟨rfl, rfl, rfl⟩ : A = B ∧ len = a1.length ∧ cap = c := by simpa using e1'
  obtain ⟨a4, k4, b4⟩ := read_str t4
  have k4' : [Value.string s4] = [Value.string a4] := k4
  obtain rfl : s4 = a4 := by simpa using k4'
  have hb : bulkV a0 + bulkStr s4 ≤ 1048576 := by
    have h := of_decide_eq_true hk
    simp only [List.append_nil, Rows.uptoBulkAll] at h
    have b0' : bulkV a0 ≤ Rows.uptoBulk d0 := b0
    have b4' : bulkStr s4 ≤ Rows.uptoBulk d4 := b4
    omega
  obtain ⟨fuel, hfuel⟩ : ∃ n : Nat, 8388608 ≤ n := ⟨_, Nat.le_refl _⟩
  have ctr := ok_semtypelaw4_ValueValid fuel (allS W) (.agg c0) (.slice A a1.length cap) (.int .i64 a2) (.int .i64 a3) (.string s4) a0 a1 a2 a3 s4 true ⟨c0.toList, k0, rfl⟩ (RpV.mkList k1) (RpV.mkInt _ _) (RpV.mkInt _ _) (RpV.mkStr _ _) (law_valid fuel hfuel a0 a1 a2 a3 s4 hb)
  clear hA0
  have hlt := hW'.lt
  refine ctr.2.mono fun e W' ⟨v, τ, he, hw, hx, hr⟩ => ?_
  obtain rfl := hr.bool
  subst he
  subst hw
  have hbl : Below W.heap.size W τ.w := hx.below
  refine ⟨_, rfl, [d0, d1, d2, d3, d4], [], _, [], p0 ++ (p1 ++ (p2 ++ (p3 ++ (p4 ++ [])))), [], hW', ?_, ?_, rfl, hbl.frame _, fun h => by cases h⟩
  · exact trodAll_cons_mk (shut_bool Go.Proofs.Try.underlying4 _) trodAll_mk0
  · have s0 := Below.trod laid rec27 lt27 h0 hbl (fun x hx => hlt x (by simp [hx]))
    have s1 := Below.trod laid rec28 lt28 h1 hbl (fun x hx => hlt x (by simp [hx]))
    have s2 := Below.trod laid rec3 lt3 h2 hbl (fun x hx => hlt x (by simp [hx]))
    have s3 := Below.trod laid rec2 lt2 h3 hbl (fun x hx => hlt x (by simp [hx]))
    have s4 := Below.trod laid rec9 lt9 h4 hbl (fun x hx => hlt x (by simp [hx]))
    exact trodAll_cons_mk s0 (trodAll_cons_mk s1 (trodAll_cons_mk s2 (trodAll_cons_mk s3 (trodAll_cons_mk s4 trodAll_mk0))))

set_option maxRecDepth 100000 in
theorem lifted (os : Os) (started : os.Started) (H : Type) (enc : TypeId × Value → H) (F : Stop.Interp) :
    ReturnsInHanded {} Go.Proofs.Try.checked os 3 .any ((Rows.OpenSpec.upto Rows.valueValidSpec).pre6 enc Go.Proofs.Try.prog Go.Proofs.Try.f3 Rows.valueValidUptoRow.domain false) (((Rows.OpenSpec.upto Rows.valueValidSpec).at F).post enc Go.Proofs.Try.prog Go.Proofs.Try.f3 false true false false) := by
  refine returnsInHanded_of_cond (C := Go.Proofs.Try.checked) (s := Rows.OpenSpec.upto Rows.valueValidSpec) (k := Rows.uptoSmall) rfl own started (by kernel_rfl) Go.Proofs.Try.func3
    (OpenSpec.witness (enc := enc) (C := Go.Proofs.Try.checked) (s := Rows.OpenSpec.upto Rows.valueValidSpec) (k := Rows.uptoSmall) rfl false
      ⟨#[], #[.agg #[.int .i64 0, .int .i64 0, .string ⟨#[]⟩, .slice none 0 0, .slice none 0 0, .slice none 0 0, .slice none 0 0], .slice none 0 0, .int .i64 0, .int .i64 0, .string ⟨#[]⟩], []⟩ 8
      (by kernel_rfl) (by kernel_rfl) (by kernel_rfl)
      (x := ([.agg [.lit (.int .i64 0), .lit (.int .i64 0), .lit (.string []), .nil, .nil, .nil, .nil], .nil, .lit (.int .i64 0), .lit (.int .i64 0), .lit (.string [])], [], [])) (by kernel_rfl) rfl (by kernel_rfl)) ?_
  intro W base args ds gs before hval hW _ hk _
  exact contract H enc W base args ds gs before hval hW hk

theorem over : Rows.valueValidUptoRow.holds Try.pinned (Rows.OpenSpec.upto Rows.valueValidSpec) :=
  OpenClaim.holds_of_cond 3 Go.Proofs.Try.f3 rfl rfl rfl rfl rfl rfl rfl ⟨rfl, rfl, rfl, rfl, rfl⟩ rfl rfl rfl rfl rfl (by kernel_rfl) Go.Proofs.Try.func3 (by kernel_rfl)
    (of_decide_eq_true (by kernel_rfl)) (by unfold Func.isWrapper; first | (rw [if_pos (by decide +kernel)]; kernel_rfl) | (rw [if_neg (by decide +kernel)]; exact ⟨rfl, rfl⟩))
    (fun os started H enc _ F => lifted os started H enc F)

theorem proved : Rows.ValueValidUptoSaid :=
  over
end Go.Proofs.Ytamfhohifmbjnaa.valueValid
