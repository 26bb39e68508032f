/- The law of the constructors: the statement. -/
import Derived.Test.YtamfhohifmbjnaaPlLawB
import Derived.Test.YtamfhohifmbjnaaPlRead0
import Derived.Test.YtamfhohifmbjnaaWk5
import Derived.WalkKit
import Derived.ProofKit
import Derived.OpenShut
import Derived.Carry
import Derived.JoinedCond
namespace Go.Proofs.Ytamfhohifmbjnaa.valueBuilds
open Go Go.Sx Go.ChangeShapes Go.WideShapes Go.ChangeAt Go.RowKit

theorem own : ownKnob Go.Proofs.Try.prog.godebug = none := by kernel_rfl
theorem laid : laidOutB Go.Proofs.Try.prog = true := by kernel_rfl
theorem rec40 : Go.Proofs.Try.prog.readableRec 40 = true := by kernel_rfl
theorem lt40 : 40 < Go.Proofs.Try.prog.types.size := of_decide_eq_true (by kernel_rfl)
theorem rec2 : Go.Proofs.Try.prog.readableRec 2 = true := by kernel_rfl
theorem lt2 : 2 < Go.Proofs.Try.prog.types.size := of_decide_eq_true (by kernel_rfl)
theorem rec9 : Go.Proofs.Try.prog.readableRec 9 = true := by kernel_rfl
theorem lt9 : 9 < Go.Proofs.Try.prog.types.size := of_decide_eq_true (by kernel_rfl)
theorem c28 : Go.Proofs.Try.prog.cellsOf 28 = 1 := by kernel_rfl
theorem read_int {H : Type} {enc : TypeId × Value → H} {w : World} {base : Nat} {spare : Nat → Bool} {held : Bool} {n : Nat} {cs : List Value} {x : DataW H × List MemPlace} (h : DataW.trod enc Go.Proofs.Try.prog w base spare held n 3 cs = some x) :
    ∃ d : Int, Rp.cells (allS w) d cs ∧ (0 : Nat) ≤ Rows.uptoBulk x.1 := by
  obtain ⟨k, e0, _, _⟩ := DataW.trod_int Go.Proofs.Try.underlying3 h
  exact ⟨k, e0, Nat.zero_le _⟩
theorem read_ints {H : Type} {enc : TypeId × Value → H} {w : World} {base : Nat} {spare : Nat → Bool} {held : Bool} {n : Nat} {cs : List Value} {x : DataW H × List MemPlace} (h : DataW.trod enc Go.Proofs.Try.prog w base spare held n 28 cs = some x) :
    ∃ d : List Int, Rp.cells (allS w) d cs ∧ (0 : Nat) ≤ Rows.uptoBulk x.1 := by
  obtain ⟨ds, A, c, e, hs, _⟩ := read_slice (α := Int) Go.Proofs.Try.underlying28 c3 (fun _ => 0) (fun n cs x _ h => read_int h) h
  exact ⟨ds, ⟨A, c, e, hs⟩, Nat.zero_le _⟩

theorem contract (H : Type) (enc : TypeId × Value → H) (W : World) (base : Nat) (args : Array Value) (ds gs : List (DataW H)) (before : List MemPlace)
    (hval : ∀ (j : Nat) t v, Go.Proofs.Try.f6.params[j]? = some t → args[j]? = some v → Value.okWide Go.Proofs.Try.prog W .any base t v)
    (hW : DataW.Whole enc Go.Proofs.Try.prog Go.Proofs.Try.f6.params.toList Rows.valueBuildsSpec.vars false W args.toList ds gs before)
    (hk : Rows.uptoSmall H (ds ++ gs) = true) :
    Calls Go.Proofs.Try.prog 6 args W fun e W' => ∃ v, e = .returned v ∧ Rows.valueBuildsSpec.post enc Go.Proofs.Try.prog Go.Proofs.Try.f6 false true false false W args v W' := by
  have hW' := hW
  obtain ⟨p, q, hA0, hV, rfl, hfz, hnd⟩ := hW
  have hA : DataW.TrodAll enc Go.Proofs.Try.prog W 0 (fun _ => true) true Go.Proofs.Try.f6.params.toList args.toList ds p := hA0
  rw [Go.Proofs.Try.params6] at hA hval
  obtain ⟨v0, vs0, d0, ds0, p0, q0, hargs, rfl, rfl, h0, r0⟩ := trodAll_cons hA
  obtain ⟨v1, vs1, d1, ds1, p1, q1, rfl, rfl, rfl, h1, r1⟩ := trodAll_cons r0
  obtain ⟨v2, vs2, d2, ds2, p2, q2, rfl, rfl, rfl, h2, r2⟩ := trodAll_cons r1
  obtain ⟨rfl, rfl, rfl⟩ := trodAll_nil r2
  obtain rfl : args = #[v0, v1, v2] := by cases args; simp_all
  obtain ⟨rfl, rfl⟩ := trodVars_none hV
  obtain ⟨A, len, cap, rfl⟩ := okWide_slice Go.Proofs.Try.underlying40 (hval 0 40 v0 rfl rfl)
  obtain ⟨a1, rfl⟩ := okWide_int Go.Proofs.Try.underlying2 (hval 1 2 v1 rfl rfl)
  obtain ⟨a2, rfl⟩ := okWide_string Go.Proofs.Try.underlying9 (hval 2 9 v2 rfl rfl)
  obtain ⟨n0, t0⟩ := id h0
  obtain ⟨a0, B, c, e0, k0, _⟩ := read_slice (α := List Int) Go.Proofs.Try.underlying40 c28 (fun _ => 0) (fun n cs x _ h => read_ints h) t0
  have e0' : [Value.slice A len cap] = [Value.slice B a0.length c] := e0
  obtain ⟨rfl, rfl, rfl⟩ : A = B ∧ len = a0.length ∧ cap = c := by simpa using e0'
  obtain ⟨fuel, hfuel⟩ : ∃ n : Nat, 8388608 ≤ n := ⟨_, Nat.le_refl _⟩
  have ctr := ok_semtypelaw4_ValueBuilds fuel (allS W) (.slice A a0.length cap) (.int .i64 a1) (.string a2) a0 a1 a2 true (RpV.mkList k0) (RpV.mkInt _ _) (RpV.mkStr _ _) (law_builds fuel hfuel a0 a1 a2)
  clear hA0
  have hlt := hW'.lt
  refine ctr.2.mono fun e W' ⟨v, τ, he, hw, hx, hr⟩ => ?_
  obtain rfl := hr.bool
  subst he
  subst hw
  have hbl : Below W.heap.size W τ.w := hx.below
  refine ⟨_, rfl, [d0, d1, d2], [], _, [], p0 ++ (p1 ++ (p2 ++ [])), [], hW', ?_, ?_, rfl, hbl.frame _, fun h => by cases h⟩
  · exact trodAll_cons_mk (shut_bool Go.Proofs.Try.underlying4 _) trodAll_mk0
  · have s0 := Below.trod laid rec40 lt40 h0 hbl (fun x hx => hlt x (by simp [hx]))
    have s1 := Below.trod laid rec2 lt2 h1 hbl (fun x hx => hlt x (by simp [hx]))
    have s2 := Below.trod laid rec9 lt9 h2 hbl (fun x hx => hlt x (by simp [hx]))
    exact trodAll_cons_mk s0 (trodAll_cons_mk s1 (trodAll_cons_mk s2 trodAll_mk0))

set_option maxRecDepth 100000 in
theorem lifted (os : Os) (started : os.Started) (H : Type) (enc : TypeId × Value → H) (F : Stop.Interp) :
    ReturnsInHanded {} Go.Proofs.Try.checked os 6 .any ((Rows.OpenSpec.upto Rows.valueBuildsSpec).pre6 enc Go.Proofs.Try.prog Go.Proofs.Try.f6 Rows.valueBuildsUptoRow.domain false) (((Rows.OpenSpec.upto Rows.valueBuildsSpec).at F).post enc Go.Proofs.Try.prog Go.Proofs.Try.f6 false true false false) := by
  refine returnsInHanded_of_cond (C := Go.Proofs.Try.checked) (s := Rows.OpenSpec.upto Rows.valueBuildsSpec) (k := Rows.uptoSmall) rfl own started (by kernel_rfl) Go.Proofs.Try.func6
    (OpenSpec.witness (enc := enc) (C := Go.Proofs.Try.checked) (s := Rows.OpenSpec.upto Rows.valueBuildsSpec) (k := Rows.uptoSmall) rfl false
      ⟨#[], #[.slice none 0 0, .int .i64 0, .string ⟨#[]⟩], []⟩ 8
      (by kernel_rfl) (by kernel_rfl) (by kernel_rfl)
      (x := ([.nil, .lit (.int .i64 0), .lit (.string [])], [], [])) (by kernel_rfl) rfl (by kernel_rfl)) ?_
  intro W base args ds gs before hval hW _ hk _
  exact contract H enc W base args ds gs before hval hW hk

theorem over : Rows.valueBuildsUptoRow.holds Try.pinned (Rows.OpenSpec.upto Rows.valueBuildsSpec) :=
  OpenClaim.holds_of_cond 6 Go.Proofs.Try.f6 rfl rfl rfl rfl rfl rfl rfl ⟨rfl, rfl, rfl, rfl, rfl⟩ rfl rfl rfl rfl rfl (by kernel_rfl) Go.Proofs.Try.func6 (by kernel_rfl)
    (of_decide_eq_true (by kernel_rfl)) (by unfold Func.isWrapper; first | (rw [if_pos (by decide +kernel)]; kernel_rfl) | (rw [if_neg (by decide +kernel)]; exact ⟨rfl, rfl⟩))
    (fun os started H enc _ F => lifted os started H enc F)

theorem proved : Rows.ValueBuildsUptoSaid :=
  over
end Go.Proofs.Ytamfhohifmbjnaa.valueBuilds
