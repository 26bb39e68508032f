/- The law of boxes (P10.1): whatever sets the indices stand for, a list of elements is in all positive rows and in no negative one exactly if it is in some box. -/
import Derived.Test.YtcbgcnbnnodhdaaGreatK3
import Derived.WalkKit
import Derived.ProofKit
import Derived.OpenShut
import Derived.Carry
import Derived.JoinedCond
namespace Go.Proofs.YtcbgcnbnnodhdaaGreat.productBoxes
open Go Go.Sx Go.Pl Go.Qx Go.ChangeShapes Go.WideShapes Go.ChangeAt Go.RowKit
theorem own : ownKnob Go.Proofs.Tryz.prog.godebug = none := by kernel_rfl
theorem laid : laidOutB Go.Proofs.Tryz.prog = true := by kernel_rfl
theorem b9A : Go.Proofs.Tryz.prog.readableRec 3 = true := by kernel_rfl
theorem lt3 : 3 < Go.Proofs.Tryz.prog.types.size := of_decide_eq_true (by kernel_rfl)
theorem b7c : Go.Proofs.Tryz.prog.readableRec 22 = true := by kernel_rfl
theorem b8A : 22 < Go.Proofs.Tryz.prog.types.size := of_decide_eq_true (by kernel_rfl)
theorem b9l : Go.Proofs.Tryz.prog.readableRec 23 = true := by kernel_rfl
theorem b9y : 23 < Go.Proofs.Tryz.prog.types.size := of_decide_eq_true (by kernel_rfl)
theorem b9U {fuel : Nat} {σ : S} {a0 : Int} {a1 : List Int} {a2 : List Int} {a3 : List Int} {v0 v1 v2 v3 : Value} (h0 : v0 = .int .i64 a0) (h1 : ∃ A c, v1 = .slice A a1.length c /\ @Sl _ (rpK .i64) σ a1 A c) (h2 : ∃ A c, v2 = .slice A a2.length c /\ @Sl _ (rpK .i64) σ a2 A c) (h3 : ∃ A c, v3 = .slice A a3.length c /\ @Sl _ (rpK .u8) σ a3 A c) (hr : W9 fuel a0 a1 a2 a3 = some true) :
 Calls Go.Proofs.Tryz.prog 3 #[v0, v1, v2, v3] σ.w fun e W' => e = .returned (.bool true) /\ Below σ.w.heap.size σ.w W' := by
 have hc := a4g fuel σ (a0, a1, a2, a3, ()) [v0, v1, v2, v3] [] true ⟨v0, [v1, v2, v3], [], [], rfl, rfl, ⟨h0, rfl⟩, v1, [v2, v3], [], [], rfl, rfl, ⟨h1, rfl⟩, v2, [v3], [], [], rfl, rfl, ⟨h2, rfl⟩, v3, [], [], [], rfl, rfl, ⟨h3, rfl⟩, rfl, rfl⟩ List.nodup_nil hr
 rcases hc with ⟨_, hc⟩ | ⟨v, τ, hc, _⟩
 ·refine hc.mono fun e w' ⟨v, τ, he, hw, hst, ws, us, pls, hp⟩ => ?_
  subst hw
  refine ⟨?_, hst.os, hst.tape, hst.output, hst.wext.size, fun b hb => (hst.block b hb (fun h => by cases h)).1⟩
  obtain ⟨u, hu, ht⟩ := hp.tt
  have hu' : ws ++ us = [u] := hu
  have ho : us = [] := hp.out
  subst ho
  rw [List.append_nil] at hu'
  rw [he, hp.ret, hu']
  have ht' : u = .bool true /\ pls = [] := ht
  rw [ht'.1]
  rfl
 ·exact absurd hc (by
   have e := enters_of Go.Proofs.Tryz.func3 (by kernel_rfl) rfl #[v0, v1, v2, v3] σ.w
   intro hc
   have hc : (callFunc 3 #[v0, v1, v2, v3]).run Go.Proofs.Tryz.prog σ.w = .ok (.value v) τ.w := hc
   have := hc.symm.trans e
   cases this)
set_option maxRecDepth 100000 in
theorem b6X (H : Type) (enc : TypeId × Value -> H) (W : World) (base : Nat) (args : Array Value) (ds gs : List (DataW H)) (before : List MemPlace)
 (hval : ∀ (j : Nat) t v, Go.Proofs.Tryz.f3.params[j]? = some t -> args[j]? = some v -> Value.okWide Go.Proofs.Tryz.prog W .any base t v)
 (hW : DataW.Whole enc Go.Proofs.Tryz.prog Go.Proofs.Tryz.f3.params.toList Rows.productBoxesSpec.vars false W args.toList ds gs before)
 (hk : Rows.uptoSmall H (ds ++ gs) = true) :
 Calls Go.Proofs.Tryz.prog 3 args W fun e W' => ∃ v, e = .returned v /\ Rows.productBoxesSpec.post enc Go.Proofs.Tryz.prog Go.Proofs.Tryz.f3 false true false false W args v W' := by
 have hW' := hW
 obtain ⟨p, q, hA0, hV, rfl, hfz, hnd⟩ := hW
 have hA : DataW.TrodAll enc Go.Proofs.Tryz.prog W 0 (fun _ => true) true Go.Proofs.Tryz.f3.params.toList args.toList ds p := hA0
 rw [Go.Proofs.Tryz.params3] at hA hval
 obtain ⟨v0, vs0, d0, ds0, p0, q0, hargs, rfl, rfl, h0, r0⟩ := trodAll_cons hA
 obtain ⟨v1, vs1, d1, ds1, p1, q1, rfl, rfl, rfl, h1, r1⟩ := trodAll_cons r0
 obtain ⟨v2, vs2, d2, ds2, p2, q2, rfl, rfl, rfl, h2, r2⟩ := trodAll_cons r1
 obtain ⟨v3, vs3, d3, ds3, p3, q3, rfl, rfl, rfl, h3, r3⟩ := trodAll_cons r2
 obtain ⟨rfl, rfl, rfl⟩ := trodAll_nil r3
 obtain rfl : args = #[v0, v1, v2, v3] := by cases args; simp_all
 obtain ⟨rfl, rfl⟩ := trodVars_none hV
 obtain ⟨a0, rfl⟩ := okWide_int Go.Proofs.Tryz.underlying3 (hval 0 3 v0 rfl rfl)
 obtain ⟨A1, len1, cap1, rfl⟩ := okWide_slice Go.Proofs.Tryz.underlying22 (hval 1 22 v1 rfl rfl)
 obtain ⟨n1, t1⟩ := id h1
 obtain ⟨a1, B1, c1, e1, k1, b1⟩ := @a7v _ _ _ _ _ _ _ Int (rpK .i64) _ _ _ _ _ Go.Proofs.Tryz.underlying22 c3 a5v (fun n cs x _ h => b8e h) t1
 have e1' : [Value.slice A1 len1 cap1] = [Value.slice B1 a1.length c1] := e1
 obtain ⟨rfl, rfl, rfl⟩ : A1 = B1 /\ len1 = a1.length /\ cap1 = c1 := by simpa using e1'
 have b1 : a2f a1 <= Rows.uptoBulk d1 := b1
 obtain ⟨A2, b6j, cap2, rfl⟩ := okWide_slice Go.Proofs.Tryz.underlying22 (hval 2 22 v2 rfl rfl)
 obtain ⟨n2, t2⟩ := id h2
 obtain ⟨a2, B2, c2, e2, k2, b2⟩ := @a7v _ _ _ _ _ _ _ Int (rpK .i64) _ _ _ _ _ Go.Proofs.Tryz.underlying22 c3 a5v (fun n cs x _ h => b8e h) t2
 have e2' : [Value.slice A2 b6j cap2] = [Value.slice B2 a2.length c2] := e2
 obtain ⟨rfl, rfl, rfl⟩ : A2 = B2 /\ b6j = a2.length /\ cap2 = c2 := by simpa using e2'
 have b2 : a2f a2 <= Rows.uptoBulk d2 := b2
 obtain ⟨A3, len3, cap3, rfl⟩ := okWide_slice Go.Proofs.Tryz.underlying23 (hval 3 23 v3 rfl rfl)
 obtain ⟨n3, t3⟩ := id h3
 obtain ⟨a3, B3, c3, e3, k3, b3⟩ := @a7v _ _ _ _ _ _ _ Int (rpK .u8) _ _ _ _ _ Go.Proofs.Tryz.underlying23 c5 a5R (fun n cs x _ h => b9K h) t3
 have e3' : [Value.slice A3 len3 cap3] = [Value.slice B3 a3.length c3] := e3
 obtain ⟨rfl, rfl, rfl⟩ : A3 = B3 /\ len3 = a3.length /\ cap3 = c3 := by simpa using e3'
 have b3 : b3Q a3 <= Rows.uptoBulk d3 := b3
 have hbulk := of_decide_eq_true hk
 simp only [List.append_nil, Rows.uptoBulkAll] at hbulk
 have hb0 : a2f a1 <= 1048576 := by omega
 have hb1 : a2f a2 <= 1048576 := by omega
 obtain ⟨fuel, hfuel⟩ : ∃ n : Nat, 300000000 <= n := ⟨_, Nat.le_refl _⟩
 have ctr := b9U (fuel := fuel) (σ := a3z W) rfl ⟨A1, cap1, rfl, k1⟩ ⟨A2, cap2, rfl, k2⟩ ⟨A3, cap3, rfl, k3⟩ (b52 fuel hfuel a0 a1 a2 a3 hb0 hb1)
 clear hA0
 have hlt := hW'.lt
 refine ctr.mono fun e W' ⟨he, hbl⟩ => ?_
 subst he
 have hbl : Below W.heap.size W W' := hbl
 refine ⟨_, rfl, [d0, d1, d2, d3], [], _, [], p0 ++ (p1 ++ (p2 ++ (p3 ++ []))), [], hW', ?_, ?_, rfl, hbl.frame _, fun h => by cases h⟩
 ·exact trodAll_cons_mk (shut_bool Go.Proofs.Tryz.underlying4 _) trodAll_mk0
 ·have s0 := Below.trod laid b9A lt3 h0 hbl (fun x hx => hlt x (by simp [hx]))
  have s1 := Below.trod laid b7c b8A h1 hbl (fun x hx => hlt x (by simp [hx]))
  have s2 := Below.trod laid b7c b8A h2 hbl (fun x hx => hlt x (by simp [hx]))
  have s3 := Below.trod laid b9l b9y h3 hbl (fun x hx => hlt x (by simp [hx]))
  exact trodAll_cons_mk s0 (trodAll_cons_mk s1 (trodAll_cons_mk s2 (trodAll_cons_mk s3 trodAll_mk0)))
set_option maxRecDepth 100000 in
theorem b8s (os : Os) (started : os.Started) (H : Type) (enc : TypeId × Value -> H) (F : Stop.Interp) :
 ReturnsInHanded {} Go.Proofs.Tryz.checked os 3 .any ((Rows.OpenSpec.upto Rows.productBoxesSpec).pre6 enc Go.Proofs.Tryz.prog Go.Proofs.Tryz.f3 Rows.productBoxesUptoRow.domain false) (((Rows.OpenSpec.upto Rows.productBoxesSpec).at F).post enc Go.Proofs.Tryz.prog Go.Proofs.Tryz.f3 false true false false) := by
 refine returnsInHanded_of_cond (C := Go.Proofs.Tryz.checked) (s := Rows.OpenSpec.upto Rows.productBoxesSpec) (k := Rows.uptoSmall) rfl own started (by kernel_rfl) Go.Proofs.Tryz.func3
  (OpenSpec.witness (enc := enc) (C := Go.Proofs.Tryz.checked) (s := Rows.OpenSpec.upto Rows.productBoxesSpec) (k := Rows.uptoSmall) rfl false
    ⟨#[], #[.int .i64 0, .slice none 0 0, .slice none 0 0, .slice none 0 0], []⟩ 8
    (by kernel_rfl) (by kernel_rfl) (by kernel_rfl)
    (x := ([.lit (.int .i64 0), .nil, .nil, .nil], [], [])) (by kernel_rfl) rfl (by kernel_rfl)) ?_
 intro W base args ds gs before hval hW _ hk _
 exact b6X H enc W base args ds gs before hval hW hk
theorem over : Rows.productBoxesUptoRow.holds Tryz.pinned (Rows.OpenSpec.upto Rows.productBoxesSpec) :=
 OpenClaim.holds_of_cond 3 Go.Proofs.Tryz.f3 rfl rfl rfl rfl rfl rfl rfl ⟨rfl, rfl, rfl, rfl, rfl⟩ rfl rfl rfl rfl rfl (by kernel_rfl) Go.Proofs.Tryz.func3 (by kernel_rfl)
  (of_decide_eq_true (by kernel_rfl)) (by unfold Func.isWrapper; first | (rw [if_pos (by decide +kernel)]; kernel_rfl) | (rw [if_neg (by decide +kernel)]; exact ⟨rfl, rfl⟩))
  (fun os started H enc _ F => b8s os started H enc F)
theorem proved : Rows.ProductBoxesUptoSaid :=
 over
end Go.Proofs.YtcbgcnbnnodhdaaGreat.productBoxes
