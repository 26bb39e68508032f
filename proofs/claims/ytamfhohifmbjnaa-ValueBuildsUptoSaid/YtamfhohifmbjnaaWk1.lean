/- Printed by dec.py. The walks. -/
import Derived.Test.YtamfhohifmbjnaaWk0
namespace Go.Sx
open Go Go.RowKit
attribute [local irreducible] Go.wpList Go.Code.wp Go.Sx.Ctr Go.Sx.CtrE

set_option maxHeartbeats 1600000 in
set_option maxRecDepth 100000 in
theorem ok_value_validNode (fuel : Nat) : S_value_validNode (value_validNode fuel) := by
 intro s0 v0 a0 r h0 hf
 obtain ⟨A1, c2, A4, c5, A7, c8, ad, ae, rfl, h3, h6, h9, a6⟩ := Val.rpv h0
 unfold value_validNode at hf
 have E0 : ExtB s0.N s0 s0 := ExtB.refl _ _
 refine ctr_of 124 Go.Proofs.Try.func61 rfl rfl rfl rfl ?_
 refine j2 (j3 ?_)
 refine r_box (B := s0.N) 1 E0.size (Val.ag a0 A1 c2 A4 c5 A7 c8 ad ae) (Val.cs a0 A1 c2 A4 c5 A7 c8 ad ae) rfl rfl rfl ?_
 intro ds ab aw aT
 have ce := E0.x aw
 refine r_assign (.bool false) rfl rfl ?_
 refine j0 (j1 (j2 (j3 ?_)))
 refine r_fieldAddr ab 0 0 0 rfl rfl fo27_0 rfl ?_
 refine r_load ab 0 (.int .i64 a0.Kind) rfl rfl (loads_one to3 ((aT.cell 0).trans rfl)) ?_
 obtain ⟨aa, cf, hf⟩ := bind_some hf
 refine r_call [.int .i64 a0.Kind] (evs1 rfl) rfl (ok_value_uses _ _ _ _ (RpV.mkInt _ _) cf) ?_
 intro dt du ah cg
 have bE := ce.x ah
 obtain ⟨dv, dw, rfl, ch, ci⟩ := cg
 obtain rfl := Value_used.rpv ch
 obtain rfl := RpV.bool ci
 refine r_move (.tuple #[Value_used.ag aa.1, .bool aa.2]) rfl rfl ?_
 refine r_extract [Value_used.ag aa.1, .bool aa.2] (Value_used.ag aa.1) rfl rfl rfl ?_
 refine r_extract [Value_used.ag aa.1, .bool aa.2] (.bool aa.2) rfl rfl rfl ?_
 refine r_alloc (B := s0.N) 2 bE.size _ [.bool false, .bool false, .bool false, .bool false, .bool false] ti87 rfl ?_
 intro dx af ai cj
 have ck := bE.x ai
 refine r_store cj 0 (Value_used.ag aa.1) (Value_used.cs aa.1) (Value_used.cs aa.1) rfl rfl rfl rfl rfl sz87 rfl rfl rfl ?_
 intro dy aj a7
 have bF := ck.y aj
 refine r_assign (.bool aa.2) rfl rfl ?_
 refine j0 (j1 (j2 (j2 (j3 ?_))))
 refine r_move (.bool aa.2) rfl rfl ?_
 refine r_un (.bool aa.2) (.bool (!aa.2)) rfl rfl u_not ?_
 refine r_move (.bool (!aa.2)) rfl rfl ?_
 refine if_else hf (fun ax hf => ?_) (fun ax hf => ?_)
 ·refine r_skip (j := 2) (want := false) (d := 13) (c := !aa.2) (v := true) rfl rfl ax rfl rfl ?_
  refine r_skip (j := 2) (want := false) (d := 13) (c := !aa.2) (v := true) rfl rfl ax rfl rfl ?_
  refine r_skip (j := 2) (want := false) (d := 13) (c := !aa.2) (v := true) rfl rfl ax rfl rfl ?_
  refine r_skip (j := 2) (want := false) (d := 13) (c := !aa.2) (v := true) rfl rfl ax rfl rfl ?_
  refine r_pick_t (c := !aa.2) (.bool true) rfl ax rfl rfl rfl rfl ?_
  refine j0 (j1 ?_)
  refine c_true rfl rfl rfl ?_
  refine j2 (j3 ?_)
  refine r_assign (.bool false) rfl rfl ?_
  refine j0 (j1 (jb (j9 ?_)))
  obtain rfl := Option.some.inj hf
  refine ret_one (.bool false) rfl ⟨rfl, rfl⟩ bF ?_
  exact (RpV.mkBool _ _)
 refine r_guard (j := 2) (want := false) (d := 13) (c := !aa.2) (v := false) rfl rfl ax rfl rfl ?_
 refine r_fieldAddr ab 0 6 6 rfl rfl fo27_6 rfl ?_
 refine r_guard (j := 2) (want := false) (d := 13) (c := !aa.2) (v := false) rfl rfl ax rfl rfl ?_
 refine r_load ab 6 (.slice ad a0.Labels.length ae) rfl rfl (loads_one to25 (((((aT.ext ah).ext ai).mod aj rfl).cell 6).trans rfl)) ?_
 refine r_guard (j := 2) (want := false) (d := 13) (c := !aa.2) (v := false) rfl rfl ax rfl rfl ?_
 obtain ⟨a8, cl, hf⟩ := bind_some hf
 refine r_call [.slice ad a0.Labels.length ae] (evs1 rfl) rfl (ok_value_validLabels _ _ _ _ (RpV.mkList ((((a6.mono aw.wext).mono ah.wext).mono ai.wext).mono aj.wext)) cl) ?_
 intro dz cm ag cn
 have a9 := bF.x ag
 obtain rfl := RpV.bool cn
 refine r_guard (j := 2) (want := false) (d := 13) (c := !aa.2) (v := false) rfl rfl ax rfl rfl ?_
 refine r_un (.bool a8) (.bool (!a8)) rfl rfl u_not ?_
 refine r_pick_f (c := !aa.2) (.bool (!a8)) rfl ax rfl rfl rfl rfl ?_
 refine j0 (j1 ?_)
 refine if_else hf (fun ba hf => ?_) (fun ba hf => ?_)
 ·refine c_true rfl ba rfl ?_
  refine j2 (j3 ?_)
  refine r_assign (.bool false) rfl rfl ?_
  refine j0 (j1 (jb (j9 ?_)))
  obtain rfl := Option.some.inj hf
  refine ret_one (.bool false) rfl ⟨rfl, rfl⟩ a9 ?_
  exact (RpV.mkBool _ _)
 refine c_false rfl ba rfl ?_
 refine ja (j1 (j2 (j2 (j3 ?_))))
 refine r_fieldAddr af 0 0 0 rfl rfl fo87_0 rfl ?_
 refine r_load af 0 (.bool aa.1.number) rfl rfl (loads_one to4 (((a7.ext ag).cell 0).trans rfl)) ?_
 refine r_un (.bool aa.1.number) (.bool (!aa.1.number)) rfl rfl u_not ?_
 refine r_move (.bool (!aa.1.number)) rfl rfl ?_
 refine gen_FL fun aU bb => ?_
 have bG : aU 1 = (.pointer (some ⟨ab, 0, none⟩)) := (bb 1).trans rfl
 have co : aU 3 = (.pointer (some ⟨af, 0, none⟩)) := (bb 3).trans rfl
 have aR : aU 22 = (.bool (!aa.1.number)) := (bb 22).trans rfl
 obtain ⟨ak, hq54, hf⟩ := bind_some hf
 refine wpl_take 4 (J := fun a w => ∃ (F : Fr) (τ : S), a = fr 124 F ∧ w = τ.w ∧ Agr [23, 24, 25, 26] F aU ∧ ExtB s0.N s0 τ ∧ Wext cm τ ∧ F 26 = (.bool ak) ∧ Blk s0.N 1 τ ab 27 (Val.cs a0 A1 c2 A4 c5 A7 c8 ad ae) ∧ Blk s0.N 2 τ af 87 (Value_used.cs aa.1)) ?_ ?_
 ·have hf := hq54
  refine if_else hf (fun aP hf => ?_) (fun aP hf => ?_)
  ·refine r_guard (j := 3) (want := true) (d := 22) (c := !aa.1.number) (v := true) rfl aR aP rfl rfl ?_
   refine r_fieldAddr ab 0 1 1 bG rfl fo27_1 rfl ?_
   refine r_guard (j := 3) (want := true) (d := 22) (c := !aa.1.number) (v := true) rfl aR aP rfl rfl ?_
   refine r_load ab 1 (.int .i64 a0.Int_) rfl rfl (loads_one to2 ((((((aT.ext ah).ext ai).mod aj rfl).ext ag).cell 1).trans rfl)) ?_
   refine r_guard (j := 3) (want := true) (d := 22) (c := !aa.1.number) (v := true) rfl aR aP rfl rfl ?_
   refine r_bin (.int .i64 a0.Int_) (.int .i64 0) (.bool (a0.Int_ != 0)) rfl rfl rfl rfl (b_neq) ?_
   refine r_pick_t (c := !aa.1.number) (.bool (a0.Int_ != 0)) aR aP rfl rfl rfl rfl ?_
   refine j0 ?_
   obtain rfl := Option.some.inj hf
   exact ⟨rfl, _, _, rfl, rfl, (((((Agr.refl _ _).put rfl).put rfl).put rfl).put rfl), a9, (Wext.refl _), rfl, ((((aT.ext ah).ext ai).mod aj rfl).ext ag), (a7.ext ag)⟩
  refine r_skip (j := 3) (want := true) (d := 22) (c := !aa.1.number) (v := false) rfl aR aP rfl rfl ?_
  refine r_skip (j := 3) (want := true) (d := 22) (c := !aa.1.number) (v := false) rfl aR aP rfl rfl ?_
  refine r_skip (j := 3) (want := true) (d := 22) (c := !aa.1.number) (v := false) rfl aR aP rfl rfl ?_
  refine r_pick_f (c := !aa.1.number) (.bool false) aR aP rfl rfl rfl rfl ?_
  refine j0 ?_
  obtain rfl := Option.some.inj hf
  exact ⟨rfl, _, _, rfl, rfl, (((((Agr.refl _ _).put rfl).put rfl).put rfl).put rfl), a9, (Wext.refl _), rfl, ((((aT.ext ah).ext ai).mod aj rfl).ext ag), (a7.ext ag)⟩
 rintro a w ⟨dA, bH, rfl, rfl, bI, bc, aF, cp, aV, aW⟩
 have cq := (bI 1 rfl).trans bG
 have cr := (bI 3 rfl).trans co
 refine r_move (.bool ak) cp rfl ?_
 refine gen_FL fun bJ bd => ?_
 have bK := (bd 1).trans cq
 have bL := (bd 3).trans cr
 have ay : bJ 27 = (.bool ak) := (bd 27).trans rfl
 obtain ⟨al, hq74, hf⟩ := bind_some hf
 refine wpl_take 9 (J := fun a w => ∃ (F : Fr) (τ : S), a = fr 124 F ∧ w = τ.w ∧ Agr [28, 29, 30, 31, 32, 33, 34, 35, 36] F bJ ∧ ExtB s0.N s0 τ ∧ Wext bH τ ∧ F 36 = (.bool al) ∧ Blk s0.N 1 τ ab 27 (Val.cs a0 A1 c2 A4 c5 A7 c8 ad ae) ∧ Blk s0.N 2 τ af 87 (Value_used.cs aa.1)) ?_ ?_
 ·have hf := hq74
  refine if_else hf (fun ap hf => ?_) (fun ap hf => ?_)
  ·refine r_skip (j := 8) (want := false) (d := 27) (c := ak) (v := true) rfl ay ap rfl rfl ?_
   refine r_skip (j := 8) (want := false) (d := 27) (c := ak) (v := true) rfl ay ap rfl rfl ?_
   refine r_skip (j := 8) (want := false) (d := 27) (c := ak) (v := true) rfl ay ap rfl rfl ?_
   refine r_skip (j := 8) (want := false) (d := 27) (c := ak) (v := true) rfl ay ap rfl rfl ?_
   refine r_skipu (j := 12) (d := 31) rfl rfl rfl ?_
   refine r_skipu (j := 12) (d := 31) rfl rfl rfl ?_
   refine r_skipu (j := 12) (d := 31) rfl rfl rfl ?_
   refine r_skip (j := 8) (want := false) (d := 27) (c := ak) (v := true) rfl ay ap rfl rfl ?_
   refine r_pick_t (c := ak) (.bool true) ay ap rfl rfl rfl rfl ?_
   refine j0 ?_
   obtain rfl := Option.some.inj hf
   exact ⟨rfl, _, _, rfl, rfl, ((((((((((Agr.refl _ _).put rfl).put rfl).put rfl).put rfl).put rfl).put rfl).put rfl).put rfl).put rfl), bc, (Wext.refl _), rfl, aV, aW⟩
  refine r_guard (j := 8) (want := false) (d := 27) (c := ak) (v := false) rfl ay ap rfl rfl ?_
  refine r_fieldAddr af 0 1 1 bL rfl fo87_1 rfl ?_
  refine r_guard (j := 8) (want := false) (d := 27) (c := ak) (v := false) rfl ay ap rfl rfl ?_
  refine r_load af 1 (.bool aa.1.text_) rfl rfl (loads_one to4 ((aW.cell 1).trans rfl)) ?_
  refine r_guard (j := 8) (want := false) (d := 27) (c := ak) (v := false) rfl ay ap rfl rfl ?_
  refine r_un (.bool aa.1.text_) (.bool (!aa.1.text_)) rfl rfl u_not ?_
  refine r_guard (j := 8) (want := false) (d := 27) (c := ak) (v := false) rfl ay ap rfl rfl ?_
  refine r_move (.bool (!aa.1.text_)) rfl rfl ?_
  refine gen_FL fun bM aX => ?_
  have cs := (aX 1).trans bK
  have be := (aX 27).trans ay
  have aS : bM 31 = (.bool (!aa.1.text_)) := (aX 31).trans rfl
  obtain ⟨bN, hq84, hf⟩ := bind_some hf
  refine wpl_take 4 (J := fun a w => ∃ (F : Fr) (τ : S), a = fr 124 F ∧ w = τ.w ∧ Agr [32, 33, 34, 35] F bM ∧ ExtB s0.N s0 τ ∧ Wext bH τ ∧ F 35 = (.bool bN) ∧ Blk s0.N 1 τ ab 27 (Val.cs a0 A1 c2 A4 c5 A7 c8 ad ae) ∧ Blk s0.N 2 τ af 87 (Value_used.cs aa.1)) ?_ ?_
  ·have hf := hq84
   refine if_else hf (fun aQ hf => ?_) (fun aQ hf => ?_)
   ·refine r_guard (j := 12) (want := true) (d := 31) (c := !aa.1.text_) (v := true) rfl aS aQ rfl rfl ?_
    refine r_fieldAddr ab 0 2 2 cs rfl fo27_2 rfl ?_
    refine r_guard (j := 12) (want := true) (d := 31) (c := !aa.1.text_) (v := true) rfl aS aQ rfl rfl ?_
    refine r_load ab 2 (.string a0.Text) rfl rfl (loads_one to9 ((aV.cell 2).trans rfl)) ?_
    refine r_guard (j := 12) (want := true) (d := 31) (c := !aa.1.text_) (v := true) rfl aS aQ rfl rfl ?_
    refine r_bin (.string a0.Text) (.string (⟨#[]⟩)) (.bool (!strEq a0.Text (⟨#[]⟩))) rfl rfl rfl rfl (b_sneq) ?_
    refine r_guard (j := 8) (want := false) (d := 27) (c := ak) (v := false) rfl be ap rfl rfl ?_
    refine r_pick_t (c := !aa.1.text_) (.bool (!strEq a0.Text (⟨#[]⟩))) aS aQ rfl rfl rfl rfl ?_
    refine j0 ?_
    obtain rfl := Option.some.inj hf
    exact ⟨rfl, _, _, rfl, rfl, (((((Agr.refl _ _).put rfl).put rfl).put rfl).put rfl), bc, (Wext.refl _), rfl, aV, aW⟩
   refine r_skip (j := 12) (want := true) (d := 31) (c := !aa.1.text_) (v := false) rfl aS aQ rfl rfl ?_
   refine r_skip (j := 12) (want := true) (d := 31) (c := !aa.1.text_) (v := false) rfl aS aQ rfl rfl ?_
   refine r_skip (j := 12) (want := true) (d := 31) (c := !aa.1.text_) (v := false) rfl aS aQ rfl rfl ?_
   refine r_guard (j := 8) (want := false) (d := 27) (c := ak) (v := false) rfl be ap rfl rfl ?_
   refine r_pick_f (c := !aa.1.text_) (.bool false) aS aQ rfl rfl rfl rfl ?_
   refine j0 ?_
   obtain rfl := Option.some.inj hf
   exact ⟨rfl, _, _, rfl, rfl, (((((Agr.refl _ _).put rfl).put rfl).put rfl).put rfl), bc, (Wext.refl _), rfl, aV, aW⟩
  rintro a w ⟨dB, dC, rfl, rfl, bO, ct, cu, cv, cw, cx⟩
  have cy := (bO 27 rfl).trans be
  refine r_pick_f (c := ak) (.bool bN) cy ap cv rfl rfl rfl ?_
  refine j0 ?_
  obtain rfl := Option.some.inj hf
  exact ⟨rfl, _, _, rfl, rfl, ((((((((Agr.refl _ _).put rfl).put rfl).put rfl).put rfl).gen aX).loop bO rfl).put rfl), ct, ((Wext.refl _).trans cu), rfl, cw, cx⟩
 rintro a w ⟨dD, bP, rfl, rfl, bQ, bf, aG, cz, aY, aZ⟩
 have cA := (bQ 1 rfl).trans bK
 have cB := (bQ 3 rfl).trans bL
 refine r_move (.bool al) cz rfl ?_
 refine gen_FL fun bR bg => ?_
 have bS := (bg 1).trans cA
 have bT := (bg 3).trans cB
 have az : bR 37 = (.bool al) := (bg 37).trans rfl
 obtain ⟨am, hq116, hf⟩ := bind_some hf
 refine wpl_take 10 (J := fun a w => ∃ (F : Fr) (τ : S), a = fr 124 F ∧ w = τ.w ∧ Agr [38, 39, 40, 41, 42, 43, 44, 45, 46, 47] F bR ∧ ExtB s0.N s0 τ ∧ Wext bP τ ∧ F 47 = (.bool am) ∧ Blk s0.N 1 τ ab 27 (Val.cs a0 A1 c2 A4 c5 A7 c8 ad ae) ∧ Blk s0.N 2 τ af 87 (Value_used.cs aa.1)) ?_ ?_
 ·have hf := hq116
  refine if_else hf (fun aq hf => ?_) (fun aq hf => ?_)
  ·refine r_skip (j := 18) (want := false) (d := 37) (c := al) (v := true) rfl az aq rfl rfl ?_
   refine r_skip (j := 18) (want := false) (d := 37) (c := al) (v := true) rfl az aq rfl rfl ?_
   refine r_skip (j := 18) (want := false) (d := 37) (c := al) (v := true) rfl az aq rfl rfl ?_
   refine r_skip (j := 18) (want := false) (d := 37) (c := al) (v := true) rfl az aq rfl rfl ?_
   refine r_skipu (j := 22) (d := 41) rfl rfl rfl ?_
   refine r_skipu (j := 22) (d := 41) rfl rfl rfl ?_
   refine r_skipu (j := 22) (d := 41) rfl rfl rfl ?_
   refine r_skipu (j := 22) (d := 41) rfl rfl rfl ?_
   refine r_skip (j := 18) (want := false) (d := 37) (c := al) (v := true) rfl az aq rfl rfl ?_
   refine r_pick_t (c := al) (.bool true) az aq rfl rfl rfl rfl ?_
   refine j0 ?_
   obtain rfl := Option.some.inj hf
   exact ⟨rfl, _, _, rfl, rfl, (((((((((((Agr.refl _ _).put rfl).put rfl).put rfl).put rfl).put rfl).put rfl).put rfl).put rfl).put rfl).put rfl), bf, (Wext.refl _), rfl, aY, aZ⟩
  refine r_guard (j := 18) (want := false) (d := 37) (c := al) (v := false) rfl az aq rfl rfl ?_
  refine r_fieldAddr af 0 2 2 bT rfl fo87_2 rfl ?_
  refine r_guard (j := 18) (want := false) (d := 37) (c := al) (v := false) rfl az aq rfl rfl ?_
  refine r_load af 2 (.bool aa.1.kids) rfl rfl (loads_one to4 ((aZ.cell 2).trans rfl)) ?_
  refine r_guard (j := 18) (want := false) (d := 37) (c := al) (v := false) rfl az aq rfl rfl ?_
  refine r_un (.bool aa.1.kids) (.bool (!aa.1.kids)) rfl rfl u_not ?_
  refine r_guard (j := 18) (want := false) (d := 37) (c := al) (v := false) rfl az aq rfl rfl ?_
  refine r_move (.bool (!aa.1.kids)) rfl rfl ?_
  refine gen_FL fun bU a1 => ?_
  have cC := (a1 1).trans bS
  have bh := (a1 37).trans az
  have aH : bU 41 = (.bool (!aa.1.kids)) := (a1 41).trans rfl
  obtain ⟨bV, hq126, hf⟩ := bind_some hf
  refine wpl_take 5 (J := fun a w => ∃ (F : Fr) (τ : S), a = fr 124 F ∧ w = τ.w ∧ Agr [42, 43, 44, 45, 46] F bU ∧ ExtB s0.N s0 τ ∧ Wext bP τ ∧ F 46 = (.bool bV) ∧ Blk s0.N 1 τ ab 27 (Val.cs a0 A1 c2 A4 c5 A7 c8 ad ae) ∧ Blk s0.N 2 τ af 87 (Value_used.cs aa.1)) ?_ ?_
  ·have hf := hq126
   refine if_else hf (fun aA hf => ?_) (fun aA hf => ?_)
   ·refine r_guard (j := 22) (want := true) (d := 41) (c := !aa.1.kids) (v := true) rfl aH aA rfl rfl ?_
    refine r_fieldAddr ab 0 3 3 cC rfl fo27_3 rfl ?_
    refine r_guard (j := 22) (want := true) (d := 41) (c := !aa.1.kids) (v := true) rfl aH aA rfl rfl ?_
    refine r_load ab 3 (.slice A1 a0.Kids.length c2) rfl rfl (loads_one to22 ((aY.cell 3).trans rfl)) ?_
    refine r_guard (j := 22) (want := true) (d := 41) (c := !aa.1.kids) (v := true) rfl aH aA rfl rfl ?_
    refine r_len A1 a0.Kids.length c2 rfl rfl Go.Proofs.Try.underlying22 ?_
    refine r_guard (j := 22) (want := true) (d := 41) (c := !aa.1.kids) (v := true) rfl aH aA rfl rfl ?_
    refine r_bin (.int .i64 (a0.Kids.length : Int)) (.int .i64 0) (.bool (decide (0 < (a0.Kids.length : Int)))) rfl rfl rfl rfl (b_gtr) ?_
    refine r_guard (j := 18) (want := false) (d := 37) (c := al) (v := false) rfl bh aq rfl rfl ?_
    refine r_pick_t (c := !aa.1.kids) (.bool (decide (0 < (a0.Kids.length : Int)))) aH aA rfl rfl rfl rfl ?_
    refine j0 ?_
    obtain rfl := Option.some.inj hf
    exact ⟨rfl, _, _, rfl, rfl, ((((((Agr.refl _ _).put rfl).put rfl).put rfl).put rfl).put rfl), bf, (Wext.refl _), rfl, aY, aZ⟩
   refine r_skip (j := 22) (want := true) (d := 41) (c := !aa.1.kids) (v := false) rfl aH aA rfl rfl ?_
   refine r_skip (j := 22) (want := true) (d := 41) (c := !aa.1.kids) (v := false) rfl aH aA rfl rfl ?_
   refine r_skip (j := 22) (want := true) (d := 41) (c := !aa.1.kids) (v := false) rfl aH aA rfl rfl ?_
   refine r_skip (j := 22) (want := true) (d := 41) (c := !aa.1.kids) (v := false) rfl aH aA rfl rfl ?_
   refine r_guard (j := 18) (want := false) (d := 37) (c := al) (v := false) rfl bh aq rfl rfl ?_
   refine r_pick_f (c := !aa.1.kids) (.bool false) aH aA rfl rfl rfl rfl ?_
   refine j0 ?_
   obtain rfl := Option.some.inj hf
   exact ⟨rfl, _, _, rfl, rfl, ((((((Agr.refl _ _).put rfl).put rfl).put rfl).put rfl).put rfl), bf, (Wext.refl _), rfl, aY, aZ⟩
  rintro a w ⟨dE, dF, rfl, rfl, bW, cD, cE, cF, cG, cH⟩
  have cI := (bW 37 rfl).trans bh
  refine r_pick_f (c := al) (.bool bV) cI aq cF rfl rfl rfl ?_
  refine j0 ?_
  obtain rfl := Option.some.inj hf
  exact ⟨rfl, _, _, rfl, rfl, ((((((((Agr.refl _ _).put rfl).put rfl).put rfl).put rfl).gen a1).loop bW rfl).put rfl), cD, ((Wext.refl _).trans cE), rfl, cG, cH⟩
 rintro a w ⟨dG, bX, rfl, rfl, bY, bi, aI, cJ, a2, a3⟩
 have cK := (bY 1 rfl).trans bS
 have cL := (bY 3 rfl).trans bT
 refine r_move (.bool am) cJ rfl ?_
 refine gen_FL fun bZ bj => ?_
 have b0 := (bj 1).trans cK
 have b1 := (bj 3).trans cL
 have aB : bZ 48 = (.bool am) := (bj 48).trans rfl
 obtain ⟨an, hq158, hf⟩ := bind_some hf
 refine wpl_take 10 (J := fun a w => ∃ (F : Fr) (τ : S), a = fr 124 F ∧ w = τ.w ∧ Agr [49, 50, 51, 52, 53, 54, 55, 56, 57, 58] F bZ ∧ ExtB s0.N s0 τ ∧ Wext bX τ ∧ F 58 = (.bool an) ∧ Blk s0.N 1 τ ab 27 (Val.cs a0 A1 c2 A4 c5 A7 c8 ad ae) ∧ Blk s0.N 2 τ af 87 (Value_used.cs aa.1)) ?_ ?_
 ·have hf := hq158
  refine if_else hf (fun ar hf => ?_) (fun ar hf => ?_)
  ·refine r_skip (j := 29) (want := false) (d := 48) (c := am) (v := true) rfl aB ar rfl rfl ?_
   refine r_skip (j := 29) (want := false) (d := 48) (c := am) (v := true) rfl aB ar rfl rfl ?_
   refine r_skip (j := 29) (want := false) (d := 48) (c := am) (v := true) rfl aB ar rfl rfl ?_
   refine r_skip (j := 29) (want := false) (d := 48) (c := am) (v := true) rfl aB ar rfl rfl ?_
   refine r_skipu (j := 33) (d := 52) rfl rfl rfl ?_
   refine r_skipu (j := 33) (d := 52) rfl rfl rfl ?_
   refine r_skipu (j := 33) (d := 52) rfl rfl rfl ?_
   refine r_skipu (j := 33) (d := 52) rfl rfl rfl ?_
   refine r_skip (j := 29) (want := false) (d := 48) (c := am) (v := true) rfl aB ar rfl rfl ?_
   refine r_pick_t (c := am) (.bool true) aB ar rfl rfl rfl rfl ?_
   refine j0 ?_
   obtain rfl := Option.some.inj hf
   exact ⟨rfl, _, _, rfl, rfl, (((((((((((Agr.refl _ _).put rfl).put rfl).put rfl).put rfl).put rfl).put rfl).put rfl).put rfl).put rfl).put rfl), bi, (Wext.refl _), rfl, a2, a3⟩
  refine r_guard (j := 29) (want := false) (d := 48) (c := am) (v := false) rfl aB ar rfl rfl ?_
  refine r_fieldAddr af 0 3 3 b1 rfl fo87_3 rfl ?_
  refine r_guard (j := 29) (want := false) (d := 48) (c := am) (v := false) rfl aB ar rfl rfl ?_
  refine r_load af 3 (.bool aa.1.keys) rfl rfl (loads_one to4 ((a3.cell 3).trans rfl)) ?_
  refine r_guard (j := 29) (want := false) (d := 48) (c := am) (v := false) rfl aB ar rfl rfl ?_
  refine r_un (.bool aa.1.keys) (.bool (!aa.1.keys)) rfl rfl u_not ?_
  refine r_guard (j := 29) (want := false) (d := 48) (c := am) (v := false) rfl aB ar rfl rfl ?_
  refine r_move (.bool (!aa.1.keys)) rfl rfl ?_
  refine gen_FL fun b2 a4 => ?_
  have cM := (a4 1).trans b0
  have bk := (a4 48).trans aB
  have aJ : b2 52 = (.bool (!aa.1.keys)) := (a4 52).trans rfl
  obtain ⟨b3, hq168, hf⟩ := bind_some hf
  refine wpl_take 5 (J := fun a w => ∃ (F : Fr) (τ : S), a = fr 124 F ∧ w = τ.w ∧ Agr [53, 54, 55, 56, 57] F b2 ∧ ExtB s0.N s0 τ ∧ Wext bX τ ∧ F 57 = (.bool b3) ∧ Blk s0.N 1 τ ab 27 (Val.cs a0 A1 c2 A4 c5 A7 c8 ad ae) ∧ Blk s0.N 2 τ af 87 (Value_used.cs aa.1)) ?_ ?_
  ·have hf := hq168
   refine if_else hf (fun aC hf => ?_) (fun aC hf => ?_)
   ·refine r_guard (j := 33) (want := true) (d := 52) (c := !aa.1.keys) (v := true) rfl aJ aC rfl rfl ?_
    refine r_fieldAddr ab 0 4 4 cM rfl fo27_4 rfl ?_
    refine r_guard (j := 33) (want := true) (d := 52) (c := !aa.1.keys) (v := true) rfl aJ aC rfl rfl ?_
    refine r_load ab 4 (.slice A4 a0.Keys.length c5) rfl rfl (loads_one to23 ((a2.cell 4).trans rfl)) ?_
    refine r_guard (j := 33) (want := true) (d := 52) (c := !aa.1.keys) (v := true) rfl aJ aC rfl rfl ?_
    refine r_len A4 a0.Keys.length c5 rfl rfl Go.Proofs.Try.underlying23 ?_
    refine r_guard (j := 33) (want := true) (d := 52) (c := !aa.1.keys) (v := true) rfl aJ aC rfl rfl ?_
    refine r_bin (.int .i64 (a0.Keys.length : Int)) (.int .i64 0) (.bool (decide (0 < (a0.Keys.length : Int)))) rfl rfl rfl rfl (b_gtr) ?_
    refine r_guard (j := 29) (want := false) (d := 48) (c := am) (v := false) rfl bk ar rfl rfl ?_
    refine r_pick_t (c := !aa.1.keys) (.bool (decide (0 < (a0.Keys.length : Int)))) aJ aC rfl rfl rfl rfl ?_
    refine j0 ?_
    obtain rfl := Option.some.inj hf
    exact ⟨rfl, _, _, rfl, rfl, ((((((Agr.refl _ _).put rfl).put rfl).put rfl).put rfl).put rfl), bi, (Wext.refl _), rfl, a2, a3⟩
   refine r_skip (j := 33) (want := true) (d := 52) (c := !aa.1.keys) (v := false) rfl aJ aC rfl rfl ?_
   refine r_skip (j := 33) (want := true) (d := 52) (c := !aa.1.keys) (v := false) rfl aJ aC rfl rfl ?_
   refine r_skip (j := 33) (want := true) (d := 52) (c := !aa.1.keys) (v := false) rfl aJ aC rfl rfl ?_
   refine r_skip (j := 33) (want := true) (d := 52) (c := !aa.1.keys) (v := false) rfl aJ aC rfl rfl ?_
   refine r_guard (j := 29) (want := false) (d := 48) (c := am) (v := false) rfl bk ar rfl rfl ?_
   refine r_pick_f (c := !aa.1.keys) (.bool false) aJ aC rfl rfl rfl rfl ?_
   refine j0 ?_
   obtain rfl := Option.some.inj hf
   exact ⟨rfl, _, _, rfl, rfl, ((((((Agr.refl _ _).put rfl).put rfl).put rfl).put rfl).put rfl), bi, (Wext.refl _), rfl, a2, a3⟩
  rintro a w ⟨dH, dI, rfl, rfl, b4, cN, cO, cP, cQ, cR⟩
  have cS := (b4 48 rfl).trans bk
  refine r_pick_f (c := am) (.bool b3) cS ar cP rfl rfl rfl ?_
  refine j0 ?_
  obtain rfl := Option.some.inj hf
  exact ⟨rfl, _, _, rfl, rfl, ((((((((Agr.refl _ _).put rfl).put rfl).put rfl).put rfl).gen a4).loop b4 rfl).put rfl), cN, ((Wext.refl _).trans cO), rfl, cQ, cR⟩
 rintro a w ⟨dJ, cT, rfl, rfl, b5, bl, aK, cU, bm, cV⟩
 have cW := (b5 1 rfl).trans b0
 have cX := (b5 3 rfl).trans b1
 refine r_move (.bool an) cU rfl ?_
 refine if_else hf (fun au hf => ?_) (fun au hf => ?_)
 ·refine r_skip (j := 40) (want := false) (d := 59) (c := an) (v := true) rfl rfl au rfl rfl ?_
  refine r_skip (j := 40) (want := false) (d := 59) (c := an) (v := true) rfl rfl au rfl rfl ?_
  refine r_skip (j := 40) (want := false) (d := 59) (c := an) (v := true) rfl rfl au rfl rfl ?_
  refine r_skip (j := 40) (want := false) (d := 59) (c := an) (v := true) rfl rfl au rfl rfl ?_
  refine r_skipu (j := 44) (d := 63) rfl rfl rfl ?_
  refine r_skipu (j := 44) (d := 63) rfl rfl rfl ?_
  refine r_skipu (j := 44) (d := 63) rfl rfl rfl ?_
  refine r_skipu (j := 44) (d := 63) rfl rfl rfl ?_
  refine r_skip (j := 40) (want := false) (d := 59) (c := an) (v := true) rfl rfl au rfl rfl ?_
  refine r_pick_t (c := an) (.bool true) rfl au rfl rfl rfl rfl ?_
  refine j0 (j1 ?_)
  refine c_true rfl rfl rfl ?_
  refine j2 (j3 ?_)
  refine r_assign (.bool false) rfl rfl ?_
  refine j0 (j1 (jb (j9 ?_)))
  obtain rfl := Option.some.inj hf
  refine ret_one (.bool false) rfl ⟨rfl, rfl⟩ bl ?_
  exact (RpV.mkBool _ _)
 refine r_guard (j := 40) (want := false) (d := 59) (c := an) (v := false) rfl rfl au rfl rfl ?_
 refine r_fieldAddr af 0 4 4 cX rfl fo87_4 rfl ?_
 refine r_guard (j := 40) (want := false) (d := 59) (c := an) (v := false) rfl rfl au rfl rfl ?_
 refine r_load af 4 (.bool aa.1.entries) rfl rfl (loads_one to4 ((cV.cell 4).trans rfl)) ?_
 refine r_guard (j := 40) (want := false) (d := 59) (c := an) (v := false) rfl rfl au rfl rfl ?_
 refine r_un (.bool aa.1.entries) (.bool (!aa.1.entries)) rfl rfl u_not ?_
 refine r_guard (j := 40) (want := false) (d := 59) (c := an) (v := false) rfl rfl au rfl rfl ?_
 refine r_move (.bool (!aa.1.entries)) rfl rfl ?_
 refine gen_FL fun bn bo => ?_
 have b6 := (bo 1).trans cW
 have bp : bn 59 = (.bool an) := (bo 59).trans rfl
 have aL : bn 63 = (.bool (!aa.1.entries)) := (bo 63).trans rfl
 obtain ⟨b7, hq201, hf⟩ := bind_some hf
 refine wpl_take 5 (J := fun a w => ∃ (F : Fr) (τ : S), a = fr 124 F ∧ w = τ.w ∧ Agr [64, 65, 66, 67, 68] F bn ∧ ExtB s0.N s0 τ ∧ Wext cT τ ∧ F 68 = (.bool b7) ∧ Blk s0.N 1 τ ab 27 (Val.cs a0 A1 c2 A4 c5 A7 c8 ad ae)) ?_ ?_
 ·have hf := hq201
  refine if_else hf (fun aD hf => ?_) (fun aD hf => ?_)
  ·refine r_guard (j := 44) (want := true) (d := 63) (c := !aa.1.entries) (v := true) rfl aL aD rfl rfl ?_
   refine r_fieldAddr ab 0 5 5 b6 rfl fo27_5 rfl ?_
   refine r_guard (j := 44) (want := true) (d := 63) (c := !aa.1.entries) (v := true) rfl aL aD rfl rfl ?_
   refine r_load ab 5 (.slice A7 a0.Entries.length c8) rfl rfl (loads_one to24 ((bm.cell 5).trans rfl)) ?_
   refine r_guard (j := 44) (want := true) (d := 63) (c := !aa.1.entries) (v := true) rfl aL aD rfl rfl ?_
   refine r_len A7 a0.Entries.length c8 rfl rfl Go.Proofs.Try.underlying24 ?_
   refine r_guard (j := 44) (want := true) (d := 63) (c := !aa.1.entries) (v := true) rfl aL aD rfl rfl ?_
   refine r_bin (.int .i64 (a0.Entries.length : Int)) (.int .i64 0) (.bool (decide (0 < (a0.Entries.length : Int)))) rfl rfl rfl rfl (b_gtr) ?_
   refine r_guard (j := 40) (want := false) (d := 59) (c := an) (v := false) rfl bp au rfl rfl ?_
   refine r_pick_t (c := !aa.1.entries) (.bool (decide (0 < (a0.Entries.length : Int)))) aL aD rfl rfl rfl rfl ?_
   refine j0 ?_
   obtain rfl := Option.some.inj hf
   exact ⟨rfl, _, _, rfl, rfl, ((((((Agr.refl _ _).put rfl).put rfl).put rfl).put rfl).put rfl), bl, (Wext.refl _), rfl, bm⟩
  refine r_skip (j := 44) (want := true) (d := 63) (c := !aa.1.entries) (v := false) rfl aL aD rfl rfl ?_
  refine r_skip (j := 44) (want := true) (d := 63) (c := !aa.1.entries) (v := false) rfl aL aD rfl rfl ?_
  refine r_skip (j := 44) (want := true) (d := 63) (c := !aa.1.entries) (v := false) rfl aL aD rfl rfl ?_
  refine r_skip (j := 44) (want := true) (d := 63) (c := !aa.1.entries) (v := false) rfl aL aD rfl rfl ?_
  refine r_guard (j := 40) (want := false) (d := 59) (c := an) (v := false) rfl bp au rfl rfl ?_
  refine r_pick_f (c := !aa.1.entries) (.bool false) aL aD rfl rfl rfl rfl ?_
  refine j0 ?_
  obtain rfl := Option.some.inj hf
  exact ⟨rfl, _, _, rfl, rfl, ((((((Agr.refl _ _).put rfl).put rfl).put rfl).put rfl).put rfl), bl, (Wext.refl _), rfl, bm⟩
 rintro a w ⟨dK, cY, rfl, rfl, b8, aE, aM, cZ, aN⟩
 have aO := (b8 1 rfl).trans b6
 have c0 := (b8 59 rfl).trans bp
 refine r_pick_f (c := an) (.bool b7) c0 au cZ rfl rfl rfl ?_
 refine j0 (j1 ?_)
 refine if_else hf (fun bq hf => ?_) (fun bq hf => ?_)
 ·refine c_true rfl bq rfl ?_
  refine j2 (j3 ?_)
  refine r_assign (.bool false) rfl rfl ?_
  refine j0 (j1 (jb (j9 ?_)))
  obtain rfl := Option.some.inj hf
  refine ret_one (.bool false) rfl ⟨rfl, rfl⟩ aE ?_
  exact (RpV.mkBool _ _)
 refine c_false rfl bq rfl ?_
 refine ja (j1 (j2 (j2 (j3 ?_))))
 refine r_fieldAddr ab 0 0 0 aO rfl fo27_0 rfl ?_
 refine r_load ab 0 (.int .i64 a0.Kind) rfl rfl (loads_one to3 ((aN.cell 0).trans rfl)) ?_
 refine j0 (j1 (j4 (j2 (j3 ?_))))
 refine r_bin (.int .i64 a0.Kind) (.int .i64 2) (.bool (a0.Kind == 2)) rfl rfl rfl rfl (b_eql) ?_
 refine r_assign (.bool (a0.Kind == 2)) rfl rfl ?_
 refine j0 (j1 ?_)
 refine if_else hf (fun br hf => ?_) (fun br hf => ?_)
 ·refine c_true rfl br rfl ?_
  refine j2 (j3 ?_)
  refine r_fieldAddr ab 0 2 2 aO rfl fo27_2 rfl ?_
  refine r_load ab 2 (.string a0.Text) rfl rfl (loads_one to9 ((aN.cell 2).trans rfl)) ?_
  refine r_lenStr a0.Text rfl rfl Go.Proofs.Try.underlying9 ?_
  refine r_bin (.int .i64 (a0.Text.size : Int)) (.int .i64 64) (.bool (decide ((a0.Text.size : Int) ≤ 64))) rfl rfl rfl rfl (b_leq) ?_
  refine r_assign (.bool (decide ((a0.Text.size : Int) ≤ 64))) rfl rfl ?_
  refine j0 (j1 (jb (j7 (j9 ?_))))
  obtain rfl := Option.some.inj hf
  refine ret_one (.bool (decide ((a0.Text.size : Int) ≤ 64))) rfl ⟨rfl, rfl⟩ aE ?_
  exact (RpV.mkBool _ _)
 refine c_false rfl br rfl ?_
 refine j2 (j3 ?_)
 refine r_bin (.int .i64 a0.Kind) (.int .i64 3) (.bool (a0.Kind == 3)) rfl rfl rfl rfl (b_eql) ?_
 refine r_assign (.bool (a0.Kind == 3)) rfl rfl ?_
 refine j0 (j1 ?_)
 refine if_else hf (fun bs hf => ?_) (fun bs hf => ?_)
 ·refine c_true rfl bs rfl ?_
  refine j2 (j3 ?_)
  refine r_fieldAddr ab 0 2 2 aO rfl fo27_2 rfl ?_
  refine r_load ab 2 (.string a0.Text) rfl rfl (loads_one to9 ((aN.cell 2).trans rfl)) ?_
  obtain ⟨b9, c1, hf⟩ := bind_some hf
  refine r_call [.string a0.Text] (evs1 rfl) rfl (ok_ident_IsAtom _ _ _ _ (RpV.mkStr _ _) c1) ?_
  intro dL dM c3 c4
  have c6 := aE.x c3
  obtain rfl := RpV.bool c4
  refine r_assign (.bool b9) rfl rfl ?_
  refine j0 (j1 (jb (j7 (j9 ?_))))
  obtain rfl := Option.some.inj hf
  refine ret_one (.bool b9) rfl ⟨rfl, rfl⟩ c6 ?_
  exact (RpV.mkBool _ _)
 refine c_false rfl bs rfl ?_
 refine j2 (j3 ?_)
 refine r_bin (.int .i64 a0.Kind) (.int .i64 4) (.bool (a0.Kind == 4)) rfl rfl rfl rfl (b_eql) ?_
 refine r_assign (.bool (a0.Kind == 4)) rfl rfl ?_
 refine j0 (j1 ?_)
 refine if_else hf (fun bt hf => ?_) (fun bt hf => ?_)
 ·refine c_true rfl bt rfl ?_
  refine j2 (j3 ?_)
  refine r_fieldAddr ab 0 1 1 aO rfl fo27_1 rfl ?_
  refine r_load ab 1 (.int .i64 a0.Int_) rfl rfl (loads_one to2 ((aN.cell 1).trans rfl)) ?_
  refine r_bin (.int .i64 a0.Int_) (.int .i64 0) (.bool (decide (0 ≤ a0.Int_))) rfl rfl rfl rfl (b_geq) ?_
  refine r_assign (.bool (decide (0 ≤ a0.Int_))) rfl rfl ?_
  refine j0 (j1 (jb (j7 (j9 ?_))))
  obtain rfl := Option.some.inj hf
  refine ret_one (.bool (decide (0 ≤ a0.Int_))) rfl ⟨rfl, rfl⟩ aE ?_
  exact (RpV.mkBool _ _)
 refine c_false rfl bt rfl ?_
 refine j2 (j3 ?_)
 refine r_bin (.int .i64 a0.Kind) (.int .i64 6) (.bool (a0.Kind == 6)) rfl rfl rfl rfl (b_eql) ?_
 refine r_assign (.bool (a0.Kind == 6)) rfl rfl ?_
 refine j0 (j1 ?_)
 refine if_else hf (fun bu hf => ?_) (fun bu hf => ?_)
 ·refine c_true rfl bu rfl ?_
  refine j2 (j3 ?_)
  refine r_fieldAddr ab 0 3 3 aO rfl fo27_3 rfl ?_
  refine r_load ab 3 (.slice A1 a0.Kids.length c2) rfl rfl (loads_one to22 ((aN.cell 3).trans rfl)) ?_
  refine r_len A1 a0.Kids.length c2 rfl rfl Go.Proofs.Try.underlying22 ?_
  refine r_bin (.int .i64 (a0.Kids.length : Int)) (.int .i64 4) (.bool (decide ((a0.Kids.length : Int) ≤ 4))) rfl rfl rfl rfl (b_leq) ?_
  refine r_assign (.bool (decide ((a0.Kids.length : Int) ≤ 4))) rfl rfl ?_
  refine j0 (j1 (jb (j7 (j9 ?_))))
  obtain rfl := Option.some.inj hf
  refine ret_one (.bool (decide ((a0.Kids.length : Int) ≤ 4))) rfl ⟨rfl, rfl⟩ aE ?_
  exact (RpV.mkBool _ _)
 refine c_false rfl bu rfl ?_
 refine j2 (j3 ?_)
 refine r_bin (.int .i64 a0.Kind) (.int .i64 7) (.bool (a0.Kind == 7)) rfl rfl rfl rfl (b_eql) ?_
 refine r_assign (.bool (a0.Kind == 7)) rfl rfl ?_
 refine j0 (j1 ?_)
 refine if_else hf (fun bv hf => ?_) (fun bv hf => ?_)
 ·refine c_true rfl bv rfl ?_
  refine j2 (j3 ?_)
  refine r_fieldAddr ab 0 3 3 aO rfl fo27_3 rfl ?_
  refine r_load ab 3 (.slice A1 a0.Kids.length c2) rfl rfl (loads_one to22 ((aN.cell 3).trans rfl)) ?_
  refine r_len A1 a0.Kids.length c2 rfl rfl Go.Proofs.Try.underlying22 ?_
  refine r_bin (.int .i64 (a0.Kids.length : Int)) (.int .i64 2) (.bool ((a0.Kids.length : Int) == 2)) rfl rfl rfl rfl (b_eql) ?_
  refine r_move (.bool ((a0.Kids.length : Int) == 2)) rfl rfl ?_
  refine if_else hf (fun ac hf => ?_) (fun ac hf => ?_)
  ·refine r_guard (j := 4) (want := true) (d := 100) (c := ((a0.Kids.length : Int) == 2)) (v := true) rfl rfl ac rfl rfl ?_
   refine r_fieldAddr ab 0 3 3 aO rfl fo27_3 rfl ?_
   refine r_guard (j := 4) (want := true) (d := 100) (c := ((a0.Kids.length : Int) == 2)) (v := true) rfl rfl ac rfl rfl ?_
   refine r_load ab 3 (.slice A1 a0.Kids.length c2) rfl rfl (loads_one to22 ((aN.cell 3).trans rfl)) ?_
   refine r_guard (j := 4) (want := true) (d := 100) (c := ((a0.Kids.length : Int) == 2)) (v := true) rfl rfl ac rfl rfl ?_
   obtain ⟨x227, c7, hf⟩ := bind_some hf
   refine r_indexAddr (T := 22) (E := 27) ((((((((((h3.mono aw.wext).mono ah.wext).mono ai.wext).mono aj.wext).mono ag.wext).mono aF).mono aG).mono aI).mono aK).mono aM) c7 rfl rfl rfl rfl Go.Proofs.Try.underlying22 sz27 ?_
   intro ca bw dN c9 da
   obtain ⟨dO, dP, dQ, dR, dS, dT, dU, dV, rfl, dW, dX, dY, dZ⟩ := Val.cells_iff.1 c9
   refine r_guard (j := 4) (want := true) (d := 100) (c := ((a0.Kids.length : Int) == 2)) (v := true) rfl rfl ac rfl rfl ?_
   refine r_fieldAddr ca bw 0 (bw) rfl rfl fo27_0 rfl ?_
   refine r_guard (j := 4) (want := true) (d := 100) (c := ((a0.Kids.length : Int) == 2)) (v := true) rfl rfl ac rfl rfl ?_
   refine r_load ca bw (.int .i64 x227.Kind) rfl rfl (loads_one to3 (da.2 0 _ rfl)) ?_
   refine r_guard (j := 4) (want := true) (d := 100) (c := ((a0.Kids.length : Int) == 2)) (v := true) rfl rfl ac rfl rfl ?_
   refine r_bin (.int .i64 x227.Kind) (.int .i64 5) (.bool (x227.Kind == 5)) rfl rfl rfl rfl (b_eql) ?_
   refine r_guard (j := 4) (want := true) (d := 100) (c := ((a0.Kids.length : Int) == 2)) (v := true) rfl rfl ac rfl rfl ?_
   refine r_move (.bool (x227.Kind == 5)) rfl rfl ?_
   refine gen_FL fun bx bz => ?_
   have db := (bz 1).trans aO
   have bA : bx 100 = (.bool ((a0.Kids.length : Int) == 2)) := (bz 100).trans rfl
   have av : bx 107 = (.bool (x227.Kind == 5)) := (bz 107).trans rfl
   obtain ⟨a5, hq253, hf⟩ := bind_some hf
   refine wpl_take 7 (J := fun a w => ∃ (F : Fr) (τ : S), a = fr 124 F ∧ w = τ.w ∧ Agr [108, 109, 110, 111, 112, 113, 114] F bx ∧ ExtB s0.N s0 τ ∧ Wext cY τ ∧ F 114 = (.bool a5)) ?_ ?_
   ·have hf := hq253
    refine if_else hf (fun ao hf => ?_) (fun ao hf => ?_)
    ·refine r_skip (j := 11) (want := false) (d := 107) (c := (x227.Kind == 5)) (v := true) rfl av ao rfl rfl ?_
     refine r_skip (j := 11) (want := false) (d := 107) (c := (x227.Kind == 5)) (v := true) rfl av ao rfl rfl ?_
     refine r_skip (j := 11) (want := false) (d := 107) (c := (x227.Kind == 5)) (v := true) rfl av ao rfl rfl ?_
     refine r_skip (j := 11) (want := false) (d := 107) (c := (x227.Kind == 5)) (v := true) rfl av ao rfl rfl ?_
     refine r_skip (j := 11) (want := false) (d := 107) (c := (x227.Kind == 5)) (v := true) rfl av ao rfl rfl ?_
     refine r_skip (j := 11) (want := false) (d := 107) (c := (x227.Kind == 5)) (v := true) rfl av ao rfl rfl ?_
     refine r_guard (j := 4) (want := true) (d := 100) (c := ((a0.Kids.length : Int) == 2)) (v := true) rfl bA ac rfl rfl ?_
     refine r_pick_t (c := (x227.Kind == 5)) (.bool true) av ao rfl rfl rfl rfl ?_
     refine j0 ?_
     obtain rfl := Option.some.inj hf
     exact ⟨rfl, _, _, rfl, rfl, ((((((((Agr.refl _ _).put rfl).put rfl).put rfl).put rfl).put rfl).put rfl).put rfl), aE, (Wext.refl _), rfl⟩
    refine r_guard (j := 11) (want := false) (d := 107) (c := (x227.Kind == 5)) (v := false) rfl av ao rfl rfl ?_
    refine r_fieldAddr ab 0 3 3 db rfl fo27_3 rfl ?_
    refine r_guard (j := 11) (want := false) (d := 107) (c := (x227.Kind == 5)) (v := false) rfl av ao rfl rfl ?_
    refine r_load ab 3 (.slice A1 a0.Kids.length c2) rfl rfl (loads_one to22 ((aN.cell 3).trans rfl)) ?_
    refine r_guard (j := 11) (want := false) (d := 107) (c := (x227.Kind == 5)) (v := false) rfl av ao rfl rfl ?_
    obtain ⟨x255, dc, hf⟩ := bind_some hf
    refine r_indexAddr (T := 22) (E := 27) ((((((((((h3.mono aw.wext).mono ah.wext).mono ai.wext).mono aj.wext).mono ag.wext).mono aF).mono aG).mono aI).mono aK).mono aM) dc rfl rfl rfl rfl Go.Proofs.Try.underlying22 sz27 ?_
    intro cb bB d0 dd de
    obtain ⟨d1, d2, d3, d4, d5, d6, d7, d8, rfl, d9, ea, eb, ec⟩ := Val.cells_iff.1 dd
    refine r_guard (j := 11) (want := false) (d := 107) (c := (x227.Kind == 5)) (v := false) rfl av ao rfl rfl ?_
    refine r_fieldAddr cb bB 0 (bB) rfl rfl fo27_0 rfl ?_
    refine r_guard (j := 11) (want := false) (d := 107) (c := (x227.Kind == 5)) (v := false) rfl av ao rfl rfl ?_
    refine r_load cb bB (.int .i64 x255.Kind) rfl rfl (loads_one to3 (de.2 0 _ rfl)) ?_
    refine r_guard (j := 11) (want := false) (d := 107) (c := (x227.Kind == 5)) (v := false) rfl av ao rfl rfl ?_
    refine r_bin (.int .i64 x255.Kind) (.int .i64 7) (.bool (x255.Kind == 7)) rfl rfl rfl rfl (b_eql) ?_
    refine r_guard (j := 4) (want := true) (d := 100) (c := ((a0.Kids.length : Int) == 2)) (v := true) rfl bA ac rfl rfl ?_
    refine r_pick_f (c := (x227.Kind == 5)) (.bool (x255.Kind == 7)) av ao rfl rfl rfl rfl ?_
    refine j0 ?_
    obtain rfl := Option.some.inj hf
    exact ⟨rfl, _, _, rfl, rfl, ((((((((Agr.refl _ _).put rfl).put rfl).put rfl).put rfl).put rfl).put rfl).put rfl), aE, (Wext.refl _), rfl⟩
   rintro a w ⟨ed, ee, rfl, rfl, df, dg, ef, dh⟩
   have di := (df 100 rfl).trans bA
   refine r_pick_t (c := ((a0.Kids.length : Int) == 2)) (.bool a5) di ac dh rfl rfl rfl ?_
   refine r_assign (.bool a5) rfl rfl ?_
   refine j0 (j1 (jb (j7 (j9 ?_))))
   obtain rfl := Option.some.inj hf
   refine ret_one (.bool a5) rfl ⟨rfl, rfl⟩ dg ?_
   exact (RpV.mkBool _ _)
  refine r_skip (j := 4) (want := true) (d := 100) (c := ((a0.Kids.length : Int) == 2)) (v := false) rfl rfl ac rfl rfl ?_
  refine r_skip (j := 4) (want := true) (d := 100) (c := ((a0.Kids.length : Int) == 2)) (v := false) rfl rfl ac rfl rfl ?_
  refine r_skip (j := 4) (want := true) (d := 100) (c := ((a0.Kids.length : Int) == 2)) (v := false) rfl rfl ac rfl rfl ?_
  refine r_skip (j := 4) (want := true) (d := 100) (c := ((a0.Kids.length : Int) == 2)) (v := false) rfl rfl ac rfl rfl ?_
  refine r_skip (j := 4) (want := true) (d := 100) (c := ((a0.Kids.length : Int) == 2)) (v := false) rfl rfl ac rfl rfl ?_
  refine r_skip (j := 4) (want := true) (d := 100) (c := ((a0.Kids.length : Int) == 2)) (v := false) rfl rfl ac rfl rfl ?_
  refine r_skip (j := 4) (want := true) (d := 100) (c := ((a0.Kids.length : Int) == 2)) (v := false) rfl rfl ac rfl rfl ?_
  refine r_skipu (j := 11) (d := 107) rfl rfl rfl ?_
  refine r_skipu (j := 11) (d := 107) rfl rfl rfl ?_
  refine r_skipu (j := 11) (d := 107) rfl rfl rfl ?_
  refine r_skipu (j := 11) (d := 107) rfl rfl rfl ?_
  refine r_skipu (j := 11) (d := 107) rfl rfl rfl ?_
  refine r_skipu (j := 11) (d := 107) rfl rfl rfl ?_
  refine r_skip (j := 4) (want := true) (d := 100) (c := ((a0.Kids.length : Int) == 2)) (v := false) rfl rfl ac rfl rfl ?_
  refine r_pick_f (c := ((a0.Kids.length : Int) == 2)) (.bool false) rfl ac rfl rfl rfl rfl ?_
  refine r_assign (.bool false) rfl rfl ?_
  refine j0 (j1 (jb (j7 (j9 ?_))))
  obtain rfl := Option.some.inj hf
  refine ret_one (.bool false) rfl ⟨rfl, rfl⟩ aE ?_
  exact (RpV.mkBool _ _)
 refine c_false rfl bv rfl ?_
 refine j2 (j3 ?_)
 refine r_bin (.int .i64 a0.Kind) (.int .i64 8) (.bool (a0.Kind == 8)) rfl rfl rfl rfl (b_eql) ?_
 refine r_assign (.bool (a0.Kind == 8)) rfl rfl ?_
 refine j0 (j1 ?_)
 refine if_else hf (fun bC hf => ?_) (fun bC hf => ?_)
 ·refine c_true rfl bC rfl ?_
  refine j2 (j3 ?_)
  refine r_load ab 0 (Val.ag a0 A1 c2 A4 c5 A7 c8 ad ae) aO rfl (loads_row tr27 (Blk.range aN 0 (Val.cs a0 A1 c2 A4 c5 A7 c8 ad ae) rfl)) ?_
  obtain ⟨cc, dj, hf⟩ := bind_some hf
  refine r_call [Val.ag a0 A1 c2 A4 c5 A7 c8 ad ae] (evs1 rfl) rfl (ok_value_validMap _ _ _ _ (Val.rpvMk (v := a0) ((((((((((h3.mono aw.wext).mono ah.wext).mono ai.wext).mono aj.wext).mono ag.wext).mono aF).mono aG).mono aI).mono aK).mono aM) ((((((((((h6.mono aw.wext).mono ah.wext).mono ai.wext).mono aj.wext).mono ag.wext).mono aF).mono aG).mono aI).mono aK).mono aM) ((((((((((h9.mono aw.wext).mono ah.wext).mono ai.wext).mono aj.wext).mono ag.wext).mono aF).mono aG).mono aI).mono aK).mono aM) ((((((((((a6.mono aw.wext).mono ah.wext).mono ai.wext).mono aj.wext).mono ag.wext).mono aF).mono aG).mono aI).mono aK).mono aM)) dj) ?_
  intro eg eh dk dl
  have dm := aE.x dk
  obtain rfl := RpV.bool dl
  refine r_assign (.bool cc) rfl rfl ?_
  refine j0 (j1 (jb (j7 (j9 ?_))))
  obtain rfl := Option.some.inj hf
  refine ret_one (.bool cc) rfl ⟨rfl, rfl⟩ dm ?_
  exact (RpV.mkBool _ _)
 refine c_false rfl bC rfl ?_
 refine j2 (j3 ?_)
 refine r_bin (.int .i64 a0.Kind) (.int .i64 9) (.bool (a0.Kind == 9)) rfl rfl rfl rfl (b_eql) ?_
 refine r_assign (.bool (a0.Kind == 9)) rfl rfl ?_
 refine j0 (j1 ?_)
 refine if_else hf (fun bD hf => ?_) (fun bD hf => ?_)
 ·refine c_true rfl bD rfl ?_
  refine j2 (j3 ?_)
  refine r_load ab 0 (Val.ag a0 A1 c2 A4 c5 A7 c8 ad ae) aO rfl (loads_row tr27 (Blk.range aN 0 (Val.cs a0 A1 c2 A4 c5 A7 c8 ad ae) rfl)) ?_
  obtain ⟨cd, dn, hf⟩ := bind_some hf
  refine r_call [Val.ag a0 A1 c2 A4 c5 A7 c8 ad ae] (evs1 rfl) rfl ((ok_value_validFunction fuel) _ _ _ _ (Val.rpvMk (v := a0) ((((((((((h3.mono aw.wext).mono ah.wext).mono ai.wext).mono aj.wext).mono ag.wext).mono aF).mono aG).mono aI).mono aK).mono aM) ((((((((((h6.mono aw.wext).mono ah.wext).mono ai.wext).mono aj.wext).mono ag.wext).mono aF).mono aG).mono aI).mono aK).mono aM) ((((((((((h9.mono aw.wext).mono ah.wext).mono ai.wext).mono aj.wext).mono ag.wext).mono aF).mono aG).mono aI).mono aK).mono aM) ((((((((((a6.mono aw.wext).mono ah.wext).mono ai.wext).mono aj.wext).mono ag.wext).mono aF).mono aG).mono aI).mono aK).mono aM)) dn) ?_
  intro ei ej dp dq
  have dr := aE.x dp
  obtain rfl := RpV.bool dq
  refine r_assign (.bool cd) rfl rfl ?_
  refine j0 (j1 (jb (j7 (j9 ?_))))
  obtain rfl := Option.some.inj hf
  refine ret_one (.bool cd) rfl ⟨rfl, rfl⟩ dr ?_
  exact (RpV.mkBool _ _)
 refine c_false rfl bD rfl ?_
 refine ja (j5 (j1 (j2 (j3 ?_))))
 refine r_assign (.bool true) rfl rfl ?_
 refine j0 (j1 (jb ?_))
 obtain rfl := Option.some.inj hf
 refine ret_one (.bool true) rfl ⟨rfl, rfl⟩ aE ?_
 exact (RpV.mkBool _ _)

def S_value_validTree (f : (Val → Option Bool)) : Prop := ∀ (s0 : S) (v0 : Value) (a0 : Val) (r : Bool), RpV s0 a0 v0 → f a0 = some r → Ctr Go.Proofs.Try.prog 35 [v0] s0 (fun v τ => RpV τ r v)

set_option maxHeartbeats 1600000 in
set_option maxRecDepth 100000 in
theorem okB_value_validTree {rec_value_validTree : (Val → Option Bool)} (fuel : Nat) (hrec_value_validTree : S_value_validTree rec_value_validTree) : S_value_validTree (value_validTree_B rec_value_validTree fuel) := by
 intro s0 v0 a0 r h0 hf
 obtain ⟨A1, c2, A4, c5, A7, c8, ab, ac, rfl, h3, h6, h9, aF⟩ := Val.rpv h0
 unfold value_validTree_B at hf
 have E0 : ExtB s0.N s0 s0 := ExtB.refl _ _
 refine ctr_of 19 Go.Proofs.Try.func35 rfl rfl rfl rfl ?_
 refine j2 (j3 ?_)
 refine r_box (B := s0.N) 1 E0.size (Val.ag a0 A1 c2 A4 c5 A7 c8 ab ac) (Val.cs a0 A1 c2 A4 c5 A7 c8 ab ac) rfl rfl rfl ?_
 intro bo aG aa aH
 have aN := E0.x aa
 refine r_assign (.bool false) rfl rfl ?_
 refine j0 (j1 (j2 (j2 (j3 ?_))))
 refine r_load aG 0 (Val.ag a0 A1 c2 A4 c5 A7 c8 ab ac) rfl rfl (loads_row tr27 (Blk.range aH 0 (Val.cs a0 A1 c2 A4 c5 A7 c8 ab ac) rfl)) ?_
 obtain ⟨aI, aO, hf⟩ := bind_some hf
 refine r_call [Val.ag a0 A1 c2 A4 c5 A7 c8 ab ac] (evs1 rfl) rfl ((ok_value_validNode fuel) _ _ _ _ (Val.rpvMk (v := a0) (h3.mono aa.wext) (h6.mono aa.wext) (h9.mono aa.wext) (aF.mono aa.wext)) aO) ?_
 intro bp bq ao aP
 have ax := aN.x ao
 obtain rfl := RpV.bool aP
 refine r_un (.bool aI) (.bool (!aI)) rfl rfl u_not ?_
 refine j0 (j1 ?_)
 refine if_else hf (fun ay hf => ?_) (fun ay hf => ?_)
 ·refine c_true rfl ay rfl ?_
  refine j2 (j3 ?_)
  refine r_assign (.bool false) rfl rfl ?_
  refine j0 (j1 (jb (j9 ?_)))
  obtain rfl := Option.some.inj hf
  refine ret_one (.bool false) rfl ⟨rfl, rfl⟩ ax ?_
  exact (RpV.mkBool _ _)
 refine c_false rfl ay rfl ?_
 refine ja (j1 (j2 (j2 (j3 ?_))))
 refine r_load aG 0 (Val.ag a0 A1 c2 A4 c5 A7 c8 ab ac) rfl rfl (loads_row tr27 (Blk.range (aH.ext ao) 0 (Val.cs a0 A1 c2 A4 c5 A7 c8 ab ac) rfl)) ?_
 obtain ⟨ad, aQ, hf⟩ := bind_some hf
 refine r_call [Val.ag a0 A1 c2 A4 c5 A7 c8 ab ac] (evs1 rfl) rfl (ok_value_parts _ _ _ _ (Val.rpvMk (v := a0) ((h3.mono aa.wext).mono ao.wext) ((h6.mono aa.wext).mono ao.wext) ((h9.mono aa.wext).mono ao.wext) ((aF.mono aa.wext).mono ao.wext)) aQ 1002 (by omega)) ?_
 intro br aJ aR aS
 have aT := ax.x aR
 obtain ⟨ar, au, rfl, aU⟩ := aS
 refine r_len ar ad.length au rfl rfl Go.Proofs.Try.underlying22 ?_
 refine r_move (.int .i64 0) rfl rfl ?_
 refine j0 (j1 (j4 ?_))
 refine gen_F fun ap az => ?_
 have aV : ap 9 = (.slice ar ad.length au) := (az 9).trans rfl
 have aW : ap 10 = (.int .i64 (ad.length : Int)) := (az 10).trans rfl
 have aX : ap 11 = (.int .i64 0) := (az 11).trans rfl
 obtain ⟨aY, aZ, hf⟩ := bind_some hf
 refine wp_mono (wp_iter (step := value_validTree_l1 rec_value_validTree ad) (fun q a w => ∃ (F : Fr) (τ : S), a = fr 19 F ∧ w = τ.w ∧ Agr [2, 4, 11, 12, 13, 14, 15, 16, 17, 18] F ap ∧ ExtB s0.N s0 τ ∧ Wext aJ τ ∧ F 11 = (.int .i64 q) ∧ Own s0.N 1002 27 τ ad ar au) (fun o e a w => match o with | .inl q => e = .exit 0 ∧ ∃ (F : Fr) (τ : S), a = fr 19 F ∧ w = τ.w ∧ Agr [2, 4, 11, 12, 13, 14, 15, 16, 17, 18] F ap ∧ ExtB s0.N s0 τ ∧ Wext aJ τ ∧ F 11 = (.int .i64 q) ∧ Own s0.N 1002 27 τ ad ar au | .inr r => e = .ret ∧ ∃ (F : Fr) (τ : S) (va : Value), a = fr 19 F ∧ w = τ.w ∧ ExtB s0.N s0 τ ∧ ResV Go.Proofs.Try.prog 19 F τ.w (.tmp 2) va ∧ RpV τ r va) (by rintro (_ | _) a w ⟨h, _⟩ <;> cases h) ?_ _ _ _ _ _ aZ ?_) ?_
 ·intro aq fl a w hf hI
  obtain ⟨bs, bt, rfl, rfl, av, aA, aK, aw, aB⟩ := hI
  unfold value_validTree_l1 at hf
  have a1 := (av 9 rfl).trans aV
  have a2 := (av 10 rfl).trans aW
  refine j2 (j3 ?_)
  refine r_bin (.int .i64 aq) (.int .i64 (ad.length : Int)) (.bool (decide (aq < (ad.length : Int)))) aw a2 rfl rfl (b_lss) ?_
  refine j0 (j1 (j2 ?_))
  refine if_else hf (fun aC hf => ?_) (fun aC hf => ?_)
  ·refine c_true rfl aC rfl ?_
   refine ja (j1 (j2 (j4 (j2 (j3 ?_)))))
   obtain ⟨x53, a3, hf⟩ := bind_some hf
   refine r_indexAddr (T := 22) (E := 27) aB.sl a3 a1 aw rfl rfl Go.Proofs.Try.underlying22 sz27 ?_
   intro a4 a5 bu a6 a7
   obtain ⟨ae, af, ag, ah, ai, aj, ak, al, rfl, a8, a9, ba, bb⟩ := Val.cells_iff.1 a6
   refine r_load a4 a5 (Val.ag x53 ae af ag ah ai aj ak al) rfl rfl (loads_row tr27 a7.2) ?_
   refine r_alloc (B := s0.N) 3 aA.size _ [.int .i64 0, .int .i64 0, .string (⟨#[]⟩), nl Val, nl Key, nl Ent, nl ByteArray] ti27 rfl ?_
   intro bv bc am bd
   have be := aA.x am
   refine r_store bd 0 (Val.ag x53 ae af ag ah ai aj ak al) (Val.cs x53 ae af ag ah ai aj ak al) (Val.cs x53 ae af ag ah ai aj ak al) rfl rfl rfl rfl rfl sz27 rfl rfl rfl ?_
   intro bw an bf
   have bg := be.y an
   refine j0 (j1 (j2 (j3 ?_)))
   refine r_load bc 0 (Val.ag x53 ae af ag ah ai aj ak al) rfl rfl (loads_row tr27 (Blk.range bf 0 (Val.cs x53 ae af ag ah ai aj ak al) rfl)) ?_
   obtain ⟨aL, bh, hf⟩ := bind_some hf
   refine r_call [Val.ag x53 ae af ag ah ai aj ak al] (evs1 rfl) rfl (hrec_value_validTree _ _ _ _ (Val.rpvMk (v := x53) ((a8.mono am.wext).mono an.wext) ((a9.mono am.wext).mono an.wext) ((ba.mono am.wext).mono an.wext) ((bb.mono am.wext).mono an.wext)) bh) ?_
   intro bx bz aD bi
   have aM := bg.x aD
   obtain rfl := RpV.bool bi
   refine r_un (.bool aL) (.bool (!aL)) rfl rfl u_not ?_
   refine j0 (j1 ?_)
   refine if_else hf (fun aE hf => ?_) (fun aE hf => ?_)
   ·refine c_true rfl aE rfl ?_
    refine j2 (j3 ?_)
    refine r_assign (.bool false) rfl rfl ?_
    refine j0 (j1 (jb (j7 (j9 ?_))))
    obtain rfl := Option.some.inj hf
    exact ⟨rfl, _, _, (.bool false), rfl, rfl, aM, ⟨rfl, rfl⟩, (RpV.mkBool _ _)⟩
   refine c_false rfl aE rfl ?_
   refine ja (j5 (j1 (j3 ?_)))
   refine r_bin (.int .i64 aq) (.int .i64 1) (.int .i64 (w64 (aq + 1))) aw rfl rfl rfl (b_add) ?_
   refine r_move (.int .i64 (w64 (aq + 1))) rfl rfl ?_
   refine j0 ?_
   obtain rfl := Option.some.inj hf
   exact ⟨rfl, _, _, rfl, rfl, (((((((((((av).put rfl).put rfl).put rfl).put rfl).put0).put rfl).put rfl).put rfl).put rfl).put rfl), aM, (((((Wext.refl _).trans aK).trans am.wext).trans an.wext).trans aD.wext), rfl, (((aB.ext am).mod an rfl).ext aD)⟩
  refine c_false rfl aC rfl ?_
  refine jc (j8 ?_)
  obtain rfl := Option.some.inj hf
  exact ⟨rfl, _, _, rfl, rfl, ((av).put rfl), aA, ((Wext.refl _).trans aK), aw, aB⟩
 ·exact ⟨_, _, rfl, rfl, (Agr.refl _ _), aT, (Wext.refl _), aX, (aU.base (by have := ax.size; omega))⟩
 intro e a w hp
 rcases aY with bA | r
 ·replace hf := onEnd_inl hf
  obtain ⟨rfl, bB, bC, rfl, rfl, bD, bj, bE, bF, bG⟩ := hp
  refine j6 (j1 (j2 (j3 ?_)))
  refine r_assign (.bool true) rfl rfl ?_
  refine j0 (j1 (jb ?_))
  obtain rfl := Option.some.inj hf
  refine ret_one (.bool true) rfl ⟨rfl, rfl⟩ bj ?_
  exact (RpV.mkBool _ _)
 replace hf := onEnd_inr hf
 obtain ⟨rfl, bH, bI, bk, rfl, rfl, bl, bm, bn⟩ := hp
 refine j7 (j9 ?_)
 obtain rfl := Option.some.inj hf
 refine ret_one bk rfl bm bl ?_
 exact bn

theorem ok_value_validTree : ∀ n : Nat, S_value_validTree (value_validTree n)
  | 0 => by intro _ _ _ _ _ h; cases h
  | n + 1 => okB_value_validTree n (ok_value_validTree n)

def S_value_Validate (f : (Val → Option Int)) : Prop := ∀ (s0 : S) (v0 : Value) (a0 : Val) (r : Int), RpV s0 a0 v0 → f a0 = some r → Ctr Go.Proofs.Try.prog 10 [v0] s0 (fun v τ => RpV τ r v)

set_option maxHeartbeats 1600000 in
set_option maxRecDepth 100000 in
theorem ok_value_Validate (fuel : Nat) : S_value_Validate (value_Validate fuel) := by
 intro s0 v0 a0 r h0 hf
 obtain ⟨A1, c2, A4, c5, A7, c8, aa, ab, rfl, h3, h6, h9, ag⟩ := Val.rpv h0
 unfold value_Validate at hf
 have E0 : ExtB s0.N s0 s0 := ExtB.refl _ _
 refine ctr_of 6 Go.Proofs.Try.func10 rfl rfl rfl rfl ?_
 refine j2 (j3 ?_)
 refine r_box (B := s0.N) 1 E0.size (Val.ag a0 A1 c2 A4 c5 A7 c8 aa ab) (Val.cs a0 A1 c2 A4 c5 A7 c8 aa ab) rfl rfl rfl ?_
 intro an ah ac ai
 have aj := E0.x ac
 refine r_assign (.int .i64 0) rfl rfl ?_
 refine j0 (j1 (j2 (j2 (j3 ?_))))
 refine r_load ah 0 (Val.ag a0 A1 c2 A4 c5 A7 c8 aa ab) rfl rfl (loads_row tr27 (Blk.range ai 0 (Val.cs a0 A1 c2 A4 c5 A7 c8 aa ab) rfl)) ?_
 obtain ⟨ae, ak, hf⟩ := bind_some hf
 refine r_call [Val.ag a0 A1 c2 A4 c5 A7 c8 aa ab] (evs1 rfl) rfl ((ok_value_validTree fuel) _ _ _ _ (Val.rpvMk (v := a0) (h3.mono ac.wext) (h6.mono ac.wext) (h9.mono ac.wext) (ag.mono ac.wext)) ak) ?_
 intro ao ap al am
 have af := aj.x al
 obtain rfl := RpV.bool am
 refine r_un (.bool ae) (.bool (!ae)) rfl rfl u_not ?_
 refine j0 (j1 ?_)
 refine if_else hf (fun ad hf => ?_) (fun ad hf => ?_)
 ·refine c_true rfl ad rfl ?_
  refine j2 (j3 ?_)
  refine r_assign (.int .i64 1) rfl rfl ?_
  refine j0 (j1 (jb (j9 ?_)))
  obtain rfl := Option.some.inj hf
  refine ret_one (.int .i64 1) rfl ⟨rfl, rfl⟩ af ?_
  exact (RpV.mkInt _ _)
 refine c_false rfl ad rfl ?_
 refine ja (j1 (j2 (j3 ?_)))
 refine r_assign (.int .i64 0) rfl rfl ?_
 refine j0 (j1 (jb ?_))
 obtain rfl := Option.some.inj hf
 refine ret_one (.int .i64 0) rfl ⟨rfl, rfl⟩ af ?_
 exact (RpV.mkInt _ _)

def S_value_Nodes (f : (Val → Option Int)) : Prop := ∀ (s0 : S) (v0 : Value) (a0 : Val) (r : Int), RpV s0 a0 v0 → f a0 = some r → Ctr Go.Proofs.Try.prog 16 [v0] s0 (fun v τ => RpV τ r v)

set_option maxHeartbeats 1600000 in
set_option maxRecDepth 100000 in
theorem okB_value_Nodes {rec_value_Nodes : (Val → Option Int)} (hrec_value_Nodes : S_value_Nodes rec_value_Nodes) : S_value_Nodes (value_Nodes_B rec_value_Nodes) := by
 intro s0 v0 a0 r h0 hf
 obtain ⟨A1, c2, A4, c5, A7, c8, an, ao, rfl, h3, h6, h9, aH⟩ := Val.rpv h0
 unfold value_Nodes_B at hf
 have E0 : ExtB s0.N s0 s0 := ExtB.refl _ _
 refine ctr_of 19 Go.Proofs.Try.func16 rfl rfl rfl rfl ?_
 refine j2 (j3 ?_)
 refine r_box (B := s0.N) 1 E0.size (Val.ag a0 A1 c2 A4 c5 A7 c8 an ao) (Val.cs a0 A1 c2 A4 c5 A7 c8 an ao) rfl rfl rfl ?_
 intro bg aI ap aJ
 have aD := E0.x ap
 refine r_assign (.int .i64 0) rfl rfl ?_
 refine j0 (j1 (j2 (j3 ?_)))
 refine r_assign (.int .i64 1) rfl rfl ?_
 refine j0 (j1 (j2 (j2 (j3 ?_))))
 refine r_load aI 0 (Val.ag a0 A1 c2 A4 c5 A7 c8 an ao) rfl rfl (loads_row tr27 (Blk.range aJ 0 (Val.cs a0 A1 c2 A4 c5 A7 c8 an ao) rfl)) ?_
 obtain ⟨ab, aK, hf⟩ := bind_some hf
 refine r_call [Val.ag a0 A1 c2 A4 c5 A7 c8 an ao] (evs1 rfl) rfl (ok_value_parts _ _ _ _ (Val.rpvMk (v := a0) (h3.mono ap.wext) (h6.mono ap.wext) (h9.mono ap.wext) (aH.mono ap.wext)) aK 1002 (by omega)) ?_
 intro bh aE aL aM
 have aN := aD.x aL
 obtain ⟨aq, ar, rfl, aO⟩ := aM
 refine r_len aq ab.length ar rfl rfl Go.Proofs.Try.underlying22 ?_
 refine r_move (.int .i64 0) rfl rfl ?_
 refine j0 (j1 (j4 ?_))
 refine gen_F fun am au => ?_
 have aP : am 3 = (.int .i64 1) := (au 3).trans rfl
 have aQ : am 7 = (.slice aq ab.length ar) := (au 7).trans rfl
 have aR : am 8 = (.int .i64 (ab.length : Int)) := (au 8).trans rfl
 have aS : am 9 = (.int .i64 0) := (au 9).trans rfl
 obtain ⟨ax, aT, hf⟩ := bind_some hf
 refine wp_mono (wp_iter (step := value_Nodes_l1 rec_value_Nodes ab) (fun q a w => ∃ (F : Fr) (τ : S), a = fr 19 F ∧ w = τ.w ∧ Agr [3, 5, 9, 10, 11, 12, 13, 14, 15, 16, 17] F am ∧ ExtB s0.N s0 τ ∧ Wext aE τ ∧ F 3 = (.int .i64 q.1) ∧ F 9 = (.int .i64 q.2) ∧ Own s0.N 1002 27 τ ab aq ar) (fun q e a w => e = .exit 0 ∧ ∃ (F : Fr) (τ : S), a = fr 19 F ∧ w = τ.w ∧ Agr [3, 5, 9, 10, 11, 12, 13, 14, 15, 16, 17] F am ∧ ExtB s0.N s0 τ ∧ Wext aE τ ∧ F 3 = (.int .i64 q.1) ∧ F 9 = (.int .i64 q.2) ∧ Own s0.N 1002 27 τ ab aq ar) (by rintro _ a w ⟨h, _⟩; cases h) ?_ _ _ _ _ _ aT ?_) ?_
 ·intro aa fl a w hf hI
  obtain ⟨bi, bj, rfl, rfl, av, ay, aF, aG, aw, az⟩ := hI
  unfold value_Nodes_l1 at hf
  have aU := (av 7 rfl).trans aQ
  have aV := (av 8 rfl).trans aR
  refine j2 (j3 ?_)
  refine r_bin (.int .i64 aa.2) (.int .i64 (ab.length : Int)) (.bool (decide (aa.2 < (ab.length : Int)))) aw aV rfl rfl (b_lss) ?_
  refine j0 (j1 (j2 ?_))
  refine if_else hf (fun aA hf => ?_) (fun aA hf => ?_)
  ·refine c_true rfl aA rfl ?_
   refine ja (j1 (j2 (j4 (j2 (j3 ?_)))))
   obtain ⟨x48, aW, hf⟩ := bind_some hf
   refine r_indexAddr (T := 22) (E := 27) az.sl aW aU aw rfl rfl Go.Proofs.Try.underlying22 sz27 ?_
   intro aX aY bk aZ a1
   obtain ⟨ac, ad, ae, af, ag, ah, ai, aj, rfl, a2, a3, a4, a5⟩ := Val.cells_iff.1 aZ
   refine r_load aX aY (Val.ag x48 ac ad ae af ag ah ai aj) rfl rfl (loads_row tr27 a1.2) ?_
   refine r_alloc (B := s0.N) 3 ay.size _ [.int .i64 0, .int .i64 0, .string (⟨#[]⟩), nl Val, nl Key, nl Ent, nl ByteArray] ti27 rfl ?_
   intro bl a6 ak a7
   have a8 := ay.x ak
   refine r_store a7 0 (Val.ag x48 ac ad ae af ag ah ai aj) (Val.cs x48 ac ad ae af ag ah ai aj) (Val.cs x48 ac ad ae af ag ah ai aj) rfl rfl rfl rfl rfl sz27 rfl rfl rfl ?_
   intro bm al a9
   have ba := a8.y al
   refine j0 (j1 (j3 ?_))
   refine r_move (.int .i64 aa.1) aG rfl ?_
   refine r_load a6 0 (Val.ag x48 ac ad ae af ag ah ai aj) rfl rfl (loads_row tr27 (Blk.range a9 0 (Val.cs x48 ac ad ae af ag ah ai aj) rfl)) ?_
   obtain ⟨aB, bb, hf⟩ := bind_some hf
   refine r_call [Val.ag x48 ac ad ae af ag ah ai aj] (evs1 rfl) rfl (hrec_value_Nodes _ _ _ _ (Val.rpvMk (v := x48) ((a2.mono ak.wext).mono al.wext) ((a3.mono ak.wext).mono al.wext) ((a4.mono ak.wext).mono al.wext) ((a5.mono ak.wext).mono al.wext)) bb) ?_
   intro bn bo aC bc
   have bd := ba.x aC
   obtain rfl := RpV.int bc
   refine r_bin (.int .i64 aa.1) (.int .i64 aB) (.int .i64 (w64 (aa.1 + aB))) rfl rfl rfl rfl (b_add) ?_
   refine r_assign (.int .i64 (w64 (aa.1 + aB))) rfl rfl ?_
   refine j0 (j5 (j1 (j3 ?_)))
   refine r_bin (.int .i64 aa.2) (.int .i64 1) (.int .i64 (w64 (aa.2 + 1))) aw rfl rfl rfl (b_add) ?_
   refine r_move (.int .i64 (w64 (aa.2 + 1))) rfl rfl ?_
   refine j0 ?_
   obtain rfl := Option.some.inj hf
   exact ⟨rfl, _, _, rfl, rfl, (((((((((((((av).put rfl).put rfl).put rfl).put rfl).put0).put rfl).put rfl).put rfl).put rfl).put rfl).put rfl).put rfl), bd, (((((Wext.refl _).trans aF).trans ak.wext).trans al.wext).trans aC.wext), rfl, rfl, (((az.ext ak).mod al rfl).ext aC)⟩
  refine c_false rfl aA rfl ?_
  refine jc (j8 ?_)
  obtain rfl := Option.some.inj hf
  exact ⟨rfl, _, _, rfl, rfl, ((av).put rfl), ay, ((Wext.refl _).trans aF), aG, aw, az⟩
 ·exact ⟨_, _, rfl, rfl, (Agr.refl _ _), aN, (Wext.refl _), aP, aS, (aO.base (by have := aD.size; omega))⟩
 rintro e a w ⟨rfl, bp, bq, rfl, rfl, br, be, bs, bf, bt, bu⟩
 refine j6 (j1 (j2 (j3 ?_)))
 refine r_move (.int .i64 ax.1) bf rfl ?_
 refine r_assign (.int .i64 ax.1) rfl rfl ?_
 refine j0 (j1 (jb ?_))
 obtain rfl := Option.some.inj hf
 refine ret_one (.int .i64 ax.1) rfl ⟨rfl, rfl⟩ be ?_
 exact (RpV.mkInt _ _)

theorem ok_value_Nodes : ∀ n : Nat, S_value_Nodes (value_Nodes n)
  | 0 => by intro _ _ _ _ _ h; cases h
  | n + 1 => okB_value_Nodes (ok_value_Nodes n)

def S_value_Height (f : (Val → Option Int)) : Prop := ∀ (s0 : S) (v0 : Value) (a0 : Val) (r : Int), RpV s0 a0 v0 → f a0 = some r → Ctr Go.Proofs.Try.prog 18 [v0] s0 (fun v τ => RpV τ r v)

set_option maxHeartbeats 1600000 in
set_option maxRecDepth 100000 in
theorem okB_value_Height {rec_value_Height : (Val → Option Int)} (hrec_value_Height : S_value_Height rec_value_Height) : S_value_Height (value_Height_B rec_value_Height) := by
 intro s0 v0 a0 r h0 hf
 obtain ⟨A1, c2, A4, c5, A7, c8, an, ao, rfl, h3, h6, h9, aH⟩ := Val.rpv h0
 unfold value_Height_B at hf
 have E0 : ExtB s0.N s0 s0 := ExtB.refl _ _
 refine ctr_of 20 Go.Proofs.Try.func18 rfl rfl rfl rfl ?_
 refine j2 (j3 ?_)
 refine r_box (B := s0.N) 1 E0.size (Val.ag a0 A1 c2 A4 c5 A7 c8 an ao) (Val.cs a0 A1 c2 A4 c5 A7 c8 an ao) rfl rfl rfl ?_
 intro bg aI ap aJ
 have aC := E0.x ap
 refine r_assign (.int .i64 0) rfl rfl ?_
 refine j0 (j1 (j2 (j3 ?_)))
 refine r_assign (.int .i64 0) rfl rfl ?_
 refine j0 (j1 (j2 (j2 (j3 ?_))))
 refine r_load aI 0 (Val.ag a0 A1 c2 A4 c5 A7 c8 an ao) rfl rfl (loads_row tr27 (Blk.range aJ 0 (Val.cs a0 A1 c2 A4 c5 A7 c8 an ao) rfl)) ?_
 obtain ⟨aa, aK, hf⟩ := bind_some hf
 refine r_call [Val.ag a0 A1 c2 A4 c5 A7 c8 an ao] (evs1 rfl) rfl (ok_value_parts _ _ _ _ (Val.rpvMk (v := a0) (h3.mono ap.wext) (h6.mono ap.wext) (h9.mono ap.wext) (aH.mono ap.wext)) aK 1002 (by omega)) ?_
 intro bh aD aL aM
 have aN := aC.x aL
 obtain ⟨ar, au, rfl, aO⟩ := aM
 refine r_len ar aa.length au rfl rfl Go.Proofs.Try.underlying22 ?_
 refine r_move (.int .i64 0) rfl rfl ?_
 refine j0 (j1 (j4 ?_))
 refine gen_F fun am av => ?_
 have aP : am 3 = (.int .i64 0) := (av 3).trans rfl
 have aQ : am 7 = (.slice ar aa.length au) := (av 7).trans rfl
 have aR : am 8 = (.int .i64 (aa.length : Int)) := (av 8).trans rfl
 have aS : am 9 = (.int .i64 0) := (av 9).trans rfl
 obtain ⟨aq, aT, hf⟩ := bind_some hf
 refine wp_mono (wp_iter (step := value_Height_l1 rec_value_Height aa) (fun q a w => ∃ (F : Fr) (τ : S), a = fr 20 F ∧ w = τ.w ∧ Agr [3, 5, 9, 10, 11, 12, 13, 14, 15, 16, 17] F am ∧ ExtB s0.N s0 τ ∧ Wext aD τ ∧ F 3 = (.int .i64 q.1) ∧ F 9 = (.int .i64 q.2) ∧ Own s0.N 1002 27 τ aa ar au) (fun q e a w => e = .exit 0 ∧ ∃ (F : Fr) (τ : S), a = fr 20 F ∧ w = τ.w ∧ Agr [3, 5, 9, 10, 11, 12, 13, 14, 15, 16, 17] F am ∧ ExtB s0.N s0 τ ∧ Wext aD τ ∧ F 3 = (.int .i64 q.1) ∧ F 9 = (.int .i64 q.2) ∧ Own s0.N 1002 27 τ aa ar au) (by rintro _ a w ⟨h, _⟩; cases h) ?_ _ _ _ _ _ aT ?_) ?_
 ·intro ab fl a w hf hI
  obtain ⟨bi, bj, rfl, rfl, aw, ay, aE, aF, ax, az⟩ := hI
  unfold value_Height_l1 at hf
  have aU := (aw 7 rfl).trans aQ
  have aV := (aw 8 rfl).trans aR
  refine j2 (j3 ?_)
  refine r_bin (.int .i64 ab.2) (.int .i64 (aa.length : Int)) (.bool (decide (ab.2 < (aa.length : Int)))) ax aV rfl rfl (b_lss) ?_
  refine j0 (j1 (j2 ?_))
  refine if_else hf (fun aA hf => ?_) (fun aA hf => ?_)
  ·refine c_true rfl aA rfl ?_
   refine ja (j1 (j2 (j4 (j2 (j3 ?_)))))
   obtain ⟨x48, aW, hf⟩ := bind_some hf
   refine r_indexAddr (T := 22) (E := 27) az.sl aW aU ax rfl rfl Go.Proofs.Try.underlying22 sz27 ?_
   intro aX aY bk aZ a1
   obtain ⟨ac, ad, ae, af, ag, ah, ai, aj, rfl, a2, a3, a4, a5⟩ := Val.cells_iff.1 aZ
   refine r_load aX aY (Val.ag x48 ac ad ae af ag ah ai aj) rfl rfl (loads_row tr27 a1.2) ?_
   refine r_alloc (B := s0.N) 3 ay.size _ [.int .i64 0, .int .i64 0, .string (⟨#[]⟩), nl Val, nl Key, nl Ent, nl ByteArray] ti27 rfl ?_
   intro bl a6 ak a7
   have a8 := ay.x ak
   refine r_store a7 0 (Val.ag x48 ac ad ae af ag ah ai aj) (Val.cs x48 ac ad ae af ag ah ai aj) (Val.cs x48 ac ad ae af ag ah ai aj) rfl rfl rfl rfl rfl sz27 rfl rfl rfl ?_
   intro bm al a9
   have ba := a8.y al
   refine j0 (j1 (j3 ?_))
   refine r_move (.int .i64 ab.1) aF rfl ?_
   refine r_load a6 0 (Val.ag x48 ac ad ae af ag ah ai aj) rfl rfl (loads_row tr27 (Blk.range a9 0 (Val.cs x48 ac ad ae af ag ah ai aj) rfl)) ?_
   obtain ⟨aG, bb, hf⟩ := bind_some hf
   refine r_call [Val.ag x48 ac ad ae af ag ah ai aj] (evs1 rfl) rfl (hrec_value_Height _ _ _ _ (Val.rpvMk (v := x48) ((a2.mono ak.wext).mono al.wext) ((a3.mono ak.wext).mono al.wext) ((a4.mono ak.wext).mono al.wext) ((a5.mono ak.wext).mono al.wext)) bb) ?_
   intro bn bo aB bc
   have bd := ba.x aB
   obtain rfl := RpV.int bc
   refine r_max .i64 ab.1 aG rfl rfl rfl rfl ?_
   refine r_assign (.int .i64 (max ab.1 aG)) rfl rfl ?_
   refine j0 (j5 (j1 (j3 ?_)))
   refine r_bin (.int .i64 ab.2) (.int .i64 1) (.int .i64 (w64 (ab.2 + 1))) ax rfl rfl rfl (b_add) ?_
   refine r_move (.int .i64 (w64 (ab.2 + 1))) rfl rfl ?_
   refine j0 ?_
   obtain rfl := Option.some.inj hf
   exact ⟨rfl, _, _, rfl, rfl, (((((((((((((aw).put rfl).put rfl).put rfl).put rfl).put0).put rfl).put rfl).put rfl).put rfl).put rfl).put rfl).put rfl), bd, (((((Wext.refl _).trans aE).trans ak.wext).trans al.wext).trans aB.wext), rfl, rfl, (((az.ext ak).mod al rfl).ext aB)⟩
  refine c_false rfl aA rfl ?_
  refine jc (j8 ?_)
  obtain rfl := Option.some.inj hf
  exact ⟨rfl, _, _, rfl, rfl, ((aw).put rfl), ay, ((Wext.refl _).trans aE), aF, ax, az⟩
 ·exact ⟨_, _, rfl, rfl, (Agr.refl _ _), aN, (Wext.refl _), aP, aS, (aO.base (by have := aC.size; omega))⟩
 rintro e a w ⟨rfl, bp, bq, rfl, rfl, br, be, bs, bf, bt, bu⟩
 refine j6 (j1 (j2 (j3 ?_)))
 refine r_move (.int .i64 aq.1) bf rfl ?_
 refine r_bin (.int .i64 aq.1) (.int .i64 1) (.int .i64 (w64 (aq.1 + 1))) rfl rfl rfl rfl (b_add) ?_
 refine r_assign (.int .i64 (w64 (aq.1 + 1))) rfl rfl ?_
 refine j0 (j1 (jb ?_))
 obtain rfl := Option.some.inj hf
 refine ret_one (.int .i64 (w64 (aq.1 + 1))) rfl ⟨rfl, rfl⟩ be ?_
 exact (RpV.mkInt _ _)

theorem ok_value_Height : ∀ n : Nat, S_value_Height (value_Height n)
  | 0 => by intro _ _ _ _ _ h; cases h
  | n + 1 => okB_value_Height (ok_value_Height n)

def S_value_Nil (f : (Option Val)) : Prop := ∀ (s0 : S) (r : Val), f = some r → Ctr Go.Proofs.Try.prog 33 [] s0 (fun v τ => RpV τ r v)

set_option maxHeartbeats 1600000 in
set_option maxRecDepth 100000 in
theorem ok_value_Nil : S_value_Nil value_Nil := by
 intro s0 r hf
 unfold value_Nil at hf
 have E0 : ExtB s0.N s0 s0 := ExtB.refl _ _
 refine ctr_of 2 Go.Proofs.Try.func33 rfl rfl rfl rfl ?_
 refine j2 (j3 ?_)
 refine r_alloc (B := s0.N) 1 E0.size _ [.int .i64 0, .int .i64 0, .string (⟨#[]⟩), nl Val, nl Key, nl Ent, nl ByteArray] ti27 rfl ?_
 intro s2 b1 k3 hb4
 have E5 := E0.x k3
 refine j0 (j1 (j2 (j3 ?_)))
 refine r_build tst27 [(0, .int .i64 5)] [.int .i64 5, .int .i64 0, .string (⟨#[]⟩), nl Val, nl Key, nl Ent, nl ByteArray] (eps_cons rfl eps_nil) rfl rfl ?_
 refine r_store hb4 0 (.agg #[.int .i64 5, .int .i64 0, .string (⟨#[]⟩), nl Val, nl Key, nl Ent, nl ByteArray]) [.int .i64 5, .int .i64 0, .string (⟨#[]⟩), nl Val, nl Key, nl Ent, nl ByteArray] [.int .i64 5, .int .i64 0, .string (⟨#[]⟩), nl Val, nl Key, nl Ent, nl ByteArray] rfl rfl rfl rfl rfl sz27 rfl rfl rfl ?_
 intro s6 hm7 hb8
 have E9 := E5.y hm7
 refine j0 (j1 (jb ?_))
 obtain rfl := Option.some.inj hf
 refine ret_one (.agg #[.int .i64 5, .int .i64 0, .string (⟨#[]⟩), nl Val, nl Key, nl Ent, nl ByteArray]) rfl ⟨rfl, _, rfl, loads_row tr27 (Blk.range hb8 0 [.int .i64 5, .int .i64 0, .string (⟨#[]⟩), nl Val, nl Key, nl Ent, nl ByteArray] rfl)⟩ E9 ?_
 exact (Val.rpvMk (v := (Val.mk 5 0 (⟨#[]⟩) ([] : List Val) ([] : List Key) ([] : List Ent) ([] : List ByteArray))) (Sl.nil_ _ _ _ (Nat.zero_le _)) (Sl.nil_ _ _ _ (Nat.zero_le _)) (Sl.nil_ _ _ _ (Nat.zero_le _)) (Sl.nil_ _ _ _ (Nat.zero_le _)))

def S_slices_Clone_api_Key_api_Key (f : ((List Key) → Option (List Key))) : Prop := ∀ (s0 : S) (v0 : Value) (a0 : (List Key)) (r : (List Key)), RpV s0 a0 v0 → f a0 = some r → ∀ id : Nat, 1000 ≤ id → Ctr Go.Proofs.Try.prog 68 [v0] s0 (fun v τ => OwnV s0.N id 60 τ r v)

set_option maxHeartbeats 1600000 in
set_option maxRecDepth 100000 in
theorem ok_slices_Clone_api_Key_api_Key : S_slices_Clone_api_Key_api_Key slices_Clone_api_Key_api_Key := by
 intro s0 v0 a0 r h0 hf id hid
 obtain ⟨A1, c2, rfl, h3⟩ := RpV.list h0
 unfold slices_Clone_api_Key_api_Key at hf
 have E0 : ExtB s0.N s0 s0 := ExtB.refl _ _
 refine ctr_of 8 Go.Proofs.Try.func68 rfl rfl rfl rfl ?_
 refine j2 (j3 ?_)
 refine r_assign (nl Key) rfl rfl ?_
 refine j0 (j1 (j2 (j2 (j3 ?_))))
 refine r_move (.slice A1 a0.length c2) rfl rfl ?_
 refine r_bin (.slice A1 a0.length c2) (nl Key) (.bool A1.isNone) rfl rfl rfl rfl (b_nil Go.Proofs.Try.underlying23) ?_
 refine j0 (j1 ?_)
 refine (Bool.eq_false_or_eq_true A1.isNone).elim (fun hn4 => ?_) (fun hn4 => ?_)
 ·have k5 := h3.nil_of hn4
  replace hf : some ([] : List Key) = some r := by simpa [k5, room] using hf
  refine c_true rfl hn4 rfl ?_
  refine j2 (j3 ?_)
  refine r_assign (nl Key) rfl rfl ?_
  refine j0 (j1 (jb (j9 ?_)))
  obtain rfl := Option.some.inj hf
  refine ret_one (nl Key) rfl ⟨rfl, rfl⟩ E0 ?_
  exact ⟨_, _, rfl, Own.nil_ _⟩
 refine c_false rfl hn4 rfl ?_
 refine ja (j1 (j2 (j3 ?_)))
 refine r_buildSlice0 ts23 ?_
 intro s7 A6 k8
 have E9 := E0.x k8
 refine r_move (.slice A1 a0.length c2) rfl rfl ?_
 obtain ⟨ag, ac, hf⟩ := bind_some hf
 refine r_append (B := s0.N) (id := id) (E := 60) (xs := ([] : List Key)) (ys := a0) E9.size (Own.nil_ _) (h3.mono k8.wext) ts23 (room_some ac) rfl rfl rfl rfl ?_
 intro ah aa ab ad ae
 have af := E9.y ad
 refine r_assign (.slice aa a0.length ab) rfl rfl ?_
 refine j0 (j1 (jb ?_))
 obtain rfl := Option.some.inj hf
 refine ret_one (.slice aa a0.length ab) rfl ⟨rfl, rfl⟩ af ?_
 exact ⟨_, _, rfl, ae⟩

def S_slices_Clone_string_string (f : ((List ByteArray) → Option (List ByteArray))) : Prop := ∀ (s0 : S) (v0 : Value) (a0 : (List ByteArray)) (r : (List ByteArray)), RpV s0 a0 v0 → f a0 = some r → ∀ id : Nat, 1000 ≤ id → Ctr Go.Proofs.Try.prog 69 [v0] s0 (fun v τ => OwnV s0.N id 9 τ r v)

set_option maxHeartbeats 1600000 in
set_option maxRecDepth 100000 in
theorem ok_slices_Clone_string_string : S_slices_Clone_string_string slices_Clone_string_string := by
 intro s0 v0 a0 r h0 hf id hid
 obtain ⟨A1, c2, rfl, h3⟩ := RpV.list h0
 unfold slices_Clone_string_string at hf
 have E0 : ExtB s0.N s0 s0 := ExtB.refl _ _
 refine ctr_of 8 Go.Proofs.Try.func69 rfl rfl rfl rfl ?_
 refine j2 (j3 ?_)
 refine r_assign (nl ByteArray) rfl rfl ?_
 refine j0 (j1 (j2 (j2 (j3 ?_))))
 refine r_move (.slice A1 a0.length c2) rfl rfl ?_
 refine r_bin (.slice A1 a0.length c2) (nl ByteArray) (.bool A1.isNone) rfl rfl rfl rfl (b_nil Go.Proofs.Try.underlying25) ?_
 refine j0 (j1 ?_)
 refine (Bool.eq_false_or_eq_true A1.isNone).elim (fun hn4 => ?_) (fun hn4 => ?_)
 ·have k5 := h3.nil_of hn4
  replace hf : some ([] : List ByteArray) = some r := by simpa [k5, room] using hf
  refine c_true rfl hn4 rfl ?_
  refine j2 (j3 ?_)
  refine r_assign (nl ByteArray) rfl rfl ?_
  refine j0 (j1 (jb (j9 ?_)))
  obtain rfl := Option.some.inj hf
  refine ret_one (nl ByteArray) rfl ⟨rfl, rfl⟩ E0 ?_
  exact ⟨_, _, rfl, Own.nil_ _⟩
 refine c_false rfl hn4 rfl ?_
 refine ja (j1 (j2 (j3 ?_)))
 refine r_buildSlice0 ts25 ?_
 intro s7 A6 k8
 have E9 := E0.x k8
 refine r_move (.slice A1 a0.length c2) rfl rfl ?_
 obtain ⟨ag, ac, hf⟩ := bind_some hf
 refine r_append (B := s0.N) (id := id) (E := 9) (xs := ([] : List ByteArray)) (ys := a0) E9.size (Own.nil_ _) (h3.mono k8.wext) ts25 (room_some ac) rfl rfl rfl rfl ?_
 intro ah aa ab ad ae
 have af := E9.y ad
 refine r_assign (.slice aa a0.length ab) rfl rfl ?_
 refine j0 (j1 (jb ?_))
 obtain rfl := Option.some.inj hf
 refine ret_one (.slice aa a0.length ab) rfl ⟨rfl, rfl⟩ af ?_
 exact ⟨_, _, rfl, ae⟩

def S_value_cloneAll (f : ((List Val) → Option (List Val))) : Prop := ∀ (s0 : S) (v0 : Value) (a0 : (List Val)) (r : (List Val)), RpV s0 a0 v0 → f a0 = some r → Ctr Go.Proofs.Try.prog 52 [v0] s0 (fun v τ => RpV τ r v)

def S_value_clone (f : (Val → Option Val)) : Prop := ∀ (s0 : S) (v0 : Value) (a0 : Val) (r : Val), RpV s0 a0 v0 → f a0 = some r → Ctr Go.Proofs.Try.prog 54 [v0] s0 (fun v τ => RpV τ r v)

def S_value_cloneEntries (f : ((List Ent) → Option (List Ent))) : Prop := ∀ (s0 : S) (v0 : Value) (a0 : (List Ent)) (r : (List Ent)), RpV s0 a0 v0 → f a0 = some r → Ctr Go.Proofs.Try.prog 70 [v0] s0 (fun v τ => RpV τ r v)

set_option maxHeartbeats 1600000 in
set_option maxRecDepth 100000 in
theorem okB_value_cloneAll {rec_value_cloneAll : ((List Val) → Option (List Val))} {rec_value_clone : (Val → Option Val)} {rec_value_cloneEntries : ((List Ent) → Option (List Ent))} (_hrec_value_cloneAll : S_value_cloneAll rec_value_cloneAll) (hrec_value_clone : S_value_clone rec_value_clone) (_hrec_value_cloneEntries : S_value_cloneEntries rec_value_cloneEntries) : S_value_cloneAll (value_cloneAll_B rec_value_cloneAll rec_value_clone rec_value_cloneEntries) := by
 intro s0 v0 a0 r h0 hf
 obtain ⟨A1, c2, rfl, h3⟩ := RpV.list h0
 unfold value_cloneAll_B at hf
 have E0 : ExtB s0.N s0 s0 := ExtB.refl _ _
 refine ctr_of 19 Go.Proofs.Try.func52 rfl rfl rfl rfl ?_
 refine j2 (j3 ?_)
 refine r_assign (nl Val) rfl rfl ?_
 refine j0 (j1 (j2 (j3 ?_)))
 refine r_assign (nl Val) rfl rfl ?_
 refine j0 (j1 (j2 (j2 (j3 ?_))))
 refine r_move (.slice A1 a0.length c2) rfl rfl ?_
 refine r_len A1 a0.length c2 rfl rfl Go.Proofs.Try.underlying22 ?_
 refine r_move (.int .i64 0) rfl rfl ?_
 refine j0 (j1 (j4 ?_))
 refine gen_F fun F4 hg5 => ?_
 have f7 : F4 3 = (nl Val) := (hg5 3).trans rfl
 have f8 : F4 6 = (.slice A1 a0.length c2) := (hg5 6).trans rfl
 have f9 : F4 7 = (.int .i64 (a0.length : Int)) := (hg5 7).trans rfl
 have aH : F4 8 = (.int .i64 0) := (hg5 8).trans rfl
 obtain ⟨ao, aI, hf⟩ := bind_some hf
 refine wp_mono (wp_iter (step := value_cloneAll_l1 rec_value_clone a0) (fun q a w => ∃ (F : Fr) (τ : S) (A1 : Option Addr) (c1 : Nat), a = fr 19 F ∧ w = τ.w ∧ Agr [3, 5, 8, 9, 10, 11, 12, 13, 14, 15, 16, 17] F F4 ∧ ExtB s0.N s0 τ ∧ Wext s0 τ ∧ F 3 = (.slice A1 q.1.length c1) ∧ Own s0.N 1 27 τ q.1 A1 c1 ∧ F 8 = (.int .i64 q.2)) (fun q e a w => e = .exit 0 ∧ ∃ (F : Fr) (τ : S) (A1 : Option Addr) (c1 : Nat), a = fr 19 F ∧ w = τ.w ∧ Agr [3, 5, 8, 9, 10, 11, 12, 13, 14, 15, 16, 17] F F4 ∧ ExtB s0.N s0 τ ∧ Wext s0 τ ∧ F 3 = (.slice A1 q.1.length c1) ∧ Own s0.N 1 27 τ q.1 A1 c1 ∧ F 8 = (.int .i64 q.2)) (by rintro _ a w ⟨h, _⟩; cases h) ?_ _ _ _ _ _ aI ?_) ?_
 ·intro aa fl a w hf hI
  obtain ⟨bl, bm, ay, az, rfl, rfl, al, ap, aq, aA, aB, am⟩ := hI
  unfold value_cloneAll_l1 at hf
  have aJ := (al 6 rfl).trans f8
  have aK := (al 7 rfl).trans f9
  refine j2 (j3 ?_)
  refine r_bin (.int .i64 aa.2) (.int .i64 (a0.length : Int)) (.bool (decide (aa.2 < (a0.length : Int)))) am aK rfl rfl (b_lss) ?_
  refine j0 (j1 (j2 ?_))
  refine if_else hf (fun ar hf => ?_) (fun ar hf => ?_)
  ·refine c_true rfl ar rfl ?_
   refine ja (j1 (j2 (j4 (j2 (j3 ?_)))))
   obtain ⟨x26, aL, hf⟩ := bind_some hf
   refine r_indexAddr (T := 22) (E := 27) (h3.mono aq) aL aJ am rfl rfl Go.Proofs.Try.underlying22 sz27 ?_
   intro aM aN bn aO aP
   obtain ⟨ab, ac, ad, ae, af, ag, ah, ai, rfl, aQ, aR, aS, aT⟩ := Val.cells_iff.1 aO
   refine r_load aM aN (Val.ag x26 ab ac ad ae af ag ah ai) rfl rfl (loads_row tr27 aP.2) ?_
   refine r_alloc (B := s0.N) 2 ap.size _ [.int .i64 0, .int .i64 0, .string (⟨#[]⟩), nl Val, nl Key, nl Ent, nl ByteArray] ti27 rfl ?_
   intro bo aU aj aV
   have aW := ap.x aj
   refine r_store aV 0 (Val.ag x26 ab ac ad ae af ag ah ai) (Val.cs x26 ab ac ad ae af ag ah ai) (Val.cs x26 ab ac ad ae af ag ah ai) rfl rfl rfl rfl rfl sz27 rfl rfl rfl ?_
   intro bp ak aX
   have aY := aW.y ak
   refine j0 (j1 (j3 ?_))
   refine r_move (.slice ay aa.1.length az) aA rfl ?_
   refine r_load aU 0 (Val.ag x26 ab ac ad ae af ag ah ai) rfl rfl (loads_row tr27 (Blk.range aX 0 (Val.cs x26 ab ac ad ae af ag ah ai) rfl)) ?_
   obtain ⟨an, aZ, hf⟩ := bind_some hf
   refine r_call [Val.ag x26 ab ac ad ae af ag ah ai] (evs1 rfl) rfl (hrec_value_clone _ _ _ _ (Val.rpvMk (v := x26) ((aQ.mono aj.wext).mono ak.wext) ((aR.mono aj.wext).mono ak.wext) ((aS.mono aj.wext).mono ak.wext) ((aT.mono aj.wext).mono ak.wext)) aZ) ?_
   intro bq br au a1
   have aC := aY.x au
   obtain ⟨a2, a3, a4, a5, a6, a7, a8, a9, rfl, ba, bb, bc, bd⟩ := Val.rpv a1
   refine r_buildSlice (B := s0.N) (E := 27) 3 aC.size ts22 (xs := [an]) [Val.ag an a2 a3 a4 a5 a6 a7 a8 a9] (eps_cons rfl eps_nil) rfl rfl rfl (by decide) rfl (by simp [Value.cells, Rp.sz]) ⟨_, _, rfl, (Val.cells_iff.2 ⟨_, _, _, _, _, _, _, _, rfl, ba, bb, bc, bd⟩), rfl⟩ ?_
   intro bs bt bu av be
   have aD := aC.x av
   obtain ⟨bv, bf, hf⟩ := bind_some hf
   refine r_append (B := s0.N) (id := 1) (E := 27) (xs := aa.1) (ys := [an]) aD.size (((((aB.ext aj).mod ak rfl).ext au).ext av)) be.sl ts22 (room_some bf) rfl rfl rfl rfl ?_
   intro bw aE aF aG bg
   have bh := aD.y aG
   refine r_assign (.slice aE (aa.1 ++ [an]).length aF) rfl rfl ?_
   refine j0 (j5 (j1 (j3 ?_)))
   refine r_bin (.int .i64 aa.2) (.int .i64 1) (.int .i64 (w64 (aa.2 + 1))) am rfl rfl rfl (b_add) ?_
   refine r_move (.int .i64 (w64 (aa.2 + 1))) rfl rfl ?_
   refine j0 ?_
   obtain rfl := Option.some.inj hf
   exact ⟨rfl, _, _, aE, aF, rfl, rfl, ((((((((((((((al).put rfl).put rfl).put rfl).put rfl).put0).put rfl).put rfl).put rfl).put rfl).put rfl).put rfl).put rfl).put rfl), bh, (((((((Wext.refl _).trans aq).trans aj.wext).trans ak.wext).trans au.wext).trans av.wext).trans aG.wext), rfl, (bg), rfl⟩
  refine c_false rfl ar rfl ?_
  refine jc (j8 ?_)
  obtain rfl := Option.some.inj hf
  exact ⟨rfl, _, _, ay, az, rfl, rfl, ((al).put rfl), ap, ((Wext.refl _).trans aq), aA, (aB), am⟩
 ·exact ⟨_, _, none, 0, rfl, rfl, (Agr.refl _ _), E0, (Wext.refl _), f7, (Own.nil_ _), aH⟩
 rintro e a w ⟨rfl, bx, bz, aw, ax, rfl, rfl, bA, bi, bB, bj, bk, bC⟩
 refine j6 (j1 (j2 (j3 ?_)))
 refine r_move (.slice aw ao.1.length ax) bj rfl ?_
 refine r_assign (.slice aw ao.1.length ax) rfl rfl ?_
 refine j0 (j1 (jb ?_))
 obtain rfl := Option.some.inj hf
 refine ret_one (.slice aw ao.1.length ax) rfl ⟨rfl, rfl⟩ bi ?_
 exact (RpV.mkList bk.sl)

set_option maxHeartbeats 1600000 in
set_option maxRecDepth 100000 in
theorem okB_value_clone {rec_value_cloneAll : ((List Val) → Option (List Val))} {rec_value_clone : (Val → Option Val)} {rec_value_cloneEntries : ((List Ent) → Option (List Ent))} (hrec_value_cloneAll : S_value_cloneAll rec_value_cloneAll) (_hrec_value_clone : S_value_clone rec_value_clone) (hrec_value_cloneEntries : S_value_cloneEntries rec_value_cloneEntries) : S_value_clone (value_clone_B rec_value_cloneAll rec_value_clone rec_value_cloneEntries) := by
 intro s0 v0 a0 r h0 hf
 obtain ⟨A1, c2, A4, c5, A7, c8, ao, ap, rfl, h3, h6, h9, aJ⟩ := Val.rpv h0
 unfold value_clone_B at hf
 have E0 : ExtB s0.N s0 s0 := ExtB.refl _ _
 refine ctr_of 20 Go.Proofs.Try.func54 rfl rfl rfl rfl ?_
 refine j2 (j3 ?_)
 refine r_box (B := s0.N) 1 E0.size (Val.ag a0 A1 c2 A4 c5 A7 c8 ao ap) (Val.cs a0 A1 c2 A4 c5 A7 c8 ao ap) rfl rfl rfl ?_
 intro a8 ab aA aC
 have aD := E0.x aA
 refine r_alloc (B := s0.N) 2 aD.size _ [.int .i64 0, .int .i64 0, .string (⟨#[]⟩), nl Val, nl Key, nl Ent, nl ByteArray] ti27 rfl ?_
 intro a9 ba an aK
 have aL := aD.x an
 refine j0 (j1 (j2 (j3 ?_)))
 refine r_fieldAddr ab 0 3 3 rfl rfl fo27_3 rfl ?_
 refine r_load ab 3 (.slice A1 a0.Kids.length c2) rfl rfl (loads_one to22 (((aC.ext an).cell 3).trans rfl)) ?_
 obtain ⟨aa, aM, hf⟩ := bind_some hf
 refine r_call [.slice A1 a0.Kids.length c2] (evs1 rfl) rfl (hrec_value_cloneAll _ _ _ _ (RpV.mkList ((h3.mono aA.wext).mono an.wext)) aM) ?_
 intro bb bc aq aN
 have aO := aL.x aq
 obtain ⟨ac, ad, rfl, aP⟩ := RpV.list aN
 refine r_fieldAddr ab 0 3 3 rfl rfl fo27_3 rfl ?_
 refine r_store ((aC.ext an).ext aq) 3 (.slice ac aa.length ad) [.slice ac aa.length ad] [.int .i64 a0.Kind, .int .i64 a0.Int_, .string a0.Text, .slice ac aa.length ad, .slice A4 a0.Keys.length c5, .slice A7 a0.Entries.length c8, .slice ao a0.Labels.length ap] rfl rfl rfl rfl rfl sz22 rfl rfl rfl ?_
 intro bd ar aE
 have aF := aO.y ar
 refine j0 (j1 (j2 (j3 ?_)))
 refine r_fieldAddr ab 0 4 4 rfl rfl fo27_4 rfl ?_
 refine r_load ab 4 (.slice A4 a0.Keys.length c5) rfl rfl (loads_one to23 ((aE.cell 4).trans rfl)) ?_
 obtain ⟨ae, aQ, hf⟩ := bind_some hf
 refine r_call [.slice A4 a0.Keys.length c5] (evs1 rfl) rfl (ok_slices_Clone_api_Key_api_Key _ _ _ _ (RpV.mkList ((((h6.mono aA.wext).mono an.wext).mono aq.wext).mono ar.wext)) aQ 1003 (by omega)) ?_
 intro be bf au aR
 have aS := aF.x au
 obtain ⟨af, ag, rfl, aT⟩ := aR
 refine r_fieldAddr ab 0 4 4 rfl rfl fo27_4 rfl ?_
 refine r_store (aE.ext au) 4 (.slice af ae.length ag) [.slice af ae.length ag] [.int .i64 a0.Kind, .int .i64 a0.Int_, .string a0.Text, .slice ac aa.length ad, .slice af ae.length ag, .slice A7 a0.Entries.length c8, .slice ao a0.Labels.length ap] rfl rfl rfl rfl rfl sz23 rfl rfl rfl ?_
 intro bg av aG
 have aH := aS.y av
 refine j0 (j1 (j2 (j3 ?_)))
 refine r_fieldAddr ab 0 6 6 rfl rfl fo27_6 rfl ?_
 refine r_load ab 6 (.slice ao a0.Labels.length ap) rfl rfl (loads_one to25 ((aG.cell 6).trans rfl)) ?_
 obtain ⟨ah, aU, hf⟩ := bind_some hf
 refine r_call [.slice ao a0.Labels.length ap] (evs1 rfl) rfl (ok_slices_Clone_string_string _ _ _ _ (RpV.mkList ((((((aJ.mono aA.wext).mono an.wext).mono aq.wext).mono ar.wext).mono au.wext).mono av.wext)) aU 1004 (by omega)) ?_
 intro bh bi aw aV
 have aW := aH.x aw
 obtain ⟨ai, aj, rfl, aX⟩ := aV
 refine r_fieldAddr ab 0 6 6 rfl rfl fo27_6 rfl ?_
 refine r_store (aG.ext aw) 6 (.slice ai ah.length aj) [.slice ai ah.length aj] [.int .i64 a0.Kind, .int .i64 a0.Int_, .string a0.Text, .slice ac aa.length ad, .slice af ae.length ag, .slice A7 a0.Entries.length c8, .slice ai ah.length aj] rfl rfl rfl rfl rfl sz25 rfl rfl rfl ?_
 intro bj ax aI
 have aY := aW.y ax
 refine j0 (j1 (j2 (j3 ?_)))
 refine r_fieldAddr ab 0 5 5 rfl rfl fo27_5 rfl ?_
 refine r_load ab 5 (.slice A7 a0.Entries.length c8) rfl rfl (loads_one to24 ((aI.cell 5).trans rfl)) ?_
 obtain ⟨ak, aZ, hf⟩ := bind_some hf
 refine r_call [.slice A7 a0.Entries.length c8] (evs1 rfl) rfl (hrec_value_cloneEntries _ _ _ _ (RpV.mkList ((((((((h9.mono aA.wext).mono an.wext).mono aq.wext).mono ar.wext).mono au.wext).mono av.wext).mono aw.wext).mono ax.wext)) aZ) ?_
 intro bk bl ay a1
 have a2 := aY.x ay
 obtain ⟨al, am, rfl, a3⟩ := RpV.list a1
 refine r_fieldAddr ab 0 5 5 rfl rfl fo27_5 rfl ?_
 refine r_store (aI.ext ay) 5 (.slice al ak.length am) [.slice al ak.length am] [.int .i64 a0.Kind, .int .i64 a0.Int_, .string a0.Text, .slice ac aa.length ad, .slice af ae.length ag, .slice al ak.length am, .slice ai ah.length aj] rfl rfl rfl rfl rfl sz24 rfl rfl rfl ?_
 intro bm az a4
 have a5 := a2.y az
 refine j0 (j1 (j2 (j3 ?_)))
 refine r_load ab 0 (.agg #[.int .i64 a0.Kind, .int .i64 a0.Int_, .string a0.Text, .slice ac aa.length ad, .slice af ae.length ag, .slice al ak.length am, .slice ai ah.length aj]) rfl rfl (loads_row tr27 (Blk.range a4 0 [.int .i64 a0.Kind, .int .i64 a0.Int_, .string a0.Text, .slice ac aa.length ad, .slice af ae.length ag, .slice al ak.length am, .slice ai ah.length aj] rfl)) ?_
 refine r_store ((((((((aK.ext aq).mod ar rfl).ext au).mod av rfl).ext aw).mod ax rfl).ext ay).mod az rfl) 0 (.agg #[.int .i64 a0.Kind, .int .i64 a0.Int_, .string a0.Text, .slice ac aa.length ad, .slice af ae.length ag, .slice al ak.length am, .slice ai ah.length aj]) [.int .i64 a0.Kind, .int .i64 a0.Int_, .string a0.Text, .slice ac aa.length ad, .slice af ae.length ag, .slice al ak.length am, .slice ai ah.length aj] [.int .i64 a0.Kind, .int .i64 a0.Int_, .string a0.Text, .slice ac aa.length ad, .slice af ae.length ag, .slice al ak.length am, .slice ai ah.length aj] rfl rfl rfl rfl rfl sz27 rfl rfl rfl ?_
 intro bn aB a6
 have a7 := a5.y aB
 refine j0 (j1 (jb ?_))
 obtain rfl := Option.some.inj hf
 refine ret_one (.agg #[.int .i64 a0.Kind, .int .i64 a0.Int_, .string a0.Text, .slice ac aa.length ad, .slice af ae.length ag, .slice al ak.length am, .slice ai ah.length aj]) rfl ⟨rfl, _, rfl, loads_row tr27 (Blk.range a6 0 [.int .i64 a0.Kind, .int .i64 a0.Int_, .string a0.Text, .slice ac aa.length ad, .slice af ae.length ag, .slice al ak.length am, .slice ai ah.length aj] rfl)⟩ a7 ?_
 exact (Val.rpvMk (v := (Val.mk a0.Kind a0.Int_ a0.Text aa ae ak ah)) ((((((((aP.mono ar.wext).mono au.wext).mono av.wext).mono aw.wext).mono ax.wext).mono ay.wext).mono az.wext).mono aB.wext) ((((((((aT.base (by have := aF.size; omega)).mod av rfl).ext aw).mod ax rfl).ext ay).mod az rfl).mod aB rfl).sl) ((a3.mono az.wext).mono aB.wext) ((((((aX.base (by have := aH.size; omega)).mod ax rfl).ext ay).mod az rfl).mod aB rfl).sl))

set_option maxHeartbeats 1600000 in
set_option maxRecDepth 100000 in
theorem okB_value_cloneEntries {rec_value_cloneAll : ((List Val) → Option (List Val))} {rec_value_clone : (Val → Option Val)} {rec_value_cloneEntries : ((List Ent) → Option (List Ent))} (hrec_value_cloneAll : S_value_cloneAll rec_value_cloneAll) (hrec_value_clone : S_value_clone rec_value_clone) (_hrec_value_cloneEntries : S_value_cloneEntries rec_value_cloneEntries) : S_value_cloneEntries (value_cloneEntries_B rec_value_cloneAll rec_value_clone rec_value_cloneEntries) := by
 intro s0 v0 a0 r h0 hf
 obtain ⟨A1, c2, rfl, h3⟩ := RpV.list h0
 unfold value_cloneEntries_B at hf
 have E0 : ExtB s0.N s0 s0 := ExtB.refl _ _
 refine ctr_of 26 Go.Proofs.Try.func70 rfl rfl rfl rfl ?_
 refine j2 (j3 ?_)
 refine r_assign (nl Ent) rfl rfl ?_
 refine j0 (j1 (j2 (j3 ?_)))
 refine r_assign (nl Ent) rfl rfl ?_
 refine j0 (j1 (j2 (j2 (j3 ?_))))
 refine r_move (.slice A1 a0.length c2) rfl rfl ?_
 refine r_len A1 a0.length c2 rfl rfl Go.Proofs.Try.underlying24 ?_
 refine r_move (.int .i64 0) rfl rfl ?_
 refine j0 (j1 (j4 ?_))
 refine gen_F fun F4 hg5 => ?_
 have f7 : F4 3 = (nl Ent) := (hg5 3).trans rfl
 have f8 : F4 6 = (.slice A1 a0.length c2) := (hg5 6).trans rfl
 have f9 : F4 7 = (.int .i64 (a0.length : Int)) := (hg5 7).trans rfl
 have bb : F4 8 = (.int .i64 0) := (hg5 8).trans rfl
 obtain ⟨aB, bc, hf⟩ := bind_some hf
 refine wp_mono (wp_iter (step := value_cloneEntries_l1 rec_value_cloneAll rec_value_clone a0) (fun q a w => ∃ (F : Fr) (τ : S) (A1 : Option Addr) (c1 : Nat), a = fr 26 F ∧ w = τ.w ∧ Agr [3, 5, 8, 9, 10, 11, 12, 13, 14, 15, 16, 17, 18, 19, 20, 21, 22, 23, 24] F F4 ∧ ExtB s0.N s0 τ ∧ Wext s0 τ ∧ F 3 = (.slice A1 q.1.length c1) ∧ Own s0.N 1 65 τ q.1 A1 c1 ∧ F 8 = (.int .i64 q.2)) (fun q e a w => e = .exit 0 ∧ ∃ (F : Fr) (τ : S) (A1 : Option Addr) (c1 : Nat), a = fr 26 F ∧ w = τ.w ∧ Agr [3, 5, 8, 9, 10, 11, 12, 13, 14, 15, 16, 17, 18, 19, 20, 21, 22, 23, 24] F F4 ∧ ExtB s0.N s0 τ ∧ Wext s0 τ ∧ F 3 = (.slice A1 q.1.length c1) ∧ Own s0.N 1 65 τ q.1 A1 c1 ∧ F 8 = (.int .i64 q.2)) (by rintro _ a w ⟨h, _⟩; cases h) ?_ _ _ _ _ _ bc ?_) ?_
 ·intro ac fl a w hf hI
  obtain ⟨dQ, dR, ar, au, rfl, rfl, av, aC, aD, aJ, aK, aw⟩ := hI
  unfold value_cloneEntries_l1 at hf
  have bd := (av 6 rfl).trans f8
  have be := (av 7 rfl).trans f9
  refine j2 (j3 ?_)
  refine r_bin (.int .i64 ac.2) (.int .i64 (a0.length : Int)) (.bool (decide (ac.2 < (a0.length : Int)))) aw be rfl rfl (b_lss) ?_
  refine j0 (j1 (j2 ?_))
  refine if_else hf (fun aE hf => ?_) (fun aE hf => ?_)
  ·refine c_true rfl aE rfl ?_
   refine ja (j1 (j2 (j4 (j2 (j3 ?_)))))
   obtain ⟨x26, bf, hf⟩ := bind_some hf
   refine r_indexAddr (T := 24) (E := 65) (h3.mono aD) bf bd aw rfl rfl Go.Proofs.Try.underlying24 sz65 ?_
   intro bg bh dS bi bj
   obtain ⟨ae, af, ai, aj, ak, al, am, an, ao, ap, rfl, bk, bl, bm, bn, bo⟩ := Ent.cells_iff.1 bi
   refine r_load bg bh (.agg #[.slice ae x26.Args.length af, .bool x26.Fails, .int .i64 x26.Result.Kind, .int .i64 x26.Result.Int_, .string x26.Result.Text, .slice ai x26.Result.Kids.length aj, .slice ak x26.Result.Keys.length al, .slice am x26.Result.Entries.length an, .slice ao x26.Result.Labels.length ap]) rfl rfl (loads_row tr65 bj.2) ?_
   refine r_alloc (B := s0.N) 2 aC.size _ [nl Val, .bool false, .int .i64 0, .int .i64 0, .string (⟨#[]⟩), nl Val, nl Key, nl Ent, nl ByteArray] ti65 rfl ?_
   intro dT ad ag bp
   have bq := aC.x ag
   refine r_store bp 0 (.agg #[.slice ae x26.Args.length af, .bool x26.Fails, .int .i64 x26.Result.Kind, .int .i64 x26.Result.Int_, .string x26.Result.Text, .slice ai x26.Result.Kids.length aj, .slice ak x26.Result.Keys.length al, .slice am x26.Result.Entries.length an, .slice ao x26.Result.Labels.length ap]) [.slice ae x26.Args.length af, .bool x26.Fails, .int .i64 x26.Result.Kind, .int .i64 x26.Result.Int_, .string x26.Result.Text, .slice ai x26.Result.Kids.length aj, .slice ak x26.Result.Keys.length al, .slice am x26.Result.Entries.length an, .slice ao x26.Result.Labels.length ap] [.slice ae x26.Args.length af, .bool x26.Fails, .int .i64 x26.Result.Kind, .int .i64 x26.Result.Int_, .string x26.Result.Text, .slice ai x26.Result.Kids.length aj, .slice ak x26.Result.Keys.length al, .slice am x26.Result.Entries.length an, .slice ao x26.Result.Labels.length ap] rfl rfl rfl rfl rfl sz65 rfl rfl rfl ?_
   intro dU ah br
   have aq := bq.y ah
   refine j0 (j1 ?_)
   obtain ⟨ab, bs, hf⟩ := bind_some hf
   obtain ⟨aa, bt, hf⟩ := bind_some hf
   obtain ⟨dV, bu, hf⟩ := bind_some hf
   refine wp_draw (B := frExt s0.N) [some 12, some 13, some 14, some 15, some 16, some 17, some 18, some 19, some 20, some 21, some 22, some 23, some 3] [[], [], [1], [1, 2], [], [4], [], [6], [1, 2, 3, 6, 7], [1, 2, 3, 4, 5, 6, 7, 8], [1, 2, 3, 4, 5, 6, 7, 8, 9], [0, 1, 2, 3, 4, 5, 6, 7, 8, 9, 10], [0, 1, 2, 3, 4, 5, 6, 7, 8, 9, 10, 11]] [Fct.eqv (.slice ar ac.1.length au), Fct.eqv (.pointer (some ⟨ad, 0, none⟩)), Fct.eqv (.slice ae x26.Args.length af), Fct.data (ab : (List Val)), Fct.eqv (.pointer (some ⟨ad, 1, none⟩)), Fct.eqv (.bool x26.Fails), Fct.eqv (.pointer (some ⟨ad, 2, none⟩)), Fct.data (x26.Result : Val), Fct.data (aa : Val), Fct.data ((Ent.mk ab x26.Fails aa) : Ent), Fct.data ([(Ent.mk ab x26.Fails aa)] : (List Ent)), Fct.data (ac.1 ++ [(Ent.mk ab x26.Fails aa)] : (List Ent)), Fct.data (ac.1 ++ [(Ent.mk ab x26.Fails aa)] : (List Ent))] (fun D F τ => (Blk s0.N 2 τ ad 65 [.slice ae x26.Args.length af, .bool x26.Fails, .int .i64 x26.Result.Kind, .int .i64 x26.Result.Int_, .string x26.Result.Text, .slice ai x26.Result.Kids.length aj, .slice ak x26.Result.Keys.length al, .slice am x26.Result.Entries.length an, .slice ao x26.Result.Labels.length ap]) ∧ (D 11 = false → Own s0.N 1 65 τ ac.1 ar au) ∧ (D 11 = true → ∃ zA zc, F 23 = (.slice zA (ac.1 ++ [(Ent.mk ab x26.Fails aa)]).length zc) ∧ Own s0.N 1 65 τ (ac.1 ++ [(Ent.mk ab x26.Fails aa)]) zA zc ∧ (D 12 = true → F 3 = (.slice zA (ac.1 ++ [(Ent.mk ab x26.Fails aa)]).length zc)))) (by kernel_rfl) rfl (by decide) (by decide) ⟨(br.ext (ext_draw _)), (fun _ => (((aK.ext ag).mod ah rfl).ext (ext_draw _))), (fun h => Bool.noConfusion h)⟩ (by decide) (by decide) ⟨?_, ?_, ?_, ?_, ?_, ?_, ?_, ?_, ?_, ?_, ?_, ?_, ?_, trivial⟩ ?_
   ·intro dW dX dY dZ d1 bv d2 d3 bw bx d4
    obtain ⟨bz, bA, d5⟩ := bw
    refine r_move (.slice ar ac.1.length au) ((bx 3 rfl).trans aJ) rfl ?_
    exact d0 ⟨rfl, ⟨bz, (fun h => (bA h)), (fun h => Bool.noConfusion ((bv 11 rfl).symm.trans h))⟩⟩
   ·intro d6 d7 d8 d9 ea bB eb ec bC bD ed
    obtain ⟨bE, bF, ee⟩ := bC
    refine r_fieldAddr ad 0 0 0 ((bD 5 rfl).trans rfl) rfl fo65_0 rfl ?_
    exact d0 ⟨rfl, ⟨bE, (fun h => (bF h)), (fun h => Bool.noConfusion ((bB 11 rfl).symm.trans h))⟩⟩
   ·intro ef eg eh ei ej bG ek el bH em bI
    obtain ⟨aL, bJ, en⟩ := bH
    have bK := aL
    refine r_load ad 0 (.slice ae x26.Args.length af) (bI 1 rfl 13 rfl) rfl (loads_one to22 ((bK.cell 0).trans rfl)) ?_
    exact d0 ⟨rfl, ⟨aL, (fun h => (bJ h)), (fun h => Bool.noConfusion ((bG 11 rfl).symm.trans h))⟩⟩
   ·intro eo ep eq er es bL bM bN bO et bP
    have bQ := aq.trans bM
    obtain ⟨bR, bS, eu⟩ := bO
    refine r_call [.slice ae x26.Args.length af] (evs1 (bP 2 rfl 14 rfl)) rfl (hrec_value_cloneAll _ _ _ _ (RpV.mkList (((bk.mono ag.wext).mono ah.wext).mono bN)) bs) ?_
    intro ev ew ax bT
    obtain ⟨ex, ey, rfl, bU⟩ := RpV.list bT
    refine j0 ?_
    exact ⟨_, _, rfl, rfl, (ExtB.refl _ _).trans (ax.mono bQ.size), (Wext.refl _).trans ax.wext, (RpV.mkList bU), ⟨(bR.ext ax), (fun h => ((bS h).ext ax)), (fun h => Bool.noConfusion ((bL 11 rfl).symm.trans h))⟩⟩
   ·intro ez eA eB eC eD bV eE eF bW bX eG
    obtain ⟨bY, bZ, eH⟩ := bW
    refine r_fieldAddr ad 0 1 1 ((bX 5 rfl).trans rfl) rfl fo65_1 rfl ?_
    exact d0 ⟨rfl, ⟨bY, (fun h => (bZ h)), (fun h => Bool.noConfusion ((bV 11 rfl).symm.trans h))⟩⟩
   ·intro eI eJ eK eL eM b0 eN eO b1 eP b2
    obtain ⟨aM, b3, eQ⟩ := b1
    have b4 := aM
    refine r_load ad 1 (.bool x26.Fails) (b2 4 rfl 16 rfl) rfl (loads_one to4 ((b4.cell 1).trans rfl)) ?_
    exact d0 ⟨rfl, ⟨aM, (fun h => (b3 h)), (fun h => Bool.noConfusion ((b0 11 rfl).symm.trans h))⟩⟩
   ·intro eR eS eT eU eV b5 eW eX b6 b7 eY
    obtain ⟨b8, b9, eZ⟩ := b6
    refine r_fieldAddr ad 0 2 2 ((b7 5 rfl).trans rfl) rfl fo65_2 rfl ?_
    exact d0 ⟨rfl, ⟨b8, (fun h => (b9 h)), (fun h => Bool.noConfusion ((b5 11 rfl).symm.trans h))⟩⟩
   ·intro e0 e1 e2 e3 e4 ca e5 ay cb e6 cc
    obtain ⟨aN, cd, e7⟩ := cb
    have ce := aN
    refine r_load ad 2 (Val.ag x26.Result ai aj ak al am an ao ap) (cc 6 rfl 18 rfl) rfl (loads_row tr27 (Blk.range ce 2 (Val.cs x26.Result ai aj ak al am an ao ap) rfl)) ?_
    exact d0 ⟨(Val.rpvMk (v := x26.Result) (((bl.mono ag.wext).mono ah.wext).mono ay) (((bm.mono ag.wext).mono ah.wext).mono ay) (((bn.mono ag.wext).mono ah.wext).mono ay) (((bo.mono ag.wext).mono ah.wext).mono ay)), ⟨aN, (fun h => (cd h)), (fun h => Bool.noConfusion ((ca 11 rfl).symm.trans h))⟩⟩
   ·intro e8 cf cg e9 fa ch ci fb cj fc ck
    have cl := aq.trans ci
    obtain ⟨cm, cn, fd⟩ := cj
    have co : RpV cg (x26.Result : Val) (cf 19) := ck 7 rfl 19 rfl
    obtain ⟨cp, cq, cr, cs, ct, cu, cv, cw, cx, cy, cz, cA, cB⟩ := Val.rpv co
    refine r_call [Val.ag x26.Result cp cq cr cs ct cu cv cw] (evs1 cx) rfl (hrec_value_clone _ _ _ _ (Val.rpvMk (v := x26.Result) cy cz cA cB) bt) ?_
    intro fe ff az cC
    obtain ⟨fg, fh, fj, fk, fm, fn, fo, fp, rfl, cD, cE, cF, cG⟩ := Val.rpv cC
    refine j0 ?_
    exact ⟨_, _, rfl, rfl, (ExtB.refl _ _).trans (az.mono cl.size), (Wext.refl _).trans az.wext, (Val.rpvMk (v := aa) cD cE cF cG), ⟨(cm.ext az), (fun h => ((cn h).ext az)), (fun h => Bool.noConfusion ((ch 11 rfl).symm.trans h))⟩⟩
   ·intro fq aO aP fs ft cH fu fv cI fw aF
    obtain ⟨cJ, cK, fx⟩ := cI
    have cL : RpV aP (ab : (List Val)) (aO 15) := aF 3 rfl 15 rfl
    obtain ⟨aQ, aR, cM, cN⟩ := RpV.list cL
    have cO : RpV aP (aa : Val) (aO 20) := aF 8 rfl 20 rfl
    obtain ⟨aS, aT, aU, aV, aW, aX, aY, aZ, cP, cQ, cR, cS, cT⟩ := Val.rpv cO
    refine r_build tst65 [(0, .slice aQ ab.length aR), (1, .bool x26.Fails), (2, Val.ag aa aS aT aU aV aW aX aY aZ)] [.slice aQ ab.length aR, .bool x26.Fails, .int .i64 aa.Kind, .int .i64 aa.Int_, .string aa.Text, .slice aS aa.Kids.length aT, .slice aU aa.Keys.length aV, .slice aW aa.Entries.length aX, .slice aY aa.Labels.length aZ] (eps_cons cM (eps_cons (aF 5 rfl 17 rfl) (eps_cons cP eps_nil))) rfl rfl ?_
    exact d0 ⟨(Ent.rpvMk (v := (Ent.mk ab x26.Fails aa)) cN cQ cR cS cT), ⟨cJ, (fun h => (cK h)), (fun h => Bool.noConfusion ((cH 11 rfl).symm.trans h))⟩⟩
   ·intro fy cU cV fz fA cW cX fB cY fC cZ
    have a1 := aq.trans cX
    obtain ⟨c0, c3, fD⟩ := cY
    have c4 : RpV cV ((Ent.mk ab x26.Fails aa) : Ent) (cU 21) := cZ 9 rfl 21 rfl
    obtain ⟨c5, c6, c7, c8, c9, da, db, dc, dd, de, df, dg, dh, di, dj, dk⟩ := Ent.rpv c4
    refine r_buildSlice (B := s0.N) (E := 65) 3 a1.size ts24 (xs := [(Ent.mk ab x26.Fails aa)]) [.agg #[.slice c5 ((Ent.mk ab x26.Fails aa).Args).length c6, .bool x26.Fails, .int .i64 aa.Kind, .int .i64 aa.Int_, .string aa.Text, .slice c7 (((Ent.mk ab x26.Fails aa).Result).Kids).length c8, .slice c9 (((Ent.mk ab x26.Fails aa).Result).Keys).length da, .slice db (((Ent.mk ab x26.Fails aa).Result).Entries).length dc, .slice dd (((Ent.mk ab x26.Fails aa).Result).Labels).length de]] (eps_cons df eps_nil) rfl rfl rfl (by decide) rfl (by simp [Value.cells, Rp.sz]) ⟨_, _, rfl, (Ent.cells_iff.2 ⟨_, _, _, _, _, _, _, _, _, _, rfl, dg, dh, di, dj, dk⟩), rfl⟩ ?_
    intro fE fF fG aA dl
    refine j0 ?_
    exact ⟨_, _, rfl, rfl, (ExtB.refl _ _).trans (aA.mono a1.size), (Wext.refl _).trans aA.wext, (RpV.mkList dl.sl), ⟨(c0.ext aA), (fun h => ((c3 h).ext aA)), (fun h => Bool.noConfusion ((cW 11 rfl).symm.trans h))⟩⟩
   ·intro fH dm dn dp fI dq dr fJ ds fK a2
    have a3 := aq.trans dr
    obtain ⟨dt, du, fL⟩ := ds
    have dv : RpV dn ([(Ent.mk ab x26.Fails aa)] : (List Ent)) (dm 22) := a2 10 rfl 22 rfl
    obtain ⟨fM, fN, dw, dx⟩ := RpV.list dv
    refine r_append (B := s0.N) (id := 1) (E := 65) (xs := ac.1) (ys := [(Ent.mk ab x26.Fails aa)]) a3.size ((du dp)) dx ts24 (room_some bu) (a2 0 rfl 12 rfl) dw rfl rfl ?_
    intro fO dy dz aG a4
    refine j0 ?_
    exact ⟨_, _, rfl, rfl, (ExtB.refl _ _).trans ((ExtB.refl _ _).mod a3.size aG), (Wext.refl _).trans aG.wext, (RpV.mkList a4.sl), ⟨(dt.mod aG rfl), (fun h => Bool.noConfusion h), (fun _ => ⟨dy, dz, rfl, a4, (fun h => Bool.noConfusion ((dq 12 rfl).symm.trans h))⟩)⟩⟩
   ·intro fP fQ fR fS a5 fT fU fV dA fW fX
    obtain ⟨dB, fY, dC⟩ := dA
    obtain ⟨a6, a7, a8, a9, fZ⟩ := dC (a5 11 rfl)
    refine r_assign (.slice a6 (ac.1 ++ [(Ent.mk ab x26.Fails aa)]).length a7) a8 rfl ?_
    exact d0 ⟨(RpV.mkList a9.sl), ⟨dB, (fun h => Bool.noConfusion ((a5 11 rfl).symm.trans h)), (fun _ => ⟨a6, a7, a8, a9, (fun _ => rfl)⟩)⟩⟩
   intro f0 f1 dD dE dF ba f2
   have dG := aq.trans dD
   obtain ⟨f3, f4, dH⟩ := dF
   obtain ⟨dI, dJ, f5, dK, dL⟩ := dH rfl
   have dM := (ba 8 rfl).trans aw
   refine j5 (j1 (j3 ?_))
   refine r_bin (.int .i64 ac.2) (.int .i64 1) (.int .i64 (w64 (ac.2 + 1))) dM rfl rfl rfl (b_add) ?_
   refine r_move (.int .i64 (w64 (ac.2 + 1))) rfl rfl ?_
   refine j0 ?_
   obtain rfl := Option.some.inj hf
   exact ⟨rfl, _, _, dI, dJ, rfl, rfl, (((((((((av).put rfl).put rfl).put rfl).put rfl).put0).draw ba rfl).put rfl).put rfl), dG, (((((Wext.refl _).trans aD).trans ag.wext).trans ah.wext).trans dE), (dL rfl), (dK), rfl⟩
  refine c_false rfl aE rfl ?_
  refine jc (j8 ?_)
  obtain rfl := Option.some.inj hf
  exact ⟨rfl, _, _, ar, au, rfl, rfl, ((av).put rfl), aC, ((Wext.refl _).trans aD), aJ, (aK), aw⟩
 ·exact ⟨_, _, none, 0, rfl, rfl, (Agr.refl _ _), E0, (Wext.refl _), f7, (Own.nil_ _), bb⟩
 rintro e a w ⟨rfl, f6, ga, aH, aI, rfl, rfl, gb, dN, gc, dO, dP, gd⟩
 refine j6 (j1 (j2 (j3 ?_)))
 refine r_move (.slice aH aB.1.length aI) dO rfl ?_
 refine r_assign (.slice aH aB.1.length aI) rfl rfl ?_
 refine j0 (j1 (jb ?_))
 obtain rfl := Option.some.inj hf
 refine ret_one (.slice aH aB.1.length aI) rfl ⟨rfl, rfl⟩ dN ?_
 exact (RpV.mkList dP.sl)

theorem ok_scc_value_cloneAll : ∀ n : Nat, S_value_cloneAll (scc_value_cloneAll n).1 ∧ S_value_clone (scc_value_cloneAll n).2.1 ∧ S_value_cloneEntries (scc_value_cloneAll n).2.2
  | 0 => ⟨(by intro _ _ _ _ _ h; cases h), (by intro _ _ _ _ _ h; cases h), (by intro _ _ _ _ _ h; cases h)⟩
  | n + 1 => by
    obtain ⟨h0, h1, h2⟩ := ok_scc_value_cloneAll n
    exact ⟨okB_value_cloneAll h0 h1 h2, okB_value_clone h0 h1 h2, okB_value_cloneEntries h0 h1 h2⟩

theorem ok_value_cloneAll (n : Nat) : S_value_cloneAll (value_cloneAll n) := (ok_scc_value_cloneAll n).1

theorem ok_value_clone (n : Nat) : S_value_clone (value_clone n) := (ok_scc_value_cloneAll n).2.1

theorem ok_value_cloneEntries (n : Nat) : S_value_cloneEntries (value_cloneEntries n) := (ok_scc_value_cloneAll n).2.2

def S_value_List (f : ((List Val) → Option Val)) : Prop := ∀ (s0 : S) (v0 : Value) (a0 : (List Val)) (r : Val), RpV s0 a0 v0 → f a0 = some r → Ctr Go.Proofs.Try.prog 20 [v0] s0 (fun v τ => RpV τ r v)

set_option maxHeartbeats 1600000 in
set_option maxRecDepth 100000 in
theorem ok_value_List (fuel : Nat) : S_value_List (value_List fuel) := by
 intro s0 v0 a0 r h0 hf
 obtain ⟨A1, c2, rfl, h3⟩ := RpV.list h0
 unfold value_List at hf
 have E0 : ExtB s0.N s0 s0 := ExtB.refl _ _
 refine ctr_of 22 Go.Proofs.Try.func20 rfl rfl rfl rfl ?_
 refine j2 (j3 ?_)
 refine r_alloc (B := s0.N) 1 E0.size _ [.int .i64 0, .int .i64 0, .string (⟨#[]⟩), nl Val, nl Key, nl Ent, nl ByteArray] ti27 rfl ?_
 intro s5 b4 k6 hb7
 have E8 := E0.x k6
 refine j0 (j1 (j2 (j3 ?_)))
 obtain ⟨r9, bo, hf⟩ := bind_some hf
 refine r_call [] evs0 rfl (ok_value_Nil _ _  bo) ?_
 intro ex ey aY bp
 have a2 := E8.x aY
 obtain ⟨au, av, aw, ax, ay, az, aA, aB, rfl, bq, br, bs, bt⟩ := Val.rpv bp
 refine r_alloc (B := s0.N) 2 a2.size _ [.int .i64 0, .int .i64 0, .string (⟨#[]⟩), nl Val, nl Key, nl Ent, nl ByteArray] ti27 rfl ?_
 intro ez ad ae bu
 have bv := a2.x ae
 refine r_store bu 0 (Val.ag r9 au av aw ax ay az aA aB) (Val.cs r9 au av aw ax ay az aA aB) (Val.cs r9 au av aw ax ay az aA aB) rfl rfl rfl rfl rfl sz27 rfl rfl rfl ?_
 intro a3 af bw
 have bx := bv.y af
 refine j0 (j1 (j2 (j2 (j3 ?_))))
 refine r_move (.slice A1 a0.length c2) rfl rfl ?_
 refine r_len A1 a0.length c2 rfl rfl Go.Proofs.Try.underlying22 ?_
 refine r_bin (.int .i64 (a0.length : Int)) (.int .i64 1) (.int .i64 (w64 ((a0.length : Int) - 1))) rfl rfl rfl rfl (b_sub) ?_
 refine r_assign (.int .i64 (w64 ((a0.length : Int) - 1))) rfl rfl ?_
 refine j0 (j1 (j4 ?_))
 refine gen_F fun ap aC => ?_
 have bz : ap 0 = (.slice A1 a0.length c2) := (aC 0).trans rfl
 have bA : ap 2 = (.pointer (some ⟨b4, 0, none⟩)) := (aC 2).trans rfl
 have a4 : ap 3 = (.pointer (some ⟨ad, 0, none⟩)) := (aC 3).trans rfl
 have bB : ap 4 = (.int .i64 (w64 ((a0.length : Int) - 1))) := (aC 4).trans rfl
 obtain ⟨ab, bC, hf⟩ := bind_some hf
 refine wp_mono (wp_iter (step := value_List_l1 fuel a0) (fun q a w => ∃ (F : Fr) (τ : S) (A1 : Option Addr) (c1 : Nat) (A2 : Option Addr) (c2 : Nat) (A3 : Option Addr) (c3 : Nat) (A4 : Option Addr) (c4 : Nat), a = fr 22 F ∧ w = τ.w ∧ Agr [4, 9, 10, 11, 12, 13, 14, 15, 16, 17, 18, 19, 20] F ap ∧ ExtB s0.N s0 τ ∧ Wext a3 τ ∧ F 4 = (.int .i64 q.1) ∧ Blk s0.N 1 τ b4 27 [.int .i64 0, .int .i64 0, .string (⟨#[]⟩), nl Val, nl Key, nl Ent, nl ByteArray] ∧ Blk s0.N 2 τ ad 27 [.int .i64 q.2.1, .int .i64 q.2.2.1, .string q.2.2.2.1, .slice A1 q.2.2.2.2.1.length c1, .slice A2 q.2.2.2.2.2.1.length c2, .slice A3 q.2.2.2.2.2.2.1.length c3, .slice A4 q.2.2.2.2.2.2.2.length c4] ∧ Sl τ q.2.2.2.2.1 A1 c1 ∧ Sl τ q.2.2.2.2.2.1 A2 c2 ∧ Sl τ q.2.2.2.2.2.2.1 A3 c3 ∧ Sl τ q.2.2.2.2.2.2.2 A4 c4) (fun q e a w => e = .exit 0 ∧ ∃ (F : Fr) (τ : S) (A1 : Option Addr) (c1 : Nat) (A2 : Option Addr) (c2 : Nat) (A3 : Option Addr) (c3 : Nat) (A4 : Option Addr) (c4 : Nat), a = fr 22 F ∧ w = τ.w ∧ Agr [4, 9, 10, 11, 12, 13, 14, 15, 16, 17, 18, 19, 20] F ap ∧ ExtB s0.N s0 τ ∧ Wext a3 τ ∧ F 4 = (.int .i64 q.1) ∧ Blk s0.N 1 τ b4 27 [.int .i64 0, .int .i64 0, .string (⟨#[]⟩), nl Val, nl Key, nl Ent, nl ByteArray] ∧ Blk s0.N 2 τ ad 27 [.int .i64 q.2.1, .int .i64 q.2.2.1, .string q.2.2.2.1, .slice A1 q.2.2.2.2.1.length c1, .slice A2 q.2.2.2.2.2.1.length c2, .slice A3 q.2.2.2.2.2.2.1.length c3, .slice A4 q.2.2.2.2.2.2.2.length c4] ∧ Sl τ q.2.2.2.2.1 A1 c1 ∧ Sl τ q.2.2.2.2.2.1 A2 c2 ∧ Sl τ q.2.2.2.2.2.2.1 A3 c3 ∧ Sl τ q.2.2.2.2.2.2.2 A4 c4) (by rintro _ a w ⟨h, _⟩; cases h) ?_ _ _ _ _ _ bC ?_) ?_
 ·intro aa fl a w hf hI
  obtain ⟨eA, eB, aD, aE, aF, aG, aH, aI, aJ, aK, rfl, rfl, aL, aq, aZ, aM, a5, a6, a7, a8, a9, ba⟩ := hI
  unfold value_List_l1 at hf
  have bD := (aL 0 rfl).trans bz
  have bb := (aL 3 rfl).trans a4
  refine j2 (j2 (j3 ?_))
  refine r_move (.int .i64 aa.1) aM rfl ?_
  refine r_bin (.int .i64 aa.1) (.int .i64 0) (.bool (decide (0 ≤ aa.1))) rfl rfl rfl rfl (b_geq) ?_
  refine j0 (j1 ?_)
  refine if_else hf (fun a1 hf => ?_) (fun a1 hf => ?_)
  ·refine c_true rfl a1 rfl ?_
   refine ja (j1 (j2 (j4 ?_)))
   obtain ⟨x68, bE, hf⟩ := bind_some hf
   obtain ⟨ac, bF, hf⟩ := bind_some hf
   refine wp_draw (B := frExt s0.N) [some 13, some 14, some 15, some 16, some 17, some 18, some 19, some 20, none] [[], [], [0, 1], [0, 1, 2], [0, 1, 2, 3], [], [0, 1, 2, 3, 4, 5], [0, 1, 2, 3, 4, 5, 6], [0, 1, 2, 3, 4, 5, 6, 7]] [Fct.eqv (.slice A1 a0.length c2), Fct.eqv (.int .i64 aa.1), Fct.elem (x68 : Val), Fct.data (x68 : Val), Fct.data (ac : Val), Fct.data ((Val.mk aa.2.1 aa.2.2.1 aa.2.2.2.1 aa.2.2.2.2.1 aa.2.2.2.2.2.1 aa.2.2.2.2.2.2.1 aa.2.2.2.2.2.2.2) : Val), Fct.data ([ac, (Val.mk aa.2.1 aa.2.2.1 aa.2.2.2.1 aa.2.2.2.2.1 aa.2.2.2.2.2.1 aa.2.2.2.2.2.2.1 aa.2.2.2.2.2.2.2)] : (List Val)), Fct.data ((Val.mk 7 0 (⟨#[]⟩) [ac, (Val.mk aa.2.1 aa.2.2.1 aa.2.2.2.1 aa.2.2.2.2.1 aa.2.2.2.2.2.1 aa.2.2.2.2.2.2.1 aa.2.2.2.2.2.2.2)] ([] : List Key) ([] : List Ent) ([] : List ByteArray)) : Val), Fct.any] (fun D F τ => (Blk s0.N 1 τ b4 27 [.int .i64 0, .int .i64 0, .string (⟨#[]⟩), nl Val, nl Key, nl Ent, nl ByteArray]) ∧ (D 8 = false → Blk s0.N 2 τ ad 27 [.int .i64 aa.2.1, .int .i64 aa.2.2.1, .string aa.2.2.2.1, .slice aD aa.2.2.2.2.1.length aE, .slice aF aa.2.2.2.2.2.1.length aG, .slice aH aa.2.2.2.2.2.2.1.length aI, .slice aJ aa.2.2.2.2.2.2.2.length aK]) ∧ (D 8 = true → (∃ (zA3 : Option Addr) (zc3 : Nat) (zA4 : Option Addr) (zc4 : Nat) (zA5 : Option Addr) (zc5 : Nat) (zA6 : Option Addr) (zc6 : Nat), Blk s0.N 2 τ ad 27 [.int .i64 7, .int .i64 0, .string (⟨#[]⟩), .slice zA3 [ac, (Val.mk aa.2.1 aa.2.2.1 aa.2.2.2.1 aa.2.2.2.2.1 aa.2.2.2.2.2.1 aa.2.2.2.2.2.2.1 aa.2.2.2.2.2.2.2)].length zc3, .slice zA4 ([] : List Key).length zc4, .slice zA5 ([] : List Ent).length zc5, .slice zA6 ([] : List ByteArray).length zc6] ∧ Sl τ [ac, (Val.mk aa.2.1 aa.2.2.1 aa.2.2.2.1 aa.2.2.2.2.1 aa.2.2.2.2.2.1 aa.2.2.2.2.2.2.1 aa.2.2.2.2.2.2.2)] zA3 zc3 ∧ Sl τ ([] : List Key) zA4 zc4 ∧ Sl τ ([] : List Ent) zA5 zc5 ∧ Sl τ ([] : List ByteArray) zA6 zc6))) (by kernel_rfl) rfl (by decide) (by decide) ⟨(a5.ext (ext_draw _)), (fun _ => (a6.ext (ext_draw _))), (fun h => Bool.noConfusion h)⟩ (by decide) (by decide) ⟨?_, ?_, ?_, ?_, ?_, ?_, ?_, ?_, ?_, trivial⟩ ?_
   ·intro eC eD eE eF eG bG eH eI bH bI eJ
    obtain ⟨bJ, bK, eK⟩ := bH
    refine r_move (.slice A1 a0.length c2) ((bI 0 rfl).trans bD) rfl ?_
    exact d0 ⟨rfl, ⟨bJ, (fun y0 => (bK y0)), (fun h => Bool.noConfusion ((bG 8 rfl).symm.trans h))⟩⟩
   ·intro eL eM eN eO eP bL eQ eR bM bN eS
    obtain ⟨bO, bP, eT⟩ := bM
    refine r_move (.int .i64 aa.1) ((bN 4 rfl).trans aM) rfl ?_
    exact d0 ⟨rfl, ⟨bO, (fun y0 => (bP y0)), (fun h => Bool.noConfusion ((bL 8 rfl).symm.trans h))⟩⟩
   ·intro eU eV eW eX eY bQ eZ bR bS e0 bc
    obtain ⟨bT, bU, e1⟩ := bS
    refine r_indexAddr (T := 22) (E := 27) ((((((h3.mono k6.wext).mono aY.wext).mono ae.wext).mono af.wext).mono aZ).mono bR) bE (bc 0 rfl 13 rfl) (bc 1 rfl 14 rfl) rfl rfl Go.Proofs.Try.underlying22 sz27 ?_
    intro e2 e3 e4 bV bW
    obtain ⟨e5, e6, e7, e8, e9, fa, fb, fc, rfl, bX, bY, bZ, b0⟩ := Val.cells_iff.1 bV
    exact d0 ⟨⟨_, _, _, rfl, (Val.cells_iff.2 ⟨_, _, _, _, _, _, _, _, rfl, bX, bY, bZ, b0⟩), bW⟩, ⟨bT, (fun y0 => (bU y0)), (fun h => Bool.noConfusion ((bQ 8 rfl).symm.trans h))⟩⟩
   ·intro fd b1 b2 fe ff b3 fg fh b5 fj b6
    obtain ⟨b7, b8, fk⟩ := b5
    obtain ⟨b9, ca, fm, cb, cc, cd⟩ : (Fct.elem (x68 : Val)).p (b1 15) b2 := b6 2 rfl 15 rfl
    obtain ⟨ce, cf, cg, ch, ci, cj, ck, cl, rfl, cm, cn, co, cp⟩ := Val.cells_iff.1 cc
    refine r_load b9 ca (Val.ag x68 ce cf cg ch ci cj ck cl) cb rfl (loads_row tr27 cd.2) ?_
    exact d0 ⟨(Val.rpvMk (v := x68) cm cn co cp), ⟨b7, (fun y0 => (b8 y0)), (fun h => Bool.noConfusion ((b3 8 rfl).symm.trans h))⟩⟩
   ·intro fn cq cr fo fp cs ct fq cu fs cv
    have cw := aq.trans ct
    obtain ⟨cx, cy, ft⟩ := cu
    have cz : RpV cr (x68 : Val) (cq 16) := cv 3 rfl 16 rfl
    obtain ⟨cA, cB, cC, cD, cE, cF, cG, cH, cI, cJ, cK, cL, cM⟩ := Val.rpv cz
    refine r_call [Val.ag x68 cA cB cC cD cE cF cG cH] (evs1 cI) rfl ((ok_value_clone fuel) _ _ _ _ (Val.rpvMk (v := x68) cJ cK cL cM) bF) ?_
    intro fu fv aN cN
    obtain ⟨fw, fx, fy, fz, fA, fB, fC, fD, rfl, cO, cP, cQ, cR⟩ := Val.rpv cN
    refine j0 ?_
    exact ⟨_, _, rfl, rfl, (ExtB.refl _ _).trans (aN.mono cw.size), (Wext.refl _).trans aN.wext, (Val.rpvMk (v := ac) cO cP cQ cR), ⟨(cx.ext aN), (fun y0 => ((cy y0).ext aN)), (fun h => Bool.noConfusion ((cs 8 rfl).symm.trans h))⟩⟩
   ·intro fE fF fG fH fI bd fJ aO cS cT fK
    obtain ⟨cU, be, fL⟩ := cS
    have cV := be (bd 8 rfl)
    refine r_load ad 0 (.agg #[.int .i64 aa.2.1, .int .i64 aa.2.2.1, .string aa.2.2.2.1, .slice aD aa.2.2.2.2.1.length aE, .slice aF aa.2.2.2.2.2.1.length aG, .slice aH aa.2.2.2.2.2.2.1.length aI, .slice aJ aa.2.2.2.2.2.2.2.length aK]) ((cT 3 rfl).trans bb) rfl (loads_row tr27 (Blk.range cV 0 [.int .i64 aa.2.1, .int .i64 aa.2.2.1, .string aa.2.2.2.1, .slice aD aa.2.2.2.2.1.length aE, .slice aF aa.2.2.2.2.2.1.length aG, .slice aH aa.2.2.2.2.2.2.1.length aI, .slice aJ aa.2.2.2.2.2.2.2.length aK] rfl)) ?_
    exact d0 ⟨(Val.rpvMk (v := (Val.mk aa.2.1 aa.2.2.1 aa.2.2.2.1 aa.2.2.2.2.1 aa.2.2.2.2.2.1 aa.2.2.2.2.2.2.1 aa.2.2.2.2.2.2.2)) (a7.mono aO) (a8.mono aO) (a9.mono aO) (ba.mono aO)), ⟨cU, (fun y0 => (be y0)), (fun h => Bool.noConfusion ((bd 8 rfl).symm.trans h))⟩⟩
   ·intro fM bf bg fN fO cW cX fP cY fQ bh
    have bi := aq.trans cX
    obtain ⟨cZ, c0, fR⟩ := cY
    have c5 : RpV bg (ac : Val) (bf 17) := bh 4 rfl 17 rfl
    obtain ⟨c6, c7, c8, c9, da, db, dc, dd, de, df, dg, dh, di⟩ := Val.rpv c5
    have dj : RpV bg ((Val.mk aa.2.1 aa.2.2.1 aa.2.2.2.1 aa.2.2.2.2.1 aa.2.2.2.2.2.1 aa.2.2.2.2.2.2.1 aa.2.2.2.2.2.2.2) : Val) (bf 18) := bh 5 rfl 18 rfl
    obtain ⟨dk, dl, dm, dn, dp, dq, dr, ds, dt, du, dv, dw, dx⟩ := Val.rpv dj
    refine r_buildSlice (B := s0.N) (E := 27) 3 bi.size ts22 (xs := [ac, (Val.mk aa.2.1 aa.2.2.1 aa.2.2.2.1 aa.2.2.2.2.1 aa.2.2.2.2.2.1 aa.2.2.2.2.2.2.1 aa.2.2.2.2.2.2.2)]) [Val.ag ac c6 c7 c8 c9 da db dc dd, .agg #[.int .i64 aa.2.1, .int .i64 aa.2.2.1, .string aa.2.2.2.1, .slice dk ((Val.mk aa.2.1 aa.2.2.1 aa.2.2.2.1 aa.2.2.2.2.1 aa.2.2.2.2.2.1 aa.2.2.2.2.2.2.1 aa.2.2.2.2.2.2.2).Kids).length dl, .slice dm ((Val.mk aa.2.1 aa.2.2.1 aa.2.2.2.1 aa.2.2.2.2.1 aa.2.2.2.2.2.1 aa.2.2.2.2.2.2.1 aa.2.2.2.2.2.2.2).Keys).length dn, .slice dp ((Val.mk aa.2.1 aa.2.2.1 aa.2.2.2.1 aa.2.2.2.2.1 aa.2.2.2.2.2.1 aa.2.2.2.2.2.2.1 aa.2.2.2.2.2.2.2).Entries).length dq, .slice dr ((Val.mk aa.2.1 aa.2.2.1 aa.2.2.2.1 aa.2.2.2.2.1 aa.2.2.2.2.2.1 aa.2.2.2.2.2.2.1 aa.2.2.2.2.2.2.2).Labels).length ds]] (eps_cons de (eps_cons dt eps_nil)) rfl rfl rfl (by decide) rfl (by simp [Value.cells, Rp.sz]) ⟨_, _, rfl, (Val.cells_iff.2 ⟨_, _, _, _, _, _, _, _, rfl, df, dg, dh, di⟩), ⟨_, _, rfl, (Val.cells_iff.2 ⟨_, _, _, _, _, _, _, _, rfl, du, dv, dw, dx⟩), rfl⟩⟩ ?_
    intro fS fT fU aP dy
    refine j0 ?_
    exact ⟨_, _, rfl, rfl, (ExtB.refl _ _).trans (aP.mono bi.size), (Wext.refl _).trans aP.wext, (RpV.mkList dy.sl), ⟨(cZ.ext aP), (fun y0 => ((c0 y0).ext aP)), (fun h => Bool.noConfusion ((cW 8 rfl).symm.trans h))⟩⟩
   ·intro fV dz dA fW fX dB fY fZ dC f0 dD
    obtain ⟨dE, dF, f1⟩ := dC
    have dG : RpV dA ([ac, (Val.mk aa.2.1 aa.2.2.1 aa.2.2.2.1 aa.2.2.2.2.1 aa.2.2.2.2.2.1 aa.2.2.2.2.2.2.1 aa.2.2.2.2.2.2.2)] : (List Val)) (dz 19) := dD 6 rfl 19 rfl
    obtain ⟨bj, bk, dH, dI⟩ := RpV.list dG
    refine r_build tst27 [(0, .int .i64 7), (3, .slice bj [ac, (Val.mk aa.2.1 aa.2.2.1 aa.2.2.2.1 aa.2.2.2.2.1 aa.2.2.2.2.2.1 aa.2.2.2.2.2.2.1 aa.2.2.2.2.2.2.2)].length bk)] [.int .i64 7, .int .i64 0, .string (⟨#[]⟩), .slice bj [ac, (Val.mk aa.2.1 aa.2.2.1 aa.2.2.2.1 aa.2.2.2.2.1 aa.2.2.2.2.2.1 aa.2.2.2.2.2.2.1 aa.2.2.2.2.2.2.2)].length bk, nl Key, nl Ent, nl ByteArray] (eps_cons rfl (eps_cons dH eps_nil)) rfl rfl ?_
    exact d0 ⟨(Val.rpvMk (v := (Val.mk 7 0 (⟨#[]⟩) [ac, (Val.mk aa.2.1 aa.2.2.1 aa.2.2.2.1 aa.2.2.2.2.1 aa.2.2.2.2.2.1 aa.2.2.2.2.2.2.1 aa.2.2.2.2.2.2.2)] ([] : List Key) ([] : List Ent) ([] : List ByteArray))) dI (Sl.nil_ _ _ _ (Nat.zero_le _)) (Sl.nil_ _ _ _ (Nat.zero_le _)) (Sl.nil_ _ _ _ (Nat.zero_le _))), ⟨dE, (fun y0 => (dF y0)), (fun h => Bool.noConfusion ((dB 8 rfl).symm.trans h))⟩⟩
   ·intro f2 dJ dK dL f3 f4 dM f5 dN dO dP
    have dQ := aq.trans dM
    obtain ⟨dR, dS, f6⟩ := dN
    have dT := dS dL
    have dU : RpV dK ((Val.mk 7 0 (⟨#[]⟩) [ac, (Val.mk aa.2.1 aa.2.2.1 aa.2.2.2.1 aa.2.2.2.2.1 aa.2.2.2.2.2.1 aa.2.2.2.2.2.2.1 aa.2.2.2.2.2.2.2)] ([] : List Key) ([] : List Ent) ([] : List ByteArray)) : Val) (dJ 20) := dP 7 rfl 20 rfl
    obtain ⟨aQ, aR, aS, aT, aU, aV, aW, aX, dV, dW, dX, dY, dZ⟩ := Val.rpv dU
    refine r_store dT 0 (.agg #[.int .i64 7, .int .i64 0, .string (⟨#[]⟩), .slice aQ ((Val.mk 7 0 (⟨#[]⟩) [ac, (Val.mk aa.2.1 aa.2.2.1 aa.2.2.2.1 aa.2.2.2.2.1 aa.2.2.2.2.2.1 aa.2.2.2.2.2.2.1 aa.2.2.2.2.2.2.2)] ([] : List Key) ([] : List Ent) ([] : List ByteArray)).Kids).length aR, .slice aS ((Val.mk 7 0 (⟨#[]⟩) [ac, (Val.mk aa.2.1 aa.2.2.1 aa.2.2.2.1 aa.2.2.2.2.1 aa.2.2.2.2.2.1 aa.2.2.2.2.2.2.1 aa.2.2.2.2.2.2.2)] ([] : List Key) ([] : List Ent) ([] : List ByteArray)).Keys).length aT, .slice aU ((Val.mk 7 0 (⟨#[]⟩) [ac, (Val.mk aa.2.1 aa.2.2.1 aa.2.2.2.1 aa.2.2.2.2.1 aa.2.2.2.2.2.1 aa.2.2.2.2.2.2.1 aa.2.2.2.2.2.2.2)] ([] : List Key) ([] : List Ent) ([] : List ByteArray)).Entries).length aV, .slice aW ((Val.mk 7 0 (⟨#[]⟩) [ac, (Val.mk aa.2.1 aa.2.2.1 aa.2.2.2.1 aa.2.2.2.2.1 aa.2.2.2.2.2.1 aa.2.2.2.2.2.2.1 aa.2.2.2.2.2.2.2)] ([] : List Key) ([] : List Ent) ([] : List ByteArray)).Labels).length aX]) [.int .i64 7, .int .i64 0, .string (⟨#[]⟩), .slice aQ ((Val.mk 7 0 (⟨#[]⟩) [ac, (Val.mk aa.2.1 aa.2.2.1 aa.2.2.2.1 aa.2.2.2.2.1 aa.2.2.2.2.2.1 aa.2.2.2.2.2.2.1 aa.2.2.2.2.2.2.2)] ([] : List Key) ([] : List Ent) ([] : List ByteArray)).Kids).length aR, .slice aS ((Val.mk 7 0 (⟨#[]⟩) [ac, (Val.mk aa.2.1 aa.2.2.1 aa.2.2.2.1 aa.2.2.2.2.1 aa.2.2.2.2.2.1 aa.2.2.2.2.2.2.1 aa.2.2.2.2.2.2.2)] ([] : List Key) ([] : List Ent) ([] : List ByteArray)).Keys).length aT, .slice aU ((Val.mk 7 0 (⟨#[]⟩) [ac, (Val.mk aa.2.1 aa.2.2.1 aa.2.2.2.1 aa.2.2.2.2.1 aa.2.2.2.2.2.1 aa.2.2.2.2.2.2.1 aa.2.2.2.2.2.2.2)] ([] : List Key) ([] : List Ent) ([] : List ByteArray)).Entries).length aV, .slice aW ((Val.mk 7 0 (⟨#[]⟩) [ac, (Val.mk aa.2.1 aa.2.2.1 aa.2.2.2.1 aa.2.2.2.2.1 aa.2.2.2.2.2.1 aa.2.2.2.2.2.2.1 aa.2.2.2.2.2.2.2)] ([] : List Key) ([] : List Ent) ([] : List ByteArray)).Labels).length aX] [.int .i64 7, .int .i64 0, .string (⟨#[]⟩), .slice aQ ((Val.mk 7 0 (⟨#[]⟩) [ac, (Val.mk aa.2.1 aa.2.2.1 aa.2.2.2.1 aa.2.2.2.2.1 aa.2.2.2.2.2.1 aa.2.2.2.2.2.2.1 aa.2.2.2.2.2.2.2)] ([] : List Key) ([] : List Ent) ([] : List ByteArray)).Kids).length aR, .slice aS ((Val.mk 7 0 (⟨#[]⟩) [ac, (Val.mk aa.2.1 aa.2.2.1 aa.2.2.2.1 aa.2.2.2.2.1 aa.2.2.2.2.2.1 aa.2.2.2.2.2.2.1 aa.2.2.2.2.2.2.2)] ([] : List Key) ([] : List Ent) ([] : List ByteArray)).Keys).length aT, .slice aU ((Val.mk 7 0 (⟨#[]⟩) [ac, (Val.mk aa.2.1 aa.2.2.1 aa.2.2.2.1 aa.2.2.2.2.1 aa.2.2.2.2.2.1 aa.2.2.2.2.2.2.1 aa.2.2.2.2.2.2.2)] ([] : List Key) ([] : List Ent) ([] : List ByteArray)).Entries).length aV, .slice aW ((Val.mk 7 0 (⟨#[]⟩) [ac, (Val.mk aa.2.1 aa.2.2.1 aa.2.2.2.1 aa.2.2.2.2.1 aa.2.2.2.2.2.1 aa.2.2.2.2.2.2.1 aa.2.2.2.2.2.2.2)] ([] : List Key) ([] : List Ent) ([] : List ByteArray)).Labels).length aX] ((dO 3 rfl).trans bb) dV rfl rfl rfl sz27 rfl rfl rfl ?_
    intro f7 ag d1
    refine j0 ?_
    exact ⟨_, _, rfl, rfl, (ExtB.refl _ _).trans ((ExtB.refl _ _).mod dQ.size ag), (Wext.refl _).trans ag.wext, trivial, ⟨(dR.mod ag rfl), (fun h => Bool.noConfusion h), (fun _ => ⟨aQ, aR, aS, aT, aU, aV, aW, aX, d1, (dW.mono ag.wext), (dX.mono ag.wext), (dY.mono ag.wext), (dZ.mono ag.wext)⟩)⟩⟩
   intro f8 f9 d2 d3 d4 bl ga
   have d5 := aq.trans d2
   obtain ⟨d6, gb, d7⟩ := d4
   have d8 := d6
   obtain ⟨d9, ea, eb, ec, ed, ee, ef, eg, eh, ei, ej, ek, el⟩ := d7 rfl
   have em := (bl 4 rfl).trans aM
   refine j5 (j1 (j3 ?_))
   refine r_move (.int .i64 aa.1) em rfl ?_
   refine r_bin (.int .i64 aa.1) (.int .i64 1) (.int .i64 (w64 (aa.1 - 1))) rfl rfl rfl rfl (b_sub) ?_
   refine r_assign (.int .i64 (w64 (aa.1 - 1))) rfl rfl ?_
   refine j0 ?_
   obtain rfl := Option.some.inj hf
   exact ⟨rfl, _, _, d9, ea, eb, ec, ed, ee, ef, eg, rfl, rfl, (((((((aL).put rfl).put rfl).draw bl rfl).put rfl).put rfl).put rfl), d5, (((Wext.refl _).trans aZ).trans d3), rfl, d8, eh, ei, ej, ek, el⟩
  refine c_false rfl a1 rfl ?_
  refine jc (j8 ?_)
  obtain rfl := Option.some.inj hf
  exact ⟨rfl, _, _, aD, aE, aF, aG, aH, aI, aJ, aK, rfl, rfl, (((aL).put rfl).put rfl), aq, ((Wext.refl _).trans aZ), aM, a5, a6, a7, a8, a9, ba⟩
 ·exact ⟨_, _, au, av, aw, ax, ay, az, aA, aB, rfl, rfl, (Agr.refl _ _), bx, (Wext.refl _), bB, (((hb7.ext aY).ext ae).mod af rfl), bw, ((bq.mono ae.wext).mono af.wext), ((br.mono ae.wext).mono af.wext), ((bs.mono ae.wext).mono af.wext), ((bt.mono ae.wext).mono af.wext)⟩
 rintro e a w ⟨rfl, gc, gd, ah, ai, aj, ak, al, am, an, ao, rfl, rfl, bm, en, ge, gf, eo, ep, eq, er, es, et⟩
 have bn := (bm 2 rfl).trans bA
 have eu := (bm 3 rfl).trans a4
 refine j6 (j1 (j2 (j3 ?_)))
 refine r_load ad 0 (.agg #[.int .i64 ab.2.1, .int .i64 ab.2.2.1, .string ab.2.2.2.1, .slice ah ab.2.2.2.2.1.length ai, .slice aj ab.2.2.2.2.2.1.length ak, .slice al ab.2.2.2.2.2.2.1.length am, .slice an ab.2.2.2.2.2.2.2.length ao]) eu rfl (loads_row tr27 (Blk.range ep 0 [.int .i64 ab.2.1, .int .i64 ab.2.2.1, .string ab.2.2.2.1, .slice ah ab.2.2.2.2.1.length ai, .slice aj ab.2.2.2.2.2.1.length ak, .slice al ab.2.2.2.2.2.2.1.length am, .slice an ab.2.2.2.2.2.2.2.length ao] rfl)) ?_
 refine r_store eo 0 (.agg #[.int .i64 ab.2.1, .int .i64 ab.2.2.1, .string ab.2.2.2.1, .slice ah ab.2.2.2.2.1.length ai, .slice aj ab.2.2.2.2.2.1.length ak, .slice al ab.2.2.2.2.2.2.1.length am, .slice an ab.2.2.2.2.2.2.2.length ao]) [.int .i64 ab.2.1, .int .i64 ab.2.2.1, .string ab.2.2.2.1, .slice ah ab.2.2.2.2.1.length ai, .slice aj ab.2.2.2.2.2.1.length ak, .slice al ab.2.2.2.2.2.2.1.length am, .slice an ab.2.2.2.2.2.2.2.length ao] [.int .i64 ab.2.1, .int .i64 ab.2.2.1, .string ab.2.2.2.1, .slice ah ab.2.2.2.2.1.length ai, .slice aj ab.2.2.2.2.2.1.length ak, .slice al ab.2.2.2.2.2.2.1.length am, .slice an ab.2.2.2.2.2.2.2.length ao] bn rfl rfl rfl rfl sz27 rfl rfl rfl ?_
 intro gg ar ev
 have ew := en.y ar
 refine j0 (j1 (jb ?_))
 obtain rfl := Option.some.inj hf
 refine ret_one (.agg #[.int .i64 ab.2.1, .int .i64 ab.2.2.1, .string ab.2.2.2.1, .slice ah ab.2.2.2.2.1.length ai, .slice aj ab.2.2.2.2.2.1.length ak, .slice al ab.2.2.2.2.2.2.1.length am, .slice an ab.2.2.2.2.2.2.2.length ao]) rfl ⟨rfl, _, bn, loads_row tr27 (Blk.range ev 0 [.int .i64 ab.2.1, .int .i64 ab.2.2.1, .string ab.2.2.2.1, .slice ah ab.2.2.2.2.1.length ai, .slice aj ab.2.2.2.2.2.1.length ak, .slice al ab.2.2.2.2.2.2.1.length am, .slice an ab.2.2.2.2.2.2.2.length ao] rfl)⟩ ew ?_
 exact (Val.rpvMk (v := (Val.mk ab.2.1 ab.2.2.1 ab.2.2.2.1 ab.2.2.2.2.1 ab.2.2.2.2.2.1 ab.2.2.2.2.2.2.1 ab.2.2.2.2.2.2.2)) (eq.mono ar.wext) (er.mono ar.wext) (es.mono ar.wext) (et.mono ar.wext))

def S_value_Cons (f : (Val → Val → Option Val)) : Prop := ∀ (s0 : S) (v0 : Value) (v1 : Value) (a0 : Val) (a1 : Val) (r : Val), RpV s0 a0 v0 → RpV s0 a1 v1 → f a0 a1 = some r → Ctr Go.Proofs.Try.prog 22 [v0, v1] s0 (fun v τ => RpV τ r v)

set_option maxHeartbeats 1600000 in
set_option maxRecDepth 100000 in
theorem ok_value_Cons (fuel : Nat) : S_value_Cons (value_Cons fuel) := by
 intro s0 v0 v1 a0 a1 r h0 h1 hf
 obtain ⟨A1, c2, A4, c5, A7, c8, ag, ah, rfl, h3, h6, h9, a3⟩ := Val.rpv h0
 obtain ⟨ai, aj, ak, al, am, an, ao, ap, rfl, a4, a5, a6, a7⟩ := Val.rpv h1
 unfold value_Cons at hf
 have E0 : ExtB s0.N s0 s0 := ExtB.refl _ _
 refine ctr_of 11 Go.Proofs.Try.func22 rfl rfl rfl rfl ?_
 refine j2 (j3 ?_)
 refine r_box (B := s0.N) 1 E0.size (Val.ag a0 A1 c2 A4 c5 A7 c8 ag ah) (Val.cs a0 A1 c2 A4 c5 A7 c8 ag ah) rfl rfl rfl ?_
 intro dF aH ae a8
 have aI := E0.x ae
 refine r_box (B := s0.N) 2 aI.size (Val.ag a1 ai aj ak al am an ao ap) (Val.cs a1 ai aj ak al am an ao ap) rfl rfl rfl ?_
 intro dG aJ ad a9
 have aK := aI.x ad
 refine r_alloc (B := s0.N) 3 aK.size _ [.int .i64 0, .int .i64 0, .string (⟨#[]⟩), nl Val, nl Key, nl Ent, nl ByteArray] ti27 rfl ?_
 intro dH aG ac ba
 have aq := aK.x ac
 refine j0 (j1 (j2 ?_))
 obtain ⟨aa, bb, hf⟩ := bind_some hf
 obtain ⟨ab, bc, hf⟩ := bind_some hf
 refine wp_draw (B := frExt s0.N) [some 5, some 6, some 7, some 8, some 9, some 10, none] [[], [0], [], [0, 1, 2], [0, 1, 2, 3], [0, 1, 2, 3, 4], [0, 1, 2, 3, 4, 5]] [Fct.data (a0 : Val), Fct.data (aa : Val), Fct.data (a1 : Val), Fct.data (ab : Val), Fct.data ([aa, ab] : (List Val)), Fct.data ((Val.mk 7 0 (⟨#[]⟩) [aa, ab] ([] : List Key) ([] : List Ent) ([] : List ByteArray)) : Val), Fct.any] (fun D F τ => (Blk s0.N 1 τ aH 27 (Val.cs a0 A1 c2 A4 c5 A7 c8 ag ah)) ∧ (Blk s0.N 2 τ aJ 27 (Val.cs a1 ai aj ak al am an ao ap)) ∧ (D 6 = false → Blk s0.N 3 τ aG 27 [.int .i64 0, .int .i64 0, .string (⟨#[]⟩), nl Val, nl Key, nl Ent, nl ByteArray]) ∧ (D 6 = true → (∃ (zA3 : Option Addr) (zc3 : Nat) (zA4 : Option Addr) (zc4 : Nat) (zA5 : Option Addr) (zc5 : Nat) (zA6 : Option Addr) (zc6 : Nat), Blk s0.N 3 τ aG 27 [.int .i64 7, .int .i64 0, .string (⟨#[]⟩), .slice zA3 [aa, ab].length zc3, .slice zA4 ([] : List Key).length zc4, .slice zA5 ([] : List Ent).length zc5, .slice zA6 ([] : List ByteArray).length zc6] ∧ Sl τ [aa, ab] zA3 zc3 ∧ Sl τ ([] : List Key) zA4 zc4 ∧ Sl τ ([] : List Ent) zA5 zc5 ∧ Sl τ ([] : List ByteArray) zA6 zc6))) (by kernel_rfl) rfl (by decide) (by decide) ⟨(((a8.ext ad).ext ac).ext (ext_draw _)), ((a9.ext ac).ext (ext_draw _)), (fun _ => (ba.ext (ext_draw _))), (fun h => Bool.noConfusion h)⟩ (by decide) (by decide) ⟨?_, ?_, ?_, ?_, ?_, ?_, ?_, trivial⟩ ?_
 ·intro dI dJ dK dL dM bd dN aw be bf dO
  obtain ⟨aL, bg, bh, dP⟩ := be
  have bi := aL
  refine r_load aH 0 (Val.ag a0 A1 c2 A4 c5 A7 c8 ag ah) ((bf 2 rfl).trans rfl) rfl (loads_row tr27 (Blk.range bi 0 (Val.cs a0 A1 c2 A4 c5 A7 c8 ag ah) rfl)) ?_
  exact d0 ⟨(Val.rpvMk (v := a0) ((((h3.mono ae.wext).mono ad.wext).mono ac.wext).mono aw) ((((h6.mono ae.wext).mono ad.wext).mono ac.wext).mono aw) ((((h9.mono ae.wext).mono ad.wext).mono ac.wext).mono aw) ((((a3.mono ae.wext).mono ad.wext).mono ac.wext).mono aw)), ⟨aL, bg, (fun y0 => (bh y0)), (fun h => Bool.noConfusion ((bd 6 rfl).symm.trans h))⟩⟩
 ·intro dQ bj bk dR dS bl bm dT bn dU bo
  have bp := aq.trans bm
  obtain ⟨bq, br, bs, dV⟩ := bn
  have bt : RpV bk (a0 : Val) (bj 5) := bo 0 rfl 5 rfl
  obtain ⟨bu, bv, bw, bx, bz, bA, bB, bC, bD, bE, bF, bG, bH⟩ := Val.rpv bt
  refine r_call [Val.ag a0 bu bv bw bx bz bA bB bC] (evs1 bD) rfl ((ok_value_clone fuel) _ _ _ _ (Val.rpvMk (v := a0) bE bF bG bH) bb) ?_
  intro dW dX ar bI
  obtain ⟨dY, dZ, d1, d2, d3, d4, d5, d6, rfl, bJ, bK, bL, bM⟩ := Val.rpv bI
  refine j0 ?_
  exact ⟨_, _, rfl, rfl, (ExtB.refl _ _).trans (ar.mono bp.size), (Wext.refl _).trans ar.wext, (Val.rpvMk (v := aa) bJ bK bL bM), ⟨(bq.ext ar), (br.ext ar), (fun y0 => ((bs y0).ext ar)), (fun h => Bool.noConfusion ((bl 6 rfl).symm.trans h))⟩⟩
 ·intro d7 d8 d9 ea eb bN ec ax bO bP ed
  obtain ⟨bQ, aM, bR, ee⟩ := bO
  have bS := aM
  refine r_load aJ 0 (Val.ag a1 ai aj ak al am an ao ap) ((bP 3 rfl).trans rfl) rfl (loads_row tr27 (Blk.range bS 0 (Val.cs a1 ai aj ak al am an ao ap) rfl)) ?_
  exact d0 ⟨(Val.rpvMk (v := a1) ((((a4.mono ae.wext).mono ad.wext).mono ac.wext).mono ax) ((((a5.mono ae.wext).mono ad.wext).mono ac.wext).mono ax) ((((a6.mono ae.wext).mono ad.wext).mono ac.wext).mono ax) ((((a7.mono ae.wext).mono ad.wext).mono ac.wext).mono ax)), ⟨bQ, aM, (fun y0 => (bR y0)), (fun h => Bool.noConfusion ((bN 6 rfl).symm.trans h))⟩⟩
 ·intro ef bT bU eg eh bV bW ei bX ej bY
  have bZ := aq.trans bW
  obtain ⟨b0, b1, b2, ek⟩ := bX
  have b3 : RpV bU (a1 : Val) (bT 7) := bY 2 rfl 7 rfl
  obtain ⟨b4, b5, b6, b7, b8, b9, ca, cb, cc, cd, ce, cf, cg⟩ := Val.rpv b3
  refine r_call [Val.ag a1 b4 b5 b6 b7 b8 b9 ca cb] (evs1 cc) rfl ((ok_value_clone fuel) _ _ _ _ (Val.rpvMk (v := a1) cd ce cf cg) bc) ?_
  intro el em au ch
  obtain ⟨en, eo, ep, eq, er, es, et, eu, rfl, ci, cj, ck, cl⟩ := Val.rpv ch
  refine j0 ?_
  exact ⟨_, _, rfl, rfl, (ExtB.refl _ _).trans (au.mono bZ.size), (Wext.refl _).trans au.wext, (Val.rpvMk (v := ab) ci cj ck cl), ⟨(b0.ext au), (b1.ext au), (fun y0 => ((b2 y0).ext au)), (fun h => Bool.noConfusion ((bV 6 rfl).symm.trans h))⟩⟩
 ·intro ev aN aO ew ex cm cn ey co ez aP
  have aQ := aq.trans cn
  obtain ⟨cp, cq, cr, eA⟩ := co
  have cs : RpV aO (aa : Val) (aN 6) := aP 1 rfl 6 rfl
  obtain ⟨ct, cu, cv, cw, cx, cy, cz, cA, cB, cC, cD, cE, cF⟩ := Val.rpv cs
  have cG : RpV aO (ab : Val) (aN 8) := aP 3 rfl 8 rfl
  obtain ⟨cH, cI, cJ, cK, cL, cM, cN, cO, cP, cQ, cR, cS, cT⟩ := Val.rpv cG
  refine r_buildSlice (B := s0.N) (E := 27) 4 aQ.size ts22 (xs := [aa, ab]) [Val.ag aa ct cu cv cw cx cy cz cA, Val.ag ab cH cI cJ cK cL cM cN cO] (eps_cons cB (eps_cons cP eps_nil)) rfl rfl rfl (by decide) rfl (by simp [Value.cells, Rp.sz]) ⟨_, _, rfl, (Val.cells_iff.2 ⟨_, _, _, _, _, _, _, _, rfl, cC, cD, cE, cF⟩), ⟨_, _, rfl, (Val.cells_iff.2 ⟨_, _, _, _, _, _, _, _, rfl, cQ, cR, cS, cT⟩), rfl⟩⟩ ?_
  intro eB eC eD av cU
  refine j0 ?_
  exact ⟨_, _, rfl, rfl, (ExtB.refl _ _).trans (av.mono aQ.size), (Wext.refl _).trans av.wext, (RpV.mkList cU.sl), ⟨(cp.ext av), (cq.ext av), (fun y0 => ((cr y0).ext av)), (fun h => Bool.noConfusion ((cm 6 rfl).symm.trans h))⟩⟩
 ·intro eE cV cW eF eG cX eH eI cY eJ cZ
  obtain ⟨c0, c1, c3, eK⟩ := cY
  have c4 : RpV cW ([aa, ab] : (List Val)) (cV 9) := cZ 4 rfl 9 rfl
  obtain ⟨aR, aS, c6, c7⟩ := RpV.list c4
  refine r_build tst27 [(0, .int .i64 7), (3, .slice aR [aa, ab].length aS)] [.int .i64 7, .int .i64 0, .string (⟨#[]⟩), .slice aR [aa, ab].length aS, nl Key, nl Ent, nl ByteArray] (eps_cons rfl (eps_cons c6 eps_nil)) rfl rfl ?_
  exact d0 ⟨(Val.rpvMk (v := (Val.mk 7 0 (⟨#[]⟩) [aa, ab] ([] : List Key) ([] : List Ent) ([] : List ByteArray))) c7 (Sl.nil_ _ _ _ (Nat.zero_le _)) (Sl.nil_ _ _ _ (Nat.zero_le _)) (Sl.nil_ _ _ _ (Nat.zero_le _))), ⟨c0, c1, (fun y0 => (c3 y0)), (fun h => Bool.noConfusion ((cX 6 rfl).symm.trans h))⟩⟩
 ·intro eL c9 da db eM eN dc eO dd de df
  have dg := aq.trans dc
  obtain ⟨dh, di, dj, eP⟩ := dd
  have dk := dj db
  have dl : RpV da ((Val.mk 7 0 (⟨#[]⟩) [aa, ab] ([] : List Key) ([] : List Ent) ([] : List ByteArray)) : Val) (c9 10) := df 5 rfl 10 rfl
  obtain ⟨ay, az, aA, aB, aC, aD, aE, aF, dm, dn, dp, dq, dr⟩ := Val.rpv dl
  refine r_store dk 0 (.agg #[.int .i64 7, .int .i64 0, .string (⟨#[]⟩), .slice ay ((Val.mk 7 0 (⟨#[]⟩) [aa, ab] ([] : List Key) ([] : List Ent) ([] : List ByteArray)).Kids).length az, .slice aA ((Val.mk 7 0 (⟨#[]⟩) [aa, ab] ([] : List Key) ([] : List Ent) ([] : List ByteArray)).Keys).length aB, .slice aC ((Val.mk 7 0 (⟨#[]⟩) [aa, ab] ([] : List Key) ([] : List Ent) ([] : List ByteArray)).Entries).length aD, .slice aE ((Val.mk 7 0 (⟨#[]⟩) [aa, ab] ([] : List Key) ([] : List Ent) ([] : List ByteArray)).Labels).length aF]) [.int .i64 7, .int .i64 0, .string (⟨#[]⟩), .slice ay ((Val.mk 7 0 (⟨#[]⟩) [aa, ab] ([] : List Key) ([] : List Ent) ([] : List ByteArray)).Kids).length az, .slice aA ((Val.mk 7 0 (⟨#[]⟩) [aa, ab] ([] : List Key) ([] : List Ent) ([] : List ByteArray)).Keys).length aB, .slice aC ((Val.mk 7 0 (⟨#[]⟩) [aa, ab] ([] : List Key) ([] : List Ent) ([] : List ByteArray)).Entries).length aD, .slice aE ((Val.mk 7 0 (⟨#[]⟩) [aa, ab] ([] : List Key) ([] : List Ent) ([] : List ByteArray)).Labels).length aF] [.int .i64 7, .int .i64 0, .string (⟨#[]⟩), .slice ay ((Val.mk 7 0 (⟨#[]⟩) [aa, ab] ([] : List Key) ([] : List Ent) ([] : List ByteArray)).Kids).length az, .slice aA ((Val.mk 7 0 (⟨#[]⟩) [aa, ab] ([] : List Key) ([] : List Ent) ([] : List ByteArray)).Keys).length aB, .slice aC ((Val.mk 7 0 (⟨#[]⟩) [aa, ab] ([] : List Key) ([] : List Ent) ([] : List ByteArray)).Entries).length aD, .slice aE ((Val.mk 7 0 (⟨#[]⟩) [aa, ab] ([] : List Key) ([] : List Ent) ([] : List ByteArray)).Labels).length aF] ((de 4 rfl).trans rfl) dm rfl rfl rfl sz27 rfl rfl rfl ?_
  intro eQ af ds
  refine j0 ?_
  exact ⟨_, _, rfl, rfl, (ExtB.refl _ _).trans ((ExtB.refl _ _).mod dg.size af), (Wext.refl _).trans af.wext, trivial, ⟨(dh.mod af rfl), (di.mod af rfl), (fun h => Bool.noConfusion h), (fun _ => ⟨ay, az, aA, aB, aC, aD, aE, aF, ds, (dn.mono af.wext), (dp.mono af.wext), (dq.mono af.wext), (dr.mono af.wext)⟩)⟩⟩
 intro dt eR du eS dv dw eT
 have dx := aq.trans du
 obtain ⟨eU, eV, eW, dy⟩ := dv
 obtain ⟨aT, aU, aV, aW, aX, aY, aZ, a2, dz, dA, dB, dC, dD⟩ := dy rfl
 have dE : dt 4 = (.pointer (some ⟨aG, 0, none⟩)) := (dw 4 rfl).trans rfl
 refine j1 (jb ?_)
 obtain rfl := Option.some.inj hf
 refine ret_one (.agg #[.int .i64 7, .int .i64 0, .string (⟨#[]⟩), .slice aT [aa, ab].length aU, .slice aV ([] : List Key).length aW, .slice aX ([] : List Ent).length aY, .slice aZ ([] : List ByteArray).length a2]) rfl ⟨rfl, _, dE, loads_row tr27 (Blk.range dz 0 [.int .i64 7, .int .i64 0, .string (⟨#[]⟩), .slice aT [aa, ab].length aU, .slice aV ([] : List Key).length aW, .slice aX ([] : List Ent).length aY, .slice aZ ([] : List ByteArray).length a2] rfl)⟩ dx ?_
 exact (Val.rpvMk (v := (Val.mk 7 0 (⟨#[]⟩) [aa, ab] ([] : List Key) ([] : List Ent) ([] : List ByteArray))) dA dB dC dD)

def S_value_Int (f : (Int → Option Val)) : Prop := ∀ (s0 : S) (v0 : Value) (a0 : Int) (r : Val), RpV s0 a0 v0 → f a0 = some r → Ctr Go.Proofs.Try.prog 23 [v0] s0 (fun v τ => RpV τ r v)

set_option maxHeartbeats 1600000 in
set_option maxRecDepth 100000 in
theorem ok_value_Int : S_value_Int value_Int := by
 intro s0 v0 a0 r h0 hf
 obtain rfl := RpV.int h0
 unfold value_Int at hf
 have E0 : ExtB s0.N s0 s0 := ExtB.refl _ _
 refine ctr_of 5 Go.Proofs.Try.func23 rfl rfl rfl rfl ?_
 refine j2 (j3 ?_)
 refine r_alloc (B := s0.N) 1 E0.size _ [.int .i64 0, .int .i64 0, .string (⟨#[]⟩), nl Val, nl Key, nl Ent, nl ByteArray] ti27 rfl ?_
 intro s2 b1 k3 hb4
 have E5 := E0.x k3
 refine j0 (j1 (j2 (j3 ?_)))
 refine r_move (.int .i64 a0) rfl rfl ?_
 refine r_build tst27 [(0, .int .i64 1), (1, .int .i64 a0)] [.int .i64 1, .int .i64 a0, .string (⟨#[]⟩), nl Val, nl Key, nl Ent, nl ByteArray] (eps_cons rfl (eps_cons rfl eps_nil)) rfl rfl ?_
 refine r_store hb4 0 (.agg #[.int .i64 1, .int .i64 a0, .string (⟨#[]⟩), nl Val, nl Key, nl Ent, nl ByteArray]) [.int .i64 1, .int .i64 a0, .string (⟨#[]⟩), nl Val, nl Key, nl Ent, nl ByteArray] [.int .i64 1, .int .i64 a0, .string (⟨#[]⟩), nl Val, nl Key, nl Ent, nl ByteArray] rfl rfl rfl rfl rfl sz27 rfl rfl rfl ?_
 intro s6 hm7 hb8
 have E9 := E5.y hm7
 refine j0 (j1 (jb ?_))
 obtain rfl := Option.some.inj hf
 refine ret_one (.agg #[.int .i64 1, .int .i64 a0, .string (⟨#[]⟩), nl Val, nl Key, nl Ent, nl ByteArray]) rfl ⟨rfl, _, rfl, loads_row tr27 (Blk.range hb8 0 [.int .i64 1, .int .i64 a0, .string (⟨#[]⟩), nl Val, nl Key, nl Ent, nl ByteArray] rfl)⟩ E9 ?_
 exact (Val.rpvMk (v := (Val.mk 1 a0 (⟨#[]⟩) ([] : List Val) ([] : List Key) ([] : List Ent) ([] : List ByteArray))) (Sl.nil_ _ _ _ (Nat.zero_le _)) (Sl.nil_ _ _ _ (Nat.zero_le _)) (Sl.nil_ _ _ _ (Nat.zero_le _)) (Sl.nil_ _ _ _ (Nat.zero_le _)))

def S_semtypelaw4_awake (f : (Option Bool)) : Prop := ∀ (s0 : S) (r : Bool), f = some r → Ctr Go.Proofs.Try.prog 8 [] s0 (fun v τ => RpV τ r v)

set_option maxHeartbeats 1600000 in
set_option maxRecDepth 100000 in
theorem ok_semtypelaw4_awake (fuel : Nat) : S_semtypelaw4_awake (semtypelaw4_awake fuel) := by
 intro s0 r hf
 unfold semtypelaw4_awake at hf
 have E0 : ExtB s0.N s0 s0 := ExtB.refl _ _
 refine ctr_of 33 Go.Proofs.Try.func8 rfl rfl rfl rfl ?_
 refine j2 (j3 ?_)
 refine r_assign (.bool false) rfl rfl ?_
 refine j0 (j1 (j2 (j3 ?_)))
 obtain ⟨r1, e2, hf⟩ := bind_some hf
 refine r_call [.int .i64 1] (evs1 rfl) rfl (ok_value_Int _ _ _ _ (RpV.mkInt _ _) e2) ?_
 intro v4 s3 k5 hr6
 have E7 := E0.x k5
 obtain ⟨A8, c9, c0, c1, c2, c3, c4, c5, rfl, c6, c7, c8, da⟩ := Val.rpv hr6
 obtain ⟨aB, db, hf⟩ := bind_some hf
 refine r_call [.int .i64 2] (evs1 rfl) rfl (ok_value_Int _ _ _ _ (RpV.mkInt _ _) db) ?_
 intro s4 s5 aH dc
 have bE := E7.x aH
 obtain ⟨dd, de, df, dg, dh, di, dj, dk, rfl, dl, dm, dn, dp⟩ := Val.rpv dc
 refine r_buildSlice (B := s0.N) (E := 27) 1 bE.size ts22 (xs := [r1, aB]) [Val.ag r1 A8 c9 c0 c1 c2 c3 c4 c5, Val.ag aB dd de df dg dh di dj dk] (eps_cons rfl (eps_cons rfl eps_nil)) rfl rfl rfl (by decide) rfl (by simp [Value.cells, Rp.sz]) ⟨_, _, rfl, (Val.cells_iff.2 ⟨_, _, _, _, _, _, _, _, rfl, (c6.mono aH.wext), (c7.mono aH.wext), (c8.mono aH.wext), (da.mono aH.wext)⟩), ⟨_, _, rfl, (Val.cells_iff.2 ⟨_, _, _, _, _, _, _, _, rfl, dl, dm, dn, dp⟩), rfl⟩⟩ ?_
 intro s6 aC aD dq aE
 have dr := bE.x dq
 obtain ⟨aa, ds, hf⟩ := bind_some hf
 refine r_call [.slice aC [r1, aB].length aD] (evs1 rfl) rfl ((ok_value_List fuel) _ _ _ _ (RpV.mkList aE.sl) ds) ?_
 intro s7 s8 aF dt
 have bF := dr.x aF
 obtain ⟨ah, ai, aj, ak, al, am, an, ao, rfl, aw, ax, ay, az⟩ := Val.rpv dt
 refine r_alloc (B := s0.N) 2 bF.size _ [.int .i64 0, .int .i64 0, .string (⟨#[]⟩), nl Val, nl Key, nl Ent, nl ByteArray] ti27 rfl ?_
 intro s9 ar ad du
 have dv := bF.x ad
 refine r_store du 0 (Val.ag aa ah ai aj ak al am an ao) (Val.cs aa ah ai aj ak al am an ao) (Val.cs aa ah ai aj ak al am an ao) rfl rfl rfl rfl rfl sz27 rfl rfl rfl ?_
 intro ta ae aI
 have ap := dv.y ae
 refine j0 (j1 (j2 ?_))
 obtain ⟨ab, aJ, hf⟩ := bind_some hf
 refine if_else hf (fun aq hf => ?_) (fun aq hf => ?_)
 ·obtain ⟨ac, aP, hf⟩ := bind_some hf
  refine if_else hf (fun au hf => ?_) (fun au hf => ?_)
  ·obtain ⟨ag, bn, hf⟩ := bind_some hf
   refine if_else hf (fun aA hf => ?_) (fun aA hf => ?_)
   ·obtain ⟨af, bG, hf⟩ := bind_some hf
    refine if_else hf (fun av hf => ?_) (fun av hf => ?_)
    ·obtain ⟨aK, dw, hf⟩ := bind_some hf
     obtain ⟨aL, dx, hf⟩ := bind_some hf
     obtain ⟨aM, dy, hf⟩ := bind_some hf
     obtain ⟨aN, dz, hf⟩ := bind_some hf
     obtain ⟨aO, dA, hf⟩ := bind_some hf
     obtain ⟨aG, dB, hf⟩ := bind_some hf
     refine wp_draw (B := frExt s0.N) [some 6, some 7, some 8, some 9, some 10, some 11, some 12, some 13, some 14, some 15, some 16, some 17, some 18, some 19, some 20, some 21, some 22, some 23, some 24, some 25, some 26, some 27, some 28, some 29, some 30, some 31, some 32, some 0] [[], [0], [0, 1], [0, 1, 2], [0, 1, 2, 3], [0, 1, 2, 3, 4], [0, 1, 2, 3, 4, 5], [0, 1, 2, 3, 4, 5, 6], [0, 1, 2, 3, 4, 5, 6, 7], [0, 1, 2, 3, 4, 5, 6, 7, 8], [0, 1, 2, 3, 4, 5, 6, 7, 8, 9], [0, 1, 2, 3, 4, 5, 6, 7, 8, 9, 10], [0, 1, 2, 3, 4, 5, 6, 7, 8, 9, 10, 11], [0, 1, 2, 3, 4, 5, 6, 7, 8, 9, 10, 11, 12], [0, 1, 2, 3, 4, 5, 6, 7, 8, 9, 10, 11, 12, 13], [0, 1, 2, 3, 4, 5, 6, 7, 8, 9, 10, 11, 12, 13, 14], [0, 1, 2, 3, 4, 5, 6, 7, 8, 9, 10, 11, 12, 13, 14, 15], [0, 1, 2, 3, 4, 5, 6, 7, 8, 9, 10, 11, 12, 13, 14, 15, 16], [0, 1, 2, 3, 4, 5, 6, 7, 8, 9, 10, 11, 12, 13, 14, 15, 16, 17], [0, 1, 2, 3, 4, 5, 6, 7, 8, 9, 10, 11, 12, 13, 14, 15, 16, 17, 18], [0, 1, 2, 3, 4, 5, 6, 7, 8, 9, 10, 11, 12, 13, 14, 15, 16, 17, 18], [0, 1, 2, 3, 4, 5, 6, 7, 8, 9, 10, 11, 12, 13, 14, 15, 16, 17, 18, 20], [0, 1, 2, 3, 4, 5, 6, 7, 8, 9, 10, 11, 12, 13, 14, 15, 16, 17, 18, 20, 21], [0, 1, 2, 3, 4, 5, 6, 7, 8, 9, 10, 11, 12, 13, 14, 15, 16, 17, 18, 20, 21, 22], [0, 1, 2, 3, 4, 5, 6, 7, 8, 9, 10, 11, 12, 13, 14, 15, 16, 17, 18, 20, 21, 22, 23], [0, 1, 2, 3, 4, 5, 6, 7, 8, 9, 10, 11, 12, 13, 14, 15, 16, 17, 18, 19, 20, 21, 22, 23, 24], [0, 1, 2, 3, 4, 5, 6, 7, 8, 9, 10, 11, 12, 13, 14, 15, 16, 17, 18, 19, 20, 21, 22, 23, 24, 25], [0, 1, 2, 3, 4, 5, 6, 7, 8, 9, 10, 11, 12, 13, 14, 15, 16, 17, 18, 19, 20, 21, 22, 23, 24, 25, 26]] [Fct.data (aa : Val), Fct.eqv (.int .i64 ab), Fct.eqv (.bool (ab == 5)), Fct.eqv (.bool (ab == 5)), Fct.data (aa : Val), Fct.eqv (.int .i64 ac), Fct.eqv (.bool (ac == 3)), Fct.eqv (.bool (ac == 3)), Fct.eqv (.bool (ac == 3)), Fct.data (aa : Val), Fct.eqv (.int .i64 ag), Fct.eqv (.bool (ag == 0)), Fct.eqv (.bool (ag == 0)), Fct.eqv (.bool (ag == 0)), Fct.data ((Val.mk 0 0 (⟨#[]⟩) ([] : List Val) ([] : List Key) ([] : List Ent) ([] : List ByteArray)) : Val), Fct.eqv (.int .i64 af), Fct.eqv (.bool (af == 1)), Fct.eqv (.bool (af == 1)), Fct.eqv (.bool (af == 1)), Fct.data (aa : Val), Fct.data (aK : Val), Fct.data (aL : Val), Fct.data (aM : Val), Fct.data (aN : Val), Fct.data (aO : Val), Fct.eqv (.bool aG), Fct.eqv (.bool aG), Fct.eqv (.bool aG)] (fun D F τ => (Blk s0.N 2 τ ar 27 (Val.cs aa ah ai aj ak al am an ao)) ∧ (Own s0.N 1 27 τ [r1, aB] aC aD)) (by kernel_rfl) rfl (by decide) (by decide) ⟨(aI.ext (ext_draw _)), ((((aE.ext aF).ext ad).mod ae rfl).ext (ext_draw _))⟩ (by decide) (by decide) ⟨?_, ?_, ?_, ?_, ?_, ?_, ?_, ?_, ?_, ?_, ?_, ?_, ?_, ?_, ?_, ?_, ?_, ?_, ?_, ?_, ?_, ?_, ?_, ?_, ?_, ?_, ?_, ?_, trivial⟩ ?_
     ·intro tb tc td te tf tg th aQ dC dD ti
      obtain ⟨bH, dE⟩ := dC
      have dF := bH
      refine r_load ar 0 (Val.ag aa ah ai aj ak al am an ao) ((dD 1 rfl).trans rfl) rfl (loads_row tr27 (Blk.range dF 0 (Val.cs aa ah ai aj ak al am an ao) rfl)) ?_
      exact d0 ⟨(Val.rpvMk (v := aa) (((aw.mono ad.wext).mono ae.wext).mono aQ) (((ax.mono ad.wext).mono ae.wext).mono aQ) (((ay.mono ad.wext).mono ae.wext).mono aQ) (((az.mono ad.wext).mono ae.wext).mono aQ)), ⟨bH, dE⟩⟩
     ·intro tj dG dH tk tl tm dI tn dJ tp dK
      have dL := ap.trans dI
      obtain ⟨dM, dN⟩ := dJ
      have dO : RpV dH (aa : Val) (dG 6) := dK 0 rfl 6 rfl
      obtain ⟨dP, dQ, dR, dS, dT, dU, dV, dW, dX, dY, dZ, d1, d2⟩ := Val.rpv dO
      refine r_call [Val.ag aa dP dQ dR dS dT dU dV dW] (evs1 dX) rfl ((ok_value_Nodes fuel) _ _ _ _ (Val.rpvMk (v := aa) dY dZ d1 d2) aJ) ?_
      intro tq tr aR d3
      obtain rfl := RpV.int d3
      refine j0 ?_
      exact ⟨_, _, rfl, rfl, (ExtB.refl _ _).trans (aR.mono dL.size), (Wext.refl _).trans aR.wext, rfl, ⟨(dM.ext aR), (dN.ext aR)⟩⟩
     ·intro ts tt tu tv tw tx ty tz d4 tA d5
      obtain ⟨d6, d7⟩ := d4
      refine r_bin (.int .i64 ab) (.int .i64 5) (.bool (ab == 5)) (d5 1 rfl 7 rfl) rfl rfl rfl (b_eql) ?_
      exact d0 ⟨rfl, ⟨d6, d7⟩⟩
     ·intro tB tC tD tE tF tG tH tI d8 tJ d9
      obtain ⟨ea, eb⟩ := d8
      refine r_move (.bool (ab == 5)) (d9 2 rfl 8 rfl) rfl ?_
      exact d0 ⟨rfl, ⟨ea, eb⟩⟩
     ·intro tK tL tM tN tO tP tQ aS ec ed ee
      obtain ⟨bI, ef⟩ := ec
      have eg := bI
      refine Or.inr ⟨(ab == 5), (fun d hd => by cases hd; exact (ee 3 rfl 9 rfl)), fun _ => ?_, fun h => absurd (aq : (ab == 5) = true) h⟩
      refine r_load ar 0 (Val.ag aa ah ai aj ak al am an ao) ((ed 1 rfl).trans rfl) rfl (loads_row tr27 (Blk.range eg 0 (Val.cs aa ah ai aj ak al am an ao) rfl)) ?_
      exact d0 ⟨(Val.rpvMk (v := aa) (((aw.mono ad.wext).mono ae.wext).mono aS) (((ax.mono ad.wext).mono ae.wext).mono aS) (((ay.mono ad.wext).mono ae.wext).mono aS) (((az.mono ad.wext).mono ae.wext).mono aS)), ⟨bI, ef⟩⟩
     ·intro tR eh ei tS tT tU ej tV ek tW bJ
      have el := ap.trans ej
      obtain ⟨em, en⟩ := ek
      have eo : RpV ei (aa : Val) (eh 10) := bJ 4 rfl 10 rfl
      obtain ⟨ep, eq, er, es, et, eu, ev, ew, ex, ey, ez, eA, eB⟩ := Val.rpv eo
      refine Or.inr ⟨(ab == 5), (fun d hd => by cases hd; exact (bJ 3 rfl 9 rfl)), fun _ => ?_, fun h => absurd (aq : (ab == 5) = true) h⟩
      refine r_call [Val.ag aa ep eq er es et eu ev ew] (evs1 ex) rfl ((ok_value_Height fuel) _ _ _ _ (Val.rpvMk (v := aa) ey ez eA eB) aP) ?_
      intro tX tY aT eC
      obtain rfl := RpV.int eC
      refine j0 ?_
      exact ⟨_, _, rfl, rfl, (ExtB.refl _ _).trans (aT.mono el.size), (Wext.refl _).trans aT.wext, rfl, ⟨(em.ext aT), (en.ext aT)⟩⟩
     ·intro tZ t0 t1 t2 t3 t4 t5 t6 eD t7 bK
      obtain ⟨eE, eF⟩ := eD
      refine Or.inr ⟨(ab == 5), (fun d hd => by cases hd; exact (bK 3 rfl 9 rfl)), fun _ => ?_, fun h => absurd (aq : (ab == 5) = true) h⟩
      refine r_bin (.int .i64 ac) (.int .i64 3) (.bool (ac == 3)) (bK 5 rfl 11 rfl) rfl rfl rfl (b_eql) ?_
      exact d0 ⟨rfl, ⟨eE, eF⟩⟩
     ·intro t8 t9 ua ub uc ud ue uf eG ug bL
      obtain ⟨eH, eI⟩ := eG
      refine r_pick_t (c := (ab == 5)) (.bool (ac == 3)) (bL 3 rfl 9 rfl) aq (bL 6 rfl 12 rfl) rfl rfl rfl ?_
      exact d0 ⟨rfl, ⟨eH, eI⟩⟩
     ·intro uh ui uj uk ul um un uo eJ up eK
      obtain ⟨eL, eM⟩ := eJ
      refine r_move (.bool (ac == 3)) (eK 7 rfl 13 rfl) rfl ?_
      exact d0 ⟨rfl, ⟨eL, eM⟩⟩
     ·intro uq ur us ut uu uv uw aU eN eO eP
      obtain ⟨bM, eQ⟩ := eN
      have eR := bM
      refine Or.inr ⟨(ac == 3), (fun d hd => by cases hd; exact (eP 8 rfl 14 rfl)), fun _ => ?_, fun h => absurd (au : (ac == 3) = true) h⟩
      refine r_load ar 0 (Val.ag aa ah ai aj ak al am an ao) ((eO 1 rfl).trans rfl) rfl (loads_row tr27 (Blk.range eR 0 (Val.cs aa ah ai aj ak al am an ao) rfl)) ?_
      exact d0 ⟨(Val.rpvMk (v := aa) (((aw.mono ad.wext).mono ae.wext).mono aU) (((ax.mono ad.wext).mono ae.wext).mono aU) (((ay.mono ad.wext).mono ae.wext).mono aU) (((az.mono ad.wext).mono ae.wext).mono aU)), ⟨bM, eQ⟩⟩
     ·intro ux eS eT uy uz uA eU uB eV uC bN
      have eW := ap.trans eU
      obtain ⟨eX, eY⟩ := eV
      have eZ : RpV eT (aa : Val) (eS 15) := bN 9 rfl 15 rfl
      obtain ⟨e0, e1, e3, e4, e5, e6, e7, e8, e9, fa, fb, fc, fd⟩ := Val.rpv eZ
      refine Or.inr ⟨(ac == 3), (fun d hd => by cases hd; exact (bN 8 rfl 14 rfl)), fun _ => ?_, fun h => absurd (au : (ac == 3) = true) h⟩
      refine r_call [Val.ag aa e0 e1 e3 e4 e5 e6 e7 e8] (evs1 e9) rfl ((ok_value_Validate fuel) _ _ _ _ (Val.rpvMk (v := aa) fa fb fc fd) bn) ?_
      intro uD uE aV fe
      obtain rfl := RpV.int fe
      refine j0 ?_
      exact ⟨_, _, rfl, rfl, (ExtB.refl _ _).trans (aV.mono eW.size), (Wext.refl _).trans aV.wext, rfl, ⟨(eX.ext aV), (eY.ext aV)⟩⟩
     ·intro uF uG uH uI uJ uK uL uM ff uN bO
      obtain ⟨fg, fh⟩ := ff
      refine Or.inr ⟨(ac == 3), (fun d hd => by cases hd; exact (bO 8 rfl 14 rfl)), fun _ => ?_, fun h => absurd (au : (ac == 3) = true) h⟩
      refine r_bin (.int .i64 ag) (.int .i64 0) (.bool (ag == 0)) (bO 10 rfl 16 rfl) rfl rfl rfl (b_eql) ?_
      exact d0 ⟨rfl, ⟨fg, fh⟩⟩
     ·intro uO uP uQ uR uS uT uU uV fj uW bP
      obtain ⟨fk, fl⟩ := fj
      refine r_pick_t (c := (ac == 3)) (.bool (ag == 0)) (bP 8 rfl 14 rfl) au (bP 11 rfl 17 rfl) rfl rfl rfl ?_
      exact d0 ⟨rfl, ⟨fk, fl⟩⟩
     ·intro uX uY uZ u0 u1 u2 u3 u4 fm u5 fn
      obtain ⟨fo, fp⟩ := fm
      refine r_move (.bool (ag == 0)) (fn 12 rfl 18 rfl) rfl ?_
      exact d0 ⟨rfl, ⟨fo, fp⟩⟩
     ·intro u6 u7 u8 u9 va vb vc vd fq ve fr
      obtain ⟨fs, ft⟩ := fq
      refine Or.inr ⟨(ag == 0), (fun d hd => by cases hd; exact (fr 13 rfl 19 rfl)), fun _ => ?_, fun h => absurd (aA : (ag == 0) = true) h⟩
      refine r_build tst27 [] [.int .i64 0, .int .i64 0, .string (⟨#[]⟩), nl Val, nl Key, nl Ent, nl ByteArray] eps_nil rfl rfl ?_
      exact d0 ⟨(Val.rpvMk (v := (Val.mk 0 0 (⟨#[]⟩) ([] : List Val) ([] : List Key) ([] : List Ent) ([] : List ByteArray))) (Sl.nil_ _ _ _ (Nat.zero_le _)) (Sl.nil_ _ _ _ (Nat.zero_le _)) (Sl.nil_ _ _ _ (Nat.zero_le _)) (Sl.nil_ _ _ _ (Nat.zero_le _))), ⟨fs, ft⟩⟩
     ·intro vf fu fv vg vh vi fw vj fx vk bQ
      have fy := ap.trans fw
      obtain ⟨fz, fA⟩ := fx
      have fB : RpV fv ((Val.mk 0 0 (⟨#[]⟩) ([] : List Val) ([] : List Key) ([] : List Ent) ([] : List ByteArray)) : Val) (fu 20) := bQ 14 rfl 20 rfl
      obtain ⟨fC, fD, fE, fF, fG, fH, fI, fJ, fK, fL, fM, fN, fO⟩ := Val.rpv fB
      refine Or.inr ⟨(ag == 0), (fun d hd => by cases hd; exact (bQ 13 rfl 19 rfl)), fun _ => ?_, fun h => absurd (aA : (ag == 0) = true) h⟩
      refine r_call [.agg #[.int .i64 0, .int .i64 0, .string (⟨#[]⟩), .slice fC ((Val.mk 0 0 (⟨#[]⟩) ([] : List Val) ([] : List Key) ([] : List Ent) ([] : List ByteArray)).Kids).length fD, .slice fE ((Val.mk 0 0 (⟨#[]⟩) ([] : List Val) ([] : List Key) ([] : List Ent) ([] : List ByteArray)).Keys).length fF, .slice fG ((Val.mk 0 0 (⟨#[]⟩) ([] : List Val) ([] : List Key) ([] : List Ent) ([] : List ByteArray)).Entries).length fH, .slice fI ((Val.mk 0 0 (⟨#[]⟩) ([] : List Val) ([] : List Key) ([] : List Ent) ([] : List ByteArray)).Labels).length fJ]] (evs1 fK) rfl ((ok_value_Validate fuel) _ _ _ _ (Val.rpvMk (v := (Val.mk 0 0 (⟨#[]⟩) ([] : List Val) ([] : List Key) ([] : List Ent) ([] : List ByteArray))) fL fM fN fO) bG) ?_
      intro vl vm aW fP
      obtain rfl := RpV.int fP
      refine j0 ?_
      exact ⟨_, _, rfl, rfl, (ExtB.refl _ _).trans (aW.mono fy.size), (Wext.refl _).trans aW.wext, rfl, ⟨(fz.ext aW), (fA.ext aW)⟩⟩
     ·intro vn vo vp vq vr vs vt vu fQ vv bR
      obtain ⟨fR, fS⟩ := fQ
      refine Or.inr ⟨(ag == 0), (fun d hd => by cases hd; exact (bR 13 rfl 19 rfl)), fun _ => ?_, fun h => absurd (aA : (ag == 0) = true) h⟩
      refine r_bin (.int .i64 af) (.int .i64 1) (.bool (af == 1)) (bR 15 rfl 21 rfl) rfl rfl rfl (b_eql) ?_
      exact d0 ⟨rfl, ⟨fR, fS⟩⟩
     ·intro vw vx vy vz vA vB vC vD fT vE bS
      obtain ⟨fU, fV⟩ := fT
      refine r_pick_t (c := (ag == 0)) (.bool (af == 1)) (bS 13 rfl 19 rfl) aA (bS 16 rfl 22 rfl) rfl rfl rfl ?_
      exact d0 ⟨rfl, ⟨fU, fV⟩⟩
     ·intro vF vG vH vI vJ vK vL vM fW vN fX
      obtain ⟨fY, fZ⟩ := fW
      refine r_move (.bool (af == 1)) (fX 17 rfl 23 rfl) rfl ?_
      exact d0 ⟨rfl, ⟨fY, fZ⟩⟩
     ·intro vO vP vQ vR vS vT vU aX f0 f1 f2
      obtain ⟨bT, f3⟩ := f0
      have f4 := bT
      refine Or.inr ⟨(af == 1), (fun d hd => by cases hd; exact (f2 18 rfl 24 rfl)), fun _ => ?_, fun h => absurd (av : (af == 1) = true) h⟩
      refine r_load ar 0 (Val.ag aa ah ai aj ak al am an ao) ((f1 1 rfl).trans rfl) rfl (loads_row tr27 (Blk.range f4 0 (Val.cs aa ah ai aj ak al am an ao) rfl)) ?_
      exact d0 ⟨(Val.rpvMk (v := aa) (((aw.mono ad.wext).mono ae.wext).mono aX) (((ax.mono ad.wext).mono ae.wext).mono aX) (((ay.mono ad.wext).mono ae.wext).mono aX) (((az.mono ad.wext).mono ae.wext).mono aX)), ⟨bT, f3⟩⟩
     ·intro vV vW vX vY vZ v0 f5 v1 f6 v2 f7
      have f8 := ap.trans f5
      obtain ⟨f9, ga⟩ := f6
      refine Or.inr ⟨(af == 1), (fun d hd => by cases hd; exact (f7 18 rfl 24 rfl)), fun _ => ?_, fun h => absurd (av : (af == 1) = true) h⟩
      refine r_call [.int .i64 1] (evs1 rfl) rfl (ok_value_Int _ _ _ _ (RpV.mkInt _ _) dw) ?_
      intro v3 v5 aY gb
      obtain ⟨v6, v7, v8, v9, wa, wb, wc, wd, rfl, gc, gd, ge, gf⟩ := Val.rpv gb
      refine j0 ?_
      exact ⟨_, _, rfl, rfl, (ExtB.refl _ _).trans (aY.mono f8.size), (Wext.refl _).trans aY.wext, (Val.rpvMk (v := aK) gc gd ge gf), ⟨(f9.ext aY), (ga.ext aY)⟩⟩
     ·intro we wf wg wh wi wj gg wk gh wl gi
      have gj := ap.trans gg
      obtain ⟨gk, gl⟩ := gh
      refine Or.inr ⟨(af == 1), (fun d hd => by cases hd; exact (gi 18 rfl 24 rfl)), fun _ => ?_, fun h => absurd (av : (af == 1) = true) h⟩
      refine r_call [.int .i64 2] (evs1 rfl) rfl (ok_value_Int _ _ _ _ (RpV.mkInt _ _) dx) ?_
      intro wm wn aZ gm
      obtain ⟨wo, wp, wq, wr, ws, wt, wu, wv, rfl, gn, go, gp, gq⟩ := Val.rpv gm
      refine j0 ?_
      exact ⟨_, _, rfl, rfl, (ExtB.refl _ _).trans (aZ.mono gj.size), (Wext.refl _).trans aZ.wext, (Val.rpvMk (v := aL) gn go gp gq), ⟨(gk.ext aZ), (gl.ext aZ)⟩⟩
     ·intro ww wx wy wz wA wB gr wC gs wD gt
      have gu := ap.trans gr
      obtain ⟨gv, gw⟩ := gs
      refine Or.inr ⟨(af == 1), (fun d hd => by cases hd; exact (gt 18 rfl 24 rfl)), fun _ => ?_, fun h => absurd (av : (af == 1) = true) h⟩
      refine r_call [] evs0 rfl (ok_value_Nil _ _  dy) ?_
      intro wE wF a0 gx
      obtain ⟨wG, wH, wI, wJ, wK, wL, wM, wN, rfl, gy, gz, gA, gB⟩ := Val.rpv gx
      refine j0 ?_
      exact ⟨_, _, rfl, rfl, (ExtB.refl _ _).trans (a0.mono gu.size), (Wext.refl _).trans a0.wext, (Val.rpvMk (v := aM) gy gz gA gB), ⟨(gv.ext a0), (gw.ext a0)⟩⟩
     ·intro wO bU bV wP wQ wR gC wS gD wT bo
      have gE := ap.trans gC
      obtain ⟨gF, gG⟩ := gD
      have gH : RpV bV (aL : Val) (bU 27) := bo 21 rfl 27 rfl
      obtain ⟨gI, gJ, gK, gL, gM, gN, gO, gP, gQ, gR, gS, gT, gU⟩ := Val.rpv gH
      have gV : RpV bV (aM : Val) (bU 28) := bo 22 rfl 28 rfl
      obtain ⟨gW, gX, gY, gZ, g0, g1, g2, g3, g4, g5, g6, g7, g8⟩ := Val.rpv gV
      refine Or.inr ⟨(af == 1), (fun d hd => by cases hd; exact (bo 18 rfl 24 rfl)), fun _ => ?_, fun h => absurd (av : (af == 1) = true) h⟩
      refine r_call [Val.ag aL gI gJ gK gL gM gN gO gP, Val.ag aM gW gX gY gZ g0 g1 g2 g3] (evs2 gQ g4) rfl ((ok_value_Cons fuel) _ _ _ _ _ _ (Val.rpvMk (v := aL) gR gS gT gU) (Val.rpvMk (v := aM) g5 g6 g7 g8) dz) ?_
      intro wU wV a1 g9
      obtain ⟨wW, wX, wY, wZ, w0, w1, w2, w3, rfl, ha, hb, hc, he⟩ := Val.rpv g9
      refine j0 ?_
      exact ⟨_, _, rfl, rfl, (ExtB.refl _ _).trans (a1.mono gE.size), (Wext.refl _).trans a1.wext, (Val.rpvMk (v := aN) ha hb hc he), ⟨(gF.ext a1), (gG.ext a1)⟩⟩
     ·intro w4 bW bX w5 w6 w7 hg w8 hh w9 bp
      have hi := ap.trans hg
      obtain ⟨hj, hk⟩ := hh
      have hl : RpV bX (aK : Val) (bW 26) := bp 20 rfl 26 rfl
      obtain ⟨hm, hn, ho, hp, hq, hr, hs, ht, hu, hv, hw, hx, hy⟩ := Val.rpv hl
      have hz : RpV bX (aN : Val) (bW 29) := bp 23 rfl 29 rfl
      obtain ⟨hA, hB, hC, hD, hE, hF, hG, hH, hI, hJ, hK, hL, hM⟩ := Val.rpv hz
      refine Or.inr ⟨(af == 1), (fun d hd => by cases hd; exact (bp 18 rfl 24 rfl)), fun _ => ?_, fun h => absurd (av : (af == 1) = true) h⟩
      refine r_call [Val.ag aK hm hn ho hp hq hr hs ht, Val.ag aN hA hB hC hD hE hF hG hH] (evs2 hu hI) rfl ((ok_value_Cons fuel) _ _ _ _ _ _ (Val.rpvMk (v := aK) hv hw hx hy) (Val.rpvMk (v := aN) hJ hK hL hM) dA) ?_
      intro xa xb a2 hN
      obtain ⟨xc, xd, xe, xf, xg, xh, xi, xj, rfl, hO, hP, hQ, hR⟩ := Val.rpv hN
      refine j0 ?_
      exact ⟨_, _, rfl, rfl, (ExtB.refl _ _).trans (a2.mono hi.size), (Wext.refl _).trans a2.wext, (Val.rpvMk (v := aO) hO hP hQ hR), ⟨(hj.ext a2), (hk.ext a2)⟩⟩
     ·intro xk bY bZ xl xm xn hS xo hT xp bq
      have hU := ap.trans hS
      obtain ⟨hV, hW⟩ := hT
      have hX : RpV bZ (aa : Val) (bY 25) := bq 19 rfl 25 rfl
      obtain ⟨hY, hZ, h0, h1, h2, h3, h4, h5, h6, h7, h8, h9, ia⟩ := Val.rpv hX
      have ib : RpV bZ (aO : Val) (bY 30) := bq 24 rfl 30 rfl
      obtain ⟨ic, ie, ig, ih, ii, ij, ik, il, im, io, ip, iq, ir⟩ := Val.rpv ib
      refine Or.inr ⟨(af == 1), (fun d hd => by cases hd; exact (bq 18 rfl 24 rfl)), fun _ => ?_, fun h => absurd (av : (af == 1) = true) h⟩
      refine r_call [Val.ag aa hY hZ h0 h1 h2 h3 h4 h5, Val.ag aO ic ie ig ih ii ij ik il] (evs2 h6 im) rfl ((ok_value_Equal fuel) _ _ _ _ _ _ (Val.rpvMk (v := aa) h7 h8 h9 ia) (Val.rpvMk (v := aO) io ip iq ir) dB) ?_
      intro xq xr a3 it
      obtain rfl := RpV.bool it
      refine j0 ?_
      exact ⟨_, _, rfl, rfl, (ExtB.refl _ _).trans (a3.mono hU.size), (Wext.refl _).trans a3.wext, rfl, ⟨(hV.ext a3), (hW.ext a3)⟩⟩
     ·intro xt xu xv xw xx xy xz xA iu xB b0
      obtain ⟨iv, iw⟩ := iu
      refine r_pick_t (c := (af == 1)) (.bool aG) (b0 18 rfl 24 rfl) av (b0 25 rfl 31 rfl) rfl rfl rfl ?_
      exact d0 ⟨rfl, ⟨iv, iw⟩⟩
     ·intro xC xD xE xF xG xH xI xJ ix xK iy
      obtain ⟨iz, iA⟩ := ix
      refine r_assign (.bool aG) (iy 26 rfl 32 rfl) rfl ?_
      exact d0 ⟨rfl, ⟨iz, iA⟩⟩
     intro xL xM iB xN iC xO iD
     have iE := ap.trans iB
     obtain ⟨xP, xQ⟩ := iC
     refine j1 (jb ?_)
     obtain rfl := Option.some.inj hf
     refine ret_one (.bool aG) rfl ⟨rfl, (iD 27 0 rfl)⟩ iE ?_
     exact (RpV.mkBool _ _)
    refine wp_draw (B := frExt s0.N) [some 6, some 7, some 8, some 9, some 10, some 11, some 12, some 13, some 14, some 15, some 16, some 17, some 18, some 19, some 20, some 21, some 22, some 23, some 24, some 25, some 26, some 27, some 28, some 29, some 30, some 31, some 32, some 0] [[], [0], [0, 1], [0, 1, 2], [0, 1, 2, 3], [0, 1, 2, 3, 4], [0, 1, 2, 3, 4, 5], [0, 1, 2, 3, 4, 5, 6], [0, 1, 2, 3, 4, 5, 6, 7], [0, 1, 2, 3, 4, 5, 6, 7, 8], [0, 1, 2, 3, 4, 5, 6, 7, 8, 9], [0, 1, 2, 3, 4, 5, 6, 7, 8, 9, 10], [0, 1, 2, 3, 4, 5, 6, 7, 8, 9, 10, 11], [0, 1, 2, 3, 4, 5, 6, 7, 8, 9, 10, 11, 12], [0, 1, 2, 3, 4, 5, 6, 7, 8, 9, 10, 11, 12, 13], [0, 1, 2, 3, 4, 5, 6, 7, 8, 9, 10, 11, 12, 13, 14], [0, 1, 2, 3, 4, 5, 6, 7, 8, 9, 10, 11, 12, 13, 14, 15], [0, 1, 2, 3, 4, 5, 6, 7, 8, 9, 10, 11, 12, 13, 14, 15, 16], [0, 1, 2, 3, 4, 5, 6, 7, 8, 9, 10, 11, 12, 13, 14, 15, 16, 17], [0, 1, 2, 3, 4, 5, 6, 7, 8, 9, 10, 11, 12, 13, 14, 15, 16, 17, 18], [0, 1, 2, 3, 4, 5, 6, 7, 8, 9, 10, 11, 12, 13, 14, 15, 16, 17, 18], [0, 1, 2, 3, 4, 5, 6, 7, 8, 9, 10, 11, 12, 13, 14, 15, 16, 17, 18, 20], [0, 1, 2, 3, 4, 5, 6, 7, 8, 9, 10, 11, 12, 13, 14, 15, 16, 17, 18, 20, 21], [0, 1, 2, 3, 4, 5, 6, 7, 8, 9, 10, 11, 12, 13, 14, 15, 16, 17, 18, 20, 21, 22], [0, 1, 2, 3, 4, 5, 6, 7, 8, 9, 10, 11, 12, 13, 14, 15, 16, 17, 18, 20, 21, 22, 23], [0, 1, 2, 3, 4, 5, 6, 7, 8, 9, 10, 11, 12, 13, 14, 15, 16, 17, 18, 19, 20, 21, 22, 23, 24], [0, 1, 2, 3, 4, 5, 6, 7, 8, 9, 10, 11, 12, 13, 14, 15, 16, 17, 18, 19, 20, 21, 22, 23, 24, 25], [0, 1, 2, 3, 4, 5, 6, 7, 8, 9, 10, 11, 12, 13, 14, 15, 16, 17, 18, 19, 20, 21, 22, 23, 24, 25, 26]] [Fct.data (aa : Val), Fct.eqv (.int .i64 ab), Fct.eqv (.bool (ab == 5)), Fct.eqv (.bool (ab == 5)), Fct.data (aa : Val), Fct.eqv (.int .i64 ac), Fct.eqv (.bool (ac == 3)), Fct.eqv (.bool (ac == 3)), Fct.eqv (.bool (ac == 3)), Fct.data (aa : Val), Fct.eqv (.int .i64 ag), Fct.eqv (.bool (ag == 0)), Fct.eqv (.bool (ag == 0)), Fct.eqv (.bool (ag == 0)), Fct.data ((Val.mk 0 0 (⟨#[]⟩) ([] : List Val) ([] : List Key) ([] : List Ent) ([] : List ByteArray)) : Val), Fct.eqv (.int .i64 af), Fct.eqv (.bool (af == 1)), Fct.eqv (.bool (af == 1)), Fct.eqv (.bool (af == 1)), Fct.eqv undef, Fct.eqv undef, Fct.eqv undef, Fct.eqv undef, Fct.eqv undef, Fct.eqv undef, Fct.eqv undef, Fct.eqv (.bool false), Fct.eqv (.bool false)] (fun D F τ => (Blk s0.N 2 τ ar 27 (Val.cs aa ah ai aj ak al am an ao)) ∧ (Own s0.N 1 27 τ [r1, aB] aC aD)) (by kernel_rfl) rfl (by decide) (by decide) ⟨(aI.ext (ext_draw _)), ((((aE.ext aF).ext ad).mod ae rfl).ext (ext_draw _))⟩ (by decide) (by decide) ⟨?_, ?_, ?_, ?_, ?_, ?_, ?_, ?_, ?_, ?_, ?_, ?_, ?_, ?_, ?_, ?_, ?_, ?_, ?_, ?_, ?_, ?_, ?_, ?_, ?_, ?_, ?_, ?_, trivial⟩ ?_
    ·intro xR xS xT xU xV xW xX a4 iF iG xY
     obtain ⟨b1, iH⟩ := iF
     have iI := b1
     refine r_load ar 0 (Val.ag aa ah ai aj ak al am an ao) ((iG 1 rfl).trans rfl) rfl (loads_row tr27 (Blk.range iI 0 (Val.cs aa ah ai aj ak al am an ao) rfl)) ?_
     exact d0 ⟨(Val.rpvMk (v := aa) (((aw.mono ad.wext).mono ae.wext).mono a4) (((ax.mono ad.wext).mono ae.wext).mono a4) (((ay.mono ad.wext).mono ae.wext).mono a4) (((az.mono ad.wext).mono ae.wext).mono a4)), ⟨b1, iH⟩⟩
    ·intro xZ iJ iK x0 x1 x2 iL x3 iM x4 iN
     have iO := ap.trans iL
     obtain ⟨iP, iQ⟩ := iM
     have iR : RpV iK (aa : Val) (iJ 6) := iN 0 rfl 6 rfl
     obtain ⟨iS, iT, iU, iV, iW, iX, iY, iZ, i0, i1, i2, i3, i4⟩ := Val.rpv iR
     refine r_call [Val.ag aa iS iT iU iV iW iX iY iZ] (evs1 i0) rfl ((ok_value_Nodes fuel) _ _ _ _ (Val.rpvMk (v := aa) i1 i2 i3 i4) aJ) ?_
     intro x5 x6 a5 i5
     obtain rfl := RpV.int i5
     refine j0 ?_
     exact ⟨_, _, rfl, rfl, (ExtB.refl _ _).trans (a5.mono iO.size), (Wext.refl _).trans a5.wext, rfl, ⟨(iP.ext a5), (iQ.ext a5)⟩⟩
    ·intro x7 x8 x9 ya yb yc yd ye i6 yf i7
     obtain ⟨i8, i9⟩ := i6
     refine r_bin (.int .i64 ab) (.int .i64 5) (.bool (ab == 5)) (i7 1 rfl 7 rfl) rfl rfl rfl (b_eql) ?_
     exact d0 ⟨rfl, ⟨i8, i9⟩⟩
    ·intro yg yh yi yj yk yl ym yn ja yo jc
     obtain ⟨jd, je⟩ := ja
     refine r_move (.bool (ab == 5)) (jc 2 rfl 8 rfl) rfl ?_
     exact d0 ⟨rfl, ⟨jd, je⟩⟩
    ·intro yp yq yr ys yt yu yv a6 jf jg jh
     obtain ⟨b2, ji⟩ := jf
     have jj := b2
     refine Or.inr ⟨(ab == 5), (fun d hd => by cases hd; exact (jh 3 rfl 9 rfl)), fun _ => ?_, fun h => absurd (aq : (ab == 5) = true) h⟩
     refine r_load ar 0 (Val.ag aa ah ai aj ak al am an ao) ((jg 1 rfl).trans rfl) rfl (loads_row tr27 (Blk.range jj 0 (Val.cs aa ah ai aj ak al am an ao) rfl)) ?_
     exact d0 ⟨(Val.rpvMk (v := aa) (((aw.mono ad.wext).mono ae.wext).mono a6) (((ax.mono ad.wext).mono ae.wext).mono a6) (((ay.mono ad.wext).mono ae.wext).mono a6) (((az.mono ad.wext).mono ae.wext).mono a6)), ⟨b2, ji⟩⟩
    ·intro yw jk jl yx yy yz jm yA jn yB b3
     have jo := ap.trans jm
     obtain ⟨jp, jq⟩ := jn
     have jr : RpV jl (aa : Val) (jk 10) := b3 4 rfl 10 rfl
     obtain ⟨js, jt, ju, jv, jw, jx, jy, jz, jA, jB, jC, jD, jE⟩ := Val.rpv jr
     refine Or.inr ⟨(ab == 5), (fun d hd => by cases hd; exact (b3 3 rfl 9 rfl)), fun _ => ?_, fun h => absurd (aq : (ab == 5) = true) h⟩
     refine r_call [Val.ag aa js jt ju jv jw jx jy jz] (evs1 jA) rfl ((ok_value_Height fuel) _ _ _ _ (Val.rpvMk (v := aa) jB jC jD jE) aP) ?_
     intro yC yD a7 jF
     obtain rfl := RpV.int jF
     refine j0 ?_
     exact ⟨_, _, rfl, rfl, (ExtB.refl _ _).trans (a7.mono jo.size), (Wext.refl _).trans a7.wext, rfl, ⟨(jp.ext a7), (jq.ext a7)⟩⟩
    ·intro yE yF yG yH yI yJ yK yL jG yM b4
     obtain ⟨jH, jI⟩ := jG
     refine Or.inr ⟨(ab == 5), (fun d hd => by cases hd; exact (b4 3 rfl 9 rfl)), fun _ => ?_, fun h => absurd (aq : (ab == 5) = true) h⟩
     refine r_bin (.int .i64 ac) (.int .i64 3) (.bool (ac == 3)) (b4 5 rfl 11 rfl) rfl rfl rfl (b_eql) ?_
     exact d0 ⟨rfl, ⟨jH, jI⟩⟩
    ·intro yN yO yP yQ yR yS yT yU jJ yV b5
     obtain ⟨jK, jL⟩ := jJ
     refine r_pick_t (c := (ab == 5)) (.bool (ac == 3)) (b5 3 rfl 9 rfl) aq (b5 6 rfl 12 rfl) rfl rfl rfl ?_
     exact d0 ⟨rfl, ⟨jK, jL⟩⟩
    ·intro yW yX yY yZ y0 y1 y2 y3 jM y4 jN
     obtain ⟨jO, jP⟩ := jM
     refine r_move (.bool (ac == 3)) (jN 7 rfl 13 rfl) rfl ?_
     exact d0 ⟨rfl, ⟨jO, jP⟩⟩
    ·intro y5 y6 y7 y8 y9 za zb a8 jQ jR jS
     obtain ⟨b6, jT⟩ := jQ
     have jU := b6
     refine Or.inr ⟨(ac == 3), (fun d hd => by cases hd; exact (jS 8 rfl 14 rfl)), fun _ => ?_, fun h => absurd (au : (ac == 3) = true) h⟩
     refine r_load ar 0 (Val.ag aa ah ai aj ak al am an ao) ((jR 1 rfl).trans rfl) rfl (loads_row tr27 (Blk.range jU 0 (Val.cs aa ah ai aj ak al am an ao) rfl)) ?_
     exact d0 ⟨(Val.rpvMk (v := aa) (((aw.mono ad.wext).mono ae.wext).mono a8) (((ax.mono ad.wext).mono ae.wext).mono a8) (((ay.mono ad.wext).mono ae.wext).mono a8) (((az.mono ad.wext).mono ae.wext).mono a8)), ⟨b6, jT⟩⟩
    ·intro zc jV jW zd ze zf jX zg jY zh b7
     have jZ := ap.trans jX
     obtain ⟨j4, j5⟩ := jY
     have j6 : RpV jW (aa : Val) (jV 15) := b7 9 rfl 15 rfl
     obtain ⟨j7, j8, j9, ka, kb, kc, kd, ke, kf, kg, kh, ki, kj⟩ := Val.rpv j6
     refine Or.inr ⟨(ac == 3), (fun d hd => by cases hd; exact (b7 8 rfl 14 rfl)), fun _ => ?_, fun h => absurd (au : (ac == 3) = true) h⟩
     refine r_call [Val.ag aa j7 j8 j9 ka kb kc kd ke] (evs1 kf) rfl ((ok_value_Validate fuel) _ _ _ _ (Val.rpvMk (v := aa) kg kh ki kj) bn) ?_
     intro zi zj a9 kk
     obtain rfl := RpV.int kk
     refine j0 ?_
     exact ⟨_, _, rfl, rfl, (ExtB.refl _ _).trans (a9.mono jZ.size), (Wext.refl _).trans a9.wext, rfl, ⟨(j4.ext a9), (j5.ext a9)⟩⟩
    ·intro zk zl zm zn zo zp zq zr kl zs b8
     obtain ⟨km, kn⟩ := kl
     refine Or.inr ⟨(ac == 3), (fun d hd => by cases hd; exact (b8 8 rfl 14 rfl)), fun _ => ?_, fun h => absurd (au : (ac == 3) = true) h⟩
     refine r_bin (.int .i64 ag) (.int .i64 0) (.bool (ag == 0)) (b8 10 rfl 16 rfl) rfl rfl rfl (b_eql) ?_
     exact d0 ⟨rfl, ⟨km, kn⟩⟩
    ·intro zt zu zv zw zx zy zz zA ko zB b9
     obtain ⟨kp, kq⟩ := ko
     refine r_pick_t (c := (ac == 3)) (.bool (ag == 0)) (b9 8 rfl 14 rfl) au (b9 11 rfl 17 rfl) rfl rfl rfl ?_
     exact d0 ⟨rfl, ⟨kp, kq⟩⟩
    ·intro zC zD zE zF zG zH zI zJ kr zK ks
     obtain ⟨kt, ku⟩ := kr
     refine r_move (.bool (ag == 0)) (ks 12 rfl 18 rfl) rfl ?_
     exact d0 ⟨rfl, ⟨kt, ku⟩⟩
    ·intro zL zM zN zO zP zQ zR zS kv zT kw
     obtain ⟨kx, ky⟩ := kv
     refine Or.inr ⟨(ag == 0), (fun d hd => by cases hd; exact (kw 13 rfl 19 rfl)), fun _ => ?_, fun h => absurd (aA : (ag == 0) = true) h⟩
     refine r_build tst27 [] [.int .i64 0, .int .i64 0, .string (⟨#[]⟩), nl Val, nl Key, nl Ent, nl ByteArray] eps_nil rfl rfl ?_
     exact d0 ⟨(Val.rpvMk (v := (Val.mk 0 0 (⟨#[]⟩) ([] : List Val) ([] : List Key) ([] : List Ent) ([] : List ByteArray))) (Sl.nil_ _ _ _ (Nat.zero_le _)) (Sl.nil_ _ _ _ (Nat.zero_le _)) (Sl.nil_ _ _ _ (Nat.zero_le _)) (Sl.nil_ _ _ _ (Nat.zero_le _))), ⟨kx, ky⟩⟩
    ·intro zU kz kA zV zW zX kB zY kC zZ ca
     have kD := ap.trans kB
     obtain ⟨kE, kF⟩ := kC
     have kG : RpV kA ((Val.mk 0 0 (⟨#[]⟩) ([] : List Val) ([] : List Key) ([] : List Ent) ([] : List ByteArray)) : Val) (kz 20) := ca 14 rfl 20 rfl
     obtain ⟨kH, kI, kJ, kK, kL, kM, kN, kO, kP, kQ, kR, kS, kT⟩ := Val.rpv kG
     refine Or.inr ⟨(ag == 0), (fun d hd => by cases hd; exact (ca 13 rfl 19 rfl)), fun _ => ?_, fun h => absurd (aA : (ag == 0) = true) h⟩
     refine r_call [.agg #[.int .i64 0, .int .i64 0, .string (⟨#[]⟩), .slice kH ((Val.mk 0 0 (⟨#[]⟩) ([] : List Val) ([] : List Key) ([] : List Ent) ([] : List ByteArray)).Kids).length kI, .slice kJ ((Val.mk 0 0 (⟨#[]⟩) ([] : List Val) ([] : List Key) ([] : List Ent) ([] : List ByteArray)).Keys).length kK, .slice kL ((Val.mk 0 0 (⟨#[]⟩) ([] : List Val) ([] : List Key) ([] : List Ent) ([] : List ByteArray)).Entries).length kM, .slice kN ((Val.mk 0 0 (⟨#[]⟩) ([] : List Val) ([] : List Key) ([] : List Ent) ([] : List ByteArray)).Labels).length kO]] (evs1 kP) rfl ((ok_value_Validate fuel) _ _ _ _ (Val.rpvMk (v := (Val.mk 0 0 (⟨#[]⟩) ([] : List Val) ([] : List Key) ([] : List Ent) ([] : List ByteArray))) kQ kR kS kT) bG) ?_
     intro z0 z1 ba kU
     obtain rfl := RpV.int kU
     refine j0 ?_
     exact ⟨_, _, rfl, rfl, (ExtB.refl _ _).trans (ba.mono kD.size), (Wext.refl _).trans ba.wext, rfl, ⟨(kE.ext ba), (kF.ext ba)⟩⟩
    ·intro z2 z3 z4 z5 z6 z7 z8 z9 kV Aa cb
     obtain ⟨kW, kX⟩ := kV
     refine Or.inr ⟨(ag == 0), (fun d hd => by cases hd; exact (cb 13 rfl 19 rfl)), fun _ => ?_, fun h => absurd (aA : (ag == 0) = true) h⟩
     refine r_bin (.int .i64 af) (.int .i64 1) (.bool (af == 1)) (cb 15 rfl 21 rfl) rfl rfl rfl (b_eql) ?_
     exact d0 ⟨rfl, ⟨kW, kX⟩⟩
    ·intro Ab Ac Ad Ae Af Ag Ah Ai kY Aj cc
     obtain ⟨kZ, k0⟩ := kY
     refine r_pick_t (c := (ag == 0)) (.bool (af == 1)) (cc 13 rfl 19 rfl) aA (cc 16 rfl 22 rfl) rfl rfl rfl ?_
     exact d0 ⟨rfl, ⟨kZ, k0⟩⟩
    ·intro Ak Al Am An Ao Ap Aq Ar k1 As k2
     obtain ⟨k3, k4⟩ := k1
     refine r_move (.bool (af == 1)) (k2 17 rfl 23 rfl) rfl ?_
     exact d0 ⟨rfl, ⟨k3, k4⟩⟩
    ·intro At Au Av Aw Ax Ay Az AA k6 AB k7
     obtain ⟨k8, k9⟩ := k6
     refine Or.inr ⟨(af == 1), (fun d hd => by cases hd; exact (k7 18 rfl 24 rfl)), fun h => Bool.noConfusion (Eq.trans (Eq.symm (av : (af == 1) = false)) h), fun _ => ⟨rfl, ?_⟩⟩
     exact ⟨k8, k9⟩
    ·intro AC AD AE AF AG AH AI AJ la AK lb
     obtain ⟨lc, ld⟩ := la
     refine Or.inr ⟨(af == 1), (fun d hd => by cases hd; exact (lb 18 rfl 24 rfl)), fun h => Bool.noConfusion (Eq.trans (Eq.symm (av : (af == 1) = false)) h), fun _ => ⟨rfl, ?_⟩⟩
     exact ⟨lc, ld⟩
    ·intro AL AM AN AO AP AQ AR AS le AT lf
     obtain ⟨lg, lh⟩ := le
     refine Or.inr ⟨(af == 1), (fun d hd => by cases hd; exact (lf 18 rfl 24 rfl)), fun h => Bool.noConfusion (Eq.trans (Eq.symm (av : (af == 1) = false)) h), fun _ => ⟨rfl, ?_⟩⟩
     exact ⟨lg, lh⟩
    ·intro AU AV AW AX AY AZ A0 A1 li A2 lj
     obtain ⟨lk, ll⟩ := li
     refine Or.inr ⟨(af == 1), (fun d hd => by cases hd; exact (lj 18 rfl 24 rfl)), fun h => Bool.noConfusion (Eq.trans (Eq.symm (av : (af == 1) = false)) h), fun _ => ⟨rfl, ?_⟩⟩
     exact ⟨lk, ll⟩
    ·intro A3 cd A4 A5 A6 A7 A9 Ba lm Bb br
     obtain ⟨ln, lo⟩ := lm
     have Bc : cd 27 = undef := br 21 rfl 27 rfl
     have Bd : cd 28 = undef := br 22 rfl 28 rfl
     refine Or.inr ⟨(af == 1), (fun d hd => by cases hd; exact (br 18 rfl 24 rfl)), fun h => Bool.noConfusion (Eq.trans (Eq.symm (av : (af == 1) = false)) h), fun _ => ⟨rfl, ?_⟩⟩
     exact ⟨ln, lo⟩
    ·intro Be ce Bf Bg Bh Bi Bj Bk lp Bl bs
     obtain ⟨lq, lr⟩ := lp
     have Bm : ce 26 = undef := bs 20 rfl 26 rfl
     have Bn : ce 29 = undef := bs 23 rfl 29 rfl
     refine Or.inr ⟨(af == 1), (fun d hd => by cases hd; exact (bs 18 rfl 24 rfl)), fun h => Bool.noConfusion (Eq.trans (Eq.symm (av : (af == 1) = false)) h), fun _ => ⟨rfl, ?_⟩⟩
     exact ⟨lq, lr⟩
    ·intro Bo cf Bp Bq Br Bs Bt Bu ls Bv bt
     obtain ⟨lt, lu⟩ := ls
     have Bw : cf 25 = undef := bt 19 rfl 25 rfl
     have Bx : cf 30 = undef := bt 24 rfl 30 rfl
     refine Or.inr ⟨(af == 1), (fun d hd => by cases hd; exact (bt 18 rfl 24 rfl)), fun h => Bool.noConfusion (Eq.trans (Eq.symm (av : (af == 1) = false)) h), fun _ => ⟨rfl, ?_⟩⟩
     exact ⟨lt, lu⟩
    ·intro By lv Bz BA BB BC BD BE lw BF cg
     obtain ⟨lx, ly⟩ := lw
     have BG : lv 31 = undef := cg 25 rfl 31 rfl
     refine r_pick_f (c := (af == 1)) (.bool false) (cg 18 rfl 24 rfl) av rfl rfl rfl rfl ?_
     exact d0 ⟨rfl, ⟨lx, ly⟩⟩
    ·intro BH BI BJ BK BL BM BN BO lz BP lA
     obtain ⟨lB, lC⟩ := lz
     refine r_assign (.bool false) (lA 26 rfl 32 rfl) rfl ?_
     exact d0 ⟨rfl, ⟨lB, lC⟩⟩
    intro BQ BR lD BS lE BT lF
    have lG := ap.trans lD
    obtain ⟨BU, BV⟩ := lE
    refine j1 (jb ?_)
    obtain rfl := Option.some.inj hf
    refine ret_one (.bool false) rfl ⟨rfl, (lF 27 0 rfl)⟩ lG ?_
    exact (RpV.mkBool _ _)
   refine wp_draw (B := frExt s0.N) [some 6, some 7, some 8, some 9, some 10, some 11, some 12, some 13, some 14, some 15, some 16, some 17, some 18, some 19, some 20, some 21, some 22, some 23, some 24, some 25, some 26, some 27, some 28, some 29, some 30, some 31, some 32, some 0] [[], [0], [0, 1], [0, 1, 2], [0, 1, 2, 3], [0, 1, 2, 3, 4], [0, 1, 2, 3, 4, 5], [0, 1, 2, 3, 4, 5, 6], [0, 1, 2, 3, 4, 5, 6, 7], [0, 1, 2, 3, 4, 5, 6, 7, 8], [0, 1, 2, 3, 4, 5, 6, 7, 8, 9], [0, 1, 2, 3, 4, 5, 6, 7, 8, 9, 10], [0, 1, 2, 3, 4, 5, 6, 7, 8, 9, 10, 11], [0, 1, 2, 3, 4, 5, 6, 7, 8, 9, 10, 11, 12], [0, 1, 2, 3, 4, 5, 6, 7, 8, 9, 10, 11, 12, 13], [0, 1, 2, 3, 4, 5, 6, 7, 8, 9, 10, 11, 12, 13, 14], [0, 1, 2, 3, 4, 5, 6, 7, 8, 9, 10, 11, 12, 13, 14, 15], [0, 1, 2, 3, 4, 5, 6, 7, 8, 9, 10, 11, 12, 13, 14, 15, 16], [0, 1, 2, 3, 4, 5, 6, 7, 8, 9, 10, 11, 12, 13, 14, 15, 16, 17], [0, 1, 2, 3, 4, 5, 6, 7, 8, 9, 10, 11, 12, 13, 14, 15, 16, 17, 18], [0, 1, 2, 3, 4, 5, 6, 7, 8, 9, 10, 11, 12, 13, 14, 15, 16, 17, 18], [0, 1, 2, 3, 4, 5, 6, 7, 8, 9, 10, 11, 12, 13, 14, 15, 16, 17, 18, 20], [0, 1, 2, 3, 4, 5, 6, 7, 8, 9, 10, 11, 12, 13, 14, 15, 16, 17, 18, 20, 21], [0, 1, 2, 3, 4, 5, 6, 7, 8, 9, 10, 11, 12, 13, 14, 15, 16, 17, 18, 20, 21, 22], [0, 1, 2, 3, 4, 5, 6, 7, 8, 9, 10, 11, 12, 13, 14, 15, 16, 17, 18, 20, 21, 22, 23], [0, 1, 2, 3, 4, 5, 6, 7, 8, 9, 10, 11, 12, 13, 14, 15, 16, 17, 18, 19, 20, 21, 22, 23, 24], [0, 1, 2, 3, 4, 5, 6, 7, 8, 9, 10, 11, 12, 13, 14, 15, 16, 17, 18, 19, 20, 21, 22, 23, 24, 25], [0, 1, 2, 3, 4, 5, 6, 7, 8, 9, 10, 11, 12, 13, 14, 15, 16, 17, 18, 19, 20, 21, 22, 23, 24, 25, 26]] [Fct.data (aa : Val), Fct.eqv (.int .i64 ab), Fct.eqv (.bool (ab == 5)), Fct.eqv (.bool (ab == 5)), Fct.data (aa : Val), Fct.eqv (.int .i64 ac), Fct.eqv (.bool (ac == 3)), Fct.eqv (.bool (ac == 3)), Fct.eqv (.bool (ac == 3)), Fct.data (aa : Val), Fct.eqv (.int .i64 ag), Fct.eqv (.bool (ag == 0)), Fct.eqv (.bool (ag == 0)), Fct.eqv (.bool (ag == 0)), Fct.eqv undef, Fct.eqv undef, Fct.eqv undef, Fct.eqv (.bool false), Fct.eqv (.bool false), Fct.eqv undef, Fct.eqv undef, Fct.eqv undef, Fct.eqv undef, Fct.eqv undef, Fct.eqv undef, Fct.eqv undef, Fct.eqv (.bool false), Fct.eqv (.bool false)] (fun D F τ => (Blk s0.N 2 τ ar 27 (Val.cs aa ah ai aj ak al am an ao)) ∧ (Own s0.N 1 27 τ [r1, aB] aC aD)) (by kernel_rfl) rfl (by decide) (by decide) ⟨(aI.ext (ext_draw _)), ((((aE.ext aF).ext ad).mod ae rfl).ext (ext_draw _))⟩ (by decide) (by decide) ⟨?_, ?_, ?_, ?_, ?_, ?_, ?_, ?_, ?_, ?_, ?_, ?_, ?_, ?_, ?_, ?_, ?_, ?_, ?_, ?_, ?_, ?_, ?_, ?_, ?_, ?_, ?_, ?_, trivial⟩ ?_
   ·intro BW BX BY BZ B0 B1 B2 bb lH lI B3
    obtain ⟨ch, lJ⟩ := lH
    have lK := ch
    refine r_load ar 0 (Val.ag aa ah ai aj ak al am an ao) ((lI 1 rfl).trans rfl) rfl (loads_row tr27 (Blk.range lK 0 (Val.cs aa ah ai aj ak al am an ao) rfl)) ?_
    exact d0 ⟨(Val.rpvMk (v := aa) (((aw.mono ad.wext).mono ae.wext).mono bb) (((ax.mono ad.wext).mono ae.wext).mono bb) (((ay.mono ad.wext).mono ae.wext).mono bb) (((az.mono ad.wext).mono ae.wext).mono bb)), ⟨ch, lJ⟩⟩
   ·intro B4 lL lM B5 B6 B7 lN B8 lO B9 lP
    have lQ := ap.trans lN
    obtain ⟨lR, lS⟩ := lO
    have lT : RpV lM (aa : Val) (lL 6) := lP 0 rfl 6 rfl
    obtain ⟨lU, lV, lW, lX, lY, lZ, l0, l1, l2, l3, l4, l5, l6⟩ := Val.rpv lT
    refine r_call [Val.ag aa lU lV lW lX lY lZ l0 l1] (evs1 l2) rfl ((ok_value_Nodes fuel) _ _ _ _ (Val.rpvMk (v := aa) l3 l4 l5 l6) aJ) ?_
    intro Ca Cb bc l7
    obtain rfl := RpV.int l7
    refine j0 ?_
    exact ⟨_, _, rfl, rfl, (ExtB.refl _ _).trans (bc.mono lQ.size), (Wext.refl _).trans bc.wext, rfl, ⟨(lR.ext bc), (lS.ext bc)⟩⟩
   ·intro Cc Cd Ce Cf Cg Ch Ci Cj l8 Ck l9
    obtain ⟨ma, mb⟩ := l8
    refine r_bin (.int .i64 ab) (.int .i64 5) (.bool (ab == 5)) (l9 1 rfl 7 rfl) rfl rfl rfl (b_eql) ?_
    exact d0 ⟨rfl, ⟨ma, mb⟩⟩
   ·intro Cl Cm Cn Co Cp Cq Cr Cs mc Ct md
    obtain ⟨me, mf⟩ := mc
    refine r_move (.bool (ab == 5)) (md 2 rfl 8 rfl) rfl ?_
    exact d0 ⟨rfl, ⟨me, mf⟩⟩
   ·intro Cu Cv Cw Cx Cy Cz CA bd mg mh mi
    obtain ⟨ci, mj⟩ := mg
    have mk := ci
    refine Or.inr ⟨(ab == 5), (fun d hd => by cases hd; exact (mi 3 rfl 9 rfl)), fun _ => ?_, fun h => absurd (aq : (ab == 5) = true) h⟩
    refine r_load ar 0 (Val.ag aa ah ai aj ak al am an ao) ((mh 1 rfl).trans rfl) rfl (loads_row tr27 (Blk.range mk 0 (Val.cs aa ah ai aj ak al am an ao) rfl)) ?_
    exact d0 ⟨(Val.rpvMk (v := aa) (((aw.mono ad.wext).mono ae.wext).mono bd) (((ax.mono ad.wext).mono ae.wext).mono bd) (((ay.mono ad.wext).mono ae.wext).mono bd) (((az.mono ad.wext).mono ae.wext).mono bd)), ⟨ci, mj⟩⟩
   ·intro CB ml mm CC CD CE mn CF mo CG cj
    have mp := ap.trans mn
    obtain ⟨mq, mr⟩ := mo
    have ms : RpV mm (aa : Val) (ml 10) := cj 4 rfl 10 rfl
    obtain ⟨mt, mu, mv, mw, mx, my, mz, mA, mB, mC, mD, mE, mF⟩ := Val.rpv ms
    refine Or.inr ⟨(ab == 5), (fun d hd => by cases hd; exact (cj 3 rfl 9 rfl)), fun _ => ?_, fun h => absurd (aq : (ab == 5) = true) h⟩
    refine r_call [Val.ag aa mt mu mv mw mx my mz mA] (evs1 mB) rfl ((ok_value_Height fuel) _ _ _ _ (Val.rpvMk (v := aa) mC mD mE mF) aP) ?_
    intro CH CI be mG
    obtain rfl := RpV.int mG
    refine j0 ?_
    exact ⟨_, _, rfl, rfl, (ExtB.refl _ _).trans (be.mono mp.size), (Wext.refl _).trans be.wext, rfl, ⟨(mq.ext be), (mr.ext be)⟩⟩
   ·intro CJ CK CL CM CN CO CP CQ mH CR ck
    obtain ⟨mI, mJ⟩ := mH
    refine Or.inr ⟨(ab == 5), (fun d hd => by cases hd; exact (ck 3 rfl 9 rfl)), fun _ => ?_, fun h => absurd (aq : (ab == 5) = true) h⟩
    refine r_bin (.int .i64 ac) (.int .i64 3) (.bool (ac == 3)) (ck 5 rfl 11 rfl) rfl rfl rfl (b_eql) ?_
    exact d0 ⟨rfl, ⟨mI, mJ⟩⟩
   ·intro CS CT CU CV CW CX CY CZ mK C0 cl
    obtain ⟨mL, mM⟩ := mK
    refine r_pick_t (c := (ab == 5)) (.bool (ac == 3)) (cl 3 rfl 9 rfl) aq (cl 6 rfl 12 rfl) rfl rfl rfl ?_
    exact d0 ⟨rfl, ⟨mL, mM⟩⟩
   ·intro C1 C2 C3 C4 C5 C6 C7 C8 mN C9 mO
    obtain ⟨mP, mQ⟩ := mN
    refine r_move (.bool (ac == 3)) (mO 7 rfl 13 rfl) rfl ?_
    exact d0 ⟨rfl, ⟨mP, mQ⟩⟩
   ·intro Da Db Dc Dd De Df Dg bf mR mS mT
    obtain ⟨cm, mU⟩ := mR
    have mV := cm
    refine Or.inr ⟨(ac == 3), (fun d hd => by cases hd; exact (mT 8 rfl 14 rfl)), fun _ => ?_, fun h => absurd (au : (ac == 3) = true) h⟩
    refine r_load ar 0 (Val.ag aa ah ai aj ak al am an ao) ((mS 1 rfl).trans rfl) rfl (loads_row tr27 (Blk.range mV 0 (Val.cs aa ah ai aj ak al am an ao) rfl)) ?_
    exact d0 ⟨(Val.rpvMk (v := aa) (((aw.mono ad.wext).mono ae.wext).mono bf) (((ax.mono ad.wext).mono ae.wext).mono bf) (((ay.mono ad.wext).mono ae.wext).mono bf) (((az.mono ad.wext).mono ae.wext).mono bf)), ⟨cm, mU⟩⟩
   ·intro Dh mW mX Di Dj Dk mY Dl mZ Dm cn
    have m0 := ap.trans mY
    obtain ⟨m1, m2⟩ := mZ
    have m3 : RpV mX (aa : Val) (mW 15) := cn 9 rfl 15 rfl
    obtain ⟨m4, m5, m6, m7, m8, m9, na, nb, nc, nd, ne, nf, ng⟩ := Val.rpv m3
    refine Or.inr ⟨(ac == 3), (fun d hd => by cases hd; exact (cn 8 rfl 14 rfl)), fun _ => ?_, fun h => absurd (au : (ac == 3) = true) h⟩
    refine r_call [Val.ag aa m4 m5 m6 m7 m8 m9 na nb] (evs1 nc) rfl ((ok_value_Validate fuel) _ _ _ _ (Val.rpvMk (v := aa) nd ne nf ng) bn) ?_
    intro Dn Do bg nh
    obtain rfl := RpV.int nh
    refine j0 ?_
    exact ⟨_, _, rfl, rfl, (ExtB.refl _ _).trans (bg.mono m0.size), (Wext.refl _).trans bg.wext, rfl, ⟨(m1.ext bg), (m2.ext bg)⟩⟩
   ·intro Dp Dq Dr Ds Dt Du Dv Dw ni Dx co
    obtain ⟨nj, nk⟩ := ni
    refine Or.inr ⟨(ac == 3), (fun d hd => by cases hd; exact (co 8 rfl 14 rfl)), fun _ => ?_, fun h => absurd (au : (ac == 3) = true) h⟩
    refine r_bin (.int .i64 ag) (.int .i64 0) (.bool (ag == 0)) (co 10 rfl 16 rfl) rfl rfl rfl (b_eql) ?_
    exact d0 ⟨rfl, ⟨nj, nk⟩⟩
   ·intro Dy Dz DA DB DC DD DE DF nm DG cp
    obtain ⟨nn, no⟩ := nm
    refine r_pick_t (c := (ac == 3)) (.bool (ag == 0)) (cp 8 rfl 14 rfl) au (cp 11 rfl 17 rfl) rfl rfl rfl ?_
    exact d0 ⟨rfl, ⟨nn, no⟩⟩
   ·intro DH DI DJ DK DL DM DN DO np DP nq
    obtain ⟨nr, ns⟩ := np
    refine r_move (.bool (ag == 0)) (nq 12 rfl 18 rfl) rfl ?_
    exact d0 ⟨rfl, ⟨nr, ns⟩⟩
   ·intro DQ DR DS DT DU DV DW DX nt DY nu
    obtain ⟨nv, nw⟩ := nt
    refine Or.inr ⟨(ag == 0), (fun d hd => by cases hd; exact (nu 13 rfl 19 rfl)), fun h => Bool.noConfusion (Eq.trans (Eq.symm (aA : (ag == 0) = false)) h), fun _ => ⟨rfl, ?_⟩⟩
    exact ⟨nv, nw⟩
   ·intro DZ nx D0 D1 D2 D3 D4 D5 ny D6 cq
    obtain ⟨nz, nA⟩ := ny
    have D7 : nx 20 = undef := cq 14 rfl 20 rfl
    refine Or.inr ⟨(ag == 0), (fun d hd => by cases hd; exact (cq 13 rfl 19 rfl)), fun h => Bool.noConfusion (Eq.trans (Eq.symm (aA : (ag == 0) = false)) h), fun _ => ⟨rfl, ?_⟩⟩
    exact ⟨nz, nA⟩
   ·intro D8 nB D9 Ea Eb Ec Ed Ee nC Ef cr
    obtain ⟨nD, nE⟩ := nC
    have Eg : nB 21 = undef := cr 15 rfl 21 rfl
    refine Or.inr ⟨(ag == 0), (fun d hd => by cases hd; exact (cr 13 rfl 19 rfl)), fun h => Bool.noConfusion (Eq.trans (Eq.symm (aA : (ag == 0) = false)) h), fun _ => ⟨rfl, ?_⟩⟩
    exact ⟨nD, nE⟩
   ·intro Eh nF Ei Ej Ek El Em En nG Eo cs
    obtain ⟨nH, nI⟩ := nG
    have Ep : nF 22 = undef := cs 16 rfl 22 rfl
    refine r_pick_f (c := (ag == 0)) (.bool false) (cs 13 rfl 19 rfl) aA rfl rfl rfl rfl ?_
    exact d0 ⟨rfl, ⟨nH, nI⟩⟩
   ·intro Er Es Et Eu Ev Ew Ex Ey nJ Ez nK
    obtain ⟨nL, nM⟩ := nJ
    refine r_move (.bool false) (nK 17 rfl 23 rfl) rfl ?_
    exact d0 ⟨rfl, ⟨nL, nM⟩⟩
   ·intro EA EB EC ED EE EF EG EH nN EI nO
    obtain ⟨nP, nQ⟩ := nN
    refine Or.inr ⟨false, (fun d hd => by cases hd; exact (nO 18 rfl 24 rfl)), fun h => Bool.noConfusion (Eq.trans (Eq.symm (rfl : false = false)) h), fun _ => ⟨rfl, ?_⟩⟩
    exact ⟨nP, nQ⟩
   ·intro EJ EK EL EM EN EO EP EQ nR ER nS
    obtain ⟨nT, nU⟩ := nR
    refine Or.inr ⟨false, (fun d hd => by cases hd; exact (nS 18 rfl 24 rfl)), fun h => Bool.noConfusion (Eq.trans (Eq.symm (rfl : false = false)) h), fun _ => ⟨rfl, ?_⟩⟩
    exact ⟨nT, nU⟩
   ·intro ES ET EU EV EW EX EY EZ nV E1 nW
    obtain ⟨nX, nY⟩ := nV
    refine Or.inr ⟨false, (fun d hd => by cases hd; exact (nW 18 rfl 24 rfl)), fun h => Bool.noConfusion (Eq.trans (Eq.symm (rfl : false = false)) h), fun _ => ⟨rfl, ?_⟩⟩
    exact ⟨nX, nY⟩
   ·intro E2 E3 E4 E5 E6 E8 E9 Fa nZ Fb n0
    obtain ⟨n1, n2⟩ := nZ
    refine Or.inr ⟨false, (fun d hd => by cases hd; exact (n0 18 rfl 24 rfl)), fun h => Bool.noConfusion (Eq.trans (Eq.symm (rfl : false = false)) h), fun _ => ⟨rfl, ?_⟩⟩
    exact ⟨n1, n2⟩
   ·intro Fc ct Fd Fe Ff Fg Fh Fi n3 Fj bu
    obtain ⟨n4, n5⟩ := n3
    have Fk : ct 27 = undef := bu 21 rfl 27 rfl
    have Fl : ct 28 = undef := bu 22 rfl 28 rfl
    refine Or.inr ⟨false, (fun d hd => by cases hd; exact (bu 18 rfl 24 rfl)), fun h => Bool.noConfusion (Eq.trans (Eq.symm (rfl : false = false)) h), fun _ => ⟨rfl, ?_⟩⟩
    exact ⟨n4, n5⟩
   ·intro Fm cu Fn Fo Fp Fq Fr Fs n6 Ft bv
    obtain ⟨n7, n8⟩ := n6
    have Fu : cu 26 = undef := bv 20 rfl 26 rfl
    have Fv : cu 29 = undef := bv 23 rfl 29 rfl
    refine Or.inr ⟨false, (fun d hd => by cases hd; exact (bv 18 rfl 24 rfl)), fun h => Bool.noConfusion (Eq.trans (Eq.symm (rfl : false = false)) h), fun _ => ⟨rfl, ?_⟩⟩
    exact ⟨n7, n8⟩
   ·intro Fw cv Fx Fy Fz FA FB FC n9 FD bw
    obtain ⟨oa, ob⟩ := n9
    have FE : cv 25 = undef := bw 19 rfl 25 rfl
    have FF : cv 30 = undef := bw 24 rfl 30 rfl
    refine Or.inr ⟨false, (fun d hd => by cases hd; exact (bw 18 rfl 24 rfl)), fun h => Bool.noConfusion (Eq.trans (Eq.symm (rfl : false = false)) h), fun _ => ⟨rfl, ?_⟩⟩
    exact ⟨oa, ob⟩
   ·intro FG oc FH FI FJ FK FL FM od FN cw
    obtain ⟨oe, og⟩ := od
    have FO : oc 31 = undef := cw 25 rfl 31 rfl
    refine r_pick_f (c := false) (.bool false) (cw 18 rfl 24 rfl) rfl rfl rfl rfl rfl ?_
    exact d0 ⟨rfl, ⟨oe, og⟩⟩
   ·intro FP FQ FR FS FT FU FV FW oh FX oi
    obtain ⟨oj, ol⟩ := oh
    refine r_assign (.bool false) (oi 26 rfl 32 rfl) rfl ?_
    exact d0 ⟨rfl, ⟨oj, ol⟩⟩
   intro FY FZ om F0 on F1 oo
   have op := ap.trans om
   obtain ⟨F2, F3⟩ := on
   refine j1 (jb ?_)
   obtain rfl := Option.some.inj hf
   refine ret_one (.bool false) rfl ⟨rfl, (oo 27 0 rfl)⟩ op ?_
   exact (RpV.mkBool _ _)
  refine wp_draw (B := frExt s0.N) [some 6, some 7, some 8, some 9, some 10, some 11, some 12, some 13, some 14, some 15, some 16, some 17, some 18, some 19, some 20, some 21, some 22, some 23, some 24, some 25, some 26, some 27, some 28, some 29, some 30, some 31, some 32, some 0] [[], [0], [0, 1], [0, 1, 2], [0, 1, 2, 3], [0, 1, 2, 3, 4], [0, 1, 2, 3, 4, 5], [0, 1, 2, 3, 4, 5, 6], [0, 1, 2, 3, 4, 5, 6, 7], [0, 1, 2, 3, 4, 5, 6, 7, 8], [0, 1, 2, 3, 4, 5, 6, 7, 8, 9], [0, 1, 2, 3, 4, 5, 6, 7, 8, 9, 10], [0, 1, 2, 3, 4, 5, 6, 7, 8, 9, 10, 11], [0, 1, 2, 3, 4, 5, 6, 7, 8, 9, 10, 11, 12], [0, 1, 2, 3, 4, 5, 6, 7, 8, 9, 10, 11, 12, 13], [0, 1, 2, 3, 4, 5, 6, 7, 8, 9, 10, 11, 12, 13, 14], [0, 1, 2, 3, 4, 5, 6, 7, 8, 9, 10, 11, 12, 13, 14, 15], [0, 1, 2, 3, 4, 5, 6, 7, 8, 9, 10, 11, 12, 13, 14, 15, 16], [0, 1, 2, 3, 4, 5, 6, 7, 8, 9, 10, 11, 12, 13, 14, 15, 16, 17], [0, 1, 2, 3, 4, 5, 6, 7, 8, 9, 10, 11, 12, 13, 14, 15, 16, 17, 18], [0, 1, 2, 3, 4, 5, 6, 7, 8, 9, 10, 11, 12, 13, 14, 15, 16, 17, 18], [0, 1, 2, 3, 4, 5, 6, 7, 8, 9, 10, 11, 12, 13, 14, 15, 16, 17, 18, 20], [0, 1, 2, 3, 4, 5, 6, 7, 8, 9, 10, 11, 12, 13, 14, 15, 16, 17, 18, 20, 21], [0, 1, 2, 3, 4, 5, 6, 7, 8, 9, 10, 11, 12, 13, 14, 15, 16, 17, 18, 20, 21, 22], [0, 1, 2, 3, 4, 5, 6, 7, 8, 9, 10, 11, 12, 13, 14, 15, 16, 17, 18, 20, 21, 22, 23], [0, 1, 2, 3, 4, 5, 6, 7, 8, 9, 10, 11, 12, 13, 14, 15, 16, 17, 18, 19, 20, 21, 22, 23, 24], [0, 1, 2, 3, 4, 5, 6, 7, 8, 9, 10, 11, 12, 13, 14, 15, 16, 17, 18, 19, 20, 21, 22, 23, 24, 25], [0, 1, 2, 3, 4, 5, 6, 7, 8, 9, 10, 11, 12, 13, 14, 15, 16, 17, 18, 19, 20, 21, 22, 23, 24, 25, 26]] [Fct.data (aa : Val), Fct.eqv (.int .i64 ab), Fct.eqv (.bool (ab == 5)), Fct.eqv (.bool (ab == 5)), Fct.data (aa : Val), Fct.eqv (.int .i64 ac), Fct.eqv (.bool (ac == 3)), Fct.eqv (.bool (ac == 3)), Fct.eqv (.bool (ac == 3)), Fct.eqv undef, Fct.eqv undef, Fct.eqv undef, Fct.eqv (.bool false), Fct.eqv (.bool false), Fct.eqv undef, Fct.eqv undef, Fct.eqv undef, Fct.eqv (.bool false), Fct.eqv (.bool false), Fct.eqv undef, Fct.eqv undef, Fct.eqv undef, Fct.eqv undef, Fct.eqv undef, Fct.eqv undef, Fct.eqv undef, Fct.eqv (.bool false), Fct.eqv (.bool false)] (fun D F τ => (Blk s0.N 2 τ ar 27 (Val.cs aa ah ai aj ak al am an ao)) ∧ (Own s0.N 1 27 τ [r1, aB] aC aD)) (by kernel_rfl) rfl (by decide) (by decide) ⟨(aI.ext (ext_draw _)), ((((aE.ext aF).ext ad).mod ae rfl).ext (ext_draw _))⟩ (by decide) (by decide) ⟨?_, ?_, ?_, ?_, ?_, ?_, ?_, ?_, ?_, ?_, ?_, ?_, ?_, ?_, ?_, ?_, ?_, ?_, ?_, ?_, ?_, ?_, ?_, ?_, ?_, ?_, ?_, ?_, trivial⟩ ?_
  ·intro F4 F5 F6 F7 F8 F9 Ga bh oq ot Gb
   obtain ⟨cx, ou⟩ := oq
   have ov := cx
   refine r_load ar 0 (Val.ag aa ah ai aj ak al am an ao) ((ot 1 rfl).trans rfl) rfl (loads_row tr27 (Blk.range ov 0 (Val.cs aa ah ai aj ak al am an ao) rfl)) ?_
   exact d0 ⟨(Val.rpvMk (v := aa) (((aw.mono ad.wext).mono ae.wext).mono bh) (((ax.mono ad.wext).mono ae.wext).mono bh) (((ay.mono ad.wext).mono ae.wext).mono bh) (((az.mono ad.wext).mono ae.wext).mono bh)), ⟨cx, ou⟩⟩
  ·intro Gc ow ox Gd Ge Gf oy Gg oz Gh oA
   have oB := ap.trans oy
   obtain ⟨oC, oD⟩ := oz
   have oE : RpV ox (aa : Val) (ow 6) := oA 0 rfl 6 rfl
   obtain ⟨oF, oG, oH, oI, oJ, oK, oL, oM, oN, oO, oP, oQ, oR⟩ := Val.rpv oE
   refine r_call [Val.ag aa oF oG oH oI oJ oK oL oM] (evs1 oN) rfl ((ok_value_Nodes fuel) _ _ _ _ (Val.rpvMk (v := aa) oO oP oQ oR) aJ) ?_
   intro Gi Gj bi oS
   obtain rfl := RpV.int oS
   refine j0 ?_
   exact ⟨_, _, rfl, rfl, (ExtB.refl _ _).trans (bi.mono oB.size), (Wext.refl _).trans bi.wext, rfl, ⟨(oC.ext bi), (oD.ext bi)⟩⟩
  ·intro Gk Gl Gm Gn Gp Gq Gr Gs oT Gt oU
   obtain ⟨oV, oW⟩ := oT
   refine r_bin (.int .i64 ab) (.int .i64 5) (.bool (ab == 5)) (oU 1 rfl 7 rfl) rfl rfl rfl (b_eql) ?_
   exact d0 ⟨rfl, ⟨oV, oW⟩⟩
  ·intro Gu Gv Gw Gx Gy Gz GA GB oX GC oY
   obtain ⟨oZ, o0⟩ := oX
   refine r_move (.bool (ab == 5)) (oY 2 rfl 8 rfl) rfl ?_
   exact d0 ⟨rfl, ⟨oZ, o0⟩⟩
  ·intro GD GE GF GG GH GI GJ bj o1 o2 o3
   obtain ⟨cy, o4⟩ := o1
   have o5 := cy
   refine Or.inr ⟨(ab == 5), (fun d hd => by cases hd; exact (o3 3 rfl 9 rfl)), fun _ => ?_, fun h => absurd (aq : (ab == 5) = true) h⟩
   refine r_load ar 0 (Val.ag aa ah ai aj ak al am an ao) ((o2 1 rfl).trans rfl) rfl (loads_row tr27 (Blk.range o5 0 (Val.cs aa ah ai aj ak al am an ao) rfl)) ?_
   exact d0 ⟨(Val.rpvMk (v := aa) (((aw.mono ad.wext).mono ae.wext).mono bj) (((ax.mono ad.wext).mono ae.wext).mono bj) (((ay.mono ad.wext).mono ae.wext).mono bj) (((az.mono ad.wext).mono ae.wext).mono bj)), ⟨cy, o4⟩⟩
  ·intro GK o6 o7 GL GM GN o8 GO o9 GP cz
   have pa := ap.trans o8
   obtain ⟨pb, pc⟩ := o9
   have pd : RpV o7 (aa : Val) (o6 10) := cz 4 rfl 10 rfl
   obtain ⟨pe, pf, pg, ph, pi, pj, pk, pl, pm, pn, po, pp, pq⟩ := Val.rpv pd
   refine Or.inr ⟨(ab == 5), (fun d hd => by cases hd; exact (cz 3 rfl 9 rfl)), fun _ => ?_, fun h => absurd (aq : (ab == 5) = true) h⟩
   refine r_call [Val.ag aa pe pf pg ph pi pj pk pl] (evs1 pm) rfl ((ok_value_Height fuel) _ _ _ _ (Val.rpvMk (v := aa) pn po pp pq) aP) ?_
   intro GQ GR bk pr
   obtain rfl := RpV.int pr
   refine j0 ?_
   exact ⟨_, _, rfl, rfl, (ExtB.refl _ _).trans (bk.mono pa.size), (Wext.refl _).trans bk.wext, rfl, ⟨(pb.ext bk), (pc.ext bk)⟩⟩
  ·intro GS GT GU GV GW GX GY GZ ps G0 cA
   obtain ⟨pt, pu⟩ := ps
   refine Or.inr ⟨(ab == 5), (fun d hd => by cases hd; exact (cA 3 rfl 9 rfl)), fun _ => ?_, fun h => absurd (aq : (ab == 5) = true) h⟩
   refine r_bin (.int .i64 ac) (.int .i64 3) (.bool (ac == 3)) (cA 5 rfl 11 rfl) rfl rfl rfl (b_eql) ?_
   exact d0 ⟨rfl, ⟨pt, pu⟩⟩
  ·intro G1 G2 G3 G4 G5 G6 G7 G8 pv G9 cB
   obtain ⟨pw, px⟩ := pv
   refine r_pick_t (c := (ab == 5)) (.bool (ac == 3)) (cB 3 rfl 9 rfl) aq (cB 6 rfl 12 rfl) rfl rfl rfl ?_
   exact d0 ⟨rfl, ⟨pw, px⟩⟩
  ·intro Ha Hb Hc Hd He Hf Hg Hh py Hi pz
   obtain ⟨pA, pB⟩ := py
   refine r_move (.bool (ac == 3)) (pz 7 rfl 13 rfl) rfl ?_
   exact d0 ⟨rfl, ⟨pA, pB⟩⟩
  ·intro Hj Hk Hl Hm Hn Ho Hp Hq pC Hr pD
   obtain ⟨pE, pF⟩ := pC
   refine Or.inr ⟨(ac == 3), (fun d hd => by cases hd; exact (pD 8 rfl 14 rfl)), fun h => Bool.noConfusion (Eq.trans (Eq.symm (au : (ac == 3) = false)) h), fun _ => ⟨rfl, ?_⟩⟩
   exact ⟨pE, pF⟩
  ·intro Hs pG Ht Hu Hv Hw Hx Hy pH Hz cC
   obtain ⟨pI, pJ⟩ := pH
   have HA : pG 15 = undef := cC 9 rfl 15 rfl
   refine Or.inr ⟨(ac == 3), (fun d hd => by cases hd; exact (cC 8 rfl 14 rfl)), fun h => Bool.noConfusion (Eq.trans (Eq.symm (au : (ac == 3) = false)) h), fun _ => ⟨rfl, ?_⟩⟩
   exact ⟨pI, pJ⟩
  ·intro HB pK HC HD HE HF HG HH pL HI cD
   obtain ⟨pM, pN⟩ := pL
   have HJ : pK 16 = undef := cD 10 rfl 16 rfl
   refine Or.inr ⟨(ac == 3), (fun d hd => by cases hd; exact (cD 8 rfl 14 rfl)), fun h => Bool.noConfusion (Eq.trans (Eq.symm (au : (ac == 3) = false)) h), fun _ => ⟨rfl, ?_⟩⟩
   exact ⟨pM, pN⟩
  ·intro HK pO HL HM HN HO HP HQ pP HR cE
   obtain ⟨pQ, pR⟩ := pP
   have HS : pO 17 = undef := cE 11 rfl 17 rfl
   refine r_pick_f (c := (ac == 3)) (.bool false) (cE 8 rfl 14 rfl) au rfl rfl rfl rfl ?_
   exact d0 ⟨rfl, ⟨pQ, pR⟩⟩
  ·intro HT HU HV HW HX HY HZ H0 pS H1 pT
   obtain ⟨pU, pV⟩ := pS
   refine r_move (.bool false) (pT 12 rfl 18 rfl) rfl ?_
   exact d0 ⟨rfl, ⟨pU, pV⟩⟩
  ·intro H2 H3 H4 H5 H6 H7 H8 H9 pW Ia pX
   obtain ⟨pY, pZ⟩ := pW
   refine Or.inr ⟨false, (fun d hd => by cases hd; exact (pX 13 rfl 19 rfl)), fun h => Bool.noConfusion (Eq.trans (Eq.symm (rfl : false = false)) h), fun _ => ⟨rfl, ?_⟩⟩
   exact ⟨pY, pZ⟩
  ·intro Ib p0 Ic Id Ie If Ig Ih p1 Ii cF
   obtain ⟨p2, p3⟩ := p1
   have Ij : p0 20 = undef := cF 14 rfl 20 rfl
   refine Or.inr ⟨false, (fun d hd => by cases hd; exact (cF 13 rfl 19 rfl)), fun h => Bool.noConfusion (Eq.trans (Eq.symm (rfl : false = false)) h), fun _ => ⟨rfl, ?_⟩⟩
   exact ⟨p2, p3⟩
  ·intro Ik p4 Il Im In Io Ip Iq p5 Ir cG
   obtain ⟨p6, p7⟩ := p5
   have Is : p4 21 = undef := cG 15 rfl 21 rfl
   refine Or.inr ⟨false, (fun d hd => by cases hd; exact (cG 13 rfl 19 rfl)), fun h => Bool.noConfusion (Eq.trans (Eq.symm (rfl : false = false)) h), fun _ => ⟨rfl, ?_⟩⟩
   exact ⟨p6, p7⟩
  ·intro It p8 Iu Iv Iw Ix Iy Iz p9 IA cH
   obtain ⟨qa, qb⟩ := p9
   have IB : p8 22 = undef := cH 16 rfl 22 rfl
   refine r_pick_f (c := false) (.bool false) (cH 13 rfl 19 rfl) rfl rfl rfl rfl rfl ?_
   exact d0 ⟨rfl, ⟨qa, qb⟩⟩
  ·intro IC ID IE IF IG IH II IJ qc IK qd
   obtain ⟨qe, qf⟩ := qc
   refine r_move (.bool false) (qd 17 rfl 23 rfl) rfl ?_
   exact d0 ⟨rfl, ⟨qe, qf⟩⟩
  ·intro IL IM IN IO IP IQ IR IS qg IT qh
   obtain ⟨qi, qj⟩ := qg
   refine Or.inr ⟨false, (fun d hd => by cases hd; exact (qh 18 rfl 24 rfl)), fun h => Bool.noConfusion (Eq.trans (Eq.symm (rfl : false = false)) h), fun _ => ⟨rfl, ?_⟩⟩
   exact ⟨qi, qj⟩
  ·intro IU IV IW IX IY IZ I0 I1 qk I2 ql
   obtain ⟨qm, qn⟩ := qk
   refine Or.inr ⟨false, (fun d hd => by cases hd; exact (ql 18 rfl 24 rfl)), fun h => Bool.noConfusion (Eq.trans (Eq.symm (rfl : false = false)) h), fun _ => ⟨rfl, ?_⟩⟩
   exact ⟨qm, qn⟩
  ·intro I3 I4 I5 I6 I7 I8 I9 Ja qo Jb qp
   obtain ⟨qq, qr⟩ := qo
   refine Or.inr ⟨false, (fun d hd => by cases hd; exact (qp 18 rfl 24 rfl)), fun h => Bool.noConfusion (Eq.trans (Eq.symm (rfl : false = false)) h), fun _ => ⟨rfl, ?_⟩⟩
   exact ⟨qq, qr⟩
  ·intro Jc Jd Je Jf Jg Jh Ji Jj qs Jk qt
   obtain ⟨qu, qv⟩ := qs
   refine Or.inr ⟨false, (fun d hd => by cases hd; exact (qt 18 rfl 24 rfl)), fun h => Bool.noConfusion (Eq.trans (Eq.symm (rfl : false = false)) h), fun _ => ⟨rfl, ?_⟩⟩
   exact ⟨qu, qv⟩
  ·intro Jl cI Jm Jn Jo Jp Jq Jr qw Js bx
   obtain ⟨qx, qy⟩ := qw
   have Jt : cI 27 = undef := bx 21 rfl 27 rfl
   have Ju : cI 28 = undef := bx 22 rfl 28 rfl
   refine Or.inr ⟨false, (fun d hd => by cases hd; exact (bx 18 rfl 24 rfl)), fun h => Bool.noConfusion (Eq.trans (Eq.symm (rfl : false = false)) h), fun _ => ⟨rfl, ?_⟩⟩
   exact ⟨qx, qy⟩
  ·intro Jv cJ Jw Jx Jy Jz JA JB qz JC bz
   obtain ⟨qA, qB⟩ := qz
   have JD : cJ 26 = undef := bz 20 rfl 26 rfl
   have JE : cJ 29 = undef := bz 23 rfl 29 rfl
   refine Or.inr ⟨false, (fun d hd => by cases hd; exact (bz 18 rfl 24 rfl)), fun h => Bool.noConfusion (Eq.trans (Eq.symm (rfl : false = false)) h), fun _ => ⟨rfl, ?_⟩⟩
   exact ⟨qA, qB⟩
  ·intro JF cK JG JH JI JJ JK JL qC JM bA
   obtain ⟨qD, qE⟩ := qC
   have JN : cK 25 = undef := bA 19 rfl 25 rfl
   have JO : cK 30 = undef := bA 24 rfl 30 rfl
   refine Or.inr ⟨false, (fun d hd => by cases hd; exact (bA 18 rfl 24 rfl)), fun h => Bool.noConfusion (Eq.trans (Eq.symm (rfl : false = false)) h), fun _ => ⟨rfl, ?_⟩⟩
   exact ⟨qD, qE⟩
  ·intro JP qF JQ JR JS JT JU JV qG JW cL
   obtain ⟨qH, qI⟩ := qG
   have JX : qF 31 = undef := cL 25 rfl 31 rfl
   refine r_pick_f (c := false) (.bool false) (cL 18 rfl 24 rfl) rfl rfl rfl rfl rfl ?_
   exact d0 ⟨rfl, ⟨qH, qI⟩⟩
  ·intro JY JZ J0 J1 J2 J3 J4 J5 qJ J6 qK
   obtain ⟨qL, qM⟩ := qJ
   refine r_assign (.bool false) (qK 26 rfl 32 rfl) rfl ?_
   exact d0 ⟨rfl, ⟨qL, qM⟩⟩
  intro J7 J8 qN J9 qO Ka qP
  have qQ := ap.trans qN
  obtain ⟨Kb, Kc⟩ := qO
  refine j1 (jb ?_)
  obtain rfl := Option.some.inj hf
  refine ret_one (.bool false) rfl ⟨rfl, (qP 27 0 rfl)⟩ qQ ?_
  exact (RpV.mkBool _ _)
 refine wp_draw (B := frExt s0.N) [some 6, some 7, some 8, some 9, some 10, some 11, some 12, some 13, some 14, some 15, some 16, some 17, some 18, some 19, some 20, some 21, some 22, some 23, some 24, some 25, some 26, some 27, some 28, some 29, some 30, some 31, some 32, some 0] [[], [0], [0, 1], [0, 1, 2], [0, 1, 2, 3], [0, 1, 2, 3, 4], [0, 1, 2, 3, 4, 5], [0, 1, 2, 3, 4, 5, 6], [0, 1, 2, 3, 4, 5, 6, 7], [0, 1, 2, 3, 4, 5, 6, 7, 8], [0, 1, 2, 3, 4, 5, 6, 7, 8, 9], [0, 1, 2, 3, 4, 5, 6, 7, 8, 9, 10], [0, 1, 2, 3, 4, 5, 6, 7, 8, 9, 10, 11], [0, 1, 2, 3, 4, 5, 6, 7, 8, 9, 10, 11, 12], [0, 1, 2, 3, 4, 5, 6, 7, 8, 9, 10, 11, 12, 13], [0, 1, 2, 3, 4, 5, 6, 7, 8, 9, 10, 11, 12, 13, 14], [0, 1, 2, 3, 4, 5, 6, 7, 8, 9, 10, 11, 12, 13, 14, 15], [0, 1, 2, 3, 4, 5, 6, 7, 8, 9, 10, 11, 12, 13, 14, 15, 16], [0, 1, 2, 3, 4, 5, 6, 7, 8, 9, 10, 11, 12, 13, 14, 15, 16, 17], [0, 1, 2, 3, 4, 5, 6, 7, 8, 9, 10, 11, 12, 13, 14, 15, 16, 17, 18], [0, 1, 2, 3, 4, 5, 6, 7, 8, 9, 10, 11, 12, 13, 14, 15, 16, 17, 18], [0, 1, 2, 3, 4, 5, 6, 7, 8, 9, 10, 11, 12, 13, 14, 15, 16, 17, 18, 20], [0, 1, 2, 3, 4, 5, 6, 7, 8, 9, 10, 11, 12, 13, 14, 15, 16, 17, 18, 20, 21], [0, 1, 2, 3, 4, 5, 6, 7, 8, 9, 10, 11, 12, 13, 14, 15, 16, 17, 18, 20, 21, 22], [0, 1, 2, 3, 4, 5, 6, 7, 8, 9, 10, 11, 12, 13, 14, 15, 16, 17, 18, 20, 21, 22, 23], [0, 1, 2, 3, 4, 5, 6, 7, 8, 9, 10, 11, 12, 13, 14, 15, 16, 17, 18, 19, 20, 21, 22, 23, 24], [0, 1, 2, 3, 4, 5, 6, 7, 8, 9, 10, 11, 12, 13, 14, 15, 16, 17, 18, 19, 20, 21, 22, 23, 24, 25], [0, 1, 2, 3, 4, 5, 6, 7, 8, 9, 10, 11, 12, 13, 14, 15, 16, 17, 18, 19, 20, 21, 22, 23, 24, 25, 26]] [Fct.data (aa : Val), Fct.eqv (.int .i64 ab), Fct.eqv (.bool (ab == 5)), Fct.eqv (.bool (ab == 5)), Fct.eqv undef, Fct.eqv undef, Fct.eqv undef, Fct.eqv (.bool false), Fct.eqv (.bool false), Fct.eqv undef, Fct.eqv undef, Fct.eqv undef, Fct.eqv (.bool false), Fct.eqv (.bool false), Fct.eqv undef, Fct.eqv undef, Fct.eqv undef, Fct.eqv (.bool false), Fct.eqv (.bool false), Fct.eqv undef, Fct.eqv undef, Fct.eqv undef, Fct.eqv undef, Fct.eqv undef, Fct.eqv undef, Fct.eqv undef, Fct.eqv (.bool false), Fct.eqv (.bool false)] (fun D F τ => (Blk s0.N 2 τ ar 27 (Val.cs aa ah ai aj ak al am an ao)) ∧ (Own s0.N 1 27 τ [r1, aB] aC aD)) (by kernel_rfl) rfl (by decide) (by decide) ⟨(aI.ext (ext_draw _)), ((((aE.ext aF).ext ad).mod ae rfl).ext (ext_draw _))⟩ (by decide) (by decide) ⟨?_, ?_, ?_, ?_, ?_, ?_, ?_, ?_, ?_, ?_, ?_, ?_, ?_, ?_, ?_, ?_, ?_, ?_, ?_, ?_, ?_, ?_, ?_, ?_, ?_, ?_, ?_, ?_, trivial⟩ ?_
 ·intro Kd Ke Kf Kg Kh Ki Kj bl qR qS Kk
  obtain ⟨cM, qT⟩ := qR
  have qU := cM
  refine r_load ar 0 (Val.ag aa ah ai aj ak al am an ao) ((qS 1 rfl).trans rfl) rfl (loads_row tr27 (Blk.range qU 0 (Val.cs aa ah ai aj ak al am an ao) rfl)) ?_
  exact d0 ⟨(Val.rpvMk (v := aa) (((aw.mono ad.wext).mono ae.wext).mono bl) (((ax.mono ad.wext).mono ae.wext).mono bl) (((ay.mono ad.wext).mono ae.wext).mono bl) (((az.mono ad.wext).mono ae.wext).mono bl)), ⟨cM, qT⟩⟩
 ·intro Kl qV qW Km Kn Ko qX Kp qY Kq qZ
  have q0 := ap.trans qX
  obtain ⟨q1, q2⟩ := qY
  have q3 : RpV qW (aa : Val) (qV 6) := qZ 0 rfl 6 rfl
  obtain ⟨q4, q5, q6, q7, q8, q9, ra, rb, rc, rd, re, rf, rg⟩ := Val.rpv q3
  refine r_call [Val.ag aa q4 q5 q6 q7 q8 q9 ra rb] (evs1 rc) rfl ((ok_value_Nodes fuel) _ _ _ _ (Val.rpvMk (v := aa) rd re rf rg) aJ) ?_
  intro Kr Ks bm rh
  obtain rfl := RpV.int rh
  refine j0 ?_
  exact ⟨_, _, rfl, rfl, (ExtB.refl _ _).trans (bm.mono q0.size), (Wext.refl _).trans bm.wext, rfl, ⟨(q1.ext bm), (q2.ext bm)⟩⟩
 ·intro Kt Ku Kv Kw Kx Ky Kz KA ri KB rj
  obtain ⟨rk, rl⟩ := ri
  refine r_bin (.int .i64 ab) (.int .i64 5) (.bool (ab == 5)) (rj 1 rfl 7 rfl) rfl rfl rfl (b_eql) ?_
  exact d0 ⟨rfl, ⟨rk, rl⟩⟩
 ·intro KC KD KE KF KG KH KI KJ rm KK rn
  obtain ⟨ro, rq⟩ := rm
  refine r_move (.bool (ab == 5)) (rn 2 rfl 8 rfl) rfl ?_
  exact d0 ⟨rfl, ⟨ro, rq⟩⟩
 ·intro KL KM KN KO KP KQ KR KS rr KT rs
  obtain ⟨rt, ru⟩ := rr
  refine Or.inr ⟨(ab == 5), (fun d hd => by cases hd; exact (rs 3 rfl 9 rfl)), fun h => Bool.noConfusion (Eq.trans (Eq.symm (aq : (ab == 5) = false)) h), fun _ => ⟨rfl, ?_⟩⟩
  exact ⟨rt, ru⟩
 ·intro KU rv KV KW KX KY KZ K0 rw K1 cN
  obtain ⟨rx, ry⟩ := rw
  have K2 : rv 10 = undef := cN 4 rfl 10 rfl
  refine Or.inr ⟨(ab == 5), (fun d hd => by cases hd; exact (cN 3 rfl 9 rfl)), fun h => Bool.noConfusion (Eq.trans (Eq.symm (aq : (ab == 5) = false)) h), fun _ => ⟨rfl, ?_⟩⟩
  exact ⟨rx, ry⟩
 ·intro K3 rz K4 K5 K6 K7 K8 K9 rA La cO
  obtain ⟨rB, rC⟩ := rA
  have Lb : rz 11 = undef := cO 5 rfl 11 rfl
  refine Or.inr ⟨(ab == 5), (fun d hd => by cases hd; exact (cO 3 rfl 9 rfl)), fun h => Bool.noConfusion (Eq.trans (Eq.symm (aq : (ab == 5) = false)) h), fun _ => ⟨rfl, ?_⟩⟩
  exact ⟨rB, rC⟩
 ·intro Lc rD Ld Le Lf Lg Lh Li rE Lj cP
  obtain ⟨rF, rG⟩ := rE
  have Lk : rD 12 = undef := cP 6 rfl 12 rfl
  refine r_pick_f (c := (ab == 5)) (.bool false) (cP 3 rfl 9 rfl) aq rfl rfl rfl rfl ?_
  exact d0 ⟨rfl, ⟨rF, rG⟩⟩
 ·intro Ll Lm Ln Lo Lp Lq Lr Ls rH Lt rI
  obtain ⟨rJ, rK⟩ := rH
  refine r_move (.bool false) (rI 7 rfl 13 rfl) rfl ?_
  exact d0 ⟨rfl, ⟨rJ, rK⟩⟩
 ·intro Lu Lv Lw Lx Ly Lz LA LB rL LC rM
  obtain ⟨rN, rO⟩ := rL
  refine Or.inr ⟨false, (fun d hd => by cases hd; exact (rM 8 rfl 14 rfl)), fun h => Bool.noConfusion (Eq.trans (Eq.symm (rfl : false = false)) h), fun _ => ⟨rfl, ?_⟩⟩
  exact ⟨rN, rO⟩
 ·intro LD rP LE LF LG LH LI LJ rQ LK cQ
  obtain ⟨rR, rS⟩ := rQ
  have LL : rP 15 = undef := cQ 9 rfl 15 rfl
  refine Or.inr ⟨false, (fun d hd => by cases hd; exact (cQ 8 rfl 14 rfl)), fun h => Bool.noConfusion (Eq.trans (Eq.symm (rfl : false = false)) h), fun _ => ⟨rfl, ?_⟩⟩
  exact ⟨rR, rS⟩
 ·intro LM rT LN LO LP LQ LR LS rU LT cR
  obtain ⟨rV, rW⟩ := rU
  have LU : rT 16 = undef := cR 10 rfl 16 rfl
  refine Or.inr ⟨false, (fun d hd => by cases hd; exact (cR 8 rfl 14 rfl)), fun h => Bool.noConfusion (Eq.trans (Eq.symm (rfl : false = false)) h), fun _ => ⟨rfl, ?_⟩⟩
  exact ⟨rV, rW⟩
 ·intro LV rX LW LX LY LZ L0 L1 rY L2 cS
  obtain ⟨rZ, r0⟩ := rY
  have L3 : rX 17 = undef := cS 11 rfl 17 rfl
  refine r_pick_f (c := false) (.bool false) (cS 8 rfl 14 rfl) rfl rfl rfl rfl rfl ?_
  exact d0 ⟨rfl, ⟨rZ, r0⟩⟩
 ·intro L4 L5 L6 L7 L8 L9 Ma Mb r2 Mc r3
  obtain ⟨r4, r5⟩ := r2
  refine r_move (.bool false) (r3 12 rfl 18 rfl) rfl ?_
  exact d0 ⟨rfl, ⟨r4, r5⟩⟩
 ·intro Md Me Mf Mg Mh Mi Mj Mk r6 Ml r7
  obtain ⟨r8, r9⟩ := r6
  refine Or.inr ⟨false, (fun d hd => by cases hd; exact (r7 13 rfl 19 rfl)), fun h => Bool.noConfusion (Eq.trans (Eq.symm (rfl : false = false)) h), fun _ => ⟨rfl, ?_⟩⟩
  exact ⟨r8, r9⟩
 ·intro Mm sa Mn Mo Mp Mq Mr Ms sb Mt cT
  obtain ⟨sc, sd⟩ := sb
  have Mu : sa 20 = undef := cT 14 rfl 20 rfl
  refine Or.inr ⟨false, (fun d hd => by cases hd; exact (cT 13 rfl 19 rfl)), fun h => Bool.noConfusion (Eq.trans (Eq.symm (rfl : false = false)) h), fun _ => ⟨rfl, ?_⟩⟩
  exact ⟨sc, sd⟩
 ·intro Mv se Mw Mx My Mz MA MB sf MC cU
  obtain ⟨sg, sh⟩ := sf
  have MD : se 21 = undef := cU 15 rfl 21 rfl
  refine Or.inr ⟨false, (fun d hd => by cases hd; exact (cU 13 rfl 19 rfl)), fun h => Bool.noConfusion (Eq.trans (Eq.symm (rfl : false = false)) h), fun _ => ⟨rfl, ?_⟩⟩
  exact ⟨sg, sh⟩
 ·intro ME si MF MG MH MI MJ MK sj ML cV
  obtain ⟨sk, sl⟩ := sj
  have MM : si 22 = undef := cV 16 rfl 22 rfl
  refine r_pick_f (c := false) (.bool false) (cV 13 rfl 19 rfl) rfl rfl rfl rfl rfl ?_
  exact d0 ⟨rfl, ⟨sk, sl⟩⟩
 ·intro MN MO MP MQ MR MS MT MU sm MV sn
  obtain ⟨so, sp⟩ := sm
  refine r_move (.bool false) (sn 17 rfl 23 rfl) rfl ?_
  exact d0 ⟨rfl, ⟨so, sp⟩⟩
 ·intro MW MX MY MZ M0 M1 M2 M3 sq M4 sr
  obtain ⟨ss, st⟩ := sq
  refine Or.inr ⟨false, (fun d hd => by cases hd; exact (sr 18 rfl 24 rfl)), fun h => Bool.noConfusion (Eq.trans (Eq.symm (rfl : false = false)) h), fun _ => ⟨rfl, ?_⟩⟩
  exact ⟨ss, st⟩
 ·intro M5 M6 M7 M8 M9 Na Nb Nc su Nd sv
  obtain ⟨sw, sx⟩ := su
  refine Or.inr ⟨false, (fun d hd => by cases hd; exact (sv 18 rfl 24 rfl)), fun h => Bool.noConfusion (Eq.trans (Eq.symm (rfl : false = false)) h), fun _ => ⟨rfl, ?_⟩⟩
  exact ⟨sw, sx⟩
 ·intro Ne Nf Ng Nh Ni Nj Nk Nl sy Nm sA
  obtain ⟨sB, sC⟩ := sy
  refine Or.inr ⟨false, (fun d hd => by cases hd; exact (sA 18 rfl 24 rfl)), fun h => Bool.noConfusion (Eq.trans (Eq.symm (rfl : false = false)) h), fun _ => ⟨rfl, ?_⟩⟩
  exact ⟨sB, sC⟩
 ·intro Nn No Np Nq Nr Ns Nt Nu sD Nv sE
  obtain ⟨sF, sG⟩ := sD
  refine Or.inr ⟨false, (fun d hd => by cases hd; exact (sE 18 rfl 24 rfl)), fun h => Bool.noConfusion (Eq.trans (Eq.symm (rfl : false = false)) h), fun _ => ⟨rfl, ?_⟩⟩
  exact ⟨sF, sG⟩
 ·intro Nw cW Nx Ny Nz NA NB NC sH ND bB
  obtain ⟨sI, sJ⟩ := sH
  have NE : cW 27 = undef := bB 21 rfl 27 rfl
  have NF : cW 28 = undef := bB 22 rfl 28 rfl
  refine Or.inr ⟨false, (fun d hd => by cases hd; exact (bB 18 rfl 24 rfl)), fun h => Bool.noConfusion (Eq.trans (Eq.symm (rfl : false = false)) h), fun _ => ⟨rfl, ?_⟩⟩
  exact ⟨sI, sJ⟩
 ·intro NG cX NH NI NJ NK NL NM sK NN bC
  obtain ⟨sL, sM⟩ := sK
  have NO : cX 26 = undef := bC 20 rfl 26 rfl
  have NP : cX 29 = undef := bC 23 rfl 29 rfl
  refine Or.inr ⟨false, (fun d hd => by cases hd; exact (bC 18 rfl 24 rfl)), fun h => Bool.noConfusion (Eq.trans (Eq.symm (rfl : false = false)) h), fun _ => ⟨rfl, ?_⟩⟩
  exact ⟨sL, sM⟩
 ·intro NQ cY NR NS NT NU NV NW sN NX bD
  obtain ⟨sO, sP⟩ := sN
  have NY : cY 25 = undef := bD 19 rfl 25 rfl
  have NZ : cY 30 = undef := bD 24 rfl 30 rfl
  refine Or.inr ⟨false, (fun d hd => by cases hd; exact (bD 18 rfl 24 rfl)), fun h => Bool.noConfusion (Eq.trans (Eq.symm (rfl : false = false)) h), fun _ => ⟨rfl, ?_⟩⟩
  exact ⟨sO, sP⟩
 ·intro N0 sQ N1 N2 N3 N4 N5 N6 sR N7 cZ
  obtain ⟨sS, sT⟩ := sR
  have N8 : sQ 31 = undef := cZ 25 rfl 31 rfl
  refine r_pick_f (c := false) (.bool false) (cZ 18 rfl 24 rfl) rfl rfl rfl rfl rfl ?_
  exact d0 ⟨rfl, ⟨sS, sT⟩⟩
 ·intro N9 Oa Ob Oc Od Oe Of Og sU Oh sV
  obtain ⟨sW, sX⟩ := sU
  refine r_assign (.bool false) (sV 26 rfl 32 rfl) rfl ?_
  exact d0 ⟨rfl, ⟨sW, sX⟩⟩
 intro Oi Oj sY Ok sZ Ol s1
 have s2 := ap.trans sY
 obtain ⟨Om, On⟩ := sZ
 refine j1 (jb ?_)
 obtain rfl := Option.some.inj hf
 refine ret_one (.bool false) rfl ⟨rfl, (s1 27 0 rfl)⟩ s2 ?_
 exact (RpV.mkBool _ _)

def S_semtyperef1_Nil (f : (Option Val)) : Prop := ∀ (s0 : S) (r : Val), f = some r → Ctr Go.Proofs.Try.prog 55 [] s0 (fun v τ => RpV τ r v)

set_option maxHeartbeats 1600000 in
set_option maxRecDepth 100000 in
theorem ok_semtyperef1_Nil : S_semtyperef1_Nil semtyperef1_Nil := by
 intro s0 r hf
 unfold semtyperef1_Nil at hf
 have E0 : ExtB s0.N s0 s0 := ExtB.refl _ _
 refine ctr_of 2 Go.Proofs.Try.func55 rfl rfl rfl rfl ?_
 refine j2 (j3 ?_)
 refine r_alloc (B := s0.N) 1 E0.size _ [.int .i64 0, .int .i64 0, .string (⟨#[]⟩), nl Val, nl Key, nl Ent, nl ByteArray] ti27 rfl ?_
 intro s2 b1 k3 hb4
 have E5 := E0.x k3
 refine j0 (j1 (j2 (j3 ?_)))
 refine r_build tst27 [(0, .int .i64 5)] [.int .i64 5, .int .i64 0, .string (⟨#[]⟩), nl Val, nl Key, nl Ent, nl ByteArray] (eps_cons rfl eps_nil) rfl rfl ?_
 refine r_store hb4 0 (.agg #[.int .i64 5, .int .i64 0, .string (⟨#[]⟩), nl Val, nl Key, nl Ent, nl ByteArray]) [.int .i64 5, .int .i64 0, .string (⟨#[]⟩), nl Val, nl Key, nl Ent, nl ByteArray] [.int .i64 5, .int .i64 0, .string (⟨#[]⟩), nl Val, nl Key, nl Ent, nl ByteArray] rfl rfl rfl rfl rfl sz27 rfl rfl rfl ?_
 intro s6 hm7 hb8
 have E9 := E5.y hm7
 refine j0 (j1 (jb ?_))
 obtain rfl := Option.some.inj hf
 refine ret_one (.agg #[.int .i64 5, .int .i64 0, .string (⟨#[]⟩), nl Val, nl Key, nl Ent, nl ByteArray]) rfl ⟨rfl, _, rfl, loads_row tr27 (Blk.range hb8 0 [.int .i64 5, .int .i64 0, .string (⟨#[]⟩), nl Val, nl Key, nl Ent, nl ByteArray] rfl)⟩ E9 ?_
 exact (Val.rpvMk (v := (Val.mk 5 0 (⟨#[]⟩) ([] : List Val) ([] : List Key) ([] : List Ent) ([] : List ByteArray))) (Sl.nil_ _ _ _ (Nat.zero_le _)) (Sl.nil_ _ _ _ (Nat.zero_le _)) (Sl.nil_ _ _ _ (Nat.zero_le _)) (Sl.nil_ _ _ _ (Nat.zero_le _)))

end Go.Sx
