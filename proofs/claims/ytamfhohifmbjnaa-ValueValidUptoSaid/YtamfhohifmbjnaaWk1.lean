/- Printed by dec.py. The walks. -/
import Derived.Test.YtamfhohifmbjnaaWk0
namespace Go.Sx
open Go Go.RowKit
attribute [local irreducible] Go.wpList Go.Code.wp Go.Sx.Ctr Go.Sx.CtrE
set_option maxHeartbeats 1600000
set_option maxRecDepth 100000
open Go.Proofs.Try

theorem ok_value_validNode (fuel : Nat) : S_value_validNode (value_validNode fuel) := by
 intro s0 v0 a0 r hp0 hf
 obtain ⟨A1, c2, A4, c5, A7, c8, ad, ae, rfl, h3, h6, h9, a6⟩ := Val.rpv hp0
 unfold value_validNode at hf
 have E0 : ExtB s0.N s0 s0 := ExtB.refl _ _
 refine ctr_of 124 func61 rfl rfl rfl rfl ?_
 refine j2 (j3 ?_)
 refine r_box (B := s0.N) 1 E0.size (Val.ag a0 A1 c2 A4 c5 A7 c8 ad ae) (Val.cs a0 A1 c2 A4 c5 A7 c8 ad ae) rfl rfl rfl ?_
 intro _ ab aw aT
 have cf := E0.x aw
 refine r_assign (bv false) rfl rfl ?_
 refine j0 (j1 (j2 (j3 ?_)))
 refine r_fieldAddr ab 0 0 0 rfl rfl fo27_0 rfl ?_
 refine r_load ab 0 (iv a0.Kind) rfl rfl (loads_one to3 ((aT.cell 0).trans rfl)) ?_
 obtain ⟨aa, cg, hf⟩ := bind_some hf
 refine r_call [iv a0.Kind] (evs1 rfl) rfl (ok_value_uses _ _ _ _ (RpV.mkInt _ _) cg) ?_
 intro _ _ ah ch
 have bF := cf.x ah
 obtain ⟨_, _, rfl, ci, cj⟩ := ch
 obtain rfl := Value_used.rpv ci
 obtain rfl := RpV.bool cj
 refine r_move (.tuple #[Value_used.ag aa.1, bv aa.2]) rfl rfl ?_
 refine r_extract [Value_used.ag aa.1, bv aa.2] (Value_used.ag aa.1) rfl rfl rfl ?_
 refine r_extract [Value_used.ag aa.1, bv aa.2] (bv aa.2) rfl rfl rfl ?_
 refine r_alloc (B := s0.N) 2 bF.size _ [bv false, bv false, bv false, bv false, bv false] ti87 rfl ?_
 intro _ af ai ck
 have cl := bF.x ai
 refine r_store ck 0 (Value_used.ag aa.1) (Value_used.cs aa.1) (Value_used.cs aa.1) rfl rfl rfl rfl rfl sz87 rfl rfl rfl ?_
 intro _ aj a7
 have bG := cl.y aj
 refine r_assign (bv aa.2) rfl rfl ?_
 refine j0 (j1 (j2 (j2 (j3 ?_))))
 refine r_move (bv aa.2) rfl rfl ?_
 refine r_un (bv aa.2) (bv (!aa.2)) rfl rfl u_not ?_
 refine r_move (bv (!aa.2)) rfl rfl ?_
 refine if_else hf (fun ax hf => ?_) (fun ax hf => ?_)
 ·refine r_skip (j := 2) (want := false) (d := 13) (c := !aa.2) (v := true) rfl rfl ax rfl rfl ?_
  refine r_skip (j := 2) (want := false) (d := 13) (c := !aa.2) (v := true) rfl rfl ax rfl rfl ?_
  refine r_skip (j := 2) (want := false) (d := 13) (c := !aa.2) (v := true) rfl rfl ax rfl rfl ?_
  refine r_skip (j := 2) (want := false) (d := 13) (c := !aa.2) (v := true) rfl rfl ax rfl rfl ?_
  refine r_pick_t (c := !aa.2) (bv true) rfl ax rfl rfl rfl rfl ?_
  refine j0 (j1 ?_)
  refine c_true rfl rfl rfl ?_
  refine j2 (j3 ?_)
  refine r_assign (bv false) rfl rfl ?_
  refine j0 (j1 (jb (j9 ?_)))
  obtain rfl := oi hf
  refine ret_one (bv false) rfl ⟨rfl, rfl⟩ bG ?_
  exact (RpV.mkBool _ _)
 refine r_guard (j := 2) (want := false) (d := 13) (c := !aa.2) (v := false) rfl rfl ax rfl rfl ?_
 refine r_fieldAddr ab 0 6 6 rfl rfl fo27_6 rfl ?_
 refine r_guard (j := 2) (want := false) (d := 13) (c := !aa.2) (v := false) rfl rfl ax rfl rfl ?_
 refine r_load ab 6 (lv ad a0.Labels.length ae) rfl rfl (loads_one to25 (((((aT.ext ah).ext ai).mod aj rfl).cell 6).trans rfl)) ?_
 refine r_guard (j := 2) (want := false) (d := 13) (c := !aa.2) (v := false) rfl rfl ax rfl rfl ?_
 obtain ⟨a8, cm, hf⟩ := bind_some hf
 refine r_call [lv ad a0.Labels.length ae] (evs1 rfl) rfl (ok_value_validLabels _ _ _ _ (RpV.mkList ((((a6.mono aw.wext).mono ah.wext).mono ai.wext).mono aj.wext)) cm) ?_
 intro _ cn ag co
 have a9 := bG.x ag
 obtain rfl := RpV.bool co
 refine r_guard (j := 2) (want := false) (d := 13) (c := !aa.2) (v := false) rfl rfl ax rfl rfl ?_
 refine r_un (bv a8) (bv (!a8)) rfl rfl u_not ?_
 refine r_pick_f (c := !aa.2) (bv (!a8)) rfl ax rfl rfl rfl rfl ?_
 refine j0 (j1 ?_)
 refine if_else hf (fun ba hf => ?_) (fun ba hf => ?_)
 ·refine c_true rfl ba rfl ?_
  refine j2 (j3 ?_)
  refine r_assign (bv false) rfl rfl ?_
  refine j0 (j1 (jb (j9 ?_)))
  obtain rfl := oi hf
  refine ret_one (bv false) rfl ⟨rfl, rfl⟩ a9 ?_
  exact (RpV.mkBool _ _)
 refine c_false rfl ba rfl ?_
 refine ja (j1 (j2 (j2 (j3 ?_))))
 refine r_fieldAddr af 0 0 0 rfl rfl fo87_0 rfl ?_
 refine r_load af 0 (bv aa.1.number) rfl rfl (loads_one to4 (((a7.ext ag).cell 0).trans rfl)) ?_
 refine r_un (bv aa.1.number) (bv (!aa.1.number)) rfl rfl u_not ?_
 refine r_move (bv (!aa.1.number)) rfl rfl ?_
 refine gen_FL fun aU bb => ?_
 have bH : aU 1 = (.pointer (some ⟨ab, 0, none⟩)) := (bb 1).trans rfl
 have cp : aU 3 = (.pointer (some ⟨af, 0, none⟩)) := (bb 3).trans rfl
 have aR : aU 22 = (bv (!aa.1.number)) := (bb 22).trans rfl
 obtain ⟨ak, hq54, hf⟩ := bind_some hf
 refine wpl_take 4 (J := fun a w => ∃ (F : Fr) (τ : S), a = fr 124 F ∧ w = τ.w ∧ Agr [23, 24, 25, 26] F aU ∧ ExtB s0.N s0 τ ∧ Wext cn τ ∧ F 26 = (bv ak) ∧ Blk s0.N 1 τ ab 27 (Val.cs a0 A1 c2 A4 c5 A7 c8 ad ae) ∧ Blk s0.N 2 τ af 87 (Value_used.cs aa.1)) ?_ ?_
 ·have hf := hq54
  refine if_else hf (fun aP hf => ?_) (fun aP hf => ?_)
  ·refine r_guard (j := 3) (want := true) (d := 22) (c := !aa.1.number) (v := true) rfl aR aP rfl rfl ?_
   refine r_fieldAddr ab 0 1 1 bH rfl fo27_1 rfl ?_
   refine r_guard (j := 3) (want := true) (d := 22) (c := !aa.1.number) (v := true) rfl aR aP rfl rfl ?_
   refine r_load ab 1 (iv a0.Int_) rfl rfl (loads_one to2 ((((((aT.ext ah).ext ai).mod aj rfl).ext ag).cell 1).trans rfl)) ?_
   refine r_guard (j := 3) (want := true) (d := 22) (c := !aa.1.number) (v := true) rfl aR aP rfl rfl ?_
   refine r_bin (iv a0.Int_) (iv 0) (bv (a0.Int_ != 0)) rfl rfl rfl rfl (b_neq) ?_
   refine r_pick_t (c := !aa.1.number) (bv (a0.Int_ != 0)) aR aP rfl rfl rfl rfl ?_
   refine j0 ?_
   obtain rfl := oi hf
   exact ⟨rfl, _, _, rfl, rfl, (((((Agr.refl _ _).put rfl).put rfl).put rfl).put rfl), a9, (Wext.refl _), rfl, ((((aT.ext ah).ext ai).mod aj rfl).ext ag), (a7.ext ag)⟩
  refine r_skip (j := 3) (want := true) (d := 22) (c := !aa.1.number) (v := false) rfl aR aP rfl rfl ?_
  refine r_skip (j := 3) (want := true) (d := 22) (c := !aa.1.number) (v := false) rfl aR aP rfl rfl ?_
  refine r_skip (j := 3) (want := true) (d := 22) (c := !aa.1.number) (v := false) rfl aR aP rfl rfl ?_
  refine r_pick_f (c := !aa.1.number) (bv false) aR aP rfl rfl rfl rfl ?_
  refine j0 ?_
  obtain rfl := oi hf
  exact ⟨rfl, _, _, rfl, rfl, (((((Agr.refl _ _).put rfl).put rfl).put rfl).put rfl), a9, (Wext.refl _), rfl, ((((aT.ext ah).ext ai).mod aj rfl).ext ag), (a7.ext ag)⟩
 rintro a w ⟨dt, bI, rfl, rfl, bJ, bc, aF, cq, aV, aW⟩
 have cr := (bJ 1 rfl).trans bH
 have cs := (bJ 3 rfl).trans cp
 refine r_move (bv ak) cq rfl ?_
 refine gen_FL fun bK bd => ?_
 have bL := (bd 1).trans cr
 have bM := (bd 3).trans cs
 have ay : bK 27 = (bv ak) := (bd 27).trans rfl
 obtain ⟨al, hq74, hf⟩ := bind_some hf
 refine wpl_take 9 (J := fun a w => ∃ (F : Fr) (τ : S), a = fr 124 F ∧ w = τ.w ∧ Agr [28, 29, 30, 31, 32, 33, 34, 35, 36] F bK ∧ ExtB s0.N s0 τ ∧ Wext bI τ ∧ F 36 = (bv al) ∧ Blk s0.N 1 τ ab 27 (Val.cs a0 A1 c2 A4 c5 A7 c8 ad ae) ∧ Blk s0.N 2 τ af 87 (Value_used.cs aa.1)) ?_ ?_
 ·have hf := hq74
  refine if_else hf (fun ap hf => ?_) (fun ap hf => ?_)
  ·refine r_skip (j := 8) (want := false) (d := 27) (c := ak) (v := true) rfl ay ap rfl rfl ?_
   refine r_skip (j := 8) (want := false) (d := 27) (c := ak) (v := true) rfl ay ap rfl rfl ?_
   refine r_skip (j := 8) (want := false) (d := 27) (c := ak) (v := true) rfl ay ap rfl rfl ?_
   refine r_skip (j := 8) (want := false) (d := 27) (c := ak) (v := true) rfl ay ap rfl rfl ?_
   refine r_skipu (j := 12) (d := 31) rfl rfl rfl ?_
   refine r_skipu (j := 12) (d := 31) rfl rfl rfl ?_
   refine r_skipu (j := 12) (d := 31) rfl rfl rfl ?_
   refine r_skip (j := 8) (want := false) (d := 27) (c := ak) (v := true) rfl ay ap rfl rfl ?_
   refine r_pick_t (c := ak) (bv true) ay ap rfl rfl rfl rfl ?_
   refine j0 ?_
   obtain rfl := oi hf
   exact ⟨rfl, _, _, rfl, rfl, ((((((((((Agr.refl _ _).put rfl).put rfl).put rfl).put rfl).put rfl).put rfl).put rfl).put rfl).put rfl), bc, (Wext.refl _), rfl, aV, aW⟩
  refine r_guard (j := 8) (want := false) (d := 27) (c := ak) (v := false) rfl ay ap rfl rfl ?_
  refine r_fieldAddr af 0 1 1 bM rfl fo87_1 rfl ?_
  refine r_guard (j := 8) (want := false) (d := 27) (c := ak) (v := false) rfl ay ap rfl rfl ?_
  refine r_load af 1 (bv aa.1.text_) rfl rfl (loads_one to4 ((aW.cell 1).trans rfl)) ?_
  refine r_guard (j := 8) (want := false) (d := 27) (c := ak) (v := false) rfl ay ap rfl rfl ?_
  refine r_un (bv aa.1.text_) (bv (!aa.1.text_)) rfl rfl u_not ?_
  refine r_guard (j := 8) (want := false) (d := 27) (c := ak) (v := false) rfl ay ap rfl rfl ?_
  refine r_move (bv (!aa.1.text_)) rfl rfl ?_
  refine gen_FL fun bN aX => ?_
  have ct := (aX 1).trans bL
  have be := (aX 27).trans ay
  have aS : bN 31 = (bv (!aa.1.text_)) := (aX 31).trans rfl
  obtain ⟨bO, hq84, hf⟩ := bind_some hf
  refine wpl_take 4 (J := fun a w => ∃ (F : Fr) (τ : S), a = fr 124 F ∧ w = τ.w ∧ Agr [32, 33, 34, 35] F bN ∧ ExtB s0.N s0 τ ∧ Wext bI τ ∧ F 35 = (bv bO) ∧ Blk s0.N 1 τ ab 27 (Val.cs a0 A1 c2 A4 c5 A7 c8 ad ae) ∧ Blk s0.N 2 τ af 87 (Value_used.cs aa.1)) ?_ ?_
  ·have hf := hq84
   refine if_else hf (fun aQ hf => ?_) (fun aQ hf => ?_)
   ·refine r_guard (j := 12) (want := true) (d := 31) (c := !aa.1.text_) (v := true) rfl aS aQ rfl rfl ?_
    refine r_fieldAddr ab 0 2 2 ct rfl fo27_2 rfl ?_
    refine r_guard (j := 12) (want := true) (d := 31) (c := !aa.1.text_) (v := true) rfl aS aQ rfl rfl ?_
    refine r_load ab 2 (tv a0.Text) rfl rfl (loads_one to9 ((aV.cell 2).trans rfl)) ?_
    refine r_guard (j := 12) (want := true) (d := 31) (c := !aa.1.text_) (v := true) rfl aS aQ rfl rfl ?_
    refine r_bin (tv a0.Text) (tv (⟨#[]⟩)) (bv (!strEq a0.Text (⟨#[]⟩))) rfl rfl rfl rfl (b_sneq) ?_
    refine r_guard (j := 8) (want := false) (d := 27) (c := ak) (v := false) rfl be ap rfl rfl ?_
    refine r_pick_t (c := !aa.1.text_) (bv (!strEq a0.Text (⟨#[]⟩))) aS aQ rfl rfl rfl rfl ?_
    refine j0 ?_
    obtain rfl := oi hf
    exact ⟨rfl, _, _, rfl, rfl, (((((Agr.refl _ _).put rfl).put rfl).put rfl).put rfl), bc, (Wext.refl _), rfl, aV, aW⟩
   refine r_skip (j := 12) (want := true) (d := 31) (c := !aa.1.text_) (v := false) rfl aS aQ rfl rfl ?_
   refine r_skip (j := 12) (want := true) (d := 31) (c := !aa.1.text_) (v := false) rfl aS aQ rfl rfl ?_
   refine r_skip (j := 12) (want := true) (d := 31) (c := !aa.1.text_) (v := false) rfl aS aQ rfl rfl ?_
   refine r_guard (j := 8) (want := false) (d := 27) (c := ak) (v := false) rfl be ap rfl rfl ?_
   refine r_pick_f (c := !aa.1.text_) (bv false) aS aQ rfl rfl rfl rfl ?_
   refine j0 ?_
   obtain rfl := oi hf
   exact ⟨rfl, _, _, rfl, rfl, (((((Agr.refl _ _).put rfl).put rfl).put rfl).put rfl), bc, (Wext.refl _), rfl, aV, aW⟩
  rintro a w ⟨du, dv, rfl, rfl, bP, cu, cv, cw, cx, cy⟩
  have cz := (bP 27 rfl).trans be
  refine r_pick_f (c := ak) (bv bO) cz ap cw rfl rfl rfl ?_
  refine j0 ?_
  obtain rfl := oi hf
  exact ⟨rfl, _, _, rfl, rfl, ((((((((Agr.refl _ _).put rfl).put rfl).put rfl).put rfl).gen aX).loop bP rfl).put rfl), cu, ((Wext.refl _).trans cv), rfl, cx, cy⟩
 rintro a w ⟨dw, bQ, rfl, rfl, bR, bf, aG, cA, aY, aZ⟩
 have cB := (bR 1 rfl).trans bL
 have cC := (bR 3 rfl).trans bM
 refine r_move (bv al) cA rfl ?_
 refine gen_FL fun bS bg => ?_
 have bT := (bg 1).trans cB
 have bU := (bg 3).trans cC
 have az : bS 37 = (bv al) := (bg 37).trans rfl
 obtain ⟨am, hq116, hf⟩ := bind_some hf
 refine wpl_take 10 (J := fun a w => ∃ (F : Fr) (τ : S), a = fr 124 F ∧ w = τ.w ∧ Agr [38, 39, 40, 41, 42, 43, 44, 45, 46, 47] F bS ∧ ExtB s0.N s0 τ ∧ Wext bQ τ ∧ F 47 = (bv am) ∧ Blk s0.N 1 τ ab 27 (Val.cs a0 A1 c2 A4 c5 A7 c8 ad ae) ∧ Blk s0.N 2 τ af 87 (Value_used.cs aa.1)) ?_ ?_
 ·have hf := hq116
  refine if_else hf (fun aq hf => ?_) (fun aq hf => ?_)
  ·refine r_skip (j := 18) (want := false) (d := 37) (c := al) (v := true) rfl az aq rfl rfl ?_
   refine r_skip (j := 18) (want := false) (d := 37) (c := al) (v := true) rfl az aq rfl rfl ?_
   refine r_skip (j := 18) (want := false) (d := 37) (c := al) (v := true) rfl az aq rfl rfl ?_
   refine r_skip (j := 18) (want := false) (d := 37) (c := al) (v := true) rfl az aq rfl rfl ?_
   refine r_skipu (j := 22) (d := 41) rfl rfl rfl ?_
   refine r_skipu (j := 22) (d := 41) rfl rfl rfl ?_
   refine r_skipu (j := 22) (d := 41) rfl rfl rfl ?_
   refine r_skipu (j := 22) (d := 41) rfl rfl rfl ?_
   refine r_skip (j := 18) (want := false) (d := 37) (c := al) (v := true) rfl az aq rfl rfl ?_
   refine r_pick_t (c := al) (bv true) az aq rfl rfl rfl rfl ?_
   refine j0 ?_
   obtain rfl := oi hf
   exact ⟨rfl, _, _, rfl, rfl, (((((((((((Agr.refl _ _).put rfl).put rfl).put rfl).put rfl).put rfl).put rfl).put rfl).put rfl).put rfl).put rfl), bf, (Wext.refl _), rfl, aY, aZ⟩
  refine r_guard (j := 18) (want := false) (d := 37) (c := al) (v := false) rfl az aq rfl rfl ?_
  refine r_fieldAddr af 0 2 2 bU rfl fo87_2 rfl ?_
  refine r_guard (j := 18) (want := false) (d := 37) (c := al) (v := false) rfl az aq rfl rfl ?_
  refine r_load af 2 (bv aa.1.kids) rfl rfl (loads_one to4 ((aZ.cell 2).trans rfl)) ?_
  refine r_guard (j := 18) (want := false) (d := 37) (c := al) (v := false) rfl az aq rfl rfl ?_
  refine r_un (bv aa.1.kids) (bv (!aa.1.kids)) rfl rfl u_not ?_
  refine r_guard (j := 18) (want := false) (d := 37) (c := al) (v := false) rfl az aq rfl rfl ?_
  refine r_move (bv (!aa.1.kids)) rfl rfl ?_
  refine gen_FL fun bV a1 => ?_
  have cD := (a1 1).trans bT
  have bh := (a1 37).trans az
  have aH : bV 41 = (bv (!aa.1.kids)) := (a1 41).trans rfl
  obtain ⟨bW, hq126, hf⟩ := bind_some hf
  refine wpl_take 5 (J := fun a w => ∃ (F : Fr) (τ : S), a = fr 124 F ∧ w = τ.w ∧ Agr [42, 43, 44, 45, 46] F bV ∧ ExtB s0.N s0 τ ∧ Wext bQ τ ∧ F 46 = (bv bW) ∧ Blk s0.N 1 τ ab 27 (Val.cs a0 A1 c2 A4 c5 A7 c8 ad ae) ∧ Blk s0.N 2 τ af 87 (Value_used.cs aa.1)) ?_ ?_
  ·have hf := hq126
   refine if_else hf (fun aA hf => ?_) (fun aA hf => ?_)
   ·refine r_guard (j := 22) (want := true) (d := 41) (c := !aa.1.kids) (v := true) rfl aH aA rfl rfl ?_
    refine r_fieldAddr ab 0 3 3 cD rfl fo27_3 rfl ?_
    refine r_guard (j := 22) (want := true) (d := 41) (c := !aa.1.kids) (v := true) rfl aH aA rfl rfl ?_
    refine r_load ab 3 (lv A1 a0.Kids.length c2) rfl rfl (loads_one to22 ((aY.cell 3).trans rfl)) ?_
    refine r_guard (j := 22) (want := true) (d := 41) (c := !aa.1.kids) (v := true) rfl aH aA rfl rfl ?_
    refine r_len A1 a0.Kids.length c2 rfl rfl underlying22 ?_
    refine r_guard (j := 22) (want := true) (d := 41) (c := !aa.1.kids) (v := true) rfl aH aA rfl rfl ?_
    refine r_bin (iv (a0.Kids.length : Int)) (iv 0) (bv (decide (0 < (a0.Kids.length : Int)))) rfl rfl rfl rfl (b_gtr) ?_
    refine r_guard (j := 18) (want := false) (d := 37) (c := al) (v := false) rfl bh aq rfl rfl ?_
    refine r_pick_t (c := !aa.1.kids) (bv (decide (0 < (a0.Kids.length : Int)))) aH aA rfl rfl rfl rfl ?_
    refine j0 ?_
    obtain rfl := oi hf
    exact ⟨rfl, _, _, rfl, rfl, ((((((Agr.refl _ _).put rfl).put rfl).put rfl).put rfl).put rfl), bf, (Wext.refl _), rfl, aY, aZ⟩
   refine r_skip (j := 22) (want := true) (d := 41) (c := !aa.1.kids) (v := false) rfl aH aA rfl rfl ?_
   refine r_skip (j := 22) (want := true) (d := 41) (c := !aa.1.kids) (v := false) rfl aH aA rfl rfl ?_
   refine r_skip (j := 22) (want := true) (d := 41) (c := !aa.1.kids) (v := false) rfl aH aA rfl rfl ?_
   refine r_skip (j := 22) (want := true) (d := 41) (c := !aa.1.kids) (v := false) rfl aH aA rfl rfl ?_
   refine r_guard (j := 18) (want := false) (d := 37) (c := al) (v := false) rfl bh aq rfl rfl ?_
   refine r_pick_f (c := !aa.1.kids) (bv false) aH aA rfl rfl rfl rfl ?_
   refine j0 ?_
   obtain rfl := oi hf
   exact ⟨rfl, _, _, rfl, rfl, ((((((Agr.refl _ _).put rfl).put rfl).put rfl).put rfl).put rfl), bf, (Wext.refl _), rfl, aY, aZ⟩
  rintro a w ⟨dx, dy, rfl, rfl, bX, cE, cF, cG, cH, cI⟩
  have cJ := (bX 37 rfl).trans bh
  refine r_pick_f (c := al) (bv bW) cJ aq cG rfl rfl rfl ?_
  refine j0 ?_
  obtain rfl := oi hf
  exact ⟨rfl, _, _, rfl, rfl, ((((((((Agr.refl _ _).put rfl).put rfl).put rfl).put rfl).gen a1).loop bX rfl).put rfl), cE, ((Wext.refl _).trans cF), rfl, cH, cI⟩
 rintro a w ⟨dz, bY, rfl, rfl, bZ, bi, aI, cK, a2, a3⟩
 have cL := (bZ 1 rfl).trans bT
 have cM := (bZ 3 rfl).trans bU
 refine r_move (bv am) cK rfl ?_
 refine gen_FL fun b0 bj => ?_
 have b1 := (bj 1).trans cL
 have b2 := (bj 3).trans cM
 have aB : b0 48 = (bv am) := (bj 48).trans rfl
 obtain ⟨an, hq158, hf⟩ := bind_some hf
 refine wpl_take 10 (J := fun a w => ∃ (F : Fr) (τ : S), a = fr 124 F ∧ w = τ.w ∧ Agr [49, 50, 51, 52, 53, 54, 55, 56, 57, 58] F b0 ∧ ExtB s0.N s0 τ ∧ Wext bY τ ∧ F 58 = (bv an) ∧ Blk s0.N 1 τ ab 27 (Val.cs a0 A1 c2 A4 c5 A7 c8 ad ae) ∧ Blk s0.N 2 τ af 87 (Value_used.cs aa.1)) ?_ ?_
 ·have hf := hq158
  refine if_else hf (fun ar hf => ?_) (fun ar hf => ?_)
  ·refine r_skip (j := 29) (want := false) (d := 48) (c := am) (v := true) rfl aB ar rfl rfl ?_
   refine r_skip (j := 29) (want := false) (d := 48) (c := am) (v := true) rfl aB ar rfl rfl ?_
   refine r_skip (j := 29) (want := false) (d := 48) (c := am) (v := true) rfl aB ar rfl rfl ?_
   refine r_skip (j := 29) (want := false) (d := 48) (c := am) (v := true) rfl aB ar rfl rfl ?_
   refine r_skipu (j := 33) (d := 52) rfl rfl rfl ?_
   refine r_skipu (j := 33) (d := 52) rfl rfl rfl ?_
   refine r_skipu (j := 33) (d := 52) rfl rfl rfl ?_
   refine r_skipu (j := 33) (d := 52) rfl rfl rfl ?_
   refine r_skip (j := 29) (want := false) (d := 48) (c := am) (v := true) rfl aB ar rfl rfl ?_
   refine r_pick_t (c := am) (bv true) aB ar rfl rfl rfl rfl ?_
   refine j0 ?_
   obtain rfl := oi hf
   exact ⟨rfl, _, _, rfl, rfl, (((((((((((Agr.refl _ _).put rfl).put rfl).put rfl).put rfl).put rfl).put rfl).put rfl).put rfl).put rfl).put rfl), bi, (Wext.refl _), rfl, a2, a3⟩
  refine r_guard (j := 29) (want := false) (d := 48) (c := am) (v := false) rfl aB ar rfl rfl ?_
  refine r_fieldAddr af 0 3 3 b2 rfl fo87_3 rfl ?_
  refine r_guard (j := 29) (want := false) (d := 48) (c := am) (v := false) rfl aB ar rfl rfl ?_
  refine r_load af 3 (bv aa.1.keys) rfl rfl (loads_one to4 ((a3.cell 3).trans rfl)) ?_
  refine r_guard (j := 29) (want := false) (d := 48) (c := am) (v := false) rfl aB ar rfl rfl ?_
  refine r_un (bv aa.1.keys) (bv (!aa.1.keys)) rfl rfl u_not ?_
  refine r_guard (j := 29) (want := false) (d := 48) (c := am) (v := false) rfl aB ar rfl rfl ?_
  refine r_move (bv (!aa.1.keys)) rfl rfl ?_
  refine gen_FL fun b3 a4 => ?_
  have cN := (a4 1).trans b1
  have bk := (a4 48).trans aB
  have aJ : b3 52 = (bv (!aa.1.keys)) := (a4 52).trans rfl
  obtain ⟨b4, hq168, hf⟩ := bind_some hf
  refine wpl_take 5 (J := fun a w => ∃ (F : Fr) (τ : S), a = fr 124 F ∧ w = τ.w ∧ Agr [53, 54, 55, 56, 57] F b3 ∧ ExtB s0.N s0 τ ∧ Wext bY τ ∧ F 57 = (bv b4) ∧ Blk s0.N 1 τ ab 27 (Val.cs a0 A1 c2 A4 c5 A7 c8 ad ae) ∧ Blk s0.N 2 τ af 87 (Value_used.cs aa.1)) ?_ ?_
  ·have hf := hq168
   refine if_else hf (fun aC hf => ?_) (fun aC hf => ?_)
   ·refine r_guard (j := 33) (want := true) (d := 52) (c := !aa.1.keys) (v := true) rfl aJ aC rfl rfl ?_
    refine r_fieldAddr ab 0 4 4 cN rfl fo27_4 rfl ?_
    refine r_guard (j := 33) (want := true) (d := 52) (c := !aa.1.keys) (v := true) rfl aJ aC rfl rfl ?_
    refine r_load ab 4 (lv A4 a0.Keys.length c5) rfl rfl (loads_one to23 ((a2.cell 4).trans rfl)) ?_
    refine r_guard (j := 33) (want := true) (d := 52) (c := !aa.1.keys) (v := true) rfl aJ aC rfl rfl ?_
    refine r_len A4 a0.Keys.length c5 rfl rfl underlying23 ?_
    refine r_guard (j := 33) (want := true) (d := 52) (c := !aa.1.keys) (v := true) rfl aJ aC rfl rfl ?_
    refine r_bin (iv (a0.Keys.length : Int)) (iv 0) (bv (decide (0 < (a0.Keys.length : Int)))) rfl rfl rfl rfl (b_gtr) ?_
    refine r_guard (j := 29) (want := false) (d := 48) (c := am) (v := false) rfl bk ar rfl rfl ?_
    refine r_pick_t (c := !aa.1.keys) (bv (decide (0 < (a0.Keys.length : Int)))) aJ aC rfl rfl rfl rfl ?_
    refine j0 ?_
    obtain rfl := oi hf
    exact ⟨rfl, _, _, rfl, rfl, ((((((Agr.refl _ _).put rfl).put rfl).put rfl).put rfl).put rfl), bi, (Wext.refl _), rfl, a2, a3⟩
   refine r_skip (j := 33) (want := true) (d := 52) (c := !aa.1.keys) (v := false) rfl aJ aC rfl rfl ?_
   refine r_skip (j := 33) (want := true) (d := 52) (c := !aa.1.keys) (v := false) rfl aJ aC rfl rfl ?_
   refine r_skip (j := 33) (want := true) (d := 52) (c := !aa.1.keys) (v := false) rfl aJ aC rfl rfl ?_
   refine r_skip (j := 33) (want := true) (d := 52) (c := !aa.1.keys) (v := false) rfl aJ aC rfl rfl ?_
   refine r_guard (j := 29) (want := false) (d := 48) (c := am) (v := false) rfl bk ar rfl rfl ?_
   refine r_pick_f (c := !aa.1.keys) (bv false) aJ aC rfl rfl rfl rfl ?_
   refine j0 ?_
   obtain rfl := oi hf
   exact ⟨rfl, _, _, rfl, rfl, ((((((Agr.refl _ _).put rfl).put rfl).put rfl).put rfl).put rfl), bi, (Wext.refl _), rfl, a2, a3⟩
  rintro a w ⟨dA, dB, rfl, rfl, b5, cO, cP, cQ, cR, cS⟩
  have cT := (b5 48 rfl).trans bk
  refine r_pick_f (c := am) (bv b4) cT ar cQ rfl rfl rfl ?_
  refine j0 ?_
  obtain rfl := oi hf
  exact ⟨rfl, _, _, rfl, rfl, ((((((((Agr.refl _ _).put rfl).put rfl).put rfl).put rfl).gen a4).loop b5 rfl).put rfl), cO, ((Wext.refl _).trans cP), rfl, cR, cS⟩
 rintro a w ⟨dC, cU, rfl, rfl, b6, bl, aK, cV, bm, cW⟩
 have cX := (b6 1 rfl).trans b1
 have cY := (b6 3 rfl).trans b2
 refine r_move (bv an) cV rfl ?_
 refine if_else hf (fun au hf => ?_) (fun au hf => ?_)
 ·refine r_skip (j := 40) (want := false) (d := 59) (c := an) (v := true) rfl rfl au rfl rfl ?_
  refine r_skip (j := 40) (want := false) (d := 59) (c := an) (v := true) rfl rfl au rfl rfl ?_
  refine r_skip (j := 40) (want := false) (d := 59) (c := an) (v := true) rfl rfl au rfl rfl ?_
  refine r_skip (j := 40) (want := false) (d := 59) (c := an) (v := true) rfl rfl au rfl rfl ?_
  refine r_skipu (j := 44) (d := 63) rfl rfl rfl ?_
  refine r_skipu (j := 44) (d := 63) rfl rfl rfl ?_
  refine r_skipu (j := 44) (d := 63) rfl rfl rfl ?_
  refine r_skipu (j := 44) (d := 63) rfl rfl rfl ?_
  refine r_skip (j := 40) (want := false) (d := 59) (c := an) (v := true) rfl rfl au rfl rfl ?_
  refine r_pick_t (c := an) (bv true) rfl au rfl rfl rfl rfl ?_
  refine j0 (j1 ?_)
  refine c_true rfl rfl rfl ?_
  refine j2 (j3 ?_)
  refine r_assign (bv false) rfl rfl ?_
  refine j0 (j1 (jb (j9 ?_)))
  obtain rfl := oi hf
  refine ret_one (bv false) rfl ⟨rfl, rfl⟩ bl ?_
  exact (RpV.mkBool _ _)
 refine r_guard (j := 40) (want := false) (d := 59) (c := an) (v := false) rfl rfl au rfl rfl ?_
 refine r_fieldAddr af 0 4 4 cY rfl fo87_4 rfl ?_
 refine r_guard (j := 40) (want := false) (d := 59) (c := an) (v := false) rfl rfl au rfl rfl ?_
 refine r_load af 4 (bv aa.1.entries) rfl rfl (loads_one to4 ((cW.cell 4).trans rfl)) ?_
 refine r_guard (j := 40) (want := false) (d := 59) (c := an) (v := false) rfl rfl au rfl rfl ?_
 refine r_un (bv aa.1.entries) (bv (!aa.1.entries)) rfl rfl u_not ?_
 refine r_guard (j := 40) (want := false) (d := 59) (c := an) (v := false) rfl rfl au rfl rfl ?_
 refine r_move (bv (!aa.1.entries)) rfl rfl ?_
 refine gen_FL fun bn bo => ?_
 have b7 := (bo 1).trans cX
 have bp : bn 59 = (bv an) := (bo 59).trans rfl
 have aL : bn 63 = (bv (!aa.1.entries)) := (bo 63).trans rfl
 obtain ⟨b8, hq201, hf⟩ := bind_some hf
 refine wpl_take 5 (J := fun a w => ∃ (F : Fr) (τ : S), a = fr 124 F ∧ w = τ.w ∧ Agr [64, 65, 66, 67, 68] F bn ∧ ExtB s0.N s0 τ ∧ Wext cU τ ∧ F 68 = (bv b8) ∧ Blk s0.N 1 τ ab 27 (Val.cs a0 A1 c2 A4 c5 A7 c8 ad ae)) ?_ ?_
 ·have hf := hq201
  refine if_else hf (fun aD hf => ?_) (fun aD hf => ?_)
  ·refine r_guard (j := 44) (want := true) (d := 63) (c := !aa.1.entries) (v := true) rfl aL aD rfl rfl ?_
   refine r_fieldAddr ab 0 5 5 b7 rfl fo27_5 rfl ?_
   refine r_guard (j := 44) (want := true) (d := 63) (c := !aa.1.entries) (v := true) rfl aL aD rfl rfl ?_
   refine r_load ab 5 (lv A7 a0.Entries.length c8) rfl rfl (loads_one to24 ((bm.cell 5).trans rfl)) ?_
   refine r_guard (j := 44) (want := true) (d := 63) (c := !aa.1.entries) (v := true) rfl aL aD rfl rfl ?_
   refine r_len A7 a0.Entries.length c8 rfl rfl underlying24 ?_
   refine r_guard (j := 44) (want := true) (d := 63) (c := !aa.1.entries) (v := true) rfl aL aD rfl rfl ?_
   refine r_bin (iv (a0.Entries.length : Int)) (iv 0) (bv (decide (0 < (a0.Entries.length : Int)))) rfl rfl rfl rfl (b_gtr) ?_
   refine r_guard (j := 40) (want := false) (d := 59) (c := an) (v := false) rfl bp au rfl rfl ?_
   refine r_pick_t (c := !aa.1.entries) (bv (decide (0 < (a0.Entries.length : Int)))) aL aD rfl rfl rfl rfl ?_
   refine j0 ?_
   obtain rfl := oi hf
   exact ⟨rfl, _, _, rfl, rfl, ((((((Agr.refl _ _).put rfl).put rfl).put rfl).put rfl).put rfl), bl, (Wext.refl _), rfl, bm⟩
  refine r_skip (j := 44) (want := true) (d := 63) (c := !aa.1.entries) (v := false) rfl aL aD rfl rfl ?_
  refine r_skip (j := 44) (want := true) (d := 63) (c := !aa.1.entries) (v := false) rfl aL aD rfl rfl ?_
  refine r_skip (j := 44) (want := true) (d := 63) (c := !aa.1.entries) (v := false) rfl aL aD rfl rfl ?_
  refine r_skip (j := 44) (want := true) (d := 63) (c := !aa.1.entries) (v := false) rfl aL aD rfl rfl ?_
  refine r_guard (j := 40) (want := false) (d := 59) (c := an) (v := false) rfl bp au rfl rfl ?_
  refine r_pick_f (c := !aa.1.entries) (bv false) aL aD rfl rfl rfl rfl ?_
  refine j0 ?_
  obtain rfl := oi hf
  exact ⟨rfl, _, _, rfl, rfl, ((((((Agr.refl _ _).put rfl).put rfl).put rfl).put rfl).put rfl), bl, (Wext.refl _), rfl, bm⟩
 rintro a w ⟨dD, cZ, rfl, rfl, b9, aE, aM, c0, aN⟩
 have aO := (b9 1 rfl).trans b7
 have c1 := (b9 59 rfl).trans bp
 refine r_pick_f (c := an) (bv b8) c1 au c0 rfl rfl rfl ?_
 refine j0 (j1 ?_)
 refine if_else hf (fun bq hf => ?_) (fun bq hf => ?_)
 ·refine c_true rfl bq rfl ?_
  refine j2 (j3 ?_)
  refine r_assign (bv false) rfl rfl ?_
  refine j0 (j1 (jb (j9 ?_)))
  obtain rfl := oi hf
  refine ret_one (bv false) rfl ⟨rfl, rfl⟩ aE ?_
  exact (RpV.mkBool _ _)
 refine c_false rfl bq rfl ?_
 refine ja (j1 (j2 (j2 (j3 ?_))))
 refine r_fieldAddr ab 0 0 0 aO rfl fo27_0 rfl ?_
 refine r_load ab 0 (iv a0.Kind) rfl rfl (loads_one to3 ((aN.cell 0).trans rfl)) ?_
 refine j0 (j1 (j4 (j2 (j3 ?_))))
 refine r_bin (iv a0.Kind) (iv 2) (bv (a0.Kind == 2)) rfl rfl rfl rfl (b_eql) ?_
 refine r_assign (bv (a0.Kind == 2)) rfl rfl ?_
 refine j0 (j1 ?_)
 refine if_else hf (fun br hf => ?_) (fun br hf => ?_)
 ·refine c_true rfl br rfl ?_
  refine j2 (j3 ?_)
  refine r_fieldAddr ab 0 2 2 aO rfl fo27_2 rfl ?_
  refine r_load ab 2 (tv a0.Text) rfl rfl (loads_one to9 ((aN.cell 2).trans rfl)) ?_
  refine r_lenStr a0.Text rfl rfl underlying9 ?_
  refine r_bin (iv (a0.Text.size : Int)) (iv 64) (bv (decide ((a0.Text.size : Int) ≤ 64))) rfl rfl rfl rfl (b_leq) ?_
  refine r_assign (bv (decide ((a0.Text.size : Int) ≤ 64))) rfl rfl ?_
  refine j0 (j1 (jb (j7 (j9 ?_))))
  obtain rfl := oi hf
  refine ret_one (bv (decide ((a0.Text.size : Int) ≤ 64))) rfl ⟨rfl, rfl⟩ aE ?_
  exact (RpV.mkBool _ _)
 refine c_false rfl br rfl ?_
 refine j2 (j3 ?_)
 refine r_bin (iv a0.Kind) (iv 3) (bv (a0.Kind == 3)) rfl rfl rfl rfl (b_eql) ?_
 refine r_assign (bv (a0.Kind == 3)) rfl rfl ?_
 refine j0 (j1 ?_)
 refine if_else hf (fun bs hf => ?_) (fun bs hf => ?_)
 ·refine c_true rfl bs rfl ?_
  refine j2 (j3 ?_)
  refine r_fieldAddr ab 0 2 2 aO rfl fo27_2 rfl ?_
  refine r_load ab 2 (tv a0.Text) rfl rfl (loads_one to9 ((aN.cell 2).trans rfl)) ?_
  obtain ⟨ca, c3, hf⟩ := bind_some hf
  refine r_call [tv a0.Text] (evs1 rfl) rfl (ok_ident_IsAtom _ _ _ _ (RpV.mkStr _ _) c3) ?_
  intro _ _ c4 c6
  have c7 := aE.x c4
  obtain rfl := RpV.bool c6
  refine r_assign (bv ca) rfl rfl ?_
  refine j0 (j1 (jb (j7 (j9 ?_))))
  obtain rfl := oi hf
  refine ret_one (bv ca) rfl ⟨rfl, rfl⟩ c7 ?_
  exact (RpV.mkBool _ _)
 refine c_false rfl bs rfl ?_
 refine j2 (j3 ?_)
 refine r_bin (iv a0.Kind) (iv 4) (bv (a0.Kind == 4)) rfl rfl rfl rfl (b_eql) ?_
 refine r_assign (bv (a0.Kind == 4)) rfl rfl ?_
 refine j0 (j1 ?_)
 refine if_else hf (fun bt hf => ?_) (fun bt hf => ?_)
 ·refine c_true rfl bt rfl ?_
  refine j2 (j3 ?_)
  refine r_fieldAddr ab 0 1 1 aO rfl fo27_1 rfl ?_
  refine r_load ab 1 (iv a0.Int_) rfl rfl (loads_one to2 ((aN.cell 1).trans rfl)) ?_
  refine r_bin (iv a0.Int_) (iv 0) (bv (decide (0 ≤ a0.Int_))) rfl rfl rfl rfl (b_geq) ?_
  refine r_assign (bv (decide (0 ≤ a0.Int_))) rfl rfl ?_
  refine j0 (j1 (jb (j7 (j9 ?_))))
  obtain rfl := oi hf
  refine ret_one (bv (decide (0 ≤ a0.Int_))) rfl ⟨rfl, rfl⟩ aE ?_
  exact (RpV.mkBool _ _)
 refine c_false rfl bt rfl ?_
 refine j2 (j3 ?_)
 refine r_bin (iv a0.Kind) (iv 6) (bv (a0.Kind == 6)) rfl rfl rfl rfl (b_eql) ?_
 refine r_assign (bv (a0.Kind == 6)) rfl rfl ?_
 refine j0 (j1 ?_)
 refine if_else hf (fun bu hf => ?_) (fun bu hf => ?_)
 ·refine c_true rfl bu rfl ?_
  refine j2 (j3 ?_)
  refine r_fieldAddr ab 0 3 3 aO rfl fo27_3 rfl ?_
  refine r_load ab 3 (lv A1 a0.Kids.length c2) rfl rfl (loads_one to22 ((aN.cell 3).trans rfl)) ?_
  refine r_len A1 a0.Kids.length c2 rfl rfl underlying22 ?_
  refine r_bin (iv (a0.Kids.length : Int)) (iv 4) (bv (decide ((a0.Kids.length : Int) ≤ 4))) rfl rfl rfl rfl (b_leq) ?_
  refine r_assign (bv (decide ((a0.Kids.length : Int) ≤ 4))) rfl rfl ?_
  refine j0 (j1 (jb (j7 (j9 ?_))))
  obtain rfl := oi hf
  refine ret_one (bv (decide ((a0.Kids.length : Int) ≤ 4))) rfl ⟨rfl, rfl⟩ aE ?_
  exact (RpV.mkBool _ _)
 refine c_false rfl bu rfl ?_
 refine j2 (j3 ?_)
 refine r_bin (iv a0.Kind) (iv 7) (bv (a0.Kind == 7)) rfl rfl rfl rfl (b_eql) ?_
 refine r_assign (bv (a0.Kind == 7)) rfl rfl ?_
 refine j0 (j1 ?_)
 refine if_else hf (fun bw hf => ?_) (fun bw hf => ?_)
 ·refine c_true rfl bw rfl ?_
  refine j2 (j3 ?_)
  refine r_fieldAddr ab 0 3 3 aO rfl fo27_3 rfl ?_
  refine r_load ab 3 (lv A1 a0.Kids.length c2) rfl rfl (loads_one to22 ((aN.cell 3).trans rfl)) ?_
  refine r_len A1 a0.Kids.length c2 rfl rfl underlying22 ?_
  refine r_bin (iv (a0.Kids.length : Int)) (iv 2) (bv ((a0.Kids.length : Int) == 2)) rfl rfl rfl rfl (b_eql) ?_
  refine r_move (bv ((a0.Kids.length : Int) == 2)) rfl rfl ?_
  refine if_else hf (fun ac hf => ?_) (fun ac hf => ?_)
  ·refine r_guard (j := 4) (want := true) (d := 100) (c := ((a0.Kids.length : Int) == 2)) (v := true) rfl rfl ac rfl rfl ?_
   refine r_fieldAddr ab 0 3 3 aO rfl fo27_3 rfl ?_
   refine r_guard (j := 4) (want := true) (d := 100) (c := ((a0.Kids.length : Int) == 2)) (v := true) rfl rfl ac rfl rfl ?_
   refine r_load ab 3 (lv A1 a0.Kids.length c2) rfl rfl (loads_one to22 ((aN.cell 3).trans rfl)) ?_
   refine r_guard (j := 4) (want := true) (d := 100) (c := ((a0.Kids.length : Int) == 2)) (v := true) rfl rfl ac rfl rfl ?_
   obtain ⟨x227, c9, hf⟩ := bind_some hf
   refine r_indexAddr (T := 22) (E := 27) ((((((((((h3.mono aw.wext).mono ah.wext).mono ai.wext).mono aj.wext).mono ag.wext).mono aF).mono aG).mono aI).mono aK).mono aM) c9 rfl rfl rfl rfl underlying22 sz27 ?_
   intro cb bx _ da db
   obtain ⟨_, _, _, _, _, _, _, _, rfl, _, _, _, _⟩ := Val.cells_iff.1 da
   refine r_guard (j := 4) (want := true) (d := 100) (c := ((a0.Kids.length : Int) == 2)) (v := true) rfl rfl ac rfl rfl ?_
   refine r_fieldAddr cb bx 0 (bx) rfl rfl fo27_0 rfl ?_
   refine r_guard (j := 4) (want := true) (d := 100) (c := ((a0.Kids.length : Int) == 2)) (v := true) rfl rfl ac rfl rfl ?_
   refine r_load cb bx (iv x227.Kind) rfl rfl (loads_one to3 (db.2 0 _ rfl)) ?_
   refine r_guard (j := 4) (want := true) (d := 100) (c := ((a0.Kids.length : Int) == 2)) (v := true) rfl rfl ac rfl rfl ?_
   refine r_bin (iv x227.Kind) (iv 5) (bv (x227.Kind == 5)) rfl rfl rfl rfl (b_eql) ?_
   refine r_guard (j := 4) (want := true) (d := 100) (c := ((a0.Kids.length : Int) == 2)) (v := true) rfl rfl ac rfl rfl ?_
   refine r_move (bv (x227.Kind == 5)) rfl rfl ?_
   refine gen_FL fun bz bA => ?_
   have dc := (bA 1).trans aO
   have bB : bz 100 = (bv ((a0.Kids.length : Int) == 2)) := (bA 100).trans rfl
   have av : bz 107 = (bv (x227.Kind == 5)) := (bA 107).trans rfl
   obtain ⟨a5, hq253, hf⟩ := bind_some hf
   refine wpl_take 7 (J := fun a w => ∃ (F : Fr) (τ : S), a = fr 124 F ∧ w = τ.w ∧ Agr [108, 109, 110, 111, 112, 113, 114] F bz ∧ ExtB s0.N s0 τ ∧ Wext cZ τ ∧ F 114 = (bv a5)) ?_ ?_
   ·have hf := hq253
    refine if_else hf (fun ao hf => ?_) (fun ao hf => ?_)
    ·refine r_skip (j := 11) (want := false) (d := 107) (c := (x227.Kind == 5)) (v := true) rfl av ao rfl rfl ?_
     refine r_skip (j := 11) (want := false) (d := 107) (c := (x227.Kind == 5)) (v := true) rfl av ao rfl rfl ?_
     refine r_skip (j := 11) (want := false) (d := 107) (c := (x227.Kind == 5)) (v := true) rfl av ao rfl rfl ?_
     refine r_skip (j := 11) (want := false) (d := 107) (c := (x227.Kind == 5)) (v := true) rfl av ao rfl rfl ?_
     refine r_skip (j := 11) (want := false) (d := 107) (c := (x227.Kind == 5)) (v := true) rfl av ao rfl rfl ?_
     refine r_skip (j := 11) (want := false) (d := 107) (c := (x227.Kind == 5)) (v := true) rfl av ao rfl rfl ?_
     refine r_guard (j := 4) (want := true) (d := 100) (c := ((a0.Kids.length : Int) == 2)) (v := true) rfl bB ac rfl rfl ?_
     refine r_pick_t (c := (x227.Kind == 5)) (bv true) av ao rfl rfl rfl rfl ?_
     refine j0 ?_
     obtain rfl := oi hf
     exact ⟨rfl, _, _, rfl, rfl, ((((((((Agr.refl _ _).put rfl).put rfl).put rfl).put rfl).put rfl).put rfl).put rfl), aE, (Wext.refl _), rfl⟩
    refine r_guard (j := 11) (want := false) (d := 107) (c := (x227.Kind == 5)) (v := false) rfl av ao rfl rfl ?_
    refine r_fieldAddr ab 0 3 3 dc rfl fo27_3 rfl ?_
    refine r_guard (j := 11) (want := false) (d := 107) (c := (x227.Kind == 5)) (v := false) rfl av ao rfl rfl ?_
    refine r_load ab 3 (lv A1 a0.Kids.length c2) rfl rfl (loads_one to22 ((aN.cell 3).trans rfl)) ?_
    refine r_guard (j := 11) (want := false) (d := 107) (c := (x227.Kind == 5)) (v := false) rfl av ao rfl rfl ?_
    obtain ⟨x255, dd, hf⟩ := bind_some hf
    refine r_indexAddr (T := 22) (E := 27) ((((((((((h3.mono aw.wext).mono ah.wext).mono ai.wext).mono aj.wext).mono ag.wext).mono aF).mono aG).mono aI).mono aK).mono aM) dd rfl rfl rfl rfl underlying22 sz27 ?_
    intro cc bC _ de df
    obtain ⟨_, _, _, _, _, _, _, _, rfl, _, _, _, _⟩ := Val.cells_iff.1 de
    refine r_guard (j := 11) (want := false) (d := 107) (c := (x227.Kind == 5)) (v := false) rfl av ao rfl rfl ?_
    refine r_fieldAddr cc bC 0 (bC) rfl rfl fo27_0 rfl ?_
    refine r_guard (j := 11) (want := false) (d := 107) (c := (x227.Kind == 5)) (v := false) rfl av ao rfl rfl ?_
    refine r_load cc bC (iv x255.Kind) rfl rfl (loads_one to3 (df.2 0 _ rfl)) ?_
    refine r_guard (j := 11) (want := false) (d := 107) (c := (x227.Kind == 5)) (v := false) rfl av ao rfl rfl ?_
    refine r_bin (iv x255.Kind) (iv 7) (bv (x255.Kind == 7)) rfl rfl rfl rfl (b_eql) ?_
    refine r_guard (j := 4) (want := true) (d := 100) (c := ((a0.Kids.length : Int) == 2)) (v := true) rfl bB ac rfl rfl ?_
    refine r_pick_f (c := (x227.Kind == 5)) (bv (x255.Kind == 7)) av ao rfl rfl rfl rfl ?_
    refine j0 ?_
    obtain rfl := oi hf
    exact ⟨rfl, _, _, rfl, rfl, ((((((((Agr.refl _ _).put rfl).put rfl).put rfl).put rfl).put rfl).put rfl).put rfl), aE, (Wext.refl _), rfl⟩
   rintro a w ⟨dE, dF, rfl, rfl, dg, dh, dG, di⟩
   have dj := (dg 100 rfl).trans bB
   refine r_pick_t (c := ((a0.Kids.length : Int) == 2)) (bv a5) dj ac di rfl rfl rfl ?_
   refine r_assign (bv a5) rfl rfl ?_
   refine j0 (j1 (jb (j7 (j9 ?_))))
   obtain rfl := oi hf
   refine ret_one (bv a5) rfl ⟨rfl, rfl⟩ dh ?_
   exact (RpV.mkBool _ _)
  refine r_skip (j := 4) (want := true) (d := 100) (c := ((a0.Kids.length : Int) == 2)) (v := false) rfl rfl ac rfl rfl ?_
  refine r_skip (j := 4) (want := true) (d := 100) (c := ((a0.Kids.length : Int) == 2)) (v := false) rfl rfl ac rfl rfl ?_
  refine r_skip (j := 4) (want := true) (d := 100) (c := ((a0.Kids.length : Int) == 2)) (v := false) rfl rfl ac rfl rfl ?_
  refine r_skip (j := 4) (want := true) (d := 100) (c := ((a0.Kids.length : Int) == 2)) (v := false) rfl rfl ac rfl rfl ?_
  refine r_skip (j := 4) (want := true) (d := 100) (c := ((a0.Kids.length : Int) == 2)) (v := false) rfl rfl ac rfl rfl ?_
  refine r_skip (j := 4) (want := true) (d := 100) (c := ((a0.Kids.length : Int) == 2)) (v := false) rfl rfl ac rfl rfl ?_
  refine r_skip (j := 4) (want := true) (d := 100) (c := ((a0.Kids.length : Int) == 2)) (v := false) rfl rfl ac rfl rfl ?_
  refine r_skipu (j := 11) (d := 107) rfl rfl rfl ?_
  refine r_skipu (j := 11) (d := 107) rfl rfl rfl ?_
  refine r_skipu (j := 11) (d := 107) rfl rfl rfl ?_
  refine r_skipu (j := 11) (d := 107) rfl rfl rfl ?_
  refine r_skipu (j := 11) (d := 107) rfl rfl rfl ?_
  refine r_skipu (j := 11) (d := 107) rfl rfl rfl ?_
  refine r_skip (j := 4) (want := true) (d := 100) (c := ((a0.Kids.length : Int) == 2)) (v := false) rfl rfl ac rfl rfl ?_
  refine r_pick_f (c := ((a0.Kids.length : Int) == 2)) (bv false) rfl ac rfl rfl rfl rfl ?_
  refine r_assign (bv false) rfl rfl ?_
  refine j0 (j1 (jb (j7 (j9 ?_))))
  obtain rfl := oi hf
  refine ret_one (bv false) rfl ⟨rfl, rfl⟩ aE ?_
  exact (RpV.mkBool _ _)
 refine c_false rfl bw rfl ?_
 refine j2 (j3 ?_)
 refine r_bin (iv a0.Kind) (iv 8) (bv (a0.Kind == 8)) rfl rfl rfl rfl (b_eql) ?_
 refine r_assign (bv (a0.Kind == 8)) rfl rfl ?_
 refine j0 (j1 ?_)
 refine if_else hf (fun bD hf => ?_) (fun bD hf => ?_)
 ·refine c_true rfl bD rfl ?_
  refine j2 (j3 ?_)
  refine r_load ab 0 (Val.ag a0 A1 c2 A4 c5 A7 c8 ad ae) aO rfl (loads_row tr27 (Blk.range aN 0 (Val.cs a0 A1 c2 A4 c5 A7 c8 ad ae) rfl)) ?_
  obtain ⟨cd, dk, hf⟩ := bind_some hf
  refine r_call [Val.ag a0 A1 c2 A4 c5 A7 c8 ad ae] (evs1 rfl) rfl (ok_value_validMap _ _ _ _ (Val.rpvMk (v := a0) ((((((((((h3.mono aw.wext).mono ah.wext).mono ai.wext).mono aj.wext).mono ag.wext).mono aF).mono aG).mono aI).mono aK).mono aM) ((((((((((h6.mono aw.wext).mono ah.wext).mono ai.wext).mono aj.wext).mono ag.wext).mono aF).mono aG).mono aI).mono aK).mono aM) ((((((((((h9.mono aw.wext).mono ah.wext).mono ai.wext).mono aj.wext).mono ag.wext).mono aF).mono aG).mono aI).mono aK).mono aM) ((((((((((a6.mono aw.wext).mono ah.wext).mono ai.wext).mono aj.wext).mono ag.wext).mono aF).mono aG).mono aI).mono aK).mono aM)) dk) ?_
  intro _ _ dl dm
  have dn := aE.x dl
  obtain rfl := RpV.bool dm
  refine r_assign (bv cd) rfl rfl ?_
  refine j0 (j1 (jb (j7 (j9 ?_))))
  obtain rfl := oi hf
  refine ret_one (bv cd) rfl ⟨rfl, rfl⟩ dn ?_
  exact (RpV.mkBool _ _)
 refine c_false rfl bD rfl ?_
 refine j2 (j3 ?_)
 refine r_bin (iv a0.Kind) (iv 9) (bv (a0.Kind == 9)) rfl rfl rfl rfl (b_eql) ?_
 refine r_assign (bv (a0.Kind == 9)) rfl rfl ?_
 refine j0 (j1 ?_)
 refine if_else hf (fun bE hf => ?_) (fun bE hf => ?_)
 ·refine c_true rfl bE rfl ?_
  refine j2 (j3 ?_)
  refine r_load ab 0 (Val.ag a0 A1 c2 A4 c5 A7 c8 ad ae) aO rfl (loads_row tr27 (Blk.range aN 0 (Val.cs a0 A1 c2 A4 c5 A7 c8 ad ae) rfl)) ?_
  obtain ⟨ce, dp, hf⟩ := bind_some hf
  refine r_call [Val.ag a0 A1 c2 A4 c5 A7 c8 ad ae] (evs1 rfl) rfl ((ok_value_validFunction fuel) _ _ _ _ (Val.rpvMk (v := a0) ((((((((((h3.mono aw.wext).mono ah.wext).mono ai.wext).mono aj.wext).mono ag.wext).mono aF).mono aG).mono aI).mono aK).mono aM) ((((((((((h6.mono aw.wext).mono ah.wext).mono ai.wext).mono aj.wext).mono ag.wext).mono aF).mono aG).mono aI).mono aK).mono aM) ((((((((((h9.mono aw.wext).mono ah.wext).mono ai.wext).mono aj.wext).mono ag.wext).mono aF).mono aG).mono aI).mono aK).mono aM) ((((((((((a6.mono aw.wext).mono ah.wext).mono ai.wext).mono aj.wext).mono ag.wext).mono aF).mono aG).mono aI).mono aK).mono aM)) dp) ?_
  intro _ _ dq dr
  have ds := aE.x dq
  obtain rfl := RpV.bool dr
  refine r_assign (bv ce) rfl rfl ?_
  refine j0 (j1 (jb (j7 (j9 ?_))))
  obtain rfl := oi hf
  refine ret_one (bv ce) rfl ⟨rfl, rfl⟩ ds ?_
  exact (RpV.mkBool _ _)
 refine c_false rfl bE rfl ?_
 refine ja (j5 (j1 (j2 (j3 ?_))))
 refine r_assign (bv true) rfl rfl ?_
 refine j0 (j1 (jb ?_))
 obtain rfl := oi hf
 refine ret_one (bv true) rfl ⟨rfl, rfl⟩ aE ?_
 exact (RpV.mkBool _ _)

def S_value_validTree (f : (Val → Option Bool)) : Prop := ∀ (s0 : S) (v0 : Value) (a0 : Val) (r : Bool), RpV s0 a0 v0 → f a0 = some r → Ctr Go.Proofs.Try.prog 35 [v0] s0 (fun v τ => RpV τ r v)

theorem okB_value_validTree {rec_value_validTree : (Val → Option Bool)} (fuel : Nat) (hrec_value_validTree : S_value_validTree rec_value_validTree) : S_value_validTree (value_validTree_B rec_value_validTree fuel) := by
 intro s0 v0 a0 r hp0 hf
 obtain ⟨A1, c2, A4, c5, A7, c8, ab, ac, rfl, h3, h6, h9, aF⟩ := Val.rpv hp0
 unfold value_validTree_B at hf
 have E0 : ExtB s0.N s0 s0 := ExtB.refl _ _
 refine ctr_of 19 func35 rfl rfl rfl rfl ?_
 refine j2 (j3 ?_)
 refine r_box (B := s0.N) 1 E0.size (Val.ag a0 A1 c2 A4 c5 A7 c8 ab ac) (Val.cs a0 A1 c2 A4 c5 A7 c8 ab ac) rfl rfl rfl ?_
 intro _ aG aa aH
 have aN := E0.x aa
 refine r_assign (bv false) rfl rfl ?_
 refine j0 (j1 (j2 (j2 (j3 ?_))))
 refine r_load aG 0 (Val.ag a0 A1 c2 A4 c5 A7 c8 ab ac) rfl rfl (loads_row tr27 (Blk.range aH 0 (Val.cs a0 A1 c2 A4 c5 A7 c8 ab ac) rfl)) ?_
 obtain ⟨aI, aO, hf⟩ := bind_some hf
 refine r_call [Val.ag a0 A1 c2 A4 c5 A7 c8 ab ac] (evs1 rfl) rfl ((ok_value_validNode fuel) _ _ _ _ (Val.rpvMk (v := a0) (h3.mono aa.wext) (h6.mono aa.wext) (h9.mono aa.wext) (aF.mono aa.wext)) aO) ?_
 intro _ _ ao aP
 have ax := aN.x ao
 obtain rfl := RpV.bool aP
 refine r_un (bv aI) (bv (!aI)) rfl rfl u_not ?_
 refine j0 (j1 ?_)
 refine if_else hf (fun ay hf => ?_) (fun ay hf => ?_)
 ·refine c_true rfl ay rfl ?_
  refine j2 (j3 ?_)
  refine r_assign (bv false) rfl rfl ?_
  refine j0 (j1 (jb (j9 ?_)))
  obtain rfl := oi hf
  refine ret_one (bv false) rfl ⟨rfl, rfl⟩ ax ?_
  exact (RpV.mkBool _ _)
 refine c_false rfl ay rfl ?_
 refine ja (j1 (j2 (j2 (j3 ?_))))
 refine r_load aG 0 (Val.ag a0 A1 c2 A4 c5 A7 c8 ab ac) rfl rfl (loads_row tr27 (Blk.range (aH.ext ao) 0 (Val.cs a0 A1 c2 A4 c5 A7 c8 ab ac) rfl)) ?_
 obtain ⟨ad, aQ, hf⟩ := bind_some hf
 refine r_call [Val.ag a0 A1 c2 A4 c5 A7 c8 ab ac] (evs1 rfl) rfl (ok_value_parts _ _ _ _ (Val.rpvMk (v := a0) ((h3.mono aa.wext).mono ao.wext) ((h6.mono aa.wext).mono ao.wext) ((h9.mono aa.wext).mono ao.wext) ((aF.mono aa.wext).mono ao.wext)) aQ 1002 (by omega)) ?_
 intro _ aJ aR aS
 have aT := ax.x aR
 obtain ⟨ar, au, rfl, aU⟩ := aS
 refine r_len ar ad.length au rfl rfl underlying22 ?_
 refine r_move (iv 0) rfl rfl ?_
 refine j0 (j1 (j4 ?_))
 refine gen_F fun ap az => ?_
 have aV : ap 9 = (lv ar ad.length au) := (az 9).trans rfl
 have aW : ap 10 = (iv (ad.length : Int)) := (az 10).trans rfl
 have aX : ap 11 = (iv 0) := (az 11).trans rfl
 obtain ⟨aY, aZ, hf⟩ := bind_some hf
 refine wp_mono (wp_iter (step := value_validTree_l1 rec_value_validTree ad) (fun q a w => ∃ (F : Fr) (τ : S), a = fr 19 F ∧ w = τ.w ∧ Agr [2, 4, 11, 12, 13, 14, 15, 16, 17, 18] F ap ∧ ExtB s0.N s0 τ ∧ Wext aJ τ ∧ F 11 = (iv q) ∧ Own s0.N 1002 27 τ ad ar au) (fun o e a w => match o with | .inl q => e = .exit 0 ∧ ∃ (F : Fr) (τ : S), a = fr 19 F ∧ w = τ.w ∧ Agr [2, 4, 11, 12, 13, 14, 15, 16, 17, 18] F ap ∧ ExtB s0.N s0 τ ∧ Wext aJ τ ∧ F 11 = (iv q) ∧ Own s0.N 1002 27 τ ad ar au | .inr r => e = .ret ∧ ∃ (F : Fr) (τ : S) (va : Value), a = fr 19 F ∧ w = τ.w ∧ ExtB s0.N s0 τ ∧ ResV prog 19 F τ.w (.tmp 2) va ∧ RpV τ r va) (by rintro (_ | _) a w ⟨h, _⟩ <;> cases h) ?_ _ _ _ _ _ aZ ?_) ?_
 ·intro aq fl a w hf hI
  obtain ⟨_, _, rfl, rfl, av, aA, aK, aw, aB⟩ := hI
  unfold value_validTree_l1 at hf
  have a1 := (av 9 rfl).trans aV
  have a2 := (av 10 rfl).trans aW
  refine j2 (j3 ?_)
  refine r_bin (iv aq) (iv (ad.length : Int)) (bv (decide (aq < (ad.length : Int)))) aw a2 rfl rfl (b_lss) ?_
  refine j0 (j1 (j2 ?_))
  refine if_else hf (fun aC hf => ?_) (fun aC hf => ?_)
  ·refine c_true rfl aC rfl ?_
   refine ja (j1 (j2 (j4 (j2 (j3 ?_)))))
   obtain ⟨x53, a3, hf⟩ := bind_some hf
   refine r_indexAddr (T := 22) (E := 27) aB.sl a3 a1 aw rfl rfl underlying22 sz27 ?_
   intro a4 a5 _ a6 a7
   obtain ⟨ae, af, ag, ah, ai, aj, ak, al, rfl, a8, a9, ba, bb⟩ := Val.cells_iff.1 a6
   refine r_load a4 a5 (Val.ag x53 ae af ag ah ai aj ak al) rfl rfl (loads_row tr27 a7.2) ?_
   refine r_alloc (B := s0.N) 3 aA.size _ [iv 0, iv 0, tv (⟨#[]⟩), nl Val, nl Key, nl Ent, nl ByteArray] ti27 rfl ?_
   intro _ bc am bd
   have be := aA.x am
   refine r_store bd 0 (Val.ag x53 ae af ag ah ai aj ak al) (Val.cs x53 ae af ag ah ai aj ak al) (Val.cs x53 ae af ag ah ai aj ak al) rfl rfl rfl rfl rfl sz27 rfl rfl rfl ?_
   intro _ an bf
   have bg := be.y an
   refine j0 (j1 (j2 (j3 ?_)))
   refine r_load bc 0 (Val.ag x53 ae af ag ah ai aj ak al) rfl rfl (loads_row tr27 (Blk.range bf 0 (Val.cs x53 ae af ag ah ai aj ak al) rfl)) ?_
   obtain ⟨aL, bh, hf⟩ := bind_some hf
   refine r_call [Val.ag x53 ae af ag ah ai aj ak al] (evs1 rfl) rfl (hrec_value_validTree _ _ _ _ (Val.rpvMk (v := x53) ((a8.mono am.wext).mono an.wext) ((a9.mono am.wext).mono an.wext) ((ba.mono am.wext).mono an.wext) ((bb.mono am.wext).mono an.wext)) bh) ?_
   intro _ _ aD bi
   have aM := bg.x aD
   obtain rfl := RpV.bool bi
   refine r_un (bv aL) (bv (!aL)) rfl rfl u_not ?_
   refine j0 (j1 ?_)
   refine if_else hf (fun aE hf => ?_) (fun aE hf => ?_)
   ·refine c_true rfl aE rfl ?_
    refine j2 (j3 ?_)
    refine r_assign (bv false) rfl rfl ?_
    refine j0 (j1 (jb (j7 (j9 ?_))))
    obtain rfl := oi hf
    exact ⟨rfl, _, _, (bv false), rfl, rfl, aM, ⟨rfl, rfl⟩, (RpV.mkBool _ _)⟩
   refine c_false rfl aE rfl ?_
   refine ja (j5 (j1 (j3 ?_)))
   refine r_bin (iv aq) (iv 1) (iv (w64 (aq + 1))) aw rfl rfl rfl (b_add) ?_
   refine r_move (iv (w64 (aq + 1))) rfl rfl ?_
   refine j0 ?_
   obtain rfl := oi hf
   exact ⟨rfl, _, _, rfl, rfl, (((((((((((av).put rfl).put rfl).put rfl).put rfl).put0).put rfl).put rfl).put rfl).put rfl).put rfl), aM, (((((Wext.refl _).trans aK).trans am.wext).trans an.wext).trans aD.wext), rfl, (((aB.ext am).mod an rfl).ext aD)⟩
  refine c_false rfl aC rfl ?_
  refine jc (j8 ?_)
  obtain rfl := oi hf
  exact ⟨rfl, _, _, rfl, rfl, ((av).put rfl), aA, ((Wext.refl _).trans aK), aw, aB⟩
 ·exact ⟨_, _, rfl, rfl, (Agr.refl _ _), aT, (Wext.refl _), aX, (aU.base (by have := ax.size; omega))⟩
 intro e a w hp
 rcases aY with bo | r
 ·replace hf := onEnd_inl hf
  obtain ⟨rfl, _, _, rfl, rfl, _, bj, _, _, _⟩ := hp
  refine j6 (j1 (j2 (j3 ?_)))
  refine r_assign (bv true) rfl rfl ?_
  refine j0 (j1 (jb ?_))
  obtain rfl := oi hf
  refine ret_one (bv true) rfl ⟨rfl, rfl⟩ bj ?_
  exact (RpV.mkBool _ _)
 replace hf := onEnd_inr hf
 obtain ⟨rfl, _, _, bk, rfl, rfl, bl, bm, bn⟩ := hp
 refine j7 (j9 ?_)
 obtain rfl := oi hf
 refine ret_one bk rfl bm bl ?_
 exact bn

theorem ok_value_validTree : ∀ n : Nat, S_value_validTree (value_validTree n)
  | 0 => by intro _ _ _ _ _ h; cases h
  | n + 1 => okB_value_validTree n (ok_value_validTree n)

def S_value_Validate (f : (Val → Option Int)) : Prop := ∀ (s0 : S) (v0 : Value) (a0 : Val) (r : Int), RpV s0 a0 v0 → f a0 = some r → Ctr Go.Proofs.Try.prog 10 [v0] s0 (fun v τ => RpV τ r v)

theorem ok_value_Validate (fuel : Nat) : S_value_Validate (value_Validate fuel) := by
 intro s0 v0 a0 r hp0 hf
 obtain ⟨A1, c2, A4, c5, A7, c8, aa, ab, rfl, h3, h6, h9, ag⟩ := Val.rpv hp0
 unfold value_Validate at hf
 have E0 : ExtB s0.N s0 s0 := ExtB.refl _ _
 refine ctr_of 6 func10 rfl rfl rfl rfl ?_
 refine j2 (j3 ?_)
 refine r_box (B := s0.N) 1 E0.size (Val.ag a0 A1 c2 A4 c5 A7 c8 aa ab) (Val.cs a0 A1 c2 A4 c5 A7 c8 aa ab) rfl rfl rfl ?_
 intro _ ah ac ai
 have aj := E0.x ac
 refine r_assign (iv 0) rfl rfl ?_
 refine j0 (j1 (j2 (j2 (j3 ?_))))
 refine r_load ah 0 (Val.ag a0 A1 c2 A4 c5 A7 c8 aa ab) rfl rfl (loads_row tr27 (Blk.range ai 0 (Val.cs a0 A1 c2 A4 c5 A7 c8 aa ab) rfl)) ?_
 obtain ⟨ae, ak, hf⟩ := bind_some hf
 refine r_call [Val.ag a0 A1 c2 A4 c5 A7 c8 aa ab] (evs1 rfl) rfl ((ok_value_validTree fuel) _ _ _ _ (Val.rpvMk (v := a0) (h3.mono ac.wext) (h6.mono ac.wext) (h9.mono ac.wext) (ag.mono ac.wext)) ak) ?_
 intro _ _ al am
 have af := aj.x al
 obtain rfl := RpV.bool am
 refine r_un (bv ae) (bv (!ae)) rfl rfl u_not ?_
 refine j0 (j1 ?_)
 refine if_else hf (fun ad hf => ?_) (fun ad hf => ?_)
 ·refine c_true rfl ad rfl ?_
  refine j2 (j3 ?_)
  refine r_assign (iv 1) rfl rfl ?_
  refine j0 (j1 (jb (j9 ?_)))
  obtain rfl := oi hf
  refine ret_one (iv 1) rfl ⟨rfl, rfl⟩ af ?_
  exact (RpV.mkInt _ _)
 refine c_false rfl ad rfl ?_
 refine ja (j1 (j2 (j3 ?_)))
 refine r_assign (iv 0) rfl rfl ?_
 refine j0 (j1 (jb ?_))
 obtain rfl := oi hf
 refine ret_one (iv 0) rfl ⟨rfl, rfl⟩ af ?_
 exact (RpV.mkInt _ _)

def S_value_Nodes (f : (Val → Option Int)) : Prop := ∀ (s0 : S) (v0 : Value) (a0 : Val) (r : Int), RpV s0 a0 v0 → f a0 = some r → Ctr Go.Proofs.Try.prog 16 [v0] s0 (fun v τ => RpV τ r v)

theorem okB_value_Nodes {rec_value_Nodes : (Val → Option Int)} (hrec_value_Nodes : S_value_Nodes rec_value_Nodes) : S_value_Nodes (value_Nodes_B rec_value_Nodes) := by
 intro s0 v0 a0 r hp0 hf
 obtain ⟨A1, c2, A4, c5, A7, c8, an, ao, rfl, h3, h6, h9, aH⟩ := Val.rpv hp0
 unfold value_Nodes_B at hf
 have E0 : ExtB s0.N s0 s0 := ExtB.refl _ _
 refine ctr_of 19 func16 rfl rfl rfl rfl ?_
 refine j2 (j3 ?_)
 refine r_box (B := s0.N) 1 E0.size (Val.ag a0 A1 c2 A4 c5 A7 c8 an ao) (Val.cs a0 A1 c2 A4 c5 A7 c8 an ao) rfl rfl rfl ?_
 intro _ aI ap aJ
 have aD := E0.x ap
 refine r_assign (iv 0) rfl rfl ?_
 refine j0 (j1 (j2 (j3 ?_)))
 refine r_assign (iv 1) rfl rfl ?_
 refine j0 (j1 (j2 (j2 (j3 ?_))))
 refine r_load aI 0 (Val.ag a0 A1 c2 A4 c5 A7 c8 an ao) rfl rfl (loads_row tr27 (Blk.range aJ 0 (Val.cs a0 A1 c2 A4 c5 A7 c8 an ao) rfl)) ?_
 obtain ⟨ab, aK, hf⟩ := bind_some hf
 refine r_call [Val.ag a0 A1 c2 A4 c5 A7 c8 an ao] (evs1 rfl) rfl (ok_value_parts _ _ _ _ (Val.rpvMk (v := a0) (h3.mono ap.wext) (h6.mono ap.wext) (h9.mono ap.wext) (aH.mono ap.wext)) aK 1002 (by omega)) ?_
 intro _ aE aL aM
 have aN := aD.x aL
 obtain ⟨aq, ar, rfl, aO⟩ := aM
 refine r_len aq ab.length ar rfl rfl underlying22 ?_
 refine r_move (iv 0) rfl rfl ?_
 refine j0 (j1 (j4 ?_))
 refine gen_F fun am au => ?_
 have aP : am 3 = (iv 1) := (au 3).trans rfl
 have aQ : am 7 = (lv aq ab.length ar) := (au 7).trans rfl
 have aR : am 8 = (iv (ab.length : Int)) := (au 8).trans rfl
 have aS : am 9 = (iv 0) := (au 9).trans rfl
 obtain ⟨ax, aT, hf⟩ := bind_some hf
 refine wp_mono (wp_iter (step := value_Nodes_l1 rec_value_Nodes ab) (fun q a w => ∃ (F : Fr) (τ : S), a = fr 19 F ∧ w = τ.w ∧ Agr [3, 5, 9, 10, 11, 12, 13, 14, 15, 16, 17] F am ∧ ExtB s0.N s0 τ ∧ Wext aE τ ∧ F 3 = (iv q.1) ∧ F 9 = (iv q.2) ∧ Own s0.N 1002 27 τ ab aq ar) (fun q e a w => e = .exit 0 ∧ ∃ (F : Fr) (τ : S), a = fr 19 F ∧ w = τ.w ∧ Agr [3, 5, 9, 10, 11, 12, 13, 14, 15, 16, 17] F am ∧ ExtB s0.N s0 τ ∧ Wext aE τ ∧ F 3 = (iv q.1) ∧ F 9 = (iv q.2) ∧ Own s0.N 1002 27 τ ab aq ar) (by rintro _ a w ⟨h, _⟩; cases h) ?_ _ _ _ _ _ aT ?_) ?_
 ·intro aa fl a w hf hI
  obtain ⟨_, _, rfl, rfl, av, ay, aF, aG, aw, az⟩ := hI
  unfold value_Nodes_l1 at hf
  have aU := (av 7 rfl).trans aQ
  have aV := (av 8 rfl).trans aR
  refine j2 (j3 ?_)
  refine r_bin (iv aa.2) (iv (ab.length : Int)) (bv (decide (aa.2 < (ab.length : Int)))) aw aV rfl rfl (b_lss) ?_
  refine j0 (j1 (j2 ?_))
  refine if_else hf (fun aA hf => ?_) (fun aA hf => ?_)
  ·refine c_true rfl aA rfl ?_
   refine ja (j1 (j2 (j4 (j2 (j3 ?_)))))
   obtain ⟨x48, aW, hf⟩ := bind_some hf
   refine r_indexAddr (T := 22) (E := 27) az.sl aW aU aw rfl rfl underlying22 sz27 ?_
   intro aX aY _ aZ a1
   obtain ⟨ac, ad, ae, af, ag, ah, ai, aj, rfl, a2, a3, a4, a5⟩ := Val.cells_iff.1 aZ
   refine r_load aX aY (Val.ag x48 ac ad ae af ag ah ai aj) rfl rfl (loads_row tr27 a1.2) ?_
   refine r_alloc (B := s0.N) 3 ay.size _ [iv 0, iv 0, tv (⟨#[]⟩), nl Val, nl Key, nl Ent, nl ByteArray] ti27 rfl ?_
   intro _ a6 ak a7
   have a8 := ay.x ak
   refine r_store a7 0 (Val.ag x48 ac ad ae af ag ah ai aj) (Val.cs x48 ac ad ae af ag ah ai aj) (Val.cs x48 ac ad ae af ag ah ai aj) rfl rfl rfl rfl rfl sz27 rfl rfl rfl ?_
   intro _ al a9
   have ba := a8.y al
   refine j0 (j1 (j3 ?_))
   refine r_move (iv aa.1) aG rfl ?_
   refine r_load a6 0 (Val.ag x48 ac ad ae af ag ah ai aj) rfl rfl (loads_row tr27 (Blk.range a9 0 (Val.cs x48 ac ad ae af ag ah ai aj) rfl)) ?_
   obtain ⟨aB, bb, hf⟩ := bind_some hf
   refine r_call [Val.ag x48 ac ad ae af ag ah ai aj] (evs1 rfl) rfl (hrec_value_Nodes _ _ _ _ (Val.rpvMk (v := x48) ((a2.mono ak.wext).mono al.wext) ((a3.mono ak.wext).mono al.wext) ((a4.mono ak.wext).mono al.wext) ((a5.mono ak.wext).mono al.wext)) bb) ?_
   intro _ _ aC bc
   have bd := ba.x aC
   obtain rfl := RpV.int bc
   refine r_bin (iv aa.1) (iv aB) (iv (w64 (aa.1 + aB))) rfl rfl rfl rfl (b_add) ?_
   refine r_assign (iv (w64 (aa.1 + aB))) rfl rfl ?_
   refine j0 (j5 (j1 (j3 ?_)))
   refine r_bin (iv aa.2) (iv 1) (iv (w64 (aa.2 + 1))) aw rfl rfl rfl (b_add) ?_
   refine r_move (iv (w64 (aa.2 + 1))) rfl rfl ?_
   refine j0 ?_
   obtain rfl := oi hf
   exact ⟨rfl, _, _, rfl, rfl, (((((((((((((av).put rfl).put rfl).put rfl).put rfl).put0).put rfl).put rfl).put rfl).put rfl).put rfl).put rfl).put rfl), bd, (((((Wext.refl _).trans aF).trans ak.wext).trans al.wext).trans aC.wext), rfl, rfl, (((az.ext ak).mod al rfl).ext aC)⟩
  refine c_false rfl aA rfl ?_
  refine jc (j8 ?_)
  obtain rfl := oi hf
  exact ⟨rfl, _, _, rfl, rfl, ((av).put rfl), ay, ((Wext.refl _).trans aF), aG, aw, az⟩
 ·exact ⟨_, _, rfl, rfl, (Agr.refl _ _), aN, (Wext.refl _), aP, aS, (aO.base (by have := aD.size; omega))⟩
 rintro e a w ⟨rfl, bg, bh, rfl, rfl, bi, be, bj, bf, bk, bl⟩
 refine j6 (j1 (j2 (j3 ?_)))
 refine r_move (iv ax.1) bf rfl ?_
 refine r_assign (iv ax.1) rfl rfl ?_
 refine j0 (j1 (jb ?_))
 obtain rfl := oi hf
 refine ret_one (iv ax.1) rfl ⟨rfl, rfl⟩ be ?_
 exact (RpV.mkInt _ _)

theorem ok_value_Nodes : ∀ n : Nat, S_value_Nodes (value_Nodes n)
  | 0 => by intro _ _ _ _ _ h; cases h
  | n + 1 => okB_value_Nodes (ok_value_Nodes n)

def S_value_Height (f : (Val → Option Int)) : Prop := ∀ (s0 : S) (v0 : Value) (a0 : Val) (r : Int), RpV s0 a0 v0 → f a0 = some r → Ctr Go.Proofs.Try.prog 18 [v0] s0 (fun v τ => RpV τ r v)

theorem okB_value_Height {rec_value_Height : (Val → Option Int)} (hrec_value_Height : S_value_Height rec_value_Height) : S_value_Height (value_Height_B rec_value_Height) := by
 intro s0 v0 a0 r hp0 hf
 obtain ⟨A1, c2, A4, c5, A7, c8, an, ao, rfl, h3, h6, h9, aH⟩ := Val.rpv hp0
 unfold value_Height_B at hf
 have E0 : ExtB s0.N s0 s0 := ExtB.refl _ _
 refine ctr_of 20 func18 rfl rfl rfl rfl ?_
 refine j2 (j3 ?_)
 refine r_box (B := s0.N) 1 E0.size (Val.ag a0 A1 c2 A4 c5 A7 c8 an ao) (Val.cs a0 A1 c2 A4 c5 A7 c8 an ao) rfl rfl rfl ?_
 intro _ aI ap aJ
 have aC := E0.x ap
 refine r_assign (iv 0) rfl rfl ?_
 refine j0 (j1 (j2 (j3 ?_)))
 refine r_assign (iv 0) rfl rfl ?_
 refine j0 (j1 (j2 (j2 (j3 ?_))))
 refine r_load aI 0 (Val.ag a0 A1 c2 A4 c5 A7 c8 an ao) rfl rfl (loads_row tr27 (Blk.range aJ 0 (Val.cs a0 A1 c2 A4 c5 A7 c8 an ao) rfl)) ?_
 obtain ⟨aa, aK, hf⟩ := bind_some hf
 refine r_call [Val.ag a0 A1 c2 A4 c5 A7 c8 an ao] (evs1 rfl) rfl (ok_value_parts _ _ _ _ (Val.rpvMk (v := a0) (h3.mono ap.wext) (h6.mono ap.wext) (h9.mono ap.wext) (aH.mono ap.wext)) aK 1002 (by omega)) ?_
 intro _ aD aL aM
 have aN := aC.x aL
 obtain ⟨ar, au, rfl, aO⟩ := aM
 refine r_len ar aa.length au rfl rfl underlying22 ?_
 refine r_move (iv 0) rfl rfl ?_
 refine j0 (j1 (j4 ?_))
 refine gen_F fun am av => ?_
 have aP : am 3 = (iv 0) := (av 3).trans rfl
 have aQ : am 7 = (lv ar aa.length au) := (av 7).trans rfl
 have aR : am 8 = (iv (aa.length : Int)) := (av 8).trans rfl
 have aS : am 9 = (iv 0) := (av 9).trans rfl
 obtain ⟨aq, aT, hf⟩ := bind_some hf
 refine wp_mono (wp_iter (step := value_Height_l1 rec_value_Height aa) (fun q a w => ∃ (F : Fr) (τ : S), a = fr 20 F ∧ w = τ.w ∧ Agr [3, 5, 9, 10, 11, 12, 13, 14, 15, 16, 17] F am ∧ ExtB s0.N s0 τ ∧ Wext aD τ ∧ F 3 = (iv q.1) ∧ F 9 = (iv q.2) ∧ Own s0.N 1002 27 τ aa ar au) (fun q e a w => e = .exit 0 ∧ ∃ (F : Fr) (τ : S), a = fr 20 F ∧ w = τ.w ∧ Agr [3, 5, 9, 10, 11, 12, 13, 14, 15, 16, 17] F am ∧ ExtB s0.N s0 τ ∧ Wext aD τ ∧ F 3 = (iv q.1) ∧ F 9 = (iv q.2) ∧ Own s0.N 1002 27 τ aa ar au) (by rintro _ a w ⟨h, _⟩; cases h) ?_ _ _ _ _ _ aT ?_) ?_
 ·intro ab fl a w hf hI
  obtain ⟨_, _, rfl, rfl, aw, ay, aE, aF, ax, az⟩ := hI
  unfold value_Height_l1 at hf
  have aU := (aw 7 rfl).trans aQ
  have aV := (aw 8 rfl).trans aR
  refine j2 (j3 ?_)
  refine r_bin (iv ab.2) (iv (aa.length : Int)) (bv (decide (ab.2 < (aa.length : Int)))) ax aV rfl rfl (b_lss) ?_
  refine j0 (j1 (j2 ?_))
  refine if_else hf (fun aA hf => ?_) (fun aA hf => ?_)
  ·refine c_true rfl aA rfl ?_
   refine ja (j1 (j2 (j4 (j2 (j3 ?_)))))
   obtain ⟨x48, aW, hf⟩ := bind_some hf
   refine r_indexAddr (T := 22) (E := 27) az.sl aW aU ax rfl rfl underlying22 sz27 ?_
   intro aX aY _ aZ a1
   obtain ⟨ac, ad, ae, af, ag, ah, ai, aj, rfl, a2, a3, a4, a5⟩ := Val.cells_iff.1 aZ
   refine r_load aX aY (Val.ag x48 ac ad ae af ag ah ai aj) rfl rfl (loads_row tr27 a1.2) ?_
   refine r_alloc (B := s0.N) 3 ay.size _ [iv 0, iv 0, tv (⟨#[]⟩), nl Val, nl Key, nl Ent, nl ByteArray] ti27 rfl ?_
   intro _ a6 ak a7
   have a8 := ay.x ak
   refine r_store a7 0 (Val.ag x48 ac ad ae af ag ah ai aj) (Val.cs x48 ac ad ae af ag ah ai aj) (Val.cs x48 ac ad ae af ag ah ai aj) rfl rfl rfl rfl rfl sz27 rfl rfl rfl ?_
   intro _ al a9
   have ba := a8.y al
   refine j0 (j1 (j3 ?_))
   refine r_move (iv ab.1) aF rfl ?_
   refine r_load a6 0 (Val.ag x48 ac ad ae af ag ah ai aj) rfl rfl (loads_row tr27 (Blk.range a9 0 (Val.cs x48 ac ad ae af ag ah ai aj) rfl)) ?_
   obtain ⟨aG, bb, hf⟩ := bind_some hf
   refine r_call [Val.ag x48 ac ad ae af ag ah ai aj] (evs1 rfl) rfl (hrec_value_Height _ _ _ _ (Val.rpvMk (v := x48) ((a2.mono ak.wext).mono al.wext) ((a3.mono ak.wext).mono al.wext) ((a4.mono ak.wext).mono al.wext) ((a5.mono ak.wext).mono al.wext)) bb) ?_
   intro _ _ aB bc
   have bd := ba.x aB
   obtain rfl := RpV.int bc
   refine r_max .i64 ab.1 aG rfl rfl rfl rfl ?_
   refine r_assign (iv (max ab.1 aG)) rfl rfl ?_
   refine j0 (j5 (j1 (j3 ?_)))
   refine r_bin (iv ab.2) (iv 1) (iv (w64 (ab.2 + 1))) ax rfl rfl rfl (b_add) ?_
   refine r_move (iv (w64 (ab.2 + 1))) rfl rfl ?_
   refine j0 ?_
   obtain rfl := oi hf
   exact ⟨rfl, _, _, rfl, rfl, (((((((((((((aw).put rfl).put rfl).put rfl).put rfl).put0).put rfl).put rfl).put rfl).put rfl).put rfl).put rfl).put rfl), bd, (((((Wext.refl _).trans aE).trans ak.wext).trans al.wext).trans aB.wext), rfl, rfl, (((az.ext ak).mod al rfl).ext aB)⟩
  refine c_false rfl aA rfl ?_
  refine jc (j8 ?_)
  obtain rfl := oi hf
  exact ⟨rfl, _, _, rfl, rfl, ((aw).put rfl), ay, ((Wext.refl _).trans aE), aF, ax, az⟩
 ·exact ⟨_, _, rfl, rfl, (Agr.refl _ _), aN, (Wext.refl _), aP, aS, (aO.base (by have := aC.size; omega))⟩
 rintro e a w ⟨rfl, bg, bh, rfl, rfl, bi, be, bj, bf, bk, bl⟩
 refine j6 (j1 (j2 (j3 ?_)))
 refine r_move (iv aq.1) bf rfl ?_
 refine r_bin (iv aq.1) (iv 1) (iv (w64 (aq.1 + 1))) rfl rfl rfl rfl (b_add) ?_
 refine r_assign (iv (w64 (aq.1 + 1))) rfl rfl ?_
 refine j0 (j1 (jb ?_))
 obtain rfl := oi hf
 refine ret_one (iv (w64 (aq.1 + 1))) rfl ⟨rfl, rfl⟩ be ?_
 exact (RpV.mkInt _ _)

theorem ok_value_Height : ∀ n : Nat, S_value_Height (value_Height n)
  | 0 => by intro _ _ _ _ _ h; cases h
  | n + 1 => okB_value_Height (ok_value_Height n)

def S_value_Nil (f : (Option Val)) : Prop := ∀ (s0 : S) (r : Val), f = some r → Ctr Go.Proofs.Try.prog 33 [] s0 (fun v τ => RpV τ r v)

theorem ok_value_Nil : S_value_Nil value_Nil := by
 intro s0 r hf
 unfold value_Nil at hf
 have E0 : ExtB s0.N s0 s0 := ExtB.refl _ _
 refine ctr_of 2 func33 rfl rfl rfl rfl ?_
 refine j2 (j3 ?_)
 refine r_alloc (B := s0.N) 1 E0.size _ [iv 0, iv 0, tv (⟨#[]⟩), nl Val, nl Key, nl Ent, nl ByteArray] ti27 rfl ?_
 intro s2 b1 k3 hb4
 have E5 := E0.x k3
 refine j0 (j1 (j2 (j3 ?_)))
 refine r_build tst27 [(0, iv 5)] [iv 5, iv 0, tv (⟨#[]⟩), nl Val, nl Key, nl Ent, nl ByteArray] (eps_cons rfl eps_nil) rfl rfl ?_
 refine r_store hb4 0 (.agg #[iv 5, iv 0, tv (⟨#[]⟩), nl Val, nl Key, nl Ent, nl ByteArray]) [iv 5, iv 0, tv (⟨#[]⟩), nl Val, nl Key, nl Ent, nl ByteArray] [iv 5, iv 0, tv (⟨#[]⟩), nl Val, nl Key, nl Ent, nl ByteArray] rfl rfl rfl rfl rfl sz27 rfl rfl rfl ?_
 intro s6 hm7 hb8
 have E9 := E5.y hm7
 refine j0 (j1 (jb ?_))
 obtain rfl := oi hf
 refine ret_one (.agg #[iv 5, iv 0, tv (⟨#[]⟩), nl Val, nl Key, nl Ent, nl ByteArray]) rfl ⟨rfl, _, rfl, loads_row tr27 (Blk.range hb8 0 [iv 5, iv 0, tv (⟨#[]⟩), nl Val, nl Key, nl Ent, nl ByteArray] rfl)⟩ E9 ?_
 exact (Val.rpvMk (v := (Val.mk 5 0 (⟨#[]⟩) ([] : List Val) ([] : List Key) ([] : List Ent) ([] : List ByteArray))) (Sl.nil_ _ _ _ (Nat.zero_le _)) (Sl.nil_ _ _ _ (Nat.zero_le _)) (Sl.nil_ _ _ _ (Nat.zero_le _)) (Sl.nil_ _ _ _ (Nat.zero_le _)))

def S_slices_Clone_api_Key_api_Key (f : ((List Key) → Option (List Key))) : Prop := ∀ (s0 : S) (v0 : Value) (a0 : (List Key)) (r : (List Key)), RpV s0 a0 v0 → f a0 = some r → ∀ id : Nat, 1000 ≤ id → Ctr Go.Proofs.Try.prog 68 [v0] s0 (fun v τ => OwnV s0.N id 60 τ r v)

theorem ok_slices_Clone_api_Key_api_Key : S_slices_Clone_api_Key_api_Key slices_Clone_api_Key_api_Key := by
 intro s0 v0 a0 r hp0 hf id hid
 obtain ⟨A1, c2, rfl, h3⟩ := RpV.list hp0
 unfold slices_Clone_api_Key_api_Key at hf
 have E0 : ExtB s0.N s0 s0 := ExtB.refl _ _
 refine ctr_of 8 func68 rfl rfl rfl rfl ?_
 refine j2 (j3 ?_)
 refine r_assign (nl Key) rfl rfl ?_
 refine j0 (j1 (j2 (j2 (j3 ?_))))
 refine r_move (lv A1 a0.length c2) rfl rfl ?_
 refine r_bin (lv A1 a0.length c2) (nl Key) (bv A1.isNone) rfl rfl rfl rfl (b_nil underlying23) ?_
 refine j0 (j1 ?_)
 refine (Bool.eq_false_or_eq_true A1.isNone).elim (fun hn4 => ?_) (fun hn4 => ?_)
 ·have k5 := h3.nil_of hn4
  replace hf : some ([] : List Key) = some r := by simpa [k5, room] using hf
  refine c_true rfl hn4 rfl ?_
  refine j2 (j3 ?_)
  refine r_assign (nl Key) rfl rfl ?_
  refine j0 (j1 (jb (j9 ?_)))
  obtain rfl := oi hf
  refine ret_one (nl Key) rfl ⟨rfl, rfl⟩ E0 ?_
  exact ⟨_, _, rfl, Own.nil_ _⟩
 refine c_false rfl hn4 rfl ?_
 refine ja (j1 (j2 (j3 ?_)))
 refine r_buildSlice0 ts23 ?_
 intro s7 A6 k8
 have E9 := E0.x k8
 refine r_move (lv A1 a0.length c2) rfl rfl ?_
 obtain ⟨_, ac, hf⟩ := bind_some hf
 refine r_append (B := s0.N) (id := id) (E := 60) (xs := ([] : List Key)) (ys := a0) E9.size (Own.nil_ _) (h3.mono k8.wext) ts23 (room_some ac) rfl rfl rfl rfl ?_
 intro _ aa ab ad ae
 have af := E9.y ad
 refine r_assign (lv aa a0.length ab) rfl rfl ?_
 refine j0 (j1 (jb ?_))
 obtain rfl := oi hf
 refine ret_one (lv aa a0.length ab) rfl ⟨rfl, rfl⟩ af ?_
 exact ⟨_, _, rfl, ae⟩

def S_slices_Clone_string_string (f : ((List ByteArray) → Option (List ByteArray))) : Prop := ∀ (s0 : S) (v0 : Value) (a0 : (List ByteArray)) (r : (List ByteArray)), RpV s0 a0 v0 → f a0 = some r → ∀ id : Nat, 1000 ≤ id → Ctr Go.Proofs.Try.prog 69 [v0] s0 (fun v τ => OwnV s0.N id 9 τ r v)

theorem ok_slices_Clone_string_string : S_slices_Clone_string_string slices_Clone_string_string := by
 intro s0 v0 a0 r hp0 hf id hid
 obtain ⟨A1, c2, rfl, h3⟩ := RpV.list hp0
 unfold slices_Clone_string_string at hf
 have E0 : ExtB s0.N s0 s0 := ExtB.refl _ _
 refine ctr_of 8 func69 rfl rfl rfl rfl ?_
 refine j2 (j3 ?_)
 refine r_assign (nl ByteArray) rfl rfl ?_
 refine j0 (j1 (j2 (j2 (j3 ?_))))
 refine r_move (lv A1 a0.length c2) rfl rfl ?_
 refine r_bin (lv A1 a0.length c2) (nl ByteArray) (bv A1.isNone) rfl rfl rfl rfl (b_nil underlying25) ?_
 refine j0 (j1 ?_)
 refine (Bool.eq_false_or_eq_true A1.isNone).elim (fun hn4 => ?_) (fun hn4 => ?_)
 ·have k5 := h3.nil_of hn4
  replace hf : some ([] : List ByteArray) = some r := by simpa [k5, room] using hf
  refine c_true rfl hn4 rfl ?_
  refine j2 (j3 ?_)
  refine r_assign (nl ByteArray) rfl rfl ?_
  refine j0 (j1 (jb (j9 ?_)))
  obtain rfl := oi hf
  refine ret_one (nl ByteArray) rfl ⟨rfl, rfl⟩ E0 ?_
  exact ⟨_, _, rfl, Own.nil_ _⟩
 refine c_false rfl hn4 rfl ?_
 refine ja (j1 (j2 (j3 ?_)))
 refine r_buildSlice0 ts25 ?_
 intro s7 A6 k8
 have E9 := E0.x k8
 refine r_move (lv A1 a0.length c2) rfl rfl ?_
 obtain ⟨_, ac, hf⟩ := bind_some hf
 refine r_append (B := s0.N) (id := id) (E := 9) (xs := ([] : List ByteArray)) (ys := a0) E9.size (Own.nil_ _) (h3.mono k8.wext) ts25 (room_some ac) rfl rfl rfl rfl ?_
 intro _ aa ab ad ae
 have af := E9.y ad
 refine r_assign (lv aa a0.length ab) rfl rfl ?_
 refine j0 (j1 (jb ?_))
 obtain rfl := oi hf
 refine ret_one (lv aa a0.length ab) rfl ⟨rfl, rfl⟩ af ?_
 exact ⟨_, _, rfl, ae⟩

def S_value_cloneAll (f : ((List Val) → Option (List Val))) : Prop := ∀ (s0 : S) (v0 : Value) (a0 : (List Val)) (r : (List Val)), RpV s0 a0 v0 → f a0 = some r → Ctr Go.Proofs.Try.prog 52 [v0] s0 (fun v τ => RpV τ r v)

def S_value_clone (f : (Val → Option Val)) : Prop := ∀ (s0 : S) (v0 : Value) (a0 : Val) (r : Val), RpV s0 a0 v0 → f a0 = some r → Ctr Go.Proofs.Try.prog 54 [v0] s0 (fun v τ => RpV τ r v)

def S_value_cloneEntries (f : ((List Ent) → Option (List Ent))) : Prop := ∀ (s0 : S) (v0 : Value) (a0 : (List Ent)) (r : (List Ent)), RpV s0 a0 v0 → f a0 = some r → Ctr Go.Proofs.Try.prog 70 [v0] s0 (fun v τ => RpV τ r v)

theorem okB_value_cloneAll {rec_value_cloneAll : ((List Val) → Option (List Val))} {rec_value_clone : (Val → Option Val)} {rec_value_cloneEntries : ((List Ent) → Option (List Ent))} (_hrec_value_cloneAll : S_value_cloneAll rec_value_cloneAll) (hrec_value_clone : S_value_clone rec_value_clone) (_hrec_value_cloneEntries : S_value_cloneEntries rec_value_cloneEntries) : S_value_cloneAll (value_cloneAll_B rec_value_cloneAll rec_value_clone rec_value_cloneEntries) := by
 intro s0 v0 a0 r hp0 hf
 obtain ⟨A1, c2, rfl, h3⟩ := RpV.list hp0
 unfold value_cloneAll_B at hf
 have E0 : ExtB s0.N s0 s0 := ExtB.refl _ _
 refine ctr_of 19 func52 rfl rfl rfl rfl ?_
 refine j2 (j3 ?_)
 refine r_assign (nl Val) rfl rfl ?_
 refine j0 (j1 (j2 (j3 ?_)))
 refine r_assign (nl Val) rfl rfl ?_
 refine j0 (j1 (j2 (j2 (j3 ?_))))
 refine r_move (lv A1 a0.length c2) rfl rfl ?_
 refine r_len A1 a0.length c2 rfl rfl underlying22 ?_
 refine r_move (iv 0) rfl rfl ?_
 refine j0 (j1 (j4 ?_))
 refine gen_F fun F4 hg5 => ?_
 have f7 : F4 3 = (nl Val) := (hg5 3).trans rfl
 have f8 : F4 6 = (lv A1 a0.length c2) := (hg5 6).trans rfl
 have f9 : F4 7 = (iv (a0.length : Int)) := (hg5 7).trans rfl
 have aH : F4 8 = (iv 0) := (hg5 8).trans rfl
 obtain ⟨ao, aI, hf⟩ := bind_some hf
 refine wp_mono (wp_iter (step := value_cloneAll_l1 rec_value_clone a0) (fun q a w => ∃ (F : Fr) (τ : S) (A1 : Option Addr) (c1 : Nat), a = fr 19 F ∧ w = τ.w ∧ Agr [3, 5, 8, 9, 10, 11, 12, 13, 14, 15, 16, 17] F F4 ∧ ExtB s0.N s0 τ ∧ Wext s0 τ ∧ F 3 = (lv A1 q.1.length c1) ∧ Own s0.N 1 27 τ q.1 A1 c1 ∧ F 8 = (iv q.2)) (fun q e a w => e = .exit 0 ∧ ∃ (F : Fr) (τ : S) (A1 : Option Addr) (c1 : Nat), a = fr 19 F ∧ w = τ.w ∧ Agr [3, 5, 8, 9, 10, 11, 12, 13, 14, 15, 16, 17] F F4 ∧ ExtB s0.N s0 τ ∧ Wext s0 τ ∧ F 3 = (lv A1 q.1.length c1) ∧ Own s0.N 1 27 τ q.1 A1 c1 ∧ F 8 = (iv q.2)) (by rintro _ a w ⟨h, _⟩; cases h) ?_ _ _ _ _ _ aI ?_) ?_
 ·intro aa fl a w hf hI
  obtain ⟨_, _, ay, az, rfl, rfl, al, ap, aq, aA, aB, am⟩ := hI
  unfold value_cloneAll_l1 at hf
  have aJ := (al 6 rfl).trans f8
  have aK := (al 7 rfl).trans f9
  refine j2 (j3 ?_)
  refine r_bin (iv aa.2) (iv (a0.length : Int)) (bv (decide (aa.2 < (a0.length : Int)))) am aK rfl rfl (b_lss) ?_
  refine j0 (j1 (j2 ?_))
  refine if_else hf (fun ar hf => ?_) (fun ar hf => ?_)
  ·refine c_true rfl ar rfl ?_
   refine ja (j1 (j2 (j4 (j2 (j3 ?_)))))
   obtain ⟨x26, aL, hf⟩ := bind_some hf
   refine r_indexAddr (T := 22) (E := 27) (h3.mono aq) aL aJ am rfl rfl underlying22 sz27 ?_
   intro aM aN _ aO aP
   obtain ⟨ab, ac, ad, ae, af, ag, ah, ai, rfl, aQ, aR, aS, aT⟩ := Val.cells_iff.1 aO
   refine r_load aM aN (Val.ag x26 ab ac ad ae af ag ah ai) rfl rfl (loads_row tr27 aP.2) ?_
   refine r_alloc (B := s0.N) 2 ap.size _ [iv 0, iv 0, tv (⟨#[]⟩), nl Val, nl Key, nl Ent, nl ByteArray] ti27 rfl ?_
   intro _ aU aj aV
   have aW := ap.x aj
   refine r_store aV 0 (Val.ag x26 ab ac ad ae af ag ah ai) (Val.cs x26 ab ac ad ae af ag ah ai) (Val.cs x26 ab ac ad ae af ag ah ai) rfl rfl rfl rfl rfl sz27 rfl rfl rfl ?_
   intro _ ak aX
   have aY := aW.y ak
   refine j0 (j1 (j3 ?_))
   refine r_move (lv ay aa.1.length az) aA rfl ?_
   refine r_load aU 0 (Val.ag x26 ab ac ad ae af ag ah ai) rfl rfl (loads_row tr27 (Blk.range aX 0 (Val.cs x26 ab ac ad ae af ag ah ai) rfl)) ?_
   obtain ⟨an, aZ, hf⟩ := bind_some hf
   refine r_call [Val.ag x26 ab ac ad ae af ag ah ai] (evs1 rfl) rfl (hrec_value_clone _ _ _ _ (Val.rpvMk (v := x26) ((aQ.mono aj.wext).mono ak.wext) ((aR.mono aj.wext).mono ak.wext) ((aS.mono aj.wext).mono ak.wext) ((aT.mono aj.wext).mono ak.wext)) aZ) ?_
   intro _ _ au a1
   have aC := aY.x au
   obtain ⟨a2, a3, a4, a5, a6, a7, a8, a9, rfl, ba, bb, bc, bd⟩ := Val.rpv a1
   refine r_buildSlice (B := s0.N) (E := 27) 3 aC.size ts22 (xs := [an]) [Val.ag an a2 a3 a4 a5 a6 a7 a8 a9] (eps_cons rfl eps_nil) rfl rfl rfl (by decide) rfl (by simp [Value.cells, Rp.sz]) ⟨_, _, rfl, (Val.cells_iff.2 ⟨_, _, _, _, _, _, _, _, rfl, ba, bb, bc, bd⟩), rfl⟩ ?_
   intro _ _ _ av be
   have aD := aC.x av
   obtain ⟨_, bf, hf⟩ := bind_some hf
   refine r_append (B := s0.N) (id := 1) (E := 27) (xs := aa.1) (ys := [an]) aD.size (((((aB.ext aj).mod ak rfl).ext au).ext av)) be.sl ts22 (room_some bf) rfl rfl rfl rfl ?_
   intro _ aE aF aG bg
   have bh := aD.y aG
   refine r_assign (lv aE (aa.1 ++ [an]).length aF) rfl rfl ?_
   refine j0 (j5 (j1 (j3 ?_)))
   refine r_bin (iv aa.2) (iv 1) (iv (w64 (aa.2 + 1))) am rfl rfl rfl (b_add) ?_
   refine r_move (iv (w64 (aa.2 + 1))) rfl rfl ?_
   refine j0 ?_
   obtain rfl := oi hf
   exact ⟨rfl, _, _, aE, aF, rfl, rfl, ((((((((((((((al).put rfl).put rfl).put rfl).put rfl).put0).put rfl).put rfl).put rfl).put rfl).put rfl).put rfl).put rfl).put rfl), bh, (((((((Wext.refl _).trans aq).trans aj.wext).trans ak.wext).trans au.wext).trans av.wext).trans aG.wext), rfl, (bg), rfl⟩
  refine c_false rfl ar rfl ?_
  refine jc (j8 ?_)
  obtain rfl := oi hf
  exact ⟨rfl, _, _, ay, az, rfl, rfl, ((al).put rfl), ap, ((Wext.refl _).trans aq), aA, (aB), am⟩
 ·exact ⟨_, _, none, 0, rfl, rfl, (Agr.refl _ _), E0, (Wext.refl _), f7, (Own.nil_ _), aH⟩
 rintro e a w ⟨rfl, bl, bm, aw, ax, rfl, rfl, bn, bi, bo, bj, bk, bp⟩
 refine j6 (j1 (j2 (j3 ?_)))
 refine r_move (lv aw ao.1.length ax) bj rfl ?_
 refine r_assign (lv aw ao.1.length ax) rfl rfl ?_
 refine j0 (j1 (jb ?_))
 obtain rfl := oi hf
 refine ret_one (lv aw ao.1.length ax) rfl ⟨rfl, rfl⟩ bi ?_
 exact (RpV.mkList bk.sl)

theorem okB_value_clone {rec_value_cloneAll : ((List Val) → Option (List Val))} {rec_value_clone : (Val → Option Val)} {rec_value_cloneEntries : ((List Ent) → Option (List Ent))} (hrec_value_cloneAll : S_value_cloneAll rec_value_cloneAll) (_hrec_value_clone : S_value_clone rec_value_clone) (hrec_value_cloneEntries : S_value_cloneEntries rec_value_cloneEntries) : S_value_clone (value_clone_B rec_value_cloneAll rec_value_clone rec_value_cloneEntries) := by
 intro s0 v0 a0 r hp0 hf
 obtain ⟨A1, c2, A4, c5, A7, c8, ao, ap, rfl, h3, h6, h9, aJ⟩ := Val.rpv hp0
 unfold value_clone_B at hf
 have E0 : ExtB s0.N s0 s0 := ExtB.refl _ _
 refine ctr_of 20 func54 rfl rfl rfl rfl ?_
 refine j2 (j3 ?_)
 refine r_box (B := s0.N) 1 E0.size (Val.ag a0 A1 c2 A4 c5 A7 c8 ao ap) (Val.cs a0 A1 c2 A4 c5 A7 c8 ao ap) rfl rfl rfl ?_
 intro _ ab aA aC
 have aD := E0.x aA
 refine r_alloc (B := s0.N) 2 aD.size _ [iv 0, iv 0, tv (⟨#[]⟩), nl Val, nl Key, nl Ent, nl ByteArray] ti27 rfl ?_
 intro _ _ an aK
 have aL := aD.x an
 refine j0 (j1 (j2 (j3 ?_)))
 refine r_fieldAddr ab 0 3 3 rfl rfl fo27_3 rfl ?_
 refine r_load ab 3 (lv A1 a0.Kids.length c2) rfl rfl (loads_one to22 (((aC.ext an).cell 3).trans rfl)) ?_
 obtain ⟨aa, aM, hf⟩ := bind_some hf
 refine r_call [lv A1 a0.Kids.length c2] (evs1 rfl) rfl (hrec_value_cloneAll _ _ _ _ (RpV.mkList ((h3.mono aA.wext).mono an.wext)) aM) ?_
 intro _ _ aq aN
 have aO := aL.x aq
 obtain ⟨ac, ad, rfl, aP⟩ := RpV.list aN
 refine r_fieldAddr ab 0 3 3 rfl rfl fo27_3 rfl ?_
 refine r_store ((aC.ext an).ext aq) 3 (lv ac aa.length ad) [lv ac aa.length ad] [iv a0.Kind, iv a0.Int_, tv a0.Text, lv ac aa.length ad, lv A4 a0.Keys.length c5, lv A7 a0.Entries.length c8, lv ao a0.Labels.length ap] rfl rfl rfl rfl rfl sz22 rfl rfl rfl ?_
 intro _ ar aE
 have aF := aO.y ar
 refine j0 (j1 (j2 (j3 ?_)))
 refine r_fieldAddr ab 0 4 4 rfl rfl fo27_4 rfl ?_
 refine r_load ab 4 (lv A4 a0.Keys.length c5) rfl rfl (loads_one to23 ((aE.cell 4).trans rfl)) ?_
 obtain ⟨ae, aQ, hf⟩ := bind_some hf
 refine r_call [lv A4 a0.Keys.length c5] (evs1 rfl) rfl (ok_slices_Clone_api_Key_api_Key _ _ _ _ (RpV.mkList ((((h6.mono aA.wext).mono an.wext).mono aq.wext).mono ar.wext)) aQ 1003 (by omega)) ?_
 intro _ _ au aR
 have aS := aF.x au
 obtain ⟨af, ag, rfl, aT⟩ := aR
 refine r_fieldAddr ab 0 4 4 rfl rfl fo27_4 rfl ?_
 refine r_store (aE.ext au) 4 (lv af ae.length ag) [lv af ae.length ag] [iv a0.Kind, iv a0.Int_, tv a0.Text, lv ac aa.length ad, lv af ae.length ag, lv A7 a0.Entries.length c8, lv ao a0.Labels.length ap] rfl rfl rfl rfl rfl sz23 rfl rfl rfl ?_
 intro _ av aG
 have aH := aS.y av
 refine j0 (j1 (j2 (j3 ?_)))
 refine r_fieldAddr ab 0 6 6 rfl rfl fo27_6 rfl ?_
 refine r_load ab 6 (lv ao a0.Labels.length ap) rfl rfl (loads_one to25 ((aG.cell 6).trans rfl)) ?_
 obtain ⟨ah, aU, hf⟩ := bind_some hf
 refine r_call [lv ao a0.Labels.length ap] (evs1 rfl) rfl (ok_slices_Clone_string_string _ _ _ _ (RpV.mkList ((((((aJ.mono aA.wext).mono an.wext).mono aq.wext).mono ar.wext).mono au.wext).mono av.wext)) aU 1004 (by omega)) ?_
 intro _ _ aw aV
 have aW := aH.x aw
 obtain ⟨ai, aj, rfl, aX⟩ := aV
 refine r_fieldAddr ab 0 6 6 rfl rfl fo27_6 rfl ?_
 refine r_store (aG.ext aw) 6 (lv ai ah.length aj) [lv ai ah.length aj] [iv a0.Kind, iv a0.Int_, tv a0.Text, lv ac aa.length ad, lv af ae.length ag, lv A7 a0.Entries.length c8, lv ai ah.length aj] rfl rfl rfl rfl rfl sz25 rfl rfl rfl ?_
 intro _ ax aI
 have aY := aW.y ax
 refine j0 (j1 (j2 (j3 ?_)))
 refine r_fieldAddr ab 0 5 5 rfl rfl fo27_5 rfl ?_
 refine r_load ab 5 (lv A7 a0.Entries.length c8) rfl rfl (loads_one to24 ((aI.cell 5).trans rfl)) ?_
 obtain ⟨ak, aZ, hf⟩ := bind_some hf
 refine r_call [lv A7 a0.Entries.length c8] (evs1 rfl) rfl (hrec_value_cloneEntries _ _ _ _ (RpV.mkList ((((((((h9.mono aA.wext).mono an.wext).mono aq.wext).mono ar.wext).mono au.wext).mono av.wext).mono aw.wext).mono ax.wext)) aZ) ?_
 intro _ _ ay a1
 have a2 := aY.x ay
 obtain ⟨al, am, rfl, a3⟩ := RpV.list a1
 refine r_fieldAddr ab 0 5 5 rfl rfl fo27_5 rfl ?_
 refine r_store (aI.ext ay) 5 (lv al ak.length am) [lv al ak.length am] [iv a0.Kind, iv a0.Int_, tv a0.Text, lv ac aa.length ad, lv af ae.length ag, lv al ak.length am, lv ai ah.length aj] rfl rfl rfl rfl rfl sz24 rfl rfl rfl ?_
 intro _ az a4
 have a5 := a2.y az
 refine j0 (j1 (j2 (j3 ?_)))
 refine r_load ab 0 (.agg #[iv a0.Kind, iv a0.Int_, tv a0.Text, lv ac aa.length ad, lv af ae.length ag, lv al ak.length am, lv ai ah.length aj]) rfl rfl (loads_row tr27 (Blk.range a4 0 [iv a0.Kind, iv a0.Int_, tv a0.Text, lv ac aa.length ad, lv af ae.length ag, lv al ak.length am, lv ai ah.length aj] rfl)) ?_
 refine r_store ((((((((aK.ext aq).mod ar rfl).ext au).mod av rfl).ext aw).mod ax rfl).ext ay).mod az rfl) 0 (.agg #[iv a0.Kind, iv a0.Int_, tv a0.Text, lv ac aa.length ad, lv af ae.length ag, lv al ak.length am, lv ai ah.length aj]) [iv a0.Kind, iv a0.Int_, tv a0.Text, lv ac aa.length ad, lv af ae.length ag, lv al ak.length am, lv ai ah.length aj] [iv a0.Kind, iv a0.Int_, tv a0.Text, lv ac aa.length ad, lv af ae.length ag, lv al ak.length am, lv ai ah.length aj] rfl rfl rfl rfl rfl sz27 rfl rfl rfl ?_
 intro _ aB a6
 have a7 := a5.y aB
 refine j0 (j1 (jb ?_))
 obtain rfl := oi hf
 refine ret_one (.agg #[iv a0.Kind, iv a0.Int_, tv a0.Text, lv ac aa.length ad, lv af ae.length ag, lv al ak.length am, lv ai ah.length aj]) rfl ⟨rfl, _, rfl, loads_row tr27 (Blk.range a6 0 [iv a0.Kind, iv a0.Int_, tv a0.Text, lv ac aa.length ad, lv af ae.length ag, lv al ak.length am, lv ai ah.length aj] rfl)⟩ a7 ?_
 exact (Val.rpvMk (v := (Val.mk a0.Kind a0.Int_ a0.Text aa ae ak ah)) ((((((((aP.mono ar.wext).mono au.wext).mono av.wext).mono aw.wext).mono ax.wext).mono ay.wext).mono az.wext).mono aB.wext) ((((((((aT.base (by have := aF.size; omega)).mod av rfl).ext aw).mod ax rfl).ext ay).mod az rfl).mod aB rfl).sl) ((a3.mono az.wext).mono aB.wext) ((((((aX.base (by have := aH.size; omega)).mod ax rfl).ext ay).mod az rfl).mod aB rfl).sl))

theorem okB_value_cloneEntries {rec_value_cloneAll : ((List Val) → Option (List Val))} {rec_value_clone : (Val → Option Val)} {rec_value_cloneEntries : ((List Ent) → Option (List Ent))} (hrec_value_cloneAll : S_value_cloneAll rec_value_cloneAll) (hrec_value_clone : S_value_clone rec_value_clone) (_hrec_value_cloneEntries : S_value_cloneEntries rec_value_cloneEntries) : S_value_cloneEntries (value_cloneEntries_B rec_value_cloneAll rec_value_clone rec_value_cloneEntries) := by
 intro s0 v0 a0 r hp0 hf
 obtain ⟨A1, c2, rfl, h3⟩ := RpV.list hp0
 unfold value_cloneEntries_B at hf
 have E0 : ExtB s0.N s0 s0 := ExtB.refl _ _
 refine ctr_of 26 func70 rfl rfl rfl rfl ?_
 refine j2 (j3 ?_)
 refine r_assign (nl Ent) rfl rfl ?_
 refine j0 (j1 (j2 (j3 ?_)))
 refine r_assign (nl Ent) rfl rfl ?_
 refine j0 (j1 (j2 (j2 (j3 ?_))))
 refine r_move (lv A1 a0.length c2) rfl rfl ?_
 refine r_len A1 a0.length c2 rfl rfl underlying24 ?_
 refine r_move (iv 0) rfl rfl ?_
 refine j0 (j1 (j4 ?_))
 refine gen_F fun F4 hg5 => ?_
 have f7 : F4 3 = (nl Ent) := (hg5 3).trans rfl
 have f8 : F4 6 = (lv A1 a0.length c2) := (hg5 6).trans rfl
 have f9 : F4 7 = (iv (a0.length : Int)) := (hg5 7).trans rfl
 have a9 : F4 8 = (iv 0) := (hg5 8).trans rfl
 obtain ⟨aW, ba, hf⟩ := bind_some hf
 refine wp_mono (wp_iter (step := value_cloneEntries_l1 rec_value_cloneAll rec_value_clone a0) (fun q a w => ∃ (F : Fr) (τ : S) (A1 : Option Addr) (c1 : Nat), a = fr 26 F ∧ w = τ.w ∧ Agr [3, 5, 8, 9, 10, 11, 12, 13, 14, 15, 16, 17, 18, 19, 20, 21, 22, 23, 24] F F4 ∧ ExtB s0.N s0 τ ∧ Wext s0 τ ∧ F 3 = (lv A1 q.1.length c1) ∧ Own s0.N 1 65 τ q.1 A1 c1 ∧ F 8 = (iv q.2)) (fun q e a w => e = .exit 0 ∧ ∃ (F : Fr) (τ : S) (A1 : Option Addr) (c1 : Nat), a = fr 26 F ∧ w = τ.w ∧ Agr [3, 5, 8, 9, 10, 11, 12, 13, 14, 15, 16, 17, 18, 19, 20, 21, 22, 23, 24] F F4 ∧ ExtB s0.N s0 τ ∧ Wext s0 τ ∧ F 3 = (lv A1 q.1.length c1) ∧ Own s0.N 1 65 τ q.1 A1 c1 ∧ F 8 = (iv q.2)) (by rintro _ a w ⟨h, _⟩; cases h) ?_ _ _ _ _ _ ba ?_) ?_
 ·intro ag fl a w hf hI
  obtain ⟨_, _, aS, aT, rfl, rfl, aU, aX, aY, a6, a7, aV⟩ := hI
  unfold value_cloneEntries_l1 at hf
  have bb := (aU 6 rfl).trans f8
  have bc := (aU 7 rfl).trans f9
  refine j2 (j3 ?_)
  refine r_bin (iv ag.2) (iv (a0.length : Int)) (bv (decide (ag.2 < (a0.length : Int)))) aV bc rfl rfl (b_lss) ?_
  refine j0 (j1 (j2 ?_))
  refine if_else hf (fun aZ hf => ?_) (fun aZ hf => ?_)
  ·refine c_true rfl aZ rfl ?_
   refine ja (j1 (j2 (j4 (j2 (j3 ?_)))))
   obtain ⟨x26, bd, hf⟩ := bind_some hf
   refine r_indexAddr (T := 24) (E := 65) (h3.mono aY) bd bb aV rfl rfl underlying24 sz65 ?_
   intro be bf _ bg bh
   obtain ⟨ar, au, aB, aC, aD, aE, aF, aG, aH, aI, rfl, bi, bj, bk, bl, bm⟩ := Ent.cells_iff.1 bg
   refine r_load be bf (.agg #[lv ar x26.Args.length au, bv x26.Fails, iv x26.Result.Kind, iv x26.Result.Int_, tv x26.Result.Text, lv aB x26.Result.Kids.length aC, lv aD x26.Result.Keys.length aE, lv aF x26.Result.Entries.length aG, lv aH x26.Result.Labels.length aI]) rfl rfl (loads_row tr65 bh.2) ?_
   refine r_alloc (B := s0.N) 2 aX.size _ [nl Val, bv false, iv 0, iv 0, tv (⟨#[]⟩), nl Val, nl Key, nl Ent, nl ByteArray] ti65 rfl ?_
   intro _ am av bn
   have bo := aX.x av
   refine r_store bn 0 (.agg #[lv ar x26.Args.length au, bv x26.Fails, iv x26.Result.Kind, iv x26.Result.Int_, tv x26.Result.Text, lv aB x26.Result.Kids.length aC, lv aD x26.Result.Keys.length aE, lv aF x26.Result.Entries.length aG, lv aH x26.Result.Labels.length aI]) [lv ar x26.Args.length au, bv x26.Fails, iv x26.Result.Kind, iv x26.Result.Int_, tv x26.Result.Text, lv aB x26.Result.Kids.length aC, lv aD x26.Result.Keys.length aE, lv aF x26.Result.Entries.length aG, lv aH x26.Result.Labels.length aI] [lv ar x26.Args.length au, bv x26.Fails, iv x26.Result.Kind, iv x26.Result.Int_, tv x26.Result.Text, lv aB x26.Result.Kids.length aC, lv aD x26.Result.Keys.length aE, lv aF x26.Result.Entries.length aG, lv aH x26.Result.Labels.length aI] rfl rfl rfl rfl rfl sz65 rfl rfl rfl ?_
   intro _ aw bp
   have aK := bo.y aw
   refine j0 (j1 ?_)
   obtain ⟨ad, bq, hf⟩ := bind_some hf
   obtain ⟨ab, br, hf⟩ := bind_some hf
   obtain ⟨_, bs, hf⟩ := bind_some hf
   refine wp_draw (B := frExt s0.N) (sm 12 12 ++ [some 3]) [[], [], [1], [1, 2], [], [4], [], [6], [1, 2, 3, 6, 7], [1, 2, 3, 4, 5, 6, 7, 8], [1, 2, 3, 4, 5, 6, 7, 8, 9], rg 11, rg 12] [Fct.eqv (lv aS ag.1.length aT), Fct.eqv (.pointer (some ⟨am, 0, none⟩)), Fct.eqv (lv ar x26.Args.length au), Fct.data (ad : (List Val)), Fct.eqv (.pointer (some ⟨am, 1, none⟩)), Fct.eqv (bv x26.Fails), Fct.eqv (.pointer (some ⟨am, 2, none⟩)), Fct.data (x26.Result : Val), Fct.data (ab : Val), Fct.data ((Ent.mk ad x26.Fails ab) : Ent), Fct.data ([(Ent.mk ad x26.Fails ab)] : (List Ent)), Fct.data (ag.1 ++ [(Ent.mk ad x26.Fails ab)] : (List Ent)), Fct.data (ag.1 ++ [(Ent.mk ad x26.Fails ab)] : (List Ent))] (fun D F τ => (Blk s0.N 2 τ am 65 [lv ar x26.Args.length au, bv x26.Fails, iv x26.Result.Kind, iv x26.Result.Int_, tv x26.Result.Text, lv aB x26.Result.Kids.length aC, lv aD x26.Result.Keys.length aE, lv aF x26.Result.Entries.length aG, lv aH x26.Result.Labels.length aI]) ∧ (D 11 = false → Own s0.N 1 65 τ ag.1 aS aT) ∧ (D 11 = true → ∃ zA zc, F 23 = (lv zA (ag.1 ++ [(Ent.mk ad x26.Fails ab)]).length zc) ∧ Own s0.N 1 65 τ (ag.1 ++ [(Ent.mk ad x26.Fails ab)]) zA zc ∧ (D 12 = true → F 3 = (lv zA (ag.1 ++ [(Ent.mk ad x26.Fails ab)]).length zc)))) (by kernel_rfl) rfl (by decide) (by decide) ⟨(bp.ext (ext_draw _)), (fun _ => (((a7.ext av).mod aw rfl).ext (ext_draw _))), (fun h => Bool.noConfusion h)⟩ (by decide) (by decide) ⟨?_, ?_, ?_, ?_, ?_, ?_, ?_, ?_, ?_, ?_, ?_, ?_, ?_, trivial⟩ ?_
   ·intro _ _ _ _ _ _ _ _ aa ac _
    refine r_move (lv aS ag.1.length aT) ((ac 3 rfl).trans a6) rfl ?_
    exact d0 ⟨rfl, aa⟩
   ·intro _ _ _ _ _ _ _ _ aa ac _
    obtain ⟨_, _, _⟩ := id aa
    refine r_fieldAddr am 0 0 0 ((ac 5 rfl).trans rfl) rfl fo65_0 rfl ?_
    exact d0 ⟨rfl, aa⟩
   ·intro _ _ _ _ _ _ _ _ aa _ ac
    obtain ⟨af, _, _⟩ := id aa
    have ae := af
    refine r_load am 0 (lv ar x26.Args.length au) (ac 1 rfl 13 rfl) rfl (loads_one to22 ((ae.cell 0).trans rfl)) ?_
    exact d0 ⟨rfl, aa⟩
   ·intro _ _ _ _ _ aa ac af ae _ ai
    have aj := aK.trans ac
    obtain ⟨ah, ak, _⟩ := id ae
    refine r_call [lv ar x26.Args.length au] (evs1 (ai 2 rfl 14 rfl)) rfl (hrec_value_cloneAll _ _ _ _ (RpV.mkList (((bi.mono av.wext).mono aw.wext).mono af)) bq) ?_
    intro _ _ al ap
    obtain ⟨_, _, rfl, an⟩ := RpV.list ap
    exact d1 aj (Nat.le_refl _) al ⟨(RpV.mkList an), ⟨(ah.ext al), (fun h => ((ak h).ext al)), (nc (aa 11 rfl))⟩⟩
   ·intro _ _ _ _ _ _ _ _ aa ac _
    obtain ⟨_, _, _⟩ := id aa
    refine r_fieldAddr am 0 1 1 ((ac 5 rfl).trans rfl) rfl fo65_1 rfl ?_
    exact d0 ⟨rfl, aa⟩
   ·intro _ _ _ _ _ _ _ _ aa _ ac
    obtain ⟨af, _, _⟩ := id aa
    have ae := af
    refine r_load am 1 (bv x26.Fails) (ac 4 rfl 16 rfl) rfl (loads_one to4 ((ae.cell 1).trans rfl)) ?_
    exact d0 ⟨rfl, aa⟩
   ·intro _ _ _ _ _ _ _ _ aa ac _
    obtain ⟨_, _, _⟩ := id aa
    refine r_fieldAddr am 0 2 2 ((ac 5 rfl).trans rfl) rfl fo65_2 rfl ?_
    exact d0 ⟨rfl, aa⟩
   ·intro _ _ _ _ _ _ _ aa ac _ af
    obtain ⟨ae, _, _⟩ := id ac
    have ai := ae
    refine r_load am 2 (Val.ag x26.Result aB aC aD aE aF aG aH aI) (af 6 rfl 18 rfl) rfl (loads_row tr27 (Blk.range ai 2 (Val.cs x26.Result aB aC aD aE aF aG aH aI) rfl)) ?_
    exact d0 ⟨(Val.rpvMk (v := x26.Result) (((bj.mono av.wext).mono aw.wext).mono aa) (((bk.mono av.wext).mono aw.wext).mono aa) (((bl.mono av.wext).mono aw.wext).mono aa) (((bm.mono av.wext).mono aw.wext).mono aa)), ac⟩
   ·intro _ aa ac _ _ af ae _ ai _ aj
    have ah := aK.trans ae
    obtain ⟨ak, al, _⟩ := id ai
    have ap : RpV ac (x26.Result : Val) (aa 19) := aj 7 rfl 19 rfl
    obtain ⟨an, ax, ay, az, aA, ao, aq, aJ, aL, aM, aN, aO, aP⟩ := Val.rpv ap
    refine r_call [Val.ag x26.Result an ax ay az aA ao aq aJ] (evs1 aL) rfl (hrec_value_clone _ _ _ _ (Val.rpvMk (v := x26.Result) aM aN aO aP) br) ?_
    intro _ _ aQ a1
    obtain ⟨_, _, _, _, _, _, _, _, rfl, a2, aR, a3, bt⟩ := Val.rpv a1
    exact d1 ah (Nat.le_refl _) aQ ⟨(Val.rpvMk (v := ab) a2 aR a3 bt), ⟨(ak.ext aQ), (fun h => ((al h).ext aQ)), (nc (af 11 rfl))⟩⟩
   ·intro _ aa ac _ _ _ _ _ af _ ae
    have ai : RpV ac (ad : (List Val)) (aa 15) := ae 3 rfl 15 rfl
    obtain ⟨aj, ah, ak, al⟩ := RpV.list ai
    have ap : RpV ac (ab : Val) (aa 20) := ae 8 rfl 20 rfl
    obtain ⟨an, ax, ay, az, aA, ao, aq, aJ, aL, aM, aN, aO, aP⟩ := Val.rpv ap
    refine r_build tst65 [(0, lv aj ad.length ah), (1, bv x26.Fails), (2, Val.ag ab an ax ay az aA ao aq aJ)] [lv aj ad.length ah, bv x26.Fails, iv ab.Kind, iv ab.Int_, tv ab.Text, lv an ab.Kids.length ax, lv ay ab.Keys.length az, lv aA ab.Entries.length ao, lv aq ab.Labels.length aJ] (eps_cons ak (eps_cons (ae 5 rfl 17 rfl) (eps_cons aL eps_nil))) rfl rfl ?_
    exact d0 ⟨(Ent.rpvMk (v := (Ent.mk ad x26.Fails ab)) al aM aN aO aP), af⟩
   ·intro _ aa ac _ _ af ae _ ai _ aj
    have ah := aK.trans ae
    obtain ⟨ak, al, _⟩ := id ai
    have ap : RpV ac ((Ent.mk ad x26.Fails ab) : Ent) (aa 21) := aj 9 rfl 21 rfl
    obtain ⟨an, ax, ay, az, aA, ao, aq, aJ, aL, aM, aN, aO, aP, aQ, a1, a2⟩ := Ent.rpv ap
    refine r_buildSlice (B := s0.N) (E := 65) 3 ah.size ts24 (xs := [(Ent.mk ad x26.Fails ab)]) [.agg #[lv an ((Ent.mk ad x26.Fails ab).Args).length ax, bv x26.Fails, iv ab.Kind, iv ab.Int_, tv ab.Text, lv ay (((Ent.mk ad x26.Fails ab).Result).Kids).length az, lv aA (((Ent.mk ad x26.Fails ab).Result).Keys).length ao, lv aq (((Ent.mk ad x26.Fails ab).Result).Entries).length aJ, lv aL (((Ent.mk ad x26.Fails ab).Result).Labels).length aM]] (eps_cons aN eps_nil) rfl rfl rfl (by decide) rfl (by simp [Value.cells, Rp.sz]) ⟨_, _, rfl, (Ent.cells_iff.2 ⟨_, _, _, _, _, _, _, _, _, _, rfl, aO, aP, aQ, a1, a2⟩), rfl⟩ ?_
    intro _ _ _ aR a3
    exact d1 ah (Nat.le_refl _) aR ⟨(RpV.mkList a3.sl), ⟨(ak.ext aR), (fun h => ((al h).ext aR)), (nc (af 11 rfl))⟩⟩
   ·intro _ aa ac af _ ae ai _ aj _ ah
    have ak := aK.trans ai
    obtain ⟨al, ap, _⟩ := id aj
    have an : RpV ac ([(Ent.mk ad x26.Fails ab)] : (List Ent)) (aa 22) := ah 10 rfl 22 rfl
    obtain ⟨_, _, ax, ay⟩ := RpV.list an
    refine r_append (B := s0.N) (id := 1) (E := 65) (xs := ag.1) (ys := [(Ent.mk ad x26.Fails ab)]) ak.size ((ap af)) ay ts24 (room_some bs) (ah 0 rfl 12 rfl) ax rfl rfl ?_
    intro _ az aA ao aq
    refine j0 ?_
    exact ⟨_, _, rfl, rfl, (ExtB.refl _ _).trans ((ExtB.refl _ _).mod ak.size ao), (Wext.refl _).trans ao.wext, (RpV.mkList aq.sl), ⟨(al.mod ao rfl), (fun h => Bool.noConfusion h), (fun _ => ⟨az, aA, rfl, aq, (nc (ae 12 rfl))⟩)⟩⟩
   ·intro _ _ _ _ aa _ _ _ ac _ _
    obtain ⟨af, _, ae⟩ := id ac
    obtain ⟨ai, aj, ah, ak, _⟩ := ae (aa 11 rfl)
    refine r_assign (lv ai (ag.1 ++ [(Ent.mk ad x26.Fails ab)]).length aj) ah rfl ?_
    exact d0 ⟨(RpV.mkList ak.sl), ⟨af, (nc (aa 11 rfl)), (fun _ => ⟨ai, aj, ah, ak, (fun _ => rfl)⟩)⟩⟩
   intro _ _ bu bw bx a8 _
   have bz := aK.trans bu
   obtain ⟨_, _, bA⟩ := bx
   obtain ⟨bB, bC, _, bD, bE⟩ := bA rfl
   have bF := (a8 8 rfl).trans aV
   refine j5 (j1 (j3 ?_))
   refine r_bin (iv ag.2) (iv 1) (iv (w64 (ag.2 + 1))) bF rfl rfl rfl (b_add) ?_
   refine r_move (iv (w64 (ag.2 + 1))) rfl rfl ?_
   refine j0 ?_
   obtain rfl := oi hf
   exact ⟨rfl, _, _, bB, bC, rfl, rfl, (((((((((aU).put rfl).put rfl).put rfl).put rfl).put0).draw a8 rfl).put rfl).put rfl), bz, (((((Wext.refl _).trans aY).trans av.wext).trans aw.wext).trans bw), (bE rfl), (bD), rfl⟩
  refine c_false rfl aZ rfl ?_
  refine jc (j8 ?_)
  obtain rfl := oi hf
  exact ⟨rfl, _, _, aS, aT, rfl, rfl, ((aU).put rfl), aX, ((Wext.refl _).trans aY), a6, (a7), aV⟩
 ·exact ⟨_, _, none, 0, rfl, rfl, (Agr.refl _ _), E0, (Wext.refl _), f7, (Own.nil_ _), a9⟩
 rintro e a w ⟨rfl, bJ, bK, a4, a5, rfl, rfl, bL, bG, bM, bH, bI, bN⟩
 refine j6 (j1 (j2 (j3 ?_)))
 refine r_move (lv a4 aW.1.length a5) bH rfl ?_
 refine r_assign (lv a4 aW.1.length a5) rfl rfl ?_
 refine j0 (j1 (jb ?_))
 obtain rfl := oi hf
 refine ret_one (lv a4 aW.1.length a5) rfl ⟨rfl, rfl⟩ bG ?_
 exact (RpV.mkList bI.sl)

theorem ok_scc_value_cloneAll : ∀ n : Nat, S_value_cloneAll (scc_value_cloneAll n).1 ∧ S_value_clone (scc_value_cloneAll n).2.1 ∧ S_value_cloneEntries (scc_value_cloneAll n).2.2
  | 0 => ⟨(by intro _ _ _ _ _ h; cases h), (by intro _ _ _ _ _ h; cases h), (by intro _ _ _ _ _ h; cases h)⟩
  | n + 1 => by
    obtain ⟨h0, h1, h2⟩ := ok_scc_value_cloneAll n
    exact ⟨okB_value_cloneAll h0 h1 h2, okB_value_clone h0 h1 h2, okB_value_cloneEntries h0 h1 h2⟩

theorem ok_value_cloneAll (n : Nat) : S_value_cloneAll (value_cloneAll n) := (ok_scc_value_cloneAll n).1

theorem ok_value_clone (n : Nat) : S_value_clone (value_clone n) := (ok_scc_value_cloneAll n).2.1

theorem ok_value_cloneEntries (n : Nat) : S_value_cloneEntries (value_cloneEntries n) := (ok_scc_value_cloneAll n).2.2

def S_value_List (f : ((List Val) → Option Val)) : Prop := ∀ (s0 : S) (v0 : Value) (a0 : (List Val)) (r : Val), RpV s0 a0 v0 → f a0 = some r → Ctr Go.Proofs.Try.prog 20 [v0] s0 (fun v τ => RpV τ r v)

theorem ok_value_List (fuel : Nat) : S_value_List (value_List fuel) := by
 intro s0 v0 a0 r hp0 hf
 obtain ⟨A1, c2, rfl, h3⟩ := RpV.list hp0
 unfold value_List at hf
 have E0 : ExtB s0.N s0 s0 := ExtB.refl _ _
 refine ctr_of 22 func20 rfl rfl rfl rfl ?_
 refine j2 (j3 ?_)
 refine r_alloc (B := s0.N) 1 E0.size _ [iv 0, iv 0, tv (⟨#[]⟩), nl Val, nl Key, nl Ent, nl ByteArray] ti27 rfl ?_
 intro s5 b4 k6 hb7
 have E8 := E0.x k6
 refine j0 (j1 (j2 (j3 ?_)))
 obtain ⟨r9, bz, hf⟩ := bind_some hf
 refine r_call [] evs0 rfl (ok_value_Nil _ _  bz) ?_
 intro _ _ be bA
 have bk := E8.x be
 obtain ⟨aU, aV, aW, aX, aY, aZ, a1, a2, rfl, bB, bC, bD, bE⟩ := Val.rpv bA
 refine r_alloc (B := s0.N) 2 bk.size _ [iv 0, iv 0, tv (⟨#[]⟩), nl Val, nl Key, nl Ent, nl ByteArray] ti27 rfl ?_
 intro _ ax ay bF
 have bG := bk.x ay
 refine r_store bF 0 (Val.ag r9 aU aV aW aX aY aZ a1 a2) (Val.cs r9 aU aV aW aX aY aZ a1 a2) (Val.cs r9 aU aV aW aX aY aZ a1 a2) rfl rfl rfl rfl rfl sz27 rfl rfl rfl ?_
 intro bl az bH
 have bI := bG.y az
 refine j0 (j1 (j2 (j2 (j3 ?_))))
 refine r_move (lv A1 a0.length c2) rfl rfl ?_
 refine r_len A1 a0.length c2 rfl rfl underlying22 ?_
 refine r_bin (iv (a0.length : Int)) (iv 1) (iv (w64 ((a0.length : Int) - 1))) rfl rfl rfl rfl (b_sub) ?_
 refine r_assign (iv (w64 ((a0.length : Int) - 1))) rfl rfl ?_
 refine j0 (j1 (j4 ?_))
 refine gen_F fun aN a3 => ?_
 have bJ : aN 0 = (lv A1 a0.length c2) := (a3 0).trans rfl
 have bK : aN 2 = (.pointer (some ⟨b4, 0, none⟩)) := (a3 2).trans rfl
 have bm : aN 3 = (.pointer (some ⟨ax, 0, none⟩)) := (a3 3).trans rfl
 have bL : aN 4 = (iv (w64 ((a0.length : Int) - 1))) := (a3 4).trans rfl
 obtain ⟨ab, bM, hf⟩ := bind_some hf
 refine wp_mono (wp_iter (step := value_List_l1 fuel a0) (fun q a w => ∃ (F : Fr) (τ : S) (A1 : Option Addr) (c1 : Nat) (A2 : Option Addr) (c2 : Nat) (A3 : Option Addr) (c3 : Nat) (A4 : Option Addr) (c4 : Nat), a = fr 22 F ∧ w = τ.w ∧ Agr [4, 9, 10, 11, 12, 13, 14, 15, 16, 17, 18, 19, 20] F aN ∧ ExtB s0.N s0 τ ∧ Wext bl τ ∧ F 4 = (iv q.1) ∧ Blk s0.N 1 τ b4 27 [iv 0, iv 0, tv (⟨#[]⟩), nl Val, nl Key, nl Ent, nl ByteArray] ∧ Blk s0.N 2 τ ax 27 [iv q.2.1, iv q.2.2.1, tv q.2.2.2.1, lv A1 q.2.2.2.2.1.length c1, lv A2 q.2.2.2.2.2.1.length c2, lv A3 q.2.2.2.2.2.2.1.length c3, lv A4 q.2.2.2.2.2.2.2.length c4] ∧ Sl τ q.2.2.2.2.1 A1 c1 ∧ Sl τ q.2.2.2.2.2.1 A2 c2 ∧ Sl τ q.2.2.2.2.2.2.1 A3 c3 ∧ Sl τ q.2.2.2.2.2.2.2 A4 c4) (fun q e a w => e = .exit 0 ∧ ∃ (F : Fr) (τ : S) (A1 : Option Addr) (c1 : Nat) (A2 : Option Addr) (c2 : Nat) (A3 : Option Addr) (c3 : Nat) (A4 : Option Addr) (c4 : Nat), a = fr 22 F ∧ w = τ.w ∧ Agr [4, 9, 10, 11, 12, 13, 14, 15, 16, 17, 18, 19, 20] F aN ∧ ExtB s0.N s0 τ ∧ Wext bl τ ∧ F 4 = (iv q.1) ∧ Blk s0.N 1 τ b4 27 [iv 0, iv 0, tv (⟨#[]⟩), nl Val, nl Key, nl Ent, nl ByteArray] ∧ Blk s0.N 2 τ ax 27 [iv q.2.1, iv q.2.2.1, tv q.2.2.2.1, lv A1 q.2.2.2.2.1.length c1, lv A2 q.2.2.2.2.2.1.length c2, lv A3 q.2.2.2.2.2.2.1.length c3, lv A4 q.2.2.2.2.2.2.2.length c4] ∧ Sl τ q.2.2.2.2.1 A1 c1 ∧ Sl τ q.2.2.2.2.2.1 A2 c2 ∧ Sl τ q.2.2.2.2.2.2.1 A3 c3 ∧ Sl τ q.2.2.2.2.2.2.2 A4 c4) (by rintro _ a w ⟨h, _⟩; cases h) ?_ _ _ _ _ _ bM ?_) ?_
 ·intro aa fl a w hf hI
  obtain ⟨_, _, a4, a5, a6, a7, a8, a9, ba, bb, rfl, rfl, bc, aO, bf, bd, bn, bo, bp, bq, br, bs⟩ := hI
  unfold value_List_l1 at hf
  have bN := (bc 0 rfl).trans bJ
  have bt := (bc 3 rfl).trans bm
  refine j2 (j2 (j3 ?_))
  refine r_move (iv aa.1) bd rfl ?_
  refine r_bin (iv aa.1) (iv 0) (bv (decide (0 ≤ aa.1))) rfl rfl rfl rfl (b_geq) ?_
  refine j0 (j1 ?_)
  refine if_else hf (fun bg hf => ?_) (fun bg hf => ?_)
  ·refine c_true rfl bg rfl ?_
   refine ja (j1 (j2 (j4 ?_)))
   obtain ⟨x68, bO, hf⟩ := bind_some hf
   obtain ⟨ac, bP, hf⟩ := bind_some hf
   refine wp_draw (B := frExt s0.N) (sm 13 8 ++ [none]) [[], [], [0, 1], rg 3, rg 4, [], rg 6, rg 7, rg 8] [Fct.eqv (lv A1 a0.length c2), Fct.eqv (iv aa.1), Fct.elem (x68 : Val), Fct.data (x68 : Val), Fct.data (ac : Val), Fct.data ((Val.mk aa.2.1 aa.2.2.1 aa.2.2.2.1 aa.2.2.2.2.1 aa.2.2.2.2.2.1 aa.2.2.2.2.2.2.1 aa.2.2.2.2.2.2.2) : Val), Fct.data ([ac, (Val.mk aa.2.1 aa.2.2.1 aa.2.2.2.1 aa.2.2.2.2.1 aa.2.2.2.2.2.1 aa.2.2.2.2.2.2.1 aa.2.2.2.2.2.2.2)] : (List Val)), Fct.data ((Val.mk 7 0 (⟨#[]⟩) [ac, (Val.mk aa.2.1 aa.2.2.1 aa.2.2.2.1 aa.2.2.2.2.1 aa.2.2.2.2.2.1 aa.2.2.2.2.2.2.1 aa.2.2.2.2.2.2.2)] ([] : List Key) ([] : List Ent) ([] : List ByteArray)) : Val), Fct.any] (fun D F τ => (Blk s0.N 1 τ b4 27 [iv 0, iv 0, tv (⟨#[]⟩), nl Val, nl Key, nl Ent, nl ByteArray]) ∧ (D 8 = false → Blk s0.N 2 τ ax 27 [iv aa.2.1, iv aa.2.2.1, tv aa.2.2.2.1, lv a4 aa.2.2.2.2.1.length a5, lv a6 aa.2.2.2.2.2.1.length a7, lv a8 aa.2.2.2.2.2.2.1.length a9, lv ba aa.2.2.2.2.2.2.2.length bb]) ∧ (D 8 = true → (∃ (zA3 : Option Addr) (zc3 : Nat) (zA4 : Option Addr) (zc4 : Nat) (zA5 : Option Addr) (zc5 : Nat) (zA6 : Option Addr) (zc6 : Nat), Blk s0.N 2 τ ax 27 [iv 7, iv 0, tv (⟨#[]⟩), lv zA3 [ac, (Val.mk aa.2.1 aa.2.2.1 aa.2.2.2.1 aa.2.2.2.2.1 aa.2.2.2.2.2.1 aa.2.2.2.2.2.2.1 aa.2.2.2.2.2.2.2)].length zc3, lv zA4 ([] : List Key).length zc4, lv zA5 ([] : List Ent).length zc5, lv zA6 ([] : List ByteArray).length zc6] ∧ Sl τ [ac, (Val.mk aa.2.1 aa.2.2.1 aa.2.2.2.1 aa.2.2.2.2.1 aa.2.2.2.2.2.1 aa.2.2.2.2.2.2.1 aa.2.2.2.2.2.2.2)] zA3 zc3 ∧ Sl τ ([] : List Key) zA4 zc4 ∧ Sl τ ([] : List Ent) zA5 zc5 ∧ Sl τ ([] : List ByteArray) zA6 zc6))) (by kernel_rfl) rfl (by decide) (by decide) ⟨(bn.ext (ext_draw _)), (fun _ => (bo.ext (ext_draw _))), (fun h => Bool.noConfusion h)⟩ (by decide) (by decide) ⟨?_, ?_, ?_, ?_, ?_, ?_, ?_, ?_, ?_, trivial⟩ ?_
   ·intro _ _ _ _ _ _ _ _ ae ad _
    refine r_move (lv A1 a0.length c2) ((ad 0 rfl).trans bN) rfl ?_
    exact d0 ⟨rfl, ae⟩
   ·intro _ _ _ _ _ _ _ _ ae ad _
    refine r_move (iv aa.1) ((ad 4 rfl).trans bd) rfl ?_
    exact d0 ⟨rfl, ae⟩
   ·intro _ _ _ _ _ _ _ ae ad _ af
    refine r_indexAddr (T := 22) (E := 27) ((((((h3.mono k6.wext).mono be.wext).mono ay.wext).mono az.wext).mono bf).mono ae) bO (af 0 rfl 13 rfl) (af 1 rfl 14 rfl) rfl rfl underlying22 sz27 ?_
    intro _ _ _ ah ai
    obtain ⟨_, _, _, _, _, _, _, _, rfl, ag, aj, ak, al⟩ := Val.cells_iff.1 ah
    exact d0 ⟨⟨_, _, _, rfl, (Val.cells_iff.2 ⟨_, _, _, _, _, _, _, _, rfl, ag, aj, ak, al⟩), ai⟩, ad⟩
   ·intro _ ae ad _ _ _ _ _ af _ ah
    obtain ⟨ai, ag, _, aj, ak, al⟩ : (Fct.elem (x68 : Val)).p (ae 15) ad := ah 2 rfl 15 rfl
    obtain ⟨aA, aB, aC, an, ao, ap, aq, ar, rfl, au, av, aw, aD⟩ := Val.cells_iff.1 ak
    refine r_load ai ag (Val.ag x68 aA aB aC an ao ap aq ar) aj rfl (loads_row tr27 al.2) ?_
    exact d0 ⟨(Val.rpvMk (v := x68) au av aw aD), af⟩
   ·intro _ ae ad _ _ af ah _ ai _ ag
    have aj := aO.trans ah
    obtain ⟨ak, al, _⟩ := id ai
    have aA : RpV ad (x68 : Val) (ae 16) := ag 3 rfl 16 rfl
    obtain ⟨aB, aC, an, ao, ap, aq, ar, au, av, aw, aD, aP, aQ⟩ := Val.rpv aA
    refine r_call [Val.ag x68 aB aC an ao ap aq ar au] (evs1 av) rfl ((ok_value_clone fuel) _ _ _ _ (Val.rpvMk (v := x68) aw aD aP aQ) bP) ?_
    intro _ _ aE aR
    obtain ⟨_, _, _, _, _, _, _, _, rfl, am, aS, bh, bi⟩ := Val.rpv aR
    exact d1 aj (Nat.le_refl _) aE ⟨(Val.rpvMk (v := ac) am aS bh bi), ⟨(ak.ext aE), (fun y0 => ((al y0).ext aE)), (nc (af 8 rfl))⟩⟩
   ·intro _ _ _ _ _ ae _ ad af ah _
    obtain ⟨_, ai, _⟩ := id af
    have ag := ai (ae 8 rfl)
    refine r_load ax 0 (.agg #[iv aa.2.1, iv aa.2.2.1, tv aa.2.2.2.1, lv a4 aa.2.2.2.2.1.length a5, lv a6 aa.2.2.2.2.2.1.length a7, lv a8 aa.2.2.2.2.2.2.1.length a9, lv ba aa.2.2.2.2.2.2.2.length bb]) ((ah 3 rfl).trans bt) rfl (loads_row tr27 (Blk.range ag 0 [iv aa.2.1, iv aa.2.2.1, tv aa.2.2.2.1, lv a4 aa.2.2.2.2.1.length a5, lv a6 aa.2.2.2.2.2.1.length a7, lv a8 aa.2.2.2.2.2.2.1.length a9, lv ba aa.2.2.2.2.2.2.2.length bb] rfl)) ?_
    exact d0 ⟨(Val.rpvMk (v := (Val.mk aa.2.1 aa.2.2.1 aa.2.2.2.1 aa.2.2.2.2.1 aa.2.2.2.2.2.1 aa.2.2.2.2.2.2.1 aa.2.2.2.2.2.2.2)) (bp.mono ad) (bq.mono ad) (br.mono ad) (bs.mono ad)), af⟩
   ·intro _ ae ad _ _ af ah _ ai _ ag
    have aj := aO.trans ah
    obtain ⟨ak, al, _⟩ := id ai
    have aA : RpV ad (ac : Val) (ae 17) := ag 4 rfl 17 rfl
    obtain ⟨aB, aC, an, ao, ap, aq, ar, au, av, aw, aD, aP, aQ⟩ := Val.rpv aA
    have aE : RpV ad ((Val.mk aa.2.1 aa.2.2.1 aa.2.2.2.1 aa.2.2.2.2.1 aa.2.2.2.2.2.1 aa.2.2.2.2.2.2.1 aa.2.2.2.2.2.2.2) : Val) (ae 18) := ag 5 rfl 18 rfl
    obtain ⟨aR, am, aS, bh, bi, bQ, bR, bS, bT, bU, bV, bW, bX⟩ := Val.rpv aE
    refine r_buildSlice (B := s0.N) (E := 27) 3 aj.size ts22 (xs := [ac, (Val.mk aa.2.1 aa.2.2.1 aa.2.2.2.1 aa.2.2.2.2.1 aa.2.2.2.2.2.1 aa.2.2.2.2.2.2.1 aa.2.2.2.2.2.2.2)]) [Val.ag ac aB aC an ao ap aq ar au, .agg #[iv aa.2.1, iv aa.2.2.1, tv aa.2.2.2.1, lv aR ((Val.mk aa.2.1 aa.2.2.1 aa.2.2.2.1 aa.2.2.2.2.1 aa.2.2.2.2.2.1 aa.2.2.2.2.2.2.1 aa.2.2.2.2.2.2.2).Kids).length am, lv aS ((Val.mk aa.2.1 aa.2.2.1 aa.2.2.2.1 aa.2.2.2.2.1 aa.2.2.2.2.2.1 aa.2.2.2.2.2.2.1 aa.2.2.2.2.2.2.2).Keys).length bh, lv bi ((Val.mk aa.2.1 aa.2.2.1 aa.2.2.2.1 aa.2.2.2.2.1 aa.2.2.2.2.2.1 aa.2.2.2.2.2.2.1 aa.2.2.2.2.2.2.2).Entries).length bQ, lv bR ((Val.mk aa.2.1 aa.2.2.1 aa.2.2.2.1 aa.2.2.2.2.1 aa.2.2.2.2.2.1 aa.2.2.2.2.2.2.1 aa.2.2.2.2.2.2.2).Labels).length bS]] (eps_cons av (eps_cons bT eps_nil)) rfl rfl rfl (by decide) rfl (by simp [Value.cells, Rp.sz]) ⟨_, _, rfl, (Val.cells_iff.2 ⟨_, _, _, _, _, _, _, _, rfl, aw, aD, aP, aQ⟩), ⟨_, _, rfl, (Val.cells_iff.2 ⟨_, _, _, _, _, _, _, _, rfl, bU, bV, bW, bX⟩), rfl⟩⟩ ?_
    intro _ _ _ bj bY
    exact d1 aj (Nat.le_refl _) bj ⟨(RpV.mkList bY.sl), ⟨(ak.ext bj), (fun y0 => ((al y0).ext bj)), (nc (af 8 rfl))⟩⟩
   ·intro _ ae ad _ _ _ _ _ af _ ah
    have ai : RpV ad ([ac, (Val.mk aa.2.1 aa.2.2.1 aa.2.2.2.1 aa.2.2.2.2.1 aa.2.2.2.2.2.1 aa.2.2.2.2.2.2.1 aa.2.2.2.2.2.2.2)] : (List Val)) (ae 19) := ah 6 rfl 19 rfl
    obtain ⟨ag, aj, ak, al⟩ := RpV.list ai
    refine r_build tst27 [(0, iv 7), (3, lv ag [ac, (Val.mk aa.2.1 aa.2.2.1 aa.2.2.2.1 aa.2.2.2.2.1 aa.2.2.2.2.2.1 aa.2.2.2.2.2.2.1 aa.2.2.2.2.2.2.2)].length aj)] [iv 7, iv 0, tv (⟨#[]⟩), lv ag [ac, (Val.mk aa.2.1 aa.2.2.1 aa.2.2.2.1 aa.2.2.2.2.1 aa.2.2.2.2.2.1 aa.2.2.2.2.2.2.1 aa.2.2.2.2.2.2.2)].length aj, nl Key, nl Ent, nl ByteArray] (eps_cons rfl (eps_cons ak eps_nil)) rfl rfl ?_
    exact d0 ⟨(Val.rpvMk (v := (Val.mk 7 0 (⟨#[]⟩) [ac, (Val.mk aa.2.1 aa.2.2.1 aa.2.2.2.1 aa.2.2.2.2.1 aa.2.2.2.2.2.1 aa.2.2.2.2.2.2.1 aa.2.2.2.2.2.2.2)] ([] : List Key) ([] : List Ent) ([] : List ByteArray))) al (Sl.nil_ _ _ _ (Nat.zero_le _)) (Sl.nil_ _ _ _ (Nat.zero_le _)) (Sl.nil_ _ _ _ (Nat.zero_le _))), af⟩
   ·intro _ ae ad af _ _ ah _ ai ag aj
    have ak := aO.trans ah
    obtain ⟨al, aA, _⟩ := id ai
    have aB := aA af
    have aC : RpV ad ((Val.mk 7 0 (⟨#[]⟩) [ac, (Val.mk aa.2.1 aa.2.2.1 aa.2.2.2.1 aa.2.2.2.2.1 aa.2.2.2.2.2.1 aa.2.2.2.2.2.2.1 aa.2.2.2.2.2.2.2)] ([] : List Key) ([] : List Ent) ([] : List ByteArray)) : Val) (ae 20) := aj 7 rfl 20 rfl
    obtain ⟨an, ao, ap, aq, ar, au, av, aw, aD, aP, aQ, aE, aR⟩ := Val.rpv aC
    refine r_store aB 0 (.agg #[iv 7, iv 0, tv (⟨#[]⟩), lv an ((Val.mk 7 0 (⟨#[]⟩) [ac, (Val.mk aa.2.1 aa.2.2.1 aa.2.2.2.1 aa.2.2.2.2.1 aa.2.2.2.2.2.1 aa.2.2.2.2.2.2.1 aa.2.2.2.2.2.2.2)] ([] : List Key) ([] : List Ent) ([] : List ByteArray)).Kids).length ao, lv ap ((Val.mk 7 0 (⟨#[]⟩) [ac, (Val.mk aa.2.1 aa.2.2.1 aa.2.2.2.1 aa.2.2.2.2.1 aa.2.2.2.2.2.1 aa.2.2.2.2.2.2.1 aa.2.2.2.2.2.2.2)] ([] : List Key) ([] : List Ent) ([] : List ByteArray)).Keys).length aq, lv ar ((Val.mk 7 0 (⟨#[]⟩) [ac, (Val.mk aa.2.1 aa.2.2.1 aa.2.2.2.1 aa.2.2.2.2.1 aa.2.2.2.2.2.1 aa.2.2.2.2.2.2.1 aa.2.2.2.2.2.2.2)] ([] : List Key) ([] : List Ent) ([] : List ByteArray)).Entries).length au, lv av ((Val.mk 7 0 (⟨#[]⟩) [ac, (Val.mk aa.2.1 aa.2.2.1 aa.2.2.2.1 aa.2.2.2.2.1 aa.2.2.2.2.2.1 aa.2.2.2.2.2.2.1 aa.2.2.2.2.2.2.2)] ([] : List Key) ([] : List Ent) ([] : List ByteArray)).Labels).length aw]) [iv 7, iv 0, tv (⟨#[]⟩), lv an ((Val.mk 7 0 (⟨#[]⟩) [ac, (Val.mk aa.2.1 aa.2.2.1 aa.2.2.2.1 aa.2.2.2.2.1 aa.2.2.2.2.2.1 aa.2.2.2.2.2.2.1 aa.2.2.2.2.2.2.2)] ([] : List Key) ([] : List Ent) ([] : List ByteArray)).Kids).length ao, lv ap ((Val.mk 7 0 (⟨#[]⟩) [ac, (Val.mk aa.2.1 aa.2.2.1 aa.2.2.2.1 aa.2.2.2.2.1 aa.2.2.2.2.2.1 aa.2.2.2.2.2.2.1 aa.2.2.2.2.2.2.2)] ([] : List Key) ([] : List Ent) ([] : List ByteArray)).Keys).length aq, lv ar ((Val.mk 7 0 (⟨#[]⟩) [ac, (Val.mk aa.2.1 aa.2.2.1 aa.2.2.2.1 aa.2.2.2.2.1 aa.2.2.2.2.2.1 aa.2.2.2.2.2.2.1 aa.2.2.2.2.2.2.2)] ([] : List Key) ([] : List Ent) ([] : List ByteArray)).Entries).length au, lv av ((Val.mk 7 0 (⟨#[]⟩) [ac, (Val.mk aa.2.1 aa.2.2.1 aa.2.2.2.1 aa.2.2.2.2.1 aa.2.2.2.2.2.1 aa.2.2.2.2.2.2.1 aa.2.2.2.2.2.2.2)] ([] : List Key) ([] : List Ent) ([] : List ByteArray)).Labels).length aw] [iv 7, iv 0, tv (⟨#[]⟩), lv an ((Val.mk 7 0 (⟨#[]⟩) [ac, (Val.mk aa.2.1 aa.2.2.1 aa.2.2.2.1 aa.2.2.2.2.1 aa.2.2.2.2.2.1 aa.2.2.2.2.2.2.1 aa.2.2.2.2.2.2.2)] ([] : List Key) ([] : List Ent) ([] : List ByteArray)).Kids).length ao, lv ap ((Val.mk 7 0 (⟨#[]⟩) [ac, (Val.mk aa.2.1 aa.2.2.1 aa.2.2.2.1 aa.2.2.2.2.1 aa.2.2.2.2.2.1 aa.2.2.2.2.2.2.1 aa.2.2.2.2.2.2.2)] ([] : List Key) ([] : List Ent) ([] : List ByteArray)).Keys).length aq, lv ar ((Val.mk 7 0 (⟨#[]⟩) [ac, (Val.mk aa.2.1 aa.2.2.1 aa.2.2.2.1 aa.2.2.2.2.1 aa.2.2.2.2.2.1 aa.2.2.2.2.2.2.1 aa.2.2.2.2.2.2.2)] ([] : List Key) ([] : List Ent) ([] : List ByteArray)).Entries).length au, lv av ((Val.mk 7 0 (⟨#[]⟩) [ac, (Val.mk aa.2.1 aa.2.2.1 aa.2.2.2.1 aa.2.2.2.2.1 aa.2.2.2.2.2.1 aa.2.2.2.2.2.2.1 aa.2.2.2.2.2.2.2)] ([] : List Key) ([] : List Ent) ([] : List ByteArray)).Labels).length aw] ((ag 3 rfl).trans bt) aD rfl rfl rfl sz27 rfl rfl rfl ?_
    intro _ am aS
    refine j0 ?_
    exact ⟨_, _, rfl, rfl, (ExtB.refl _ _).trans ((ExtB.refl _ _).mod ak.size am), (Wext.refl _).trans am.wext, trivial, ⟨(al.mod am rfl), (fun h => Bool.noConfusion h), (fun _ => ⟨an, ao, ap, aq, ar, au, av, aw, aS, (aP.mono am.wext), (aQ.mono am.wext), (aE.mono am.wext), (aR.mono am.wext)⟩)⟩⟩
   intro _ _ bZ b0 b1 bu _
   have b2 := aO.trans bZ
   obtain ⟨b3, _, b5⟩ := b1
   have b6 := b3
   obtain ⟨b7, b8, b9, ca, cb, cc, cd, ce, cf, cg, ch, ci, cj⟩ := b5 rfl
   have ck := (bu 4 rfl).trans bd
   refine j5 (j1 (j3 ?_))
   refine r_move (iv aa.1) ck rfl ?_
   refine r_bin (iv aa.1) (iv 1) (iv (w64 (aa.1 - 1))) rfl rfl rfl rfl (b_sub) ?_
   refine r_assign (iv (w64 (aa.1 - 1))) rfl rfl ?_
   refine j0 ?_
   obtain rfl := oi hf
   exact ⟨rfl, _, _, b7, b8, b9, ca, cb, cc, cd, ce, rfl, rfl, (((((((bc).put rfl).put rfl).draw bu rfl).put rfl).put rfl).put rfl), b2, (((Wext.refl _).trans bf).trans b0), rfl, b6, cf, cg, ch, ci, cj⟩
  refine c_false rfl bg rfl ?_
  refine jc (j8 ?_)
  obtain rfl := oi hf
  exact ⟨rfl, _, _, a4, a5, a6, a7, a8, a9, ba, bb, rfl, rfl, (((bc).put rfl).put rfl), aO, ((Wext.refl _).trans bf), bd, bn, bo, bp, bq, br, bs⟩
 ·exact ⟨_, _, aU, aV, aW, aX, aY, aZ, a1, a2, rfl, rfl, (Agr.refl _ _), bI, (Wext.refl _), bL, (((hb7.ext be).ext ay).mod az rfl), bH, ((bB.mono ay.wext).mono az.wext), ((bC.mono ay.wext).mono az.wext), ((bD.mono ay.wext).mono az.wext), ((bE.mono ay.wext).mono az.wext)⟩
 rintro e a w ⟨rfl, cv, cw, aF, aG, aH, aI, aJ, aK, aL, aM, rfl, rfl, bw, cl, cx, cy, cm, cn, co, cp, cq, cr⟩
 have bx := (bw 2 rfl).trans bK
 have cs := (bw 3 rfl).trans bm
 refine j6 (j1 (j2 (j3 ?_)))
 refine r_load ax 0 (.agg #[iv ab.2.1, iv ab.2.2.1, tv ab.2.2.2.1, lv aF ab.2.2.2.2.1.length aG, lv aH ab.2.2.2.2.2.1.length aI, lv aJ ab.2.2.2.2.2.2.1.length aK, lv aL ab.2.2.2.2.2.2.2.length aM]) cs rfl (loads_row tr27 (Blk.range cn 0 [iv ab.2.1, iv ab.2.2.1, tv ab.2.2.2.1, lv aF ab.2.2.2.2.1.length aG, lv aH ab.2.2.2.2.2.1.length aI, lv aJ ab.2.2.2.2.2.2.1.length aK, lv aL ab.2.2.2.2.2.2.2.length aM] rfl)) ?_
 refine r_store cm 0 (.agg #[iv ab.2.1, iv ab.2.2.1, tv ab.2.2.2.1, lv aF ab.2.2.2.2.1.length aG, lv aH ab.2.2.2.2.2.1.length aI, lv aJ ab.2.2.2.2.2.2.1.length aK, lv aL ab.2.2.2.2.2.2.2.length aM]) [iv ab.2.1, iv ab.2.2.1, tv ab.2.2.2.1, lv aF ab.2.2.2.2.1.length aG, lv aH ab.2.2.2.2.2.1.length aI, lv aJ ab.2.2.2.2.2.2.1.length aK, lv aL ab.2.2.2.2.2.2.2.length aM] [iv ab.2.1, iv ab.2.2.1, tv ab.2.2.2.1, lv aF ab.2.2.2.2.1.length aG, lv aH ab.2.2.2.2.2.1.length aI, lv aJ ab.2.2.2.2.2.2.1.length aK, lv aL ab.2.2.2.2.2.2.2.length aM] bx rfl rfl rfl rfl sz27 rfl rfl rfl ?_
 intro _ aT ct
 have cu := cl.y aT
 refine j0 (j1 (jb ?_))
 obtain rfl := oi hf
 refine ret_one (.agg #[iv ab.2.1, iv ab.2.2.1, tv ab.2.2.2.1, lv aF ab.2.2.2.2.1.length aG, lv aH ab.2.2.2.2.2.1.length aI, lv aJ ab.2.2.2.2.2.2.1.length aK, lv aL ab.2.2.2.2.2.2.2.length aM]) rfl ⟨rfl, _, bx, loads_row tr27 (Blk.range ct 0 [iv ab.2.1, iv ab.2.2.1, tv ab.2.2.2.1, lv aF ab.2.2.2.2.1.length aG, lv aH ab.2.2.2.2.2.1.length aI, lv aJ ab.2.2.2.2.2.2.1.length aK, lv aL ab.2.2.2.2.2.2.2.length aM] rfl)⟩ cu ?_
 exact (Val.rpvMk (v := (Val.mk ab.2.1 ab.2.2.1 ab.2.2.2.1 ab.2.2.2.2.1 ab.2.2.2.2.2.1 ab.2.2.2.2.2.2.1 ab.2.2.2.2.2.2.2)) (co.mono aT.wext) (cp.mono aT.wext) (cq.mono aT.wext) (cr.mono aT.wext))

def S_value_Cons (f : (Val → Val → Option Val)) : Prop := ∀ (s0 : S) (v0 : Value) (v1 : Value) (a0 : Val) (a1 : Val) (r : Val), RpV s0 a0 v0 → RpV s0 a1 v1 → f a0 a1 = some r → Ctr Go.Proofs.Try.prog 22 [v0, v1] s0 (fun v τ => RpV τ r v)

theorem ok_value_Cons (fuel : Nat) : S_value_Cons (value_Cons fuel) := by
 intro s0 v0 v1 a0 a1 r hp0 hp1 hf
 obtain ⟨A1, c2, A4, c5, A7, c8, aJ, aK, rfl, h3, h6, h9, bc⟩ := Val.rpv hp0
 obtain ⟨aL, aM, aN, aO, aP, aQ, aR, aS, rfl, bd, be, bf, bg⟩ := Val.rpv hp1
 unfold value_Cons at hf
 have E0 : ExtB s0.N s0 s0 := ExtB.refl _ _
 refine ctr_of 11 func22 rfl rfl rfl rfl ?_
 refine j2 (j3 ?_)
 refine r_box (B := s0.N) 1 E0.size (Val.ag a0 A1 c2 A4 c5 A7 c8 aJ aK) (Val.cs a0 A1 c2 A4 c5 A7 c8 aJ aK) rfl rfl rfl ?_
 intro _ aY ax bh
 have aZ := E0.x ax
 refine r_box (B := s0.N) 2 aZ.size (Val.ag a1 aL aM aN aO aP aQ aR aS) (Val.cs a1 aL aM aN aO aP aQ aR aS) rfl rfl rfl ?_
 intro _ a2 am bi
 have a3 := aZ.x am
 refine r_alloc (B := s0.N) 3 a3.size _ [iv 0, iv 0, tv (⟨#[]⟩), nl Val, nl Key, nl Ent, nl ByteArray] ti27 rfl ?_
 intro _ aX aj bj
 have aT := a3.x aj
 refine j0 (j1 (j2 ?_))
 obtain ⟨aa, bk, hf⟩ := bind_some hf
 obtain ⟨ab, bl, hf⟩ := bind_some hf
 refine wp_draw (B := frExt s0.N) (sm 5 6 ++ [none]) [[], [0], [], rg 3, rg 4, rg 5, rg 6] [Fct.data (a0 : Val), Fct.data (aa : Val), Fct.data (a1 : Val), Fct.data (ab : Val), Fct.data ([aa, ab] : (List Val)), Fct.data ((Val.mk 7 0 (⟨#[]⟩) [aa, ab] ([] : List Key) ([] : List Ent) ([] : List ByteArray)) : Val), Fct.any] (fun D F τ => (Blk s0.N 1 τ aY 27 (Val.cs a0 A1 c2 A4 c5 A7 c8 aJ aK)) ∧ (Blk s0.N 2 τ a2 27 (Val.cs a1 aL aM aN aO aP aQ aR aS)) ∧ (D 6 = false → Blk s0.N 3 τ aX 27 [iv 0, iv 0, tv (⟨#[]⟩), nl Val, nl Key, nl Ent, nl ByteArray]) ∧ (D 6 = true → (∃ (zA3 : Option Addr) (zc3 : Nat) (zA4 : Option Addr) (zc4 : Nat) (zA5 : Option Addr) (zc5 : Nat) (zA6 : Option Addr) (zc6 : Nat), Blk s0.N 3 τ aX 27 [iv 7, iv 0, tv (⟨#[]⟩), lv zA3 [aa, ab].length zc3, lv zA4 ([] : List Key).length zc4, lv zA5 ([] : List Ent).length zc5, lv zA6 ([] : List ByteArray).length zc6] ∧ Sl τ [aa, ab] zA3 zc3 ∧ Sl τ ([] : List Key) zA4 zc4 ∧ Sl τ ([] : List Ent) zA5 zc5 ∧ Sl τ ([] : List ByteArray) zA6 zc6))) (by kernel_rfl) rfl (by decide) (by decide) ⟨(((bh.ext am).ext aj).ext (ext_draw _)), ((bi.ext aj).ext (ext_draw _)), (fun _ => (bj.ext (ext_draw _))), (fun h => Bool.noConfusion h)⟩ (by decide) (by decide) ⟨?_, ?_, ?_, ?_, ?_, ?_, ?_, trivial⟩ ?_
 ·intro _ _ _ _ _ _ _ ac ad af _
  obtain ⟨ag, _, _, _⟩ := id ad
  have ah := ag
  refine r_load aY 0 (Val.ag a0 A1 c2 A4 c5 A7 c8 aJ aK) ((af 2 rfl).trans rfl) rfl (loads_row tr27 (Blk.range ah 0 (Val.cs a0 A1 c2 A4 c5 A7 c8 aJ aK) rfl)) ?_
  exact d0 ⟨(Val.rpvMk (v := a0) ((((h3.mono ax.wext).mono am.wext).mono aj.wext).mono ac) ((((h6.mono ax.wext).mono am.wext).mono aj.wext).mono ac) ((((h9.mono ax.wext).mono am.wext).mono aj.wext).mono ac) ((((bc.mono ax.wext).mono am.wext).mono aj.wext).mono ac)), ad⟩
 ·intro _ ac ad _ _ af ag _ ah _ ak
  have al := aT.trans ag
  obtain ⟨ay, az, aA, _⟩ := id ah
  have aB : RpV ad (a0 : Val) (ac 5) := ak 0 rfl 5 rfl
  obtain ⟨aC, aD, an, ao, ap, aq, ar, au, av, aw, aE, aF, aG⟩ := Val.rpv aB
  refine r_call [Val.ag a0 aC aD an ao ap aq ar au] (evs1 av) rfl ((ok_value_clone fuel) _ _ _ _ (Val.rpvMk (v := a0) aw aE aF aG) bk) ?_
  intro _ _ ai aH
  obtain ⟨_, _, _, _, _, _, _, _, rfl, ae, aI, aU, aV⟩ := Val.rpv aH
  exact d1 al (Nat.le_refl _) ai ⟨(Val.rpvMk (v := aa) ae aI aU aV), ⟨(ay.ext ai), (az.ext ai), (fun y0 => ((aA y0).ext ai)), (nc (af 6 rfl))⟩⟩
 ·intro _ _ _ _ _ _ _ ac ad af _
  obtain ⟨_, ag, _, _⟩ := id ad
  have ah := ag
  refine r_load a2 0 (Val.ag a1 aL aM aN aO aP aQ aR aS) ((af 3 rfl).trans rfl) rfl (loads_row tr27 (Blk.range ah 0 (Val.cs a1 aL aM aN aO aP aQ aR aS) rfl)) ?_
  exact d0 ⟨(Val.rpvMk (v := a1) ((((bd.mono ax.wext).mono am.wext).mono aj.wext).mono ac) ((((be.mono ax.wext).mono am.wext).mono aj.wext).mono ac) ((((bf.mono ax.wext).mono am.wext).mono aj.wext).mono ac) ((((bg.mono ax.wext).mono am.wext).mono aj.wext).mono ac)), ad⟩
 ·intro _ ac ad _ _ af ag _ ah _ ak
  have al := aT.trans ag
  obtain ⟨ay, az, aA, _⟩ := id ah
  have aB : RpV ad (a1 : Val) (ac 7) := ak 2 rfl 7 rfl
  obtain ⟨aC, aD, an, ao, ap, aq, ar, au, av, aw, aE, aF, aG⟩ := Val.rpv aB
  refine r_call [Val.ag a1 aC aD an ao ap aq ar au] (evs1 av) rfl ((ok_value_clone fuel) _ _ _ _ (Val.rpvMk (v := a1) aw aE aF aG) bl) ?_
  intro _ _ ai aH
  obtain ⟨_, _, _, _, _, _, _, _, rfl, ae, aI, aU, aV⟩ := Val.rpv aH
  exact d1 al (Nat.le_refl _) ai ⟨(Val.rpvMk (v := ab) ae aI aU aV), ⟨(ay.ext ai), (az.ext ai), (fun y0 => ((aA y0).ext ai)), (nc (af 6 rfl))⟩⟩
 ·intro _ ac ad _ _ af ag _ ah _ ak
  have al := aT.trans ag
  obtain ⟨ay, az, aA, _⟩ := id ah
  have aB : RpV ad (aa : Val) (ac 6) := ak 1 rfl 6 rfl
  obtain ⟨aC, aD, an, ao, ap, aq, ar, au, av, aw, aE, aF, aG⟩ := Val.rpv aB
  have ai : RpV ad (ab : Val) (ac 8) := ak 3 rfl 8 rfl
  obtain ⟨aH, ae, aI, aU, aV, bm, bn, bo, bp, bq, br, bs, bt⟩ := Val.rpv ai
  refine r_buildSlice (B := s0.N) (E := 27) 4 al.size ts22 (xs := [aa, ab]) [Val.ag aa aC aD an ao ap aq ar au, Val.ag ab aH ae aI aU aV bm bn bo] (eps_cons av (eps_cons bp eps_nil)) rfl rfl rfl (by decide) rfl (by simp [Value.cells, Rp.sz]) ⟨_, _, rfl, (Val.cells_iff.2 ⟨_, _, _, _, _, _, _, _, rfl, aw, aE, aF, aG⟩), ⟨_, _, rfl, (Val.cells_iff.2 ⟨_, _, _, _, _, _, _, _, rfl, bq, br, bs, bt⟩), rfl⟩⟩ ?_
  intro _ _ _ aW bu
  exact d1 al (Nat.le_refl _) aW ⟨(RpV.mkList bu.sl), ⟨(ay.ext aW), (az.ext aW), (fun y0 => ((aA y0).ext aW)), (nc (af 6 rfl))⟩⟩
 ·intro _ ac ad _ _ _ _ _ af _ ag
  have ah : RpV ad ([aa, ab] : (List Val)) (ac 9) := ag 4 rfl 9 rfl
  obtain ⟨ak, al, ay, az⟩ := RpV.list ah
  refine r_build tst27 [(0, iv 7), (3, lv ak [aa, ab].length al)] [iv 7, iv 0, tv (⟨#[]⟩), lv ak [aa, ab].length al, nl Key, nl Ent, nl ByteArray] (eps_cons rfl (eps_cons ay eps_nil)) rfl rfl ?_
  exact d0 ⟨(Val.rpvMk (v := (Val.mk 7 0 (⟨#[]⟩) [aa, ab] ([] : List Key) ([] : List Ent) ([] : List ByteArray))) az (Sl.nil_ _ _ _ (Nat.zero_le _)) (Sl.nil_ _ _ _ (Nat.zero_le _)) (Sl.nil_ _ _ _ (Nat.zero_le _))), af⟩
 ·intro _ ac ad af _ _ ag _ ah ak al
  have ay := aT.trans ag
  obtain ⟨az, aA, aB, _⟩ := id ah
  have aC := aB af
  have aD : RpV ad ((Val.mk 7 0 (⟨#[]⟩) [aa, ab] ([] : List Key) ([] : List Ent) ([] : List ByteArray)) : Val) (ac 10) := al 5 rfl 10 rfl
  obtain ⟨an, ao, ap, aq, ar, au, av, aw, aE, aF, aG, ai, aH⟩ := Val.rpv aD
  refine r_store aC 0 (.agg #[iv 7, iv 0, tv (⟨#[]⟩), lv an ((Val.mk 7 0 (⟨#[]⟩) [aa, ab] ([] : List Key) ([] : List Ent) ([] : List ByteArray)).Kids).length ao, lv ap ((Val.mk 7 0 (⟨#[]⟩) [aa, ab] ([] : List Key) ([] : List Ent) ([] : List ByteArray)).Keys).length aq, lv ar ((Val.mk 7 0 (⟨#[]⟩) [aa, ab] ([] : List Key) ([] : List Ent) ([] : List ByteArray)).Entries).length au, lv av ((Val.mk 7 0 (⟨#[]⟩) [aa, ab] ([] : List Key) ([] : List Ent) ([] : List ByteArray)).Labels).length aw]) [iv 7, iv 0, tv (⟨#[]⟩), lv an ((Val.mk 7 0 (⟨#[]⟩) [aa, ab] ([] : List Key) ([] : List Ent) ([] : List ByteArray)).Kids).length ao, lv ap ((Val.mk 7 0 (⟨#[]⟩) [aa, ab] ([] : List Key) ([] : List Ent) ([] : List ByteArray)).Keys).length aq, lv ar ((Val.mk 7 0 (⟨#[]⟩) [aa, ab] ([] : List Key) ([] : List Ent) ([] : List ByteArray)).Entries).length au, lv av ((Val.mk 7 0 (⟨#[]⟩) [aa, ab] ([] : List Key) ([] : List Ent) ([] : List ByteArray)).Labels).length aw] [iv 7, iv 0, tv (⟨#[]⟩), lv an ((Val.mk 7 0 (⟨#[]⟩) [aa, ab] ([] : List Key) ([] : List Ent) ([] : List ByteArray)).Kids).length ao, lv ap ((Val.mk 7 0 (⟨#[]⟩) [aa, ab] ([] : List Key) ([] : List Ent) ([] : List ByteArray)).Keys).length aq, lv ar ((Val.mk 7 0 (⟨#[]⟩) [aa, ab] ([] : List Key) ([] : List Ent) ([] : List ByteArray)).Entries).length au, lv av ((Val.mk 7 0 (⟨#[]⟩) [aa, ab] ([] : List Key) ([] : List Ent) ([] : List ByteArray)).Labels).length aw] ((ak 4 rfl).trans rfl) aE rfl rfl rfl sz27 rfl rfl rfl ?_
  intro _ ae aI
  refine j0 ?_
  exact ⟨_, _, rfl, rfl, (ExtB.refl _ _).trans ((ExtB.refl _ _).mod ay.size ae), (Wext.refl _).trans ae.wext, trivial, ⟨(az.mod ae rfl), (aA.mod ae rfl), (fun h => Bool.noConfusion h), (fun _ => ⟨an, ao, ap, aq, ar, au, av, aw, aI, (aF.mono ae.wext), (aG.mono ae.wext), (ai.mono ae.wext), (aH.mono ae.wext)⟩)⟩⟩
 intro bv _ bw _ bx bz _
 have bA := aT.trans bw
 obtain ⟨_, _, _, bB⟩ := bx
 obtain ⟨a4, a5, a6, a7, a8, a9, ba, bb, bC, bD, bE, bF, bG⟩ := bB rfl
 have bH : bv 4 = (.pointer (some ⟨aX, 0, none⟩)) := (bz 4 rfl).trans rfl
 refine j1 (jb ?_)
 obtain rfl := oi hf
 refine ret_one (.agg #[iv 7, iv 0, tv (⟨#[]⟩), lv a4 [aa, ab].length a5, lv a6 ([] : List Key).length a7, lv a8 ([] : List Ent).length a9, lv ba ([] : List ByteArray).length bb]) rfl ⟨rfl, _, bH, loads_row tr27 (Blk.range bC 0 [iv 7, iv 0, tv (⟨#[]⟩), lv a4 [aa, ab].length a5, lv a6 ([] : List Key).length a7, lv a8 ([] : List Ent).length a9, lv ba ([] : List ByteArray).length bb] rfl)⟩ bA ?_
 exact (Val.rpvMk (v := (Val.mk 7 0 (⟨#[]⟩) [aa, ab] ([] : List Key) ([] : List Ent) ([] : List ByteArray))) bD bE bF bG)

def S_value_Int (f : (Int → Option Val)) : Prop := ∀ (s0 : S) (v0 : Value) (a0 : Int) (r : Val), RpV s0 a0 v0 → f a0 = some r → Ctr Go.Proofs.Try.prog 23 [v0] s0 (fun v τ => RpV τ r v)

theorem ok_value_Int : S_value_Int value_Int := by
 intro s0 v0 a0 r hp0 hf
 obtain rfl := RpV.int hp0
 unfold value_Int at hf
 have E0 : ExtB s0.N s0 s0 := ExtB.refl _ _
 refine ctr_of 5 func23 rfl rfl rfl rfl ?_
 refine j2 (j3 ?_)
 refine r_alloc (B := s0.N) 1 E0.size _ [iv 0, iv 0, tv (⟨#[]⟩), nl Val, nl Key, nl Ent, nl ByteArray] ti27 rfl ?_
 intro s2 b1 k3 hb4
 have E5 := E0.x k3
 refine j0 (j1 (j2 (j3 ?_)))
 refine r_move (iv a0) rfl rfl ?_
 refine r_build tst27 [(0, iv 1), (1, iv a0)] [iv 1, iv a0, tv (⟨#[]⟩), nl Val, nl Key, nl Ent, nl ByteArray] (eps_cons rfl (eps_cons rfl eps_nil)) rfl rfl ?_
 refine r_store hb4 0 (.agg #[iv 1, iv a0, tv (⟨#[]⟩), nl Val, nl Key, nl Ent, nl ByteArray]) [iv 1, iv a0, tv (⟨#[]⟩), nl Val, nl Key, nl Ent, nl ByteArray] [iv 1, iv a0, tv (⟨#[]⟩), nl Val, nl Key, nl Ent, nl ByteArray] rfl rfl rfl rfl rfl sz27 rfl rfl rfl ?_
 intro s6 hm7 hb8
 have E9 := E5.y hm7
 refine j0 (j1 (jb ?_))
 obtain rfl := oi hf
 refine ret_one (.agg #[iv 1, iv a0, tv (⟨#[]⟩), nl Val, nl Key, nl Ent, nl ByteArray]) rfl ⟨rfl, _, rfl, loads_row tr27 (Blk.range hb8 0 [iv 1, iv a0, tv (⟨#[]⟩), nl Val, nl Key, nl Ent, nl ByteArray] rfl)⟩ E9 ?_
 exact (Val.rpvMk (v := (Val.mk 1 a0 (⟨#[]⟩) ([] : List Val) ([] : List Key) ([] : List Ent) ([] : List ByteArray))) (Sl.nil_ _ _ _ (Nat.zero_le _)) (Sl.nil_ _ _ _ (Nat.zero_le _)) (Sl.nil_ _ _ _ (Nat.zero_le _)) (Sl.nil_ _ _ _ (Nat.zero_le _)))

def S_semtypelaw4_awake (f : (Option Bool)) : Prop := ∀ (s0 : S) (r : Bool), f = some r → Ctr Go.Proofs.Try.prog 8 [] s0 (fun v τ => RpV τ r v)

theorem ok_semtypelaw4_awake (fuel : Nat) : S_semtypelaw4_awake (semtypelaw4_awake fuel) := by
 intro s0 r hf
 unfold semtypelaw4_awake at hf
 have E0 : ExtB s0.N s0 s0 := ExtB.refl _ _
 refine ctr_of 33 func8 rfl rfl rfl rfl ?_
 refine j2 (j3 ?_)
 refine r_assign (bv false) rfl rfl ?_
 refine j0 (j1 (j2 (j3 ?_)))
 obtain ⟨r1, e2, hf⟩ := bind_some hf
 refine r_call [iv 1] (evs1 rfl) rfl (ok_value_Int _ _ _ _ (RpV.mkInt _ _) e2) ?_
 intro v4 s3 k5 hr6
 have E7 := E0.x k5
 obtain ⟨A8, c9, bC, bD, bE, bF, bG, bH, rfl, bI, bJ, bK, bL⟩ := Val.rpv hr6
 obtain ⟨a0, bM, hf⟩ := bind_some hf
 refine r_call [iv 2] (evs1 rfl) rfl (ok_value_Int _ _ _ _ (RpV.mkInt _ _) bM) ?_
 intro _ _ a6 bN
 have bz := E7.x a6
 obtain ⟨bO, bP, bQ, bR, bS, bT, bU, bV, rfl, bW, bX, bY, bZ⟩ := Val.rpv bN
 refine r_buildSlice (B := s0.N) (E := 27) 1 bz.size ts22 (xs := [r1, a0]) [Val.ag r1 A8 c9 bC bD bE bF bG bH, Val.ag a0 bO bP bQ bR bS bT bU bV] (eps_cons rfl (eps_cons rfl eps_nil)) rfl rfl rfl (by decide) rfl (by simp [Value.cells, Rp.sz]) ⟨_, _, rfl, (Val.cells_iff.2 ⟨_, _, _, _, _, _, _, _, rfl, (bI.mono a6.wext), (bJ.mono a6.wext), (bK.mono a6.wext), (bL.mono a6.wext)⟩), ⟨_, _, rfl, (Val.cells_iff.2 ⟨_, _, _, _, _, _, _, _, rfl, bW, bX, bY, bZ⟩), rfl⟩⟩ ?_
 intro _ a1 a2 b0 a3
 have b1 := bz.x b0
 obtain ⟨ad, b2, hf⟩ := bind_some hf
 refine r_call [lv a1 [r1, a0].length a2] (evs1 rfl) rfl ((ok_value_List fuel) _ _ _ _ (RpV.mkList a3.sl) b2) ?_
 intro _ _ a4 b3
 have bA := b1.x a4
 obtain ⟨au, av, aw, ax, ay, az, aA, aB, rfl, aU, aV, aW, aX⟩ := Val.rpv b3
 refine r_alloc (B := s0.N) 2 bA.size _ [iv 0, iv 0, tv (⟨#[]⟩), nl Val, nl Key, nl Ent, nl ByteArray] ti27 rfl ?_
 intro _ aQ ah b4
 have b5 := bA.x ah
 refine r_store b4 0 (Val.ag ad au av aw ax ay az aA aB) (Val.cs ad au av aw ax ay az aA aB) (Val.cs ad au av aw ax ay az aA aB) rfl rfl rfl rfl rfl sz27 rfl rfl rfl ?_
 intro _ ai a7
 have aO := b5.y ai
 refine j0 (j1 (j2 ?_))
 obtain ⟨ar, a8, hf⟩ := bind_some hf
 refine if_else hf (fun aP hf => ?_) (fun aP hf => ?_)
 ·obtain ⟨aq, br, hf⟩ := bind_some hf
  refine if_else hf (fun aS hf => ?_) (fun aS hf => ?_)
  ·obtain ⟨aN, bs, hf⟩ := bind_some hf
   refine if_else hf (fun aY hf => ?_) (fun aY hf => ?_)
   ·obtain ⟨aR, bB, hf⟩ := bind_some hf
    refine if_else hf (fun aT hf => ?_) (fun aT hf => ?_)
    ·obtain ⟨a9, b6, hf⟩ := bind_some hf
     obtain ⟨ba, b7, hf⟩ := bind_some hf
     obtain ⟨bb, b8, hf⟩ := bind_some hf
     obtain ⟨bc, b9, hf⟩ := bind_some hf
     obtain ⟨bd, ca, hf⟩ := bind_some hf
     obtain ⟨a5, cb, hf⟩ := bind_some hf
     refine wp_draw (B := frExt s0.N) (sm 6 27 ++ [some 0]) [[], [0], [0, 1], rg 3, rg 4, rg 5, rg 6, rg 7, rg 8, rg 9, rg 10, rg 11, rg 12, rg 13, rg 14, rg 15, rg 16, rg 17, rg 18, rg 19, rg 19, (rg 19 ++ [20]), (rg 19 ++ [20, 21]), (rg 19 ++ [20, 21, 22]), (rg 19 ++ [20, 21, 22, 23]), rg 25, rg 26, rg 27] [Fct.data (ad : Val), Fct.eqv (iv ar), Fct.eqv (bv (ar == 5)), Fct.eqv (bv (ar == 5)), Fct.data (ad : Val), Fct.eqv (iv aq), Fct.eqv (bv (aq == 3)), Fct.eqv (bv (aq == 3)), Fct.eqv (bv (aq == 3)), Fct.data (ad : Val), Fct.eqv (iv aN), Fct.eqv (bv (aN == 0)), Fct.eqv (bv (aN == 0)), Fct.eqv (bv (aN == 0)), Fct.data ((Val.mk 0 0 (⟨#[]⟩) ([] : List Val) ([] : List Key) ([] : List Ent) ([] : List ByteArray)) : Val), Fct.eqv (iv aR), Fct.eqv (bv (aR == 1)), Fct.eqv (bv (aR == 1)), Fct.eqv (bv (aR == 1)), Fct.data (ad : Val), Fct.data (a9 : Val), Fct.data (ba : Val), Fct.data (bb : Val), Fct.data (bc : Val), Fct.data (bd : Val), Fct.eqv (bv a5), Fct.eqv (bv a5), Fct.eqv (bv a5)] (fun D F τ => (Blk s0.N 2 τ aQ 27 (Val.cs ad au av aw ax ay az aA aB)) ∧ (Own s0.N 1 27 τ [r1, a0] a1 a2)) (by kernel_rfl) rfl (by decide) (by decide) ⟨(a7.ext (ext_draw _)), ((((a3.ext a4).ext ah).mod ai rfl).ext (ext_draw _))⟩ (by decide) (by decide) ⟨?_, ?_, ?_, ?_, ?_, ?_, ?_, ?_, ?_, ?_, ?_, ?_, ?_, ?_, ?_, ?_, ?_, ?_, ?_, ?_, ?_, ?_, ?_, ?_, ?_, ?_, ?_, ?_, trivial⟩ ?_
     ·intro _ _ _ _ _ _ _ aa ab ac _
      obtain ⟨ae, _⟩ := id ab
      have af := ae
      refine r_load aQ 0 (Val.ag ad au av aw ax ay az aA aB) ((ac 1 rfl).trans rfl) rfl (loads_row tr27 (Blk.range af 0 (Val.cs ad au av aw ax ay az aA aB) rfl)) ?_
      exact d0 ⟨(Val.rpvMk (v := ad) (((aU.mono ah.wext).mono ai.wext).mono aa) (((aV.mono ah.wext).mono ai.wext).mono aa) (((aW.mono ah.wext).mono ai.wext).mono aa) (((aX.mono ah.wext).mono ai.wext).mono aa)), ab⟩
     ·intro _ aa ab _ _ _ ac _ ae _ af
      have aj := aO.trans ac
      obtain ⟨ak, al⟩ := id ae
      have am : RpV ab (ad : Val) (aa 6) := af 0 rfl 6 rfl
      obtain ⟨an, ao, ap, aC, aD, aE, aF, aG, aH, aI, aJ, aK, aL⟩ := Val.rpv am
      refine r_call [Val.ag ad an ao ap aC aD aE aF aG] (evs1 aH) rfl ((ok_value_Nodes fuel) _ _ _ _ (Val.rpvMk (v := ad) aI aJ aK aL) a8) ?_
      intro _ _ ag aM
      obtain rfl := RpV.int aM
      exact d1 aj (Nat.le_refl _) ag ⟨rfl, ⟨(ak.ext ag), (al.ext ag)⟩⟩
     ·intro _ _ _ _ _ _ _ _ aa _ ab
      refine r_bin (iv ar) (iv 5) (bv (ar == 5)) (ab 1 rfl 7 rfl) rfl rfl rfl (b_eql) ?_
      exact d0 ⟨rfl, aa⟩
     ·intro _ _ _ _ _ _ _ _ aa _ ab
      refine r_move (bv (ar == 5)) (ab 2 rfl 8 rfl) rfl ?_
      exact d0 ⟨rfl, aa⟩
     ·intro _ _ _ _ _ _ _ aa ab ac ae
      obtain ⟨af, _⟩ := id ab
      have aj := af
      refine gd1 rfl (ae 3 rfl 9 rfl) aP ?_
      refine r_load aQ 0 (Val.ag ad au av aw ax ay az aA aB) ((ac 1 rfl).trans rfl) rfl (loads_row tr27 (Blk.range aj 0 (Val.cs ad au av aw ax ay az aA aB) rfl)) ?_
      exact d0 ⟨(Val.rpvMk (v := ad) (((aU.mono ah.wext).mono ai.wext).mono aa) (((aV.mono ah.wext).mono ai.wext).mono aa) (((aW.mono ah.wext).mono ai.wext).mono aa) (((aX.mono ah.wext).mono ai.wext).mono aa)), ab⟩
     ·intro _ aa ab _ _ _ ac _ ae _ af
      have aj := aO.trans ac
      obtain ⟨ak, al⟩ := id ae
      have am : RpV ab (ad : Val) (aa 10) := af 4 rfl 10 rfl
      obtain ⟨an, ao, ap, aC, aD, aE, aF, aG, aH, aI, aJ, aK, aL⟩ := Val.rpv am
      refine gd1 rfl (af 3 rfl 9 rfl) aP ?_
      refine r_call [Val.ag ad an ao ap aC aD aE aF aG] (evs1 aH) rfl ((ok_value_Height fuel) _ _ _ _ (Val.rpvMk (v := ad) aI aJ aK aL) br) ?_
      intro _ _ ag aM
      obtain rfl := RpV.int aM
      exact d1 aj (Nat.le_refl _) ag ⟨rfl, ⟨(ak.ext ag), (al.ext ag)⟩⟩
     ·intro _ _ _ _ _ _ _ _ aa _ ab
      refine gd1 rfl (ab 3 rfl 9 rfl) aP ?_
      refine r_bin (iv aq) (iv 3) (bv (aq == 3)) (ab 5 rfl 11 rfl) rfl rfl rfl (b_eql) ?_
      exact d0 ⟨rfl, aa⟩
     ·intro _ _ _ _ _ _ _ _ aa _ ab
      refine r_pick_t (c := (ar == 5)) (bv (aq == 3)) (ab 3 rfl 9 rfl) aP (ab 6 rfl 12 rfl) rfl rfl rfl ?_
      exact d0 ⟨rfl, aa⟩
     ·intro _ _ _ _ _ _ _ _ aa _ ab
      refine r_move (bv (aq == 3)) (ab 7 rfl 13 rfl) rfl ?_
      exact d0 ⟨rfl, aa⟩
     ·intro _ _ _ _ _ _ _ aa ab ac ae
      obtain ⟨af, _⟩ := id ab
      have aj := af
      refine gd1 rfl (ae 8 rfl 14 rfl) aS ?_
      refine r_load aQ 0 (Val.ag ad au av aw ax ay az aA aB) ((ac 1 rfl).trans rfl) rfl (loads_row tr27 (Blk.range aj 0 (Val.cs ad au av aw ax ay az aA aB) rfl)) ?_
      exact d0 ⟨(Val.rpvMk (v := ad) (((aU.mono ah.wext).mono ai.wext).mono aa) (((aV.mono ah.wext).mono ai.wext).mono aa) (((aW.mono ah.wext).mono ai.wext).mono aa) (((aX.mono ah.wext).mono ai.wext).mono aa)), ab⟩
     ·intro _ aa ab _ _ _ ac _ ae _ af
      have aj := aO.trans ac
      obtain ⟨ak, al⟩ := id ae
      have am : RpV ab (ad : Val) (aa 15) := af 9 rfl 15 rfl
      obtain ⟨an, ao, ap, aC, aD, aE, aF, aG, aH, aI, aJ, aK, aL⟩ := Val.rpv am
      refine gd1 rfl (af 8 rfl 14 rfl) aS ?_
      refine r_call [Val.ag ad an ao ap aC aD aE aF aG] (evs1 aH) rfl ((ok_value_Validate fuel) _ _ _ _ (Val.rpvMk (v := ad) aI aJ aK aL) bs) ?_
      intro _ _ ag aM
      obtain rfl := RpV.int aM
      exact d1 aj (Nat.le_refl _) ag ⟨rfl, ⟨(ak.ext ag), (al.ext ag)⟩⟩
     ·intro _ _ _ _ _ _ _ _ aa _ ab
      refine gd1 rfl (ab 8 rfl 14 rfl) aS ?_
      refine r_bin (iv aN) (iv 0) (bv (aN == 0)) (ab 10 rfl 16 rfl) rfl rfl rfl (b_eql) ?_
      exact d0 ⟨rfl, aa⟩
     ·intro _ _ _ _ _ _ _ _ aa _ ab
      refine r_pick_t (c := (aq == 3)) (bv (aN == 0)) (ab 8 rfl 14 rfl) aS (ab 11 rfl 17 rfl) rfl rfl rfl ?_
      exact d0 ⟨rfl, aa⟩
     ·intro _ _ _ _ _ _ _ _ aa _ ab
      refine r_move (bv (aN == 0)) (ab 12 rfl 18 rfl) rfl ?_
      exact d0 ⟨rfl, aa⟩
     ·intro _ _ _ _ _ _ _ _ aa _ ab
      refine gd1 rfl (ab 13 rfl 19 rfl) aY ?_
      refine r_build tst27 [] [iv 0, iv 0, tv (⟨#[]⟩), nl Val, nl Key, nl Ent, nl ByteArray] eps_nil rfl rfl ?_
      exact d0 ⟨(Val.rpvMk (v := (Val.mk 0 0 (⟨#[]⟩) ([] : List Val) ([] : List Key) ([] : List Ent) ([] : List ByteArray))) (Sl.nil_ _ _ _ (Nat.zero_le _)) (Sl.nil_ _ _ _ (Nat.zero_le _)) (Sl.nil_ _ _ _ (Nat.zero_le _)) (Sl.nil_ _ _ _ (Nat.zero_le _))), aa⟩
     ·intro _ aa ab _ _ _ ac _ ae _ af
      have aj := aO.trans ac
      obtain ⟨ak, al⟩ := id ae
      have am : RpV ab ((Val.mk 0 0 (⟨#[]⟩) ([] : List Val) ([] : List Key) ([] : List Ent) ([] : List ByteArray)) : Val) (aa 20) := af 14 rfl 20 rfl
      obtain ⟨an, ao, ap, aC, aD, aE, aF, aG, aH, aI, aJ, aK, aL⟩ := Val.rpv am
      refine gd1 rfl (af 13 rfl 19 rfl) aY ?_
      refine r_call [.agg #[iv 0, iv 0, tv (⟨#[]⟩), lv an ((Val.mk 0 0 (⟨#[]⟩) ([] : List Val) ([] : List Key) ([] : List Ent) ([] : List ByteArray)).Kids).length ao, lv ap ((Val.mk 0 0 (⟨#[]⟩) ([] : List Val) ([] : List Key) ([] : List Ent) ([] : List ByteArray)).Keys).length aC, lv aD ((Val.mk 0 0 (⟨#[]⟩) ([] : List Val) ([] : List Key) ([] : List Ent) ([] : List ByteArray)).Entries).length aE, lv aF ((Val.mk 0 0 (⟨#[]⟩) ([] : List Val) ([] : List Key) ([] : List Ent) ([] : List ByteArray)).Labels).length aG]] (evs1 aH) rfl ((ok_value_Validate fuel) _ _ _ _ (Val.rpvMk (v := (Val.mk 0 0 (⟨#[]⟩) ([] : List Val) ([] : List Key) ([] : List Ent) ([] : List ByteArray))) aI aJ aK aL) bB) ?_
      intro _ _ ag aM
      obtain rfl := RpV.int aM
      exact d1 aj (Nat.le_refl _) ag ⟨rfl, ⟨(ak.ext ag), (al.ext ag)⟩⟩
     ·intro _ _ _ _ _ _ _ _ aa _ ab
      refine gd1 rfl (ab 13 rfl 19 rfl) aY ?_
      refine r_bin (iv aR) (iv 1) (bv (aR == 1)) (ab 15 rfl 21 rfl) rfl rfl rfl (b_eql) ?_
      exact d0 ⟨rfl, aa⟩
     ·intro _ _ _ _ _ _ _ _ aa _ ab
      refine r_pick_t (c := (aN == 0)) (bv (aR == 1)) (ab 13 rfl 19 rfl) aY (ab 16 rfl 22 rfl) rfl rfl rfl ?_
      exact d0 ⟨rfl, aa⟩
     ·intro _ _ _ _ _ _ _ _ aa _ ab
      refine r_move (bv (aR == 1)) (ab 17 rfl 23 rfl) rfl ?_
      exact d0 ⟨rfl, aa⟩
     ·intro _ _ _ _ _ _ _ aa ab ac ae
      obtain ⟨af, _⟩ := id ab
      have aj := af
      refine gd1 rfl (ae 18 rfl 24 rfl) aT ?_
      refine r_load aQ 0 (Val.ag ad au av aw ax ay az aA aB) ((ac 1 rfl).trans rfl) rfl (loads_row tr27 (Blk.range aj 0 (Val.cs ad au av aw ax ay az aA aB) rfl)) ?_
      exact d0 ⟨(Val.rpvMk (v := ad) (((aU.mono ah.wext).mono ai.wext).mono aa) (((aV.mono ah.wext).mono ai.wext).mono aa) (((aW.mono ah.wext).mono ai.wext).mono aa) (((aX.mono ah.wext).mono ai.wext).mono aa)), ab⟩
     ·intro _ _ _ _ _ _ aa _ ab _ ac
      have ae := aO.trans aa
      obtain ⟨af, aj⟩ := id ab
      refine gd1 rfl (ac 18 rfl 24 rfl) aT ?_
      refine r_call [iv 1] (evs1 rfl) rfl (ok_value_Int _ _ _ _ (RpV.mkInt _ _) b6) ?_
      intro _ _ ak al
      obtain ⟨_, _, _, _, _, _, _, _, rfl, am, an, ao, ap⟩ := Val.rpv al
      exact d1 ae (Nat.le_refl _) ak ⟨(Val.rpvMk (v := a9) am an ao ap), ⟨(af.ext ak), (aj.ext ak)⟩⟩
     ·intro _ _ _ _ _ _ aa _ ab _ ac
      have ae := aO.trans aa
      obtain ⟨af, aj⟩ := id ab
      refine gd1 rfl (ac 18 rfl 24 rfl) aT ?_
      refine r_call [iv 2] (evs1 rfl) rfl (ok_value_Int _ _ _ _ (RpV.mkInt _ _) b7) ?_
      intro _ _ ak al
      obtain ⟨_, _, _, _, _, _, _, _, rfl, am, an, ao, ap⟩ := Val.rpv al
      exact d1 ae (Nat.le_refl _) ak ⟨(Val.rpvMk (v := ba) am an ao ap), ⟨(af.ext ak), (aj.ext ak)⟩⟩
     ·intro _ _ _ _ _ _ aa _ ab _ ac
      have ae := aO.trans aa
      obtain ⟨af, aj⟩ := id ab
      refine gd1 rfl (ac 18 rfl 24 rfl) aT ?_
      refine r_call [] evs0 rfl (ok_value_Nil _ _  b8) ?_
      intro _ _ ak al
      obtain ⟨_, _, _, _, _, _, _, _, rfl, am, an, ao, ap⟩ := Val.rpv al
      exact d1 ae (Nat.le_refl _) ak ⟨(Val.rpvMk (v := bb) am an ao ap), ⟨(af.ext ak), (aj.ext ak)⟩⟩
     ·intro _ aa ab _ _ _ ac _ ae _ af
      have aj := aO.trans ac
      obtain ⟨ak, al⟩ := id ae
      have am : RpV ab (ba : Val) (aa 27) := af 21 rfl 27 rfl
      obtain ⟨an, ao, ap, aC, aD, aE, aF, aG, aH, aI, aJ, aK, aL⟩ := Val.rpv am
      have ag : RpV ab (bb : Val) (aa 28) := af 22 rfl 28 rfl
      obtain ⟨aM, be, bf, bg, bh, bi, bj, bk, bl, bm, bn, bo, bp⟩ := Val.rpv ag
      refine gd1 rfl (af 18 rfl 24 rfl) aT ?_
      refine r_call [Val.ag ba an ao ap aC aD aE aF aG, Val.ag bb aM be bf bg bh bi bj bk] (evs2 aH bl) rfl ((ok_value_Cons fuel) _ _ _ _ _ _ (Val.rpvMk (v := ba) aI aJ aK aL) (Val.rpvMk (v := bb) bm bn bo bp) b9) ?_
      intro _ _ aZ bq
      obtain ⟨_, _, _, _, _, _, _, _, rfl, bt, bu, bw, bx⟩ := Val.rpv bq
      exact d1 aj (Nat.le_refl _) aZ ⟨(Val.rpvMk (v := bc) bt bu bw bx), ⟨(ak.ext aZ), (al.ext aZ)⟩⟩
     ·intro _ aa ab _ _ _ ac _ ae _ af
      have aj := aO.trans ac
      obtain ⟨ak, al⟩ := id ae
      have am : RpV ab (a9 : Val) (aa 26) := af 20 rfl 26 rfl
      obtain ⟨an, ao, ap, aC, aD, aE, aF, aG, aH, aI, aJ, aK, aL⟩ := Val.rpv am
      have ag : RpV ab (bc : Val) (aa 29) := af 23 rfl 29 rfl
      obtain ⟨aM, be, bf, bg, bh, bi, bj, bk, bl, bm, bn, bo, bp⟩ := Val.rpv ag
      refine gd1 rfl (af 18 rfl 24 rfl) aT ?_
      refine r_call [Val.ag a9 an ao ap aC aD aE aF aG, Val.ag bc aM be bf bg bh bi bj bk] (evs2 aH bl) rfl ((ok_value_Cons fuel) _ _ _ _ _ _ (Val.rpvMk (v := a9) aI aJ aK aL) (Val.rpvMk (v := bc) bm bn bo bp) ca) ?_
      intro _ _ aZ bq
      obtain ⟨_, _, _, _, _, _, _, _, rfl, bt, bu, bw, bx⟩ := Val.rpv bq
      exact d1 aj (Nat.le_refl _) aZ ⟨(Val.rpvMk (v := bd) bt bu bw bx), ⟨(ak.ext aZ), (al.ext aZ)⟩⟩
     ·intro _ aa ab _ _ _ ac _ ae _ af
      have aj := aO.trans ac
      obtain ⟨ak, al⟩ := id ae
      have am : RpV ab (ad : Val) (aa 25) := af 19 rfl 25 rfl
      obtain ⟨an, ao, ap, aC, aD, aE, aF, aG, aH, aI, aJ, aK, aL⟩ := Val.rpv am
      have ag : RpV ab (bd : Val) (aa 30) := af 24 rfl 30 rfl
      obtain ⟨aM, be, bf, bg, bh, bi, bj, bk, bl, bm, bn, bo, bp⟩ := Val.rpv ag
      refine gd1 rfl (af 18 rfl 24 rfl) aT ?_
      refine r_call [Val.ag ad an ao ap aC aD aE aF aG, Val.ag bd aM be bf bg bh bi bj bk] (evs2 aH bl) rfl ((ok_value_Equal fuel) _ _ _ _ _ _ (Val.rpvMk (v := ad) aI aJ aK aL) (Val.rpvMk (v := bd) bm bn bo bp) cb) ?_
      intro _ _ aZ bq
      obtain rfl := RpV.bool bq
      exact d1 aj (Nat.le_refl _) aZ ⟨rfl, ⟨(ak.ext aZ), (al.ext aZ)⟩⟩
     ·intro _ _ _ _ _ _ _ _ aa _ ab
      refine r_pick_t (c := (aR == 1)) (bv a5) (ab 18 rfl 24 rfl) aT (ab 25 rfl 31 rfl) rfl rfl rfl ?_
      exact d0 ⟨rfl, aa⟩
     ·intro _ _ _ _ _ _ _ _ aa _ ab
      refine r_assign (bv a5) (ab 26 rfl 32 rfl) rfl ?_
      exact d0 ⟨rfl, aa⟩
     intro _ _ cc _ cd _ ce
     have cf := aO.trans cc
     obtain ⟨_, _⟩ := cd
     refine j1 (jb ?_)
     obtain rfl := oi hf
     refine ret_one (bv a5) rfl ⟨rfl, (ce 27 0 rfl)⟩ cf ?_
     exact (RpV.mkBool _ _)
    refine wp_draw (B := frExt s0.N) (sm 6 27 ++ [some 0]) [[], [0], [0, 1], rg 3, rg 4, rg 5, rg 6, rg 7, rg 8, rg 9, rg 10, rg 11, rg 12, rg 13, rg 14, rg 15, rg 16, rg 17, rg 18, rg 19, rg 19, (rg 19 ++ [20]), (rg 19 ++ [20, 21]), (rg 19 ++ [20, 21, 22]), (rg 19 ++ [20, 21, 22, 23]), rg 25, rg 26, rg 27] [Fct.data (ad : Val), Fct.eqv (iv ar), Fct.eqv (bv (ar == 5)), Fct.eqv (bv (ar == 5)), Fct.data (ad : Val), Fct.eqv (iv aq), Fct.eqv (bv (aq == 3)), Fct.eqv (bv (aq == 3)), Fct.eqv (bv (aq == 3)), Fct.data (ad : Val), Fct.eqv (iv aN), Fct.eqv (bv (aN == 0)), Fct.eqv (bv (aN == 0)), Fct.eqv (bv (aN == 0)), Fct.data ((Val.mk 0 0 (⟨#[]⟩) ([] : List Val) ([] : List Key) ([] : List Ent) ([] : List ByteArray)) : Val), Fct.eqv (iv aR), Fct.eqv (bv (aR == 1)), Fct.eqv (bv (aR == 1)), Fct.eqv (bv (aR == 1)), Fct.eqv undef, Fct.eqv undef, Fct.eqv undef, Fct.eqv undef, Fct.eqv undef, Fct.eqv undef, Fct.eqv undef, Fct.eqv (bv false), Fct.eqv (bv false)] (fun D F τ => (Blk s0.N 2 τ aQ 27 (Val.cs ad au av aw ax ay az aA aB)) ∧ (Own s0.N 1 27 τ [r1, a0] a1 a2)) (by kernel_rfl) rfl (by decide) (by decide) ⟨(a7.ext (ext_draw _)), ((((a3.ext a4).ext ah).mod ai rfl).ext (ext_draw _))⟩ (by decide) (by decide) ⟨?_, ?_, ?_, ?_, ?_, ?_, ?_, ?_, ?_, ?_, ?_, ?_, ?_, ?_, ?_, ?_, ?_, ?_, ?_, ?_, ?_, ?_, ?_, ?_, ?_, ?_, ?_, ?_, trivial⟩ ?_
    ·intro _ _ _ _ _ _ _ aa ab ac _
     obtain ⟨ae, _⟩ := id ab
     have af := ae
     refine r_load aQ 0 (Val.ag ad au av aw ax ay az aA aB) ((ac 1 rfl).trans rfl) rfl (loads_row tr27 (Blk.range af 0 (Val.cs ad au av aw ax ay az aA aB) rfl)) ?_
     exact d0 ⟨(Val.rpvMk (v := ad) (((aU.mono ah.wext).mono ai.wext).mono aa) (((aV.mono ah.wext).mono ai.wext).mono aa) (((aW.mono ah.wext).mono ai.wext).mono aa) (((aX.mono ah.wext).mono ai.wext).mono aa)), ab⟩
    ·intro _ aa ab _ _ _ ac _ ae _ af
     have aj := aO.trans ac
     obtain ⟨ak, al⟩ := id ae
     have am : RpV ab (ad : Val) (aa 6) := af 0 rfl 6 rfl
     obtain ⟨an, ao, ap, aC, aD, aE, aF, aG, aH, aI, aJ, aK, aL⟩ := Val.rpv am
     refine r_call [Val.ag ad an ao ap aC aD aE aF aG] (evs1 aH) rfl ((ok_value_Nodes fuel) _ _ _ _ (Val.rpvMk (v := ad) aI aJ aK aL) a8) ?_
     intro _ _ ag aM
     obtain rfl := RpV.int aM
     exact d1 aj (Nat.le_refl _) ag ⟨rfl, ⟨(ak.ext ag), (al.ext ag)⟩⟩
    ·intro _ _ _ _ _ _ _ _ aa _ ab
     refine r_bin (iv ar) (iv 5) (bv (ar == 5)) (ab 1 rfl 7 rfl) rfl rfl rfl (b_eql) ?_
     exact d0 ⟨rfl, aa⟩
    ·intro _ _ _ _ _ _ _ _ aa _ ab
     refine r_move (bv (ar == 5)) (ab 2 rfl 8 rfl) rfl ?_
     exact d0 ⟨rfl, aa⟩
    ·intro _ _ _ _ _ _ _ aa ab ac ae
     obtain ⟨af, _⟩ := id ab
     have aj := af
     refine gd1 rfl (ae 3 rfl 9 rfl) aP ?_
     refine r_load aQ 0 (Val.ag ad au av aw ax ay az aA aB) ((ac 1 rfl).trans rfl) rfl (loads_row tr27 (Blk.range aj 0 (Val.cs ad au av aw ax ay az aA aB) rfl)) ?_
     exact d0 ⟨(Val.rpvMk (v := ad) (((aU.mono ah.wext).mono ai.wext).mono aa) (((aV.mono ah.wext).mono ai.wext).mono aa) (((aW.mono ah.wext).mono ai.wext).mono aa) (((aX.mono ah.wext).mono ai.wext).mono aa)), ab⟩
    ·intro _ aa ab _ _ _ ac _ ae _ af
     have aj := aO.trans ac
     obtain ⟨ak, al⟩ := id ae
     have am : RpV ab (ad : Val) (aa 10) := af 4 rfl 10 rfl
     obtain ⟨an, ao, ap, aC, aD, aE, aF, aG, aH, aI, aJ, aK, aL⟩ := Val.rpv am
     refine gd1 rfl (af 3 rfl 9 rfl) aP ?_
     refine r_call [Val.ag ad an ao ap aC aD aE aF aG] (evs1 aH) rfl ((ok_value_Height fuel) _ _ _ _ (Val.rpvMk (v := ad) aI aJ aK aL) br) ?_
     intro _ _ ag aM
     obtain rfl := RpV.int aM
     exact d1 aj (Nat.le_refl _) ag ⟨rfl, ⟨(ak.ext ag), (al.ext ag)⟩⟩
    ·intro _ _ _ _ _ _ _ _ aa _ ab
     refine gd1 rfl (ab 3 rfl 9 rfl) aP ?_
     refine r_bin (iv aq) (iv 3) (bv (aq == 3)) (ab 5 rfl 11 rfl) rfl rfl rfl (b_eql) ?_
     exact d0 ⟨rfl, aa⟩
    ·intro _ _ _ _ _ _ _ _ aa _ ab
     refine r_pick_t (c := (ar == 5)) (bv (aq == 3)) (ab 3 rfl 9 rfl) aP (ab 6 rfl 12 rfl) rfl rfl rfl ?_
     exact d0 ⟨rfl, aa⟩
    ·intro _ _ _ _ _ _ _ _ aa _ ab
     refine r_move (bv (aq == 3)) (ab 7 rfl 13 rfl) rfl ?_
     exact d0 ⟨rfl, aa⟩
    ·intro _ _ _ _ _ _ _ aa ab ac ae
     obtain ⟨af, _⟩ := id ab
     have aj := af
     refine gd1 rfl (ae 8 rfl 14 rfl) aS ?_
     refine r_load aQ 0 (Val.ag ad au av aw ax ay az aA aB) ((ac 1 rfl).trans rfl) rfl (loads_row tr27 (Blk.range aj 0 (Val.cs ad au av aw ax ay az aA aB) rfl)) ?_
     exact d0 ⟨(Val.rpvMk (v := ad) (((aU.mono ah.wext).mono ai.wext).mono aa) (((aV.mono ah.wext).mono ai.wext).mono aa) (((aW.mono ah.wext).mono ai.wext).mono aa) (((aX.mono ah.wext).mono ai.wext).mono aa)), ab⟩
    ·intro _ aa ab _ _ _ ac _ ae _ af
     have aj := aO.trans ac
     obtain ⟨ak, al⟩ := id ae
     have am : RpV ab (ad : Val) (aa 15) := af 9 rfl 15 rfl
     obtain ⟨an, ao, ap, aC, aD, aE, aF, aG, aH, aI, aJ, aK, aL⟩ := Val.rpv am
     refine gd1 rfl (af 8 rfl 14 rfl) aS ?_
     refine r_call [Val.ag ad an ao ap aC aD aE aF aG] (evs1 aH) rfl ((ok_value_Validate fuel) _ _ _ _ (Val.rpvMk (v := ad) aI aJ aK aL) bs) ?_
     intro _ _ ag aM
     obtain rfl := RpV.int aM
     exact d1 aj (Nat.le_refl _) ag ⟨rfl, ⟨(ak.ext ag), (al.ext ag)⟩⟩
    ·intro _ _ _ _ _ _ _ _ aa _ ab
     refine gd1 rfl (ab 8 rfl 14 rfl) aS ?_
     refine r_bin (iv aN) (iv 0) (bv (aN == 0)) (ab 10 rfl 16 rfl) rfl rfl rfl (b_eql) ?_
     exact d0 ⟨rfl, aa⟩
    ·intro _ _ _ _ _ _ _ _ aa _ ab
     refine r_pick_t (c := (aq == 3)) (bv (aN == 0)) (ab 8 rfl 14 rfl) aS (ab 11 rfl 17 rfl) rfl rfl rfl ?_
     exact d0 ⟨rfl, aa⟩
    ·intro _ _ _ _ _ _ _ _ aa _ ab
     refine r_move (bv (aN == 0)) (ab 12 rfl 18 rfl) rfl ?_
     exact d0 ⟨rfl, aa⟩
    ·intro _ _ _ _ _ _ _ _ aa _ ab
     refine gd1 rfl (ab 13 rfl 19 rfl) aY ?_
     refine r_build tst27 [] [iv 0, iv 0, tv (⟨#[]⟩), nl Val, nl Key, nl Ent, nl ByteArray] eps_nil rfl rfl ?_
     exact d0 ⟨(Val.rpvMk (v := (Val.mk 0 0 (⟨#[]⟩) ([] : List Val) ([] : List Key) ([] : List Ent) ([] : List ByteArray))) (Sl.nil_ _ _ _ (Nat.zero_le _)) (Sl.nil_ _ _ _ (Nat.zero_le _)) (Sl.nil_ _ _ _ (Nat.zero_le _)) (Sl.nil_ _ _ _ (Nat.zero_le _))), aa⟩
    ·intro _ aa ab _ _ _ ac _ ae _ af
     have aj := aO.trans ac
     obtain ⟨ak, al⟩ := id ae
     have am : RpV ab ((Val.mk 0 0 (⟨#[]⟩) ([] : List Val) ([] : List Key) ([] : List Ent) ([] : List ByteArray)) : Val) (aa 20) := af 14 rfl 20 rfl
     obtain ⟨an, ao, ap, aC, aD, aE, aF, aG, aH, aI, aJ, aK, aL⟩ := Val.rpv am
     refine gd1 rfl (af 13 rfl 19 rfl) aY ?_
     refine r_call [.agg #[iv 0, iv 0, tv (⟨#[]⟩), lv an ((Val.mk 0 0 (⟨#[]⟩) ([] : List Val) ([] : List Key) ([] : List Ent) ([] : List ByteArray)).Kids).length ao, lv ap ((Val.mk 0 0 (⟨#[]⟩) ([] : List Val) ([] : List Key) ([] : List Ent) ([] : List ByteArray)).Keys).length aC, lv aD ((Val.mk 0 0 (⟨#[]⟩) ([] : List Val) ([] : List Key) ([] : List Ent) ([] : List ByteArray)).Entries).length aE, lv aF ((Val.mk 0 0 (⟨#[]⟩) ([] : List Val) ([] : List Key) ([] : List Ent) ([] : List ByteArray)).Labels).length aG]] (evs1 aH) rfl ((ok_value_Validate fuel) _ _ _ _ (Val.rpvMk (v := (Val.mk 0 0 (⟨#[]⟩) ([] : List Val) ([] : List Key) ([] : List Ent) ([] : List ByteArray))) aI aJ aK aL) bB) ?_
     intro _ _ ag aM
     obtain rfl := RpV.int aM
     exact d1 aj (Nat.le_refl _) ag ⟨rfl, ⟨(ak.ext ag), (al.ext ag)⟩⟩
    ·intro _ _ _ _ _ _ _ _ aa _ ab
     refine gd1 rfl (ab 13 rfl 19 rfl) aY ?_
     refine r_bin (iv aR) (iv 1) (bv (aR == 1)) (ab 15 rfl 21 rfl) rfl rfl rfl (b_eql) ?_
     exact d0 ⟨rfl, aa⟩
    ·intro _ _ _ _ _ _ _ _ aa _ ab
     refine r_pick_t (c := (aN == 0)) (bv (aR == 1)) (ab 13 rfl 19 rfl) aY (ab 16 rfl 22 rfl) rfl rfl rfl ?_
     exact d0 ⟨rfl, aa⟩
    ·intro _ _ _ _ _ _ _ _ aa _ ab
     refine r_move (bv (aR == 1)) (ab 17 rfl 23 rfl) rfl ?_
     exact d0 ⟨rfl, aa⟩
    ·intro _ _ _ _ _ _ _ _ aa _ ab
     exact gd0 rfl (ab 18 rfl 24 rfl) aT ⟨rfl, aa⟩
    ·intro _ _ _ _ _ _ _ _ aa _ ab
     exact gd0 rfl (ab 18 rfl 24 rfl) aT ⟨rfl, aa⟩
    ·intro _ _ _ _ _ _ _ _ aa _ ab
     exact gd0 rfl (ab 18 rfl 24 rfl) aT ⟨rfl, aa⟩
    ·intro _ _ _ _ _ _ _ _ aa _ ab
     exact gd0 rfl (ab 18 rfl 24 rfl) aT ⟨rfl, aa⟩
    ·intro _ aa _ _ _ _ _ _ ab _ ac
     have ae : aa 27 = undef := ac 21 rfl 27 rfl
     have af : aa 28 = undef := ac 22 rfl 28 rfl
     exact gd0 rfl (ac 18 rfl 24 rfl) aT ⟨rfl, ab⟩
    ·intro _ aa _ _ _ _ _ _ ab _ ac
     have ae : aa 26 = undef := ac 20 rfl 26 rfl
     have af : aa 29 = undef := ac 23 rfl 29 rfl
     exact gd0 rfl (ac 18 rfl 24 rfl) aT ⟨rfl, ab⟩
    ·intro _ aa _ _ _ _ _ _ ab _ ac
     have ae : aa 25 = undef := ac 19 rfl 25 rfl
     have af : aa 30 = undef := ac 24 rfl 30 rfl
     exact gd0 rfl (ac 18 rfl 24 rfl) aT ⟨rfl, ab⟩
    ·intro _ aa _ _ _ _ _ _ ab _ ac
     have ae : aa 31 = undef := ac 25 rfl 31 rfl
     refine r_pick_f (c := (aR == 1)) (bv false) (ac 18 rfl 24 rfl) aT rfl rfl rfl rfl ?_
     exact d0 ⟨rfl, ab⟩
    ·intro _ _ _ _ _ _ _ _ aa _ ab
     refine r_assign (bv false) (ab 26 rfl 32 rfl) rfl ?_
     exact d0 ⟨rfl, aa⟩
    intro _ _ cg _ ch _ ci
    have cj := aO.trans cg
    obtain ⟨_, _⟩ := ch
    refine j1 (jb ?_)
    obtain rfl := oi hf
    refine ret_one (bv false) rfl ⟨rfl, (ci 27 0 rfl)⟩ cj ?_
    exact (RpV.mkBool _ _)
   refine wp_draw (B := frExt s0.N) (sm 6 27 ++ [some 0]) [[], [0], [0, 1], rg 3, rg 4, rg 5, rg 6, rg 7, rg 8, rg 9, rg 10, rg 11, rg 12, rg 13, rg 14, rg 15, rg 16, rg 17, rg 18, rg 19, rg 19, (rg 19 ++ [20]), (rg 19 ++ [20, 21]), (rg 19 ++ [20, 21, 22]), (rg 19 ++ [20, 21, 22, 23]), rg 25, rg 26, rg 27] [Fct.data (ad : Val), Fct.eqv (iv ar), Fct.eqv (bv (ar == 5)), Fct.eqv (bv (ar == 5)), Fct.data (ad : Val), Fct.eqv (iv aq), Fct.eqv (bv (aq == 3)), Fct.eqv (bv (aq == 3)), Fct.eqv (bv (aq == 3)), Fct.data (ad : Val), Fct.eqv (iv aN), Fct.eqv (bv (aN == 0)), Fct.eqv (bv (aN == 0)), Fct.eqv (bv (aN == 0)), Fct.eqv undef, Fct.eqv undef, Fct.eqv undef, Fct.eqv (bv false), Fct.eqv (bv false), Fct.eqv undef, Fct.eqv undef, Fct.eqv undef, Fct.eqv undef, Fct.eqv undef, Fct.eqv undef, Fct.eqv undef, Fct.eqv (bv false), Fct.eqv (bv false)] (fun D F τ => (Blk s0.N 2 τ aQ 27 (Val.cs ad au av aw ax ay az aA aB)) ∧ (Own s0.N 1 27 τ [r1, a0] a1 a2)) (by kernel_rfl) rfl (by decide) (by decide) ⟨(a7.ext (ext_draw _)), ((((a3.ext a4).ext ah).mod ai rfl).ext (ext_draw _))⟩ (by decide) (by decide) ⟨?_, ?_, ?_, ?_, ?_, ?_, ?_, ?_, ?_, ?_, ?_, ?_, ?_, ?_, ?_, ?_, ?_, ?_, ?_, ?_, ?_, ?_, ?_, ?_, ?_, ?_, ?_, ?_, trivial⟩ ?_
   ·intro _ _ _ _ _ _ _ aa ab ac _
    obtain ⟨ae, _⟩ := id ab
    have af := ae
    refine r_load aQ 0 (Val.ag ad au av aw ax ay az aA aB) ((ac 1 rfl).trans rfl) rfl (loads_row tr27 (Blk.range af 0 (Val.cs ad au av aw ax ay az aA aB) rfl)) ?_
    exact d0 ⟨(Val.rpvMk (v := ad) (((aU.mono ah.wext).mono ai.wext).mono aa) (((aV.mono ah.wext).mono ai.wext).mono aa) (((aW.mono ah.wext).mono ai.wext).mono aa) (((aX.mono ah.wext).mono ai.wext).mono aa)), ab⟩
   ·intro _ aa ab _ _ _ ac _ ae _ af
    have aj := aO.trans ac
    obtain ⟨ak, al⟩ := id ae
    have am : RpV ab (ad : Val) (aa 6) := af 0 rfl 6 rfl
    obtain ⟨an, ao, ap, aC, aD, aE, aF, aG, aH, aI, aJ, aK, aL⟩ := Val.rpv am
    refine r_call [Val.ag ad an ao ap aC aD aE aF aG] (evs1 aH) rfl ((ok_value_Nodes fuel) _ _ _ _ (Val.rpvMk (v := ad) aI aJ aK aL) a8) ?_
    intro _ _ ag aM
    obtain rfl := RpV.int aM
    exact d1 aj (Nat.le_refl _) ag ⟨rfl, ⟨(ak.ext ag), (al.ext ag)⟩⟩
   ·intro _ _ _ _ _ _ _ _ aa _ ab
    refine r_bin (iv ar) (iv 5) (bv (ar == 5)) (ab 1 rfl 7 rfl) rfl rfl rfl (b_eql) ?_
    exact d0 ⟨rfl, aa⟩
   ·intro _ _ _ _ _ _ _ _ aa _ ab
    refine r_move (bv (ar == 5)) (ab 2 rfl 8 rfl) rfl ?_
    exact d0 ⟨rfl, aa⟩
   ·intro _ _ _ _ _ _ _ aa ab ac ae
    obtain ⟨af, _⟩ := id ab
    have aj := af
    refine gd1 rfl (ae 3 rfl 9 rfl) aP ?_
    refine r_load aQ 0 (Val.ag ad au av aw ax ay az aA aB) ((ac 1 rfl).trans rfl) rfl (loads_row tr27 (Blk.range aj 0 (Val.cs ad au av aw ax ay az aA aB) rfl)) ?_
    exact d0 ⟨(Val.rpvMk (v := ad) (((aU.mono ah.wext).mono ai.wext).mono aa) (((aV.mono ah.wext).mono ai.wext).mono aa) (((aW.mono ah.wext).mono ai.wext).mono aa) (((aX.mono ah.wext).mono ai.wext).mono aa)), ab⟩
   ·intro _ aa ab _ _ _ ac _ ae _ af
    have aj := aO.trans ac
    obtain ⟨ak, al⟩ := id ae
    have am : RpV ab (ad : Val) (aa 10) := af 4 rfl 10 rfl
    obtain ⟨an, ao, ap, aC, aD, aE, aF, aG, aH, aI, aJ, aK, aL⟩ := Val.rpv am
    refine gd1 rfl (af 3 rfl 9 rfl) aP ?_
    refine r_call [Val.ag ad an ao ap aC aD aE aF aG] (evs1 aH) rfl ((ok_value_Height fuel) _ _ _ _ (Val.rpvMk (v := ad) aI aJ aK aL) br) ?_
    intro _ _ ag aM
    obtain rfl := RpV.int aM
    exact d1 aj (Nat.le_refl _) ag ⟨rfl, ⟨(ak.ext ag), (al.ext ag)⟩⟩
   ·intro _ _ _ _ _ _ _ _ aa _ ab
    refine gd1 rfl (ab 3 rfl 9 rfl) aP ?_
    refine r_bin (iv aq) (iv 3) (bv (aq == 3)) (ab 5 rfl 11 rfl) rfl rfl rfl (b_eql) ?_
    exact d0 ⟨rfl, aa⟩
   ·intro _ _ _ _ _ _ _ _ aa _ ab
    refine r_pick_t (c := (ar == 5)) (bv (aq == 3)) (ab 3 rfl 9 rfl) aP (ab 6 rfl 12 rfl) rfl rfl rfl ?_
    exact d0 ⟨rfl, aa⟩
   ·intro _ _ _ _ _ _ _ _ aa _ ab
    refine r_move (bv (aq == 3)) (ab 7 rfl 13 rfl) rfl ?_
    exact d0 ⟨rfl, aa⟩
   ·intro _ _ _ _ _ _ _ aa ab ac ae
    obtain ⟨af, _⟩ := id ab
    have aj := af
    refine gd1 rfl (ae 8 rfl 14 rfl) aS ?_
    refine r_load aQ 0 (Val.ag ad au av aw ax ay az aA aB) ((ac 1 rfl).trans rfl) rfl (loads_row tr27 (Blk.range aj 0 (Val.cs ad au av aw ax ay az aA aB) rfl)) ?_
    exact d0 ⟨(Val.rpvMk (v := ad) (((aU.mono ah.wext).mono ai.wext).mono aa) (((aV.mono ah.wext).mono ai.wext).mono aa) (((aW.mono ah.wext).mono ai.wext).mono aa) (((aX.mono ah.wext).mono ai.wext).mono aa)), ab⟩
   ·intro _ aa ab _ _ _ ac _ ae _ af
    have aj := aO.trans ac
    obtain ⟨ak, al⟩ := id ae
    have am : RpV ab (ad : Val) (aa 15) := af 9 rfl 15 rfl
    obtain ⟨an, ao, ap, aC, aD, aE, aF, aG, aH, aI, aJ, aK, aL⟩ := Val.rpv am
    refine gd1 rfl (af 8 rfl 14 rfl) aS ?_
    refine r_call [Val.ag ad an ao ap aC aD aE aF aG] (evs1 aH) rfl ((ok_value_Validate fuel) _ _ _ _ (Val.rpvMk (v := ad) aI aJ aK aL) bs) ?_
    intro _ _ ag aM
    obtain rfl := RpV.int aM
    exact d1 aj (Nat.le_refl _) ag ⟨rfl, ⟨(ak.ext ag), (al.ext ag)⟩⟩
   ·intro _ _ _ _ _ _ _ _ aa _ ab
    refine gd1 rfl (ab 8 rfl 14 rfl) aS ?_
    refine r_bin (iv aN) (iv 0) (bv (aN == 0)) (ab 10 rfl 16 rfl) rfl rfl rfl (b_eql) ?_
    exact d0 ⟨rfl, aa⟩
   ·intro _ _ _ _ _ _ _ _ aa _ ab
    refine r_pick_t (c := (aq == 3)) (bv (aN == 0)) (ab 8 rfl 14 rfl) aS (ab 11 rfl 17 rfl) rfl rfl rfl ?_
    exact d0 ⟨rfl, aa⟩
   ·intro _ _ _ _ _ _ _ _ aa _ ab
    refine r_move (bv (aN == 0)) (ab 12 rfl 18 rfl) rfl ?_
    exact d0 ⟨rfl, aa⟩
   ·intro _ _ _ _ _ _ _ _ aa _ ab
    exact gd0 rfl (ab 13 rfl 19 rfl) aY ⟨rfl, aa⟩
   ·intro _ aa _ _ _ _ _ _ ab _ ac
    have ae : aa 20 = undef := ac 14 rfl 20 rfl
    exact gd0 rfl (ac 13 rfl 19 rfl) aY ⟨rfl, ab⟩
   ·intro _ aa _ _ _ _ _ _ ab _ ac
    have ae : aa 21 = undef := ac 15 rfl 21 rfl
    exact gd0 rfl (ac 13 rfl 19 rfl) aY ⟨rfl, ab⟩
   ·intro _ aa _ _ _ _ _ _ ab _ ac
    have ae : aa 22 = undef := ac 16 rfl 22 rfl
    refine r_pick_f (c := (aN == 0)) (bv false) (ac 13 rfl 19 rfl) aY rfl rfl rfl rfl ?_
    exact d0 ⟨rfl, ab⟩
   ·intro _ _ _ _ _ _ _ _ aa _ ab
    refine r_move (bv false) (ab 17 rfl 23 rfl) rfl ?_
    exact d0 ⟨rfl, aa⟩
   ·intro _ _ _ _ _ _ _ _ aa _ ab
    exact gd0 rfl (ab 18 rfl 24 rfl) rfl ⟨rfl, aa⟩
   ·intro _ _ _ _ _ _ _ _ aa _ ab
    exact gd0 rfl (ab 18 rfl 24 rfl) rfl ⟨rfl, aa⟩
   ·intro _ _ _ _ _ _ _ _ aa _ ab
    exact gd0 rfl (ab 18 rfl 24 rfl) rfl ⟨rfl, aa⟩
   ·intro _ _ _ _ _ _ _ _ aa _ ab
    exact gd0 rfl (ab 18 rfl 24 rfl) rfl ⟨rfl, aa⟩
   ·intro _ aa _ _ _ _ _ _ ab _ ac
    have ae : aa 27 = undef := ac 21 rfl 27 rfl
    have af : aa 28 = undef := ac 22 rfl 28 rfl
    exact gd0 rfl (ac 18 rfl 24 rfl) rfl ⟨rfl, ab⟩
   ·intro _ aa _ _ _ _ _ _ ab _ ac
    have ae : aa 26 = undef := ac 20 rfl 26 rfl
    have af : aa 29 = undef := ac 23 rfl 29 rfl
    exact gd0 rfl (ac 18 rfl 24 rfl) rfl ⟨rfl, ab⟩
   ·intro _ aa _ _ _ _ _ _ ab _ ac
    have ae : aa 25 = undef := ac 19 rfl 25 rfl
    have af : aa 30 = undef := ac 24 rfl 30 rfl
    exact gd0 rfl (ac 18 rfl 24 rfl) rfl ⟨rfl, ab⟩
   ·intro _ aa _ _ _ _ _ _ ab _ ac
    have ae : aa 31 = undef := ac 25 rfl 31 rfl
    refine r_pick_f (c := false) (bv false) (ac 18 rfl 24 rfl) rfl rfl rfl rfl rfl ?_
    exact d0 ⟨rfl, ab⟩
   ·intro _ _ _ _ _ _ _ _ aa _ ab
    refine r_assign (bv false) (ab 26 rfl 32 rfl) rfl ?_
    exact d0 ⟨rfl, aa⟩
   intro _ _ ck _ cl _ cm
   have cn := aO.trans ck
   obtain ⟨_, _⟩ := cl
   refine j1 (jb ?_)
   obtain rfl := oi hf
   refine ret_one (bv false) rfl ⟨rfl, (cm 27 0 rfl)⟩ cn ?_
   exact (RpV.mkBool _ _)
  refine wp_draw (B := frExt s0.N) (sm 6 27 ++ [some 0]) [[], [0], [0, 1], rg 3, rg 4, rg 5, rg 6, rg 7, rg 8, rg 9, rg 10, rg 11, rg 12, rg 13, rg 14, rg 15, rg 16, rg 17, rg 18, rg 19, rg 19, (rg 19 ++ [20]), (rg 19 ++ [20, 21]), (rg 19 ++ [20, 21, 22]), (rg 19 ++ [20, 21, 22, 23]), rg 25, rg 26, rg 27] [Fct.data (ad : Val), Fct.eqv (iv ar), Fct.eqv (bv (ar == 5)), Fct.eqv (bv (ar == 5)), Fct.data (ad : Val), Fct.eqv (iv aq), Fct.eqv (bv (aq == 3)), Fct.eqv (bv (aq == 3)), Fct.eqv (bv (aq == 3)), Fct.eqv undef, Fct.eqv undef, Fct.eqv undef, Fct.eqv (bv false), Fct.eqv (bv false), Fct.eqv undef, Fct.eqv undef, Fct.eqv undef, Fct.eqv (bv false), Fct.eqv (bv false), Fct.eqv undef, Fct.eqv undef, Fct.eqv undef, Fct.eqv undef, Fct.eqv undef, Fct.eqv undef, Fct.eqv undef, Fct.eqv (bv false), Fct.eqv (bv false)] (fun D F τ => (Blk s0.N 2 τ aQ 27 (Val.cs ad au av aw ax ay az aA aB)) ∧ (Own s0.N 1 27 τ [r1, a0] a1 a2)) (by kernel_rfl) rfl (by decide) (by decide) ⟨(a7.ext (ext_draw _)), ((((a3.ext a4).ext ah).mod ai rfl).ext (ext_draw _))⟩ (by decide) (by decide) ⟨?_, ?_, ?_, ?_, ?_, ?_, ?_, ?_, ?_, ?_, ?_, ?_, ?_, ?_, ?_, ?_, ?_, ?_, ?_, ?_, ?_, ?_, ?_, ?_, ?_, ?_, ?_, ?_, trivial⟩ ?_
  ·intro _ _ _ _ _ _ _ aa ab ac _
   obtain ⟨ae, _⟩ := id ab
   have af := ae
   refine r_load aQ 0 (Val.ag ad au av aw ax ay az aA aB) ((ac 1 rfl).trans rfl) rfl (loads_row tr27 (Blk.range af 0 (Val.cs ad au av aw ax ay az aA aB) rfl)) ?_
   exact d0 ⟨(Val.rpvMk (v := ad) (((aU.mono ah.wext).mono ai.wext).mono aa) (((aV.mono ah.wext).mono ai.wext).mono aa) (((aW.mono ah.wext).mono ai.wext).mono aa) (((aX.mono ah.wext).mono ai.wext).mono aa)), ab⟩
  ·intro _ aa ab _ _ _ ac _ ae _ af
   have aj := aO.trans ac
   obtain ⟨ak, al⟩ := id ae
   have am : RpV ab (ad : Val) (aa 6) := af 0 rfl 6 rfl
   obtain ⟨an, ao, ap, aC, aD, aE, aF, aG, aH, aI, aJ, aK, aL⟩ := Val.rpv am
   refine r_call [Val.ag ad an ao ap aC aD aE aF aG] (evs1 aH) rfl ((ok_value_Nodes fuel) _ _ _ _ (Val.rpvMk (v := ad) aI aJ aK aL) a8) ?_
   intro _ _ ag aM
   obtain rfl := RpV.int aM
   exact d1 aj (Nat.le_refl _) ag ⟨rfl, ⟨(ak.ext ag), (al.ext ag)⟩⟩
  ·intro _ _ _ _ _ _ _ _ aa _ ab
   refine r_bin (iv ar) (iv 5) (bv (ar == 5)) (ab 1 rfl 7 rfl) rfl rfl rfl (b_eql) ?_
   exact d0 ⟨rfl, aa⟩
  ·intro _ _ _ _ _ _ _ _ aa _ ab
   refine r_move (bv (ar == 5)) (ab 2 rfl 8 rfl) rfl ?_
   exact d0 ⟨rfl, aa⟩
  ·intro _ _ _ _ _ _ _ aa ab ac ae
   obtain ⟨af, _⟩ := id ab
   have aj := af
   refine gd1 rfl (ae 3 rfl 9 rfl) aP ?_
   refine r_load aQ 0 (Val.ag ad au av aw ax ay az aA aB) ((ac 1 rfl).trans rfl) rfl (loads_row tr27 (Blk.range aj 0 (Val.cs ad au av aw ax ay az aA aB) rfl)) ?_
   exact d0 ⟨(Val.rpvMk (v := ad) (((aU.mono ah.wext).mono ai.wext).mono aa) (((aV.mono ah.wext).mono ai.wext).mono aa) (((aW.mono ah.wext).mono ai.wext).mono aa) (((aX.mono ah.wext).mono ai.wext).mono aa)), ab⟩
  ·intro _ aa ab _ _ _ ac _ ae _ af
   have aj := aO.trans ac
   obtain ⟨ak, al⟩ := id ae
   have am : RpV ab (ad : Val) (aa 10) := af 4 rfl 10 rfl
   obtain ⟨an, ao, ap, aC, aD, aE, aF, aG, aH, aI, aJ, aK, aL⟩ := Val.rpv am
   refine gd1 rfl (af 3 rfl 9 rfl) aP ?_
   refine r_call [Val.ag ad an ao ap aC aD aE aF aG] (evs1 aH) rfl ((ok_value_Height fuel) _ _ _ _ (Val.rpvMk (v := ad) aI aJ aK aL) br) ?_
   intro _ _ ag aM
   obtain rfl := RpV.int aM
   exact d1 aj (Nat.le_refl _) ag ⟨rfl, ⟨(ak.ext ag), (al.ext ag)⟩⟩
  ·intro _ _ _ _ _ _ _ _ aa _ ab
   refine gd1 rfl (ab 3 rfl 9 rfl) aP ?_
   refine r_bin (iv aq) (iv 3) (bv (aq == 3)) (ab 5 rfl 11 rfl) rfl rfl rfl (b_eql) ?_
   exact d0 ⟨rfl, aa⟩
  ·intro _ _ _ _ _ _ _ _ aa _ ab
   refine r_pick_t (c := (ar == 5)) (bv (aq == 3)) (ab 3 rfl 9 rfl) aP (ab 6 rfl 12 rfl) rfl rfl rfl ?_
   exact d0 ⟨rfl, aa⟩
  ·intro _ _ _ _ _ _ _ _ aa _ ab
   refine r_move (bv (aq == 3)) (ab 7 rfl 13 rfl) rfl ?_
   exact d0 ⟨rfl, aa⟩
  ·intro _ _ _ _ _ _ _ _ aa _ ab
   exact gd0 rfl (ab 8 rfl 14 rfl) aS ⟨rfl, aa⟩
  ·intro _ aa _ _ _ _ _ _ ab _ ac
   have ae : aa 15 = undef := ac 9 rfl 15 rfl
   exact gd0 rfl (ac 8 rfl 14 rfl) aS ⟨rfl, ab⟩
  ·intro _ aa _ _ _ _ _ _ ab _ ac
   have ae : aa 16 = undef := ac 10 rfl 16 rfl
   exact gd0 rfl (ac 8 rfl 14 rfl) aS ⟨rfl, ab⟩
  ·intro _ aa _ _ _ _ _ _ ab _ ac
   have ae : aa 17 = undef := ac 11 rfl 17 rfl
   refine r_pick_f (c := (aq == 3)) (bv false) (ac 8 rfl 14 rfl) aS rfl rfl rfl rfl ?_
   exact d0 ⟨rfl, ab⟩
  ·intro _ _ _ _ _ _ _ _ aa _ ab
   refine r_move (bv false) (ab 12 rfl 18 rfl) rfl ?_
   exact d0 ⟨rfl, aa⟩
  ·intro _ _ _ _ _ _ _ _ aa _ ab
   exact gd0 rfl (ab 13 rfl 19 rfl) rfl ⟨rfl, aa⟩
  ·intro _ aa _ _ _ _ _ _ ab _ ac
   have ae : aa 20 = undef := ac 14 rfl 20 rfl
   exact gd0 rfl (ac 13 rfl 19 rfl) rfl ⟨rfl, ab⟩
  ·intro _ aa _ _ _ _ _ _ ab _ ac
   have ae : aa 21 = undef := ac 15 rfl 21 rfl
   exact gd0 rfl (ac 13 rfl 19 rfl) rfl ⟨rfl, ab⟩
  ·intro _ aa _ _ _ _ _ _ ab _ ac
   have ae : aa 22 = undef := ac 16 rfl 22 rfl
   refine r_pick_f (c := false) (bv false) (ac 13 rfl 19 rfl) rfl rfl rfl rfl rfl ?_
   exact d0 ⟨rfl, ab⟩
  ·intro _ _ _ _ _ _ _ _ aa _ ab
   refine r_move (bv false) (ab 17 rfl 23 rfl) rfl ?_
   exact d0 ⟨rfl, aa⟩
  ·intro _ _ _ _ _ _ _ _ aa _ ab
   exact gd0 rfl (ab 18 rfl 24 rfl) rfl ⟨rfl, aa⟩
  ·intro _ _ _ _ _ _ _ _ aa _ ab
   exact gd0 rfl (ab 18 rfl 24 rfl) rfl ⟨rfl, aa⟩
  ·intro _ _ _ _ _ _ _ _ aa _ ab
   exact gd0 rfl (ab 18 rfl 24 rfl) rfl ⟨rfl, aa⟩
  ·intro _ _ _ _ _ _ _ _ aa _ ab
   exact gd0 rfl (ab 18 rfl 24 rfl) rfl ⟨rfl, aa⟩
  ·intro _ aa _ _ _ _ _ _ ab _ ac
   have ae : aa 27 = undef := ac 21 rfl 27 rfl
   have af : aa 28 = undef := ac 22 rfl 28 rfl
   exact gd0 rfl (ac 18 rfl 24 rfl) rfl ⟨rfl, ab⟩
  ·intro _ aa _ _ _ _ _ _ ab _ ac
   have ae : aa 26 = undef := ac 20 rfl 26 rfl
   have af : aa 29 = undef := ac 23 rfl 29 rfl
   exact gd0 rfl (ac 18 rfl 24 rfl) rfl ⟨rfl, ab⟩
  ·intro _ aa _ _ _ _ _ _ ab _ ac
   have ae : aa 25 = undef := ac 19 rfl 25 rfl
   have af : aa 30 = undef := ac 24 rfl 30 rfl
   exact gd0 rfl (ac 18 rfl 24 rfl) rfl ⟨rfl, ab⟩
  ·intro _ aa _ _ _ _ _ _ ab _ ac
   have ae : aa 31 = undef := ac 25 rfl 31 rfl
   refine r_pick_f (c := false) (bv false) (ac 18 rfl 24 rfl) rfl rfl rfl rfl rfl ?_
   exact d0 ⟨rfl, ab⟩
  ·intro _ _ _ _ _ _ _ _ aa _ ab
   refine r_assign (bv false) (ab 26 rfl 32 rfl) rfl ?_
   exact d0 ⟨rfl, aa⟩
  intro _ _ co _ cp _ cq
  have cr := aO.trans co
  obtain ⟨_, _⟩ := cp
  refine j1 (jb ?_)
  obtain rfl := oi hf
  refine ret_one (bv false) rfl ⟨rfl, (cq 27 0 rfl)⟩ cr ?_
  exact (RpV.mkBool _ _)
 refine wp_draw (B := frExt s0.N) (sm 6 27 ++ [some 0]) [[], [0], [0, 1], rg 3, rg 4, rg 5, rg 6, rg 7, rg 8, rg 9, rg 10, rg 11, rg 12, rg 13, rg 14, rg 15, rg 16, rg 17, rg 18, rg 19, rg 19, (rg 19 ++ [20]), (rg 19 ++ [20, 21]), (rg 19 ++ [20, 21, 22]), (rg 19 ++ [20, 21, 22, 23]), rg 25, rg 26, rg 27] [Fct.data (ad : Val), Fct.eqv (iv ar), Fct.eqv (bv (ar == 5)), Fct.eqv (bv (ar == 5)), Fct.eqv undef, Fct.eqv undef, Fct.eqv undef, Fct.eqv (bv false), Fct.eqv (bv false), Fct.eqv undef, Fct.eqv undef, Fct.eqv undef, Fct.eqv (bv false), Fct.eqv (bv false), Fct.eqv undef, Fct.eqv undef, Fct.eqv undef, Fct.eqv (bv false), Fct.eqv (bv false), Fct.eqv undef, Fct.eqv undef, Fct.eqv undef, Fct.eqv undef, Fct.eqv undef, Fct.eqv undef, Fct.eqv undef, Fct.eqv (bv false), Fct.eqv (bv false)] (fun D F τ => (Blk s0.N 2 τ aQ 27 (Val.cs ad au av aw ax ay az aA aB)) ∧ (Own s0.N 1 27 τ [r1, a0] a1 a2)) (by kernel_rfl) rfl (by decide) (by decide) ⟨(a7.ext (ext_draw _)), ((((a3.ext a4).ext ah).mod ai rfl).ext (ext_draw _))⟩ (by decide) (by decide) ⟨?_, ?_, ?_, ?_, ?_, ?_, ?_, ?_, ?_, ?_, ?_, ?_, ?_, ?_, ?_, ?_, ?_, ?_, ?_, ?_, ?_, ?_, ?_, ?_, ?_, ?_, ?_, ?_, trivial⟩ ?_
 ·intro _ _ _ _ _ _ _ aa ab ac _
  obtain ⟨ae, _⟩ := id ab
  have af := ae
  refine r_load aQ 0 (Val.ag ad au av aw ax ay az aA aB) ((ac 1 rfl).trans rfl) rfl (loads_row tr27 (Blk.range af 0 (Val.cs ad au av aw ax ay az aA aB) rfl)) ?_
  exact d0 ⟨(Val.rpvMk (v := ad) (((aU.mono ah.wext).mono ai.wext).mono aa) (((aV.mono ah.wext).mono ai.wext).mono aa) (((aW.mono ah.wext).mono ai.wext).mono aa) (((aX.mono ah.wext).mono ai.wext).mono aa)), ab⟩
 ·intro _ aa ab _ _ _ ac _ ae _ af
  have aj := aO.trans ac
  obtain ⟨ak, al⟩ := id ae
  have am : RpV ab (ad : Val) (aa 6) := af 0 rfl 6 rfl
  obtain ⟨an, ao, ap, aC, aD, aE, aF, aG, aH, aI, aJ, aK, aL⟩ := Val.rpv am
  refine r_call [Val.ag ad an ao ap aC aD aE aF aG] (evs1 aH) rfl ((ok_value_Nodes fuel) _ _ _ _ (Val.rpvMk (v := ad) aI aJ aK aL) a8) ?_
  intro _ _ ag aM
  obtain rfl := RpV.int aM
  exact d1 aj (Nat.le_refl _) ag ⟨rfl, ⟨(ak.ext ag), (al.ext ag)⟩⟩
 ·intro _ _ _ _ _ _ _ _ aa _ ab
  refine r_bin (iv ar) (iv 5) (bv (ar == 5)) (ab 1 rfl 7 rfl) rfl rfl rfl (b_eql) ?_
  exact d0 ⟨rfl, aa⟩
 ·intro _ _ _ _ _ _ _ _ aa _ ab
  refine r_move (bv (ar == 5)) (ab 2 rfl 8 rfl) rfl ?_
  exact d0 ⟨rfl, aa⟩
 ·intro _ _ _ _ _ _ _ _ aa _ ab
  exact gd0 rfl (ab 3 rfl 9 rfl) aP ⟨rfl, aa⟩
 ·intro _ aa _ _ _ _ _ _ ab _ ac
  have ae : aa 10 = undef := ac 4 rfl 10 rfl
  exact gd0 rfl (ac 3 rfl 9 rfl) aP ⟨rfl, ab⟩
 ·intro _ aa _ _ _ _ _ _ ab _ ac
  have ae : aa 11 = undef := ac 5 rfl 11 rfl
  exact gd0 rfl (ac 3 rfl 9 rfl) aP ⟨rfl, ab⟩
 ·intro _ aa _ _ _ _ _ _ ab _ ac
  have ae : aa 12 = undef := ac 6 rfl 12 rfl
  refine r_pick_f (c := (ar == 5)) (bv false) (ac 3 rfl 9 rfl) aP rfl rfl rfl rfl ?_
  exact d0 ⟨rfl, ab⟩
 ·intro _ _ _ _ _ _ _ _ aa _ ab
  refine r_move (bv false) (ab 7 rfl 13 rfl) rfl ?_
  exact d0 ⟨rfl, aa⟩
 ·intro _ _ _ _ _ _ _ _ aa _ ab
  exact gd0 rfl (ab 8 rfl 14 rfl) rfl ⟨rfl, aa⟩
 ·intro _ aa _ _ _ _ _ _ ab _ ac
  have ae : aa 15 = undef := ac 9 rfl 15 rfl
  exact gd0 rfl (ac 8 rfl 14 rfl) rfl ⟨rfl, ab⟩
 ·intro _ aa _ _ _ _ _ _ ab _ ac
  have ae : aa 16 = undef := ac 10 rfl 16 rfl
  exact gd0 rfl (ac 8 rfl 14 rfl) rfl ⟨rfl, ab⟩
 ·intro _ aa _ _ _ _ _ _ ab _ ac
  have ae : aa 17 = undef := ac 11 rfl 17 rfl
  refine r_pick_f (c := false) (bv false) (ac 8 rfl 14 rfl) rfl rfl rfl rfl rfl ?_
  exact d0 ⟨rfl, ab⟩
 ·intro _ _ _ _ _ _ _ _ aa _ ab
  refine r_move (bv false) (ab 12 rfl 18 rfl) rfl ?_
  exact d0 ⟨rfl, aa⟩
 ·intro _ _ _ _ _ _ _ _ aa _ ab
  exact gd0 rfl (ab 13 rfl 19 rfl) rfl ⟨rfl, aa⟩
 ·intro _ aa _ _ _ _ _ _ ab _ ac
  have ae : aa 20 = undef := ac 14 rfl 20 rfl
  exact gd0 rfl (ac 13 rfl 19 rfl) rfl ⟨rfl, ab⟩
 ·intro _ aa _ _ _ _ _ _ ab _ ac
  have ae : aa 21 = undef := ac 15 rfl 21 rfl
  exact gd0 rfl (ac 13 rfl 19 rfl) rfl ⟨rfl, ab⟩
 ·intro _ aa _ _ _ _ _ _ ab _ ac
  have ae : aa 22 = undef := ac 16 rfl 22 rfl
  refine r_pick_f (c := false) (bv false) (ac 13 rfl 19 rfl) rfl rfl rfl rfl rfl ?_
  exact d0 ⟨rfl, ab⟩
 ·intro _ _ _ _ _ _ _ _ aa _ ab
  refine r_move (bv false) (ab 17 rfl 23 rfl) rfl ?_
  exact d0 ⟨rfl, aa⟩
 ·intro _ _ _ _ _ _ _ _ aa _ ab
  exact gd0 rfl (ab 18 rfl 24 rfl) rfl ⟨rfl, aa⟩
 ·intro _ _ _ _ _ _ _ _ aa _ ab
  exact gd0 rfl (ab 18 rfl 24 rfl) rfl ⟨rfl, aa⟩
 ·intro _ _ _ _ _ _ _ _ aa _ ab
  exact gd0 rfl (ab 18 rfl 24 rfl) rfl ⟨rfl, aa⟩
 ·intro _ _ _ _ _ _ _ _ aa _ ab
  exact gd0 rfl (ab 18 rfl 24 rfl) rfl ⟨rfl, aa⟩
 ·intro _ aa _ _ _ _ _ _ ab _ ac
  have ae : aa 27 = undef := ac 21 rfl 27 rfl
  have af : aa 28 = undef := ac 22 rfl 28 rfl
  exact gd0 rfl (ac 18 rfl 24 rfl) rfl ⟨rfl, ab⟩
 ·intro _ aa _ _ _ _ _ _ ab _ ac
  have ae : aa 26 = undef := ac 20 rfl 26 rfl
  have af : aa 29 = undef := ac 23 rfl 29 rfl
  exact gd0 rfl (ac 18 rfl 24 rfl) rfl ⟨rfl, ab⟩
 ·intro _ aa _ _ _ _ _ _ ab _ ac
  have ae : aa 25 = undef := ac 19 rfl 25 rfl
  have af : aa 30 = undef := ac 24 rfl 30 rfl
  exact gd0 rfl (ac 18 rfl 24 rfl) rfl ⟨rfl, ab⟩
 ·intro _ aa _ _ _ _ _ _ ab _ ac
  have ae : aa 31 = undef := ac 25 rfl 31 rfl
  refine r_pick_f (c := false) (bv false) (ac 18 rfl 24 rfl) rfl rfl rfl rfl rfl ?_
  exact d0 ⟨rfl, ab⟩
 ·intro _ _ _ _ _ _ _ _ aa _ ab
  refine r_assign (bv false) (ab 26 rfl 32 rfl) rfl ?_
  exact d0 ⟨rfl, aa⟩
 intro _ _ cs _ ct _ cu
 have cv := aO.trans cs
 obtain ⟨_, _⟩ := ct
 refine j1 (jb ?_)
 obtain rfl := oi hf
 refine ret_one (bv false) rfl ⟨rfl, (cu 27 0 rfl)⟩ cv ?_
 exact (RpV.mkBool _ _)

def S_semtyperef1_Nil (f : (Option Val)) : Prop := ∀ (s0 : S) (r : Val), f = some r → Ctr Go.Proofs.Try.prog 55 [] s0 (fun v τ => RpV τ r v)

theorem ok_semtyperef1_Nil : S_semtyperef1_Nil semtyperef1_Nil := by
 intro s0 r hf
 unfold semtyperef1_Nil at hf
 have E0 : ExtB s0.N s0 s0 := ExtB.refl _ _
 refine ctr_of 2 func55 rfl rfl rfl rfl ?_
 refine j2 (j3 ?_)
 refine r_alloc (B := s0.N) 1 E0.size _ [iv 0, iv 0, tv (⟨#[]⟩), nl Val, nl Key, nl Ent, nl ByteArray] ti27 rfl ?_
 intro s2 b1 k3 hb4
 have E5 := E0.x k3
 refine j0 (j1 (j2 (j3 ?_)))
 refine r_build tst27 [(0, iv 5)] [iv 5, iv 0, tv (⟨#[]⟩), nl Val, nl Key, nl Ent, nl ByteArray] (eps_cons rfl eps_nil) rfl rfl ?_
 refine r_store hb4 0 (.agg #[iv 5, iv 0, tv (⟨#[]⟩), nl Val, nl Key, nl Ent, nl ByteArray]) [iv 5, iv 0, tv (⟨#[]⟩), nl Val, nl Key, nl Ent, nl ByteArray] [iv 5, iv 0, tv (⟨#[]⟩), nl Val, nl Key, nl Ent, nl ByteArray] rfl rfl rfl rfl rfl sz27 rfl rfl rfl ?_
 intro s6 hm7 hb8
 have E9 := E5.y hm7
 refine j0 (j1 (jb ?_))
 obtain rfl := oi hf
 refine ret_one (.agg #[iv 5, iv 0, tv (⟨#[]⟩), nl Val, nl Key, nl Ent, nl ByteArray]) rfl ⟨rfl, _, rfl, loads_row tr27 (Blk.range hb8 0 [iv 5, iv 0, tv (⟨#[]⟩), nl Val, nl Key, nl Ent, nl ByteArray] rfl)⟩ E9 ?_
 exact (Val.rpvMk (v := (Val.mk 5 0 (⟨#[]⟩) ([] : List Val) ([] : List Key) ([] : List Ent) ([] : List ByteArray))) (Sl.nil_ _ _ _ (Nat.zero_le _)) (Sl.nil_ _ _ _ (Nat.zero_le _)) (Sl.nil_ _ _ _ (Nat.zero_le _)) (Sl.nil_ _ _ _ (Nat.zero_le _)))

def S_semtyperef1_Cons (f : (Val → Val → Option Val)) : Prop := ∀ (s0 : S) (v0 : Value) (v1 : Value) (a0 : Val) (a1 : Val) (r : Val), RpV s0 a0 v0 → RpV s0 a1 v1 → f a0 a1 = some r → Ctr Go.Proofs.Try.prog 56 [v0, v1] s0 (fun v τ => RpV τ r v)

theorem ok_semtyperef1_Cons : S_semtyperef1_Cons semtyperef1_Cons := by
 intro s0 v0 v1 a0 a1 r hp0 hp1 hf
 obtain ⟨A1, c2, A4, c5, A7, c8, af, ag, rfl, h3, h6, h9, aw⟩ := Val.rpv hp0
 obtain ⟨ah, ai, aj, ak, al, am, an, ao, rfl, ax, ay, az, aA⟩ := Val.rpv hp1
 unfold semtyperef1_Cons at hf
 have E0 : ExtB s0.N s0 s0 := ExtB.refl _ _
 refine ctr_of 9 func56 rfl rfl rfl rfl ?_
 refine j2 (j3 ?_)
 refine r_box (B := s0.N) 1 E0.size (Val.ag a0 A1 c2 A4 c5 A7 c8 af ag) (Val.cs a0 A1 c2 A4 c5 A7 c8 af ag) rfl rfl rfl ?_
 intro _ aB ac aC
 have ap := E0.x ac
 refine r_box (B := s0.N) 2 ap.size (Val.ag a1 ah ai aj ak al am an ao) (Val.cs a1 ah ai aj ak al am an ao) rfl rfl rfl ?_
 intro _ aD ab aE
 have aq := ap.x ab
 refine r_alloc (B := s0.N) 3 aq.size _ [iv 0, iv 0, tv (⟨#[]⟩), nl Val, nl Key, nl Ent, nl ByteArray] ti27 rfl ?_
 intro _ _ aa aF
 have ar := aq.x aa
 refine j0 (j1 (j2 (j3 ?_)))
 refine r_load aB 0 (Val.ag a0 A1 c2 A4 c5 A7 c8 af ag) rfl rfl (loads_row tr27 (Blk.range ((aC.ext ab).ext aa) 0 (Val.cs a0 A1 c2 A4 c5 A7 c8 af ag) rfl)) ?_
 refine r_load aD 0 (Val.ag a1 ah ai aj ak al am an ao) rfl rfl (loads_row tr27 (Blk.range (aE.ext aa) 0 (Val.cs a1 ah ai aj ak al am an ao) rfl)) ?_
 refine r_buildSlice (B := s0.N) (E := 27) 4 ar.size ts22 (xs := [a0, a1]) [Val.ag a0 A1 c2 A4 c5 A7 c8 af ag, Val.ag a1 ah ai aj ak al am an ao] (eps_cons rfl (eps_cons rfl eps_nil)) rfl rfl rfl (by decide) rfl (by simp [Value.cells, Rp.sz]) ⟨_, _, rfl, (Val.cells_iff.2 ⟨_, _, _, _, _, _, _, _, rfl, (((h3.mono ac.wext).mono ab.wext).mono aa.wext), (((h6.mono ac.wext).mono ab.wext).mono aa.wext), (((h9.mono ac.wext).mono ab.wext).mono aa.wext), (((aw.mono ac.wext).mono ab.wext).mono aa.wext)⟩), ⟨_, _, rfl, (Val.cells_iff.2 ⟨_, _, _, _, _, _, _, _, rfl, (((ax.mono ac.wext).mono ab.wext).mono aa.wext), (((ay.mono ac.wext).mono ab.wext).mono aa.wext), (((az.mono ac.wext).mono ab.wext).mono aa.wext), (((aA.mono ac.wext).mono ab.wext).mono aa.wext)⟩), rfl⟩⟩ ?_
 intro _ ad ae au aG
 have aH := ar.x au
 refine r_build tst27 [(0, iv 7), (3, lv ad [a0, a1].length ae)] [iv 7, iv 0, tv (⟨#[]⟩), lv ad [a0, a1].length ae, nl Key, nl Ent, nl ByteArray] (eps_cons rfl (eps_cons rfl eps_nil)) rfl rfl ?_
 refine r_store (aF.ext au) 0 (.agg #[iv 7, iv 0, tv (⟨#[]⟩), lv ad [a0, a1].length ae, nl Key, nl Ent, nl ByteArray]) [iv 7, iv 0, tv (⟨#[]⟩), lv ad [a0, a1].length ae, nl Key, nl Ent, nl ByteArray] [iv 7, iv 0, tv (⟨#[]⟩), lv ad [a0, a1].length ae, nl Key, nl Ent, nl ByteArray] rfl rfl rfl rfl rfl sz27 rfl rfl rfl ?_
 intro _ av aI
 have aJ := aH.y av
 refine j0 (j1 (jb ?_))
 obtain rfl := oi hf
 refine ret_one (.agg #[iv 7, iv 0, tv (⟨#[]⟩), lv ad [a0, a1].length ae, nl Key, nl Ent, nl ByteArray]) rfl ⟨rfl, _, rfl, loads_row tr27 (Blk.range aI 0 [iv 7, iv 0, tv (⟨#[]⟩), lv ad [a0, a1].length ae, nl Key, nl Ent, nl ByteArray] rfl)⟩ aJ ?_
 exact (Val.rpvMk (v := (Val.mk 7 0 (⟨#[]⟩) [a0, a1] ([] : List Key) ([] : List Ent) ([] : List ByteArray))) ((aG.mod av rfl).sl) (Sl.nil_ _ _ _ (Nat.zero_le _)) (Sl.nil_ _ _ _ (Nat.zero_le _)) (Sl.nil_ _ _ _ (Nat.zero_le _)))

def S_semtypebase_Source_Next (f : (Semtypebase_Source → Int → Option (Int × Semtypebase_Source))) : Prop := ∀ (s0 : S) (v1 : Value) (B0 id0 b0 : Nat) (cs0 : List Value) (a0 : Semtypebase_Source) (a1 : Int) (r : (Int × Semtypebase_Source)), Rp.cells s0 a0 cs0 → Blk B0 id0 s0 b0 53 cs0 → 1000000 ≤ id0 → RpV s0 a1 v1 → f a0 a1 = some r → CtrE Go.Proofs.Try.prog 72 [.pointer (some ⟨b0, 0, none⟩), v1] s0 (Mod B0 id0 s0) (fun v τ => RpV τ r.1 v ∧ PtrR B0 id0 53 τ r.2 b0)

theorem ok_semtypebase_Source_Next : S_semtypebase_Source_Next semtypebase_Source_Next := by
 intro s0 v1 B0 id0 b0 cs0 a0 a1 r hc0 hb0 hid0 hp1 hf
 obtain ⟨A1, c2, rfl, h3⟩ := Semtypebase_Source.cells_iff.1 hc0
 obtain rfl := RpV.int hp1
 unfold semtypebase_Source_Next at hf
 have E0 : ExtP s0.N B0 id0 s0 s0 := ExtP.refl _ _ _ _
 refine ctr_ofE 46 func72 rfl rfl rfl rfl ?_
 refine j2 (j3 ?_)
 refine r_assign (iv 0) rfl rfl ?_
 refine j0 (j1 (j2 (j2 ?_)))
 refine if_else hf (fun hc4 hf => ?_) (fun hc4 hf => ?_)
 ·refine wp_draw (B := frP s0.N B0 id0) (sm 6 14) [[], [0], [0, 1], rg 3, rg 4, rg 5, rg 6, rg 3, [0, 1, 2, 7], [0, 1, 2, 7, 8], [0, 1, 2, 7, 8, 9], [0, 1, 2, 7, 8, 9, 10], rg 12, rg 13] [Fct.eqv (iv a1), Fct.eqv (bv (decide (a1 < 1))), Fct.eqv (bv (decide (a1 < 1))), Fct.eqv undef, Fct.eqv undef, Fct.eqv undef, Fct.eqv undef, Fct.eqv undef, Fct.eqv undef, Fct.eqv undef, Fct.eqv undef, Fct.eqv undef, Fct.eqv undef, Fct.eqv (bv true)] (fun D F τ => (Blk B0 id0 τ b0 53 [lv A1 a0.L.length c2, iv a0.At])) (by kernel_rfl) rfl (by decide) (by decide) (hb0.ext (ext_draw _)) (by decide) (by decide) ⟨?_, ?_, ?_, ?_, ?_, ?_, ?_, ?_, ?_, ?_, ?_, ?_, ?_, ?_, trivial⟩ ?_
  ·intro D8 F9 _ _ _ _ _ _ aa ab _
   refine r_move (iv a1) ((ab 1 rfl).trans rfl) rfl ?_
   exact d0 ⟨rfl, aa⟩
  ·intro _ _ _ _ _ _ _ _ aa _ ab
   refine r_bin (iv a1) (iv 1) (bv (decide (a1 < 1))) (ab 0 rfl 6 rfl) rfl rfl rfl (b_lss) ?_
   exact d0 ⟨rfl, aa⟩
  ·intro _ _ _ _ _ _ _ _ aa _ ab
   refine r_move (bv (decide (a1 < 1))) (ab 1 rfl 7 rfl) rfl ?_
   exact d0 ⟨rfl, aa⟩
  ·intro _ _ _ _ _ _ _ _ aa _ ab
   exact gd0 rfl (ab 2 rfl 8 rfl) hc4 ⟨rfl, aa⟩
  ·intro _ aa _ _ _ _ _ _ ab _ ac
   have ad : aa 9 = undef := ac 3 rfl 9 rfl
   exact gd0 rfl (ac 2 rfl 8 rfl) hc4 ⟨rfl, ab⟩
  ·intro _ aa _ _ _ _ _ _ ab _ ac
   have ad : aa 10 = undef := ac 4 rfl 10 rfl
   exact gd0 rfl (ac 2 rfl 8 rfl) hc4 ⟨rfl, ab⟩
  ·intro _ aa _ _ _ _ _ _ ab _ ac
   have ad : aa 11 = undef := ac 5 rfl 11 rfl
   exact gd0 rfl (ac 2 rfl 8 rfl) hc4 ⟨rfl, ab⟩
  ·intro _ _ _ _ _ _ _ _ aa _ ab
   exact gd0 rfl (ab 2 rfl 8 rfl) hc4 ⟨rfl, aa⟩
  ·intro _ aa _ _ _ _ _ _ ab _ ac
   have ad : aa 13 = undef := ac 7 rfl 13 rfl
   exact gd0 rfl (ac 2 rfl 8 rfl) hc4 ⟨rfl, ab⟩
  ·intro _ aa _ _ _ _ _ _ ab _ ac
   have ad : aa 14 = undef := ac 8 rfl 14 rfl
   exact gd0 rfl (ac 2 rfl 8 rfl) hc4 ⟨rfl, ab⟩
  ·intro _ aa _ _ _ _ _ _ ab _ ac
   have ad : aa 15 = undef := ac 9 rfl 15 rfl
   exact gd0 rfl (ac 2 rfl 8 rfl) hc4 ⟨rfl, ab⟩
  ·intro _ aa _ _ _ _ _ _ ab _ ac
   have ad : aa 16 = undef := ac 10 rfl 16 rfl
   exact gd0 rfl (ac 2 rfl 8 rfl) hc4 ⟨rfl, ab⟩
  ·intro _ aa _ _ _ _ _ _ ab _ ac
   have ad : aa 12 = undef := ac 6 rfl 12 rfl
   have ae : aa 17 = undef := ac 11 rfl 17 rfl
   exact gd0 rfl (ac 2 rfl 8 rfl) hc4 ⟨rfl, ab⟩
  ·intro _ aa _ _ _ _ _ _ ab _ ac
   have ad : aa 18 = undef := ac 12 rfl 18 rfl
   refine r_pick_t (c := decide (a1 < 1)) (bv true) (ac 2 rfl 8 rfl) hc4 rfl rfl rfl rfl ?_
   exact d0 ⟨rfl, ab⟩
  intro _ _ az aA aB _ aC
  have aD := E0.trans az
  have aE := aB
  have aF := aE
  refine j1 ?_
  refine c_true (aC 13 19 rfl) rfl rfl ?_
  refine j2 (j3 ?_)
  refine r_assign (iv 0) rfl rfl ?_
  refine j0 (j1 (jb (j9 ?_)))
  obtain rfl := oi hf
  refine ret_oneE (iv 0) rfl ⟨rfl, rfl⟩ aD.mod_ ?_
  exact ⟨(RpV.mkInt _ _), _, (Semtypebase_Source.cells_iff.2 ⟨_, _, rfl, (h3.mono aA)⟩), aF⟩
 refine wp_draw (B := frP s0.N B0 id0) (sm 6 14) [[], [0], [0, 1], rg 3, rg 4, rg 5, rg 6, rg 3, [0, 1, 2, 7], [0, 1, 2, 7, 8], [0, 1, 2, 7, 8, 9], [0, 1, 2, 7, 8, 9, 10], rg 12, rg 13] [Fct.eqv (iv a1), Fct.eqv (bv (decide (a1 < 1))), Fct.eqv (bv (decide (a1 < 1))), Fct.eqv (.pointer (some ⟨b0, 0, none⟩)), Fct.eqv (.pointer (some ⟨b0, 0, none⟩)), Fct.eqv (.pointer (some ⟨b0, 1, none⟩)), Fct.eqv (iv a0.At), Fct.eqv (.pointer (some ⟨b0, 0, none⟩)), Fct.eqv (.pointer (some ⟨b0, 0, none⟩)), Fct.eqv (.pointer (some ⟨b0, 0, none⟩)), Fct.eqv (lv A1 a0.L.length c2), Fct.eqv (iv (a0.L.length : Int)), Fct.eqv (bv (decide ((a0.L.length : Int) ≤ a0.At))), Fct.eqv (bv (decide ((a0.L.length : Int) ≤ a0.At)))] (fun D F τ => (Blk B0 id0 τ b0 53 [lv A1 a0.L.length c2, iv a0.At])) (by kernel_rfl) rfl (by decide) (by decide) (hb0.ext (ext_draw _)) (by decide) (by decide) ⟨?_, ?_, ?_, ?_, ?_, ?_, ?_, ?_, ?_, ?_, ?_, ?_, ?_, ?_, trivial⟩ ?_
 ·intro _ _ _ _ _ _ _ _ aa ab _
  refine r_move (iv a1) ((ab 1 rfl).trans rfl) rfl ?_
  exact d0 ⟨rfl, aa⟩
 ·intro _ _ _ _ _ _ _ _ aa _ ab
  refine r_bin (iv a1) (iv 1) (bv (decide (a1 < 1))) (ab 0 rfl 6 rfl) rfl rfl rfl (b_lss) ?_
  exact d0 ⟨rfl, aa⟩
 ·intro _ _ _ _ _ _ _ _ aa _ ab
  refine r_move (bv (decide (a1 < 1))) (ab 1 rfl 7 rfl) rfl ?_
  exact d0 ⟨rfl, aa⟩
 ·intro _ _ _ _ _ _ _ _ aa ab ac
  have ad := aa
  refine gd1 rfl (ac 2 rfl 8 rfl) hc4 ?_
  refine r_move (.pointer (some ⟨b0, 0, none⟩)) ((ab 0 rfl).trans rfl) rfl ?_
  exact d0 ⟨rfl, aa⟩
 ·intro _ _ _ _ _ _ _ _ aa _ ab
  have ac := aa
  refine gd1 rfl (ab 2 rfl 8 rfl) hc4 ?_
  refine r_nilCheck _ (ab 3 rfl 9 rfl) rfl ?_
  exact d0 ⟨rfl, aa⟩
 ·intro _ _ _ _ _ _ _ _ aa _ ab
  have ac := aa
  refine gd1 rfl (ab 2 rfl 8 rfl) hc4 ?_
  refine r_fieldAddr b0 0 1 1 (ab 4 rfl 10 rfl) rfl fo53_1 rfl ?_
  exact d0 ⟨rfl, aa⟩
 ·intro _ _ _ _ _ _ _ _ aa _ ab
  have ac := aa
  have ad := ac
  refine gd1 rfl (ab 2 rfl 8 rfl) hc4 ?_
  refine r_load b0 1 (iv a0.At) (ab 5 rfl 11 rfl) rfl (loads_one to3 ((ad.cell 1).trans rfl)) ?_
  exact d0 ⟨rfl, aa⟩
 ·intro _ _ _ _ _ _ _ _ aa ab ac
  have ad := aa
  refine gd1 rfl (ac 2 rfl 8 rfl) hc4 ?_
  refine r_move (.pointer (some ⟨b0, 0, none⟩)) ((ab 0 rfl).trans rfl) rfl ?_
  exact d0 ⟨rfl, aa⟩
 ·intro _ _ _ _ _ _ _ _ aa _ ab
  have ac := aa
  refine gd1 rfl (ab 2 rfl 8 rfl) hc4 ?_
  refine r_nilCheck _ (ab 7 rfl 13 rfl) rfl ?_
  exact d0 ⟨rfl, aa⟩
 ·intro _ _ _ _ _ _ _ _ aa _ ab
  have ac := aa
  refine gd1 rfl (ab 2 rfl 8 rfl) hc4 ?_
  refine r_fieldAddr b0 0 0 0 (ab 8 rfl 14 rfl) rfl fo53_0 rfl ?_
  exact d0 ⟨rfl, aa⟩
 ·intro _ _ _ _ _ _ _ _ aa _ ab
  have ac := aa
  have ad := ac
  refine gd1 rfl (ab 2 rfl 8 rfl) hc4 ?_
  refine r_load b0 0 (lv A1 a0.L.length c2) (ab 9 rfl 15 rfl) rfl (loads_one to28 ((ad.cell 0).trans rfl)) ?_
  exact d0 ⟨rfl, aa⟩
 ·intro _ _ _ _ _ _ _ _ aa _ ab
  refine gd1 rfl (ab 2 rfl 8 rfl) hc4 ?_
  refine r_len A1 a0.L.length c2 (ab 10 rfl 16 rfl) rfl underlying28 ?_
  exact d0 ⟨rfl, aa⟩
 ·intro _ _ _ _ _ _ _ _ aa _ ab
  refine gd1 rfl (ab 2 rfl 8 rfl) hc4 ?_
  refine r_bin (iv a0.At) (iv (a0.L.length : Int)) (bv (decide ((a0.L.length : Int) ≤ a0.At))) (ab 6 rfl 12 rfl) (ab 11 rfl 17 rfl) rfl rfl (b_geq) ?_
  exact d0 ⟨rfl, aa⟩
 ·intro _ _ _ _ _ _ _ _ aa _ ab
  refine r_pick_f (c := decide (a1 < 1)) (bv (decide ((a0.L.length : Int) ≤ a0.At))) (ab 2 rfl 8 rfl) hc4 (ab 12 rfl 18 rfl) rfl rfl rfl ?_
  exact d0 ⟨rfl, aa⟩
 intro ag _ aG af aH am aI
 have an := E0.trans aG
 have aJ := aH
 have ao := aJ
 have ah : ag 0 = (.pointer (some ⟨b0, 0, none⟩)) := (am 0 rfl).trans rfl
 have ap : ag 1 = (iv a1) := (am 1 rfl).trans rfl
 have aq : ag 19 = (bv (decide ((a0.L.length : Int) ≤ a0.At))) := aI 13 19 rfl
 refine j1 ?_
 refine if_else hf (fun ai hf => ?_) (fun ai hf => ?_)
 ·refine c_true aq ai rfl ?_
  refine j2 (j3 ?_)
  refine r_assign (iv 0) rfl rfl ?_
  refine j0 (j1 (jb (j9 ?_)))
  obtain rfl := oi hf
  refine ret_oneE (iv 0) rfl ⟨rfl, rfl⟩ an.mod_ ?_
  exact ⟨(RpV.mkInt _ _), _, (Semtypebase_Source.cells_iff.2 ⟨_, _, rfl, (h3.mono af)⟩), ao⟩
 refine c_false aq ai rfl ?_
 refine ja (j1 (j2 ?_))
 obtain ⟨x456, aK, hf⟩ := bind_some hf
 obtain ⟨x458, aL, hf⟩ := bind_some hf
 refine wp_draw (B := frP s0.N B0 id0) (sm 20 12 ++ [some 5]) [[], [0], [0, 1], rg 3, [], [4], [4, 5], [4, 5, 6], rg 8, rg 9, [], rg 11, rg 12] [Fct.eqv (.pointer (some ⟨b0, 0, none⟩)), Fct.eqv (.pointer (some ⟨b0, 0, none⟩)), Fct.eqv (.pointer (some ⟨b0, 0, none⟩)), Fct.eqv (lv A1 a0.L.length c2), Fct.eqv (.pointer (some ⟨b0, 0, none⟩)), Fct.eqv (.pointer (some ⟨b0, 0, none⟩)), Fct.eqv (.pointer (some ⟨b0, 1, none⟩)), Fct.eqv (iv a0.At), Fct.elem (x456 : Int), Fct.eqv (iv x456), Fct.eqv (iv a1), Fct.eqv (iv x458), Fct.eqv (iv x458)] (fun D F τ => (Blk B0 id0 τ b0 53 [lv A1 a0.L.length c2, iv a0.At])) (by kernel_rfl) rfl (by decide) (by decide) (ao.ext (ext_draw _)) (by decide) (by decide) ⟨?_, ?_, ?_, ?_, ?_, ?_, ?_, ?_, ?_, ?_, ?_, ?_, ?_, trivial⟩ ?_
 ·intro _ _ _ _ _ _ _ _ aa ab _
  have ac := aa
  refine r_move (.pointer (some ⟨b0, 0, none⟩)) ((ab 0 rfl).trans ah) rfl ?_
  exact d0 ⟨rfl, aa⟩
 ·intro _ _ _ _ _ _ _ _ aa _ ab
  have ac := aa
  refine r_nilCheck _ (ab 0 rfl 20 rfl) rfl ?_
  exact d0 ⟨rfl, aa⟩
 ·intro _ _ _ _ _ _ _ _ aa _ ab
  have ac := aa
  refine r_fieldAddr b0 0 0 0 (ab 1 rfl 21 rfl) rfl fo53_0 rfl ?_
  exact d0 ⟨rfl, aa⟩
 ·intro _ _ _ _ _ _ _ _ aa _ ab
  have ac := aa
  have ad := ac
  refine r_load b0 0 (lv A1 a0.L.length c2) (ab 2 rfl 22 rfl) rfl (loads_one to28 ((ad.cell 0).trans rfl)) ?_
  exact d0 ⟨rfl, aa⟩
 ·intro _ _ _ _ _ _ _ _ aa ab _
  have ac := aa
  refine r_move (.pointer (some ⟨b0, 0, none⟩)) ((ab 0 rfl).trans ah) rfl ?_
  exact d0 ⟨rfl, aa⟩
 ·intro _ _ _ _ _ _ _ _ aa _ ab
  have ac := aa
  refine r_nilCheck _ (ab 4 rfl 24 rfl) rfl ?_
  exact d0 ⟨rfl, aa⟩
 ·intro _ _ _ _ _ _ _ _ aa _ ab
  have ac := aa
  refine r_fieldAddr b0 0 1 1 (ab 5 rfl 25 rfl) rfl fo53_1 rfl ?_
  exact d0 ⟨rfl, aa⟩
 ·intro _ _ _ _ _ _ _ _ aa _ ab
  have ac := aa
  have ad := ac
  refine r_load b0 1 (iv a0.At) (ab 6 rfl 26 rfl) rfl (loads_one to3 ((ad.cell 1).trans rfl)) ?_
  exact d0 ⟨rfl, aa⟩
 ·intro _ _ _ _ _ _ _ aa ab _ ac
  refine r_indexAddr (T := 28) (E := 3) ((h3.mono af).mono aa) aK (ac 3 rfl 23 rfl) (ac 7 rfl 27 rfl) rfl rfl underlying28 sz3 ?_
  intro _ _ _ ad ae
  obtain rfl := ad
  exact d0 ⟨⟨_, _, _, rfl, rfl, ae⟩, ab⟩
 ·intro _ aa ab _ _ _ _ _ ac _ ad
  obtain ⟨ae, aM, _, aN, aO, aP⟩ : (Fct.elem (x456 : Int)).p (aa 28) ab := ad 8 rfl 28 rfl
  obtain rfl := aO
  refine r_load ae aM (iv x456) aN rfl (loads_one to3 (aP.2 0 _ rfl)) ?_
  exact d0 ⟨rfl, ac⟩
 ·intro _ _ _ _ _ _ _ _ aa ab _
  refine r_move (iv a1) ((ab 1 rfl).trans ap) rfl ?_
  exact d0 ⟨rfl, aa⟩
 ·intro _ _ _ _ _ _ _ _ aa _ ab
  refine r_bin (iv x456) (iv a1) (iv x458) (ab 9 rfl 29 rfl) (ab 10 rfl 30 rfl) rfl rfl (b_rem aL) ?_
  exact d0 ⟨rfl, aa⟩
 ·intro _ _ _ _ _ _ _ _ aa _ ab
  refine r_assign (iv x458) (ab 11 rfl 31 rfl) rfl ?_
  exact d0 ⟨rfl, aa⟩
 intro aQ _ aR ar aS au aT
 have aU := an.trans aR
 have aV := aS
 have av := aV
 have aw := (au 0 rfl).trans ah
 have aW := (au 1 rfl).trans ap
 have aj : aQ 5 = (iv x458) := aT 12 5 rfl
 refine j1 (j2 (j3 ?_))
 refine r_move (.pointer (some ⟨b0, 0, none⟩)) aw rfl ?_
 refine r_move (.pointer (some ⟨b0, 0, none⟩)) aw rfl ?_
 refine r_nilCheck _ rfl rfl ?_
 refine r_fieldAddr b0 0 1 1 rfl rfl fo53_1 rfl ?_
 refine r_load b0 1 (iv a0.At) rfl rfl (loads_one to3 ((av.cell 1).trans rfl)) ?_
 refine r_bin (iv a0.At) (iv 1) (iv (w64 (a0.At + 1))) rfl rfl rfl rfl (b_add) ?_
 refine r_nilCheck _ rfl rfl ?_
 refine r_fieldAddr b0 0 1 1 rfl rfl fo53_1 rfl ?_
 refine r_store av 1 (iv (w64 (a0.At + 1))) [iv (w64 (a0.At + 1))] [lv A1 a0.L.length c2, iv (w64 (a0.At + 1))] rfl rfl rfl rfl rfl sz3 rfl rfl rfl ?_
 intro _ ak ax
 have ay := aU.z ak
 refine j0 (j1 (j2 (j2 (j3 ?_))))
 refine r_move (iv x458) aj rfl ?_
 refine r_bin (iv x458) (iv 0) (bv (decide (x458 < 0))) rfl rfl rfl rfl (b_lss) ?_
 refine j0 (j1 ?_)
 refine if_else hf (fun al hf => ?_) (fun al hf => ?_)
 ·refine c_true rfl al rfl ?_
  refine j3 ?_
  refine r_move (iv x458) aj rfl ?_
  refine r_move (iv a1) aW rfl ?_
  refine r_bin (iv x458) (iv a1) (iv (w64 (x458 + a1))) rfl rfl rfl rfl (b_add) ?_
  refine r_assign (iv (w64 (x458 + a1))) rfl rfl ?_
  refine j0 (j1 (j2 (j3 ?_)))
  refine r_move (iv (w64 (x458 + a1))) rfl rfl ?_
  refine r_assign (iv (w64 (x458 + a1))) rfl rfl ?_
  refine j0 (j1 (jb ?_))
  obtain rfl := oi hf
  refine ret_oneE (iv (w64 (x458 + a1))) rfl ⟨rfl, rfl⟩ ay.mod_ ?_
  exact ⟨(RpV.mkInt _ _), _, (Semtypebase_Source.cells_iff.2 ⟨_, _, rfl, (((h3.mono af).mono ar).mono ak.wext)⟩), ax⟩
 refine c_false rfl al rfl ?_
 refine ja (j1 (j2 (j3 ?_)))
 refine r_move (iv x458) aj rfl ?_
 refine r_assign (iv x458) rfl rfl ?_
 refine j0 (j1 (jb ?_))
 obtain rfl := oi hf
 refine ret_oneE (iv x458) rfl ⟨rfl, rfl⟩ ay.mod_ ?_
 exact ⟨(RpV.mkInt _ _), _, (Semtypebase_Source.cells_iff.2 ⟨_, _, rfl, (((h3.mono af).mono ar).mono ak.wext)⟩), ax⟩

def S_semtypebase_Source_Label (f : (Semtypebase_Source → Option (ByteArray × Semtypebase_Source))) : Prop := ∀ (s0 : S) (B0 id0 b0 : Nat) (cs0 : List Value) (a0 : Semtypebase_Source) (r : (ByteArray × Semtypebase_Source)), Rp.cells s0 a0 cs0 → Blk B0 id0 s0 b0 53 cs0 → 1000000 ≤ id0 → f a0 = some r → CtrE Go.Proofs.Try.prog 78 [.pointer (some ⟨b0, 0, none⟩)] s0 (Mod B0 id0 s0) (fun v τ => RpV τ r.1 v ∧ PtrR B0 id0 53 τ r.2 b0)

theorem ok_semtypebase_Source_Label : S_semtypebase_Source_Label semtypebase_Source_Label := by
 intro s0 B0 id0 b0 cs0 a0 r hc0 hb0 hid0 hf
 obtain ⟨A1, c2, rfl, h3⟩ := Semtypebase_Source.cells_iff.1 hc0
 unfold semtypebase_Source_Label at hf
 have E0 : ExtP s0.N B0 id0 s0 s0 := ExtP.refl _ _ _ _
 refine ctr_ofE 8 func78 rfl rfl rfl rfl ?_
 refine j2 (j3 ?_)
 refine r_assign (tv (⟨#[]⟩)) rfl rfl ?_
 refine j0 (j1 (j2 (j3 ?_)))
 refine r_buildSlice (B := s0.N) (E := 9) 1 E0.size ts25 (xs := ([⟨#[65]⟩, ⟨#[66]⟩, ⟨#[67]⟩] : List ByteArray)) [tv (⟨#[65]⟩), tv (⟨#[66]⟩), tv (⟨#[67]⟩)] (eps_cons rfl (eps_cons rfl (eps_cons rfl eps_nil))) rfl rfl rfl (by decide) rfl (by simp [Value.cells, Rp.sz]) ⟨_, _, rfl, rfl, ⟨_, _, rfl, rfl, ⟨_, _, rfl, rfl, rfl⟩⟩⟩ ?_
 intro s4 A5 c6 k7 ho8
 have E9 := E0.x k7
 refine r_move (.pointer (some ⟨b0, 0, none⟩)) rfl rfl ?_
 obtain ⟨_, ab, hf⟩ := bind_some hf
 refine r_callE [.pointer (some ⟨b0, 0, none⟩), iv 3] (evs2 rfl rfl) rfl (ok_semtypebase_Source_Next _ _ _ _ _ _ _ _ _ (Semtypebase_Source.cells_iff.2 ⟨_, _, rfl, (h3.mono k7.wext)⟩) (hb0.ext k7) hid0 (RpV.mkInt _ _) ab) ?_
 intro _ _ aa ac
 obtain ⟨ad, _, ae, af⟩ := ac
 have ag := E9.z aa
 obtain ⟨_, _, rfl, ah⟩ := Semtypebase_Source.cells_iff.1 ae
 obtain rfl := RpV.int ad
 obtain ⟨x24, ai, hf⟩ := bind_some hf
 refine r_indexAddr (T := 25) (E := 9) (ho8.mod aa (beq_false (by omega))).sl ai rfl rfl rfl rfl underlying25 sz9 ?_
 intro aj ak _ al am
 obtain rfl := al
 refine r_load aj ak (tv x24) rfl rfl (loads_one to9 (am.2 0 _ rfl)) ?_
 refine r_assign (tv x24) rfl rfl ?_
 refine j0 (j1 (jb ?_))
 obtain rfl := oi hf
 refine ret_oneE (tv x24) rfl ⟨rfl, rfl⟩ ag.mod_ ?_
 exact ⟨(RpV.mkStr _ _), _, (Semtypebase_Source.cells_iff.2 ⟨_, _, rfl, ah⟩), af⟩

def S_semtyperef1_Sorted (f : ((List ByteArray) → Option (List ByteArray))) : Prop := ∀ (s0 : S) (v0 : Value) (a0 : (List ByteArray)) (r : (List ByteArray)), RpV s0 a0 v0 → f a0 = some r → Ctr Go.Proofs.Try.prog 79 [v0] s0 (fun v τ => RpV τ r v)

end Go.Sx
