/- Printed by dec.py. The walks. -/
import Derived.Test.YtamfhohifmbjnaaWk1
namespace Go.Sx
open Go Go.RowKit
attribute [local irreducible] Go.wpList Go.Code.wp Go.Sx.Ctr Go.Sx.CtrE
set_option maxHeartbeats 1600000
set_option maxRecDepth 100000
open Go.Proofs.Try

theorem ok_semtyperef1_Sorted : S_semtyperef1_Sorted semtyperef1_Sorted := by
 intro s0 v0 a0 r hp0 hf
 obtain ⟨A1, c2, rfl, h3⟩ := RpV.list hp0
 unfold semtyperef1_Sorted at hf
 have E0 : ExtB s0.N s0 s0 := ExtB.refl _ _
 refine ctr_of 61 func79 rfl rfl rfl rfl ?_
 refine j2 (j3 ?_)
 refine r_assign (nl ByteArray) rfl rfl ?_
 refine j0 (j1 (j2 (j3 ?_)))
 refine r_assign (nl ByteArray) rfl rfl ?_
 refine j0 (j1 (j2 (j2 (j3 ?_))))
 refine r_assign (iv 0) rfl rfl ?_
 refine j0 (j1 (j4 ?_))
 refine gen_F fun F4 hg5 => ?_
 have f6 : F4 0 = (lv A1 a0.length c2) := (hg5 0).trans rfl
 have f8 : F4 3 = (nl ByteArray) := (hg5 3).trans rfl
 have f9 : F4 4 = (iv 0) := (hg5 4).trans rfl
 obtain ⟨aY, bD, hf⟩ := bind_some hf
 refine wp_mono (wp_iter (step := semtyperef1_Sorted_l1 a0) (fun q a w => ∃ (F : Fr) (τ : S) (A1 : Option Addr) (c1 : Nat), a = fr 61 F ∧ w = τ.w ∧ Agr [3, 4, 5, 6, 7, 8, 9, 10, 11, 12, 13, 14, 15, 16, 17, 18, 19, 20, 21, 22, 23, 24, 25, 26, 27, 28, 29, 30, 31, 32, 33, 34, 35, 36, 37, 38, 39, 40, 41, 42, 43, 44, 45, 46, 47, 48, 49, 50, 51, 52, 53, 54, 55, 56, 57, 58, 59] F F4 ∧ ExtB s0.N s0 τ ∧ Wext s0 τ ∧ F 3 = (lv A1 q.1.length c1) ∧ Sl τ q.1 A1 c1 ∧ F 4 = (iv q.2)) (fun q e a w => e = .exit 0 ∧ ∃ (F : Fr) (τ : S) (A1 : Option Addr) (c1 : Nat), a = fr 61 F ∧ w = τ.w ∧ Agr [3, 4, 5, 6, 7, 8, 9, 10, 11, 12, 13, 14, 15, 16, 17, 18, 19, 20, 21, 22, 23, 24, 25, 26, 27, 28, 29, 30, 31, 32, 33, 34, 35, 36, 37, 38, 39, 40, 41, 42, 43, 44, 45, 46, 47, 48, 49, 50, 51, 52, 53, 54, 55, 56, 57, 58, 59] F F4 ∧ ExtB s0.N s0 τ ∧ Wext s0 τ ∧ F 3 = (lv A1 q.1.length c1) ∧ Sl τ q.1 A1 c1 ∧ F 4 = (iv q.2)) (by rintro _ a w ⟨h, _⟩; cases h) ?_ _ _ _ _ _ bD ?_) ?_
 ·intro ad fl a w hf hI
  obtain ⟨_, bf, aj, ak, rfl, rfl, aH, bg, av, bh, aw, aZ⟩ := hI
  unfold semtyperef1_Sorted_l1 at hf
  have bi := (aH 0 rfl).trans f6
  refine j2 (j2 (j3 ?_))
  refine r_move (iv ad.2) aZ rfl ?_
  refine r_move (lv A1 a0.length c2) bi rfl ?_
  refine r_len A1 a0.length c2 rfl rfl underlying25 ?_
  refine r_bin (iv ad.2) (iv (a0.length : Int)) (bv (decide (ad.2 < (a0.length : Int)))) rfl rfl rfl rfl (b_lss) ?_
  refine j0 (j1 ?_)
  refine if_else hf (fun a1 hf => ?_) (fun a1 hf => ?_)
  ·refine c_true rfl a1 rfl ?_
   refine ja (j1 (j2 (j4 (j2 (j3 ?_)))))
   refine r_assign (iv 0) rfl rfl ?_
   refine j0 (j1 (j2 (j4 ?_)))
   refine gen_F fun a2 ax => ?_
   have bj := (ax 0).trans bi
   have bk := (ax 3).trans bh
   have bl := (ax 4).trans aZ
   have bE : a2 5 = (iv 0) := (ax 5).trans rfl
   obtain ⟨al, bF, hf⟩ := bind_some hf
   refine wp_mono (wp_iter (step := semtyperef1_Sorted_l2 a0 ad) (fun q a w => ∃ (F : Fr) (τ : S), a = fr 61 F ∧ w = τ.w ∧ Agr [5, 13, 14, 15, 16, 17, 18, 19, 20, 21, 22, 23, 24, 25, 26, 27, 28, 29] F a2 ∧ ExtB s0.N s0 τ ∧ Wext bf τ ∧ F 5 = (iv q)) (fun q e a w => e = .exit 2 ∧ ∃ (F : Fr) (τ : S), a = fr 61 F ∧ w = τ.w ∧ Agr [5, 13, 14, 15, 16, 17, 18, 19, 20, 21, 22, 23, 24, 25, 26, 27, 28, 29] F a2 ∧ ExtB s0.N s0 τ ∧ Wext bf τ ∧ F 5 = (iv q)) (by rintro _ a w ⟨h, _⟩; cases h) ?_ _ _ _ _ _ bF ?_) ?_
   ·intro am fl a w hf hI
    obtain ⟨_, _, rfl, rfl, aD, bm, aI, aJ⟩ := hI
    unfold semtyperef1_Sorted_l2 at hf
    have bG := (aD 0 rfl).trans bj
    have a3 := (aD 3 rfl).trans bk
    have bH := (aD 4 rfl).trans bl
    refine j2 (j2 ?_)
    refine if_else hf (fun an hf => ?_) (fun an hf => ?_)
    ·obtain ⟨x43, bI, hf⟩ := bind_some hf
     obtain ⟨x45, bJ, hf⟩ := bind_some hf
     refine wp_draw (B := frExt s0.N) (sm 13 15) [[], [], [1], rg 3, rg 4, rg 5, rg 5, rg 7, rg 8, rg 5, rg 5, (rg 5 ++ [9, 10]), (rg 5 ++ [9, 10, 11]), rg 13, rg 14] [Fct.eqv (iv am), Fct.eqv (lv aj ad.1.length ak), Fct.eqv (iv (ad.1.length : Int)), Fct.eqv (bv (decide (am < (ad.1.length : Int)))), Fct.eqv (bv (decide (am < (ad.1.length : Int)))), Fct.eqv (lv aj ad.1.length ak), Fct.eqv (iv am), Fct.elem (x43 : ByteArray), Fct.eqv (tv x43), Fct.eqv (lv A1 a0.length c2), Fct.eqv (iv ad.2), Fct.elem (x45 : ByteArray), Fct.eqv (tv x45), Fct.eqv (bv (strLt x43 x45)), Fct.eqv (bv (strLt x43 x45))] (fun D F τ => True) (by kernel_rfl) rfl (by decide) (by decide) trivial (by decide) (by decide) ⟨?_, ?_, ?_, ?_, ?_, ?_, ?_, ?_, ?_, ?_, ?_, ?_, ?_, ?_, ?_, trivial⟩ ?_
     ·intro _ _ _ _ _ _ _ _ aa ab _
      refine r_move (iv am) ((ab 5 rfl).trans aJ) rfl ?_
      exact d0 ⟨rfl, aa⟩
     ·intro _ _ _ _ _ _ _ _ aa ab _
      refine r_move (lv aj ad.1.length ak) ((ab 3 rfl).trans a3) rfl ?_
      exact d0 ⟨rfl, aa⟩
     ·intro _ _ _ _ _ _ _ _ aa _ ab
      refine r_len aj ad.1.length ak (ab 1 rfl 14 rfl) rfl underlying25 ?_
      exact d0 ⟨rfl, aa⟩
     ·intro _ _ _ _ _ _ _ _ aa _ ab
      refine r_bin (iv am) (iv (ad.1.length : Int)) (bv (decide (am < (ad.1.length : Int)))) (ab 0 rfl 13 rfl) (ab 2 rfl 15 rfl) rfl rfl (b_lss) ?_
      exact d0 ⟨rfl, aa⟩
     ·intro _ _ _ _ _ _ _ _ aa _ ab
      refine r_move (bv (decide (am < (ad.1.length : Int)))) (ab 3 rfl 16 rfl) rfl ?_
      exact d0 ⟨rfl, aa⟩
     ·intro _ _ _ _ _ _ _ _ aa ab ac
      refine gd1 rfl (ac 4 rfl 17 rfl) an ?_
      refine r_move (lv aj ad.1.length ak) ((ab 3 rfl).trans a3) rfl ?_
      exact d0 ⟨rfl, aa⟩
     ·intro _ _ _ _ _ _ _ _ aa ab ac
      refine gd1 rfl (ac 4 rfl 17 rfl) an ?_
      refine r_move (iv am) ((ab 5 rfl).trans aJ) rfl ?_
      exact d0 ⟨rfl, aa⟩
     ·intro _ _ _ _ _ _ _ aa ab _ ac
      refine gd1 rfl (ac 4 rfl 17 rfl) an ?_
      refine r_indexAddr (T := 25) (E := 9) ((aw.mono aI).mono aa) bI (ac 5 rfl 18 rfl) (ac 6 rfl 19 rfl) rfl rfl underlying25 sz9 ?_
      intro _ _ _ ae af
      obtain rfl := ae
      exact d0 ⟨⟨_, _, _, rfl, rfl, af⟩, ab⟩
     ·intro _ aa ab _ _ _ _ _ ac _ ae
      obtain ⟨af, ah, _, ag, ai, ao⟩ : (Fct.elem (x43 : ByteArray)).p (aa 20) ab := ae 7 rfl 20 rfl
      obtain rfl := ai
      refine gd1 rfl (ae 4 rfl 17 rfl) an ?_
      refine r_load af ah (tv x43) ag rfl (loads_one to9 (ao.2 0 _ rfl)) ?_
      exact d0 ⟨rfl, ac⟩
     ·intro _ _ _ _ _ _ _ _ aa ab ac
      refine gd1 rfl (ac 4 rfl 17 rfl) an ?_
      refine r_move (lv A1 a0.length c2) ((ab 0 rfl).trans bG) rfl ?_
      exact d0 ⟨rfl, aa⟩
     ·intro _ _ _ _ _ _ _ _ aa ab ac
      refine gd1 rfl (ac 4 rfl 17 rfl) an ?_
      refine r_move (iv ad.2) ((ab 4 rfl).trans bH) rfl ?_
      exact d0 ⟨rfl, aa⟩
     ·intro _ _ _ _ _ _ _ aa ab _ ac
      refine gd1 rfl (ac 4 rfl 17 rfl) an ?_
      refine r_indexAddr (T := 25) (E := 9) (((h3.mono av).mono aI).mono aa) bJ (ac 9 rfl 22 rfl) (ac 10 rfl 23 rfl) rfl rfl underlying25 sz9 ?_
      intro _ _ _ ae af
      obtain rfl := ae
      exact d0 ⟨⟨_, _, _, rfl, rfl, af⟩, ab⟩
     ·intro _ aa ab _ _ _ _ _ ac _ ae
      obtain ⟨af, ah, _, ag, ai, ao⟩ : (Fct.elem (x45 : ByteArray)).p (aa 24) ab := ae 11 rfl 24 rfl
      obtain rfl := ai
      refine gd1 rfl (ae 4 rfl 17 rfl) an ?_
      refine r_load af ah (tv x45) ag rfl (loads_one to9 (ao.2 0 _ rfl)) ?_
      exact d0 ⟨rfl, ac⟩
     ·intro _ _ _ _ _ _ _ _ aa _ ab
      refine gd1 rfl (ab 4 rfl 17 rfl) an ?_
      refine r_bin (tv x43) (tv x45) (bv (strLt x43 x45)) (ab 8 rfl 21 rfl) (ab 12 rfl 25 rfl) rfl rfl (b_slss) ?_
      exact d0 ⟨rfl, aa⟩
     ·intro _ _ _ _ _ _ _ _ aa _ ab
      refine r_pick_t (c := decide (am < (ad.1.length : Int))) (bv (strLt x43 x45)) (ab 4 rfl 17 rfl) an (ab 13 rfl 26 rfl) rfl rfl rfl ?_
      exact d0 ⟨rfl, aa⟩
     intro bK _ bL bn _ a4 bM
     have bo := bm.trans bL
     have bp := (a4 5 rfl).trans aJ
     have bq : bK 27 = (bv (strLt x43 x45)) := bM 14 27 rfl
     refine j1 ?_
     refine if_else hf (fun a5 hf => ?_) (fun a5 hf => ?_)
     ·refine c_true bq a5 rfl ?_
      refine ja (j1 (j4 (j3 ?_)))
      refine r_move (iv am) bp rfl ?_
      refine r_bin (iv am) (iv 1) (iv (w64 (am + 1))) rfl rfl rfl rfl (b_add) ?_
      refine r_assign (iv (w64 (am + 1))) rfl rfl ?_
      refine j0 (j5 ?_)
      obtain rfl := oi hf
      exact ⟨rfl, _, _, rfl, rfl, (((((aD).draw a4 rfl).put rfl).put rfl).put rfl), bo, (((Wext.refl _).trans aI).trans bn), rfl⟩
     refine c_false bq a5 rfl ?_
     refine jc (j8 ?_)
     obtain rfl := oi hf
     exact ⟨rfl, _, _, rfl, rfl, ((aD).draw a4 rfl), bo, (((Wext.refl _).trans aI).trans bn), bp⟩
    refine wp_draw (B := frExt s0.N) (sm 13 15) [[], [], [1], rg 3, rg 4, rg 5, rg 5, rg 7, rg 8, rg 5, rg 5, (rg 5 ++ [9, 10]), (rg 5 ++ [9, 10, 11]), rg 13, rg 14] [Fct.eqv (iv am), Fct.eqv (lv aj ad.1.length ak), Fct.eqv (iv (ad.1.length : Int)), Fct.eqv (bv (decide (am < (ad.1.length : Int)))), Fct.eqv (bv (decide (am < (ad.1.length : Int)))), Fct.eqv undef, Fct.eqv undef, Fct.eqv undef, Fct.eqv undef, Fct.eqv undef, Fct.eqv undef, Fct.eqv undef, Fct.eqv undef, Fct.eqv undef, Fct.eqv (bv false)] (fun D F τ => True) (by kernel_rfl) rfl (by decide) (by decide) trivial (by decide) (by decide) ⟨?_, ?_, ?_, ?_, ?_, ?_, ?_, ?_, ?_, ?_, ?_, ?_, ?_, ?_, ?_, trivial⟩ ?_
    ·intro _ _ _ _ _ _ _ _ aa ab _
     refine r_move (iv am) ((ab 5 rfl).trans aJ) rfl ?_
     exact d0 ⟨rfl, aa⟩
    ·intro _ _ _ _ _ _ _ _ aa ab _
     refine r_move (lv aj ad.1.length ak) ((ab 3 rfl).trans a3) rfl ?_
     exact d0 ⟨rfl, aa⟩
    ·intro _ _ _ _ _ _ _ _ aa _ ab
     refine r_len aj ad.1.length ak (ab 1 rfl 14 rfl) rfl underlying25 ?_
     exact d0 ⟨rfl, aa⟩
    ·intro _ _ _ _ _ _ _ _ aa _ ab
     refine r_bin (iv am) (iv (ad.1.length : Int)) (bv (decide (am < (ad.1.length : Int)))) (ab 0 rfl 13 rfl) (ab 2 rfl 15 rfl) rfl rfl (b_lss) ?_
     exact d0 ⟨rfl, aa⟩
    ·intro _ _ _ _ _ _ _ _ aa _ ab
     refine r_move (bv (decide (am < (ad.1.length : Int)))) (ab 3 rfl 16 rfl) rfl ?_
     exact d0 ⟨rfl, aa⟩
    ·intro _ _ _ _ _ _ _ _ aa _ ab
     exact gd0 rfl (ab 4 rfl 17 rfl) an ⟨rfl, aa⟩
    ·intro _ _ _ _ _ _ _ _ aa _ ab
     exact gd0 rfl (ab 4 rfl 17 rfl) an ⟨rfl, aa⟩
    ·intro _ aa _ _ _ _ _ _ ab _ ac
     have ae : aa 18 = undef := ac 5 rfl 18 rfl
     have af : aa 19 = undef := ac 6 rfl 19 rfl
     exact gd0 rfl (ac 4 rfl 17 rfl) an ⟨rfl, ab⟩
    ·intro _ aa _ _ _ _ _ _ ab _ ac
     have ae : aa 20 = undef := ac 7 rfl 20 rfl
     exact gd0 rfl (ac 4 rfl 17 rfl) an ⟨rfl, ab⟩
    ·intro _ _ _ _ _ _ _ _ aa _ ab
     exact gd0 rfl (ab 4 rfl 17 rfl) an ⟨rfl, aa⟩
    ·intro _ _ _ _ _ _ _ _ aa _ ab
     exact gd0 rfl (ab 4 rfl 17 rfl) an ⟨rfl, aa⟩
    ·intro _ aa _ _ _ _ _ _ ab _ ac
     have ae : aa 22 = undef := ac 9 rfl 22 rfl
     have af : aa 23 = undef := ac 10 rfl 23 rfl
     exact gd0 rfl (ac 4 rfl 17 rfl) an ⟨rfl, ab⟩
    ·intro _ aa _ _ _ _ _ _ ab _ ac
     have ae : aa 24 = undef := ac 11 rfl 24 rfl
     exact gd0 rfl (ac 4 rfl 17 rfl) an ⟨rfl, ab⟩
    ·intro _ aa _ _ _ _ _ _ ab _ ac
     have ae : aa 21 = undef := ac 8 rfl 21 rfl
     have af : aa 25 = undef := ac 12 rfl 25 rfl
     exact gd0 rfl (ac 4 rfl 17 rfl) an ⟨rfl, ab⟩
    ·intro _ aa _ _ _ _ _ _ ab _ ac
     have ae : aa 26 = undef := ac 13 rfl 26 rfl
     refine r_pick_f (c := decide (am < (ad.1.length : Int))) (bv false) (ac 4 rfl 17 rfl) an rfl rfl rfl rfl ?_
     exact d0 ⟨rfl, ab⟩
    intro _ _ bN bO _ br bP
    have bQ := bm.trans bN
    have bR := (br 5 rfl).trans aJ
    refine j1 ?_
    refine c_false (bP 14 27 rfl) rfl rfl ?_
    refine jc (j8 ?_)
    obtain rfl := oi hf
    exact ⟨rfl, _, _, rfl, rfl, ((aD).draw br rfl), bQ, (((Wext.refl _).trans aI).trans bO), bR⟩
   ·exact ⟨_, _, rfl, rfl, (Agr.refl _ _), bg, (Wext.refl _), bE⟩
   rintro e a w ⟨rfl, cK, cL, rfl, rfl, aE, bs, aq, aK⟩
   have a6 := (aE 0 rfl).trans bj
   have aL := (aE 3 rfl).trans bk
   have a7 := (aE 4 rfl).trans bl
   refine j6 (j1 (j2 (j2 ?_)))
   refine if_else hf (fun ap hf => ?_) (fun ap hf => ?_)
   ·obtain ⟨x524, bS, hf⟩ := bind_some hf
    obtain ⟨x526, bT, hf⟩ := bind_some hf
    refine wp_draw (B := frExt s0.N) (sm 30 15) [[], [], [1], rg 3, rg 4, rg 5, rg 5, rg 7, rg 8, rg 5, rg 5, (rg 5 ++ [9, 10]), (rg 5 ++ [9, 10, 11]), rg 13, rg 14] [Fct.eqv (iv al), Fct.eqv (lv aj ad.1.length ak), Fct.eqv (iv (ad.1.length : Int)), Fct.eqv (bv (decide (al < (ad.1.length : Int)))), Fct.eqv (bv (decide (al < (ad.1.length : Int)))), Fct.eqv (lv aj ad.1.length ak), Fct.eqv (iv al), Fct.elem (x524 : ByteArray), Fct.eqv (tv x524), Fct.eqv (lv A1 a0.length c2), Fct.eqv (iv ad.2), Fct.elem (x526 : ByteArray), Fct.eqv (tv x526), Fct.eqv (bv (strEq x524 x526)), Fct.eqv (bv (strEq x524 x526))] (fun D F τ => True) (by kernel_rfl) rfl (by decide) (by decide) trivial (by decide) (by decide) ⟨?_, ?_, ?_, ?_, ?_, ?_, ?_, ?_, ?_, ?_, ?_, ?_, ?_, ?_, ?_, trivial⟩ ?_
    ·intro _ _ _ _ _ _ _ _ aa ab _
     refine r_move (iv al) ((ab 5 rfl).trans aK) rfl ?_
     exact d0 ⟨rfl, aa⟩
    ·intro _ _ _ _ _ _ _ _ aa ab _
     refine r_move (lv aj ad.1.length ak) ((ab 3 rfl).trans aL) rfl ?_
     exact d0 ⟨rfl, aa⟩
    ·intro _ _ _ _ _ _ _ _ aa _ ab
     refine r_len aj ad.1.length ak (ab 1 rfl 31 rfl) rfl underlying25 ?_
     exact d0 ⟨rfl, aa⟩
    ·intro _ _ _ _ _ _ _ _ aa _ ab
     refine r_bin (iv al) (iv (ad.1.length : Int)) (bv (decide (al < (ad.1.length : Int)))) (ab 0 rfl 30 rfl) (ab 2 rfl 32 rfl) rfl rfl (b_lss) ?_
     exact d0 ⟨rfl, aa⟩
    ·intro _ _ _ _ _ _ _ _ aa _ ab
     refine r_move (bv (decide (al < (ad.1.length : Int)))) (ab 3 rfl 33 rfl) rfl ?_
     exact d0 ⟨rfl, aa⟩
    ·intro _ _ _ _ _ _ _ _ aa ab ac
     refine gd1 rfl (ac 4 rfl 34 rfl) ap ?_
     refine r_move (lv aj ad.1.length ak) ((ab 3 rfl).trans aL) rfl ?_
     exact d0 ⟨rfl, aa⟩
    ·intro _ _ _ _ _ _ _ _ aa ab ac
     refine gd1 rfl (ac 4 rfl 34 rfl) ap ?_
     refine r_move (iv al) ((ab 5 rfl).trans aK) rfl ?_
     exact d0 ⟨rfl, aa⟩
    ·intro _ _ _ _ _ _ _ aa ab _ ac
     refine gd1 rfl (ac 4 rfl 34 rfl) ap ?_
     refine r_indexAddr (T := 25) (E := 9) ((aw.mono aq).mono aa) bS (ac 5 rfl 35 rfl) (ac 6 rfl 36 rfl) rfl rfl underlying25 sz9 ?_
     intro _ _ _ ae af
     obtain rfl := ae
     exact d0 ⟨⟨_, _, _, rfl, rfl, af⟩, ab⟩
    ·intro _ aa ab _ _ _ _ _ ac _ ae
     obtain ⟨af, ah, _, ag, ai, ao⟩ : (Fct.elem (x524 : ByteArray)).p (aa 37) ab := ae 7 rfl 37 rfl
     obtain rfl := ai
     refine gd1 rfl (ae 4 rfl 34 rfl) ap ?_
     refine r_load af ah (tv x524) ag rfl (loads_one to9 (ao.2 0 _ rfl)) ?_
     exact d0 ⟨rfl, ac⟩
    ·intro _ _ _ _ _ _ _ _ aa ab ac
     refine gd1 rfl (ac 4 rfl 34 rfl) ap ?_
     refine r_move (lv A1 a0.length c2) ((ab 0 rfl).trans a6) rfl ?_
     exact d0 ⟨rfl, aa⟩
    ·intro _ _ _ _ _ _ _ _ aa ab ac
     refine gd1 rfl (ac 4 rfl 34 rfl) ap ?_
     refine r_move (iv ad.2) ((ab 4 rfl).trans a7) rfl ?_
     exact d0 ⟨rfl, aa⟩
    ·intro _ _ _ _ _ _ _ aa ab _ ac
     refine gd1 rfl (ac 4 rfl 34 rfl) ap ?_
     refine r_indexAddr (T := 25) (E := 9) (((h3.mono av).mono aq).mono aa) bT (ac 9 rfl 39 rfl) (ac 10 rfl 40 rfl) rfl rfl underlying25 sz9 ?_
     intro _ _ _ ae af
     obtain rfl := ae
     exact d0 ⟨⟨_, _, _, rfl, rfl, af⟩, ab⟩
    ·intro _ aa ab _ _ _ _ _ ac _ ae
     obtain ⟨af, ah, _, ag, ai, ao⟩ : (Fct.elem (x526 : ByteArray)).p (aa 41) ab := ae 11 rfl 41 rfl
     obtain rfl := ai
     refine gd1 rfl (ae 4 rfl 34 rfl) ap ?_
     refine r_load af ah (tv x526) ag rfl (loads_one to9 (ao.2 0 _ rfl)) ?_
     exact d0 ⟨rfl, ac⟩
    ·intro _ _ _ _ _ _ _ _ aa _ ab
     refine gd1 rfl (ab 4 rfl 34 rfl) ap ?_
     refine r_bin (tv x524) (tv x526) (bv (strEq x524 x526)) (ab 8 rfl 38 rfl) (ab 12 rfl 42 rfl) rfl rfl (b_seql) ?_
     exact d0 ⟨rfl, aa⟩
    ·intro _ _ _ _ _ _ _ _ aa _ ab
     refine r_pick_t (c := decide (al < (ad.1.length : Int))) (bv (strEq x524 x526)) (ab 4 rfl 34 rfl) ap (ab 13 rfl 43 rfl) rfl rfl rfl ?_
     exact d0 ⟨rfl, aa⟩
    intro bU _ bV aF _ aG bW
    have a8 := bs.trans bV
    have bX := (aG 0 rfl).trans a6
    have a9 := (aG 3 rfl).trans aL
    have ba := (aG 4 rfl).trans a7
    have bt := (aG 5 rfl).trans aK
    have bu : bU 44 = (bv (strEq x524 x526)) := bW 14 44 rfl
    refine j1 ?_
    refine if_else hf (fun bb hf => ?_) (fun bb hf => ?_)
    ·refine c_true bu bb rfl ?_
     refine jc (j8 (j6 (j1 (j3 ?_))))
     refine r_move (iv ad.2) ba rfl ?_
     refine r_bin (iv ad.2) (iv 1) (iv (w64 (ad.2 + 1))) rfl rfl rfl rfl (b_add) ?_
     refine r_assign (iv (w64 (ad.2 + 1))) rfl rfl ?_
     refine j0 ?_
     obtain rfl := oi hf
     exact ⟨rfl, _, _, aj, ak, rfl, rfl, ((((((((((((aH).put rfl).put rfl).put rfl).put rfl).put rfl).gen ax).loop aE rfl).draw aG rfl).put rfl).put rfl).put rfl), a8, ((((Wext.refl _).trans av).trans aq).trans aF), a9, ((aw.mono aq).mono aF), rfl⟩
    refine c_false bu bb rfl ?_
    refine ja (j1 (j2 (j3 ?_)))
    refine r_move (lv aj ad.1.length ak) a9 rfl ?_
    refine r_move (iv al) bt rfl ?_
    obtain ⟨x771, bY, hf⟩ := bind_some hf
    obtain ⟨bZ, b0, b1, b2⟩ := sl_cut_h (P := prog) ((aw.mono aq).mono aF) bY underlying25 sz9
    refine r_slice (lv aj ad.1.length ak) (lv bZ x771.length b0) none (some (iv al)) none rfl rfl rfl (om rfl) rfl rfl (b1) ?_
    obtain ⟨_, b3, hf⟩ := bind_some hf
    refine r_append (B := s0.N) (id := 2) (E := 9) (xs := ([] : List ByteArray)) (ys := x771) a8.size (Own.nil_ _) b2 ts25 (room_some b3) rfl rfl rfl rfl ?_
    intro _ aP aQ aR b4
    have aS := a8.y aR
    refine r_assign (lv aP x771.length aQ) rfl rfl ?_
    refine j0 (j1 ?_)
    obtain ⟨x785, b5, hf⟩ := bind_some hf
    obtain ⟨_, b6, hf⟩ := bind_some hf
    obtain ⟨x789, b7, hf⟩ := bind_some hf
    obtain ⟨_, b8, hf⟩ := bind_some hf
    refine wp_draw (B := frExt s0.N) (sm 49 11 ++ [some 3]) [[], [], [], [1, 2], [1, 2, 3], [1, 2, 3, 4], rg 6, [], [], [7, 8], rg 10, rg 11] [Fct.eqv (lv aP x771.length aQ), Fct.eqv (lv A1 a0.length c2), Fct.eqv (iv ad.2), Fct.elem (x785 : ByteArray), Fct.eqv (tv x785), Fct.data ([x785] : (List ByteArray)), Fct.data (x771 ++ [x785] : (List ByteArray)), Fct.eqv (lv aj ad.1.length ak), Fct.eqv (iv al), Fct.data (x789 : (List ByteArray)), Fct.data ((x771 ++ [x785]) ++ x789 : (List ByteArray)), Fct.data ((x771 ++ [x785]) ++ x789 : (List ByteArray))] (fun D F τ => (D 6 = false → Own s0.N 2 9 τ x771 aP aQ) ∧ (D 6 = true → D 10 = false → ∃ zA zc, F 55 = (lv zA (x771 ++ [x785]).length zc) ∧ Own s0.N 2 9 τ (x771 ++ [x785]) zA zc) ∧ (D 10 = true → ∃ zA zc, F 59 = (lv zA ((x771 ++ [x785]) ++ x789).length zc) ∧ Own s0.N 2 9 τ ((x771 ++ [x785]) ++ x789) zA zc ∧ (D 11 = true → F 3 = (lv zA ((x771 ++ [x785]) ++ x789).length zc)))) (by kernel_rfl) rfl (by decide) (by decide) ⟨(fun _ => (b4.ext (ext_draw _))), (fun h => Bool.noConfusion h), (fun h => Bool.noConfusion h)⟩ (by decide) (by decide) ⟨?_, ?_, ?_, ?_, ?_, ?_, ?_, ?_, ?_, ?_, ?_, ?_, trivial⟩ ?_
    ·intro _ _ _ _ _ _ _ _ aa ab _
     refine r_move (lv aP x771.length aQ) ((ab 6 rfl).trans rfl) rfl ?_
     exact d0 ⟨rfl, aa⟩
    ·intro _ _ _ _ _ _ _ _ aa ab _
     refine r_move (lv A1 a0.length c2) ((ab 0 rfl).trans bX) rfl ?_
     exact d0 ⟨rfl, aa⟩
    ·intro _ _ _ _ _ _ _ _ aa ab _
     refine r_move (iv ad.2) ((ab 4 rfl).trans ba) rfl ?_
     exact d0 ⟨rfl, aa⟩
    ·intro _ _ _ _ _ _ _ aa ab _ ac
     refine r_indexAddr (T := 25) (E := 9) (((((h3.mono av).mono aq).mono aF).mono aR.wext).mono aa) b5 (ac 1 rfl 50 rfl) (ac 2 rfl 51 rfl) rfl rfl underlying25 sz9 ?_
     intro _ _ _ ae af
     obtain rfl := ae
     exact d0 ⟨⟨_, _, _, rfl, rfl, af⟩, ab⟩
    ·intro _ aa ab _ _ _ _ _ ac _ ae
     obtain ⟨af, ah, _, ag, ai, ao⟩ : (Fct.elem (x785 : ByteArray)).p (aa 52) ab := ae 3 rfl 52 rfl
     obtain rfl := ai
     refine r_load af ah (tv x785) ag rfl (loads_one to9 (ao.2 0 _ rfl)) ?_
     exact d0 ⟨rfl, ac⟩
    ·intro _ _ _ _ _ aa ab _ ac _ ae
     have af := aS.trans ab
     obtain ⟨ah, _, _⟩ := id ac
     refine r_buildSlice (B := s0.N) (E := 9) 3 af.size ts25 (xs := [x785]) [tv x785] (eps_cons (ae 4 rfl 53 rfl) eps_nil) rfl rfl rfl (by decide) rfl (by simp [Value.cells, Rp.sz]) ⟨_, _, rfl, rfl, rfl⟩ ?_
     intro _ _ _ ag ai
     exact d1 af (Nat.le_refl _) ag ⟨(RpV.mkList ai.sl), ⟨(fun h => ((ah h).ext ag)), (nc (aa 6 rfl)), (nc (aa 10 rfl))⟩⟩
    ·intro _ aa ab ac _ ae af _ ah _ ag
     have ai := aS.trans af
     obtain ⟨ao, _, _⟩ := id ah
     have ay : RpV ab ([x785] : (List ByteArray)) (aa 54) := ag 5 rfl 54 rfl
     obtain ⟨_, _, az, aA⟩ := RpV.list ay
     refine r_append (B := s0.N) (id := 2) (E := 9) (xs := x771) (ys := [x785]) ai.size ((ao ac)) aA ts25 (room_some b6) (ag 0 rfl 49 rfl) az rfl rfl ?_
     intro _ aB aC ar au
     refine j0 ?_
     exact ⟨_, _, rfl, rfl, (ExtB.refl _ _).trans ((ExtB.refl _ _).mod ai.size ar), (Wext.refl _).trans ar.wext, (RpV.mkList au.sl), ⟨(fun h => Bool.noConfusion h), (fun _ _ => ⟨aB, aC, rfl, au⟩), (nc (ae 10 rfl))⟩⟩
    ·intro _ _ _ _ _ _ _ _ aa ab _
     refine r_move (lv aj ad.1.length ak) ((ab 3 rfl).trans a9) rfl ?_
     exact d0 ⟨rfl, aa⟩
    ·intro _ _ _ _ _ _ _ _ aa ab _
     refine r_move (iv al) ((ab 5 rfl).trans bt) rfl ?_
     exact d0 ⟨rfl, aa⟩
    ·intro _ _ _ _ _ _ _ aa ab _ ac
     obtain ⟨ae, af, ah, ag⟩ := sl_cut_l (P := prog) ((((aw.mono aq).mono aF).mono aR.wext).mono aa) b7 underlying25 sz9
     refine r_slice (lv aj ad.1.length ak) (lv ae x789.length af) (some (iv al)) none none (ac 7 rfl 56 rfl) rfl (om (ac 8 rfl 57 rfl)) rfl rfl rfl (ah) ?_
     exact d0 ⟨(RpV.mkList ag), ab⟩
    ·intro _ aa ab ac ae af ah _ ag _ ai
     have ao := aS.trans ah
     obtain ⟨_, ay, _⟩ := id ag
     obtain ⟨_, _, az, aA⟩ := ay (ae 6 rfl) ac
     have aB : RpV ab (x789 : (List ByteArray)) (aa 58) := ai 9 rfl 58 rfl
     obtain ⟨_, _, aC, ar⟩ := RpV.list aB
     refine r_append (B := s0.N) (id := 2) (E := 9) (xs := x771 ++ [x785]) (ys := x789) ao.size (aA) ar ts25 (room_some b8) az aC rfl rfl ?_
     intro _ au bc aM aN
     refine j0 ?_
     exact ⟨_, _, rfl, rfl, (ExtB.refl _ _).trans ((ExtB.refl _ _).mod ao.size aM), (Wext.refl _).trans aM.wext, (RpV.mkList aN.sl), ⟨(nc (ae 6 rfl)), (fun _ h => Bool.noConfusion h), (fun _ => ⟨au, bc, rfl, aN, (nc (af 11 rfl))⟩)⟩⟩
    ·intro _ _ _ _ aa _ _ _ ab _ _
     obtain ⟨_, ac, ae⟩ := id ab
     obtain ⟨af, ah, ag, ai, _⟩ := ae (aa 10 rfl)
     refine r_assign (lv af ((x771 ++ [x785]) ++ x789).length ah) ag rfl ?_
     exact d0 ⟨(RpV.mkList ai.sl), ⟨(nc (aa 6 rfl)), (fun y0 y1 => let ⟨zA, zc, zv, zo⟩ := ac y0 y1; ⟨zA, zc, zv, zo⟩), (fun _ => ⟨af, ah, ag, ai, (fun _ => rfl)⟩)⟩⟩
    intro _ _ b9 ca cb bw _
    have cc := aS.trans b9
    obtain ⟨_, _, cd⟩ := cb
    obtain ⟨ce, cf, _, cg, ch⟩ := cd rfl
    have ci := (bw 4 rfl).trans ba
    refine j5 (j1 (j3 ?_))
    refine r_move (iv ad.2) ci rfl ?_
    refine r_bin (iv ad.2) (iv 1) (iv (w64 (ad.2 + 1))) rfl rfl rfl rfl (b_add) ?_
    refine r_assign (iv (w64 (ad.2 + 1))) rfl rfl ?_
    refine j0 ?_
    obtain rfl := oi hf
    exact ⟨rfl, _, _, ce, cf, rfl, rfl, ((((((((((((((((((aH).put rfl).put rfl).put rfl).put rfl).put rfl).gen ax).loop aE rfl).draw aG rfl).put rfl).put rfl).put rfl).put rfl).put rfl).draw bw rfl).put rfl).put rfl).put rfl), cc, ((((((Wext.refl _).trans av).trans aq).trans aF).trans aR.wext).trans ca), (ch rfl), cg.sl, rfl⟩
   refine wp_draw (B := frExt s0.N) (sm 30 15) [[], [], [1], rg 3, rg 4, rg 5, rg 5, rg 7, rg 8, rg 5, rg 5, (rg 5 ++ [9, 10]), (rg 5 ++ [9, 10, 11]), rg 13, rg 14] [Fct.eqv (iv al), Fct.eqv (lv aj ad.1.length ak), Fct.eqv (iv (ad.1.length : Int)), Fct.eqv (bv (decide (al < (ad.1.length : Int)))), Fct.eqv (bv (decide (al < (ad.1.length : Int)))), Fct.eqv undef, Fct.eqv undef, Fct.eqv undef, Fct.eqv undef, Fct.eqv undef, Fct.eqv undef, Fct.eqv undef, Fct.eqv undef, Fct.eqv undef, Fct.eqv (bv false)] (fun D F τ => True) (by kernel_rfl) rfl (by decide) (by decide) trivial (by decide) (by decide) ⟨?_, ?_, ?_, ?_, ?_, ?_, ?_, ?_, ?_, ?_, ?_, ?_, ?_, ?_, ?_, trivial⟩ ?_
   ·intro _ _ _ _ _ _ _ _ aa ab _
    refine r_move (iv al) ((ab 5 rfl).trans aK) rfl ?_
    exact d0 ⟨rfl, aa⟩
   ·intro _ _ _ _ _ _ _ _ aa ab _
    refine r_move (lv aj ad.1.length ak) ((ab 3 rfl).trans aL) rfl ?_
    exact d0 ⟨rfl, aa⟩
   ·intro _ _ _ _ _ _ _ _ aa _ ab
    refine r_len aj ad.1.length ak (ab 1 rfl 31 rfl) rfl underlying25 ?_
    exact d0 ⟨rfl, aa⟩
   ·intro _ _ _ _ _ _ _ _ aa _ ab
    refine r_bin (iv al) (iv (ad.1.length : Int)) (bv (decide (al < (ad.1.length : Int)))) (ab 0 rfl 30 rfl) (ab 2 rfl 32 rfl) rfl rfl (b_lss) ?_
    exact d0 ⟨rfl, aa⟩
   ·intro _ _ _ _ _ _ _ _ aa _ ab
    refine r_move (bv (decide (al < (ad.1.length : Int)))) (ab 3 rfl 33 rfl) rfl ?_
    exact d0 ⟨rfl, aa⟩
   ·intro _ _ _ _ _ _ _ _ aa _ ab
    exact gd0 rfl (ab 4 rfl 34 rfl) ap ⟨rfl, aa⟩
   ·intro _ _ _ _ _ _ _ _ aa _ ab
    exact gd0 rfl (ab 4 rfl 34 rfl) ap ⟨rfl, aa⟩
   ·intro _ aa _ _ _ _ _ _ ab _ ac
    have ae : aa 35 = undef := ac 5 rfl 35 rfl
    have af : aa 36 = undef := ac 6 rfl 36 rfl
    exact gd0 rfl (ac 4 rfl 34 rfl) ap ⟨rfl, ab⟩
   ·intro _ aa _ _ _ _ _ _ ab _ ac
    have ae : aa 37 = undef := ac 7 rfl 37 rfl
    exact gd0 rfl (ac 4 rfl 34 rfl) ap ⟨rfl, ab⟩
   ·intro _ _ _ _ _ _ _ _ aa _ ab
    exact gd0 rfl (ab 4 rfl 34 rfl) ap ⟨rfl, aa⟩
   ·intro _ _ _ _ _ _ _ _ aa _ ab
    exact gd0 rfl (ab 4 rfl 34 rfl) ap ⟨rfl, aa⟩
   ·intro _ aa _ _ _ _ _ _ ab _ ac
    have ae : aa 39 = undef := ac 9 rfl 39 rfl
    have af : aa 40 = undef := ac 10 rfl 40 rfl
    exact gd0 rfl (ac 4 rfl 34 rfl) ap ⟨rfl, ab⟩
   ·intro _ aa _ _ _ _ _ _ ab _ ac
    have ae : aa 41 = undef := ac 11 rfl 41 rfl
    exact gd0 rfl (ac 4 rfl 34 rfl) ap ⟨rfl, ab⟩
   ·intro _ aa _ _ _ _ _ _ ab _ ac
    have ae : aa 38 = undef := ac 8 rfl 38 rfl
    have af : aa 42 = undef := ac 12 rfl 42 rfl
    exact gd0 rfl (ac 4 rfl 34 rfl) ap ⟨rfl, ab⟩
   ·intro _ aa _ _ _ _ _ _ ab _ ac
    have ae : aa 43 = undef := ac 13 rfl 43 rfl
    refine r_pick_f (c := decide (al < (ad.1.length : Int))) (bv false) (ac 4 rfl 34 rfl) ap rfl rfl rfl rfl ?_
    exact d0 ⟨rfl, ab⟩
   intro _ _ cj aT _ aO ck
   have bx := bs.trans cj
   have cl := (aO 0 rfl).trans a6
   have bz := (aO 3 rfl).trans aL
   have bA := (aO 4 rfl).trans a7
   have bB := (aO 5 rfl).trans aK
   refine j1 ?_
   refine c_false (ck 14 44 rfl) rfl rfl ?_
   refine ja (j1 (j2 (j3 ?_)))
   refine r_move (lv aj ad.1.length ak) bz rfl ?_
   refine r_move (iv al) bB rfl ?_
   obtain ⟨x1274, cm, hf⟩ := bind_some hf
   obtain ⟨cn, co, cp, cq⟩ := sl_cut_h (P := prog) ((aw.mono aq).mono aT) cm underlying25 sz9
   refine r_slice (lv aj ad.1.length ak) (lv cn x1274.length co) none (some (iv al)) none rfl rfl rfl (om rfl) rfl rfl (cp) ?_
   obtain ⟨_, cr, hf⟩ := bind_some hf
   refine r_append (B := s0.N) (id := 4) (E := 9) (xs := ([] : List ByteArray)) (ys := x1274) bx.size (Own.nil_ _) cq ts25 (room_some cr) rfl rfl rfl rfl ?_
   intro _ aU aV aW cs
   have aX := bx.y aW
   refine r_assign (lv aU x1274.length aV) rfl rfl ?_
   refine j0 (j1 ?_)
   obtain ⟨x1288, ct, hf⟩ := bind_some hf
   obtain ⟨_, cu, hf⟩ := bind_some hf
   obtain ⟨x1292, cv, hf⟩ := bind_some hf
   obtain ⟨_, cw, hf⟩ := bind_some hf
   refine wp_draw (B := frExt s0.N) (sm 49 11 ++ [some 3]) [[], [], [], [1, 2], [1, 2, 3], [1, 2, 3, 4], rg 6, [], [], [7, 8], rg 10, rg 11] [Fct.eqv (lv aU x1274.length aV), Fct.eqv (lv A1 a0.length c2), Fct.eqv (iv ad.2), Fct.elem (x1288 : ByteArray), Fct.eqv (tv x1288), Fct.data ([x1288] : (List ByteArray)), Fct.data (x1274 ++ [x1288] : (List ByteArray)), Fct.eqv (lv aj ad.1.length ak), Fct.eqv (iv al), Fct.data (x1292 : (List ByteArray)), Fct.data ((x1274 ++ [x1288]) ++ x1292 : (List ByteArray)), Fct.data ((x1274 ++ [x1288]) ++ x1292 : (List ByteArray))] (fun D F τ => (D 6 = false → Own s0.N 4 9 τ x1274 aU aV) ∧ (D 6 = true → D 10 = false → ∃ zA zc, F 55 = (lv zA (x1274 ++ [x1288]).length zc) ∧ Own s0.N 4 9 τ (x1274 ++ [x1288]) zA zc) ∧ (D 10 = true → ∃ zA zc, F 59 = (lv zA ((x1274 ++ [x1288]) ++ x1292).length zc) ∧ Own s0.N 4 9 τ ((x1274 ++ [x1288]) ++ x1292) zA zc ∧ (D 11 = true → F 3 = (lv zA ((x1274 ++ [x1288]) ++ x1292).length zc)))) (by kernel_rfl) rfl (by decide) (by decide) ⟨(fun _ => (cs.ext (ext_draw _))), (fun h => Bool.noConfusion h), (fun h => Bool.noConfusion h)⟩ (by decide) (by decide) ⟨?_, ?_, ?_, ?_, ?_, ?_, ?_, ?_, ?_, ?_, ?_, ?_, trivial⟩ ?_
   ·intro _ _ _ _ _ _ _ _ aa ab _
    refine r_move (lv aU x1274.length aV) ((ab 6 rfl).trans rfl) rfl ?_
    exact d0 ⟨rfl, aa⟩
   ·intro _ _ _ _ _ _ _ _ aa ab _
    refine r_move (lv A1 a0.length c2) ((ab 0 rfl).trans cl) rfl ?_
    exact d0 ⟨rfl, aa⟩
   ·intro _ _ _ _ _ _ _ _ aa ab _
    refine r_move (iv ad.2) ((ab 4 rfl).trans bA) rfl ?_
    exact d0 ⟨rfl, aa⟩
   ·intro _ _ _ _ _ _ _ aa ab _ ac
    refine r_indexAddr (T := 25) (E := 9) (((((h3.mono av).mono aq).mono aT).mono aW.wext).mono aa) ct (ac 1 rfl 50 rfl) (ac 2 rfl 51 rfl) rfl rfl underlying25 sz9 ?_
    intro _ _ _ ae af
    obtain rfl := ae
    exact d0 ⟨⟨_, _, _, rfl, rfl, af⟩, ab⟩
   ·intro _ aa ab _ _ _ _ _ ac _ ae
    obtain ⟨af, ah, _, ag, ai, ao⟩ : (Fct.elem (x1288 : ByteArray)).p (aa 52) ab := ae 3 rfl 52 rfl
    obtain rfl := ai
    refine r_load af ah (tv x1288) ag rfl (loads_one to9 (ao.2 0 _ rfl)) ?_
    exact d0 ⟨rfl, ac⟩
   ·intro _ _ _ _ _ aa ab _ ac _ ae
    have af := aX.trans ab
    obtain ⟨ah, _, _⟩ := id ac
    refine r_buildSlice (B := s0.N) (E := 9) 5 af.size ts25 (xs := [x1288]) [tv x1288] (eps_cons (ae 4 rfl 53 rfl) eps_nil) rfl rfl rfl (by decide) rfl (by simp [Value.cells, Rp.sz]) ⟨_, _, rfl, rfl, rfl⟩ ?_
    intro _ _ _ ag ai
    exact d1 af (Nat.le_refl _) ag ⟨(RpV.mkList ai.sl), ⟨(fun h => ((ah h).ext ag)), (nc (aa 6 rfl)), (nc (aa 10 rfl))⟩⟩
   ·intro _ aa ab ac _ ae af _ ah _ ag
    have ai := aX.trans af
    obtain ⟨ao, _, _⟩ := id ah
    have ay : RpV ab ([x1288] : (List ByteArray)) (aa 54) := ag 5 rfl 54 rfl
    obtain ⟨_, _, az, aA⟩ := RpV.list ay
    refine r_append (B := s0.N) (id := 4) (E := 9) (xs := x1274) (ys := [x1288]) ai.size ((ao ac)) aA ts25 (room_some cu) (ag 0 rfl 49 rfl) az rfl rfl ?_
    intro _ aB aC ar au
    refine j0 ?_
    exact ⟨_, _, rfl, rfl, (ExtB.refl _ _).trans ((ExtB.refl _ _).mod ai.size ar), (Wext.refl _).trans ar.wext, (RpV.mkList au.sl), ⟨(fun h => Bool.noConfusion h), (fun _ _ => ⟨aB, aC, rfl, au⟩), (nc (ae 10 rfl))⟩⟩
   ·intro _ _ _ _ _ _ _ _ aa ab _
    refine r_move (lv aj ad.1.length ak) ((ab 3 rfl).trans bz) rfl ?_
    exact d0 ⟨rfl, aa⟩
   ·intro _ _ _ _ _ _ _ _ aa ab _
    refine r_move (iv al) ((ab 5 rfl).trans bB) rfl ?_
    exact d0 ⟨rfl, aa⟩
   ·intro _ _ _ _ _ _ _ aa ab _ ac
    obtain ⟨ae, af, ah, ag⟩ := sl_cut_l (P := prog) ((((aw.mono aq).mono aT).mono aW.wext).mono aa) cv underlying25 sz9
    refine r_slice (lv aj ad.1.length ak) (lv ae x1292.length af) (some (iv al)) none none (ac 7 rfl 56 rfl) rfl (om (ac 8 rfl 57 rfl)) rfl rfl rfl (ah) ?_
    exact d0 ⟨(RpV.mkList ag), ab⟩
   ·intro _ aa ab ac ae af ah _ ag _ ai
    have ao := aX.trans ah
    obtain ⟨_, ay, _⟩ := id ag
    obtain ⟨_, _, az, aA⟩ := ay (ae 6 rfl) ac
    have aB : RpV ab (x1292 : (List ByteArray)) (aa 58) := ai 9 rfl 58 rfl
    obtain ⟨_, _, aC, ar⟩ := RpV.list aB
    refine r_append (B := s0.N) (id := 4) (E := 9) (xs := x1274 ++ [x1288]) (ys := x1292) ao.size (aA) ar ts25 (room_some cw) az aC rfl rfl ?_
    intro _ au bc aM aN
    refine j0 ?_
    exact ⟨_, _, rfl, rfl, (ExtB.refl _ _).trans ((ExtB.refl _ _).mod ao.size aM), (Wext.refl _).trans aM.wext, (RpV.mkList aN.sl), ⟨(nc (ae 6 rfl)), (fun _ h => Bool.noConfusion h), (fun _ => ⟨au, bc, rfl, aN, (nc (af 11 rfl))⟩)⟩⟩
   ·intro _ _ _ _ aa _ _ _ ab _ _
    obtain ⟨_, ac, ae⟩ := id ab
    obtain ⟨af, ah, ag, ai, _⟩ := ae (aa 10 rfl)
    refine r_assign (lv af ((x1274 ++ [x1288]) ++ x1292).length ah) ag rfl ?_
    exact d0 ⟨(RpV.mkList ai.sl), ⟨(nc (aa 6 rfl)), (fun y0 y1 => let ⟨zA, zc, zv, zo⟩ := ac y0 y1; ⟨zA, zc, zv, zo⟩), (fun _ => ⟨af, ah, ag, ai, (fun _ => rfl)⟩)⟩⟩
   intro _ _ cx cy cz bC _
   have cA := aX.trans cx
   obtain ⟨_, _, cB⟩ := cz
   obtain ⟨cC, cD, _, cE, cF⟩ := cB rfl
   have cG := (bC 4 rfl).trans bA
   refine j5 (j1 (j3 ?_))
   refine r_move (iv ad.2) cG rfl ?_
   refine r_bin (iv ad.2) (iv 1) (iv (w64 (ad.2 + 1))) rfl rfl rfl rfl (b_add) ?_
   refine r_assign (iv (w64 (ad.2 + 1))) rfl rfl ?_
   refine j0 ?_
   obtain rfl := oi hf
   exact ⟨rfl, _, _, cC, cD, rfl, rfl, ((((((((((((((((((aH).put rfl).put rfl).put rfl).put rfl).put rfl).gen ax).loop aE rfl).draw aO rfl).put rfl).put rfl).put rfl).put rfl).put rfl).draw bC rfl).put rfl).put rfl).put rfl), cA, ((((((Wext.refl _).trans av).trans aq).trans aT).trans aW.wext).trans cy), (cF rfl), cE.sl, rfl⟩
  refine c_false rfl a1 rfl ?_
  refine jc (j8 ?_)
  obtain rfl := oi hf
  exact ⟨rfl, _, _, aj, ak, rfl, rfl, (((((aH).put rfl).put rfl).put rfl).put rfl), bg, ((Wext.refl _).trans av), bh, aw, aZ⟩
 ·exact ⟨_, _, none, 0, rfl, rfl, (Agr.refl _ _), E0, (Wext.refl _), f8, (Sl.nil_ _ _ _ (Nat.zero_le _)), f9⟩
 rintro e a w ⟨rfl, cM, cN, bd, be, rfl, rfl, cO, cH, cP, cI, cJ, cQ⟩
 refine j6 (j1 (j2 (j3 ?_)))
 refine r_move (lv bd aY.1.length be) cI rfl ?_
 refine r_assign (lv bd aY.1.length be) rfl rfl ?_
 refine j0 (j1 (jb ?_))
 obtain rfl := oi hf
 refine ret_one (lv bd aY.1.length be) rfl ⟨rfl, rfl⟩ cH ?_
 exact (RpV.mkList cJ)

def S_semtypebase_Source_Labels (f : (Semtypebase_Source → Option ((List ByteArray) × Semtypebase_Source))) : Prop := ∀ (s0 : S) (B0 id0 b0 : Nat) (cs0 : List Value) (a0 : Semtypebase_Source) (r : ((List ByteArray) × Semtypebase_Source)), Rp.cells s0 a0 cs0 → Blk B0 id0 s0 b0 53 cs0 → 1000000 ≤ id0 → f a0 = some r → CtrE Go.Proofs.Try.prog 60 [.pointer (some ⟨b0, 0, none⟩)] s0 (Mod B0 id0 s0) (fun v τ => RpV τ r.1 v ∧ PtrR B0 id0 53 τ r.2 b0)

theorem ok_semtypebase_Source_Labels : S_semtypebase_Source_Labels semtypebase_Source_Labels := by
 intro s0 B0 id0 b0 cs0 a0 r hc0 hb0 hid0 hf
 obtain ⟨A1, c2, rfl, h3⟩ := Semtypebase_Source.cells_iff.1 hc0
 unfold semtypebase_Source_Labels at hf
 have E0 : ExtP s0.N B0 id0 s0 s0 := ExtP.refl _ _ _ _
 refine ctr_ofE 22 func60 rfl rfl rfl rfl ?_
 refine j2 (j3 ?_)
 refine r_assign (nl ByteArray) rfl rfl ?_
 refine j0 (j1 (j2 (j3 ?_)))
 refine r_assign (nl ByteArray) rfl rfl ?_
 refine j0 (j1 (j2 (j2 (j3 ?_))))
 refine r_move (.pointer (some ⟨b0, 0, none⟩)) rfl rfl ?_
 obtain ⟨r4, e5, hf⟩ := bind_some hf
 refine r_callE [.pointer (some ⟨b0, 0, none⟩), iv 3] (evs2 rfl rfl) rfl (ok_semtypebase_Source_Next _ _ _ _ _ _ _ _ _ (Semtypebase_Source.cells_iff.2 ⟨_, _, rfl, h3⟩) hb0 hid0 (RpV.mkInt _ _) e5) ?_
 intro v7 s6 k8 hr9
 obtain ⟨aO, _, aP, aq⟩ := hr9
 have ar := E0.z k8
 obtain ⟨_, _, rfl, au⟩ := Semtypebase_Source.cells_iff.1 aP
 obtain rfl := RpV.int aO
 refine r_bin (iv r4.1) (iv 1) (bv (r4.1 == 1)) rfl rfl rfl rfl (b_eql) ?_
 refine j0 (j1 ?_)
 refine if_else hf (fun af hf => ?_) (fun af hf => ?_)
 ·refine c_true rfl af rfl ?_
  refine j2 (j3 ?_)
  refine r_move (nl ByteArray) rfl rfl ?_
  refine r_move (.pointer (some ⟨b0, 0, none⟩)) rfl rfl ?_
  obtain ⟨aa, aQ, hf⟩ := bind_some hf
  refine r_callE [.pointer (some ⟨b0, 0, none⟩)] (evs1 rfl) rfl (ok_semtypebase_Source_Label _ _ _ _ _ _ _ (Semtypebase_Source.cells_iff.2 ⟨_, _, rfl, au⟩) aq hid0  aQ) ?_
  intro _ _ aR aS
  obtain ⟨aT, _, aU, aV⟩ := aS
  have av := ar.z aR
  obtain ⟨_, _, rfl, aW⟩ := Semtypebase_Source.cells_iff.1 aU
  obtain rfl := RpV.str aT
  refine r_buildSlice (B := s0.N) (E := 9) 1 av.size ts25 (xs := [aa.1]) [tv aa.1] (eps_cons rfl eps_nil) rfl rfl rfl (by decide) rfl (by simp [Value.cells, Rp.sz]) ⟨_, _, rfl, rfl, rfl⟩ ?_
  intro _ _ _ ag aX
  have aw := av.x ag
  obtain ⟨_, aY, hf⟩ := bind_some hf
  refine r_append (B := s0.N) (id := 2) (E := 9) (xs := ([] : List ByteArray)) (ys := [aa.1]) aw.size (Own.nil_ _) aX.sl ts25 (room_some aY) rfl rfl rfl rfl ?_
  intro _ ac ad ah ax
  have aZ := aw.y ah
  refine r_assign (lv ac [aa.1].length ad) rfl rfl ?_
  refine j0 (j1 (j2 (j3 ?_)))
  refine r_move (.pointer (some ⟨b0, 0, none⟩)) rfl rfl ?_
  obtain ⟨ay, a0, hf⟩ := bind_some hf
  refine r_callE [.pointer (some ⟨b0, 0, none⟩), iv 2] (evs2 rfl rfl) rfl (ok_semtypebase_Source_Next _ _ _ _ _ _ _ _ _ (Semtypebase_Source.cells_iff.2 ⟨_, _, rfl, ((aW.mono ag.wext).mono ah.wext)⟩) ((aV.ext ag).mod ah (beq_false (by omega))) hid0 (RpV.mkInt _ _) a0) ?_
  intro _ _ ai a1
  obtain ⟨a2, _, a3, az⟩ := a1
  have aA := aZ.z ai
  obtain ⟨_, _, rfl, aB⟩ := Semtypebase_Source.cells_iff.1 a3
  obtain rfl := RpV.int a2
  refine r_bin (iv ay.1) (iv 1) (bv (ay.1 == 1)) rfl rfl rfl rfl (b_eql) ?_
  refine j0 (j1 ?_)
  refine if_else hf (fun aj hf => ?_) (fun aj hf => ?_)
  ·refine c_true rfl aj rfl ?_
   refine j3 ?_
   refine r_move (lv ac [aa.1].length ad) rfl rfl ?_
   refine r_move (.pointer (some ⟨b0, 0, none⟩)) rfl rfl ?_
   obtain ⟨ab, a4, hf⟩ := bind_some hf
   refine r_callE [.pointer (some ⟨b0, 0, none⟩)] (evs1 rfl) rfl (ok_semtypebase_Source_Label _ _ _ _ _ _ _ (Semtypebase_Source.cells_iff.2 ⟨_, _, rfl, aB⟩) az hid0  a4) ?_
   intro _ _ aC a5
   obtain ⟨a6, _, a7, a8⟩ := a5
   have aD := aA.z aC
   obtain ⟨_, _, rfl, a9⟩ := Semtypebase_Source.cells_iff.1 a7
   obtain rfl := RpV.str a6
   refine r_buildSlice (B := s0.N) (E := 9) 3 aD.size ts25 (xs := [ab.1]) [tv ab.1] (eps_cons rfl eps_nil) rfl rfl rfl (by decide) rfl (by simp [Value.cells, Rp.sz]) ⟨_, _, rfl, rfl, rfl⟩ ?_
   intro _ _ _ ae ba
   have aE := aD.x ae
   obtain ⟨_, bb, hf⟩ := bind_some hf
   refine r_append (B := s0.N) (id := 2) (E := 9) (xs := [aa.1]) (ys := [ab.1]) aE.size ((((ax.mod ai (beq_false (by omega))).mod aC (beq_false (by omega))).ext ae)) ba.sl ts25 (room_some bb) rfl rfl rfl rfl ?_
   intro _ ak al am bc
   have bd := aE.y am
   refine r_assign (lv ak ([aa.1] ++ [ab.1]).length al) rfl rfl ?_
   refine j0 (j1 (j2 (j3 ?_)))
   refine r_move (lv ak ([aa.1] ++ [ab.1]).length al) rfl rfl ?_
   obtain ⟨aF, be, hf⟩ := bind_some hf
   refine r_call [lv ak ([aa.1] ++ [ab.1]).length al] (evs1 rfl) rfl (ok_semtyperef1_Sorted _ _ _ _ (RpV.mkList bc.sl) be) ?_
   intro _ _ an bf
   have bg := bd.x an
   obtain ⟨aG, aH, rfl, bh⟩ := RpV.list bf
   refine r_assign (lv aG aF.length aH) rfl rfl ?_
   refine j0 (j1 (jb ?_))
   obtain rfl := oi hf
   refine ret_oneE (lv aG aF.length aH) rfl ⟨rfl, rfl⟩ bg.mod_ ?_
   exact ⟨(RpV.mkList bh), _, (Semtypebase_Source.cells_iff.2 ⟨_, _, rfl, (((a9.mono ae.wext).mono am.wext).mono an.wext)⟩), (((a8.ext ae).mod am (beq_false (by omega))).ext an)⟩
  refine c_false rfl aj rfl ?_
  refine ja (j1 (j2 (j3 ?_)))
  refine r_move (lv ac [aa.1].length ad) rfl rfl ?_
  obtain ⟨aI, bi, hf⟩ := bind_some hf
  refine r_call [lv ac [aa.1].length ad] (evs1 rfl) rfl (ok_semtyperef1_Sorted _ _ _ _ (RpV.mkList (ax.mod ai (beq_false (by omega))).sl) bi) ?_
  intro _ _ ao bj
  have bk := aA.x ao
  obtain ⟨aJ, aK, rfl, bl⟩ := RpV.list bj
  refine r_assign (lv aJ aI.length aK) rfl rfl ?_
  refine j0 (j1 (jb ?_))
  obtain rfl := oi hf
  refine ret_oneE (lv aJ aI.length aK) rfl ⟨rfl, rfl⟩ bk.mod_ ?_
  exact ⟨(RpV.mkList bl), _, (Semtypebase_Source.cells_iff.2 ⟨_, _, rfl, (aB.mono ao.wext)⟩), (az.ext ao)⟩
 refine c_false rfl af rfl ?_
 refine ja (j1 (j2 (j3 ?_)))
 refine r_move (nl ByteArray) rfl rfl ?_
 obtain ⟨aL, bm, hf⟩ := bind_some hf
 refine r_call [nl ByteArray] (evs1 rfl) rfl (ok_semtyperef1_Sorted _ _ _ _ (RpV.mkList (Sl.nil_ _ _ _ (Nat.zero_le _))) bm) ?_
 intro _ _ ap bn
 have bo := ar.x ap
 obtain ⟨aM, aN, rfl, bp⟩ := RpV.list bn
 refine r_assign (lv aM aL.length aN) rfl rfl ?_
 refine j0 (j1 (jb ?_))
 obtain rfl := oi hf
 refine ret_oneE (lv aM aL.length aN) rfl ⟨rfl, rfl⟩ bo.mod_ ?_
 exact ⟨(RpV.mkList bp), _, (Semtypebase_Source.cells_iff.2 ⟨_, _, rfl, (au.mono ap.wext)⟩), (aq.ext ap)⟩

def S_semtyperef1_Int (f : (Int → Option Val)) : Prop := ∀ (s0 : S) (v0 : Value) (a0 : Int) (r : Val), RpV s0 a0 v0 → f a0 = some r → Ctr Go.Proofs.Try.prog 28 [v0] s0 (fun v τ => RpV τ r v)

theorem ok_semtyperef1_Int : S_semtyperef1_Int semtyperef1_Int := by
 intro s0 v0 a0 r hp0 hf
 obtain rfl := RpV.int hp0
 unfold semtyperef1_Int at hf
 have E0 : ExtB s0.N s0 s0 := ExtB.refl _ _
 refine ctr_of 5 func28 rfl rfl rfl rfl ?_
 refine j2 (j3 ?_)
 refine r_alloc (B := s0.N) 1 E0.size _ [iv 0, iv 0, tv (⟨#[]⟩), nl Val, nl Key, nl Ent, nl ByteArray] ti27 rfl ?_
 intro s2 b1 k3 hb4
 have E5 := E0.x k3
 refine j0 (j1 (j2 (j3 ?_)))
 refine r_move (iv a0) rfl rfl ?_
 refine r_build tst27 [(0, iv 1), (1, iv a0)] [iv 1, iv a0, tv (⟨#[]⟩), nl Val, nl Key, nl Ent, nl ByteArray] (eps_cons rfl (eps_cons rfl eps_nil)) rfl rfl ?_
 refine r_store hb4 0 (.agg #[iv 1, iv a0, tv (⟨#[]⟩), nl Val, nl Key, nl Ent, nl ByteArray]) [iv 1, iv a0, tv (⟨#[]⟩), nl Val, nl Key, nl Ent, nl ByteArray] [iv 1, iv a0, tv (⟨#[]⟩), nl Val, nl Key, nl Ent, nl ByteArray] rfl rfl rfl rfl rfl sz27 rfl rfl rfl ?_
 intro s6 hm7 hb8
 have E9 := E5.y hm7
 refine j0 (j1 (jb ?_))
 obtain rfl := oi hf
 refine ret_one (.agg #[iv 1, iv a0, tv (⟨#[]⟩), nl Val, nl Key, nl Ent, nl ByteArray]) rfl ⟨rfl, _, rfl, loads_row tr27 (Blk.range hb8 0 [iv 1, iv a0, tv (⟨#[]⟩), nl Val, nl Key, nl Ent, nl ByteArray] rfl)⟩ E9 ?_
 exact (Val.rpvMk (v := (Val.mk 1 a0 (⟨#[]⟩) ([] : List Val) ([] : List Key) ([] : List Ent) ([] : List ByteArray))) (Sl.nil_ _ _ _ (Nat.zero_le _)) (Sl.nil_ _ _ _ (Nat.zero_le _)) (Sl.nil_ _ _ _ (Nat.zero_le _)) (Sl.nil_ _ _ _ (Nat.zero_le _)))

def S_semtyperef1_String (f : (ByteArray → Option Val)) : Prop := ∀ (s0 : S) (v0 : Value) (a0 : ByteArray) (r : Val), RpV s0 a0 v0 → f a0 = some r → Ctr Go.Proofs.Try.prog 29 [v0] s0 (fun v τ => RpV τ r v)

theorem ok_semtyperef1_String : S_semtyperef1_String semtyperef1_String := by
 intro s0 v0 a0 r hp0 hf
 obtain rfl := RpV.str hp0
 unfold semtyperef1_String at hf
 have E0 : ExtB s0.N s0 s0 := ExtB.refl _ _
 refine ctr_of 5 func29 rfl rfl rfl rfl ?_
 refine j2 (j3 ?_)
 refine r_alloc (B := s0.N) 1 E0.size _ [iv 0, iv 0, tv (⟨#[]⟩), nl Val, nl Key, nl Ent, nl ByteArray] ti27 rfl ?_
 intro s2 b1 k3 hb4
 have E5 := E0.x k3
 refine j0 (j1 (j2 (j3 ?_)))
 refine r_move (tv a0) rfl rfl ?_
 refine r_build tst27 [(0, iv 2), (2, tv a0)] [iv 2, iv 0, tv a0, nl Val, nl Key, nl Ent, nl ByteArray] (eps_cons rfl (eps_cons rfl eps_nil)) rfl rfl ?_
 refine r_store hb4 0 (.agg #[iv 2, iv 0, tv a0, nl Val, nl Key, nl Ent, nl ByteArray]) [iv 2, iv 0, tv a0, nl Val, nl Key, nl Ent, nl ByteArray] [iv 2, iv 0, tv a0, nl Val, nl Key, nl Ent, nl ByteArray] rfl rfl rfl rfl rfl sz27 rfl rfl rfl ?_
 intro s6 hm7 hb8
 have E9 := E5.y hm7
 refine j0 (j1 (jb ?_))
 obtain rfl := oi hf
 refine ret_one (.agg #[iv 2, iv 0, tv a0, nl Val, nl Key, nl Ent, nl ByteArray]) rfl ⟨rfl, _, rfl, loads_row tr27 (Blk.range hb8 0 [iv 2, iv 0, tv a0, nl Val, nl Key, nl Ent, nl ByteArray] rfl)⟩ E9 ?_
 exact (Val.rpvMk (v := (Val.mk 2 0 a0 ([] : List Val) ([] : List Key) ([] : List Ent) ([] : List ByteArray))) (Sl.nil_ _ _ _ (Nat.zero_le _)) (Sl.nil_ _ _ _ (Nat.zero_le _)) (Sl.nil_ _ _ _ (Nat.zero_le _)) (Sl.nil_ _ _ _ (Nat.zero_le _)))

def S_semtyperef1_copies (f : ((List Val) → Option (List Val))) : Prop := ∀ (s0 : S) (v0 : Value) (a0 : (List Val)) (r : (List Val)), RpV s0 a0 v0 → f a0 = some r → ∀ id : Nat, 1000 ≤ id → Ctr Go.Proofs.Try.prog 93 [v0] s0 (fun v τ => OwnV s0.N id 27 τ r v)

theorem ok_semtyperef1_copies : S_semtyperef1_copies semtyperef1_copies := by
 intro s0 v0 a0 r hp0 hf id hid
 obtain ⟨A1, c2, rfl, h3⟩ := RpV.list hp0
 unfold semtyperef1_copies at hf
 have E0 : ExtB s0.N s0 s0 := ExtB.refl _ _
 refine ctr_of 5 func93 rfl rfl rfl rfl ?_
 refine j2 (j3 ?_)
 refine r_assign (nl Val) rfl rfl ?_
 refine j0 (j1 (j2 (j3 ?_)))
 refine r_move (lv A1 a0.length c2) rfl rfl ?_
 obtain ⟨u4, e5, hf⟩ := bind_some hf
 refine r_append (B := s0.N) (id := id) (E := 27) (xs := ([] : List Val)) (ys := a0) E0.size (Own.nil_ _) h3 ts22 (room_some e5) rfl rfl rfl rfl ?_
 intro s6 A7 c8 hm9 aa
 have ab := E0.y hm9
 refine r_assign (lv A7 a0.length c8) rfl rfl ?_
 refine j0 (j1 (jb ?_))
 obtain rfl := oi hf
 refine ret_one (lv A7 a0.length c8) rfl ⟨rfl, rfl⟩ ab ?_
 exact ⟨_, _, rfl, aa⟩

def S_semtyperef1_Tuple (f : ((List Val) → Option Val)) : Prop := ∀ (s0 : S) (v0 : Value) (a0 : (List Val)) (r : Val), RpV s0 a0 v0 → f a0 = some r → Ctr Go.Proofs.Try.prog 73 [v0] s0 (fun v τ => RpV τ r v)

theorem ok_semtyperef1_Tuple : S_semtyperef1_Tuple semtyperef1_Tuple := by
 intro s0 v0 a0 r hp0 hf
 obtain ⟨A1, c2, rfl, h3⟩ := RpV.list hp0
 unfold semtyperef1_Tuple at hf
 have E0 : ExtB s0.N s0 s0 := ExtB.refl _ _
 refine ctr_of 6 func73 rfl rfl rfl rfl ?_
 refine j2 (j3 ?_)
 refine r_alloc (B := s0.N) 1 E0.size _ [iv 0, iv 0, tv (⟨#[]⟩), nl Val, nl Key, nl Ent, nl ByteArray] ti27 rfl ?_
 intro s5 b4 k6 hb7
 have E8 := E0.x k6
 refine j0 (j1 (j2 (j3 ?_)))
 refine r_move (lv A1 a0.length c2) rfl rfl ?_
 obtain ⟨r9, ae, hf⟩ := bind_some hf
 refine r_call [lv A1 a0.length c2] (evs1 rfl) rfl (ok_semtyperef1_copies _ _ _ _ (RpV.mkList (h3.mono k6.wext)) ae 1002 (by omega)) ?_
 intro _ _ ac af
 have ag := E8.x ac
 obtain ⟨aa, ab, rfl, ah⟩ := af
 refine r_build tst27 [(0, iv 6), (3, lv aa r9.length ab)] [iv 6, iv 0, tv (⟨#[]⟩), lv aa r9.length ab, nl Key, nl Ent, nl ByteArray] (eps_cons rfl (eps_cons rfl eps_nil)) rfl rfl ?_
 refine r_store (hb7.ext ac) 0 (.agg #[iv 6, iv 0, tv (⟨#[]⟩), lv aa r9.length ab, nl Key, nl Ent, nl ByteArray]) [iv 6, iv 0, tv (⟨#[]⟩), lv aa r9.length ab, nl Key, nl Ent, nl ByteArray] [iv 6, iv 0, tv (⟨#[]⟩), lv aa r9.length ab, nl Key, nl Ent, nl ByteArray] rfl rfl rfl rfl rfl sz27 rfl rfl rfl ?_
 intro _ ad ai
 have aj := ag.y ad
 refine j0 (j1 (jb ?_))
 obtain rfl := oi hf
 refine ret_one (.agg #[iv 6, iv 0, tv (⟨#[]⟩), lv aa r9.length ab, nl Key, nl Ent, nl ByteArray]) rfl ⟨rfl, _, rfl, loads_row tr27 (Blk.range ai 0 [iv 6, iv 0, tv (⟨#[]⟩), lv aa r9.length ab, nl Key, nl Ent, nl ByteArray] rfl)⟩ aj ?_
 exact (Val.rpvMk (v := (Val.mk 6 0 (⟨#[]⟩) r9 ([] : List Key) ([] : List Ent) ([] : List ByteArray))) (((ah.base (by have := E8.size; omega)).mod ad rfl).sl) (Sl.nil_ _ _ _ (Nat.zero_le _)) (Sl.nil_ _ _ _ (Nat.zero_le _)) (Sl.nil_ _ _ _ (Nat.zero_le _)))

def S_semtypebase_Source_Number (f : (Semtypebase_Source → Option (Int × Semtypebase_Source))) : Prop := ∀ (s0 : S) (B0 id0 b0 : Nat) (cs0 : List Value) (a0 : Semtypebase_Source) (r : (Int × Semtypebase_Source)), Rp.cells s0 a0 cs0 → Blk B0 id0 s0 b0 53 cs0 → 1000000 ≤ id0 → f a0 = some r → CtrE Go.Proofs.Try.prog 88 [.pointer (some ⟨b0, 0, none⟩)] s0 (Mod B0 id0 s0) (fun v τ => RpV τ r.1 v ∧ PtrR B0 id0 53 τ r.2 b0)

theorem ok_semtypebase_Source_Number : S_semtypebase_Source_Number semtypebase_Source_Number := by
 intro s0 B0 id0 b0 cs0 a0 r hc0 hb0 hid0 hf
 obtain ⟨A1, c2, rfl, h3⟩ := Semtypebase_Source.cells_iff.1 hc0
 unfold semtypebase_Source_Number at hf
 have E0 : ExtP s0.N B0 id0 s0 s0 := ExtP.refl _ _ _ _
 refine ctr_ofE 8 func88 rfl rfl rfl rfl ?_
 refine j2 (j3 ?_)
 refine r_assign (iv 0) rfl rfl ?_
 refine j0 (j1 (j2 (j3 ?_)))
 refine r_buildSlice (B := s0.N) (E := 2) 1 E0.size ts98 (xs := ([0, 1, (-1), 2, 3, (-2), 7, (-9223372036854775808), 9223372036854775807, 10] : List Int)) [iv 0, iv 1, iv (-1), iv 2, iv 3, iv (-2), iv 7, iv (-9223372036854775808), iv 9223372036854775807, iv 10] (eps_cons rfl (eps_cons rfl (eps_cons rfl (eps_cons rfl (eps_cons rfl (eps_cons rfl (eps_cons rfl (eps_cons rfl (eps_cons rfl (eps_cons rfl eps_nil)))))))))) rfl rfl rfl (by decide) rfl (by simp [Value.cells, Rp.sz]) ⟨_, _, rfl, rfl, ⟨_, _, rfl, rfl, ⟨_, _, rfl, rfl, ⟨_, _, rfl, rfl, ⟨_, _, rfl, rfl, ⟨_, _, rfl, rfl, ⟨_, _, rfl, rfl, ⟨_, _, rfl, rfl, ⟨_, _, rfl, rfl, ⟨_, _, rfl, rfl, rfl⟩⟩⟩⟩⟩⟩⟩⟩⟩⟩ ?_
 intro s4 A5 c6 k7 ho8
 have E9 := E0.x k7
 refine r_move (.pointer (some ⟨b0, 0, none⟩)) rfl rfl ?_
 obtain ⟨_, ab, hf⟩ := bind_some hf
 refine r_callE [.pointer (some ⟨b0, 0, none⟩), iv 10] (evs2 rfl rfl) rfl (ok_semtypebase_Source_Next _ _ _ _ _ _ _ _ _ (Semtypebase_Source.cells_iff.2 ⟨_, _, rfl, (h3.mono k7.wext)⟩) (hb0.ext k7) hid0 (RpV.mkInt _ _) ab) ?_
 intro _ _ aa ac
 obtain ⟨ad, _, ae, af⟩ := ac
 have ag := E9.z aa
 obtain ⟨_, _, rfl, ah⟩ := Semtypebase_Source.cells_iff.1 ae
 obtain rfl := RpV.int ad
 obtain ⟨x24, ai, hf⟩ := bind_some hf
 refine r_indexAddr (T := 98) (E := 2) (ho8.mod aa (beq_false (by omega))).sl ai rfl rfl rfl rfl underlying98 sz2 ?_
 intro aj ak _ al am
 obtain rfl := al
 refine r_load aj ak (iv x24) rfl rfl (loads_one to2 (am.2 0 _ rfl)) ?_
 refine r_assign (iv x24) rfl rfl ?_
 refine j0 (j1 (jb ?_))
 obtain rfl := oi hf
 refine ret_oneE (iv x24) rfl ⟨rfl, rfl⟩ ag.mod_ ?_
 exact ⟨(RpV.mkInt _ _), _, (Semtypebase_Source.cells_iff.2 ⟨_, _, rfl, ah⟩), af⟩

def S_semtyperef1_Atom (f : (ByteArray → Option Val)) : Prop := ∀ (s0 : S) (v0 : Value) (a0 : ByteArray) (r : Val), RpV s0 a0 v0 → f a0 = some r → Ctr Go.Proofs.Try.prog 89 [v0] s0 (fun v τ => RpV τ r v)

theorem ok_semtyperef1_Atom : S_semtyperef1_Atom semtyperef1_Atom := by
 intro s0 v0 a0 r hp0 hf
 obtain rfl := RpV.str hp0
 unfold semtyperef1_Atom at hf
 have E0 : ExtB s0.N s0 s0 := ExtB.refl _ _
 refine ctr_of 5 func89 rfl rfl rfl rfl ?_
 refine j2 (j3 ?_)
 refine r_alloc (B := s0.N) 1 E0.size _ [iv 0, iv 0, tv (⟨#[]⟩), nl Val, nl Key, nl Ent, nl ByteArray] ti27 rfl ?_
 intro s2 b1 k3 hb4
 have E5 := E0.x k3
 refine j0 (j1 (j2 (j3 ?_)))
 refine r_move (tv a0) rfl rfl ?_
 refine r_build tst27 [(0, iv 3), (2, tv a0)] [iv 3, iv 0, tv a0, nl Val, nl Key, nl Ent, nl ByteArray] (eps_cons rfl (eps_cons rfl eps_nil)) rfl rfl ?_
 refine r_store hb4 0 (.agg #[iv 3, iv 0, tv a0, nl Val, nl Key, nl Ent, nl ByteArray]) [iv 3, iv 0, tv a0, nl Val, nl Key, nl Ent, nl ByteArray] [iv 3, iv 0, tv a0, nl Val, nl Key, nl Ent, nl ByteArray] rfl rfl rfl rfl rfl sz27 rfl rfl rfl ?_
 intro s6 hm7 hb8
 have E9 := E5.y hm7
 refine j0 (j1 (jb ?_))
 obtain rfl := oi hf
 refine ret_one (.agg #[iv 3, iv 0, tv a0, nl Val, nl Key, nl Ent, nl ByteArray]) rfl ⟨rfl, _, rfl, loads_row tr27 (Blk.range hb8 0 [iv 3, iv 0, tv a0, nl Val, nl Key, nl Ent, nl ByteArray] rfl)⟩ E9 ?_
 exact (Val.rpvMk (v := (Val.mk 3 0 a0 ([] : List Val) ([] : List Key) ([] : List Ent) ([] : List ByteArray))) (Sl.nil_ _ _ _ (Nat.zero_le _)) (Sl.nil_ _ _ _ (Nat.zero_le _)) (Sl.nil_ _ _ _ (Nat.zero_le _)) (Sl.nil_ _ _ _ (Nat.zero_le _)))

def S_semtypebase_Source_AtomName (f : (Semtypebase_Source → Option (ByteArray × Semtypebase_Source))) : Prop := ∀ (s0 : S) (B0 id0 b0 : Nat) (cs0 : List Value) (a0 : Semtypebase_Source) (r : (ByteArray × Semtypebase_Source)), Rp.cells s0 a0 cs0 → Blk B0 id0 s0 b0 53 cs0 → 1000000 ≤ id0 → f a0 = some r → CtrE Go.Proofs.Try.prog 90 [.pointer (some ⟨b0, 0, none⟩)] s0 (Mod B0 id0 s0) (fun v τ => RpV τ r.1 v ∧ PtrR B0 id0 53 τ r.2 b0)

theorem ok_semtypebase_Source_AtomName : S_semtypebase_Source_AtomName semtypebase_Source_AtomName := by
 intro s0 B0 id0 b0 cs0 a0 r hc0 hb0 hid0 hf
 obtain ⟨A1, c2, rfl, h3⟩ := Semtypebase_Source.cells_iff.1 hc0
 unfold semtypebase_Source_AtomName at hf
 have E0 : ExtP s0.N B0 id0 s0 s0 := ExtP.refl _ _ _ _
 refine ctr_ofE 8 func90 rfl rfl rfl rfl ?_
 refine j2 (j3 ?_)
 refine r_assign (tv (⟨#[]⟩)) rfl rfl ?_
 refine j0 (j1 (j2 (j3 ?_)))
 refine r_buildSlice (B := s0.N) (E := 9) 1 E0.size ts25 (xs := ([⟨#[97]⟩, ⟨#[98]⟩, ⟨#[111, 107]⟩, ⟨#[101, 114, 114, 111, 114]⟩] : List ByteArray)) [tv (⟨#[97]⟩), tv (⟨#[98]⟩), tv (⟨#[111, 107]⟩), tv (⟨#[101, 114, 114, 111, 114]⟩)] (eps_cons rfl (eps_cons rfl (eps_cons rfl (eps_cons rfl eps_nil)))) rfl rfl rfl (by decide) rfl (by simp [Value.cells, Rp.sz]) ⟨_, _, rfl, rfl, ⟨_, _, rfl, rfl, ⟨_, _, rfl, rfl, ⟨_, _, rfl, rfl, rfl⟩⟩⟩⟩ ?_
 intro s4 A5 c6 k7 ho8
 have E9 := E0.x k7
 refine r_move (.pointer (some ⟨b0, 0, none⟩)) rfl rfl ?_
 obtain ⟨_, ab, hf⟩ := bind_some hf
 refine r_callE [.pointer (some ⟨b0, 0, none⟩), iv 4] (evs2 rfl rfl) rfl (ok_semtypebase_Source_Next _ _ _ _ _ _ _ _ _ (Semtypebase_Source.cells_iff.2 ⟨_, _, rfl, (h3.mono k7.wext)⟩) (hb0.ext k7) hid0 (RpV.mkInt _ _) ab) ?_
 intro _ _ aa ac
 obtain ⟨ad, _, ae, af⟩ := ac
 have ag := E9.z aa
 obtain ⟨_, _, rfl, ah⟩ := Semtypebase_Source.cells_iff.1 ae
 obtain rfl := RpV.int ad
 obtain ⟨x24, ai, hf⟩ := bind_some hf
 refine r_indexAddr (T := 25) (E := 9) (ho8.mod aa (beq_false (by omega))).sl ai rfl rfl rfl rfl underlying25 sz9 ?_
 intro aj ak _ al am
 obtain rfl := al
 refine r_load aj ak (tv x24) rfl rfl (loads_one to9 (am.2 0 _ rfl)) ?_
 refine r_assign (tv x24) rfl rfl ?_
 refine j0 (j1 (jb ?_))
 obtain rfl := oi hf
 refine ret_oneE (tv x24) rfl ⟨rfl, rfl⟩ ag.mod_ ?_
 exact ⟨(RpV.mkStr _ _), _, (Semtypebase_Source.cells_iff.2 ⟨_, _, rfl, ah⟩), af⟩

def S_semtypebase_Source_Word (f : (Semtypebase_Source → Option (ByteArray × Semtypebase_Source))) : Prop := ∀ (s0 : S) (B0 id0 b0 : Nat) (cs0 : List Value) (a0 : Semtypebase_Source) (r : (ByteArray × Semtypebase_Source)), Rp.cells s0 a0 cs0 → Blk B0 id0 s0 b0 53 cs0 → 1000000 ≤ id0 → f a0 = some r → CtrE Go.Proofs.Try.prog 91 [.pointer (some ⟨b0, 0, none⟩)] s0 (Mod B0 id0 s0) (fun v τ => RpV τ r.1 v ∧ PtrR B0 id0 53 τ r.2 b0)

theorem ok_semtypebase_Source_Word : S_semtypebase_Source_Word semtypebase_Source_Word := by
 intro s0 B0 id0 b0 cs0 a0 r hc0 hb0 hid0 hf
 obtain ⟨A1, c2, rfl, h3⟩ := Semtypebase_Source.cells_iff.1 hc0
 unfold semtypebase_Source_Word at hf
 have E0 : ExtP s0.N B0 id0 s0 s0 := ExtP.refl _ _ _ _
 refine ctr_ofE 8 func91 rfl rfl rfl rfl ?_
 refine j2 (j3 ?_)
 refine r_assign (tv (⟨#[]⟩)) rfl rfl ?_
 refine j0 (j1 (j2 (j3 ?_)))
 refine r_buildSlice (B := s0.N) (E := 9) 1 E0.size ts25 (xs := ([⟨#[]⟩, ⟨#[115]⟩, ⟨#[120, 32, 121]⟩, ⟨#[97]⟩] : List ByteArray)) [tv (⟨#[]⟩), tv (⟨#[115]⟩), tv (⟨#[120, 32, 121]⟩), tv (⟨#[97]⟩)] (eps_cons rfl (eps_cons rfl (eps_cons rfl (eps_cons rfl eps_nil)))) rfl rfl rfl (by decide) rfl (by simp [Value.cells, Rp.sz]) ⟨_, _, rfl, rfl, ⟨_, _, rfl, rfl, ⟨_, _, rfl, rfl, ⟨_, _, rfl, rfl, rfl⟩⟩⟩⟩ ?_
 intro s4 A5 c6 k7 ho8
 have E9 := E0.x k7
 refine r_move (.pointer (some ⟨b0, 0, none⟩)) rfl rfl ?_
 obtain ⟨_, ab, hf⟩ := bind_some hf
 refine r_callE [.pointer (some ⟨b0, 0, none⟩), iv 4] (evs2 rfl rfl) rfl (ok_semtypebase_Source_Next _ _ _ _ _ _ _ _ _ (Semtypebase_Source.cells_iff.2 ⟨_, _, rfl, (h3.mono k7.wext)⟩) (hb0.ext k7) hid0 (RpV.mkInt _ _) ab) ?_
 intro _ _ aa ac
 obtain ⟨ad, _, ae, af⟩ := ac
 have ag := E9.z aa
 obtain ⟨_, _, rfl, ah⟩ := Semtypebase_Source.cells_iff.1 ae
 obtain rfl := RpV.int ad
 obtain ⟨x24, ai, hf⟩ := bind_some hf
 refine r_indexAddr (T := 25) (E := 9) (ho8.mod aa (beq_false (by omega))).sl ai rfl rfl rfl rfl underlying25 sz9 ?_
 intro aj ak _ al am
 obtain rfl := al
 refine r_load aj ak (tv x24) rfl rfl (loads_one to9 (am.2 0 _ rfl)) ?_
 refine r_assign (tv x24) rfl rfl ?_
 refine j0 (j1 (jb ?_))
 obtain rfl := oi hf
 refine ret_oneE (tv x24) rfl ⟨rfl, rfl⟩ ag.mod_ ?_
 exact ⟨(RpV.mkStr _ _), _, (Semtypebase_Source.cells_iff.2 ⟨_, _, rfl, ah⟩), af⟩

def S_semtyperef1_Pid (f : (Int → Option Val)) : Prop := ∀ (s0 : S) (v0 : Value) (a0 : Int) (r : Val), RpV s0 a0 v0 → f a0 = some r → Ctr Go.Proofs.Try.prog 92 [v0] s0 (fun v τ => RpV τ r v)

theorem ok_semtyperef1_Pid : S_semtyperef1_Pid semtyperef1_Pid := by
 intro s0 v0 a0 r hp0 hf
 obtain rfl := RpV.int hp0
 unfold semtyperef1_Pid at hf
 have E0 : ExtB s0.N s0 s0 := ExtB.refl _ _
 refine ctr_of 5 func92 rfl rfl rfl rfl ?_
 refine j2 (j3 ?_)
 refine r_alloc (B := s0.N) 1 E0.size _ [iv 0, iv 0, tv (⟨#[]⟩), nl Val, nl Key, nl Ent, nl ByteArray] ti27 rfl ?_
 intro s2 b1 k3 hb4
 have E5 := E0.x k3
 refine j0 (j1 (j2 (j3 ?_)))
 refine r_move (iv a0) rfl rfl ?_
 refine r_build tst27 [(0, iv 4), (1, iv a0)] [iv 4, iv a0, tv (⟨#[]⟩), nl Val, nl Key, nl Ent, nl ByteArray] (eps_cons rfl (eps_cons rfl eps_nil)) rfl rfl ?_
 refine r_store hb4 0 (.agg #[iv 4, iv a0, tv (⟨#[]⟩), nl Val, nl Key, nl Ent, nl ByteArray]) [iv 4, iv a0, tv (⟨#[]⟩), nl Val, nl Key, nl Ent, nl ByteArray] [iv 4, iv a0, tv (⟨#[]⟩), nl Val, nl Key, nl Ent, nl ByteArray] rfl rfl rfl rfl rfl sz27 rfl rfl rfl ?_
 intro s6 hm7 hb8
 have E9 := E5.y hm7
 refine j0 (j1 (jb ?_))
 obtain rfl := oi hf
 refine ret_one (.agg #[iv 4, iv a0, tv (⟨#[]⟩), nl Val, nl Key, nl Ent, nl ByteArray]) rfl ⟨rfl, _, rfl, loads_row tr27 (Blk.range hb8 0 [iv 4, iv a0, tv (⟨#[]⟩), nl Val, nl Key, nl Ent, nl ByteArray] rfl)⟩ E9 ?_
 exact (Val.rpvMk (v := (Val.mk 4 a0 (⟨#[]⟩) ([] : List Val) ([] : List Key) ([] : List Ent) ([] : List ByteArray))) (Sl.nil_ _ _ _ (Nat.zero_le _)) (Sl.nil_ _ _ _ (Nat.zero_le _)) (Sl.nil_ _ _ _ (Nat.zero_le _)) (Sl.nil_ _ _ _ (Nat.zero_le _)))

def S_semtypebase_Source_leaf (f : (Semtypebase_Source → Option (Val × Semtypebase_Source))) : Prop := ∀ (s0 : S) (B0 id0 b0 : Nat) (cs0 : List Value) (a0 : Semtypebase_Source) (r : (Val × Semtypebase_Source)), Rp.cells s0 a0 cs0 → Blk B0 id0 s0 b0 53 cs0 → 1000000 ≤ id0 → f a0 = some r → CtrE Go.Proofs.Try.prog 71 [.pointer (some ⟨b0, 0, none⟩)] s0 (Mod B0 id0 s0) (fun v τ => RpV τ r.1 v ∧ PtrR B0 id0 53 τ r.2 b0)

theorem ok_semtypebase_Source_leaf : S_semtypebase_Source_leaf semtypebase_Source_leaf := by
 intro s0 B0 id0 b0 cs0 a0 r hc0 hb0 hid0 hf
 obtain ⟨A1, c2, rfl, h3⟩ := Semtypebase_Source.cells_iff.1 hc0
 unfold semtypebase_Source_leaf at hf
 have E0 : ExtP s0.N B0 id0 s0 s0 := ExtP.refl _ _ _ _
 refine ctr_ofE 29 func71 rfl rfl rfl rfl ?_
 refine j2 (j3 ?_)
 refine r_alloc (B := s0.N) 1 E0.size _ [iv 0, iv 0, tv (⟨#[]⟩), nl Val, nl Key, nl Ent, nl ByteArray] ti27 rfl ?_
 intro s5 b4 k6 hb7
 have E8 := E0.x k6
 refine j0 (j1 (j2 (j2 (j3 ?_))))
 refine r_move (.pointer (some ⟨b0, 0, none⟩)) rfl rfl ?_
 obtain ⟨r9, bt, hf⟩ := bind_some hf
 refine r_callE [.pointer (some ⟨b0, 0, none⟩), iv 6] (evs2 rfl rfl) rfl (ok_semtypebase_Source_Next _ _ _ _ _ _ _ _ _ (Semtypebase_Source.cells_iff.2 ⟨_, _, rfl, (h3.mono k6.wext)⟩) (hb0.ext k6) hid0 (RpV.mkInt _ _) bt) ?_
 intro _ _ aa bu
 obtain ⟨bw, _, bx, ah⟩ := bu
 have ai := E8.z aa
 obtain ⟨_, _, rfl, aj⟩ := Semtypebase_Source.cells_iff.1 bx
 obtain rfl := RpV.int bw
 refine j0 (j1 (j4 (j2 (j3 ?_))))
 refine r_bin (iv r9.1) (iv 0) (bv (r9.1 == 0)) rfl rfl rfl rfl (b_eql) ?_
 refine r_assign (bv (r9.1 == 0)) rfl rfl ?_
 refine j0 (j1 ?_)
 refine if_else hf (fun bk hf => ?_) (fun bk hf => ?_)
 ·refine c_true rfl bk rfl ?_
  refine j2 (j3 ?_)
  refine r_move (.pointer (some ⟨b0, 0, none⟩)) rfl rfl ?_
  obtain ⟨bz, bA, hf⟩ := bind_some hf
  refine r_callE [.pointer (some ⟨b0, 0, none⟩)] (evs1 rfl) rfl (ok_semtypebase_Source_Number _ _ _ _ _ _ _ (Semtypebase_Source.cells_iff.2 ⟨_, _, rfl, aj⟩) ah hid0  bA) ?_
  intro _ _ bp bB
  obtain ⟨bC, _, bD, bE⟩ := bB
  have bF := ai.z bp
  obtain ⟨_, _, rfl, bG⟩ := Semtypebase_Source.cells_iff.1 bD
  obtain rfl := RpV.int bC
  obtain ⟨ak, bH, hf⟩ := bind_some hf
  refine r_call [iv bz.1] (evs1 rfl) rfl (ok_semtyperef1_Int _ _ _ _ (RpV.mkInt _ _) bH) ?_
  intro _ _ be bI
  have bJ := bF.x be
  obtain ⟨aq, ar, au, av, aw, ax, ay, az, rfl, bK, bL, bM, bN⟩ := Val.rpv bI
  refine r_store (((hb7.mod aa (beq_false (by omega))).mod bp (beq_false (by omega))).ext be) 0 (Val.ag ak aq ar au av aw ax ay az) (Val.cs ak aq ar au av aw ax ay az) (Val.cs ak aq ar au av aw ax ay az) rfl rfl rfl rfl rfl sz27 rfl rfl rfl ?_
  intro _ ab bO
  have bP := bJ.y ab
  refine j0 (j1 (jb (j7 (j9 ?_))))
  obtain rfl := oi hf
  refine ret_oneE (Val.ag ak aq ar au av aw ax ay az) rfl ⟨rfl, _, rfl, loads_row tr27 (Blk.range bO 0 (Val.cs ak aq ar au av aw ax ay az) rfl)⟩ bP.mod_ ?_
  exact ⟨(Val.rpvMk (v := ak) (bK.mono ab.wext) (bL.mono ab.wext) (bM.mono ab.wext) (bN.mono ab.wext)), _, (Semtypebase_Source.cells_iff.2 ⟨_, _, rfl, ((bG.mono be.wext).mono ab.wext)⟩), ((bE.ext be).mod ab (beq_false (by omega)))⟩
 refine c_false rfl bk rfl ?_
 refine j2 (j3 ?_)
 refine r_bin (iv r9.1) (iv 1) (bv (r9.1 == 1)) rfl rfl rfl rfl (b_eql) ?_
 refine r_assign (bv (r9.1 == 1)) rfl rfl ?_
 refine j0 (j1 ?_)
 refine if_else hf (fun bl hf => ?_) (fun bl hf => ?_)
 ·refine c_true rfl bl rfl ?_
  refine j2 (j3 ?_)
  refine r_move (.pointer (some ⟨b0, 0, none⟩)) rfl rfl ?_
  obtain ⟨bQ, bR, hf⟩ := bind_some hf
  refine r_callE [.pointer (some ⟨b0, 0, none⟩)] (evs1 rfl) rfl (ok_semtypebase_Source_AtomName _ _ _ _ _ _ _ (Semtypebase_Source.cells_iff.2 ⟨_, _, rfl, aj⟩) ah hid0  bR) ?_
  intro _ _ bq bS
  obtain ⟨bT, _, bU, bV⟩ := bS
  have bW := ai.z bq
  obtain ⟨_, _, rfl, bX⟩ := Semtypebase_Source.cells_iff.1 bU
  obtain rfl := RpV.str bT
  obtain ⟨al, bY, hf⟩ := bind_some hf
  refine r_call [tv bQ.1] (evs1 rfl) rfl (ok_semtyperef1_Atom _ _ _ _ (RpV.mkStr _ _) bY) ?_
  intro _ _ bf bZ
  have b1 := bW.x bf
  obtain ⟨aA, aB, aC, aD, aE, aF, aG, aH, rfl, b2, b3, b5, b6⟩ := Val.rpv bZ
  refine r_store (((hb7.mod aa (beq_false (by omega))).mod bq (beq_false (by omega))).ext bf) 0 (Val.ag al aA aB aC aD aE aF aG aH) (Val.cs al aA aB aC aD aE aF aG aH) (Val.cs al aA aB aC aD aE aF aG aH) rfl rfl rfl rfl rfl sz27 rfl rfl rfl ?_
  intro _ ac b7
  have b8 := b1.y ac
  refine j0 (j1 (jb (j7 (j9 ?_))))
  obtain rfl := oi hf
  refine ret_oneE (Val.ag al aA aB aC aD aE aF aG aH) rfl ⟨rfl, _, rfl, loads_row tr27 (Blk.range b7 0 (Val.cs al aA aB aC aD aE aF aG aH) rfl)⟩ b8.mod_ ?_
  exact ⟨(Val.rpvMk (v := al) (b2.mono ac.wext) (b3.mono ac.wext) (b5.mono ac.wext) (b6.mono ac.wext)), _, (Semtypebase_Source.cells_iff.2 ⟨_, _, rfl, ((bX.mono bf.wext).mono ac.wext)⟩), ((bV.ext bf).mod ac (beq_false (by omega)))⟩
 refine c_false rfl bl rfl ?_
 refine j2 (j3 ?_)
 refine r_bin (iv r9.1) (iv 2) (bv (r9.1 == 2)) rfl rfl rfl rfl (b_eql) ?_
 refine r_assign (bv (r9.1 == 2)) rfl rfl ?_
 refine j0 (j1 ?_)
 refine if_else hf (fun bm hf => ?_) (fun bm hf => ?_)
 ·refine c_true rfl bm rfl ?_
  refine j2 (j3 ?_)
  refine r_move (.pointer (some ⟨b0, 0, none⟩)) rfl rfl ?_
  obtain ⟨b9, ca, hf⟩ := bind_some hf
  refine r_callE [.pointer (some ⟨b0, 0, none⟩)] (evs1 rfl) rfl (ok_semtypebase_Source_Word _ _ _ _ _ _ _ (Semtypebase_Source.cells_iff.2 ⟨_, _, rfl, aj⟩) ah hid0  ca) ?_
  intro _ _ br cb
  obtain ⟨cc, _, cd, ce⟩ := cb
  have cf := ai.z br
  obtain ⟨_, _, rfl, cg⟩ := Semtypebase_Source.cells_iff.1 cd
  obtain rfl := RpV.str cc
  obtain ⟨am, ch, hf⟩ := bind_some hf
  refine r_call [tv b9.1] (evs1 rfl) rfl (ok_semtyperef1_String _ _ _ _ (RpV.mkStr _ _) ch) ?_
  intro _ _ bg ci
  have cj := cf.x bg
  obtain ⟨aI, aJ, aK, aL, aM, aN, aO, aP, rfl, ck, cl, cm, cn⟩ := Val.rpv ci
  refine r_store (((hb7.mod aa (beq_false (by omega))).mod br (beq_false (by omega))).ext bg) 0 (Val.ag am aI aJ aK aL aM aN aO aP) (Val.cs am aI aJ aK aL aM aN aO aP) (Val.cs am aI aJ aK aL aM aN aO aP) rfl rfl rfl rfl rfl sz27 rfl rfl rfl ?_
  intro _ ad co
  have cp := cj.y ad
  refine j0 (j1 (jb (j7 (j9 ?_))))
  obtain rfl := oi hf
  refine ret_oneE (Val.ag am aI aJ aK aL aM aN aO aP) rfl ⟨rfl, _, rfl, loads_row tr27 (Blk.range co 0 (Val.cs am aI aJ aK aL aM aN aO aP) rfl)⟩ cp.mod_ ?_
  exact ⟨(Val.rpvMk (v := am) (ck.mono ad.wext) (cl.mono ad.wext) (cm.mono ad.wext) (cn.mono ad.wext)), _, (Semtypebase_Source.cells_iff.2 ⟨_, _, rfl, ((cg.mono bg.wext).mono ad.wext)⟩), ((ce.ext bg).mod ad (beq_false (by omega)))⟩
 refine c_false rfl bm rfl ?_
 refine j2 (j3 ?_)
 refine r_bin (iv r9.1) (iv 3) (bv (r9.1 == 3)) rfl rfl rfl rfl (b_eql) ?_
 refine r_assign (bv (r9.1 == 3)) rfl rfl ?_
 refine j0 (j1 ?_)
 refine if_else hf (fun bn hf => ?_) (fun bn hf => ?_)
 ·refine c_true rfl bn rfl ?_
  refine j2 (j3 ?_)
  refine r_move (.pointer (some ⟨b0, 0, none⟩)) rfl rfl ?_
  obtain ⟨cq, cr, hf⟩ := bind_some hf
  refine r_callE [.pointer (some ⟨b0, 0, none⟩), iv 3] (evs2 rfl rfl) rfl (ok_semtypebase_Source_Next _ _ _ _ _ _ _ _ _ (Semtypebase_Source.cells_iff.2 ⟨_, _, rfl, aj⟩) ah hid0 (RpV.mkInt _ _) cr) ?_
  intro _ _ bs cs
  obtain ⟨ct, _, cu, cv⟩ := cs
  have cw := ai.z bs
  obtain ⟨_, _, rfl, cx⟩ := Semtypebase_Source.cells_iff.1 cu
  obtain rfl := RpV.int ct
  obtain ⟨an, cy, hf⟩ := bind_some hf
  refine r_call [iv cq.1] (evs1 rfl) rfl (ok_semtyperef1_Pid _ _ _ _ (RpV.mkInt _ _) cy) ?_
  intro _ _ bh cz
  have cA := cw.x bh
  obtain ⟨aQ, aR, aS, aT, aU, aV, aW, aX, rfl, cB, cC, cD, cE⟩ := Val.rpv cz
  refine r_store (((hb7.mod aa (beq_false (by omega))).mod bs (beq_false (by omega))).ext bh) 0 (Val.ag an aQ aR aS aT aU aV aW aX) (Val.cs an aQ aR aS aT aU aV aW aX) (Val.cs an aQ aR aS aT aU aV aW aX) rfl rfl rfl rfl rfl sz27 rfl rfl rfl ?_
  intro _ ae cF
  have cG := cA.y ae
  refine j0 (j1 (jb (j7 (j9 ?_))))
  obtain rfl := oi hf
  refine ret_oneE (Val.ag an aQ aR aS aT aU aV aW aX) rfl ⟨rfl, _, rfl, loads_row tr27 (Blk.range cF 0 (Val.cs an aQ aR aS aT aU aV aW aX) rfl)⟩ cG.mod_ ?_
  exact ⟨(Val.rpvMk (v := an) (cB.mono ae.wext) (cC.mono ae.wext) (cD.mono ae.wext) (cE.mono ae.wext)), _, (Semtypebase_Source.cells_iff.2 ⟨_, _, rfl, ((cx.mono bh.wext).mono ae.wext)⟩), ((cv.ext bh).mod ae (beq_false (by omega)))⟩
 refine c_false rfl bn rfl ?_
 refine j2 (j3 ?_)
 refine r_bin (iv r9.1) (iv 4) (bv (r9.1 == 4)) rfl rfl rfl rfl (b_eql) ?_
 refine r_assign (bv (r9.1 == 4)) rfl rfl ?_
 refine j0 (j1 ?_)
 refine if_else hf (fun bo hf => ?_) (fun bo hf => ?_)
 ·refine c_true rfl bo rfl ?_
  refine j2 (j3 ?_)
  obtain ⟨ao, cH, hf⟩ := bind_some hf
  refine r_call [] evs0 rfl (ok_semtyperef1_Nil _ _  cH) ?_
  intro _ _ bi cI
  have cJ := ai.x bi
  obtain ⟨aY, aZ, a0, a1, a2, a3, a4, a5, rfl, cK, cL, cM, cN⟩ := Val.rpv cI
  refine r_store ((hb7.mod aa (beq_false (by omega))).ext bi) 0 (Val.ag ao aY aZ a0 a1 a2 a3 a4 a5) (Val.cs ao aY aZ a0 a1 a2 a3 a4 a5) (Val.cs ao aY aZ a0 a1 a2 a3 a4 a5) rfl rfl rfl rfl rfl sz27 rfl rfl rfl ?_
  intro _ af cO
  have cP := cJ.y af
  refine j0 (j1 (jb (j7 (j9 ?_))))
  obtain rfl := oi hf
  refine ret_oneE (Val.ag ao aY aZ a0 a1 a2 a3 a4 a5) rfl ⟨rfl, _, rfl, loads_row tr27 (Blk.range cO 0 (Val.cs ao aY aZ a0 a1 a2 a3 a4 a5) rfl)⟩ cP.mod_ ?_
  exact ⟨(Val.rpvMk (v := ao) (cK.mono af.wext) (cL.mono af.wext) (cM.mono af.wext) (cN.mono af.wext)), _, (Semtypebase_Source.cells_iff.2 ⟨_, _, rfl, ((aj.mono bi.wext).mono af.wext)⟩), ((ah.ext bi).mod af (beq_false (by omega)))⟩
 refine c_false rfl bo rfl ?_
 refine ja (j5 (j1 (j2 (j3 ?_))))
 obtain ⟨ap, cQ, hf⟩ := bind_some hf
 refine r_call [nl Val] (evs1 rfl) rfl (ok_semtyperef1_Tuple _ _ _ _ (RpV.mkList (Sl.nil_ _ _ _ (Nat.zero_le _))) cQ) ?_
 intro _ _ bj cR
 have cS := ai.x bj
 obtain ⟨a6, a7, a8, a9, ba, bb, bc, bd, rfl, cT, cU, cV, cW⟩ := Val.rpv cR
 refine r_store ((hb7.mod aa (beq_false (by omega))).ext bj) 0 (Val.ag ap a6 a7 a8 a9 ba bb bc bd) (Val.cs ap a6 a7 a8 a9 ba bb bc bd) (Val.cs ap a6 a7 a8 a9 ba bb bc bd) rfl rfl rfl rfl rfl sz27 rfl rfl rfl ?_
 intro _ ag cX
 have cY := cS.y ag
 refine j0 (j1 (jb ?_))
 obtain rfl := oi hf
 refine ret_oneE (Val.ag ap a6 a7 a8 a9 ba bb bc bd) rfl ⟨rfl, _, rfl, loads_row tr27 (Blk.range cX 0 (Val.cs ap a6 a7 a8 a9 ba bb bc bd) rfl)⟩ cY.mod_ ?_
 exact ⟨(Val.rpvMk (v := ap) (cT.mono ag.wext) (cU.mono ag.wext) (cV.mono ag.wext) (cW.mono ag.wext)), _, (Semtypebase_Source.cells_iff.2 ⟨_, _, rfl, ((aj.mono bj.wext).mono ag.wext)⟩), ((ah.ext bj).mod ag (beq_false (by omega)))⟩

def S_semtypebase_Source_Key (f : (Semtypebase_Source → Option (Key × Semtypebase_Source))) : Prop := ∀ (s0 : S) (B0 id0 b0 : Nat) (cs0 : List Value) (a0 : Semtypebase_Source) (r : (Key × Semtypebase_Source)), Rp.cells s0 a0 cs0 → Blk B0 id0 s0 b0 53 cs0 → 1000000 ≤ id0 → f a0 = some r → CtrE Go.Proofs.Try.prog 74 [.pointer (some ⟨b0, 0, none⟩)] s0 (Mod B0 id0 s0) (fun v τ => RpV τ r.1 v ∧ PtrR B0 id0 53 τ r.2 b0)

theorem ok_semtypebase_Source_Key : S_semtypebase_Source_Key semtypebase_Source_Key := by
 intro s0 B0 id0 b0 cs0 a0 r hc0 hb0 hid0 hf
 obtain ⟨A1, c2, rfl, h3⟩ := Semtypebase_Source.cells_iff.1 hc0
 unfold semtypebase_Source_Key at hf
 have E0 : ExtP s0.N B0 id0 s0 s0 := ExtP.refl _ _ _ _
 refine ctr_ofE 12 func74 rfl rfl rfl rfl ?_
 refine j2 (j3 ?_)
 refine r_alloc (B := s0.N) 1 E0.size _ [iv 0, tv (⟨#[]⟩)] ti60 rfl ?_
 intro s5 b4 k6 hb7
 have E8 := E0.x k6
 refine j0 (j1 (j2 (j2 (j3 ?_))))
 refine r_move (.pointer (some ⟨b0, 0, none⟩)) rfl rfl ?_
 obtain ⟨r9, al, hf⟩ := bind_some hf
 refine r_callE [.pointer (some ⟨b0, 0, none⟩), iv 2] (evs2 rfl rfl) rfl (ok_semtypebase_Source_Next _ _ _ _ _ _ _ _ _ (Semtypebase_Source.cells_iff.2 ⟨_, _, rfl, (h3.mono k6.wext)⟩) (hb0.ext k6) hid0 (RpV.mkInt _ _) al) ?_
 intro _ _ ac am
 obtain ⟨an, _, ao, ag⟩ := am
 have ah := E8.z ac
 obtain ⟨_, _, rfl, ai⟩ := Semtypebase_Source.cells_iff.1 ao
 obtain rfl := RpV.int an
 refine r_bin (iv r9.1) (iv 0) (bv (r9.1 == 0)) rfl rfl rfl rfl (b_eql) ?_
 refine j0 (j1 ?_)
 refine if_else hf (fun ad hf => ?_) (fun ad hf => ?_)
 ·refine c_true rfl ad rfl ?_
  refine j2 (j3 ?_)
  refine r_move (.pointer (some ⟨b0, 0, none⟩)) rfl rfl ?_
  obtain ⟨aa, ap, hf⟩ := bind_some hf
  refine r_callE [.pointer (some ⟨b0, 0, none⟩)] (evs1 rfl) rfl (ok_semtypebase_Source_AtomName _ _ _ _ _ _ _ (Semtypebase_Source.cells_iff.2 ⟨_, _, rfl, ai⟩) ag hid0  ap) ?_
  intro _ _ aj aq
  obtain ⟨ar, _, au, av⟩ := aq
  have aw := ah.z aj
  obtain ⟨_, _, rfl, ax⟩ := Semtypebase_Source.cells_iff.1 au
  obtain rfl := RpV.str ar
  refine r_build tst60 [(0, iv 0), (1, tv aa.1)] [iv 0, tv aa.1] (eps_cons rfl (eps_cons rfl eps_nil)) rfl rfl ?_
  refine r_store ((hb7.mod ac (beq_false (by omega))).mod aj (beq_false (by omega))) 0 (.agg #[iv 0, tv aa.1]) [iv 0, tv aa.1] [iv 0, tv aa.1] rfl rfl rfl rfl rfl sz60 rfl rfl rfl ?_
  intro _ ae ay
  have az := aw.y ae
  refine j0 (j1 (jb (j9 ?_)))
  obtain rfl := oi hf
  refine ret_oneE (.agg #[iv 0, tv aa.1]) rfl ⟨rfl, _, rfl, loads_row tr60 (Blk.range ay 0 [iv 0, tv aa.1] rfl)⟩ az.mod_ ?_
  exact ⟨(Key.rpvMk (v := (Key.mk 0 aa.1)) ), _, (Semtypebase_Source.cells_iff.2 ⟨_, _, rfl, (ax.mono ae.wext)⟩), (av.mod ae (beq_false (by omega)))⟩
 refine c_false rfl ad rfl ?_
 refine ja (j1 (j2 (j3 ?_)))
 refine r_move (.pointer (some ⟨b0, 0, none⟩)) rfl rfl ?_
 obtain ⟨ab, aA, hf⟩ := bind_some hf
 refine r_callE [.pointer (some ⟨b0, 0, none⟩)] (evs1 rfl) rfl (ok_semtypebase_Source_Word _ _ _ _ _ _ _ (Semtypebase_Source.cells_iff.2 ⟨_, _, rfl, ai⟩) ag hid0  aA) ?_
 intro _ _ ak aB
 obtain ⟨aC, _, aD, aE⟩ := aB
 have aF := ah.z ak
 obtain ⟨_, _, rfl, aG⟩ := Semtypebase_Source.cells_iff.1 aD
 obtain rfl := RpV.str aC
 refine r_build tst60 [(0, iv 1), (1, tv ab.1)] [iv 1, tv ab.1] (eps_cons rfl (eps_cons rfl eps_nil)) rfl rfl ?_
 refine r_store ((hb7.mod ac (beq_false (by omega))).mod ak (beq_false (by omega))) 0 (.agg #[iv 1, tv ab.1]) [iv 1, tv ab.1] [iv 1, tv ab.1] rfl rfl rfl rfl rfl sz60 rfl rfl rfl ?_
 intro _ af aH
 have aI := aF.y af
 refine j0 (j1 (jb ?_))
 obtain rfl := oi hf
 refine ret_oneE (.agg #[iv 1, tv ab.1]) rfl ⟨rfl, _, rfl, loads_row tr60 (Blk.range aH 0 [iv 1, tv ab.1] rfl)⟩ aI.mod_ ?_
 exact ⟨(Key.rpvMk (v := (Key.mk 1 ab.1)) ), _, (Semtypebase_Source.cells_iff.2 ⟨_, _, rfl, (aG.mono af.wext)⟩), (aE.mod af (beq_false (by omega)))⟩

def S_semtyperef1_Order (f : (Int → Int → Option Int)) : Prop := ∀ (s0 : S) (v0 : Value) (v1 : Value) (a0 : Int) (a1 : Int) (r : Int), RpV s0 a0 v0 → RpV s0 a1 v1 → f a0 a1 = some r → Ctr Go.Proofs.Try.prog 47 [v0, v1] s0 (fun v τ => RpV τ r v)

theorem ok_semtyperef1_Order : S_semtyperef1_Order semtyperef1_Order := by
 intro s0 v0 v1 a0 a1 r hp0 hp1 hf
 obtain rfl := RpV.int hp0
 obtain rfl := RpV.int hp1
 unfold semtyperef1_Order at hf
 have E0 : ExtB s0.N s0 s0 := ExtB.refl _ _
 refine ctr_of 11 func47 rfl rfl rfl rfl ?_
 refine j2 (j3 ?_)
 refine r_assign (iv 0) rfl rfl ?_
 refine j0 (j1 (j2 (j2 (j3 ?_))))
 refine r_move (iv a0) rfl rfl ?_
 refine r_move (iv a1) rfl rfl ?_
 refine r_bin (iv a0) (iv a1) (bv (decide (a0 < a1))) rfl rfl rfl rfl (b_lss) ?_
 refine j0 (j1 ?_)
 refine if_else hf (fun hc1 hf => ?_) (fun hc1 hf => ?_)
 ·refine c_true rfl hc1 rfl ?_
  refine j2 (j3 ?_)
  refine r_assign (iv (-1)) rfl rfl ?_
  refine j0 (j1 (jb (j9 ?_)))
  obtain rfl := oi hf
  refine ret_one (iv (-1)) rfl ⟨rfl, rfl⟩ E0 ?_
  exact (RpV.mkInt _ _)
 refine c_false rfl hc1 rfl ?_
 refine ja (j1 (j2 (j2 (j3 ?_))))
 refine r_move (iv a0) rfl rfl ?_
 refine r_move (iv a1) rfl rfl ?_
 refine r_bin (iv a0) (iv a1) (bv (decide (a1 < a0))) rfl rfl rfl rfl (b_gtr) ?_
 refine j0 (j1 ?_)
 refine if_else hf (fun hc2 hf => ?_) (fun hc2 hf => ?_)
 ·refine c_true rfl hc2 rfl ?_
  refine j2 (j3 ?_)
  refine r_assign (iv 1) rfl rfl ?_
  refine j0 (j1 (jb (j9 ?_)))
  obtain rfl := oi hf
  refine ret_one (iv 1) rfl ⟨rfl, rfl⟩ E0 ?_
  exact (RpV.mkInt _ _)
 refine c_false rfl hc2 rfl ?_
 refine ja (j1 (j2 (j3 ?_)))
 refine r_assign (iv 0) rfl rfl ?_
 refine j0 (j1 (jb ?_))
 obtain rfl := oi hf
 refine ret_one (iv 0) rfl ⟨rfl, rfl⟩ E0 ?_
 exact (RpV.mkInt _ _)

def S_semtyperef1_Text (f : (ByteArray → ByteArray → Option Int)) : Prop := ∀ (s0 : S) (v0 : Value) (v1 : Value) (a0 : ByteArray) (a1 : ByteArray) (r : Int), RpV s0 a0 v0 → RpV s0 a1 v1 → f a0 a1 = some r → Ctr Go.Proofs.Try.prog 48 [v0, v1] s0 (fun v τ => RpV τ r v)

theorem ok_semtyperef1_Text : S_semtyperef1_Text semtyperef1_Text := by
 intro s0 v0 v1 a0 a1 r hp0 hp1 hf
 obtain rfl := RpV.str hp0
 obtain rfl := RpV.str hp1
 unfold semtyperef1_Text at hf
 have E0 : ExtB s0.N s0 s0 := ExtB.refl _ _
 refine ctr_of 11 func48 rfl rfl rfl rfl ?_
 refine j2 (j3 ?_)
 refine r_assign (iv 0) rfl rfl ?_
 refine j0 (j1 (j2 (j2 (j3 ?_))))
 refine r_move (tv a0) rfl rfl ?_
 refine r_move (tv a1) rfl rfl ?_
 refine r_bin (tv a0) (tv a1) (bv (strLt a0 a1)) rfl rfl rfl rfl (b_slss) ?_
 refine j0 (j1 ?_)
 refine if_else hf (fun hc1 hf => ?_) (fun hc1 hf => ?_)
 ·refine c_true rfl hc1 rfl ?_
  refine j2 (j3 ?_)
  refine r_assign (iv (-1)) rfl rfl ?_
  refine j0 (j1 (jb (j9 ?_)))
  obtain rfl := oi hf
  refine ret_one (iv (-1)) rfl ⟨rfl, rfl⟩ E0 ?_
  exact (RpV.mkInt _ _)
 refine c_false rfl hc1 rfl ?_
 refine ja (j1 (j2 (j2 (j3 ?_))))
 refine r_move (tv a0) rfl rfl ?_
 refine r_move (tv a1) rfl rfl ?_
 refine r_bin (tv a0) (tv a1) (bv (!(strLt a0 a1 || strEq a0 a1))) rfl rfl rfl rfl (b_sgtr) ?_
 refine j0 (j1 ?_)
 refine if_else hf (fun hc2 hf => ?_) (fun hc2 hf => ?_)
 ·refine c_true rfl hc2 rfl ?_
  refine j2 (j3 ?_)
  refine r_assign (iv 1) rfl rfl ?_
  refine j0 (j1 (jb (j9 ?_)))
  obtain rfl := oi hf
  refine ret_one (iv 1) rfl ⟨rfl, rfl⟩ E0 ?_
  exact (RpV.mkInt _ _)
 refine c_false rfl hc2 rfl ?_
 refine ja (j1 (j2 (j3 ?_)))
 refine r_assign (iv 0) rfl rfl ?_
 refine j0 (j1 (jb ?_))
 obtain rfl := oi hf
 refine ret_one (iv 0) rfl ⟨rfl, rfl⟩ E0 ?_
 exact (RpV.mkInt _ _)

def S_semtyperef1_CompareKeys (f : (Key → Key → Option Int)) : Prop := ∀ (s0 : S) (v0 : Value) (v1 : Value) (a0 : Key) (a1 : Key) (r : Int), RpV s0 a0 v0 → RpV s0 a1 v1 → f a0 a1 = some r → Ctr Go.Proofs.Try.prog 49 [v0, v1] s0 (fun v τ => RpV τ r v)

theorem ok_semtyperef1_CompareKeys : S_semtyperef1_CompareKeys semtyperef1_CompareKeys := by
 intro s0 v0 v1 a0 a1 r hp0 hp1 hf
 obtain rfl := Key.rpv hp0
 obtain rfl := Key.rpv hp1
 unfold semtyperef1_CompareKeys at hf
 have E0 : ExtB s0.N s0 s0 := ExtB.refl _ _
 refine ctr_of 20 func49 rfl rfl rfl rfl ?_
 refine j2 (j3 ?_)
 refine r_box (B := s0.N) 1 E0.size (Key.ag a0) (Key.cs a0) rfl rfl rfl ?_
 intro s2 b1 k3 hb4
 have E5 := E0.x k3
 refine r_box (B := s0.N) 2 E5.size (Key.ag a1) (Key.cs a1) rfl rfl rfl ?_
 intro s7 b6 k8 hb9
 have ab := E5.x k8
 refine r_assign (iv 0) rfl rfl ?_
 refine j0 (j1 (j2 (j2 (j3 ?_))))
 refine r_fieldAddr b1 0 0 0 rfl rfl fo60_0 rfl ?_
 refine r_load b1 0 (iv a0.Kind) rfl rfl (loads_one to3 (((hb4.ext k8).cell 0).trans rfl)) ?_
 refine r_fieldAddr b6 0 0 0 rfl rfl fo60_0 rfl ?_
 refine r_load b6 0 (iv a1.Kind) rfl rfl (loads_one to3 ((hb9.cell 0).trans rfl)) ?_
 refine r_bin (iv a0.Kind) (iv a1.Kind) (bv (a0.Kind != a1.Kind)) rfl rfl rfl rfl (b_neq) ?_
 refine j0 (j1 ?_)
 refine if_else hf (fun aa hf => ?_) (fun aa hf => ?_)
 ·refine c_true rfl aa rfl ?_
  refine j2 (j3 ?_)
  refine r_fieldAddr b1 0 0 0 rfl rfl fo60_0 rfl ?_
  refine r_load b1 0 (iv a0.Kind) rfl rfl (loads_one to3 (((hb4.ext k8).cell 0).trans rfl)) ?_
  refine r_fieldAddr b6 0 0 0 rfl rfl fo60_0 rfl ?_
  refine r_load b6 0 (iv a1.Kind) rfl rfl (loads_one to3 ((hb9.cell 0).trans rfl)) ?_
  obtain ⟨ac, ae, hf⟩ := bind_some hf
  refine r_call [iv a0.Kind, iv a1.Kind] (evs2 rfl rfl) rfl (ok_semtyperef1_Order _ _ _ _ _ _ (RpV.mkInt _ _) (RpV.mkInt _ _) ae) ?_
  intro _ _ af ag
  have ah := ab.x af
  obtain rfl := RpV.int ag
  refine r_assign (iv ac) rfl rfl ?_
  refine j0 (j1 (jb (j9 ?_)))
  obtain rfl := oi hf
  refine ret_one (iv ac) rfl ⟨rfl, rfl⟩ ah ?_
  exact (RpV.mkInt _ _)
 refine c_false rfl aa rfl ?_
 refine ja (j1 (j2 (j3 ?_)))
 refine r_fieldAddr b1 0 1 1 rfl rfl fo60_1 rfl ?_
 refine r_load b1 1 (tv a0.Text) rfl rfl (loads_one to9 (((hb4.ext k8).cell 1).trans rfl)) ?_
 refine r_fieldAddr b6 0 1 1 rfl rfl fo60_1 rfl ?_
 refine r_load b6 1 (tv a1.Text) rfl rfl (loads_one to9 ((hb9.cell 1).trans rfl)) ?_
 obtain ⟨ad, ai, hf⟩ := bind_some hf
 refine r_call [tv a0.Text, tv a1.Text] (evs2 rfl rfl) rfl (ok_semtyperef1_Text _ _ _ _ _ _ (RpV.mkStr _ _) (RpV.mkStr _ _) ai) ?_
 intro _ _ aj ak
 have al := ab.x aj
 obtain rfl := RpV.int ak
 refine r_assign (iv ad) rfl rfl ?_
 refine j0 (j1 (jb ?_))
 obtain rfl := oi hf
 refine ret_one (iv ad) rfl ⟨rfl, rfl⟩ al ?_
 exact (RpV.mkInt _ _)

def S_semtyperef1_lower (f : (UInt8 → Option Bool)) : Prop := ∀ (s0 : S) (v0 : Value) (a0 : UInt8) (r : Bool), RpV s0 a0 v0 → f a0 = some r → Ctr Go.Proofs.Try.prog 57 [v0] s0 (fun v τ => RpV τ r v)

theorem ok_semtyperef1_lower : S_semtyperef1_lower semtyperef1_lower := by
 intro s0 v0 a0 r hp0 hf
 obtain rfl := RpV.u8 hp0
 unfold semtyperef1_lower at hf
 have E0 : ExtB s0.N s0 s0 := ExtB.refl _ _
 refine ctr_of 9 func57 rfl rfl rfl rfl ?_
 refine j2 (j3 ?_)
 refine r_assign (bv false) rfl rfl ?_
 refine j0 (j1 (j2 (j3 ?_)))
 refine r_move (.int .u8 (a0.toNat : Int)) rfl rfl ?_
 refine r_bin (.int .u8 (a0.toNat : Int)) (.int .u8 97) (bv (decide (97 ≤ (a0.toNat : Int)))) rfl rfl rfl rfl (b_geq) ?_
 refine r_move (bv (decide (97 ≤ (a0.toNat : Int)))) rfl rfl ?_
 refine if_else hf (fun hc1 hf => ?_) (fun hc1 hf => ?_)
 ·refine r_guard (j := 2) (want := true) (d := 5) (c := decide (97 ≤ (a0.toNat : Int))) (v := true) rfl rfl hc1 rfl rfl ?_
  refine r_move (.int .u8 (a0.toNat : Int)) rfl rfl ?_
  refine r_guard (j := 2) (want := true) (d := 5) (c := decide (97 ≤ (a0.toNat : Int))) (v := true) rfl rfl hc1 rfl rfl ?_
  refine r_bin (.int .u8 (a0.toNat : Int)) (.int .u8 122) (bv (decide ((a0.toNat : Int) ≤ 122))) rfl rfl rfl rfl (b_leq) ?_
  refine r_pick_t (c := decide (97 ≤ (a0.toNat : Int))) (bv (decide ((a0.toNat : Int) ≤ 122))) rfl hc1 rfl rfl rfl rfl ?_
  refine r_assign (bv (decide ((a0.toNat : Int) ≤ 122))) rfl rfl ?_
  refine j0 (j1 (jb ?_))
  obtain rfl := oi hf
  refine ret_one (bv (decide ((a0.toNat : Int) ≤ 122))) rfl ⟨rfl, rfl⟩ E0 ?_
  exact (RpV.mkBool _ _)
 refine r_skip (j := 2) (want := true) (d := 5) (c := decide (97 ≤ (a0.toNat : Int))) (v := false) rfl rfl hc1 rfl rfl ?_
 refine r_skip (j := 2) (want := true) (d := 5) (c := decide (97 ≤ (a0.toNat : Int))) (v := false) rfl rfl hc1 rfl rfl ?_
 refine r_pick_f (c := decide (97 ≤ (a0.toNat : Int))) (bv false) rfl hc1 rfl rfl rfl rfl ?_
 refine r_assign (bv false) rfl rfl ?_
 refine j0 (j1 (jb ?_))
 obtain rfl := oi hf
 refine ret_one (bv false) rfl ⟨rfl, rfl⟩ E0 ?_
 exact (RpV.mkBool _ _)

def S_semtyperef1_digit (f : (UInt8 → Option Bool)) : Prop := ∀ (s0 : S) (v0 : Value) (a0 : UInt8) (r : Bool), RpV s0 a0 v0 → f a0 = some r → Ctr Go.Proofs.Try.prog 58 [v0] s0 (fun v τ => RpV τ r v)

theorem ok_semtyperef1_digit : S_semtyperef1_digit semtyperef1_digit := by
 intro s0 v0 a0 r hp0 hf
 obtain rfl := RpV.u8 hp0
 unfold semtyperef1_digit at hf
 have E0 : ExtB s0.N s0 s0 := ExtB.refl _ _
 refine ctr_of 9 func58 rfl rfl rfl rfl ?_
 refine j2 (j3 ?_)
 refine r_assign (bv false) rfl rfl ?_
 refine j0 (j1 (j2 (j3 ?_)))
 refine r_move (.int .u8 (a0.toNat : Int)) rfl rfl ?_
 refine r_bin (.int .u8 (a0.toNat : Int)) (.int .u8 48) (bv (decide (48 ≤ (a0.toNat : Int)))) rfl rfl rfl rfl (b_geq) ?_
 refine r_move (bv (decide (48 ≤ (a0.toNat : Int)))) rfl rfl ?_
 refine if_else hf (fun hc1 hf => ?_) (fun hc1 hf => ?_)
 ·refine r_guard (j := 2) (want := true) (d := 5) (c := decide (48 ≤ (a0.toNat : Int))) (v := true) rfl rfl hc1 rfl rfl ?_
  refine r_move (.int .u8 (a0.toNat : Int)) rfl rfl ?_
  refine r_guard (j := 2) (want := true) (d := 5) (c := decide (48 ≤ (a0.toNat : Int))) (v := true) rfl rfl hc1 rfl rfl ?_
  refine r_bin (.int .u8 (a0.toNat : Int)) (.int .u8 57) (bv (decide ((a0.toNat : Int) ≤ 57))) rfl rfl rfl rfl (b_leq) ?_
  refine r_pick_t (c := decide (48 ≤ (a0.toNat : Int))) (bv (decide ((a0.toNat : Int) ≤ 57))) rfl hc1 rfl rfl rfl rfl ?_
  refine r_assign (bv (decide ((a0.toNat : Int) ≤ 57))) rfl rfl ?_
  refine j0 (j1 (jb ?_))
  obtain rfl := oi hf
  refine ret_one (bv (decide ((a0.toNat : Int) ≤ 57))) rfl ⟨rfl, rfl⟩ E0 ?_
  exact (RpV.mkBool _ _)
 refine r_skip (j := 2) (want := true) (d := 5) (c := decide (48 ≤ (a0.toNat : Int))) (v := false) rfl rfl hc1 rfl rfl ?_
 refine r_skip (j := 2) (want := true) (d := 5) (c := decide (48 ≤ (a0.toNat : Int))) (v := false) rfl rfl hc1 rfl rfl ?_
 refine r_pick_f (c := decide (48 ≤ (a0.toNat : Int))) (bv false) rfl hc1 rfl rfl rfl rfl ?_
 refine r_assign (bv false) rfl rfl ?_
 refine j0 (j1 (jb ?_))
 obtain rfl := oi hf
 refine ret_one (bv false) rfl ⟨rfl, rfl⟩ E0 ?_
 exact (RpV.mkBool _ _)

def S_semtyperef1_IsAtom (f : (ByteArray → Option Bool)) : Prop := ∀ (s0 : S) (v0 : Value) (a0 : ByteArray) (r : Bool), RpV s0 a0 v0 → f a0 = some r → Ctr Go.Proofs.Try.prog 31 [v0] s0 (fun v τ => RpV τ r v)

theorem ok_semtyperef1_IsAtom : S_semtyperef1_IsAtom semtyperef1_IsAtom := by
 intro s0 v0 a0 r hp0 hf
 obtain rfl := RpV.str hp0
 unfold semtyperef1_IsAtom at hf
 have E0 : ExtB s0.N s0 s0 := ExtB.refl _ _
 refine ctr_of 42 func31 rfl rfl rfl rfl ?_
 refine j2 (j3 ?_)
 refine r_assign (bv false) rfl rfl ?_
 refine j0 (j1 (j2 (j2 (j3 ?_))))
 refine r_move (tv a0) rfl rfl ?_
 refine r_lenStr a0 rfl rfl underlying9 ?_
 refine r_bin (iv (a0.size : Int)) (iv 1) (bv (decide ((a0.size : Int) < 1))) rfl rfl rfl rfl (b_lss) ?_
 refine r_move (bv (decide ((a0.size : Int) < 1))) rfl rfl ?_
 refine gen_FL fun F1 hg2 => ?_
 have f3 : F1 0 = (tv a0) := (hg2 0).trans rfl
 have f5 : F1 7 = (bv (decide ((a0.size : Int) < 1))) := (hg2 7).trans rfl
 obtain ⟨q6, hq7, hf⟩ := bind_some hf
 refine wpl_take 4 (J := fun a w => ∃ (F : Fr) (τ : S), a = fr 42 F ∧ w = τ.w ∧ Agr [8, 9, 10, 11] F F1 ∧ ExtB s0.N s0 τ ∧ Wext s0 τ ∧ F 11 = (bv q6)) ?_ ?_
 ·have hf := hq7
  refine if_else hf (fun hc8 hf => ?_) (fun hc8 hf => ?_)
  ·refine r_skip (j := 3) (want := false) (d := 7) (c := decide ((a0.size : Int) < 1)) (v := true) rfl f5 hc8 rfl rfl ?_
   refine r_skip (j := 3) (want := false) (d := 7) (c := decide ((a0.size : Int) < 1)) (v := true) rfl f5 hc8 rfl rfl ?_
   refine r_skip (j := 3) (want := false) (d := 7) (c := decide ((a0.size : Int) < 1)) (v := true) rfl f5 hc8 rfl rfl ?_
   refine r_pick_t (c := decide ((a0.size : Int) < 1)) (bv true) f5 hc8 rfl rfl rfl rfl ?_
   refine j0 ?_
   obtain rfl := oi hf
   exact ⟨rfl, _, _, rfl, rfl, (((((Agr.refl _ _).put rfl).put rfl).put rfl).put rfl), E0, (Wext.refl _), rfl⟩
  refine r_guard (j := 3) (want := false) (d := 7) (c := decide ((a0.size : Int) < 1)) (v := false) rfl f5 hc8 rfl rfl ?_
  refine r_move (tv a0) f3 rfl ?_
  refine r_guard (j := 3) (want := false) (d := 7) (c := decide ((a0.size : Int) < 1)) (v := false) rfl f5 hc8 rfl rfl ?_
  refine r_lenStr a0 rfl rfl underlying9 ?_
  refine r_guard (j := 3) (want := false) (d := 7) (c := decide ((a0.size : Int) < 1)) (v := false) rfl f5 hc8 rfl rfl ?_
  refine r_bin (iv (a0.size : Int)) (iv 16) (bv (decide (16 < (a0.size : Int)))) rfl rfl rfl rfl (b_gtr) ?_
  refine r_pick_f (c := decide ((a0.size : Int) < 1)) (bv (decide (16 < (a0.size : Int)))) f5 hc8 rfl rfl rfl rfl ?_
  refine j0 ?_
  obtain rfl := oi hf
  exact ⟨rfl, _, _, rfl, rfl, (((((Agr.refl _ _).put rfl).put rfl).put rfl).put rfl), E0, (Wext.refl _), rfl⟩
 rintro a w ⟨F9, bb, rfl, rfl, aK, ay, bc, aL⟩
 have az := (aK 0 rfl).trans f3
 refine r_move (bv q6) aL rfl ?_
 refine if_else hf (fun af hf => ?_) (fun af hf => ?_)
 ·refine r_skip (j := 8) (want := false) (d := 12) (c := q6) (v := true) rfl rfl af rfl rfl ?_
  refine r_skip (j := 8) (want := false) (d := 12) (c := q6) (v := true) rfl rfl af rfl rfl ?_
  refine r_skip (j := 8) (want := false) (d := 12) (c := q6) (v := true) rfl rfl af rfl rfl ?_
  refine r_skip (j := 8) (want := false) (d := 12) (c := q6) (v := true) rfl rfl af rfl rfl ?_
  refine r_pick_t (c := q6) (bv true) rfl af rfl rfl rfl rfl ?_
  refine j0 (j1 ?_)
  refine c_true rfl rfl rfl ?_
  refine j2 (j3 ?_)
  refine r_assign (bv false) rfl rfl ?_
  refine j0 (j1 (jb (j9 ?_)))
  obtain rfl := oi hf
  refine ret_one (bv false) rfl ⟨rfl, rfl⟩ ay ?_
  exact (RpV.mkBool _ _)
 refine r_guard (j := 8) (want := false) (d := 12) (c := q6) (v := false) rfl rfl af rfl rfl ?_
 refine r_move (tv a0) az rfl ?_
 refine r_guard (j := 8) (want := false) (d := 12) (c := q6) (v := false) rfl rfl af rfl rfl ?_
 obtain ⟨x18, aM, hf⟩ := bind_some hf
 refine r_index (tv a0) (iv 0) (.int .u8 (x18.toNat : Int)) rfl rfl rfl rfl (ix_str underlying9 aM) ?_
 refine r_guard (j := 8) (want := false) (d := 12) (c := q6) (v := false) rfl rfl af rfl rfl ?_
 obtain ⟨al, aN, hf⟩ := bind_some hf
 refine r_call [.int .u8 (x18.toNat : Int)] (evs1 rfl) rfl (ok_semtyperef1_lower _ _ _ _ (RpV.mkU8 _ _) aN) ?_
 intro _ aA aO aP
 have aB := ay.x aO
 obtain rfl := RpV.bool aP
 refine r_guard (j := 8) (want := false) (d := 12) (c := q6) (v := false) rfl rfl af rfl rfl ?_
 refine r_un (bv al) (bv (!al)) rfl rfl u_not ?_
 refine r_pick_f (c := q6) (bv (!al)) rfl af rfl rfl rfl rfl ?_
 refine j0 (j1 ?_)
 refine if_else hf (fun am hf => ?_) (fun am hf => ?_)
 ·refine c_true rfl am rfl ?_
  refine j2 (j3 ?_)
  refine r_assign (bv false) rfl rfl ?_
  refine j0 (j1 (jb (j9 ?_)))
  obtain rfl := oi hf
  refine ret_one (bv false) rfl ⟨rfl, rfl⟩ aB ?_
  exact (RpV.mkBool _ _)
 refine c_false rfl am rfl ?_
 refine ja (j1 (j2 (j2 (j3 ?_))))
 refine r_assign (iv 1) rfl rfl ?_
 refine j0 (j1 (j4 ?_))
 refine gen_F fun an aC => ?_
 have aQ := (aC 0).trans az
 have aR : an 3 = (iv 1) := (aC 3).trans rfl
 obtain ⟨aS, aT, hf⟩ := bind_some hf
 refine wp_mono (wp_iter (step := semtyperef1_IsAtom_l1 a0) (fun q a w => ∃ (F : Fr) (τ : S), a = fr 42 F ∧ w = τ.w ∧ Agr [2, 3, 18, 19, 20, 21, 22, 23, 24, 25, 26, 27, 28, 29, 30, 31, 32, 33, 34, 35, 36, 37, 38, 39, 40, 41] F an ∧ ExtB s0.N s0 τ ∧ Wext aA τ ∧ F 3 = (iv q)) (fun o e a w => match o with | .inl q => e = .exit 0 ∧ ∃ (F : Fr) (τ : S), a = fr 42 F ∧ w = τ.w ∧ Agr [2, 3, 18, 19, 20, 21, 22, 23, 24, 25, 26, 27, 28, 29, 30, 31, 32, 33, 34, 35, 36, 37, 38, 39, 40, 41] F an ∧ ExtB s0.N s0 τ ∧ Wext aA τ ∧ F 3 = (iv q) | .inr r => e = .ret ∧ ∃ (F : Fr) (τ : S) (va : Value), a = fr 42 F ∧ w = τ.w ∧ ExtB s0.N s0 τ ∧ ResV prog 42 F τ.w (.tmp 2) va ∧ RpV τ r va) (by rintro (_ | _) a w ⟨h, _⟩ <;> cases h) ?_ _ _ _ _ _ aT ?_) ?_
 ·intro aa fl a w hf hI
  obtain ⟨_, _, rfl, rfl, ai, aD, ao, aj⟩ := hI
  unfold semtyperef1_IsAtom_l1 at hf
  have ap := (ai 0 rfl).trans aQ
  refine j2 (j2 (j3 ?_))
  refine r_move (iv aa) aj rfl ?_
  refine r_move (tv a0) ap rfl ?_
  refine r_lenStr a0 rfl rfl underlying9 ?_
  refine r_bin (iv aa) (iv (a0.size : Int)) (bv (decide (aa < (a0.size : Int)))) rfl rfl rfl rfl (b_lss) ?_
  refine j0 (j1 ?_)
  refine if_else hf (fun aq hf => ?_) (fun aq hf => ?_)
  ·refine c_true rfl aq rfl ?_
   refine ja (j1 (j2 (j4 (j2 (j3 ?_)))))
   refine r_move (tv a0) ap rfl ?_
   refine r_move (iv aa) aj rfl ?_
   obtain ⟨x42, aU, hf⟩ := bind_some hf
   refine r_index (tv a0) (iv aa) (.int .u8 (x42.toNat : Int)) rfl rfl rfl rfl (ix_str underlying9 aU) ?_
   obtain ⟨ab, aV, hf⟩ := bind_some hf
   refine r_call [.int .u8 (x42.toNat : Int)] (evs1 rfl) rfl (ok_semtyperef1_lower _ _ _ _ (RpV.mkU8 _ _) aV) ?_
   intro _ aW ar aX
   have aE := aD.x ar
   obtain rfl := RpV.bool aX
   refine r_un (bv ab) (bv (!ab)) rfl rfl u_not ?_
   refine r_move (bv (!ab)) rfl rfl ?_
   refine gen_FL fun aF ah => ?_
   have aG := (ah 0).trans ap
   have aH := (ah 3).trans aj
   have ad : aF 29 = (bv (!ab)) := (ah 29).trans rfl
   obtain ⟨ae, hq57, hf⟩ := bind_some hf
   refine wpl_take 6 (J := fun a w => ∃ (F : Fr) (τ : S), a = fr 42 F ∧ w = τ.w ∧ Agr [30, 31, 32, 33, 34, 35] F aF ∧ ExtB s0.N s0 τ ∧ Wext aW τ ∧ F 35 = (bv ae)) ?_ ?_
   ·have hf := hq57
    refine if_else hf (fun ac hf => ?_) (fun ac hf => ?_)
    ·refine r_guard (j := 5) (want := true) (d := 29) (c := !ab) (v := true) rfl ad ac rfl rfl ?_
     refine r_move (tv a0) aG rfl ?_
     refine r_guard (j := 5) (want := true) (d := 29) (c := !ab) (v := true) rfl ad ac rfl rfl ?_
     refine r_move (iv aa) aH rfl ?_
     refine r_guard (j := 5) (want := true) (d := 29) (c := !ab) (v := true) rfl ad ac rfl rfl ?_
     obtain ⟨x59, aY, hf⟩ := bind_some hf
     refine r_index (tv a0) (iv aa) (.int .u8 (x59.toNat : Int)) rfl rfl rfl rfl (ix_str underlying9 aY) ?_
     refine r_guard (j := 5) (want := true) (d := 29) (c := !ab) (v := true) rfl ad ac rfl rfl ?_
     obtain ⟨au, aZ, hf⟩ := bind_some hf
     refine r_call [.int .u8 (x59.toNat : Int)] (evs1 rfl) rfl (ok_semtyperef1_digit _ _ _ _ (RpV.mkU8 _ _) aZ) ?_
     intro _ _ aI a1
     have a2 := aE.x aI
     obtain rfl := RpV.bool a1
     refine r_guard (j := 5) (want := true) (d := 29) (c := !ab) (v := true) rfl ad ac rfl rfl ?_
     refine r_un (bv au) (bv (!au)) rfl rfl u_not ?_
     refine r_pick_t (c := !ab) (bv (!au)) ad ac rfl rfl rfl rfl ?_
     refine j0 ?_
     obtain rfl := oi hf
     exact ⟨rfl, _, _, rfl, rfl, (((((((Agr.refl _ _).put rfl).put rfl).put rfl).put rfl).put rfl).put rfl), a2, ((Wext.refl _).trans aI.wext), rfl⟩
    refine r_skip (j := 5) (want := true) (d := 29) (c := !ab) (v := false) rfl ad ac rfl rfl ?_
    refine r_skip (j := 5) (want := true) (d := 29) (c := !ab) (v := false) rfl ad ac rfl rfl ?_
    refine r_skip (j := 5) (want := true) (d := 29) (c := !ab) (v := false) rfl ad ac rfl rfl ?_
    refine r_skip (j := 5) (want := true) (d := 29) (c := !ab) (v := false) rfl ad ac rfl rfl ?_
    refine r_skip (j := 5) (want := true) (d := 29) (c := !ab) (v := false) rfl ad ac rfl rfl ?_
    refine r_pick_f (c := !ab) (bv false) ad ac rfl rfl rfl rfl ?_
    refine j0 ?_
    obtain rfl := oi hf
    exact ⟨rfl, _, _, rfl, rfl, (((((((Agr.refl _ _).put rfl).put rfl).put rfl).put rfl).put rfl).put rfl), aE, (Wext.refl _), rfl⟩
   rintro a w ⟨bd, be, rfl, rfl, ak, av, aJ, a3⟩
   have a4 := (ak 0 rfl).trans aG
   have aw := (ak 3 rfl).trans aH
   refine r_move (bv ae) a3 rfl ?_
   refine if_else hf (fun ag hf => ?_) (fun ag hf => ?_)
   ·refine r_guard (j := 12) (want := true) (d := 36) (c := ae) (v := true) rfl rfl ag rfl rfl ?_
    refine r_move (tv a0) a4 rfl ?_
    refine r_guard (j := 12) (want := true) (d := 36) (c := ae) (v := true) rfl rfl ag rfl rfl ?_
    refine r_move (iv aa) aw rfl ?_
    refine r_guard (j := 12) (want := true) (d := 36) (c := ae) (v := true) rfl rfl ag rfl rfl ?_
    obtain ⟨x77, a5, hf⟩ := bind_some hf
    refine r_index (tv a0) (iv aa) (.int .u8 (x77.toNat : Int)) rfl rfl rfl rfl (ix_str underlying9 a5) ?_
    refine r_guard (j := 12) (want := true) (d := 36) (c := ae) (v := true) rfl rfl ag rfl rfl ?_
    refine r_bin (.int .u8 (x77.toNat : Int)) (.int .u8 95) (bv ((x77.toNat : Int) != 95)) rfl rfl rfl rfl (b_neq) ?_
    refine r_pick_t (c := ae) (bv ((x77.toNat : Int) != 95)) rfl ag rfl rfl rfl rfl ?_
    refine j0 (j1 ?_)
    refine if_else hf (fun ax hf => ?_) (fun ax hf => ?_)
    ·refine c_true rfl ax rfl ?_
     refine j2 (j3 ?_)
     refine r_assign (bv false) rfl rfl ?_
     refine j0 (j1 (jb (j7 (j9 ?_))))
     obtain rfl := oi hf
     exact ⟨rfl, _, _, (bv false), rfl, rfl, av, ⟨rfl, rfl⟩, (RpV.mkBool _ _)⟩
    refine c_false rfl ax rfl ?_
    refine ja (j5 (j1 (j3 ?_)))
    refine r_move (iv aa) aw rfl ?_
    refine r_bin (iv aa) (iv 1) (iv (w64 (aa + 1))) rfl rfl rfl rfl (b_add) ?_
    refine r_assign (iv (w64 (aa + 1))) rfl rfl ?_
    refine j0 ?_
    obtain rfl := oi hf
    exact ⟨rfl, _, _, rfl, rfl, ((((((((((((((((((((((ai).put rfl).put rfl).put rfl).put rfl).put rfl).put rfl).put rfl).put rfl).put rfl).put rfl).gen ah).loop ak rfl).put rfl).put rfl).put rfl).put rfl).put rfl).put rfl).put rfl).put rfl).put rfl), av, ((((Wext.refl _).trans ao).trans ar.wext).trans aJ), rfl⟩
   refine r_skip (j := 12) (want := true) (d := 36) (c := ae) (v := false) rfl rfl ag rfl rfl ?_
   refine r_skip (j := 12) (want := true) (d := 36) (c := ae) (v := false) rfl rfl ag rfl rfl ?_
   refine r_skip (j := 12) (want := true) (d := 36) (c := ae) (v := false) rfl rfl ag rfl rfl ?_
   refine r_skip (j := 12) (want := true) (d := 36) (c := ae) (v := false) rfl rfl ag rfl rfl ?_
   refine r_pick_f (c := ae) (bv false) rfl ag rfl rfl rfl rfl ?_
   refine j0 (j1 ?_)
   refine c_false rfl rfl rfl ?_
   refine ja (j5 (j1 (j3 ?_)))
   refine r_move (iv aa) aw rfl ?_
   refine r_bin (iv aa) (iv 1) (iv (w64 (aa + 1))) rfl rfl rfl rfl (b_add) ?_
   refine r_assign (iv (w64 (aa + 1))) rfl rfl ?_
   refine j0 ?_
   obtain rfl := oi hf
   exact ⟨rfl, _, _, rfl, rfl, ((((((((((((((((((((((ai).put rfl).put rfl).put rfl).put rfl).put rfl).put rfl).put rfl).put rfl).put rfl).put rfl).gen ah).loop ak rfl).put rfl).put rfl).put rfl).put rfl).put rfl).put rfl).put rfl).put rfl).put rfl), av, ((((Wext.refl _).trans ao).trans ar.wext).trans aJ), rfl⟩
  refine c_false rfl aq rfl ?_
  refine jc (j8 ?_)
  obtain rfl := oi hf
  exact ⟨rfl, _, _, rfl, rfl, (((((ai).put rfl).put rfl).put rfl).put rfl), aD, ((Wext.refl _).trans ao), aj⟩
 ·exact ⟨_, _, rfl, rfl, (Agr.refl _ _), aB, (Wext.refl _), aR⟩
 intro e a w hp
 rcases aS with bf | r
 ·replace hf := onEnd_inl hf
  obtain ⟨rfl, _, _, rfl, rfl, _, a6, _, _⟩ := hp
  refine j6 (j1 (j2 (j3 ?_)))
  refine r_assign (bv true) rfl rfl ?_
  refine j0 (j1 (jb ?_))
  obtain rfl := oi hf
  refine ret_one (bv true) rfl ⟨rfl, rfl⟩ a6 ?_
  exact (RpV.mkBool _ _)
 replace hf := onEnd_inr hf
 obtain ⟨rfl, _, _, a7, rfl, rfl, a8, a9, ba⟩ := hp
 refine j7 (j9 ?_)
 obtain rfl := oi hf
 refine ret_one a7 rfl a9 a8 ?_
 exact ba

def S_semtyperef1_ValidKey (f : (Key → Option Bool)) : Prop := ∀ (s0 : S) (v0 : Value) (a0 : Key) (r : Bool), RpV s0 a0 v0 → f a0 = some r → Ctr Go.Proofs.Try.prog 86 [v0] s0 (fun v τ => RpV τ r v)

theorem ok_semtyperef1_ValidKey : S_semtyperef1_ValidKey semtyperef1_ValidKey := by
 intro s0 v0 a0 r hp0 hf
 obtain rfl := Key.rpv hp0
 unfold semtyperef1_ValidKey at hf
 have E0 : ExtB s0.N s0 s0 := ExtB.refl _ _
 refine ctr_of 22 func86 rfl rfl rfl rfl ?_
 refine j2 (j3 ?_)
 refine r_box (B := s0.N) 1 E0.size (Key.ag a0) (Key.cs a0) rfl rfl rfl ?_
 intro s2 b1 k3 hb4
 have E5 := E0.x k3
 refine r_assign (bv false) rfl rfl ?_
 refine j0 (j1 (j2 (j3 ?_)))
 refine r_fieldAddr b1 0 0 0 rfl rfl fo60_0 rfl ?_
 refine r_load b1 0 (iv a0.Kind) rfl rfl (loads_one to3 ((hb4.cell 0).trans rfl)) ?_
 refine r_bin (iv a0.Kind) (iv 0) (bv (a0.Kind == 0)) rfl rfl rfl rfl (b_eql) ?_
 refine r_move (bv (a0.Kind == 0)) rfl rfl ?_
 refine gen_FL fun F6 hg7 => ?_
 have f8 : F6 1 = (.pointer (some ⟨b1, 0, none⟩)) := (hg7 1).trans rfl
 have af : F6 6 = (bv (a0.Kind == 0)) := (hg7 6).trans rfl
 obtain ⟨aa, hq12, hf⟩ := bind_some hf
 refine wpl_take 4 (J := fun a w => ∃ (F : Fr) (τ : S), a = fr 22 F ∧ w = τ.w ∧ Agr [7, 8, 9, 10] F F6 ∧ ExtB s0.N s0 τ ∧ Wext s2 τ ∧ F 10 = (bv aa) ∧ Blk s0.N 1 τ b1 60 (Key.cs a0)) ?_ ?_
 ·have hf := hq12
  refine if_else hf (fun ae hf => ?_) (fun ae hf => ?_)
  ·refine r_guard (j := 3) (want := true) (d := 6) (c := (a0.Kind == 0)) (v := true) rfl af ae rfl rfl ?_
   refine r_fieldAddr b1 0 1 1 f8 rfl fo60_1 rfl ?_
   refine r_guard (j := 3) (want := true) (d := 6) (c := (a0.Kind == 0)) (v := true) rfl af ae rfl rfl ?_
   refine r_load b1 1 (tv a0.Text) rfl rfl (loads_one to9 ((hb4.cell 1).trans rfl)) ?_
   refine r_guard (j := 3) (want := true) (d := 6) (c := (a0.Kind == 0)) (v := true) rfl af ae rfl rfl ?_
   obtain ⟨ao, ap, hf⟩ := bind_some hf
   refine r_call [tv a0.Text] (evs1 rfl) rfl (ok_semtyperef1_IsAtom _ _ _ _ (RpV.mkStr _ _) ap) ?_
   intro _ _ ah aq
   have ar := E5.x ah
   obtain rfl := RpV.bool aq
   refine r_pick_t (c := (a0.Kind == 0)) (bv ao) af ae rfl rfl rfl rfl ?_
   refine j0 ?_
   obtain rfl := oi hf
   exact ⟨rfl, _, _, rfl, rfl, (((((Agr.refl _ _).put rfl).put rfl).put rfl).put rfl), ar, ((Wext.refl _).trans ah.wext), rfl, (hb4.ext ah)⟩
  refine r_skip (j := 3) (want := true) (d := 6) (c := (a0.Kind == 0)) (v := false) rfl af ae rfl rfl ?_
  refine r_skip (j := 3) (want := true) (d := 6) (c := (a0.Kind == 0)) (v := false) rfl af ae rfl rfl ?_
  refine r_skip (j := 3) (want := true) (d := 6) (c := (a0.Kind == 0)) (v := false) rfl af ae rfl rfl ?_
  refine r_pick_f (c := (a0.Kind == 0)) (bv false) af ae rfl rfl rfl rfl ?_
  refine j0 ?_
  obtain rfl := oi hf
  exact ⟨rfl, _, _, rfl, rfl, (((((Agr.refl _ _).put rfl).put rfl).put rfl).put rfl), E5, (Wext.refl _), rfl, hb4⟩
 rintro a w ⟨aC, au, rfl, rfl, av, ai, aD, aw, am⟩
 have an := (av 1 rfl).trans f8
 refine r_move (bv aa) aw rfl ?_
 refine if_else hf (fun ab hf => ?_) (fun ab hf => ?_)
 ·refine r_skip (j := 8) (want := false) (d := 11) (c := aa) (v := true) rfl rfl ab rfl rfl ?_
  refine r_skip (j := 8) (want := false) (d := 11) (c := aa) (v := true) rfl rfl ab rfl rfl ?_
  refine r_skip (j := 8) (want := false) (d := 11) (c := aa) (v := true) rfl rfl ab rfl rfl ?_
  refine r_skip (j := 8) (want := false) (d := 11) (c := aa) (v := true) rfl rfl ab rfl rfl ?_
  refine r_skipu (j := 12) (d := 15) rfl rfl rfl ?_
  refine r_skipu (j := 12) (d := 15) rfl rfl rfl ?_
  refine r_skipu (j := 12) (d := 15) rfl rfl rfl ?_
  refine r_skipu (j := 12) (d := 15) rfl rfl rfl ?_
  refine r_skip (j := 8) (want := false) (d := 11) (c := aa) (v := true) rfl rfl ab rfl rfl ?_
  refine r_pick_t (c := aa) (bv true) rfl ab rfl rfl rfl rfl ?_
  refine r_assign (bv true) rfl rfl ?_
  refine j0 (j1 (jb ?_))
  obtain rfl := oi hf
  refine ret_one (bv true) rfl ⟨rfl, rfl⟩ ai ?_
  exact (RpV.mkBool _ _)
 refine r_guard (j := 8) (want := false) (d := 11) (c := aa) (v := false) rfl rfl ab rfl rfl ?_
 refine r_fieldAddr b1 0 0 0 an rfl fo60_0 rfl ?_
 refine r_guard (j := 8) (want := false) (d := 11) (c := aa) (v := false) rfl rfl ab rfl rfl ?_
 refine r_load b1 0 (iv a0.Kind) rfl rfl (loads_one to3 ((am.cell 0).trans rfl)) ?_
 refine r_guard (j := 8) (want := false) (d := 11) (c := aa) (v := false) rfl rfl ab rfl rfl ?_
 refine r_bin (iv a0.Kind) (iv 1) (bv (a0.Kind == 1)) rfl rfl rfl rfl (b_eql) ?_
 refine r_guard (j := 8) (want := false) (d := 11) (c := aa) (v := false) rfl rfl ab rfl rfl ?_
 refine r_move (bv (a0.Kind == 1)) rfl rfl ?_
 refine gen_FL fun aj ak => ?_
 have ax := (ak 1).trans an
 have al : aj 11 = (bv aa) := (ak 11).trans rfl
 have ad : aj 15 = (bv (a0.Kind == 1)) := (ak 15).trans rfl
 obtain ⟨ag, hq38, hf⟩ := bind_some hf
 refine wpl_take 5 (J := fun a w => ∃ (F : Fr) (τ : S), a = fr 22 F ∧ w = τ.w ∧ Agr [16, 17, 18, 19, 20] F aj ∧ ExtB s0.N s0 τ ∧ Wext au τ ∧ F 20 = (bv ag)) ?_ ?_
 ·have hf := hq38
  refine if_else hf (fun ac hf => ?_) (fun ac hf => ?_)
  ·refine r_guard (j := 12) (want := true) (d := 15) (c := (a0.Kind == 1)) (v := true) rfl ad ac rfl rfl ?_
   refine r_fieldAddr b1 0 1 1 ax rfl fo60_1 rfl ?_
   refine r_guard (j := 12) (want := true) (d := 15) (c := (a0.Kind == 1)) (v := true) rfl ad ac rfl rfl ?_
   refine r_load b1 1 (tv a0.Text) rfl rfl (loads_one to9 ((am.cell 1).trans rfl)) ?_
   refine r_guard (j := 12) (want := true) (d := 15) (c := (a0.Kind == 1)) (v := true) rfl ad ac rfl rfl ?_
   refine r_lenStr a0.Text rfl rfl underlying9 ?_
   refine r_guard (j := 12) (want := true) (d := 15) (c := (a0.Kind == 1)) (v := true) rfl ad ac rfl rfl ?_
   refine r_bin (iv (a0.Text.size : Int)) (iv 64) (bv (decide ((a0.Text.size : Int) ≤ 64))) rfl rfl rfl rfl (b_leq) ?_
   refine r_guard (j := 8) (want := false) (d := 11) (c := aa) (v := false) rfl al ab rfl rfl ?_
   refine r_pick_t (c := (a0.Kind == 1)) (bv (decide ((a0.Text.size : Int) ≤ 64))) ad ac rfl rfl rfl rfl ?_
   refine j0 ?_
   obtain rfl := oi hf
   exact ⟨rfl, _, _, rfl, rfl, ((((((Agr.refl _ _).put rfl).put rfl).put rfl).put rfl).put rfl), ai, (Wext.refl _), rfl⟩
  refine r_skip (j := 12) (want := true) (d := 15) (c := (a0.Kind == 1)) (v := false) rfl ad ac rfl rfl ?_
  refine r_skip (j := 12) (want := true) (d := 15) (c := (a0.Kind == 1)) (v := false) rfl ad ac rfl rfl ?_
  refine r_skip (j := 12) (want := true) (d := 15) (c := (a0.Kind == 1)) (v := false) rfl ad ac rfl rfl ?_
  refine r_skip (j := 12) (want := true) (d := 15) (c := (a0.Kind == 1)) (v := false) rfl ad ac rfl rfl ?_
  refine r_guard (j := 8) (want := false) (d := 11) (c := aa) (v := false) rfl al ab rfl rfl ?_
  refine r_pick_f (c := (a0.Kind == 1)) (bv false) ad ac rfl rfl rfl rfl ?_
  refine j0 ?_
  obtain rfl := oi hf
  exact ⟨rfl, _, _, rfl, rfl, ((((((Agr.refl _ _).put rfl).put rfl).put rfl).put rfl).put rfl), ai, (Wext.refl _), rfl⟩
 rintro a w ⟨aE, aF, rfl, rfl, ay, az, aG, aA⟩
 have aB := (ay 11 rfl).trans al
 refine r_pick_f (c := aa) (bv ag) aB ab aA rfl rfl rfl ?_
 refine r_assign (bv ag) rfl rfl ?_
 refine j0 (j1 (jb ?_))
 obtain rfl := oi hf
 refine ret_one (bv ag) rfl ⟨rfl, rfl⟩ az ?_
 exact (RpV.mkBool _ _)

def S_semtyperef1_Map (f : ((List Key) → (List Val) → Option (Val × Int))) : Prop := ∀ (s0 : S) (v0 : Value) (v1 : Value) (a0 : (List Key)) (a1 : (List Val)) (r : (Val × Int)), RpV s0 a0 v0 → RpV s0 a1 v1 → f a0 a1 = some r → Ctr Go.Proofs.Try.prog 75 [v0, v1] s0 (fun v τ => ∃ v1 v2, v = .tuple #[v1, v2] ∧ RpV τ r.1 v1 ∧ RpV τ r.2 v2)

theorem ok_semtyperef1_Map : S_semtyperef1_Map semtyperef1_Map := by
 intro s0 v0 v1 a0 a1 r hp0 hp1 hf
 obtain ⟨A1, c2, rfl, h3⟩ := RpV.list hp0
 obtain ⟨A4, c5, rfl, h6⟩ := RpV.list hp1
 unfold semtyperef1_Map at hf
 have E0 : ExtB s0.N s0 s0 := ExtB.refl _ _
 refine ctr_of 113 func75 rfl rfl rfl rfl ?_
 refine j2 (j3 ?_)
 refine r_alloc (B := s0.N) 1 E0.size _ [iv 0, iv 0, tv (⟨#[]⟩), nl Val, nl Key, nl Ent, nl ByteArray] ti27 rfl ?_
 intro s8 b7 k9 ce
 have cf := E0.x k9
 refine r_assign (iv 0) rfl rfl ?_
 refine j0 (j1 (j2 (j2 (j3 ?_))))
 refine r_move (lv A1 a0.length c2) rfl rfl ?_
 refine r_len A1 a0.length c2 rfl rfl underlying23 ?_
 refine r_move (lv A4 a1.length c5) rfl rfl ?_
 refine r_len A4 a1.length c5 rfl rfl underlying22 ?_
 refine r_bin (iv (a0.length : Int)) (iv (a1.length : Int)) (bv ((a0.length : Int) != (a1.length : Int))) rfl rfl rfl rfl (b_neq) ?_
 refine j0 (j1 ?_)
 refine if_else hf (fun bF hf => ?_) (fun bF hf => ?_)
 ·refine c_true rfl bF rfl ?_
  refine j2 (j3 ?_)
  refine r_build tst27 [] [iv 0, iv 0, tv (⟨#[]⟩), nl Val, nl Key, nl Ent, nl ByteArray] eps_nil rfl rfl ?_
  refine r_store ce 0 (.agg #[iv 0, iv 0, tv (⟨#[]⟩), nl Val, nl Key, nl Ent, nl ByteArray]) [iv 0, iv 0, tv (⟨#[]⟩), nl Val, nl Key, nl Ent, nl ByteArray] [iv 0, iv 0, tv (⟨#[]⟩), nl Val, nl Key, nl Ent, nl ByteArray] rfl rfl rfl rfl rfl sz27 rfl rfl rfl ?_
  intro _ c3 c4
  have c6 := cf.y c3
  refine r_assign (iv 1) rfl rfl ?_
  refine j0 (j1 (jb (j9 ?_)))
  obtain rfl := oi hf
  refine ret_two (.agg #[iv 0, iv 0, tv (⟨#[]⟩), nl Val, nl Key, nl Ent, nl ByteArray]) (iv 1) rfl ⟨rfl, _, rfl, loads_row tr27 (Blk.range c4 0 [iv 0, iv 0, tv (⟨#[]⟩), nl Val, nl Key, nl Ent, nl ByteArray] rfl)⟩ ⟨rfl, rfl⟩ c6 ?_
  exact ⟨_, _, rfl, (Val.rpvMk (v := (Val.mk 0 0 (⟨#[]⟩) ([] : List Val) ([] : List Key) ([] : List Ent) ([] : List ByteArray))) (Sl.nil_ _ _ _ (Nat.zero_le _)) (Sl.nil_ _ _ _ (Nat.zero_le _)) (Sl.nil_ _ _ _ (Nat.zero_le _)) (Sl.nil_ _ _ _ (Nat.zero_le _))), (RpV.mkInt _ _)⟩
 refine c_false rfl bF rfl ?_
 refine ja (j1 (j2 (j2 (j3 ?_))))
 refine r_assign (iv 0) rfl rfl ?_
 refine j0 (j1 (j4 ?_))
 refine gen_F fun a5 bt => ?_
 have cg : a5 0 = (lv A1 a0.length c2) := (bt 0).trans rfl
 have c7 : a5 1 = (lv A4 a1.length c5) := (bt 1).trans rfl
 have ch : a5 4 = (.pointer (some ⟨b7, 0, none⟩)) := (bt 4).trans rfl
 have c8 : a5 6 = (iv 0) := (bt 6).trans rfl
 obtain ⟨c9, da, hf⟩ := bind_some hf
 refine wp_mono (wp_iter (step := semtyperef1_Map_l1 a0) (fun q a w => ∃ (F : Fr) (τ : S), a = fr 113 F ∧ w = τ.w ∧ Agr [5, 6, 18, 19, 20, 21, 22, 23, 24, 25, 26, 27, 28, 29, 30] F a5 ∧ ExtB s0.N s0 τ ∧ Wext s8 τ ∧ F 6 = (iv q) ∧ Blk s0.N 1 τ b7 27 [iv 0, iv 0, tv (⟨#[]⟩), nl Val, nl Key, nl Ent, nl ByteArray]) (fun o e a w => match o with | .inl q => e = .exit 0 ∧ ∃ (F : Fr) (τ : S), a = fr 113 F ∧ w = τ.w ∧ Agr [5, 6, 18, 19, 20, 21, 22, 23, 24, 25, 26, 27, 28, 29, 30] F a5 ∧ ExtB s0.N s0 τ ∧ Wext s8 τ ∧ F 6 = (iv q) ∧ Blk s0.N 1 τ b7 27 [iv 0, iv 0, tv (⟨#[]⟩), nl Val, nl Key, nl Ent, nl ByteArray] | .inr r => e = .ret ∧ ∃ (F : Fr) (τ : S) (va : Value) (vb : Value), a = fr 113 F ∧ w = τ.w ∧ ExtB s0.N s0 τ ∧ ResV prog 113 F τ.w (.cell 4 27) va ∧ RpV τ r.1 va ∧ ResV prog 113 F τ.w (.tmp 5) vb ∧ RpV τ r.2 vb) (by rintro (_ | _) a w ⟨h, _⟩ <;> cases h) ?_ _ _ _ _ _ da ?_) ?_
 ·intro aO fl a w hf hI
  obtain ⟨_, _, rfl, rfl, bu, ci, bG, bw, bH⟩ := hI
  unfold semtyperef1_Map_l1 at hf
  have cj := (bu 0 rfl).trans cg
  have ck := (bu 4 rfl).trans ch
  refine j2 (j2 (j3 ?_))
  refine r_move (iv aO) bw rfl ?_
  refine r_move (lv A1 a0.length c2) cj rfl ?_
  refine r_len A1 a0.length c2 rfl rfl underlying23 ?_
  refine r_bin (iv aO) (iv (a0.length : Int)) (bv (decide (aO < (a0.length : Int)))) rfl rfl rfl rfl (b_lss) ?_
  refine j0 (j1 ?_)
  refine if_else hf (fun bI hf => ?_) (fun bI hf => ?_)
  ·refine c_true rfl bI rfl ?_
   refine ja (j1 (j2 (j4 (j2 (j3 ?_)))))
   refine r_move (lv A1 a0.length c2) cj rfl ?_
   refine r_move (iv aO) bw rfl ?_
   obtain ⟨x36, db, hf⟩ := bind_some hf
   refine r_indexAddr (T := 23) (E := 60) ((h3.mono k9.wext).mono bG) db rfl rfl rfl rfl underlying23 sz60 ?_
   intro dc dd _ de df
   obtain rfl := Key.cells_iff.1 de
   refine r_load dc dd (Key.ag x36) rfl rfl (loads_row tr60 df.2) ?_
   obtain ⟨cl, dg, hf⟩ := bind_some hf
   refine r_call [Key.ag x36] (evs1 rfl) rfl (ok_semtyperef1_ValidKey _ _ _ _ (Key.rpvMk (v := x36) ) dg) ?_
   intro _ _ bx dh
   have cm := ci.x bx
   obtain rfl := RpV.bool dh
   refine r_un (bv cl) (bv (!cl)) rfl rfl u_not ?_
   refine j0 (j1 ?_)
   refine if_else hf (fun bJ hf => ?_) (fun bJ hf => ?_)
   ·refine c_true rfl bJ rfl ?_
    refine j2 (j3 ?_)
    refine r_build tst27 [] [iv 0, iv 0, tv (⟨#[]⟩), nl Val, nl Key, nl Ent, nl ByteArray] eps_nil rfl rfl ?_
    refine r_store (bH.ext bx) 0 (.agg #[iv 0, iv 0, tv (⟨#[]⟩), nl Val, nl Key, nl Ent, nl ByteArray]) [iv 0, iv 0, tv (⟨#[]⟩), nl Val, nl Key, nl Ent, nl ByteArray] [iv 0, iv 0, tv (⟨#[]⟩), nl Val, nl Key, nl Ent, nl ByteArray] ck rfl rfl rfl rfl sz27 rfl rfl rfl ?_
    intro _ di dj
    have dk := cm.y di
    refine r_assign (iv 1) rfl rfl ?_
    refine j0 (j1 (jb (j7 (j9 ?_))))
    obtain rfl := oi hf
    exact ⟨rfl, _, _, (.agg #[iv 0, iv 0, tv (⟨#[]⟩), nl Val, nl Key, nl Ent, nl ByteArray]), (iv 1), rfl, rfl, dk, ⟨rfl, _, ck, loads_row tr27 (Blk.range dj 0 [iv 0, iv 0, tv (⟨#[]⟩), nl Val, nl Key, nl Ent, nl ByteArray] rfl)⟩, (Val.rpvMk (v := (Val.mk 0 0 (⟨#[]⟩) ([] : List Val) ([] : List Key) ([] : List Ent) ([] : List ByteArray))) (Sl.nil_ _ _ _ (Nat.zero_le _)) (Sl.nil_ _ _ _ (Nat.zero_le _)) (Sl.nil_ _ _ _ (Nat.zero_le _)) (Sl.nil_ _ _ _ (Nat.zero_le _))), ⟨rfl, rfl⟩, (RpV.mkInt _ _)⟩
   refine c_false rfl bJ rfl ?_
   refine ja (j5 (j1 (j3 ?_)))
   refine r_move (iv aO) bw rfl ?_
   refine r_bin (iv aO) (iv 1) (iv (w64 (aO + 1))) rfl rfl rfl rfl (b_add) ?_
   refine r_assign (iv (w64 (aO + 1))) rfl rfl ?_
   refine j0 ?_
   obtain rfl := oi hf
   exact ⟨rfl, _, _, rfl, rfl, ((((((((((((((bu).put rfl).put rfl).put rfl).put rfl).put rfl).put rfl).put rfl).put rfl).put rfl).put rfl).put rfl).put rfl).put rfl), cm, (((Wext.refl _).trans bG).trans bx.wext), rfl, (bH.ext bx)⟩
  refine c_false rfl bI rfl ?_
  refine jc (j8 ?_)
  obtain rfl := oi hf
  exact ⟨rfl, _, _, rfl, rfl, (((((bu).put rfl).put rfl).put rfl).put rfl), ci, ((Wext.refl _).trans bG), bw, bH⟩
 ·exact ⟨_, _, rfl, rfl, (Agr.refl _ _), cf, (Wext.refl _), c8, ce⟩
 intro e a w hp
 rcases c9 with gy | r
 ·replace hf := onEnd_inl hf
  obtain ⟨rfl, _, _, rfl, rfl, bK, cn, a6, _, dl⟩ := hp
  have dm := (bK 0 rfl).trans cg
  have dn := (bK 1 rfl).trans c7
  have dp := (bK 4 rfl).trans ch
  refine j6 (j1 (j2 (j3 ?_)))
  refine r_build tst27 [(0, iv 8)] [iv 8, iv 0, tv (⟨#[]⟩), nl Val, nl Key, nl Ent, nl ByteArray] (eps_cons rfl eps_nil) rfl rfl ?_
  refine r_alloc (B := s0.N) 2 cn.size _ [iv 0, iv 0, tv (⟨#[]⟩), nl Val, nl Key, nl Ent, nl ByteArray] ti27 rfl ?_
  intro _ ak aP dq
  have dr := cn.x aP
  refine r_store dq 0 (.agg #[iv 8, iv 0, tv (⟨#[]⟩), nl Val, nl Key, nl Ent, nl ByteArray]) [iv 8, iv 0, tv (⟨#[]⟩), nl Val, nl Key, nl Ent, nl ByteArray] [iv 8, iv 0, tv (⟨#[]⟩), nl Val, nl Key, nl Ent, nl ByteArray] rfl rfl rfl rfl rfl sz27 rfl rfl rfl ?_
  intro co aQ ds
  have dt := dr.y aQ
  refine j0 (j1 (j2 (j2 (j3 ?_))))
  refine r_assign (iv 0) rfl rfl ?_
  refine j0 (j1 (j4 ?_))
  refine gen_F fun bz bd => ?_
  have du := (bd 0).trans dm
  have dv := (bd 1).trans dn
  have cp := (bd 4).trans dp
  have cq : bz 7 = (.pointer (some ⟨ak, 0, none⟩)) := (bd 7).trans rfl
  have dw : bz 8 = (iv 0) := (bd 8).trans rfl
  obtain ⟨dx, dy, hf⟩ := bind_some hf
  refine wp_mono (wp_iter (step := semtyperef1_Map_l2 a0 a1) (fun q a w => ∃ (F : Fr) (τ : S) (A1 : Option Addr) (c1 : Nat) (A2 : Option Addr) (c2 : Nat), a = fr 113 F ∧ w = τ.w ∧ Agr [5, 8, 9, 10, 11, 32, 33, 34, 35, 36, 37, 38, 39, 40, 41, 42, 43, 44, 45, 46, 47, 48, 49, 50, 51, 52, 53, 54, 55, 56, 57, 58, 59, 60, 61, 62, 63, 64, 65, 66, 67, 68, 69, 70, 71, 72, 73, 74, 75, 76, 77, 78, 79, 80, 81, 82, 83, 84, 85, 86, 87, 88, 89, 90, 91, 92, 93, 94, 95, 96, 97, 98, 99, 100, 101, 102, 103, 104, 105, 106, 107, 108, 109, 110, 111] F bz ∧ ExtB s0.N s0 τ ∧ Wext co τ ∧ F 8 = (iv q.1) ∧ Blk s0.N 1 τ b7 27 [iv 0, iv 0, tv (⟨#[]⟩), nl Val, nl Key, nl Ent, nl ByteArray] ∧ Blk s0.N 2 τ ak 27 [iv 8, iv 0, tv (⟨#[]⟩), lv A1 q.2.1.length c1, lv A2 q.2.2.length c2, nl Ent, nl ByteArray] ∧ Sl τ q.2.1 A1 c1 ∧ Sl τ q.2.2 A2 c2) (fun o e a w => match o with | .inl q => e = .exit 2 ∧ ∃ (F : Fr) (τ : S) (A1 : Option Addr) (c1 : Nat) (A2 : Option Addr) (c2 : Nat), a = fr 113 F ∧ w = τ.w ∧ Agr [5, 8, 9, 10, 11, 32, 33, 34, 35, 36, 37, 38, 39, 40, 41, 42, 43, 44, 45, 46, 47, 48, 49, 50, 51, 52, 53, 54, 55, 56, 57, 58, 59, 60, 61, 62, 63, 64, 65, 66, 67, 68, 69, 70, 71, 72, 73, 74, 75, 76, 77, 78, 79, 80, 81, 82, 83, 84, 85, 86, 87, 88, 89, 90, 91, 92, 93, 94, 95, 96, 97, 98, 99, 100, 101, 102, 103, 104, 105, 106, 107, 108, 109, 110, 111] F bz ∧ ExtB s0.N s0 τ ∧ Wext co τ ∧ F 8 = (iv q.1) ∧ Blk s0.N 1 τ b7 27 [iv 0, iv 0, tv (⟨#[]⟩), nl Val, nl Key, nl Ent, nl ByteArray] ∧ Blk s0.N 2 τ ak 27 [iv 8, iv 0, tv (⟨#[]⟩), lv A1 q.2.1.length c1, lv A2 q.2.2.length c2, nl Ent, nl ByteArray] ∧ Sl τ q.2.1 A1 c1 ∧ Sl τ q.2.2 A2 c2 | .inr r => e = .ret ∧ ∃ (F : Fr) (τ : S) (va : Value) (vb : Value), a = fr 113 F ∧ w = τ.w ∧ ExtB s0.N s0 τ ∧ ResV prog 113 F τ.w (.cell 4 27) va ∧ RpV τ r.1 va ∧ ResV prog 113 F τ.w (.tmp 5) vb ∧ RpV τ r.2 vb) (by rintro (_ | _) a w ⟨h, _⟩ <;> cases h) ?_ _ _ _ _ _ dy ?_) ?_
  ·intro ae fl a w hf hI
   obtain ⟨_, cr, aB, aC, ax, ay, rfl, rfl, aS, cs, aN, bL, ct, cu, be, aT⟩ := hI
   unfold semtyperef1_Map_l2 at hf
   have cv := (aS 0 rfl).trans du
   have dz := (aS 1 rfl).trans dv
   have dA := (aS 4 rfl).trans cp
   have dB := (aS 7 rfl).trans cq
   refine j2 (j2 (j3 ?_))
   refine r_move (iv ae.1) bL rfl ?_
   refine r_move (lv A1 a0.length c2) cv rfl ?_
   refine r_len A1 a0.length c2 rfl rfl underlying23 ?_
   refine r_bin (iv ae.1) (iv (a0.length : Int)) (bv (decide (ae.1 < (a0.length : Int)))) rfl rfl rfl rfl (b_lss) ?_
   refine j0 (j1 ?_)
   refine if_else hf (fun bM hf => ?_) (fun bM hf => ?_)
   ·refine c_true rfl bM rfl ?_
    refine ja (j1 (j2 (j4 (j2 (j3 ?_)))))
    refine r_assign (iv 0) rfl rfl ?_
    refine j0 (j1 (j2 (j4 ?_)))
    refine gen_F fun bN aR => ?_
    have cw := (aR 0).trans cv
    have dC := (aR 1).trans dz
    have dD := (aR 4).trans dA
    have cx := (aR 7).trans dB
    have cy := (aR 8).trans bL
    have dE : bN 9 = (iv 0) := (aR 9).trans rfl
    obtain ⟨aw, dF, hf⟩ := bind_some hf
    refine wp_mono (wp_iter (step := semtyperef1_Map_l3 a0 ae) (fun q a w => ∃ (F : Fr) (τ : S), a = fr 113 F ∧ w = τ.w ∧ Agr [9, 38, 39, 40, 41, 42, 43, 44, 45, 46, 47, 48, 49, 50, 51, 52, 53, 54, 55, 56, 57] F bN ∧ ExtB s0.N s0 τ ∧ Wext cr τ ∧ F 9 = (iv q) ∧ Blk s0.N 1 τ b7 27 [iv 0, iv 0, tv (⟨#[]⟩), nl Val, nl Key, nl Ent, nl ByteArray] ∧ Blk s0.N 2 τ ak 27 [iv 8, iv 0, tv (⟨#[]⟩), lv aB ae.2.1.length aC, lv ax ae.2.2.length ay, nl Ent, nl ByteArray]) (fun q e a w => e = .exit 4 ∧ ∃ (F : Fr) (τ : S), a = fr 113 F ∧ w = τ.w ∧ Agr [9, 38, 39, 40, 41, 42, 43, 44, 45, 46, 47, 48, 49, 50, 51, 52, 53, 54, 55, 56, 57] F bN ∧ ExtB s0.N s0 τ ∧ Wext cr τ ∧ F 9 = (iv q) ∧ Blk s0.N 1 τ b7 27 [iv 0, iv 0, tv (⟨#[]⟩), nl Val, nl Key, nl Ent, nl ByteArray] ∧ Blk s0.N 2 τ ak 27 [iv 8, iv 0, tv (⟨#[]⟩), lv aB ae.2.1.length aC, lv ax ae.2.2.length ay, nl Ent, nl ByteArray]) (by rintro _ a w ⟨h, _⟩; cases h) ?_ _ _ _ _ _ dF ?_) ?_
    ·intro aH fl a w hf hI
     obtain ⟨_, _, rfl, rfl, a7, bO, bf, bg, cz, cA⟩ := hI
     unfold semtyperef1_Map_l3 at hf
     have dG := (a7 0 rfl).trans cw
     have bP := (a7 7 rfl).trans cx
     have dH := (a7 8 rfl).trans cy
     refine j2 (j2 ?_)
     refine if_else hf (fun aD hf => ?_) (fun aD hf => ?_)
     ·obtain ⟨x127, dI, hf⟩ := bind_some hf
      obtain ⟨x129, dJ, hf⟩ := bind_some hf
      obtain ⟨aU, dK, hf⟩ := bind_some hf
      refine wp_draw (B := frExt s0.N) (sm 38 18) [[], [], [1], [1, 2], rg 4, rg 5, rg 6, rg 7, rg 6, rg 9, rg 10, rg 6, rg 6, (rg 6 ++ [11, 12]), (rg 6 ++ [11, 12, 13]), rg 15, rg 16, rg 17] [Fct.eqv (iv aH), Fct.eqv (.pointer (some ⟨ak, 4, none⟩)), Fct.eqv (lv ax ae.2.2.length ay), Fct.eqv (iv (ae.2.2.length : Int)), Fct.eqv (bv (decide (aH < (ae.2.2.length : Int)))), Fct.eqv (bv (decide (aH < (ae.2.2.length : Int)))), Fct.eqv (.pointer (some ⟨ak, 4, none⟩)), Fct.eqv (lv ax ae.2.2.length ay), Fct.eqv (iv aH), Fct.elem (x127 : Key), Fct.data (x127 : Key), Fct.eqv (lv A1 a0.length c2), Fct.eqv (iv ae.1), Fct.elem (x129 : Key), Fct.data (x129 : Key), Fct.eqv (iv aU), Fct.eqv (bv (decide (aU < 0))), Fct.eqv (bv (decide (aU < 0)))] (fun D F τ => (Blk s0.N 1 τ b7 27 [iv 0, iv 0, tv (⟨#[]⟩), nl Val, nl Key, nl Ent, nl ByteArray]) ∧ (Blk s0.N 2 τ ak 27 [iv 8, iv 0, tv (⟨#[]⟩), lv aB ae.2.1.length aC, lv ax ae.2.2.length ay, nl Ent, nl ByteArray])) (by kernel_rfl) rfl (by decide) (by decide) ⟨(cz.ext (ext_draw _)), (cA.ext (ext_draw _))⟩ (by decide) (by decide) ⟨?_, ?_, ?_, ?_, ?_, ?_, ?_, ?_, ?_, ?_, ?_, ?_, ?_, ?_, ?_, ?_, ?_, ?_, trivial⟩ ?_
      ·intro _ _ _ _ _ _ _ _ aa ab _
       refine r_move (iv aH) ((ab 9 rfl).trans bg) rfl ?_
       exact d0 ⟨rfl, aa⟩
      ·intro _ _ _ _ _ _ _ _ aa ab _
       obtain ⟨_, _⟩ := id aa
       refine r_fieldAddr ak 0 4 4 ((ab 7 rfl).trans bP) rfl fo27_4 rfl ?_
       exact d0 ⟨rfl, aa⟩
      ·intro _ _ _ _ _ _ _ _ aa _ ab
       obtain ⟨_, ac⟩ := id aa
       have ad := ac
       refine r_load ak 4 (lv ax ae.2.2.length ay) (ab 1 rfl 39 rfl) rfl (loads_one to23 ((ad.cell 4).trans rfl)) ?_
       exact d0 ⟨rfl, aa⟩
      ·intro _ _ _ _ _ _ _ _ aa _ ab
       refine r_len ax ae.2.2.length ay (ab 2 rfl 40 rfl) rfl underlying23 ?_
       exact d0 ⟨rfl, aa⟩
      ·intro _ _ _ _ _ _ _ _ aa _ ab
       refine r_bin (iv aH) (iv (ae.2.2.length : Int)) (bv (decide (aH < (ae.2.2.length : Int)))) (ab 0 rfl 38 rfl) (ab 3 rfl 41 rfl) rfl rfl (b_lss) ?_
       exact d0 ⟨rfl, aa⟩
      ·intro _ _ _ _ _ _ _ _ aa _ ab
       refine r_move (bv (decide (aH < (ae.2.2.length : Int)))) (ab 4 rfl 42 rfl) rfl ?_
       exact d0 ⟨rfl, aa⟩
      ·intro _ _ _ _ _ _ _ _ aa ab ac
       obtain ⟨_, _⟩ := id aa
       refine gd1 rfl (ac 5 rfl 43 rfl) aD ?_
       refine r_fieldAddr ak 0 4 4 ((ab 7 rfl).trans bP) rfl fo27_4 rfl ?_
       exact d0 ⟨rfl, aa⟩
      ·intro _ _ _ _ _ _ _ _ aa _ ab
       obtain ⟨_, ac⟩ := id aa
       have ad := ac
       refine gd1 rfl (ab 5 rfl 43 rfl) aD ?_
       refine r_load ak 4 (lv ax ae.2.2.length ay) (ab 6 rfl 44 rfl) rfl (loads_one to23 ((ad.cell 4).trans rfl)) ?_
       exact d0 ⟨rfl, aa⟩
      ·intro _ _ _ _ _ _ _ _ aa ab ac
       refine gd1 rfl (ac 5 rfl 43 rfl) aD ?_
       refine r_move (iv aH) ((ab 9 rfl).trans bg) rfl ?_
       exact d0 ⟨rfl, aa⟩
      ·intro _ _ _ _ _ _ _ aa ab _ ac
       refine gd1 rfl (ac 5 rfl 43 rfl) aD ?_
       refine r_indexAddr (T := 23) (E := 60) ((aT.mono bf).mono aa) dI (ac 7 rfl 45 rfl) (ac 8 rfl 46 rfl) rfl rfl underlying23 sz60 ?_
       intro _ _ _ ad af
       obtain rfl := Key.cells_iff.1 ad
       exact d0 ⟨⟨_, _, _, rfl, (Key.cells_iff.2 rfl), af⟩, ab⟩
      ·intro _ aa ab _ _ _ _ _ ac _ ad
       obtain ⟨af, ah, _, ag, ai, aj⟩ : (Fct.elem (x127 : Key)).p (aa 47) ab := ad 9 rfl 47 rfl
       obtain rfl := Key.cells_iff.1 ai
       refine gd1 rfl (ad 5 rfl 43 rfl) aD ?_
       refine r_load af ah (Key.ag x127) ag rfl (loads_row tr60 aj.2) ?_
       exact d0 ⟨(Key.rpvMk (v := x127) ), ac⟩
      ·intro _ _ _ _ _ _ _ _ aa ab ac
       refine gd1 rfl (ac 5 rfl 43 rfl) aD ?_
       refine r_move (lv A1 a0.length c2) ((ab 0 rfl).trans dG) rfl ?_
       exact d0 ⟨rfl, aa⟩
      ·intro _ _ _ _ _ _ _ _ aa ab ac
       refine gd1 rfl (ac 5 rfl 43 rfl) aD ?_
       refine r_move (iv ae.1) ((ab 8 rfl).trans dH) rfl ?_
       exact d0 ⟨rfl, aa⟩
      ·intro _ _ _ _ _ _ _ aa ab _ ac
       refine gd1 rfl (ac 5 rfl 43 rfl) aD ?_
       refine r_indexAddr (T := 23) (E := 60) (((((((h3.mono k9.wext).mono a6).mono aP.wext).mono aQ.wext).mono aN).mono bf).mono aa) dJ (ac 11 rfl 49 rfl) (ac 12 rfl 50 rfl) rfl rfl underlying23 sz60 ?_
       intro _ _ _ ad af
       obtain rfl := Key.cells_iff.1 ad
       exact d0 ⟨⟨_, _, _, rfl, (Key.cells_iff.2 rfl), af⟩, ab⟩
      ·intro _ aa ab _ _ _ _ _ ac _ ad
       obtain ⟨af, ah, _, ag, ai, aj⟩ : (Fct.elem (x129 : Key)).p (aa 51) ab := ad 13 rfl 51 rfl
       obtain rfl := Key.cells_iff.1 ai
       refine gd1 rfl (ad 5 rfl 43 rfl) aD ?_
       refine r_load af ah (Key.ag x129) ag rfl (loads_row tr60 aj.2) ?_
       exact d0 ⟨(Key.rpvMk (v := x129) ), ac⟩
      ·intro _ aa ab _ _ _ ac _ ad _ af
       have ah := bO.trans ac
       obtain ⟨ag, ai⟩ := id ad
       have aj : RpV ab (x127 : Key) (aa 48) := af 10 rfl 48 rfl
       have ao := Key.rpv aj
       have aq : RpV ab (x129 : Key) (aa 52) := af 14 rfl 52 rfl
       have av := Key.rpv aq
       refine gd1 rfl (af 5 rfl 43 rfl) aD ?_
       refine r_call [Key.ag x127, Key.ag x129] (evs2 ao av) rfl (ok_semtyperef1_CompareKeys _ _ _ _ _ _ (Key.rpvMk (v := x127) ) (Key.rpvMk (v := x129) ) dK) ?_
       intro _ _ am al
       obtain rfl := RpV.int al
       exact d1 ah (Nat.le_refl _) am ⟨rfl, ⟨(ag.ext am), (ai.ext am)⟩⟩
      ·intro _ _ _ _ _ _ _ _ aa _ ab
       refine gd1 rfl (ab 5 rfl 43 rfl) aD ?_
       refine r_bin (iv aU) (iv 0) (bv (decide (aU < 0))) (ab 15 rfl 53 rfl) rfl rfl rfl (b_lss) ?_
       exact d0 ⟨rfl, aa⟩
      ·intro _ _ _ _ _ _ _ _ aa _ ab
       refine r_pick_t (c := decide (aH < (ae.2.2.length : Int))) (bv (decide (aU < 0))) (ab 5 rfl 43 rfl) aD (ab 16 rfl 54 rfl) rfl rfl rfl ?_
       exact d0 ⟨rfl, aa⟩
      intro dL _ dM cB dN bQ dO
      have cC := bO.trans dM
      obtain ⟨dP, dQ⟩ := dN
      have cD := dP
      have cE := dQ
      have cF := (bQ 9 rfl).trans bg
      have cG : dL 55 = (bv (decide (aU < 0))) := dO 17 55 rfl
      refine j1 ?_
      refine if_else hf (fun bR hf => ?_) (fun bR hf => ?_)
      ·refine c_true cG bR rfl ?_
       refine ja (j1 (j4 (j3 ?_)))
       refine r_move (iv aH) cF rfl ?_
       refine r_bin (iv aH) (iv 1) (iv (w64 (aH + 1))) rfl rfl rfl rfl (b_add) ?_
       refine r_assign (iv (w64 (aH + 1))) rfl rfl ?_
       refine j0 (j5 ?_)
       obtain rfl := oi hf
       exact ⟨rfl, _, _, rfl, rfl, (((((a7).draw bQ rfl).put rfl).put rfl).put rfl), cC, (((Wext.refl _).trans bf).trans cB), rfl, cD, cE⟩
      refine c_false cG bR rfl ?_
      refine jc (j8 ?_)
      obtain rfl := oi hf
      exact ⟨rfl, _, _, rfl, rfl, ((a7).draw bQ rfl), cC, (((Wext.refl _).trans bf).trans cB), cF, cD, cE⟩
     refine wp_draw (B := frExt s0.N) (sm 38 18) [[], [], [1], [1, 2], rg 4, rg 5, rg 6, rg 7, rg 6, rg 9, rg 10, rg 6, rg 6, (rg 6 ++ [11, 12]), (rg 6 ++ [11, 12, 13]), rg 15, rg 16, rg 17] [Fct.eqv (iv aH), Fct.eqv (.pointer (some ⟨ak, 4, none⟩)), Fct.eqv (lv ax ae.2.2.length ay), Fct.eqv (iv (ae.2.2.length : Int)), Fct.eqv (bv (decide (aH < (ae.2.2.length : Int)))), Fct.eqv (bv (decide (aH < (ae.2.2.length : Int)))), Fct.eqv undef, Fct.eqv undef, Fct.eqv undef, Fct.eqv undef, Fct.eqv undef, Fct.eqv undef, Fct.eqv undef, Fct.eqv undef, Fct.eqv undef, Fct.eqv undef, Fct.eqv undef, Fct.eqv (bv false)] (fun D F τ => (Blk s0.N 1 τ b7 27 [iv 0, iv 0, tv (⟨#[]⟩), nl Val, nl Key, nl Ent, nl ByteArray]) ∧ (Blk s0.N 2 τ ak 27 [iv 8, iv 0, tv (⟨#[]⟩), lv aB ae.2.1.length aC, lv ax ae.2.2.length ay, nl Ent, nl ByteArray])) (by kernel_rfl) rfl (by decide) (by decide) ⟨(cz.ext (ext_draw _)), (cA.ext (ext_draw _))⟩ (by decide) (by decide) ⟨?_, ?_, ?_, ?_, ?_, ?_, ?_, ?_, ?_, ?_, ?_, ?_, ?_, ?_, ?_, ?_, ?_, ?_, trivial⟩ ?_
     ·intro _ _ _ _ _ _ _ _ aa ab _
      refine r_move (iv aH) ((ab 9 rfl).trans bg) rfl ?_
      exact d0 ⟨rfl, aa⟩
     ·intro _ _ _ _ _ _ _ _ aa ab _
      obtain ⟨_, _⟩ := id aa
      refine r_fieldAddr ak 0 4 4 ((ab 7 rfl).trans bP) rfl fo27_4 rfl ?_
      exact d0 ⟨rfl, aa⟩
     ·intro _ _ _ _ _ _ _ _ aa _ ab
      obtain ⟨_, ac⟩ := id aa
      have ad := ac
      refine r_load ak 4 (lv ax ae.2.2.length ay) (ab 1 rfl 39 rfl) rfl (loads_one to23 ((ad.cell 4).trans rfl)) ?_
      exact d0 ⟨rfl, aa⟩
     ·intro _ _ _ _ _ _ _ _ aa _ ab
      refine r_len ax ae.2.2.length ay (ab 2 rfl 40 rfl) rfl underlying23 ?_
      exact d0 ⟨rfl, aa⟩
     ·intro _ _ _ _ _ _ _ _ aa _ ab
      refine r_bin (iv aH) (iv (ae.2.2.length : Int)) (bv (decide (aH < (ae.2.2.length : Int)))) (ab 0 rfl 38 rfl) (ab 3 rfl 41 rfl) rfl rfl (b_lss) ?_
      exact d0 ⟨rfl, aa⟩
     ·intro _ _ _ _ _ _ _ _ aa _ ab
      refine r_move (bv (decide (aH < (ae.2.2.length : Int)))) (ab 4 rfl 42 rfl) rfl ?_
      exact d0 ⟨rfl, aa⟩
     ·intro _ _ _ _ _ _ _ _ aa _ ab
      exact gd0 rfl (ab 5 rfl 43 rfl) aD ⟨rfl, aa⟩
     ·intro _ aa _ _ _ _ _ _ ab _ ac
      have ad : aa 44 = undef := ac 6 rfl 44 rfl
      exact gd0 rfl (ac 5 rfl 43 rfl) aD ⟨rfl, ab⟩
     ·intro _ _ _ _ _ _ _ _ aa _ ab
      exact gd0 rfl (ab 5 rfl 43 rfl) aD ⟨rfl, aa⟩
     ·intro _ aa _ _ _ _ _ _ ab _ ac
      have ad : aa 45 = undef := ac 7 rfl 45 rfl
      have af : aa 46 = undef := ac 8 rfl 46 rfl
      exact gd0 rfl (ac 5 rfl 43 rfl) aD ⟨rfl, ab⟩
     ·intro _ aa _ _ _ _ _ _ ab _ ac
      have ad : aa 47 = undef := ac 9 rfl 47 rfl
      exact gd0 rfl (ac 5 rfl 43 rfl) aD ⟨rfl, ab⟩
     ·intro _ _ _ _ _ _ _ _ aa _ ab
      exact gd0 rfl (ab 5 rfl 43 rfl) aD ⟨rfl, aa⟩
     ·intro _ _ _ _ _ _ _ _ aa _ ab
      exact gd0 rfl (ab 5 rfl 43 rfl) aD ⟨rfl, aa⟩
     ·intro _ aa _ _ _ _ _ _ ab _ ac
      have ad : aa 49 = undef := ac 11 rfl 49 rfl
      have af : aa 50 = undef := ac 12 rfl 50 rfl
      exact gd0 rfl (ac 5 rfl 43 rfl) aD ⟨rfl, ab⟩
     ·intro _ aa _ _ _ _ _ _ ab _ ac
      have ad : aa 51 = undef := ac 13 rfl 51 rfl
      exact gd0 rfl (ac 5 rfl 43 rfl) aD ⟨rfl, ab⟩
     ·intro _ aa _ _ _ _ _ _ ab _ ac
      have ad : aa 48 = undef := ac 10 rfl 48 rfl
      have af : aa 52 = undef := ac 14 rfl 52 rfl
      exact gd0 rfl (ac 5 rfl 43 rfl) aD ⟨rfl, ab⟩
     ·intro _ aa _ _ _ _ _ _ ab _ ac
      have ad : aa 53 = undef := ac 15 rfl 53 rfl
      exact gd0 rfl (ac 5 rfl 43 rfl) aD ⟨rfl, ab⟩
     ·intro _ aa _ _ _ _ _ _ ab _ ac
      have ad : aa 54 = undef := ac 16 rfl 54 rfl
      refine r_pick_f (c := decide (aH < (ae.2.2.length : Int))) (bv false) (ac 5 rfl 43 rfl) aD rfl rfl rfl rfl ?_
      exact d0 ⟨rfl, ab⟩
     intro _ _ dR dS dT cH dU
     have dV := bO.trans dR
     obtain ⟨dW, dX⟩ := dT
     have dY := dW
     have dZ := dX
     have d2 := (cH 9 rfl).trans bg
     refine j1 ?_
     refine c_false (dU 17 55 rfl) rfl rfl ?_
     refine jc (j8 ?_)
     obtain rfl := oi hf
     exact ⟨rfl, _, _, rfl, rfl, ((a7).draw cH rfl), dV, (((Wext.refl _).trans bf).trans dS), d2, dY, dZ⟩
    ·exact ⟨_, _, rfl, rfl, (Agr.refl _ _), cs, (Wext.refl _), dE, ct, cu⟩
    rintro e a w ⟨rfl, gz, gA, rfl, rfl, aV, cI, aJ, bh, cJ, cK⟩
    have bS := (aV 0 rfl).trans cw
    have cL := (aV 1 rfl).trans dC
    have d3 := (aV 4 rfl).trans dD
    have bi := (aV 7 rfl).trans cx
    have bT := (aV 8 rfl).trans cy
    refine j6 (j1 (j2 (j2 ?_)))
    refine if_else hf (fun aE hf => ?_) (fun aE hf => ?_)
    ·obtain ⟨x790, d4, hf⟩ := bind_some hf
     obtain ⟨x792, d5, hf⟩ := bind_some hf
     refine wp_draw (B := frExt s0.N) (sm 58 17) [[], [], [1], [1, 2], rg 4, rg 5, rg 6, rg 7, rg 6, rg 9, rg 10, rg 6, rg 6, (rg 6 ++ [11, 12]), (rg 6 ++ [11, 12, 13]), rg 15, rg 16] [Fct.eqv (iv aw), Fct.eqv (.pointer (some ⟨ak, 4, none⟩)), Fct.eqv (lv ax ae.2.2.length ay), Fct.eqv (iv (ae.2.2.length : Int)), Fct.eqv (bv (decide (aw < (ae.2.2.length : Int)))), Fct.eqv (bv (decide (aw < (ae.2.2.length : Int)))), Fct.eqv (.pointer (some ⟨ak, 4, none⟩)), Fct.eqv (lv ax ae.2.2.length ay), Fct.eqv (iv aw), Fct.elem (x790 : Key), Fct.data (x790 : Key), Fct.eqv (lv A1 a0.length c2), Fct.eqv (iv ae.1), Fct.elem (x792 : Key), Fct.data (x792 : Key), Fct.eqv (bv ((x790.Kind == x792.Kind) && ((strEq x790.Text x792.Text) && true))), Fct.eqv (bv ((x790.Kind == x792.Kind) && ((strEq x790.Text x792.Text) && true)))] (fun D F τ => (Blk s0.N 1 τ b7 27 [iv 0, iv 0, tv (⟨#[]⟩), nl Val, nl Key, nl Ent, nl ByteArray]) ∧ (Blk s0.N 2 τ ak 27 [iv 8, iv 0, tv (⟨#[]⟩), lv aB ae.2.1.length aC, lv ax ae.2.2.length ay, nl Ent, nl ByteArray])) (by kernel_rfl) rfl (by decide) (by decide) ⟨(cJ.ext (ext_draw _)), (cK.ext (ext_draw _))⟩ (by decide) (by decide) ⟨?_, ?_, ?_, ?_, ?_, ?_, ?_, ?_, ?_, ?_, ?_, ?_, ?_, ?_, ?_, ?_, ?_, trivial⟩ ?_
     ·intro _ _ _ _ _ _ _ _ aa ab _
      refine r_move (iv aw) ((ab 9 rfl).trans bh) rfl ?_
      exact d0 ⟨rfl, aa⟩
     ·intro _ _ _ _ _ _ _ _ aa ab _
      obtain ⟨_, _⟩ := id aa
      refine r_fieldAddr ak 0 4 4 ((ab 7 rfl).trans bi) rfl fo27_4 rfl ?_
      exact d0 ⟨rfl, aa⟩
     ·intro _ _ _ _ _ _ _ _ aa _ ab
      obtain ⟨_, ac⟩ := id aa
      have ad := ac
      refine r_load ak 4 (lv ax ae.2.2.length ay) (ab 1 rfl 59 rfl) rfl (loads_one to23 ((ad.cell 4).trans rfl)) ?_
      exact d0 ⟨rfl, aa⟩
     ·intro _ _ _ _ _ _ _ _ aa _ ab
      refine r_len ax ae.2.2.length ay (ab 2 rfl 60 rfl) rfl underlying23 ?_
      exact d0 ⟨rfl, aa⟩
     ·intro _ _ _ _ _ _ _ _ aa _ ab
      refine r_bin (iv aw) (iv (ae.2.2.length : Int)) (bv (decide (aw < (ae.2.2.length : Int)))) (ab 0 rfl 58 rfl) (ab 3 rfl 61 rfl) rfl rfl (b_lss) ?_
      exact d0 ⟨rfl, aa⟩
     ·intro _ _ _ _ _ _ _ _ aa _ ab
      refine r_move (bv (decide (aw < (ae.2.2.length : Int)))) (ab 4 rfl 62 rfl) rfl ?_
      exact d0 ⟨rfl, aa⟩
     ·intro _ _ _ _ _ _ _ _ aa ab ac
      obtain ⟨_, _⟩ := id aa
      refine gd1 rfl (ac 5 rfl 63 rfl) aE ?_
      refine r_fieldAddr ak 0 4 4 ((ab 7 rfl).trans bi) rfl fo27_4 rfl ?_
      exact d0 ⟨rfl, aa⟩
     ·intro _ _ _ _ _ _ _ _ aa _ ab
      obtain ⟨_, ac⟩ := id aa
      have ad := ac
      refine gd1 rfl (ab 5 rfl 63 rfl) aE ?_
      refine r_load ak 4 (lv ax ae.2.2.length ay) (ab 6 rfl 64 rfl) rfl (loads_one to23 ((ad.cell 4).trans rfl)) ?_
      exact d0 ⟨rfl, aa⟩
     ·intro _ _ _ _ _ _ _ _ aa ab ac
      refine gd1 rfl (ac 5 rfl 63 rfl) aE ?_
      refine r_move (iv aw) ((ab 9 rfl).trans bh) rfl ?_
      exact d0 ⟨rfl, aa⟩
     ·intro _ _ _ _ _ _ _ aa ab _ ac
      refine gd1 rfl (ac 5 rfl 63 rfl) aE ?_
      refine r_indexAddr (T := 23) (E := 60) ((aT.mono aJ).mono aa) d4 (ac 7 rfl 65 rfl) (ac 8 rfl 66 rfl) rfl rfl underlying23 sz60 ?_
      intro _ _ _ ad af
      obtain rfl := Key.cells_iff.1 ad
      exact d0 ⟨⟨_, _, _, rfl, (Key.cells_iff.2 rfl), af⟩, ab⟩
     ·intro _ aa ab _ _ _ _ _ ac _ ad
      obtain ⟨af, ah, _, ag, ai, aj⟩ : (Fct.elem (x790 : Key)).p (aa 67) ab := ad 9 rfl 67 rfl
      obtain rfl := Key.cells_iff.1 ai
      refine gd1 rfl (ad 5 rfl 63 rfl) aE ?_
      refine r_load af ah (Key.ag x790) ag rfl (loads_row tr60 aj.2) ?_
      exact d0 ⟨(Key.rpvMk (v := x790) ), ac⟩
     ·intro _ _ _ _ _ _ _ _ aa ab ac
      refine gd1 rfl (ac 5 rfl 63 rfl) aE ?_
      refine r_move (lv A1 a0.length c2) ((ab 0 rfl).trans bS) rfl ?_
      exact d0 ⟨rfl, aa⟩
     ·intro _ _ _ _ _ _ _ _ aa ab ac
      refine gd1 rfl (ac 5 rfl 63 rfl) aE ?_
      refine r_move (iv ae.1) ((ab 8 rfl).trans bT) rfl ?_
      exact d0 ⟨rfl, aa⟩
     ·intro _ _ _ _ _ _ _ aa ab _ ac
      refine gd1 rfl (ac 5 rfl 63 rfl) aE ?_
      refine r_indexAddr (T := 23) (E := 60) (((((((h3.mono k9.wext).mono a6).mono aP.wext).mono aQ.wext).mono aN).mono aJ).mono aa) d5 (ac 11 rfl 69 rfl) (ac 12 rfl 70 rfl) rfl rfl underlying23 sz60 ?_
      intro _ _ _ ad af
      obtain rfl := Key.cells_iff.1 ad
      exact d0 ⟨⟨_, _, _, rfl, (Key.cells_iff.2 rfl), af⟩, ab⟩
     ·intro _ aa ab _ _ _ _ _ ac _ ad
      obtain ⟨af, ah, _, ag, ai, aj⟩ : (Fct.elem (x792 : Key)).p (aa 71) ab := ad 13 rfl 71 rfl
      obtain rfl := Key.cells_iff.1 ai
      refine gd1 rfl (ad 5 rfl 63 rfl) aE ?_
      refine r_load af ah (Key.ag x792) ag rfl (loads_row tr60 aj.2) ?_
      exact d0 ⟨(Key.rpvMk (v := x792) ), ac⟩
     ·intro _ aa ab _ _ _ _ _ ac _ ad
      have af : RpV ab (x790 : Key) (aa 68) := ad 10 rfl 68 rfl
      have ah := Key.rpv af
      have ag : RpV ab (x792 : Key) (aa 72) := ad 14 rfl 72 rfl
      have ai := Key.rpv ag
      refine gd1 rfl (ad 5 rfl 63 rfl) aE ?_
      refine r_bin (Key.ag x790) (Key.ag x792) (bv ((x790.Kind == x792.Kind) && ((strEq x790.Text x792.Text) && true))) ah ai rfl rfl (b_aggeql (k := 2) (by kernel_rfl) (eqAt_struct underlying60 (by kernel_rfl) (eqFs_cons (by decide) (part_one to3 rfl) (part_one to3 rfl) (eqAt_int underlying3) (eqFs_cons (by decide) (part_one to9 rfl) (part_one to9 rfl) (eqAt_str underlying9) eqFs_nil))) (by decide)) ?_
      exact d0 ⟨rfl, ac⟩
     ·intro _ _ _ _ _ _ _ _ aa _ ab
      refine r_pick_t (c := decide (aw < (ae.2.2.length : Int))) (bv ((x790.Kind == x792.Kind) && ((strEq x790.Text x792.Text) && true))) (ab 5 rfl 63 rfl) aE (ab 15 rfl 73 rfl) rfl rfl rfl ?_
      exact d0 ⟨rfl, aa⟩
     intro d6 _ d7 aW d8 aX d9
     have bA := cI.trans d7
     obtain ⟨ea, eb⟩ := d8
     have cM := ea
     have ec := eb
     have ed := (aX 0 rfl).trans bS
     have ee := (aX 1 rfl).trans cL
     have cN := (aX 4 rfl).trans d3
     have bU := (aX 7 rfl).trans bi
     have ef := (aX 8 rfl).trans bT
     have bV := (aX 9 rfl).trans bh
     have cO : d6 74 = (bv ((x790.Kind == x792.Kind) && ((strEq x790.Text x792.Text) && true))) := d9 16 74 rfl
     refine j1 ?_
     refine if_else hf (fun bW hf => ?_) (fun bW hf => ?_)
     ·refine c_true cO bW rfl ?_
      refine j2 (j3 ?_)
      refine r_build tst27 [] [iv 0, iv 0, tv (⟨#[]⟩), nl Val, nl Key, nl Ent, nl ByteArray] eps_nil rfl rfl ?_
      refine r_store cM 0 (.agg #[iv 0, iv 0, tv (⟨#[]⟩), nl Val, nl Key, nl Ent, nl ByteArray]) [iv 0, iv 0, tv (⟨#[]⟩), nl Val, nl Key, nl Ent, nl ByteArray] [iv 0, iv 0, tv (⟨#[]⟩), nl Val, nl Key, nl Ent, nl ByteArray] cN rfl rfl rfl rfl sz27 rfl rfl rfl ?_
      intro _ eg eh
      have ei := bA.y eg
      refine r_assign (iv 6) rfl rfl ?_
      refine j0 (j1 (jb (j9 (j7 (j9 ?_)))))
      obtain rfl := oi hf
      exact ⟨rfl, _, _, (.agg #[iv 0, iv 0, tv (⟨#[]⟩), nl Val, nl Key, nl Ent, nl ByteArray]), (iv 6), rfl, rfl, ei, ⟨rfl, _, cN, loads_row tr27 (Blk.range eh 0 [iv 0, iv 0, tv (⟨#[]⟩), nl Val, nl Key, nl Ent, nl ByteArray] rfl)⟩, (Val.rpvMk (v := (Val.mk 0 0 (⟨#[]⟩) ([] : List Val) ([] : List Key) ([] : List Ent) ([] : List ByteArray))) (Sl.nil_ _ _ _ (Nat.zero_le _)) (Sl.nil_ _ _ _ (Nat.zero_le _)) (Sl.nil_ _ _ _ (Nat.zero_le _)) (Sl.nil_ _ _ _ (Nat.zero_le _))), ⟨rfl, rfl⟩, (RpV.mkInt _ _)⟩
     refine c_false cO bW rfl ?_
     refine ja (j1 (j2 ?_))
     obtain ⟨x1113, ej, hf⟩ := bind_some hf
     obtain ⟨_, ek, hf⟩ := bind_some hf
     obtain ⟨x1117, el, hf⟩ := bind_some hf
     obtain ⟨aF, em, hf⟩ := bind_some hf
     refine wp_draw (B := frExt s0.N) (sm 76 10 ++ [some 10, some 11]) [[], [0], [], rg 3, rg 4, [], [5], [], [5, 6, 7], rg 9, rg 10, rg 11] [Fct.eqv (.pointer (some ⟨ak, 4, none⟩)), Fct.eqv (lv ax ae.2.2.length ay), Fct.eqv (iv aw), Fct.data (x1113 : (List Key)), Fct.data (x1113 : (List Key)), Fct.eqv (.pointer (some ⟨ak, 3, none⟩)), Fct.eqv (lv aB ae.2.1.length aC), Fct.eqv (iv aw), Fct.data (x1117 : (List Val)), Fct.data (aF : (List Val)), Fct.data (x1113 : (List Key)), Fct.data (aF : (List Val))] (fun D F τ => (Blk s0.N 1 τ b7 27 [iv 0, iv 0, tv (⟨#[]⟩), nl Val, nl Key, nl Ent, nl ByteArray]) ∧ (Blk s0.N 2 τ ak 27 [iv 8, iv 0, tv (⟨#[]⟩), lv aB ae.2.1.length aC, lv ax ae.2.2.length ay, nl Ent, nl ByteArray]) ∧ (D 4 = true → ∃ zA zc, F 80 = (lv zA x1113.length zc) ∧ Own s0.N 5 60 τ x1113 zA zc ∧ (D 10 = true → F 10 = (lv zA x1113.length zc))) ∧ (D 9 = true → ∃ zA zc, F 85 = (lv zA aF.length zc) ∧ Own s0.N 1006 27 τ aF zA zc ∧ (D 11 = true → F 11 = (lv zA aF.length zc)))) (by kernel_rfl) rfl (by decide) (by decide) ⟨(cM.ext (ext_draw _)), (ec.ext (ext_draw _)), (fun h => Bool.noConfusion h), (fun h => Bool.noConfusion h)⟩ (by decide) (by decide) ⟨?_, ?_, ?_, ?_, ?_, ?_, ?_, ?_, ?_, ?_, ?_, ?_, trivial⟩ ?_
     ·intro _ _ _ _ _ _ _ _ aa ab _
      obtain ⟨_, _, _, _⟩ := id aa
      refine r_fieldAddr ak 0 4 4 ((ab 7 rfl).trans bU) rfl fo27_4 rfl ?_
      exact d0 ⟨rfl, aa⟩
     ·intro _ _ _ _ _ _ _ _ aa _ ab
      obtain ⟨_, ac, _, _⟩ := id aa
      have ad := ac
      refine r_load ak 4 (lv ax ae.2.2.length ay) (ab 0 rfl 76 rfl) rfl (loads_one to23 ((ad.cell 4).trans rfl)) ?_
      exact d0 ⟨rfl, aa⟩
     ·intro _ _ _ _ _ _ _ _ aa ab _
      refine r_move (iv aw) ((ab 9 rfl).trans bV) rfl ?_
      exact d0 ⟨rfl, aa⟩
     ·intro _ _ _ _ _ _ _ aa ab _ ac
      obtain ⟨ad, af, ah, ag⟩ := sl_cut_h (P := prog) (((aT.mono aJ).mono aW).mono aa) ej underlying23 sz60
      refine r_slice (lv ax ae.2.2.length ay) (lv ad x1113.length af) none (some (iv aw)) none (ac 1 rfl 77 rfl) rfl rfl (om (ac 2 rfl 78 rfl)) rfl rfl (ah) ?_
      exact d0 ⟨(RpV.mkList ag), ab⟩
     ·intro _ aa ab _ _ ac ad _ af _ ah
      have ag := bA.trans ad
      obtain ⟨ai, aj, _, _⟩ := id af
      have ao : RpV ab (x1113 : (List Key)) (aa 79) := ah 3 rfl 79 rfl
      obtain ⟨_, _, aq, av⟩ := RpV.list ao
      refine r_append (B := s0.N) (id := 5) (E := 60) (xs := ([] : List Key)) (ys := x1113) ag.size (Own.nil_ _) av ts23 (room_some ek) rfl aq rfl rfl ?_
      intro _ am al ar au
      refine j0 ?_
      exact ⟨_, _, rfl, rfl, (ExtB.refl _ _).trans ((ExtB.refl _ _).mod ag.size ar), (Wext.refl _).trans ar.wext, (RpV.mkList au.sl), ⟨(ai.mod ar rfl), (aj.mod ar rfl), (fun _ => ⟨am, al, rfl, au, (nc (ac 10 rfl))⟩), (nc (ac 9 rfl))⟩⟩
     ·intro _ _ _ _ _ _ _ _ aa ab _
      obtain ⟨_, _, _, _⟩ := id aa
      refine r_fieldAddr ak 0 3 3 ((ab 7 rfl).trans bU) rfl fo27_3 rfl ?_
      exact d0 ⟨rfl, aa⟩
     ·intro _ _ _ _ _ _ _ _ aa _ ab
      obtain ⟨_, ac, _, _⟩ := id aa
      have ad := ac
      refine r_load ak 3 (lv aB ae.2.1.length aC) (ab 5 rfl 81 rfl) rfl (loads_one to22 ((ad.cell 3).trans rfl)) ?_
      exact d0 ⟨rfl, aa⟩
     ·intro _ _ _ _ _ _ _ _ aa ab _
      refine r_move (iv aw) ((ab 9 rfl).trans bV) rfl ?_
      exact d0 ⟨rfl, aa⟩
     ·intro _ _ _ _ _ _ _ aa ab _ ac
      obtain ⟨ad, af, ah, ag⟩ := sl_cut_h (P := prog) (((be.mono aJ).mono aW).mono aa) el underlying22 sz27
      refine r_slice (lv aB ae.2.1.length aC) (lv ad x1117.length af) none (some (iv aw)) none (ac 6 rfl 82 rfl) rfl rfl (om (ac 7 rfl 83 rfl)) rfl rfl (ah) ?_
      exact d0 ⟨(RpV.mkList ag), ab⟩
     ·intro _ aa ab _ _ ac ad _ af _ ah
      have ag := bA.trans ad
      obtain ⟨ai, aj, ao, _⟩ := id af
      have aq : RpV ab (x1117 : (List Val)) (aa 84) := ah 8 rfl 84 rfl
      obtain ⟨av, am, al, ar⟩ := RpV.list aq
      refine r_call [lv av x1117.length am] (evs1 al) rfl (ok_semtyperef1_copies _ _ _ _ (RpV.mkList ar) em 1006 (by omega)) ?_
      intro _ _ au an
      obtain ⟨ap, az, rfl, aI⟩ := an
      exact d1 ag (Nat.le_refl _) au ⟨(RpV.mkList (aI.base (by have := ag.size; omega)).sl), ⟨(ai.ext au), (aj.ext au), (fun y0 => let ⟨zA, zc, zv, zo, zm10⟩ := ao y0; ⟨zA, zc, zv, (zo.ext au), zm10⟩), (fun _ => ⟨ap, az, rfl, (aI.base (by have := ag.size; omega)), (nc (ac 11 rfl))⟩)⟩⟩
     ·intro _ _ _ _ aa _ _ _ ab _ _
      obtain ⟨ac, ad, af, ah⟩ := id ab
      obtain ⟨ag, ai, aj, ao, _⟩ := af (aa 4 rfl)
      refine r_assign (lv ag x1113.length ai) aj rfl ?_
      exact d0 ⟨(RpV.mkList ao.sl), ⟨ac, ad, (fun _ => ⟨ag, ai, aj, ao, (fun _ => rfl)⟩), (fun y0 => let ⟨zA, zc, zv, zo, zm11⟩ := ah y0; ⟨zA, zc, zv, zo, zm11⟩)⟩⟩
     ·intro _ _ _ _ aa _ _ _ ab _ _
      obtain ⟨ac, ad, af, ah⟩ := id ab
      obtain ⟨ag, ai, aj, ao, _⟩ := ah (aa 9 rfl)
      refine r_assign (lv ag aF.length ai) aj rfl ?_
      exact d0 ⟨(RpV.mkList ao.sl), ⟨ac, ad, (fun y0 => let ⟨zA, zc, zv, zo, zm10⟩ := af y0; ⟨zA, zc, zv, zo, zm10⟩), (fun _ => ⟨ag, ai, aj, ao, (fun _ => rfl)⟩)⟩⟩
     intro _ _ en bj eo a8 _
     have bk := bA.trans en
     obtain ⟨ep, eq, er, es⟩ := eo
     have et := ep
     have eu := eq
     obtain ⟨bX, bY, _, ev, ew⟩ := er rfl
     obtain ⟨bB, bC, _, ex, ey⟩ := es rfl
     have ez := (a8 0 rfl).trans ed
     have eA := (a8 1 rfl).trans ee
     have bZ := (a8 7 rfl).trans bU
     have cP := (a8 8 rfl).trans ef
     have cQ := (a8 9 rfl).trans bV
     refine j1 (j2 ?_)
     obtain ⟨x1398, eB, hf⟩ := bind_some hf
     obtain ⟨_, eC, hf⟩ := bind_some hf
     obtain ⟨x1402, eD, hf⟩ := bind_some hf
     obtain ⟨_, eE, hf⟩ := bind_some hf
     refine wp_draw (B := frExt s0.N) (sm 86 13 ++ [none]) [[], [], [], [1, 2], [1, 2, 3], [1, 2, 3, 4], rg 6, [], [7], [], [7, 8, 9], rg 11, rg 12, rg 13] [Fct.eqv (lv bX x1113.length bY), Fct.eqv (lv A1 a0.length c2), Fct.eqv (iv ae.1), Fct.elem (x1398 : Key), Fct.data (x1398 : Key), Fct.data ([x1398] : (List Key)), Fct.data (x1113 ++ [x1398] : (List Key)), Fct.eqv (.pointer (some ⟨ak, 4, none⟩)), Fct.eqv (lv ax ae.2.2.length ay), Fct.eqv (iv aw), Fct.data (x1402 : (List Key)), Fct.data ((x1113 ++ [x1398]) ++ x1402 : (List Key)), Fct.eqv (.pointer (some ⟨ak, 4, none⟩)), Fct.any] (fun D F τ => (Blk s0.N 1 τ b7 27 [iv 0, iv 0, tv (⟨#[]⟩), nl Val, nl Key, nl Ent, nl ByteArray]) ∧ (D 13 = false → Blk s0.N 2 τ ak 27 [iv 8, iv 0, tv (⟨#[]⟩), lv aB ae.2.1.length aC, lv ax ae.2.2.length ay, nl Ent, nl ByteArray]) ∧ (D 13 = true → (∃ (zA4 : Option Addr) (zc4 : Nat), Blk s0.N 2 τ ak 27 [iv 8, iv 0, tv (⟨#[]⟩), lv aB ae.2.1.length aC, lv zA4 ((x1113 ++ [x1398]) ++ x1402).length zc4, nl Ent, nl ByteArray] ∧ Own s0.N 5 60 τ ((x1113 ++ [x1398]) ++ x1402) zA4 zc4)) ∧ (D 6 = false → Own s0.N 5 60 τ x1113 bX bY) ∧ (Own s0.N 1006 27 τ aF bB bC) ∧ (D 6 = true → D 11 = false → ∃ zA zc, F 92 = (lv zA (x1113 ++ [x1398]).length zc) ∧ Own s0.N 5 60 τ (x1113 ++ [x1398]) zA zc) ∧ (D 11 = true → ∃ zA zc, F 97 = (lv zA ((x1113 ++ [x1398]) ++ x1402).length zc) ∧ Own s0.N 5 60 τ ((x1113 ++ [x1398]) ++ x1402) zA zc)) (by kernel_rfl) rfl (by decide) (by decide) ⟨(et.ext (ext_draw _)), (fun _ => (eu.ext (ext_draw _))), (fun h => Bool.noConfusion h), (fun _ => (ev.ext (ext_draw _))), (ex.ext (ext_draw _)), (fun h => Bool.noConfusion h), (fun h => Bool.noConfusion h)⟩ (by decide) (by decide) ⟨?_, ?_, ?_, ?_, ?_, ?_, ?_, ?_, ?_, ?_, ?_, ?_, ?_, ?_, trivial⟩ ?_
     ·intro _ _ _ _ _ _ _ _ aa ab _
      refine r_move (lv bX x1113.length bY) ((ab 10 rfl).trans (ew rfl)) rfl ?_
      exact d0 ⟨rfl, aa⟩
     ·intro _ _ _ _ _ _ _ _ aa ab _
      refine r_move (lv A1 a0.length c2) ((ab 0 rfl).trans ez) rfl ?_
      exact d0 ⟨rfl, aa⟩
     ·intro _ _ _ _ _ _ _ _ aa ab _
      refine r_move (iv ae.1) ((ab 8 rfl).trans cP) rfl ?_
      exact d0 ⟨rfl, aa⟩
     ·intro _ _ _ _ _ _ _ aa ab _ ac
      refine r_indexAddr (T := 23) (E := 60) (((((((((h3.mono k9.wext).mono a6).mono aP.wext).mono aQ.wext).mono aN).mono aJ).mono aW).mono bj).mono aa) eB (ac 1 rfl 87 rfl) (ac 2 rfl 88 rfl) rfl rfl underlying23 sz60 ?_
      intro _ _ _ ad af
      obtain rfl := Key.cells_iff.1 ad
      exact d0 ⟨⟨_, _, _, rfl, (Key.cells_iff.2 rfl), af⟩, ab⟩
     ·intro _ aa ab _ _ _ _ _ ac _ ad
      obtain ⟨af, ah, _, ag, ai, aj⟩ : (Fct.elem (x1398 : Key)).p (aa 89) ab := ad 3 rfl 89 rfl
      obtain rfl := Key.cells_iff.1 ai
      refine r_load af ah (Key.ag x1398) ag rfl (loads_row tr60 aj.2) ?_
      exact d0 ⟨(Key.rpvMk (v := x1398) ), ac⟩
     ·intro _ aa ab _ _ ac ad _ af _ ah
      have ag := bk.trans ad
      obtain ⟨ai, aj, _, ao, aq, _, _⟩ := id af
      have av : RpV ab (x1398 : Key) (aa 90) := ah 4 rfl 90 rfl
      have am := Key.rpv av
      refine r_buildSlice (B := s0.N) (E := 60) 7 ag.size ts23 (xs := [x1398]) [Key.ag x1398] (eps_cons am eps_nil) rfl rfl rfl (by decide) rfl (by simp [Value.cells, Rp.sz]) ⟨_, _, rfl, (Key.cells_iff.2 rfl), rfl⟩ ?_
      intro _ _ _ al ar
      exact d1 ag (Nat.le_refl _) al ⟨(RpV.mkList ar.sl), ⟨(ai.ext al), (fun y0 => ((aj y0).ext al)), (nc (ac 13 rfl)), (fun h => ((ao h).ext al)), (aq.ext al), (nc (ac 6 rfl)), (nc (ac 11 rfl))⟩⟩
     ·intro _ aa ab ac _ ad af _ ah _ ag
      have ai := bk.trans af
      obtain ⟨aj, ao, _, aq, av, _, _⟩ := id ah
      have am : RpV ab ([x1398] : (List Key)) (aa 91) := ag 5 rfl 91 rfl
      obtain ⟨_, _, al, ar⟩ := RpV.list am
      refine r_append (B := s0.N) (id := 5) (E := 60) (xs := x1113) (ys := [x1398]) ai.size ((aq ac)) ar ts23 (room_some eC) (ag 0 rfl 86 rfl) al rfl rfl ?_
      intro _ au an ap az
      refine j0 ?_
      exact ⟨_, _, rfl, rfl, (ExtB.refl _ _).trans ((ExtB.refl _ _).mod ai.size ap), (Wext.refl _).trans ap.wext, (RpV.mkList az.sl), ⟨(aj.mod ap rfl), (fun y0 => ((ao y0).mod ap rfl)), (nc (ad 13 rfl)), (fun h => Bool.noConfusion h), (av.mod ap rfl), (fun _ _ => ⟨au, an, rfl, az⟩), (nc (ad 11 rfl))⟩⟩
     ·intro _ _ _ _ _ _ _ _ aa ab _
      obtain ⟨_, _, _, _, _, _, _⟩ := id aa
      refine r_fieldAddr ak 0 4 4 ((ab 7 rfl).trans bZ) rfl fo27_4 rfl ?_
      exact d0 ⟨rfl, aa⟩
     ·intro _ _ _ _ _ aa _ _ ab _ ac
      obtain ⟨_, ad, _, _, _, _, _⟩ := id ab
      have af := ad (aa 13 rfl)
      refine r_load ak 4 (lv ax ae.2.2.length ay) (ac 7 rfl 93 rfl) rfl (loads_one to23 ((af.cell 4).trans rfl)) ?_
      exact d0 ⟨rfl, ab⟩
     ·intro _ _ _ _ _ _ _ _ aa ab _
      refine r_move (iv aw) ((ab 9 rfl).trans cQ) rfl ?_
      exact d0 ⟨rfl, aa⟩
     ·intro _ _ _ _ _ _ _ aa ab _ ac
      obtain ⟨ad, af, ah, ag⟩ := sl_cut_l (P := prog) ((((aT.mono aJ).mono aW).mono bj).mono aa) eD underlying23 sz60
      refine r_slice (lv ax ae.2.2.length ay) (lv ad x1402.length af) (some (iv aw)) none none (ac 8 rfl 94 rfl) rfl (om (ac 9 rfl 95 rfl)) rfl rfl rfl (ah) ?_
      exact d0 ⟨(RpV.mkList ag), ab⟩
     ·intro _ aa ab ac ad af ah _ ag _ ai
      have aj := bk.trans ah
      obtain ⟨ao, aq, _, _, av, am, _⟩ := id ag
      obtain ⟨_, _, al, ar⟩ := am (ad 6 rfl) ac
      have au : RpV ab (x1402 : (List Key)) (aa 96) := ai 10 rfl 96 rfl
      obtain ⟨_, _, an, ap⟩ := RpV.list au
      refine r_append (B := s0.N) (id := 5) (E := 60) (xs := x1113 ++ [x1398]) (ys := x1402) aj.size (ar) ap ts23 (room_some eE) al an rfl rfl ?_
      intro _ az aI aA aL
      refine j0 ?_
      exact ⟨_, _, rfl, rfl, (ExtB.refl _ _).trans ((ExtB.refl _ _).mod aj.size aA), (Wext.refl _).trans aA.wext, (RpV.mkList aL.sl), ⟨(ao.mod aA rfl), (fun y0 => ((aq y0).mod aA rfl)), (nc (af 13 rfl)), (nc (ad 6 rfl)), (av.mod aA rfl), (fun _ h => Bool.noConfusion h), (fun _ => ⟨az, aI, rfl, aL⟩)⟩⟩
     ·intro _ _ _ _ _ _ _ _ aa ab _
      obtain ⟨_, _, _, _, _, _, _⟩ := id aa
      refine r_fieldAddr ak 0 4 4 ((ab 7 rfl).trans bZ) rfl fo27_4 rfl ?_
      exact d0 ⟨rfl, aa⟩
     ·intro _ _ _ aa ab _ ac _ ad _ af
      have ah := bk.trans ac
      obtain ⟨ag, ai, _, _, aj, ao, aq⟩ := id ad
      have av := ai aa
      obtain ⟨am, al, ar, au⟩ := aq (ab 11 rfl)
      refine r_store av 4 (lv am ((x1113 ++ [x1398]) ++ x1402).length al) [lv am ((x1113 ++ [x1398]) ++ x1402).length al] [iv 8, iv 0, tv (⟨#[]⟩), lv aB ae.2.1.length aC, lv am ((x1113 ++ [x1398]) ++ x1402).length al, nl Ent, nl ByteArray] (af 12 rfl 98 rfl) ar rfl rfl rfl sz23 rfl rfl rfl ?_
      intro _ an ap
      refine j0 ?_
      exact ⟨_, _, rfl, rfl, (ExtB.refl _ _).trans ((ExtB.refl _ _).mod ah.size an), (Wext.refl _).trans an.wext, trivial, ⟨(ag.mod an rfl), (fun h => Bool.noConfusion h), (fun _ => ⟨am, al, ap, (au.mod an rfl)⟩), (nc (ab 6 rfl)), (aj.mod an rfl), (fun y0 y1 => let ⟨zA, zc, zv, zo⟩ := ao y0 y1; ⟨zA, zc, zv, (zo.mod an rfl)⟩), (fun y0 => let ⟨zA, zc, zv, zo⟩ := aq y0; ⟨zA, zc, zv, (zo.mod an rfl)⟩)⟩⟩
     intro _ _ eF b0 eG a9 _
     have bl := bk.trans eF
     obtain ⟨eH, _, eI, _, eJ, _, eK⟩ := eG
     have eL := eH
     obtain ⟨bm, bn, eM, eN⟩ := eI rfl
     obtain ⟨_, _, _, _⟩ := eK rfl
     have eO := (a9 1 rfl).trans eA
     have cR := (a9 7 rfl).trans bZ
     have cS := (a9 8 rfl).trans cP
     have eP := (a9 9 rfl).trans cQ
     have eQ := (a9 11 rfl).trans (ey rfl)
     refine j1 ?_
     obtain ⟨x1775, eR, hf⟩ := bind_some hf
     obtain ⟨_, eS, hf⟩ := bind_some hf
     obtain ⟨x1779, eT, hf⟩ := bind_some hf
     obtain ⟨_, eU, hf⟩ := bind_some hf
     refine wp_draw (B := frExt s0.N) (sm 99 13 ++ [none]) [[], [], [], [1, 2], [1, 2, 3], [1, 2, 3, 4], rg 6, [], [7], [], [7, 8, 9], rg 11, rg 12, rg 13] [Fct.eqv (lv bB aF.length bC), Fct.eqv (lv A4 a1.length c5), Fct.eqv (iv ae.1), Fct.elem (x1775 : Val), Fct.data (x1775 : Val), Fct.data ([x1775] : (List Val)), Fct.data (aF ++ [x1775] : (List Val)), Fct.eqv (.pointer (some ⟨ak, 3, none⟩)), Fct.eqv (lv aB ae.2.1.length aC), Fct.eqv (iv aw), Fct.data (x1779 : (List Val)), Fct.data ((aF ++ [x1775]) ++ x1779 : (List Val)), Fct.eqv (.pointer (some ⟨ak, 3, none⟩)), Fct.any] (fun D F τ => (Blk s0.N 1 τ b7 27 [iv 0, iv 0, tv (⟨#[]⟩), nl Val, nl Key, nl Ent, nl ByteArray]) ∧ (D 13 = false → Blk s0.N 2 τ ak 27 [iv 8, iv 0, tv (⟨#[]⟩), lv aB ae.2.1.length aC, lv bm ((x1113 ++ [x1398]) ++ x1402).length bn, nl Ent, nl ByteArray]) ∧ (D 13 = true → (∃ (zA3 : Option Addr) (zc3 : Nat), Blk s0.N 2 τ ak 27 [iv 8, iv 0, tv (⟨#[]⟩), lv zA3 ((aF ++ [x1775]) ++ x1779).length zc3, lv bm ((x1113 ++ [x1398]) ++ x1402).length bn, nl Ent, nl ByteArray] ∧ Own s0.N 1006 27 τ ((aF ++ [x1775]) ++ x1779) zA3 zc3)) ∧ (D 6 = false → Own s0.N 1006 27 τ aF bB bC) ∧ (Own s0.N 5 60 τ ((x1113 ++ [x1398]) ++ x1402) bm bn) ∧ (D 6 = true → D 11 = false → ∃ zA zc, F 105 = (lv zA (aF ++ [x1775]).length zc) ∧ Own s0.N 1006 27 τ (aF ++ [x1775]) zA zc) ∧ (D 11 = true → ∃ zA zc, F 110 = (lv zA ((aF ++ [x1775]) ++ x1779).length zc) ∧ Own s0.N 1006 27 τ ((aF ++ [x1775]) ++ x1779) zA zc)) (by kernel_rfl) rfl (by decide) (by decide) ⟨(eL.ext (ext_draw _)), (fun _ => (eM.ext (ext_draw _))), (fun h => Bool.noConfusion h), (fun _ => (eJ.ext (ext_draw _))), (eN.ext (ext_draw _)), (fun h => Bool.noConfusion h), (fun h => Bool.noConfusion h)⟩ (by decide) (by decide) ⟨?_, ?_, ?_, ?_, ?_, ?_, ?_, ?_, ?_, ?_, ?_, ?_, ?_, ?_, trivial⟩ ?_
     ·intro _ _ _ _ _ _ _ _ aa ab _
      refine r_move (lv bB aF.length bC) ((ab 11 rfl).trans eQ) rfl ?_
      exact d0 ⟨rfl, aa⟩
     ·intro _ _ _ _ _ _ _ _ aa ab _
      refine r_move (lv A4 a1.length c5) ((ab 1 rfl).trans eO) rfl ?_
      exact d0 ⟨rfl, aa⟩
     ·intro _ _ _ _ _ _ _ _ aa ab _
      refine r_move (iv ae.1) ((ab 8 rfl).trans cS) rfl ?_
      exact d0 ⟨rfl, aa⟩
     ·intro _ _ _ _ _ _ _ aa ab _ ac
      refine r_indexAddr (T := 22) (E := 27) ((((((((((h6.mono k9.wext).mono a6).mono aP.wext).mono aQ.wext).mono aN).mono aJ).mono aW).mono bj).mono b0).mono aa) eR (ac 1 rfl 100 rfl) (ac 2 rfl 101 rfl) rfl rfl underlying22 sz27 ?_
      intro _ _ _ ad af
      obtain ⟨_, _, _, _, _, _, _, _, rfl, ah, ag, ai, aj⟩ := Val.cells_iff.1 ad
      exact d0 ⟨⟨_, _, _, rfl, (Val.cells_iff.2 ⟨_, _, _, _, _, _, _, _, rfl, ah, ag, ai, aj⟩), af⟩, ab⟩
     ·intro _ aa ab _ _ _ _ _ ac _ ad
      obtain ⟨af, ah, _, ag, ai, aj⟩ : (Fct.elem (x1775 : Val)).p (aa 102) ab := ad 3 rfl 102 rfl
      obtain ⟨ao, aq, av, am, al, ar, au, an, rfl, ap, az, aI, aA⟩ := Val.cells_iff.1 ai
      refine r_load af ah (Val.ag x1775 ao aq av am al ar au an) ag rfl (loads_row tr27 aj.2) ?_
      exact d0 ⟨(Val.rpvMk (v := x1775) ap az aI aA), ac⟩
     ·intro _ aa ab _ _ ac ad _ af _ ah
      have ag := bl.trans ad
      obtain ⟨ai, aj, _, ao, aq, _, _⟩ := id af
      have av : RpV ab (x1775 : Val) (aa 103) := ah 4 rfl 103 rfl
      obtain ⟨am, al, ar, au, an, ap, az, aI, aA, aL, b1, b2, b3⟩ := Val.rpv av
      refine r_buildSlice (B := s0.N) (E := 27) 8 ag.size ts22 (xs := [x1775]) [Val.ag x1775 am al ar au an ap az aI] (eps_cons aA eps_nil) rfl rfl rfl (by decide) rfl (by simp [Value.cells, Rp.sz]) ⟨_, _, rfl, (Val.cells_iff.2 ⟨_, _, _, _, _, _, _, _, rfl, aL, b1, b2, b3⟩), rfl⟩ ?_
      intro _ _ _ aM b4
      exact d1 ag (Nat.le_refl _) aM ⟨(RpV.mkList b4.sl), ⟨(ai.ext aM), (fun y0 => ((aj y0).ext aM)), (nc (ac 13 rfl)), (fun h => ((ao h).ext aM)), (aq.ext aM), (nc (ac 6 rfl)), (nc (ac 11 rfl))⟩⟩
     ·intro _ aa ab ac _ ad af _ ah _ ag
      have ai := bl.trans af
      obtain ⟨aj, ao, _, aq, av, _, _⟩ := id ah
      have am : RpV ab ([x1775] : (List Val)) (aa 104) := ag 5 rfl 104 rfl
      obtain ⟨_, _, al, ar⟩ := RpV.list am
      refine r_append (B := s0.N) (id := 1006) (E := 27) (xs := aF) (ys := [x1775]) ai.size ((aq ac)) ar ts22 (room_some eS) (ag 0 rfl 99 rfl) al rfl rfl ?_
      intro _ au an ap az
      refine j0 ?_
      exact ⟨_, _, rfl, rfl, (ExtB.refl _ _).trans ((ExtB.refl _ _).mod ai.size ap), (Wext.refl _).trans ap.wext, (RpV.mkList az.sl), ⟨(aj.mod ap rfl), (fun y0 => ((ao y0).mod ap rfl)), (nc (ad 13 rfl)), (fun h => Bool.noConfusion h), (av.mod ap rfl), (fun _ _ => ⟨au, an, rfl, az⟩), (nc (ad 11 rfl))⟩⟩
     ·intro _ _ _ _ _ _ _ _ aa ab _
      obtain ⟨_, _, _, _, _, _, _⟩ := id aa
      refine r_fieldAddr ak 0 3 3 ((ab 7 rfl).trans cR) rfl fo27_3 rfl ?_
      exact d0 ⟨rfl, aa⟩
     ·intro _ _ _ _ _ aa _ _ ab _ ac
      obtain ⟨_, ad, _, _, _, _, _⟩ := id ab
      have af := ad (aa 13 rfl)
      refine r_load ak 3 (lv aB ae.2.1.length aC) (ac 7 rfl 106 rfl) rfl (loads_one to22 ((af.cell 3).trans rfl)) ?_
      exact d0 ⟨rfl, ab⟩
     ·intro _ _ _ _ _ _ _ _ aa ab _
      refine r_move (iv aw) ((ab 9 rfl).trans eP) rfl ?_
      exact d0 ⟨rfl, aa⟩
     ·intro _ _ _ _ _ _ _ aa ab _ ac
      obtain ⟨ad, af, ah, ag⟩ := sl_cut_l (P := prog) (((((be.mono aJ).mono aW).mono bj).mono b0).mono aa) eT underlying22 sz27
      refine r_slice (lv aB ae.2.1.length aC) (lv ad x1779.length af) (some (iv aw)) none none (ac 8 rfl 107 rfl) rfl (om (ac 9 rfl 108 rfl)) rfl rfl rfl (ah) ?_
      exact d0 ⟨(RpV.mkList ag), ab⟩
     ·intro _ aa ab ac ad af ah _ ag _ ai
      have aj := bl.trans ah
      obtain ⟨ao, aq, _, _, av, am, _⟩ := id ag
      obtain ⟨_, _, al, ar⟩ := am (ad 6 rfl) ac
      have au : RpV ab (x1779 : (List Val)) (aa 109) := ai 10 rfl 109 rfl
      obtain ⟨_, _, an, ap⟩ := RpV.list au
      refine r_append (B := s0.N) (id := 1006) (E := 27) (xs := aF ++ [x1775]) (ys := x1779) aj.size (ar) ap ts22 (room_some eU) al an rfl rfl ?_
      intro _ az aI aA aL
      refine j0 ?_
      exact ⟨_, _, rfl, rfl, (ExtB.refl _ _).trans ((ExtB.refl _ _).mod aj.size aA), (Wext.refl _).trans aA.wext, (RpV.mkList aL.sl), ⟨(ao.mod aA rfl), (fun y0 => ((aq y0).mod aA rfl)), (nc (af 13 rfl)), (nc (ad 6 rfl)), (av.mod aA rfl), (fun _ h => Bool.noConfusion h), (fun _ => ⟨az, aI, rfl, aL⟩)⟩⟩
     ·intro _ _ _ _ _ _ _ _ aa ab _
      obtain ⟨_, _, _, _, _, _, _⟩ := id aa
      refine r_fieldAddr ak 0 3 3 ((ab 7 rfl).trans cR) rfl fo27_3 rfl ?_
      exact d0 ⟨rfl, aa⟩
     ·intro _ _ _ aa ab _ ac _ ad _ af
      have ah := bl.trans ac
      obtain ⟨ag, ai, _, _, aj, ao, aq⟩ := id ad
      have av := ai aa
      obtain ⟨am, al, ar, au⟩ := aq (ab 11 rfl)
      refine r_store av 3 (lv am ((aF ++ [x1775]) ++ x1779).length al) [lv am ((aF ++ [x1775]) ++ x1779).length al] [iv 8, iv 0, tv (⟨#[]⟩), lv am ((aF ++ [x1775]) ++ x1779).length al, lv bm ((x1113 ++ [x1398]) ++ x1402).length bn, nl Ent, nl ByteArray] (af 12 rfl 111 rfl) ar rfl rfl rfl sz22 rfl rfl rfl ?_
      intro _ an ap
      refine j0 ?_
      exact ⟨_, _, rfl, rfl, (ExtB.refl _ _).trans ((ExtB.refl _ _).mod ah.size an), (Wext.refl _).trans an.wext, trivial, ⟨(ag.mod an rfl), (fun h => Bool.noConfusion h), (fun _ => ⟨am, al, ap, (au.mod an rfl)⟩), (nc (ab 6 rfl)), (aj.mod an rfl), (fun y0 y1 => let ⟨zA, zc, zv, zo⟩ := ao y0 y1; ⟨zA, zc, zv, (zo.mod an rfl)⟩), (fun y0 => let ⟨zA, zc, zv, zo⟩ := aq y0; ⟨zA, zc, zv, (zo.mod an rfl)⟩)⟩⟩
     intro _ _ eV eW eX cT _
     have eY := bl.trans eV
     obtain ⟨eZ, _, e0, _, e1, _, e2⟩ := eX
     have e3 := eZ
     obtain ⟨e4, e5, e6, e7⟩ := e0 rfl
     obtain ⟨_, _, _, _⟩ := e2 rfl
     have e8 := (cT 8 rfl).trans cS
     refine j5 (j1 (j3 ?_))
     refine r_move (iv ae.1) e8 rfl ?_
     refine r_bin (iv ae.1) (iv 1) (iv (w64 (ae.1 + 1))) rfl rfl rfl rfl (b_add) ?_
     refine r_assign (iv (w64 (ae.1 + 1))) rfl rfl ?_
     refine j0 ?_
     obtain rfl := oi hf
     exact ⟨rfl, _, _, e4, e5, bm, bn, rfl, rfl, (((((((((((((((aS).put rfl).put rfl).put rfl).put rfl).put rfl).gen aR).loop aV rfl).draw aX rfl).draw a8 rfl).draw a9 rfl).draw cT rfl).put rfl).put rfl).put rfl), eY, (((((((Wext.refl _).trans aN).trans aJ).trans aW).trans bj).trans b0).trans eW), rfl, e3, e6, e7.sl, e1.sl⟩
    refine wp_draw (B := frExt s0.N) (sm 58 17) [[], [], [1], [1, 2], rg 4, rg 5, rg 6, rg 7, rg 6, rg 9, rg 10, rg 6, rg 6, (rg 6 ++ [11, 12]), (rg 6 ++ [11, 12, 13]), rg 15, rg 16] [Fct.eqv (iv aw), Fct.eqv (.pointer (some ⟨ak, 4, none⟩)), Fct.eqv (lv ax ae.2.2.length ay), Fct.eqv (iv (ae.2.2.length : Int)), Fct.eqv (bv (decide (aw < (ae.2.2.length : Int)))), Fct.eqv (bv (decide (aw < (ae.2.2.length : Int)))), Fct.eqv undef, Fct.eqv undef, Fct.eqv undef, Fct.eqv undef, Fct.eqv undef, Fct.eqv undef, Fct.eqv undef, Fct.eqv undef, Fct.eqv undef, Fct.eqv undef, Fct.eqv (bv false)] (fun D F τ => (Blk s0.N 1 τ b7 27 [iv 0, iv 0, tv (⟨#[]⟩), nl Val, nl Key, nl Ent, nl ByteArray]) ∧ (Blk s0.N 2 τ ak 27 [iv 8, iv 0, tv (⟨#[]⟩), lv aB ae.2.1.length aC, lv ax ae.2.2.length ay, nl Ent, nl ByteArray])) (by kernel_rfl) rfl (by decide) (by decide) ⟨(cJ.ext (ext_draw _)), (cK.ext (ext_draw _))⟩ (by decide) (by decide) ⟨?_, ?_, ?_, ?_, ?_, ?_, ?_, ?_, ?_, ?_, ?_, ?_, ?_, ?_, ?_, ?_, ?_, trivial⟩ ?_
    ·intro _ _ _ _ _ _ _ _ aa ab _
     refine r_move (iv aw) ((ab 9 rfl).trans bh) rfl ?_
     exact d0 ⟨rfl, aa⟩
    ·intro _ _ _ _ _ _ _ _ aa ab _
     obtain ⟨_, _⟩ := id aa
     refine r_fieldAddr ak 0 4 4 ((ab 7 rfl).trans bi) rfl fo27_4 rfl ?_
     exact d0 ⟨rfl, aa⟩
    ·intro _ _ _ _ _ _ _ _ aa _ ab
     obtain ⟨_, ac⟩ := id aa
     have ad := ac
     refine r_load ak 4 (lv ax ae.2.2.length ay) (ab 1 rfl 59 rfl) rfl (loads_one to23 ((ad.cell 4).trans rfl)) ?_
     exact d0 ⟨rfl, aa⟩
    ·intro _ _ _ _ _ _ _ _ aa _ ab
     refine r_len ax ae.2.2.length ay (ab 2 rfl 60 rfl) rfl underlying23 ?_
     exact d0 ⟨rfl, aa⟩
    ·intro _ _ _ _ _ _ _ _ aa _ ab
     refine r_bin (iv aw) (iv (ae.2.2.length : Int)) (bv (decide (aw < (ae.2.2.length : Int)))) (ab 0 rfl 58 rfl) (ab 3 rfl 61 rfl) rfl rfl (b_lss) ?_
     exact d0 ⟨rfl, aa⟩
    ·intro _ _ _ _ _ _ _ _ aa _ ab
     refine r_move (bv (decide (aw < (ae.2.2.length : Int)))) (ab 4 rfl 62 rfl) rfl ?_
     exact d0 ⟨rfl, aa⟩
    ·intro _ _ _ _ _ _ _ _ aa _ ab
     exact gd0 rfl (ab 5 rfl 63 rfl) aE ⟨rfl, aa⟩
    ·intro _ aa _ _ _ _ _ _ ab _ ac
     have ad : aa 64 = undef := ac 6 rfl 64 rfl
     exact gd0 rfl (ac 5 rfl 63 rfl) aE ⟨rfl, ab⟩
    ·intro _ _ _ _ _ _ _ _ aa _ ab
     exact gd0 rfl (ab 5 rfl 63 rfl) aE ⟨rfl, aa⟩
    ·intro _ aa _ _ _ _ _ _ ab _ ac
     have ad : aa 65 = undef := ac 7 rfl 65 rfl
     have af : aa 66 = undef := ac 8 rfl 66 rfl
     exact gd0 rfl (ac 5 rfl 63 rfl) aE ⟨rfl, ab⟩
    ·intro _ aa _ _ _ _ _ _ ab _ ac
     have ad : aa 67 = undef := ac 9 rfl 67 rfl
     exact gd0 rfl (ac 5 rfl 63 rfl) aE ⟨rfl, ab⟩
    ·intro _ _ _ _ _ _ _ _ aa _ ab
     exact gd0 rfl (ab 5 rfl 63 rfl) aE ⟨rfl, aa⟩
    ·intro _ _ _ _ _ _ _ _ aa _ ab
     exact gd0 rfl (ab 5 rfl 63 rfl) aE ⟨rfl, aa⟩
    ·intro _ aa _ _ _ _ _ _ ab _ ac
     have ad : aa 69 = undef := ac 11 rfl 69 rfl
     have af : aa 70 = undef := ac 12 rfl 70 rfl
     exact gd0 rfl (ac 5 rfl 63 rfl) aE ⟨rfl, ab⟩
    ·intro _ aa _ _ _ _ _ _ ab _ ac
     have ad : aa 71 = undef := ac 13 rfl 71 rfl
     exact gd0 rfl (ac 5 rfl 63 rfl) aE ⟨rfl, ab⟩
    ·intro _ aa _ _ _ _ _ _ ab _ ac
     have ad : aa 68 = undef := ac 10 rfl 68 rfl
     have af : aa 72 = undef := ac 14 rfl 72 rfl
     exact gd0 rfl (ac 5 rfl 63 rfl) aE ⟨rfl, ab⟩
    ·intro _ aa _ _ _ _ _ _ ab _ ac
     have ad : aa 73 = undef := ac 15 rfl 73 rfl
     refine r_pick_f (c := decide (aw < (ae.2.2.length : Int))) (bv false) (ac 5 rfl 63 rfl) aE rfl rfl rfl rfl ?_
     exact d0 ⟨rfl, ab⟩
    intro _ _ e9 aY fa ba fb
    have b5 := cI.trans e9
    obtain ⟨fc, fd⟩ := fa
    have fe := fc
    have ff := fd
    have fg := (ba 0 rfl).trans bS
    have fh := (ba 1 rfl).trans cL
    have b6 := (ba 7 rfl).trans bi
    have fj := (ba 8 rfl).trans bT
    have b8 := (ba 9 rfl).trans bh
    refine j1 ?_
    refine c_false (fb 16 74 rfl) rfl rfl ?_
    refine ja (j1 (j2 ?_))
    obtain ⟨x2474, fk, hf⟩ := bind_some hf
    obtain ⟨_, fm, hf⟩ := bind_some hf
    obtain ⟨x2478, fn, hf⟩ := bind_some hf
    obtain ⟨aG, fo, hf⟩ := bind_some hf
    refine wp_draw (B := frExt s0.N) (sm 76 10 ++ [some 10, some 11]) [[], [0], [], rg 3, rg 4, [], [5], [], [5, 6, 7], rg 9, rg 10, rg 11] [Fct.eqv (.pointer (some ⟨ak, 4, none⟩)), Fct.eqv (lv ax ae.2.2.length ay), Fct.eqv (iv aw), Fct.data (x2474 : (List Key)), Fct.data (x2474 : (List Key)), Fct.eqv (.pointer (some ⟨ak, 3, none⟩)), Fct.eqv (lv aB ae.2.1.length aC), Fct.eqv (iv aw), Fct.data (x2478 : (List Val)), Fct.data (aG : (List Val)), Fct.data (x2474 : (List Key)), Fct.data (aG : (List Val))] (fun D F τ => (Blk s0.N 1 τ b7 27 [iv 0, iv 0, tv (⟨#[]⟩), nl Val, nl Key, nl Ent, nl ByteArray]) ∧ (Blk s0.N 2 τ ak 27 [iv 8, iv 0, tv (⟨#[]⟩), lv aB ae.2.1.length aC, lv ax ae.2.2.length ay, nl Ent, nl ByteArray]) ∧ (D 4 = true → ∃ zA zc, F 80 = (lv zA x2474.length zc) ∧ Own s0.N 9 60 τ x2474 zA zc ∧ (D 10 = true → F 10 = (lv zA x2474.length zc))) ∧ (D 9 = true → ∃ zA zc, F 85 = (lv zA aG.length zc) ∧ Own s0.N 1010 27 τ aG zA zc ∧ (D 11 = true → F 11 = (lv zA aG.length zc)))) (by kernel_rfl) rfl (by decide) (by decide) ⟨(fe.ext (ext_draw _)), (ff.ext (ext_draw _)), (fun h => Bool.noConfusion h), (fun h => Bool.noConfusion h)⟩ (by decide) (by decide) ⟨?_, ?_, ?_, ?_, ?_, ?_, ?_, ?_, ?_, ?_, ?_, ?_, trivial⟩ ?_
    ·intro _ _ _ _ _ _ _ _ aa ab _
     obtain ⟨_, _, _, _⟩ := id aa
     refine r_fieldAddr ak 0 4 4 ((ab 7 rfl).trans b6) rfl fo27_4 rfl ?_
     exact d0 ⟨rfl, aa⟩
    ·intro _ _ _ _ _ _ _ _ aa _ ab
     obtain ⟨_, ac, _, _⟩ := id aa
     have ad := ac
     refine r_load ak 4 (lv ax ae.2.2.length ay) (ab 0 rfl 76 rfl) rfl (loads_one to23 ((ad.cell 4).trans rfl)) ?_
     exact d0 ⟨rfl, aa⟩
    ·intro _ _ _ _ _ _ _ _ aa ab _
     refine r_move (iv aw) ((ab 9 rfl).trans b8) rfl ?_
     exact d0 ⟨rfl, aa⟩
    ·intro _ _ _ _ _ _ _ aa ab _ ac
     obtain ⟨ad, af, ah, ag⟩ := sl_cut_h (P := prog) (((aT.mono aJ).mono aY).mono aa) fk underlying23 sz60
     refine r_slice (lv ax ae.2.2.length ay) (lv ad x2474.length af) none (some (iv aw)) none (ac 1 rfl 77 rfl) rfl rfl (om (ac 2 rfl 78 rfl)) rfl rfl (ah) ?_
     exact d0 ⟨(RpV.mkList ag), ab⟩
    ·intro _ aa ab _ _ ac ad _ af _ ah
     have ag := b5.trans ad
     obtain ⟨ai, aj, _, _⟩ := id af
     have ao : RpV ab (x2474 : (List Key)) (aa 79) := ah 3 rfl 79 rfl
     obtain ⟨_, _, aq, av⟩ := RpV.list ao
     refine r_append (B := s0.N) (id := 9) (E := 60) (xs := ([] : List Key)) (ys := x2474) ag.size (Own.nil_ _) av ts23 (room_some fm) rfl aq rfl rfl ?_
     intro _ am al ar au
     refine j0 ?_
     exact ⟨_, _, rfl, rfl, (ExtB.refl _ _).trans ((ExtB.refl _ _).mod ag.size ar), (Wext.refl _).trans ar.wext, (RpV.mkList au.sl), ⟨(ai.mod ar rfl), (aj.mod ar rfl), (fun _ => ⟨am, al, rfl, au, (nc (ac 10 rfl))⟩), (nc (ac 9 rfl))⟩⟩
    ·intro _ _ _ _ _ _ _ _ aa ab _
     obtain ⟨_, _, _, _⟩ := id aa
     refine r_fieldAddr ak 0 3 3 ((ab 7 rfl).trans b6) rfl fo27_3 rfl ?_
     exact d0 ⟨rfl, aa⟩
    ·intro _ _ _ _ _ _ _ _ aa _ ab
     obtain ⟨_, ac, _, _⟩ := id aa
     have ad := ac
     refine r_load ak 3 (lv aB ae.2.1.length aC) (ab 5 rfl 81 rfl) rfl (loads_one to22 ((ad.cell 3).trans rfl)) ?_
     exact d0 ⟨rfl, aa⟩
    ·intro _ _ _ _ _ _ _ _ aa ab _
     refine r_move (iv aw) ((ab 9 rfl).trans b8) rfl ?_
     exact d0 ⟨rfl, aa⟩
    ·intro _ _ _ _ _ _ _ aa ab _ ac
     obtain ⟨ad, af, ah, ag⟩ := sl_cut_h (P := prog) (((be.mono aJ).mono aY).mono aa) fn underlying22 sz27
     refine r_slice (lv aB ae.2.1.length aC) (lv ad x2478.length af) none (some (iv aw)) none (ac 6 rfl 82 rfl) rfl rfl (om (ac 7 rfl 83 rfl)) rfl rfl (ah) ?_
     exact d0 ⟨(RpV.mkList ag), ab⟩
    ·intro _ aa ab _ _ ac ad _ af _ ah
     have ag := b5.trans ad
     obtain ⟨ai, aj, ao, _⟩ := id af
     have aq : RpV ab (x2478 : (List Val)) (aa 84) := ah 8 rfl 84 rfl
     obtain ⟨av, am, al, ar⟩ := RpV.list aq
     refine r_call [lv av x2478.length am] (evs1 al) rfl (ok_semtyperef1_copies _ _ _ _ (RpV.mkList ar) fo 1010 (by omega)) ?_
     intro _ _ au an
     obtain ⟨ap, az, rfl, aI⟩ := an
     exact d1 ag (Nat.le_refl _) au ⟨(RpV.mkList (aI.base (by have := ag.size; omega)).sl), ⟨(ai.ext au), (aj.ext au), (fun y0 => let ⟨zA, zc, zv, zo, zm10⟩ := ao y0; ⟨zA, zc, zv, (zo.ext au), zm10⟩), (fun _ => ⟨ap, az, rfl, (aI.base (by have := ag.size; omega)), (nc (ac 11 rfl))⟩)⟩⟩
    ·intro _ _ _ _ aa _ _ _ ab _ _
     obtain ⟨ac, ad, af, ah⟩ := id ab
     obtain ⟨ag, ai, aj, ao, _⟩ := af (aa 4 rfl)
     refine r_assign (lv ag x2474.length ai) aj rfl ?_
     exact d0 ⟨(RpV.mkList ao.sl), ⟨ac, ad, (fun _ => ⟨ag, ai, aj, ao, (fun _ => rfl)⟩), (fun y0 => let ⟨zA, zc, zv, zo, zm11⟩ := ah y0; ⟨zA, zc, zv, zo, zm11⟩)⟩⟩
    ·intro _ _ _ _ aa _ _ _ ab _ _
     obtain ⟨ac, ad, af, ah⟩ := id ab
     obtain ⟨ag, ai, aj, ao, _⟩ := ah (aa 9 rfl)
     refine r_assign (lv ag aG.length ai) aj rfl ?_
     exact d0 ⟨(RpV.mkList ao.sl), ⟨ac, ad, (fun y0 => let ⟨zA, zc, zv, zo, zm10⟩ := af y0; ⟨zA, zc, zv, zo, zm10⟩), (fun _ => ⟨ag, ai, aj, ao, (fun _ => rfl)⟩)⟩⟩
    intro _ _ fp bo fq bb _
    have bp := b5.trans fp
    obtain ⟨fs, ft, fu, fv⟩ := fq
    have fw := fs
    have fx := ft
    obtain ⟨b9, ca, _, fy, fz⟩ := fu rfl
    obtain ⟨bD, bE, _, fA, fB⟩ := fv rfl
    have fC := (bb 0 rfl).trans fg
    have fD := (bb 1 rfl).trans fh
    have cb := (bb 7 rfl).trans b6
    have cU := (bb 8 rfl).trans fj
    have cV := (bb 9 rfl).trans b8
    refine j1 (j2 ?_)
    obtain ⟨x2759, fE, hf⟩ := bind_some hf
    obtain ⟨_, fF, hf⟩ := bind_some hf
    obtain ⟨x2763, fG, hf⟩ := bind_some hf
    obtain ⟨_, fH, hf⟩ := bind_some hf
    refine wp_draw (B := frExt s0.N) (sm 86 13 ++ [none]) [[], [], [], [1, 2], [1, 2, 3], [1, 2, 3, 4], rg 6, [], [7], [], [7, 8, 9], rg 11, rg 12, rg 13] [Fct.eqv (lv b9 x2474.length ca), Fct.eqv (lv A1 a0.length c2), Fct.eqv (iv ae.1), Fct.elem (x2759 : Key), Fct.data (x2759 : Key), Fct.data ([x2759] : (List Key)), Fct.data (x2474 ++ [x2759] : (List Key)), Fct.eqv (.pointer (some ⟨ak, 4, none⟩)), Fct.eqv (lv ax ae.2.2.length ay), Fct.eqv (iv aw), Fct.data (x2763 : (List Key)), Fct.data ((x2474 ++ [x2759]) ++ x2763 : (List Key)), Fct.eqv (.pointer (some ⟨ak, 4, none⟩)), Fct.any] (fun D F τ => (Blk s0.N 1 τ b7 27 [iv 0, iv 0, tv (⟨#[]⟩), nl Val, nl Key, nl Ent, nl ByteArray]) ∧ (D 13 = false → Blk s0.N 2 τ ak 27 [iv 8, iv 0, tv (⟨#[]⟩), lv aB ae.2.1.length aC, lv ax ae.2.2.length ay, nl Ent, nl ByteArray]) ∧ (D 13 = true → (∃ (zA4 : Option Addr) (zc4 : Nat), Blk s0.N 2 τ ak 27 [iv 8, iv 0, tv (⟨#[]⟩), lv aB ae.2.1.length aC, lv zA4 ((x2474 ++ [x2759]) ++ x2763).length zc4, nl Ent, nl ByteArray] ∧ Own s0.N 9 60 τ ((x2474 ++ [x2759]) ++ x2763) zA4 zc4)) ∧ (D 6 = false → Own s0.N 9 60 τ x2474 b9 ca) ∧ (Own s0.N 1010 27 τ aG bD bE) ∧ (D 6 = true → D 11 = false → ∃ zA zc, F 92 = (lv zA (x2474 ++ [x2759]).length zc) ∧ Own s0.N 9 60 τ (x2474 ++ [x2759]) zA zc) ∧ (D 11 = true → ∃ zA zc, F 97 = (lv zA ((x2474 ++ [x2759]) ++ x2763).length zc) ∧ Own s0.N 9 60 τ ((x2474 ++ [x2759]) ++ x2763) zA zc)) (by kernel_rfl) rfl (by decide) (by decide) ⟨(fw.ext (ext_draw _)), (fun _ => (fx.ext (ext_draw _))), (fun h => Bool.noConfusion h), (fun _ => (fy.ext (ext_draw _))), (fA.ext (ext_draw _)), (fun h => Bool.noConfusion h), (fun h => Bool.noConfusion h)⟩ (by decide) (by decide) ⟨?_, ?_, ?_, ?_, ?_, ?_, ?_, ?_, ?_, ?_, ?_, ?_, ?_, ?_, trivial⟩ ?_
    ·intro _ _ _ _ _ _ _ _ aa ab _
     refine r_move (lv b9 x2474.length ca) ((ab 10 rfl).trans (fz rfl)) rfl ?_
     exact d0 ⟨rfl, aa⟩
    ·intro _ _ _ _ _ _ _ _ aa ab _
     refine r_move (lv A1 a0.length c2) ((ab 0 rfl).trans fC) rfl ?_
     exact d0 ⟨rfl, aa⟩
    ·intro _ _ _ _ _ _ _ _ aa ab _
     refine r_move (iv ae.1) ((ab 8 rfl).trans cU) rfl ?_
     exact d0 ⟨rfl, aa⟩
    ·intro _ _ _ _ _ _ _ aa ab _ ac
     refine r_indexAddr (T := 23) (E := 60) (((((((((h3.mono k9.wext).mono a6).mono aP.wext).mono aQ.wext).mono aN).mono aJ).mono aY).mono bo).mono aa) fE (ac 1 rfl 87 rfl) (ac 2 rfl 88 rfl) rfl rfl underlying23 sz60 ?_
     intro _ _ _ ad af
     obtain rfl := Key.cells_iff.1 ad
     exact d0 ⟨⟨_, _, _, rfl, (Key.cells_iff.2 rfl), af⟩, ab⟩
    ·intro _ aa ab _ _ _ _ _ ac _ ad
     obtain ⟨af, ah, _, ag, ai, aj⟩ : (Fct.elem (x2759 : Key)).p (aa 89) ab := ad 3 rfl 89 rfl
     obtain rfl := Key.cells_iff.1 ai
     refine r_load af ah (Key.ag x2759) ag rfl (loads_row tr60 aj.2) ?_
     exact d0 ⟨(Key.rpvMk (v := x2759) ), ac⟩
    ·intro _ aa ab _ _ ac ad _ af _ ah
     have ag := bp.trans ad
     obtain ⟨ai, aj, _, ao, aq, _, _⟩ := id af
     have av : RpV ab (x2759 : Key) (aa 90) := ah 4 rfl 90 rfl
     have am := Key.rpv av
     refine r_buildSlice (B := s0.N) (E := 60) 11 ag.size ts23 (xs := [x2759]) [Key.ag x2759] (eps_cons am eps_nil) rfl rfl rfl (by decide) rfl (by simp [Value.cells, Rp.sz]) ⟨_, _, rfl, (Key.cells_iff.2 rfl), rfl⟩ ?_
     intro _ _ _ al ar
     exact d1 ag (Nat.le_refl _) al ⟨(RpV.mkList ar.sl), ⟨(ai.ext al), (fun y0 => ((aj y0).ext al)), (nc (ac 13 rfl)), (fun h => ((ao h).ext al)), (aq.ext al), (nc (ac 6 rfl)), (nc (ac 11 rfl))⟩⟩
    ·intro _ aa ab ac _ ad af _ ah _ ag
     have ai := bp.trans af
     obtain ⟨aj, ao, _, aq, av, _, _⟩ := id ah
     have am : RpV ab ([x2759] : (List Key)) (aa 91) := ag 5 rfl 91 rfl
     obtain ⟨_, _, al, ar⟩ := RpV.list am
     refine r_append (B := s0.N) (id := 9) (E := 60) (xs := x2474) (ys := [x2759]) ai.size ((aq ac)) ar ts23 (room_some fF) (ag 0 rfl 86 rfl) al rfl rfl ?_
     intro _ au an ap az
     refine j0 ?_
     exact ⟨_, _, rfl, rfl, (ExtB.refl _ _).trans ((ExtB.refl _ _).mod ai.size ap), (Wext.refl _).trans ap.wext, (RpV.mkList az.sl), ⟨(aj.mod ap rfl), (fun y0 => ((ao y0).mod ap rfl)), (nc (ad 13 rfl)), (fun h => Bool.noConfusion h), (av.mod ap rfl), (fun _ _ => ⟨au, an, rfl, az⟩), (nc (ad 11 rfl))⟩⟩
    ·intro _ _ _ _ _ _ _ _ aa ab _
     obtain ⟨_, _, _, _, _, _, _⟩ := id aa
     refine r_fieldAddr ak 0 4 4 ((ab 7 rfl).trans cb) rfl fo27_4 rfl ?_
     exact d0 ⟨rfl, aa⟩
    ·intro _ _ _ _ _ aa _ _ ab _ ac
     obtain ⟨_, ad, _, _, _, _, _⟩ := id ab
     have af := ad (aa 13 rfl)
     refine r_load ak 4 (lv ax ae.2.2.length ay) (ac 7 rfl 93 rfl) rfl (loads_one to23 ((af.cell 4).trans rfl)) ?_
     exact d0 ⟨rfl, ab⟩
    ·intro _ _ _ _ _ _ _ _ aa ab _
     refine r_move (iv aw) ((ab 9 rfl).trans cV) rfl ?_
     exact d0 ⟨rfl, aa⟩
    ·intro _ _ _ _ _ _ _ aa ab _ ac
     obtain ⟨ad, af, ah, ag⟩ := sl_cut_l (P := prog) ((((aT.mono aJ).mono aY).mono bo).mono aa) fG underlying23 sz60
     refine r_slice (lv ax ae.2.2.length ay) (lv ad x2763.length af) (some (iv aw)) none none (ac 8 rfl 94 rfl) rfl (om (ac 9 rfl 95 rfl)) rfl rfl rfl (ah) ?_
     exact d0 ⟨(RpV.mkList ag), ab⟩
    ·intro _ aa ab ac ad af ah _ ag _ ai
     have aj := bp.trans ah
     obtain ⟨ao, aq, _, _, av, am, _⟩ := id ag
     obtain ⟨_, _, al, ar⟩ := am (ad 6 rfl) ac
     have au : RpV ab (x2763 : (List Key)) (aa 96) := ai 10 rfl 96 rfl
     obtain ⟨_, _, an, ap⟩ := RpV.list au
     refine r_append (B := s0.N) (id := 9) (E := 60) (xs := x2474 ++ [x2759]) (ys := x2763) aj.size (ar) ap ts23 (room_some fH) al an rfl rfl ?_
     intro _ az aI aA aL
     refine j0 ?_
     exact ⟨_, _, rfl, rfl, (ExtB.refl _ _).trans ((ExtB.refl _ _).mod aj.size aA), (Wext.refl _).trans aA.wext, (RpV.mkList aL.sl), ⟨(ao.mod aA rfl), (fun y0 => ((aq y0).mod aA rfl)), (nc (af 13 rfl)), (nc (ad 6 rfl)), (av.mod aA rfl), (fun _ h => Bool.noConfusion h), (fun _ => ⟨az, aI, rfl, aL⟩)⟩⟩
    ·intro _ _ _ _ _ _ _ _ aa ab _
     obtain ⟨_, _, _, _, _, _, _⟩ := id aa
     refine r_fieldAddr ak 0 4 4 ((ab 7 rfl).trans cb) rfl fo27_4 rfl ?_
     exact d0 ⟨rfl, aa⟩
    ·intro _ _ _ aa ab _ ac _ ad _ af
     have ah := bp.trans ac
     obtain ⟨ag, ai, _, _, aj, ao, aq⟩ := id ad
     have av := ai aa
     obtain ⟨am, al, ar, au⟩ := aq (ab 11 rfl)
     refine r_store av 4 (lv am ((x2474 ++ [x2759]) ++ x2763).length al) [lv am ((x2474 ++ [x2759]) ++ x2763).length al] [iv 8, iv 0, tv (⟨#[]⟩), lv aB ae.2.1.length aC, lv am ((x2474 ++ [x2759]) ++ x2763).length al, nl Ent, nl ByteArray] (af 12 rfl 98 rfl) ar rfl rfl rfl sz23 rfl rfl rfl ?_
     intro _ an ap
     refine j0 ?_
     exact ⟨_, _, rfl, rfl, (ExtB.refl _ _).trans ((ExtB.refl _ _).mod ah.size an), (Wext.refl _).trans an.wext, trivial, ⟨(ag.mod an rfl), (fun h => Bool.noConfusion h), (fun _ => ⟨am, al, ap, (au.mod an rfl)⟩), (nc (ab 6 rfl)), (aj.mod an rfl), (fun y0 y1 => let ⟨zA, zc, zv, zo⟩ := ao y0 y1; ⟨zA, zc, zv, (zo.mod an rfl)⟩), (fun y0 => let ⟨zA, zc, zv, zo⟩ := aq y0; ⟨zA, zc, zv, (zo.mod an rfl)⟩)⟩⟩
    intro _ _ fI cc fJ bc _
    have bq := bp.trans fI
    obtain ⟨fK, _, fL, _, fM, _, fN⟩ := fJ
    have fO := fK
    obtain ⟨br, bs, fP, fQ⟩ := fL rfl
    obtain ⟨_, _, _, _⟩ := fN rfl
    have fR := (bc 1 rfl).trans fD
    have cW := (bc 7 rfl).trans cb
    have cX := (bc 8 rfl).trans cU
    have fS := (bc 9 rfl).trans cV
    have fT := (bc 11 rfl).trans (fB rfl)
    refine j1 ?_
    obtain ⟨x3136, fU, hf⟩ := bind_some hf
    obtain ⟨_, fV, hf⟩ := bind_some hf
    obtain ⟨x3140, fW, hf⟩ := bind_some hf
    obtain ⟨_, fX, hf⟩ := bind_some hf
    refine wp_draw (B := frExt s0.N) (sm 99 13 ++ [none]) [[], [], [], [1, 2], [1, 2, 3], [1, 2, 3, 4], rg 6, [], [7], [], [7, 8, 9], rg 11, rg 12, rg 13] [Fct.eqv (lv bD aG.length bE), Fct.eqv (lv A4 a1.length c5), Fct.eqv (iv ae.1), Fct.elem (x3136 : Val), Fct.data (x3136 : Val), Fct.data ([x3136] : (List Val)), Fct.data (aG ++ [x3136] : (List Val)), Fct.eqv (.pointer (some ⟨ak, 3, none⟩)), Fct.eqv (lv aB ae.2.1.length aC), Fct.eqv (iv aw), Fct.data (x3140 : (List Val)), Fct.data ((aG ++ [x3136]) ++ x3140 : (List Val)), Fct.eqv (.pointer (some ⟨ak, 3, none⟩)), Fct.any] (fun D F τ => (Blk s0.N 1 τ b7 27 [iv 0, iv 0, tv (⟨#[]⟩), nl Val, nl Key, nl Ent, nl ByteArray]) ∧ (D 13 = false → Blk s0.N 2 τ ak 27 [iv 8, iv 0, tv (⟨#[]⟩), lv aB ae.2.1.length aC, lv br ((x2474 ++ [x2759]) ++ x2763).length bs, nl Ent, nl ByteArray]) ∧ (D 13 = true → (∃ (zA3 : Option Addr) (zc3 : Nat), Blk s0.N 2 τ ak 27 [iv 8, iv 0, tv (⟨#[]⟩), lv zA3 ((aG ++ [x3136]) ++ x3140).length zc3, lv br ((x2474 ++ [x2759]) ++ x2763).length bs, nl Ent, nl ByteArray] ∧ Own s0.N 1010 27 τ ((aG ++ [x3136]) ++ x3140) zA3 zc3)) ∧ (D 6 = false → Own s0.N 1010 27 τ aG bD bE) ∧ (Own s0.N 9 60 τ ((x2474 ++ [x2759]) ++ x2763) br bs) ∧ (D 6 = true → D 11 = false → ∃ zA zc, F 105 = (lv zA (aG ++ [x3136]).length zc) ∧ Own s0.N 1010 27 τ (aG ++ [x3136]) zA zc) ∧ (D 11 = true → ∃ zA zc, F 110 = (lv zA ((aG ++ [x3136]) ++ x3140).length zc) ∧ Own s0.N 1010 27 τ ((aG ++ [x3136]) ++ x3140) zA zc)) (by kernel_rfl) rfl (by decide) (by decide) ⟨(fO.ext (ext_draw _)), (fun _ => (fP.ext (ext_draw _))), (fun h => Bool.noConfusion h), (fun _ => (fM.ext (ext_draw _))), (fQ.ext (ext_draw _)), (fun h => Bool.noConfusion h), (fun h => Bool.noConfusion h)⟩ (by decide) (by decide) ⟨?_, ?_, ?_, ?_, ?_, ?_, ?_, ?_, ?_, ?_, ?_, ?_, ?_, ?_, trivial⟩ ?_
    ·intro _ _ _ _ _ _ _ _ aa ab _
     refine r_move (lv bD aG.length bE) ((ab 11 rfl).trans fT) rfl ?_
     exact d0 ⟨rfl, aa⟩
    ·intro _ _ _ _ _ _ _ _ aa ab _
     refine r_move (lv A4 a1.length c5) ((ab 1 rfl).trans fR) rfl ?_
     exact d0 ⟨rfl, aa⟩
    ·intro _ _ _ _ _ _ _ _ aa ab _
     refine r_move (iv ae.1) ((ab 8 rfl).trans cX) rfl ?_
     exact d0 ⟨rfl, aa⟩
    ·intro _ _ _ _ _ _ _ aa ab _ ac
     refine r_indexAddr (T := 22) (E := 27) ((((((((((h6.mono k9.wext).mono a6).mono aP.wext).mono aQ.wext).mono aN).mono aJ).mono aY).mono bo).mono cc).mono aa) fU (ac 1 rfl 100 rfl) (ac 2 rfl 101 rfl) rfl rfl underlying22 sz27 ?_
     intro _ _ _ ad af
     obtain ⟨_, _, _, _, _, _, _, _, rfl, ah, ag, ai, aj⟩ := Val.cells_iff.1 ad
     exact d0 ⟨⟨_, _, _, rfl, (Val.cells_iff.2 ⟨_, _, _, _, _, _, _, _, rfl, ah, ag, ai, aj⟩), af⟩, ab⟩
    ·intro _ aa ab _ _ _ _ _ ac _ ad
     obtain ⟨af, ah, _, ag, ai, aj⟩ : (Fct.elem (x3136 : Val)).p (aa 102) ab := ad 3 rfl 102 rfl
     obtain ⟨ao, aq, av, am, al, ar, au, an, rfl, ap, az, aI, aA⟩ := Val.cells_iff.1 ai
     refine r_load af ah (Val.ag x3136 ao aq av am al ar au an) ag rfl (loads_row tr27 aj.2) ?_
     exact d0 ⟨(Val.rpvMk (v := x3136) ap az aI aA), ac⟩
    ·intro _ aa ab _ _ ac ad _ af _ ah
     have ag := bq.trans ad
     obtain ⟨ai, aj, _, ao, aq, _, _⟩ := id af
     have av : RpV ab (x3136 : Val) (aa 103) := ah 4 rfl 103 rfl
     obtain ⟨am, al, ar, au, an, ap, az, aI, aA, aL, b1, b2, b3⟩ := Val.rpv av
     refine r_buildSlice (B := s0.N) (E := 27) 12 ag.size ts22 (xs := [x3136]) [Val.ag x3136 am al ar au an ap az aI] (eps_cons aA eps_nil) rfl rfl rfl (by decide) rfl (by simp [Value.cells, Rp.sz]) ⟨_, _, rfl, (Val.cells_iff.2 ⟨_, _, _, _, _, _, _, _, rfl, aL, b1, b2, b3⟩), rfl⟩ ?_
     intro _ _ _ aM b4
     exact d1 ag (Nat.le_refl _) aM ⟨(RpV.mkList b4.sl), ⟨(ai.ext aM), (fun y0 => ((aj y0).ext aM)), (nc (ac 13 rfl)), (fun h => ((ao h).ext aM)), (aq.ext aM), (nc (ac 6 rfl)), (nc (ac 11 rfl))⟩⟩
    ·intro _ aa ab ac _ ad af _ ah _ ag
     have ai := bq.trans af
     obtain ⟨aj, ao, _, aq, av, _, _⟩ := id ah
     have am : RpV ab ([x3136] : (List Val)) (aa 104) := ag 5 rfl 104 rfl
     obtain ⟨_, _, al, ar⟩ := RpV.list am
     refine r_append (B := s0.N) (id := 1010) (E := 27) (xs := aG) (ys := [x3136]) ai.size ((aq ac)) ar ts22 (room_some fV) (ag 0 rfl 99 rfl) al rfl rfl ?_
     intro _ au an ap az
     refine j0 ?_
     exact ⟨_, _, rfl, rfl, (ExtB.refl _ _).trans ((ExtB.refl _ _).mod ai.size ap), (Wext.refl _).trans ap.wext, (RpV.mkList az.sl), ⟨(aj.mod ap rfl), (fun y0 => ((ao y0).mod ap rfl)), (nc (ad 13 rfl)), (fun h => Bool.noConfusion h), (av.mod ap rfl), (fun _ _ => ⟨au, an, rfl, az⟩), (nc (ad 11 rfl))⟩⟩
    ·intro _ _ _ _ _ _ _ _ aa ab _
     obtain ⟨_, _, _, _, _, _, _⟩ := id aa
     refine r_fieldAddr ak 0 3 3 ((ab 7 rfl).trans cW) rfl fo27_3 rfl ?_
     exact d0 ⟨rfl, aa⟩
    ·intro _ _ _ _ _ aa _ _ ab _ ac
     obtain ⟨_, ad, _, _, _, _, _⟩ := id ab
     have af := ad (aa 13 rfl)
     refine r_load ak 3 (lv aB ae.2.1.length aC) (ac 7 rfl 106 rfl) rfl (loads_one to22 ((af.cell 3).trans rfl)) ?_
     exact d0 ⟨rfl, ab⟩
    ·intro _ _ _ _ _ _ _ _ aa ab _
     refine r_move (iv aw) ((ab 9 rfl).trans fS) rfl ?_
     exact d0 ⟨rfl, aa⟩
    ·intro _ _ _ _ _ _ _ aa ab _ ac
     obtain ⟨ad, af, ah, ag⟩ := sl_cut_l (P := prog) (((((be.mono aJ).mono aY).mono bo).mono cc).mono aa) fW underlying22 sz27
     refine r_slice (lv aB ae.2.1.length aC) (lv ad x3140.length af) (some (iv aw)) none none (ac 8 rfl 107 rfl) rfl (om (ac 9 rfl 108 rfl)) rfl rfl rfl (ah) ?_
     exact d0 ⟨(RpV.mkList ag), ab⟩
    ·intro _ aa ab ac ad af ah _ ag _ ai
     have aj := bq.trans ah
     obtain ⟨ao, aq, _, _, av, am, _⟩ := id ag
     obtain ⟨_, _, al, ar⟩ := am (ad 6 rfl) ac
     have au : RpV ab (x3140 : (List Val)) (aa 109) := ai 10 rfl 109 rfl
     obtain ⟨_, _, an, ap⟩ := RpV.list au
     refine r_append (B := s0.N) (id := 1010) (E := 27) (xs := aG ++ [x3136]) (ys := x3140) aj.size (ar) ap ts22 (room_some fX) al an rfl rfl ?_
     intro _ az aI aA aL
     refine j0 ?_
     exact ⟨_, _, rfl, rfl, (ExtB.refl _ _).trans ((ExtB.refl _ _).mod aj.size aA), (Wext.refl _).trans aA.wext, (RpV.mkList aL.sl), ⟨(ao.mod aA rfl), (fun y0 => ((aq y0).mod aA rfl)), (nc (af 13 rfl)), (nc (ad 6 rfl)), (av.mod aA rfl), (fun _ h => Bool.noConfusion h), (fun _ => ⟨az, aI, rfl, aL⟩)⟩⟩
    ·intro _ _ _ _ _ _ _ _ aa ab _
     obtain ⟨_, _, _, _, _, _, _⟩ := id aa
     refine r_fieldAddr ak 0 3 3 ((ab 7 rfl).trans cW) rfl fo27_3 rfl ?_
     exact d0 ⟨rfl, aa⟩
    ·intro _ _ _ aa ab _ ac _ ad _ af
     have ah := bq.trans ac
     obtain ⟨ag, ai, _, _, aj, ao, aq⟩ := id ad
     have av := ai aa
     obtain ⟨am, al, ar, au⟩ := aq (ab 11 rfl)
     refine r_store av 3 (lv am ((aG ++ [x3136]) ++ x3140).length al) [lv am ((aG ++ [x3136]) ++ x3140).length al] [iv 8, iv 0, tv (⟨#[]⟩), lv am ((aG ++ [x3136]) ++ x3140).length al, lv br ((x2474 ++ [x2759]) ++ x2763).length bs, nl Ent, nl ByteArray] (af 12 rfl 111 rfl) ar rfl rfl rfl sz22 rfl rfl rfl ?_
     intro _ an ap
     refine j0 ?_
     exact ⟨_, _, rfl, rfl, (ExtB.refl _ _).trans ((ExtB.refl _ _).mod ah.size an), (Wext.refl _).trans an.wext, trivial, ⟨(ag.mod an rfl), (fun h => Bool.noConfusion h), (fun _ => ⟨am, al, ap, (au.mod an rfl)⟩), (nc (ab 6 rfl)), (aj.mod an rfl), (fun y0 y1 => let ⟨zA, zc, zv, zo⟩ := ao y0 y1; ⟨zA, zc, zv, (zo.mod an rfl)⟩), (fun y0 => let ⟨zA, zc, zv, zo⟩ := aq y0; ⟨zA, zc, zv, (zo.mod an rfl)⟩)⟩⟩
    intro _ _ fY fZ f0 cY _
    have f1 := bq.trans fY
    obtain ⟨f2, _, f3, _, f4, _, f5⟩ := f0
    have f6 := f2
    obtain ⟨f7, f8, f9, ga⟩ := f3 rfl
    obtain ⟨_, _, _, _⟩ := f5 rfl
    have gb := (cY 8 rfl).trans cX
    refine j5 (j1 (j3 ?_))
    refine r_move (iv ae.1) gb rfl ?_
    refine r_bin (iv ae.1) (iv 1) (iv (w64 (ae.1 + 1))) rfl rfl rfl rfl (b_add) ?_
    refine r_assign (iv (w64 (ae.1 + 1))) rfl rfl ?_
    refine j0 ?_
    obtain rfl := oi hf
    exact ⟨rfl, _, _, f7, f8, br, bs, rfl, rfl, (((((((((((((((aS).put rfl).put rfl).put rfl).put rfl).put rfl).gen aR).loop aV rfl).draw ba rfl).draw bb rfl).draw bc rfl).draw cY rfl).put rfl).put rfl).put rfl), f1, (((((((Wext.refl _).trans aN).trans aJ).trans aY).trans bo).trans cc).trans fZ), rfl, f6, f9, ga.sl, f4.sl⟩
   refine c_false rfl bM rfl ?_
   refine jc (j8 ?_)
   obtain rfl := oi hf
   exact ⟨rfl, _, _, aB, aC, ax, ay, rfl, rfl, (((((aS).put rfl).put rfl).put rfl).put rfl), cs, ((Wext.refl _).trans aN), bL, ct, cu, be, aT⟩
  ·exact ⟨_, _, none, 0, none, 0, rfl, rfl, (Agr.refl _ _), dt, (Wext.refl _), dw, ((dl.ext aP).mod aQ rfl), ds, (Sl.nil_ _ _ _ (Nat.zero_le _)), (Sl.nil_ _ _ _ (Nat.zero_le _))⟩
  intro e a w hp
  rcases dx with aK | r
  ·replace hf := onEnd_inl hf
   obtain ⟨rfl, _, _, aZ, a2, a3, a4, rfl, rfl, cZ, gc, _, _, gd, ge, gf, gg⟩ := hp
   have c0 := (cZ 4 rfl).trans cp
   have gh := (cZ 7 rfl).trans cq
   refine j6 (j1 (j2 (j3 ?_)))
   refine r_load ak 0 (.agg #[iv 8, iv 0, tv (⟨#[]⟩), lv aZ aK.2.1.length a2, lv a3 aK.2.2.length a4, nl Ent, nl ByteArray]) gh rfl (loads_row tr27 (Blk.range ge 0 [iv 8, iv 0, tv (⟨#[]⟩), lv aZ aK.2.1.length a2, lv a3 aK.2.2.length a4, nl Ent, nl ByteArray] rfl)) ?_
   refine r_store gd 0 (.agg #[iv 8, iv 0, tv (⟨#[]⟩), lv aZ aK.2.1.length a2, lv a3 aK.2.2.length a4, nl Ent, nl ByteArray]) [iv 8, iv 0, tv (⟨#[]⟩), lv aZ aK.2.1.length a2, lv a3 aK.2.2.length a4, nl Ent, nl ByteArray] [iv 8, iv 0, tv (⟨#[]⟩), lv aZ aK.2.1.length a2, lv a3 aK.2.2.length a4, nl Ent, nl ByteArray] c0 rfl rfl rfl rfl sz27 rfl rfl rfl ?_
   intro _ cd gi
   have gj := gc.y cd
   refine r_assign (iv 0) rfl rfl ?_
   refine j0 (j1 (jb ?_))
   obtain rfl := oi hf
   refine ret_two (.agg #[iv 8, iv 0, tv (⟨#[]⟩), lv aZ aK.2.1.length a2, lv a3 aK.2.2.length a4, nl Ent, nl ByteArray]) (iv 0) rfl ⟨rfl, _, c0, loads_row tr27 (Blk.range gi 0 [iv 8, iv 0, tv (⟨#[]⟩), lv aZ aK.2.1.length a2, lv a3 aK.2.2.length a4, nl Ent, nl ByteArray] rfl)⟩ ⟨rfl, rfl⟩ gj ?_
   exact ⟨_, _, rfl, (Val.rpvMk (v := (Val.mk 8 0 (⟨#[]⟩) aK.2.1 aK.2.2 ([] : List Ent) ([] : List ByteArray))) (gf.mono cd.wext) (gg.mono cd.wext) (Sl.nil_ _ _ _ (Nat.zero_le _)) (Sl.nil_ _ _ _ (Nat.zero_le _))), (RpV.mkInt _ _)⟩
  replace hf := onEnd_inr hf
  obtain ⟨rfl, _, _, gk, gl, rfl, rfl, gm, gn, go, gp, gq⟩ := hp
  refine j7 (j9 ?_)
  obtain rfl := oi hf
  refine ret_two gk gl rfl gn gp gm ?_
  exact ⟨_, _, rfl, go, gq⟩
 replace hf := onEnd_inr hf
 obtain ⟨rfl, _, _, gr, gs, rfl, rfl, gt, gu, gv, gw, gx⟩ := hp
 refine j7 (j9 ?_)
 obtain rfl := oi hf
 refine ret_two gr gs rfl gu gw gt ?_
 exact ⟨_, _, rfl, gv, gx⟩

def S_semtyperef1_count (f : (Int → Int → Option Int)) : Prop := ∀ (s0 : S) (v0 : Value) (v1 : Value) (a0 : Int) (a1 : Int) (r : Int), RpV s0 a0 v0 → RpV s0 a1 v1 → f a0 a1 = some r → Ctr Go.Proofs.Try.prog 46 [v0, v1] s0 (fun v τ => RpV τ r v)

theorem ok_semtyperef1_count : S_semtyperef1_count semtyperef1_count := by
 intro s0 v0 v1 a0 a1 r hp0 hp1 hf
 obtain rfl := RpV.int hp0
 obtain rfl := RpV.int hp1
 unfold semtyperef1_count at hf
 have E0 : ExtB s0.N s0 s0 := ExtB.refl _ _
 refine ctr_of 8 func46 rfl rfl rfl rfl ?_
 refine j2 (j3 ?_)
 refine r_assign (iv 0) rfl rfl ?_
 refine j0 (j1 (j2 (j3 ?_)))
 refine r_move (iv a0) rfl rfl ?_
 refine r_move (iv a1) rfl rfl ?_
 obtain ⟨r1, e2, hf⟩ := bind_some hf
 refine r_call [iv a0, iv a1] (evs2 rfl rfl) rfl (ok_semtyperef1_Order _ _ _ _ _ _ (RpV.mkInt _ _) (RpV.mkInt _ _) e2) ?_
 intro v4 s3 k5 hr6
 have E7 := E0.x k5
 obtain rfl := RpV.int hr6
 refine r_assign (iv r1) rfl rfl ?_
 refine j0 (j1 (jb ?_))
 obtain rfl := oi hf
 refine ret_one (iv r1) rfl ⟨rfl, rfl⟩ E7 ?_
 exact (RpV.mkInt _ _)

def S_semtyperef1_Compare (f : (Val → Val → Option Int)) : Prop := ∀ (s0 : S) (v0 : Value) (v1 : Value) (a0 : Val) (a1 : Val) (r : Int), RpV s0 a0 v0 → RpV s0 a1 v1 → f a0 a1 = some r → Ctr Go.Proofs.Try.prog 13 [v0, v1] s0 (fun v τ => RpV τ r v)

def S_semtyperef1_values (f : ((List Val) → (List Val) → Option Int)) : Prop := ∀ (s0 : S) (v0 : Value) (v1 : Value) (a0 : (List Val)) (a1 : (List Val)) (r : Int), RpV s0 a0 v0 → RpV s0 a1 v1 → f a0 a1 = some r → Ctr Go.Proofs.Try.prog 50 [v0, v1] s0 (fun v τ => RpV τ r v)

def S_semtyperef1_CompareEntries (f : (Ent → Ent → Option Int)) : Prop := ∀ (s0 : S) (v0 : Value) (v1 : Value) (a0 : Ent) (a1 : Ent) (r : Int), RpV s0 a0 v0 → RpV s0 a1 v1 → f a0 a1 = some r → Ctr Go.Proofs.Try.prog 51 [v0, v1] s0 (fun v τ => RpV τ r v)

end Go.Sx
