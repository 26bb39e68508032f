/- Printed by dec.py. The walks. -/
import Derived.Test.YtamfhohifmbjnaaWk4
namespace Go.Sx
open Go Go.RowKit
attribute [local irreducible] Go.wpList Go.Code.wp Go.Sx.Ctr Go.Sx.CtrE
set_option maxHeartbeats 1600000
set_option maxRecDepth 100000
open Go.Proofs.Try

theorem ok_semtyperef1_node (fuel : Nat) : S_semtyperef1_node (semtyperef1_node fuel) := by
 intro s0 v0 a0 r hp0 hf
 obtain ⟨A1, c2, A4, c5, A7, c8, ak, al, rfl, h3, h6, h9, cr⟩ := Val.rpv hp0
 unfold semtyperef1_node at hf
 have E0 : ExtB s0.N s0 s0 := ExtB.refl _ _
 refine ctr_of 269 func62 rfl rfl rfl rfl ?_
 refine j2 (j3 ?_)
 refine r_box (B := s0.N) 1 E0.size (Val.ag a0 A1 c2 A4 c5 A7 c8 ak al) (Val.cs a0 A1 c2 A4 c5 A7 c8 ak al) rfl rfl rfl ?_
 intro dV ae aQ e8
 have e9 := E0.x aQ
 refine r_assign (bv false) rfl rfl ?_
 refine j0 (j1 (j2 (j2 (j3 ?_))))
 refine r_assign (iv 0) rfl rfl ?_
 refine j0 (j1 (j4 ?_))
 refine gen_F fun cD dW => ?_
 have dX : cD 1 = (.pointer (some ⟨ae, 0, none⟩)) := (dW 1).trans rfl
 have fa : cD 3 = (iv 0) := (dW 3).trans rfl
 obtain ⟨fb, fc, hf⟩ := bind_some hf
 refine wp_mono (wp_iter (step := semtyperef1_node_l1 a0) (fun q a w => ∃ (F : Fr) (τ : S), a = fr 269 F ∧ w = τ.w ∧ Agr [2, 3, 10, 11, 12, 13, 14, 15, 16, 17, 18, 19, 20, 21, 22, 23, 24, 25, 26, 27, 28, 29, 30, 31, 32, 33, 34, 35, 36, 37, 38, 39, 40, 41] F cD ∧ ExtB s0.N s0 τ ∧ Wext dV τ ∧ F 3 = (iv q) ∧ Blk s0.N 1 τ ae 27 (Val.cs a0 A1 c2 A4 c5 A7 c8 ak al)) (fun o e a w => match o with | .inl q => e = .exit 0 ∧ ∃ (F : Fr) (τ : S), a = fr 269 F ∧ w = τ.w ∧ Agr [2, 3, 10, 11, 12, 13, 14, 15, 16, 17, 18, 19, 20, 21, 22, 23, 24, 25, 26, 27, 28, 29, 30, 31, 32, 33, 34, 35, 36, 37, 38, 39, 40, 41] F cD ∧ ExtB s0.N s0 τ ∧ Wext dV τ ∧ F 3 = (iv q) ∧ Blk s0.N 1 τ ae 27 (Val.cs a0 A1 c2 A4 c5 A7 c8 ak al) | .inr r => e = .ret ∧ ∃ (F : Fr) (τ : S) (va : Value), a = fr 269 F ∧ w = τ.w ∧ ExtB s0.N s0 τ ∧ ResV prog 269 F τ.w (.tmp 2) va ∧ RpV τ r va) (by rintro (_ | _) a w ⟨h, _⟩ <;> cases h) ?_ _ _ _ _ _ fc ?_) ?_
 ·intro ao fl a w hf hI
  obtain ⟨_, _, rfl, rfl, cE, cj, cb, bq, cs⟩ := hI
  unfold semtyperef1_node_l1 at hf
  have cl := (cE 1 rfl).trans dX
  refine j2 (j2 (j3 ?_))
  refine r_move (iv ao) bq rfl ?_
  refine r_fieldAddr ae 0 6 6 cl rfl fo27_6 rfl ?_
  refine r_load ae 6 (lv ak a0.Labels.length al) rfl rfl (loads_one to25 ((cs.cell 6).trans rfl)) ?_
  refine r_len ak a0.Labels.length al rfl rfl underlying25 ?_
  refine r_bin (iv ao) (iv (a0.Labels.length : Int)) (bv (decide (ao < (a0.Labels.length : Int)))) rfl rfl rfl rfl (b_lss) ?_
  refine j0 (j1 ?_)
  refine if_else hf (fun cW hf => ?_) (fun cW hf => ?_)
  ·refine c_true rfl cW rfl ?_
   refine ja (j1 (j2 (j4 (j2 ?_))))
   obtain ⟨x33, cX, hf⟩ := bind_some hf
   obtain ⟨aC, cY, hf⟩ := bind_some hf
   refine if_else hf (fun aR hf => ?_) (fun aR hf => ?_)
   ·refine wp_draw (B := frExt s0.N) (sm 17 25) [[], [0], [], rg 3, rg 4, rg 5, rg 6, rg 7, rg 8, rg 9, rg 10, rg 11, rg 12, rg 11, (rg 11 ++ [13]), rg 15, rg 16, rg 11, (rg 11 ++ [17]), rg 11, (rg 11 ++ [17, 18, 19]), (rg 11 ++ [17, 18, 19, 20]), rg 22, rg 23, rg 24] [Fct.eqv (.pointer (some ⟨ae, 6, none⟩)), Fct.eqv (lv ak a0.Labels.length al), Fct.eqv (iv ao), Fct.elem (x33 : ByteArray), Fct.eqv (tv x33), Fct.eqv (bv aC), Fct.eqv (bv (!aC)), Fct.eqv (bv (!aC)), Fct.eqv undef, Fct.eqv undef, Fct.eqv undef, Fct.eqv undef, Fct.eqv undef, Fct.eqv undef, Fct.eqv undef, Fct.eqv undef, Fct.eqv undef, Fct.eqv undef, Fct.eqv undef, Fct.eqv undef, Fct.eqv undef, Fct.eqv undef, Fct.eqv undef, Fct.eqv undef, Fct.eqv (bv true)] (fun D F τ => (Blk s0.N 1 τ ae 27 (Val.cs a0 A1 c2 A4 c5 A7 c8 ak al))) (by kernel_rfl) rfl (by decide) (by decide) (cs.ext (ext_draw _)) (by decide) (by decide) ⟨?_, ?_, ?_, ?_, ?_, ?_, ?_, ?_, ?_, ?_, ?_, ?_, ?_, ?_, ?_, ?_, ?_, ?_, ?_, ?_, ?_, ?_, ?_, ?_, ?_, trivial⟩ ?_
    ·intro _ _ _ _ _ _ _ _ aa ab _
     have ac := aa
     refine r_fieldAddr ae 0 6 6 ((ab 1 rfl).trans cl) rfl fo27_6 rfl ?_
     exact d0 ⟨rfl, aa⟩
    ·intro _ _ _ _ _ _ _ _ aa _ ab
     have ac := aa
     have ad := ac
     refine r_load ae 6 (lv ak a0.Labels.length al) (ab 0 rfl 17 rfl) rfl (loads_one to25 ((ad.cell 6).trans rfl)) ?_
     exact d0 ⟨rfl, aa⟩
    ·intro _ _ _ _ _ _ _ _ aa ab _
     refine r_move (iv ao) ((ab 3 rfl).trans bq) rfl ?_
     exact d0 ⟨rfl, aa⟩
    ·intro _ _ _ _ _ _ _ aa ab _ ac
     refine r_indexAddr (T := 25) (E := 9) (((cr.mono aQ.wext).mono cb).mono aa) cX (ac 1 rfl 18 rfl) (ac 2 rfl 19 rfl) rfl rfl underlying25 sz9 ?_
     intro _ _ _ ad af
     obtain rfl := ad
     exact d0 ⟨⟨_, _, _, rfl, rfl, af⟩, ab⟩
    ·intro _ aa ab _ _ _ _ _ ac _ ad
     obtain ⟨af, ah, _, ai, am, an⟩ : (Fct.elem (x33 : ByteArray)).p (aa 20) ab := ad 3 rfl 20 rfl
     obtain rfl := am
     refine r_load af ah (tv x33) ai rfl (loads_one to9 (an.2 0 _ rfl)) ?_
     exact d0 ⟨rfl, ac⟩
    ·intro _ _ _ _ _ _ aa _ ab _ ac
     have ad := cj.trans aa
     have af := ab
     refine r_call [tv x33] (evs1 (ac 4 rfl 21 rfl)) rfl (ok_semtyperef1_IsVariable _ _ _ _ (RpV.mkStr _ _) cY) ?_
     intro _ _ ah ai
     obtain rfl := RpV.bool ai
     exact d1 ad (Nat.le_refl _) ah ⟨rfl, (af.ext ah)⟩
    ·intro _ _ _ _ _ _ _ _ aa _ ab
     refine r_un (bv aC) (bv (!aC)) (ab 5 rfl 22 rfl) rfl u_not ?_
     exact d0 ⟨rfl, aa⟩
    ·intro _ _ _ _ _ _ _ _ aa _ ab
     refine r_move (bv (!aC)) (ab 6 rfl 23 rfl) rfl ?_
     exact d0 ⟨rfl, aa⟩
    ·intro _ _ _ _ _ _ _ _ aa _ ab
     exact gd0 rfl (ab 7 rfl 24 rfl) aR ⟨rfl, aa⟩
    ·intro _ aa _ _ _ _ _ _ ab _ ac
     have ad : aa 25 = undef := ac 8 rfl 25 rfl
     exact gd0 rfl (ac 7 rfl 24 rfl) aR ⟨rfl, ab⟩
    ·intro _ aa _ _ _ _ _ _ ab _ ac
     have ad : aa 26 = undef := ac 9 rfl 26 rfl
     exact gd0 rfl (ac 7 rfl 24 rfl) aR ⟨rfl, ab⟩
    ·intro _ _ _ _ _ _ _ _ aa _ ab
     exact gdu rfl (ab 10 rfl 27 rfl) ⟨rfl, aa⟩
    ·intro _ aa _ _ _ _ _ _ ab _ ac
     have ad : aa 28 = undef := ac 11 rfl 28 rfl
     exact gdu rfl (ac 10 rfl 27 rfl) ⟨rfl, ab⟩
    ·intro _ _ _ _ _ _ _ _ aa _ ab
     exact gdu rfl (ab 10 rfl 27 rfl) ⟨rfl, aa⟩
    ·intro _ aa _ _ _ _ _ _ ab _ ac
     have ad : aa 30 = undef := ac 13 rfl 30 rfl
     exact gdu rfl (ac 10 rfl 27 rfl) ⟨rfl, ab⟩
    ·intro _ aa _ _ _ _ _ _ ab _ ac
     have ad : aa 29 = undef := ac 12 rfl 29 rfl
     have af : aa 31 = undef := ac 14 rfl 31 rfl
     exact gdu rfl (ac 10 rfl 27 rfl) ⟨rfl, ab⟩
    ·intro _ aa _ _ _ _ _ _ ab _ ac
     have ad : aa 32 = undef := ac 15 rfl 32 rfl
     exact gdu rfl (ac 10 rfl 27 rfl) ⟨rfl, ab⟩
    ·intro _ _ _ _ _ _ _ _ aa _ ab
     exact gdu rfl (ab 10 rfl 27 rfl) ⟨rfl, aa⟩
    ·intro _ aa _ _ _ _ _ _ ab _ ac
     have ad : aa 34 = undef := ac 17 rfl 34 rfl
     exact gdu rfl (ac 10 rfl 27 rfl) ⟨rfl, ab⟩
    ·intro _ _ _ _ _ _ _ _ aa _ ab
     exact gdu rfl (ab 10 rfl 27 rfl) ⟨rfl, aa⟩
    ·intro _ aa _ _ _ _ _ _ ab _ ac
     have ad : aa 35 = undef := ac 18 rfl 35 rfl
     have af : aa 36 = undef := ac 19 rfl 36 rfl
     exact gdu rfl (ac 10 rfl 27 rfl) ⟨rfl, ab⟩
    ·intro _ aa _ _ _ _ _ _ ab _ ac
     have ad : aa 37 = undef := ac 20 rfl 37 rfl
     exact gdu rfl (ac 10 rfl 27 rfl) ⟨rfl, ab⟩
    ·intro _ aa _ _ _ _ _ _ ab _ ac
     have ad : aa 33 = undef := ac 16 rfl 33 rfl
     have af : aa 38 = undef := ac 21 rfl 38 rfl
     exact gdu rfl (ac 10 rfl 27 rfl) ⟨rfl, ab⟩
    ·intro _ aa _ _ _ _ _ _ ab _ ac
     have ad : aa 27 = undef := ac 10 rfl 27 rfl
     have af : aa 39 = undef := ac 22 rfl 39 rfl
     exact gd0 rfl (ac 7 rfl 24 rfl) aR ⟨rfl, ab⟩
    ·intro _ aa _ _ _ _ _ _ ab _ ac
     have ad : aa 40 = undef := ac 23 rfl 40 rfl
     refine r_pick_t (c := !aC) (bv true) (ac 7 rfl 24 rfl) aR rfl rfl rfl rfl ?_
     exact d0 ⟨rfl, ab⟩
    intro _ _ fd _ fe _ ff
    have fg := cj.trans fd
    have iI := fe
    refine j1 ?_
    refine c_true (ff 24 41 rfl) rfl rfl ?_
    refine j2 (j3 ?_)
    refine r_assign (bv false) rfl rfl ?_
    refine j0 (j1 (jb (j7 (j9 ?_))))
    obtain rfl := oi hf
    exact ⟨rfl, _, _, (bv false), rfl, rfl, fg, ⟨rfl, rfl⟩, (RpV.mkBool _ _)⟩
   refine if_else hf (fun aB hf => ?_) (fun aB hf => ?_)
   ·obtain ⟨x438, fh, hf⟩ := bind_some hf
    obtain ⟨x440, fj, hf⟩ := bind_some hf
    refine wp_draw (B := frExt s0.N) (sm 17 25) [[], [0], [], rg 3, rg 4, rg 5, rg 6, rg 7, rg 8, rg 9, rg 10, rg 11, rg 12, rg 11, (rg 11 ++ [13]), rg 15, rg 16, rg 11, (rg 11 ++ [17]), rg 11, (rg 11 ++ [17, 18, 19]), (rg 11 ++ [17, 18, 19, 20]), rg 22, rg 23, rg 24] [Fct.eqv (.pointer (some ⟨ae, 6, none⟩)), Fct.eqv (lv ak a0.Labels.length al), Fct.eqv (iv ao), Fct.elem (x33 : ByteArray), Fct.eqv (tv x33), Fct.eqv (bv aC), Fct.eqv (bv (!aC)), Fct.eqv (bv (!aC)), Fct.eqv (iv ao), Fct.eqv (bv (decide (0 < ao))), Fct.eqv (bv (decide (0 < ao))), Fct.eqv (.pointer (some ⟨ae, 6, none⟩)), Fct.eqv (lv ak a0.Labels.length al), Fct.eqv (iv ao), Fct.eqv (iv (w64 (ao - 1))), Fct.elem (x438 : ByteArray), Fct.eqv (tv x438), Fct.eqv (.pointer (some ⟨ae, 6, none⟩)), Fct.eqv (lv ak a0.Labels.length al), Fct.eqv (iv ao), Fct.elem (x440 : ByteArray), Fct.eqv (tv x440), Fct.eqv (bv (!strLt x438 x440)), Fct.eqv (bv (!strLt x438 x440)), Fct.eqv (bv (!strLt x438 x440))] (fun D F τ => (Blk s0.N 1 τ ae 27 (Val.cs a0 A1 c2 A4 c5 A7 c8 ak al))) (by kernel_rfl) rfl (by decide) (by decide) (cs.ext (ext_draw _)) (by decide) (by decide) ⟨?_, ?_, ?_, ?_, ?_, ?_, ?_, ?_, ?_, ?_, ?_, ?_, ?_, ?_, ?_, ?_, ?_, ?_, ?_, ?_, ?_, ?_, ?_, ?_, ?_, trivial⟩ ?_
    ·intro _ _ _ _ _ _ _ _ aa ab _
     have ac := aa
     refine r_fieldAddr ae 0 6 6 ((ab 1 rfl).trans cl) rfl fo27_6 rfl ?_
     exact d0 ⟨rfl, aa⟩
    ·intro _ _ _ _ _ _ _ _ aa _ ab
     have ac := aa
     have ad := ac
     refine r_load ae 6 (lv ak a0.Labels.length al) (ab 0 rfl 17 rfl) rfl (loads_one to25 ((ad.cell 6).trans rfl)) ?_
     exact d0 ⟨rfl, aa⟩
    ·intro _ _ _ _ _ _ _ _ aa ab _
     refine r_move (iv ao) ((ab 3 rfl).trans bq) rfl ?_
     exact d0 ⟨rfl, aa⟩
    ·intro _ _ _ _ _ _ _ aa ab _ ac
     refine r_indexAddr (T := 25) (E := 9) (((cr.mono aQ.wext).mono cb).mono aa) cX (ac 1 rfl 18 rfl) (ac 2 rfl 19 rfl) rfl rfl underlying25 sz9 ?_
     intro _ _ _ ad af
     obtain rfl := ad
     exact d0 ⟨⟨_, _, _, rfl, rfl, af⟩, ab⟩
    ·intro _ aa ab _ _ _ _ _ ac _ ad
     obtain ⟨af, ah, _, ai, am, an⟩ : (Fct.elem (x33 : ByteArray)).p (aa 20) ab := ad 3 rfl 20 rfl
     obtain rfl := am
     refine r_load af ah (tv x33) ai rfl (loads_one to9 (an.2 0 _ rfl)) ?_
     exact d0 ⟨rfl, ac⟩
    ·intro _ _ _ _ _ _ aa _ ab _ ac
     have ad := cj.trans aa
     have af := ab
     refine r_call [tv x33] (evs1 (ac 4 rfl 21 rfl)) rfl (ok_semtyperef1_IsVariable _ _ _ _ (RpV.mkStr _ _) cY) ?_
     intro _ _ ah ai
     obtain rfl := RpV.bool ai
     exact d1 ad (Nat.le_refl _) ah ⟨rfl, (af.ext ah)⟩
    ·intro _ _ _ _ _ _ _ _ aa _ ab
     refine r_un (bv aC) (bv (!aC)) (ab 5 rfl 22 rfl) rfl u_not ?_
     exact d0 ⟨rfl, aa⟩
    ·intro _ _ _ _ _ _ _ _ aa _ ab
     refine r_move (bv (!aC)) (ab 6 rfl 23 rfl) rfl ?_
     exact d0 ⟨rfl, aa⟩
    ·intro _ _ _ _ _ _ _ _ aa ab ac
     refine gd1 rfl (ac 7 rfl 24 rfl) aR ?_
     refine r_move (iv ao) ((ab 3 rfl).trans bq) rfl ?_
     exact d0 ⟨rfl, aa⟩
    ·intro _ _ _ _ _ _ _ _ aa _ ab
     refine gd1 rfl (ab 7 rfl 24 rfl) aR ?_
     refine r_bin (iv ao) (iv 0) (bv (decide (0 < ao))) (ab 8 rfl 25 rfl) rfl rfl rfl (b_gtr) ?_
     exact d0 ⟨rfl, aa⟩
    ·intro _ _ _ _ _ _ _ _ aa _ ab
     refine gd1 rfl (ab 7 rfl 24 rfl) aR ?_
     refine r_move (bv (decide (0 < ao))) (ab 9 rfl 26 rfl) rfl ?_
     exact d0 ⟨rfl, aa⟩
    ·intro _ _ _ _ _ _ _ _ aa ab ac
     have ad := aa
     refine gd1 rfl (ac 10 rfl 27 rfl) aB ?_
     refine r_fieldAddr ae 0 6 6 ((ab 1 rfl).trans cl) rfl fo27_6 rfl ?_
     exact d0 ⟨rfl, aa⟩
    ·intro _ _ _ _ _ _ _ _ aa _ ab
     have ac := aa
     have ad := ac
     refine gd1 rfl (ab 10 rfl 27 rfl) aB ?_
     refine r_load ae 6 (lv ak a0.Labels.length al) (ab 11 rfl 28 rfl) rfl (loads_one to25 ((ad.cell 6).trans rfl)) ?_
     exact d0 ⟨rfl, aa⟩
    ·intro _ _ _ _ _ _ _ _ aa ab ac
     refine gd1 rfl (ac 10 rfl 27 rfl) aB ?_
     refine r_move (iv ao) ((ab 3 rfl).trans bq) rfl ?_
     exact d0 ⟨rfl, aa⟩
    ·intro _ _ _ _ _ _ _ _ aa _ ab
     refine gd1 rfl (ab 10 rfl 27 rfl) aB ?_
     refine r_bin (iv ao) (iv 1) (iv (w64 (ao - 1))) (ab 13 rfl 30 rfl) rfl rfl rfl (b_sub) ?_
     exact d0 ⟨rfl, aa⟩
    ·intro _ _ _ _ _ _ _ aa ab _ ac
     refine gd1 rfl (ac 10 rfl 27 rfl) aB ?_
     refine r_indexAddr (T := 25) (E := 9) (((cr.mono aQ.wext).mono cb).mono aa) fh (ac 12 rfl 29 rfl) (ac 14 rfl 31 rfl) rfl rfl underlying25 sz9 ?_
     intro _ _ _ ad af
     obtain rfl := ad
     exact d0 ⟨⟨_, _, _, rfl, rfl, af⟩, ab⟩
    ·intro _ aa ab _ _ _ _ _ ac _ ad
     obtain ⟨af, ah, _, ai, am, an⟩ : (Fct.elem (x438 : ByteArray)).p (aa 32) ab := ad 15 rfl 32 rfl
     obtain rfl := am
     refine gd1 rfl (ad 10 rfl 27 rfl) aB ?_
     refine r_load af ah (tv x438) ai rfl (loads_one to9 (an.2 0 _ rfl)) ?_
     exact d0 ⟨rfl, ac⟩
    ·intro _ _ _ _ _ _ _ _ aa ab ac
     have ad := aa
     refine gd1 rfl (ac 10 rfl 27 rfl) aB ?_
     refine r_fieldAddr ae 0 6 6 ((ab 1 rfl).trans cl) rfl fo27_6 rfl ?_
     exact d0 ⟨rfl, aa⟩
    ·intro _ _ _ _ _ _ _ _ aa _ ab
     have ac := aa
     have ad := ac
     refine gd1 rfl (ab 10 rfl 27 rfl) aB ?_
     refine r_load ae 6 (lv ak a0.Labels.length al) (ab 17 rfl 34 rfl) rfl (loads_one to25 ((ad.cell 6).trans rfl)) ?_
     exact d0 ⟨rfl, aa⟩
    ·intro _ _ _ _ _ _ _ _ aa ab ac
     refine gd1 rfl (ac 10 rfl 27 rfl) aB ?_
     refine r_move (iv ao) ((ab 3 rfl).trans bq) rfl ?_
     exact d0 ⟨rfl, aa⟩
    ·intro _ _ _ _ _ _ _ aa ab _ ac
     refine gd1 rfl (ac 10 rfl 27 rfl) aB ?_
     refine r_indexAddr (T := 25) (E := 9) (((cr.mono aQ.wext).mono cb).mono aa) fj (ac 18 rfl 35 rfl) (ac 19 rfl 36 rfl) rfl rfl underlying25 sz9 ?_
     intro _ _ _ ad af
     obtain rfl := ad
     exact d0 ⟨⟨_, _, _, rfl, rfl, af⟩, ab⟩
    ·intro _ aa ab _ _ _ _ _ ac _ ad
     obtain ⟨af, ah, _, ai, am, an⟩ : (Fct.elem (x440 : ByteArray)).p (aa 37) ab := ad 20 rfl 37 rfl
     obtain rfl := am
     refine gd1 rfl (ad 10 rfl 27 rfl) aB ?_
     refine r_load af ah (tv x440) ai rfl (loads_one to9 (an.2 0 _ rfl)) ?_
     exact d0 ⟨rfl, ac⟩
    ·intro _ _ _ _ _ _ _ _ aa _ ab
     refine gd1 rfl (ab 10 rfl 27 rfl) aB ?_
     refine r_bin (tv x438) (tv x440) (bv (!strLt x438 x440)) (ab 16 rfl 33 rfl) (ab 21 rfl 38 rfl) rfl rfl (b_sgeq) ?_
     exact d0 ⟨rfl, aa⟩
    ·intro _ _ _ _ _ _ _ _ aa _ ab
     refine gd1 rfl (ab 7 rfl 24 rfl) aR ?_
     refine r_pick_t (c := decide (0 < ao)) (bv (!strLt x438 x440)) (ab 10 rfl 27 rfl) aB (ab 22 rfl 39 rfl) rfl rfl rfl ?_
     exact d0 ⟨rfl, aa⟩
    ·intro _ _ _ _ _ _ _ _ aa _ ab
     refine r_pick_f (c := !aC) (bv (!strLt x438 x440)) (ab 7 rfl 24 rfl) aR (ab 23 rfl 40 rfl) rfl rfl rfl ?_
     exact d0 ⟨rfl, aa⟩
    intro fk _ fm fn fo dY fp
    have dZ := cj.trans fm
    have fq := fo
    have fs := fq
    have ft := (dY 3 rfl).trans bq
    have d2 : fk 41 = (bv (!strLt x438 x440)) := fp 24 41 rfl
    refine j1 ?_
    refine if_else hf (fun cZ hf => ?_) (fun cZ hf => ?_)
    ·refine c_true d2 cZ rfl ?_
     refine j2 (j3 ?_)
     refine r_assign (bv false) rfl rfl ?_
     refine j0 (j1 (jb (j7 (j9 ?_))))
     obtain rfl := oi hf
     exact ⟨rfl, _, _, (bv false), rfl, rfl, dZ, ⟨rfl, rfl⟩, (RpV.mkBool _ _)⟩
    refine c_false d2 cZ rfl ?_
    refine ja (j5 (j1 (j3 ?_)))
    refine r_move (iv ao) ft rfl ?_
    refine r_bin (iv ao) (iv 1) (iv (w64 (ao + 1))) rfl rfl rfl rfl (b_add) ?_
    refine r_assign (iv (w64 (ao + 1))) rfl rfl ?_
    refine j0 ?_
    obtain rfl := oi hf
    exact ⟨rfl, _, _, rfl, rfl, ((((((((((cE).put rfl).put rfl).put rfl).put rfl).put rfl).draw dY rfl).put rfl).put rfl).put rfl), dZ, (((Wext.refl _).trans cb).trans fn), rfl, fs⟩
   refine wp_draw (B := frExt s0.N) (sm 17 25) [[], [0], [], rg 3, rg 4, rg 5, rg 6, rg 7, rg 8, rg 9, rg 10, rg 11, rg 12, rg 11, (rg 11 ++ [13]), rg 15, rg 16, rg 11, (rg 11 ++ [17]), rg 11, (rg 11 ++ [17, 18, 19]), (rg 11 ++ [17, 18, 19, 20]), rg 22, rg 23, rg 24] [Fct.eqv (.pointer (some ⟨ae, 6, none⟩)), Fct.eqv (lv ak a0.Labels.length al), Fct.eqv (iv ao), Fct.elem (x33 : ByteArray), Fct.eqv (tv x33), Fct.eqv (bv aC), Fct.eqv (bv (!aC)), Fct.eqv (bv (!aC)), Fct.eqv (iv ao), Fct.eqv (bv (decide (0 < ao))), Fct.eqv (bv (decide (0 < ao))), Fct.eqv undef, Fct.eqv undef, Fct.eqv undef, Fct.eqv undef, Fct.eqv undef, Fct.eqv undef, Fct.eqv undef, Fct.eqv undef, Fct.eqv undef, Fct.eqv undef, Fct.eqv undef, Fct.eqv undef, Fct.eqv (bv false), Fct.eqv (bv false)] (fun D F τ => (Blk s0.N 1 τ ae 27 (Val.cs a0 A1 c2 A4 c5 A7 c8 ak al))) (by kernel_rfl) rfl (by decide) (by decide) (cs.ext (ext_draw _)) (by decide) (by decide) ⟨?_, ?_, ?_, ?_, ?_, ?_, ?_, ?_, ?_, ?_, ?_, ?_, ?_, ?_, ?_, ?_, ?_, ?_, ?_, ?_, ?_, ?_, ?_, ?_, ?_, trivial⟩ ?_
   ·intro _ _ _ _ _ _ _ _ aa ab _
    have ac := aa
    refine r_fieldAddr ae 0 6 6 ((ab 1 rfl).trans cl) rfl fo27_6 rfl ?_
    exact d0 ⟨rfl, aa⟩
   ·intro _ _ _ _ _ _ _ _ aa _ ab
    have ac := aa
    have ad := ac
    refine r_load ae 6 (lv ak a0.Labels.length al) (ab 0 rfl 17 rfl) rfl (loads_one to25 ((ad.cell 6).trans rfl)) ?_
    exact d0 ⟨rfl, aa⟩
   ·intro _ _ _ _ _ _ _ _ aa ab _
    refine r_move (iv ao) ((ab 3 rfl).trans bq) rfl ?_
    exact d0 ⟨rfl, aa⟩
   ·intro _ _ _ _ _ _ _ aa ab _ ac
    refine r_indexAddr (T := 25) (E := 9) (((cr.mono aQ.wext).mono cb).mono aa) cX (ac 1 rfl 18 rfl) (ac 2 rfl 19 rfl) rfl rfl underlying25 sz9 ?_
    intro _ _ _ ad af
    obtain rfl := ad
    exact d0 ⟨⟨_, _, _, rfl, rfl, af⟩, ab⟩
   ·intro _ aa ab _ _ _ _ _ ac _ ad
    obtain ⟨af, ah, _, ai, am, an⟩ : (Fct.elem (x33 : ByteArray)).p (aa 20) ab := ad 3 rfl 20 rfl
    obtain rfl := am
    refine r_load af ah (tv x33) ai rfl (loads_one to9 (an.2 0 _ rfl)) ?_
    exact d0 ⟨rfl, ac⟩
   ·intro _ _ _ _ _ _ aa _ ab _ ac
    have ad := cj.trans aa
    have af := ab
    refine r_call [tv x33] (evs1 (ac 4 rfl 21 rfl)) rfl (ok_semtyperef1_IsVariable _ _ _ _ (RpV.mkStr _ _) cY) ?_
    intro _ _ ah ai
    obtain rfl := RpV.bool ai
    exact d1 ad (Nat.le_refl _) ah ⟨rfl, (af.ext ah)⟩
   ·intro _ _ _ _ _ _ _ _ aa _ ab
    refine r_un (bv aC) (bv (!aC)) (ab 5 rfl 22 rfl) rfl u_not ?_
    exact d0 ⟨rfl, aa⟩
   ·intro _ _ _ _ _ _ _ _ aa _ ab
    refine r_move (bv (!aC)) (ab 6 rfl 23 rfl) rfl ?_
    exact d0 ⟨rfl, aa⟩
   ·intro _ _ _ _ _ _ _ _ aa ab ac
    refine gd1 rfl (ac 7 rfl 24 rfl) aR ?_
    refine r_move (iv ao) ((ab 3 rfl).trans bq) rfl ?_
    exact d0 ⟨rfl, aa⟩
   ·intro _ _ _ _ _ _ _ _ aa _ ab
    refine gd1 rfl (ab 7 rfl 24 rfl) aR ?_
    refine r_bin (iv ao) (iv 0) (bv (decide (0 < ao))) (ab 8 rfl 25 rfl) rfl rfl rfl (b_gtr) ?_
    exact d0 ⟨rfl, aa⟩
   ·intro _ _ _ _ _ _ _ _ aa _ ab
    refine gd1 rfl (ab 7 rfl 24 rfl) aR ?_
    refine r_move (bv (decide (0 < ao))) (ab 9 rfl 26 rfl) rfl ?_
    exact d0 ⟨rfl, aa⟩
   ·intro _ _ _ _ _ _ _ _ aa _ ab
    exact gd0 rfl (ab 10 rfl 27 rfl) aB ⟨rfl, aa⟩
   ·intro _ aa _ _ _ _ _ _ ab _ ac
    have ad : aa 28 = undef := ac 11 rfl 28 rfl
    exact gd0 rfl (ac 10 rfl 27 rfl) aB ⟨rfl, ab⟩
   ·intro _ _ _ _ _ _ _ _ aa _ ab
    exact gd0 rfl (ab 10 rfl 27 rfl) aB ⟨rfl, aa⟩
   ·intro _ aa _ _ _ _ _ _ ab _ ac
    have ad : aa 30 = undef := ac 13 rfl 30 rfl
    exact gd0 rfl (ac 10 rfl 27 rfl) aB ⟨rfl, ab⟩
   ·intro _ aa _ _ _ _ _ _ ab _ ac
    have ad : aa 29 = undef := ac 12 rfl 29 rfl
    have af : aa 31 = undef := ac 14 rfl 31 rfl
    exact gd0 rfl (ac 10 rfl 27 rfl) aB ⟨rfl, ab⟩
   ·intro _ aa _ _ _ _ _ _ ab _ ac
    have ad : aa 32 = undef := ac 15 rfl 32 rfl
    exact gd0 rfl (ac 10 rfl 27 rfl) aB ⟨rfl, ab⟩
   ·intro _ _ _ _ _ _ _ _ aa _ ab
    exact gd0 rfl (ab 10 rfl 27 rfl) aB ⟨rfl, aa⟩
   ·intro _ aa _ _ _ _ _ _ ab _ ac
    have ad : aa 34 = undef := ac 17 rfl 34 rfl
    exact gd0 rfl (ac 10 rfl 27 rfl) aB ⟨rfl, ab⟩
   ·intro _ _ _ _ _ _ _ _ aa _ ab
    exact gd0 rfl (ab 10 rfl 27 rfl) aB ⟨rfl, aa⟩
   ·intro _ aa _ _ _ _ _ _ ab _ ac
    have ad : aa 35 = undef := ac 18 rfl 35 rfl
    have af : aa 36 = undef := ac 19 rfl 36 rfl
    exact gd0 rfl (ac 10 rfl 27 rfl) aB ⟨rfl, ab⟩
   ·intro _ aa _ _ _ _ _ _ ab _ ac
    have ad : aa 37 = undef := ac 20 rfl 37 rfl
    exact gd0 rfl (ac 10 rfl 27 rfl) aB ⟨rfl, ab⟩
   ·intro _ aa _ _ _ _ _ _ ab _ ac
    have ad : aa 33 = undef := ac 16 rfl 33 rfl
    have af : aa 38 = undef := ac 21 rfl 38 rfl
    exact gd0 rfl (ac 10 rfl 27 rfl) aB ⟨rfl, ab⟩
   ·intro _ aa _ _ _ _ _ _ ab _ ac
    have ad : aa 39 = undef := ac 22 rfl 39 rfl
    refine gd1 rfl (ac 7 rfl 24 rfl) aR ?_
    refine r_pick_f (c := decide (0 < ao)) (bv false) (ac 10 rfl 27 rfl) aB rfl rfl rfl rfl ?_
    exact d0 ⟨rfl, ab⟩
   ·intro _ _ _ _ _ _ _ _ aa _ ab
    refine r_pick_f (c := !aC) (bv false) (ab 7 rfl 24 rfl) aR (ab 23 rfl 40 rfl) rfl rfl rfl ?_
    exact d0 ⟨rfl, aa⟩
   intro _ _ fu fv fw d3 fx
   have fy := cj.trans fu
   have fz := fw
   have fA := fz
   have fB := (d3 3 rfl).trans bq
   refine j1 ?_
   refine c_false (fx 24 41 rfl) rfl rfl ?_
   refine ja (j5 (j1 (j3 ?_)))
   refine r_move (iv ao) fB rfl ?_
   refine r_bin (iv ao) (iv 1) (iv (w64 (ao + 1))) rfl rfl rfl rfl (b_add) ?_
   refine r_assign (iv (w64 (ao + 1))) rfl rfl ?_
   refine j0 ?_
   obtain rfl := oi hf
   exact ⟨rfl, _, _, rfl, rfl, ((((((((((cE).put rfl).put rfl).put rfl).put rfl).put rfl).draw d3 rfl).put rfl).put rfl).put rfl), fy, (((Wext.refl _).trans cb).trans fv), rfl, fA⟩
  refine c_false rfl cW rfl ?_
  refine jc (j8 ?_)
  obtain rfl := oi hf
  exact ⟨rfl, _, _, rfl, rfl, ((((((cE).put rfl).put rfl).put rfl).put rfl).put rfl), cj, ((Wext.refl _).trans cb), bq, cs⟩
 ·exact ⟨_, _, rfl, rfl, (Agr.refl _ _), e9, (Wext.refl _), fa, e8⟩
 intro e a w hp
 rcases fb with iJ | r
 ·replace hf := onEnd_inl hf
  obtain ⟨rfl, _, d4, rfl, rfl, fC, d5, bz, _, cF⟩ := hp
  have fD := (fC 1 rfl).trans dX
  refine j6 (j1 ?_)
  refine gen_F fun fE fF => ?_
  have c0 := (fF 1).trans fD
  obtain ⟨a3, hq1282, hf⟩ := bind_some hf
  refine wp_join1 (fun a w => ∃ (F : Fr) (τ : S), a = fr 269 F ∧ w = τ.w ∧ Agr [4, 42, 43, 44, 45, 46, 47, 48, 49, 50, 51, 52, 53, 54] F fE ∧ ExtB s0.N s0 τ ∧ Wext d4 τ ∧ F 4 = (bv a3) ∧ Blk s0.N 1 τ ae 27 (Val.cs a0 A1 c2 A4 c5 A7 c8 ak al)) ?_ ?_
  ·have hf := hq1282
   refine j3 ?_
   refine r_fieldAddr ae 0 0 0 c0 rfl fo27_0 rfl ?_
   refine r_load ae 0 (iv a0.Kind) rfl rfl (loads_one to3 ((cF.cell 0).trans rfl)) ?_
   refine r_bin (iv a0.Kind) (iv 1) (bv (a0.Kind == 1)) rfl rfl rfl rfl (b_eql) ?_
   refine r_move (bv (a0.Kind == 1)) rfl rfl ?_
   refine gen_FL fun d6 cG => ?_
   have d7 := (cG 1).trans c0
   have cc : d6 45 = (bv (a0.Kind == 1)) := (cG 45).trans rfl
   obtain ⟨bA, hq1288, hf⟩ := bind_some hf
   refine wpl_take 4 (J := fun a w => ∃ (F : Fr) (τ : S), a = fr 269 F ∧ w = τ.w ∧ Agr [46, 47, 48, 49] F d6 ∧ ExtB s0.N s0 τ ∧ Wext d4 τ ∧ F 49 = (bv bA) ∧ Blk s0.N 1 τ ae 27 (Val.cs a0 A1 c2 A4 c5 A7 c8 ak al)) ?_ ?_
   ·have hf := hq1288
    refine if_else hf (fun bK hf => ?_) (fun bK hf => ?_)
    ·refine r_skip (j := 3) (want := false) (d := 45) (c := (a0.Kind == 1)) (v := true) rfl cc bK rfl rfl ?_
     refine r_skip (j := 3) (want := false) (d := 45) (c := (a0.Kind == 1)) (v := true) rfl cc bK rfl rfl ?_
     refine r_skip (j := 3) (want := false) (d := 45) (c := (a0.Kind == 1)) (v := true) rfl cc bK rfl rfl ?_
     refine r_pick_t (c := (a0.Kind == 1)) (bv true) cc bK rfl rfl rfl rfl ?_
     refine j0 ?_
     obtain rfl := oi hf
     exact ⟨rfl, _, _, rfl, rfl, (((((Agr.refl _ _).put rfl).put rfl).put rfl).put rfl), d5, (Wext.refl _), rfl, cF⟩
    refine r_guard (j := 3) (want := false) (d := 45) (c := (a0.Kind == 1)) (v := false) rfl cc bK rfl rfl ?_
    refine r_fieldAddr ae 0 0 0 d7 rfl fo27_0 rfl ?_
    refine r_guard (j := 3) (want := false) (d := 45) (c := (a0.Kind == 1)) (v := false) rfl cc bK rfl rfl ?_
    refine r_load ae 0 (iv a0.Kind) rfl rfl (loads_one to3 ((cF.cell 0).trans rfl)) ?_
    refine r_guard (j := 3) (want := false) (d := 45) (c := (a0.Kind == 1)) (v := false) rfl cc bK rfl rfl ?_
    refine r_bin (iv a0.Kind) (iv 4) (bv (a0.Kind == 4)) rfl rfl rfl rfl (b_eql) ?_
    refine r_pick_f (c := (a0.Kind == 1)) (bv (a0.Kind == 4)) cc bK rfl rfl rfl rfl ?_
    refine j0 ?_
    obtain rfl := oi hf
    exact ⟨rfl, _, _, rfl, rfl, (((((Agr.refl _ _).put rfl).put rfl).put rfl).put rfl), d5, (Wext.refl _), rfl, cF⟩
   rintro a w ⟨iK, iL, rfl, rfl, c1, d8, d9, fG, c3⟩
   have fH := (c1 1 rfl).trans d7
   refine r_move (bv bA) fG rfl ?_
   refine if_else hf (fun bL hf => ?_) (fun bL hf => ?_)
   ·refine r_skip (j := 8) (want := false) (d := 50) (c := bA) (v := true) rfl rfl bL rfl rfl ?_
    refine r_skip (j := 8) (want := false) (d := 50) (c := bA) (v := true) rfl rfl bL rfl rfl ?_
    refine r_skip (j := 8) (want := false) (d := 50) (c := bA) (v := true) rfl rfl bL rfl rfl ?_
    refine r_pick_t (c := bA) (bv true) rfl bL rfl rfl rfl rfl ?_
    refine r_assign (bv true) rfl rfl ?_
    refine j0 ?_
    obtain rfl := oi hf
    exact ⟨rfl, _, _, rfl, rfl, (((((((((((((Agr.refl _ _).put rfl).put rfl).put rfl).put rfl).gen cG).loop c1 rfl).put rfl).put rfl).put rfl).put rfl).put rfl).put rfl), d8, ((Wext.refl _).trans d9), rfl, c3⟩
   refine r_guard (j := 8) (want := false) (d := 50) (c := bA) (v := false) rfl rfl bL rfl rfl ?_
   refine r_fieldAddr ae 0 0 0 fH rfl fo27_0 rfl ?_
   refine r_guard (j := 8) (want := false) (d := 50) (c := bA) (v := false) rfl rfl bL rfl rfl ?_
   refine r_load ae 0 (iv a0.Kind) rfl rfl (loads_one to3 ((c3.cell 0).trans rfl)) ?_
   refine r_guard (j := 8) (want := false) (d := 50) (c := bA) (v := false) rfl rfl bL rfl rfl ?_
   refine r_bin (iv a0.Kind) (iv 9) (bv (a0.Kind == 9)) rfl rfl rfl rfl (b_eql) ?_
   refine r_pick_f (c := bA) (bv (a0.Kind == 9)) rfl bL rfl rfl rfl rfl ?_
   refine r_assign (bv (a0.Kind == 9)) rfl rfl ?_
   refine j0 ?_
   obtain rfl := oi hf
   exact ⟨rfl, _, _, rfl, rfl, (((((((((((((Agr.refl _ _).put rfl).put rfl).put rfl).put rfl).gen cG).loop c1 rfl).put rfl).put rfl).put rfl).put rfl).put rfl).put rfl), d8, ((Wext.refl _).trans d9), rfl, c3⟩
  rintro a w ⟨iM, fI, rfl, rfl, fJ, ea, bB, fK, cH⟩
  have fL := (fJ 1 rfl).trans c0
  refine gen_F fun fM eb => ?_
  have c4 := (eb 1).trans fL
  have fN := (eb 4).trans fK
  obtain ⟨a4, hq1312, hf⟩ := bind_some hf
  refine wp_join1 (fun a w => ∃ (F : Fr) (τ : S), a = fr 269 F ∧ w = τ.w ∧ Agr [5, 55, 56, 57, 58, 59, 60, 61, 62] F fM ∧ ExtB s0.N s0 τ ∧ Wext fI τ ∧ F 5 = (bv a4) ∧ Blk s0.N 1 τ ae 27 (Val.cs a0 A1 c2 A4 c5 A7 c8 ak al)) ?_ ?_
  ·have hf := hq1312
   refine j3 ?_
   refine r_fieldAddr ae 0 0 0 c4 rfl fo27_0 rfl ?_
   refine r_load ae 0 (iv a0.Kind) rfl rfl (loads_one to3 ((cH.cell 0).trans rfl)) ?_
   refine r_bin (iv a0.Kind) (iv 2) (bv (a0.Kind == 2)) rfl rfl rfl rfl (b_eql) ?_
   refine r_move (bv (a0.Kind == 2)) rfl rfl ?_
   refine if_else hf (fun bM hf => ?_) (fun bM hf => ?_)
   ·refine r_skip (j := 3) (want := false) (d := 58) (c := (a0.Kind == 2)) (v := true) rfl rfl bM rfl rfl ?_
    refine r_skip (j := 3) (want := false) (d := 58) (c := (a0.Kind == 2)) (v := true) rfl rfl bM rfl rfl ?_
    refine r_skip (j := 3) (want := false) (d := 58) (c := (a0.Kind == 2)) (v := true) rfl rfl bM rfl rfl ?_
    refine r_pick_t (c := (a0.Kind == 2)) (bv true) rfl bM rfl rfl rfl rfl ?_
    refine r_assign (bv true) rfl rfl ?_
    refine j0 ?_
    obtain rfl := oi hf
    exact ⟨rfl, _, _, rfl, rfl, ((((((((((Agr.refl _ _).put rfl).put rfl).put rfl).put rfl).put rfl).put rfl).put rfl).put rfl).put rfl), ea, (Wext.refl _), rfl, cH⟩
   refine r_guard (j := 3) (want := false) (d := 58) (c := (a0.Kind == 2)) (v := false) rfl rfl bM rfl rfl ?_
   refine r_fieldAddr ae 0 0 0 c4 rfl fo27_0 rfl ?_
   refine r_guard (j := 3) (want := false) (d := 58) (c := (a0.Kind == 2)) (v := false) rfl rfl bM rfl rfl ?_
   refine r_load ae 0 (iv a0.Kind) rfl rfl (loads_one to3 ((cH.cell 0).trans rfl)) ?_
   refine r_guard (j := 3) (want := false) (d := 58) (c := (a0.Kind == 2)) (v := false) rfl rfl bM rfl rfl ?_
   refine r_bin (iv a0.Kind) (iv 3) (bv (a0.Kind == 3)) rfl rfl rfl rfl (b_eql) ?_
   refine r_pick_f (c := (a0.Kind == 2)) (bv (a0.Kind == 3)) rfl bM rfl rfl rfl rfl ?_
   refine r_assign (bv (a0.Kind == 3)) rfl rfl ?_
   refine j0 ?_
   obtain rfl := oi hf
   exact ⟨rfl, _, _, rfl, rfl, ((((((((((Agr.refl _ _).put rfl).put rfl).put rfl).put rfl).put rfl).put rfl).put rfl).put rfl).put rfl), ea, (Wext.refl _), rfl, cH⟩
  rintro a w ⟨iN, ec, rfl, rfl, ed, ee, bC, fO, cI⟩
  have fP := (ed 1 rfl).trans c4
  have fQ := (ed 4 rfl).trans fN
  refine gen_F fun fR c6 => ?_
  have c7 := (c6 1).trans fP
  have fS := (c6 4).trans fQ
  have fT := (c6 5).trans fO
  obtain ⟨aS, hq1329, hf⟩ := bind_some hf
  refine wp_join1 (fun a w => ∃ (F : Fr) (τ : S), a = fr 269 F ∧ w = τ.w ∧ Agr [6, 63, 64, 65, 66, 67, 68, 69, 70, 71, 72, 73, 74, 75] F fR ∧ ExtB s0.N s0 τ ∧ Wext ec τ ∧ F 6 = (bv aS) ∧ Blk s0.N 1 τ ae 27 (Val.cs a0 A1 c2 A4 c5 A7 c8 ak al)) ?_ ?_
  ·have hf := hq1329
   refine j3 ?_
   refine r_fieldAddr ae 0 0 0 c7 rfl fo27_0 rfl ?_
   refine r_load ae 0 (iv a0.Kind) rfl rfl (loads_one to3 ((cI.cell 0).trans rfl)) ?_
   refine r_bin (iv a0.Kind) (iv 6) (bv (a0.Kind == 6)) rfl rfl rfl rfl (b_eql) ?_
   refine r_move (bv (a0.Kind == 6)) rfl rfl ?_
   refine gen_FL fun ef cJ => ?_
   have eg := (cJ 1).trans c7
   have cd : ef 66 = (bv (a0.Kind == 6)) := (cJ 66).trans rfl
   obtain ⟨bD, hq1337, hf⟩ := bind_some hf
   refine wpl_take 4 (J := fun a w => ∃ (F : Fr) (τ : S), a = fr 269 F ∧ w = τ.w ∧ Agr [67, 68, 69, 70] F ef ∧ ExtB s0.N s0 τ ∧ Wext ec τ ∧ F 70 = (bv bD) ∧ Blk s0.N 1 τ ae 27 (Val.cs a0 A1 c2 A4 c5 A7 c8 ak al)) ?_ ?_
   ·have hf := hq1337
    refine if_else hf (fun bN hf => ?_) (fun bN hf => ?_)
    ·refine r_skip (j := 3) (want := false) (d := 66) (c := (a0.Kind == 6)) (v := true) rfl cd bN rfl rfl ?_
     refine r_skip (j := 3) (want := false) (d := 66) (c := (a0.Kind == 6)) (v := true) rfl cd bN rfl rfl ?_
     refine r_skip (j := 3) (want := false) (d := 66) (c := (a0.Kind == 6)) (v := true) rfl cd bN rfl rfl ?_
     refine r_pick_t (c := (a0.Kind == 6)) (bv true) cd bN rfl rfl rfl rfl ?_
     refine j0 ?_
     obtain rfl := oi hf
     exact ⟨rfl, _, _, rfl, rfl, (((((Agr.refl _ _).put rfl).put rfl).put rfl).put rfl), ee, (Wext.refl _), rfl, cI⟩
    refine r_guard (j := 3) (want := false) (d := 66) (c := (a0.Kind == 6)) (v := false) rfl cd bN rfl rfl ?_
    refine r_fieldAddr ae 0 0 0 eg rfl fo27_0 rfl ?_
    refine r_guard (j := 3) (want := false) (d := 66) (c := (a0.Kind == 6)) (v := false) rfl cd bN rfl rfl ?_
    refine r_load ae 0 (iv a0.Kind) rfl rfl (loads_one to3 ((cI.cell 0).trans rfl)) ?_
    refine r_guard (j := 3) (want := false) (d := 66) (c := (a0.Kind == 6)) (v := false) rfl cd bN rfl rfl ?_
    refine r_bin (iv a0.Kind) (iv 7) (bv (a0.Kind == 7)) rfl rfl rfl rfl (b_eql) ?_
    refine r_pick_f (c := (a0.Kind == 6)) (bv (a0.Kind == 7)) cd bN rfl rfl rfl rfl ?_
    refine j0 ?_
    obtain rfl := oi hf
    exact ⟨rfl, _, _, rfl, rfl, (((((Agr.refl _ _).put rfl).put rfl).put rfl).put rfl), ee, (Wext.refl _), rfl, cI⟩
   rintro a w ⟨iO, iP, rfl, rfl, c9, eh, ei, fU, da⟩
   have fV := (c9 1 rfl).trans eg
   refine r_move (bv bD) fU rfl ?_
   refine if_else hf (fun bO hf => ?_) (fun bO hf => ?_)
   ·refine r_skip (j := 8) (want := false) (d := 71) (c := bD) (v := true) rfl rfl bO rfl rfl ?_
    refine r_skip (j := 8) (want := false) (d := 71) (c := bD) (v := true) rfl rfl bO rfl rfl ?_
    refine r_skip (j := 8) (want := false) (d := 71) (c := bD) (v := true) rfl rfl bO rfl rfl ?_
    refine r_pick_t (c := bD) (bv true) rfl bO rfl rfl rfl rfl ?_
    refine r_assign (bv true) rfl rfl ?_
    refine j0 ?_
    obtain rfl := oi hf
    exact ⟨rfl, _, _, rfl, rfl, (((((((((((((Agr.refl _ _).put rfl).put rfl).put rfl).put rfl).gen cJ).loop c9 rfl).put rfl).put rfl).put rfl).put rfl).put rfl).put rfl), eh, ((Wext.refl _).trans ei), rfl, da⟩
   refine r_guard (j := 8) (want := false) (d := 71) (c := bD) (v := false) rfl rfl bO rfl rfl ?_
   refine r_fieldAddr ae 0 0 0 fV rfl fo27_0 rfl ?_
   refine r_guard (j := 8) (want := false) (d := 71) (c := bD) (v := false) rfl rfl bO rfl rfl ?_
   refine r_load ae 0 (iv a0.Kind) rfl rfl (loads_one to3 ((da.cell 0).trans rfl)) ?_
   refine r_guard (j := 8) (want := false) (d := 71) (c := bD) (v := false) rfl rfl bO rfl rfl ?_
   refine r_bin (iv a0.Kind) (iv 8) (bv (a0.Kind == 8)) rfl rfl rfl rfl (b_eql) ?_
   refine r_pick_f (c := bD) (bv (a0.Kind == 8)) rfl bO rfl rfl rfl rfl ?_
   refine r_assign (bv (a0.Kind == 8)) rfl rfl ?_
   refine j0 ?_
   obtain rfl := oi hf
   exact ⟨rfl, _, _, rfl, rfl, (((((((((((((Agr.refl _ _).put rfl).put rfl).put rfl).put rfl).gen cJ).loop c9 rfl).put rfl).put rfl).put rfl).put rfl).put rfl).put rfl), eh, ((Wext.refl _).trans ei), rfl, da⟩
  rintro a w ⟨iQ, ej, rfl, rfl, db, ek, bE, fW, dc⟩
  have fX := (db 1 rfl).trans c7
  have fY := (db 4 rfl).trans fS
  have fZ := (db 5 rfl).trans fT
  refine j2 ?_
  refine gen_F fun f0 cK => ?_
  have el := (cK 1).trans fX
  have f1 := (cK 4).trans fY
  have f2 := (cK 5).trans fZ
  have f3 := (cK 6).trans fW
  obtain ⟨f4, hq1367, hf⟩ := bind_some hf
  refine wp_join1 (fun a w => ∃ (F : Fr) (τ : S), a = fr 269 F ∧ w = τ.w ∧ Agr [76, 77, 78, 79, 80, 81, 82, 83, 84, 85, 86, 87, 88, 89, 90, 91, 92, 93, 94, 95, 96, 97, 98, 99, 100, 101, 102, 103, 104, 105, 106, 107, 108, 109, 110, 111, 112, 113, 114, 115, 116, 117, 118, 119, 120, 121, 122, 123] F f0 ∧ ExtB s0.N s0 τ ∧ Wext ej τ ∧ F 123 = (bv f4) ∧ Blk s0.N 1 τ ae 27 (Val.cs a0 A1 c2 A4 c5 A7 c8 ak al)) ?_ ?_
  ·have hf := hq1367
   refine j3 ?_
   refine r_move (bv a3) f1 rfl ?_
   refine r_un (bv a3) (bv (!a3)) rfl rfl u_not ?_
   refine r_move (bv (!a3)) rfl rfl ?_
   refine gen_FL fun em cm => ?_
   have en := (cm 1).trans el
   have f5 := (cm 5).trans f2
   have f6 := (cm 6).trans f3
   have ce : em 78 = (bv (!a3)) := (cm 78).trans rfl
   obtain ⟨a5, hq1375, hf⟩ := bind_some hf
   refine wpl_take 4 (J := fun a w => ∃ (F : Fr) (τ : S), a = fr 269 F ∧ w = τ.w ∧ Agr [79, 80, 81, 82] F em ∧ ExtB s0.N s0 τ ∧ Wext ej τ ∧ F 82 = (bv a5) ∧ Blk s0.N 1 τ ae 27 (Val.cs a0 A1 c2 A4 c5 A7 c8 ak al)) ?_ ?_
   ·have hf := hq1375
    refine if_else hf (fun bP hf => ?_) (fun bP hf => ?_)
    ·refine r_guard (j := 2) (want := true) (d := 78) (c := !a3) (v := true) rfl ce bP rfl rfl ?_
     refine r_fieldAddr ae 0 1 1 en rfl fo27_1 rfl ?_
     refine r_guard (j := 2) (want := true) (d := 78) (c := !a3) (v := true) rfl ce bP rfl rfl ?_
     refine r_load ae 1 (iv a0.Int_) rfl rfl (loads_one to2 ((dc.cell 1).trans rfl)) ?_
     refine r_guard (j := 2) (want := true) (d := 78) (c := !a3) (v := true) rfl ce bP rfl rfl ?_
     refine r_bin (iv a0.Int_) (iv 0) (bv (a0.Int_ != 0)) rfl rfl rfl rfl (b_neq) ?_
     refine r_pick_t (c := !a3) (bv (a0.Int_ != 0)) ce bP rfl rfl rfl rfl ?_
     refine j0 ?_
     obtain rfl := oi hf
     exact ⟨rfl, _, _, rfl, rfl, (((((Agr.refl _ _).put rfl).put rfl).put rfl).put rfl), ek, (Wext.refl _), rfl, dc⟩
    refine r_skip (j := 2) (want := true) (d := 78) (c := !a3) (v := false) rfl ce bP rfl rfl ?_
    refine r_skip (j := 2) (want := true) (d := 78) (c := !a3) (v := false) rfl ce bP rfl rfl ?_
    refine r_skip (j := 2) (want := true) (d := 78) (c := !a3) (v := false) rfl ce bP rfl rfl ?_
    refine r_pick_f (c := !a3) (bv false) ce bP rfl rfl rfl rfl ?_
    refine j0 ?_
    obtain rfl := oi hf
    exact ⟨rfl, _, _, rfl, rfl, (((((Agr.refl _ _).put rfl).put rfl).put rfl).put rfl), ek, (Wext.refl _), rfl, dc⟩
   rintro a w ⟨iR, eo, rfl, rfl, ct, dd, ep, f7, cL⟩
   have f8 := (ct 1 rfl).trans en
   have f9 := (ct 5 rfl).trans f5
   have ga := (ct 6 rfl).trans f6
   refine r_move (bv a5) f7 rfl ?_
   refine gen_FL fun eq cn => ?_
   have er := (cn 1).trans f8
   have gb := (cn 5).trans f9
   have gc := (cn 6).trans ga
   have bQ : eq 83 = (bv a5) := (cn 83).trans rfl
   obtain ⟨a6, hq1394, hf⟩ := bind_some hf
   refine wpl_take 8 (J := fun a w => ∃ (F : Fr) (τ : S), a = fr 269 F ∧ w = τ.w ∧ Agr [84, 85, 86, 87, 88, 89, 90, 91] F eq ∧ ExtB s0.N s0 τ ∧ Wext eo τ ∧ F 91 = (bv a6) ∧ Blk s0.N 1 τ ae 27 (Val.cs a0 A1 c2 A4 c5 A7 c8 ak al)) ?_ ?_
   ·have hf := hq1394
    refine if_else hf (fun bm hf => ?_) (fun bm hf => ?_)
    ·refine r_skip (j := 7) (want := false) (d := 83) (c := a5) (v := true) rfl bQ bm rfl rfl ?_
     refine r_skip (j := 7) (want := false) (d := 83) (c := a5) (v := true) rfl bQ bm rfl rfl ?_
     refine r_skip (j := 7) (want := false) (d := 83) (c := a5) (v := true) rfl bQ bm rfl rfl ?_
     refine r_skipu (j := 10) (d := 86) rfl rfl rfl ?_
     refine r_skipu (j := 10) (d := 86) rfl rfl rfl ?_
     refine r_skipu (j := 10) (d := 86) rfl rfl rfl ?_
     refine r_skip (j := 7) (want := false) (d := 83) (c := a5) (v := true) rfl bQ bm rfl rfl ?_
     refine r_pick_t (c := a5) (bv true) bQ bm rfl rfl rfl rfl ?_
     refine j0 ?_
     obtain rfl := oi hf
     exact ⟨rfl, _, _, rfl, rfl, (((((((((Agr.refl _ _).put rfl).put rfl).put rfl).put rfl).put rfl).put rfl).put rfl).put rfl), dd, (Wext.refl _), rfl, cL⟩
    refine r_guard (j := 7) (want := false) (d := 83) (c := a5) (v := false) rfl bQ bm rfl rfl ?_
    refine r_move (bv a4) gb rfl ?_
    refine r_guard (j := 7) (want := false) (d := 83) (c := a5) (v := false) rfl bQ bm rfl rfl ?_
    refine r_un (bv a4) (bv (!a4)) rfl rfl u_not ?_
    refine r_guard (j := 7) (want := false) (d := 83) (c := a5) (v := false) rfl bQ bm rfl rfl ?_
    refine r_move (bv (!a4)) rfl rfl ?_
    refine gen_FL fun es cM => ?_
    have gd := (cM 1).trans er
    have de := (cM 83).trans bQ
    have cf : es 86 = (bv (!a4)) := (cM 86).trans rfl
    obtain ⟨et, hq1403, hf⟩ := bind_some hf
    refine wpl_take 4 (J := fun a w => ∃ (F : Fr) (τ : S), a = fr 269 F ∧ w = τ.w ∧ Agr [87, 88, 89, 90] F es ∧ ExtB s0.N s0 τ ∧ Wext eo τ ∧ F 90 = (bv et) ∧ Blk s0.N 1 τ ae 27 (Val.cs a0 A1 c2 A4 c5 A7 c8 ak al)) ?_ ?_
    ·have hf := hq1403
     refine if_else hf (fun bR hf => ?_) (fun bR hf => ?_)
     ·refine r_guard (j := 10) (want := true) (d := 86) (c := !a4) (v := true) rfl cf bR rfl rfl ?_
      refine r_fieldAddr ae 0 2 2 gd rfl fo27_2 rfl ?_
      refine r_guard (j := 10) (want := true) (d := 86) (c := !a4) (v := true) rfl cf bR rfl rfl ?_
      refine r_load ae 2 (tv a0.Text) rfl rfl (loads_one to9 ((cL.cell 2).trans rfl)) ?_
      refine r_guard (j := 10) (want := true) (d := 86) (c := !a4) (v := true) rfl cf bR rfl rfl ?_
      refine r_bin (tv a0.Text) (tv (⟨#[]⟩)) (bv (!strEq a0.Text (⟨#[]⟩))) rfl rfl rfl rfl (b_sneq) ?_
      refine r_guard (j := 7) (want := false) (d := 83) (c := a5) (v := false) rfl de bm rfl rfl ?_
      refine r_pick_t (c := !a4) (bv (!strEq a0.Text (⟨#[]⟩))) cf bR rfl rfl rfl rfl ?_
      refine j0 ?_
      obtain rfl := oi hf
      exact ⟨rfl, _, _, rfl, rfl, (((((Agr.refl _ _).put rfl).put rfl).put rfl).put rfl), dd, (Wext.refl _), rfl, cL⟩
     refine r_skip (j := 10) (want := true) (d := 86) (c := !a4) (v := false) rfl cf bR rfl rfl ?_
     refine r_skip (j := 10) (want := true) (d := 86) (c := !a4) (v := false) rfl cf bR rfl rfl ?_
     refine r_skip (j := 10) (want := true) (d := 86) (c := !a4) (v := false) rfl cf bR rfl rfl ?_
     refine r_guard (j := 7) (want := false) (d := 83) (c := a5) (v := false) rfl de bm rfl rfl ?_
     refine r_pick_f (c := !a4) (bv false) cf bR rfl rfl rfl rfl ?_
     refine j0 ?_
     obtain rfl := oi hf
     exact ⟨rfl, _, _, rfl, rfl, (((((Agr.refl _ _).put rfl).put rfl).put rfl).put rfl), dd, (Wext.refl _), rfl, cL⟩
    rintro a w ⟨iS, iT, rfl, rfl, eu, ge, gf, gg, gh⟩
    have gi := (eu 83 rfl).trans de
    refine r_pick_f (c := a5) (bv et) gi bm gg rfl rfl rfl ?_
    refine j0 ?_
    obtain rfl := oi hf
    exact ⟨rfl, _, _, rfl, rfl, (((((((Agr.refl _ _).put rfl).put rfl).put rfl).gen cM).loop eu rfl).put rfl), ge, ((Wext.refl _).trans gf), rfl, gh⟩
   rintro a w ⟨iU, ev, rfl, rfl, cN, df, ew, gj, cO⟩
   have gk := (cN 1 rfl).trans er
   have gl := (cN 6 rfl).trans gc
   refine r_move (bv a6) gj rfl ?_
   refine gen_FL fun ex cu => ?_
   have ey := (cu 1).trans gk
   have gm := (cu 6).trans gl
   have bS : ex 92 = (bv a6) := (cu 92).trans rfl
   obtain ⟨aT, hq1430, hf⟩ := bind_some hf
   refine wpl_take 9 (J := fun a w => ∃ (F : Fr) (τ : S), a = fr 269 F ∧ w = τ.w ∧ Agr [93, 94, 95, 96, 97, 98, 99, 100, 101] F ex ∧ ExtB s0.N s0 τ ∧ Wext ev τ ∧ F 101 = (bv aT) ∧ Blk s0.N 1 τ ae 27 (Val.cs a0 A1 c2 A4 c5 A7 c8 ak al)) ?_ ?_
   ·have hf := hq1430
    refine if_else hf (fun bn hf => ?_) (fun bn hf => ?_)
    ·refine r_skip (j := 16) (want := false) (d := 92) (c := a6) (v := true) rfl bS bn rfl rfl ?_
     refine r_skip (j := 16) (want := false) (d := 92) (c := a6) (v := true) rfl bS bn rfl rfl ?_
     refine r_skip (j := 16) (want := false) (d := 92) (c := a6) (v := true) rfl bS bn rfl rfl ?_
     refine r_skipu (j := 19) (d := 95) rfl rfl rfl ?_
     refine r_skipu (j := 19) (d := 95) rfl rfl rfl ?_
     refine r_skipu (j := 19) (d := 95) rfl rfl rfl ?_
     refine r_skipu (j := 19) (d := 95) rfl rfl rfl ?_
     refine r_skip (j := 16) (want := false) (d := 92) (c := a6) (v := true) rfl bS bn rfl rfl ?_
     refine r_pick_t (c := a6) (bv true) bS bn rfl rfl rfl rfl ?_
     refine j0 ?_
     obtain rfl := oi hf
     exact ⟨rfl, _, _, rfl, rfl, ((((((((((Agr.refl _ _).put rfl).put rfl).put rfl).put rfl).put rfl).put rfl).put rfl).put rfl).put rfl), df, (Wext.refl _), rfl, cO⟩
    refine r_guard (j := 16) (want := false) (d := 92) (c := a6) (v := false) rfl bS bn rfl rfl ?_
    refine r_move (bv aS) gm rfl ?_
    refine r_guard (j := 16) (want := false) (d := 92) (c := a6) (v := false) rfl bS bn rfl rfl ?_
    refine r_un (bv aS) (bv (!aS)) rfl rfl u_not ?_
    refine r_guard (j := 16) (want := false) (d := 92) (c := a6) (v := false) rfl bS bn rfl rfl ?_
    refine r_move (bv (!aS)) rfl rfl ?_
    refine gen_FL fun ez cP => ?_
    have gn := (cP 1).trans ey
    have dg := (cP 92).trans bS
    have bF : ez 95 = (bv (!aS)) := (cP 95).trans rfl
    obtain ⟨eA, hq1438, hf⟩ := bind_some hf
    refine wpl_take 5 (J := fun a w => ∃ (F : Fr) (τ : S), a = fr 269 F ∧ w = τ.w ∧ Agr [96, 97, 98, 99, 100] F ez ∧ ExtB s0.N s0 τ ∧ Wext ev τ ∧ F 100 = (bv eA) ∧ Blk s0.N 1 τ ae 27 (Val.cs a0 A1 c2 A4 c5 A7 c8 ak al)) ?_ ?_
    ·have hf := hq1438
     refine if_else hf (fun br hf => ?_) (fun br hf => ?_)
     ·refine r_guard (j := 19) (want := true) (d := 95) (c := !aS) (v := true) rfl bF br rfl rfl ?_
      refine r_fieldAddr ae 0 3 3 gn rfl fo27_3 rfl ?_
      refine r_guard (j := 19) (want := true) (d := 95) (c := !aS) (v := true) rfl bF br rfl rfl ?_
      refine r_load ae 3 (lv A1 a0.Kids.length c2) rfl rfl (loads_one to22 ((cO.cell 3).trans rfl)) ?_
      refine r_guard (j := 19) (want := true) (d := 95) (c := !aS) (v := true) rfl bF br rfl rfl ?_
      refine r_len A1 a0.Kids.length c2 rfl rfl underlying22 ?_
      refine r_guard (j := 19) (want := true) (d := 95) (c := !aS) (v := true) rfl bF br rfl rfl ?_
      refine r_bin (iv (a0.Kids.length : Int)) (iv 0) (bv (decide (0 < (a0.Kids.length : Int)))) rfl rfl rfl rfl (b_gtr) ?_
      refine r_guard (j := 16) (want := false) (d := 92) (c := a6) (v := false) rfl dg bn rfl rfl ?_
      refine r_pick_t (c := !aS) (bv (decide (0 < (a0.Kids.length : Int)))) bF br rfl rfl rfl rfl ?_
      refine j0 ?_
      obtain rfl := oi hf
      exact ⟨rfl, _, _, rfl, rfl, ((((((Agr.refl _ _).put rfl).put rfl).put rfl).put rfl).put rfl), df, (Wext.refl _), rfl, cO⟩
     refine r_skip (j := 19) (want := true) (d := 95) (c := !aS) (v := false) rfl bF br rfl rfl ?_
     refine r_skip (j := 19) (want := true) (d := 95) (c := !aS) (v := false) rfl bF br rfl rfl ?_
     refine r_skip (j := 19) (want := true) (d := 95) (c := !aS) (v := false) rfl bF br rfl rfl ?_
     refine r_skip (j := 19) (want := true) (d := 95) (c := !aS) (v := false) rfl bF br rfl rfl ?_
     refine r_guard (j := 16) (want := false) (d := 92) (c := a6) (v := false) rfl dg bn rfl rfl ?_
     refine r_pick_f (c := !aS) (bv false) bF br rfl rfl rfl rfl ?_
     refine j0 ?_
     obtain rfl := oi hf
     exact ⟨rfl, _, _, rfl, rfl, ((((((Agr.refl _ _).put rfl).put rfl).put rfl).put rfl).put rfl), df, (Wext.refl _), rfl, cO⟩
    rintro a w ⟨iV, iW, rfl, rfl, eB, go, gp, gq, gr⟩
    have gs := (eB 92 rfl).trans dg
    refine r_pick_f (c := a6) (bv eA) gs bn gq rfl rfl rfl ?_
    refine j0 ?_
    obtain rfl := oi hf
    exact ⟨rfl, _, _, rfl, rfl, (((((((Agr.refl _ _).put rfl).put rfl).put rfl).gen cP).loop eB rfl).put rfl), go, ((Wext.refl _).trans gp), rfl, gr⟩
   rintro a w ⟨iX, eC, rfl, rfl, dh, di, eD, gt, cv⟩
   have gu := (dh 1 rfl).trans ey
   refine r_move (bv aT) gt rfl ?_
   refine gen_FL fun eE cQ => ?_
   have dj := (cQ 1).trans gu
   have bs : eE 102 = (bv aT) := (cQ 102).trans rfl
   obtain ⟨aU, hq1462, hf⟩ := bind_some hf
   refine wpl_take 10 (J := fun a w => ∃ (F : Fr) (τ : S), a = fr 269 F ∧ w = τ.w ∧ Agr [103, 104, 105, 106, 107, 108, 109, 110, 111, 112] F eE ∧ ExtB s0.N s0 τ ∧ Wext eC τ ∧ F 112 = (bv aU) ∧ Blk s0.N 1 τ ae 27 (Val.cs a0 A1 c2 A4 c5 A7 c8 ak al)) ?_ ?_
   ·have hf := hq1462
    refine if_else hf (fun a7 hf => ?_) (fun a7 hf => ?_)
    ·refine r_skip (j := 26) (want := false) (d := 102) (c := aT) (v := true) rfl bs a7 rfl rfl ?_
     refine r_skip (j := 26) (want := false) (d := 102) (c := aT) (v := true) rfl bs a7 rfl rfl ?_
     refine r_skip (j := 26) (want := false) (d := 102) (c := aT) (v := true) rfl bs a7 rfl rfl ?_
     refine r_skip (j := 26) (want := false) (d := 102) (c := aT) (v := true) rfl bs a7 rfl rfl ?_
     refine r_skipu (j := 30) (d := 106) rfl rfl rfl ?_
     refine r_skipu (j := 30) (d := 106) rfl rfl rfl ?_
     refine r_skipu (j := 30) (d := 106) rfl rfl rfl ?_
     refine r_skipu (j := 30) (d := 106) rfl rfl rfl ?_
     refine r_skip (j := 26) (want := false) (d := 102) (c := aT) (v := true) rfl bs a7 rfl rfl ?_
     refine r_pick_t (c := aT) (bv true) bs a7 rfl rfl rfl rfl ?_
     refine j0 ?_
     obtain rfl := oi hf
     exact ⟨rfl, _, _, rfl, rfl, (((((((((((Agr.refl _ _).put rfl).put rfl).put rfl).put rfl).put rfl).put rfl).put rfl).put rfl).put rfl).put rfl), di, (Wext.refl _), rfl, cv⟩
    refine r_guard (j := 26) (want := false) (d := 102) (c := aT) (v := false) rfl bs a7 rfl rfl ?_
    refine r_fieldAddr ae 0 0 0 dj rfl fo27_0 rfl ?_
    refine r_guard (j := 26) (want := false) (d := 102) (c := aT) (v := false) rfl bs a7 rfl rfl ?_
    refine r_load ae 0 (iv a0.Kind) rfl rfl (loads_one to3 ((cv.cell 0).trans rfl)) ?_
    refine r_guard (j := 26) (want := false) (d := 102) (c := aT) (v := false) rfl bs a7 rfl rfl ?_
    refine r_bin (iv a0.Kind) (iv 8) (bv (a0.Kind != 8)) rfl rfl rfl rfl (b_neq) ?_
    refine r_guard (j := 26) (want := false) (d := 102) (c := aT) (v := false) rfl bs a7 rfl rfl ?_
    refine r_move (bv (a0.Kind != 8)) rfl rfl ?_
    refine gen_FL fun eF cR => ?_
    have gv := (cR 1).trans dj
    have dk := (cR 102).trans bs
    have bG : eF 106 = (bv (a0.Kind != 8)) := (cR 106).trans rfl
    obtain ⟨eG, hq1470, hf⟩ := bind_some hf
    refine wpl_take 5 (J := fun a w => ∃ (F : Fr) (τ : S), a = fr 269 F ∧ w = τ.w ∧ Agr [107, 108, 109, 110, 111] F eF ∧ ExtB s0.N s0 τ ∧ Wext eC τ ∧ F 111 = (bv eG) ∧ Blk s0.N 1 τ ae 27 (Val.cs a0 A1 c2 A4 c5 A7 c8 ak al)) ?_ ?_
    ·have hf := hq1470
     refine if_else hf (fun bt hf => ?_) (fun bt hf => ?_)
     ·refine r_guard (j := 30) (want := true) (d := 106) (c := (a0.Kind != 8)) (v := true) rfl bG bt rfl rfl ?_
      refine r_fieldAddr ae 0 4 4 gv rfl fo27_4 rfl ?_
      refine r_guard (j := 30) (want := true) (d := 106) (c := (a0.Kind != 8)) (v := true) rfl bG bt rfl rfl ?_
      refine r_load ae 4 (lv A4 a0.Keys.length c5) rfl rfl (loads_one to23 ((cv.cell 4).trans rfl)) ?_
      refine r_guard (j := 30) (want := true) (d := 106) (c := (a0.Kind != 8)) (v := true) rfl bG bt rfl rfl ?_
      refine r_len A4 a0.Keys.length c5 rfl rfl underlying23 ?_
      refine r_guard (j := 30) (want := true) (d := 106) (c := (a0.Kind != 8)) (v := true) rfl bG bt rfl rfl ?_
      refine r_bin (iv (a0.Keys.length : Int)) (iv 0) (bv (decide (0 < (a0.Keys.length : Int)))) rfl rfl rfl rfl (b_gtr) ?_
      refine r_guard (j := 26) (want := false) (d := 102) (c := aT) (v := false) rfl dk a7 rfl rfl ?_
      refine r_pick_t (c := (a0.Kind != 8)) (bv (decide (0 < (a0.Keys.length : Int)))) bG bt rfl rfl rfl rfl ?_
      refine j0 ?_
      obtain rfl := oi hf
      exact ⟨rfl, _, _, rfl, rfl, ((((((Agr.refl _ _).put rfl).put rfl).put rfl).put rfl).put rfl), di, (Wext.refl _), rfl, cv⟩
     refine r_skip (j := 30) (want := true) (d := 106) (c := (a0.Kind != 8)) (v := false) rfl bG bt rfl rfl ?_
     refine r_skip (j := 30) (want := true) (d := 106) (c := (a0.Kind != 8)) (v := false) rfl bG bt rfl rfl ?_
     refine r_skip (j := 30) (want := true) (d := 106) (c := (a0.Kind != 8)) (v := false) rfl bG bt rfl rfl ?_
     refine r_skip (j := 30) (want := true) (d := 106) (c := (a0.Kind != 8)) (v := false) rfl bG bt rfl rfl ?_
     refine r_guard (j := 26) (want := false) (d := 102) (c := aT) (v := false) rfl dk a7 rfl rfl ?_
     refine r_pick_f (c := (a0.Kind != 8)) (bv false) bG bt rfl rfl rfl rfl ?_
     refine j0 ?_
     obtain rfl := oi hf
     exact ⟨rfl, _, _, rfl, rfl, ((((((Agr.refl _ _).put rfl).put rfl).put rfl).put rfl).put rfl), di, (Wext.refl _), rfl, cv⟩
    rintro a w ⟨iY, iZ, rfl, rfl, eH, gw, gx, gy, gz⟩
    have gA := (eH 102 rfl).trans dk
    refine r_pick_f (c := aT) (bv eG) gA a7 gy rfl rfl rfl ?_
    refine j0 ?_
    obtain rfl := oi hf
    exact ⟨rfl, _, _, rfl, rfl, ((((((((Agr.refl _ _).put rfl).put rfl).put rfl).put rfl).gen cR).loop eH rfl).put rfl), gw, ((Wext.refl _).trans gx), rfl, gz⟩
   rintro a w ⟨i0, gB, rfl, rfl, dl, dm, eI, gC, cw⟩
   have eJ := (dl 1 rfl).trans dj
   refine r_move (bv aU) gC rfl ?_
   refine if_else hf (fun a8 hf => ?_) (fun a8 hf => ?_)
   ·refine r_skip (j := 37) (want := false) (d := 113) (c := aU) (v := true) rfl rfl a8 rfl rfl ?_
    refine r_skip (j := 37) (want := false) (d := 113) (c := aU) (v := true) rfl rfl a8 rfl rfl ?_
    refine r_skip (j := 37) (want := false) (d := 113) (c := aU) (v := true) rfl rfl a8 rfl rfl ?_
    refine r_skip (j := 37) (want := false) (d := 113) (c := aU) (v := true) rfl rfl a8 rfl rfl ?_
    refine r_skipu (j := 41) (d := 117) rfl rfl rfl ?_
    refine r_skipu (j := 41) (d := 117) rfl rfl rfl ?_
    refine r_skipu (j := 41) (d := 117) rfl rfl rfl ?_
    refine r_skipu (j := 41) (d := 117) rfl rfl rfl ?_
    refine r_skip (j := 37) (want := false) (d := 113) (c := aU) (v := true) rfl rfl a8 rfl rfl ?_
    refine r_pick_t (c := aU) (bv true) rfl a8 rfl rfl rfl rfl ?_
    refine j0 ?_
    obtain rfl := oi hf
    exact ⟨rfl, _, _, rfl, rfl, ((((((((((((((((((((((((((Agr.refl _ _).put rfl).put rfl).put rfl).gen cm).loop ct rfl).put rfl).gen cn).loop cN rfl).put rfl).gen cu).loop dh rfl).put rfl).gen cQ).loop dl rfl).put rfl).put rfl).put rfl).put rfl).put rfl).put rfl).put rfl).put rfl).put rfl).put rfl).put rfl), dm, (((((Wext.refl _).trans ep).trans ew).trans eD).trans eI), rfl, cw⟩
   refine r_guard (j := 37) (want := false) (d := 113) (c := aU) (v := false) rfl rfl a8 rfl rfl ?_
   refine r_fieldAddr ae 0 0 0 eJ rfl fo27_0 rfl ?_
   refine r_guard (j := 37) (want := false) (d := 113) (c := aU) (v := false) rfl rfl a8 rfl rfl ?_
   refine r_load ae 0 (iv a0.Kind) rfl rfl (loads_one to3 ((cw.cell 0).trans rfl)) ?_
   refine r_guard (j := 37) (want := false) (d := 113) (c := aU) (v := false) rfl rfl a8 rfl rfl ?_
   refine r_bin (iv a0.Kind) (iv 9) (bv (a0.Kind != 9)) rfl rfl rfl rfl (b_neq) ?_
   refine r_guard (j := 37) (want := false) (d := 113) (c := aU) (v := false) rfl rfl a8 rfl rfl ?_
   refine r_move (bv (a0.Kind != 9)) rfl rfl ?_
   refine gen_FL fun dn cS => ?_
   have gD := (cS 1).trans eJ
   have dp : dn 113 = (bv aU) := (cS 113).trans rfl
   have bH : dn 117 = (bv (a0.Kind != 9)) := (cS 117).trans rfl
   obtain ⟨eK, hq1496, hf⟩ := bind_some hf
   refine wpl_take 5 (J := fun a w => ∃ (F : Fr) (τ : S), a = fr 269 F ∧ w = τ.w ∧ Agr [118, 119, 120, 121, 122] F dn ∧ ExtB s0.N s0 τ ∧ Wext gB τ ∧ F 122 = (bv eK) ∧ Blk s0.N 1 τ ae 27 (Val.cs a0 A1 c2 A4 c5 A7 c8 ak al)) ?_ ?_
   ·have hf := hq1496
    refine if_else hf (fun bu hf => ?_) (fun bu hf => ?_)
    ·refine r_guard (j := 41) (want := true) (d := 117) (c := (a0.Kind != 9)) (v := true) rfl bH bu rfl rfl ?_
     refine r_fieldAddr ae 0 5 5 gD rfl fo27_5 rfl ?_
     refine r_guard (j := 41) (want := true) (d := 117) (c := (a0.Kind != 9)) (v := true) rfl bH bu rfl rfl ?_
     refine r_load ae 5 (lv A7 a0.Entries.length c8) rfl rfl (loads_one to24 ((cw.cell 5).trans rfl)) ?_
     refine r_guard (j := 41) (want := true) (d := 117) (c := (a0.Kind != 9)) (v := true) rfl bH bu rfl rfl ?_
     refine r_len A7 a0.Entries.length c8 rfl rfl underlying24 ?_
     refine r_guard (j := 41) (want := true) (d := 117) (c := (a0.Kind != 9)) (v := true) rfl bH bu rfl rfl ?_
     refine r_bin (iv (a0.Entries.length : Int)) (iv 0) (bv (decide (0 < (a0.Entries.length : Int)))) rfl rfl rfl rfl (b_gtr) ?_
     refine r_guard (j := 37) (want := false) (d := 113) (c := aU) (v := false) rfl dp a8 rfl rfl ?_
     refine r_pick_t (c := (a0.Kind != 9)) (bv (decide (0 < (a0.Entries.length : Int)))) bH bu rfl rfl rfl rfl ?_
     refine j0 ?_
     obtain rfl := oi hf
     exact ⟨rfl, _, _, rfl, rfl, ((((((Agr.refl _ _).put rfl).put rfl).put rfl).put rfl).put rfl), dm, (Wext.refl _), rfl, cw⟩
    refine r_skip (j := 41) (want := true) (d := 117) (c := (a0.Kind != 9)) (v := false) rfl bH bu rfl rfl ?_
    refine r_skip (j := 41) (want := true) (d := 117) (c := (a0.Kind != 9)) (v := false) rfl bH bu rfl rfl ?_
    refine r_skip (j := 41) (want := true) (d := 117) (c := (a0.Kind != 9)) (v := false) rfl bH bu rfl rfl ?_
    refine r_skip (j := 41) (want := true) (d := 117) (c := (a0.Kind != 9)) (v := false) rfl bH bu rfl rfl ?_
    refine r_guard (j := 37) (want := false) (d := 113) (c := aU) (v := false) rfl dp a8 rfl rfl ?_
    refine r_pick_f (c := (a0.Kind != 9)) (bv false) bH bu rfl rfl rfl rfl ?_
    refine j0 ?_
    obtain rfl := oi hf
    exact ⟨rfl, _, _, rfl, rfl, ((((((Agr.refl _ _).put rfl).put rfl).put rfl).put rfl).put rfl), dm, (Wext.refl _), rfl, cw⟩
   rintro a w ⟨i1, i2, rfl, rfl, eL, gE, gF, gG, gH⟩
   have gI := (eL 113 rfl).trans dp
   refine r_pick_f (c := aU) (bv eK) gI a8 gG rfl rfl rfl ?_
   refine j0 ?_
   obtain rfl := oi hf
   exact ⟨rfl, _, _, rfl, rfl, (((((((((((((((((((((((Agr.refl _ _).put rfl).put rfl).put rfl).gen cm).loop ct rfl).put rfl).gen cn).loop cN rfl).put rfl).gen cu).loop dh rfl).put rfl).gen cQ).loop dl rfl).put rfl).put rfl).put rfl).put rfl).put rfl).gen cS).loop eL rfl).put rfl), gE, ((((((Wext.refl _).trans ep).trans ew).trans eD).trans eI).trans gF), rfl, gH⟩
  rintro a w ⟨i3, cx, rfl, rfl, gJ, aY, bI, eM, bo⟩
  have bp := (gJ 1 rfl).trans el
  refine if_else hf (fun dq hf => ?_) (fun dq hf => ?_)
  ·refine c_true eM dq rfl ?_
   refine j2 (j3 ?_)
   refine r_assign (bv false) rfl rfl ?_
   refine j0 (j1 (jb (j9 ?_)))
   obtain rfl := oi hf
   refine ret_one (bv false) rfl ⟨rfl, rfl⟩ aY ?_
   exact (RpV.mkBool _ _)
  refine c_false eM dq rfl ?_
  refine ja (j1 (j2 (j2 (j3 ?_))))
  refine r_fieldAddr ae 0 0 0 bp rfl fo27_0 rfl ?_
  refine r_load ae 0 (iv a0.Kind) rfl rfl (loads_one to3 ((bo.cell 0).trans rfl)) ?_
  refine j0 (j1 (j4 (j2 (j2 (j3 ?_)))))
  refine r_bin (iv a0.Kind) (iv 1) (bv (a0.Kind == 1)) rfl rfl rfl rfl (b_eql) ?_
  refine r_assign (bv (a0.Kind == 1)) rfl rfl ?_
  refine j0 (j1 ?_)
  refine if_else hf (fun cT hf => ?_) (fun cT hf => ?_)
  ·refine c_true rfl cT rfl ?_
   refine ja (j1 ?_)
   refine c_true rfl cT rfl ?_
   refine j2 (j3 ?_)
   refine r_assign (bv true) rfl rfl ?_
   refine j0 (j1 (jb (j7 (j9 ?_))))
   obtain rfl := oi hf
   refine ret_one (bv true) rfl ⟨rfl, rfl⟩ aY ?_
   exact (RpV.mkBool _ _)
  refine c_false rfl cT rfl ?_
  refine j3 ?_
  refine r_bin (iv a0.Kind) (iv 5) (bv (a0.Kind == 5)) rfl rfl rfl rfl (b_eql) ?_
  refine r_assign (bv (a0.Kind == 5)) rfl rfl ?_
  refine j0 (j1 ?_)
  refine if_else hf (fun dr hf => ?_) (fun dr hf => ?_)
  ·refine c_true rfl dr rfl ?_
   refine j2 (j3 ?_)
   refine r_assign (bv true) rfl rfl ?_
   refine j0 (j1 (jb (j7 (j9 ?_))))
   obtain rfl := oi hf
   refine ret_one (bv true) rfl ⟨rfl, rfl⟩ aY ?_
   exact (RpV.mkBool _ _)
  refine c_false rfl dr rfl ?_
  refine j2 (j3 ?_)
  refine r_bin (iv a0.Kind) (iv 2) (bv (a0.Kind == 2)) rfl rfl rfl rfl (b_eql) ?_
  refine r_assign (bv (a0.Kind == 2)) rfl rfl ?_
  refine j0 (j1 ?_)
  refine if_else hf (fun ds hf => ?_) (fun ds hf => ?_)
  ·refine c_true rfl ds rfl ?_
   refine j2 (j3 ?_)
   refine r_fieldAddr ae 0 2 2 bp rfl fo27_2 rfl ?_
   refine r_load ae 2 (tv a0.Text) rfl rfl (loads_one to9 ((bo.cell 2).trans rfl)) ?_
   refine r_lenStr a0.Text rfl rfl underlying9 ?_
   refine r_bin (iv (a0.Text.size : Int)) (iv 64) (bv (decide ((a0.Text.size : Int) ≤ 64))) rfl rfl rfl rfl (b_leq) ?_
   refine r_assign (bv (decide ((a0.Text.size : Int) ≤ 64))) rfl rfl ?_
   refine j0 (j1 (jb (j7 (j9 ?_))))
   obtain rfl := oi hf
   refine ret_one (bv (decide ((a0.Text.size : Int) ≤ 64))) rfl ⟨rfl, rfl⟩ aY ?_
   exact (RpV.mkBool _ _)
  refine c_false rfl ds rfl ?_
  refine j2 (j3 ?_)
  refine r_bin (iv a0.Kind) (iv 3) (bv (a0.Kind == 3)) rfl rfl rfl rfl (b_eql) ?_
  refine r_assign (bv (a0.Kind == 3)) rfl rfl ?_
  refine j0 (j1 ?_)
  refine if_else hf (fun dt hf => ?_) (fun dt hf => ?_)
  ·refine c_true rfl dt rfl ?_
   refine j2 (j3 ?_)
   refine r_fieldAddr ae 0 2 2 bp rfl fo27_2 rfl ?_
   refine r_load ae 2 (tv a0.Text) rfl rfl (loads_one to9 ((bo.cell 2).trans rfl)) ?_
   obtain ⟨eN, gK, hf⟩ := bind_some hf
   refine r_call [tv a0.Text] (evs1 rfl) rfl (ok_semtyperef1_IsAtom _ _ _ _ (RpV.mkStr _ _) gK) ?_
   intro _ _ gL gM
   have gN := aY.x gL
   obtain rfl := RpV.bool gM
   refine r_assign (bv eN) rfl rfl ?_
   refine j0 (j1 (jb (j7 (j9 ?_))))
   obtain rfl := oi hf
   refine ret_one (bv eN) rfl ⟨rfl, rfl⟩ gN ?_
   exact (RpV.mkBool _ _)
  refine c_false rfl dt rfl ?_
  refine j2 (j3 ?_)
  refine r_bin (iv a0.Kind) (iv 4) (bv (a0.Kind == 4)) rfl rfl rfl rfl (b_eql) ?_
  refine r_assign (bv (a0.Kind == 4)) rfl rfl ?_
  refine j0 (j1 ?_)
  refine if_else hf (fun du hf => ?_) (fun du hf => ?_)
  ·refine c_true rfl du rfl ?_
   refine j2 (j3 ?_)
   refine r_fieldAddr ae 0 1 1 bp rfl fo27_1 rfl ?_
   refine r_load ae 1 (iv a0.Int_) rfl rfl (loads_one to2 ((bo.cell 1).trans rfl)) ?_
   refine r_bin (iv a0.Int_) (iv 0) (bv (decide (0 ≤ a0.Int_))) rfl rfl rfl rfl (b_geq) ?_
   refine r_assign (bv (decide (0 ≤ a0.Int_))) rfl rfl ?_
   refine j0 (j1 (jb (j7 (j9 ?_))))
   obtain rfl := oi hf
   refine ret_one (bv (decide (0 ≤ a0.Int_))) rfl ⟨rfl, rfl⟩ aY ?_
   exact (RpV.mkBool _ _)
  refine c_false rfl du rfl ?_
  refine j2 (j3 ?_)
  refine r_bin (iv a0.Kind) (iv 6) (bv (a0.Kind == 6)) rfl rfl rfl rfl (b_eql) ?_
  refine r_assign (bv (a0.Kind == 6)) rfl rfl ?_
  refine j0 (j1 ?_)
  refine if_else hf (fun dv hf => ?_) (fun dv hf => ?_)
  ·refine c_true rfl dv rfl ?_
   refine j2 (j3 ?_)
   refine r_fieldAddr ae 0 3 3 bp rfl fo27_3 rfl ?_
   refine r_load ae 3 (lv A1 a0.Kids.length c2) rfl rfl (loads_one to22 ((bo.cell 3).trans rfl)) ?_
   refine r_len A1 a0.Kids.length c2 rfl rfl underlying22 ?_
   refine r_bin (iv (a0.Kids.length : Int)) (iv 4) (bv (decide ((a0.Kids.length : Int) ≤ 4))) rfl rfl rfl rfl (b_leq) ?_
   refine r_assign (bv (decide ((a0.Kids.length : Int) ≤ 4))) rfl rfl ?_
   refine j0 (j1 (jb (j7 (j9 ?_))))
   obtain rfl := oi hf
   refine ret_one (bv (decide ((a0.Kids.length : Int) ≤ 4))) rfl ⟨rfl, rfl⟩ aY ?_
   exact (RpV.mkBool _ _)
  refine c_false rfl dv rfl ?_
  refine j2 (j3 ?_)
  refine r_bin (iv a0.Kind) (iv 7) (bv (a0.Kind == 7)) rfl rfl rfl rfl (b_eql) ?_
  refine r_assign (bv (a0.Kind == 7)) rfl rfl ?_
  refine j0 (j1 ?_)
  refine if_else hf (fun dw hf => ?_) (fun dw hf => ?_)
  ·refine c_true rfl dw rfl ?_
   refine j2 (j3 ?_)
   refine r_fieldAddr ae 0 3 3 bp rfl fo27_3 rfl ?_
   refine r_load ae 3 (lv A1 a0.Kids.length c2) rfl rfl (loads_one to22 ((bo.cell 3).trans rfl)) ?_
   refine r_len A1 a0.Kids.length c2 rfl rfl underlying22 ?_
   refine r_bin (iv (a0.Kids.length : Int)) (iv 2) (bv ((a0.Kids.length : Int) == 2)) rfl rfl rfl rfl (b_eql) ?_
   refine r_move (bv ((a0.Kids.length : Int) == 2)) rfl rfl ?_
   refine if_else hf (fun aH hf => ?_) (fun aH hf => ?_)
   ·refine r_guard (j := 4) (want := true) (d := 157) (c := ((a0.Kids.length : Int) == 2)) (v := true) rfl rfl aH rfl rfl ?_
    refine r_fieldAddr ae 0 3 3 bp rfl fo27_3 rfl ?_
    refine r_guard (j := 4) (want := true) (d := 157) (c := ((a0.Kids.length : Int) == 2)) (v := true) rfl rfl aH rfl rfl ?_
    refine r_load ae 3 (lv A1 a0.Kids.length c2) rfl rfl (loads_one to22 ((bo.cell 3).trans rfl)) ?_
    refine r_guard (j := 4) (want := true) (d := 157) (c := ((a0.Kids.length : Int) == 2)) (v := true) rfl rfl aH rfl rfl ?_
    obtain ⟨x1531, gO, hf⟩ := bind_some hf
    refine r_indexAddr (T := 22) (E := 27) ((((((h3.mono aQ.wext).mono bz).mono bB).mono bC).mono bE).mono bI) gO rfl rfl rfl rfl underlying22 sz27 ?_
    intro eO dx _ gP gQ
    obtain ⟨_, _, _, _, _, _, _, _, rfl, _, _, _, _⟩ := Val.cells_iff.1 gP
    refine r_guard (j := 4) (want := true) (d := 157) (c := ((a0.Kids.length : Int) == 2)) (v := true) rfl rfl aH rfl rfl ?_
    refine r_fieldAddr eO dx 0 (dx) rfl rfl fo27_0 rfl ?_
    refine r_guard (j := 4) (want := true) (d := 157) (c := ((a0.Kids.length : Int) == 2)) (v := true) rfl rfl aH rfl rfl ?_
    refine r_load eO dx (iv x1531.Kind) rfl rfl (loads_one to3 (gQ.2 0 _ rfl)) ?_
    refine r_guard (j := 4) (want := true) (d := 157) (c := ((a0.Kids.length : Int) == 2)) (v := true) rfl rfl aH rfl rfl ?_
    refine r_bin (iv x1531.Kind) (iv 5) (bv (x1531.Kind == 5)) rfl rfl rfl rfl (b_eql) ?_
    refine r_guard (j := 4) (want := true) (d := 157) (c := ((a0.Kids.length : Int) == 2)) (v := true) rfl rfl aH rfl rfl ?_
    refine r_move (bv (x1531.Kind == 5)) rfl rfl ?_
    refine gen_FL fun dy dz => ?_
    have gR := (dz 1).trans bp
    have dA : dy 157 = (bv ((a0.Kids.length : Int) == 2)) := (dz 157).trans rfl
    have a9 : dy 164 = (bv (x1531.Kind == 5)) := (dz 164).trans rfl
    obtain ⟨cU, hq1556, hf⟩ := bind_some hf
    refine wpl_take 7 (J := fun a w => ∃ (F : Fr) (τ : S), a = fr 269 F ∧ w = τ.w ∧ Agr [165, 166, 167, 168, 169, 170, 171] F dy ∧ ExtB s0.N s0 τ ∧ Wext cx τ ∧ F 171 = (bv cU)) ?_ ?_
    ·have hf := hq1556
     refine if_else hf (fun aZ hf => ?_) (fun aZ hf => ?_)
     ·refine r_skip (j := 11) (want := false) (d := 164) (c := (x1531.Kind == 5)) (v := true) rfl a9 aZ rfl rfl ?_
      refine r_skip (j := 11) (want := false) (d := 164) (c := (x1531.Kind == 5)) (v := true) rfl a9 aZ rfl rfl ?_
      refine r_skip (j := 11) (want := false) (d := 164) (c := (x1531.Kind == 5)) (v := true) rfl a9 aZ rfl rfl ?_
      refine r_skip (j := 11) (want := false) (d := 164) (c := (x1531.Kind == 5)) (v := true) rfl a9 aZ rfl rfl ?_
      refine r_skip (j := 11) (want := false) (d := 164) (c := (x1531.Kind == 5)) (v := true) rfl a9 aZ rfl rfl ?_
      refine r_skip (j := 11) (want := false) (d := 164) (c := (x1531.Kind == 5)) (v := true) rfl a9 aZ rfl rfl ?_
      refine r_guard (j := 4) (want := true) (d := 157) (c := ((a0.Kids.length : Int) == 2)) (v := true) rfl dA aH rfl rfl ?_
      refine r_pick_t (c := (x1531.Kind == 5)) (bv true) a9 aZ rfl rfl rfl rfl ?_
      refine j0 ?_
      obtain rfl := oi hf
      exact ⟨rfl, _, _, rfl, rfl, ((((((((Agr.refl _ _).put rfl).put rfl).put rfl).put rfl).put rfl).put rfl).put rfl), aY, (Wext.refl _), rfl⟩
     refine r_guard (j := 11) (want := false) (d := 164) (c := (x1531.Kind == 5)) (v := false) rfl a9 aZ rfl rfl ?_
     refine r_fieldAddr ae 0 3 3 gR rfl fo27_3 rfl ?_
     refine r_guard (j := 11) (want := false) (d := 164) (c := (x1531.Kind == 5)) (v := false) rfl a9 aZ rfl rfl ?_
     refine r_load ae 3 (lv A1 a0.Kids.length c2) rfl rfl (loads_one to22 ((bo.cell 3).trans rfl)) ?_
     refine r_guard (j := 11) (want := false) (d := 164) (c := (x1531.Kind == 5)) (v := false) rfl a9 aZ rfl rfl ?_
     obtain ⟨x1558, gS, hf⟩ := bind_some hf
     refine r_indexAddr (T := 22) (E := 27) ((((((h3.mono aQ.wext).mono bz).mono bB).mono bC).mono bE).mono bI) gS rfl rfl rfl rfl underlying22 sz27 ?_
     intro eP dB _ gT gU
     obtain ⟨_, _, _, _, _, _, _, _, rfl, _, _, _, _⟩ := Val.cells_iff.1 gT
     refine r_guard (j := 11) (want := false) (d := 164) (c := (x1531.Kind == 5)) (v := false) rfl a9 aZ rfl rfl ?_
     refine r_fieldAddr eP dB 0 (dB) rfl rfl fo27_0 rfl ?_
     refine r_guard (j := 11) (want := false) (d := 164) (c := (x1531.Kind == 5)) (v := false) rfl a9 aZ rfl rfl ?_
     refine r_load eP dB (iv x1558.Kind) rfl rfl (loads_one to3 (gU.2 0 _ rfl)) ?_
     refine r_guard (j := 11) (want := false) (d := 164) (c := (x1531.Kind == 5)) (v := false) rfl a9 aZ rfl rfl ?_
     refine r_bin (iv x1558.Kind) (iv 7) (bv (x1558.Kind == 7)) rfl rfl rfl rfl (b_eql) ?_
     refine r_guard (j := 4) (want := true) (d := 157) (c := ((a0.Kids.length : Int) == 2)) (v := true) rfl dA aH rfl rfl ?_
     refine r_pick_f (c := (x1531.Kind == 5)) (bv (x1558.Kind == 7)) a9 aZ rfl rfl rfl rfl ?_
     refine j0 ?_
     obtain rfl := oi hf
     exact ⟨rfl, _, _, rfl, rfl, ((((((((Agr.refl _ _).put rfl).put rfl).put rfl).put rfl).put rfl).put rfl).put rfl), aY, (Wext.refl _), rfl⟩
    rintro a w ⟨i4, i5, rfl, rfl, gV, gW, i6, gX⟩
    have gY := (gV 157 rfl).trans dA
    refine r_pick_t (c := ((a0.Kids.length : Int) == 2)) (bv cU) gY aH gX rfl rfl rfl ?_
    refine r_assign (bv cU) rfl rfl ?_
    refine j0 (j1 (jb (j7 (j9 ?_))))
    obtain rfl := oi hf
    refine ret_one (bv cU) rfl ⟨rfl, rfl⟩ gW ?_
    exact (RpV.mkBool _ _)
   refine r_skip (j := 4) (want := true) (d := 157) (c := ((a0.Kids.length : Int) == 2)) (v := false) rfl rfl aH rfl rfl ?_
   refine r_skip (j := 4) (want := true) (d := 157) (c := ((a0.Kids.length : Int) == 2)) (v := false) rfl rfl aH rfl rfl ?_
   refine r_skip (j := 4) (want := true) (d := 157) (c := ((a0.Kids.length : Int) == 2)) (v := false) rfl rfl aH rfl rfl ?_
   refine r_skip (j := 4) (want := true) (d := 157) (c := ((a0.Kids.length : Int) == 2)) (v := false) rfl rfl aH rfl rfl ?_
   refine r_skip (j := 4) (want := true) (d := 157) (c := ((a0.Kids.length : Int) == 2)) (v := false) rfl rfl aH rfl rfl ?_
   refine r_skip (j := 4) (want := true) (d := 157) (c := ((a0.Kids.length : Int) == 2)) (v := false) rfl rfl aH rfl rfl ?_
   refine r_skip (j := 4) (want := true) (d := 157) (c := ((a0.Kids.length : Int) == 2)) (v := false) rfl rfl aH rfl rfl ?_
   refine r_skipu (j := 11) (d := 164) rfl rfl rfl ?_
   refine r_skipu (j := 11) (d := 164) rfl rfl rfl ?_
   refine r_skipu (j := 11) (d := 164) rfl rfl rfl ?_
   refine r_skipu (j := 11) (d := 164) rfl rfl rfl ?_
   refine r_skipu (j := 11) (d := 164) rfl rfl rfl ?_
   refine r_skipu (j := 11) (d := 164) rfl rfl rfl ?_
   refine r_skip (j := 4) (want := true) (d := 157) (c := ((a0.Kids.length : Int) == 2)) (v := false) rfl rfl aH rfl rfl ?_
   refine r_pick_f (c := ((a0.Kids.length : Int) == 2)) (bv false) rfl aH rfl rfl rfl rfl ?_
   refine r_assign (bv false) rfl rfl ?_
   refine j0 (j1 (jb (j7 (j9 ?_))))
   obtain rfl := oi hf
   refine ret_one (bv false) rfl ⟨rfl, rfl⟩ aY ?_
   exact (RpV.mkBool _ _)
  refine c_false rfl dw rfl ?_
  refine j2 (j3 ?_)
  refine r_bin (iv a0.Kind) (iv 8) (bv (a0.Kind == 8)) rfl rfl rfl rfl (b_eql) ?_
  refine r_assign (bv (a0.Kind == 8)) rfl rfl ?_
  refine j0 (j1 ?_)
  refine if_else hf (fun dC hf => ?_) (fun dC hf => ?_)
  ·refine c_true rfl dC rfl ?_
   refine j2 (j2 (j3 ?_))
   refine r_assign (iv 0) rfl rfl ?_
   refine j0 (j1 (j4 ?_))
   refine gen_F fun dD eQ => ?_
   have eR := (eQ 1).trans bp
   have gZ : dD 7 = (iv 0) := (eQ 7).trans rfl
   obtain ⟨g0, g1, hf⟩ := bind_some hf
   refine wp_mono (wp_iter (step := semtyperef1_node_l2 a0) (fun q a w => ∃ (F : Fr) (τ : S), a = fr 269 F ∧ w = τ.w ∧ Agr [2, 7, 175, 176, 177, 178, 179, 180, 181, 182, 183, 184, 185, 186, 187, 188, 189, 190, 191, 192, 193, 194, 195, 196, 197, 198, 199, 200, 201, 202, 203, 204, 205, 206, 207] F dD ∧ ExtB s0.N s0 τ ∧ Wext cx τ ∧ F 7 = (iv q) ∧ Blk s0.N 1 τ ae 27 (Val.cs a0 A1 c2 A4 c5 A7 c8 ak al)) (fun o e a w => match o with | .inl q => e = .exit 3 ∧ ∃ (F : Fr) (τ : S), a = fr 269 F ∧ w = τ.w ∧ Agr [2, 7, 175, 176, 177, 178, 179, 180, 181, 182, 183, 184, 185, 186, 187, 188, 189, 190, 191, 192, 193, 194, 195, 196, 197, 198, 199, 200, 201, 202, 203, 204, 205, 206, 207] F dD ∧ ExtB s0.N s0 τ ∧ Wext cx τ ∧ F 7 = (iv q) ∧ Blk s0.N 1 τ ae 27 (Val.cs a0 A1 c2 A4 c5 A7 c8 ak al) | .inr r => e = .ret ∧ ∃ (F : Fr) (τ : S) (va : Value), a = fr 269 F ∧ w = τ.w ∧ ExtB s0.N s0 τ ∧ ResV prog 269 F τ.w (.tmp 2) va ∧ RpV τ r va) (by rintro (_ | _) a w ⟨h, _⟩ <;> cases h) ?_ _ _ _ _ _ g1 ?_) ?_
   ·intro ap fl a w hf hI
    obtain ⟨_, _, rfl, rfl, cV, cg, ch, bw, cy⟩ := hI
    unfold semtyperef1_node_l2 at hf
    have co := (cV 1 rfl).trans eR
    refine j2 (j2 (j3 ?_))
    refine r_move (iv ap) bw rfl ?_
    refine r_fieldAddr ae 0 4 4 co rfl fo27_4 rfl ?_
    refine r_load ae 4 (lv A4 a0.Keys.length c5) rfl rfl (loads_one to23 ((cy.cell 4).trans rfl)) ?_
    refine r_len A4 a0.Keys.length c5 rfl rfl underlying23 ?_
    refine r_bin (iv ap) (iv (a0.Keys.length : Int)) (bv (decide (ap < (a0.Keys.length : Int)))) rfl rfl rfl rfl (b_lss) ?_
    refine j0 (j1 ?_)
    refine if_else hf (fun dE hf => ?_) (fun dE hf => ?_)
    ·refine c_true rfl dE rfl ?_
     refine ja (j1 (j2 (j4 (j2 ?_))))
     obtain ⟨x1599, dF, hf⟩ := bind_some hf
     obtain ⟨aD, dG, hf⟩ := bind_some hf
     refine if_else hf (fun aV hf => ?_) (fun aV hf => ?_)
     ·refine wp_draw (B := frExt s0.N) (sm 182 26) [[], [0], [], rg 3, rg 4, rg 5, rg 6, rg 7, rg 8, rg 9, rg 10, rg 11, rg 12, rg 11, (rg 11 ++ [13]), rg 15, rg 16, rg 11, (rg 11 ++ [17]), rg 11, (rg 11 ++ [17, 18, 19]), (rg 11 ++ [17, 18, 19, 20]), rg 22, rg 23, rg 24, rg 25] [Fct.eqv (.pointer (some ⟨ae, 4, none⟩)), Fct.eqv (lv A4 a0.Keys.length c5), Fct.eqv (iv ap), Fct.elem (x1599 : Key), Fct.data (x1599 : Key), Fct.eqv (bv aD), Fct.eqv (bv (!aD)), Fct.eqv (bv (!aD)), Fct.eqv undef, Fct.eqv undef, Fct.eqv undef, Fct.eqv undef, Fct.eqv undef, Fct.eqv undef, Fct.eqv undef, Fct.eqv undef, Fct.eqv undef, Fct.eqv undef, Fct.eqv undef, Fct.eqv undef, Fct.eqv undef, Fct.eqv undef, Fct.eqv undef, Fct.eqv undef, Fct.eqv undef, Fct.eqv (bv true)] (fun D F τ => (Blk s0.N 1 τ ae 27 (Val.cs a0 A1 c2 A4 c5 A7 c8 ak al))) (by kernel_rfl) rfl (by decide) (by decide) (cy.ext (ext_draw _)) (by decide) (by decide) ⟨?_, ?_, ?_, ?_, ?_, ?_, ?_, ?_, ?_, ?_, ?_, ?_, ?_, ?_, ?_, ?_, ?_, ?_, ?_, ?_, ?_, ?_, ?_, ?_, ?_, ?_, trivial⟩ ?_
      ·intro _ _ _ _ _ _ _ _ aa ab _
       have ac := aa
       refine r_fieldAddr ae 0 4 4 ((ab 1 rfl).trans co) rfl fo27_4 rfl ?_
       exact d0 ⟨rfl, aa⟩
      ·intro _ _ _ _ _ _ _ _ aa _ ab
       have ac := aa
       have ad := ac
       refine r_load ae 4 (lv A4 a0.Keys.length c5) (ab 0 rfl 182 rfl) rfl (loads_one to23 ((ad.cell 4).trans rfl)) ?_
       exact d0 ⟨rfl, aa⟩
      ·intro _ _ _ _ _ _ _ _ aa ab _
       refine r_move (iv ap) ((ab 7 rfl).trans bw) rfl ?_
       exact d0 ⟨rfl, aa⟩
      ·intro _ _ _ _ _ _ _ aa ab _ ac
       refine r_indexAddr (T := 23) (E := 60) ((((((((h6.mono aQ.wext).mono bz).mono bB).mono bC).mono bE).mono bI).mono ch).mono aa) dF (ac 1 rfl 183 rfl) (ac 2 rfl 184 rfl) rfl rfl underlying23 sz60 ?_
       intro _ _ _ ad af
       obtain rfl := Key.cells_iff.1 ad
       exact d0 ⟨⟨_, _, _, rfl, (Key.cells_iff.2 rfl), af⟩, ab⟩
      ·intro _ aa ab _ _ _ _ _ ac _ ad
       obtain ⟨af, ah, _, ai, am, an⟩ : (Fct.elem (x1599 : Key)).p (aa 185) ab := ad 3 rfl 185 rfl
       obtain rfl := Key.cells_iff.1 am
       refine r_load af ah (Key.ag x1599) ai rfl (loads_row tr60 an.2) ?_
       exact d0 ⟨(Key.rpvMk (v := x1599) ), ac⟩
      ·intro _ aa ab _ _ _ ac _ ad _ af
       have ah := cg.trans ac
       have ai := ad
       have am : RpV ab (x1599 : Key) (aa 186) := af 4 rfl 186 rfl
       have an := Key.rpv am
       refine r_call [Key.ag x1599] (evs1 an) rfl (ok_semtyperef1_ValidKey _ _ _ _ (Key.rpvMk (v := x1599) ) dG) ?_
       intro _ _ aA aE
       obtain rfl := RpV.bool aE
       exact d1 ah (Nat.le_refl _) aA ⟨rfl, (ai.ext aA)⟩
      ·intro _ _ _ _ _ _ _ _ aa _ ab
       refine r_un (bv aD) (bv (!aD)) (ab 5 rfl 187 rfl) rfl u_not ?_
       exact d0 ⟨rfl, aa⟩
      ·intro _ _ _ _ _ _ _ _ aa _ ab
       refine r_move (bv (!aD)) (ab 6 rfl 188 rfl) rfl ?_
       exact d0 ⟨rfl, aa⟩
      ·intro _ _ _ _ _ _ _ _ aa _ ab
       exact gd0 rfl (ab 7 rfl 189 rfl) aV ⟨rfl, aa⟩
      ·intro _ aa _ _ _ _ _ _ ab _ ac
       have ad : aa 190 = undef := ac 8 rfl 190 rfl
       exact gd0 rfl (ac 7 rfl 189 rfl) aV ⟨rfl, ab⟩
      ·intro _ aa _ _ _ _ _ _ ab _ ac
       have ad : aa 191 = undef := ac 9 rfl 191 rfl
       exact gd0 rfl (ac 7 rfl 189 rfl) aV ⟨rfl, ab⟩
      ·intro _ _ _ _ _ _ _ _ aa _ ab
       exact gdu rfl (ab 10 rfl 192 rfl) ⟨rfl, aa⟩
      ·intro _ aa _ _ _ _ _ _ ab _ ac
       have ad : aa 193 = undef := ac 11 rfl 193 rfl
       exact gdu rfl (ac 10 rfl 192 rfl) ⟨rfl, ab⟩
      ·intro _ _ _ _ _ _ _ _ aa _ ab
       exact gdu rfl (ab 10 rfl 192 rfl) ⟨rfl, aa⟩
      ·intro _ aa _ _ _ _ _ _ ab _ ac
       have ad : aa 195 = undef := ac 13 rfl 195 rfl
       exact gdu rfl (ac 10 rfl 192 rfl) ⟨rfl, ab⟩
      ·intro _ aa _ _ _ _ _ _ ab _ ac
       have ad : aa 194 = undef := ac 12 rfl 194 rfl
       have af : aa 196 = undef := ac 14 rfl 196 rfl
       exact gdu rfl (ac 10 rfl 192 rfl) ⟨rfl, ab⟩
      ·intro _ aa _ _ _ _ _ _ ab _ ac
       have ad : aa 197 = undef := ac 15 rfl 197 rfl
       exact gdu rfl (ac 10 rfl 192 rfl) ⟨rfl, ab⟩
      ·intro _ _ _ _ _ _ _ _ aa _ ab
       exact gdu rfl (ab 10 rfl 192 rfl) ⟨rfl, aa⟩
      ·intro _ aa _ _ _ _ _ _ ab _ ac
       have ad : aa 199 = undef := ac 17 rfl 199 rfl
       exact gdu rfl (ac 10 rfl 192 rfl) ⟨rfl, ab⟩
      ·intro _ _ _ _ _ _ _ _ aa _ ab
       exact gdu rfl (ab 10 rfl 192 rfl) ⟨rfl, aa⟩
      ·intro _ aa _ _ _ _ _ _ ab _ ac
       have ad : aa 200 = undef := ac 18 rfl 200 rfl
       have af : aa 201 = undef := ac 19 rfl 201 rfl
       exact gdu rfl (ac 10 rfl 192 rfl) ⟨rfl, ab⟩
      ·intro _ aa _ _ _ _ _ _ ab _ ac
       have ad : aa 202 = undef := ac 20 rfl 202 rfl
       exact gdu rfl (ac 10 rfl 192 rfl) ⟨rfl, ab⟩
      ·intro _ aa _ _ _ _ _ _ ab _ ac
       have ad : aa 198 = undef := ac 16 rfl 198 rfl
       have af : aa 203 = undef := ac 21 rfl 203 rfl
       exact gdu rfl (ac 10 rfl 192 rfl) ⟨rfl, ab⟩
      ·intro _ aa _ _ _ _ _ _ ab _ ac
       have ad : aa 204 = undef := ac 22 rfl 204 rfl
       exact gdu rfl (ac 10 rfl 192 rfl) ⟨rfl, ab⟩
      ·intro _ aa _ _ _ _ _ _ ab _ ac
       have ad : aa 192 = undef := ac 10 rfl 192 rfl
       have af : aa 205 = undef := ac 23 rfl 205 rfl
       exact gd0 rfl (ac 7 rfl 189 rfl) aV ⟨rfl, ab⟩
      ·intro _ aa _ _ _ _ _ _ ab _ ac
       have ad : aa 206 = undef := ac 24 rfl 206 rfl
       refine r_pick_t (c := !aD) (bv true) (ac 7 rfl 189 rfl) aV rfl rfl rfl rfl ?_
       exact d0 ⟨rfl, ab⟩
      intro _ _ g2 _ g3 _ g4
      have g5 := cg.trans g2
      have i7 := g3
      refine j1 ?_
      refine c_true (g4 25 207 rfl) rfl rfl ?_
      refine j2 (j3 ?_)
      refine r_assign (bv false) rfl rfl ?_
      refine j0 (j1 (jb (j7 (j9 ?_))))
      obtain rfl := oi hf
      exact ⟨rfl, _, _, (bv false), rfl, rfl, g5, ⟨rfl, rfl⟩, (RpV.mkBool _ _)⟩
     refine if_else hf (fun az hf => ?_) (fun az hf => ?_)
     ·obtain ⟨x2020, g6, hf⟩ := bind_some hf
      obtain ⟨x2022, g7, hf⟩ := bind_some hf
      obtain ⟨bT, g8, hf⟩ := bind_some hf
      refine wp_draw (B := frExt s0.N) (sm 182 26) [[], [0], [], rg 3, rg 4, rg 5, rg 6, rg 7, rg 8, rg 9, rg 10, rg 11, rg 12, rg 11, (rg 11 ++ [13]), rg 15, rg 16, rg 11, (rg 11 ++ [17]), rg 11, (rg 11 ++ [17, 18, 19]), (rg 11 ++ [17, 18, 19, 20]), rg 22, rg 23, rg 24, rg 25] [Fct.eqv (.pointer (some ⟨ae, 4, none⟩)), Fct.eqv (lv A4 a0.Keys.length c5), Fct.eqv (iv ap), Fct.elem (x1599 : Key), Fct.data (x1599 : Key), Fct.eqv (bv aD), Fct.eqv (bv (!aD)), Fct.eqv (bv (!aD)), Fct.eqv (iv ap), Fct.eqv (bv (decide (0 < ap))), Fct.eqv (bv (decide (0 < ap))), Fct.eqv (.pointer (some ⟨ae, 4, none⟩)), Fct.eqv (lv A4 a0.Keys.length c5), Fct.eqv (iv ap), Fct.eqv (iv (w64 (ap - 1))), Fct.elem (x2020 : Key), Fct.data (x2020 : Key), Fct.eqv (.pointer (some ⟨ae, 4, none⟩)), Fct.eqv (lv A4 a0.Keys.length c5), Fct.eqv (iv ap), Fct.elem (x2022 : Key), Fct.data (x2022 : Key), Fct.eqv (iv bT), Fct.eqv (bv (decide (0 ≤ bT))), Fct.eqv (bv (decide (0 ≤ bT))), Fct.eqv (bv (decide (0 ≤ bT)))] (fun D F τ => (Blk s0.N 1 τ ae 27 (Val.cs a0 A1 c2 A4 c5 A7 c8 ak al))) (by kernel_rfl) rfl (by decide) (by decide) (cy.ext (ext_draw _)) (by decide) (by decide) ⟨?_, ?_, ?_, ?_, ?_, ?_, ?_, ?_, ?_, ?_, ?_, ?_, ?_, ?_, ?_, ?_, ?_, ?_, ?_, ?_, ?_, ?_, ?_, ?_, ?_, ?_, trivial⟩ ?_
      ·intro _ _ _ _ _ _ _ _ aa ab _
       have ac := aa
       refine r_fieldAddr ae 0 4 4 ((ab 1 rfl).trans co) rfl fo27_4 rfl ?_
       exact d0 ⟨rfl, aa⟩
      ·intro _ _ _ _ _ _ _ _ aa _ ab
       have ac := aa
       have ad := ac
       refine r_load ae 4 (lv A4 a0.Keys.length c5) (ab 0 rfl 182 rfl) rfl (loads_one to23 ((ad.cell 4).trans rfl)) ?_
       exact d0 ⟨rfl, aa⟩
      ·intro _ _ _ _ _ _ _ _ aa ab _
       refine r_move (iv ap) ((ab 7 rfl).trans bw) rfl ?_
       exact d0 ⟨rfl, aa⟩
      ·intro _ _ _ _ _ _ _ aa ab _ ac
       refine r_indexAddr (T := 23) (E := 60) ((((((((h6.mono aQ.wext).mono bz).mono bB).mono bC).mono bE).mono bI).mono ch).mono aa) dF (ac 1 rfl 183 rfl) (ac 2 rfl 184 rfl) rfl rfl underlying23 sz60 ?_
       intro _ _ _ ad af
       obtain rfl := Key.cells_iff.1 ad
       exact d0 ⟨⟨_, _, _, rfl, (Key.cells_iff.2 rfl), af⟩, ab⟩
      ·intro _ aa ab _ _ _ _ _ ac _ ad
       obtain ⟨af, ah, _, ai, am, an⟩ : (Fct.elem (x1599 : Key)).p (aa 185) ab := ad 3 rfl 185 rfl
       obtain rfl := Key.cells_iff.1 am
       refine r_load af ah (Key.ag x1599) ai rfl (loads_row tr60 an.2) ?_
       exact d0 ⟨(Key.rpvMk (v := x1599) ), ac⟩
      ·intro _ aa ab _ _ _ ac _ ad _ af
       have ah := cg.trans ac
       have ai := ad
       have am : RpV ab (x1599 : Key) (aa 186) := af 4 rfl 186 rfl
       have an := Key.rpv am
       refine r_call [Key.ag x1599] (evs1 an) rfl (ok_semtyperef1_ValidKey _ _ _ _ (Key.rpvMk (v := x1599) ) dG) ?_
       intro _ _ aA aE
       obtain rfl := RpV.bool aE
       exact d1 ah (Nat.le_refl _) aA ⟨rfl, (ai.ext aA)⟩
      ·intro _ _ _ _ _ _ _ _ aa _ ab
       refine r_un (bv aD) (bv (!aD)) (ab 5 rfl 187 rfl) rfl u_not ?_
       exact d0 ⟨rfl, aa⟩
      ·intro _ _ _ _ _ _ _ _ aa _ ab
       refine r_move (bv (!aD)) (ab 6 rfl 188 rfl) rfl ?_
       exact d0 ⟨rfl, aa⟩
      ·intro _ _ _ _ _ _ _ _ aa ab ac
       refine gd1 rfl (ac 7 rfl 189 rfl) aV ?_
       refine r_move (iv ap) ((ab 7 rfl).trans bw) rfl ?_
       exact d0 ⟨rfl, aa⟩
      ·intro _ _ _ _ _ _ _ _ aa _ ab
       refine gd1 rfl (ab 7 rfl 189 rfl) aV ?_
       refine r_bin (iv ap) (iv 0) (bv (decide (0 < ap))) (ab 8 rfl 190 rfl) rfl rfl rfl (b_gtr) ?_
       exact d0 ⟨rfl, aa⟩
      ·intro _ _ _ _ _ _ _ _ aa _ ab
       refine gd1 rfl (ab 7 rfl 189 rfl) aV ?_
       refine r_move (bv (decide (0 < ap))) (ab 9 rfl 191 rfl) rfl ?_
       exact d0 ⟨rfl, aa⟩
      ·intro _ _ _ _ _ _ _ _ aa ab ac
       have ad := aa
       refine gd1 rfl (ac 10 rfl 192 rfl) az ?_
       refine r_fieldAddr ae 0 4 4 ((ab 1 rfl).trans co) rfl fo27_4 rfl ?_
       exact d0 ⟨rfl, aa⟩
      ·intro _ _ _ _ _ _ _ _ aa _ ab
       have ac := aa
       have ad := ac
       refine gd1 rfl (ab 10 rfl 192 rfl) az ?_
       refine r_load ae 4 (lv A4 a0.Keys.length c5) (ab 11 rfl 193 rfl) rfl (loads_one to23 ((ad.cell 4).trans rfl)) ?_
       exact d0 ⟨rfl, aa⟩
      ·intro _ _ _ _ _ _ _ _ aa ab ac
       refine gd1 rfl (ac 10 rfl 192 rfl) az ?_
       refine r_move (iv ap) ((ab 7 rfl).trans bw) rfl ?_
       exact d0 ⟨rfl, aa⟩
      ·intro _ _ _ _ _ _ _ _ aa _ ab
       refine gd1 rfl (ab 10 rfl 192 rfl) az ?_
       refine r_bin (iv ap) (iv 1) (iv (w64 (ap - 1))) (ab 13 rfl 195 rfl) rfl rfl rfl (b_sub) ?_
       exact d0 ⟨rfl, aa⟩
      ·intro _ _ _ _ _ _ _ aa ab _ ac
       refine gd1 rfl (ac 10 rfl 192 rfl) az ?_
       refine r_indexAddr (T := 23) (E := 60) ((((((((h6.mono aQ.wext).mono bz).mono bB).mono bC).mono bE).mono bI).mono ch).mono aa) g6 (ac 12 rfl 194 rfl) (ac 14 rfl 196 rfl) rfl rfl underlying23 sz60 ?_
       intro _ _ _ ad af
       obtain rfl := Key.cells_iff.1 ad
       exact d0 ⟨⟨_, _, _, rfl, (Key.cells_iff.2 rfl), af⟩, ab⟩
      ·intro _ aa ab _ _ _ _ _ ac _ ad
       obtain ⟨af, ah, _, ai, am, an⟩ : (Fct.elem (x2020 : Key)).p (aa 197) ab := ad 15 rfl 197 rfl
       obtain rfl := Key.cells_iff.1 am
       refine gd1 rfl (ad 10 rfl 192 rfl) az ?_
       refine r_load af ah (Key.ag x2020) ai rfl (loads_row tr60 an.2) ?_
       exact d0 ⟨(Key.rpvMk (v := x2020) ), ac⟩
      ·intro _ _ _ _ _ _ _ _ aa ab ac
       have ad := aa
       refine gd1 rfl (ac 10 rfl 192 rfl) az ?_
       refine r_fieldAddr ae 0 4 4 ((ab 1 rfl).trans co) rfl fo27_4 rfl ?_
       exact d0 ⟨rfl, aa⟩
      ·intro _ _ _ _ _ _ _ _ aa _ ab
       have ac := aa
       have ad := ac
       refine gd1 rfl (ab 10 rfl 192 rfl) az ?_
       refine r_load ae 4 (lv A4 a0.Keys.length c5) (ab 17 rfl 199 rfl) rfl (loads_one to23 ((ad.cell 4).trans rfl)) ?_
       exact d0 ⟨rfl, aa⟩
      ·intro _ _ _ _ _ _ _ _ aa ab ac
       refine gd1 rfl (ac 10 rfl 192 rfl) az ?_
       refine r_move (iv ap) ((ab 7 rfl).trans bw) rfl ?_
       exact d0 ⟨rfl, aa⟩
      ·intro _ _ _ _ _ _ _ aa ab _ ac
       refine gd1 rfl (ac 10 rfl 192 rfl) az ?_
       refine r_indexAddr (T := 23) (E := 60) ((((((((h6.mono aQ.wext).mono bz).mono bB).mono bC).mono bE).mono bI).mono ch).mono aa) g7 (ac 18 rfl 200 rfl) (ac 19 rfl 201 rfl) rfl rfl underlying23 sz60 ?_
       intro _ _ _ ad af
       obtain rfl := Key.cells_iff.1 ad
       exact d0 ⟨⟨_, _, _, rfl, (Key.cells_iff.2 rfl), af⟩, ab⟩
      ·intro _ aa ab _ _ _ _ _ ac _ ad
       obtain ⟨af, ah, _, ai, am, an⟩ : (Fct.elem (x2022 : Key)).p (aa 202) ab := ad 20 rfl 202 rfl
       obtain rfl := Key.cells_iff.1 am
       refine gd1 rfl (ad 10 rfl 192 rfl) az ?_
       refine r_load af ah (Key.ag x2022) ai rfl (loads_row tr60 an.2) ?_
       exact d0 ⟨(Key.rpvMk (v := x2022) ), ac⟩
      ·intro _ aa ab _ _ _ ac _ ad _ af
       have ah := cg.trans ac
       have ai := ad
       have am : RpV ab (x2020 : Key) (aa 198) := af 16 rfl 198 rfl
       have an := Key.rpv am
       have aA : RpV ab (x2022 : Key) (aa 203) := af 21 rfl 203 rfl
       have aE := Key.rpv aA
       refine gd1 rfl (af 10 rfl 192 rfl) az ?_
       refine r_call [Key.ag x2020, Key.ag x2022] (evs2 an aE) rfl (ok_semtyperef1_CompareKeys _ _ _ _ _ _ (Key.rpvMk (v := x2020) ) (Key.rpvMk (v := x2022) ) g8) ?_
       intro _ _ aW a1
       obtain rfl := RpV.int a1
       exact d1 ah (Nat.le_refl _) aW ⟨rfl, (ai.ext aW)⟩
      ·intro _ _ _ _ _ _ _ _ aa _ ab
       refine gd1 rfl (ab 10 rfl 192 rfl) az ?_
       refine r_bin (iv bT) (iv 0) (bv (decide (0 ≤ bT))) (ab 22 rfl 204 rfl) rfl rfl rfl (b_geq) ?_
       exact d0 ⟨rfl, aa⟩
      ·intro _ _ _ _ _ _ _ _ aa _ ab
       refine gd1 rfl (ab 7 rfl 189 rfl) aV ?_
       refine r_pick_t (c := decide (0 < ap)) (bv (decide (0 ≤ bT))) (ab 10 rfl 192 rfl) az (ab 23 rfl 205 rfl) rfl rfl rfl ?_
       exact d0 ⟨rfl, aa⟩
      ·intro _ _ _ _ _ _ _ _ aa _ ab
       refine r_pick_f (c := !aD) (bv (decide (0 ≤ bT))) (ab 7 rfl 189 rfl) aV (ab 24 rfl 206 rfl) rfl rfl rfl ?_
       exact d0 ⟨rfl, aa⟩
      intro g9 _ ha hb hc eS hd
      have eT := cg.trans ha
      have he := hc
      have hg := he
      have hh := (eS 7 rfl).trans bw
      have eU : g9 207 = (bv (decide (0 ≤ bT))) := hd 25 207 rfl
      refine j1 ?_
      refine if_else hf (fun dH hf => ?_) (fun dH hf => ?_)
      ·refine c_true eU dH rfl ?_
       refine j2 (j3 ?_)
       refine r_assign (bv false) rfl rfl ?_
       refine j0 (j1 (jb (j7 (j9 ?_))))
       obtain rfl := oi hf
       exact ⟨rfl, _, _, (bv false), rfl, rfl, eT, ⟨rfl, rfl⟩, (RpV.mkBool _ _)⟩
      refine c_false eU dH rfl ?_
      refine ja (j5 (j1 (j3 ?_)))
      refine r_move (iv ap) hh rfl ?_
      refine r_bin (iv ap) (iv 1) (iv (w64 (ap + 1))) rfl rfl rfl rfl (b_add) ?_
      refine r_assign (iv (w64 (ap + 1))) rfl rfl ?_
      refine j0 ?_
      obtain rfl := oi hf
      exact ⟨rfl, _, _, rfl, rfl, ((((((((((cV).put rfl).put rfl).put rfl).put rfl).put rfl).draw eS rfl).put rfl).put rfl).put rfl), eT, (((Wext.refl _).trans ch).trans hb), rfl, hg⟩
     refine wp_draw (B := frExt s0.N) (sm 182 26) [[], [0], [], rg 3, rg 4, rg 5, rg 6, rg 7, rg 8, rg 9, rg 10, rg 11, rg 12, rg 11, (rg 11 ++ [13]), rg 15, rg 16, rg 11, (rg 11 ++ [17]), rg 11, (rg 11 ++ [17, 18, 19]), (rg 11 ++ [17, 18, 19, 20]), rg 22, rg 23, rg 24, rg 25] [Fct.eqv (.pointer (some ⟨ae, 4, none⟩)), Fct.eqv (lv A4 a0.Keys.length c5), Fct.eqv (iv ap), Fct.elem (x1599 : Key), Fct.data (x1599 : Key), Fct.eqv (bv aD), Fct.eqv (bv (!aD)), Fct.eqv (bv (!aD)), Fct.eqv (iv ap), Fct.eqv (bv (decide (0 < ap))), Fct.eqv (bv (decide (0 < ap))), Fct.eqv undef, Fct.eqv undef, Fct.eqv undef, Fct.eqv undef, Fct.eqv undef, Fct.eqv undef, Fct.eqv undef, Fct.eqv undef, Fct.eqv undef, Fct.eqv undef, Fct.eqv undef, Fct.eqv undef, Fct.eqv undef, Fct.eqv (bv false), Fct.eqv (bv false)] (fun D F τ => (Blk s0.N 1 τ ae 27 (Val.cs a0 A1 c2 A4 c5 A7 c8 ak al))) (by kernel_rfl) rfl (by decide) (by decide) (cy.ext (ext_draw _)) (by decide) (by decide) ⟨?_, ?_, ?_, ?_, ?_, ?_, ?_, ?_, ?_, ?_, ?_, ?_, ?_, ?_, ?_, ?_, ?_, ?_, ?_, ?_, ?_, ?_, ?_, ?_, ?_, ?_, trivial⟩ ?_
     ·intro _ _ _ _ _ _ _ _ aa ab _
      have ac := aa
      refine r_fieldAddr ae 0 4 4 ((ab 1 rfl).trans co) rfl fo27_4 rfl ?_
      exact d0 ⟨rfl, aa⟩
     ·intro _ _ _ _ _ _ _ _ aa _ ab
      have ac := aa
      have ad := ac
      refine r_load ae 4 (lv A4 a0.Keys.length c5) (ab 0 rfl 182 rfl) rfl (loads_one to23 ((ad.cell 4).trans rfl)) ?_
      exact d0 ⟨rfl, aa⟩
     ·intro _ _ _ _ _ _ _ _ aa ab _
      refine r_move (iv ap) ((ab 7 rfl).trans bw) rfl ?_
      exact d0 ⟨rfl, aa⟩
     ·intro _ _ _ _ _ _ _ aa ab _ ac
      refine r_indexAddr (T := 23) (E := 60) ((((((((h6.mono aQ.wext).mono bz).mono bB).mono bC).mono bE).mono bI).mono ch).mono aa) dF (ac 1 rfl 183 rfl) (ac 2 rfl 184 rfl) rfl rfl underlying23 sz60 ?_
      intro _ _ _ ad af
      obtain rfl := Key.cells_iff.1 ad
      exact d0 ⟨⟨_, _, _, rfl, (Key.cells_iff.2 rfl), af⟩, ab⟩
     ·intro _ aa ab _ _ _ _ _ ac _ ad
      obtain ⟨af, ah, _, ai, am, an⟩ : (Fct.elem (x1599 : Key)).p (aa 185) ab := ad 3 rfl 185 rfl
      obtain rfl := Key.cells_iff.1 am
      refine r_load af ah (Key.ag x1599) ai rfl (loads_row tr60 an.2) ?_
      exact d0 ⟨(Key.rpvMk (v := x1599) ), ac⟩
     ·intro _ aa ab _ _ _ ac _ ad _ af
      have ah := cg.trans ac
      have ai := ad
      have am : RpV ab (x1599 : Key) (aa 186) := af 4 rfl 186 rfl
      have an := Key.rpv am
      refine r_call [Key.ag x1599] (evs1 an) rfl (ok_semtyperef1_ValidKey _ _ _ _ (Key.rpvMk (v := x1599) ) dG) ?_
      intro _ _ aA aE
      obtain rfl := RpV.bool aE
      exact d1 ah (Nat.le_refl _) aA ⟨rfl, (ai.ext aA)⟩
     ·intro _ _ _ _ _ _ _ _ aa _ ab
      refine r_un (bv aD) (bv (!aD)) (ab 5 rfl 187 rfl) rfl u_not ?_
      exact d0 ⟨rfl, aa⟩
     ·intro _ _ _ _ _ _ _ _ aa _ ab
      refine r_move (bv (!aD)) (ab 6 rfl 188 rfl) rfl ?_
      exact d0 ⟨rfl, aa⟩
     ·intro _ _ _ _ _ _ _ _ aa ab ac
      refine gd1 rfl (ac 7 rfl 189 rfl) aV ?_
      refine r_move (iv ap) ((ab 7 rfl).trans bw) rfl ?_
      exact d0 ⟨rfl, aa⟩
     ·intro _ _ _ _ _ _ _ _ aa _ ab
      refine gd1 rfl (ab 7 rfl 189 rfl) aV ?_
      refine r_bin (iv ap) (iv 0) (bv (decide (0 < ap))) (ab 8 rfl 190 rfl) rfl rfl rfl (b_gtr) ?_
      exact d0 ⟨rfl, aa⟩
     ·intro _ _ _ _ _ _ _ _ aa _ ab
      refine gd1 rfl (ab 7 rfl 189 rfl) aV ?_
      refine r_move (bv (decide (0 < ap))) (ab 9 rfl 191 rfl) rfl ?_
      exact d0 ⟨rfl, aa⟩
     ·intro _ _ _ _ _ _ _ _ aa _ ab
      exact gd0 rfl (ab 10 rfl 192 rfl) az ⟨rfl, aa⟩
     ·intro _ aa _ _ _ _ _ _ ab _ ac
      have ad : aa 193 = undef := ac 11 rfl 193 rfl
      exact gd0 rfl (ac 10 rfl 192 rfl) az ⟨rfl, ab⟩
     ·intro _ _ _ _ _ _ _ _ aa _ ab
      exact gd0 rfl (ab 10 rfl 192 rfl) az ⟨rfl, aa⟩
     ·intro _ aa _ _ _ _ _ _ ab _ ac
      have ad : aa 195 = undef := ac 13 rfl 195 rfl
      exact gd0 rfl (ac 10 rfl 192 rfl) az ⟨rfl, ab⟩
     ·intro _ aa _ _ _ _ _ _ ab _ ac
      have ad : aa 194 = undef := ac 12 rfl 194 rfl
      have af : aa 196 = undef := ac 14 rfl 196 rfl
      exact gd0 rfl (ac 10 rfl 192 rfl) az ⟨rfl, ab⟩
     ·intro _ aa _ _ _ _ _ _ ab _ ac
      have ad : aa 197 = undef := ac 15 rfl 197 rfl
      exact gd0 rfl (ac 10 rfl 192 rfl) az ⟨rfl, ab⟩
     ·intro _ _ _ _ _ _ _ _ aa _ ab
      exact gd0 rfl (ab 10 rfl 192 rfl) az ⟨rfl, aa⟩
     ·intro _ aa _ _ _ _ _ _ ab _ ac
      have ad : aa 199 = undef := ac 17 rfl 199 rfl
      exact gd0 rfl (ac 10 rfl 192 rfl) az ⟨rfl, ab⟩
     ·intro _ _ _ _ _ _ _ _ aa _ ab
      exact gd0 rfl (ab 10 rfl 192 rfl) az ⟨rfl, aa⟩
     ·intro _ aa _ _ _ _ _ _ ab _ ac
      have ad : aa 200 = undef := ac 18 rfl 200 rfl
      have af : aa 201 = undef := ac 19 rfl 201 rfl
      exact gd0 rfl (ac 10 rfl 192 rfl) az ⟨rfl, ab⟩
     ·intro _ aa _ _ _ _ _ _ ab _ ac
      have ad : aa 202 = undef := ac 20 rfl 202 rfl
      exact gd0 rfl (ac 10 rfl 192 rfl) az ⟨rfl, ab⟩
     ·intro _ aa _ _ _ _ _ _ ab _ ac
      have ad : aa 198 = undef := ac 16 rfl 198 rfl
      have af : aa 203 = undef := ac 21 rfl 203 rfl
      exact gd0 rfl (ac 10 rfl 192 rfl) az ⟨rfl, ab⟩
     ·intro _ aa _ _ _ _ _ _ ab _ ac
      have ad : aa 204 = undef := ac 22 rfl 204 rfl
      exact gd0 rfl (ac 10 rfl 192 rfl) az ⟨rfl, ab⟩
     ·intro _ aa _ _ _ _ _ _ ab _ ac
      have ad : aa 205 = undef := ac 23 rfl 205 rfl
      refine gd1 rfl (ac 7 rfl 189 rfl) aV ?_
      refine r_pick_f (c := decide (0 < ap)) (bv false) (ac 10 rfl 192 rfl) az rfl rfl rfl rfl ?_
      exact d0 ⟨rfl, ab⟩
     ·intro _ _ _ _ _ _ _ _ aa _ ab
      refine r_pick_f (c := !aD) (bv false) (ab 7 rfl 189 rfl) aV (ab 24 rfl 206 rfl) rfl rfl rfl ?_
      exact d0 ⟨rfl, aa⟩
     intro _ _ hi hj hk eV hl
     have hm := cg.trans hi
     have hn := hk
     have ho := hn
     have hq := (eV 7 rfl).trans bw
     refine j1 ?_
     refine c_false (hl 25 207 rfl) rfl rfl ?_
     refine ja (j5 (j1 (j3 ?_)))
     refine r_move (iv ap) hq rfl ?_
     refine r_bin (iv ap) (iv 1) (iv (w64 (ap + 1))) rfl rfl rfl rfl (b_add) ?_
     refine r_assign (iv (w64 (ap + 1))) rfl rfl ?_
     refine j0 ?_
     obtain rfl := oi hf
     exact ⟨rfl, _, _, rfl, rfl, ((((((((((cV).put rfl).put rfl).put rfl).put rfl).put rfl).draw eV rfl).put rfl).put rfl).put rfl), hm, (((Wext.refl _).trans ch).trans hj), rfl, ho⟩
    refine c_false rfl dE rfl ?_
    refine jc (j8 ?_)
    obtain rfl := oi hf
    exact ⟨rfl, _, _, rfl, rfl, ((((((cV).put rfl).put rfl).put rfl).put rfl).put rfl), cg, ((Wext.refl _).trans ch), bw, cy⟩
   ·exact ⟨_, _, rfl, rfl, (Agr.refl _ _), aY, (Wext.refl _), gZ, bo⟩
   intro e a w hp
   rcases g0 with i8 | r
   ·replace hf := onEnd_inl hf
    obtain ⟨rfl, _, _, rfl, rfl, hr, hs, _, _, eW⟩ := hp
    have eX := (hr 1 rfl).trans eR
    refine j6 (j1 (j2 (j3 ?_)))
    refine r_fieldAddr ae 0 4 4 eX rfl fo27_4 rfl ?_
    refine r_load ae 4 (lv A4 a0.Keys.length c5) rfl rfl (loads_one to23 ((eW.cell 4).trans rfl)) ?_
    refine r_len A4 a0.Keys.length c5 rfl rfl underlying23 ?_
    refine r_fieldAddr ae 0 3 3 eX rfl fo27_3 rfl ?_
    refine r_load ae 3 (lv A1 a0.Kids.length c2) rfl rfl (loads_one to22 ((eW.cell 3).trans rfl)) ?_
    refine r_len A1 a0.Kids.length c2 rfl rfl underlying22 ?_
    refine r_bin (iv (a0.Keys.length : Int)) (iv (a0.Kids.length : Int)) (bv ((a0.Keys.length : Int) == (a0.Kids.length : Int))) rfl rfl rfl rfl (b_eql) ?_
    refine r_assign (bv ((a0.Keys.length : Int) == (a0.Kids.length : Int))) rfl rfl ?_
    refine j0 (j1 (jb (j7 (j9 ?_))))
    obtain rfl := oi hf
    refine ret_one (bv ((a0.Keys.length : Int) == (a0.Kids.length : Int))) rfl ⟨rfl, rfl⟩ hs ?_
    exact (RpV.mkBool _ _)
   replace hf := onEnd_inr hf
   obtain ⟨rfl, _, _, ht, rfl, rfl, hu, hv, hw⟩ := hp
   refine j7 (j9 (j7 (j9 ?_)))
   obtain rfl := oi hf
   refine ret_one ht rfl hv hu ?_
   exact hw
  refine c_false rfl dC rfl ?_
  refine j2 (j3 ?_)
  refine r_bin (iv a0.Kind) (iv 9) (bv (a0.Kind == 9)) rfl rfl rfl rfl (b_eql) ?_
  refine r_assign (bv (a0.Kind == 9)) rfl rfl ?_
  refine j0 (j1 ?_)
  refine if_else hf (fun dI hf => ?_) (fun dI hf => ?_)
  ·refine c_true rfl dI rfl ?_
   refine j2 (j2 (j3 ?_))
   refine r_fieldAddr ae 0 1 1 bp rfl fo27_1 rfl ?_
   refine r_load ae 1 (iv a0.Int_) rfl rfl (loads_one to2 ((bo.cell 1).trans rfl)) ?_
   refine r_bin (iv a0.Int_) (iv 0) (bv (decide (a0.Int_ < 0))) rfl rfl rfl rfl (b_lss) ?_
   refine r_move (bv (decide (a0.Int_ < 0))) rfl rfl ?_
   refine if_else hf (fun bU hf => ?_) (fun bU hf => ?_)
   ·refine r_skip (j := 3) (want := false) (d := 220) (c := decide (a0.Int_ < 0)) (v := true) rfl rfl bU rfl rfl ?_
    refine r_skip (j := 3) (want := false) (d := 220) (c := decide (a0.Int_ < 0)) (v := true) rfl rfl bU rfl rfl ?_
    refine r_skip (j := 3) (want := false) (d := 220) (c := decide (a0.Int_ < 0)) (v := true) rfl rfl bU rfl rfl ?_
    refine r_pick_t (c := decide (a0.Int_ < 0)) (bv true) rfl bU rfl rfl rfl rfl ?_
    refine j0 (j1 ?_)
    refine c_true rfl rfl rfl ?_
    refine j2 (j3 ?_)
    refine r_assign (bv false) rfl rfl ?_
    refine j0 (j1 (jb (j9 (j7 (j9 ?_)))))
    obtain rfl := oi hf
    refine ret_one (bv false) rfl ⟨rfl, rfl⟩ aY ?_
    exact (RpV.mkBool _ _)
   refine r_guard (j := 3) (want := false) (d := 220) (c := decide (a0.Int_ < 0)) (v := false) rfl rfl bU rfl rfl ?_
   refine r_fieldAddr ae 0 1 1 bp rfl fo27_1 rfl ?_
   refine r_guard (j := 3) (want := false) (d := 220) (c := decide (a0.Int_ < 0)) (v := false) rfl rfl bU rfl rfl ?_
   refine r_load ae 1 (iv a0.Int_) rfl rfl (loads_one to2 ((bo.cell 1).trans rfl)) ?_
   refine r_guard (j := 3) (want := false) (d := 220) (c := decide (a0.Int_ < 0)) (v := false) rfl rfl bU rfl rfl ?_
   refine r_bin (iv a0.Int_) (iv 4) (bv (decide (4 < a0.Int_))) rfl rfl rfl rfl (b_gtr) ?_
   refine r_pick_f (c := decide (a0.Int_ < 0)) (bv (decide (4 < a0.Int_))) rfl bU rfl rfl rfl rfl ?_
   refine j0 (j1 ?_)
   refine if_else hf (fun dJ hf => ?_) (fun dJ hf => ?_)
   ·refine c_true rfl dJ rfl ?_
    refine j2 (j3 ?_)
    refine r_assign (bv false) rfl rfl ?_
    refine j0 (j1 (jb (j9 (j7 (j9 ?_)))))
    obtain rfl := oi hf
    refine ret_one (bv false) rfl ⟨rfl, rfl⟩ aY ?_
    exact (RpV.mkBool _ _)
   refine c_false rfl dJ rfl ?_
   refine ja (j1 (j2 (j2 (j3 ?_))))
   refine r_assign (iv 0) rfl rfl ?_
   refine j0 (j1 (j4 ?_))
   refine gen_F fun dK eY => ?_
   have hx := (eY 1).trans bp
   have hy : dK 8 = (iv 0) := (eY 8).trans rfl
   obtain ⟨hz, hA, hf⟩ := bind_some hf
   refine wp_mono (wp_iter (step := semtyperef1_node_l3 fuel a0) (fun q a w => ∃ (F : Fr) (τ : S), a = fr 269 F ∧ w = τ.w ∧ Agr [2, 8, 9, 225, 226, 227, 228, 229, 230, 231, 232, 233, 234, 235, 236, 237, 238, 239, 240, 241, 242, 243, 244, 245, 246, 247, 248, 249, 250, 251, 252, 253, 254, 255, 256, 257, 258, 259, 260, 261, 262, 263, 264, 265, 266, 267, 268] F dK ∧ ExtB s0.N s0 τ ∧ Wext cx τ ∧ F 8 = (iv q) ∧ Blk s0.N 1 τ ae 27 (Val.cs a0 A1 c2 A4 c5 A7 c8 ak al)) (fun o e a w => match o with | .inl q => e = .exit 5 ∧ ∃ (F : Fr) (τ : S), a = fr 269 F ∧ w = τ.w ∧ Agr [2, 8, 9, 225, 226, 227, 228, 229, 230, 231, 232, 233, 234, 235, 236, 237, 238, 239, 240, 241, 242, 243, 244, 245, 246, 247, 248, 249, 250, 251, 252, 253, 254, 255, 256, 257, 258, 259, 260, 261, 262, 263, 264, 265, 266, 267, 268] F dK ∧ ExtB s0.N s0 τ ∧ Wext cx τ ∧ F 8 = (iv q) ∧ Blk s0.N 1 τ ae 27 (Val.cs a0 A1 c2 A4 c5 A7 c8 ak al) | .inr r => e = .ret ∧ ∃ (F : Fr) (τ : S) (va : Value), a = fr 269 F ∧ w = τ.w ∧ ExtB s0.N s0 τ ∧ ResV prog 269 F τ.w (.tmp 2) va ∧ RpV τ r va) (by rintro (_ | _) a w ⟨h, _⟩ <;> cases h) ?_ _ _ _ _ _ hA ?_) ?_
   ·intro ag fl a w hf hI
    obtain ⟨_, _, rfl, rfl, cp, dL, ci, ba, bV⟩ := hI
    unfold semtyperef1_node_l3 at hf
    have bJ := (cp 1 rfl).trans hx
    refine j2 (j2 (j3 ?_))
    refine r_move (iv ag) ba rfl ?_
    refine r_fieldAddr ae 0 5 5 bJ rfl fo27_5 rfl ?_
    refine r_load ae 5 (lv A7 a0.Entries.length c8) rfl rfl (loads_one to24 ((bV.cell 5).trans rfl)) ?_
    refine r_len A7 a0.Entries.length c8 rfl rfl underlying24 ?_
    refine r_bin (iv ag) (iv (a0.Entries.length : Int)) (bv (decide (ag < (a0.Entries.length : Int)))) rfl rfl rfl rfl (b_lss) ?_
    refine j0 (j1 ?_)
    refine if_else hf (fun dM hf => ?_) (fun dM hf => ?_)
    ·refine c_true rfl dM rfl ?_
     refine ja (j1 (j2 (j4 (j2 (j3 ?_)))))
     refine r_fieldAddr ae 0 5 5 bJ rfl fo27_5 rfl ?_
     refine r_load ae 5 (lv A7 a0.Entries.length c8) rfl rfl (loads_one to24 ((bV.cell 5).trans rfl)) ?_
     refine r_move (iv ag) ba rfl ?_
     obtain ⟨x2925, hB, hf⟩ := bind_some hf
     refine r_indexAddr (T := 24) (E := 65) (((((((h9.mono aQ.wext).mono bz).mono bB).mono bC).mono bE).mono bI).mono ci) hB rfl rfl rfl rfl underlying24 sz65 ?_
     intro hC hD _ hE hF
     obtain ⟨av, aw, aI, aJ, aK, aL, aM, aN, aO, aP, rfl, eZ, cz, cA, cB, cC⟩ := Ent.cells_iff.1 hE
     refine r_load hC hD (.agg #[lv av x2925.Args.length aw, bv x2925.Fails, iv x2925.Result.Kind, iv x2925.Result.Int_, tv x2925.Result.Text, lv aI x2925.Result.Kids.length aJ, lv aK x2925.Result.Keys.length aL, lv aM x2925.Result.Entries.length aN, lv aO x2925.Result.Labels.length aP]) rfl rfl (loads_row tr65 hF.2) ?_
     refine r_alloc (B := s0.N) 2 dL.size _ [nl Val, bv false, iv 0, iv 0, tv (⟨#[]⟩), nl Val, nl Key, nl Ent, nl ByteArray] ti65 rfl ?_
     intro _ aj aq hG
     have hH := dL.x aq
     refine r_store hG 0 (.agg #[lv av x2925.Args.length aw, bv x2925.Fails, iv x2925.Result.Kind, iv x2925.Result.Int_, tv x2925.Result.Text, lv aI x2925.Result.Kids.length aJ, lv aK x2925.Result.Keys.length aL, lv aM x2925.Result.Entries.length aN, lv aO x2925.Result.Labels.length aP]) [lv av x2925.Args.length aw, bv x2925.Fails, iv x2925.Result.Kind, iv x2925.Result.Int_, tv x2925.Result.Text, lv aI x2925.Result.Kids.length aJ, lv aK x2925.Result.Keys.length aL, lv aM x2925.Result.Entries.length aN, lv aO x2925.Result.Labels.length aP] [lv av x2925.Args.length aw, bv x2925.Fails, iv x2925.Result.Kind, iv x2925.Result.Int_, tv x2925.Result.Text, lv aI x2925.Result.Kids.length aJ, lv aK x2925.Result.Keys.length aL, lv aM x2925.Result.Entries.length aN, lv aO x2925.Result.Labels.length aP] rfl rfl rfl rfl rfl sz65 rfl rfl rfl ?_
     intro _ ar cq
     have bx := hH.y ar
     refine j0 (j1 (j2 ?_))
     refine if_else hf (fun ax hf => ?_) (fun ax hf => ?_)
     ·refine wp_draw (B := frExt s0.N) (sm 237 32) [[], [0], [0, 1], [], [3], rg 5, rg 6, rg 7, rg 8, rg 9, rg 10, rg 11, rg 10, rg 13, rg 14, rg 15, rg 16, rg 17, rg 18, rg 19, rg 20, rg 21, rg 22, rg 21, (rg 21 ++ [23]), rg 25, rg 26, rg 21, rg 28, rg 29, rg 30, rg 31] [Fct.eqv (.pointer (some ⟨aj, 0, none⟩)), Fct.eqv (lv av x2925.Args.length aw), Fct.eqv (iv (x2925.Args.length : Int)), Fct.eqv (.pointer (some ⟨ae, 1, none⟩)), Fct.eqv (iv a0.Int_), Fct.eqv (bv ((x2925.Args.length : Int) != a0.Int_)), Fct.eqv (bv ((x2925.Args.length : Int) != a0.Int_)), Fct.eqv undef, Fct.eqv undef, Fct.eqv undef, Fct.eqv undef, Fct.eqv undef, Fct.eqv undef, Fct.eqv undef, Fct.eqv undef, Fct.eqv undef, Fct.eqv (bv true), Fct.eqv (bv true), Fct.eqv undef, Fct.eqv undef, Fct.eqv undef, Fct.eqv undef, Fct.eqv undef, Fct.eqv undef, Fct.eqv undef, Fct.eqv undef, Fct.eqv undef, Fct.eqv undef, Fct.eqv undef, Fct.eqv undef, Fct.eqv undef, Fct.eqv (bv true)] (fun D F τ => (Blk s0.N 1 τ ae 27 (Val.cs a0 A1 c2 A4 c5 A7 c8 ak al)) ∧ (Blk s0.N 2 τ aj 65 [lv av x2925.Args.length aw, bv x2925.Fails, iv x2925.Result.Kind, iv x2925.Result.Int_, tv x2925.Result.Text, lv aI x2925.Result.Kids.length aJ, lv aK x2925.Result.Keys.length aL, lv aM x2925.Result.Entries.length aN, lv aO x2925.Result.Labels.length aP])) (by kernel_rfl) rfl (by decide) (by decide) ⟨(((bV.ext aq).mod ar rfl).ext (ext_draw _)), (cq.ext (ext_draw _))⟩ (by decide) (by decide) ⟨?_, ?_, ?_, ?_, ?_, ?_, ?_, ?_, ?_, ?_, ?_, ?_, ?_, ?_, ?_, ?_, ?_, ?_, ?_, ?_, ?_, ?_, ?_, ?_, ?_, ?_, ?_, ?_, ?_, ?_, ?_, ?_, trivial⟩ ?_
      ·intro _ _ _ _ _ _ _ _ aa ab _
       obtain ⟨_, _⟩ := id aa
       refine r_fieldAddr aj 0 0 0 ((ab 9 rfl).trans rfl) rfl fo65_0 rfl ?_
       exact d0 ⟨rfl, aa⟩
      ·intro _ _ _ _ _ _ _ _ aa _ ab
       obtain ⟨_, ac⟩ := id aa
       have ad := ac
       refine r_load aj 0 (lv av x2925.Args.length aw) (ab 0 rfl 237 rfl) rfl (loads_one to22 ((ad.cell 0).trans rfl)) ?_
       exact d0 ⟨rfl, aa⟩
      ·intro _ _ _ _ _ _ _ _ aa _ ab
       refine r_len av x2925.Args.length aw (ab 1 rfl 238 rfl) rfl underlying22 ?_
       exact d0 ⟨rfl, aa⟩
      ·intro _ _ _ _ _ _ _ _ aa ab _
       obtain ⟨_, _⟩ := id aa
       refine r_fieldAddr ae 0 1 1 ((ab 1 rfl).trans bJ) rfl fo27_1 rfl ?_
       exact d0 ⟨rfl, aa⟩
      ·intro _ _ _ _ _ _ _ _ aa _ ab
       obtain ⟨ac, _⟩ := id aa
       have ad := ac
       refine r_load ae 1 (iv a0.Int_) (ab 3 rfl 240 rfl) rfl (loads_one to2 ((ad.cell 1).trans rfl)) ?_
       exact d0 ⟨rfl, aa⟩
      ·intro _ _ _ _ _ _ _ _ aa _ ab
       refine r_bin (iv (x2925.Args.length : Int)) (iv a0.Int_) (bv ((x2925.Args.length : Int) != a0.Int_)) (ab 2 rfl 239 rfl) (ab 4 rfl 241 rfl) rfl rfl (b_neq) ?_
       exact d0 ⟨rfl, aa⟩
      ·intro _ _ _ _ _ _ _ _ aa _ ab
       refine r_move (bv ((x2925.Args.length : Int) != a0.Int_)) (ab 5 rfl 242 rfl) rfl ?_
       exact d0 ⟨rfl, aa⟩
      ·intro _ _ _ _ _ _ _ _ aa _ ab
       exact gd0 rfl (ab 6 rfl 243 rfl) ax ⟨rfl, aa⟩
      ·intro _ aa _ _ _ _ _ _ ab _ ac
       have ad : aa 244 = undef := ac 7 rfl 244 rfl
       exact gd0 rfl (ac 6 rfl 243 rfl) ax ⟨rfl, ab⟩
      ·intro _ aa _ _ _ _ _ _ ab _ ac
       have ad : aa 245 = undef := ac 8 rfl 245 rfl
       exact gd0 rfl (ac 6 rfl 243 rfl) ax ⟨rfl, ab⟩
      ·intro _ _ _ _ _ _ _ _ aa _ ab
       exact gdu rfl (ab 9 rfl 246 rfl) ⟨rfl, aa⟩
      ·intro _ aa _ _ _ _ _ _ ab _ ac
       have ad : aa 247 = undef := ac 10 rfl 247 rfl
       exact gdu rfl (ac 9 rfl 246 rfl) ⟨rfl, ab⟩
      ·intro _ _ _ _ _ _ _ _ aa _ ab
       exact gdu rfl (ab 9 rfl 246 rfl) ⟨rfl, aa⟩
      ·intro _ aa _ _ _ _ _ _ ab _ ac
       have ad : aa 248 = undef := ac 11 rfl 248 rfl
       have af : aa 249 = undef := ac 12 rfl 249 rfl
       exact gdu rfl (ac 9 rfl 246 rfl) ⟨rfl, ab⟩
      ·intro _ aa _ _ _ _ _ _ ab _ ac
       have ad : aa 250 = undef := ac 13 rfl 250 rfl
       exact gdu rfl (ac 9 rfl 246 rfl) ⟨rfl, ab⟩
      ·intro _ aa _ _ _ _ _ _ ab _ ac
       have ad : aa 246 = undef := ac 9 rfl 246 rfl
       have af : aa 251 = undef := ac 14 rfl 251 rfl
       exact gd0 rfl (ac 6 rfl 243 rfl) ax ⟨rfl, ab⟩
      ·intro _ aa _ _ _ _ _ _ ab _ ac
       have ad : aa 252 = undef := ac 15 rfl 252 rfl
       refine r_pick_t (c := ((x2925.Args.length : Int) != a0.Int_)) (bv true) (ac 6 rfl 243 rfl) ax rfl rfl rfl rfl ?_
       exact d0 ⟨rfl, ab⟩
      ·intro _ _ _ _ _ _ _ _ aa _ ab
       refine r_move (bv true) (ab 16 rfl 253 rfl) rfl ?_
       exact d0 ⟨rfl, aa⟩
      ·intro _ _ _ _ _ _ _ _ aa _ ab
       exact gd0 rfl (ab 17 rfl 254 rfl) rfl ⟨rfl, aa⟩
      ·intro _ aa _ _ _ _ _ _ ab _ ac
       have ad : aa 255 = undef := ac 18 rfl 255 rfl
       exact gd0 rfl (ac 17 rfl 254 rfl) rfl ⟨rfl, ab⟩
      ·intro _ aa _ _ _ _ _ _ ab _ ac
       have ad : aa 256 = undef := ac 19 rfl 256 rfl
       exact gd0 rfl (ac 17 rfl 254 rfl) rfl ⟨rfl, ab⟩
      ·intro _ _ _ _ _ _ _ _ aa _ ab
       exact gdu rfl (ab 20 rfl 257 rfl) ⟨rfl, aa⟩
      ·intro _ aa _ _ _ _ _ _ ab _ ac
       have ad : aa 258 = undef := ac 21 rfl 258 rfl
       exact gdu rfl (ac 20 rfl 257 rfl) ⟨rfl, ab⟩
      ·intro _ _ _ _ _ _ _ _ aa _ ab
       exact gdu rfl (ab 20 rfl 257 rfl) ⟨rfl, aa⟩
      ·intro _ aa _ _ _ _ _ _ ab _ ac
       have ad : aa 260 = undef := ac 23 rfl 260 rfl
       exact gdu rfl (ac 20 rfl 257 rfl) ⟨rfl, ab⟩
      ·intro _ aa _ _ _ _ _ _ ab _ ac
       have ad : aa 259 = undef := ac 22 rfl 259 rfl
       have af : aa 261 = undef := ac 24 rfl 261 rfl
       exact gdu rfl (ac 20 rfl 257 rfl) ⟨rfl, ab⟩
      ·intro _ aa _ _ _ _ _ _ ab _ ac
       have ad : aa 262 = undef := ac 25 rfl 262 rfl
       exact gdu rfl (ac 20 rfl 257 rfl) ⟨rfl, ab⟩
      ·intro _ _ _ _ _ _ _ _ aa _ ab
       exact gdu rfl (ab 20 rfl 257 rfl) ⟨rfl, aa⟩
      ·intro _ aa _ _ _ _ _ _ ab _ ac
       have ad : aa 263 = undef := ac 26 rfl 263 rfl
       have af : aa 264 = undef := ac 27 rfl 264 rfl
       exact gdu rfl (ac 20 rfl 257 rfl) ⟨rfl, ab⟩
      ·intro _ aa _ _ _ _ _ _ ab _ ac
       have ad : aa 265 = undef := ac 28 rfl 265 rfl
       exact gdu rfl (ac 20 rfl 257 rfl) ⟨rfl, ab⟩
      ·intro _ aa _ _ _ _ _ _ ab _ ac
       have ad : aa 257 = undef := ac 20 rfl 257 rfl
       have af : aa 266 = undef := ac 29 rfl 266 rfl
       exact gd0 rfl (ac 17 rfl 254 rfl) rfl ⟨rfl, ab⟩
      ·intro _ aa _ _ _ _ _ _ ab _ ac
       have ad : aa 267 = undef := ac 30 rfl 267 rfl
       refine r_pick_t (c := true) (bv true) (ac 17 rfl 254 rfl) rfl rfl rfl rfl rfl ?_
       exact d0 ⟨rfl, ab⟩
      intro _ _ hJ _ hK _ hL
      have hM := bx.trans hJ
      obtain ⟨_, _⟩ := hK
      refine j1 ?_
      refine c_true (hL 31 268 rfl) rfl rfl ?_
      refine j2 (j3 ?_)
      refine r_assign (bv false) rfl rfl ?_
      refine j0 (j1 (jb (j7 (j9 ?_))))
      obtain rfl := oi hf
      exact ⟨rfl, _, _, (bv false), rfl, rfl, hM, ⟨rfl, rfl⟩, (RpV.mkBool _ _)⟩
     refine if_else hf (fun ay hf => ?_) (fun ay hf => ?_)
     ·obtain ⟨au, dN, hf⟩ := bind_some hf
      refine if_else hf (fun aX hf => ?_) (fun aX hf => ?_)
      ·refine wp_draw (B := frExt s0.N) (sm 237 32) [[], [0], [0, 1], [], [3], rg 5, rg 6, rg 7, rg 8, rg 9, rg 10, rg 11, rg 10, rg 13, rg 14, rg 15, rg 16, rg 17, rg 18, rg 19, rg 20, rg 21, rg 22, rg 21, (rg 21 ++ [23]), rg 25, rg 26, rg 21, rg 28, rg 29, rg 30, rg 31] [Fct.eqv (.pointer (some ⟨aj, 0, none⟩)), Fct.eqv (lv av x2925.Args.length aw), Fct.eqv (iv (x2925.Args.length : Int)), Fct.eqv (.pointer (some ⟨ae, 1, none⟩)), Fct.eqv (iv a0.Int_), Fct.eqv (bv ((x2925.Args.length : Int) != a0.Int_)), Fct.eqv (bv ((x2925.Args.length : Int) != a0.Int_)), Fct.eqv (.pointer (some ⟨aj, 1, none⟩)), Fct.eqv (bv x2925.Fails), Fct.eqv (bv x2925.Fails), Fct.eqv (.pointer (some ⟨aj, 2, none⟩)), Fct.data (x2925.Result : Val), Fct.data ((Val.mk 0 0 (⟨#[]⟩) ([] : List Val) ([] : List Key) ([] : List Ent) ([] : List ByteArray)) : Val), Fct.eqv (bv au), Fct.eqv (bv (!au)), Fct.eqv (bv (!au)), Fct.eqv (bv (!au)), Fct.eqv (bv (!au)), Fct.eqv undef, Fct.eqv undef, Fct.eqv undef, Fct.eqv undef, Fct.eqv undef, Fct.eqv undef, Fct.eqv undef, Fct.eqv undef, Fct.eqv undef, Fct.eqv undef, Fct.eqv undef, Fct.eqv undef, Fct.eqv undef, Fct.eqv (bv true)] (fun D F τ => (Blk s0.N 1 τ ae 27 (Val.cs a0 A1 c2 A4 c5 A7 c8 ak al)) ∧ (Blk s0.N 2 τ aj 65 [lv av x2925.Args.length aw, bv x2925.Fails, iv x2925.Result.Kind, iv x2925.Result.Int_, tv x2925.Result.Text, lv aI x2925.Result.Kids.length aJ, lv aK x2925.Result.Keys.length aL, lv aM x2925.Result.Entries.length aN, lv aO x2925.Result.Labels.length aP])) (by kernel_rfl) rfl (by decide) (by decide) ⟨(((bV.ext aq).mod ar rfl).ext (ext_draw _)), (cq.ext (ext_draw _))⟩ (by decide) (by decide) ⟨?_, ?_, ?_, ?_, ?_, ?_, ?_, ?_, ?_, ?_, ?_, ?_, ?_, ?_, ?_, ?_, ?_, ?_, ?_, ?_, ?_, ?_, ?_, ?_, ?_, ?_, ?_, ?_, ?_, ?_, ?_, ?_, trivial⟩ ?_
       ·intro _ _ _ _ _ _ _ _ aa ab _
        obtain ⟨_, _⟩ := id aa
        refine r_fieldAddr aj 0 0 0 ((ab 9 rfl).trans rfl) rfl fo65_0 rfl ?_
        exact d0 ⟨rfl, aa⟩
       ·intro _ _ _ _ _ _ _ _ aa _ ab
        obtain ⟨_, ac⟩ := id aa
        have ad := ac
        refine r_load aj 0 (lv av x2925.Args.length aw) (ab 0 rfl 237 rfl) rfl (loads_one to22 ((ad.cell 0).trans rfl)) ?_
        exact d0 ⟨rfl, aa⟩
       ·intro _ _ _ _ _ _ _ _ aa _ ab
        refine r_len av x2925.Args.length aw (ab 1 rfl 238 rfl) rfl underlying22 ?_
        exact d0 ⟨rfl, aa⟩
       ·intro _ _ _ _ _ _ _ _ aa ab _
        obtain ⟨_, _⟩ := id aa
        refine r_fieldAddr ae 0 1 1 ((ab 1 rfl).trans bJ) rfl fo27_1 rfl ?_
        exact d0 ⟨rfl, aa⟩
       ·intro _ _ _ _ _ _ _ _ aa _ ab
        obtain ⟨ac, _⟩ := id aa
        have ad := ac
        refine r_load ae 1 (iv a0.Int_) (ab 3 rfl 240 rfl) rfl (loads_one to2 ((ad.cell 1).trans rfl)) ?_
        exact d0 ⟨rfl, aa⟩
       ·intro _ _ _ _ _ _ _ _ aa _ ab
        refine r_bin (iv (x2925.Args.length : Int)) (iv a0.Int_) (bv ((x2925.Args.length : Int) != a0.Int_)) (ab 2 rfl 239 rfl) (ab 4 rfl 241 rfl) rfl rfl (b_neq) ?_
        exact d0 ⟨rfl, aa⟩
       ·intro _ _ _ _ _ _ _ _ aa _ ab
        refine r_move (bv ((x2925.Args.length : Int) != a0.Int_)) (ab 5 rfl 242 rfl) rfl ?_
        exact d0 ⟨rfl, aa⟩
       ·intro _ _ _ _ _ _ _ _ aa ab ac
        obtain ⟨_, _⟩ := id aa
        refine gd1 rfl (ac 6 rfl 243 rfl) ax ?_
        refine r_fieldAddr aj 0 1 1 ((ab 9 rfl).trans rfl) rfl fo65_1 rfl ?_
        exact d0 ⟨rfl, aa⟩
       ·intro _ _ _ _ _ _ _ _ aa _ ab
        obtain ⟨_, ac⟩ := id aa
        have ad := ac
        refine gd1 rfl (ab 6 rfl 243 rfl) ax ?_
        refine r_load aj 1 (bv x2925.Fails) (ab 7 rfl 244 rfl) rfl (loads_one to4 ((ad.cell 1).trans rfl)) ?_
        exact d0 ⟨rfl, aa⟩
       ·intro _ _ _ _ _ _ _ _ aa _ ab
        refine gd1 rfl (ab 6 rfl 243 rfl) ax ?_
        refine r_move (bv x2925.Fails) (ab 8 rfl 245 rfl) rfl ?_
        exact d0 ⟨rfl, aa⟩
       ·intro _ _ _ _ _ _ _ _ aa ab ac
        obtain ⟨_, _⟩ := id aa
        refine gd1 rfl (ac 9 rfl 246 rfl) ay ?_
        refine r_fieldAddr aj 0 2 2 ((ab 9 rfl).trans rfl) rfl fo65_2 rfl ?_
        exact d0 ⟨rfl, aa⟩
       ·intro _ _ _ _ _ _ _ aa ab _ ac
        obtain ⟨_, ad⟩ := id ab
        have af := ad
        refine gd1 rfl (ac 9 rfl 246 rfl) ay ?_
        refine r_load aj 2 (Val.ag x2925.Result aI aJ aK aL aM aN aO aP) (ac 10 rfl 247 rfl) rfl (loads_row tr27 (Blk.range af 2 (Val.cs x2925.Result aI aJ aK aL aM aN aO aP) rfl)) ?_
        exact d0 ⟨(Val.rpvMk (v := x2925.Result) (((cz.mono aq.wext).mono ar.wext).mono aa) (((cA.mono aq.wext).mono ar.wext).mono aa) (((cB.mono aq.wext).mono ar.wext).mono aa) (((cC.mono aq.wext).mono ar.wext).mono aa)), ab⟩
       ·intro _ _ _ _ _ _ _ _ aa _ ab
        refine gd1 rfl (ab 9 rfl 246 rfl) ay ?_
        refine r_build tst27 [] [iv 0, iv 0, tv (⟨#[]⟩), nl Val, nl Key, nl Ent, nl ByteArray] eps_nil rfl rfl ?_
        exact d0 ⟨(Val.rpvMk (v := (Val.mk 0 0 (⟨#[]⟩) ([] : List Val) ([] : List Key) ([] : List Ent) ([] : List ByteArray))) (Sl.nil_ _ _ _ (Nat.zero_le _)) (Sl.nil_ _ _ _ (Nat.zero_le _)) (Sl.nil_ _ _ _ (Nat.zero_le _)) (Sl.nil_ _ _ _ (Nat.zero_le _))), aa⟩
       ·intro _ aa ab _ _ _ ac _ ad _ af
        have ah := bx.trans ac
        obtain ⟨ai, am⟩ := id ad
        have an : RpV ab (x2925.Result : Val) (aa 248) := af 11 rfl 248 rfl
        obtain ⟨aA, aE, aW, a1, bb, bc, bd, be, bf, bg, bh, bi, bj⟩ := Val.rpv an
        have bk : RpV ab ((Val.mk 0 0 (⟨#[]⟩) ([] : List Val) ([] : List Key) ([] : List Ent) ([] : List ByteArray)) : Val) (aa 249) := af 12 rfl 249 rfl
        obtain ⟨bl, bW, bX, bY, bZ, b0, b1, b2, b3, b4, b5, b6, b7⟩ := Val.rpv bk
        refine gd1 rfl (af 9 rfl 246 rfl) ay ?_
        refine r_call [Val.ag x2925.Result aA aE aW a1 bb bc bd be, .agg #[iv 0, iv 0, tv (⟨#[]⟩), lv bl ((Val.mk 0 0 (⟨#[]⟩) ([] : List Val) ([] : List Key) ([] : List Ent) ([] : List ByteArray)).Kids).length bW, lv bX ((Val.mk 0 0 (⟨#[]⟩) ([] : List Val) ([] : List Key) ([] : List Ent) ([] : List ByteArray)).Keys).length bY, lv bZ ((Val.mk 0 0 (⟨#[]⟩) ([] : List Val) ([] : List Key) ([] : List Ent) ([] : List ByteArray)).Entries).length b0, lv b1 ((Val.mk 0 0 (⟨#[]⟩) ([] : List Val) ([] : List Key) ([] : List Ent) ([] : List ByteArray)).Labels).length b2]] (evs2 bf b3) rfl ((ok_semtyperef1_Equal fuel) _ _ _ _ _ _ (Val.rpvMk (v := x2925.Result) bg bh bi bj) (Val.rpvMk (v := (Val.mk 0 0 (⟨#[]⟩) ([] : List Val) ([] : List Key) ([] : List Ent) ([] : List ByteArray))) b4 b5 b6 b7) dN) ?_
        intro _ _ a2 b8
        obtain rfl := RpV.bool b8
        exact d1 ah (Nat.le_refl _) a2 ⟨rfl, ⟨(ai.ext a2), (am.ext a2)⟩⟩
       ·intro _ _ _ _ _ _ _ _ aa _ ab
        refine gd1 rfl (ab 9 rfl 246 rfl) ay ?_
        refine r_un (bv au) (bv (!au)) (ab 13 rfl 250 rfl) rfl u_not ?_
        exact d0 ⟨rfl, aa⟩
       ·intro _ _ _ _ _ _ _ _ aa _ ab
        refine gd1 rfl (ab 6 rfl 243 rfl) ax ?_
        refine r_pick_t (c := x2925.Fails) (bv (!au)) (ab 9 rfl 246 rfl) ay (ab 14 rfl 251 rfl) rfl rfl rfl ?_
        exact d0 ⟨rfl, aa⟩
       ·intro _ _ _ _ _ _ _ _ aa _ ab
        refine r_pick_f (c := ((x2925.Args.length : Int) != a0.Int_)) (bv (!au)) (ab 6 rfl 243 rfl) ax (ab 15 rfl 252 rfl) rfl rfl rfl ?_
        exact d0 ⟨rfl, aa⟩
       ·intro _ _ _ _ _ _ _ _ aa _ ab
        refine r_move (bv (!au)) (ab 16 rfl 253 rfl) rfl ?_
        exact d0 ⟨rfl, aa⟩
       ·intro _ _ _ _ _ _ _ _ aa _ ab
        exact gd0 rfl (ab 17 rfl 254 rfl) aX ⟨rfl, aa⟩
       ·intro _ aa _ _ _ _ _ _ ab _ ac
        have ad : aa 255 = undef := ac 18 rfl 255 rfl
        exact gd0 rfl (ac 17 rfl 254 rfl) aX ⟨rfl, ab⟩
       ·intro _ aa _ _ _ _ _ _ ab _ ac
        have ad : aa 256 = undef := ac 19 rfl 256 rfl
        exact gd0 rfl (ac 17 rfl 254 rfl) aX ⟨rfl, ab⟩
       ·intro _ _ _ _ _ _ _ _ aa _ ab
        exact gdu rfl (ab 20 rfl 257 rfl) ⟨rfl, aa⟩
       ·intro _ aa _ _ _ _ _ _ ab _ ac
        have ad : aa 258 = undef := ac 21 rfl 258 rfl
        exact gdu rfl (ac 20 rfl 257 rfl) ⟨rfl, ab⟩
       ·intro _ _ _ _ _ _ _ _ aa _ ab
        exact gdu rfl (ab 20 rfl 257 rfl) ⟨rfl, aa⟩
       ·intro _ aa _ _ _ _ _ _ ab _ ac
        have ad : aa 260 = undef := ac 23 rfl 260 rfl
        exact gdu rfl (ac 20 rfl 257 rfl) ⟨rfl, ab⟩
       ·intro _ aa _ _ _ _ _ _ ab _ ac
        have ad : aa 259 = undef := ac 22 rfl 259 rfl
        have af : aa 261 = undef := ac 24 rfl 261 rfl
        exact gdu rfl (ac 20 rfl 257 rfl) ⟨rfl, ab⟩
       ·intro _ aa _ _ _ _ _ _ ab _ ac
        have ad : aa 262 = undef := ac 25 rfl 262 rfl
        exact gdu rfl (ac 20 rfl 257 rfl) ⟨rfl, ab⟩
       ·intro _ _ _ _ _ _ _ _ aa _ ab
        exact gdu rfl (ab 20 rfl 257 rfl) ⟨rfl, aa⟩
       ·intro _ aa _ _ _ _ _ _ ab _ ac
        have ad : aa 263 = undef := ac 26 rfl 263 rfl
        have af : aa 264 = undef := ac 27 rfl 264 rfl
        exact gdu rfl (ac 20 rfl 257 rfl) ⟨rfl, ab⟩
       ·intro _ aa _ _ _ _ _ _ ab _ ac
        have ad : aa 265 = undef := ac 28 rfl 265 rfl
        exact gdu rfl (ac 20 rfl 257 rfl) ⟨rfl, ab⟩
       ·intro _ aa _ _ _ _ _ _ ab _ ac
        have ad : aa 257 = undef := ac 20 rfl 257 rfl
        have af : aa 266 = undef := ac 29 rfl 266 rfl
        exact gd0 rfl (ac 17 rfl 254 rfl) aX ⟨rfl, ab⟩
       ·intro _ aa _ _ _ _ _ _ ab _ ac
        have ad : aa 267 = undef := ac 30 rfl 267 rfl
        refine r_pick_t (c := !au) (bv true) (ac 17 rfl 254 rfl) aX rfl rfl rfl rfl ?_
        exact d0 ⟨rfl, ab⟩
       intro _ _ hN _ hO _ hP
       have hQ := bx.trans hN
       obtain ⟨_, _⟩ := hO
       refine j1 ?_
       refine c_true (hP 31 268 rfl) rfl rfl ?_
       refine j2 (j3 ?_)
       refine r_assign (bv false) rfl rfl ?_
       refine j0 (j1 (jb (j7 (j9 ?_))))
       obtain rfl := oi hf
       exact ⟨rfl, _, _, (bv false), rfl, rfl, hQ, ⟨rfl, rfl⟩, (RpV.mkBool _ _)⟩
      refine if_else hf (fun aF hf => ?_) (fun aF hf => ?_)
      ·obtain ⟨x4043, hR, hf⟩ := bind_some hf
       obtain ⟨b9, hS, hf⟩ := bind_some hf
       refine wp_draw (B := frExt s0.N) (sm 237 32) [[], [0], [0, 1], [], [3], rg 5, rg 6, rg 7, rg 8, rg 9, rg 10, rg 11, rg 10, rg 13, rg 14, rg 15, rg 16, rg 17, rg 18, rg 19, rg 20, rg 21, rg 22, rg 21, (rg 21 ++ [23]), rg 25, rg 26, rg 21, rg 28, rg 29, rg 30, rg 31] [Fct.eqv (.pointer (some ⟨aj, 0, none⟩)), Fct.eqv (lv av x2925.Args.length aw), Fct.eqv (iv (x2925.Args.length : Int)), Fct.eqv (.pointer (some ⟨ae, 1, none⟩)), Fct.eqv (iv a0.Int_), Fct.eqv (bv ((x2925.Args.length : Int) != a0.Int_)), Fct.eqv (bv ((x2925.Args.length : Int) != a0.Int_)), Fct.eqv (.pointer (some ⟨aj, 1, none⟩)), Fct.eqv (bv x2925.Fails), Fct.eqv (bv x2925.Fails), Fct.eqv (.pointer (some ⟨aj, 2, none⟩)), Fct.data (x2925.Result : Val), Fct.data ((Val.mk 0 0 (⟨#[]⟩) ([] : List Val) ([] : List Key) ([] : List Ent) ([] : List ByteArray)) : Val), Fct.eqv (bv au), Fct.eqv (bv (!au)), Fct.eqv (bv (!au)), Fct.eqv (bv (!au)), Fct.eqv (bv (!au)), Fct.eqv (iv ag), Fct.eqv (bv (decide (0 < ag))), Fct.eqv (bv (decide (0 < ag))), Fct.eqv (.pointer (some ⟨ae, 5, none⟩)), Fct.eqv (lv A7 a0.Entries.length c8), Fct.eqv (iv ag), Fct.eqv (iv (w64 (ag - 1))), Fct.elem (x4043 : Ent), Fct.data (x4043 : Ent), Fct.data (x2925 : Ent), Fct.eqv (iv b9), Fct.eqv (bv (decide (0 ≤ b9))), Fct.eqv (bv (decide (0 ≤ b9))), Fct.eqv (bv (decide (0 ≤ b9)))] (fun D F τ => (Blk s0.N 1 τ ae 27 (Val.cs a0 A1 c2 A4 c5 A7 c8 ak al)) ∧ (Blk s0.N 2 τ aj 65 [lv av x2925.Args.length aw, bv x2925.Fails, iv x2925.Result.Kind, iv x2925.Result.Int_, tv x2925.Result.Text, lv aI x2925.Result.Kids.length aJ, lv aK x2925.Result.Keys.length aL, lv aM x2925.Result.Entries.length aN, lv aO x2925.Result.Labels.length aP])) (by kernel_rfl) rfl (by decide) (by decide) ⟨(((bV.ext aq).mod ar rfl).ext (ext_draw _)), (cq.ext (ext_draw _))⟩ (by decide) (by decide) ⟨?_, ?_, ?_, ?_, ?_, ?_, ?_, ?_, ?_, ?_, ?_, ?_, ?_, ?_, ?_, ?_, ?_, ?_, ?_, ?_, ?_, ?_, ?_, ?_, ?_, ?_, ?_, ?_, ?_, ?_, ?_, ?_, trivial⟩ ?_
       ·intro _ _ _ _ _ _ _ _ aa ab _
        obtain ⟨_, _⟩ := id aa
        refine r_fieldAddr aj 0 0 0 ((ab 9 rfl).trans rfl) rfl fo65_0 rfl ?_
        exact d0 ⟨rfl, aa⟩
       ·intro _ _ _ _ _ _ _ _ aa _ ab
        obtain ⟨_, ac⟩ := id aa
        have ad := ac
        refine r_load aj 0 (lv av x2925.Args.length aw) (ab 0 rfl 237 rfl) rfl (loads_one to22 ((ad.cell 0).trans rfl)) ?_
        exact d0 ⟨rfl, aa⟩
       ·intro _ _ _ _ _ _ _ _ aa _ ab
        refine r_len av x2925.Args.length aw (ab 1 rfl 238 rfl) rfl underlying22 ?_
        exact d0 ⟨rfl, aa⟩
       ·intro _ _ _ _ _ _ _ _ aa ab _
        obtain ⟨_, _⟩ := id aa
        refine r_fieldAddr ae 0 1 1 ((ab 1 rfl).trans bJ) rfl fo27_1 rfl ?_
        exact d0 ⟨rfl, aa⟩
       ·intro _ _ _ _ _ _ _ _ aa _ ab
        obtain ⟨ac, _⟩ := id aa
        have ad := ac
        refine r_load ae 1 (iv a0.Int_) (ab 3 rfl 240 rfl) rfl (loads_one to2 ((ad.cell 1).trans rfl)) ?_
        exact d0 ⟨rfl, aa⟩
       ·intro _ _ _ _ _ _ _ _ aa _ ab
        refine r_bin (iv (x2925.Args.length : Int)) (iv a0.Int_) (bv ((x2925.Args.length : Int) != a0.Int_)) (ab 2 rfl 239 rfl) (ab 4 rfl 241 rfl) rfl rfl (b_neq) ?_
        exact d0 ⟨rfl, aa⟩
       ·intro _ _ _ _ _ _ _ _ aa _ ab
        refine r_move (bv ((x2925.Args.length : Int) != a0.Int_)) (ab 5 rfl 242 rfl) rfl ?_
        exact d0 ⟨rfl, aa⟩
       ·intro _ _ _ _ _ _ _ _ aa ab ac
        obtain ⟨_, _⟩ := id aa
        refine gd1 rfl (ac 6 rfl 243 rfl) ax ?_
        refine r_fieldAddr aj 0 1 1 ((ab 9 rfl).trans rfl) rfl fo65_1 rfl ?_
        exact d0 ⟨rfl, aa⟩
       ·intro _ _ _ _ _ _ _ _ aa _ ab
        obtain ⟨_, ac⟩ := id aa
        have ad := ac
        refine gd1 rfl (ab 6 rfl 243 rfl) ax ?_
        refine r_load aj 1 (bv x2925.Fails) (ab 7 rfl 244 rfl) rfl (loads_one to4 ((ad.cell 1).trans rfl)) ?_
        exact d0 ⟨rfl, aa⟩
       ·intro _ _ _ _ _ _ _ _ aa _ ab
        refine gd1 rfl (ab 6 rfl 243 rfl) ax ?_
        refine r_move (bv x2925.Fails) (ab 8 rfl 245 rfl) rfl ?_
        exact d0 ⟨rfl, aa⟩
       ·intro _ _ _ _ _ _ _ _ aa ab ac
        obtain ⟨_, _⟩ := id aa
        refine gd1 rfl (ac 9 rfl 246 rfl) ay ?_
        refine r_fieldAddr aj 0 2 2 ((ab 9 rfl).trans rfl) rfl fo65_2 rfl ?_
        exact d0 ⟨rfl, aa⟩
       ·intro _ _ _ _ _ _ _ aa ab _ ac
        obtain ⟨_, ad⟩ := id ab
        have af := ad
        refine gd1 rfl (ac 9 rfl 246 rfl) ay ?_
        refine r_load aj 2 (Val.ag x2925.Result aI aJ aK aL aM aN aO aP) (ac 10 rfl 247 rfl) rfl (loads_row tr27 (Blk.range af 2 (Val.cs x2925.Result aI aJ aK aL aM aN aO aP) rfl)) ?_
        exact d0 ⟨(Val.rpvMk (v := x2925.Result) (((cz.mono aq.wext).mono ar.wext).mono aa) (((cA.mono aq.wext).mono ar.wext).mono aa) (((cB.mono aq.wext).mono ar.wext).mono aa) (((cC.mono aq.wext).mono ar.wext).mono aa)), ab⟩
       ·intro _ _ _ _ _ _ _ _ aa _ ab
        refine gd1 rfl (ab 9 rfl 246 rfl) ay ?_
        refine r_build tst27 [] [iv 0, iv 0, tv (⟨#[]⟩), nl Val, nl Key, nl Ent, nl ByteArray] eps_nil rfl rfl ?_
        exact d0 ⟨(Val.rpvMk (v := (Val.mk 0 0 (⟨#[]⟩) ([] : List Val) ([] : List Key) ([] : List Ent) ([] : List ByteArray))) (Sl.nil_ _ _ _ (Nat.zero_le _)) (Sl.nil_ _ _ _ (Nat.zero_le _)) (Sl.nil_ _ _ _ (Nat.zero_le _)) (Sl.nil_ _ _ _ (Nat.zero_le _))), aa⟩
       ·intro _ aa ab _ _ _ ac _ ad _ af
        have ah := bx.trans ac
        obtain ⟨ai, am⟩ := id ad
        have an : RpV ab (x2925.Result : Val) (aa 248) := af 11 rfl 248 rfl
        obtain ⟨aA, aE, aW, a1, bb, bc, bd, be, bf, bg, bh, bi, bj⟩ := Val.rpv an
        have bk : RpV ab ((Val.mk 0 0 (⟨#[]⟩) ([] : List Val) ([] : List Key) ([] : List Ent) ([] : List ByteArray)) : Val) (aa 249) := af 12 rfl 249 rfl
        obtain ⟨bl, bW, bX, bY, bZ, b0, b1, b2, b3, b4, b5, b6, b7⟩ := Val.rpv bk
        refine gd1 rfl (af 9 rfl 246 rfl) ay ?_
        refine r_call [Val.ag x2925.Result aA aE aW a1 bb bc bd be, .agg #[iv 0, iv 0, tv (⟨#[]⟩), lv bl ((Val.mk 0 0 (⟨#[]⟩) ([] : List Val) ([] : List Key) ([] : List Ent) ([] : List ByteArray)).Kids).length bW, lv bX ((Val.mk 0 0 (⟨#[]⟩) ([] : List Val) ([] : List Key) ([] : List Ent) ([] : List ByteArray)).Keys).length bY, lv bZ ((Val.mk 0 0 (⟨#[]⟩) ([] : List Val) ([] : List Key) ([] : List Ent) ([] : List ByteArray)).Entries).length b0, lv b1 ((Val.mk 0 0 (⟨#[]⟩) ([] : List Val) ([] : List Key) ([] : List Ent) ([] : List ByteArray)).Labels).length b2]] (evs2 bf b3) rfl ((ok_semtyperef1_Equal fuel) _ _ _ _ _ _ (Val.rpvMk (v := x2925.Result) bg bh bi bj) (Val.rpvMk (v := (Val.mk 0 0 (⟨#[]⟩) ([] : List Val) ([] : List Key) ([] : List Ent) ([] : List ByteArray))) b4 b5 b6 b7) dN) ?_
        intro _ _ a2 b8
        obtain rfl := RpV.bool b8
        exact d1 ah (Nat.le_refl _) a2 ⟨rfl, ⟨(ai.ext a2), (am.ext a2)⟩⟩
       ·intro _ _ _ _ _ _ _ _ aa _ ab
        refine gd1 rfl (ab 9 rfl 246 rfl) ay ?_
        refine r_un (bv au) (bv (!au)) (ab 13 rfl 250 rfl) rfl u_not ?_
        exact d0 ⟨rfl, aa⟩
       ·intro _ _ _ _ _ _ _ _ aa _ ab
        refine gd1 rfl (ab 6 rfl 243 rfl) ax ?_
        refine r_pick_t (c := x2925.Fails) (bv (!au)) (ab 9 rfl 246 rfl) ay (ab 14 rfl 251 rfl) rfl rfl rfl ?_
        exact d0 ⟨rfl, aa⟩
       ·intro _ _ _ _ _ _ _ _ aa _ ab
        refine r_pick_f (c := ((x2925.Args.length : Int) != a0.Int_)) (bv (!au)) (ab 6 rfl 243 rfl) ax (ab 15 rfl 252 rfl) rfl rfl rfl ?_
        exact d0 ⟨rfl, aa⟩
       ·intro _ _ _ _ _ _ _ _ aa _ ab
        refine r_move (bv (!au)) (ab 16 rfl 253 rfl) rfl ?_
        exact d0 ⟨rfl, aa⟩
       ·intro _ _ _ _ _ _ _ _ aa ab ac
        refine gd1 rfl (ac 17 rfl 254 rfl) aX ?_
        refine r_move (iv ag) ((ab 8 rfl).trans ba) rfl ?_
        exact d0 ⟨rfl, aa⟩
       ·intro _ _ _ _ _ _ _ _ aa _ ab
        refine gd1 rfl (ab 17 rfl 254 rfl) aX ?_
        refine r_bin (iv ag) (iv 0) (bv (decide (0 < ag))) (ab 18 rfl 255 rfl) rfl rfl rfl (b_gtr) ?_
        exact d0 ⟨rfl, aa⟩
       ·intro _ _ _ _ _ _ _ _ aa _ ab
        refine gd1 rfl (ab 17 rfl 254 rfl) aX ?_
        refine r_move (bv (decide (0 < ag))) (ab 19 rfl 256 rfl) rfl ?_
        exact d0 ⟨rfl, aa⟩
       ·intro _ _ _ _ _ _ _ _ aa ab ac
        obtain ⟨_, _⟩ := id aa
        refine gd1 rfl (ac 20 rfl 257 rfl) aF ?_
        refine r_fieldAddr ae 0 5 5 ((ab 1 rfl).trans bJ) rfl fo27_5 rfl ?_
        exact d0 ⟨rfl, aa⟩
       ·intro _ _ _ _ _ _ _ _ aa _ ab
        obtain ⟨ac, _⟩ := id aa
        have ad := ac
        refine gd1 rfl (ab 20 rfl 257 rfl) aF ?_
        refine r_load ae 5 (lv A7 a0.Entries.length c8) (ab 21 rfl 258 rfl) rfl (loads_one to24 ((ad.cell 5).trans rfl)) ?_
        exact d0 ⟨rfl, aa⟩
       ·intro _ _ _ _ _ _ _ _ aa ab ac
        refine gd1 rfl (ac 20 rfl 257 rfl) aF ?_
        refine r_move (iv ag) ((ab 8 rfl).trans ba) rfl ?_
        exact d0 ⟨rfl, aa⟩
       ·intro _ _ _ _ _ _ _ _ aa _ ab
        refine gd1 rfl (ab 20 rfl 257 rfl) aF ?_
        refine r_bin (iv ag) (iv 1) (iv (w64 (ag - 1))) (ab 23 rfl 260 rfl) rfl rfl rfl (b_sub) ?_
        exact d0 ⟨rfl, aa⟩
       ·intro _ _ _ _ _ _ _ aa ab _ ac
        refine gd1 rfl (ac 20 rfl 257 rfl) aF ?_
        refine r_indexAddr (T := 24) (E := 65) ((((((((((h9.mono aQ.wext).mono bz).mono bB).mono bC).mono bE).mono bI).mono ci).mono aq.wext).mono ar.wext).mono aa) hR (ac 22 rfl 259 rfl) (ac 24 rfl 261 rfl) rfl rfl underlying24 sz65 ?_
        intro _ _ _ ad af
        obtain ⟨_, _, _, _, _, _, _, _, _, _, rfl, ah, ai, am, an, aA⟩ := Ent.cells_iff.1 ad
        exact d0 ⟨⟨_, _, _, rfl, (Ent.cells_iff.2 ⟨_, _, _, _, _, _, _, _, _, _, rfl, ah, ai, am, an, aA⟩), af⟩, ab⟩
       ·intro _ aa ab _ _ _ _ _ ac _ ad
        obtain ⟨af, ah, _, ai, am, an⟩ : (Fct.elem (x4043 : Ent)).p (aa 262) ab := ad 25 rfl 262 rfl
        obtain ⟨aA, aE, aW, a1, bb, bc, bd, be, bf, bg, rfl, bh, bi, bj, bk, bl⟩ := Ent.cells_iff.1 am
        refine gd1 rfl (ad 20 rfl 257 rfl) aF ?_
        refine r_load af ah (.agg #[lv aA x4043.Args.length aE, bv x4043.Fails, iv x4043.Result.Kind, iv x4043.Result.Int_, tv x4043.Result.Text, lv aW x4043.Result.Kids.length a1, lv bb x4043.Result.Keys.length bc, lv bd x4043.Result.Entries.length be, lv bf x4043.Result.Labels.length bg]) ai rfl (loads_row tr65 an.2) ?_
        exact d0 ⟨(Ent.rpvMk (v := x4043) bh bi bj bk bl), ac⟩
       ·intro _ _ _ _ _ _ _ aa ab ac ad
        obtain ⟨_, af⟩ := id ab
        have ah := af
        refine gd1 rfl (ad 20 rfl 257 rfl) aF ?_
        refine r_load aj 0 (.agg #[lv av x2925.Args.length aw, bv x2925.Fails, iv x2925.Result.Kind, iv x2925.Result.Int_, tv x2925.Result.Text, lv aI x2925.Result.Kids.length aJ, lv aK x2925.Result.Keys.length aL, lv aM x2925.Result.Entries.length aN, lv aO x2925.Result.Labels.length aP]) ((ac 9 rfl).trans rfl) rfl (loads_row tr65 (Blk.range ah 0 [lv av x2925.Args.length aw, bv x2925.Fails, iv x2925.Result.Kind, iv x2925.Result.Int_, tv x2925.Result.Text, lv aI x2925.Result.Kids.length aJ, lv aK x2925.Result.Keys.length aL, lv aM x2925.Result.Entries.length aN, lv aO x2925.Result.Labels.length aP] rfl)) ?_
        exact d0 ⟨(Ent.rpvMk (v := x2925) (((eZ.mono aq.wext).mono ar.wext).mono aa) (((cz.mono aq.wext).mono ar.wext).mono aa) (((cA.mono aq.wext).mono ar.wext).mono aa) (((cB.mono aq.wext).mono ar.wext).mono aa) (((cC.mono aq.wext).mono ar.wext).mono aa)), ab⟩
       ·intro _ aa ab _ _ _ ac _ ad _ af
        have ah := bx.trans ac
        obtain ⟨ai, am⟩ := id ad
        have an : RpV ab (x4043 : Ent) (aa 263) := af 26 rfl 263 rfl
        obtain ⟨aA, aE, aW, a1, bb, bc, bd, be, bf, bg, bh, bi, bj, bk, bl, bW⟩ := Ent.rpv an
        have bX : RpV ab (x2925 : Ent) (aa 264) := af 27 rfl 264 rfl
        obtain ⟨bY, bZ, b0, b1, b2, b3, b4, b5, b6, b7, a2, b8, dO, dP, dQ, dR⟩ := Ent.rpv bX
        refine gd1 rfl (af 20 rfl 257 rfl) aF ?_
        refine r_call [.agg #[lv aA x4043.Args.length aE, bv x4043.Fails, iv x4043.Result.Kind, iv x4043.Result.Int_, tv x4043.Result.Text, lv aW x4043.Result.Kids.length a1, lv bb x4043.Result.Keys.length bc, lv bd x4043.Result.Entries.length be, lv bf x4043.Result.Labels.length bg], .agg #[lv bY x2925.Args.length bZ, bv x2925.Fails, iv x2925.Result.Kind, iv x2925.Result.Int_, tv x2925.Result.Text, lv b0 x2925.Result.Kids.length b1, lv b2 x2925.Result.Keys.length b3, lv b4 x2925.Result.Entries.length b5, lv b6 x2925.Result.Labels.length b7]] (evs2 bh a2) rfl ((ok_semtyperef1_CompareEntries fuel) _ _ _ _ _ _ (Ent.rpvMk (v := x4043) bi bj bk bl bW) (Ent.rpvMk (v := x2925) b8 dO dP dQ dR) hS) ?_
        intro _ _ ck dS
        obtain rfl := RpV.int dS
        exact d1 ah (Nat.le_refl _) ck ⟨rfl, ⟨(ai.ext ck), (am.ext ck)⟩⟩
       ·intro _ _ _ _ _ _ _ _ aa _ ab
        refine gd1 rfl (ab 20 rfl 257 rfl) aF ?_
        refine r_bin (iv b9) (iv 0) (bv (decide (0 ≤ b9))) (ab 28 rfl 265 rfl) rfl rfl rfl (b_geq) ?_
        exact d0 ⟨rfl, aa⟩
       ·intro _ _ _ _ _ _ _ _ aa _ ab
        refine gd1 rfl (ab 17 rfl 254 rfl) aX ?_
        refine r_pick_t (c := decide (0 < ag)) (bv (decide (0 ≤ b9))) (ab 20 rfl 257 rfl) aF (ab 29 rfl 266 rfl) rfl rfl rfl ?_
        exact d0 ⟨rfl, aa⟩
       ·intro _ _ _ _ _ _ _ _ aa _ ab
        refine r_pick_f (c := !au) (bv (decide (0 ≤ b9))) (ab 17 rfl 254 rfl) aX (ab 30 rfl 267 rfl) rfl rfl rfl ?_
        exact d0 ⟨rfl, aa⟩
       intro hT _ hU hV hW e0 hX
       have e1 := bx.trans hU
       obtain ⟨hY, _⟩ := hW
       have hZ := hY
       have h0 := (e0 8 rfl).trans ba
       have e2 : hT 268 = (bv (decide (0 ≤ b9))) := hX 31 268 rfl
       refine j1 ?_
       refine if_else hf (fun dT hf => ?_) (fun dT hf => ?_)
       ·refine c_true e2 dT rfl ?_
        refine j2 (j3 ?_)
        refine r_assign (bv false) rfl rfl ?_
        refine j0 (j1 (jb (j7 (j9 ?_))))
        obtain rfl := oi hf
        exact ⟨rfl, _, _, (bv false), rfl, rfl, e1, ⟨rfl, rfl⟩, (RpV.mkBool _ _)⟩
       refine c_false e2 dT rfl ?_
       refine ja (j5 (j1 (j3 ?_)))
       refine r_move (iv ag) h0 rfl ?_
       refine r_bin (iv ag) (iv 1) (iv (w64 (ag + 1))) rfl rfl rfl rfl (b_add) ?_
       refine r_assign (iv (w64 (ag + 1))) rfl rfl ?_
       refine j0 ?_
       obtain rfl := oi hf
       exact ⟨rfl, _, _, rfl, rfl, (((((((((((((((((cp).put rfl).put rfl).put rfl).put rfl).put rfl).put rfl).put rfl).put rfl).put rfl).put rfl).put rfl).put0).draw e0 rfl).put rfl).put rfl).put rfl), e1, (((((Wext.refl _).trans ci).trans aq.wext).trans ar.wext).trans hV), rfl, hZ⟩
      refine wp_draw (B := frExt s0.N) (sm 237 32) [[], [0], [0, 1], [], [3], rg 5, rg 6, rg 7, rg 8, rg 9, rg 10, rg 11, rg 10, rg 13, rg 14, rg 15, rg 16, rg 17, rg 18, rg 19, rg 20, rg 21, rg 22, rg 21, (rg 21 ++ [23]), rg 25, rg 26, rg 21, rg 28, rg 29, rg 30, rg 31] [Fct.eqv (.pointer (some ⟨aj, 0, none⟩)), Fct.eqv (lv av x2925.Args.length aw), Fct.eqv (iv (x2925.Args.length : Int)), Fct.eqv (.pointer (some ⟨ae, 1, none⟩)), Fct.eqv (iv a0.Int_), Fct.eqv (bv ((x2925.Args.length : Int) != a0.Int_)), Fct.eqv (bv ((x2925.Args.length : Int) != a0.Int_)), Fct.eqv (.pointer (some ⟨aj, 1, none⟩)), Fct.eqv (bv x2925.Fails), Fct.eqv (bv x2925.Fails), Fct.eqv (.pointer (some ⟨aj, 2, none⟩)), Fct.data (x2925.Result : Val), Fct.data ((Val.mk 0 0 (⟨#[]⟩) ([] : List Val) ([] : List Key) ([] : List Ent) ([] : List ByteArray)) : Val), Fct.eqv (bv au), Fct.eqv (bv (!au)), Fct.eqv (bv (!au)), Fct.eqv (bv (!au)), Fct.eqv (bv (!au)), Fct.eqv (iv ag), Fct.eqv (bv (decide (0 < ag))), Fct.eqv (bv (decide (0 < ag))), Fct.eqv undef, Fct.eqv undef, Fct.eqv undef, Fct.eqv undef, Fct.eqv undef, Fct.eqv undef, Fct.eqv undef, Fct.eqv undef, Fct.eqv undef, Fct.eqv (bv false), Fct.eqv (bv false)] (fun D F τ => (Blk s0.N 1 τ ae 27 (Val.cs a0 A1 c2 A4 c5 A7 c8 ak al)) ∧ (Blk s0.N 2 τ aj 65 [lv av x2925.Args.length aw, bv x2925.Fails, iv x2925.Result.Kind, iv x2925.Result.Int_, tv x2925.Result.Text, lv aI x2925.Result.Kids.length aJ, lv aK x2925.Result.Keys.length aL, lv aM x2925.Result.Entries.length aN, lv aO x2925.Result.Labels.length aP])) (by kernel_rfl) rfl (by decide) (by decide) ⟨(((bV.ext aq).mod ar rfl).ext (ext_draw _)), (cq.ext (ext_draw _))⟩ (by decide) (by decide) ⟨?_, ?_, ?_, ?_, ?_, ?_, ?_, ?_, ?_, ?_, ?_, ?_, ?_, ?_, ?_, ?_, ?_, ?_, ?_, ?_, ?_, ?_, ?_, ?_, ?_, ?_, ?_, ?_, ?_, ?_, ?_, ?_, trivial⟩ ?_
      ·intro _ _ _ _ _ _ _ _ aa ab _
       obtain ⟨_, _⟩ := id aa
       refine r_fieldAddr aj 0 0 0 ((ab 9 rfl).trans rfl) rfl fo65_0 rfl ?_
       exact d0 ⟨rfl, aa⟩
      ·intro _ _ _ _ _ _ _ _ aa _ ab
       obtain ⟨_, ac⟩ := id aa
       have ad := ac
       refine r_load aj 0 (lv av x2925.Args.length aw) (ab 0 rfl 237 rfl) rfl (loads_one to22 ((ad.cell 0).trans rfl)) ?_
       exact d0 ⟨rfl, aa⟩
      ·intro _ _ _ _ _ _ _ _ aa _ ab
       refine r_len av x2925.Args.length aw (ab 1 rfl 238 rfl) rfl underlying22 ?_
       exact d0 ⟨rfl, aa⟩
      ·intro _ _ _ _ _ _ _ _ aa ab _
       obtain ⟨_, _⟩ := id aa
       refine r_fieldAddr ae 0 1 1 ((ab 1 rfl).trans bJ) rfl fo27_1 rfl ?_
       exact d0 ⟨rfl, aa⟩
      ·intro _ _ _ _ _ _ _ _ aa _ ab
       obtain ⟨ac, _⟩ := id aa
       have ad := ac
       refine r_load ae 1 (iv a0.Int_) (ab 3 rfl 240 rfl) rfl (loads_one to2 ((ad.cell 1).trans rfl)) ?_
       exact d0 ⟨rfl, aa⟩
      ·intro _ _ _ _ _ _ _ _ aa _ ab
       refine r_bin (iv (x2925.Args.length : Int)) (iv a0.Int_) (bv ((x2925.Args.length : Int) != a0.Int_)) (ab 2 rfl 239 rfl) (ab 4 rfl 241 rfl) rfl rfl (b_neq) ?_
       exact d0 ⟨rfl, aa⟩
      ·intro _ _ _ _ _ _ _ _ aa _ ab
       refine r_move (bv ((x2925.Args.length : Int) != a0.Int_)) (ab 5 rfl 242 rfl) rfl ?_
       exact d0 ⟨rfl, aa⟩
      ·intro _ _ _ _ _ _ _ _ aa ab ac
       obtain ⟨_, _⟩ := id aa
       refine gd1 rfl (ac 6 rfl 243 rfl) ax ?_
       refine r_fieldAddr aj 0 1 1 ((ab 9 rfl).trans rfl) rfl fo65_1 rfl ?_
       exact d0 ⟨rfl, aa⟩
      ·intro _ _ _ _ _ _ _ _ aa _ ab
       obtain ⟨_, ac⟩ := id aa
       have ad := ac
       refine gd1 rfl (ab 6 rfl 243 rfl) ax ?_
       refine r_load aj 1 (bv x2925.Fails) (ab 7 rfl 244 rfl) rfl (loads_one to4 ((ad.cell 1).trans rfl)) ?_
       exact d0 ⟨rfl, aa⟩
      ·intro _ _ _ _ _ _ _ _ aa _ ab
       refine gd1 rfl (ab 6 rfl 243 rfl) ax ?_
       refine r_move (bv x2925.Fails) (ab 8 rfl 245 rfl) rfl ?_
       exact d0 ⟨rfl, aa⟩
      ·intro _ _ _ _ _ _ _ _ aa ab ac
       obtain ⟨_, _⟩ := id aa
       refine gd1 rfl (ac 9 rfl 246 rfl) ay ?_
       refine r_fieldAddr aj 0 2 2 ((ab 9 rfl).trans rfl) rfl fo65_2 rfl ?_
       exact d0 ⟨rfl, aa⟩
      ·intro _ _ _ _ _ _ _ aa ab _ ac
       obtain ⟨_, ad⟩ := id ab
       have af := ad
       refine gd1 rfl (ac 9 rfl 246 rfl) ay ?_
       refine r_load aj 2 (Val.ag x2925.Result aI aJ aK aL aM aN aO aP) (ac 10 rfl 247 rfl) rfl (loads_row tr27 (Blk.range af 2 (Val.cs x2925.Result aI aJ aK aL aM aN aO aP) rfl)) ?_
       exact d0 ⟨(Val.rpvMk (v := x2925.Result) (((cz.mono aq.wext).mono ar.wext).mono aa) (((cA.mono aq.wext).mono ar.wext).mono aa) (((cB.mono aq.wext).mono ar.wext).mono aa) (((cC.mono aq.wext).mono ar.wext).mono aa)), ab⟩
      ·intro _ _ _ _ _ _ _ _ aa _ ab
       refine gd1 rfl (ab 9 rfl 246 rfl) ay ?_
       refine r_build tst27 [] [iv 0, iv 0, tv (⟨#[]⟩), nl Val, nl Key, nl Ent, nl ByteArray] eps_nil rfl rfl ?_
       exact d0 ⟨(Val.rpvMk (v := (Val.mk 0 0 (⟨#[]⟩) ([] : List Val) ([] : List Key) ([] : List Ent) ([] : List ByteArray))) (Sl.nil_ _ _ _ (Nat.zero_le _)) (Sl.nil_ _ _ _ (Nat.zero_le _)) (Sl.nil_ _ _ _ (Nat.zero_le _)) (Sl.nil_ _ _ _ (Nat.zero_le _))), aa⟩
      ·intro _ aa ab _ _ _ ac _ ad _ af
       have ah := bx.trans ac
       obtain ⟨ai, am⟩ := id ad
       have an : RpV ab (x2925.Result : Val) (aa 248) := af 11 rfl 248 rfl
       obtain ⟨aA, aE, aW, a1, bb, bc, bd, be, bf, bg, bh, bi, bj⟩ := Val.rpv an
       have bk : RpV ab ((Val.mk 0 0 (⟨#[]⟩) ([] : List Val) ([] : List Key) ([] : List Ent) ([] : List ByteArray)) : Val) (aa 249) := af 12 rfl 249 rfl
       obtain ⟨bl, bW, bX, bY, bZ, b0, b1, b2, b3, b4, b5, b6, b7⟩ := Val.rpv bk
       refine gd1 rfl (af 9 rfl 246 rfl) ay ?_
       refine r_call [Val.ag x2925.Result aA aE aW a1 bb bc bd be, .agg #[iv 0, iv 0, tv (⟨#[]⟩), lv bl ((Val.mk 0 0 (⟨#[]⟩) ([] : List Val) ([] : List Key) ([] : List Ent) ([] : List ByteArray)).Kids).length bW, lv bX ((Val.mk 0 0 (⟨#[]⟩) ([] : List Val) ([] : List Key) ([] : List Ent) ([] : List ByteArray)).Keys).length bY, lv bZ ((Val.mk 0 0 (⟨#[]⟩) ([] : List Val) ([] : List Key) ([] : List Ent) ([] : List ByteArray)).Entries).length b0, lv b1 ((Val.mk 0 0 (⟨#[]⟩) ([] : List Val) ([] : List Key) ([] : List Ent) ([] : List ByteArray)).Labels).length b2]] (evs2 bf b3) rfl ((ok_semtyperef1_Equal fuel) _ _ _ _ _ _ (Val.rpvMk (v := x2925.Result) bg bh bi bj) (Val.rpvMk (v := (Val.mk 0 0 (⟨#[]⟩) ([] : List Val) ([] : List Key) ([] : List Ent) ([] : List ByteArray))) b4 b5 b6 b7) dN) ?_
       intro _ _ a2 b8
       obtain rfl := RpV.bool b8
       exact d1 ah (Nat.le_refl _) a2 ⟨rfl, ⟨(ai.ext a2), (am.ext a2)⟩⟩
      ·intro _ _ _ _ _ _ _ _ aa _ ab
       refine gd1 rfl (ab 9 rfl 246 rfl) ay ?_
       refine r_un (bv au) (bv (!au)) (ab 13 rfl 250 rfl) rfl u_not ?_
       exact d0 ⟨rfl, aa⟩
      ·intro _ _ _ _ _ _ _ _ aa _ ab
       refine gd1 rfl (ab 6 rfl 243 rfl) ax ?_
       refine r_pick_t (c := x2925.Fails) (bv (!au)) (ab 9 rfl 246 rfl) ay (ab 14 rfl 251 rfl) rfl rfl rfl ?_
       exact d0 ⟨rfl, aa⟩
      ·intro _ _ _ _ _ _ _ _ aa _ ab
       refine r_pick_f (c := ((x2925.Args.length : Int) != a0.Int_)) (bv (!au)) (ab 6 rfl 243 rfl) ax (ab 15 rfl 252 rfl) rfl rfl rfl ?_
       exact d0 ⟨rfl, aa⟩
      ·intro _ _ _ _ _ _ _ _ aa _ ab
       refine r_move (bv (!au)) (ab 16 rfl 253 rfl) rfl ?_
       exact d0 ⟨rfl, aa⟩
      ·intro _ _ _ _ _ _ _ _ aa ab ac
       refine gd1 rfl (ac 17 rfl 254 rfl) aX ?_
       refine r_move (iv ag) ((ab 8 rfl).trans ba) rfl ?_
       exact d0 ⟨rfl, aa⟩
      ·intro _ _ _ _ _ _ _ _ aa _ ab
       refine gd1 rfl (ab 17 rfl 254 rfl) aX ?_
       refine r_bin (iv ag) (iv 0) (bv (decide (0 < ag))) (ab 18 rfl 255 rfl) rfl rfl rfl (b_gtr) ?_
       exact d0 ⟨rfl, aa⟩
      ·intro _ _ _ _ _ _ _ _ aa _ ab
       refine gd1 rfl (ab 17 rfl 254 rfl) aX ?_
       refine r_move (bv (decide (0 < ag))) (ab 19 rfl 256 rfl) rfl ?_
       exact d0 ⟨rfl, aa⟩
      ·intro _ _ _ _ _ _ _ _ aa _ ab
       exact gd0 rfl (ab 20 rfl 257 rfl) aF ⟨rfl, aa⟩
      ·intro _ aa _ _ _ _ _ _ ab _ ac
       have ad : aa 258 = undef := ac 21 rfl 258 rfl
       exact gd0 rfl (ac 20 rfl 257 rfl) aF ⟨rfl, ab⟩
      ·intro _ _ _ _ _ _ _ _ aa _ ab
       exact gd0 rfl (ab 20 rfl 257 rfl) aF ⟨rfl, aa⟩
      ·intro _ aa _ _ _ _ _ _ ab _ ac
       have ad : aa 260 = undef := ac 23 rfl 260 rfl
       exact gd0 rfl (ac 20 rfl 257 rfl) aF ⟨rfl, ab⟩
      ·intro _ aa _ _ _ _ _ _ ab _ ac
       have ad : aa 259 = undef := ac 22 rfl 259 rfl
       have af : aa 261 = undef := ac 24 rfl 261 rfl
       exact gd0 rfl (ac 20 rfl 257 rfl) aF ⟨rfl, ab⟩
      ·intro _ aa _ _ _ _ _ _ ab _ ac
       have ad : aa 262 = undef := ac 25 rfl 262 rfl
       exact gd0 rfl (ac 20 rfl 257 rfl) aF ⟨rfl, ab⟩
      ·intro _ _ _ _ _ _ _ _ aa _ ab
       exact gd0 rfl (ab 20 rfl 257 rfl) aF ⟨rfl, aa⟩
      ·intro _ aa _ _ _ _ _ _ ab _ ac
       have ad : aa 263 = undef := ac 26 rfl 263 rfl
       have af : aa 264 = undef := ac 27 rfl 264 rfl
       exact gd0 rfl (ac 20 rfl 257 rfl) aF ⟨rfl, ab⟩
      ·intro _ aa _ _ _ _ _ _ ab _ ac
       have ad : aa 265 = undef := ac 28 rfl 265 rfl
       exact gd0 rfl (ac 20 rfl 257 rfl) aF ⟨rfl, ab⟩
      ·intro _ aa _ _ _ _ _ _ ab _ ac
       have ad : aa 266 = undef := ac 29 rfl 266 rfl
       refine gd1 rfl (ac 17 rfl 254 rfl) aX ?_
       refine r_pick_f (c := decide (0 < ag)) (bv false) (ac 20 rfl 257 rfl) aF rfl rfl rfl rfl ?_
       exact d0 ⟨rfl, ab⟩
      ·intro _ _ _ _ _ _ _ _ aa _ ab
       refine r_pick_f (c := !au) (bv false) (ab 17 rfl 254 rfl) aX (ab 30 rfl 267 rfl) rfl rfl rfl ?_
       exact d0 ⟨rfl, aa⟩
      intro _ _ h1 h2 h4 e3 h5
      have h7 := bx.trans h1
      obtain ⟨h8, _⟩ := h4
      have ia := h8
      have ib := (e3 8 rfl).trans ba
      refine j1 ?_
      refine c_false (h5 31 268 rfl) rfl rfl ?_
      refine ja (j5 (j1 (j3 ?_)))
      refine r_move (iv ag) ib rfl ?_
      refine r_bin (iv ag) (iv 1) (iv (w64 (ag + 1))) rfl rfl rfl rfl (b_add) ?_
      refine r_assign (iv (w64 (ag + 1))) rfl rfl ?_
      refine j0 ?_
      obtain rfl := oi hf
      exact ⟨rfl, _, _, rfl, rfl, (((((((((((((((((cp).put rfl).put rfl).put rfl).put rfl).put rfl).put rfl).put rfl).put rfl).put rfl).put rfl).put rfl).put0).draw e3 rfl).put rfl).put rfl).put rfl), h7, (((((Wext.refl _).trans ci).trans aq.wext).trans ar.wext).trans h2), rfl, ia⟩
     refine if_else hf (fun aG hf => ?_) (fun aG hf => ?_)
     ·obtain ⟨x5246, ic, hf⟩ := bind_some hf
      obtain ⟨ca, ie, hf⟩ := bind_some hf
      refine wp_draw (B := frExt s0.N) (sm 237 32) [[], [0], [0, 1], [], [3], rg 5, rg 6, rg 7, rg 8, rg 9, rg 10, rg 11, rg 10, rg 13, rg 14, rg 15, rg 16, rg 17, rg 18, rg 19, rg 20, rg 21, rg 22, rg 21, (rg 21 ++ [23]), rg 25, rg 26, rg 21, rg 28, rg 29, rg 30, rg 31] [Fct.eqv (.pointer (some ⟨aj, 0, none⟩)), Fct.eqv (lv av x2925.Args.length aw), Fct.eqv (iv (x2925.Args.length : Int)), Fct.eqv (.pointer (some ⟨ae, 1, none⟩)), Fct.eqv (iv a0.Int_), Fct.eqv (bv ((x2925.Args.length : Int) != a0.Int_)), Fct.eqv (bv ((x2925.Args.length : Int) != a0.Int_)), Fct.eqv (.pointer (some ⟨aj, 1, none⟩)), Fct.eqv (bv x2925.Fails), Fct.eqv (bv x2925.Fails), Fct.eqv undef, Fct.eqv undef, Fct.eqv undef, Fct.eqv undef, Fct.eqv undef, Fct.eqv (bv false), Fct.eqv (bv false), Fct.eqv (bv false), Fct.eqv (iv ag), Fct.eqv (bv (decide (0 < ag))), Fct.eqv (bv (decide (0 < ag))), Fct.eqv (.pointer (some ⟨ae, 5, none⟩)), Fct.eqv (lv A7 a0.Entries.length c8), Fct.eqv (iv ag), Fct.eqv (iv (w64 (ag - 1))), Fct.elem (x5246 : Ent), Fct.data (x5246 : Ent), Fct.data (x2925 : Ent), Fct.eqv (iv ca), Fct.eqv (bv (decide (0 ≤ ca))), Fct.eqv (bv (decide (0 ≤ ca))), Fct.eqv (bv (decide (0 ≤ ca)))] (fun D F τ => (Blk s0.N 1 τ ae 27 (Val.cs a0 A1 c2 A4 c5 A7 c8 ak al)) ∧ (Blk s0.N 2 τ aj 65 [lv av x2925.Args.length aw, bv x2925.Fails, iv x2925.Result.Kind, iv x2925.Result.Int_, tv x2925.Result.Text, lv aI x2925.Result.Kids.length aJ, lv aK x2925.Result.Keys.length aL, lv aM x2925.Result.Entries.length aN, lv aO x2925.Result.Labels.length aP])) (by kernel_rfl) rfl (by decide) (by decide) ⟨(((bV.ext aq).mod ar rfl).ext (ext_draw _)), (cq.ext (ext_draw _))⟩ (by decide) (by decide) ⟨?_, ?_, ?_, ?_, ?_, ?_, ?_, ?_, ?_, ?_, ?_, ?_, ?_, ?_, ?_, ?_, ?_, ?_, ?_, ?_, ?_, ?_, ?_, ?_, ?_, ?_, ?_, ?_, ?_, ?_, ?_, ?_, trivial⟩ ?_
      ·intro _ _ _ _ _ _ _ _ aa ab _
       obtain ⟨_, _⟩ := id aa
       refine r_fieldAddr aj 0 0 0 ((ab 9 rfl).trans rfl) rfl fo65_0 rfl ?_
       exact d0 ⟨rfl, aa⟩
      ·intro _ _ _ _ _ _ _ _ aa _ ab
       obtain ⟨_, ac⟩ := id aa
       have ad := ac
       refine r_load aj 0 (lv av x2925.Args.length aw) (ab 0 rfl 237 rfl) rfl (loads_one to22 ((ad.cell 0).trans rfl)) ?_
       exact d0 ⟨rfl, aa⟩
      ·intro _ _ _ _ _ _ _ _ aa _ ab
       refine r_len av x2925.Args.length aw (ab 1 rfl 238 rfl) rfl underlying22 ?_
       exact d0 ⟨rfl, aa⟩
      ·intro _ _ _ _ _ _ _ _ aa ab _
       obtain ⟨_, _⟩ := id aa
       refine r_fieldAddr ae 0 1 1 ((ab 1 rfl).trans bJ) rfl fo27_1 rfl ?_
       exact d0 ⟨rfl, aa⟩
      ·intro _ _ _ _ _ _ _ _ aa _ ab
       obtain ⟨ac, _⟩ := id aa
       have ad := ac
       refine r_load ae 1 (iv a0.Int_) (ab 3 rfl 240 rfl) rfl (loads_one to2 ((ad.cell 1).trans rfl)) ?_
       exact d0 ⟨rfl, aa⟩
      ·intro _ _ _ _ _ _ _ _ aa _ ab
       refine r_bin (iv (x2925.Args.length : Int)) (iv a0.Int_) (bv ((x2925.Args.length : Int) != a0.Int_)) (ab 2 rfl 239 rfl) (ab 4 rfl 241 rfl) rfl rfl (b_neq) ?_
       exact d0 ⟨rfl, aa⟩
      ·intro _ _ _ _ _ _ _ _ aa _ ab
       refine r_move (bv ((x2925.Args.length : Int) != a0.Int_)) (ab 5 rfl 242 rfl) rfl ?_
       exact d0 ⟨rfl, aa⟩
      ·intro _ _ _ _ _ _ _ _ aa ab ac
       obtain ⟨_, _⟩ := id aa
       refine gd1 rfl (ac 6 rfl 243 rfl) ax ?_
       refine r_fieldAddr aj 0 1 1 ((ab 9 rfl).trans rfl) rfl fo65_1 rfl ?_
       exact d0 ⟨rfl, aa⟩
      ·intro _ _ _ _ _ _ _ _ aa _ ab
       obtain ⟨_, ac⟩ := id aa
       have ad := ac
       refine gd1 rfl (ab 6 rfl 243 rfl) ax ?_
       refine r_load aj 1 (bv x2925.Fails) (ab 7 rfl 244 rfl) rfl (loads_one to4 ((ad.cell 1).trans rfl)) ?_
       exact d0 ⟨rfl, aa⟩
      ·intro _ _ _ _ _ _ _ _ aa _ ab
       refine gd1 rfl (ab 6 rfl 243 rfl) ax ?_
       refine r_move (bv x2925.Fails) (ab 8 rfl 245 rfl) rfl ?_
       exact d0 ⟨rfl, aa⟩
      ·intro _ _ _ _ _ _ _ _ aa _ ab
       exact gd0 rfl (ab 9 rfl 246 rfl) ay ⟨rfl, aa⟩
      ·intro _ aa _ _ _ _ _ _ ab _ ac
       have ad : aa 247 = undef := ac 10 rfl 247 rfl
       exact gd0 rfl (ac 9 rfl 246 rfl) ay ⟨rfl, ab⟩
      ·intro _ _ _ _ _ _ _ _ aa _ ab
       exact gd0 rfl (ab 9 rfl 246 rfl) ay ⟨rfl, aa⟩
      ·intro _ aa _ _ _ _ _ _ ab _ ac
       have ad : aa 248 = undef := ac 11 rfl 248 rfl
       have af : aa 249 = undef := ac 12 rfl 249 rfl
       exact gd0 rfl (ac 9 rfl 246 rfl) ay ⟨rfl, ab⟩
      ·intro _ aa _ _ _ _ _ _ ab _ ac
       have ad : aa 250 = undef := ac 13 rfl 250 rfl
       exact gd0 rfl (ac 9 rfl 246 rfl) ay ⟨rfl, ab⟩
      ·intro _ aa _ _ _ _ _ _ ab _ ac
       have ad : aa 251 = undef := ac 14 rfl 251 rfl
       refine gd1 rfl (ac 6 rfl 243 rfl) ax ?_
       refine r_pick_f (c := x2925.Fails) (bv false) (ac 9 rfl 246 rfl) ay rfl rfl rfl rfl ?_
       exact d0 ⟨rfl, ab⟩
      ·intro _ _ _ _ _ _ _ _ aa _ ab
       refine r_pick_f (c := ((x2925.Args.length : Int) != a0.Int_)) (bv false) (ab 6 rfl 243 rfl) ax (ab 15 rfl 252 rfl) rfl rfl rfl ?_
       exact d0 ⟨rfl, aa⟩
      ·intro _ _ _ _ _ _ _ _ aa _ ab
       refine r_move (bv false) (ab 16 rfl 253 rfl) rfl ?_
       exact d0 ⟨rfl, aa⟩
      ·intro _ _ _ _ _ _ _ _ aa ab ac
       refine gd1 rfl (ac 17 rfl 254 rfl) rfl ?_
       refine r_move (iv ag) ((ab 8 rfl).trans ba) rfl ?_
       exact d0 ⟨rfl, aa⟩
      ·intro _ _ _ _ _ _ _ _ aa _ ab
       refine gd1 rfl (ab 17 rfl 254 rfl) rfl ?_
       refine r_bin (iv ag) (iv 0) (bv (decide (0 < ag))) (ab 18 rfl 255 rfl) rfl rfl rfl (b_gtr) ?_
       exact d0 ⟨rfl, aa⟩
      ·intro _ _ _ _ _ _ _ _ aa _ ab
       refine gd1 rfl (ab 17 rfl 254 rfl) rfl ?_
       refine r_move (bv (decide (0 < ag))) (ab 19 rfl 256 rfl) rfl ?_
       exact d0 ⟨rfl, aa⟩
      ·intro _ _ _ _ _ _ _ _ aa ab ac
       obtain ⟨_, _⟩ := id aa
       refine gd1 rfl (ac 20 rfl 257 rfl) aG ?_
       refine r_fieldAddr ae 0 5 5 ((ab 1 rfl).trans bJ) rfl fo27_5 rfl ?_
       exact d0 ⟨rfl, aa⟩
      ·intro _ _ _ _ _ _ _ _ aa _ ab
       obtain ⟨ac, _⟩ := id aa
       have ad := ac
       refine gd1 rfl (ab 20 rfl 257 rfl) aG ?_
       refine r_load ae 5 (lv A7 a0.Entries.length c8) (ab 21 rfl 258 rfl) rfl (loads_one to24 ((ad.cell 5).trans rfl)) ?_
       exact d0 ⟨rfl, aa⟩
      ·intro _ _ _ _ _ _ _ _ aa ab ac
       refine gd1 rfl (ac 20 rfl 257 rfl) aG ?_
       refine r_move (iv ag) ((ab 8 rfl).trans ba) rfl ?_
       exact d0 ⟨rfl, aa⟩
      ·intro _ _ _ _ _ _ _ _ aa _ ab
       refine gd1 rfl (ab 20 rfl 257 rfl) aG ?_
       refine r_bin (iv ag) (iv 1) (iv (w64 (ag - 1))) (ab 23 rfl 260 rfl) rfl rfl rfl (b_sub) ?_
       exact d0 ⟨rfl, aa⟩
      ·intro _ _ _ _ _ _ _ aa ab _ ac
       refine gd1 rfl (ac 20 rfl 257 rfl) aG ?_
       refine r_indexAddr (T := 24) (E := 65) ((((((((((h9.mono aQ.wext).mono bz).mono bB).mono bC).mono bE).mono bI).mono ci).mono aq.wext).mono ar.wext).mono aa) ic (ac 22 rfl 259 rfl) (ac 24 rfl 261 rfl) rfl rfl underlying24 sz65 ?_
       intro _ _ _ ad af
       obtain ⟨_, _, _, _, _, _, _, _, _, _, rfl, ah, ai, am, an, aA⟩ := Ent.cells_iff.1 ad
       exact d0 ⟨⟨_, _, _, rfl, (Ent.cells_iff.2 ⟨_, _, _, _, _, _, _, _, _, _, rfl, ah, ai, am, an, aA⟩), af⟩, ab⟩
      ·intro _ aa ab _ _ _ _ _ ac _ ad
       obtain ⟨af, ah, _, ai, am, an⟩ : (Fct.elem (x5246 : Ent)).p (aa 262) ab := ad 25 rfl 262 rfl
       obtain ⟨aA, aE, aW, a1, bb, bc, bd, be, bf, bg, rfl, bh, bi, bj, bk, bl⟩ := Ent.cells_iff.1 am
       refine gd1 rfl (ad 20 rfl 257 rfl) aG ?_
       refine r_load af ah (.agg #[lv aA x5246.Args.length aE, bv x5246.Fails, iv x5246.Result.Kind, iv x5246.Result.Int_, tv x5246.Result.Text, lv aW x5246.Result.Kids.length a1, lv bb x5246.Result.Keys.length bc, lv bd x5246.Result.Entries.length be, lv bf x5246.Result.Labels.length bg]) ai rfl (loads_row tr65 an.2) ?_
       exact d0 ⟨(Ent.rpvMk (v := x5246) bh bi bj bk bl), ac⟩
      ·intro _ _ _ _ _ _ _ aa ab ac ad
       obtain ⟨_, af⟩ := id ab
       have ah := af
       refine gd1 rfl (ad 20 rfl 257 rfl) aG ?_
       refine r_load aj 0 (.agg #[lv av x2925.Args.length aw, bv x2925.Fails, iv x2925.Result.Kind, iv x2925.Result.Int_, tv x2925.Result.Text, lv aI x2925.Result.Kids.length aJ, lv aK x2925.Result.Keys.length aL, lv aM x2925.Result.Entries.length aN, lv aO x2925.Result.Labels.length aP]) ((ac 9 rfl).trans rfl) rfl (loads_row tr65 (Blk.range ah 0 [lv av x2925.Args.length aw, bv x2925.Fails, iv x2925.Result.Kind, iv x2925.Result.Int_, tv x2925.Result.Text, lv aI x2925.Result.Kids.length aJ, lv aK x2925.Result.Keys.length aL, lv aM x2925.Result.Entries.length aN, lv aO x2925.Result.Labels.length aP] rfl)) ?_
       exact d0 ⟨(Ent.rpvMk (v := x2925) (((eZ.mono aq.wext).mono ar.wext).mono aa) (((cz.mono aq.wext).mono ar.wext).mono aa) (((cA.mono aq.wext).mono ar.wext).mono aa) (((cB.mono aq.wext).mono ar.wext).mono aa) (((cC.mono aq.wext).mono ar.wext).mono aa)), ab⟩
      ·intro _ aa ab _ _ _ ac _ ad _ af
       have ah := bx.trans ac
       obtain ⟨ai, am⟩ := id ad
       have an : RpV ab (x5246 : Ent) (aa 263) := af 26 rfl 263 rfl
       obtain ⟨aA, aE, aW, a1, bb, bc, bd, be, bf, bg, bh, bi, bj, bk, bl, bW⟩ := Ent.rpv an
       have bX : RpV ab (x2925 : Ent) (aa 264) := af 27 rfl 264 rfl
       obtain ⟨bY, bZ, b0, b1, b2, b3, b4, b5, b6, b7, a2, b8, dO, dP, dQ, dR⟩ := Ent.rpv bX
       refine gd1 rfl (af 20 rfl 257 rfl) aG ?_
       refine r_call [.agg #[lv aA x5246.Args.length aE, bv x5246.Fails, iv x5246.Result.Kind, iv x5246.Result.Int_, tv x5246.Result.Text, lv aW x5246.Result.Kids.length a1, lv bb x5246.Result.Keys.length bc, lv bd x5246.Result.Entries.length be, lv bf x5246.Result.Labels.length bg], .agg #[lv bY x2925.Args.length bZ, bv x2925.Fails, iv x2925.Result.Kind, iv x2925.Result.Int_, tv x2925.Result.Text, lv b0 x2925.Result.Kids.length b1, lv b2 x2925.Result.Keys.length b3, lv b4 x2925.Result.Entries.length b5, lv b6 x2925.Result.Labels.length b7]] (evs2 bh a2) rfl ((ok_semtyperef1_CompareEntries fuel) _ _ _ _ _ _ (Ent.rpvMk (v := x5246) bi bj bk bl bW) (Ent.rpvMk (v := x2925) b8 dO dP dQ dR) ie) ?_
       intro _ _ ck dS
       obtain rfl := RpV.int dS
       exact d1 ah (Nat.le_refl _) ck ⟨rfl, ⟨(ai.ext ck), (am.ext ck)⟩⟩
      ·intro _ _ _ _ _ _ _ _ aa _ ab
       refine gd1 rfl (ab 20 rfl 257 rfl) aG ?_
       refine r_bin (iv ca) (iv 0) (bv (decide (0 ≤ ca))) (ab 28 rfl 265 rfl) rfl rfl rfl (b_geq) ?_
       exact d0 ⟨rfl, aa⟩
      ·intro _ _ _ _ _ _ _ _ aa _ ab
       refine gd1 rfl (ab 17 rfl 254 rfl) rfl ?_
       refine r_pick_t (c := decide (0 < ag)) (bv (decide (0 ≤ ca))) (ab 20 rfl 257 rfl) aG (ab 29 rfl 266 rfl) rfl rfl rfl ?_
       exact d0 ⟨rfl, aa⟩
      ·intro _ _ _ _ _ _ _ _ aa _ ab
       refine r_pick_f (c := false) (bv (decide (0 ≤ ca))) (ab 17 rfl 254 rfl) rfl (ab 30 rfl 267 rfl) rfl rfl rfl ?_
       exact d0 ⟨rfl, aa⟩
      intro ig _ ih ii ij e4 ik
      have e5 := bx.trans ih
      obtain ⟨il, _⟩ := ij
      have im := il
      have io := (e4 8 rfl).trans ba
      have e6 : ig 268 = (bv (decide (0 ≤ ca))) := ik 31 268 rfl
      refine j1 ?_
      refine if_else hf (fun dU hf => ?_) (fun dU hf => ?_)
      ·refine c_true e6 dU rfl ?_
       refine j2 (j3 ?_)
       refine r_assign (bv false) rfl rfl ?_
       refine j0 (j1 (jb (j7 (j9 ?_))))
       obtain rfl := oi hf
       exact ⟨rfl, _, _, (bv false), rfl, rfl, e5, ⟨rfl, rfl⟩, (RpV.mkBool _ _)⟩
      refine c_false e6 dU rfl ?_
      refine ja (j5 (j1 (j3 ?_)))
      refine r_move (iv ag) io rfl ?_
      refine r_bin (iv ag) (iv 1) (iv (w64 (ag + 1))) rfl rfl rfl rfl (b_add) ?_
      refine r_assign (iv (w64 (ag + 1))) rfl rfl ?_
      refine j0 ?_
      obtain rfl := oi hf
      exact ⟨rfl, _, _, rfl, rfl, (((((((((((((((((cp).put rfl).put rfl).put rfl).put rfl).put rfl).put rfl).put rfl).put rfl).put rfl).put rfl).put rfl).put0).draw e4 rfl).put rfl).put rfl).put rfl), e5, (((((Wext.refl _).trans ci).trans aq.wext).trans ar.wext).trans ii), rfl, im⟩
     refine wp_draw (B := frExt s0.N) (sm 237 32) [[], [0], [0, 1], [], [3], rg 5, rg 6, rg 7, rg 8, rg 9, rg 10, rg 11, rg 10, rg 13, rg 14, rg 15, rg 16, rg 17, rg 18, rg 19, rg 20, rg 21, rg 22, rg 21, (rg 21 ++ [23]), rg 25, rg 26, rg 21, rg 28, rg 29, rg 30, rg 31] [Fct.eqv (.pointer (some ⟨aj, 0, none⟩)), Fct.eqv (lv av x2925.Args.length aw), Fct.eqv (iv (x2925.Args.length : Int)), Fct.eqv (.pointer (some ⟨ae, 1, none⟩)), Fct.eqv (iv a0.Int_), Fct.eqv (bv ((x2925.Args.length : Int) != a0.Int_)), Fct.eqv (bv ((x2925.Args.length : Int) != a0.Int_)), Fct.eqv (.pointer (some ⟨aj, 1, none⟩)), Fct.eqv (bv x2925.Fails), Fct.eqv (bv x2925.Fails), Fct.eqv undef, Fct.eqv undef, Fct.eqv undef, Fct.eqv undef, Fct.eqv undef, Fct.eqv (bv false), Fct.eqv (bv false), Fct.eqv (bv false), Fct.eqv (iv ag), Fct.eqv (bv (decide (0 < ag))), Fct.eqv (bv (decide (0 < ag))), Fct.eqv undef, Fct.eqv undef, Fct.eqv undef, Fct.eqv undef, Fct.eqv undef, Fct.eqv undef, Fct.eqv undef, Fct.eqv undef, Fct.eqv undef, Fct.eqv (bv false), Fct.eqv (bv false)] (fun D F τ => (Blk s0.N 1 τ ae 27 (Val.cs a0 A1 c2 A4 c5 A7 c8 ak al)) ∧ (Blk s0.N 2 τ aj 65 [lv av x2925.Args.length aw, bv x2925.Fails, iv x2925.Result.Kind, iv x2925.Result.Int_, tv x2925.Result.Text, lv aI x2925.Result.Kids.length aJ, lv aK x2925.Result.Keys.length aL, lv aM x2925.Result.Entries.length aN, lv aO x2925.Result.Labels.length aP])) (by kernel_rfl) rfl (by decide) (by decide) ⟨(((bV.ext aq).mod ar rfl).ext (ext_draw _)), (cq.ext (ext_draw _))⟩ (by decide) (by decide) ⟨?_, ?_, ?_, ?_, ?_, ?_, ?_, ?_, ?_, ?_, ?_, ?_, ?_, ?_, ?_, ?_, ?_, ?_, ?_, ?_, ?_, ?_, ?_, ?_, ?_, ?_, ?_, ?_, ?_, ?_, ?_, ?_, trivial⟩ ?_
     ·intro _ _ _ _ _ _ _ _ aa ab _
      obtain ⟨_, _⟩ := id aa
      refine r_fieldAddr aj 0 0 0 ((ab 9 rfl).trans rfl) rfl fo65_0 rfl ?_
      exact d0 ⟨rfl, aa⟩
     ·intro _ _ _ _ _ _ _ _ aa _ ab
      obtain ⟨_, ac⟩ := id aa
      have ad := ac
      refine r_load aj 0 (lv av x2925.Args.length aw) (ab 0 rfl 237 rfl) rfl (loads_one to22 ((ad.cell 0).trans rfl)) ?_
      exact d0 ⟨rfl, aa⟩
     ·intro _ _ _ _ _ _ _ _ aa _ ab
      refine r_len av x2925.Args.length aw (ab 1 rfl 238 rfl) rfl underlying22 ?_
      exact d0 ⟨rfl, aa⟩
     ·intro _ _ _ _ _ _ _ _ aa ab _
      obtain ⟨_, _⟩ := id aa
      refine r_fieldAddr ae 0 1 1 ((ab 1 rfl).trans bJ) rfl fo27_1 rfl ?_
      exact d0 ⟨rfl, aa⟩
     ·intro _ _ _ _ _ _ _ _ aa _ ab
      obtain ⟨ac, _⟩ := id aa
      have ad := ac
      refine r_load ae 1 (iv a0.Int_) (ab 3 rfl 240 rfl) rfl (loads_one to2 ((ad.cell 1).trans rfl)) ?_
      exact d0 ⟨rfl, aa⟩
     ·intro _ _ _ _ _ _ _ _ aa _ ab
      refine r_bin (iv (x2925.Args.length : Int)) (iv a0.Int_) (bv ((x2925.Args.length : Int) != a0.Int_)) (ab 2 rfl 239 rfl) (ab 4 rfl 241 rfl) rfl rfl (b_neq) ?_
      exact d0 ⟨rfl, aa⟩
     ·intro _ _ _ _ _ _ _ _ aa _ ab
      refine r_move (bv ((x2925.Args.length : Int) != a0.Int_)) (ab 5 rfl 242 rfl) rfl ?_
      exact d0 ⟨rfl, aa⟩
     ·intro _ _ _ _ _ _ _ _ aa ab ac
      obtain ⟨_, _⟩ := id aa
      refine gd1 rfl (ac 6 rfl 243 rfl) ax ?_
      refine r_fieldAddr aj 0 1 1 ((ab 9 rfl).trans rfl) rfl fo65_1 rfl ?_
      exact d0 ⟨rfl, aa⟩
     ·intro _ _ _ _ _ _ _ _ aa _ ab
      obtain ⟨_, ac⟩ := id aa
      have ad := ac
      refine gd1 rfl (ab 6 rfl 243 rfl) ax ?_
      refine r_load aj 1 (bv x2925.Fails) (ab 7 rfl 244 rfl) rfl (loads_one to4 ((ad.cell 1).trans rfl)) ?_
      exact d0 ⟨rfl, aa⟩
     ·intro _ _ _ _ _ _ _ _ aa _ ab
      refine gd1 rfl (ab 6 rfl 243 rfl) ax ?_
      refine r_move (bv x2925.Fails) (ab 8 rfl 245 rfl) rfl ?_
      exact d0 ⟨rfl, aa⟩
     ·intro _ _ _ _ _ _ _ _ aa _ ab
      exact gd0 rfl (ab 9 rfl 246 rfl) ay ⟨rfl, aa⟩
     ·intro _ aa _ _ _ _ _ _ ab _ ac
      have ad : aa 247 = undef := ac 10 rfl 247 rfl
      exact gd0 rfl (ac 9 rfl 246 rfl) ay ⟨rfl, ab⟩
     ·intro _ _ _ _ _ _ _ _ aa _ ab
      exact gd0 rfl (ab 9 rfl 246 rfl) ay ⟨rfl, aa⟩
     ·intro _ aa _ _ _ _ _ _ ab _ ac
      have ad : aa 248 = undef := ac 11 rfl 248 rfl
      have af : aa 249 = undef := ac 12 rfl 249 rfl
      exact gd0 rfl (ac 9 rfl 246 rfl) ay ⟨rfl, ab⟩
     ·intro _ aa _ _ _ _ _ _ ab _ ac
      have ad : aa 250 = undef := ac 13 rfl 250 rfl
      exact gd0 rfl (ac 9 rfl 246 rfl) ay ⟨rfl, ab⟩
     ·intro _ aa _ _ _ _ _ _ ab _ ac
      have ad : aa 251 = undef := ac 14 rfl 251 rfl
      refine gd1 rfl (ac 6 rfl 243 rfl) ax ?_
      refine r_pick_f (c := x2925.Fails) (bv false) (ac 9 rfl 246 rfl) ay rfl rfl rfl rfl ?_
      exact d0 ⟨rfl, ab⟩
     ·intro _ _ _ _ _ _ _ _ aa _ ab
      refine r_pick_f (c := ((x2925.Args.length : Int) != a0.Int_)) (bv false) (ab 6 rfl 243 rfl) ax (ab 15 rfl 252 rfl) rfl rfl rfl ?_
      exact d0 ⟨rfl, aa⟩
     ·intro _ _ _ _ _ _ _ _ aa _ ab
      refine r_move (bv false) (ab 16 rfl 253 rfl) rfl ?_
      exact d0 ⟨rfl, aa⟩
     ·intro _ _ _ _ _ _ _ _ aa ab ac
      refine gd1 rfl (ac 17 rfl 254 rfl) rfl ?_
      refine r_move (iv ag) ((ab 8 rfl).trans ba) rfl ?_
      exact d0 ⟨rfl, aa⟩
     ·intro _ _ _ _ _ _ _ _ aa _ ab
      refine gd1 rfl (ab 17 rfl 254 rfl) rfl ?_
      refine r_bin (iv ag) (iv 0) (bv (decide (0 < ag))) (ab 18 rfl 255 rfl) rfl rfl rfl (b_gtr) ?_
      exact d0 ⟨rfl, aa⟩
     ·intro _ _ _ _ _ _ _ _ aa _ ab
      refine gd1 rfl (ab 17 rfl 254 rfl) rfl ?_
      refine r_move (bv (decide (0 < ag))) (ab 19 rfl 256 rfl) rfl ?_
      exact d0 ⟨rfl, aa⟩
     ·intro _ _ _ _ _ _ _ _ aa _ ab
      exact gd0 rfl (ab 20 rfl 257 rfl) aG ⟨rfl, aa⟩
     ·intro _ aa _ _ _ _ _ _ ab _ ac
      have ad : aa 258 = undef := ac 21 rfl 258 rfl
      exact gd0 rfl (ac 20 rfl 257 rfl) aG ⟨rfl, ab⟩
     ·intro _ _ _ _ _ _ _ _ aa _ ab
      exact gd0 rfl (ab 20 rfl 257 rfl) aG ⟨rfl, aa⟩
     ·intro _ aa _ _ _ _ _ _ ab _ ac
      have ad : aa 260 = undef := ac 23 rfl 260 rfl
      exact gd0 rfl (ac 20 rfl 257 rfl) aG ⟨rfl, ab⟩
     ·intro _ aa _ _ _ _ _ _ ab _ ac
      have ad : aa 259 = undef := ac 22 rfl 259 rfl
      have af : aa 261 = undef := ac 24 rfl 261 rfl
      exact gd0 rfl (ac 20 rfl 257 rfl) aG ⟨rfl, ab⟩
     ·intro _ aa _ _ _ _ _ _ ab _ ac
      have ad : aa 262 = undef := ac 25 rfl 262 rfl
      exact gd0 rfl (ac 20 rfl 257 rfl) aG ⟨rfl, ab⟩
     ·intro _ _ _ _ _ _ _ _ aa _ ab
      exact gd0 rfl (ab 20 rfl 257 rfl) aG ⟨rfl, aa⟩
     ·intro _ aa _ _ _ _ _ _ ab _ ac
      have ad : aa 263 = undef := ac 26 rfl 263 rfl
      have af : aa 264 = undef := ac 27 rfl 264 rfl
      exact gd0 rfl (ac 20 rfl 257 rfl) aG ⟨rfl, ab⟩
     ·intro _ aa _ _ _ _ _ _ ab _ ac
      have ad : aa 265 = undef := ac 28 rfl 265 rfl
      exact gd0 rfl (ac 20 rfl 257 rfl) aG ⟨rfl, ab⟩
     ·intro _ aa _ _ _ _ _ _ ab _ ac
      have ad : aa 266 = undef := ac 29 rfl 266 rfl
      refine gd1 rfl (ac 17 rfl 254 rfl) rfl ?_
      refine r_pick_f (c := decide (0 < ag)) (bv false) (ac 20 rfl 257 rfl) aG rfl rfl rfl rfl ?_
      exact d0 ⟨rfl, ab⟩
     ·intro _ _ _ _ _ _ _ _ aa _ ab
      refine r_pick_f (c := false) (bv false) (ab 17 rfl 254 rfl) rfl (ab 30 rfl 267 rfl) rfl rfl rfl ?_
      exact d0 ⟨rfl, aa⟩
     intro _ _ ip iq ir e7 it
     have iu := bx.trans ip
     obtain ⟨iw, _⟩ := ir
     have ix := iw
     have iy := (e7 8 rfl).trans ba
     refine j1 ?_
     refine c_false (it 31 268 rfl) rfl rfl ?_
     refine ja (j5 (j1 (j3 ?_)))
     refine r_move (iv ag) iy rfl ?_
     refine r_bin (iv ag) (iv 1) (iv (w64 (ag + 1))) rfl rfl rfl rfl (b_add) ?_
     refine r_assign (iv (w64 (ag + 1))) rfl rfl ?_
     refine j0 ?_
     obtain rfl := oi hf
     exact ⟨rfl, _, _, rfl, rfl, (((((((((((((((((cp).put rfl).put rfl).put rfl).put rfl).put rfl).put rfl).put rfl).put rfl).put rfl).put rfl).put rfl).put0).draw e7 rfl).put rfl).put rfl).put rfl), iu, (((((Wext.refl _).trans ci).trans aq.wext).trans ar.wext).trans iq), rfl, ix⟩
    refine c_false rfl dM rfl ?_
    refine jc (j8 ?_)
    obtain rfl := oi hf
    exact ⟨rfl, _, _, rfl, rfl, ((((((cp).put rfl).put rfl).put rfl).put rfl).put rfl), dL, ((Wext.refl _).trans ci), ba, bV⟩
   ·exact ⟨_, _, rfl, rfl, (Agr.refl _ _), aY, (Wext.refl _), hy, bo⟩
   intro e a w hp
   rcases hz with i9 | r
   ·replace hf := onEnd_inl hf
    obtain ⟨rfl, _, _, rfl, rfl, _, iz, _, _, _⟩ := hp
    refine j6 (j1 (j2 (j3 ?_)))
    refine r_assign (bv true) rfl rfl ?_
    refine j0 (j1 (jb (j7 (j9 ?_))))
    obtain rfl := oi hf
    refine ret_one (bv true) rfl ⟨rfl, rfl⟩ iz ?_
    exact (RpV.mkBool _ _)
   replace hf := onEnd_inr hf
   obtain ⟨rfl, _, _, iA, rfl, rfl, iB, iC, iD⟩ := hp
   refine j7 (j9 (j7 (j9 ?_)))
   obtain rfl := oi hf
   refine ret_one iA rfl iC iB ?_
   exact iD
  refine c_false rfl dI rfl ?_
  refine ja (j5 (j1 (j2 (j3 ?_))))
  refine r_assign (bv false) rfl rfl ?_
  refine j0 (j1 (jb ?_))
  obtain rfl := oi hf
  refine ret_one (bv false) rfl ⟨rfl, rfl⟩ aY ?_
  exact (RpV.mkBool _ _)
 replace hf := onEnd_inr hf
 obtain ⟨rfl, _, _, iE, rfl, rfl, iF, iG, iH⟩ := hp
 refine j7 (j9 ?_)
 obtain rfl := oi hf
 refine ret_one iE rfl iG iF ?_
 exact iH

def S_semtyperef1_Valid (f : (Val → Option Bool)) : Prop := ∀ (s0 : S) (v0 : Value) (a0 : Val) (r : Bool), RpV s0 a0 v0 → f a0 = some r → Ctr Go.Proofs.Try.prog 36 [v0] s0 (fun v τ => RpV τ r v)

theorem okB_semtyperef1_Valid {rec_semtyperef1_Valid : (Val → Option Bool)} (fuel : Nat) (hrec_semtyperef1_Valid : S_semtyperef1_Valid rec_semtyperef1_Valid) : S_semtyperef1_Valid (semtyperef1_Valid_B rec_semtyperef1_Valid fuel) := by
 intro s0 v0 a0 r hp0 hf
 obtain ⟨A1, c2, A4, c5, A7, c8, ac, ad, rfl, h3, h6, h9, bL⟩ := Val.rpv hp0
 unfold semtyperef1_Valid_B at hf
 have E0 : ExtB s0.N s0 s0 := ExtB.refl _ _
 refine ctr_of 59 func36 rfl rfl rfl rfl ?_
 refine j2 (j3 ?_)
 refine r_box (B := s0.N) 1 E0.size (Val.ag a0 A1 c2 A4 c5 A7 c8 ac ad) (Val.cs a0 A1 c2 A4 c5 A7 c8 ac ad) rfl rfl rfl ?_
 intro _ aa aw a3
 have bM := E0.x aw
 refine r_assign (bv false) rfl rfl ?_
 refine j0 (j1 (j2 (j2 (j3 ?_))))
 refine r_load aa 0 (Val.ag a0 A1 c2 A4 c5 A7 c8 ac ad) rfl rfl (loads_row tr27 (Blk.range a3 0 (Val.cs a0 A1 c2 A4 c5 A7 c8 ac ad) rfl)) ?_
 obtain ⟨a4, bN, hf⟩ := bind_some hf
 refine r_call [Val.ag a0 A1 c2 A4 c5 A7 c8 ac ad] (evs1 rfl) rfl ((ok_semtyperef1_node fuel) _ _ _ _ (Val.rpvMk (v := a0) (h3.mono aw.wext) (h6.mono aw.wext) (h9.mono aw.wext) (bL.mono aw.wext)) bN) ?_
 intro _ a5 az bO
 have a6 := bM.x az
 obtain rfl := RpV.bool bO
 refine r_un (bv a4) (bv (!a4)) rfl rfl u_not ?_
 refine j0 (j1 ?_)
 refine if_else hf (fun aM hf => ?_) (fun aM hf => ?_)
 ·refine c_true rfl aM rfl ?_
  refine j2 (j3 ?_)
  refine r_assign (bv false) rfl rfl ?_
  refine j0 (j1 (jb (j9 ?_)))
  obtain rfl := oi hf
  refine ret_one (bv false) rfl ⟨rfl, rfl⟩ a6 ?_
  exact (RpV.mkBool _ _)
 refine c_false rfl aM rfl ?_
 refine ja (j1 (j2 (j2 (j3 ?_))))
 refine r_assign (iv 0) rfl rfl ?_
 refine j0 (j1 (j4 ?_))
 refine gen_F fun aA a7 => ?_
 have a8 : aA 1 = (.pointer (some ⟨aa, 0, none⟩)) := (a7 1).trans rfl
 have bP : aA 3 = (iv 0) := (a7 3).trans rfl
 obtain ⟨bQ, bR, hf⟩ := bind_some hf
 refine wp_mono (wp_iter (step := semtyperef1_Valid_l1 rec_semtyperef1_Valid a0) (fun q a w => ∃ (F : Fr) (τ : S), a = fr 59 F ∧ w = τ.w ∧ Agr [2, 3, 10, 11, 12, 13, 14, 15, 16, 17, 18, 19, 20, 21, 22, 23] F aA ∧ ExtB s0.N s0 τ ∧ Wext a5 τ ∧ F 3 = (iv q) ∧ Blk s0.N 1 τ aa 27 (Val.cs a0 A1 c2 A4 c5 A7 c8 ac ad)) (fun o e a w => match o with | .inl q => e = .exit 0 ∧ ∃ (F : Fr) (τ : S), a = fr 59 F ∧ w = τ.w ∧ Agr [2, 3, 10, 11, 12, 13, 14, 15, 16, 17, 18, 19, 20, 21, 22, 23] F aA ∧ ExtB s0.N s0 τ ∧ Wext a5 τ ∧ F 3 = (iv q) ∧ Blk s0.N 1 τ aa 27 (Val.cs a0 A1 c2 A4 c5 A7 c8 ac ad) | .inr r => e = .ret ∧ ∃ (F : Fr) (τ : S) (va : Value), a = fr 59 F ∧ w = τ.w ∧ ExtB s0.N s0 τ ∧ ResV prog 59 F τ.w (.tmp 2) va ∧ RpV τ r va) (by rintro (_ | _) a w ⟨h, _⟩ <;> cases h) ?_ _ _ _ _ _ bR ?_) ?_
 ·intro au fl a w hf hI
  obtain ⟨_, _, rfl, rfl, aN, a9, aO, aB, aC⟩ := hI
  unfold semtyperef1_Valid_l1 at hf
  have ba := (aN 1 rfl).trans a8
  refine j2 (j2 (j3 ?_))
  refine r_move (iv au) aB rfl ?_
  refine r_fieldAddr aa 0 3 3 ba rfl fo27_3 rfl ?_
  refine r_load aa 3 (lv A1 a0.Kids.length c2) rfl rfl (loads_one to22 ((aC.cell 3).trans rfl)) ?_
  refine r_len A1 a0.Kids.length c2 rfl rfl underlying22 ?_
  refine r_bin (iv au) (iv (a0.Kids.length : Int)) (bv (decide (au < (a0.Kids.length : Int)))) rfl rfl rfl rfl (b_lss) ?_
  refine j0 (j1 ?_)
  refine if_else hf (fun aP hf => ?_) (fun aP hf => ?_)
  ·refine c_true rfl aP rfl ?_
   refine ja (j1 (j2 (j4 (j2 (j3 ?_)))))
   refine r_fieldAddr aa 0 3 3 ba rfl fo27_3 rfl ?_
   refine r_load aa 3 (lv A1 a0.Kids.length c2) rfl rfl (loads_one to22 ((aC.cell 3).trans rfl)) ?_
   refine r_move (iv au) aB rfl ?_
   obtain ⟨x41, bS, hf⟩ := bind_some hf
   refine r_indexAddr (T := 22) (E := 27) (((h3.mono aw.wext).mono az.wext).mono aO) bS rfl rfl rfl rfl underlying22 sz27 ?_
   intro bT bU _ bV bW
   obtain ⟨bb, bc, bd, be, bf, bg, bh, bi, rfl, bX, bY, bZ, b0⟩ := Val.cells_iff.1 bV
   refine r_load bT bU (Val.ag x41 bb bc bd be bf bg bh bi) rfl rfl (loads_row tr27 bW.2) ?_
   obtain ⟨bj, b1, hf⟩ := bind_some hf
   refine r_call [Val.ag x41 bb bc bd be bf bg bh bi] (evs1 rfl) rfl (hrec_semtyperef1_Valid _ _ _ _ (Val.rpvMk (v := x41) bX bY bZ b0) b1) ?_
   intro _ _ aQ b2
   have bk := a9.x aQ
   obtain rfl := RpV.bool b2
   refine r_un (bv bj) (bv (!bj)) rfl rfl u_not ?_
   refine j0 (j1 ?_)
   refine if_else hf (fun aR hf => ?_) (fun aR hf => ?_)
   ·refine c_true rfl aR rfl ?_
    refine j2 (j3 ?_)
    refine r_assign (bv false) rfl rfl ?_
    refine j0 (j1 (jb (j7 (j9 ?_))))
    obtain rfl := oi hf
    exact ⟨rfl, _, _, (bv false), rfl, rfl, bk, ⟨rfl, rfl⟩, (RpV.mkBool _ _)⟩
   refine c_false rfl aR rfl ?_
   refine ja (j5 (j1 (j3 ?_)))
   refine r_move (iv au) aB rfl ?_
   refine r_bin (iv au) (iv 1) (iv (w64 (au + 1))) rfl rfl rfl rfl (b_add) ?_
   refine r_assign (iv (w64 (au + 1))) rfl rfl ?_
   refine j0 ?_
   obtain rfl := oi hf
   exact ⟨rfl, _, _, rfl, rfl, ((((((((((((((((aN).put rfl).put rfl).put rfl).put rfl).put rfl).put rfl).put rfl).put rfl).put rfl).put rfl).put rfl).put rfl).put rfl).put rfl).put rfl), bk, (((Wext.refl _).trans aO).trans aQ.wext), rfl, (aC.ext aQ)⟩
  refine c_false rfl aP rfl ?_
  refine jc (j8 ?_)
  obtain rfl := oi hf
  exact ⟨rfl, _, _, rfl, rfl, ((((((aN).put rfl).put rfl).put rfl).put rfl).put rfl), a9, ((Wext.refl _).trans aO), aB, aC⟩
 ·exact ⟨_, _, rfl, rfl, (Agr.refl _ _), a6, (Wext.refl _), bP, (a3.ext az)⟩
 intro e a w hp
 rcases bQ with cU | r
 ·replace hf := onEnd_inl hf
  obtain ⟨rfl, _, bl, rfl, rfl, b3, b4, b5, _, b6⟩ := hp
  have b7 := (b3 1 rfl).trans a8
  refine j6 (j1 (j2 (j2 (j3 ?_))))
  refine r_assign (iv 0) rfl rfl ?_
  refine j0 (j1 (j4 ?_))
  refine gen_F fun aS bm => ?_
  have b8 := (bm 1).trans b7
  have b9 : aS 4 = (iv 0) := (bm 4).trans rfl
  obtain ⟨ca, cb, hf⟩ := bind_some hf
  refine wp_mono (wp_iter (step := semtyperef1_Valid_l2 rec_semtyperef1_Valid a0) (fun q a w => ∃ (F : Fr) (τ : S), a = fr 59 F ∧ w = τ.w ∧ Agr [2, 4, 5, 6, 24, 25, 26, 27, 28, 29, 30, 31, 32, 33, 34, 35, 36, 37, 38, 39, 40, 41, 42, 43, 44, 45, 46, 47, 48, 49, 50, 51, 52, 53, 54, 55, 56, 57, 58] F aS ∧ ExtB s0.N s0 τ ∧ Wext bl τ ∧ F 4 = (iv q) ∧ Blk s0.N 1 τ aa 27 (Val.cs a0 A1 c2 A4 c5 A7 c8 ac ad)) (fun o e a w => match o with | .inl q => e = .exit 2 ∧ ∃ (F : Fr) (τ : S), a = fr 59 F ∧ w = τ.w ∧ Agr [2, 4, 5, 6, 24, 25, 26, 27, 28, 29, 30, 31, 32, 33, 34, 35, 36, 37, 38, 39, 40, 41, 42, 43, 44, 45, 46, 47, 48, 49, 50, 51, 52, 53, 54, 55, 56, 57, 58] F aS ∧ ExtB s0.N s0 τ ∧ Wext bl τ ∧ F 4 = (iv q) ∧ Blk s0.N 1 τ aa 27 (Val.cs a0 A1 c2 A4 c5 A7 c8 ac ad) | .inr r => e = .ret ∧ ∃ (F : Fr) (τ : S) (va : Value), a = fr 59 F ∧ w = τ.w ∧ ExtB s0.N s0 τ ∧ ResV prog 59 F τ.w (.tmp 2) va ∧ RpV τ r va) (by rintro (_ | _) a w ⟨h, _⟩ <;> cases h) ?_ _ _ _ _ _ cb ?_) ?_
  ·intro ab fl a w hf hI
   obtain ⟨_, _, rfl, rfl, aD, aT, aE, aF, aG⟩ := hI
   unfold semtyperef1_Valid_l2 at hf
   have bn := (aD 1 rfl).trans b8
   refine j2 (j2 (j3 ?_))
   refine r_move (iv ab) aF rfl ?_
   refine r_fieldAddr aa 0 5 5 bn rfl fo27_5 rfl ?_
   refine r_load aa 5 (lv A7 a0.Entries.length c8) rfl rfl (loads_one to24 ((aG.cell 5).trans rfl)) ?_
   refine r_len A7 a0.Entries.length c8 rfl rfl underlying24 ?_
   refine r_bin (iv ab) (iv (a0.Entries.length : Int)) (bv (decide (ab < (a0.Entries.length : Int)))) rfl rfl rfl rfl (b_lss) ?_
   refine j0 (j1 ?_)
   refine if_else hf (fun aU hf => ?_) (fun aU hf => ?_)
   ·refine c_true rfl aU rfl ?_
    refine ja (j1 (j2 (j4 (j2 (j3 ?_)))))
    refine r_fieldAddr aa 0 5 5 bn rfl fo27_5 rfl ?_
    refine r_load aa 5 (lv A7 a0.Entries.length c8) rfl rfl (loads_one to24 ((aG.cell 5).trans rfl)) ?_
    refine r_move (iv ab) aF rfl ?_
    obtain ⟨x93, cc, hf⟩ := bind_some hf
    refine r_indexAddr (T := 24) (E := 65) ((((h9.mono aw.wext).mono az.wext).mono b5).mono aE) cc rfl rfl rfl rfl underlying24 sz65 ?_
    intro cd ce _ cf cg
    obtain ⟨ag, ah, ai, aj, ak, al, am, an, ao, ap, rfl, ch, ci, cj, ck, cl⟩ := Ent.cells_iff.1 cf
    refine r_load cd ce (.agg #[lv ag x93.Args.length ah, bv x93.Fails, iv x93.Result.Kind, iv x93.Result.Int_, tv x93.Result.Text, lv ai x93.Result.Kids.length aj, lv ak x93.Result.Keys.length al, lv am x93.Result.Entries.length an, lv ao x93.Result.Labels.length ap]) rfl rfl (loads_row tr65 cg.2) ?_
    refine r_alloc (B := s0.N) 2 aT.size _ [nl Val, bv false, iv 0, iv 0, tv (⟨#[]⟩), nl Val, nl Key, nl Ent, nl ByteArray] ti65 rfl ?_
    intro _ ae aq cm
    have cn := aT.x aq
    refine r_store cm 0 (.agg #[lv ag x93.Args.length ah, bv x93.Fails, iv x93.Result.Kind, iv x93.Result.Int_, tv x93.Result.Text, lv ai x93.Result.Kids.length aj, lv ak x93.Result.Keys.length al, lv am x93.Result.Entries.length an, lv ao x93.Result.Labels.length ap]) [lv ag x93.Args.length ah, bv x93.Fails, iv x93.Result.Kind, iv x93.Result.Int_, tv x93.Result.Text, lv ai x93.Result.Kids.length aj, lv ak x93.Result.Keys.length al, lv am x93.Result.Entries.length an, lv ao x93.Result.Labels.length ap] [lv ag x93.Args.length ah, bv x93.Fails, iv x93.Result.Kind, iv x93.Result.Int_, tv x93.Result.Text, lv ai x93.Result.Kids.length aj, lv ak x93.Result.Keys.length al, lv am x93.Result.Entries.length an, lv ao x93.Result.Labels.length ap] rfl rfl rfl rfl rfl sz65 rfl rfl rfl ?_
    intro bo ar co
    have cp := cn.y ar
    refine j0 (j1 (j2 (j2 (j3 ?_))))
    refine r_assign (iv 0) rfl rfl ?_
    refine j0 (j1 (j4 ?_))
    refine gen_F fun aH ay => ?_
    have cq := (ay 4).trans aF
    have bp : aH 5 = (.pointer (some ⟨ae, 0, none⟩)) := (ay 5).trans rfl
    have cr : aH 6 = (iv 0) := (ay 6).trans rfl
    obtain ⟨cs, ct, hf⟩ := bind_some hf
    refine wp_mono (wp_iter (step := semtyperef1_Valid_l3 rec_semtyperef1_Valid x93) (fun q a w => ∃ (F : Fr) (τ : S), a = fr 59 F ∧ w = τ.w ∧ Agr [2, 6, 36, 37, 38, 39, 40, 41, 42, 43, 44, 45, 46, 47, 48, 49] F aH ∧ ExtB s0.N s0 τ ∧ Wext bo τ ∧ F 6 = (iv q) ∧ Blk s0.N 1 τ aa 27 (Val.cs a0 A1 c2 A4 c5 A7 c8 ac ad) ∧ Blk s0.N 2 τ ae 65 [lv ag x93.Args.length ah, bv x93.Fails, iv x93.Result.Kind, iv x93.Result.Int_, tv x93.Result.Text, lv ai x93.Result.Kids.length aj, lv ak x93.Result.Keys.length al, lv am x93.Result.Entries.length an, lv ao x93.Result.Labels.length ap]) (fun o e a w => match o with | .inl q => e = .exit 4 ∧ ∃ (F : Fr) (τ : S), a = fr 59 F ∧ w = τ.w ∧ Agr [2, 6, 36, 37, 38, 39, 40, 41, 42, 43, 44, 45, 46, 47, 48, 49] F aH ∧ ExtB s0.N s0 τ ∧ Wext bo τ ∧ F 6 = (iv q) ∧ Blk s0.N 1 τ aa 27 (Val.cs a0 A1 c2 A4 c5 A7 c8 ac ad) ∧ Blk s0.N 2 τ ae 65 [lv ag x93.Args.length ah, bv x93.Fails, iv x93.Result.Kind, iv x93.Result.Int_, tv x93.Result.Text, lv ai x93.Result.Kids.length aj, lv ak x93.Result.Keys.length al, lv am x93.Result.Entries.length an, lv ao x93.Result.Labels.length ap] | .inr r => e = .ret ∧ ∃ (F : Fr) (τ : S) (va : Value), a = fr 59 F ∧ w = τ.w ∧ ExtB s0.N s0 τ ∧ ResV prog 59 F τ.w (.tmp 2) va ∧ RpV τ r va) (by rintro (_ | _) a w ⟨h, _⟩ <;> cases h) ?_ _ _ _ _ _ ct ?_) ?_
    ·intro av fl a w hf hI
     obtain ⟨_, _, rfl, rfl, aV, bq, aW, aI, br, aJ⟩ := hI
     unfold semtyperef1_Valid_l3 at hf
     have bs := (aV 5 rfl).trans bp
     refine j2 (j2 (j3 ?_))
     refine r_move (iv av) aI rfl ?_
     refine r_fieldAddr ae 0 0 0 bs rfl fo65_0 rfl ?_
     refine r_load ae 0 (lv ag x93.Args.length ah) rfl rfl (loads_one to22 ((aJ.cell 0).trans rfl)) ?_
     refine r_len ag x93.Args.length ah rfl rfl underlying22 ?_
     refine r_bin (iv av) (iv (x93.Args.length : Int)) (bv (decide (av < (x93.Args.length : Int)))) rfl rfl rfl rfl (b_lss) ?_
     refine j0 (j1 ?_)
     refine if_else hf (fun aX hf => ?_) (fun aX hf => ?_)
     ·refine c_true rfl aX rfl ?_
      refine ja (j1 (j2 (j4 (j2 (j3 ?_)))))
      refine r_fieldAddr ae 0 0 0 bs rfl fo65_0 rfl ?_
      refine r_load ae 0 (lv ag x93.Args.length ah) rfl rfl (loads_one to22 ((aJ.cell 0).trans rfl)) ?_
      refine r_move (iv av) aI rfl ?_
      obtain ⟨x143, cu, hf⟩ := bind_some hf
      refine r_indexAddr (T := 22) (E := 27) (((ch.mono aq.wext).mono ar.wext).mono aW) cu rfl rfl rfl rfl underlying22 sz27 ?_
      intro cv cw _ cx cy
      obtain ⟨bt, bu, bw, bx, bz, bA, bB, bC, rfl, cz, cA, cB, cC⟩ := Val.cells_iff.1 cx
      refine r_load cv cw (Val.ag x143 bt bu bw bx bz bA bB bC) rfl rfl (loads_row tr27 cy.2) ?_
      obtain ⟨bD, cD, hf⟩ := bind_some hf
      refine r_call [Val.ag x143 bt bu bw bx bz bA bB bC] (evs1 rfl) rfl (hrec_semtyperef1_Valid _ _ _ _ (Val.rpvMk (v := x143) cz cA cB cC) cD) ?_
      intro _ _ aK cE
      have bE := bq.x aK
      obtain rfl := RpV.bool cE
      refine r_un (bv bD) (bv (!bD)) rfl rfl u_not ?_
      refine j0 (j1 ?_)
      refine if_else hf (fun aY hf => ?_) (fun aY hf => ?_)
      ·refine c_true rfl aY rfl ?_
       refine j2 (j3 ?_)
       refine r_assign (bv false) rfl rfl ?_
       refine j0 (j1 (jb (j7 (j9 ?_))))
       obtain rfl := oi hf
       exact ⟨rfl, _, _, (bv false), rfl, rfl, bE, ⟨rfl, rfl⟩, (RpV.mkBool _ _)⟩
      refine c_false rfl aY rfl ?_
      refine ja (j5 (j1 (j3 ?_)))
      refine r_move (iv av) aI rfl ?_
      refine r_bin (iv av) (iv 1) (iv (w64 (av + 1))) rfl rfl rfl rfl (b_add) ?_
      refine r_assign (iv (w64 (av + 1))) rfl rfl ?_
      refine j0 ?_
      obtain rfl := oi hf
      exact ⟨rfl, _, _, rfl, rfl, ((((((((((((((((aV).put rfl).put rfl).put rfl).put rfl).put rfl).put rfl).put rfl).put rfl).put rfl).put rfl).put rfl).put rfl).put rfl).put rfl).put rfl), bE, (((Wext.refl _).trans aW).trans aK.wext), rfl, (br.ext aK), (aJ.ext aK)⟩
     refine c_false rfl aX rfl ?_
     refine jc (j8 ?_)
     obtain rfl := oi hf
     exact ⟨rfl, _, _, rfl, rfl, ((((((aV).put rfl).put rfl).put rfl).put rfl).put rfl), bq, ((Wext.refl _).trans aW), aI, br, aJ⟩
    ·exact ⟨_, _, rfl, rfl, (Agr.refl _ _), cp, (Wext.refl _), cr, ((aG.ext aq).mod ar rfl), co⟩
    intro e a w hp
    rcases cs with cV | r
    ·replace hf := onEnd_inl hf
     obtain ⟨rfl, _, _, rfl, rfl, aL, bF, ax, _, bG, bH⟩ := hp
     have bI := (aL 4 rfl).trans cq
     have bJ := (aL 5 rfl).trans bp
     refine j6 (j1 (j2 (j3 ?_)))
     refine r_fieldAddr ae 0 1 1 bJ rfl fo65_1 rfl ?_
     refine r_load ae 1 (bv x93.Fails) rfl rfl (loads_one to4 ((bH.cell 1).trans rfl)) ?_
     refine r_un (bv x93.Fails) (bv (!x93.Fails)) rfl rfl u_not ?_
     refine r_move (bv (!x93.Fails)) rfl rfl ?_
     refine if_else hf (fun af hf => ?_) (fun af hf => ?_)
     ·refine r_guard (j := 3) (want := true) (d := 53) (c := !x93.Fails) (v := true) rfl rfl af rfl rfl ?_
      refine r_fieldAddr ae 0 2 2 bJ rfl fo65_2 rfl ?_
      refine r_guard (j := 3) (want := true) (d := 53) (c := !x93.Fails) (v := true) rfl rfl af rfl rfl ?_
      refine r_load ae 2 (Val.ag x93.Result ai aj ak al am an ao ap) rfl rfl (loads_row tr27 (Blk.range bH 2 (Val.cs x93.Result ai aj ak al am an ao ap) rfl)) ?_
      refine r_guard (j := 3) (want := true) (d := 53) (c := !x93.Fails) (v := true) rfl rfl af rfl rfl ?_
      obtain ⟨aZ, cF, hf⟩ := bind_some hf
      refine r_call [Val.ag x93.Result ai aj ak al am an ao ap] (evs1 rfl) rfl (hrec_semtyperef1_Valid _ _ _ _ (Val.rpvMk (v := x93.Result) (((ci.mono aq.wext).mono ar.wext).mono ax) (((cj.mono aq.wext).mono ar.wext).mono ax) (((ck.mono aq.wext).mono ar.wext).mono ax) (((cl.mono aq.wext).mono ar.wext).mono ax)) cF) ?_
      intro _ _ a1 cG
      have bK := bF.x a1
      obtain rfl := RpV.bool cG
      refine r_guard (j := 3) (want := true) (d := 53) (c := !x93.Fails) (v := true) rfl rfl af rfl rfl ?_
      refine r_un (bv aZ) (bv (!aZ)) rfl rfl u_not ?_
      refine r_pick_t (c := !x93.Fails) (bv (!aZ)) rfl af rfl rfl rfl rfl ?_
      refine j0 (j1 ?_)
      refine if_else hf (fun a2 hf => ?_) (fun a2 hf => ?_)
      ·refine c_true rfl a2 rfl ?_
       refine j2 (j3 ?_)
       refine r_assign (bv false) rfl rfl ?_
       refine j0 (j1 (jb (j7 (j9 ?_))))
       obtain rfl := oi hf
       exact ⟨rfl, _, _, (bv false), rfl, rfl, bK, ⟨rfl, rfl⟩, (RpV.mkBool _ _)⟩
      refine c_false rfl a2 rfl ?_
      refine ja (j5 (j1 (j3 ?_)))
      refine r_move (iv ab) bI rfl ?_
      refine r_bin (iv ab) (iv 1) (iv (w64 (ab + 1))) rfl rfl rfl rfl (b_add) ?_
      refine r_assign (iv (w64 (ab + 1))) rfl rfl ?_
      refine j0 ?_
      obtain rfl := oi hf
      exact ⟨rfl, _, _, rfl, rfl, ((((((((((((((((((((((((((((aD).put rfl).put rfl).put rfl).put rfl).put rfl).put rfl).put rfl).put rfl).put rfl).put rfl).put rfl).put0).put rfl).gen ay).loop aL rfl).put rfl).put rfl).put rfl).put rfl).put rfl).put rfl).put rfl).put rfl).put rfl).put rfl).put rfl).put rfl), bK, ((((((Wext.refl _).trans aE).trans aq.wext).trans ar.wext).trans ax).trans a1.wext), rfl, (bG.ext a1)⟩
     refine r_skip (j := 3) (want := true) (d := 53) (c := !x93.Fails) (v := false) rfl rfl af rfl rfl ?_
     refine r_skip (j := 3) (want := true) (d := 53) (c := !x93.Fails) (v := false) rfl rfl af rfl rfl ?_
     refine r_skip (j := 3) (want := true) (d := 53) (c := !x93.Fails) (v := false) rfl rfl af rfl rfl ?_
     refine r_skip (j := 3) (want := true) (d := 53) (c := !x93.Fails) (v := false) rfl rfl af rfl rfl ?_
     refine r_pick_f (c := !x93.Fails) (bv false) rfl af rfl rfl rfl rfl ?_
     refine j0 (j1 ?_)
     refine c_false rfl rfl rfl ?_
     refine ja (j5 (j1 (j3 ?_)))
     refine r_move (iv ab) bI rfl ?_
     refine r_bin (iv ab) (iv 1) (iv (w64 (ab + 1))) rfl rfl rfl rfl (b_add) ?_
     refine r_assign (iv (w64 (ab + 1))) rfl rfl ?_
     refine j0 ?_
     obtain rfl := oi hf
     exact ⟨rfl, _, _, rfl, rfl, ((((((((((((((((((((((((((((aD).put rfl).put rfl).put rfl).put rfl).put rfl).put rfl).put rfl).put rfl).put rfl).put rfl).put rfl).put0).put rfl).gen ay).loop aL rfl).put rfl).put rfl).put rfl).put rfl).put rfl).put rfl).put rfl).put rfl).put rfl).put rfl).put rfl).put rfl), bF, (((((Wext.refl _).trans aE).trans aq.wext).trans ar.wext).trans ax), rfl, bG⟩
    replace hf := onEnd_inr hf
    obtain ⟨rfl, _, _, cH, rfl, rfl, cI, cJ, cK⟩ := hp
    refine j7 (j9 (j7 (j9 ?_)))
    obtain rfl := oi hf
    exact ⟨rfl, _, _, cH, rfl, rfl, cI, cJ, cK⟩
   refine c_false rfl aU rfl ?_
   refine jc (j8 ?_)
   obtain rfl := oi hf
   exact ⟨rfl, _, _, rfl, rfl, ((((((aD).put rfl).put rfl).put rfl).put rfl).put rfl), aT, ((Wext.refl _).trans aE), aF, aG⟩
  ·exact ⟨_, _, rfl, rfl, (Agr.refl _ _), b4, (Wext.refl _), b9, b6⟩
  intro e a w hp
  rcases ca with cW | r
  ·replace hf := onEnd_inl hf
   obtain ⟨rfl, _, _, rfl, rfl, _, cL, _, _, _⟩ := hp
   refine j6 (j1 (j2 (j3 ?_)))
   refine r_assign (bv true) rfl rfl ?_
   refine j0 (j1 (jb ?_))
   obtain rfl := oi hf
   refine ret_one (bv true) rfl ⟨rfl, rfl⟩ cL ?_
   exact (RpV.mkBool _ _)
  replace hf := onEnd_inr hf
  obtain ⟨rfl, _, _, cM, rfl, rfl, cN, cO, cP⟩ := hp
  refine j7 (j9 ?_)
  obtain rfl := oi hf
  refine ret_one cM rfl cO cN ?_
  exact cP
 replace hf := onEnd_inr hf
 obtain ⟨rfl, _, _, cQ, rfl, rfl, cR, cS, cT⟩ := hp
 refine j7 (j9 ?_)
 obtain rfl := oi hf
 refine ret_one cQ rfl cS cR ?_
 exact cT

theorem ok_semtyperef1_Valid : ∀ n : Nat, S_semtyperef1_Valid (semtyperef1_Valid n)
  | 0 => by intro _ _ _ _ _ h; cases h
  | n + 1 => okB_semtyperef1_Valid n (ok_semtyperef1_Valid n)

def S_semtypelaw4_judged (f : (Val → Option Bool)) : Prop := ∀ (s0 : S) (v0 : Value) (a0 : Val) (r : Bool), RpV s0 a0 v0 → f a0 = some r → Ctr Go.Proofs.Try.prog 11 [v0] s0 (fun v τ => RpV τ r v)

theorem ok_semtypelaw4_judged (fuel : Nat) : S_semtypelaw4_judged (semtypelaw4_judged fuel) := by
 intro s0 v0 a0 r hp0 hf
 obtain ⟨A1, c2, A4, c5, A7, c8, ab, ac, rfl, h3, h6, h9, ag⟩ := Val.rpv hp0
 unfold semtypelaw4_judged at hf
 have E0 : ExtB s0.N s0 s0 := ExtB.refl _ _
 refine ctr_of 11 func11 rfl rfl rfl rfl ?_
 refine j2 (j3 ?_)
 refine r_box (B := s0.N) 1 E0.size (Val.ag a0 A1 c2 A4 c5 A7 c8 ab ac) (Val.cs a0 A1 c2 A4 c5 A7 c8 ab ac) rfl rfl rfl ?_
 intro _ ah aa ai
 have al := E0.x aa
 refine r_assign (bv false) rfl rfl ?_
 refine j0 (j1 (j2 (j2 (j3 ?_))))
 refine r_load ah 0 (Val.ag a0 A1 c2 A4 c5 A7 c8 ab ac) rfl rfl (loads_row tr27 (Blk.range ai 0 (Val.cs a0 A1 c2 A4 c5 A7 c8 ab ac) rfl)) ?_
 obtain ⟨_, am, hf⟩ := bind_some hf
 refine r_call [Val.ag a0 A1 c2 A4 c5 A7 c8 ab ac] (evs1 rfl) rfl ((ok_semtyperef1_Valid fuel) _ _ _ _ (Val.rpvMk (v := a0) (h3.mono aa.wext) (h6.mono aa.wext) (h9.mono aa.wext) (ag.mono aa.wext)) am) ?_
 intro _ _ ad an
 have ak := al.x ad
 obtain rfl := RpV.bool an
 refine j0 (j1 ?_)
 refine if_else hf (fun aj hf => ?_) (fun aj hf => ?_)
 ·refine c_true rfl aj rfl ?_
  refine j2 (j3 ?_)
  refine r_load ah 0 (Val.ag a0 A1 c2 A4 c5 A7 c8 ab ac) rfl rfl (loads_row tr27 (Blk.range (ai.ext ad) 0 (Val.cs a0 A1 c2 A4 c5 A7 c8 ab ac) rfl)) ?_
  obtain ⟨ae, ao, hf⟩ := bind_some hf
  refine r_call [Val.ag a0 A1 c2 A4 c5 A7 c8 ab ac] (evs1 rfl) rfl ((ok_value_Validate fuel) _ _ _ _ (Val.rpvMk (v := a0) ((h3.mono aa.wext).mono ad.wext) ((h6.mono aa.wext).mono ad.wext) ((h9.mono aa.wext).mono ad.wext) ((ag.mono aa.wext).mono ad.wext)) ao) ?_
  intro _ _ ap aq
  have ar := ak.x ap
  obtain rfl := RpV.int aq
  refine r_bin (iv ae) (iv 0) (bv (ae == 0)) rfl rfl rfl rfl (b_eql) ?_
  refine r_assign (bv (ae == 0)) rfl rfl ?_
  refine j0 (j1 (jb (j9 ?_)))
  obtain rfl := oi hf
  refine ret_one (bv (ae == 0)) rfl ⟨rfl, rfl⟩ ar ?_
  exact (RpV.mkBool _ _)
 refine c_false rfl aj rfl ?_
 refine ja (j1 (j2 (j3 ?_)))
 refine r_load ah 0 (Val.ag a0 A1 c2 A4 c5 A7 c8 ab ac) rfl rfl (loads_row tr27 (Blk.range (ai.ext ad) 0 (Val.cs a0 A1 c2 A4 c5 A7 c8 ab ac) rfl)) ?_
 obtain ⟨af, au, hf⟩ := bind_some hf
 refine r_call [Val.ag a0 A1 c2 A4 c5 A7 c8 ab ac] (evs1 rfl) rfl ((ok_value_Validate fuel) _ _ _ _ (Val.rpvMk (v := a0) ((h3.mono aa.wext).mono ad.wext) ((h6.mono aa.wext).mono ad.wext) ((h9.mono aa.wext).mono ad.wext) ((ag.mono aa.wext).mono ad.wext)) au) ?_
 intro _ _ av aw
 have ax := ak.x av
 obtain rfl := RpV.int aw
 refine r_bin (iv af) (iv 1) (bv (af == 1)) rfl rfl rfl rfl (b_eql) ?_
 refine r_assign (bv (af == 1)) rfl rfl ?_
 refine j0 (j1 (jb ?_))
 obtain rfl := oi hf
 refine ret_one (bv (af == 1)) rfl ⟨rfl, rfl⟩ ax ?_
 exact (RpV.mkBool _ _)

def S_semtypelaw4_ValueValid (f : (Val → (List Int) → Int → Int → ByteArray → Option Bool)) : Prop := ∀ (s0 : S) (v0 : Value) (v1 : Value) (v2 : Value) (v3 : Value) (v4 : Value) (a0 : Val) (a1 : (List Int)) (a2 : Int) (a3 : Int) (a4 : ByteArray) (r : Bool), RpV s0 a0 v0 → RpV s0 a1 v1 → RpV s0 a2 v2 → RpV s0 a3 v3 → RpV s0 a4 v4 → f a0 a1 a2 a3 a4 = some r → Ctr Go.Proofs.Try.prog 3 [v0, v1, v2, v3, v4] s0 (fun v τ => RpV τ r v)

end Go.Sx
