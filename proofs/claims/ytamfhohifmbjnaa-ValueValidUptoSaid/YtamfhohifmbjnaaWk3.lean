/- Printed by dec.py. The walks. -/
import Derived.Test.YtamfhohifmbjnaaWk2
namespace Go.Sx
open Go Go.RowKit
attribute [local irreducible] Go.wpList Go.Code.wp Go.Sx.Ctr Go.Sx.CtrE
set_option maxHeartbeats 1600000
set_option maxRecDepth 100000
open Go.Proofs.Try

theorem okB_semtyperef1_Compare {rec_semtyperef1_Compare : (Val → Val → Option Int)} {rec_semtyperef1_values : ((List Val) → (List Val) → Option Int)} {rec_semtyperef1_CompareEntries : (Ent → Ent → Option Int)} (_hrec_semtyperef1_Compare : S_semtyperef1_Compare rec_semtyperef1_Compare) (hrec_semtyperef1_values : S_semtyperef1_values rec_semtyperef1_values) (hrec_semtyperef1_CompareEntries : S_semtyperef1_CompareEntries rec_semtyperef1_CompareEntries) : S_semtyperef1_Compare (semtyperef1_Compare_B rec_semtyperef1_Compare rec_semtyperef1_values rec_semtyperef1_CompareEntries) := by
 intro s0 v0 v1 a0 a1 r hp0 hp1 hf
 obtain ⟨A1, c2, A4, c5, A7, c8, ak, al, rfl, h3, h6, h9, cj⟩ := Val.rpv hp0
 obtain ⟨aw, ax, ao, ap, aq, ar, au, av, rfl, ck, cl, cm, cn⟩ := Val.rpv hp1
 unfold semtyperef1_Compare_B at hf
 have E0 : ExtB s0.N s0 s0 := ExtB.refl _ _
 refine ctr_of 155 func13 rfl rfl rfl rfl ?_
 refine j2 (j3 ?_)
 refine r_box (B := s0.N) 1 E0.size (Val.ag a0 A1 c2 A4 c5 A7 c8 ak al) (Val.cs a0 A1 c2 A4 c5 A7 c8 ak al) rfl rfl rfl ?_
 intro _ ac aG aH
 have bM := E0.x aG
 refine r_box (B := s0.N) 2 bM.size (Val.ag a1 aw ax ao ap aq ar au av) (Val.cs a1 aw ax ao ap aq ar au av) rfl rfl rfl ?_
 intro bN ae an aI
 have aP := bM.x an
 refine r_assign (iv 0) rfl rfl ?_
 refine j0 (j1 (j2 (j2 (j3 ?_))))
 refine r_fieldAddr ac 0 0 0 rfl rfl fo27_0 rfl ?_
 refine r_load ac 0 (iv a0.Kind) rfl rfl (loads_one to3 (((aH.ext an).cell 0).trans rfl)) ?_
 refine r_fieldAddr ae 0 0 0 rfl rfl fo27_0 rfl ?_
 refine r_load ae 0 (iv a1.Kind) rfl rfl (loads_one to3 ((aI.cell 0).trans rfl)) ?_
 refine r_bin (iv a0.Kind) (iv a1.Kind) (bv (a0.Kind != a1.Kind)) rfl rfl rfl rfl (b_neq) ?_
 refine j0 (j1 ?_)
 refine if_else hf (fun bg hf => ?_) (fun bg hf => ?_)
 ·refine c_true rfl bg rfl ?_
  refine j2 (j3 ?_)
  refine r_fieldAddr ac 0 0 0 rfl rfl fo27_0 rfl ?_
  refine r_load ac 0 (iv a0.Kind) rfl rfl (loads_one to3 (((aH.ext an).cell 0).trans rfl)) ?_
  refine r_fieldAddr ae 0 0 0 rfl rfl fo27_0 rfl ?_
  refine r_load ae 0 (iv a1.Kind) rfl rfl (loads_one to3 ((aI.cell 0).trans rfl)) ?_
  obtain ⟨bO, co, hf⟩ := bind_some hf
  refine r_call [iv a0.Kind, iv a1.Kind] (evs2 rfl rfl) rfl (ok_semtyperef1_count _ _ _ _ _ _ (RpV.mkInt _ _) (RpV.mkInt _ _) co) ?_
  intro _ _ cp cq
  have cr := aP.x cp
  obtain rfl := RpV.int cq
  refine r_assign (iv bO) rfl rfl ?_
  refine j0 (j1 (jb (j9 ?_)))
  obtain rfl := oi hf
  refine ret_one (iv bO) rfl ⟨rfl, rfl⟩ cr ?_
  exact (RpV.mkInt _ _)
 refine c_false rfl bg rfl ?_
 refine ja (j1 (j2 (j2 (j3 ?_))))
 refine r_fieldAddr ac 0 1 1 rfl rfl fo27_1 rfl ?_
 refine r_load ac 1 (iv a0.Int_) rfl rfl (loads_one to2 (((aH.ext an).cell 1).trans rfl)) ?_
 refine r_fieldAddr ae 0 1 1 rfl rfl fo27_1 rfl ?_
 refine r_load ae 1 (iv a1.Int_) rfl rfl (loads_one to2 ((aI.cell 1).trans rfl)) ?_
 refine r_bin (iv a0.Int_) (iv a1.Int_) (bv (a0.Int_ != a1.Int_)) rfl rfl rfl rfl (b_neq) ?_
 refine j0 (j1 ?_)
 refine if_else hf (fun bh hf => ?_) (fun bh hf => ?_)
 ·refine c_true rfl bh rfl ?_
  refine j2 (j3 ?_)
  refine r_fieldAddr ac 0 1 1 rfl rfl fo27_1 rfl ?_
  refine r_load ac 1 (iv a0.Int_) rfl rfl (loads_one to2 (((aH.ext an).cell 1).trans rfl)) ?_
  refine r_fieldAddr ae 0 1 1 rfl rfl fo27_1 rfl ?_
  refine r_load ae 1 (iv a1.Int_) rfl rfl (loads_one to2 ((aI.cell 1).trans rfl)) ?_
  obtain ⟨bP, cs, hf⟩ := bind_some hf
  refine r_call [iv a0.Int_, iv a1.Int_] (evs2 rfl rfl) rfl (ok_semtyperef1_Order _ _ _ _ _ _ (RpV.mkInt _ _) (RpV.mkInt _ _) cs) ?_
  intro _ _ ct cu
  have cv := aP.x ct
  obtain rfl := RpV.int cu
  refine r_assign (iv bP) rfl rfl ?_
  refine j0 (j1 (jb (j9 ?_)))
  obtain rfl := oi hf
  refine ret_one (iv bP) rfl ⟨rfl, rfl⟩ cv ?_
  exact (RpV.mkInt _ _)
 refine c_false rfl bh rfl ?_
 refine ja (j1 (j2 (j2 (j3 ?_))))
 refine r_fieldAddr ac 0 2 2 rfl rfl fo27_2 rfl ?_
 refine r_load ac 2 (tv a0.Text) rfl rfl (loads_one to9 (((aH.ext an).cell 2).trans rfl)) ?_
 refine r_fieldAddr ae 0 2 2 rfl rfl fo27_2 rfl ?_
 refine r_load ae 2 (tv a1.Text) rfl rfl (loads_one to9 ((aI.cell 2).trans rfl)) ?_
 refine r_bin (tv a0.Text) (tv a1.Text) (bv (!strEq a0.Text a1.Text)) rfl rfl rfl rfl (b_sneq) ?_
 refine j0 (j1 ?_)
 refine if_else hf (fun bi hf => ?_) (fun bi hf => ?_)
 ·refine c_true rfl bi rfl ?_
  refine j2 (j3 ?_)
  refine r_fieldAddr ac 0 2 2 rfl rfl fo27_2 rfl ?_
  refine r_load ac 2 (tv a0.Text) rfl rfl (loads_one to9 (((aH.ext an).cell 2).trans rfl)) ?_
  refine r_fieldAddr ae 0 2 2 rfl rfl fo27_2 rfl ?_
  refine r_load ae 2 (tv a1.Text) rfl rfl (loads_one to9 ((aI.cell 2).trans rfl)) ?_
  obtain ⟨bQ, cw, hf⟩ := bind_some hf
  refine r_call [tv a0.Text, tv a1.Text] (evs2 rfl rfl) rfl (ok_semtyperef1_Text _ _ _ _ _ _ (RpV.mkStr _ _) (RpV.mkStr _ _) cw) ?_
  intro _ _ cx cy
  have cz := aP.x cx
  obtain rfl := RpV.int cy
  refine r_assign (iv bQ) rfl rfl ?_
  refine j0 (j1 (jb (j9 ?_)))
  obtain rfl := oi hf
  refine ret_one (iv bQ) rfl ⟨rfl, rfl⟩ cz ?_
  exact (RpV.mkInt _ _)
 refine c_false rfl bi rfl ?_
 refine ja (j1 (j2 (j2 (j3 ?_))))
 refine r_fieldAddr ac 0 4 4 rfl rfl fo27_4 rfl ?_
 refine r_load ac 4 (lv A4 a0.Keys.length c5) rfl rfl (loads_one to23 (((aH.ext an).cell 4).trans rfl)) ?_
 refine r_len A4 a0.Keys.length c5 rfl rfl underlying23 ?_
 refine r_fieldAddr ae 0 4 4 rfl rfl fo27_4 rfl ?_
 refine r_load ae 4 (lv ao a1.Keys.length ap) rfl rfl (loads_one to23 ((aI.cell 4).trans rfl)) ?_
 refine r_len ao a1.Keys.length ap rfl rfl underlying23 ?_
 refine r_bin (iv (a0.Keys.length : Int)) (iv (a1.Keys.length : Int)) (bv ((a0.Keys.length : Int) != (a1.Keys.length : Int))) rfl rfl rfl rfl (b_neq) ?_
 refine j0 (j1 ?_)
 refine if_else hf (fun bj hf => ?_) (fun bj hf => ?_)
 ·refine c_true rfl bj rfl ?_
  refine j2 (j3 ?_)
  refine r_fieldAddr ac 0 4 4 rfl rfl fo27_4 rfl ?_
  refine r_load ac 4 (lv A4 a0.Keys.length c5) rfl rfl (loads_one to23 (((aH.ext an).cell 4).trans rfl)) ?_
  refine r_len A4 a0.Keys.length c5 rfl rfl underlying23 ?_
  refine r_fieldAddr ae 0 4 4 rfl rfl fo27_4 rfl ?_
  refine r_load ae 4 (lv ao a1.Keys.length ap) rfl rfl (loads_one to23 ((aI.cell 4).trans rfl)) ?_
  refine r_len ao a1.Keys.length ap rfl rfl underlying23 ?_
  obtain ⟨bR, cA, hf⟩ := bind_some hf
  refine r_call [iv (a0.Keys.length : Int), iv (a1.Keys.length : Int)] (evs2 rfl rfl) rfl (ok_semtyperef1_count _ _ _ _ _ _ (RpV.mkInt _ _) (RpV.mkInt _ _) cA) ?_
  intro _ _ cB cC
  have cD := aP.x cB
  obtain rfl := RpV.int cC
  refine r_assign (iv bR) rfl rfl ?_
  refine j0 (j1 (jb (j9 ?_)))
  obtain rfl := oi hf
  refine ret_one (iv bR) rfl ⟨rfl, rfl⟩ cD ?_
  exact (RpV.mkInt _ _)
 refine c_false rfl bj rfl ?_
 refine ja (j1 (j2 (j2 (j3 ?_))))
 refine r_assign (iv 0) rfl rfl ?_
 refine j0 (j1 (j4 ?_))
 refine gen_F fun aQ bk => ?_
 have bS : aQ 2 = (.pointer (some ⟨ac, 0, none⟩)) := (bk 2).trans rfl
 have bT : aQ 3 = (.pointer (some ⟨ae, 0, none⟩)) := (bk 3).trans rfl
 have cE : aQ 5 = (iv 0) := (bk 5).trans rfl
 obtain ⟨cF, cG, hf⟩ := bind_some hf
 refine wp_mono (wp_iter (step := semtyperef1_Compare_l1 a0 a1) (fun q a w => ∃ (F : Fr) (τ : S), a = fr 155 F ∧ w = τ.w ∧ Agr [4, 5, 6, 56, 57, 58, 59, 60, 61, 62, 63, 64, 65, 66, 67, 68, 69, 70, 71, 72, 73, 74, 75, 76] F aQ ∧ ExtB s0.N s0 τ ∧ Wext bN τ ∧ F 5 = (iv q) ∧ Blk s0.N 1 τ ac 27 (Val.cs a0 A1 c2 A4 c5 A7 c8 ak al) ∧ Blk s0.N 2 τ ae 27 (Val.cs a1 aw ax ao ap aq ar au av)) (fun o e a w => match o with | .inl q => e = .exit 0 ∧ ∃ (F : Fr) (τ : S), a = fr 155 F ∧ w = τ.w ∧ Agr [4, 5, 6, 56, 57, 58, 59, 60, 61, 62, 63, 64, 65, 66, 67, 68, 69, 70, 71, 72, 73, 74, 75, 76] F aQ ∧ ExtB s0.N s0 τ ∧ Wext bN τ ∧ F 5 = (iv q) ∧ Blk s0.N 1 τ ac 27 (Val.cs a0 A1 c2 A4 c5 A7 c8 ak al) ∧ Blk s0.N 2 τ ae 27 (Val.cs a1 aw ax ao ap aq ar au av) | .inr r => e = .ret ∧ ∃ (F : Fr) (τ : S) (va : Value), a = fr 155 F ∧ w = τ.w ∧ ExtB s0.N s0 τ ∧ ResV prog 155 F τ.w (.tmp 4) va ∧ RpV τ r va) (by rintro (_ | _) a w ⟨h, _⟩ <;> cases h) ?_ _ _ _ _ _ cG ?_) ?_
 ·intro ay fl a w hf hI
  obtain ⟨_, _, rfl, rfl, a6, bl, a7, aR, bm, bU⟩ := hI
  unfold semtyperef1_Compare_l1 at hf
  have bV := (a6 2 rfl).trans bS
  have cH := (a6 3 rfl).trans bT
  refine j2 (j2 (j3 ?_))
  refine r_move (iv ay) aR rfl ?_
  refine r_fieldAddr ac 0 4 4 bV rfl fo27_4 rfl ?_
  refine r_load ac 4 (lv A4 a0.Keys.length c5) rfl rfl (loads_one to23 ((bm.cell 4).trans rfl)) ?_
  refine r_len A4 a0.Keys.length c5 rfl rfl underlying23 ?_
  refine r_bin (iv ay) (iv (a0.Keys.length : Int)) (bv (decide (ay < (a0.Keys.length : Int)))) rfl rfl rfl rfl (b_lss) ?_
  refine j0 (j1 ?_)
  refine if_else hf (fun bn hf => ?_) (fun bn hf => ?_)
  ·refine c_true rfl bn rfl ?_
   refine ja (j1 (j2 (j4 (j2 ?_))))
   obtain ⟨x85, cI, hf⟩ := bind_some hf
   obtain ⟨x87, cJ, hf⟩ := bind_some hf
   obtain ⟨aD, cK, hf⟩ := bind_some hf
   refine wp_draw (B := frExt s0.N) (sm 63 11 ++ [some 6]) [[], [0], [], rg 3, rg 4, [], [5], [], [5, 6, 7], [5, 6, 7, 8], rg 10, rg 11] [Fct.eqv (.pointer (some ⟨ac, 4, none⟩)), Fct.eqv (lv A4 a0.Keys.length c5), Fct.eqv (iv ay), Fct.elem (x85 : Key), Fct.data (x85 : Key), Fct.eqv (.pointer (some ⟨ae, 4, none⟩)), Fct.eqv (lv ao a1.Keys.length ap), Fct.eqv (iv ay), Fct.elem (x87 : Key), Fct.data (x87 : Key), Fct.eqv (iv aD), Fct.eqv (iv aD)] (fun D F τ => (Blk s0.N 1 τ ac 27 (Val.cs a0 A1 c2 A4 c5 A7 c8 ak al)) ∧ (Blk s0.N 2 τ ae 27 (Val.cs a1 aw ax ao ap aq ar au av))) (by kernel_rfl) rfl (by decide) (by decide) ⟨(bm.ext (ext_draw _)), (bU.ext (ext_draw _))⟩ (by decide) (by decide) ⟨?_, ?_, ?_, ?_, ?_, ?_, ?_, ?_, ?_, ?_, ?_, ?_, trivial⟩ ?_
   ·intro _ _ _ _ _ _ _ _ aa ab _
    obtain ⟨_, _⟩ := id aa
    refine r_fieldAddr ac 0 4 4 ((ab 2 rfl).trans bV) rfl fo27_4 rfl ?_
    exact d0 ⟨rfl, aa⟩
   ·intro _ _ _ _ _ _ _ _ aa _ ab
    obtain ⟨ad, _⟩ := id aa
    have af := ad
    refine r_load ac 4 (lv A4 a0.Keys.length c5) (ab 0 rfl 63 rfl) rfl (loads_one to23 ((af.cell 4).trans rfl)) ?_
    exact d0 ⟨rfl, aa⟩
   ·intro _ _ _ _ _ _ _ _ aa ab _
    refine r_move (iv ay) ((ab 5 rfl).trans aR) rfl ?_
    exact d0 ⟨rfl, aa⟩
   ·intro _ _ _ _ _ _ _ aa ab _ ad
    refine r_indexAddr (T := 23) (E := 60) ((((h6.mono aG.wext).mono an.wext).mono a7).mono aa) cI (ad 1 rfl 64 rfl) (ad 2 rfl 65 rfl) rfl rfl underlying23 sz60 ?_
    intro _ _ _ af ag
    obtain rfl := Key.cells_iff.1 af
    exact d0 ⟨⟨_, _, _, rfl, (Key.cells_iff.2 rfl), ag⟩, ab⟩
   ·intro _ aa ab _ _ _ _ _ ad _ af
    obtain ⟨ag, ai, _, ah, aj, am⟩ : (Fct.elem (x85 : Key)).p (aa 66) ab := af 3 rfl 66 rfl
    obtain rfl := Key.cells_iff.1 aj
    refine r_load ag ai (Key.ag x85) ah rfl (loads_row tr60 am.2) ?_
    exact d0 ⟨(Key.rpvMk (v := x85) ), ad⟩
   ·intro _ _ _ _ _ _ _ _ aa ab _
    obtain ⟨_, _⟩ := id aa
    refine r_fieldAddr ae 0 4 4 ((ab 3 rfl).trans cH) rfl fo27_4 rfl ?_
    exact d0 ⟨rfl, aa⟩
   ·intro _ _ _ _ _ _ _ _ aa _ ab
    obtain ⟨_, ad⟩ := id aa
    have af := ad
    refine r_load ae 4 (lv ao a1.Keys.length ap) (ab 5 rfl 68 rfl) rfl (loads_one to23 ((af.cell 4).trans rfl)) ?_
    exact d0 ⟨rfl, aa⟩
   ·intro _ _ _ _ _ _ _ _ aa ab _
    refine r_move (iv ay) ((ab 5 rfl).trans aR) rfl ?_
    exact d0 ⟨rfl, aa⟩
   ·intro _ _ _ _ _ _ _ aa ab _ ad
    refine r_indexAddr (T := 23) (E := 60) ((((cl.mono aG.wext).mono an.wext).mono a7).mono aa) cJ (ad 6 rfl 69 rfl) (ad 7 rfl 70 rfl) rfl rfl underlying23 sz60 ?_
    intro _ _ _ af ag
    obtain rfl := Key.cells_iff.1 af
    exact d0 ⟨⟨_, _, _, rfl, (Key.cells_iff.2 rfl), ag⟩, ab⟩
   ·intro _ aa ab _ _ _ _ _ ad _ af
    obtain ⟨ag, ai, _, ah, aj, am⟩ : (Fct.elem (x87 : Key)).p (aa 71) ab := af 8 rfl 71 rfl
    obtain rfl := Key.cells_iff.1 aj
    refine r_load ag ai (Key.ag x87) ah rfl (loads_row tr60 am.2) ?_
    exact d0 ⟨(Key.rpvMk (v := x87) ), ad⟩
   ·intro _ aa ab _ _ _ ad _ af _ ag
    have ai := bl.trans ad
    obtain ⟨ah, aj⟩ := id af
    have am : RpV ab (x85 : Key) (aa 67) := ag 4 rfl 67 rfl
    have az := Key.rpv am
    have aK : RpV ab (x87 : Key) (aa 72) := ag 9 rfl 72 rfl
    have aL := Key.rpv aK
    refine r_call [Key.ag x85, Key.ag x87] (evs2 az aL) rfl (ok_semtyperef1_CompareKeys _ _ _ _ _ _ (Key.rpvMk (v := x85) ) (Key.rpvMk (v := x87) ) cK) ?_
    intro _ _ aJ aM
    obtain rfl := RpV.int aM
    exact d1 ai (Nat.le_refl _) aJ ⟨rfl, ⟨(ah.ext aJ), (aj.ext aJ)⟩⟩
   ·intro _ _ _ _ _ _ _ _ aa _ ab
    refine r_assign (iv aD) (ab 10 rfl 73 rfl) rfl ?_
    exact d0 ⟨rfl, aa⟩
   intro cL _ cM cN cO bW cP
   have bX := bl.trans cM
   obtain ⟨cQ, cR⟩ := cO
   have cS := cQ
   have cT := cR
   have cU := (bW 5 rfl).trans aR
   have bY : cL 6 = (iv aD) := cP 11 6 rfl
   refine j1 (j2 (j3 ?_))
   refine r_move (iv aD) bY rfl ?_
   refine r_bin (iv aD) (iv 0) (bv (aD != 0)) rfl rfl rfl rfl (b_neq) ?_
   refine j0 (j1 ?_)
   refine if_else hf (fun bo hf => ?_) (fun bo hf => ?_)
   ·refine c_true rfl bo rfl ?_
    refine j2 (j3 ?_)
    refine r_move (iv aD) bY rfl ?_
    refine r_assign (iv aD) rfl rfl ?_
    refine j0 (j1 (jb (j7 (j9 ?_))))
    obtain rfl := oi hf
    exact ⟨rfl, _, _, (iv aD), rfl, rfl, bX, ⟨rfl, rfl⟩, (RpV.mkInt _ _)⟩
   refine c_false rfl bo rfl ?_
   refine ja (j5 (j1 (j3 ?_)))
   refine r_move (iv ay) cU rfl ?_
   refine r_bin (iv ay) (iv 1) (iv (w64 (ay + 1))) rfl rfl rfl rfl (b_add) ?_
   refine r_assign (iv (w64 (ay + 1))) rfl rfl ?_
   refine j0 ?_
   obtain rfl := oi hf
   exact ⟨rfl, _, _, rfl, rfl, ((((((((((((a6).put rfl).put rfl).put rfl).put rfl).put rfl).draw bW rfl).put rfl).put rfl).put rfl).put rfl).put rfl), bX, (((Wext.refl _).trans a7).trans cN), rfl, cS, cT⟩
  refine c_false rfl bn rfl ?_
  refine jc (j8 ?_)
  obtain rfl := oi hf
  exact ⟨rfl, _, _, rfl, rfl, ((((((a6).put rfl).put rfl).put rfl).put rfl).put rfl), bl, ((Wext.refl _).trans a7), aR, bm, bU⟩
 ·exact ⟨_, _, rfl, rfl, (Agr.refl _ _), aP, (Wext.refl _), cE, (aH.ext an), aI⟩
 intro e a w hp
 rcases cF with ei | r
 ·replace hf := onEnd_inl hf
  obtain ⟨rfl, _, _, rfl, rfl, bZ, cV, aO, _, a8, a9⟩ := hp
  have ba := (bZ 2 rfl).trans bS
  have bb := (bZ 3 rfl).trans bT
  refine j6 (j1 (j2 (j3 ?_)))
  refine r_fieldAddr ac 0 3 3 ba rfl fo27_3 rfl ?_
  refine r_load ac 3 (lv A1 a0.Kids.length c2) rfl rfl (loads_one to22 ((a8.cell 3).trans rfl)) ?_
  refine r_fieldAddr ae 0 3 3 bb rfl fo27_3 rfl ?_
  refine r_load ae 3 (lv aw a1.Kids.length ax) rfl rfl (loads_one to22 ((a9.cell 3).trans rfl)) ?_
  obtain ⟨aN, cW, hf⟩ := bind_some hf
  refine r_call [lv A1 a0.Kids.length c2, lv aw a1.Kids.length ax] (evs2 rfl rfl) rfl (hrec_semtyperef1_values _ _ _ _ _ _ (RpV.mkList (((h3.mono aG.wext).mono an.wext).mono aO)) (RpV.mkList (((ck.mono aG.wext).mono an.wext).mono aO)) cW) ?_
  intro _ b0 aA cX
  have bp := cV.x aA
  obtain rfl := RpV.int cX
  refine r_assign (iv aN) rfl rfl ?_
  refine j0 (j1 (j2 (j2 (j3 ?_))))
  refine r_move (iv aN) rfl rfl ?_
  refine r_bin (iv aN) (iv 0) (bv (aN != 0)) rfl rfl rfl rfl (b_neq) ?_
  refine j0 (j1 ?_)
  refine if_else hf (fun bq hf => ?_) (fun bq hf => ?_)
  ·refine c_true rfl bq rfl ?_
   refine j2 (j3 ?_)
   refine r_move (iv aN) rfl rfl ?_
   refine r_assign (iv aN) rfl rfl ?_
   refine j0 (j1 (jb (j9 ?_)))
   obtain rfl := oi hf
   refine ret_one (iv aN) rfl ⟨rfl, rfl⟩ bp ?_
   exact (RpV.mkInt _ _)
  refine c_false rfl bq rfl ?_
  refine ja (j1 (j2 (j2 (j3 ?_))))
  refine r_fieldAddr ac 0 5 5 ba rfl fo27_5 rfl ?_
  refine r_load ac 5 (lv A7 a0.Entries.length c8) rfl rfl (loads_one to24 (((a8.ext aA).cell 5).trans rfl)) ?_
  refine r_len A7 a0.Entries.length c8 rfl rfl underlying24 ?_
  refine r_fieldAddr ae 0 5 5 bb rfl fo27_5 rfl ?_
  refine r_load ae 5 (lv aq a1.Entries.length ar) rfl rfl (loads_one to24 (((a9.ext aA).cell 5).trans rfl)) ?_
  refine r_len aq a1.Entries.length ar rfl rfl underlying24 ?_
  refine r_bin (iv (a0.Entries.length : Int)) (iv (a1.Entries.length : Int)) (bv ((a0.Entries.length : Int) != (a1.Entries.length : Int))) rfl rfl rfl rfl (b_neq) ?_
  refine j0 (j1 ?_)
  refine if_else hf (fun br hf => ?_) (fun br hf => ?_)
  ·refine c_true rfl br rfl ?_
   refine j2 (j3 ?_)
   refine r_fieldAddr ac 0 5 5 ba rfl fo27_5 rfl ?_
   refine r_load ac 5 (lv A7 a0.Entries.length c8) rfl rfl (loads_one to24 (((a8.ext aA).cell 5).trans rfl)) ?_
   refine r_len A7 a0.Entries.length c8 rfl rfl underlying24 ?_
   refine r_fieldAddr ae 0 5 5 bb rfl fo27_5 rfl ?_
   refine r_load ae 5 (lv aq a1.Entries.length ar) rfl rfl (loads_one to24 (((a9.ext aA).cell 5).trans rfl)) ?_
   refine r_len aq a1.Entries.length ar rfl rfl underlying24 ?_
   obtain ⟨b1, cY, hf⟩ := bind_some hf
   refine r_call [iv (a0.Entries.length : Int), iv (a1.Entries.length : Int)] (evs2 rfl rfl) rfl (ok_semtyperef1_count _ _ _ _ _ _ (RpV.mkInt _ _) (RpV.mkInt _ _) cY) ?_
   intro _ _ cZ c0
   have c1 := bp.x cZ
   obtain rfl := RpV.int c0
   refine r_assign (iv b1) rfl rfl ?_
   refine j0 (j1 (jb (j9 ?_)))
   obtain rfl := oi hf
   refine ret_one (iv b1) rfl ⟨rfl, rfl⟩ c1 ?_
   exact (RpV.mkInt _ _)
  refine c_false rfl br rfl ?_
  refine ja (j1 (j2 (j2 (j3 ?_))))
  refine r_assign (iv 0) rfl rfl ?_
  refine j0 (j1 (j4 ?_))
  refine gen_F fun bs bt => ?_
  have b2 := (bt 2).trans ba
  have b3 := (bt 3).trans bb
  have c3 : bs 8 = (iv 0) := (bt 8).trans rfl
  obtain ⟨c4, c6, hf⟩ := bind_some hf
  refine wp_mono (wp_iter (step := semtyperef1_Compare_l2 rec_semtyperef1_CompareEntries a0 a1) (fun q a w => ∃ (F : Fr) (τ : S), a = fr 155 F ∧ w = τ.w ∧ Agr [4, 8, 9, 99, 100, 101, 102, 103, 104, 105, 106, 107, 108, 109, 110, 111, 112, 113, 114, 115, 116, 117, 118, 119] F bs ∧ ExtB s0.N s0 τ ∧ Wext b0 τ ∧ F 8 = (iv q) ∧ Blk s0.N 1 τ ac 27 (Val.cs a0 A1 c2 A4 c5 A7 c8 ak al) ∧ Blk s0.N 2 τ ae 27 (Val.cs a1 aw ax ao ap aq ar au av)) (fun o e a w => match o with | .inl q => e = .exit 2 ∧ ∃ (F : Fr) (τ : S), a = fr 155 F ∧ w = τ.w ∧ Agr [4, 8, 9, 99, 100, 101, 102, 103, 104, 105, 106, 107, 108, 109, 110, 111, 112, 113, 114, 115, 116, 117, 118, 119] F bs ∧ ExtB s0.N s0 τ ∧ Wext b0 τ ∧ F 8 = (iv q) ∧ Blk s0.N 1 τ ac 27 (Val.cs a0 A1 c2 A4 c5 A7 c8 ak al) ∧ Blk s0.N 2 τ ae 27 (Val.cs a1 aw ax ao ap aq ar au av) | .inr r => e = .ret ∧ ∃ (F : Fr) (τ : S) (va : Value), a = fr 155 F ∧ w = τ.w ∧ ExtB s0.N s0 τ ∧ ResV prog 155 F τ.w (.tmp 4) va ∧ RpV τ r va) (by rintro (_ | _) a w ⟨h, _⟩ <;> cases h) ?_ _ _ _ _ _ c6 ?_) ?_
  ·intro aB fl a w hf hI
   obtain ⟨_, _, rfl, rfl, bc, bu, bd, aS, bw, b4⟩ := hI
   unfold semtyperef1_Compare_l2 at hf
   have b5 := (bc 2 rfl).trans b2
   have c7 := (bc 3 rfl).trans b3
   refine j2 (j2 (j3 ?_))
   refine r_move (iv aB) aS rfl ?_
   refine r_fieldAddr ac 0 5 5 b5 rfl fo27_5 rfl ?_
   refine r_load ac 5 (lv A7 a0.Entries.length c8) rfl rfl (loads_one to24 ((bw.cell 5).trans rfl)) ?_
   refine r_len A7 a0.Entries.length c8 rfl rfl underlying24 ?_
   refine r_bin (iv aB) (iv (a0.Entries.length : Int)) (bv (decide (aB < (a0.Entries.length : Int)))) rfl rfl rfl rfl (b_lss) ?_
   refine j0 (j1 ?_)
   refine if_else hf (fun bx hf => ?_) (fun bx hf => ?_)
   ·refine c_true rfl bx rfl ?_
    refine ja (j1 (j2 (j4 (j2 ?_))))
    obtain ⟨x369, c9, hf⟩ := bind_some hf
    obtain ⟨x371, da, hf⟩ := bind_some hf
    obtain ⟨aE, db, hf⟩ := bind_some hf
    refine wp_draw (B := frExt s0.N) (sm 106 11 ++ [some 9]) [[], [0], [], rg 3, rg 4, [], [5], [], [5, 6, 7], [5, 6, 7, 8], rg 10, rg 11] [Fct.eqv (.pointer (some ⟨ac, 5, none⟩)), Fct.eqv (lv A7 a0.Entries.length c8), Fct.eqv (iv aB), Fct.elem (x369 : Ent), Fct.data (x369 : Ent), Fct.eqv (.pointer (some ⟨ae, 5, none⟩)), Fct.eqv (lv aq a1.Entries.length ar), Fct.eqv (iv aB), Fct.elem (x371 : Ent), Fct.data (x371 : Ent), Fct.eqv (iv aE), Fct.eqv (iv aE)] (fun D F τ => (Blk s0.N 1 τ ac 27 (Val.cs a0 A1 c2 A4 c5 A7 c8 ak al)) ∧ (Blk s0.N 2 τ ae 27 (Val.cs a1 aw ax ao ap aq ar au av))) (by kernel_rfl) rfl (by decide) (by decide) ⟨(bw.ext (ext_draw _)), (b4.ext (ext_draw _))⟩ (by decide) (by decide) ⟨?_, ?_, ?_, ?_, ?_, ?_, ?_, ?_, ?_, ?_, ?_, ?_, trivial⟩ ?_
    ·intro _ _ _ _ _ _ _ _ aa ab _
     obtain ⟨_, _⟩ := id aa
     refine r_fieldAddr ac 0 5 5 ((ab 2 rfl).trans b5) rfl fo27_5 rfl ?_
     exact d0 ⟨rfl, aa⟩
    ·intro _ _ _ _ _ _ _ _ aa _ ab
     obtain ⟨ad, _⟩ := id aa
     have af := ad
     refine r_load ac 5 (lv A7 a0.Entries.length c8) (ab 0 rfl 106 rfl) rfl (loads_one to24 ((af.cell 5).trans rfl)) ?_
     exact d0 ⟨rfl, aa⟩
    ·intro _ _ _ _ _ _ _ _ aa ab _
     refine r_move (iv aB) ((ab 8 rfl).trans aS) rfl ?_
     exact d0 ⟨rfl, aa⟩
    ·intro _ _ _ _ _ _ _ aa ab _ ad
     refine r_indexAddr (T := 24) (E := 65) ((((((h9.mono aG.wext).mono an.wext).mono aO).mono aA.wext).mono bd).mono aa) c9 (ad 1 rfl 107 rfl) (ad 2 rfl 108 rfl) rfl rfl underlying24 sz65 ?_
     intro _ _ _ af ag
     obtain ⟨_, _, _, _, _, _, _, _, _, _, rfl, ai, ah, aj, am, az⟩ := Ent.cells_iff.1 af
     exact d0 ⟨⟨_, _, _, rfl, (Ent.cells_iff.2 ⟨_, _, _, _, _, _, _, _, _, _, rfl, ai, ah, aj, am, az⟩), ag⟩, ab⟩
    ·intro _ aa ab _ _ _ _ _ ad _ af
     obtain ⟨ag, ai, _, ah, aj, am⟩ : (Fct.elem (x369 : Ent)).p (aa 109) ab := af 3 rfl 109 rfl
     obtain ⟨az, aK, aL, aJ, aM, aT, aU, aV, aW, aX, rfl, aY, aZ, a2, a3, a4⟩ := Ent.cells_iff.1 aj
     refine r_load ag ai (.agg #[lv az x369.Args.length aK, bv x369.Fails, iv x369.Result.Kind, iv x369.Result.Int_, tv x369.Result.Text, lv aL x369.Result.Kids.length aJ, lv aM x369.Result.Keys.length aT, lv aU x369.Result.Entries.length aV, lv aW x369.Result.Labels.length aX]) ah rfl (loads_row tr65 am.2) ?_
     exact d0 ⟨(Ent.rpvMk (v := x369) aY aZ a2 a3 a4), ad⟩
    ·intro _ _ _ _ _ _ _ _ aa ab _
     obtain ⟨_, _⟩ := id aa
     refine r_fieldAddr ae 0 5 5 ((ab 3 rfl).trans c7) rfl fo27_5 rfl ?_
     exact d0 ⟨rfl, aa⟩
    ·intro _ _ _ _ _ _ _ _ aa _ ab
     obtain ⟨_, ad⟩ := id aa
     have af := ad
     refine r_load ae 5 (lv aq a1.Entries.length ar) (ab 5 rfl 111 rfl) rfl (loads_one to24 ((af.cell 5).trans rfl)) ?_
     exact d0 ⟨rfl, aa⟩
    ·intro _ _ _ _ _ _ _ _ aa ab _
     refine r_move (iv aB) ((ab 8 rfl).trans aS) rfl ?_
     exact d0 ⟨rfl, aa⟩
    ·intro _ _ _ _ _ _ _ aa ab _ ad
     refine r_indexAddr (T := 24) (E := 65) ((((((cm.mono aG.wext).mono an.wext).mono aO).mono aA.wext).mono bd).mono aa) da (ad 6 rfl 112 rfl) (ad 7 rfl 113 rfl) rfl rfl underlying24 sz65 ?_
     intro _ _ _ af ag
     obtain ⟨_, _, _, _, _, _, _, _, _, _, rfl, ai, ah, aj, am, az⟩ := Ent.cells_iff.1 af
     exact d0 ⟨⟨_, _, _, rfl, (Ent.cells_iff.2 ⟨_, _, _, _, _, _, _, _, _, _, rfl, ai, ah, aj, am, az⟩), ag⟩, ab⟩
    ·intro _ aa ab _ _ _ _ _ ad _ af
     obtain ⟨ag, ai, _, ah, aj, am⟩ : (Fct.elem (x371 : Ent)).p (aa 114) ab := af 8 rfl 114 rfl
     obtain ⟨az, aK, aL, aJ, aM, aT, aU, aV, aW, aX, rfl, aY, aZ, a2, a3, a4⟩ := Ent.cells_iff.1 aj
     refine r_load ag ai (.agg #[lv az x371.Args.length aK, bv x371.Fails, iv x371.Result.Kind, iv x371.Result.Int_, tv x371.Result.Text, lv aL x371.Result.Kids.length aJ, lv aM x371.Result.Keys.length aT, lv aU x371.Result.Entries.length aV, lv aW x371.Result.Labels.length aX]) ah rfl (loads_row tr65 am.2) ?_
     exact d0 ⟨(Ent.rpvMk (v := x371) aY aZ a2 a3 a4), ad⟩
    ·intro _ aa ab _ _ _ ad _ af _ ag
     have ai := bu.trans ad
     obtain ⟨ah, aj⟩ := id af
     have am : RpV ab (x369 : Ent) (aa 110) := ag 4 rfl 110 rfl
     obtain ⟨az, aK, aL, aJ, aM, aT, aU, aV, aW, aX, aY, aZ, a2, a3, a4, dc⟩ := Ent.rpv am
     have dd : RpV ab (x371 : Ent) (aa 115) := ag 9 rfl 115 rfl
     obtain ⟨de, df, dg, dh, di, dj, dk, dl, dm, dn, dp, dq, dr, ds, dt, du⟩ := Ent.rpv dd
     refine r_call [.agg #[lv az x369.Args.length aK, bv x369.Fails, iv x369.Result.Kind, iv x369.Result.Int_, tv x369.Result.Text, lv aL x369.Result.Kids.length aJ, lv aM x369.Result.Keys.length aT, lv aU x369.Result.Entries.length aV, lv aW x369.Result.Labels.length aX], .agg #[lv de x371.Args.length df, bv x371.Fails, iv x371.Result.Kind, iv x371.Result.Int_, tv x371.Result.Text, lv dg x371.Result.Kids.length dh, lv di x371.Result.Keys.length dj, lv dk x371.Result.Entries.length dl, lv dm x371.Result.Labels.length dn]] (evs2 aY dp) rfl (hrec_semtyperef1_CompareEntries _ _ _ _ _ _ (Ent.rpvMk (v := x369) aZ a2 a3 a4 dc) (Ent.rpvMk (v := x371) dq dr ds dt du) db) ?_
     intro _ _ bz dv
     obtain rfl := RpV.int dv
     exact d1 ai (Nat.le_refl _) bz ⟨rfl, ⟨(ah.ext bz), (aj.ext bz)⟩⟩
    ·intro _ _ _ _ _ _ _ _ aa _ ab
     refine r_assign (iv aE) (ab 10 rfl 116 rfl) rfl ?_
     exact d0 ⟨rfl, aa⟩
    intro dw _ dx dy dz b6 dA
    have b7 := bu.trans dx
    obtain ⟨dB, dC⟩ := dz
    have dD := dB
    have dE := dC
    have dF := (b6 8 rfl).trans aS
    have b8 : dw 9 = (iv aE) := dA 11 9 rfl
    refine j1 (j2 (j3 ?_))
    refine r_move (iv aE) b8 rfl ?_
    refine r_bin (iv aE) (iv 0) (bv (aE != 0)) rfl rfl rfl rfl (b_neq) ?_
    refine j0 (j1 ?_)
    refine if_else hf (fun bA hf => ?_) (fun bA hf => ?_)
    ·refine c_true rfl bA rfl ?_
     refine j2 (j3 ?_)
     refine r_move (iv aE) b8 rfl ?_
     refine r_assign (iv aE) rfl rfl ?_
     refine j0 (j1 (jb (j7 (j9 ?_))))
     obtain rfl := oi hf
     exact ⟨rfl, _, _, (iv aE), rfl, rfl, b7, ⟨rfl, rfl⟩, (RpV.mkInt _ _)⟩
    refine c_false rfl bA rfl ?_
    refine ja (j5 (j1 (j3 ?_)))
    refine r_move (iv aB) dF rfl ?_
    refine r_bin (iv aB) (iv 1) (iv (w64 (aB + 1))) rfl rfl rfl rfl (b_add) ?_
    refine r_assign (iv (w64 (aB + 1))) rfl rfl ?_
    refine j0 ?_
    obtain rfl := oi hf
    exact ⟨rfl, _, _, rfl, rfl, ((((((((((((bc).put rfl).put rfl).put rfl).put rfl).put rfl).draw b6 rfl).put rfl).put rfl).put rfl).put rfl).put rfl), b7, (((Wext.refl _).trans bd).trans dy), rfl, dD, dE⟩
   refine c_false rfl bx rfl ?_
   refine jc (j8 ?_)
   obtain rfl := oi hf
   exact ⟨rfl, _, _, rfl, rfl, ((((((bc).put rfl).put rfl).put rfl).put rfl).put rfl), bu, ((Wext.refl _).trans bd), aS, bw, b4⟩
  ·exact ⟨_, _, rfl, rfl, (Agr.refl _ _), bp, (Wext.refl _), c3, (a8.ext aA), (a9.ext aA)⟩
  intro e a w hp
  rcases c4 with ej | r
  ·replace hf := onEnd_inl hf
   obtain ⟨rfl, _, b9, rfl, rfl, ca, cb, cc, _, bB, bC⟩ := hp
   have bD := (ca 2 rfl).trans b2
   have bE := (ca 3 rfl).trans b3
   refine j6 (j1 (j2 (j2 (j3 ?_))))
   refine r_fieldAddr ac 0 6 6 bD rfl fo27_6 rfl ?_
   refine r_load ac 6 (lv ak a0.Labels.length al) rfl rfl (loads_one to25 ((bB.cell 6).trans rfl)) ?_
   refine r_len ak a0.Labels.length al rfl rfl underlying25 ?_
   refine r_fieldAddr ae 0 6 6 bE rfl fo27_6 rfl ?_
   refine r_load ae 6 (lv au a1.Labels.length av) rfl rfl (loads_one to25 ((bC.cell 6).trans rfl)) ?_
   refine r_len au a1.Labels.length av rfl rfl underlying25 ?_
   refine r_bin (iv (a0.Labels.length : Int)) (iv (a1.Labels.length : Int)) (bv ((a0.Labels.length : Int) != (a1.Labels.length : Int))) rfl rfl rfl rfl (b_neq) ?_
   refine j0 (j1 ?_)
   refine if_else hf (fun bF hf => ?_) (fun bF hf => ?_)
   ·refine c_true rfl bF rfl ?_
    refine j2 (j3 ?_)
    refine r_fieldAddr ac 0 6 6 bD rfl fo27_6 rfl ?_
    refine r_load ac 6 (lv ak a0.Labels.length al) rfl rfl (loads_one to25 ((bB.cell 6).trans rfl)) ?_
    refine r_len ak a0.Labels.length al rfl rfl underlying25 ?_
    refine r_fieldAddr ae 0 6 6 bE rfl fo27_6 rfl ?_
    refine r_load ae 6 (lv au a1.Labels.length av) rfl rfl (loads_one to25 ((bC.cell 6).trans rfl)) ?_
    refine r_len au a1.Labels.length av rfl rfl underlying25 ?_
    obtain ⟨cd, dG, hf⟩ := bind_some hf
    refine r_call [iv (a0.Labels.length : Int), iv (a1.Labels.length : Int)] (evs2 rfl rfl) rfl (ok_semtyperef1_count _ _ _ _ _ _ (RpV.mkInt _ _) (RpV.mkInt _ _) dG) ?_
    intro _ _ dH dI
    have dJ := cb.x dH
    obtain rfl := RpV.int dI
    refine r_assign (iv cd) rfl rfl ?_
    refine j0 (j1 (jb (j9 ?_)))
    obtain rfl := oi hf
    refine ret_one (iv cd) rfl ⟨rfl, rfl⟩ dJ ?_
    exact (RpV.mkInt _ _)
   refine c_false rfl bF rfl ?_
   refine ja (j1 (j2 (j2 (j3 ?_))))
   refine r_assign (iv 0) rfl rfl ?_
   refine j0 (j1 (j4 ?_))
   refine gen_F fun bG bH => ?_
   have dK := (bH 2).trans bD
   have dL := (bH 3).trans bE
   have dM : bG 10 = (iv 0) := (bH 10).trans rfl
   obtain ⟨dN, dO, hf⟩ := bind_some hf
   refine wp_mono (wp_iter (step := semtyperef1_Compare_l3 a0 a1) (fun q a w => ∃ (F : Fr) (τ : S), a = fr 155 F ∧ w = τ.w ∧ Agr [4, 10, 11, 134, 135, 136, 137, 138, 139, 140, 141, 142, 143, 144, 145, 146, 147, 148, 149, 150, 151, 152, 153, 154] F bG ∧ ExtB s0.N s0 τ ∧ Wext b9 τ ∧ F 10 = (iv q) ∧ Blk s0.N 1 τ ac 27 (Val.cs a0 A1 c2 A4 c5 A7 c8 ak al) ∧ Blk s0.N 2 τ ae 27 (Val.cs a1 aw ax ao ap aq ar au av)) (fun o e a w => match o with | .inl q => e = .exit 4 ∧ ∃ (F : Fr) (τ : S), a = fr 155 F ∧ w = τ.w ∧ Agr [4, 10, 11, 134, 135, 136, 137, 138, 139, 140, 141, 142, 143, 144, 145, 146, 147, 148, 149, 150, 151, 152, 153, 154] F bG ∧ ExtB s0.N s0 τ ∧ Wext b9 τ ∧ F 10 = (iv q) ∧ Blk s0.N 1 τ ac 27 (Val.cs a0 A1 c2 A4 c5 A7 c8 ak al) ∧ Blk s0.N 2 τ ae 27 (Val.cs a1 aw ax ao ap aq ar au av) | .inr r => e = .ret ∧ ∃ (F : Fr) (τ : S) (va : Value), a = fr 155 F ∧ w = τ.w ∧ ExtB s0.N s0 τ ∧ ResV prog 155 F τ.w (.tmp 4) va ∧ RpV τ r va) (by rintro (_ | _) a w ⟨h, _⟩ <;> cases h) ?_ _ _ _ _ _ dO ?_) ?_
   ·intro aC fl a w hf hI
    obtain ⟨_, _, rfl, rfl, be, bI, bf, a5, bJ, ce⟩ := hI
    unfold semtyperef1_Compare_l3 at hf
    have cf := (be 2 rfl).trans dK
    have dP := (be 3 rfl).trans dL
    refine j2 (j2 (j3 ?_))
    refine r_move (iv aC) a5 rfl ?_
    refine r_fieldAddr ac 0 6 6 cf rfl fo27_6 rfl ?_
    refine r_load ac 6 (lv ak a0.Labels.length al) rfl rfl (loads_one to25 ((bJ.cell 6).trans rfl)) ?_
    refine r_len ak a0.Labels.length al rfl rfl underlying25 ?_
    refine r_bin (iv aC) (iv (a0.Labels.length : Int)) (bv (decide (aC < (a0.Labels.length : Int)))) rfl rfl rfl rfl (b_lss) ?_
    refine j0 (j1 ?_)
    refine if_else hf (fun bK hf => ?_) (fun bK hf => ?_)
    ·refine c_true rfl bK rfl ?_
     refine ja (j1 (j2 (j4 (j2 ?_))))
     obtain ⟨x735, dQ, hf⟩ := bind_some hf
     obtain ⟨x737, dR, hf⟩ := bind_some hf
     obtain ⟨aF, dS, hf⟩ := bind_some hf
     refine wp_draw (B := frExt s0.N) (sm 141 11 ++ [some 11]) [[], [0], [], rg 3, rg 4, [], [5], [], [5, 6, 7], [5, 6, 7, 8], rg 10, rg 11] [Fct.eqv (.pointer (some ⟨ac, 6, none⟩)), Fct.eqv (lv ak a0.Labels.length al), Fct.eqv (iv aC), Fct.elem (x735 : ByteArray), Fct.eqv (tv x735), Fct.eqv (.pointer (some ⟨ae, 6, none⟩)), Fct.eqv (lv au a1.Labels.length av), Fct.eqv (iv aC), Fct.elem (x737 : ByteArray), Fct.eqv (tv x737), Fct.eqv (iv aF), Fct.eqv (iv aF)] (fun D F τ => (Blk s0.N 1 τ ac 27 (Val.cs a0 A1 c2 A4 c5 A7 c8 ak al)) ∧ (Blk s0.N 2 τ ae 27 (Val.cs a1 aw ax ao ap aq ar au av))) (by kernel_rfl) rfl (by decide) (by decide) ⟨(bJ.ext (ext_draw _)), (ce.ext (ext_draw _))⟩ (by decide) (by decide) ⟨?_, ?_, ?_, ?_, ?_, ?_, ?_, ?_, ?_, ?_, ?_, ?_, trivial⟩ ?_
     ·intro _ _ _ _ _ _ _ _ aa ab _
      obtain ⟨_, _⟩ := id aa
      refine r_fieldAddr ac 0 6 6 ((ab 2 rfl).trans cf) rfl fo27_6 rfl ?_
      exact d0 ⟨rfl, aa⟩
     ·intro _ _ _ _ _ _ _ _ aa _ ab
      obtain ⟨ad, _⟩ := id aa
      have af := ad
      refine r_load ac 6 (lv ak a0.Labels.length al) (ab 0 rfl 141 rfl) rfl (loads_one to25 ((af.cell 6).trans rfl)) ?_
      exact d0 ⟨rfl, aa⟩
     ·intro _ _ _ _ _ _ _ _ aa ab _
      refine r_move (iv aC) ((ab 10 rfl).trans a5) rfl ?_
      exact d0 ⟨rfl, aa⟩
     ·intro _ _ _ _ _ _ _ aa ab _ ad
      refine r_indexAddr (T := 25) (E := 9) (((((((cj.mono aG.wext).mono an.wext).mono aO).mono aA.wext).mono cc).mono bf).mono aa) dQ (ad 1 rfl 142 rfl) (ad 2 rfl 143 rfl) rfl rfl underlying25 sz9 ?_
      intro _ _ _ af ag
      obtain rfl := af
      exact d0 ⟨⟨_, _, _, rfl, rfl, ag⟩, ab⟩
     ·intro _ aa ab _ _ _ _ _ ad _ af
      obtain ⟨ag, ai, _, ah, aj, am⟩ : (Fct.elem (x735 : ByteArray)).p (aa 144) ab := af 3 rfl 144 rfl
      obtain rfl := aj
      refine r_load ag ai (tv x735) ah rfl (loads_one to9 (am.2 0 _ rfl)) ?_
      exact d0 ⟨rfl, ad⟩
     ·intro _ _ _ _ _ _ _ _ aa ab _
      obtain ⟨_, _⟩ := id aa
      refine r_fieldAddr ae 0 6 6 ((ab 3 rfl).trans dP) rfl fo27_6 rfl ?_
      exact d0 ⟨rfl, aa⟩
     ·intro _ _ _ _ _ _ _ _ aa _ ab
      obtain ⟨_, ad⟩ := id aa
      have af := ad
      refine r_load ae 6 (lv au a1.Labels.length av) (ab 5 rfl 146 rfl) rfl (loads_one to25 ((af.cell 6).trans rfl)) ?_
      exact d0 ⟨rfl, aa⟩
     ·intro _ _ _ _ _ _ _ _ aa ab _
      refine r_move (iv aC) ((ab 10 rfl).trans a5) rfl ?_
      exact d0 ⟨rfl, aa⟩
     ·intro _ _ _ _ _ _ _ aa ab _ ad
      refine r_indexAddr (T := 25) (E := 9) (((((((cn.mono aG.wext).mono an.wext).mono aO).mono aA.wext).mono cc).mono bf).mono aa) dR (ad 6 rfl 147 rfl) (ad 7 rfl 148 rfl) rfl rfl underlying25 sz9 ?_
      intro _ _ _ af ag
      obtain rfl := af
      exact d0 ⟨⟨_, _, _, rfl, rfl, ag⟩, ab⟩
     ·intro _ aa ab _ _ _ _ _ ad _ af
      obtain ⟨ag, ai, _, ah, aj, am⟩ : (Fct.elem (x737 : ByteArray)).p (aa 149) ab := af 8 rfl 149 rfl
      obtain rfl := aj
      refine r_load ag ai (tv x737) ah rfl (loads_one to9 (am.2 0 _ rfl)) ?_
      exact d0 ⟨rfl, ad⟩
     ·intro _ _ _ _ _ _ aa _ ab _ ad
      have af := bI.trans aa
      obtain ⟨ag, ai⟩ := id ab
      refine r_call [tv x735, tv x737] (evs2 (ad 4 rfl 145 rfl) (ad 9 rfl 150 rfl)) rfl (ok_semtyperef1_Text _ _ _ _ _ _ (RpV.mkStr _ _) (RpV.mkStr _ _) dS) ?_
      intro _ _ ah aj
      obtain rfl := RpV.int aj
      exact d1 af (Nat.le_refl _) ah ⟨rfl, ⟨(ag.ext ah), (ai.ext ah)⟩⟩
     ·intro _ _ _ _ _ _ _ _ aa _ ab
      refine r_assign (iv aF) (ab 10 rfl 151 rfl) rfl ?_
      exact d0 ⟨rfl, aa⟩
     intro dT _ dU dV dW cg dX
     have ch := bI.trans dU
     obtain ⟨dY, dZ⟩ := dW
     have d2 := dY
     have d3 := dZ
     have d4 := (cg 10 rfl).trans a5
     have ci : dT 11 = (iv aF) := dX 11 11 rfl
     refine j1 (j2 (j3 ?_))
     refine r_move (iv aF) ci rfl ?_
     refine r_bin (iv aF) (iv 0) (bv (aF != 0)) rfl rfl rfl rfl (b_neq) ?_
     refine j0 (j1 ?_)
     refine if_else hf (fun bL hf => ?_) (fun bL hf => ?_)
     ·refine c_true rfl bL rfl ?_
      refine j2 (j3 ?_)
      refine r_move (iv aF) ci rfl ?_
      refine r_assign (iv aF) rfl rfl ?_
      refine j0 (j1 (jb (j7 (j9 ?_))))
      obtain rfl := oi hf
      exact ⟨rfl, _, _, (iv aF), rfl, rfl, ch, ⟨rfl, rfl⟩, (RpV.mkInt _ _)⟩
     refine c_false rfl bL rfl ?_
     refine ja (j5 (j1 (j3 ?_)))
     refine r_move (iv aC) d4 rfl ?_
     refine r_bin (iv aC) (iv 1) (iv (w64 (aC + 1))) rfl rfl rfl rfl (b_add) ?_
     refine r_assign (iv (w64 (aC + 1))) rfl rfl ?_
     refine j0 ?_
     obtain rfl := oi hf
     exact ⟨rfl, _, _, rfl, rfl, ((((((((((((be).put rfl).put rfl).put rfl).put rfl).put rfl).draw cg rfl).put rfl).put rfl).put rfl).put rfl).put rfl), ch, (((Wext.refl _).trans bf).trans dV), rfl, d2, d3⟩
    refine c_false rfl bK rfl ?_
    refine jc (j8 ?_)
    obtain rfl := oi hf
    exact ⟨rfl, _, _, rfl, rfl, ((((((be).put rfl).put rfl).put rfl).put rfl).put rfl), bI, ((Wext.refl _).trans bf), a5, bJ, ce⟩
   ·exact ⟨_, _, rfl, rfl, (Agr.refl _ _), cb, (Wext.refl _), dM, bB, bC⟩
   intro e a w hp
   rcases dN with ek | r
   ·replace hf := onEnd_inl hf
    obtain ⟨rfl, _, _, rfl, rfl, _, d5, _, _, _, _⟩ := hp
    refine j6 (j1 (j2 (j3 ?_)))
    refine r_assign (iv 0) rfl rfl ?_
    refine j0 (j1 (jb ?_))
    obtain rfl := oi hf
    refine ret_one (iv 0) rfl ⟨rfl, rfl⟩ d5 ?_
    exact (RpV.mkInt _ _)
   replace hf := onEnd_inr hf
   obtain ⟨rfl, _, _, d6, rfl, rfl, d7, d8, d9⟩ := hp
   refine j7 (j9 ?_)
   obtain rfl := oi hf
   refine ret_one d6 rfl d8 d7 ?_
   exact d9
  replace hf := onEnd_inr hf
  obtain ⟨rfl, _, _, ea, rfl, rfl, eb, ec, ed⟩ := hp
  refine j7 (j9 ?_)
  obtain rfl := oi hf
  refine ret_one ea rfl ec eb ?_
  exact ed
 replace hf := onEnd_inr hf
 obtain ⟨rfl, _, _, ee, rfl, rfl, ef, eg, eh⟩ := hp
 refine j7 (j9 ?_)
 obtain rfl := oi hf
 refine ret_one ee rfl eg ef ?_
 exact eh

theorem okB_semtyperef1_values {rec_semtyperef1_Compare : (Val → Val → Option Int)} {rec_semtyperef1_values : ((List Val) → (List Val) → Option Int)} {rec_semtyperef1_CompareEntries : (Ent → Ent → Option Int)} (hrec_semtyperef1_Compare : S_semtyperef1_Compare rec_semtyperef1_Compare) (_hrec_semtyperef1_values : S_semtyperef1_values rec_semtyperef1_values) (_hrec_semtyperef1_CompareEntries : S_semtyperef1_CompareEntries rec_semtyperef1_CompareEntries) : S_semtyperef1_values (semtyperef1_values_B rec_semtyperef1_Compare rec_semtyperef1_values rec_semtyperef1_CompareEntries) := by
 intro s0 v0 v1 a0 a1 r hp0 hp1 hf
 obtain ⟨A1, c2, rfl, h3⟩ := RpV.list hp0
 obtain ⟨A4, c5, rfl, h6⟩ := RpV.list hp1
 unfold semtyperef1_values_B at hf
 have E0 : ExtB s0.N s0 s0 := ExtB.refl _ _
 refine ctr_of 35 func50 rfl rfl rfl rfl ?_
 refine j2 (j3 ?_)
 refine r_assign (iv 0) rfl rfl ?_
 refine j0 (j1 (j2 (j2 (j3 ?_))))
 refine r_move (lv A1 a0.length c2) rfl rfl ?_
 refine r_len A1 a0.length c2 rfl rfl underlying22 ?_
 refine r_move (lv A4 a1.length c5) rfl rfl ?_
 refine r_len A4 a1.length c5 rfl rfl underlying22 ?_
 refine r_bin (iv (a0.length : Int)) (iv (a1.length : Int)) (bv ((a0.length : Int) != (a1.length : Int))) rfl rfl rfl rfl (b_neq) ?_
 refine j0 (j1 ?_)
 refine if_else hf (fun hc7 hf => ?_) (fun hc7 hf => ?_)
 ·refine c_true rfl hc7 rfl ?_
  refine j2 (j3 ?_)
  refine r_move (lv A1 a0.length c2) rfl rfl ?_
  refine r_len A1 a0.length c2 rfl rfl underlying22 ?_
  refine r_move (lv A4 a1.length c5) rfl rfl ?_
  refine r_len A4 a1.length c5 rfl rfl underlying22 ?_
  obtain ⟨r8, e9, hf⟩ := bind_some hf
  refine r_call [iv (a0.length : Int), iv (a1.length : Int)] (evs2 rfl rfl) rfl (ok_semtyperef1_count _ _ _ _ _ _ (RpV.mkInt _ _) (RpV.mkInt _ _) e9) ?_
  intro _ _ aL aM
  have aN := E0.x aL
  obtain rfl := RpV.int aM
  refine r_assign (iv r8) rfl rfl ?_
  refine j0 (j1 (jb (j9 ?_)))
  obtain rfl := oi hf
  refine ret_one (iv r8) rfl ⟨rfl, rfl⟩ aN ?_
  exact (RpV.mkInt _ _)
 refine c_false rfl hc7 rfl ?_
 refine ja (j1 (j2 (j2 (j3 ?_))))
 refine r_assign (iv 0) rfl rfl ?_
 refine j0 (j1 (j4 ?_))
 refine gen_F fun al aD => ?_
 have aO : al 0 = (lv A1 a0.length c2) := (aD 0).trans rfl
 have aP : al 1 = (lv A4 a1.length c5) := (aD 1).trans rfl
 have aQ : al 5 = (iv 0) := (aD 5).trans rfl
 obtain ⟨aR, aS, hf⟩ := bind_some hf
 refine wp_mono (wp_iter (step := semtyperef1_values_l1 rec_semtyperef1_Compare a0 a1) (fun q a w => ∃ (F : Fr) (τ : S), a = fr 35 F ∧ w = τ.w ∧ Agr [4, 5, 6, 17, 18, 19, 20, 21, 22, 23, 24, 25, 26, 27, 28, 29, 30, 31, 32, 33, 34] F al ∧ ExtB s0.N s0 τ ∧ Wext s0 τ ∧ F 5 = (iv q)) (fun o e a w => match o with | .inl q => e = .exit 0 ∧ ∃ (F : Fr) (τ : S), a = fr 35 F ∧ w = τ.w ∧ Agr [4, 5, 6, 17, 18, 19, 20, 21, 22, 23, 24, 25, 26, 27, 28, 29, 30, 31, 32, 33, 34] F al ∧ ExtB s0.N s0 τ ∧ Wext s0 τ ∧ F 5 = (iv q) | .inr r => e = .ret ∧ ∃ (F : Fr) (τ : S) (va : Value), a = fr 35 F ∧ w = τ.w ∧ ExtB s0.N s0 τ ∧ ResV prog 35 F τ.w (.tmp 4) va ∧ RpV τ r va) (by rintro (_ | _) a w ⟨h, _⟩ <;> cases h) ?_ _ _ _ _ _ aS ?_) ?_
 ·intro ac fl a w hf hI
  obtain ⟨_, _, rfl, rfl, aB, aE, aC, am⟩ := hI
  unfold semtyperef1_values_l1 at hf
  have aH := (aB 0 rfl).trans aO
  have aT := (aB 1 rfl).trans aP
  refine j2 (j2 (j3 ?_))
  refine r_move (iv ac) am rfl ?_
  refine r_move (lv A1 a0.length c2) aH rfl ?_
  refine r_len A1 a0.length c2 rfl rfl underlying22 ?_
  refine r_bin (iv ac) (iv (a0.length : Int)) (bv (decide (ac < (a0.length : Int)))) rfl rfl rfl rfl (b_lss) ?_
  refine j0 (j1 ?_)
  refine if_else hf (fun aF hf => ?_) (fun aF hf => ?_)
  ·refine c_true rfl aF rfl ?_
   refine ja (j1 (j2 (j4 (j2 ?_))))
   obtain ⟨x31, aU, hf⟩ := bind_some hf
   obtain ⟨x33, aV, hf⟩ := bind_some hf
   obtain ⟨ae, aW, hf⟩ := bind_some hf
   refine wp_draw (B := frExt s0.N) (sm 23 9 ++ [some 6]) [[], [], [0, 1], rg 3, [], [], [4, 5], [4, 5, 6], rg 8, rg 9] [Fct.eqv (lv A1 a0.length c2), Fct.eqv (iv ac), Fct.elem (x31 : Val), Fct.data (x31 : Val), Fct.eqv (lv A4 a1.length c5), Fct.eqv (iv ac), Fct.elem (x33 : Val), Fct.data (x33 : Val), Fct.eqv (iv ae), Fct.eqv (iv ae)] (fun D F τ => True) (by kernel_rfl) rfl (by decide) (by decide) trivial (by decide) (by decide) ⟨?_, ?_, ?_, ?_, ?_, ?_, ?_, ?_, ?_, ?_, trivial⟩ ?_
   ·intro _ _ _ _ _ _ _ _ aa ab _
    refine r_move (lv A1 a0.length c2) ((ab 0 rfl).trans aH) rfl ?_
    exact d0 ⟨rfl, aa⟩
   ·intro _ _ _ _ _ _ _ _ aa ab _
    refine r_move (iv ac) ((ab 5 rfl).trans am) rfl ?_
    exact d0 ⟨rfl, aa⟩
   ·intro _ _ _ _ _ _ _ aa ab _ ad
    refine r_indexAddr (T := 22) (E := 27) ((h3.mono aC).mono aa) aU (ad 0 rfl 23 rfl) (ad 1 rfl 24 rfl) rfl rfl underlying22 sz27 ?_
    intro _ _ _ af ag
    obtain ⟨_, _, _, _, _, _, _, _, rfl, ah, ai, aj, ak⟩ := Val.cells_iff.1 af
    exact d0 ⟨⟨_, _, _, rfl, (Val.cells_iff.2 ⟨_, _, _, _, _, _, _, _, rfl, ah, ai, aj, ak⟩), ag⟩, ab⟩
   ·intro _ aa ab _ _ _ _ _ ad _ af
    obtain ⟨ag, ah, _, ai, aj, ak⟩ : (Fct.elem (x31 : Val)).p (aa 25) ab := af 2 rfl 25 rfl
    obtain ⟨an, ao, ap, aq, ar, au, av, aw, rfl, ax, ay, az, aA⟩ := Val.cells_iff.1 aj
    refine r_load ag ah (Val.ag x31 an ao ap aq ar au av aw) ai rfl (loads_row tr27 ak.2) ?_
    exact d0 ⟨(Val.rpvMk (v := x31) ax ay az aA), ad⟩
   ·intro _ _ _ _ _ _ _ _ aa ab _
    refine r_move (lv A4 a1.length c5) ((ab 1 rfl).trans aT) rfl ?_
    exact d0 ⟨rfl, aa⟩
   ·intro _ _ _ _ _ _ _ _ aa ab _
    refine r_move (iv ac) ((ab 5 rfl).trans am) rfl ?_
    exact d0 ⟨rfl, aa⟩
   ·intro _ _ _ _ _ _ _ aa ab _ ad
    refine r_indexAddr (T := 22) (E := 27) ((h6.mono aC).mono aa) aV (ad 4 rfl 27 rfl) (ad 5 rfl 28 rfl) rfl rfl underlying22 sz27 ?_
    intro _ _ _ af ag
    obtain ⟨_, _, _, _, _, _, _, _, rfl, ah, ai, aj, ak⟩ := Val.cells_iff.1 af
    exact d0 ⟨⟨_, _, _, rfl, (Val.cells_iff.2 ⟨_, _, _, _, _, _, _, _, rfl, ah, ai, aj, ak⟩), ag⟩, ab⟩
   ·intro _ aa ab _ _ _ _ _ ad _ af
    obtain ⟨ag, ah, _, ai, aj, ak⟩ : (Fct.elem (x33 : Val)).p (aa 29) ab := af 6 rfl 29 rfl
    obtain ⟨an, ao, ap, aq, ar, au, av, aw, rfl, ax, ay, az, aA⟩ := Val.cells_iff.1 aj
    refine r_load ag ah (Val.ag x33 an ao ap aq ar au av aw) ai rfl (loads_row tr27 ak.2) ?_
    exact d0 ⟨(Val.rpvMk (v := x33) ax ay az aA), ad⟩
   ·intro _ aa ab _ _ _ ad _ _ _ af
    have ag := aE.trans ad
    have ah : RpV ab (x31 : Val) (aa 26) := af 3 rfl 26 rfl
    obtain ⟨ai, aj, ak, an, ao, ap, aq, ar, au, av, aw, ax, ay⟩ := Val.rpv ah
    have az : RpV ab (x33 : Val) (aa 30) := af 7 rfl 30 rfl
    obtain ⟨aA, aX, aY, aZ, a2, a3, a4, a5, a6, a7, a8, a9, ba⟩ := Val.rpv az
    refine r_call [Val.ag x31 ai aj ak an ao ap aq ar, Val.ag x33 aA aX aY aZ a2 a3 a4 a5] (evs2 au a6) rfl (hrec_semtyperef1_Compare _ _ _ _ _ _ (Val.rpvMk (v := x31) av aw ax ay) (Val.rpvMk (v := x33) a7 a8 a9 ba) aW) ?_
    intro _ _ bb bc
    obtain rfl := RpV.int bc
    exact d1 ag (Nat.le_refl _) bb ⟨rfl, trivial⟩
   ·intro _ _ _ _ _ _ _ _ aa _ ab
    refine r_assign (iv ae) (ab 8 rfl 31 rfl) rfl ?_
    exact d0 ⟨rfl, aa⟩
   intro bd _ be bf _ aI bg
   have aJ := aE.trans be
   have bh := (aI 5 rfl).trans am
   have aK : bd 6 = (iv ae) := bg 9 6 rfl
   refine j1 (j2 (j3 ?_))
   refine r_move (iv ae) aK rfl ?_
   refine r_bin (iv ae) (iv 0) (bv (ae != 0)) rfl rfl rfl rfl (b_neq) ?_
   refine j0 (j1 ?_)
   refine if_else hf (fun aG hf => ?_) (fun aG hf => ?_)
   ·refine c_true rfl aG rfl ?_
    refine j2 (j3 ?_)
    refine r_move (iv ae) aK rfl ?_
    refine r_assign (iv ae) rfl rfl ?_
    refine j0 (j1 (jb (j7 (j9 ?_))))
    obtain rfl := oi hf
    exact ⟨rfl, _, _, (iv ae), rfl, rfl, aJ, ⟨rfl, rfl⟩, (RpV.mkInt _ _)⟩
   refine c_false rfl aG rfl ?_
   refine ja (j5 (j1 (j3 ?_)))
   refine r_move (iv ac) bh rfl ?_
   refine r_bin (iv ac) (iv 1) (iv (w64 (ac + 1))) rfl rfl rfl rfl (b_add) ?_
   refine r_assign (iv (w64 (ac + 1))) rfl rfl ?_
   refine j0 ?_
   obtain rfl := oi hf
   exact ⟨rfl, _, _, rfl, rfl, (((((((((((aB).put rfl).put rfl).put rfl).put rfl).draw aI rfl).put rfl).put rfl).put rfl).put rfl).put rfl), aJ, (((Wext.refl _).trans aC).trans bf), rfl⟩
  refine c_false rfl aF rfl ?_
  refine jc (j8 ?_)
  obtain rfl := oi hf
  exact ⟨rfl, _, _, rfl, rfl, (((((aB).put rfl).put rfl).put rfl).put rfl), aE, ((Wext.refl _).trans aC), am⟩
 ·exact ⟨_, _, rfl, rfl, (Agr.refl _ _), E0, (Wext.refl _), aQ⟩
 intro e a w hp
 rcases aR with bn | r
 ·replace hf := onEnd_inl hf
  obtain ⟨rfl, _, _, rfl, rfl, _, bi, _, _⟩ := hp
  refine j6 (j1 (j2 (j3 ?_)))
  refine r_assign (iv 0) rfl rfl ?_
  refine j0 (j1 (jb ?_))
  obtain rfl := oi hf
  refine ret_one (iv 0) rfl ⟨rfl, rfl⟩ bi ?_
  exact (RpV.mkInt _ _)
 replace hf := onEnd_inr hf
 obtain ⟨rfl, _, _, bj, rfl, rfl, bk, bl, bm⟩ := hp
 refine j7 (j9 ?_)
 obtain rfl := oi hf
 refine ret_one bj rfl bl bk ?_
 exact bm

theorem okB_semtyperef1_CompareEntries {rec_semtyperef1_Compare : (Val → Val → Option Int)} {rec_semtyperef1_values : ((List Val) → (List Val) → Option Int)} {rec_semtyperef1_CompareEntries : (Ent → Ent → Option Int)} (hrec_semtyperef1_Compare : S_semtyperef1_Compare rec_semtyperef1_Compare) (hrec_semtyperef1_values : S_semtyperef1_values rec_semtyperef1_values) (_hrec_semtyperef1_CompareEntries : S_semtyperef1_CompareEntries rec_semtyperef1_CompareEntries) : S_semtyperef1_CompareEntries (semtyperef1_CompareEntries_B rec_semtyperef1_Compare rec_semtyperef1_values rec_semtyperef1_CompareEntries) := by
 intro s0 v0 v1 a0 a1 r hp0 hp1 hf
 obtain ⟨A1, c2, A4, c5, A7, c8, ag, ah, ai, aj, rfl, h3, h6, h9, aE, aF⟩ := Ent.rpv hp0
 obtain ⟨au, av, ak, al, am, an, ao, ap, aq, ar, rfl, aG, aH, aI, aJ, aK⟩ := Ent.rpv hp1
 unfold semtyperef1_CompareEntries_B at hf
 have E0 : ExtB s0.N s0 s0 := ExtB.refl _ _
 refine ctr_of 26 func51 rfl rfl rfl rfl ?_
 refine j2 (j3 ?_)
 refine r_box (B := s0.N) 1 E0.size (.agg #[lv A1 a0.Args.length c2, bv a0.Fails, iv a0.Result.Kind, iv a0.Result.Int_, tv a0.Result.Text, lv A4 a0.Result.Kids.length c5, lv A7 a0.Result.Keys.length c8, lv ag a0.Result.Entries.length ah, lv ai a0.Result.Labels.length aj]) [lv A1 a0.Args.length c2, bv a0.Fails, iv a0.Result.Kind, iv a0.Result.Int_, tv a0.Result.Text, lv A4 a0.Result.Kids.length c5, lv A7 a0.Result.Keys.length c8, lv ag a0.Result.Entries.length ah, lv ai a0.Result.Labels.length aj] rfl rfl rfl ?_
 intro _ ad ac aw
 have aC := E0.x ac
 refine r_box (B := s0.N) 2 aC.size (.agg #[lv au a1.Args.length av, bv a1.Fails, iv a1.Result.Kind, iv a1.Result.Int_, tv a1.Result.Text, lv ak a1.Result.Kids.length al, lv am a1.Result.Keys.length an, lv ao a1.Result.Entries.length ap, lv aq a1.Result.Labels.length ar]) [lv au a1.Args.length av, bv a1.Fails, iv a1.Result.Kind, iv a1.Result.Int_, tv a1.Result.Text, lv ak a1.Result.Kids.length al, lv am a1.Result.Keys.length an, lv ao a1.Result.Entries.length ap, lv aq a1.Result.Labels.length ar] rfl rfl rfl ?_
 intro _ af aa ay
 have aL := aC.x aa
 refine r_assign (iv 0) rfl rfl ?_
 refine j0 (j1 (j2 (j3 ?_)))
 refine r_fieldAddr ad 0 0 0 rfl rfl fo65_0 rfl ?_
 refine r_load ad 0 (lv A1 a0.Args.length c2) rfl rfl (loads_one to22 (((aw.ext aa).cell 0).trans rfl)) ?_
 refine r_fieldAddr af 0 0 0 rfl rfl fo65_0 rfl ?_
 refine r_load af 0 (lv au a1.Args.length av) rfl rfl (loads_one to22 ((ay.cell 0).trans rfl)) ?_
 obtain ⟨ae, aM, hf⟩ := bind_some hf
 refine r_call [lv A1 a0.Args.length c2, lv au a1.Args.length av] (evs2 rfl rfl) rfl (hrec_semtyperef1_values _ _ _ _ _ _ (RpV.mkList ((h3.mono ac.wext).mono aa.wext)) (RpV.mkList ((aG.mono ac.wext).mono aa.wext)) aM) ?_
 intro _ _ ab aN
 have ax := aL.x ab
 obtain rfl := RpV.int aN
 refine r_assign (iv ae) rfl rfl ?_
 refine j0 (j1 (j2 (j2 (j3 ?_))))
 refine r_move (iv ae) rfl rfl ?_
 refine r_bin (iv ae) (iv 0) (bv (ae != 0)) rfl rfl rfl rfl (b_neq) ?_
 refine j0 (j1 ?_)
 refine if_else hf (fun az hf => ?_) (fun az hf => ?_)
 ·refine c_true rfl az rfl ?_
  refine j2 (j3 ?_)
  refine r_move (iv ae) rfl rfl ?_
  refine r_assign (iv ae) rfl rfl ?_
  refine j0 (j1 (jb (j9 ?_)))
  obtain rfl := oi hf
  refine ret_one (iv ae) rfl ⟨rfl, rfl⟩ ax ?_
  exact (RpV.mkInt _ _)
 refine c_false rfl az rfl ?_
 refine ja (j1 (j2 (j2 (j3 ?_))))
 refine r_fieldAddr ad 0 1 1 rfl rfl fo65_1 rfl ?_
 refine r_load ad 1 (bv a0.Fails) rfl rfl (loads_one to4 ((((aw.ext aa).ext ab).cell 1).trans rfl)) ?_
 refine r_fieldAddr af 0 1 1 rfl rfl fo65_1 rfl ?_
 refine r_load af 1 (bv a1.Fails) rfl rfl (loads_one to4 (((ay.ext ab).cell 1).trans rfl)) ?_
 refine r_bin (bv a0.Fails) (bv a1.Fails) (bv (a0.Fails != a1.Fails)) rfl rfl rfl rfl (b_bneq underlying4) ?_
 refine j0 (j1 ?_)
 refine if_else hf (fun aA hf => ?_) (fun aA hf => ?_)
 ·refine c_true rfl aA rfl ?_
  refine j2 (j2 (j3 ?_))
  refine r_fieldAddr ad 0 1 1 rfl rfl fo65_1 rfl ?_
  refine r_load ad 1 (bv a0.Fails) rfl rfl (loads_one to4 ((((aw.ext aa).ext ab).cell 1).trans rfl)) ?_
  refine j0 (j1 ?_)
  refine if_else hf (fun aB hf => ?_) (fun aB hf => ?_)
  ·refine c_true rfl aB rfl ?_
   refine j2 (j3 ?_)
   refine r_assign (iv (-1)) rfl rfl ?_
   refine j0 (j1 (jb (j9 (j9 ?_))))
   obtain rfl := oi hf
   refine ret_one (iv (-1)) rfl ⟨rfl, rfl⟩ ax ?_
   exact (RpV.mkInt _ _)
  refine c_false rfl aB rfl ?_
  refine ja (j1 (j2 (j3 ?_)))
  refine r_assign (iv 1) rfl rfl ?_
  refine j0 (j1 (jb (j9 ?_)))
  obtain rfl := oi hf
  refine ret_one (iv 1) rfl ⟨rfl, rfl⟩ ax ?_
  exact (RpV.mkInt _ _)
 refine c_false rfl aA rfl ?_
 refine ja (j1 (j2 (j3 ?_)))
 refine r_fieldAddr ad 0 2 2 rfl rfl fo65_2 rfl ?_
 refine r_load ad 2 (Val.ag a0.Result A4 c5 A7 c8 ag ah ai aj) rfl rfl (loads_row tr27 (Blk.range ((aw.ext aa).ext ab) 2 (Val.cs a0.Result A4 c5 A7 c8 ag ah ai aj) rfl)) ?_
 refine r_fieldAddr af 0 2 2 rfl rfl fo65_2 rfl ?_
 refine r_load af 2 (Val.ag a1.Result ak al am an ao ap aq ar) rfl rfl (loads_row tr27 (Blk.range (ay.ext ab) 2 (Val.cs a1.Result ak al am an ao ap aq ar) rfl)) ?_
 obtain ⟨aD, aO, hf⟩ := bind_some hf
 refine r_call [Val.ag a0.Result A4 c5 A7 c8 ag ah ai aj, Val.ag a1.Result ak al am an ao ap aq ar] (evs2 rfl rfl) rfl (hrec_semtyperef1_Compare _ _ _ _ _ _ (Val.rpvMk (v := a0.Result) (((h6.mono ac.wext).mono aa.wext).mono ab.wext) (((h9.mono ac.wext).mono aa.wext).mono ab.wext) (((aE.mono ac.wext).mono aa.wext).mono ab.wext) (((aF.mono ac.wext).mono aa.wext).mono ab.wext)) (Val.rpvMk (v := a1.Result) (((aH.mono ac.wext).mono aa.wext).mono ab.wext) (((aI.mono ac.wext).mono aa.wext).mono ab.wext) (((aJ.mono ac.wext).mono aa.wext).mono ab.wext) (((aK.mono ac.wext).mono aa.wext).mono ab.wext)) aO) ?_
 intro _ _ aP aQ
 have aR := ax.x aP
 obtain rfl := RpV.int aQ
 refine r_assign (iv aD) rfl rfl ?_
 refine j0 (j1 (jb ?_))
 obtain rfl := oi hf
 refine ret_one (iv aD) rfl ⟨rfl, rfl⟩ aR ?_
 exact (RpV.mkInt _ _)

theorem ok_scc_semtyperef1_Compare : ∀ n : Nat, S_semtyperef1_Compare (scc_semtyperef1_Compare n).1 ∧ S_semtyperef1_values (scc_semtyperef1_Compare n).2.1 ∧ S_semtyperef1_CompareEntries (scc_semtyperef1_Compare n).2.2
  | 0 => ⟨(by intro _ _ _ _ _ _ _ _ h; cases h), (by intro _ _ _ _ _ _ _ _ h; cases h), (by intro _ _ _ _ _ _ _ _ h; cases h)⟩
  | n + 1 => by
    obtain ⟨h0, h1, h2⟩ := ok_scc_semtyperef1_Compare n
    exact ⟨okB_semtyperef1_Compare h0 h1 h2, okB_semtyperef1_values h0 h1 h2, okB_semtyperef1_CompareEntries h0 h1 h2⟩

theorem ok_semtyperef1_Compare (n : Nat) : S_semtyperef1_Compare (semtyperef1_Compare n) := (ok_scc_semtyperef1_Compare n).1

theorem ok_semtyperef1_values (n : Nat) : S_semtyperef1_values (semtyperef1_values n) := (ok_scc_semtyperef1_Compare n).2.1

theorem ok_semtyperef1_CompareEntries (n : Nat) : S_semtyperef1_CompareEntries (semtyperef1_CompareEntries n) := (ok_scc_semtyperef1_Compare n).2.2

def S_semtyperef1_Equal (f : (Val → Val → Option Bool)) : Prop := ∀ (s0 : S) (v0 : Value) (v1 : Value) (a0 : Val) (a1 : Val) (r : Bool), RpV s0 a0 v0 → RpV s0 a1 v1 → f a0 a1 = some r → Ctr Go.Proofs.Try.prog 26 [v0, v1] s0 (fun v τ => RpV τ r v)

theorem ok_semtyperef1_Equal (fuel : Nat) : S_semtyperef1_Equal (semtyperef1_Equal fuel) := by
 intro s0 v0 v1 a0 a1 r hp0 hp1 hf
 obtain ⟨A1, c2, A4, c5, A7, c8, ac, ad, rfl, h3, h6, h9, ao⟩ := Val.rpv hp0
 obtain ⟨ae, af, ag, ah, ai, aj, ak, al, rfl, ap, aq, ar, au⟩ := Val.rpv hp1
 unfold semtyperef1_Equal at hf
 have E0 : ExtB s0.N s0 s0 := ExtB.refl _ _
 refine ctr_of 9 func26 rfl rfl rfl rfl ?_
 refine j2 (j3 ?_)
 refine r_box (B := s0.N) 1 E0.size (Val.ag a0 A1 c2 A4 c5 A7 c8 ac ad) (Val.cs a0 A1 c2 A4 c5 A7 c8 ac ad) rfl rfl rfl ?_
 intro _ av ab aw
 have an := E0.x ab
 refine r_box (B := s0.N) 2 an.size (Val.ag a1 ae af ag ah ai aj ak al) (Val.cs a1 ae af ag ah ai aj ak al) rfl rfl rfl ?_
 intro _ ax aa ay
 have az := an.x aa
 refine r_assign (bv false) rfl rfl ?_
 refine j0 (j1 (j2 (j3 ?_)))
 refine r_load av 0 (Val.ag a0 A1 c2 A4 c5 A7 c8 ac ad) rfl rfl (loads_row tr27 (Blk.range (aw.ext aa) 0 (Val.cs a0 A1 c2 A4 c5 A7 c8 ac ad) rfl)) ?_
 refine r_load ax 0 (Val.ag a1 ae af ag ah ai aj ak al) rfl rfl (loads_row tr27 (Blk.range ay 0 (Val.cs a1 ae af ag ah ai aj ak al) rfl)) ?_
 obtain ⟨am, aA, hf⟩ := bind_some hf
 refine r_call [Val.ag a0 A1 c2 A4 c5 A7 c8 ac ad, Val.ag a1 ae af ag ah ai aj ak al] (evs2 rfl rfl) rfl ((ok_semtyperef1_Compare fuel) _ _ _ _ _ _ (Val.rpvMk (v := a0) ((h3.mono ab.wext).mono aa.wext) ((h6.mono ab.wext).mono aa.wext) ((h9.mono ab.wext).mono aa.wext) ((ao.mono ab.wext).mono aa.wext)) (Val.rpvMk (v := a1) ((ap.mono ab.wext).mono aa.wext) ((aq.mono ab.wext).mono aa.wext) ((ar.mono ab.wext).mono aa.wext) ((au.mono ab.wext).mono aa.wext)) aA) ?_
 intro _ _ aB aC
 have aD := az.x aB
 obtain rfl := RpV.int aC
 refine r_bin (iv am) (iv 0) (bv (am == 0)) rfl rfl rfl rfl (b_eql) ?_
 refine r_assign (bv (am == 0)) rfl rfl ?_
 refine j0 (j1 (jb ?_))
 obtain rfl := oi hf
 refine ret_one (bv (am == 0)) rfl ⟨rfl, rfl⟩ aD ?_
 exact (RpV.mkBool _ _)

def S_semtyperef1_entries (f : ((List Ent) → Option (List Ent))) : Prop := ∀ (s0 : S) (v0 : Value) (a0 : (List Ent)) (r : (List Ent)), RpV s0 a0 v0 → f a0 = some r → Ctr Go.Proofs.Try.prog 94 [v0] s0 (fun v τ => RpV τ r v)

theorem ok_semtyperef1_entries (fuel : Nat) : S_semtyperef1_entries (semtyperef1_entries fuel) := by
 intro s0 v0 a0 r hp0 hf
 obtain ⟨A1, c2, rfl, h3⟩ := RpV.list hp0
 unfold semtyperef1_entries at hf
 have E0 : ExtB s0.N s0 s0 := ExtB.refl _ _
 refine ctr_of 63 func94 rfl rfl rfl rfl ?_
 refine j2 (j3 ?_)
 refine r_assign (nl Ent) rfl rfl ?_
 refine j0 (j1 (j2 (j3 ?_)))
 refine r_assign (nl Ent) rfl rfl ?_
 refine j0 (j1 (j2 (j2 (j3 ?_))))
 refine r_assign (iv 0) rfl rfl ?_
 refine j0 (j1 (j4 ?_))
 refine gen_F fun F4 hg5 => ?_
 have f6 : F4 0 = (lv A1 a0.length c2) := (hg5 0).trans rfl
 have f8 : F4 3 = (nl Ent) := (hg5 3).trans rfl
 have f9 : F4 4 = (iv 0) := (hg5 4).trans rfl
 obtain ⟨ba, b1, hf⟩ := bind_some hf
 refine wp_mono (wp_iter (step := semtyperef1_entries_l1 fuel a0) (fun q a w => ∃ (F : Fr) (τ : S) (A1 : Option Addr) (c1 : Nat), a = fr 63 F ∧ w = τ.w ∧ Agr [3, 4, 5, 6, 7, 8, 9, 10, 11, 12, 13, 14, 15, 16, 17, 18, 19, 20, 21, 22, 23, 24, 25, 26, 27, 28, 29, 30, 31, 32, 33, 34, 35, 36, 37, 38, 39, 40, 41, 42, 43, 44, 45, 46, 47, 48, 49, 50, 51, 52, 53, 54, 55, 56, 57, 58, 59, 60, 61] F F4 ∧ ExtB s0.N s0 τ ∧ Wext s0 τ ∧ F 3 = (lv A1 q.1.length c1) ∧ Sl τ q.1 A1 c1 ∧ F 4 = (iv q.2)) (fun q e a w => e = .exit 0 ∧ ∃ (F : Fr) (τ : S) (A1 : Option Addr) (c1 : Nat), a = fr 63 F ∧ w = τ.w ∧ Agr [3, 4, 5, 6, 7, 8, 9, 10, 11, 12, 13, 14, 15, 16, 17, 18, 19, 20, 21, 22, 23, 24, 25, 26, 27, 28, 29, 30, 31, 32, 33, 34, 35, 36, 37, 38, 39, 40, 41, 42, 43, 44, 45, 46, 47, 48, 49, 50, 51, 52, 53, 54, 55, 56, 57, 58, 59, 60, 61] F F4 ∧ ExtB s0.N s0 τ ∧ Wext s0 τ ∧ F 3 = (lv A1 q.1.length c1) ∧ Sl τ q.1 A1 c1 ∧ F 4 = (iv q.2)) (by rintro _ a w ⟨h, _⟩; cases h) ?_ _ _ _ _ _ b1 ?_) ?_
 ·intro ad fl a w hf hI
  obtain ⟨_, bH, an, ao, rfl, rfl, aU, bI, aJ, bJ, aK, bb⟩ := hI
  unfold semtyperef1_entries_l1 at hf
  have bK := (aU 0 rfl).trans f6
  refine j2 (j2 (j3 ?_))
  refine r_move (iv ad.2) bb rfl ?_
  refine r_move (lv A1 a0.length c2) bK rfl ?_
  refine r_len A1 a0.length c2 rfl rfl underlying24 ?_
  refine r_bin (iv ad.2) (iv (a0.length : Int)) (bv (decide (ad.2 < (a0.length : Int)))) rfl rfl rfl rfl (b_lss) ?_
  refine j0 (j1 ?_)
  refine if_else hf (fun bc hf => ?_) (fun bc hf => ?_)
  ·refine c_true rfl bc rfl ?_
   refine ja (j1 (j2 (j4 (j2 (j3 ?_)))))
   refine r_assign (iv 0) rfl rfl ?_
   refine j0 (j1 (j2 (j4 ?_)))
   refine gen_F fun bd aL => ?_
   have bL := (aL 0).trans bK
   have bM := (aL 3).trans bJ
   have bN := (aL 4).trans bb
   have b2 : bd 5 = (iv 0) := (aL 5).trans rfl
   obtain ⟨ap, b3, hf⟩ := bind_some hf
   refine wp_mono (wp_iter (step := semtyperef1_entries_l2 fuel a0 ad) (fun q a w => ∃ (F : Fr) (τ : S), a = fr 63 F ∧ w = τ.w ∧ Agr [5, 13, 14, 15, 16, 17, 18, 19, 20, 21, 22, 23, 24, 25, 26, 27, 28, 29, 30] F bd ∧ ExtB s0.N s0 τ ∧ Wext bH τ ∧ F 5 = (iv q)) (fun q e a w => e = .exit 2 ∧ ∃ (F : Fr) (τ : S), a = fr 63 F ∧ w = τ.w ∧ Agr [5, 13, 14, 15, 16, 17, 18, 19, 20, 21, 22, 23, 24, 25, 26, 27, 28, 29, 30] F bd ∧ ExtB s0.N s0 τ ∧ Wext bH τ ∧ F 5 = (iv q)) (by rintro _ a w ⟨h, _⟩; cases h) ?_ _ _ _ _ _ b3 ?_) ?_
   ·intro aB fl a w hf hI
    obtain ⟨_, _, rfl, rfl, aQ, be, aV, aW⟩ := hI
    unfold semtyperef1_entries_l2 at hf
    have b4 := (aQ 0 rfl).trans bL
    have bf := (aQ 3 rfl).trans bM
    have b5 := (aQ 4 rfl).trans bN
    refine j2 (j2 ?_)
    refine if_else hf (fun ay hf => ?_) (fun ay hf => ?_)
    ·obtain ⟨x43, b6, hf⟩ := bind_some hf
     obtain ⟨x45, b7, hf⟩ := bind_some hf
     obtain ⟨aM, b8, hf⟩ := bind_some hf
     refine wp_draw (B := frExt s0.N) (sm 13 16) [[], [], [1], rg 3, rg 4, rg 5, rg 5, rg 7, rg 8, rg 5, rg 5, (rg 5 ++ [9, 10]), (rg 5 ++ [9, 10, 11]), rg 13, rg 14, rg 15] [Fct.eqv (iv aB), Fct.eqv (lv an ad.1.length ao), Fct.eqv (iv (ad.1.length : Int)), Fct.eqv (bv (decide (aB < (ad.1.length : Int)))), Fct.eqv (bv (decide (aB < (ad.1.length : Int)))), Fct.eqv (lv an ad.1.length ao), Fct.eqv (iv aB), Fct.elem (x43 : Ent), Fct.data (x43 : Ent), Fct.eqv (lv A1 a0.length c2), Fct.eqv (iv ad.2), Fct.elem (x45 : Ent), Fct.data (x45 : Ent), Fct.eqv (iv aM), Fct.eqv (bv (decide (aM < 0))), Fct.eqv (bv (decide (aM < 0)))] (fun D F τ => True) (by kernel_rfl) rfl (by decide) (by decide) trivial (by decide) (by decide) ⟨?_, ?_, ?_, ?_, ?_, ?_, ?_, ?_, ?_, ?_, ?_, ?_, ?_, ?_, ?_, ?_, trivial⟩ ?_
     ·intro _ _ _ _ _ _ _ _ aa ab _
      refine r_move (iv aB) ((ab 5 rfl).trans aW) rfl ?_
      exact d0 ⟨rfl, aa⟩
     ·intro _ _ _ _ _ _ _ _ aa ab _
      refine r_move (lv an ad.1.length ao) ((ab 3 rfl).trans bf) rfl ?_
      exact d0 ⟨rfl, aa⟩
     ·intro _ _ _ _ _ _ _ _ aa _ ab
      refine r_len an ad.1.length ao (ab 1 rfl 14 rfl) rfl underlying24 ?_
      exact d0 ⟨rfl, aa⟩
     ·intro _ _ _ _ _ _ _ _ aa _ ab
      refine r_bin (iv aB) (iv (ad.1.length : Int)) (bv (decide (aB < (ad.1.length : Int)))) (ab 0 rfl 13 rfl) (ab 2 rfl 15 rfl) rfl rfl (b_lss) ?_
      exact d0 ⟨rfl, aa⟩
     ·intro _ _ _ _ _ _ _ _ aa _ ab
      refine r_move (bv (decide (aB < (ad.1.length : Int)))) (ab 3 rfl 16 rfl) rfl ?_
      exact d0 ⟨rfl, aa⟩
     ·intro _ _ _ _ _ _ _ _ aa ab ac
      refine gd1 rfl (ac 4 rfl 17 rfl) ay ?_
      refine r_move (lv an ad.1.length ao) ((ab 3 rfl).trans bf) rfl ?_
      exact d0 ⟨rfl, aa⟩
     ·intro _ _ _ _ _ _ _ _ aa ab ac
      refine gd1 rfl (ac 4 rfl 17 rfl) ay ?_
      refine r_move (iv aB) ((ab 5 rfl).trans aW) rfl ?_
      exact d0 ⟨rfl, aa⟩
     ·intro _ _ _ _ _ _ _ aa ab _ ac
      refine gd1 rfl (ac 4 rfl 17 rfl) ay ?_
      refine r_indexAddr (T := 24) (E := 65) ((aK.mono aV).mono aa) b6 (ac 5 rfl 18 rfl) (ac 6 rfl 19 rfl) rfl rfl underlying24 sz65 ?_
      intro _ _ _ ae af
      obtain ⟨_, _, _, _, _, _, _, _, _, _, rfl, ah, ag, ai, aj, ak⟩ := Ent.cells_iff.1 ae
      exact d0 ⟨⟨_, _, _, rfl, (Ent.cells_iff.2 ⟨_, _, _, _, _, _, _, _, _, _, rfl, ah, ag, ai, aj, ak⟩), af⟩, ab⟩
     ·intro _ aa ab _ _ _ _ _ ac _ ae
      obtain ⟨af, ah, _, ag, ai, aj⟩ : (Fct.elem (x43 : Ent)).p (aa 20) ab := ae 7 rfl 20 rfl
      obtain ⟨ak, aq, ar, au, av, al, am, az, aw, ax, rfl, aC, aD, aE, aF, aG⟩ := Ent.cells_iff.1 ai
      refine gd1 rfl (ae 4 rfl 17 rfl) ay ?_
      refine r_load af ah (.agg #[lv ak x43.Args.length aq, bv x43.Fails, iv x43.Result.Kind, iv x43.Result.Int_, tv x43.Result.Text, lv ar x43.Result.Kids.length au, lv av x43.Result.Keys.length al, lv am x43.Result.Entries.length az, lv aw x43.Result.Labels.length ax]) ag rfl (loads_row tr65 aj.2) ?_
      exact d0 ⟨(Ent.rpvMk (v := x43) aC aD aE aF aG), ac⟩
     ·intro _ _ _ _ _ _ _ _ aa ab ac
      refine gd1 rfl (ac 4 rfl 17 rfl) ay ?_
      refine r_move (lv A1 a0.length c2) ((ab 0 rfl).trans b4) rfl ?_
      exact d0 ⟨rfl, aa⟩
     ·intro _ _ _ _ _ _ _ _ aa ab ac
      refine gd1 rfl (ac 4 rfl 17 rfl) ay ?_
      refine r_move (iv ad.2) ((ab 4 rfl).trans b5) rfl ?_
      exact d0 ⟨rfl, aa⟩
     ·intro _ _ _ _ _ _ _ aa ab _ ac
      refine gd1 rfl (ac 4 rfl 17 rfl) ay ?_
      refine r_indexAddr (T := 24) (E := 65) (((h3.mono aJ).mono aV).mono aa) b7 (ac 9 rfl 22 rfl) (ac 10 rfl 23 rfl) rfl rfl underlying24 sz65 ?_
      intro _ _ _ ae af
      obtain ⟨_, _, _, _, _, _, _, _, _, _, rfl, ah, ag, ai, aj, ak⟩ := Ent.cells_iff.1 ae
      exact d0 ⟨⟨_, _, _, rfl, (Ent.cells_iff.2 ⟨_, _, _, _, _, _, _, _, _, _, rfl, ah, ag, ai, aj, ak⟩), af⟩, ab⟩
     ·intro _ aa ab _ _ _ _ _ ac _ ae
      obtain ⟨af, ah, _, ag, ai, aj⟩ : (Fct.elem (x45 : Ent)).p (aa 24) ab := ae 11 rfl 24 rfl
      obtain ⟨ak, aq, ar, au, av, al, am, az, aw, ax, rfl, aC, aD, aE, aF, aG⟩ := Ent.cells_iff.1 ai
      refine gd1 rfl (ae 4 rfl 17 rfl) ay ?_
      refine r_load af ah (.agg #[lv ak x45.Args.length aq, bv x45.Fails, iv x45.Result.Kind, iv x45.Result.Int_, tv x45.Result.Text, lv ar x45.Result.Kids.length au, lv av x45.Result.Keys.length al, lv am x45.Result.Entries.length az, lv aw x45.Result.Labels.length ax]) ag rfl (loads_row tr65 aj.2) ?_
      exact d0 ⟨(Ent.rpvMk (v := x45) aC aD aE aF aG), ac⟩
     ·intro _ aa ab _ _ _ ac _ _ _ ae
      have af := be.trans ac
      have ah : RpV ab (x43 : Ent) (aa 21) := ae 8 rfl 21 rfl
      obtain ⟨ag, ai, aj, ak, aq, ar, au, av, al, am, az, aw, ax, aC, aD, aE⟩ := Ent.rpv ah
      have aF : RpV ab (x45 : Ent) (aa 25) := ae 12 rfl 25 rfl
      obtain ⟨aG, aN, aI, aO, bg, bh, bi, bj, bk, bl, bm, bn, bo, bp, bq, br⟩ := Ent.rpv aF
      refine gd1 rfl (ae 4 rfl 17 rfl) ay ?_
      refine r_call [.agg #[lv ag x43.Args.length ai, bv x43.Fails, iv x43.Result.Kind, iv x43.Result.Int_, tv x43.Result.Text, lv aj x43.Result.Kids.length ak, lv aq x43.Result.Keys.length ar, lv au x43.Result.Entries.length av, lv al x43.Result.Labels.length am], .agg #[lv aG x45.Args.length aN, bv x45.Fails, iv x45.Result.Kind, iv x45.Result.Int_, tv x45.Result.Text, lv aI x45.Result.Kids.length aO, lv bg x45.Result.Keys.length bh, lv bi x45.Result.Entries.length bj, lv bk x45.Result.Labels.length bl]] (evs2 az bm) rfl ((ok_semtyperef1_CompareEntries fuel) _ _ _ _ _ _ (Ent.rpvMk (v := x43) aw ax aC aD aE) (Ent.rpvMk (v := x45) bn bo bp bq br) b8) ?_
      intro _ _ bs bt
      obtain rfl := RpV.int bt
      exact d1 af (Nat.le_refl _) bs ⟨rfl, trivial⟩
     ·intro _ _ _ _ _ _ _ _ aa _ ab
      refine gd1 rfl (ab 4 rfl 17 rfl) ay ?_
      refine r_bin (iv aM) (iv 0) (bv (decide (aM < 0))) (ab 13 rfl 26 rfl) rfl rfl rfl (b_lss) ?_
      exact d0 ⟨rfl, aa⟩
     ·intro _ _ _ _ _ _ _ _ aa _ ab
      refine r_pick_t (c := decide (aB < (ad.1.length : Int))) (bv (decide (aM < 0))) (ab 4 rfl 17 rfl) ay (ab 14 rfl 27 rfl) rfl rfl rfl ?_
      exact d0 ⟨rfl, aa⟩
     intro b9 _ ca bO _ bu cb
     have bP := be.trans ca
     have bQ := (bu 5 rfl).trans aW
     have bR : b9 28 = (bv (decide (aM < 0))) := cb 15 28 rfl
     refine j1 ?_
     refine if_else hf (fun bw hf => ?_) (fun bw hf => ?_)
     ·refine c_true bR bw rfl ?_
      refine ja (j1 (j4 (j3 ?_)))
      refine r_move (iv aB) bQ rfl ?_
      refine r_bin (iv aB) (iv 1) (iv (w64 (aB + 1))) rfl rfl rfl rfl (b_add) ?_
      refine r_assign (iv (w64 (aB + 1))) rfl rfl ?_
      refine j0 (j5 ?_)
      obtain rfl := oi hf
      exact ⟨rfl, _, _, rfl, rfl, (((((aQ).draw bu rfl).put rfl).put rfl).put rfl), bP, (((Wext.refl _).trans aV).trans bO), rfl⟩
     refine c_false bR bw rfl ?_
     refine jc (j8 ?_)
     obtain rfl := oi hf
     exact ⟨rfl, _, _, rfl, rfl, ((aQ).draw bu rfl), bP, (((Wext.refl _).trans aV).trans bO), bQ⟩
    refine wp_draw (B := frExt s0.N) (sm 13 16) [[], [], [1], rg 3, rg 4, rg 5, rg 5, rg 7, rg 8, rg 5, rg 5, (rg 5 ++ [9, 10]), (rg 5 ++ [9, 10, 11]), rg 13, rg 14, rg 15] [Fct.eqv (iv aB), Fct.eqv (lv an ad.1.length ao), Fct.eqv (iv (ad.1.length : Int)), Fct.eqv (bv (decide (aB < (ad.1.length : Int)))), Fct.eqv (bv (decide (aB < (ad.1.length : Int)))), Fct.eqv undef, Fct.eqv undef, Fct.eqv undef, Fct.eqv undef, Fct.eqv undef, Fct.eqv undef, Fct.eqv undef, Fct.eqv undef, Fct.eqv undef, Fct.eqv undef, Fct.eqv (bv false)] (fun D F τ => True) (by kernel_rfl) rfl (by decide) (by decide) trivial (by decide) (by decide) ⟨?_, ?_, ?_, ?_, ?_, ?_, ?_, ?_, ?_, ?_, ?_, ?_, ?_, ?_, ?_, ?_, trivial⟩ ?_
    ·intro _ _ _ _ _ _ _ _ aa ab _
     refine r_move (iv aB) ((ab 5 rfl).trans aW) rfl ?_
     exact d0 ⟨rfl, aa⟩
    ·intro _ _ _ _ _ _ _ _ aa ab _
     refine r_move (lv an ad.1.length ao) ((ab 3 rfl).trans bf) rfl ?_
     exact d0 ⟨rfl, aa⟩
    ·intro _ _ _ _ _ _ _ _ aa _ ab
     refine r_len an ad.1.length ao (ab 1 rfl 14 rfl) rfl underlying24 ?_
     exact d0 ⟨rfl, aa⟩
    ·intro _ _ _ _ _ _ _ _ aa _ ab
     refine r_bin (iv aB) (iv (ad.1.length : Int)) (bv (decide (aB < (ad.1.length : Int)))) (ab 0 rfl 13 rfl) (ab 2 rfl 15 rfl) rfl rfl (b_lss) ?_
     exact d0 ⟨rfl, aa⟩
    ·intro _ _ _ _ _ _ _ _ aa _ ab
     refine r_move (bv (decide (aB < (ad.1.length : Int)))) (ab 3 rfl 16 rfl) rfl ?_
     exact d0 ⟨rfl, aa⟩
    ·intro _ _ _ _ _ _ _ _ aa _ ab
     exact gd0 rfl (ab 4 rfl 17 rfl) ay ⟨rfl, aa⟩
    ·intro _ _ _ _ _ _ _ _ aa _ ab
     exact gd0 rfl (ab 4 rfl 17 rfl) ay ⟨rfl, aa⟩
    ·intro _ aa _ _ _ _ _ _ ab _ ac
     have ae : aa 18 = undef := ac 5 rfl 18 rfl
     have af : aa 19 = undef := ac 6 rfl 19 rfl
     exact gd0 rfl (ac 4 rfl 17 rfl) ay ⟨rfl, ab⟩
    ·intro _ aa _ _ _ _ _ _ ab _ ac
     have ae : aa 20 = undef := ac 7 rfl 20 rfl
     exact gd0 rfl (ac 4 rfl 17 rfl) ay ⟨rfl, ab⟩
    ·intro _ _ _ _ _ _ _ _ aa _ ab
     exact gd0 rfl (ab 4 rfl 17 rfl) ay ⟨rfl, aa⟩
    ·intro _ _ _ _ _ _ _ _ aa _ ab
     exact gd0 rfl (ab 4 rfl 17 rfl) ay ⟨rfl, aa⟩
    ·intro _ aa _ _ _ _ _ _ ab _ ac
     have ae : aa 22 = undef := ac 9 rfl 22 rfl
     have af : aa 23 = undef := ac 10 rfl 23 rfl
     exact gd0 rfl (ac 4 rfl 17 rfl) ay ⟨rfl, ab⟩
    ·intro _ aa _ _ _ _ _ _ ab _ ac
     have ae : aa 24 = undef := ac 11 rfl 24 rfl
     exact gd0 rfl (ac 4 rfl 17 rfl) ay ⟨rfl, ab⟩
    ·intro _ aa _ _ _ _ _ _ ab _ ac
     have ae : aa 21 = undef := ac 8 rfl 21 rfl
     have af : aa 25 = undef := ac 12 rfl 25 rfl
     exact gd0 rfl (ac 4 rfl 17 rfl) ay ⟨rfl, ab⟩
    ·intro _ aa _ _ _ _ _ _ ab _ ac
     have ae : aa 26 = undef := ac 13 rfl 26 rfl
     exact gd0 rfl (ac 4 rfl 17 rfl) ay ⟨rfl, ab⟩
    ·intro _ aa _ _ _ _ _ _ ab _ ac
     have ae : aa 27 = undef := ac 14 rfl 27 rfl
     refine r_pick_f (c := decide (aB < (ad.1.length : Int))) (bv false) (ac 4 rfl 17 rfl) ay rfl rfl rfl rfl ?_
     exact d0 ⟨rfl, ab⟩
    intro _ _ cc cd _ bS ce
    have cf := be.trans cc
    have cg := (bS 5 rfl).trans aW
    refine j1 ?_
    refine c_false (ce 15 28 rfl) rfl rfl ?_
    refine jc (j8 ?_)
    obtain rfl := oi hf
    exact ⟨rfl, _, _, rfl, rfl, ((aQ).draw bS rfl), cf, (((Wext.refl _).trans aV).trans cd), cg⟩
   ·exact ⟨_, _, rfl, rfl, (Agr.refl _ _), bI, (Wext.refl _), b2⟩
   rintro e a w ⟨rfl, dc, dd, rfl, rfl, aR, bx, aH, aX⟩
   have bz := (aR 0 rfl).trans bL
   have aY := (aR 3 rfl).trans bM
   have bA := (aR 4 rfl).trans bN
   refine j6 (j1 (j2 (j2 ?_)))
   refine if_else hf (fun aA hf => ?_) (fun aA hf => ?_)
   ·obtain ⟨x651, ch, hf⟩ := bind_some hf
    obtain ⟨x653, ci, hf⟩ := bind_some hf
    obtain ⟨aP, cj, hf⟩ := bind_some hf
    refine wp_draw (B := frExt s0.N) (sm 31 16) [[], [], [1], rg 3, rg 4, rg 5, rg 5, rg 7, rg 8, rg 5, rg 5, (rg 5 ++ [9, 10]), (rg 5 ++ [9, 10, 11]), rg 13, rg 14, rg 15] [Fct.eqv (iv ap), Fct.eqv (lv an ad.1.length ao), Fct.eqv (iv (ad.1.length : Int)), Fct.eqv (bv (decide (ap < (ad.1.length : Int)))), Fct.eqv (bv (decide (ap < (ad.1.length : Int)))), Fct.eqv (lv an ad.1.length ao), Fct.eqv (iv ap), Fct.elem (x651 : Ent), Fct.data (x651 : Ent), Fct.eqv (lv A1 a0.length c2), Fct.eqv (iv ad.2), Fct.elem (x653 : Ent), Fct.data (x653 : Ent), Fct.eqv (iv aP), Fct.eqv (bv (aP == 0)), Fct.eqv (bv (aP == 0))] (fun D F τ => True) (by kernel_rfl) rfl (by decide) (by decide) trivial (by decide) (by decide) ⟨?_, ?_, ?_, ?_, ?_, ?_, ?_, ?_, ?_, ?_, ?_, ?_, ?_, ?_, ?_, ?_, trivial⟩ ?_
    ·intro _ _ _ _ _ _ _ _ aa ab _
     refine r_move (iv ap) ((ab 5 rfl).trans aX) rfl ?_
     exact d0 ⟨rfl, aa⟩
    ·intro _ _ _ _ _ _ _ _ aa ab _
     refine r_move (lv an ad.1.length ao) ((ab 3 rfl).trans aY) rfl ?_
     exact d0 ⟨rfl, aa⟩
    ·intro _ _ _ _ _ _ _ _ aa _ ab
     refine r_len an ad.1.length ao (ab 1 rfl 32 rfl) rfl underlying24 ?_
     exact d0 ⟨rfl, aa⟩
    ·intro _ _ _ _ _ _ _ _ aa _ ab
     refine r_bin (iv ap) (iv (ad.1.length : Int)) (bv (decide (ap < (ad.1.length : Int)))) (ab 0 rfl 31 rfl) (ab 2 rfl 33 rfl) rfl rfl (b_lss) ?_
     exact d0 ⟨rfl, aa⟩
    ·intro _ _ _ _ _ _ _ _ aa _ ab
     refine r_move (bv (decide (ap < (ad.1.length : Int)))) (ab 3 rfl 34 rfl) rfl ?_
     exact d0 ⟨rfl, aa⟩
    ·intro _ _ _ _ _ _ _ _ aa ab ac
     refine gd1 rfl (ac 4 rfl 35 rfl) aA ?_
     refine r_move (lv an ad.1.length ao) ((ab 3 rfl).trans aY) rfl ?_
     exact d0 ⟨rfl, aa⟩
    ·intro _ _ _ _ _ _ _ _ aa ab ac
     refine gd1 rfl (ac 4 rfl 35 rfl) aA ?_
     refine r_move (iv ap) ((ab 5 rfl).trans aX) rfl ?_
     exact d0 ⟨rfl, aa⟩
    ·intro _ _ _ _ _ _ _ aa ab _ ac
     refine gd1 rfl (ac 4 rfl 35 rfl) aA ?_
     refine r_indexAddr (T := 24) (E := 65) ((aK.mono aH).mono aa) ch (ac 5 rfl 36 rfl) (ac 6 rfl 37 rfl) rfl rfl underlying24 sz65 ?_
     intro _ _ _ ae af
     obtain ⟨_, _, _, _, _, _, _, _, _, _, rfl, ah, ag, ai, aj, ak⟩ := Ent.cells_iff.1 ae
     exact d0 ⟨⟨_, _, _, rfl, (Ent.cells_iff.2 ⟨_, _, _, _, _, _, _, _, _, _, rfl, ah, ag, ai, aj, ak⟩), af⟩, ab⟩
    ·intro _ aa ab _ _ _ _ _ ac _ ae
     obtain ⟨af, ah, _, ag, ai, aj⟩ : (Fct.elem (x651 : Ent)).p (aa 38) ab := ae 7 rfl 38 rfl
     obtain ⟨ak, aq, ar, au, av, al, am, az, aw, ax, rfl, aC, aD, aE, aF, aG⟩ := Ent.cells_iff.1 ai
     refine gd1 rfl (ae 4 rfl 35 rfl) aA ?_
     refine r_load af ah (.agg #[lv ak x651.Args.length aq, bv x651.Fails, iv x651.Result.Kind, iv x651.Result.Int_, tv x651.Result.Text, lv ar x651.Result.Kids.length au, lv av x651.Result.Keys.length al, lv am x651.Result.Entries.length az, lv aw x651.Result.Labels.length ax]) ag rfl (loads_row tr65 aj.2) ?_
     exact d0 ⟨(Ent.rpvMk (v := x651) aC aD aE aF aG), ac⟩
    ·intro _ _ _ _ _ _ _ _ aa ab ac
     refine gd1 rfl (ac 4 rfl 35 rfl) aA ?_
     refine r_move (lv A1 a0.length c2) ((ab 0 rfl).trans bz) rfl ?_
     exact d0 ⟨rfl, aa⟩
    ·intro _ _ _ _ _ _ _ _ aa ab ac
     refine gd1 rfl (ac 4 rfl 35 rfl) aA ?_
     refine r_move (iv ad.2) ((ab 4 rfl).trans bA) rfl ?_
     exact d0 ⟨rfl, aa⟩
    ·intro _ _ _ _ _ _ _ aa ab _ ac
     refine gd1 rfl (ac 4 rfl 35 rfl) aA ?_
     refine r_indexAddr (T := 24) (E := 65) (((h3.mono aJ).mono aH).mono aa) ci (ac 9 rfl 40 rfl) (ac 10 rfl 41 rfl) rfl rfl underlying24 sz65 ?_
     intro _ _ _ ae af
     obtain ⟨_, _, _, _, _, _, _, _, _, _, rfl, ah, ag, ai, aj, ak⟩ := Ent.cells_iff.1 ae
     exact d0 ⟨⟨_, _, _, rfl, (Ent.cells_iff.2 ⟨_, _, _, _, _, _, _, _, _, _, rfl, ah, ag, ai, aj, ak⟩), af⟩, ab⟩
    ·intro _ aa ab _ _ _ _ _ ac _ ae
     obtain ⟨af, ah, _, ag, ai, aj⟩ : (Fct.elem (x653 : Ent)).p (aa 42) ab := ae 11 rfl 42 rfl
     obtain ⟨ak, aq, ar, au, av, al, am, az, aw, ax, rfl, aC, aD, aE, aF, aG⟩ := Ent.cells_iff.1 ai
     refine gd1 rfl (ae 4 rfl 35 rfl) aA ?_
     refine r_load af ah (.agg #[lv ak x653.Args.length aq, bv x653.Fails, iv x653.Result.Kind, iv x653.Result.Int_, tv x653.Result.Text, lv ar x653.Result.Kids.length au, lv av x653.Result.Keys.length al, lv am x653.Result.Entries.length az, lv aw x653.Result.Labels.length ax]) ag rfl (loads_row tr65 aj.2) ?_
     exact d0 ⟨(Ent.rpvMk (v := x653) aC aD aE aF aG), ac⟩
    ·intro _ aa ab _ _ _ ac _ _ _ ae
     have af := bx.trans ac
     have ah : RpV ab (x651 : Ent) (aa 39) := ae 8 rfl 39 rfl
     obtain ⟨ag, ai, aj, ak, aq, ar, au, av, al, am, az, aw, ax, aC, aD, aE⟩ := Ent.rpv ah
     have aF : RpV ab (x653 : Ent) (aa 43) := ae 12 rfl 43 rfl
     obtain ⟨aG, aN, aI, aO, bg, bh, bi, bj, bk, bl, bm, bn, bo, bp, bq, br⟩ := Ent.rpv aF
     refine gd1 rfl (ae 4 rfl 35 rfl) aA ?_
     refine r_call [.agg #[lv ag x651.Args.length ai, bv x651.Fails, iv x651.Result.Kind, iv x651.Result.Int_, tv x651.Result.Text, lv aj x651.Result.Kids.length ak, lv aq x651.Result.Keys.length ar, lv au x651.Result.Entries.length av, lv al x651.Result.Labels.length am], .agg #[lv aG x653.Args.length aN, bv x653.Fails, iv x653.Result.Kind, iv x653.Result.Int_, tv x653.Result.Text, lv aI x653.Result.Kids.length aO, lv bg x653.Result.Keys.length bh, lv bi x653.Result.Entries.length bj, lv bk x653.Result.Labels.length bl]] (evs2 az bm) rfl ((ok_semtyperef1_CompareEntries fuel) _ _ _ _ _ _ (Ent.rpvMk (v := x651) aw ax aC aD aE) (Ent.rpvMk (v := x653) bn bo bp bq br) cj) ?_
     intro _ _ bs bt
     obtain rfl := RpV.int bt
     exact d1 af (Nat.le_refl _) bs ⟨rfl, trivial⟩
    ·intro _ _ _ _ _ _ _ _ aa _ ab
     refine gd1 rfl (ab 4 rfl 35 rfl) aA ?_
     refine r_bin (iv aP) (iv 0) (bv (aP == 0)) (ab 13 rfl 44 rfl) rfl rfl rfl (b_eql) ?_
     exact d0 ⟨rfl, aa⟩
    ·intro _ _ _ _ _ _ _ _ aa _ ab
     refine r_pick_t (c := decide (ap < (ad.1.length : Int))) (bv (aP == 0)) (ab 4 rfl 35 rfl) aA (ab 14 rfl 45 rfl) rfl rfl rfl ?_
     exact d0 ⟨rfl, aa⟩
    intro ck _ cl aS _ aT cm
    have bB := bx.trans cl
    have cn := (aT 0 rfl).trans bz
    have bC := (aT 3 rfl).trans aY
    have bD := (aT 4 rfl).trans bA
    have bT := (aT 5 rfl).trans aX
    have bU : ck 46 = (bv (aP == 0)) := cm 15 46 rfl
    refine j1 ?_
    refine if_else hf (fun bE hf => ?_) (fun bE hf => ?_)
    ·refine c_true bU bE rfl ?_
     refine jc (j8 (j6 (j1 (j3 ?_))))
     refine r_move (iv ad.2) bD rfl ?_
     refine r_bin (iv ad.2) (iv 1) (iv (w64 (ad.2 + 1))) rfl rfl rfl rfl (b_add) ?_
     refine r_assign (iv (w64 (ad.2 + 1))) rfl rfl ?_
     refine j0 ?_
     obtain rfl := oi hf
     exact ⟨rfl, _, _, an, ao, rfl, rfl, ((((((((((((aU).put rfl).put rfl).put rfl).put rfl).put rfl).gen aL).loop aR rfl).draw aT rfl).put rfl).put rfl).put rfl), bB, ((((Wext.refl _).trans aJ).trans aH).trans aS), bC, ((aK.mono aH).mono aS), rfl⟩
    refine c_false bU bE rfl ?_
    refine ja (j1 (j2 (j3 ?_)))
    refine r_move (lv an ad.1.length ao) bC rfl ?_
    refine r_move (iv ap) bT rfl ?_
    obtain ⟨x1011, co, hf⟩ := bind_some hf
    obtain ⟨cp, cq, cr, cs⟩ := sl_cut_h (P := prog) ((aK.mono aH).mono aS) co underlying24 sz65
    refine r_slice (lv an ad.1.length ao) (lv cp x1011.length cq) none (some (iv ap)) none rfl rfl rfl (om rfl) rfl rfl (cr) ?_
    obtain ⟨_, ct, hf⟩ := bind_some hf
    refine r_append (B := s0.N) (id := 2) (E := 65) (xs := ([] : List Ent)) (ys := x1011) bB.size (Own.nil_ _) cs ts24 (room_some ct) rfl rfl rfl rfl ?_
    intro _ a1 a2 a3 cu
    have a4 := bB.y a3
    refine r_assign (lv a1 x1011.length a2) rfl rfl ?_
    refine j0 (j1 ?_)
    obtain ⟨x1025, cv, hf⟩ := bind_some hf
    obtain ⟨_, cw, hf⟩ := bind_some hf
    obtain ⟨x1029, cx, hf⟩ := bind_some hf
    obtain ⟨_, cy, hf⟩ := bind_some hf
    refine wp_draw (B := frExt s0.N) (sm 51 11 ++ [some 3]) [[], [], [], [1, 2], [1, 2, 3], [1, 2, 3, 4], rg 6, [], [], [7, 8], rg 10, rg 11] [Fct.eqv (lv a1 x1011.length a2), Fct.eqv (lv A1 a0.length c2), Fct.eqv (iv ad.2), Fct.elem (x1025 : Ent), Fct.data (x1025 : Ent), Fct.data ([x1025] : (List Ent)), Fct.data (x1011 ++ [x1025] : (List Ent)), Fct.eqv (lv an ad.1.length ao), Fct.eqv (iv ap), Fct.data (x1029 : (List Ent)), Fct.data ((x1011 ++ [x1025]) ++ x1029 : (List Ent)), Fct.data ((x1011 ++ [x1025]) ++ x1029 : (List Ent))] (fun D F τ => (D 6 = false → Own s0.N 2 65 τ x1011 a1 a2) ∧ (D 6 = true → D 10 = false → ∃ zA zc, F 57 = (lv zA (x1011 ++ [x1025]).length zc) ∧ Own s0.N 2 65 τ (x1011 ++ [x1025]) zA zc) ∧ (D 10 = true → ∃ zA zc, F 61 = (lv zA ((x1011 ++ [x1025]) ++ x1029).length zc) ∧ Own s0.N 2 65 τ ((x1011 ++ [x1025]) ++ x1029) zA zc ∧ (D 11 = true → F 3 = (lv zA ((x1011 ++ [x1025]) ++ x1029).length zc)))) (by kernel_rfl) rfl (by decide) (by decide) ⟨(fun _ => (cu.ext (ext_draw _))), (fun h => Bool.noConfusion h), (fun h => Bool.noConfusion h)⟩ (by decide) (by decide) ⟨?_, ?_, ?_, ?_, ?_, ?_, ?_, ?_, ?_, ?_, ?_, ?_, trivial⟩ ?_
    ·intro _ _ _ _ _ _ _ _ aa ab _
     refine r_move (lv a1 x1011.length a2) ((ab 6 rfl).trans rfl) rfl ?_
     exact d0 ⟨rfl, aa⟩
    ·intro _ _ _ _ _ _ _ _ aa ab _
     refine r_move (lv A1 a0.length c2) ((ab 0 rfl).trans cn) rfl ?_
     exact d0 ⟨rfl, aa⟩
    ·intro _ _ _ _ _ _ _ _ aa ab _
     refine r_move (iv ad.2) ((ab 4 rfl).trans bD) rfl ?_
     exact d0 ⟨rfl, aa⟩
    ·intro _ _ _ _ _ _ _ aa ab _ ac
     refine r_indexAddr (T := 24) (E := 65) (((((h3.mono aJ).mono aH).mono aS).mono a3.wext).mono aa) cv (ac 1 rfl 52 rfl) (ac 2 rfl 53 rfl) rfl rfl underlying24 sz65 ?_
     intro _ _ _ ae af
     obtain ⟨_, _, _, _, _, _, _, _, _, _, rfl, ah, ag, ai, aj, ak⟩ := Ent.cells_iff.1 ae
     exact d0 ⟨⟨_, _, _, rfl, (Ent.cells_iff.2 ⟨_, _, _, _, _, _, _, _, _, _, rfl, ah, ag, ai, aj, ak⟩), af⟩, ab⟩
    ·intro _ aa ab _ _ _ _ _ ac _ ae
     obtain ⟨af, ah, _, ag, ai, aj⟩ : (Fct.elem (x1025 : Ent)).p (aa 54) ab := ae 3 rfl 54 rfl
     obtain ⟨ak, aq, ar, au, av, al, am, az, aw, ax, rfl, aC, aD, aE, aF, aG⟩ := Ent.cells_iff.1 ai
     refine r_load af ah (.agg #[lv ak x1025.Args.length aq, bv x1025.Fails, iv x1025.Result.Kind, iv x1025.Result.Int_, tv x1025.Result.Text, lv ar x1025.Result.Kids.length au, lv av x1025.Result.Keys.length al, lv am x1025.Result.Entries.length az, lv aw x1025.Result.Labels.length ax]) ag rfl (loads_row tr65 aj.2) ?_
     exact d0 ⟨(Ent.rpvMk (v := x1025) aC aD aE aF aG), ac⟩
    ·intro _ aa ab _ _ ac ae _ af _ ah
     have ag := a4.trans ae
     obtain ⟨ai, _, _⟩ := id af
     have aj : RpV ab (x1025 : Ent) (aa 55) := ah 4 rfl 55 rfl
     obtain ⟨ak, aq, ar, au, av, al, am, az, aw, ax, aC, aD, aE, aF, aG, aN⟩ := Ent.rpv aj
     refine r_buildSlice (B := s0.N) (E := 65) 3 ag.size ts24 (xs := [x1025]) [.agg #[lv ak x1025.Args.length aq, bv x1025.Fails, iv x1025.Result.Kind, iv x1025.Result.Int_, tv x1025.Result.Text, lv ar x1025.Result.Kids.length au, lv av x1025.Result.Keys.length al, lv am x1025.Result.Entries.length az, lv aw x1025.Result.Labels.length ax]] (eps_cons aC eps_nil) rfl rfl rfl (by decide) rfl (by simp [Value.cells, Rp.sz]) ⟨_, _, rfl, (Ent.cells_iff.2 ⟨_, _, _, _, _, _, _, _, _, _, rfl, aD, aE, aF, aG, aN⟩), rfl⟩ ?_
     intro _ _ _ aI aO
     exact d1 ag (Nat.le_refl _) aI ⟨(RpV.mkList aO.sl), ⟨(fun h => ((ai h).ext aI)), (nc (ac 6 rfl)), (nc (ac 10 rfl))⟩⟩
    ·intro _ aa ab ac _ ae af _ ah _ ag
     have ai := a4.trans af
     obtain ⟨aj, _, _⟩ := id ah
     have ak : RpV ab ([x1025] : (List Ent)) (aa 56) := ag 5 rfl 56 rfl
     obtain ⟨_, _, aq, ar⟩ := RpV.list ak
     refine r_append (B := s0.N) (id := 2) (E := 65) (xs := x1011) (ys := [x1025]) ai.size ((aj ac)) ar ts24 (room_some cw) (ag 0 rfl 51 rfl) aq rfl rfl ?_
     intro _ au av al am
     refine j0 ?_
     exact ⟨_, _, rfl, rfl, (ExtB.refl _ _).trans ((ExtB.refl _ _).mod ai.size al), (Wext.refl _).trans al.wext, (RpV.mkList am.sl), ⟨(fun h => Bool.noConfusion h), (fun _ _ => ⟨au, av, rfl, am⟩), (nc (ae 10 rfl))⟩⟩
    ·intro _ _ _ _ _ _ _ _ aa ab _
     refine r_move (lv an ad.1.length ao) ((ab 3 rfl).trans bC) rfl ?_
     exact d0 ⟨rfl, aa⟩
    ·intro _ _ _ _ _ _ _ _ aa ab _
     refine r_move (iv ap) ((ab 5 rfl).trans bT) rfl ?_
     exact d0 ⟨rfl, aa⟩
    ·intro _ _ _ _ _ _ _ aa ab _ ac
     obtain ⟨ae, af, ah, ag⟩ := sl_cut_l (P := prog) ((((aK.mono aH).mono aS).mono a3.wext).mono aa) cx underlying24 sz65
     refine r_slice (lv an ad.1.length ao) (lv ae x1029.length af) (some (iv ap)) none none (ac 7 rfl 58 rfl) rfl (om (ac 8 rfl 59 rfl)) rfl rfl rfl (ah) ?_
     exact d0 ⟨(RpV.mkList ag), ab⟩
    ·intro _ aa ab ac ae af ah _ ag _ ai
     have aj := a4.trans ah
     obtain ⟨_, ak, _⟩ := id ag
     obtain ⟨_, _, aq, ar⟩ := ak (ae 6 rfl) ac
     have au : RpV ab (x1029 : (List Ent)) (aa 60) := ai 9 rfl 60 rfl
     obtain ⟨_, _, av, al⟩ := RpV.list au
     refine r_append (B := s0.N) (id := 2) (E := 65) (xs := x1011 ++ [x1025]) (ys := x1029) aj.size (ar) al ts24 (room_some cy) aq av rfl rfl ?_
     intro _ am az aw ax
     refine j0 ?_
     exact ⟨_, _, rfl, rfl, (ExtB.refl _ _).trans ((ExtB.refl _ _).mod aj.size aw), (Wext.refl _).trans aw.wext, (RpV.mkList ax.sl), ⟨(nc (ae 6 rfl)), (fun _ h => Bool.noConfusion h), (fun _ => ⟨am, az, rfl, ax, (nc (af 11 rfl))⟩)⟩⟩
    ·intro _ _ _ _ aa _ _ _ ab _ _
     obtain ⟨_, ac, ae⟩ := id ab
     obtain ⟨af, ah, ag, ai, _⟩ := ae (aa 10 rfl)
     refine r_assign (lv af ((x1011 ++ [x1025]) ++ x1029).length ah) ag rfl ?_
     exact d0 ⟨(RpV.mkList ai.sl), ⟨(nc (aa 6 rfl)), (fun y0 y1 => let ⟨zA, zc, zv, zo⟩ := ac y0 y1; ⟨zA, zc, zv, zo⟩), (fun _ => ⟨af, ah, ag, ai, (fun _ => rfl)⟩)⟩⟩
    intro _ _ cz cA cB bV _
    have cC := a4.trans cz
    obtain ⟨_, _, cD⟩ := cB
    obtain ⟨cE, cF, _, cG, cH⟩ := cD rfl
    have cI := (bV 4 rfl).trans bD
    refine j5 (j1 (j3 ?_))
    refine r_move (iv ad.2) cI rfl ?_
    refine r_bin (iv ad.2) (iv 1) (iv (w64 (ad.2 + 1))) rfl rfl rfl rfl (b_add) ?_
    refine r_assign (iv (w64 (ad.2 + 1))) rfl rfl ?_
    refine j0 ?_
    obtain rfl := oi hf
    exact ⟨rfl, _, _, cE, cF, rfl, rfl, ((((((((((((((((((aU).put rfl).put rfl).put rfl).put rfl).put rfl).gen aL).loop aR rfl).draw aT rfl).put rfl).put rfl).put rfl).put rfl).put rfl).draw bV rfl).put rfl).put rfl).put rfl), cC, ((((((Wext.refl _).trans aJ).trans aH).trans aS).trans a3.wext).trans cA), (cH rfl), cG.sl, rfl⟩
   refine wp_draw (B := frExt s0.N) (sm 31 16) [[], [], [1], rg 3, rg 4, rg 5, rg 5, rg 7, rg 8, rg 5, rg 5, (rg 5 ++ [9, 10]), (rg 5 ++ [9, 10, 11]), rg 13, rg 14, rg 15] [Fct.eqv (iv ap), Fct.eqv (lv an ad.1.length ao), Fct.eqv (iv (ad.1.length : Int)), Fct.eqv (bv (decide (ap < (ad.1.length : Int)))), Fct.eqv (bv (decide (ap < (ad.1.length : Int)))), Fct.eqv undef, Fct.eqv undef, Fct.eqv undef, Fct.eqv undef, Fct.eqv undef, Fct.eqv undef, Fct.eqv undef, Fct.eqv undef, Fct.eqv undef, Fct.eqv undef, Fct.eqv (bv false)] (fun D F τ => True) (by kernel_rfl) rfl (by decide) (by decide) trivial (by decide) (by decide) ⟨?_, ?_, ?_, ?_, ?_, ?_, ?_, ?_, ?_, ?_, ?_, ?_, ?_, ?_, ?_, ?_, trivial⟩ ?_
   ·intro _ _ _ _ _ _ _ _ aa ab _
    refine r_move (iv ap) ((ab 5 rfl).trans aX) rfl ?_
    exact d0 ⟨rfl, aa⟩
   ·intro _ _ _ _ _ _ _ _ aa ab _
    refine r_move (lv an ad.1.length ao) ((ab 3 rfl).trans aY) rfl ?_
    exact d0 ⟨rfl, aa⟩
   ·intro _ _ _ _ _ _ _ _ aa _ ab
    refine r_len an ad.1.length ao (ab 1 rfl 32 rfl) rfl underlying24 ?_
    exact d0 ⟨rfl, aa⟩
   ·intro _ _ _ _ _ _ _ _ aa _ ab
    refine r_bin (iv ap) (iv (ad.1.length : Int)) (bv (decide (ap < (ad.1.length : Int)))) (ab 0 rfl 31 rfl) (ab 2 rfl 33 rfl) rfl rfl (b_lss) ?_
    exact d0 ⟨rfl, aa⟩
   ·intro _ _ _ _ _ _ _ _ aa _ ab
    refine r_move (bv (decide (ap < (ad.1.length : Int)))) (ab 3 rfl 34 rfl) rfl ?_
    exact d0 ⟨rfl, aa⟩
   ·intro _ _ _ _ _ _ _ _ aa _ ab
    exact gd0 rfl (ab 4 rfl 35 rfl) aA ⟨rfl, aa⟩
   ·intro _ _ _ _ _ _ _ _ aa _ ab
    exact gd0 rfl (ab 4 rfl 35 rfl) aA ⟨rfl, aa⟩
   ·intro _ aa _ _ _ _ _ _ ab _ ac
    have ae : aa 36 = undef := ac 5 rfl 36 rfl
    have af : aa 37 = undef := ac 6 rfl 37 rfl
    exact gd0 rfl (ac 4 rfl 35 rfl) aA ⟨rfl, ab⟩
   ·intro _ aa _ _ _ _ _ _ ab _ ac
    have ae : aa 38 = undef := ac 7 rfl 38 rfl
    exact gd0 rfl (ac 4 rfl 35 rfl) aA ⟨rfl, ab⟩
   ·intro _ _ _ _ _ _ _ _ aa _ ab
    exact gd0 rfl (ab 4 rfl 35 rfl) aA ⟨rfl, aa⟩
   ·intro _ _ _ _ _ _ _ _ aa _ ab
    exact gd0 rfl (ab 4 rfl 35 rfl) aA ⟨rfl, aa⟩
   ·intro _ aa _ _ _ _ _ _ ab _ ac
    have ae : aa 40 = undef := ac 9 rfl 40 rfl
    have af : aa 41 = undef := ac 10 rfl 41 rfl
    exact gd0 rfl (ac 4 rfl 35 rfl) aA ⟨rfl, ab⟩
   ·intro _ aa _ _ _ _ _ _ ab _ ac
    have ae : aa 42 = undef := ac 11 rfl 42 rfl
    exact gd0 rfl (ac 4 rfl 35 rfl) aA ⟨rfl, ab⟩
   ·intro _ aa _ _ _ _ _ _ ab _ ac
    have ae : aa 39 = undef := ac 8 rfl 39 rfl
    have af : aa 43 = undef := ac 12 rfl 43 rfl
    exact gd0 rfl (ac 4 rfl 35 rfl) aA ⟨rfl, ab⟩
   ·intro _ aa _ _ _ _ _ _ ab _ ac
    have ae : aa 44 = undef := ac 13 rfl 44 rfl
    exact gd0 rfl (ac 4 rfl 35 rfl) aA ⟨rfl, ab⟩
   ·intro _ aa _ _ _ _ _ _ ab _ ac
    have ae : aa 45 = undef := ac 14 rfl 45 rfl
    refine r_pick_f (c := decide (ap < (ad.1.length : Int))) (bv false) (ac 4 rfl 35 rfl) aA rfl rfl rfl rfl ?_
    exact d0 ⟨rfl, ab⟩
   intro _ _ cJ a5 _ aZ cK
   have bW := bx.trans cJ
   have cL := (aZ 0 rfl).trans bz
   have bX := (aZ 3 rfl).trans aY
   have bY := (aZ 4 rfl).trans bA
   have bZ := (aZ 5 rfl).trans aX
   refine j1 ?_
   refine c_false (cK 15 46 rfl) rfl rfl ?_
   refine ja (j1 (j2 (j3 ?_)))
   refine r_move (lv an ad.1.length ao) bX rfl ?_
   refine r_move (iv ap) bZ rfl ?_
   obtain ⟨x1574, cM, hf⟩ := bind_some hf
   obtain ⟨cN, cO, cP, cQ⟩ := sl_cut_h (P := prog) ((aK.mono aH).mono a5) cM underlying24 sz65
   refine r_slice (lv an ad.1.length ao) (lv cN x1574.length cO) none (some (iv ap)) none rfl rfl rfl (om rfl) rfl rfl (cP) ?_
   obtain ⟨_, cR, hf⟩ := bind_some hf
   refine r_append (B := s0.N) (id := 4) (E := 65) (xs := ([] : List Ent)) (ys := x1574) bW.size (Own.nil_ _) cQ ts24 (room_some cR) rfl rfl rfl rfl ?_
   intro _ a6 a7 a8 cS
   have a9 := bW.y a8
   refine r_assign (lv a6 x1574.length a7) rfl rfl ?_
   refine j0 (j1 ?_)
   obtain ⟨x1588, cT, hf⟩ := bind_some hf
   obtain ⟨_, cU, hf⟩ := bind_some hf
   obtain ⟨x1592, cV, hf⟩ := bind_some hf
   obtain ⟨_, cW, hf⟩ := bind_some hf
   refine wp_draw (B := frExt s0.N) (sm 51 11 ++ [some 3]) [[], [], [], [1, 2], [1, 2, 3], [1, 2, 3, 4], rg 6, [], [], [7, 8], rg 10, rg 11] [Fct.eqv (lv a6 x1574.length a7), Fct.eqv (lv A1 a0.length c2), Fct.eqv (iv ad.2), Fct.elem (x1588 : Ent), Fct.data (x1588 : Ent), Fct.data ([x1588] : (List Ent)), Fct.data (x1574 ++ [x1588] : (List Ent)), Fct.eqv (lv an ad.1.length ao), Fct.eqv (iv ap), Fct.data (x1592 : (List Ent)), Fct.data ((x1574 ++ [x1588]) ++ x1592 : (List Ent)), Fct.data ((x1574 ++ [x1588]) ++ x1592 : (List Ent))] (fun D F τ => (D 6 = false → Own s0.N 4 65 τ x1574 a6 a7) ∧ (D 6 = true → D 10 = false → ∃ zA zc, F 57 = (lv zA (x1574 ++ [x1588]).length zc) ∧ Own s0.N 4 65 τ (x1574 ++ [x1588]) zA zc) ∧ (D 10 = true → ∃ zA zc, F 61 = (lv zA ((x1574 ++ [x1588]) ++ x1592).length zc) ∧ Own s0.N 4 65 τ ((x1574 ++ [x1588]) ++ x1592) zA zc ∧ (D 11 = true → F 3 = (lv zA ((x1574 ++ [x1588]) ++ x1592).length zc)))) (by kernel_rfl) rfl (by decide) (by decide) ⟨(fun _ => (cS.ext (ext_draw _))), (fun h => Bool.noConfusion h), (fun h => Bool.noConfusion h)⟩ (by decide) (by decide) ⟨?_, ?_, ?_, ?_, ?_, ?_, ?_, ?_, ?_, ?_, ?_, ?_, trivial⟩ ?_
   ·intro _ _ _ _ _ _ _ _ aa ab _
    refine r_move (lv a6 x1574.length a7) ((ab 6 rfl).trans rfl) rfl ?_
    exact d0 ⟨rfl, aa⟩
   ·intro _ _ _ _ _ _ _ _ aa ab _
    refine r_move (lv A1 a0.length c2) ((ab 0 rfl).trans cL) rfl ?_
    exact d0 ⟨rfl, aa⟩
   ·intro _ _ _ _ _ _ _ _ aa ab _
    refine r_move (iv ad.2) ((ab 4 rfl).trans bY) rfl ?_
    exact d0 ⟨rfl, aa⟩
   ·intro _ _ _ _ _ _ _ aa ab _ ac
    refine r_indexAddr (T := 24) (E := 65) (((((h3.mono aJ).mono aH).mono a5).mono a8.wext).mono aa) cT (ac 1 rfl 52 rfl) (ac 2 rfl 53 rfl) rfl rfl underlying24 sz65 ?_
    intro _ _ _ ae af
    obtain ⟨_, _, _, _, _, _, _, _, _, _, rfl, ah, ag, ai, aj, ak⟩ := Ent.cells_iff.1 ae
    exact d0 ⟨⟨_, _, _, rfl, (Ent.cells_iff.2 ⟨_, _, _, _, _, _, _, _, _, _, rfl, ah, ag, ai, aj, ak⟩), af⟩, ab⟩
   ·intro _ aa ab _ _ _ _ _ ac _ ae
    obtain ⟨af, ah, _, ag, ai, aj⟩ : (Fct.elem (x1588 : Ent)).p (aa 54) ab := ae 3 rfl 54 rfl
    obtain ⟨ak, aq, ar, au, av, al, am, az, aw, ax, rfl, aC, aD, aE, aF, aG⟩ := Ent.cells_iff.1 ai
    refine r_load af ah (.agg #[lv ak x1588.Args.length aq, bv x1588.Fails, iv x1588.Result.Kind, iv x1588.Result.Int_, tv x1588.Result.Text, lv ar x1588.Result.Kids.length au, lv av x1588.Result.Keys.length al, lv am x1588.Result.Entries.length az, lv aw x1588.Result.Labels.length ax]) ag rfl (loads_row tr65 aj.2) ?_
    exact d0 ⟨(Ent.rpvMk (v := x1588) aC aD aE aF aG), ac⟩
   ·intro _ aa ab _ _ ac ae _ af _ ah
    have ag := a9.trans ae
    obtain ⟨ai, _, _⟩ := id af
    have aj : RpV ab (x1588 : Ent) (aa 55) := ah 4 rfl 55 rfl
    obtain ⟨ak, aq, ar, au, av, al, am, az, aw, ax, aC, aD, aE, aF, aG, aN⟩ := Ent.rpv aj
    refine r_buildSlice (B := s0.N) (E := 65) 5 ag.size ts24 (xs := [x1588]) [.agg #[lv ak x1588.Args.length aq, bv x1588.Fails, iv x1588.Result.Kind, iv x1588.Result.Int_, tv x1588.Result.Text, lv ar x1588.Result.Kids.length au, lv av x1588.Result.Keys.length al, lv am x1588.Result.Entries.length az, lv aw x1588.Result.Labels.length ax]] (eps_cons aC eps_nil) rfl rfl rfl (by decide) rfl (by simp [Value.cells, Rp.sz]) ⟨_, _, rfl, (Ent.cells_iff.2 ⟨_, _, _, _, _, _, _, _, _, _, rfl, aD, aE, aF, aG, aN⟩), rfl⟩ ?_
    intro _ _ _ aI aO
    exact d1 ag (Nat.le_refl _) aI ⟨(RpV.mkList aO.sl), ⟨(fun h => ((ai h).ext aI)), (nc (ac 6 rfl)), (nc (ac 10 rfl))⟩⟩
   ·intro _ aa ab ac _ ae af _ ah _ ag
    have ai := a9.trans af
    obtain ⟨aj, _, _⟩ := id ah
    have ak : RpV ab ([x1588] : (List Ent)) (aa 56) := ag 5 rfl 56 rfl
    obtain ⟨_, _, aq, ar⟩ := RpV.list ak
    refine r_append (B := s0.N) (id := 4) (E := 65) (xs := x1574) (ys := [x1588]) ai.size ((aj ac)) ar ts24 (room_some cU) (ag 0 rfl 51 rfl) aq rfl rfl ?_
    intro _ au av al am
    refine j0 ?_
    exact ⟨_, _, rfl, rfl, (ExtB.refl _ _).trans ((ExtB.refl _ _).mod ai.size al), (Wext.refl _).trans al.wext, (RpV.mkList am.sl), ⟨(fun h => Bool.noConfusion h), (fun _ _ => ⟨au, av, rfl, am⟩), (nc (ae 10 rfl))⟩⟩
   ·intro _ _ _ _ _ _ _ _ aa ab _
    refine r_move (lv an ad.1.length ao) ((ab 3 rfl).trans bX) rfl ?_
    exact d0 ⟨rfl, aa⟩
   ·intro _ _ _ _ _ _ _ _ aa ab _
    refine r_move (iv ap) ((ab 5 rfl).trans bZ) rfl ?_
    exact d0 ⟨rfl, aa⟩
   ·intro _ _ _ _ _ _ _ aa ab _ ac
    obtain ⟨ae, af, ah, ag⟩ := sl_cut_l (P := prog) ((((aK.mono aH).mono a5).mono a8.wext).mono aa) cV underlying24 sz65
    refine r_slice (lv an ad.1.length ao) (lv ae x1592.length af) (some (iv ap)) none none (ac 7 rfl 58 rfl) rfl (om (ac 8 rfl 59 rfl)) rfl rfl rfl (ah) ?_
    exact d0 ⟨(RpV.mkList ag), ab⟩
   ·intro _ aa ab ac ae af ah _ ag _ ai
    have aj := a9.trans ah
    obtain ⟨_, ak, _⟩ := id ag
    obtain ⟨_, _, aq, ar⟩ := ak (ae 6 rfl) ac
    have au : RpV ab (x1592 : (List Ent)) (aa 60) := ai 9 rfl 60 rfl
    obtain ⟨_, _, av, al⟩ := RpV.list au
    refine r_append (B := s0.N) (id := 4) (E := 65) (xs := x1574 ++ [x1588]) (ys := x1592) aj.size (ar) al ts24 (room_some cW) aq av rfl rfl ?_
    intro _ am az aw ax
    refine j0 ?_
    exact ⟨_, _, rfl, rfl, (ExtB.refl _ _).trans ((ExtB.refl _ _).mod aj.size aw), (Wext.refl _).trans aw.wext, (RpV.mkList ax.sl), ⟨(nc (ae 6 rfl)), (fun _ h => Bool.noConfusion h), (fun _ => ⟨am, az, rfl, ax, (nc (af 11 rfl))⟩)⟩⟩
   ·intro _ _ _ _ aa _ _ _ ab _ _
    obtain ⟨_, ac, ae⟩ := id ab
    obtain ⟨af, ah, ag, ai, _⟩ := ae (aa 10 rfl)
    refine r_assign (lv af ((x1574 ++ [x1588]) ++ x1592).length ah) ag rfl ?_
    exact d0 ⟨(RpV.mkList ai.sl), ⟨(nc (aa 6 rfl)), (fun y0 y1 => let ⟨zA, zc, zv, zo⟩ := ac y0 y1; ⟨zA, zc, zv, zo⟩), (fun _ => ⟨af, ah, ag, ai, (fun _ => rfl)⟩)⟩⟩
   intro _ _ cX cY cZ b0 _
   have c0 := a9.trans cX
   obtain ⟨_, _, c3⟩ := cZ
   obtain ⟨c4, c5, _, c6, c7⟩ := c3 rfl
   have c8 := (b0 4 rfl).trans bY
   refine j5 (j1 (j3 ?_))
   refine r_move (iv ad.2) c8 rfl ?_
   refine r_bin (iv ad.2) (iv 1) (iv (w64 (ad.2 + 1))) rfl rfl rfl rfl (b_add) ?_
   refine r_assign (iv (w64 (ad.2 + 1))) rfl rfl ?_
   refine j0 ?_
   obtain rfl := oi hf
   exact ⟨rfl, _, _, c4, c5, rfl, rfl, ((((((((((((((((((aU).put rfl).put rfl).put rfl).put rfl).put rfl).gen aL).loop aR rfl).draw aZ rfl).put rfl).put rfl).put rfl).put rfl).put rfl).draw b0 rfl).put rfl).put rfl).put rfl), c0, ((((((Wext.refl _).trans aJ).trans aH).trans a5).trans a8.wext).trans cY), (c7 rfl), c6.sl, rfl⟩
  refine c_false rfl bc rfl ?_
  refine jc (j8 ?_)
  obtain rfl := oi hf
  exact ⟨rfl, _, _, an, ao, rfl, rfl, (((((aU).put rfl).put rfl).put rfl).put rfl), bI, ((Wext.refl _).trans aJ), bJ, aK, bb⟩
 ·exact ⟨_, _, none, 0, rfl, rfl, (Agr.refl _ _), E0, (Wext.refl _), f8, (Sl.nil_ _ _ _ (Nat.zero_le _)), f9⟩
 rintro e a w ⟨rfl, de, df, bF, bG, rfl, rfl, dg, c9, dh, da, db, di⟩
 refine j6 (j1 (j2 (j3 ?_)))
 refine r_move (lv bF ba.1.length bG) da rfl ?_
 refine r_assign (lv bF ba.1.length bG) rfl rfl ?_
 refine j0 (j1 (jb ?_))
 obtain rfl := oi hf
 refine ret_one (lv bF ba.1.length bG) rfl ⟨rfl, rfl⟩ c9 ?_
 exact (RpV.mkList db)

def S_semtyperef1_Function (f : (Int → (List Ent) → Option (Val × Int))) : Prop := ∀ (s0 : S) (v0 : Value) (v1 : Value) (a0 : Int) (a1 : (List Ent)) (r : (Val × Int)), RpV s0 a0 v0 → RpV s0 a1 v1 → f a0 a1 = some r → Ctr Go.Proofs.Try.prog 77 [v0, v1] s0 (fun v τ => ∃ v1 v2, v = .tuple #[v1, v2] ∧ RpV τ r.1 v1 ∧ RpV τ r.2 v2)

theorem ok_semtyperef1_Function (fuel : Nat) : S_semtyperef1_Function (semtyperef1_Function fuel) := by
 intro s0 v0 v1 a0 a1 r hp0 hp1 hf
 obtain rfl := RpV.int hp0
 obtain ⟨A1, c2, rfl, h3⟩ := RpV.list hp1
 unfold semtyperef1_Function at hf
 have E0 : ExtB s0.N s0 s0 := ExtB.refl _ _
 refine ctr_of 50 func77 rfl rfl rfl rfl ?_
 refine j2 (j3 ?_)
 refine r_alloc (B := s0.N) 1 E0.size _ [iv 0, iv 0, tv (⟨#[]⟩), nl Val, nl Key, nl Ent, nl ByteArray] ti27 rfl ?_
 intro s5 b4 k6 hb7
 have E8 := E0.x k6
 refine r_assign (iv 0) rfl rfl ?_
 refine j0 (j1 (j2 (j2 (j3 ?_))))
 refine r_move (iv a0) rfl rfl ?_
 refine r_bin (iv a0) (iv 0) (bv (decide (a0 < 0))) rfl rfl rfl rfl (b_lss) ?_
 refine r_move (bv (decide (a0 < 0))) rfl rfl ?_
 refine if_else hf (fun hc9 hf => ?_) (fun hc9 hf => ?_)
 ·refine r_skip (j := 2) (want := false) (d := 9) (c := decide (a0 < 0)) (v := true) rfl rfl hc9 rfl rfl ?_
  refine r_skip (j := 2) (want := false) (d := 9) (c := decide (a0 < 0)) (v := true) rfl rfl hc9 rfl rfl ?_
  refine r_pick_t (c := decide (a0 < 0)) (bv true) rfl hc9 rfl rfl rfl rfl ?_
  refine j0 (j1 ?_)
  refine c_true rfl rfl rfl ?_
  refine j2 (j3 ?_)
  refine r_build tst27 [] [iv 0, iv 0, tv (⟨#[]⟩), nl Val, nl Key, nl Ent, nl ByteArray] eps_nil rfl rfl ?_
  refine r_store hb7 0 (.agg #[iv 0, iv 0, tv (⟨#[]⟩), nl Val, nl Key, nl Ent, nl ByteArray]) [iv 0, iv 0, tv (⟨#[]⟩), nl Val, nl Key, nl Ent, nl ByteArray] [iv 0, iv 0, tv (⟨#[]⟩), nl Val, nl Key, nl Ent, nl ByteArray] rfl rfl rfl rfl rfl sz27 rfl rfl rfl ?_
  intro _ a5 a6
  have a7 := E8.y a5
  refine r_assign (iv 1) rfl rfl ?_
  refine j0 (j1 (jb (j9 ?_)))
  obtain rfl := oi hf
  refine ret_two (.agg #[iv 0, iv 0, tv (⟨#[]⟩), nl Val, nl Key, nl Ent, nl ByteArray]) (iv 1) rfl ⟨rfl, _, rfl, loads_row tr27 (Blk.range a6 0 [iv 0, iv 0, tv (⟨#[]⟩), nl Val, nl Key, nl Ent, nl ByteArray] rfl)⟩ ⟨rfl, rfl⟩ a7 ?_
  exact ⟨_, _, rfl, (Val.rpvMk (v := (Val.mk 0 0 (⟨#[]⟩) ([] : List Val) ([] : List Key) ([] : List Ent) ([] : List ByteArray))) (Sl.nil_ _ _ _ (Nat.zero_le _)) (Sl.nil_ _ _ _ (Nat.zero_le _)) (Sl.nil_ _ _ _ (Nat.zero_le _)) (Sl.nil_ _ _ _ (Nat.zero_le _))), (RpV.mkInt _ _)⟩
 refine r_guard (j := 2) (want := false) (d := 9) (c := decide (a0 < 0)) (v := false) rfl rfl hc9 rfl rfl ?_
 refine r_move (iv a0) rfl rfl ?_
 refine r_guard (j := 2) (want := false) (d := 9) (c := decide (a0 < 0)) (v := false) rfl rfl hc9 rfl rfl ?_
 refine r_bin (iv a0) (iv 4) (bv (decide (4 < a0))) rfl rfl rfl rfl (b_gtr) ?_
 refine r_pick_f (c := decide (a0 < 0)) (bv (decide (4 < a0))) rfl hc9 rfl rfl rfl rfl ?_
 refine j0 (j1 ?_)
 refine if_else hf (fun ar hf => ?_) (fun ar hf => ?_)
 ·refine c_true rfl ar rfl ?_
  refine j2 (j3 ?_)
  refine r_build tst27 [] [iv 0, iv 0, tv (⟨#[]⟩), nl Val, nl Key, nl Ent, nl ByteArray] eps_nil rfl rfl ?_
  refine r_store hb7 0 (.agg #[iv 0, iv 0, tv (⟨#[]⟩), nl Val, nl Key, nl Ent, nl ByteArray]) [iv 0, iv 0, tv (⟨#[]⟩), nl Val, nl Key, nl Ent, nl ByteArray] [iv 0, iv 0, tv (⟨#[]⟩), nl Val, nl Key, nl Ent, nl ByteArray] rfl rfl rfl rfl rfl sz27 rfl rfl rfl ?_
  intro _ a8 a9
  have ba := E8.y a8
  refine r_assign (iv 1) rfl rfl ?_
  refine j0 (j1 (jb (j9 ?_)))
  obtain rfl := oi hf
  refine ret_two (.agg #[iv 0, iv 0, tv (⟨#[]⟩), nl Val, nl Key, nl Ent, nl ByteArray]) (iv 1) rfl ⟨rfl, _, rfl, loads_row tr27 (Blk.range a9 0 [iv 0, iv 0, tv (⟨#[]⟩), nl Val, nl Key, nl Ent, nl ByteArray] rfl)⟩ ⟨rfl, rfl⟩ ba ?_
  exact ⟨_, _, rfl, (Val.rpvMk (v := (Val.mk 0 0 (⟨#[]⟩) ([] : List Val) ([] : List Key) ([] : List Ent) ([] : List ByteArray))) (Sl.nil_ _ _ _ (Nat.zero_le _)) (Sl.nil_ _ _ _ (Nat.zero_le _)) (Sl.nil_ _ _ _ (Nat.zero_le _)) (Sl.nil_ _ _ _ (Nat.zero_le _))), (RpV.mkInt _ _)⟩
 refine c_false rfl ar rfl ?_
 refine ja (j1 (j2 (j2 (j3 ?_))))
 refine r_assign (iv 0) rfl rfl ?_
 refine j0 (j1 (j4 ?_))
 refine gen_F fun ah am => ?_
 have aN : ah 0 = (iv a0) := (am 0).trans rfl
 have aO : ah 1 = (lv A1 a1.length c2) := (am 1).trans rfl
 have aP : ah 4 = (.pointer (some ⟨b4, 0, none⟩)) := (am 4).trans rfl
 have bb : ah 6 = (iv 0) := (am 6).trans rfl
 obtain ⟨bc, bd, hf⟩ := bind_some hf
 refine wp_mono (wp_iter (step := semtyperef1_Function_l1 fuel a0 a1) (fun q a w => ∃ (F : Fr) (τ : S), a = fr 50 F ∧ w = τ.w ∧ Agr [5, 6, 14, 15, 16, 17, 18, 19, 20, 21, 22, 23, 24, 25, 26, 27, 28, 29, 30, 31, 32, 33, 34, 35, 36, 37, 38, 39, 40, 41, 42, 43, 44, 45] F ah ∧ ExtB s0.N s0 τ ∧ Wext s5 τ ∧ F 6 = (iv q) ∧ Blk s0.N 1 τ b4 27 [iv 0, iv 0, tv (⟨#[]⟩), nl Val, nl Key, nl Ent, nl ByteArray]) (fun o e a w => match o with | .inl q => e = .exit 0 ∧ ∃ (F : Fr) (τ : S), a = fr 50 F ∧ w = τ.w ∧ Agr [5, 6, 14, 15, 16, 17, 18, 19, 20, 21, 22, 23, 24, 25, 26, 27, 28, 29, 30, 31, 32, 33, 34, 35, 36, 37, 38, 39, 40, 41, 42, 43, 44, 45] F ah ∧ ExtB s0.N s0 τ ∧ Wext s5 τ ∧ F 6 = (iv q) ∧ Blk s0.N 1 τ b4 27 [iv 0, iv 0, tv (⟨#[]⟩), nl Val, nl Key, nl Ent, nl ByteArray] | .inr r => e = .ret ∧ ∃ (F : Fr) (τ : S) (va : Value) (vb : Value), a = fr 50 F ∧ w = τ.w ∧ ExtB s0.N s0 τ ∧ ResV prog 50 F τ.w (.cell 4 27) va ∧ RpV τ r.1 va ∧ ResV prog 50 F τ.w (.tmp 5) vb ∧ RpV τ r.2 vb) (by rintro (_ | _) a w ⟨h, _⟩ <;> cases h) ?_ _ _ _ _ _ bd ?_) ?_
 ·intro ad fl a w hf hI
  obtain ⟨_, be, rfl, rfl, aj, an, ak, al, ao⟩ := hI
  unfold semtyperef1_Function_l1 at hf
  have bf := (aj 0 rfl).trans aN
  have ap := (aj 1 rfl).trans aO
  have au := (aj 4 rfl).trans aP
  refine j2 (j2 (j3 ?_))
  refine r_move (iv ad) al rfl ?_
  refine r_move (lv A1 a1.length c2) ap rfl ?_
  refine r_len A1 a1.length c2 rfl rfl underlying24 ?_
  refine r_bin (iv ad) (iv (a1.length : Int)) (bv (decide (ad < (a1.length : Int)))) rfl rfl rfl rfl (b_lss) ?_
  refine j0 (j1 ?_)
  refine if_else hf (fun av hf => ?_) (fun av hf => ?_)
  ·refine c_true rfl av rfl ?_
   refine ja (j1 (j2 (j4 (j2 (j3 ?_)))))
   refine r_move (lv A1 a1.length c2) ap rfl ?_
   refine r_move (iv ad) al rfl ?_
   obtain ⟨x38, bg, hf⟩ := bind_some hf
   refine r_indexAddr (T := 24) (E := 65) ((h3.mono k6.wext).mono ak) bg rfl rfl rfl rfl underlying24 sz65 ?_
   intro aQ aw _ bh bi
   obtain ⟨aR, aS, _, _, _, _, _, _, _, _, rfl, _, _, _, _, _⟩ := Ent.cells_iff.1 bh
   refine r_fieldAddr aQ aw 0 (aw) rfl rfl fo65_0 rfl ?_
   refine r_load aQ aw (lv aR x38.Args.length aS) rfl rfl (loads_one to22 (bi.2 0 _ rfl)) ?_
   refine r_len aR x38.Args.length aS rfl rfl underlying22 ?_
   refine r_move (iv a0) bf rfl ?_
   refine r_bin (iv (x38.Args.length : Int)) (iv a0) (bv ((x38.Args.length : Int) != a0)) rfl rfl rfl rfl (b_neq) ?_
   refine r_move (bv ((x38.Args.length : Int) != a0)) rfl rfl ?_
   refine if_else hf (fun ab hf => ?_) (fun ab hf => ?_)
   ·refine r_skip (j := 8) (want := false) (d := 28) (c := ((x38.Args.length : Int) != a0)) (v := true) rfl rfl ab rfl rfl ?_
    refine r_skip (j := 8) (want := false) (d := 28) (c := ((x38.Args.length : Int) != a0)) (v := true) rfl rfl ab rfl rfl ?_
    refine r_skip (j := 8) (want := false) (d := 28) (c := ((x38.Args.length : Int) != a0)) (v := true) rfl rfl ab rfl rfl ?_
    refine r_skip (j := 8) (want := false) (d := 28) (c := ((x38.Args.length : Int) != a0)) (v := true) rfl rfl ab rfl rfl ?_
    refine r_skip (j := 8) (want := false) (d := 28) (c := ((x38.Args.length : Int) != a0)) (v := true) rfl rfl ab rfl rfl ?_
    refine r_skip (j := 8) (want := false) (d := 28) (c := ((x38.Args.length : Int) != a0)) (v := true) rfl rfl ab rfl rfl ?_
    refine r_skipu (j := 14) (d := 34) rfl rfl rfl ?_
    refine r_skipu (j := 14) (d := 34) rfl rfl rfl ?_
    refine r_skipu (j := 14) (d := 34) rfl rfl rfl ?_
    refine r_skipu (j := 14) (d := 34) rfl rfl rfl ?_
    refine r_skipu (j := 14) (d := 34) rfl rfl rfl ?_
    refine r_skipu (j := 14) (d := 34) rfl rfl rfl ?_
    refine r_skipu (j := 14) (d := 34) rfl rfl rfl ?_
    refine r_skipu (j := 14) (d := 34) rfl rfl rfl ?_
    refine r_skip (j := 8) (want := false) (d := 28) (c := ((x38.Args.length : Int) != a0)) (v := true) rfl rfl ab rfl rfl ?_
    refine r_pick_t (c := ((x38.Args.length : Int) != a0)) (bv true) rfl ab rfl rfl rfl rfl ?_
    refine j0 (j1 ?_)
    refine c_true rfl rfl rfl ?_
    refine j2 (j3 ?_)
    refine r_build tst27 [] [iv 0, iv 0, tv (⟨#[]⟩), nl Val, nl Key, nl Ent, nl ByteArray] eps_nil rfl rfl ?_
    refine r_store ao 0 (.agg #[iv 0, iv 0, tv (⟨#[]⟩), nl Val, nl Key, nl Ent, nl ByteArray]) [iv 0, iv 0, tv (⟨#[]⟩), nl Val, nl Key, nl Ent, nl ByteArray] [iv 0, iv 0, tv (⟨#[]⟩), nl Val, nl Key, nl Ent, nl ByteArray] au rfl rfl rfl rfl sz27 rfl rfl rfl ?_
    intro _ bj bk
    have bl := an.y bj
    refine r_assign (iv 1) rfl rfl ?_
    refine j0 (j1 (jb (j7 (j9 ?_))))
    obtain rfl := oi hf
    exact ⟨rfl, _, _, (.agg #[iv 0, iv 0, tv (⟨#[]⟩), nl Val, nl Key, nl Ent, nl ByteArray]), (iv 1), rfl, rfl, bl, ⟨rfl, _, au, loads_row tr27 (Blk.range bk 0 [iv 0, iv 0, tv (⟨#[]⟩), nl Val, nl Key, nl Ent, nl ByteArray] rfl)⟩, (Val.rpvMk (v := (Val.mk 0 0 (⟨#[]⟩) ([] : List Val) ([] : List Key) ([] : List Ent) ([] : List ByteArray))) (Sl.nil_ _ _ _ (Nat.zero_le _)) (Sl.nil_ _ _ _ (Nat.zero_le _)) (Sl.nil_ _ _ _ (Nat.zero_le _)) (Sl.nil_ _ _ _ (Nat.zero_le _))), ⟨rfl, rfl⟩, (RpV.mkInt _ _)⟩
   refine r_guard (j := 8) (want := false) (d := 28) (c := ((x38.Args.length : Int) != a0)) (v := false) rfl rfl ab rfl rfl ?_
   refine r_move (lv A1 a1.length c2) ap rfl ?_
   refine r_guard (j := 8) (want := false) (d := 28) (c := ((x38.Args.length : Int) != a0)) (v := false) rfl rfl ab rfl rfl ?_
   refine r_move (iv ad) al rfl ?_
   refine r_guard (j := 8) (want := false) (d := 28) (c := ((x38.Args.length : Int) != a0)) (v := false) rfl rfl ab rfl rfl ?_
   obtain ⟨x65, bm, hf⟩ := bind_some hf
   refine r_indexAddr (T := 24) (E := 65) ((h3.mono k6.wext).mono ak) bm rfl rfl rfl rfl underlying24 sz65 ?_
   intro aT ax _ bn bo
   obtain ⟨_, _, _, _, _, _, _, _, _, _, rfl, _, _, _, _, _⟩ := Ent.cells_iff.1 bn
   refine r_guard (j := 8) (want := false) (d := 28) (c := ((x38.Args.length : Int) != a0)) (v := false) rfl rfl ab rfl rfl ?_
   refine r_fieldAddr aT ax 1 (ax + 1) rfl rfl fo65_1 rfl ?_
   refine r_guard (j := 8) (want := false) (d := 28) (c := ((x38.Args.length : Int) != a0)) (v := false) rfl rfl ab rfl rfl ?_
   refine r_load aT (ax + 1) (bv x65.Fails) rfl rfl (loads_one to4 (bo.2 1 _ rfl)) ?_
   refine r_guard (j := 8) (want := false) (d := 28) (c := ((x38.Args.length : Int) != a0)) (v := false) rfl rfl ab rfl rfl ?_
   refine r_move (bv x65.Fails) rfl rfl ?_
   refine gen_FL fun ay ai => ?_
   have bp := (ai 1).trans ap
   have bq := (ai 4).trans au
   have aU := (ai 6).trans al
   have az : ay 28 = (bv ((x38.Args.length : Int) != a0)) := (ai 28).trans rfl
   have ac : ay 34 = (bv x65.Fails) := (ai 34).trans rfl
   obtain ⟨aV, hq96, hf⟩ := bind_some hf
   refine wpl_take 9 (J := fun a w => ∃ (F : Fr) (τ : S), a = fr 50 F ∧ w = τ.w ∧ Agr [35, 36, 37, 38, 39, 40, 41, 42, 43] F ay ∧ ExtB s0.N s0 τ ∧ Wext be τ ∧ F 43 = (bv aV) ∧ Blk s0.N 1 τ b4 27 [iv 0, iv 0, tv (⟨#[]⟩), nl Val, nl Key, nl Ent, nl ByteArray]) ?_ ?_
   ·have hf := hq96
    refine if_else hf (fun aa hf => ?_) (fun aa hf => ?_)
    ·refine r_guard (j := 14) (want := true) (d := 34) (c := x65.Fails) (v := true) rfl ac aa rfl rfl ?_
     refine r_move (lv A1 a1.length c2) bp rfl ?_
     refine r_guard (j := 14) (want := true) (d := 34) (c := x65.Fails) (v := true) rfl ac aa rfl rfl ?_
     refine r_move (iv ad) aU rfl ?_
     refine r_guard (j := 14) (want := true) (d := 34) (c := x65.Fails) (v := true) rfl ac aa rfl rfl ?_
     obtain ⟨x98, br, hf⟩ := bind_some hf
     refine r_indexAddr (T := 24) (E := 65) ((h3.mono k6.wext).mono ak) br rfl rfl rfl rfl underlying24 sz65 ?_
     intro aW aA _ bs bt
     obtain ⟨_, _, aB, aC, aD, aE, aF, aG, aH, aI, rfl, _, bu, bw, bx, bz⟩ := Ent.cells_iff.1 bs
     refine r_guard (j := 14) (want := true) (d := 34) (c := x65.Fails) (v := true) rfl ac aa rfl rfl ?_
     refine r_fieldAddr aW aA 2 (aA + 2) rfl rfl fo65_2 rfl ?_
     refine r_guard (j := 14) (want := true) (d := 34) (c := x65.Fails) (v := true) rfl ac aa rfl rfl ?_
     refine r_load aW (aA + 2) (Val.ag x98.Result aB aC aD aE aF aG aH aI) rfl rfl (loads_row tr27 (sub_range 2 (Val.cs x98.Result aB aC aD aE aF aG aH aI) rfl bt.2)) ?_
     refine r_guard (j := 14) (want := true) (d := 34) (c := x65.Fails) (v := true) rfl ac aa rfl rfl ?_
     refine r_build tst27 [] [iv 0, iv 0, tv (⟨#[]⟩), nl Val, nl Key, nl Ent, nl ByteArray] eps_nil rfl rfl ?_
     refine r_guard (j := 14) (want := true) (d := 34) (c := x65.Fails) (v := true) rfl ac aa rfl rfl ?_
     obtain ⟨aJ, bA, hf⟩ := bind_some hf
     refine r_call [Val.ag x98.Result aB aC aD aE aF aG aH aI, .agg #[iv 0, iv 0, tv (⟨#[]⟩), nl Val, nl Key, nl Ent, nl ByteArray]] (evs2 rfl rfl) rfl ((ok_semtyperef1_Equal fuel) _ _ _ _ _ _ (Val.rpvMk (v := x98.Result) bu bw bx bz) (Val.rpvMk (v := (Val.mk 0 0 (⟨#[]⟩) ([] : List Val) ([] : List Key) ([] : List Ent) ([] : List ByteArray))) (Sl.nil_ _ _ _ (Nat.zero_le _)) (Sl.nil_ _ _ _ (Nat.zero_le _)) (Sl.nil_ _ _ _ (Nat.zero_le _)) (Sl.nil_ _ _ _ (Nat.zero_le _))) bA) ?_
     intro _ _ aK bB
     have bC := an.x aK
     obtain rfl := RpV.bool bB
     refine r_guard (j := 14) (want := true) (d := 34) (c := x65.Fails) (v := true) rfl ac aa rfl rfl ?_
     refine r_un (bv aJ) (bv (!aJ)) rfl rfl u_not ?_
     refine r_guard (j := 8) (want := false) (d := 28) (c := ((x38.Args.length : Int) != a0)) (v := false) rfl az ab rfl rfl ?_
     refine r_pick_t (c := x65.Fails) (bv (!aJ)) ac aa rfl rfl rfl rfl ?_
     refine j0 ?_
     obtain rfl := oi hf
     exact ⟨rfl, _, _, rfl, rfl, ((((((((((Agr.refl _ _).put rfl).put rfl).put rfl).put rfl).put rfl).put rfl).put rfl).put rfl).put rfl), bC, ((Wext.refl _).trans aK.wext), rfl, (ao.ext aK)⟩
    refine r_skip (j := 14) (want := true) (d := 34) (c := x65.Fails) (v := false) rfl ac aa rfl rfl ?_
    refine r_skip (j := 14) (want := true) (d := 34) (c := x65.Fails) (v := false) rfl ac aa rfl rfl ?_
    refine r_skip (j := 14) (want := true) (d := 34) (c := x65.Fails) (v := false) rfl ac aa rfl rfl ?_
    refine r_skip (j := 14) (want := true) (d := 34) (c := x65.Fails) (v := false) rfl ac aa rfl rfl ?_
    refine r_skip (j := 14) (want := true) (d := 34) (c := x65.Fails) (v := false) rfl ac aa rfl rfl ?_
    refine r_skip (j := 14) (want := true) (d := 34) (c := x65.Fails) (v := false) rfl ac aa rfl rfl ?_
    refine r_skip (j := 14) (want := true) (d := 34) (c := x65.Fails) (v := false) rfl ac aa rfl rfl ?_
    refine r_skip (j := 14) (want := true) (d := 34) (c := x65.Fails) (v := false) rfl ac aa rfl rfl ?_
    refine r_guard (j := 8) (want := false) (d := 28) (c := ((x38.Args.length : Int) != a0)) (v := false) rfl az ab rfl rfl ?_
    refine r_pick_f (c := x65.Fails) (bv false) ac aa rfl rfl rfl rfl ?_
    refine j0 ?_
    obtain rfl := oi hf
    exact ⟨rfl, _, _, rfl, rfl, ((((((((((Agr.refl _ _).put rfl).put rfl).put rfl).put rfl).put rfl).put rfl).put rfl).put rfl).put rfl), an, (Wext.refl _), rfl, ao⟩
   rintro a w ⟨b2, b3, rfl, rfl, aq, aX, bD, bE, aY⟩
   have aZ := (aq 4 rfl).trans bq
   have bF := (aq 6 rfl).trans aU
   have bG := (aq 28 rfl).trans az
   refine r_pick_f (c := ((x38.Args.length : Int) != a0)) (bv aV) bG ab bE rfl rfl rfl ?_
   refine j0 (j1 ?_)
   refine if_else hf (fun aL hf => ?_) (fun aL hf => ?_)
   ·refine c_true rfl aL rfl ?_
    refine j2 (j3 ?_)
    refine r_build tst27 [] [iv 0, iv 0, tv (⟨#[]⟩), nl Val, nl Key, nl Ent, nl ByteArray] eps_nil rfl rfl ?_
    refine r_store aY 0 (.agg #[iv 0, iv 0, tv (⟨#[]⟩), nl Val, nl Key, nl Ent, nl ByteArray]) [iv 0, iv 0, tv (⟨#[]⟩), nl Val, nl Key, nl Ent, nl ByteArray] [iv 0, iv 0, tv (⟨#[]⟩), nl Val, nl Key, nl Ent, nl ByteArray] aZ rfl rfl rfl rfl sz27 rfl rfl rfl ?_
    intro _ bH bI
    have bJ := aX.y bH
    refine r_assign (iv 1) rfl rfl ?_
    refine j0 (j1 (jb (j7 (j9 ?_))))
    obtain rfl := oi hf
    exact ⟨rfl, _, _, (.agg #[iv 0, iv 0, tv (⟨#[]⟩), nl Val, nl Key, nl Ent, nl ByteArray]), (iv 1), rfl, rfl, bJ, ⟨rfl, _, aZ, loads_row tr27 (Blk.range bI 0 [iv 0, iv 0, tv (⟨#[]⟩), nl Val, nl Key, nl Ent, nl ByteArray] rfl)⟩, (Val.rpvMk (v := (Val.mk 0 0 (⟨#[]⟩) ([] : List Val) ([] : List Key) ([] : List Ent) ([] : List ByteArray))) (Sl.nil_ _ _ _ (Nat.zero_le _)) (Sl.nil_ _ _ _ (Nat.zero_le _)) (Sl.nil_ _ _ _ (Nat.zero_le _)) (Sl.nil_ _ _ _ (Nat.zero_le _))), ⟨rfl, rfl⟩, (RpV.mkInt _ _)⟩
   refine c_false rfl aL rfl ?_
   refine ja (j5 (j1 (j3 ?_)))
   refine r_move (iv ad) bF rfl ?_
   refine r_bin (iv ad) (iv 1) (iv (w64 (ad + 1))) rfl rfl rfl rfl (b_add) ?_
   refine r_assign (iv (w64 (ad + 1))) rfl rfl ?_
   refine j0 ?_
   obtain rfl := oi hf
   exact ⟨rfl, _, _, rfl, rfl, ((((((((((((((((((((((((((aj).put rfl).put rfl).put rfl).put rfl).put rfl).put rfl).put rfl).put rfl).put rfl).put rfl).put rfl).put rfl).put rfl).put rfl).put rfl).put rfl).put rfl).put rfl).put rfl).gen ai).loop aq rfl).put rfl).put rfl).put rfl).put rfl), aX, (((Wext.refl _).trans ak).trans bD), rfl, aY⟩
  refine c_false rfl av rfl ?_
  refine jc (j8 ?_)
  obtain rfl := oi hf
  exact ⟨rfl, _, _, rfl, rfl, (((((aj).put rfl).put rfl).put rfl).put rfl), an, ((Wext.refl _).trans ak), al, ao⟩
 ·exact ⟨_, _, rfl, rfl, (Agr.refl _ _), E8, (Wext.refl _), bb, hb7⟩
 intro e a w hp
 rcases bc with b5 | r
 ·replace hf := onEnd_inl hf
  obtain ⟨rfl, _, _, rfl, rfl, aM, bK, bL, _, bM⟩ := hp
  have bN := (aM 0 rfl).trans aN
  have bO := (aM 1 rfl).trans aO
  have a2 := (aM 4 rfl).trans aP
  refine j6 (j1 (j2 (j3 ?_)))
  refine r_move (iv a0) bN rfl ?_
  refine r_move (lv A1 a1.length c2) bO rfl ?_
  obtain ⟨ae, bP, hf⟩ := bind_some hf
  refine r_call [lv A1 a1.length c2] (evs1 rfl) rfl ((ok_semtyperef1_entries fuel) _ _ _ _ (RpV.mkList ((h3.mono k6.wext).mono bL)) bP) ?_
  intro _ _ a3 bQ
  have bR := bK.x a3
  obtain ⟨af, ag, rfl, bS⟩ := RpV.list bQ
  refine r_build tst27 [(0, iv 9), (1, iv a0), (5, lv af ae.length ag)] [iv 9, iv a0, tv (⟨#[]⟩), nl Val, nl Key, lv af ae.length ag, nl ByteArray] (eps_cons rfl (eps_cons rfl (eps_cons rfl eps_nil))) rfl rfl ?_
  refine r_store (bM.ext a3) 0 (.agg #[iv 9, iv a0, tv (⟨#[]⟩), nl Val, nl Key, lv af ae.length ag, nl ByteArray]) [iv 9, iv a0, tv (⟨#[]⟩), nl Val, nl Key, lv af ae.length ag, nl ByteArray] [iv 9, iv a0, tv (⟨#[]⟩), nl Val, nl Key, lv af ae.length ag, nl ByteArray] a2 rfl rfl rfl rfl sz27 rfl rfl rfl ?_
  intro _ a4 bT
  have bU := bR.y a4
  refine r_assign (iv 0) rfl rfl ?_
  refine j0 (j1 (jb ?_))
  obtain rfl := oi hf
  refine ret_two (.agg #[iv 9, iv a0, tv (⟨#[]⟩), nl Val, nl Key, lv af ae.length ag, nl ByteArray]) (iv 0) rfl ⟨rfl, _, a2, loads_row tr27 (Blk.range bT 0 [iv 9, iv a0, tv (⟨#[]⟩), nl Val, nl Key, lv af ae.length ag, nl ByteArray] rfl)⟩ ⟨rfl, rfl⟩ bU ?_
  exact ⟨_, _, rfl, (Val.rpvMk (v := (Val.mk 9 a0 (⟨#[]⟩) ([] : List Val) ([] : List Key) ae ([] : List ByteArray))) (Sl.nil_ _ _ _ (Nat.zero_le _)) (Sl.nil_ _ _ _ (Nat.zero_le _)) (bS.mono a4.wext) (Sl.nil_ _ _ _ (Nat.zero_le _))), (RpV.mkInt _ _)⟩
 replace hf := onEnd_inr hf
 obtain ⟨rfl, _, _, bV, bW, rfl, rfl, bX, bY, bZ, b0, b1⟩ := hp
 refine j7 (j9 ?_)
 obtain rfl := oi hf
 refine ret_two bV bW rfl bY b0 bX ?_
 exact ⟨_, _, rfl, bZ, b1⟩

def S_semtypebase_Source_Value (f : (Semtypebase_Source → Int → Option (Val × Semtypebase_Source))) : Prop := ∀ (s0 : S) (v1 : Value) (B0 id0 b0 : Nat) (cs0 : List Value) (a0 : Semtypebase_Source) (a1 : Int) (r : (Val × Semtypebase_Source)), Rp.cells s0 a0 cs0 → Blk B0 id0 s0 b0 53 cs0 → 1000000 ≤ id0 → RpV s0 a1 v1 → f a0 a1 = some r → CtrE Go.Proofs.Try.prog 34 [.pointer (some ⟨b0, 0, none⟩), v1] s0 (Mod B0 id0 s0) (fun v τ => RpV τ r.1 v ∧ PtrR B0 id0 53 τ r.2 b0)

def S_semtypebase_Source_value (f : (Semtypebase_Source → Int → Option (Val × Semtypebase_Source))) : Prop := ∀ (s0 : S) (v1 : Value) (B0 id0 b0 : Nat) (cs0 : List Value) (a0 : Semtypebase_Source) (a1 : Int) (r : (Val × Semtypebase_Source)), Rp.cells s0 a0 cs0 → Blk B0 id0 s0 b0 53 cs0 → 1000000 ≤ id0 → RpV s0 a1 v1 → f a0 a1 = some r → CtrE Go.Proofs.Try.prog 59 [.pointer (some ⟨b0, 0, none⟩), v1] s0 (Mod B0 id0 s0) (fun v τ => RpV τ r.1 v ∧ PtrR B0 id0 53 τ r.2 b0)

def S_semtypebase_Source_entry (f : (Semtypebase_Source → Int → Int → Option (Ent × Semtypebase_Source))) : Prop := ∀ (s0 : S) (v1 : Value) (v2 : Value) (B0 id0 b0 : Nat) (cs0 : List Value) (a0 : Semtypebase_Source) (a1 : Int) (a2 : Int) (r : (Ent × Semtypebase_Source)), Rp.cells s0 a0 cs0 → Blk B0 id0 s0 b0 53 cs0 → 1000000 ≤ id0 → RpV s0 a1 v1 → RpV s0 a2 v2 → f a0 a1 a2 = some r → CtrE Go.Proofs.Try.prog 76 [.pointer (some ⟨b0, 0, none⟩), v1, v2] s0 (Mod B0 id0 s0) (fun v τ => RpV τ r.1 v ∧ PtrR B0 id0 53 τ r.2 b0)

theorem okB_semtypebase_Source_Value {rec_semtypebase_Source_Value : (Semtypebase_Source → Int → Option (Val × Semtypebase_Source))} {rec_semtypebase_Source_value : (Semtypebase_Source → Int → Option (Val × Semtypebase_Source))} {rec_semtypebase_Source_entry : (Semtypebase_Source → Int → Int → Option (Ent × Semtypebase_Source))} (_hrec_semtypebase_Source_Value : S_semtypebase_Source_Value rec_semtypebase_Source_Value) (hrec_semtypebase_Source_value : S_semtypebase_Source_value rec_semtypebase_Source_value) (_hrec_semtypebase_Source_entry : S_semtypebase_Source_entry rec_semtypebase_Source_entry) : S_semtypebase_Source_Value (semtypebase_Source_Value_B rec_semtypebase_Source_Value rec_semtypebase_Source_value rec_semtypebase_Source_entry) := by
 intro s0 v1 B0 id0 b0 cs0 a0 a1 r hc0 hb0 hid0 hp1 hf
 obtain ⟨A1, c2, rfl, h3⟩ := Semtypebase_Source.cells_iff.1 hc0
 obtain rfl := RpV.int hp1
 unfold semtypebase_Source_Value_B at hf
 have E0 : ExtP s0.N B0 id0 s0 s0 := ExtP.refl _ _ _ _
 refine ctr_ofE 13 func34 rfl rfl rfl rfl ?_
 refine j2 (j3 ?_)
 refine r_alloc (B := s0.N) 1 E0.size _ [iv 0, iv 0, tv (⟨#[]⟩), nl Val, nl Key, nl Ent, nl ByteArray] ti27 rfl ?_
 intro s5 b4 k6 hb7
 have E8 := E0.x k6
 refine j0 (j1 (j2 (j3 ?_)))
 refine r_move (.pointer (some ⟨b0, 0, none⟩)) rfl rfl ?_
 refine r_move (iv a1) rfl rfl ?_
 obtain ⟨r9, av, hf⟩ := bind_some hf
 refine r_callE [.pointer (some ⟨b0, 0, none⟩), iv a1] (evs2 rfl rfl) rfl (hrec_semtypebase_Source_value _ _ _ _ _ _ _ _ _ (Semtypebase_Source.cells_iff.2 ⟨_, _, rfl, (h3.mono k6.wext)⟩) (hb0.ext k6) hid0 (RpV.mkInt _ _) av) ?_
 intro _ _ aq aw
 obtain ⟨ax, _, ay, az⟩ := aw
 have ar := E8.z aq
 obtain ⟨_, _, rfl, aA⟩ := Semtypebase_Source.cells_iff.1 ay
 obtain ⟨aa, ab, ac, ad, ae, af, ao, ap, rfl, aB, aC, aD, _⟩ := Val.rpv ax
 refine r_alloc (B := s0.N) 2 ar.size _ [iv 0, iv 0, tv (⟨#[]⟩), nl Val, nl Key, nl Ent, nl ByteArray] ti27 rfl ?_
 intro _ au ak aE
 have aF := ar.x ak
 refine r_store aE 0 (Val.ag r9.1 aa ab ac ad ae af ao ap) (Val.cs r9.1 aa ab ac ad ae af ao ap) (Val.cs r9.1 aa ab ac ad ae af ao ap) rfl rfl rfl rfl rfl sz27 rfl rfl rfl ?_
 intro _ al aG
 have aH := aF.y al
 refine j0 (j1 (j2 (j3 ?_)))
 refine r_move (.pointer (some ⟨b0, 0, none⟩)) rfl rfl ?_
 obtain ⟨ag, aI, hf⟩ := bind_some hf
 refine r_callE [.pointer (some ⟨b0, 0, none⟩)] (evs1 rfl) rfl (ok_semtypebase_Source_Labels _ _ _ _ _ _ _ (Semtypebase_Source.cells_iff.2 ⟨_, _, rfl, ((aA.mono ak.wext).mono al.wext)⟩) ((az.ext ak).mod al (beq_false (by omega))) hid0  aI) ?_
 intro _ _ an aJ
 obtain ⟨aK, _, aL, aM⟩ := aJ
 have aN := aH.z an
 obtain ⟨_, _, rfl, aO⟩ := Semtypebase_Source.cells_iff.1 aL
 obtain ⟨ah, ai, rfl, aP⟩ := RpV.list aK
 refine r_fieldAddr au 0 6 6 rfl rfl fo27_6 rfl ?_
 refine r_store (aG.mod an (beq_false (by omega))) 6 (lv ah ag.1.length ai) [lv ah ag.1.length ai] [iv r9.1.Kind, iv r9.1.Int_, tv r9.1.Text, lv aa r9.1.Kids.length ab, lv ac r9.1.Keys.length ad, lv ae r9.1.Entries.length af, lv ah ag.1.length ai] rfl rfl rfl rfl rfl sz25 rfl rfl rfl ?_
 intro _ aj aQ
 have aR := aN.y aj
 refine j0 (j1 (j2 (j3 ?_)))
 refine r_load au 0 (.agg #[iv r9.1.Kind, iv r9.1.Int_, tv r9.1.Text, lv aa r9.1.Kids.length ab, lv ac r9.1.Keys.length ad, lv ae r9.1.Entries.length af, lv ah ag.1.length ai]) rfl rfl (loads_row tr27 (Blk.range aQ 0 [iv r9.1.Kind, iv r9.1.Int_, tv r9.1.Text, lv aa r9.1.Kids.length ab, lv ac r9.1.Keys.length ad, lv ae r9.1.Entries.length af, lv ah ag.1.length ai] rfl)) ?_
 refine r_store (((((hb7.mod aq (beq_false (by omega))).ext ak).mod al rfl).mod an (beq_false (by omega))).mod aj rfl) 0 (.agg #[iv r9.1.Kind, iv r9.1.Int_, tv r9.1.Text, lv aa r9.1.Kids.length ab, lv ac r9.1.Keys.length ad, lv ae r9.1.Entries.length af, lv ah ag.1.length ai]) [iv r9.1.Kind, iv r9.1.Int_, tv r9.1.Text, lv aa r9.1.Kids.length ab, lv ac r9.1.Keys.length ad, lv ae r9.1.Entries.length af, lv ah ag.1.length ai] [iv r9.1.Kind, iv r9.1.Int_, tv r9.1.Text, lv aa r9.1.Kids.length ab, lv ac r9.1.Keys.length ad, lv ae r9.1.Entries.length af, lv ah ag.1.length ai] rfl rfl rfl rfl rfl sz27 rfl rfl rfl ?_
 intro _ am aS
 have aT := aR.y am
 refine j0 (j1 (jb ?_))
 obtain rfl := oi hf
 refine ret_oneE (.agg #[iv r9.1.Kind, iv r9.1.Int_, tv r9.1.Text, lv aa r9.1.Kids.length ab, lv ac r9.1.Keys.length ad, lv ae r9.1.Entries.length af, lv ah ag.1.length ai]) rfl ⟨rfl, _, rfl, loads_row tr27 (Blk.range aS 0 [iv r9.1.Kind, iv r9.1.Int_, tv r9.1.Text, lv aa r9.1.Kids.length ab, lv ac r9.1.Keys.length ad, lv ae r9.1.Entries.length af, lv ah ag.1.length ai] rfl)⟩ aT.mod_ ?_
 exact ⟨(Val.rpvMk (v := (Val.mk r9.1.Kind r9.1.Int_ r9.1.Text r9.1.Kids r9.1.Keys r9.1.Entries ag.1)) (((((aB.mono ak.wext).mono al.wext).mono an.wext).mono aj.wext).mono am.wext) (((((aC.mono ak.wext).mono al.wext).mono an.wext).mono aj.wext).mono am.wext) (((((aD.mono ak.wext).mono al.wext).mono an.wext).mono aj.wext).mono am.wext) ((aP.mono aj.wext).mono am.wext)), _, (Semtypebase_Source.cells_iff.2 ⟨_, _, rfl, ((aO.mono aj.wext).mono am.wext)⟩), ((aM.mod aj (beq_false (by omega))).mod am (beq_false (by omega)))⟩

theorem okB_semtypebase_Source_value {rec_semtypebase_Source_Value : (Semtypebase_Source → Int → Option (Val × Semtypebase_Source))} {rec_semtypebase_Source_value : (Semtypebase_Source → Int → Option (Val × Semtypebase_Source))} {rec_semtypebase_Source_entry : (Semtypebase_Source → Int → Int → Option (Ent × Semtypebase_Source))} (fuel : Nat) (hrec_semtypebase_Source_Value : S_semtypebase_Source_Value rec_semtypebase_Source_Value) (_hrec_semtypebase_Source_value : S_semtypebase_Source_value rec_semtypebase_Source_value) (hrec_semtypebase_Source_entry : S_semtypebase_Source_entry rec_semtypebase_Source_entry) : S_semtypebase_Source_value (semtypebase_Source_value_B rec_semtypebase_Source_Value rec_semtypebase_Source_value rec_semtypebase_Source_entry fuel) := by
 intro s0 v1 B0 id0 b0 cs0 a0 a1 r hc0 hb0 hid0 hp1 hf
 obtain ⟨A1, c2, rfl, h3⟩ := Semtypebase_Source.cells_iff.1 hc0
 obtain rfl := RpV.int hp1
 unfold semtypebase_Source_value_B at hf
 have E0 : ExtP s0.N B0 id0 s0 s0 := ExtP.refl _ _ _ _
 refine ctr_ofE 124 func59 rfl rfl rfl rfl ?_
 refine j2 (j3 ?_)
 refine r_alloc (B := s0.N) 1 E0.size _ [iv 0, iv 0, tv (⟨#[]⟩), nl Val, nl Key, nl Ent, nl ByteArray] ti27 rfl ?_
 intro s5 b4 k6 hb7
 have E8 := E0.x k6
 refine j0 (j1 (j2 (j2 (j3 ?_))))
 refine r_move (iv a1) rfl rfl ?_
 refine r_bin (iv a1) (iv 1) (bv (decide (a1 ≤ 1))) rfl rfl rfl rfl (b_leq) ?_
 refine j0 (j1 ?_)
 refine if_else hf (fun hc9 hf => ?_) (fun hc9 hf => ?_)
 ·refine c_true rfl hc9 rfl ?_
  refine j2 (j3 ?_)
  refine r_move (.pointer (some ⟨b0, 0, none⟩)) rfl rfl ?_
  obtain ⟨bY, f1, hf⟩ := bind_some hf
  refine r_callE [.pointer (some ⟨b0, 0, none⟩)] (evs1 rfl) rfl (ok_semtypebase_Source_leaf _ _ _ _ _ _ _ (Semtypebase_Source.cells_iff.2 ⟨_, _, rfl, (h3.mono k6.wext)⟩) (hb0.ext k6) hid0  f1) ?_
  intro _ _ d1 f2
  obtain ⟨f3, _, f4, f5⟩ := f2
  have f6 := E8.z d1
  obtain ⟨_, _, rfl, f7⟩ := Semtypebase_Source.cells_iff.1 f4
  obtain ⟨cm, cn, co, cp, cq, cr, cs, ct, rfl, f8, f9, ga, gb⟩ := Val.rpv f3
  refine r_store (hb7.mod d1 (beq_false (by omega))) 0 (Val.ag bY.1 cm cn co cp cq cr cs ct) (Val.cs bY.1 cm cn co cp cq cr cs ct) (Val.cs bY.1 cm cn co cp cq cr cs ct) rfl rfl rfl rfl rfl sz27 rfl rfl rfl ?_
  intro _ bE gc
  have gd := f6.y bE
  refine j0 (j1 (jb (j9 ?_)))
  obtain rfl := oi hf
  refine ret_oneE (Val.ag bY.1 cm cn co cp cq cr cs ct) rfl ⟨rfl, _, rfl, loads_row tr27 (Blk.range gc 0 (Val.cs bY.1 cm cn co cp cq cr cs ct) rfl)⟩ gd.mod_ ?_
  exact ⟨(Val.rpvMk (v := bY.1) (f8.mono bE.wext) (f9.mono bE.wext) (ga.mono bE.wext) (gb.mono bE.wext)), _, (Semtypebase_Source.cells_iff.2 ⟨_, _, rfl, (f7.mono bE.wext)⟩), (f5.mod bE (beq_false (by omega)))⟩
 refine c_false rfl hc9 rfl ?_
 refine ja (j1 (j2 (j2 (j3 ?_))))
 refine r_move (.pointer (some ⟨b0, 0, none⟩)) rfl rfl ?_
 obtain ⟨a5, ge, hf⟩ := bind_some hf
 refine r_callE [.pointer (some ⟨b0, 0, none⟩), iv 6] (evs2 rfl rfl) rfl (ok_semtypebase_Source_Next _ _ _ _ _ _ _ _ _ (Semtypebase_Source.cells_iff.2 ⟨_, _, rfl, (h3.mono k6.wext)⟩) (hb0.ext k6) hid0 (RpV.mkInt _ _) ge) ?_
 intro _ _ br gf
 obtain ⟨gg, _, gh, bZ⟩ := gf
 have cu := E8.z br
 obtain ⟨_, _, rfl, b1⟩ := Semtypebase_Source.cells_iff.1 gh
 obtain rfl := RpV.int gg
 refine j0 (j1 (j4 (j2 (j3 ?_))))
 refine r_bin (iv a5.1) (iv 1) (bv (a5.1 == 1)) rfl rfl rfl rfl (b_eql) ?_
 refine r_assign (bv (a5.1 == 1)) rfl rfl ?_
 refine j0 (j1 ?_)
 refine if_else hf (fun dF hf => ?_) (fun dF hf => ?_)
 ·refine c_true rfl dF rfl ?_
  refine j2 (j3 ?_)
  refine r_assign (nl Val) rfl rfl ?_
  refine j0 (j1 (j2 (j2 (j3 ?_))))
  refine r_move (.pointer (some ⟨b0, 0, none⟩)) rfl rfl ?_
  obtain ⟨d2, gi, hf⟩ := bind_some hf
  refine r_callE [.pointer (some ⟨b0, 0, none⟩), iv 4] (evs2 rfl rfl) rfl (ok_semtypebase_Source_Next _ _ _ _ _ _ _ _ _ (Semtypebase_Source.cells_iff.2 ⟨_, _, rfl, b1⟩) bZ hid0 (RpV.mkInt _ _) gi) ?_
  intro _ d3 d4 gj
  obtain ⟨gk, _, gl, gm⟩ := gj
  have gn := cu.z d4
  obtain ⟨go, gp, rfl, gq⟩ := Semtypebase_Source.cells_iff.1 gl
  obtain rfl := RpV.int gk
  refine r_assign (iv d2.1) rfl rfl ?_
  refine j0 (j1 (j4 ?_))
  refine gen_F fun bF cv => ?_
  have gr : bF 0 = (.pointer (some ⟨b0, 0, none⟩)) := (cv 0).trans rfl
  have gs : bF 1 = (iv a1) := (cv 1).trans rfl
  have gt : bF 4 = (.pointer (some ⟨b4, 0, none⟩)) := (cv 4).trans rfl
  have gu : bF 5 = (nl Val) := (cv 5).trans rfl
  have gv : bF 6 = (iv d2.1) := (cv 6).trans rfl
  obtain ⟨d5, gw, hf⟩ := bind_some hf
  refine wp_mono (wp_iter (step := semtypebase_Source_value_l1 rec_semtypebase_Source_Value a1) (fun q a w => ∃ (F : Fr) (τ : S) (A1 : Option Addr) (c1 : Nat) (A2 : Option Addr) (c2 : Nat), a = fr 124 F ∧ w = τ.w ∧ Agr [5, 6, 28, 29, 30, 31, 32, 33, 34, 35, 36, 37, 38] F bF ∧ ExtP s0.N B0 id0 s0 τ ∧ Wext d3 τ ∧ F 5 = (lv A1 q.1.length c1) ∧ Own s0.N 2 27 τ q.1 A1 c1 ∧ F 6 = (iv q.2.1) ∧ Blk B0 id0 τ b0 53 [lv A2 q.2.2.1.length c2, iv q.2.2.2] ∧ Sl τ q.2.2.1 A2 c2 ∧ Blk s0.N 1 τ b4 27 [iv 0, iv 0, tv (⟨#[]⟩), nl Val, nl Key, nl Ent, nl ByteArray]) (fun q e a w => e = .exit 1 ∧ ∃ (F : Fr) (τ : S) (A1 : Option Addr) (c1 : Nat) (A2 : Option Addr) (c2 : Nat), a = fr 124 F ∧ w = τ.w ∧ Agr [5, 6, 28, 29, 30, 31, 32, 33, 34, 35, 36, 37, 38] F bF ∧ ExtP s0.N B0 id0 s0 τ ∧ Wext d3 τ ∧ F 5 = (lv A1 q.1.length c1) ∧ Own s0.N 2 27 τ q.1 A1 c1 ∧ F 6 = (iv q.2.1) ∧ Blk B0 id0 τ b0 53 [lv A2 q.2.2.1.length c2, iv q.2.2.2] ∧ Sl τ q.2.2.1 A2 c2 ∧ Blk s0.N 1 τ b4 27 [iv 0, iv 0, tv (⟨#[]⟩), nl Val, nl Key, nl Ent, nl ByteArray]) (by rintro _ a w ⟨h, _⟩; cases h) ?_ _ _ _ _ _ gw ?_) ?_
  ·intro bm fl a w hf hI
   obtain ⟨_, _, d6, d7, gx, gy, rfl, rfl, dr, d8, d9, ea, eb, dG, ec, ed, ee⟩ := hI
   unfold semtypebase_Source_value_l1 at hf
   have gz := (dr 0 rfl).trans gr
   have gA := (dr 1 rfl).trans gs
   refine j2 (j2 (j3 ?_))
   refine r_move (iv bm.2.1) dG rfl ?_
   refine r_bin (iv bm.2.1) (iv 0) (bv (decide (0 < bm.2.1))) rfl rfl rfl rfl (b_gtr) ?_
   refine j0 (j1 ?_)
   refine if_else hf (fun dH hf => ?_) (fun dH hf => ?_)
   ·refine c_true rfl dH rfl ?_
    refine ja (j1 (j2 (j4 (j3 ?_))))
    refine r_move (lv d6 bm.1.length d7) ea rfl ?_
    refine r_move (.pointer (some ⟨b0, 0, none⟩)) gz rfl ?_
    refine r_move (iv a1) gA rfl ?_
    refine r_bin (iv a1) (iv 1) (iv (w64 (a1 - 1))) rfl rfl rfl rfl (b_sub) ?_
    obtain ⟨ds, gB, hf⟩ := bind_some hf
    refine r_callE [.pointer (some ⟨b0, 0, none⟩), iv (w64 (a1 - 1))] (evs2 rfl rfl) rfl (hrec_semtypebase_Source_Value _ _ _ _ _ _ _ _ _ (Semtypebase_Source.cells_iff.2 ⟨_, _, rfl, ed⟩) ec hid0 (RpV.mkInt _ _) gB) ?_
    intro _ _ dt gC
    obtain ⟨gD, _, gE, gF⟩ := gC
    have ef := d8.z dt
    obtain ⟨gG, gH, rfl, gI⟩ := Semtypebase_Source.cells_iff.1 gE
    obtain ⟨gJ, gK, gL, gM, gN, gO, gP, gQ, rfl, gR, gS, gT, gU⟩ := Val.rpv gD
    refine r_buildSlice (B := s0.N) (E := 27) 3 ef.size ts22 (xs := [ds.1]) [Val.ag ds.1 gJ gK gL gM gN gO gP gQ] (eps_cons rfl eps_nil) rfl rfl rfl (by decide) rfl (by simp [Value.cells, Rp.sz]) ⟨_, _, rfl, (Val.cells_iff.2 ⟨_, _, _, _, _, _, _, _, rfl, gR, gS, gT, gU⟩), rfl⟩ ?_
    intro _ _ _ b2 gV
    have eg := ef.x b2
    obtain ⟨_, gW, hf⟩ := bind_some hf
    refine r_append (B := s0.N) (id := 2) (E := 27) (xs := bm.1) (ys := [ds.1]) eg.size (((eb.mod dt (beq_false (by omega))).ext b2)) gV.sl ts22 (room_some gW) rfl rfl rfl rfl ?_
    intro _ eh ei cw gX
    have gY := eg.y cw
    refine r_assign (lv eh (bm.1 ++ [ds.1]).length ei) rfl rfl ?_
    refine j0 (j5 (j1 (j3 ?_)))
    refine r_move (iv bm.2.1) dG rfl ?_
    refine r_bin (iv bm.2.1) (iv 1) (iv (w64 (bm.2.1 - 1))) rfl rfl rfl rfl (b_sub) ?_
    refine r_assign (iv (w64 (bm.2.1 - 1))) rfl rfl ?_
    refine j0 ?_
    obtain rfl := oi hf
    exact ⟨rfl, _, _, eh, ei, gG, gH, rfl, rfl, ((((((((((((((dr).put rfl).put rfl).put rfl).put rfl).put rfl).put rfl).put rfl).put rfl).put rfl).put rfl).put rfl).put rfl).put rfl), gY, (((((Wext.refl _).trans d9).trans dt.wext).trans b2.wext).trans cw.wext), rfl, (gX), rfl, ((gF.ext b2).mod cw (beq_false (by omega))), ((gI.mono b2.wext).mono cw.wext), (((ee.mod dt (beq_false (by omega))).ext b2).mod cw rfl)⟩
   refine c_false rfl dH rfl ?_
   refine jc (j8 ?_)
   obtain rfl := oi hf
   exact ⟨rfl, _, _, d6, d7, gx, gy, rfl, rfl, (((dr).put rfl).put rfl), d8, ((Wext.refl _).trans d9), ea, (eb), dG, ec, ed, ee⟩
  ·exact ⟨_, _, none, 0, go, gp, rfl, rfl, (Agr.refl _ _), gn, (Wext.refl _), gu, (Own.nil_ _), gv, gm, gq, ((hb7.mod br (beq_false (by omega))).mod d4 (beq_false (by omega)))⟩
  rintro e a w ⟨rfl, mJ, mK, ej, ek, mL, mM, rfl, rfl, gZ, g0, mN, g1, g2, mO, g3, g4, g5⟩
  have el := (gZ 4 rfl).trans gt
  refine j6 (j1 (j2 (j3 ?_)))
  refine r_move (lv ej d5.1.length ek) g1 rfl ?_
  obtain ⟨b3, g6, hf⟩ := bind_some hf
  refine r_call [lv ej d5.1.length ek] (evs1 rfl) rfl (ok_semtyperef1_Tuple _ _ _ _ (RpV.mkList g2.sl) g6) ?_
  intro _ _ du g7
  have g8 := g0.x du
  obtain ⟨cx, cy, cz, cA, cB, cC, cD, cE, rfl, g9, ha, hb, hc⟩ := Val.rpv g7
  refine r_store (g5.ext du) 0 (Val.ag b3 cx cy cz cA cB cC cD cE) (Val.cs b3 cx cy cz cA cB cC cD cE) (Val.cs b3 cx cy cz cA cB cC cD cE) el rfl rfl rfl rfl sz27 rfl rfl rfl ?_
  intro _ bG hd
  have he := g8.y bG
  refine j0 (j1 (jb (j7 (j9 ?_))))
  obtain rfl := oi hf
  refine ret_oneE (Val.ag b3 cx cy cz cA cB cC cD cE) rfl ⟨rfl, _, el, loads_row tr27 (Blk.range hd 0 (Val.cs b3 cx cy cz cA cB cC cD cE) rfl)⟩ he.mod_ ?_
  exact ⟨(Val.rpvMk (v := b3) (g9.mono bG.wext) (ha.mono bG.wext) (hb.mono bG.wext) (hc.mono bG.wext)), _, (Semtypebase_Source.cells_iff.2 ⟨_, _, rfl, ((g4.mono du.wext).mono bG.wext)⟩), ((g3.ext du).mod bG (beq_false (by omega)))⟩
 refine c_false rfl dF rfl ?_
 refine j2 (j3 ?_)
 refine r_bin (iv a5.1) (iv 2) (bv (a5.1 == 2)) rfl rfl rfl rfl (b_eql) ?_
 refine r_assign (bv (a5.1 == 2)) rfl rfl ?_
 refine j0 (j1 ?_)
 refine if_else hf (fun dI hf => ?_) (fun dI hf => ?_)
 ·refine c_true rfl dI rfl ?_
  refine j2 (j3 ?_)
  obtain ⟨aa, hg, hf⟩ := bind_some hf
  refine r_call [] evs0 rfl (ok_semtyperef1_Nil _ _  hg) ?_
  intro _ _ bs hh
  have em := cu.x bs
  obtain ⟨a7, a8, a9, ba, bb, bc, dJ, dK, rfl, en, eo, ep, _⟩ := Val.rpv hh
  refine r_alloc (B := s0.N) 4 em.size _ [iv 0, iv 0, tv (⟨#[]⟩), nl Val, nl Key, nl Ent, nl ByteArray] ti27 rfl ?_
  intro _ bo aI hi
  have hj := em.x aI
  refine r_store hi 0 (Val.ag aa a7 a8 a9 ba bb bc dJ dK) (Val.cs aa a7 a8 a9 ba bb bc dJ dK) (Val.cs aa a7 a8 a9 ba bb bc dJ dK) rfl rfl rfl rfl rfl sz27 rfl rfl rfl ?_
  intro _ aJ dL
  have eq := hj.y aJ
  refine j0 (j1 (j2 (j2 (j3 ?_))))
  refine r_move (iv a1) rfl rfl ?_
  refine r_bin (iv a1) (iv 2) (bv (decide (2 < a1))) rfl rfl rfl rfl (b_gtr) ?_
  refine r_move (bv (decide (2 < a1))) rfl rfl ?_
  refine if_else hf (fun bp hf => ?_) (fun bp hf => ?_)
  ·refine r_guard (j := 2) (want := true) (d := 46) (c := decide (2 < a1)) (v := true) rfl rfl bp rfl rfl ?_
   refine r_move (.pointer (some ⟨b0, 0, none⟩)) rfl rfl ?_
   refine r_guard (j := 2) (want := true) (d := 46) (c := decide (2 < a1)) (v := true) rfl rfl bp rfl rfl ?_
   obtain ⟨dM, hk, hf⟩ := bind_some hf
   refine r_callE [.pointer (some ⟨b0, 0, none⟩), iv 2] (evs2 rfl rfl) rfl (ok_semtypebase_Source_Next _ _ _ _ _ _ _ _ _ (Semtypebase_Source.cells_iff.2 ⟨_, _, rfl, (((b1.mono bs.wext).mono aI.wext).mono aJ.wext)⟩) (((bZ.ext bs).ext aI).mod aJ (beq_false (by omega))) hid0 (RpV.mkInt _ _) hk) ?_
   intro _ _ bt hl
   obtain ⟨hm, _, hn, er⟩ := hl
   have es := eq.z bt
   obtain ⟨_, _, rfl, et⟩ := Semtypebase_Source.cells_iff.1 hn
   obtain rfl := RpV.int hm
   refine r_guard (j := 2) (want := true) (d := 46) (c := decide (2 < a1)) (v := true) rfl rfl bp rfl rfl ?_
   refine r_bin (iv dM.1) (iv 1) (bv (dM.1 == 1)) rfl rfl rfl rfl (b_eql) ?_
   refine r_pick_t (c := decide (2 < a1)) (bv (dM.1 == 1)) rfl bp rfl rfl rfl rfl ?_
   refine j0 (j1 ?_)
   refine if_else hf (fun dN hf => ?_) (fun dN hf => ?_)
   ·refine c_true rfl dN rfl ?_
    refine j3 ?_
    refine r_move (.pointer (some ⟨b0, 0, none⟩)) rfl rfl ?_
    refine r_move (iv a1) rfl rfl ?_
    refine r_bin (iv a1) (iv 2) (iv (w64 (a1 - 2))) rfl rfl rfl rfl (b_sub) ?_
    obtain ⟨eu, ho, hf⟩ := bind_some hf
    refine r_callE [.pointer (some ⟨b0, 0, none⟩), iv (w64 (a1 - 2))] (evs2 rfl rfl) rfl (hrec_semtypebase_Source_Value _ _ _ _ _ _ _ _ _ (Semtypebase_Source.cells_iff.2 ⟨_, _, rfl, et⟩) er hid0 (RpV.mkInt _ _) ho) ?_
    intro _ _ dO hp
    obtain ⟨hq, _, hr, hs⟩ := hp
    have ht := es.z dO
    obtain ⟨_, _, rfl, hu⟩ := Semtypebase_Source.cells_iff.1 hr
    obtain ⟨hv, hw, hx, hy, hz, hA, hB, hC, rfl, hD, hE, hF, hG⟩ := Val.rpv hq
    obtain ⟨ev, hH, hf⟩ := bind_some hf
    refine r_call [] evs0 rfl (ok_semtyperef1_Nil _ _  hH) ?_
    intro _ _ bq hJ
    have hK := ht.x bq
    obtain ⟨hL, hM, hN, hO, hP, hQ, hR, hS, rfl, hT, hU, hV, hW⟩ := Val.rpv hJ
    obtain ⟨ab, hX, hf⟩ := bind_some hf
    refine r_call [Val.ag eu.1 hv hw hx hy hz hA hB hC, Val.ag ev hL hM hN hO hP hQ hR hS] (evs2 rfl rfl) rfl (ok_semtyperef1_Cons _ _ _ _ _ _ (Val.rpvMk (v := eu.1) (hD.mono bq.wext) (hE.mono bq.wext) (hF.mono bq.wext) (hG.mono bq.wext)) (Val.rpvMk (v := ev) hT hU hV hW) hX) ?_
    intro _ _ cF hY
    have hZ := hK.x cF
    obtain ⟨bH, bI, bJ, bK, bL, bM, dP, dQ, rfl, h0, h1, h2, _⟩ := Val.rpv hY
    refine r_store ((((dL.mod bt (beq_false (by omega))).mod dO (beq_false (by omega))).ext bq).ext cF) 0 (Val.ag ab bH bI bJ bK bL bM dP dQ) (Val.cs ab bH bI bJ bK bL bM dP dQ) (Val.cs ab bH bI bJ bK bL bM dP dQ) rfl rfl rfl rfl rfl sz27 rfl rfl rfl ?_
    intro _ bN h4
    have h5 := hZ.y bN
    refine j0 (j1 (j2 (j3 ?_)))
    refine r_move (.pointer (some ⟨b0, 0, none⟩)) rfl rfl ?_
    obtain ⟨aF, h6, hf⟩ := bind_some hf
    refine r_callE [.pointer (some ⟨b0, 0, none⟩)] (evs1 rfl) rfl (ok_semtypebase_Source_Labels _ _ _ _ _ _ _ (Semtypebase_Source.cells_iff.2 ⟨_, _, rfl, (((hu.mono bq.wext).mono cF.wext).mono bN.wext)⟩) (((hs.ext bq).ext cF).mod bN (beq_false (by omega))) hid0  h6) ?_
    intro _ _ b5 h7
    obtain ⟨h8, _, h9, ia⟩ := h7
    have ib := h5.z b5
    obtain ⟨ic, ie, rfl, ig⟩ := Semtypebase_Source.cells_iff.1 h9
    obtain ⟨b6, b7, rfl, ih⟩ := RpV.list h8
    refine r_fieldAddr bo 0 6 6 rfl rfl fo27_6 rfl ?_
    refine r_store (h4.mod b5 (beq_false (by omega))) 6 (lv b6 aF.1.length b7) [lv b6 aF.1.length b7] [iv ab.Kind, iv ab.Int_, tv ab.Text, lv bH ab.Kids.length bI, lv bJ ab.Keys.length bK, lv bL ab.Entries.length bM, lv b6 aF.1.length b7] rfl rfl rfl rfl rfl sz25 rfl rfl rfl ?_
    intro _ bu ii
    have dv := ib.y bu
    refine j0 (j1 (j2 ?_))
    obtain ⟨bw, ij, hf⟩ := bind_some hf
    obtain ⟨aK, ik, hf⟩ := bind_some hf
    refine wp_draw (B := frP s0.N B0 id0) (sm 60 6 ++ [none]) [[], [], [1], rg 3, [], rg 5, rg 6] [Fct.eqv (.pointer (some ⟨b0, 0, none⟩)), Fct.eqv (iv a1), Fct.eqv (iv (w64 (a1 - 1))), Fct.data (bw.1 : Val), Fct.data ((Val.mk ab.Kind ab.Int_ ab.Text ab.Kids ab.Keys ab.Entries aF.1) : Val), Fct.data (aK : Val), Fct.any] (fun D F τ => (D 3 = false → Blk B0 id0 τ b0 53 [lv ic aF.2.L.length ie, iv aF.2.At]) ∧ (D 3 = true → (∃ (zA0 : Option Addr) (zc0 : Nat), Blk B0 id0 τ b0 53 [lv zA0 bw.2.L.length zc0, iv bw.2.At] ∧ Sl τ bw.2.L zA0 zc0)) ∧ (D 6 = false → Blk s0.N 1 τ b4 27 [iv 0, iv 0, tv (⟨#[]⟩), nl Val, nl Key, nl Ent, nl ByteArray]) ∧ (D 6 = true → (∃ (zA3 : Option Addr) (zc3 : Nat) (zA4 : Option Addr) (zc4 : Nat) (zA5 : Option Addr) (zc5 : Nat) (zA6 : Option Addr) (zc6 : Nat), Blk s0.N 1 τ b4 27 (Val.cs aK zA3 zc3 zA4 zc4 zA5 zc5 zA6 zc6) ∧ Sl τ aK.Kids zA3 zc3 ∧ Sl τ aK.Keys zA4 zc4 ∧ Sl τ aK.Entries zA5 zc5 ∧ Sl τ aK.Labels zA6 zc6)) ∧ (Blk s0.N 4 τ bo 27 [iv ab.Kind, iv ab.Int_, tv ab.Text, lv bH ab.Kids.length bI, lv bJ ab.Keys.length bK, lv bL ab.Entries.length bM, lv b6 aF.1.length b7])) (by kernel_rfl) rfl (by decide) (by decide) ⟨(fun _ => ((ia.mod bu (beq_false (by omega))).ext (ext_draw _))), (fun h => Bool.noConfusion h), (fun _ => ((((((((((((hb7.mod br (beq_false (by omega))).ext bs).ext aI).mod aJ rfl).mod bt (beq_false (by omega))).mod dO (beq_false (by omega))).ext bq).ext cF).mod bN rfl).mod b5 (beq_false (by omega))).mod bu rfl).ext (ext_draw _))), (fun h => Bool.noConfusion h), (ii.ext (ext_draw _))⟩ (by decide) (by decide) ⟨?_, ?_, ?_, ?_, ?_, ?_, ?_, trivial⟩ ?_
    ·intro _ _ _ _ _ _ _ _ ac ad _
     obtain ⟨_, _, _, _, _⟩ := id ac
     refine r_move (.pointer (some ⟨b0, 0, none⟩)) ((ad 0 rfl).trans rfl) rfl ?_
     exact d0 ⟨rfl, ac⟩
    ·intro _ _ _ _ _ _ _ _ ac ad _
     refine r_move (iv a1) ((ad 1 rfl).trans rfl) rfl ?_
     exact d0 ⟨rfl, ac⟩
    ·intro _ _ _ _ _ _ _ _ ac _ ad
     refine r_bin (iv a1) (iv 1) (iv (w64 (a1 - 1))) (ad 1 rfl 61 rfl) rfl rfl rfl (b_sub) ?_
     exact d0 ⟨rfl, ac⟩
    ·intro _ _ _ ac _ ad ao ap aq _ av
     have aw := dv.trans ao
     obtain ⟨ay, _, az, _, aA⟩ := id aq
     have aB := ay ac
     refine r_callE [.pointer (some ⟨b0, 0, none⟩), iv (w64 (a1 - 1))] (evs2 (av 0 rfl 60 rfl) (av 2 rfl 62 rfl)) rfl (hrec_semtypebase_Source_Value _ _ _ _ _ _ _ _ _ (Semtypebase_Source.cells_iff.2 ⟨_, _, rfl, ((ig.mono bu.wext).mono ap)⟩) aB hid0 (RpV.mkInt _ _) ij) ?_
     intro _ _ af aC
     obtain ⟨aD, _, ag, ah⟩ := aC
     obtain ⟨ai, aj, rfl, ak⟩ := Semtypebase_Source.cells_iff.1 ag
     obtain ⟨_, _, _, _, _, _, _, _, rfl, al, am, an, aE⟩ := Val.rpv aD
     refine j0 ?_
     exact ⟨_, _, rfl, rfl, (ExtP.refl _ _ _ _).modp aw.size af, (Wext.refl _).trans af.wext, (Val.rpvMk (v := bw.1) al am an aE), ⟨(fun h => Bool.noConfusion h), (fun _ => ⟨ai, aj, ah, ak⟩), (fun y0 => ((az y0).mod af (beq_false (by omega)))), (nc (ad 6 rfl)), (aA.mod af (beq_false (by omega)))⟩⟩
    ·intro _ _ _ _ _ _ _ ac ad ao _
     obtain ⟨_, _, _, _, ap⟩ := id ad
     have aq := ap
     refine r_load bo 0 (.agg #[iv ab.Kind, iv ab.Int_, tv ab.Text, lv bH ab.Kids.length bI, lv bJ ab.Keys.length bK, lv bL ab.Entries.length bM, lv b6 aF.1.length b7]) ((ao 7 rfl).trans rfl) rfl (loads_row tr27 (Blk.range aq 0 [iv ab.Kind, iv ab.Int_, tv ab.Text, lv bH ab.Kids.length bI, lv bJ ab.Keys.length bK, lv bL ab.Entries.length bM, lv b6 aF.1.length b7] rfl)) ?_
     exact d0 ⟨(Val.rpvMk (v := (Val.mk ab.Kind ab.Int_ ab.Text ab.Kids ab.Keys ab.Entries aF.1)) ((((h0.mono bN.wext).mono b5.wext).mono bu.wext).mono ac) ((((h1.mono bN.wext).mono b5.wext).mono bu.wext).mono ac) ((((h2.mono bN.wext).mono b5.wext).mono bu.wext).mono ac) ((ih.mono bu.wext).mono ac)), ad⟩
    ·intro _ ac ad _ ao ap aq _ av _ aw
     have ay := dv.trans aq
     obtain ⟨_, az, aA, _, aB⟩ := id av
     have af : RpV ad (bw.1 : Val) (ac 63) := aw 3 rfl 63 rfl
     obtain ⟨aC, aD, ag, ah, ai, aj, ak, al, am, an, aE, bd, be⟩ := Val.rpv af
     have bf : RpV ad ((Val.mk ab.Kind ab.Int_ ab.Text ab.Kids ab.Keys ab.Entries aF.1) : Val) (ac 64) := aw 4 rfl 64 rfl
     obtain ⟨bg, ae, bh, cG, cH, cI, cJ, cK, cL, cM, cN, cO, cP⟩ := Val.rpv bf
     refine r_call [Val.ag bw.1 aC aD ag ah ai aj ak al, .agg #[iv ab.Kind, iv ab.Int_, tv ab.Text, lv bg ((Val.mk ab.Kind ab.Int_ ab.Text ab.Kids ab.Keys ab.Entries aF.1).Kids).length ae, lv bh ((Val.mk ab.Kind ab.Int_ ab.Text ab.Kids ab.Keys ab.Entries aF.1).Keys).length cG, lv cH ((Val.mk ab.Kind ab.Int_ ab.Text ab.Kids ab.Keys ab.Entries aF.1).Entries).length cI, lv cJ ((Val.mk ab.Kind ab.Int_ ab.Text ab.Kids ab.Keys ab.Entries aF.1).Labels).length cK]] (evs2 am cL) rfl (ok_semtyperef1_Cons _ _ _ _ _ _ (Val.rpvMk (v := bw.1) an aE bd be) (Val.rpvMk (v := (Val.mk ab.Kind ab.Int_ ab.Text ab.Kids ab.Keys ab.Entries aF.1)) cM cN cO cP) ik) ?_
     intro _ _ ax cQ
     obtain ⟨_, _, _, _, _, _, _, _, rfl, cR, cS, cT, cU⟩ := Val.rpv cQ
     refine j0 ?_
     exact ⟨_, _, rfl, rfl, (ExtP.refl _ _ _ _).ext ay.size ax, (Wext.refl _).trans ax.wext, (Val.rpvMk (v := aK) cR cS cT cU), ⟨(nc (ao 3 rfl)), (fun y0 => (let ⟨zA0, zc0, zb, zf0⟩ := (az y0); ⟨zA0, zc0, (zb.ext ax), (zf0.mono ax.wext)⟩)), (fun y0 => ((aA y0).ext ax)), (nc (ap 6 rfl)), (aB.ext ax)⟩⟩
    ·intro _ ac ad ao ap _ aq _ av aw ay
     have az := dv.trans aq
     obtain ⟨_, aA, aB, _, af⟩ := id av
     have aC := aB ao
     have aD : RpV ad (aK : Val) (ac 65) := ay 5 rfl 65 rfl
     obtain ⟨ag, ah, ai, aj, ak, al, am, an, aE, bd, be, bf, bg⟩ := Val.rpv aD
     refine r_store aC 0 (Val.ag aK ag ah ai aj ak al am an) (Val.cs aK ag ah ai aj ak al am an) (Val.cs aK ag ah ai aj ak al am an) ((aw 4 rfl).trans rfl) aE rfl rfl rfl sz27 rfl rfl rfl ?_
     intro _ ae bh
     refine j0 ?_
     exact ⟨_, _, rfl, rfl, (ExtP.refl _ _ _ _).mod az.size ae, (Wext.refl _).trans ae.wext, trivial, ⟨(nc (ap 3 rfl)), (fun y0 => (let ⟨zA0, zc0, zb, zf0⟩ := (aA y0); ⟨zA0, zc0, (zb.mod ae (beq_false (by omega))), (zf0.mono ae.wext)⟩)), (fun h => Bool.noConfusion h), (fun _ => ⟨ag, ah, ai, aj, ak, al, am, an, bh, (bd.mono ae.wext), (be.mono ae.wext), (bf.mono ae.wext), (bg.mono ae.wext)⟩), (af.mod ae rfl)⟩⟩
    intro il _ im _ io ip _
    have iq := dv.trans im
    obtain ⟨_, ir, _, it, _⟩ := io
    obtain ⟨_, _, iu, iw⟩ := ir rfl
    obtain ⟨ew, ex, ey, ez, eA, eB, eC, eD, ix, iy, iz, iA, iB⟩ := it rfl
    have iC : il 4 = (.pointer (some ⟨b4, 0, none⟩)) := (ip 4 rfl).trans rfl
    refine j1 (jb (j7 (j9 ?_)))
    obtain rfl := oi hf
    refine ret_oneE (Val.ag aK ew ex ey ez eA eB eC eD) rfl ⟨rfl, _, iC, loads_row tr27 (Blk.range ix 0 (Val.cs aK ew ex ey ez eA eB eC eD) rfl)⟩ iq.mod_ ?_
    exact ⟨(Val.rpvMk (v := aK) iy iz iA iB), _, (Semtypebase_Source.cells_iff.2 ⟨_, _, rfl, iw⟩), iu⟩
   refine c_false rfl dN rfl ?_
   refine ja (j1 (j2 (j3 ?_)))
   refine r_move (.pointer (some ⟨b0, 0, none⟩)) rfl rfl ?_
   obtain ⟨aG, iD, hf⟩ := bind_some hf
   refine r_callE [.pointer (some ⟨b0, 0, none⟩)] (evs1 rfl) rfl (ok_semtypebase_Source_Labels _ _ _ _ _ _ _ (Semtypebase_Source.cells_iff.2 ⟨_, _, rfl, et⟩) er hid0  iD) ?_
   intro _ _ b8 iE
   obtain ⟨iF, _, iG, iH⟩ := iE
   have iI := es.z b8
   obtain ⟨iJ, iK, rfl, iL⟩ := Semtypebase_Source.cells_iff.1 iG
   obtain ⟨b9, ca, rfl, iM⟩ := RpV.list iF
   refine r_fieldAddr bo 0 6 6 rfl rfl fo27_6 rfl ?_
   refine r_store ((dL.mod bt (beq_false (by omega))).mod b8 (beq_false (by omega))) 6 (lv b9 aG.1.length ca) [lv b9 aG.1.length ca] [iv aa.Kind, iv aa.Int_, tv aa.Text, lv a7 aa.Kids.length a8, lv a9 aa.Keys.length ba, lv bb aa.Entries.length bc, lv b9 aG.1.length ca] rfl rfl rfl rfl rfl sz25 rfl rfl rfl ?_
   intro _ bx iN
   have dw := iI.y bx
   refine j0 (j1 (j2 ?_))
   obtain ⟨bz, iO, hf⟩ := bind_some hf
   obtain ⟨aL, iP, hf⟩ := bind_some hf
   refine wp_draw (B := frP s0.N B0 id0) (sm 60 6 ++ [none]) [[], [], [1], rg 3, [], rg 5, rg 6] [Fct.eqv (.pointer (some ⟨b0, 0, none⟩)), Fct.eqv (iv a1), Fct.eqv (iv (w64 (a1 - 1))), Fct.data (bz.1 : Val), Fct.data ((Val.mk aa.Kind aa.Int_ aa.Text aa.Kids aa.Keys aa.Entries aG.1) : Val), Fct.data (aL : Val), Fct.any] (fun D F τ => (D 3 = false → Blk B0 id0 τ b0 53 [lv iJ aG.2.L.length iK, iv aG.2.At]) ∧ (D 3 = true → (∃ (zA0 : Option Addr) (zc0 : Nat), Blk B0 id0 τ b0 53 [lv zA0 bz.2.L.length zc0, iv bz.2.At] ∧ Sl τ bz.2.L zA0 zc0)) ∧ (D 6 = false → Blk s0.N 1 τ b4 27 [iv 0, iv 0, tv (⟨#[]⟩), nl Val, nl Key, nl Ent, nl ByteArray]) ∧ (D 6 = true → (∃ (zA3 : Option Addr) (zc3 : Nat) (zA4 : Option Addr) (zc4 : Nat) (zA5 : Option Addr) (zc5 : Nat) (zA6 : Option Addr) (zc6 : Nat), Blk s0.N 1 τ b4 27 (Val.cs aL zA3 zc3 zA4 zc4 zA5 zc5 zA6 zc6) ∧ Sl τ aL.Kids zA3 zc3 ∧ Sl τ aL.Keys zA4 zc4 ∧ Sl τ aL.Entries zA5 zc5 ∧ Sl τ aL.Labels zA6 zc6)) ∧ (Blk s0.N 4 τ bo 27 [iv aa.Kind, iv aa.Int_, tv aa.Text, lv a7 aa.Kids.length a8, lv a9 aa.Keys.length ba, lv bb aa.Entries.length bc, lv b9 aG.1.length ca])) (by kernel_rfl) rfl (by decide) (by decide) ⟨(fun _ => ((iH.mod bx (beq_false (by omega))).ext (ext_draw _))), (fun h => Bool.noConfusion h), (fun _ => ((((((((hb7.mod br (beq_false (by omega))).ext bs).ext aI).mod aJ rfl).mod bt (beq_false (by omega))).mod b8 (beq_false (by omega))).mod bx rfl).ext (ext_draw _))), (fun h => Bool.noConfusion h), (iN.ext (ext_draw _))⟩ (by decide) (by decide) ⟨?_, ?_, ?_, ?_, ?_, ?_, ?_, trivial⟩ ?_
   ·intro _ _ _ _ _ _ _ _ ac ad _
    obtain ⟨_, _, _, _, _⟩ := id ac
    refine r_move (.pointer (some ⟨b0, 0, none⟩)) ((ad 0 rfl).trans rfl) rfl ?_
    exact d0 ⟨rfl, ac⟩
   ·intro _ _ _ _ _ _ _ _ ac ad _
    refine r_move (iv a1) ((ad 1 rfl).trans rfl) rfl ?_
    exact d0 ⟨rfl, ac⟩
   ·intro _ _ _ _ _ _ _ _ ac _ ad
    refine r_bin (iv a1) (iv 1) (iv (w64 (a1 - 1))) (ad 1 rfl 61 rfl) rfl rfl rfl (b_sub) ?_
    exact d0 ⟨rfl, ac⟩
   ·intro _ _ _ ac _ ad ao ap aq _ av
    have aw := dw.trans ao
    obtain ⟨ay, _, az, _, aA⟩ := id aq
    have aB := ay ac
    refine r_callE [.pointer (some ⟨b0, 0, none⟩), iv (w64 (a1 - 1))] (evs2 (av 0 rfl 60 rfl) (av 2 rfl 62 rfl)) rfl (hrec_semtypebase_Source_Value _ _ _ _ _ _ _ _ _ (Semtypebase_Source.cells_iff.2 ⟨_, _, rfl, ((iL.mono bx.wext).mono ap)⟩) aB hid0 (RpV.mkInt _ _) iO) ?_
    intro _ _ af aC
    obtain ⟨aD, _, ag, ah⟩ := aC
    obtain ⟨ai, aj, rfl, ak⟩ := Semtypebase_Source.cells_iff.1 ag
    obtain ⟨_, _, _, _, _, _, _, _, rfl, al, am, an, aE⟩ := Val.rpv aD
    refine j0 ?_
    exact ⟨_, _, rfl, rfl, (ExtP.refl _ _ _ _).modp aw.size af, (Wext.refl _).trans af.wext, (Val.rpvMk (v := bz.1) al am an aE), ⟨(fun h => Bool.noConfusion h), (fun _ => ⟨ai, aj, ah, ak⟩), (fun y0 => ((az y0).mod af (beq_false (by omega)))), (nc (ad 6 rfl)), (aA.mod af (beq_false (by omega)))⟩⟩
   ·intro _ _ _ _ _ _ _ ac ad ao _
    obtain ⟨_, _, _, _, ap⟩ := id ad
    have aq := ap
    refine r_load bo 0 (.agg #[iv aa.Kind, iv aa.Int_, tv aa.Text, lv a7 aa.Kids.length a8, lv a9 aa.Keys.length ba, lv bb aa.Entries.length bc, lv b9 aG.1.length ca]) ((ao 7 rfl).trans rfl) rfl (loads_row tr27 (Blk.range aq 0 [iv aa.Kind, iv aa.Int_, tv aa.Text, lv a7 aa.Kids.length a8, lv a9 aa.Keys.length ba, lv bb aa.Entries.length bc, lv b9 aG.1.length ca] rfl)) ?_
    exact d0 ⟨(Val.rpvMk (v := (Val.mk aa.Kind aa.Int_ aa.Text aa.Kids aa.Keys aa.Entries aG.1)) ((((((en.mono aI.wext).mono aJ.wext).mono bt.wext).mono b8.wext).mono bx.wext).mono ac) ((((((eo.mono aI.wext).mono aJ.wext).mono bt.wext).mono b8.wext).mono bx.wext).mono ac) ((((((ep.mono aI.wext).mono aJ.wext).mono bt.wext).mono b8.wext).mono bx.wext).mono ac) ((iM.mono bx.wext).mono ac)), ad⟩
   ·intro _ ac ad _ ao ap aq _ av _ aw
    have ay := dw.trans aq
    obtain ⟨_, az, aA, _, aB⟩ := id av
    have af : RpV ad (bz.1 : Val) (ac 63) := aw 3 rfl 63 rfl
    obtain ⟨aC, aD, ag, ah, ai, aj, ak, al, am, an, aE, bd, be⟩ := Val.rpv af
    have bf : RpV ad ((Val.mk aa.Kind aa.Int_ aa.Text aa.Kids aa.Keys aa.Entries aG.1) : Val) (ac 64) := aw 4 rfl 64 rfl
    obtain ⟨bg, ae, bh, cG, cH, cI, cJ, cK, cL, cM, cN, cO, cP⟩ := Val.rpv bf
    refine r_call [Val.ag bz.1 aC aD ag ah ai aj ak al, .agg #[iv aa.Kind, iv aa.Int_, tv aa.Text, lv bg ((Val.mk aa.Kind aa.Int_ aa.Text aa.Kids aa.Keys aa.Entries aG.1).Kids).length ae, lv bh ((Val.mk aa.Kind aa.Int_ aa.Text aa.Kids aa.Keys aa.Entries aG.1).Keys).length cG, lv cH ((Val.mk aa.Kind aa.Int_ aa.Text aa.Kids aa.Keys aa.Entries aG.1).Entries).length cI, lv cJ ((Val.mk aa.Kind aa.Int_ aa.Text aa.Kids aa.Keys aa.Entries aG.1).Labels).length cK]] (evs2 am cL) rfl (ok_semtyperef1_Cons _ _ _ _ _ _ (Val.rpvMk (v := bz.1) an aE bd be) (Val.rpvMk (v := (Val.mk aa.Kind aa.Int_ aa.Text aa.Kids aa.Keys aa.Entries aG.1)) cM cN cO cP) iP) ?_
    intro _ _ ax cQ
    obtain ⟨_, _, _, _, _, _, _, _, rfl, cR, cS, cT, cU⟩ := Val.rpv cQ
    refine j0 ?_
    exact ⟨_, _, rfl, rfl, (ExtP.refl _ _ _ _).ext ay.size ax, (Wext.refl _).trans ax.wext, (Val.rpvMk (v := aL) cR cS cT cU), ⟨(nc (ao 3 rfl)), (fun y0 => (let ⟨zA0, zc0, zb, zf0⟩ := (az y0); ⟨zA0, zc0, (zb.ext ax), (zf0.mono ax.wext)⟩)), (fun y0 => ((aA y0).ext ax)), (nc (ap 6 rfl)), (aB.ext ax)⟩⟩
   ·intro _ ac ad ao ap _ aq _ av aw ay
    have az := dw.trans aq
    obtain ⟨_, aA, aB, _, af⟩ := id av
    have aC := aB ao
    have aD : RpV ad (aL : Val) (ac 65) := ay 5 rfl 65 rfl
    obtain ⟨ag, ah, ai, aj, ak, al, am, an, aE, bd, be, bf, bg⟩ := Val.rpv aD
    refine r_store aC 0 (Val.ag aL ag ah ai aj ak al am an) (Val.cs aL ag ah ai aj ak al am an) (Val.cs aL ag ah ai aj ak al am an) ((aw 4 rfl).trans rfl) aE rfl rfl rfl sz27 rfl rfl rfl ?_
    intro _ ae bh
    refine j0 ?_
    exact ⟨_, _, rfl, rfl, (ExtP.refl _ _ _ _).mod az.size ae, (Wext.refl _).trans ae.wext, trivial, ⟨(nc (ap 3 rfl)), (fun y0 => (let ⟨zA0, zc0, zb, zf0⟩ := (aA y0); ⟨zA0, zc0, (zb.mod ae (beq_false (by omega))), (zf0.mono ae.wext)⟩)), (fun h => Bool.noConfusion h), (fun _ => ⟨ag, ah, ai, aj, ak, al, am, an, bh, (bd.mono ae.wext), (be.mono ae.wext), (bf.mono ae.wext), (bg.mono ae.wext)⟩), (af.mod ae rfl)⟩⟩
   intro iQ _ iR _ iS iT _
   have iU := dw.trans iR
   obtain ⟨_, iV, _, iW, _⟩ := iS
   obtain ⟨_, _, iX, iY⟩ := iV rfl
   obtain ⟨eE, eF, eG, eH, eI, eJ, eK, eL, iZ, i0, i1, i2, i3⟩ := iW rfl
   have i4 : iQ 4 = (.pointer (some ⟨b4, 0, none⟩)) := (iT 4 rfl).trans rfl
   refine j1 (jb (j7 (j9 ?_)))
   obtain rfl := oi hf
   refine ret_oneE (Val.ag aL eE eF eG eH eI eJ eK eL) rfl ⟨rfl, _, i4, loads_row tr27 (Blk.range iZ 0 (Val.cs aL eE eF eG eH eI eJ eK eL) rfl)⟩ iU.mod_ ?_
   exact ⟨(Val.rpvMk (v := aL) i0 i1 i2 i3), _, (Semtypebase_Source.cells_iff.2 ⟨_, _, rfl, iY⟩), iX⟩
  refine r_skip (j := 2) (want := true) (d := 46) (c := decide (2 < a1)) (v := false) rfl rfl bp rfl rfl ?_
  refine r_skip (j := 2) (want := true) (d := 46) (c := decide (2 < a1)) (v := false) rfl rfl bp rfl rfl ?_
  refine r_skip (j := 2) (want := true) (d := 46) (c := decide (2 < a1)) (v := false) rfl rfl bp rfl rfl ?_
  refine r_pick_f (c := decide (2 < a1)) (bv false) rfl bp rfl rfl rfl rfl ?_
  refine j0 (j1 ?_)
  refine c_false rfl rfl rfl ?_
  refine ja (j1 (j2 (j3 ?_)))
  refine r_move (.pointer (some ⟨b0, 0, none⟩)) rfl rfl ?_
  obtain ⟨aH, i5, hf⟩ := bind_some hf
  refine r_callE [.pointer (some ⟨b0, 0, none⟩)] (evs1 rfl) rfl (ok_semtypebase_Source_Labels _ _ _ _ _ _ _ (Semtypebase_Source.cells_iff.2 ⟨_, _, rfl, (((b1.mono bs.wext).mono aI.wext).mono aJ.wext)⟩) (((bZ.ext bs).ext aI).mod aJ (beq_false (by omega))) hid0  i5) ?_
  intro _ _ cb i6
  obtain ⟨i7, _, i8, i9⟩ := i6
  have jd := eq.z cb
  obtain ⟨je, jf, rfl, jg⟩ := Semtypebase_Source.cells_iff.1 i8
  obtain ⟨cc, cd, rfl, jh⟩ := RpV.list i7
  refine r_fieldAddr bo 0 6 6 rfl rfl fo27_6 rfl ?_
  refine r_store (dL.mod cb (beq_false (by omega))) 6 (lv cc aH.1.length cd) [lv cc aH.1.length cd] [iv aa.Kind, iv aa.Int_, tv aa.Text, lv a7 aa.Kids.length a8, lv a9 aa.Keys.length ba, lv bb aa.Entries.length bc, lv cc aH.1.length cd] rfl rfl rfl rfl rfl sz25 rfl rfl rfl ?_
  intro _ bA ji
  have dx := jd.y bA
  refine j0 (j1 (j2 ?_))
  obtain ⟨bB, jj, hf⟩ := bind_some hf
  obtain ⟨aM, jk, hf⟩ := bind_some hf
  refine wp_draw (B := frP s0.N B0 id0) (sm 60 6 ++ [none]) [[], [], [1], rg 3, [], rg 5, rg 6] [Fct.eqv (.pointer (some ⟨b0, 0, none⟩)), Fct.eqv (iv a1), Fct.eqv (iv (w64 (a1 - 1))), Fct.data (bB.1 : Val), Fct.data ((Val.mk aa.Kind aa.Int_ aa.Text aa.Kids aa.Keys aa.Entries aH.1) : Val), Fct.data (aM : Val), Fct.any] (fun D F τ => (D 3 = false → Blk B0 id0 τ b0 53 [lv je aH.2.L.length jf, iv aH.2.At]) ∧ (D 3 = true → (∃ (zA0 : Option Addr) (zc0 : Nat), Blk B0 id0 τ b0 53 [lv zA0 bB.2.L.length zc0, iv bB.2.At] ∧ Sl τ bB.2.L zA0 zc0)) ∧ (D 6 = false → Blk s0.N 1 τ b4 27 [iv 0, iv 0, tv (⟨#[]⟩), nl Val, nl Key, nl Ent, nl ByteArray]) ∧ (D 6 = true → (∃ (zA3 : Option Addr) (zc3 : Nat) (zA4 : Option Addr) (zc4 : Nat) (zA5 : Option Addr) (zc5 : Nat) (zA6 : Option Addr) (zc6 : Nat), Blk s0.N 1 τ b4 27 (Val.cs aM zA3 zc3 zA4 zc4 zA5 zc5 zA6 zc6) ∧ Sl τ aM.Kids zA3 zc3 ∧ Sl τ aM.Keys zA4 zc4 ∧ Sl τ aM.Entries zA5 zc5 ∧ Sl τ aM.Labels zA6 zc6)) ∧ (Blk s0.N 4 τ bo 27 [iv aa.Kind, iv aa.Int_, tv aa.Text, lv a7 aa.Kids.length a8, lv a9 aa.Keys.length ba, lv bb aa.Entries.length bc, lv cc aH.1.length cd])) (by kernel_rfl) rfl (by decide) (by decide) ⟨(fun _ => ((i9.mod bA (beq_false (by omega))).ext (ext_draw _))), (fun h => Bool.noConfusion h), (fun _ => (((((((hb7.mod br (beq_false (by omega))).ext bs).ext aI).mod aJ rfl).mod cb (beq_false (by omega))).mod bA rfl).ext (ext_draw _))), (fun h => Bool.noConfusion h), (ji.ext (ext_draw _))⟩ (by decide) (by decide) ⟨?_, ?_, ?_, ?_, ?_, ?_, ?_, trivial⟩ ?_
  ·intro _ _ _ _ _ _ _ _ ac ad _
   obtain ⟨_, _, _, _, _⟩ := id ac
   refine r_move (.pointer (some ⟨b0, 0, none⟩)) ((ad 0 rfl).trans rfl) rfl ?_
   exact d0 ⟨rfl, ac⟩
  ·intro _ _ _ _ _ _ _ _ ac ad _
   refine r_move (iv a1) ((ad 1 rfl).trans rfl) rfl ?_
   exact d0 ⟨rfl, ac⟩
  ·intro _ _ _ _ _ _ _ _ ac _ ad
   refine r_bin (iv a1) (iv 1) (iv (w64 (a1 - 1))) (ad 1 rfl 61 rfl) rfl rfl rfl (b_sub) ?_
   exact d0 ⟨rfl, ac⟩
  ·intro _ _ _ ac _ ad ao ap aq _ av
   have aw := dx.trans ao
   obtain ⟨ay, _, az, _, aA⟩ := id aq
   have aB := ay ac
   refine r_callE [.pointer (some ⟨b0, 0, none⟩), iv (w64 (a1 - 1))] (evs2 (av 0 rfl 60 rfl) (av 2 rfl 62 rfl)) rfl (hrec_semtypebase_Source_Value _ _ _ _ _ _ _ _ _ (Semtypebase_Source.cells_iff.2 ⟨_, _, rfl, ((jg.mono bA.wext).mono ap)⟩) aB hid0 (RpV.mkInt _ _) jj) ?_
   intro _ _ af aC
   obtain ⟨aD, _, ag, ah⟩ := aC
   obtain ⟨ai, aj, rfl, ak⟩ := Semtypebase_Source.cells_iff.1 ag
   obtain ⟨_, _, _, _, _, _, _, _, rfl, al, am, an, aE⟩ := Val.rpv aD
   refine j0 ?_
   exact ⟨_, _, rfl, rfl, (ExtP.refl _ _ _ _).modp aw.size af, (Wext.refl _).trans af.wext, (Val.rpvMk (v := bB.1) al am an aE), ⟨(fun h => Bool.noConfusion h), (fun _ => ⟨ai, aj, ah, ak⟩), (fun y0 => ((az y0).mod af (beq_false (by omega)))), (nc (ad 6 rfl)), (aA.mod af (beq_false (by omega)))⟩⟩
  ·intro _ _ _ _ _ _ _ ac ad ao _
   obtain ⟨_, _, _, _, ap⟩ := id ad
   have aq := ap
   refine r_load bo 0 (.agg #[iv aa.Kind, iv aa.Int_, tv aa.Text, lv a7 aa.Kids.length a8, lv a9 aa.Keys.length ba, lv bb aa.Entries.length bc, lv cc aH.1.length cd]) ((ao 7 rfl).trans rfl) rfl (loads_row tr27 (Blk.range aq 0 [iv aa.Kind, iv aa.Int_, tv aa.Text, lv a7 aa.Kids.length a8, lv a9 aa.Keys.length ba, lv bb aa.Entries.length bc, lv cc aH.1.length cd] rfl)) ?_
   exact d0 ⟨(Val.rpvMk (v := (Val.mk aa.Kind aa.Int_ aa.Text aa.Kids aa.Keys aa.Entries aH.1)) (((((en.mono aI.wext).mono aJ.wext).mono cb.wext).mono bA.wext).mono ac) (((((eo.mono aI.wext).mono aJ.wext).mono cb.wext).mono bA.wext).mono ac) (((((ep.mono aI.wext).mono aJ.wext).mono cb.wext).mono bA.wext).mono ac) ((jh.mono bA.wext).mono ac)), ad⟩
  ·intro _ ac ad _ ao ap aq _ av _ aw
   have ay := dx.trans aq
   obtain ⟨_, az, aA, _, aB⟩ := id av
   have af : RpV ad (bB.1 : Val) (ac 63) := aw 3 rfl 63 rfl
   obtain ⟨aC, aD, ag, ah, ai, aj, ak, al, am, an, aE, bd, be⟩ := Val.rpv af
   have bf : RpV ad ((Val.mk aa.Kind aa.Int_ aa.Text aa.Kids aa.Keys aa.Entries aH.1) : Val) (ac 64) := aw 4 rfl 64 rfl
   obtain ⟨bg, ae, bh, cG, cH, cI, cJ, cK, cL, cM, cN, cO, cP⟩ := Val.rpv bf
   refine r_call [Val.ag bB.1 aC aD ag ah ai aj ak al, .agg #[iv aa.Kind, iv aa.Int_, tv aa.Text, lv bg ((Val.mk aa.Kind aa.Int_ aa.Text aa.Kids aa.Keys aa.Entries aH.1).Kids).length ae, lv bh ((Val.mk aa.Kind aa.Int_ aa.Text aa.Kids aa.Keys aa.Entries aH.1).Keys).length cG, lv cH ((Val.mk aa.Kind aa.Int_ aa.Text aa.Kids aa.Keys aa.Entries aH.1).Entries).length cI, lv cJ ((Val.mk aa.Kind aa.Int_ aa.Text aa.Kids aa.Keys aa.Entries aH.1).Labels).length cK]] (evs2 am cL) rfl (ok_semtyperef1_Cons _ _ _ _ _ _ (Val.rpvMk (v := bB.1) an aE bd be) (Val.rpvMk (v := (Val.mk aa.Kind aa.Int_ aa.Text aa.Kids aa.Keys aa.Entries aH.1)) cM cN cO cP) jk) ?_
   intro _ _ ax cQ
   obtain ⟨_, _, _, _, _, _, _, _, rfl, cR, cS, cT, cU⟩ := Val.rpv cQ
   refine j0 ?_
   exact ⟨_, _, rfl, rfl, (ExtP.refl _ _ _ _).ext ay.size ax, (Wext.refl _).trans ax.wext, (Val.rpvMk (v := aM) cR cS cT cU), ⟨(nc (ao 3 rfl)), (fun y0 => (let ⟨zA0, zc0, zb, zf0⟩ := (az y0); ⟨zA0, zc0, (zb.ext ax), (zf0.mono ax.wext)⟩)), (fun y0 => ((aA y0).ext ax)), (nc (ap 6 rfl)), (aB.ext ax)⟩⟩
  ·intro _ ac ad ao ap _ aq _ av aw ay
   have az := dx.trans aq
   obtain ⟨_, aA, aB, _, af⟩ := id av
   have aC := aB ao
   have aD : RpV ad (aM : Val) (ac 65) := ay 5 rfl 65 rfl
   obtain ⟨ag, ah, ai, aj, ak, al, am, an, aE, bd, be, bf, bg⟩ := Val.rpv aD
   refine r_store aC 0 (Val.ag aM ag ah ai aj ak al am an) (Val.cs aM ag ah ai aj ak al am an) (Val.cs aM ag ah ai aj ak al am an) ((aw 4 rfl).trans rfl) aE rfl rfl rfl sz27 rfl rfl rfl ?_
   intro _ ae bh
   refine j0 ?_
   exact ⟨_, _, rfl, rfl, (ExtP.refl _ _ _ _).mod az.size ae, (Wext.refl _).trans ae.wext, trivial, ⟨(nc (ap 3 rfl)), (fun y0 => (let ⟨zA0, zc0, zb, zf0⟩ := (aA y0); ⟨zA0, zc0, (zb.mod ae (beq_false (by omega))), (zf0.mono ae.wext)⟩)), (fun h => Bool.noConfusion h), (fun _ => ⟨ag, ah, ai, aj, ak, al, am, an, bh, (bd.mono ae.wext), (be.mono ae.wext), (bf.mono ae.wext), (bg.mono ae.wext)⟩), (af.mod ae rfl)⟩⟩
  intro jl _ jm _ jn jo _
  have jp := dx.trans jm
  obtain ⟨_, jq, _, jr, _⟩ := jn
  obtain ⟨_, _, js, jt⟩ := jq rfl
  obtain ⟨eM, eN, eO, eP, eQ, eR, eS, eT, ju, jv, jw, jx, jy⟩ := jr rfl
  have jz : jl 4 = (.pointer (some ⟨b4, 0, none⟩)) := (jo 4 rfl).trans rfl
  refine j1 (jb (j7 (j9 ?_)))
  obtain rfl := oi hf
  refine ret_oneE (Val.ag aM eM eN eO eP eQ eR eS eT) rfl ⟨rfl, _, jz, loads_row tr27 (Blk.range ju 0 (Val.cs aM eM eN eO eP eQ eR eS eT) rfl)⟩ jp.mod_ ?_
  exact ⟨(Val.rpvMk (v := aM) jv jw jx jy), _, (Semtypebase_Source.cells_iff.2 ⟨_, _, rfl, jt⟩), js⟩
 refine c_false rfl dI rfl ?_
 refine j2 (j3 ?_)
 refine r_bin (iv a5.1) (iv 3) (bv (a5.1 == 3)) rfl rfl rfl rfl (b_eql) ?_
 refine r_assign (bv (a5.1 == 3)) rfl rfl ?_
 refine j0 (j1 ?_)
 refine if_else hf (fun dR hf => ?_) (fun dR hf => ?_)
 ·refine c_true rfl dR rfl ?_
  refine j2 (j3 ?_)
  refine r_assign (nl Key) rfl rfl ?_
  refine j0 (j1 (j2 (j3 ?_)))
  refine r_assign (nl Val) rfl rfl ?_
  refine j0 (j1 (j2 (j2 (j3 ?_))))
  refine r_move (.pointer (some ⟨b0, 0, none⟩)) rfl rfl ?_
  obtain ⟨eU, jA, hf⟩ := bind_some hf
  refine r_callE [.pointer (some ⟨b0, 0, none⟩), iv 3] (evs2 rfl rfl) rfl (ok_semtypebase_Source_Next _ _ _ _ _ _ _ _ _ (Semtypebase_Source.cells_iff.2 ⟨_, _, rfl, b1⟩) bZ hid0 (RpV.mkInt _ _) jA) ?_
  intro _ eV eW jB
  obtain ⟨jC, _, jD, jE⟩ := jB
  have jF := cu.z eW
  obtain ⟨jG, jH, rfl, jI⟩ := Semtypebase_Source.cells_iff.1 jD
  obtain rfl := RpV.int jC
  refine r_assign (iv eU.1) rfl rfl ?_
  refine j0 (j1 (j4 ?_))
  refine gen_F fun bC ce => ?_
  have eX : bC 0 = (.pointer (some ⟨b0, 0, none⟩)) := (ce 0).trans rfl
  have jJ : bC 1 = (iv a1) := (ce 1).trans rfl
  have jK : bC 4 = (.pointer (some ⟨b4, 0, none⟩)) := (ce 4).trans rfl
  have jL : bC 8 = (nl Key) := (ce 8).trans rfl
  have jM : bC 9 = (nl Val) := (ce 9).trans rfl
  have jN : bC 10 = (iv eU.1) := (ce 10).trans rfl
  obtain ⟨dy, jO, hf⟩ := bind_some hf
  refine wp_mono (wp_iter (step := semtypebase_Source_value_l2 rec_semtypebase_Source_Value a1) (fun q a w => ∃ (F : Fr) (τ : S) (A1 : Option Addr) (c1 : Nat) (A2 : Option Addr) (c2 : Nat) (A3 : Option Addr) (c3 : Nat), a = fr 124 F ∧ w = τ.w ∧ Agr [8, 9, 10, 70, 71, 72, 73, 74, 75, 76, 77, 78, 79, 80, 81, 82, 83, 84, 85] F bC ∧ ExtP s0.N B0 id0 s0 τ ∧ Wext eV τ ∧ F 8 = (lv A1 q.1.length c1) ∧ Own s0.N 5 60 τ q.1 A1 c1 ∧ F 9 = (lv A2 q.2.1.length c2) ∧ Own s0.N 6 27 τ q.2.1 A2 c2 ∧ F 10 = (iv q.2.2.1) ∧ Blk B0 id0 τ b0 53 [lv A3 q.2.2.2.1.length c3, iv q.2.2.2.2] ∧ Sl τ q.2.2.2.1 A3 c3 ∧ Blk s0.N 1 τ b4 27 [iv 0, iv 0, tv (⟨#[]⟩), nl Val, nl Key, nl Ent, nl ByteArray]) (fun q e a w => e = .exit 3 ∧ ∃ (F : Fr) (τ : S) (A1 : Option Addr) (c1 : Nat) (A2 : Option Addr) (c2 : Nat) (A3 : Option Addr) (c3 : Nat), a = fr 124 F ∧ w = τ.w ∧ Agr [8, 9, 10, 70, 71, 72, 73, 74, 75, 76, 77, 78, 79, 80, 81, 82, 83, 84, 85] F bC ∧ ExtP s0.N B0 id0 s0 τ ∧ Wext eV τ ∧ F 8 = (lv A1 q.1.length c1) ∧ Own s0.N 5 60 τ q.1 A1 c1 ∧ F 9 = (lv A2 q.2.1.length c2) ∧ Own s0.N 6 27 τ q.2.1 A2 c2 ∧ F 10 = (iv q.2.2.1) ∧ Blk B0 id0 τ b0 53 [lv A3 q.2.2.2.1.length c3, iv q.2.2.2.2] ∧ Sl τ q.2.2.2.1 A3 c3 ∧ Blk s0.N 1 τ b4 27 [iv 0, iv 0, tv (⟨#[]⟩), nl Val, nl Key, nl Ent, nl ByteArray]) (by rintro _ a w ⟨h, _⟩; cases h) ?_ _ _ _ _ _ jO ?_) ?_
  ·intro a4 fl a w hf hI
   obtain ⟨_, _, eY, eZ, e0, e1, jP, jQ, rfl, rfl, dz, e2, e3, e4, e5, e6, e7, dS, e8, e9, fa⟩ := hI
   unfold semtypebase_Source_value_l2 at hf
   have fb := (dz 0 rfl).trans eX
   have jR := (dz 1 rfl).trans jJ
   refine j2 (j2 (j3 ?_))
   refine r_move (iv a4.2.2.1) dS rfl ?_
   refine r_bin (iv a4.2.2.1) (iv 0) (bv (decide (0 < a4.2.2.1))) rfl rfl rfl rfl (b_gtr) ?_
   refine j0 (j1 ?_)
   refine if_else hf (fun dT hf => ?_) (fun dT hf => ?_)
   ·refine c_true rfl dT rfl ?_
    refine ja (j1 (j2 (j4 (j2 (j3 ?_)))))
    refine r_move (lv eY a4.1.length eZ) e4 rfl ?_
    refine r_move (.pointer (some ⟨b0, 0, none⟩)) fb rfl ?_
    obtain ⟨dA, jS, hf⟩ := bind_some hf
    refine r_callE [.pointer (some ⟨b0, 0, none⟩)] (evs1 rfl) rfl (ok_semtypebase_Source_Key _ _ _ _ _ _ _ (Semtypebase_Source.cells_iff.2 ⟨_, _, rfl, e9⟩) e8 hid0  jS) ?_
    intro _ _ cV jT
    obtain ⟨jU, _, jV, jW⟩ := jT
    have fc := e2.z cV
    obtain ⟨_, _, rfl, jX⟩ := Semtypebase_Source.cells_iff.1 jV
    obtain rfl := Key.rpv jU
    refine r_buildSlice (B := s0.N) (E := 60) 7 fc.size ts23 (xs := [dA.1]) [Key.ag dA.1] (eps_cons rfl eps_nil) rfl rfl rfl (by decide) rfl (by simp [Value.cells, Rp.sz]) ⟨_, _, rfl, (Key.cells_iff.2 rfl), rfl⟩ ?_
    intro _ _ _ bO jY
    have fd := fc.x bO
    obtain ⟨_, jZ, hf⟩ := bind_some hf
    refine r_append (B := s0.N) (id := 5) (E := 60) (xs := a4.1) (ys := [dA.1]) fd.size (((e5.mod cV (beq_false (by omega))).ext bO)) jY.sl ts23 (room_some jZ) rfl rfl rfl rfl ?_
    intro _ fe ff cf ka
    have kb := fd.y cf
    refine r_assign (lv fe (a4.1 ++ [dA.1]).length ff) rfl rfl ?_
    refine j0 (j1 (j3 ?_))
    refine r_move (lv e0 a4.2.1.length e1) e6 rfl ?_
    refine r_move (.pointer (some ⟨b0, 0, none⟩)) fb rfl ?_
    refine r_move (iv a1) jR rfl ?_
    refine r_bin (iv a1) (iv 1) (iv (w64 (a1 - 1))) rfl rfl rfl rfl (b_sub) ?_
    obtain ⟨dB, kc, hf⟩ := bind_some hf
    refine r_callE [.pointer (some ⟨b0, 0, none⟩), iv (w64 (a1 - 1))] (evs2 rfl rfl) rfl (hrec_semtypebase_Source_Value _ _ _ _ _ _ _ _ _ (Semtypebase_Source.cells_iff.2 ⟨_, _, rfl, ((jX.mono bO.wext).mono cf.wext)⟩) ((jW.ext bO).mod cf (beq_false (by omega))) hid0 (RpV.mkInt _ _) kc) ?_
    intro _ _ cW kd
    obtain ⟨ke, _, kf, kg⟩ := kd
    have fg := kb.z cW
    obtain ⟨kh, ki, rfl, kj⟩ := Semtypebase_Source.cells_iff.1 kf
    obtain ⟨kk, kl, km, kn, ko, kp, kq, kr, rfl, ks, kt, ku, kv⟩ := Val.rpv ke
    refine r_buildSlice (B := s0.N) (E := 27) 8 fg.size ts22 (xs := [dB.1]) [Val.ag dB.1 kk kl km kn ko kp kq kr] (eps_cons rfl eps_nil) rfl rfl rfl (by decide) rfl (by simp [Value.cells, Rp.sz]) ⟨_, _, rfl, (Val.cells_iff.2 ⟨_, _, _, _, _, _, _, _, rfl, ks, kt, ku, kv⟩), rfl⟩ ?_
    intro _ _ _ bP kw
    have fh := fg.x bP
    obtain ⟨_, kx, hf⟩ := bind_some hf
    refine r_append (B := s0.N) (id := 6) (E := 27) (xs := a4.2.1) (ys := [dB.1]) fh.size ((((((e7.mod cV (beq_false (by omega))).ext bO).mod cf rfl).mod cW (beq_false (by omega))).ext bP)) kw.sl ts22 (room_some kx) rfl rfl rfl rfl ?_
    intro _ fj fk cg ky
    have kz := fh.y cg
    refine r_assign (lv fj (a4.2.1 ++ [dB.1]).length fk) rfl rfl ?_
    refine j0 (j5 (j1 (j3 ?_)))
    refine r_move (iv a4.2.2.1) dS rfl ?_
    refine r_bin (iv a4.2.2.1) (iv 1) (iv (w64 (a4.2.2.1 - 1))) rfl rfl rfl rfl (b_sub) ?_
    refine r_assign (iv (w64 (a4.2.2.1 - 1))) rfl rfl ?_
    refine j0 ?_
    obtain rfl := oi hf
    exact ⟨rfl, _, _, fe, ff, fj, fk, kh, ki, rfl, rfl, ((((((((((((((((((((dz).put rfl).put rfl).put rfl).put rfl).put rfl).put rfl).put rfl).put rfl).put rfl).put rfl).put rfl).put rfl).put rfl).put rfl).put rfl).put rfl).put rfl).put rfl).put rfl), kz, ((((((((Wext.refl _).trans e3).trans cV.wext).trans bO.wext).trans cf.wext).trans cW.wext).trans bP.wext).trans cg.wext), rfl, ((((ka.mod cW (beq_false (by omega))).ext bP).mod cg rfl)), rfl, (ky), rfl, ((kg.ext bP).mod cg (beq_false (by omega))), ((kj.mono bP.wext).mono cg.wext), ((((((fa.mod cV (beq_false (by omega))).ext bO).mod cf rfl).mod cW (beq_false (by omega))).ext bP).mod cg rfl)⟩
   refine c_false rfl dT rfl ?_
   refine jc (j8 ?_)
   obtain rfl := oi hf
   exact ⟨rfl, _, _, eY, eZ, e0, e1, jP, jQ, rfl, rfl, (((dz).put rfl).put rfl), e2, ((Wext.refl _).trans e3), e4, (e5), e6, (e7), dS, e8, e9, fa⟩
  ·exact ⟨_, _, none, 0, none, 0, jG, jH, rfl, rfl, (Agr.refl _ _), jF, (Wext.refl _), jL, (Own.nil_ _), jM, (Own.nil_ _), jN, jE, jI, ((hb7.mod br (beq_false (by omega))).mod eW (beq_false (by omega)))⟩
  rintro e a w ⟨rfl, mP, mQ, fm, fn, fo, fp, mR, mS, rfl, rfl, fq, kA, mT, kB, kC, kD, kE, mU, fs, ft, fu⟩
  have kF := (fq 0 rfl).trans eX
  have dC := (fq 4 rfl).trans jK
  refine j6 (j1 (j2 (j3 ?_)))
  refine r_move (lv fm dy.1.length fn) kB rfl ?_
  refine r_move (lv fo dy.2.1.length fp) kD rfl ?_
  obtain ⟨ar, kG, hf⟩ := bind_some hf
  refine r_call [lv fm dy.1.length fn, lv fo dy.2.1.length fp] (evs2 rfl rfl) rfl (ok_semtyperef1_Map _ _ _ _ _ _ (RpV.mkList kC.sl) (RpV.mkList kE.sl) kG) ?_
  intro _ _ bQ kH
  have fv := kA.x bQ
  obtain ⟨_, _, rfl, kI, kJ⟩ := kH
  obtain ⟨aN, aO, aP, aQ, aR, aS, aT, aU, rfl, kK, kL, kM, kN⟩ := Val.rpv kI
  obtain rfl := RpV.int kJ
  refine r_move (.tuple #[Val.ag ar.1 aN aO aP aQ aR aS aT aU, iv ar.2]) rfl rfl ?_
  refine r_extract [Val.ag ar.1 aN aO aP aQ aR aS aT aU, iv ar.2] (Val.ag ar.1 aN aO aP aQ aR aS aT aU) rfl rfl rfl ?_
  refine r_extract [Val.ag ar.1 aN aO aP aQ aR aS aT aU, iv ar.2] (iv ar.2) rfl rfl rfl ?_
  refine r_alloc (B := s0.N) 9 fv.size _ [iv 0, iv 0, tv (⟨#[]⟩), nl Val, nl Key, nl Ent, nl ByteArray] ti27 rfl ?_
  intro _ kO bi kP
  have kQ := fv.x bi
  refine r_store kP 0 (Val.ag ar.1 aN aO aP aQ aR aS aT aU) (Val.cs ar.1 aN aO aP aQ aR aS aT aU) (Val.cs ar.1 aN aO aP aQ aR aS aT aU) rfl rfl rfl rfl rfl sz27 rfl rfl rfl ?_
  intro _ bj kR
  have fw := kQ.y bj
  refine r_assign (iv ar.2) rfl rfl ?_
  refine j0 (j1 (j2 (j3 ?_)))
  refine r_move (iv ar.2) rfl rfl ?_
  refine r_bin (iv ar.2) (iv 0) (bv (ar.2 == 0)) rfl rfl rfl rfl (b_eql) ?_
  refine j0 (j1 ?_)
  refine if_else hf (fun dU hf => ?_) (fun dU hf => ?_)
  ·refine c_true rfl dU rfl ?_
   refine j2 (j3 ?_)
   refine r_load kO 0 (Val.ag ar.1 aN aO aP aQ aR aS aT aU) rfl rfl (loads_row tr27 (Blk.range kR 0 (Val.cs ar.1 aN aO aP aQ aR aS aT aU) rfl)) ?_
   refine r_store (((fu.ext bQ).ext bi).mod bj rfl) 0 (Val.ag ar.1 aN aO aP aQ aR aS aT aU) (Val.cs ar.1 aN aO aP aQ aR aS aT aU) (Val.cs ar.1 aN aO aP aQ aR aS aT aU) dC rfl rfl rfl rfl sz27 rfl rfl rfl ?_
   intro _ bR kS
   have kT := fw.y bR
   refine j0 (j1 (jb (j7 (j9 ?_))))
   obtain rfl := oi hf
   refine ret_oneE (Val.ag ar.1 aN aO aP aQ aR aS aT aU) rfl ⟨rfl, _, dC, loads_row tr27 (Blk.range kS 0 (Val.cs ar.1 aN aO aP aQ aR aS aT aU) rfl)⟩ kT.mod_ ?_
   exact ⟨(Val.rpvMk (v := ar.1) (((kK.mono bi.wext).mono bj.wext).mono bR.wext) (((kL.mono bi.wext).mono bj.wext).mono bR.wext) (((kM.mono bi.wext).mono bj.wext).mono bR.wext) (((kN.mono bi.wext).mono bj.wext).mono bR.wext)), _, (Semtypebase_Source.cells_iff.2 ⟨_, _, rfl, ((((ft.mono bQ.wext).mono bi.wext).mono bj.wext).mono bR.wext)⟩), ((((fs.ext bQ).ext bi).mod bj (beq_false (by omega))).mod bR (beq_false (by omega)))⟩
  refine c_false rfl dU rfl ?_
  refine ja (j5 (j1 (j2 (j3 ?_))))
  refine r_move (.pointer (some ⟨b0, 0, none⟩)) kF rfl ?_
  obtain ⟨ch, kU, hf⟩ := bind_some hf
  refine r_callE [.pointer (some ⟨b0, 0, none⟩)] (evs1 rfl) rfl (ok_semtypebase_Source_leaf _ _ _ _ _ _ _ (Semtypebase_Source.cells_iff.2 ⟨_, _, rfl, (((ft.mono bQ.wext).mono bi.wext).mono bj.wext)⟩) (((fs.ext bQ).ext bi).mod bj (beq_false (by omega))) hid0  kU) ?_
  intro _ _ fx kV
  obtain ⟨kW, _, kX, kY⟩ := kV
  have kZ := fw.z fx
  obtain ⟨_, _, rfl, k0⟩ := Semtypebase_Source.cells_iff.1 kX
  obtain ⟨cX, cY, cZ, c0, c4, c5, c6, c7, rfl, k1, k2, k3, k4⟩ := Val.rpv kW
  refine r_store ((((fu.ext bQ).ext bi).mod bj rfl).mod fx (beq_false (by omega))) 0 (Val.ag ch.1 cX cY cZ c0 c4 c5 c6 c7) (Val.cs ch.1 cX cY cZ c0 c4 c5 c6 c7) (Val.cs ch.1 cX cY cZ c0 c4 c5 c6 c7) dC rfl rfl rfl rfl sz27 rfl rfl rfl ?_
  intro _ bS k5
  have k7 := kZ.y bS
  refine j0 (j1 (jb ?_))
  obtain rfl := oi hf
  refine ret_oneE (Val.ag ch.1 cX cY cZ c0 c4 c5 c6 c7) rfl ⟨rfl, _, dC, loads_row tr27 (Blk.range k5 0 (Val.cs ch.1 cX cY cZ c0 c4 c5 c6 c7) rfl)⟩ k7.mod_ ?_
  exact ⟨(Val.rpvMk (v := ch.1) (k1.mono bS.wext) (k2.mono bS.wext) (k3.mono bS.wext) (k4.mono bS.wext)), _, (Semtypebase_Source.cells_iff.2 ⟨_, _, rfl, (k0.mono bS.wext)⟩), (kY.mod bS (beq_false (by omega)))⟩
 refine c_false rfl dR rfl ?_
 refine j2 (j3 ?_)
 refine r_bin (iv a5.1) (iv 4) (bv (a5.1 == 4)) rfl rfl rfl rfl (b_eql) ?_
 refine r_assign (bv (a5.1 == 4)) rfl rfl ?_
 refine j0 (j1 ?_)
 refine if_else hf (fun dV hf => ?_) (fun dV hf => ?_)
 ·refine c_true rfl dV rfl ?_
  refine j2 (j3 ?_)
  refine r_move (.pointer (some ⟨b0, 0, none⟩)) rfl rfl ?_
  obtain ⟨bT, k8, hf⟩ := bind_some hf
  refine r_callE [.pointer (some ⟨b0, 0, none⟩), iv 3] (evs2 rfl rfl) rfl (ok_semtypebase_Source_Next _ _ _ _ _ _ _ _ _ (Semtypebase_Source.cells_iff.2 ⟨_, _, rfl, b1⟩) bZ hid0 (RpV.mkInt _ _) k8) ?_
  intro _ _ fy k9
  obtain ⟨la, _, lb, lc⟩ := k9
  have ld := cu.z fy
  obtain ⟨_, _, rfl, le⟩ := Semtypebase_Source.cells_iff.1 lb
  obtain rfl := RpV.int la
  refine r_assign (iv bT.1) rfl rfl ?_
  refine j0 (j1 (j2 (j3 ?_)))
  refine r_assign (nl Ent) rfl rfl ?_
  refine j0 (j1 (j2 (j2 (j3 ?_))))
  refine r_move (.pointer (some ⟨b0, 0, none⟩)) rfl rfl ?_
  obtain ⟨fz, lf, hf⟩ := bind_some hf
  refine r_callE [.pointer (some ⟨b0, 0, none⟩), iv 3] (evs2 rfl rfl) rfl (ok_semtypebase_Source_Next _ _ _ _ _ _ _ _ _ (Semtypebase_Source.cells_iff.2 ⟨_, _, rfl, le⟩) lc hid0 (RpV.mkInt _ _) lf) ?_
  intro _ fA fB lg
  obtain ⟨lh, _, li, lj⟩ := lg
  have lk := ld.z fB
  obtain ⟨ll, lm, rfl, ln⟩ := Semtypebase_Source.cells_iff.1 li
  obtain rfl := RpV.int lh
  refine r_assign (iv fz.1) rfl rfl ?_
  refine j0 (j1 (j4 ?_))
  refine gen_F fun bD ci => ?_
  have fC : bD 0 = (.pointer (some ⟨b0, 0, none⟩)) := (ci 0).trans rfl
  have lo : bD 1 = (iv a1) := (ci 1).trans rfl
  have lp : bD 4 = (.pointer (some ⟨b4, 0, none⟩)) := (ci 4).trans rfl
  have fD : bD 13 = (iv bT.1) := (ci 13).trans rfl
  have lq : bD 14 = (nl Ent) := (ci 14).trans rfl
  have lr : bD 15 = (iv fz.1) := (ci 15).trans rfl
  obtain ⟨fE, ls, hf⟩ := bind_some hf
  refine wp_mono (wp_iter (step := semtypebase_Source_value_l3 rec_semtypebase_Source_entry a1 bT) (fun q a w => ∃ (F : Fr) (τ : S) (A1 : Option Addr) (c1 : Nat) (A2 : Option Addr) (c2 : Nat), a = fr 124 F ∧ w = τ.w ∧ Agr [14, 15, 101, 102, 103, 104, 105, 106, 107, 108, 109, 110, 111, 112] F bD ∧ ExtP s0.N B0 id0 s0 τ ∧ Wext fA τ ∧ F 14 = (lv A1 q.1.length c1) ∧ Own s0.N 10 65 τ q.1 A1 c1 ∧ F 15 = (iv q.2.1) ∧ Blk B0 id0 τ b0 53 [lv A2 q.2.2.1.length c2, iv q.2.2.2] ∧ Sl τ q.2.2.1 A2 c2 ∧ Blk s0.N 1 τ b4 27 [iv 0, iv 0, tv (⟨#[]⟩), nl Val, nl Key, nl Ent, nl ByteArray]) (fun q e a w => e = .exit 5 ∧ ∃ (F : Fr) (τ : S) (A1 : Option Addr) (c1 : Nat) (A2 : Option Addr) (c2 : Nat), a = fr 124 F ∧ w = τ.w ∧ Agr [14, 15, 101, 102, 103, 104, 105, 106, 107, 108, 109, 110, 111, 112] F bD ∧ ExtP s0.N B0 id0 s0 τ ∧ Wext fA τ ∧ F 14 = (lv A1 q.1.length c1) ∧ Own s0.N 10 65 τ q.1 A1 c1 ∧ F 15 = (iv q.2.1) ∧ Blk B0 id0 τ b0 53 [lv A2 q.2.2.1.length c2, iv q.2.2.2] ∧ Sl τ q.2.2.1 A2 c2 ∧ Blk s0.N 1 τ b4 27 [iv 0, iv 0, tv (⟨#[]⟩), nl Val, nl Key, nl Ent, nl ByteArray]) (by rintro _ a w ⟨h, _⟩; cases h) ?_ _ _ _ _ _ ls ?_) ?_
  ·intro bn fl a w hf hI
   obtain ⟨_, _, fF, fG, lt, lu, rfl, rfl, c8, fH, fI, fJ, fK, dW, fL, fM, fN⟩ := hI
   unfold semtypebase_Source_value_l3 at hf
   have lw := (c8 0 rfl).trans fC
   have lx := (c8 1 rfl).trans lo
   have ly := (c8 13 rfl).trans fD
   refine j2 (j2 (j3 ?_))
   refine r_move (iv bn.2.1) dW rfl ?_
   refine r_bin (iv bn.2.1) (iv 0) (bv (decide (0 < bn.2.1))) rfl rfl rfl rfl (b_gtr) ?_
   refine j0 (j1 ?_)
   refine if_else hf (fun dX hf => ?_) (fun dX hf => ?_)
   ·refine c_true rfl dX rfl ?_
    refine ja (j1 (j2 (j4 (j3 ?_))))
    refine r_move (lv fF bn.1.length fG) fJ rfl ?_
    refine r_move (.pointer (some ⟨b0, 0, none⟩)) lw rfl ?_
    refine r_move (iv bT.1) ly rfl ?_
    refine r_move (iv a1) lx rfl ?_
    refine r_bin (iv a1) (iv 1) (iv (w64 (a1 - 1))) rfl rfl rfl rfl (b_sub) ?_
    obtain ⟨a6, lz, hf⟩ := bind_some hf
    refine r_callE [.pointer (some ⟨b0, 0, none⟩), iv bT.1, iv (w64 (a1 - 1))] (evs3 rfl rfl rfl) rfl (hrec_semtypebase_Source_entry _ _ _ _ _ _ _ _ _ _ _ (Semtypebase_Source.cells_iff.2 ⟨_, _, rfl, fM⟩) fL hid0 (RpV.mkInt _ _) (RpV.mkInt _ _) lz) ?_
    intro _ _ dD lA
    obtain ⟨lB, _, lC, lD⟩ := lA
    have fO := fH.z dD
    obtain ⟨lE, lF, rfl, lG⟩ := Semtypebase_Source.cells_iff.1 lC
    obtain ⟨lH, lI, lJ, lK, lL, lM, lN, lO, lP, lQ, rfl, lR, lS, lT, lU, lV⟩ := Ent.rpv lB
    refine r_buildSlice (B := s0.N) (E := 65) 11 fO.size ts24 (xs := [a6.1]) [.agg #[lv lH a6.1.Args.length lI, bv a6.1.Fails, iv a6.1.Result.Kind, iv a6.1.Result.Int_, tv a6.1.Result.Text, lv lJ a6.1.Result.Kids.length lK, lv lL a6.1.Result.Keys.length lM, lv lN a6.1.Result.Entries.length lO, lv lP a6.1.Result.Labels.length lQ]] (eps_cons rfl eps_nil) rfl rfl rfl (by decide) rfl (by simp [Value.cells, Rp.sz]) ⟨_, _, rfl, (Ent.cells_iff.2 ⟨_, _, _, _, _, _, _, _, _, _, rfl, lR, lS, lT, lU, lV⟩), rfl⟩ ?_
    intro _ _ _ cj lW
    have fP := fO.x cj
    obtain ⟨_, lX, hf⟩ := bind_some hf
    refine r_append (B := s0.N) (id := 10) (E := 65) (xs := bn.1) (ys := [a6.1]) fP.size (((fK.mod dD (beq_false (by omega))).ext cj)) lW.sl ts24 (room_some lX) rfl rfl rfl rfl ?_
    intro _ fQ fR c9 lY
    have lZ := fP.y c9
    refine r_assign (lv fQ (bn.1 ++ [a6.1]).length fR) rfl rfl ?_
    refine j0 (j5 (j1 (j3 ?_)))
    refine r_move (iv bn.2.1) dW rfl ?_
    refine r_bin (iv bn.2.1) (iv 1) (iv (w64 (bn.2.1 - 1))) rfl rfl rfl rfl (b_sub) ?_
    refine r_assign (iv (w64 (bn.2.1 - 1))) rfl rfl ?_
    refine j0 ?_
    obtain rfl := oi hf
    exact ⟨rfl, _, _, fQ, fR, lE, lF, rfl, rfl, (((((((((((((((c8).put rfl).put rfl).put rfl).put rfl).put rfl).put rfl).put rfl).put rfl).put rfl).put rfl).put rfl).put rfl).put rfl).put rfl), lZ, (((((Wext.refl _).trans fI).trans dD.wext).trans cj.wext).trans c9.wext), rfl, (lY), rfl, ((lD.ext cj).mod c9 (beq_false (by omega))), ((lG.mono cj.wext).mono c9.wext), (((fN.mod dD (beq_false (by omega))).ext cj).mod c9 rfl)⟩
   refine c_false rfl dX rfl ?_
   refine jc (j8 ?_)
   obtain rfl := oi hf
   exact ⟨rfl, _, _, fF, fG, lt, lu, rfl, rfl, (((c8).put rfl).put rfl), fH, ((Wext.refl _).trans fI), fJ, (fK), dW, fL, fM, fN⟩
  ·exact ⟨_, _, none, 0, ll, lm, rfl, rfl, (Agr.refl _ _), lk, (Wext.refl _), lq, (Own.nil_ _), lr, lj, ln, (((hb7.mod br (beq_false (by omega))).mod fy (beq_false (by omega))).mod fB (beq_false (by omega)))⟩
  rintro e a w ⟨rfl, mV, mW, fS, fT, mX, mY, rfl, rfl, dY, l0, mZ, l1, l2, m0, fU, fV, fW⟩
  have l3 := (dY 0 rfl).trans fC
  have dE := (dY 4 rfl).trans lp
  have l4 := (dY 13 rfl).trans fD
  refine j6 (j1 (j2 (j3 ?_)))
  refine r_move (iv bT.1) l4 rfl ?_
  refine r_move (lv fS fE.1.length fT) l1 rfl ?_
  obtain ⟨au, l5, hf⟩ := bind_some hf
  refine r_call [iv bT.1, lv fS fE.1.length fT] (evs2 rfl rfl) rfl ((ok_semtyperef1_Function fuel) _ _ _ _ _ _ (RpV.mkInt _ _) (RpV.mkList l2.sl) l5) ?_
  intro _ _ bU l6
  have fX := l0.x bU
  obtain ⟨_, _, rfl, l7, l8⟩ := l6
  obtain ⟨aV, aW, aX, aY, aZ, a0, a2, a3, rfl, l9, ma, mb, mc⟩ := Val.rpv l7
  obtain rfl := RpV.int l8
  refine r_move (.tuple #[Val.ag au.1 aV aW aX aY aZ a0 a2 a3, iv au.2]) rfl rfl ?_
  refine r_extract [Val.ag au.1 aV aW aX aY aZ a0 a2 a3, iv au.2] (Val.ag au.1 aV aW aX aY aZ a0 a2 a3) rfl rfl rfl ?_
  refine r_extract [Val.ag au.1 aV aW aX aY aZ a0 a2 a3, iv au.2] (iv au.2) rfl rfl rfl ?_
  refine r_alloc (B := s0.N) 12 fX.size _ [iv 0, iv 0, tv (⟨#[]⟩), nl Val, nl Key, nl Ent, nl ByteArray] ti27 rfl ?_
  intro _ md bk me
  have mf := fX.x bk
  refine r_store me 0 (Val.ag au.1 aV aW aX aY aZ a0 a2 a3) (Val.cs au.1 aV aW aX aY aZ a0 a2 a3) (Val.cs au.1 aV aW aX aY aZ a0 a2 a3) rfl rfl rfl rfl rfl sz27 rfl rfl rfl ?_
  intro _ bl mg
  have fY := mf.y bl
  refine r_assign (iv au.2) rfl rfl ?_
  refine j0 (j1 (j2 (j3 ?_)))
  refine r_move (iv au.2) rfl rfl ?_
  refine r_bin (iv au.2) (iv 0) (bv (au.2 == 0)) rfl rfl rfl rfl (b_eql) ?_
  refine j0 (j1 ?_)
  refine if_else hf (fun dZ hf => ?_) (fun dZ hf => ?_)
  ·refine c_true rfl dZ rfl ?_
   refine j2 (j3 ?_)
   refine r_load md 0 (Val.ag au.1 aV aW aX aY aZ a0 a2 a3) rfl rfl (loads_row tr27 (Blk.range mg 0 (Val.cs au.1 aV aW aX aY aZ a0 a2 a3) rfl)) ?_
   refine r_store (((fW.ext bU).ext bk).mod bl rfl) 0 (Val.ag au.1 aV aW aX aY aZ a0 a2 a3) (Val.cs au.1 aV aW aX aY aZ a0 a2 a3) (Val.cs au.1 aV aW aX aY aZ a0 a2 a3) dE rfl rfl rfl rfl sz27 rfl rfl rfl ?_
   intro _ bV mh
   have mi := fY.y bV
   refine j0 (j1 (jb (j7 (j9 ?_))))
   obtain rfl := oi hf
   refine ret_oneE (Val.ag au.1 aV aW aX aY aZ a0 a2 a3) rfl ⟨rfl, _, dE, loads_row tr27 (Blk.range mh 0 (Val.cs au.1 aV aW aX aY aZ a0 a2 a3) rfl)⟩ mi.mod_ ?_
   exact ⟨(Val.rpvMk (v := au.1) (((l9.mono bk.wext).mono bl.wext).mono bV.wext) (((ma.mono bk.wext).mono bl.wext).mono bV.wext) (((mb.mono bk.wext).mono bl.wext).mono bV.wext) (((mc.mono bk.wext).mono bl.wext).mono bV.wext)), _, (Semtypebase_Source.cells_iff.2 ⟨_, _, rfl, ((((fV.mono bU.wext).mono bk.wext).mono bl.wext).mono bV.wext)⟩), ((((fU.ext bU).ext bk).mod bl (beq_false (by omega))).mod bV (beq_false (by omega)))⟩
  refine c_false rfl dZ rfl ?_
  refine ja (j5 (j1 (j2 (j3 ?_))))
  refine r_move (.pointer (some ⟨b0, 0, none⟩)) l3 rfl ?_
  obtain ⟨ck, mj, hf⟩ := bind_some hf
  refine r_callE [.pointer (some ⟨b0, 0, none⟩)] (evs1 rfl) rfl (ok_semtypebase_Source_leaf _ _ _ _ _ _ _ (Semtypebase_Source.cells_iff.2 ⟨_, _, rfl, (((fV.mono bU.wext).mono bk.wext).mono bl.wext)⟩) (((fU.ext bU).ext bk).mod bl (beq_false (by omega))) hid0  mj) ?_
  intro _ _ fZ mk
  obtain ⟨ml, _, mm, mn⟩ := mk
  have mo := fY.z fZ
  obtain ⟨_, _, rfl, mp⟩ := Semtypebase_Source.cells_iff.1 mm
  obtain ⟨da, db, dc, dd, de, df, dg, dh, rfl, mq, mr, ms, mt⟩ := Val.rpv ml
  refine r_store ((((fW.ext bU).ext bk).mod bl rfl).mod fZ (beq_false (by omega))) 0 (Val.ag ck.1 da db dc dd de df dg dh) (Val.cs ck.1 da db dc dd de df dg dh) (Val.cs ck.1 da db dc dd de df dg dh) dE rfl rfl rfl rfl sz27 rfl rfl rfl ?_
  intro _ bW mu
  have mv := mo.y bW
  refine j0 (j1 (jb ?_))
  obtain rfl := oi hf
  refine ret_oneE (Val.ag ck.1 da db dc dd de df dg dh) rfl ⟨rfl, _, dE, loads_row tr27 (Blk.range mu 0 (Val.cs ck.1 da db dc dd de df dg dh) rfl)⟩ mv.mod_ ?_
  exact ⟨(Val.rpvMk (v := ck.1) (mq.mono bW.wext) (mr.mono bW.wext) (ms.mono bW.wext) (mt.mono bW.wext)), _, (Semtypebase_Source.cells_iff.2 ⟨_, _, rfl, (mp.mono bW.wext)⟩), (mn.mod bW (beq_false (by omega)))⟩
 refine c_false rfl dV rfl ?_
 refine ja (j5 (j1 (j2 (j3 ?_))))
 refine r_move (.pointer (some ⟨b0, 0, none⟩)) rfl rfl ?_
 obtain ⟨cl, mw, hf⟩ := bind_some hf
 refine r_callE [.pointer (some ⟨b0, 0, none⟩)] (evs1 rfl) rfl (ok_semtypebase_Source_leaf _ _ _ _ _ _ _ (Semtypebase_Source.cells_iff.2 ⟨_, _, rfl, b1⟩) bZ hid0  mw) ?_
 intro _ _ f0 mx
 obtain ⟨my, _, mz, mA⟩ := mx
 have mB := cu.z f0
 obtain ⟨_, _, rfl, mC⟩ := Semtypebase_Source.cells_iff.1 mz
 obtain ⟨di, dj, dk, dl, dm, dn, dp, dq, rfl, mD, mE, mF, mG⟩ := Val.rpv my
 refine r_store ((hb7.mod br (beq_false (by omega))).mod f0 (beq_false (by omega))) 0 (Val.ag cl.1 di dj dk dl dm dn dp dq) (Val.cs cl.1 di dj dk dl dm dn dp dq) (Val.cs cl.1 di dj dk dl dm dn dp dq) rfl rfl rfl rfl rfl sz27 rfl rfl rfl ?_
 intro _ bX mH
 have mI := mB.y bX
 refine j0 (j1 (jb ?_))
 obtain rfl := oi hf
 refine ret_oneE (Val.ag cl.1 di dj dk dl dm dn dp dq) rfl ⟨rfl, _, rfl, loads_row tr27 (Blk.range mH 0 (Val.cs cl.1 di dj dk dl dm dn dp dq) rfl)⟩ mI.mod_ ?_
 exact ⟨(Val.rpvMk (v := cl.1) (mD.mono bX.wext) (mE.mono bX.wext) (mF.mono bX.wext) (mG.mono bX.wext)), _, (Semtypebase_Source.cells_iff.2 ⟨_, _, rfl, (mC.mono bX.wext)⟩), (mA.mod bX (beq_false (by omega)))⟩

end Go.Sx
