/- Printed by dec.py. The walks. -/
import Derived.Test.YtamfhohifmbjnaaTy
namespace Go.Sx
open Go Go.RowKit
attribute [local irreducible] Go.wpList Go.Code.wp Go.Sx.Ctr Go.Sx.CtrE
set_option maxHeartbeats 1600000
set_option maxRecDepth 100000
open Go.Proofs.Try

def S_semtyperef1_Nodes (f : (Val → Option Int)) : Prop := ∀ (s0 : S) (v0 : Value) (a0 : Val) (r : Int), RpV s0 a0 v0 → f a0 = some r → Ctr Go.Proofs.Try.prog 17 [v0] s0 (fun v τ => RpV τ r v)

theorem okB_semtyperef1_Nodes {rec_semtyperef1_Nodes : (Val → Option Int)} (hrec_semtyperef1_Nodes : S_semtyperef1_Nodes rec_semtyperef1_Nodes) : S_semtyperef1_Nodes (semtyperef1_Nodes_B rec_semtyperef1_Nodes) := by
 intro s0 v0 a0 r hp0 hf
 obtain ⟨A1, c2, A4, c5, A7, c8, ar, au, rfl, h3, h6, h9, _⟩ := Val.rpv hp0
 unfold semtyperef1_Nodes_B at hf
 have E0 : ExtB s0.N s0 s0 := ExtB.refl _ _
 refine ctr_of 59 func17 rfl rfl rfl rfl ?_
 refine j2 (j3 ?_)
 refine r_box (B := s0.N) 1 E0.size (Val.ag a0 A1 c2 A4 c5 A7 c8 ar au) (Val.cs a0 A1 c2 A4 c5 A7 c8 ar au) rfl rfl rfl ?_
 intro a4 aa aK bG
 have bH := E0.x aK
 refine r_assign (iv 0) rfl rfl ?_
 refine j0 (j1 (j2 (j3 ?_)))
 refine r_assign (iv 1) rfl rfl ?_
 refine j0 (j1 (j2 (j2 (j3 ?_))))
 refine r_assign (iv 0) rfl rfl ?_
 refine j0 (j1 (j4 ?_))
 refine gen_F fun ax aL => ?_
 have a5 : ax 1 = (.pointer (some ⟨aa, 0, none⟩)) := (aL 1).trans rfl
 have bI : ax 3 = (iv 1) := (aL 3).trans rfl
 have bJ : ax 4 = (iv 0) := (aL 4).trans rfl
 obtain ⟨_, bK, hf⟩ := bind_some hf
 refine wp_mono (wp_iter (step := semtyperef1_Nodes_l1 rec_semtyperef1_Nodes a0) (fun q a w => ∃ (F : Fr) (τ : S), a = fr 59 F ∧ w = τ.w ∧ Agr [3, 4, 8, 9, 10, 11, 12, 13, 14, 15, 16, 17, 18, 19, 20, 21, 22] F ax ∧ ExtB s0.N s0 τ ∧ Wext a4 τ ∧ F 3 = (iv q.1) ∧ F 4 = (iv q.2) ∧ Blk s0.N 1 τ aa 27 (Val.cs a0 A1 c2 A4 c5 A7 c8 ar au)) (fun q e a w => e = .exit 0 ∧ ∃ (F : Fr) (τ : S), a = fr 59 F ∧ w = τ.w ∧ Agr [3, 4, 8, 9, 10, 11, 12, 13, 14, 15, 16, 17, 18, 19, 20, 21, 22] F ax ∧ ExtB s0.N s0 τ ∧ Wext a4 τ ∧ F 3 = (iv q.1) ∧ F 4 = (iv q.2) ∧ Blk s0.N 1 τ aa 27 (Val.cs a0 A1 c2 A4 c5 A7 c8 ar au)) (by rintro _ a w ⟨h, _⟩; cases h) ?_ _ _ _ _ _ bK ?_) ?_
 ·intro ab fl a w hf hI
  obtain ⟨_, _, rfl, rfl, aM, a6, aN, a7, ay, az⟩ := hI
  unfold semtyperef1_Nodes_l1 at hf
  have a8 := (aM 1 rfl).trans a5
  refine j2 (j2 (j3 ?_))
  refine r_move (iv ab.2) ay rfl ?_
  refine r_fieldAddr aa 0 3 3 a8 rfl fo27_3 rfl ?_
  refine r_load aa 3 (lv A1 a0.Kids.length c2) rfl rfl (loads_one to22 ((az.cell 3).trans rfl)) ?_
  refine r_len A1 a0.Kids.length c2 rfl rfl underlying22 ?_
  refine r_bin (iv ab.2) (iv (a0.Kids.length : Int)) (bv (decide (ab.2 < (a0.Kids.length : Int)))) rfl rfl rfl rfl (b_lss) ?_
  refine j0 (j1 ?_)
  refine if_else hf (fun aO hf => ?_) (fun aO hf => ?_)
  ·refine c_true rfl aO rfl ?_
   refine ja (j1 (j2 (j4 (j3 ?_))))
   refine r_move (iv ab.1) a7 rfl ?_
   refine r_fieldAddr aa 0 3 3 a8 rfl fo27_3 rfl ?_
   refine r_load aa 3 (lv A1 a0.Kids.length c2) rfl rfl (loads_one to22 ((az.cell 3).trans rfl)) ?_
   refine r_move (iv ab.2) ay rfl ?_
   obtain ⟨x36, bL, hf⟩ := bind_some hf
   refine r_indexAddr (T := 22) (E := 27) ((h3.mono aK.wext).mono aN) bL rfl rfl rfl rfl underlying22 sz27 ?_
   intro bM bN _ bO bP
   obtain ⟨a9, ba, bb, bc, bd, be, bf, bg, rfl, bQ, bR, bS, bT⟩ := Val.cells_iff.1 bO
   refine r_load bM bN (Val.ag x36 a9 ba bb bc bd be bf bg) rfl rfl (loads_row tr27 bP.2) ?_
   obtain ⟨aP, bU, hf⟩ := bind_some hf
   refine r_call [Val.ag x36 a9 ba bb bc bd be bf bg] (evs1 rfl) rfl (hrec_semtyperef1_Nodes _ _ _ _ (Val.rpvMk (v := x36) bQ bR bS bT) bU) ?_
   intro _ _ aQ bV
   have bW := a6.x aQ
   obtain rfl := RpV.int bV
   refine r_bin (iv ab.1) (iv aP) (iv (w64 (ab.1 + aP))) rfl rfl rfl rfl (b_add) ?_
   refine r_assign (iv (w64 (ab.1 + aP))) rfl rfl ?_
   refine j0 (j5 (j1 (j3 ?_)))
   refine r_move (iv ab.2) ay rfl ?_
   refine r_bin (iv ab.2) (iv 1) (iv (w64 (ab.2 + 1))) rfl rfl rfl rfl (b_add) ?_
   refine r_assign (iv (w64 (ab.2 + 1))) rfl rfl ?_
   refine j0 ?_
   obtain rfl := oi hf
   exact ⟨rfl, _, _, rfl, rfl, ((((((((((((((((((aM).put rfl).put rfl).put rfl).put rfl).put rfl).put rfl).put rfl).put rfl).put rfl).put rfl).put rfl).put rfl).put rfl).put rfl).put rfl).put rfl).put rfl), bW, (((Wext.refl _).trans aN).trans aQ.wext), rfl, rfl, (az.ext aQ)⟩
  refine c_false rfl aO rfl ?_
  refine jc (j8 ?_)
  obtain rfl := oi hf
  exact ⟨rfl, _, _, rfl, rfl, ((((((aM).put rfl).put rfl).put rfl).put rfl).put rfl), a6, ((Wext.refl _).trans aN), a7, ay, az⟩
 ·exact ⟨_, _, rfl, rfl, (Agr.refl _ _), bH, (Wext.refl _), bI, bJ, bG⟩
 rintro e a w ⟨rfl, cG, bh, rfl, rfl, bX, bY, bZ, b0, cH, b1⟩
 have b2 := (bX 1 rfl).trans a5
 refine j6 (j1 (j2 (j2 (j3 ?_))))
 refine r_assign (iv 0) rfl rfl ?_
 refine j0 (j1 (j4 ?_))
 refine gen_F fun aR aS => ?_
 have b3 := (aS 1).trans b2
 have b4 := (aS 3).trans b0
 have b5 : aR 5 = (iv 0) := (aS 5).trans rfl
 obtain ⟨aT, b6, hf⟩ := bind_some hf
 refine wp_mono (wp_iter (step := semtyperef1_Nodes_l2 rec_semtyperef1_Nodes a0) (fun q a w => ∃ (F : Fr) (τ : S), a = fr 59 F ∧ w = τ.w ∧ Agr [3, 5, 6, 7, 23, 24, 25, 26, 27, 28, 29, 30, 31, 32, 33, 34, 35, 36, 37, 38, 39, 40, 41, 42, 43, 44, 45, 46, 47, 48, 49, 50, 51, 52, 53, 54, 55, 56, 57] F aR ∧ ExtB s0.N s0 τ ∧ Wext bh τ ∧ F 3 = (iv q.1) ∧ F 5 = (iv q.2) ∧ Blk s0.N 1 τ aa 27 (Val.cs a0 A1 c2 A4 c5 A7 c8 ar au)) (fun q e a w => e = .exit 2 ∧ ∃ (F : Fr) (τ : S), a = fr 59 F ∧ w = τ.w ∧ Agr [3, 5, 6, 7, 23, 24, 25, 26, 27, 28, 29, 30, 31, 32, 33, 34, 35, 36, 37, 38, 39, 40, 41, 42, 43, 44, 45, 46, 47, 48, 49, 50, 51, 52, 53, 54, 55, 56, 57] F aR ∧ ExtB s0.N s0 τ ∧ Wext bh τ ∧ F 3 = (iv q.1) ∧ F 5 = (iv q.2) ∧ Blk s0.N 1 τ aa 27 (Val.cs a0 A1 c2 A4 c5 A7 c8 ar au)) (by rintro _ a w ⟨h, _⟩; cases h) ?_ _ _ _ _ _ b6 ?_) ?_
 ·intro ac fl a w hf hI
  obtain ⟨_, _, rfl, rfl, aA, aU, aB, bi, aC, aD⟩ := hI
  unfold semtyperef1_Nodes_l2 at hf
  have bj := (aA 1 rfl).trans b3
  refine j2 (j2 (j3 ?_))
  refine r_move (iv ac.2) aC rfl ?_
  refine r_fieldAddr aa 0 5 5 bj rfl fo27_5 rfl ?_
  refine r_load aa 5 (lv A7 a0.Entries.length c8) rfl rfl (loads_one to24 ((aD.cell 5).trans rfl)) ?_
  refine r_len A7 a0.Entries.length c8 rfl rfl underlying24 ?_
  refine r_bin (iv ac.2) (iv (a0.Entries.length : Int)) (bv (decide (ac.2 < (a0.Entries.length : Int)))) rfl rfl rfl rfl (b_lss) ?_
  refine j0 (j1 ?_)
  refine if_else hf (fun aV hf => ?_) (fun aV hf => ?_)
  ·refine c_true rfl aV rfl ?_
   refine ja (j1 (j2 (j4 (j2 (j3 ?_)))))
   refine r_fieldAddr aa 0 5 5 bj rfl fo27_5 rfl ?_
   refine r_load aa 5 (lv A7 a0.Entries.length c8) rfl rfl (loads_one to24 ((aD.cell 5).trans rfl)) ?_
   refine r_move (iv ac.2) aC rfl ?_
   obtain ⟨x93, b7, hf⟩ := bind_some hf
   refine r_indexAddr (T := 24) (E := 65) (((h9.mono aK.wext).mono bZ).mono aB) b7 rfl rfl rfl rfl underlying24 sz65 ?_
   intro b8 b9 _ ca cb
   obtain ⟨af, ag, ah, ai, aj, ak, al, am, an, ao, rfl, cc, cd, ce, cf, cg⟩ := Ent.cells_iff.1 ca
   refine r_load b8 b9 (.agg #[lv af x93.Args.length ag, bv x93.Fails, iv x93.Result.Kind, iv x93.Result.Int_, tv x93.Result.Text, lv ah x93.Result.Kids.length ai, lv aj x93.Result.Keys.length ak, lv al x93.Result.Entries.length am, lv an x93.Result.Labels.length ao]) rfl rfl (loads_row tr65 cb.2) ?_
   refine r_alloc (B := s0.N) 2 aU.size _ [nl Val, bv false, iv 0, iv 0, tv (⟨#[]⟩), nl Val, nl Key, nl Ent, nl ByteArray] ti65 rfl ?_
   intro _ ae ap ch
   have ci := aU.x ap
   refine r_store ch 0 (.agg #[lv af x93.Args.length ag, bv x93.Fails, iv x93.Result.Kind, iv x93.Result.Int_, tv x93.Result.Text, lv ah x93.Result.Kids.length ai, lv aj x93.Result.Keys.length ak, lv al x93.Result.Entries.length am, lv an x93.Result.Labels.length ao]) [lv af x93.Args.length ag, bv x93.Fails, iv x93.Result.Kind, iv x93.Result.Int_, tv x93.Result.Text, lv ah x93.Result.Kids.length ai, lv aj x93.Result.Keys.length ak, lv al x93.Result.Entries.length am, lv an x93.Result.Labels.length ao] [lv af x93.Args.length ag, bv x93.Fails, iv x93.Result.Kind, iv x93.Result.Int_, tv x93.Result.Text, lv ah x93.Result.Kids.length ai, lv aj x93.Result.Keys.length ak, lv al x93.Result.Entries.length am, lv an x93.Result.Labels.length ao] rfl rfl rfl rfl rfl sz65 rfl rfl rfl ?_
   intro bk aq cj
   have ck := ci.y aq
   refine j0 (j1 (j2 (j2 (j3 ?_))))
   refine r_assign (iv 0) rfl rfl ?_
   refine j0 (j1 (j4 ?_))
   refine gen_F fun aE av => ?_
   have cl := (av 3).trans bi
   have cm := (av 5).trans aC
   have bl : aE 6 = (.pointer (some ⟨ae, 0, none⟩)) := (av 6).trans rfl
   have cn : aE 7 = (iv 0) := (av 7).trans rfl
   obtain ⟨aF, co, hf⟩ := bind_some hf
   refine wp_mono (wp_iter (step := semtyperef1_Nodes_l3 rec_semtyperef1_Nodes x93) (fun q a w => ∃ (F : Fr) (τ : S), a = fr 59 F ∧ w = τ.w ∧ Agr [3, 7, 35, 36, 37, 38, 39, 40, 41, 42, 43, 44, 45, 46, 47, 48, 49] F aE ∧ ExtB s0.N s0 τ ∧ Wext bk τ ∧ F 3 = (iv q.1) ∧ F 7 = (iv q.2) ∧ Blk s0.N 1 τ aa 27 (Val.cs a0 A1 c2 A4 c5 A7 c8 ar au) ∧ Blk s0.N 2 τ ae 65 [lv af x93.Args.length ag, bv x93.Fails, iv x93.Result.Kind, iv x93.Result.Int_, tv x93.Result.Text, lv ah x93.Result.Kids.length ai, lv aj x93.Result.Keys.length ak, lv al x93.Result.Entries.length am, lv an x93.Result.Labels.length ao]) (fun q e a w => e = .exit 4 ∧ ∃ (F : Fr) (τ : S), a = fr 59 F ∧ w = τ.w ∧ Agr [3, 7, 35, 36, 37, 38, 39, 40, 41, 42, 43, 44, 45, 46, 47, 48, 49] F aE ∧ ExtB s0.N s0 τ ∧ Wext bk τ ∧ F 3 = (iv q.1) ∧ F 7 = (iv q.2) ∧ Blk s0.N 1 τ aa 27 (Val.cs a0 A1 c2 A4 c5 A7 c8 ar au) ∧ Blk s0.N 2 τ ae 65 [lv af x93.Args.length ag, bv x93.Fails, iv x93.Result.Kind, iv x93.Result.Int_, tv x93.Result.Text, lv ah x93.Result.Kids.length ai, lv aj x93.Result.Keys.length ak, lv al x93.Result.Entries.length am, lv an x93.Result.Labels.length ao]) (by rintro _ a w ⟨h, _⟩; cases h) ?_ _ _ _ _ _ co ?_) ?_
   ·intro ad fl a w hf hI
    obtain ⟨_, _, rfl, rfl, aW, bm, aX, bn, aG, bo, aH⟩ := hI
    unfold semtyperef1_Nodes_l3 at hf
    have bp := (aW 6 rfl).trans bl
    refine j2 (j2 (j3 ?_))
    refine r_move (iv ad.2) aG rfl ?_
    refine r_fieldAddr ae 0 0 0 bp rfl fo65_0 rfl ?_
    refine r_load ae 0 (lv af x93.Args.length ag) rfl rfl (loads_one to22 ((aH.cell 0).trans rfl)) ?_
    refine r_len af x93.Args.length ag rfl rfl underlying22 ?_
    refine r_bin (iv ad.2) (iv (x93.Args.length : Int)) (bv (decide (ad.2 < (x93.Args.length : Int)))) rfl rfl rfl rfl (b_lss) ?_
    refine j0 (j1 ?_)
    refine if_else hf (fun aY hf => ?_) (fun aY hf => ?_)
    ·refine c_true rfl aY rfl ?_
     refine ja (j1 (j2 (j4 (j3 ?_))))
     refine r_move (iv ad.1) bn rfl ?_
     refine r_fieldAddr ae 0 0 0 bp rfl fo65_0 rfl ?_
     refine r_load ae 0 (lv af x93.Args.length ag) rfl rfl (loads_one to22 ((aH.cell 0).trans rfl)) ?_
     refine r_move (iv ad.2) aG rfl ?_
     obtain ⟨x147, cp, hf⟩ := bind_some hf
     refine r_indexAddr (T := 22) (E := 27) (((cc.mono ap.wext).mono aq.wext).mono aX) cp rfl rfl rfl rfl underlying22 sz27 ?_
     intro cq cr _ cs ct
     obtain ⟨bq, br, bs, bt, bu, bw, bx, bz, rfl, cu, cv, cw, cx⟩ := Val.cells_iff.1 cs
     refine r_load cq cr (Val.ag x147 bq br bs bt bu bw bx bz) rfl rfl (loads_row tr27 ct.2) ?_
     obtain ⟨aZ, cy, hf⟩ := bind_some hf
     refine r_call [Val.ag x147 bq br bs bt bu bw bx bz] (evs1 rfl) rfl (hrec_semtyperef1_Nodes _ _ _ _ (Val.rpvMk (v := x147) cu cv cw cx) cy) ?_
     intro _ _ aI cz
     have cA := bm.x aI
     obtain rfl := RpV.int cz
     refine r_bin (iv ad.1) (iv aZ) (iv (w64 (ad.1 + aZ))) rfl rfl rfl rfl (b_add) ?_
     refine r_assign (iv (w64 (ad.1 + aZ))) rfl rfl ?_
     refine j0 (j5 (j1 (j3 ?_)))
     refine r_move (iv ad.2) aG rfl ?_
     refine r_bin (iv ad.2) (iv 1) (iv (w64 (ad.2 + 1))) rfl rfl rfl rfl (b_add) ?_
     refine r_assign (iv (w64 (ad.2 + 1))) rfl rfl ?_
     refine j0 ?_
     obtain rfl := oi hf
     exact ⟨rfl, _, _, rfl, rfl, ((((((((((((((((((aW).put rfl).put rfl).put rfl).put rfl).put rfl).put rfl).put rfl).put rfl).put rfl).put rfl).put rfl).put rfl).put rfl).put rfl).put rfl).put rfl).put rfl), cA, (((Wext.refl _).trans aX).trans aI.wext), rfl, rfl, (bo.ext aI), (aH.ext aI)⟩
    refine c_false rfl aY rfl ?_
    refine jc (j8 ?_)
    obtain rfl := oi hf
    exact ⟨rfl, _, _, rfl, rfl, ((((((aW).put rfl).put rfl).put rfl).put rfl).put rfl), bm, ((Wext.refl _).trans aX), bn, aG, bo, aH⟩
   ·exact ⟨_, _, rfl, rfl, (Agr.refl _ _), ck, (Wext.refl _), cl, cn, ((aD.ext ap).mod aq rfl), cj⟩
   rintro e a w ⟨rfl, cI, cJ, rfl, rfl, aJ, bA, aw, bB, cK, bC, bD⟩
   have bE := (aJ 5 rfl).trans cm
   have bF := (aJ 6 rfl).trans bl
   refine j6 (j1 (j2 (j3 ?_)))
   refine r_fieldAddr ae 0 1 1 bF rfl fo65_1 rfl ?_
   refine r_load ae 1 (bv x93.Fails) rfl rfl (loads_one to4 ((bD.cell 1).trans rfl)) ?_
   refine r_un (bv x93.Fails) (bv (!x93.Fails)) rfl rfl u_not ?_
   refine j0 (j1 ?_)
   refine if_else hf (fun a1 hf => ?_) (fun a1 hf => ?_)
   ·refine c_true rfl a1 rfl ?_
    refine j3 ?_
    refine r_move (iv aF.1) bB rfl ?_
    refine r_fieldAddr ae 0 2 2 bF rfl fo65_2 rfl ?_
    refine r_load ae 2 (Val.ag x93.Result ah ai aj ak al am an ao) rfl rfl (loads_row tr27 (Blk.range bD 2 (Val.cs x93.Result ah ai aj ak al am an ao) rfl)) ?_
    obtain ⟨a2, cB, hf⟩ := bind_some hf
    refine r_call [Val.ag x93.Result ah ai aj ak al am an ao] (evs1 rfl) rfl (hrec_semtyperef1_Nodes _ _ _ _ (Val.rpvMk (v := x93.Result) (((cd.mono ap.wext).mono aq.wext).mono aw) (((ce.mono ap.wext).mono aq.wext).mono aw) (((cf.mono ap.wext).mono aq.wext).mono aw) (((cg.mono ap.wext).mono aq.wext).mono aw)) cB) ?_
    intro _ _ a3 cC
    have cD := bA.x a3
    obtain rfl := RpV.int cC
    refine r_bin (iv aF.1) (iv a2) (iv (w64 (aF.1 + a2))) rfl rfl rfl rfl (b_add) ?_
    refine r_assign (iv (w64 (aF.1 + a2))) rfl rfl ?_
    refine j0 (j5 (j1 (j3 ?_)))
    refine r_move (iv ac.2) bE rfl ?_
    refine r_bin (iv ac.2) (iv 1) (iv (w64 (ac.2 + 1))) rfl rfl rfl rfl (b_add) ?_
    refine r_assign (iv (w64 (ac.2 + 1))) rfl rfl ?_
    refine j0 ?_
    obtain rfl := oi hf
    exact ⟨rfl, _, _, rfl, rfl, ((((((((((((((((((((((((((((aA).put rfl).put rfl).put rfl).put rfl).put rfl).put rfl).put rfl).put rfl).put rfl).put rfl).put rfl).put0).put rfl).gen av).loop aJ rfl).put rfl).put rfl).put rfl).put rfl).put rfl).put rfl).put rfl).put rfl).put rfl).put rfl).put rfl).put rfl), cD, ((((((Wext.refl _).trans aB).trans ap.wext).trans aq.wext).trans aw).trans a3.wext), rfl, rfl, (bC.ext a3)⟩
   refine c_false rfl a1 rfl ?_
   refine ja (j5 (j1 (j3 ?_)))
   refine r_move (iv ac.2) bE rfl ?_
   refine r_bin (iv ac.2) (iv 1) (iv (w64 (ac.2 + 1))) rfl rfl rfl rfl (b_add) ?_
   refine r_assign (iv (w64 (ac.2 + 1))) rfl rfl ?_
   refine j0 ?_
   obtain rfl := oi hf
   exact ⟨rfl, _, _, rfl, rfl, ((((((((((((((((((((((aA).put rfl).put rfl).put rfl).put rfl).put rfl).put rfl).put rfl).put rfl).put rfl).put rfl).put rfl).put0).put rfl).gen av).loop aJ rfl).put rfl).put rfl).put rfl).put rfl).put rfl).put rfl), bA, (((((Wext.refl _).trans aB).trans ap.wext).trans aq.wext).trans aw), bB, rfl, bC⟩
  refine c_false rfl aV rfl ?_
  refine jc (j8 ?_)
  obtain rfl := oi hf
  exact ⟨rfl, _, _, rfl, rfl, ((((((aA).put rfl).put rfl).put rfl).put rfl).put rfl), aU, ((Wext.refl _).trans aB), bi, aC, aD⟩
 ·exact ⟨_, _, rfl, rfl, (Agr.refl _ _), bY, (Wext.refl _), b4, b5, b1⟩
 rintro e a w ⟨rfl, cL, cM, rfl, rfl, cN, cE, cO, cF, cP, cQ⟩
 refine j6 (j1 (j2 (j3 ?_)))
 refine r_move (iv aT.1) cF rfl ?_
 refine r_assign (iv aT.1) rfl rfl ?_
 refine j0 (j1 (jb ?_))
 obtain rfl := oi hf
 refine ret_one (iv aT.1) rfl ⟨rfl, rfl⟩ cE ?_
 exact (RpV.mkInt _ _)

theorem ok_semtyperef1_Nodes : ∀ n : Nat, S_semtyperef1_Nodes (semtyperef1_Nodes n)
  | 0 => by intro _ _ _ _ _ h; cases h
  | n + 1 => okB_semtyperef1_Nodes (ok_semtyperef1_Nodes n)

def S_semtypelaw4_small (f : (Val → Option Bool)) : Prop := ∀ (s0 : S) (v0 : Value) (a0 : Val) (r : Bool), RpV s0 a0 v0 → f a0 = some r → Ctr Go.Proofs.Try.prog 7 [v0] s0 (fun v τ => RpV τ r v)

theorem ok_semtypelaw4_small (fuel : Nat) : S_semtypelaw4_small (semtypelaw4_small fuel) := by
 intro s0 v0 a0 r hp0 hf
 obtain ⟨A1, c2, A4, c5, A7, c8, aa, ab, rfl, h3, h6, h9, ae⟩ := Val.rpv hp0
 unfold semtypelaw4_small at hf
 have E0 : ExtB s0.N s0 s0 := ExtB.refl _ _
 refine ctr_of 6 func7 rfl rfl rfl rfl ?_
 refine j2 (j3 ?_)
 refine r_box (B := s0.N) 1 E0.size (Val.ag a0 A1 c2 A4 c5 A7 c8 aa ab) (Val.cs a0 A1 c2 A4 c5 A7 c8 aa ab) rfl rfl rfl ?_
 intro _ af ac ag
 have ah := E0.x ac
 refine r_assign (bv false) rfl rfl ?_
 refine j0 (j1 (j2 (j3 ?_)))
 refine r_load af 0 (Val.ag a0 A1 c2 A4 c5 A7 c8 aa ab) rfl rfl (loads_row tr27 (Blk.range ag 0 (Val.cs a0 A1 c2 A4 c5 A7 c8 aa ab) rfl)) ?_
 obtain ⟨ad, ai, hf⟩ := bind_some hf
 refine r_call [Val.ag a0 A1 c2 A4 c5 A7 c8 aa ab] (evs1 rfl) rfl ((ok_semtyperef1_Nodes fuel) _ _ _ _ (Val.rpvMk (v := a0) (h3.mono ac.wext) (h6.mono ac.wext) (h9.mono ac.wext) (ae.mono ac.wext)) ai) ?_
 intro _ _ aj ak
 have al := ah.x aj
 obtain rfl := RpV.int ak
 refine r_bin (iv ad) (iv 60) (bv (decide (ad ≤ 60))) rfl rfl rfl rfl (b_leq) ?_
 refine r_assign (bv (decide (ad ≤ 60))) rfl rfl ?_
 refine j0 (j1 (jb ?_))
 obtain rfl := oi hf
 refine ret_one (bv (decide (ad ≤ 60))) rfl ⟨rfl, rfl⟩ al ?_
 exact (RpV.mkBool _ _)

def S_slices_Clone_api_Value_api_Value (f : ((List Val) → Option (List Val))) : Prop := ∀ (s0 : S) (v0 : Value) (a0 : (List Val)) (r : (List Val)), RpV s0 a0 v0 → f a0 = some r → ∀ id : Nat, 1000 ≤ id → Ctr Go.Proofs.Try.prog 67 [v0] s0 (fun v τ => OwnV s0.N id 27 τ r v)

theorem ok_slices_Clone_api_Value_api_Value : S_slices_Clone_api_Value_api_Value slices_Clone_api_Value_api_Value := by
 intro s0 v0 a0 r hp0 hf id hid
 obtain ⟨A1, c2, rfl, h3⟩ := RpV.list hp0
 unfold slices_Clone_api_Value_api_Value at hf
 have E0 : ExtB s0.N s0 s0 := ExtB.refl _ _
 refine ctr_of 8 func67 rfl rfl rfl rfl ?_
 refine j2 (j3 ?_)
 refine r_assign (nl Val) rfl rfl ?_
 refine j0 (j1 (j2 (j2 (j3 ?_))))
 refine r_move (lv A1 a0.length c2) rfl rfl ?_
 refine r_bin (lv A1 a0.length c2) (nl Val) (bv A1.isNone) rfl rfl rfl rfl (b_nil underlying22) ?_
 refine j0 (j1 ?_)
 refine (Bool.eq_false_or_eq_true A1.isNone).elim (fun hn4 => ?_) (fun hn4 => ?_)
 ·have k5 := h3.nil_of hn4
  replace hf : some ([] : List Val) = some r := by simpa [k5, room] using hf
  refine c_true rfl hn4 rfl ?_
  refine j2 (j3 ?_)
  refine r_assign (nl Val) rfl rfl ?_
  refine j0 (j1 (jb (j9 ?_)))
  obtain rfl := oi hf
  refine ret_one (nl Val) rfl ⟨rfl, rfl⟩ E0 ?_
  exact ⟨_, _, rfl, Own.nil_ _⟩
 refine c_false rfl hn4 rfl ?_
 refine ja (j1 (j2 (j3 ?_)))
 refine r_buildSlice0 ts22 ?_
 intro s7 A6 k8
 have E9 := E0.x k8
 refine r_move (lv A1 a0.length c2) rfl rfl ?_
 obtain ⟨_, ac, hf⟩ := bind_some hf
 refine r_append (B := s0.N) (id := id) (E := 27) (xs := ([] : List Val)) (ys := a0) E9.size (Own.nil_ _) (h3.mono k8.wext) ts22 (room_some ac) rfl rfl rfl rfl ?_
 intro _ aa ab ad ae
 have af := E9.y ad
 refine r_assign (lv aa a0.length ab) rfl rfl ?_
 refine j0 (j1 (jb ?_))
 obtain rfl := oi hf
 refine ret_one (lv aa a0.length ab) rfl ⟨rfl, rfl⟩ af ?_
 exact ⟨_, _, rfl, ae⟩

def S_value_parts (f : (Val → Option (List Val))) : Prop := ∀ (s0 : S) (v0 : Value) (a0 : Val) (r : (List Val)), RpV s0 a0 v0 → f a0 = some r → ∀ id : Nat, 1000 ≤ id → Ctr Go.Proofs.Try.prog 53 [v0] s0 (fun v τ => OwnV s0.N id 27 τ r v)

theorem ok_value_parts : S_value_parts value_parts := by
 intro s0 v0 a0 r hp0 hf id hid
 obtain ⟨A1, c2, A4, c5, A7, c8, aM, aN, rfl, h3, h6, h9, _⟩ := Val.rpv hp0
 unfold value_parts at hf
 have E0 : ExtB s0.N s0 s0 := ExtB.refl _ _
 refine ctr_of 30 func53 rfl rfl rfl rfl ?_
 refine j2 (j3 ?_)
 refine r_box (B := s0.N) 1 E0.size (Val.ag a0 A1 c2 A4 c5 A7 c8 aM aN) (Val.cs a0 A1 c2 A4 c5 A7 c8 aM aN) rfl rfl rfl ?_
 intro _ au ax aO
 have aP := E0.x ax
 refine r_assign (nl Val) rfl rfl ?_
 refine j0 (j1 (j2 (j3 ?_)))
 refine r_fieldAddr au 0 3 3 rfl rfl fo27_3 rfl ?_
 refine r_load au 3 (lv A1 a0.Kids.length c2) rfl rfl (loads_one to22 ((aO.cell 3).trans rfl)) ?_
 obtain ⟨aQ, a3, hf⟩ := bind_some hf
 refine r_call [lv A1 a0.Kids.length c2] (evs1 rfl) rfl (ok_slices_Clone_api_Value_api_Value _ _ _ _ (RpV.mkList (h3.mono ax.wext)) a3 id (by omega)) ?_
 intro _ aR ay a4
 have a5 := aP.x ay
 obtain ⟨az, aA, rfl, a6⟩ := a4
 refine r_assign (lv az aQ.length aA) rfl rfl ?_
 refine j0 (j1 (j2 (j2 (j3 ?_))))
 refine r_fieldAddr au 0 5 5 rfl rfl fo27_5 rfl ?_
 refine r_load au 5 (lv A7 a0.Entries.length c8) rfl rfl (loads_one to24 (((aO.ext ay).cell 5).trans rfl)) ?_
 refine r_len A7 a0.Entries.length c8 rfl rfl underlying24 ?_
 refine r_move (iv 0) rfl rfl ?_
 refine j0 (j1 (j4 ?_))
 refine gen_F fun am av => ?_
 have a7 : am 3 = (lv az aQ.length aA) := (av 3).trans rfl
 have a8 : am 10 = (lv A7 a0.Entries.length c8) := (av 10).trans rfl
 have a9 : am 11 = (iv (a0.Entries.length : Int)) := (av 11).trans rfl
 have ba : am 12 = (iv 0) := (av 12).trans rfl
 obtain ⟨aB, bb, hf⟩ := bind_some hf
 refine wp_mono (wp_iter (step := value_parts_l1 a0) (fun q a w => ∃ (F : Fr) (τ : S) (A1 : Option Addr) (c1 : Nat), a = fr 30 F ∧ w = τ.w ∧ Agr [3, 5, 12, 13, 14, 15, 16, 17, 18, 19, 20, 21, 22, 23, 24, 25, 26, 27, 28] F am ∧ ExtB s0.N s0 τ ∧ Wext aR τ ∧ F 3 = (lv A1 q.1.length c1) ∧ Own s0.N id 27 τ q.1 A1 c1 ∧ F 12 = (iv q.2)) (fun q e a w => e = .exit 0 ∧ ∃ (F : Fr) (τ : S) (A1 : Option Addr) (c1 : Nat), a = fr 30 F ∧ w = τ.w ∧ Agr [3, 5, 12, 13, 14, 15, 16, 17, 18, 19, 20, 21, 22, 23, 24, 25, 26, 27, 28] F am ∧ ExtB s0.N s0 τ ∧ Wext aR τ ∧ F 3 = (lv A1 q.1.length c1) ∧ Own s0.N id 27 τ q.1 A1 c1 ∧ F 12 = (iv q.2)) (by rintro _ a w ⟨h, _⟩; cases h) ?_ _ _ _ _ _ bb ?_) ?_
 ·intro aa fl a w hf hI
  obtain ⟨_, _, aS, aT, rfl, rfl, ao, aC, aw, aU, aV, ap⟩ := hI
  unfold value_parts_l1 at hf
  have bc := (ao 10 rfl).trans a8
  have bd := (ao 11 rfl).trans a9
  refine j2 (j3 ?_)
  refine r_bin (iv aa.2) (iv (a0.Entries.length : Int)) (bv (decide (aa.2 < (a0.Entries.length : Int)))) ap bd rfl rfl (b_lss) ?_
  refine j0 (j1 (j2 ?_))
  refine if_else hf (fun aD hf => ?_) (fun aD hf => ?_)
  ·refine c_true rfl aD rfl ?_
   refine ja (j1 (j2 (j4 (j2 (j3 ?_)))))
   obtain ⟨x50, be, hf⟩ := bind_some hf
   refine r_indexAddr (T := 24) (E := 65) (((h9.mono ax.wext).mono ay.wext).mono aw) be bc ap rfl rfl underlying24 sz65 ?_
   intro bf bg _ bh bi
   obtain ⟨aq, ar, ae, af, ag, ah, ai, aj, ak, al, rfl, bj, bk, bl, bm, bn⟩ := Ent.cells_iff.1 bh
   refine r_load bf bg (.agg #[lv aq x50.Args.length ar, bv x50.Fails, iv x50.Result.Kind, iv x50.Result.Int_, tv x50.Result.Text, lv ae x50.Result.Kids.length af, lv ag x50.Result.Keys.length ah, lv ai x50.Result.Entries.length aj, lv ak x50.Result.Labels.length al]) rfl rfl (loads_row tr65 bi.2) ?_
   refine r_alloc (B := s0.N) 3 aC.size _ [nl Val, bv false, iv 0, iv 0, tv (⟨#[]⟩), nl Val, nl Key, nl Ent, nl ByteArray] ti65 rfl ?_
   intro _ an ab bo
   have bp := aC.x ab
   refine r_store bo 0 (.agg #[lv aq x50.Args.length ar, bv x50.Fails, iv x50.Result.Kind, iv x50.Result.Int_, tv x50.Result.Text, lv ae x50.Result.Kids.length af, lv ag x50.Result.Keys.length ah, lv ai x50.Result.Entries.length aj, lv ak x50.Result.Labels.length al]) [lv aq x50.Args.length ar, bv x50.Fails, iv x50.Result.Kind, iv x50.Result.Int_, tv x50.Result.Text, lv ae x50.Result.Kids.length af, lv ag x50.Result.Keys.length ah, lv ai x50.Result.Entries.length aj, lv ak x50.Result.Labels.length al] [lv aq x50.Args.length ar, bv x50.Fails, iv x50.Result.Kind, iv x50.Result.Int_, tv x50.Result.Text, lv ae x50.Result.Kids.length af, lv ag x50.Result.Keys.length ah, lv ai x50.Result.Entries.length aj, lv ak x50.Result.Labels.length al] rfl rfl rfl rfl rfl sz65 rfl rfl rfl ?_
   intro _ ac aE
   have aW := bp.y ac
   refine j0 (j1 (j2 (j3 ?_)))
   refine r_move (lv aS aa.1.length aT) aU rfl ?_
   refine r_fieldAddr an 0 0 0 rfl rfl fo65_0 rfl ?_
   refine r_load an 0 (lv aq x50.Args.length ar) rfl rfl (loads_one to22 ((aE.cell 0).trans rfl)) ?_
   obtain ⟨_, bq, hf⟩ := bind_some hf
   refine r_append (B := s0.N) (id := id) (E := 27) (xs := aa.1) (ys := x50.Args) aW.size (((aV.ext ab).mod ac (beq_false (by omega)))) ((bj.mono ab.wext).mono ac.wext) ts22 (room_some bq) rfl rfl rfl rfl ?_
   intro _ aF aG ad aX
   have aH := aW.y ad
   refine r_assign (lv aF (aa.1 ++ x50.Args).length aG) rfl rfl ?_
   refine j0 (j1 (j2 (j3 ?_)))
   refine r_fieldAddr an 0 1 1 rfl rfl fo65_1 rfl ?_
   refine r_load an 1 (bv x50.Fails) rfl rfl (loads_one to4 (((aE.mod ad (beq_false (by omega))).cell 1).trans rfl)) ?_
   refine r_un (bv x50.Fails) (bv (!x50.Fails)) rfl rfl u_not ?_
   refine j0 (j1 ?_)
   refine if_else hf (fun aI hf => ?_) (fun aI hf => ?_)
   ·refine c_true rfl aI rfl ?_
    refine j3 ?_
    refine r_move (lv aF (aa.1 ++ x50.Args).length aG) rfl rfl ?_
    refine r_fieldAddr an 0 2 2 rfl rfl fo65_2 rfl ?_
    refine r_load an 2 (Val.ag x50.Result ae af ag ah ai aj ak al) rfl rfl (loads_row tr27 (Blk.range (aE.mod ad (beq_false (by omega))) 2 (Val.cs x50.Result ae af ag ah ai aj ak al) rfl)) ?_
    refine r_buildSlice (B := s0.N) (E := 27) 4 aH.size ts22 (xs := [x50.Result]) [Val.ag x50.Result ae af ag ah ai aj ak al] (eps_cons rfl eps_nil) rfl rfl rfl (by decide) rfl (by simp [Value.cells, Rp.sz]) ⟨_, _, rfl, (Val.cells_iff.2 ⟨_, _, _, _, _, _, _, _, rfl, (((bk.mono ab.wext).mono ac.wext).mono ad.wext), (((bl.mono ab.wext).mono ac.wext).mono ad.wext), (((bm.mono ab.wext).mono ac.wext).mono ad.wext), (((bn.mono ab.wext).mono ac.wext).mono ad.wext)⟩), rfl⟩ ?_
    intro _ _ _ aJ br
    have aY := aH.x aJ
    obtain ⟨_, bs, hf⟩ := bind_some hf
    refine r_append (B := s0.N) (id := id) (E := 27) (xs := aa.1 ++ x50.Args) (ys := [x50.Result]) aY.size ((aX.ext aJ)) br.sl ts22 (room_some bs) rfl rfl rfl rfl ?_
    intro _ aZ a1 a2 bt
    have bu := aY.y a2
    refine r_assign (lv aZ ((aa.1 ++ x50.Args) ++ [x50.Result]).length a1) rfl rfl ?_
    refine j0 (j5 (j1 (j3 ?_)))
    refine r_bin (iv aa.2) (iv 1) (iv (w64 (aa.2 + 1))) ap rfl rfl rfl (b_add) ?_
    refine r_move (iv (w64 (aa.2 + 1))) rfl rfl ?_
    refine j0 ?_
    obtain rfl := oi hf
    exact ⟨rfl, _, _, aZ, a1, rfl, rfl, ((((((((((((((((((((((ao).put rfl).put rfl).put rfl).put rfl).put0).put rfl).put rfl).put rfl).put rfl).put rfl).put rfl).put rfl).put rfl).put rfl).put rfl).put rfl).put rfl).put rfl).put rfl).put rfl).put rfl), bu, (((((((Wext.refl _).trans aw).trans ab.wext).trans ac.wext).trans ad.wext).trans aJ.wext).trans a2.wext), rfl, (bt), rfl⟩
   refine c_false rfl aI rfl ?_
   refine ja (j5 (j1 (j3 ?_)))
   refine r_bin (iv aa.2) (iv 1) (iv (w64 (aa.2 + 1))) ap rfl rfl rfl (b_add) ?_
   refine r_move (iv (w64 (aa.2 + 1))) rfl rfl ?_
   refine j0 ?_
   obtain rfl := oi hf
   exact ⟨rfl, _, _, aF, aG, rfl, rfl, ((((((((((((((((ao).put rfl).put rfl).put rfl).put rfl).put0).put rfl).put rfl).put rfl).put rfl).put rfl).put rfl).put rfl).put rfl).put rfl).put rfl), aH, (((((Wext.refl _).trans aw).trans ab.wext).trans ac.wext).trans ad.wext), rfl, (aX), rfl⟩
  refine c_false rfl aD rfl ?_
  refine jc (j8 ?_)
  obtain rfl := oi hf
  exact ⟨rfl, _, _, aS, aT, rfl, rfl, ((ao).put rfl), aC, ((Wext.refl _).trans aw), aU, (aV), ap⟩
 ·exact ⟨_, _, az, aA, rfl, rfl, (Agr.refl _ _), a5, (Wext.refl _), a7, ((a6.base (by have := aP.size; omega))), ba⟩
 rintro e a w ⟨rfl, bA, bB, aK, aL, rfl, rfl, bC, bw, bD, bx, bz, bE⟩
 refine j6 (j1 (j2 (j3 ?_)))
 refine r_move (lv aK aB.1.length aL) bx rfl ?_
 refine r_assign (lv aK aB.1.length aL) rfl rfl ?_
 refine j0 (j1 (jb ?_))
 obtain rfl := oi hf
 refine ret_one (lv aK aB.1.length aL) rfl ⟨rfl, rfl⟩ bw ?_
 exact ⟨_, _, rfl, bz⟩

def S_value_uses (f : (Int → Option (Value_used × Bool))) : Prop := ∀ (s0 : S) (v0 : Value) (a0 : Int) (r : (Value_used × Bool)), RpV s0 a0 v0 → f a0 = some r → Ctr Go.Proofs.Try.prog 80 [v0] s0 (fun v τ => ∃ v1 v2, v = .tuple #[v1, v2] ∧ RpV τ r.1 v1 ∧ RpV τ r.2 v2)

theorem ok_value_uses : S_value_uses value_uses := by
 intro s0 v0 a0 r hp0 hf
 obtain rfl := RpV.int hp0
 unfold value_uses at hf
 have E0 : ExtB s0.N s0 s0 := ExtB.refl _ _
 refine ctr_of 27 func80 rfl rfl rfl rfl ?_
 refine j2 (j3 ?_)
 refine r_alloc (B := s0.N) 1 E0.size _ [bv false, bv false, bv false, bv false, bv false] ti87 rfl ?_
 intro s2 b1 k3 hb4
 have E5 := E0.x k3
 refine r_assign (bv false) rfl rfl ?_
 refine j0 (j1 (j2 (j2 (j3 ?_))))
 refine r_move (iv a0) rfl rfl ?_
 refine j0 (j1 (j4 (j2 (j2 (j3 ?_)))))
 refine r_bin (iv a0) (iv 1) (bv (a0 == 1)) rfl rfl rfl rfl (b_eql) ?_
 refine r_assign (bv (a0 == 1)) rfl rfl ?_
 refine j0 (j1 ?_)
 refine if_else hf (fun hc6 hf => ?_) (fun hc6 hf => ?_)
 ·refine c_true rfl hc6 rfl ?_
  refine ja (j1 ?_)
  refine c_true rfl hc6 rfl ?_
  refine j2 (j3 ?_)
  refine r_build tst87 [(0, bv true)] [bv true, bv false, bv false, bv false, bv false] (eps_cons rfl eps_nil) rfl rfl ?_
  refine r_store hb4 0 (.agg #[bv true, bv false, bv false, bv false, bv false]) [bv true, bv false, bv false, bv false, bv false] [bv true, bv false, bv false, bv false, bv false] rfl rfl rfl rfl rfl sz87 rfl rfl rfl ?_
  intro s7 hm8 hb9
  have ai := E5.y hm8
  refine r_assign (bv true) rfl rfl ?_
  refine j0 (j1 (jb (j7 (j9 ?_))))
  obtain rfl := oi hf
  refine ret_two (.agg #[bv true, bv false, bv false, bv false, bv false]) (bv true) rfl ⟨rfl, _, rfl, loads_row tr87 (Blk.range hb9 0 [bv true, bv false, bv false, bv false, bv false] rfl)⟩ ⟨rfl, rfl⟩ ai ?_
  exact ⟨_, _, rfl, (Value_used.rpvMk (v := (Value_used.mk true false false false false)) ), (RpV.mkBool _ _)⟩
 refine c_false rfl hc6 rfl ?_
 refine j3 ?_
 refine r_bin (iv a0) (iv 4) (bv (a0 == 4)) rfl rfl rfl rfl (b_eql) ?_
 refine r_assign (bv (a0 == 4)) rfl rfl ?_
 refine j0 (j1 ?_)
 refine if_else hf (fun ac hf => ?_) (fun ac hf => ?_)
 ·refine c_true rfl ac rfl ?_
  refine j2 (j3 ?_)
  refine r_build tst87 [(0, bv true)] [bv true, bv false, bv false, bv false, bv false] (eps_cons rfl eps_nil) rfl rfl ?_
  refine r_store hb4 0 (.agg #[bv true, bv false, bv false, bv false, bv false]) [bv true, bv false, bv false, bv false, bv false] [bv true, bv false, bv false, bv false, bv false] rfl rfl rfl rfl rfl sz87 rfl rfl rfl ?_
  intro _ aj ak
  have al := E5.y aj
  refine r_assign (bv true) rfl rfl ?_
  refine j0 (j1 (jb (j7 (j9 ?_))))
  obtain rfl := oi hf
  refine ret_two (.agg #[bv true, bv false, bv false, bv false, bv false]) (bv true) rfl ⟨rfl, _, rfl, loads_row tr87 (Blk.range ak 0 [bv true, bv false, bv false, bv false, bv false] rfl)⟩ ⟨rfl, rfl⟩ al ?_
  exact ⟨_, _, rfl, (Value_used.rpvMk (v := (Value_used.mk true false false false false)) ), (RpV.mkBool _ _)⟩
 refine c_false rfl ac rfl ?_
 refine j2 (j2 (j3 ?_))
 refine r_bin (iv a0) (iv 2) (bv (a0 == 2)) rfl rfl rfl rfl (b_eql) ?_
 refine r_assign (bv (a0 == 2)) rfl rfl ?_
 refine j0 (j1 ?_)
 refine if_else hf (fun aa hf => ?_) (fun aa hf => ?_)
 ·refine c_true rfl aa rfl ?_
  refine ja (j1 ?_)
  refine c_true rfl aa rfl ?_
  refine j2 (j3 ?_)
  refine r_build tst87 [(1, bv true)] [bv false, bv true, bv false, bv false, bv false] (eps_cons rfl eps_nil) rfl rfl ?_
  refine r_store hb4 0 (.agg #[bv false, bv true, bv false, bv false, bv false]) [bv false, bv true, bv false, bv false, bv false] [bv false, bv true, bv false, bv false, bv false] rfl rfl rfl rfl rfl sz87 rfl rfl rfl ?_
  intro _ am an
  have ao := E5.y am
  refine r_assign (bv true) rfl rfl ?_
  refine j0 (j1 (jb (j7 (j9 ?_))))
  obtain rfl := oi hf
  refine ret_two (.agg #[bv false, bv true, bv false, bv false, bv false]) (bv true) rfl ⟨rfl, _, rfl, loads_row tr87 (Blk.range an 0 [bv false, bv true, bv false, bv false, bv false] rfl)⟩ ⟨rfl, rfl⟩ ao ?_
  exact ⟨_, _, rfl, (Value_used.rpvMk (v := (Value_used.mk false true false false false)) ), (RpV.mkBool _ _)⟩
 refine c_false rfl aa rfl ?_
 refine j3 ?_
 refine r_bin (iv a0) (iv 3) (bv (a0 == 3)) rfl rfl rfl rfl (b_eql) ?_
 refine r_assign (bv (a0 == 3)) rfl rfl ?_
 refine j0 (j1 ?_)
 refine if_else hf (fun ad hf => ?_) (fun ad hf => ?_)
 ·refine c_true rfl ad rfl ?_
  refine j2 (j3 ?_)
  refine r_build tst87 [(1, bv true)] [bv false, bv true, bv false, bv false, bv false] (eps_cons rfl eps_nil) rfl rfl ?_
  refine r_store hb4 0 (.agg #[bv false, bv true, bv false, bv false, bv false]) [bv false, bv true, bv false, bv false, bv false] [bv false, bv true, bv false, bv false, bv false] rfl rfl rfl rfl rfl sz87 rfl rfl rfl ?_
  intro _ ap aq
  have ar := E5.y ap
  refine r_assign (bv true) rfl rfl ?_
  refine j0 (j1 (jb (j7 (j9 ?_))))
  obtain rfl := oi hf
  refine ret_two (.agg #[bv false, bv true, bv false, bv false, bv false]) (bv true) rfl ⟨rfl, _, rfl, loads_row tr87 (Blk.range aq 0 [bv false, bv true, bv false, bv false, bv false] rfl)⟩ ⟨rfl, rfl⟩ ar ?_
  exact ⟨_, _, rfl, (Value_used.rpvMk (v := (Value_used.mk false true false false false)) ), (RpV.mkBool _ _)⟩
 refine c_false rfl ad rfl ?_
 refine j2 (j3 ?_)
 refine r_bin (iv a0) (iv 5) (bv (a0 == 5)) rfl rfl rfl rfl (b_eql) ?_
 refine r_assign (bv (a0 == 5)) rfl rfl ?_
 refine j0 (j1 ?_)
 refine if_else hf (fun ae hf => ?_) (fun ae hf => ?_)
 ·refine c_true rfl ae rfl ?_
  refine j2 (j3 ?_)
  refine r_build tst87 [] [bv false, bv false, bv false, bv false, bv false] eps_nil rfl rfl ?_
  refine r_store hb4 0 (.agg #[bv false, bv false, bv false, bv false, bv false]) [bv false, bv false, bv false, bv false, bv false] [bv false, bv false, bv false, bv false, bv false] rfl rfl rfl rfl rfl sz87 rfl rfl rfl ?_
  intro _ au av
  have aw := E5.y au
  refine r_assign (bv true) rfl rfl ?_
  refine j0 (j1 (jb (j7 (j9 ?_))))
  obtain rfl := oi hf
  refine ret_two (.agg #[bv false, bv false, bv false, bv false, bv false]) (bv true) rfl ⟨rfl, _, rfl, loads_row tr87 (Blk.range av 0 [bv false, bv false, bv false, bv false, bv false] rfl)⟩ ⟨rfl, rfl⟩ aw ?_
  exact ⟨_, _, rfl, (Value_used.rpvMk (v := (Value_used.mk false false false false false)) ), (RpV.mkBool _ _)⟩
 refine c_false rfl ae rfl ?_
 refine j2 (j2 (j3 ?_))
 refine r_bin (iv a0) (iv 6) (bv (a0 == 6)) rfl rfl rfl rfl (b_eql) ?_
 refine r_assign (bv (a0 == 6)) rfl rfl ?_
 refine j0 (j1 ?_)
 refine if_else hf (fun ab hf => ?_) (fun ab hf => ?_)
 ·refine c_true rfl ab rfl ?_
  refine ja (j1 ?_)
  refine c_true rfl ab rfl ?_
  refine j2 (j3 ?_)
  refine r_build tst87 [(2, bv true)] [bv false, bv false, bv true, bv false, bv false] (eps_cons rfl eps_nil) rfl rfl ?_
  refine r_store hb4 0 (.agg #[bv false, bv false, bv true, bv false, bv false]) [bv false, bv false, bv true, bv false, bv false] [bv false, bv false, bv true, bv false, bv false] rfl rfl rfl rfl rfl sz87 rfl rfl rfl ?_
  intro _ ax ay
  have az := E5.y ax
  refine r_assign (bv true) rfl rfl ?_
  refine j0 (j1 (jb (j7 (j9 ?_))))
  obtain rfl := oi hf
  refine ret_two (.agg #[bv false, bv false, bv true, bv false, bv false]) (bv true) rfl ⟨rfl, _, rfl, loads_row tr87 (Blk.range ay 0 [bv false, bv false, bv true, bv false, bv false] rfl)⟩ ⟨rfl, rfl⟩ az ?_
  exact ⟨_, _, rfl, (Value_used.rpvMk (v := (Value_used.mk false false true false false)) ), (RpV.mkBool _ _)⟩
 refine c_false rfl ab rfl ?_
 refine j3 ?_
 refine r_bin (iv a0) (iv 7) (bv (a0 == 7)) rfl rfl rfl rfl (b_eql) ?_
 refine r_assign (bv (a0 == 7)) rfl rfl ?_
 refine j0 (j1 ?_)
 refine if_else hf (fun af hf => ?_) (fun af hf => ?_)
 ·refine c_true rfl af rfl ?_
  refine j2 (j3 ?_)
  refine r_build tst87 [(2, bv true)] [bv false, bv false, bv true, bv false, bv false] (eps_cons rfl eps_nil) rfl rfl ?_
  refine r_store hb4 0 (.agg #[bv false, bv false, bv true, bv false, bv false]) [bv false, bv false, bv true, bv false, bv false] [bv false, bv false, bv true, bv false, bv false] rfl rfl rfl rfl rfl sz87 rfl rfl rfl ?_
  intro _ aA aB
  have aC := E5.y aA
  refine r_assign (bv true) rfl rfl ?_
  refine j0 (j1 (jb (j7 (j9 ?_))))
  obtain rfl := oi hf
  refine ret_two (.agg #[bv false, bv false, bv true, bv false, bv false]) (bv true) rfl ⟨rfl, _, rfl, loads_row tr87 (Blk.range aB 0 [bv false, bv false, bv true, bv false, bv false] rfl)⟩ ⟨rfl, rfl⟩ aC ?_
  exact ⟨_, _, rfl, (Value_used.rpvMk (v := (Value_used.mk false false true false false)) ), (RpV.mkBool _ _)⟩
 refine c_false rfl af rfl ?_
 refine j2 (j3 ?_)
 refine r_bin (iv a0) (iv 8) (bv (a0 == 8)) rfl rfl rfl rfl (b_eql) ?_
 refine r_assign (bv (a0 == 8)) rfl rfl ?_
 refine j0 (j1 ?_)
 refine if_else hf (fun ag hf => ?_) (fun ag hf => ?_)
 ·refine c_true rfl ag rfl ?_
  refine j2 (j3 ?_)
  refine r_build tst87 [(2, bv true), (3, bv true)] [bv false, bv false, bv true, bv true, bv false] (eps_cons rfl (eps_cons rfl eps_nil)) rfl rfl ?_
  refine r_store hb4 0 (.agg #[bv false, bv false, bv true, bv true, bv false]) [bv false, bv false, bv true, bv true, bv false] [bv false, bv false, bv true, bv true, bv false] rfl rfl rfl rfl rfl sz87 rfl rfl rfl ?_
  intro _ aD aE
  have aF := E5.y aD
  refine r_assign (bv true) rfl rfl ?_
  refine j0 (j1 (jb (j7 (j9 ?_))))
  obtain rfl := oi hf
  refine ret_two (.agg #[bv false, bv false, bv true, bv true, bv false]) (bv true) rfl ⟨rfl, _, rfl, loads_row tr87 (Blk.range aE 0 [bv false, bv false, bv true, bv true, bv false] rfl)⟩ ⟨rfl, rfl⟩ aF ?_
  exact ⟨_, _, rfl, (Value_used.rpvMk (v := (Value_used.mk false false true true false)) ), (RpV.mkBool _ _)⟩
 refine c_false rfl ag rfl ?_
 refine j2 (j3 ?_)
 refine r_bin (iv a0) (iv 9) (bv (a0 == 9)) rfl rfl rfl rfl (b_eql) ?_
 refine r_assign (bv (a0 == 9)) rfl rfl ?_
 refine j0 (j1 ?_)
 refine if_else hf (fun ah hf => ?_) (fun ah hf => ?_)
 ·refine c_true rfl ah rfl ?_
  refine j2 (j3 ?_)
  refine r_build tst87 [(0, bv true), (4, bv true)] [bv true, bv false, bv false, bv false, bv true] (eps_cons rfl (eps_cons rfl eps_nil)) rfl rfl ?_
  refine r_store hb4 0 (.agg #[bv true, bv false, bv false, bv false, bv true]) [bv true, bv false, bv false, bv false, bv true] [bv true, bv false, bv false, bv false, bv true] rfl rfl rfl rfl rfl sz87 rfl rfl rfl ?_
  intro _ aG aH
  have aI := E5.y aG
  refine r_assign (bv true) rfl rfl ?_
  refine j0 (j1 (jb (j7 (j9 ?_))))
  obtain rfl := oi hf
  refine ret_two (.agg #[bv true, bv false, bv false, bv false, bv true]) (bv true) rfl ⟨rfl, _, rfl, loads_row tr87 (Blk.range aH 0 [bv true, bv false, bv false, bv false, bv true] rfl)⟩ ⟨rfl, rfl⟩ aI ?_
  exact ⟨_, _, rfl, (Value_used.rpvMk (v := (Value_used.mk true false false false true)) ), (RpV.mkBool _ _)⟩
 refine c_false rfl ah rfl ?_
 refine ja (j5 (j1 (j2 (j3 ?_))))
 refine r_build tst87 [] [bv false, bv false, bv false, bv false, bv false] eps_nil rfl rfl ?_
 refine r_store hb4 0 (.agg #[bv false, bv false, bv false, bv false, bv false]) [bv false, bv false, bv false, bv false, bv false] [bv false, bv false, bv false, bv false, bv false] rfl rfl rfl rfl rfl sz87 rfl rfl rfl ?_
 intro _ aJ aK
 have aL := E5.y aJ
 refine r_assign (bv false) rfl rfl ?_
 refine j0 (j1 (jb ?_))
 obtain rfl := oi hf
 refine ret_two (.agg #[bv false, bv false, bv false, bv false, bv false]) (bv false) rfl ⟨rfl, _, rfl, loads_row tr87 (Blk.range aK 0 [bv false, bv false, bv false, bv false, bv false] rfl)⟩ ⟨rfl, rfl⟩ aL ?_
 exact ⟨_, _, rfl, (Value_used.rpvMk (v := (Value_used.mk false false false false false)) ), (RpV.mkBool _ _)⟩

def S_internal_bytealg_CompareString (f : (ByteArray → ByteArray → Option Int)) : Prop := ∀ (s0 : S) (v0 : Value) (v1 : Value) (a0 : ByteArray) (a1 : ByteArray) (r : Int), RpV s0 a0 v0 → RpV s0 a1 v1 → f a0 a1 = some r → Ctr Go.Proofs.Try.prog 65 [v0, v1] s0 (fun v τ => RpV τ r v)

theorem ok_internal_bytealg_CompareString : S_internal_bytealg_CompareString internal_bytealg_CompareString := by
 intro s0 v0 v1 a0 a1 r hp0 hp1 hf
 obtain rfl := RpV.str hp0
 obtain rfl := RpV.str hp1
 unfold internal_bytealg_CompareString at hf
 have E0 : ExtB s0.N s0 s0 := ExtB.refl _ _
 refine ctr_of 8 func65 rfl rfl rfl rfl ?_
 refine j2 (j3 ?_)
 refine r_assign (iv 0) rfl rfl ?_
 refine j0 (j1 (j2 (j3 ?_)))
 refine r_move (tv a0) rfl rfl ?_
 refine r_move (tv a1) rfl rfl ?_
 refine r_callx [tv a0, tv a1] (iv (strCmp a0 a1)) (evs2 rfl rfl) rfl (x87 _ _ _) ?_
 refine r_assign (iv (strCmp a0 a1)) rfl rfl ?_
 refine j0 (j1 (jb ?_))
 obtain rfl := oi hf
 refine ret_one (iv (strCmp a0 a1)) rfl ⟨rfl, rfl⟩ E0 ?_
 exact (RpV.mkInt _ _)

def S_strings_Compare (f : (ByteArray → ByteArray → Option Int)) : Prop := ∀ (s0 : S) (v0 : Value) (v1 : Value) (a0 : ByteArray) (a1 : ByteArray) (r : Int), RpV s0 a0 v0 → RpV s0 a1 v1 → f a0 a1 = some r → Ctr Go.Proofs.Try.prog 39 [v0, v1] s0 (fun v τ => RpV τ r v)

theorem ok_strings_Compare : S_strings_Compare strings_Compare := by
 intro s0 v0 v1 a0 a1 r hp0 hp1 hf
 obtain rfl := RpV.str hp0
 obtain rfl := RpV.str hp1
 unfold strings_Compare at hf
 have E0 : ExtB s0.N s0 s0 := ExtB.refl _ _
 refine ctr_of 8 func39 rfl rfl rfl rfl ?_
 refine j2 (j3 ?_)
 refine r_assign (iv 0) rfl rfl ?_
 refine j0 (j1 (j2 (j3 ?_)))
 refine r_move (tv a0) rfl rfl ?_
 refine r_move (tv a1) rfl rfl ?_
 obtain ⟨r1, e2, hf⟩ := bind_some hf
 refine r_call [tv a0, tv a1] (evs2 rfl rfl) rfl (ok_internal_bytealg_CompareString _ _ _ _ _ _ (RpV.mkStr _ _) (RpV.mkStr _ _) e2) ?_
 intro v4 s3 k5 hr6
 have E7 := E0.x k5
 obtain rfl := RpV.int hr6
 refine r_assign (iv r1) rfl rfl ?_
 refine j0 (j1 (jb ?_))
 obtain rfl := oi hf
 refine ret_one (iv r1) rfl ⟨rfl, rfl⟩ E7 ?_
 exact (RpV.mkInt _ _)

def S_value_ascending_string (f : ((List ByteArray) → (ByteArray → ByteArray → Option Int) → Option Bool)) : Prop := ∀ (s0 : S) (v0 : Value) (v1 : Value) (a0 : (List ByteArray)) (a1 : (ByteArray → ByteArray → Option Int)) (r : Bool), RpV s0 a0 v0 → Fn2 Go.Proofs.Try.prog s0 v1 a1 → f a0 a1 = some r → Ctr Go.Proofs.Try.prog 95 [v0, v1] s0 (fun v τ => RpV τ r v)

theorem ok_value_ascending_string : S_value_ascending_string value_ascending_string := by
 intro s0 v0 v1 a0 a1 r hp0 hp1 hf
 obtain ⟨A1, c2, rfl, h3⟩ := RpV.list hp0
 obtain ⟨kk1, fi1, ca1, rfl, hk1⟩ := hp1
 unfold value_ascending_string at hf
 have E0 : ExtB s0.N s0 s0 := ExtB.refl _ _
 refine ctr_of 24 func95 rfl rfl rfl rfl ?_
 refine j2 (j3 ?_)
 refine r_assign (bv false) rfl rfl ?_
 refine j0 (j1 (j2 (j2 (j3 ?_))))
 refine r_assign (iv 1) rfl rfl ?_
 refine j0 (j1 (j4 ?_))
 refine gen_F fun F4 hg5 => ?_
 have f6 : F4 0 = (lv A1 a0.length c2) := (hg5 0).trans rfl
 have f7 : F4 1 = (.func (.func kk1) (List.toArray fi1) (List.toArray ca1)) := (hg5 1).trans rfl
 have f9 : F4 5 = (iv 1) := (hg5 5).trans rfl
 obtain ⟨ax, ay, hf⟩ := bind_some hf
 refine wp_mono (wp_iter (step := value_ascending_string_l1 a0 a1) (fun q a w => ∃ (F : Fr) (τ : S), a = fr 24 F ∧ w = τ.w ∧ Agr [4, 5, 6, 7, 8, 9, 10, 11, 12, 13, 14, 15, 16, 17, 18, 19, 20, 21, 22, 23] F F4 ∧ ExtB s0.N s0 τ ∧ Wext s0 τ ∧ F 5 = (iv q)) (fun o e a w => match o with | .inl q => e = .exit 0 ∧ ∃ (F : Fr) (τ : S), a = fr 24 F ∧ w = τ.w ∧ Agr [4, 5, 6, 7, 8, 9, 10, 11, 12, 13, 14, 15, 16, 17, 18, 19, 20, 21, 22, 23] F F4 ∧ ExtB s0.N s0 τ ∧ Wext s0 τ ∧ F 5 = (iv q) | .inr r => e = .ret ∧ ∃ (F : Fr) (τ : S) (va : Value), a = fr 24 F ∧ w = τ.w ∧ ExtB s0.N s0 τ ∧ ResV prog 24 F τ.w (.tmp 4) va ∧ RpV τ r va) (by rintro (_ | _) a w ⟨h, _⟩ <;> cases h) ?_ _ _ _ _ _ ay ?_) ?_
 ·intro ac fl a w hf hI
  obtain ⟨_, _, rfl, rfl, aj, al, ak, ag⟩ := hI
  unfold value_ascending_string_l1 at hf
  have am := (aj 0 rfl).trans f6
  have az := (aj 1 rfl).trans f7
  refine j2 (j2 (j3 ?_))
  refine r_move (iv ac) ag rfl ?_
  refine r_move (lv A1 a0.length c2) am rfl ?_
  refine r_len A1 a0.length c2 rfl rfl underlying25 ?_
  refine r_bin (iv ac) (iv (a0.length : Int)) (bv (decide (ac < (a0.length : Int)))) rfl rfl rfl rfl (b_lss) ?_
  refine j0 (j1 ?_)
  refine if_else hf (fun an hf => ?_) (fun an hf => ?_)
  ·refine c_true rfl an rfl ?_
   refine ja (j1 (j2 (j4 (j2 ?_))))
   obtain ⟨x20, aA, hf⟩ := bind_some hf
   obtain ⟨x22, aB, hf⟩ := bind_some hf
   obtain ⟨ah, aC, hf⟩ := bind_some hf
   refine wp_draw (B := frExt s0.N) (sm 12 12) [[], [], [], [2], [1, 2, 3], [1, 2, 3, 4], [], [], [6, 7], [6, 7, 8], rg 10, rg 11] [Fct.eqv (.func (.func kk1) (List.toArray fi1) (List.toArray ca1)), Fct.eqv (lv A1 a0.length c2), Fct.eqv (iv ac), Fct.eqv (iv (w64 (ac - 1))), Fct.elem (x20 : ByteArray), Fct.eqv (tv x20), Fct.eqv (lv A1 a0.length c2), Fct.eqv (iv ac), Fct.elem (x22 : ByteArray), Fct.eqv (tv x22), Fct.eqv (iv ah), Fct.eqv (bv (decide (0 ≤ ah)))] (fun D F τ => True) (by kernel_rfl) rfl (by decide) (by decide) trivial (by decide) (by decide) ⟨?_, ?_, ?_, ?_, ?_, ?_, ?_, ?_, ?_, ?_, ?_, ?_, trivial⟩ ?_
   ·intro _ _ _ _ _ _ _ _ aa ab _
    refine r_move (.func (.func kk1) (List.toArray fi1) (List.toArray ca1)) ((ab 1 rfl).trans az) rfl ?_
    exact d0 ⟨rfl, aa⟩
   ·intro _ _ _ _ _ _ _ _ aa ab _
    refine r_move (lv A1 a0.length c2) ((ab 0 rfl).trans am) rfl ?_
    exact d0 ⟨rfl, aa⟩
   ·intro _ _ _ _ _ _ _ _ aa ab _
    refine r_move (iv ac) ((ab 5 rfl).trans ag) rfl ?_
    exact d0 ⟨rfl, aa⟩
   ·intro _ _ _ _ _ _ _ _ aa _ ab
    refine r_bin (iv ac) (iv 1) (iv (w64 (ac - 1))) (ab 2 rfl 14 rfl) rfl rfl rfl (b_sub) ?_
    exact d0 ⟨rfl, aa⟩
   ·intro _ _ _ _ _ _ _ aa ab _ ad
    refine r_indexAddr (T := 25) (E := 9) ((h3.mono ak).mono aa) aA (ad 1 rfl 13 rfl) (ad 3 rfl 15 rfl) rfl rfl underlying25 sz9 ?_
    intro _ _ _ ae af
    obtain rfl := ae
    exact d0 ⟨⟨_, _, _, rfl, rfl, af⟩, ab⟩
   ·intro _ aa ab _ _ _ _ _ ad _ ae
    obtain ⟨af, ai, _, ao, ap, aq⟩ : (Fct.elem (x20 : ByteArray)).p (aa 16) ab := ae 4 rfl 16 rfl
    obtain rfl := ap
    refine r_load af ai (tv x20) ao rfl (loads_one to9 (aq.2 0 _ rfl)) ?_
    exact d0 ⟨rfl, ad⟩
   ·intro _ _ _ _ _ _ _ _ aa ab _
    refine r_move (lv A1 a0.length c2) ((ab 0 rfl).trans am) rfl ?_
    exact d0 ⟨rfl, aa⟩
   ·intro _ _ _ _ _ _ _ _ aa ab _
    refine r_move (iv ac) ((ab 5 rfl).trans ag) rfl ?_
    exact d0 ⟨rfl, aa⟩
   ·intro _ _ _ _ _ _ _ aa ab _ ad
    refine r_indexAddr (T := 25) (E := 9) ((h3.mono ak).mono aa) aB (ad 6 rfl 18 rfl) (ad 7 rfl 19 rfl) rfl rfl underlying25 sz9 ?_
    intro _ _ _ ae af
    obtain rfl := ae
    exact d0 ⟨⟨_, _, _, rfl, rfl, af⟩, ab⟩
   ·intro _ aa ab _ _ _ _ _ ad _ ae
    obtain ⟨af, ai, _, ao, ap, aq⟩ : (Fct.elem (x22 : ByteArray)).p (aa 20) ab := ae 8 rfl 20 rfl
    obtain rfl := ap
    refine r_load af ai (tv x22) ao rfl (loads_one to9 (aq.2 0 _ rfl)) ?_
    exact d0 ⟨rfl, ad⟩
   ·intro _ _ aa _ _ _ ab _ _ _ ad
    have ae := al.trans ab
    refine r_callv [tv x20, tv x22] (ad 0 rfl 12 rfl) rfl (evs2 (ad 5 rfl 17 rfl) (ad 9 rfl 21 rfl)) rfl (hk1 aa ae _ _ _ _ _ (RpV.mkStr _ _) (RpV.mkStr _ _) aC) ?_
    intro _ _ af ai
    obtain rfl := RpV.int ai
    exact d1 ae (Nat.le_refl _) af ⟨rfl, trivial⟩
   ·intro _ _ _ _ _ _ _ _ aa _ ab
    refine r_bin (iv ah) (iv 0) (bv (decide (0 ≤ ah))) (ab 10 rfl 22 rfl) rfl rfl rfl (b_geq) ?_
    exact d0 ⟨rfl, aa⟩
   intro aD _ aE aF _ au aG
   have av := al.trans aE
   have aH := (au 5 rfl).trans ag
   have aw : aD 23 = (bv (decide (0 ≤ ah))) := aG 11 23 rfl
   refine j1 ?_
   refine if_else hf (fun ar hf => ?_) (fun ar hf => ?_)
   ·refine c_true aw ar rfl ?_
    refine j2 (j3 ?_)
    refine r_assign (bv false) rfl rfl ?_
    refine j0 (j1 (jb (j7 (j9 ?_))))
    obtain rfl := oi hf
    exact ⟨rfl, _, _, (bv false), rfl, rfl, av, ⟨rfl, rfl⟩, (RpV.mkBool _ _)⟩
   refine c_false aw ar rfl ?_
   refine ja (j5 (j1 (j3 ?_)))
   refine r_move (iv ac) aH rfl ?_
   refine r_bin (iv ac) (iv 1) (iv (w64 (ac + 1))) rfl rfl rfl rfl (b_add) ?_
   refine r_assign (iv (w64 (ac + 1))) rfl rfl ?_
   refine j0 ?_
   obtain rfl := oi hf
   exact ⟨rfl, _, _, rfl, rfl, (((((((((aj).put rfl).put rfl).put rfl).put rfl).draw au rfl).put rfl).put rfl).put rfl), av, (((Wext.refl _).trans ak).trans aF), rfl⟩
  refine c_false rfl an rfl ?_
  refine jc (j8 ?_)
  obtain rfl := oi hf
  exact ⟨rfl, _, _, rfl, rfl, (((((aj).put rfl).put rfl).put rfl).put rfl), al, ((Wext.refl _).trans ak), ag⟩
 ·exact ⟨_, _, rfl, rfl, (Agr.refl _ _), E0, (Wext.refl _), f9⟩
 intro e a w hp
 rcases ax with aN | r
 ·replace hf := onEnd_inl hf
  obtain ⟨rfl, _, _, rfl, rfl, _, aI, _, _⟩ := hp
  refine j6 (j1 (j2 (j3 ?_)))
  refine r_assign (bv true) rfl rfl ?_
  refine j0 (j1 (jb ?_))
  obtain rfl := oi hf
  refine ret_one (bv true) rfl ⟨rfl, rfl⟩ aI ?_
  exact (RpV.mkBool _ _)
 replace hf := onEnd_inr hf
 obtain ⟨rfl, _, _, aJ, rfl, rfl, aK, aL, aM⟩ := hp
 refine j7 (j9 ?_)
 obtain rfl := oi hf
 refine ret_one aJ rfl aL aK ?_
 exact aM

def S_ident_isName (f : (ByteArray → (UInt8 → Option Bool) → (UInt8 → Option Bool) → Option Bool)) : Prop := ∀ (s0 : S) (v0 : Value) (v1 : Value) (v2 : Value) (a0 : ByteArray) (a1 : (UInt8 → Option Bool)) (a2 : (UInt8 → Option Bool)) (r : Bool), RpV s0 a0 v0 → Fn1 Go.Proofs.Try.prog s0 v1 a1 → Fn1 Go.Proofs.Try.prog s0 v2 a2 → f a0 a1 a2 = some r → Ctr Go.Proofs.Try.prog 97 [v0, v1, v2] s0 (fun v τ => RpV τ r v)

theorem ok_ident_isName : S_ident_isName ident_isName := by
 intro s0 v0 v1 v2 a0 a1 a2 r hp0 hp1 hp2 hf
 obtain rfl := RpV.str hp0
 obtain ⟨kk1, fi1, ca1, rfl, hk1⟩ := hp1
 have hg2 := hp2
 obtain ⟨kk2, fi2, ca2, rfl, hk2⟩ := hp2
 unfold ident_isName at hf
 have E0 : ExtB s0.N s0 s0 := ExtB.refl _ _
 refine ctr_of 35 func97 rfl rfl rfl rfl ?_
 refine j2 (j3 ?_)
 refine r_assign (bv false) rfl rfl ?_
 refine j0 (j1 (j2 (j2 (j3 ?_))))
 refine r_move (tv a0) rfl rfl ?_
 refine r_lenStr a0 rfl rfl underlying9 ?_
 refine r_bin (iv (a0.size : Int)) (iv 1) (bv (decide ((a0.size : Int) < 1))) rfl rfl rfl rfl (b_lss) ?_
 refine r_move (bv (decide ((a0.size : Int) < 1))) rfl rfl ?_
 refine gen_FL fun F1 hg2 => ?_
 have f3 : F1 0 = (tv a0) := (hg2 0).trans rfl
 have f4 : F1 1 = (.func (.func kk1) (List.toArray fi1) (List.toArray ca1)) := (hg2 1).trans rfl
 have f5 : F1 2 = (.func (.func kk2) (List.toArray fi2) (List.toArray ca2)) := (hg2 2).trans rfl
 have f7 : F1 11 = (bv (decide ((a0.size : Int) < 1))) := (hg2 11).trans rfl
 obtain ⟨q8, hq9, hf⟩ := bind_some hf
 refine wpl_take 4 (J := fun a w => ∃ (F : Fr) (τ : S), a = fr 35 F ∧ w = τ.w ∧ Agr [12, 13, 14, 15] F F1 ∧ ExtB s0.N s0 τ ∧ Wext s0 τ ∧ F 15 = (bv q8)) ?_ ?_
 ·have hf := hq9
  refine if_else hf (fun ab hf => ?_) (fun ab hf => ?_)
  ·refine r_skip (j := 3) (want := false) (d := 11) (c := decide ((a0.size : Int) < 1)) (v := true) rfl f7 ab rfl rfl ?_
   refine r_skip (j := 3) (want := false) (d := 11) (c := decide ((a0.size : Int) < 1)) (v := true) rfl f7 ab rfl rfl ?_
   refine r_skip (j := 3) (want := false) (d := 11) (c := decide ((a0.size : Int) < 1)) (v := true) rfl f7 ab rfl rfl ?_
   refine r_pick_t (c := decide ((a0.size : Int) < 1)) (bv true) f7 ab rfl rfl rfl rfl ?_
   refine j0 ?_
   obtain rfl := oi hf
   exact ⟨rfl, _, _, rfl, rfl, (((((Agr.refl _ _).put rfl).put rfl).put rfl).put rfl), E0, (Wext.refl _), rfl⟩
  refine r_guard (j := 3) (want := false) (d := 11) (c := decide ((a0.size : Int) < 1)) (v := false) rfl f7 ab rfl rfl ?_
  refine r_move (tv a0) f3 rfl ?_
  refine r_guard (j := 3) (want := false) (d := 11) (c := decide ((a0.size : Int) < 1)) (v := false) rfl f7 ab rfl rfl ?_
  refine r_lenStr a0 rfl rfl underlying9 ?_
  refine r_guard (j := 3) (want := false) (d := 11) (c := decide ((a0.size : Int) < 1)) (v := false) rfl f7 ab rfl rfl ?_
  refine r_bin (iv (a0.size : Int)) (iv 16) (bv (decide (16 < (a0.size : Int)))) rfl rfl rfl rfl (b_gtr) ?_
  refine r_pick_f (c := decide ((a0.size : Int) < 1)) (bv (decide (16 < (a0.size : Int)))) f7 ab rfl rfl rfl rfl ?_
  refine j0 ?_
  obtain rfl := oi hf
  exact ⟨rfl, _, _, rfl, rfl, (((((Agr.refl _ _).put rfl).put rfl).put rfl).put rfl), E0, (Wext.refl _), rfl⟩
 rintro a w ⟨aV, ay, rfl, rfl, af, ag, aW, az⟩
 have ao := (af 0 rfl).trans f3
 have aA := (af 1 rfl).trans f4
 have aB := (af 2 rfl).trans f5
 refine r_move (bv q8) az rfl ?_
 refine if_else hf (fun aa hf => ?_) (fun aa hf => ?_)
 ·refine r_skip (j := 8) (want := false) (d := 16) (c := q8) (v := true) rfl rfl aa rfl rfl ?_
  refine r_skip (j := 8) (want := false) (d := 16) (c := q8) (v := true) rfl rfl aa rfl rfl ?_
  refine r_skip (j := 8) (want := false) (d := 16) (c := q8) (v := true) rfl rfl aa rfl rfl ?_
  refine r_skip (j := 8) (want := false) (d := 16) (c := q8) (v := true) rfl rfl aa rfl rfl ?_
  refine r_skip (j := 8) (want := false) (d := 16) (c := q8) (v := true) rfl rfl aa rfl rfl ?_
  refine r_pick_t (c := q8) (bv true) rfl aa rfl rfl rfl rfl ?_
  refine j0 (j1 ?_)
  refine c_true rfl rfl rfl ?_
  refine j2 (j3 ?_)
  refine r_assign (bv false) rfl rfl ?_
  refine j0 (j1 (jb (j9 ?_)))
  obtain rfl := oi hf
  refine ret_one (bv false) rfl ⟨rfl, rfl⟩ ag ?_
  exact (RpV.mkBool _ _)
 refine r_guard (j := 8) (want := false) (d := 16) (c := q8) (v := false) rfl rfl aa rfl rfl ?_
 refine r_move (.func (.func kk1) (List.toArray fi1) (List.toArray ca1)) aA rfl ?_
 refine r_guard (j := 8) (want := false) (d := 16) (c := q8) (v := false) rfl rfl aa rfl rfl ?_
 refine r_move (tv a0) ao rfl ?_
 refine r_guard (j := 8) (want := false) (d := 16) (c := q8) (v := false) rfl rfl aa rfl rfl ?_
 obtain ⟨x22, aC, hf⟩ := bind_some hf
 refine r_index (tv a0) (iv 0) (.int .u8 (x22.toNat : Int)) rfl rfl rfl rfl (ix_str underlying9 aC) ?_
 refine r_guard (j := 8) (want := false) (d := 16) (c := q8) (v := false) rfl rfl aa rfl rfl ?_
 obtain ⟨ah, aD, hf⟩ := bind_some hf
 refine r_callv [.int .u8 (x22.toNat : Int)] rfl rfl (evs1 rfl) rfl (hk1 ay ag _ _ _ (RpV.mkU8 _ _) aD) ?_
 intro _ ap aE aF
 have aq := ag.x aE
 obtain rfl := RpV.bool aF
 refine r_guard (j := 8) (want := false) (d := 16) (c := q8) (v := false) rfl rfl aa rfl rfl ?_
 refine r_un (bv ah) (bv (!ah)) rfl rfl u_not ?_
 refine r_pick_f (c := q8) (bv (!ah)) rfl aa rfl rfl rfl rfl ?_
 refine j0 (j1 ?_)
 refine if_else hf (fun ai hf => ?_) (fun ai hf => ?_)
 ·refine c_true rfl ai rfl ?_
  refine j2 (j3 ?_)
  refine r_assign (bv false) rfl rfl ?_
  refine j0 (j1 (jb (j9 ?_)))
  obtain rfl := oi hf
  refine ret_one (bv false) rfl ⟨rfl, rfl⟩ aq ?_
  exact (RpV.mkBool _ _)
 refine c_false rfl ai rfl ?_
 refine ja (j1 (j2 (j2 (j3 ?_))))
 refine r_assign (iv 1) rfl rfl ?_
 refine j0 (j1 (j4 ?_))
 refine gen_F fun aj ak => ?_
 have aG := (ak 0).trans ao
 have aH := (ak 2).trans aB
 have aI : aj 7 = (iv 1) := (ak 7).trans rfl
 obtain ⟨aJ, aK, hf⟩ := bind_some hf
 refine wp_mono (wp_iter (step := ident_isName_l1 a0 a2) (fun q a w => ∃ (F : Fr) (τ : S), a = fr 35 F ∧ w = τ.w ∧ Agr [6, 7, 23, 24, 25, 26, 27, 28, 29, 30, 31, 32, 33, 34] F aj ∧ ExtB s0.N s0 τ ∧ Wext ap τ ∧ F 7 = (iv q)) (fun o e a w => match o with | .inl q => e = .exit 0 ∧ ∃ (F : Fr) (τ : S), a = fr 35 F ∧ w = τ.w ∧ Agr [6, 7, 23, 24, 25, 26, 27, 28, 29, 30, 31, 32, 33, 34] F aj ∧ ExtB s0.N s0 τ ∧ Wext ap τ ∧ F 7 = (iv q) | .inr r => e = .ret ∧ ∃ (F : Fr) (τ : S) (va : Value), a = fr 35 F ∧ w = τ.w ∧ ExtB s0.N s0 τ ∧ ResV prog 35 F τ.w (.tmp 6) va ∧ RpV τ r va) (by rintro (_ | _) a w ⟨h, _⟩ <;> cases h) ?_ _ _ _ _ _ aK ?_) ?_
 ·intro ac fl a w hf hI
  obtain ⟨_, aL, rfl, rfl, ad, al, ar, ae⟩ := hI
  unfold ident_isName_l1 at hf
  have au := (ad 0 rfl).trans aG
  have aM := (ad 2 rfl).trans aH
  refine j2 (j2 (j3 ?_))
  refine r_move (iv ac) ae rfl ?_
  refine r_move (tv a0) au rfl ?_
  refine r_lenStr a0 rfl rfl underlying9 ?_
  refine r_bin (iv ac) (iv (a0.size : Int)) (bv (decide (ac < (a0.size : Int)))) rfl rfl rfl rfl (b_lss) ?_
  refine j0 (j1 ?_)
  refine if_else hf (fun am hf => ?_) (fun am hf => ?_)
  ·refine c_true rfl am rfl ?_
   refine ja (j1 (j2 (j4 (j2 (j3 ?_)))))
   refine r_move (.func (.func kk2) (List.toArray fi2) (List.toArray ca2)) aM rfl ?_
   refine r_move (tv a0) au rfl ?_
   refine r_move (iv ac) ae rfl ?_
   obtain ⟨x48, aN, hf⟩ := bind_some hf
   refine r_index (tv a0) (iv ac) (.int .u8 (x48.toNat : Int)) rfl rfl rfl rfl (ix_str underlying9 aN) ?_
   obtain ⟨av, aO, hf⟩ := bind_some hf
   refine r_callv [.int .u8 (x48.toNat : Int)] rfl rfl (evs1 rfl) rfl (hk2 aL al _ _ _ (RpV.mkU8 _ _) aO) ?_
   intro _ _ aw aP
   have ax := al.x aw
   obtain rfl := RpV.bool aP
   refine r_un (bv av) (bv (!av)) rfl rfl u_not ?_
   refine j0 (j1 ?_)
   refine if_else hf (fun an hf => ?_) (fun an hf => ?_)
   ·refine c_true rfl an rfl ?_
    refine j2 (j3 ?_)
    refine r_assign (bv false) rfl rfl ?_
    refine j0 (j1 (jb (j7 (j9 ?_))))
    obtain rfl := oi hf
    exact ⟨rfl, _, _, (bv false), rfl, rfl, ax, ⟨rfl, rfl⟩, (RpV.mkBool _ _)⟩
   refine c_false rfl an rfl ?_
   refine ja (j5 (j1 (j3 ?_)))
   refine r_move (iv ac) ae rfl ?_
   refine r_bin (iv ac) (iv 1) (iv (w64 (ac + 1))) rfl rfl rfl rfl (b_add) ?_
   refine r_assign (iv (w64 (ac + 1))) rfl rfl ?_
   refine j0 ?_
   obtain rfl := oi hf
   exact ⟨rfl, _, _, rfl, rfl, ((((((((((((((ad).put rfl).put rfl).put rfl).put rfl).put rfl).put rfl).put rfl).put rfl).put rfl).put rfl).put rfl).put rfl).put rfl), ax, (((Wext.refl _).trans ar).trans aw.wext), rfl⟩
  refine c_false rfl am rfl ?_
  refine jc (j8 ?_)
  obtain rfl := oi hf
  exact ⟨rfl, _, _, rfl, rfl, (((((ad).put rfl).put rfl).put rfl).put rfl), al, ((Wext.refl _).trans ar), ae⟩
 ·exact ⟨_, _, rfl, rfl, (Agr.refl _ _), aq, (Wext.refl _), aI⟩
 intro e a w hp
 rcases aJ with aX | r
 ·replace hf := onEnd_inl hf
  obtain ⟨rfl, _, _, rfl, rfl, _, aQ, _, _⟩ := hp
  refine j6 (j1 (j2 (j3 ?_)))
  refine r_assign (bv true) rfl rfl ?_
  refine j0 (j1 (jb ?_))
  obtain rfl := oi hf
  refine ret_one (bv true) rfl ⟨rfl, rfl⟩ aQ ?_
  exact (RpV.mkBool _ _)
 replace hf := onEnd_inr hf
 obtain ⟨rfl, _, _, aR, rfl, rfl, aS, aT, aU⟩ := hp
 refine j7 (j9 ?_)
 obtain rfl := oi hf
 refine ret_one aR rfl aT aS ?_
 exact aU

def S_ident_isUpper (f : (UInt8 → Option Bool)) : Prop := ∀ (s0 : S) (v0 : Value) (a0 : UInt8) (r : Bool), RpV s0 a0 v0 → f a0 = some r → Ctr Go.Proofs.Try.prog 106 [v0] s0 (fun v τ => RpV τ r v)

theorem ok_ident_isUpper : S_ident_isUpper ident_isUpper := by
 intro s0 v0 a0 r hp0 hf
 obtain rfl := RpV.u8 hp0
 unfold ident_isUpper at hf
 have E0 : ExtB s0.N s0 s0 := ExtB.refl _ _
 refine ctr_of 9 func106 rfl rfl rfl rfl ?_
 refine j2 (j3 ?_)
 refine r_assign (bv false) rfl rfl ?_
 refine j0 (j1 (j2 (j3 ?_)))
 refine r_move (.int .u8 (a0.toNat : Int)) rfl rfl ?_
 refine r_bin (.int .u8 (a0.toNat : Int)) (.int .u8 65) (bv (decide (65 ≤ (a0.toNat : Int)))) rfl rfl rfl rfl (b_geq) ?_
 refine r_move (bv (decide (65 ≤ (a0.toNat : Int)))) rfl rfl ?_
 refine if_else hf (fun hc1 hf => ?_) (fun hc1 hf => ?_)
 ·refine r_guard (j := 2) (want := true) (d := 5) (c := decide (65 ≤ (a0.toNat : Int))) (v := true) rfl rfl hc1 rfl rfl ?_
  refine r_move (.int .u8 (a0.toNat : Int)) rfl rfl ?_
  refine r_guard (j := 2) (want := true) (d := 5) (c := decide (65 ≤ (a0.toNat : Int))) (v := true) rfl rfl hc1 rfl rfl ?_
  refine r_bin (.int .u8 (a0.toNat : Int)) (.int .u8 90) (bv (decide ((a0.toNat : Int) ≤ 90))) rfl rfl rfl rfl (b_leq) ?_
  refine r_pick_t (c := decide (65 ≤ (a0.toNat : Int))) (bv (decide ((a0.toNat : Int) ≤ 90))) rfl hc1 rfl rfl rfl rfl ?_
  refine r_assign (bv (decide ((a0.toNat : Int) ≤ 90))) rfl rfl ?_
  refine j0 (j1 (jb ?_))
  obtain rfl := oi hf
  refine ret_one (bv (decide ((a0.toNat : Int) ≤ 90))) rfl ⟨rfl, rfl⟩ E0 ?_
  exact (RpV.mkBool _ _)
 refine r_skip (j := 2) (want := true) (d := 5) (c := decide (65 ≤ (a0.toNat : Int))) (v := false) rfl rfl hc1 rfl rfl ?_
 refine r_skip (j := 2) (want := true) (d := 5) (c := decide (65 ≤ (a0.toNat : Int))) (v := false) rfl rfl hc1 rfl rfl ?_
 refine r_pick_f (c := decide (65 ≤ (a0.toNat : Int))) (bv false) rfl hc1 rfl rfl rfl rfl ?_
 refine r_assign (bv false) rfl rfl ?_
 refine j0 (j1 (jb ?_))
 obtain rfl := oi hf
 refine ret_one (bv false) rfl ⟨rfl, rfl⟩ E0 ?_
 exact (RpV.mkBool _ _)

def S_ident_isLower (f : (UInt8 → Option Bool)) : Prop := ∀ (s0 : S) (v0 : Value) (a0 : UInt8) (r : Bool), RpV s0 a0 v0 → f a0 = some r → Ctr Go.Proofs.Try.prog 98 [v0] s0 (fun v τ => RpV τ r v)

theorem ok_ident_isLower : S_ident_isLower ident_isLower := by
 intro s0 v0 a0 r hp0 hf
 obtain rfl := RpV.u8 hp0
 unfold ident_isLower at hf
 have E0 : ExtB s0.N s0 s0 := ExtB.refl _ _
 refine ctr_of 9 func98 rfl rfl rfl rfl ?_
 refine j2 (j3 ?_)
 refine r_assign (bv false) rfl rfl ?_
 refine j0 (j1 (j2 (j3 ?_)))
 refine r_move (.int .u8 (a0.toNat : Int)) rfl rfl ?_
 refine r_bin (.int .u8 (a0.toNat : Int)) (.int .u8 97) (bv (decide (97 ≤ (a0.toNat : Int)))) rfl rfl rfl rfl (b_geq) ?_
 refine r_move (bv (decide (97 ≤ (a0.toNat : Int)))) rfl rfl ?_
 refine if_else hf (fun hc1 hf => ?_) (fun hc1 hf => ?_)
 ·refine r_guard (j := 2) (want := true) (d := 5) (c := decide (97 ≤ (a0.toNat : Int))) (v := true) rfl rfl hc1 rfl rfl ?_
  refine r_move (.int .u8 (a0.toNat : Int)) rfl rfl ?_
  refine r_guard (j := 2) (want := true) (d := 5) (c := decide (97 ≤ (a0.toNat : Int))) (v := true) rfl rfl hc1 rfl rfl ?_
  refine r_bin (.int .u8 (a0.toNat : Int)) (.int .u8 122) (bv (decide ((a0.toNat : Int) ≤ 122))) rfl rfl rfl rfl (b_leq) ?_
  refine r_pick_t (c := decide (97 ≤ (a0.toNat : Int))) (bv (decide ((a0.toNat : Int) ≤ 122))) rfl hc1 rfl rfl rfl rfl ?_
  refine r_assign (bv (decide ((a0.toNat : Int) ≤ 122))) rfl rfl ?_
  refine j0 (j1 (jb ?_))
  obtain rfl := oi hf
  refine ret_one (bv (decide ((a0.toNat : Int) ≤ 122))) rfl ⟨rfl, rfl⟩ E0 ?_
  exact (RpV.mkBool _ _)
 refine r_skip (j := 2) (want := true) (d := 5) (c := decide (97 ≤ (a0.toNat : Int))) (v := false) rfl rfl hc1 rfl rfl ?_
 refine r_skip (j := 2) (want := true) (d := 5) (c := decide (97 ≤ (a0.toNat : Int))) (v := false) rfl rfl hc1 rfl rfl ?_
 refine r_pick_f (c := decide (97 ≤ (a0.toNat : Int))) (bv false) rfl hc1 rfl rfl rfl rfl ?_
 refine r_assign (bv false) rfl rfl ?_
 refine j0 (j1 (jb ?_))
 obtain rfl := oi hf
 refine ret_one (bv false) rfl ⟨rfl, rfl⟩ E0 ?_
 exact (RpV.mkBool _ _)

def S_ident_isDigit (f : (UInt8 → Option Bool)) : Prop := ∀ (s0 : S) (v0 : Value) (a0 : UInt8) (r : Bool), RpV s0 a0 v0 → f a0 = some r → Ctr Go.Proofs.Try.prog 100 [v0] s0 (fun v τ => RpV τ r v)

theorem ok_ident_isDigit : S_ident_isDigit ident_isDigit := by
 intro s0 v0 a0 r hp0 hf
 obtain rfl := RpV.u8 hp0
 unfold ident_isDigit at hf
 have E0 : ExtB s0.N s0 s0 := ExtB.refl _ _
 refine ctr_of 9 func100 rfl rfl rfl rfl ?_
 refine j2 (j3 ?_)
 refine r_assign (bv false) rfl rfl ?_
 refine j0 (j1 (j2 (j3 ?_)))
 refine r_move (.int .u8 (a0.toNat : Int)) rfl rfl ?_
 refine r_bin (.int .u8 (a0.toNat : Int)) (.int .u8 48) (bv (decide (48 ≤ (a0.toNat : Int)))) rfl rfl rfl rfl (b_geq) ?_
 refine r_move (bv (decide (48 ≤ (a0.toNat : Int)))) rfl rfl ?_
 refine if_else hf (fun hc1 hf => ?_) (fun hc1 hf => ?_)
 ·refine r_guard (j := 2) (want := true) (d := 5) (c := decide (48 ≤ (a0.toNat : Int))) (v := true) rfl rfl hc1 rfl rfl ?_
  refine r_move (.int .u8 (a0.toNat : Int)) rfl rfl ?_
  refine r_guard (j := 2) (want := true) (d := 5) (c := decide (48 ≤ (a0.toNat : Int))) (v := true) rfl rfl hc1 rfl rfl ?_
  refine r_bin (.int .u8 (a0.toNat : Int)) (.int .u8 57) (bv (decide ((a0.toNat : Int) ≤ 57))) rfl rfl rfl rfl (b_leq) ?_
  refine r_pick_t (c := decide (48 ≤ (a0.toNat : Int))) (bv (decide ((a0.toNat : Int) ≤ 57))) rfl hc1 rfl rfl rfl rfl ?_
  refine r_assign (bv (decide ((a0.toNat : Int) ≤ 57))) rfl rfl ?_
  refine j0 (j1 (jb ?_))
  obtain rfl := oi hf
  refine ret_one (bv (decide ((a0.toNat : Int) ≤ 57))) rfl ⟨rfl, rfl⟩ E0 ?_
  exact (RpV.mkBool _ _)
 refine r_skip (j := 2) (want := true) (d := 5) (c := decide (48 ≤ (a0.toNat : Int))) (v := false) rfl rfl hc1 rfl rfl ?_
 refine r_skip (j := 2) (want := true) (d := 5) (c := decide (48 ≤ (a0.toNat : Int))) (v := false) rfl rfl hc1 rfl rfl ?_
 refine r_pick_f (c := decide (48 ≤ (a0.toNat : Int))) (bv false) rfl hc1 rfl rfl rfl rfl ?_
 refine r_assign (bv false) rfl rfl ?_
 refine j0 (j1 (jb ?_))
 obtain rfl := oi hf
 refine ret_one (bv false) rfl ⟨rfl, rfl⟩ E0 ?_
 exact (RpV.mkBool _ _)

def S_ident_IsVariable_1 (f : (UInt8 → Option Bool)) : Prop := ∀ (s0 : S) (v0 : Value) (a0 : UInt8) (r : Bool), RpV s0 a0 v0 → f a0 = some r → Ctr Go.Proofs.Try.prog 107 [v0] s0 (fun v τ => RpV τ r v)

theorem ok_ident_IsVariable_1 : S_ident_IsVariable_1 ident_IsVariable_1 := by
 intro s0 v0 a0 r hp0 hf
 obtain rfl := RpV.u8 hp0
 unfold ident_IsVariable_1 at hf
 have E0 : ExtB s0.N s0 s0 := ExtB.refl _ _
 refine ctr_of 17 func107 rfl rfl rfl rfl ?_
 refine j2 (j3 ?_)
 refine r_assign (bv false) rfl rfl ?_
 refine j0 (j1 (j2 (j3 ?_)))
 refine r_move (.int .u8 (a0.toNat : Int)) rfl rfl ?_
 obtain ⟨r1, e2, hf⟩ := bind_some hf
 refine r_call [.int .u8 (a0.toNat : Int)] (evs1 rfl) rfl (ok_ident_isLower _ _ _ _ (RpV.mkU8 _ _) e2) ?_
 intro v4 s3 k5 hr6
 have E7 := E0.x k5
 obtain rfl := RpV.bool hr6
 refine r_move (bv r1) rfl rfl ?_
 refine gen_FL fun F8 hg9 => ?_
 have ah : F8 0 = (.int .u8 (a0.toNat : Int)) := (hg9 0).trans rfl
 have af : F8 5 = (bv r1) := (hg9 5).trans rfl
 obtain ⟨aa, hq14, hf⟩ := bind_some hf
 refine wpl_take 3 (J := fun a w => ∃ (F : Fr) (τ : S), a = fr 17 F ∧ w = τ.w ∧ Agr [6, 7, 8] F F8 ∧ ExtB s0.N s0 τ ∧ Wext s3 τ ∧ F 8 = (bv aa)) ?_ ?_
 ·have hf := hq14
  refine if_else hf (fun ac hf => ?_) (fun ac hf => ?_)
  ·refine r_skip (j := 2) (want := false) (d := 5) (c := r1) (v := true) rfl af ac rfl rfl ?_
   refine r_skip (j := 2) (want := false) (d := 5) (c := r1) (v := true) rfl af ac rfl rfl ?_
   refine r_pick_t (c := r1) (bv true) af ac rfl rfl rfl rfl ?_
   refine j0 ?_
   obtain rfl := oi hf
   exact ⟨rfl, _, _, rfl, rfl, ((((Agr.refl _ _).put rfl).put rfl).put rfl), E7, (Wext.refl _), rfl⟩
  refine r_guard (j := 2) (want := false) (d := 5) (c := r1) (v := false) rfl af ac rfl rfl ?_
  refine r_move (.int .u8 (a0.toNat : Int)) ah rfl ?_
  refine r_guard (j := 2) (want := false) (d := 5) (c := r1) (v := false) rfl af ac rfl rfl ?_
  obtain ⟨ap, aq, hf⟩ := bind_some hf
  refine r_call [.int .u8 (a0.toNat : Int)] (evs1 rfl) rfl (ok_ident_isUpper _ _ _ _ (RpV.mkU8 _ _) aq) ?_
  intro _ _ ai ar
  have au := E7.x ai
  obtain rfl := RpV.bool ar
  refine r_pick_f (c := r1) (bv ap) af ac rfl rfl rfl rfl ?_
  refine j0 ?_
  obtain rfl := oi hf
  exact ⟨rfl, _, _, rfl, rfl, ((((Agr.refl _ _).put rfl).put rfl).put rfl), au, ((Wext.refl _).trans ai.wext), rfl⟩
 rintro a w ⟨aG, av, rfl, rfl, aw, aj, aH, ax⟩
 have ay := (aw 0 rfl).trans ah
 refine r_move (bv aa) ax rfl ?_
 refine gen_FL fun ak al => ?_
 have am := (al 0).trans ay
 have ag : ak 9 = (bv aa) := (al 9).trans rfl
 obtain ⟨ab, hq37, hf⟩ := bind_some hf
 refine wpl_take 3 (J := fun a w => ∃ (F : Fr) (τ : S), a = fr 17 F ∧ w = τ.w ∧ Agr [10, 11, 12] F ak ∧ ExtB s0.N s0 τ ∧ Wext av τ ∧ F 12 = (bv ab)) ?_ ?_
 ·have hf := hq37
  refine if_else hf (fun ad hf => ?_) (fun ad hf => ?_)
  ·refine r_skip (j := 6) (want := false) (d := 9) (c := aa) (v := true) rfl ag ad rfl rfl ?_
   refine r_skip (j := 6) (want := false) (d := 9) (c := aa) (v := true) rfl ag ad rfl rfl ?_
   refine r_pick_t (c := aa) (bv true) ag ad rfl rfl rfl rfl ?_
   refine j0 ?_
   obtain rfl := oi hf
   exact ⟨rfl, _, _, rfl, rfl, ((((Agr.refl _ _).put rfl).put rfl).put rfl), aj, (Wext.refl _), rfl⟩
  refine r_guard (j := 6) (want := false) (d := 9) (c := aa) (v := false) rfl ag ad rfl rfl ?_
  refine r_move (.int .u8 (a0.toNat : Int)) am rfl ?_
  refine r_guard (j := 6) (want := false) (d := 9) (c := aa) (v := false) rfl ag ad rfl rfl ?_
  obtain ⟨az, aA, hf⟩ := bind_some hf
  refine r_call [.int .u8 (a0.toNat : Int)] (evs1 rfl) rfl (ok_ident_isDigit _ _ _ _ (RpV.mkU8 _ _) aA) ?_
  intro _ _ an aB
  have aC := aj.x an
  obtain rfl := RpV.bool aB
  refine r_pick_f (c := aa) (bv az) ag ad rfl rfl rfl rfl ?_
  refine j0 ?_
  obtain rfl := oi hf
  exact ⟨rfl, _, _, rfl, rfl, ((((Agr.refl _ _).put rfl).put rfl).put rfl), aC, ((Wext.refl _).trans an.wext), rfl⟩
 rintro a w ⟨aI, aJ, rfl, rfl, aD, ao, aK, aE⟩
 have aF := (aD 0 rfl).trans am
 refine r_move (bv ab) aE rfl ?_
 refine if_else hf (fun ae hf => ?_) (fun ae hf => ?_)
 ·refine r_skip (j := 10) (want := false) (d := 13) (c := ab) (v := true) rfl rfl ae rfl rfl ?_
  refine r_skip (j := 10) (want := false) (d := 13) (c := ab) (v := true) rfl rfl ae rfl rfl ?_
  refine r_pick_t (c := ab) (bv true) rfl ae rfl rfl rfl rfl ?_
  refine r_assign (bv true) rfl rfl ?_
  refine j0 (j1 (jb ?_))
  obtain rfl := oi hf
  refine ret_one (bv true) rfl ⟨rfl, rfl⟩ ao ?_
  exact (RpV.mkBool _ _)
 refine r_guard (j := 10) (want := false) (d := 13) (c := ab) (v := false) rfl rfl ae rfl rfl ?_
 refine r_move (.int .u8 (a0.toNat : Int)) aF rfl ?_
 refine r_guard (j := 10) (want := false) (d := 13) (c := ab) (v := false) rfl rfl ae rfl rfl ?_
 refine r_bin (.int .u8 (a0.toNat : Int)) (.int .u8 95) (bv ((a0.toNat : Int) == 95)) rfl rfl rfl rfl (b_eql) ?_
 refine r_pick_f (c := ab) (bv ((a0.toNat : Int) == 95)) rfl ae rfl rfl rfl rfl ?_
 refine r_assign (bv ((a0.toNat : Int) == 95)) rfl rfl ?_
 refine j0 (j1 (jb ?_))
 obtain rfl := oi hf
 refine ret_one (bv ((a0.toNat : Int) == 95)) rfl ⟨rfl, rfl⟩ ao ?_
 exact (RpV.mkBool _ _)

def S_ident_IsVariable (f : (ByteArray → Option Bool)) : Prop := ∀ (s0 : S) (v0 : Value) (a0 : ByteArray) (r : Bool), RpV s0 a0 v0 → f a0 = some r → Ctr Go.Proofs.Try.prog 96 [v0] s0 (fun v τ => RpV τ r v)

theorem ok_ident_IsVariable : S_ident_IsVariable ident_IsVariable := by
 intro s0 v0 a0 r hp0 hf
 obtain rfl := RpV.str hp0
 unfold ident_IsVariable at hf
 have E0 : ExtB s0.N s0 s0 := ExtB.refl _ _
 refine ctr_of 5 func96 rfl rfl rfl rfl ?_
 refine j2 (j3 ?_)
 refine r_assign (bv false) rfl rfl ?_
 refine j0 (j1 (j2 (j3 ?_)))
 refine r_move (tv a0) rfl rfl ?_
 obtain ⟨r1, e2, hf⟩ := bind_some hf
 refine r_call [tv a0, .func (.func 106) #[] #[], .func (.func 107) #[] #[]] (evs3 rfl rfl rfl) rfl (ok_ident_isName _ _ _ _ _ _ _ _ (RpV.mkStr _ _) ⟨106, [], [], rfl, fun _ _ _ _ _ h1 h => (ok_ident_isUpper _ _ _ _ h1 h)⟩ ⟨107, [], [], rfl, fun _ _ _ _ _ h1 h => (ok_ident_IsVariable_1 _ _ _ _ h1 h)⟩ e2) ?_
 intro v4 s3 k5 hr6
 have E7 := E0.x k5
 obtain rfl := RpV.bool hr6
 refine r_assign (bv r1) rfl rfl ?_
 refine j0 (j1 (jb ?_))
 obtain rfl := oi hf
 refine ret_one (bv r1) rfl ⟨rfl, rfl⟩ E7 ?_
 exact (RpV.mkBool _ _)

def S_value_validLabels (f : ((List ByteArray) → Option Bool)) : Prop := ∀ (s0 : S) (v0 : Value) (a0 : (List ByteArray)) (r : Bool), RpV s0 a0 v0 → f a0 = some r → Ctr Go.Proofs.Try.prog 81 [v0] s0 (fun v τ => RpV τ r v)

theorem ok_value_validLabels : S_value_validLabels value_validLabels := by
 intro s0 v0 a0 r hp0 hf
 obtain ⟨A1, c2, rfl, h3⟩ := RpV.list hp0
 unfold value_validLabels at hf
 have E0 : ExtB s0.N s0 s0 := ExtB.refl _ _
 refine ctr_of 18 func81 rfl rfl rfl rfl ?_
 refine j2 (j3 ?_)
 refine r_assign (bv false) rfl rfl ?_
 refine j0 (j1 (j2 (j2 (j3 ?_))))
 refine r_move (lv A1 a0.length c2) rfl rfl ?_
 obtain ⟨r4, e5, hf⟩ := bind_some hf
 refine r_call [lv A1 a0.length c2, .func (.func 39) #[] #[]] (evs2 rfl rfl) rfl (ok_value_ascending_string _ _ _ _ _ _ (RpV.mkList h3) ⟨39, [], [], rfl, fun _ _ _ _ _ _ _ h1 h2 h => (ok_strings_Compare _ _ _ _ _ _ h1 h2 h)⟩ e5) ?_
 intro v7 s6 k8 hr9
 have aj := E0.x k8
 obtain rfl := RpV.bool hr9
 refine r_un (bv r4) (bv (!r4)) rfl rfl u_not ?_
 refine j0 (j1 ?_)
 refine if_else hf (fun ae hf => ?_) (fun ae hf => ?_)
 ·refine c_true rfl ae rfl ?_
  refine j2 (j3 ?_)
  refine r_assign (bv false) rfl rfl ?_
  refine j0 (j1 (jb (j9 ?_)))
  obtain rfl := oi hf
  refine ret_one (bv false) rfl ⟨rfl, rfl⟩ aj ?_
  exact (RpV.mkBool _ _)
 refine c_false rfl ae rfl ?_
 refine ja (j1 (j2 (j2 (j3 ?_))))
 refine r_move (lv A1 a0.length c2) rfl rfl ?_
 refine r_len A1 a0.length c2 rfl rfl underlying25 ?_
 refine r_move (iv 0) rfl rfl ?_
 refine j0 (j1 (j4 ?_))
 refine gen_F fun aa af => ?_
 have ao : aa 8 = (lv A1 a0.length c2) := (af 8).trans rfl
 have ap : aa 9 = (iv (a0.length : Int)) := (af 9).trans rfl
 have aq : aa 10 = (iv 0) := (af 10).trans rfl
 obtain ⟨ar, au, hf⟩ := bind_some hf
 refine wp_mono (wp_iter (step := value_validLabels_l1 a0) (fun q a w => ∃ (F : Fr) (τ : S), a = fr 18 F ∧ w = τ.w ∧ Agr [2, 4, 10, 11, 12, 13, 14, 15, 16, 17] F aa ∧ ExtB s0.N s0 τ ∧ Wext s6 τ ∧ F 10 = (iv q)) (fun o e a w => match o with | .inl q => e = .exit 0 ∧ ∃ (F : Fr) (τ : S), a = fr 18 F ∧ w = τ.w ∧ Agr [2, 4, 10, 11, 12, 13, 14, 15, 16, 17] F aa ∧ ExtB s0.N s0 τ ∧ Wext s6 τ ∧ F 10 = (iv q) | .inr r => e = .ret ∧ ∃ (F : Fr) (τ : S) (va : Value), a = fr 18 F ∧ w = τ.w ∧ ExtB s0.N s0 τ ∧ ResV prog 18 F τ.w (.tmp 2) va ∧ RpV τ r va) (by rintro (_ | _) a w ⟨h, _⟩ <;> cases h) ?_ _ _ _ _ _ au ?_) ?_
 ·intro ab fl a w hf hI
  obtain ⟨_, _, rfl, rfl, ac, ak, ag, ad⟩ := hI
  unfold value_validLabels_l1 at hf
  have av := (ac 8 rfl).trans ao
  have aw := (ac 9 rfl).trans ap
  refine j2 (j3 ?_)
  refine r_bin (iv ab) (iv (a0.length : Int)) (bv (decide (ab < (a0.length : Int)))) ad aw rfl rfl (b_lss) ?_
  refine j0 (j1 (j2 ?_))
  refine if_else hf (fun ah hf => ?_) (fun ah hf => ?_)
  ·refine c_true rfl ah rfl ?_
   refine ja (j1 (j2 (j4 (j2 (j3 ?_)))))
   obtain ⟨x28, ax, hf⟩ := bind_some hf
   refine r_indexAddr (T := 25) (E := 9) ((h3.mono k8.wext).mono ag) ax av ad rfl rfl underlying25 sz9 ?_
   intro ay az _ aA aB
   obtain rfl := aA
   refine r_load ay az (tv x28) rfl rfl (loads_one to9 (aB.2 0 _ rfl)) ?_
   refine r_assign (tv x28) rfl rfl ?_
   refine j0 (j1 (j2 (j3 ?_)))
   refine r_move (tv x28) rfl rfl ?_
   obtain ⟨al, aC, hf⟩ := bind_some hf
   refine r_call [tv x28] (evs1 rfl) rfl (ok_ident_IsVariable _ _ _ _ (RpV.mkStr _ _) aC) ?_
   intro _ _ am aD
   have an := ak.x am
   obtain rfl := RpV.bool aD
   refine r_un (bv al) (bv (!al)) rfl rfl u_not ?_
   refine j0 (j1 ?_)
   refine if_else hf (fun ai hf => ?_) (fun ai hf => ?_)
   ·refine c_true rfl ai rfl ?_
    refine j2 (j3 ?_)
    refine r_assign (bv false) rfl rfl ?_
    refine j0 (j1 (jb (j7 (j9 ?_))))
    obtain rfl := oi hf
    exact ⟨rfl, _, _, (bv false), rfl, rfl, an, ⟨rfl, rfl⟩, (RpV.mkBool _ _)⟩
   refine c_false rfl ai rfl ?_
   refine ja (j5 (j1 (j3 ?_)))
   refine r_bin (iv ab) (iv 1) (iv (w64 (ab + 1))) ad rfl rfl rfl (b_add) ?_
   refine r_move (iv (w64 (ab + 1))) rfl rfl ?_
   refine j0 ?_
   obtain rfl := oi hf
   exact ⟨rfl, _, _, rfl, rfl, ((((((((((ac).put rfl).put rfl).put rfl).put rfl).put rfl).put rfl).put rfl).put rfl).put rfl), an, (((Wext.refl _).trans ag).trans am.wext), rfl⟩
  refine c_false rfl ah rfl ?_
  refine jc (j8 ?_)
  obtain rfl := oi hf
  exact ⟨rfl, _, _, rfl, rfl, ((ac).put rfl), ak, ((Wext.refl _).trans ag), ad⟩
 ·exact ⟨_, _, rfl, rfl, (Agr.refl _ _), aj, (Wext.refl _), aq⟩
 intro e a w hp
 rcases ar with aJ | r
 ·replace hf := onEnd_inl hf
  obtain ⟨rfl, _, _, rfl, rfl, _, aE, _, _⟩ := hp
  refine j6 (j1 (j2 (j3 ?_)))
  refine r_assign (bv true) rfl rfl ?_
  refine j0 (j1 (jb ?_))
  obtain rfl := oi hf
  refine ret_one (bv true) rfl ⟨rfl, rfl⟩ aE ?_
  exact (RpV.mkBool _ _)
 replace hf := onEnd_inr hf
 obtain ⟨rfl, _, _, aF, rfl, rfl, aG, aH, aI⟩ := hp
 refine j7 (j9 ?_)
 obtain rfl := oi hf
 refine ret_one aF rfl aH aG ?_
 exact aI

def S_ident_IsAtom_1 (f : (UInt8 → Option Bool)) : Prop := ∀ (s0 : S) (v0 : Value) (a0 : UInt8) (r : Bool), RpV s0 a0 v0 → f a0 = some r → Ctr Go.Proofs.Try.prog 99 [v0] s0 (fun v τ => RpV τ r v)

theorem ok_ident_IsAtom_1 : S_ident_IsAtom_1 ident_IsAtom_1 := by
 intro s0 v0 a0 r hp0 hf
 obtain rfl := RpV.u8 hp0
 unfold ident_IsAtom_1 at hf
 have E0 : ExtB s0.N s0 s0 := ExtB.refl _ _
 refine ctr_of 13 func99 rfl rfl rfl rfl ?_
 refine j2 (j3 ?_)
 refine r_assign (bv false) rfl rfl ?_
 refine j0 (j1 (j2 (j3 ?_)))
 refine r_move (.int .u8 (a0.toNat : Int)) rfl rfl ?_
 obtain ⟨r1, e2, hf⟩ := bind_some hf
 refine r_call [.int .u8 (a0.toNat : Int)] (evs1 rfl) rfl (ok_ident_isLower _ _ _ _ (RpV.mkU8 _ _) e2) ?_
 intro v4 s3 k5 hr6
 have E7 := E0.x k5
 obtain rfl := RpV.bool hr6
 refine r_move (bv r1) rfl rfl ?_
 refine gen_FL fun F8 hg9 => ?_
 have ae : F8 0 = (.int .u8 (a0.toNat : Int)) := (hg9 0).trans rfl
 have ad : F8 5 = (bv r1) := (hg9 5).trans rfl
 obtain ⟨aa, hq14, hf⟩ := bind_some hf
 refine wpl_take 3 (J := fun a w => ∃ (F : Fr) (τ : S), a = fr 13 F ∧ w = τ.w ∧ Agr [6, 7, 8] F F8 ∧ ExtB s0.N s0 τ ∧ Wext s3 τ ∧ F 8 = (bv aa)) ?_ ?_
 ·have hf := hq14
  refine if_else hf (fun ab hf => ?_) (fun ab hf => ?_)
  ·refine r_skip (j := 2) (want := false) (d := 5) (c := r1) (v := true) rfl ad ab rfl rfl ?_
   refine r_skip (j := 2) (want := false) (d := 5) (c := r1) (v := true) rfl ad ab rfl rfl ?_
   refine r_pick_t (c := r1) (bv true) ad ab rfl rfl rfl rfl ?_
   refine j0 ?_
   obtain rfl := oi hf
   exact ⟨rfl, _, _, rfl, rfl, ((((Agr.refl _ _).put rfl).put rfl).put rfl), E7, (Wext.refl _), rfl⟩
  refine r_guard (j := 2) (want := false) (d := 5) (c := r1) (v := false) rfl ad ab rfl rfl ?_
  refine r_move (.int .u8 (a0.toNat : Int)) ae rfl ?_
  refine r_guard (j := 2) (want := false) (d := 5) (c := r1) (v := false) rfl ad ab rfl rfl ?_
  obtain ⟨ah, ai, hf⟩ := bind_some hf
  refine r_call [.int .u8 (a0.toNat : Int)] (evs1 rfl) rfl (ok_ident_isDigit _ _ _ _ (RpV.mkU8 _ _) ai) ?_
  intro _ _ af aj
  have ak := E7.x af
  obtain rfl := RpV.bool aj
  refine r_pick_f (c := r1) (bv ah) ad ab rfl rfl rfl rfl ?_
  refine j0 ?_
  obtain rfl := oi hf
  exact ⟨rfl, _, _, rfl, rfl, ((((Agr.refl _ _).put rfl).put rfl).put rfl), ak, ((Wext.refl _).trans af.wext), rfl⟩
 rintro a w ⟨ao, ap, rfl, rfl, al, ag, aq, am⟩
 have an := (al 0 rfl).trans ae
 refine r_move (bv aa) am rfl ?_
 refine if_else hf (fun ac hf => ?_) (fun ac hf => ?_)
 ·refine r_skip (j := 6) (want := false) (d := 9) (c := aa) (v := true) rfl rfl ac rfl rfl ?_
  refine r_skip (j := 6) (want := false) (d := 9) (c := aa) (v := true) rfl rfl ac rfl rfl ?_
  refine r_pick_t (c := aa) (bv true) rfl ac rfl rfl rfl rfl ?_
  refine r_assign (bv true) rfl rfl ?_
  refine j0 (j1 (jb ?_))
  obtain rfl := oi hf
  refine ret_one (bv true) rfl ⟨rfl, rfl⟩ ag ?_
  exact (RpV.mkBool _ _)
 refine r_guard (j := 6) (want := false) (d := 9) (c := aa) (v := false) rfl rfl ac rfl rfl ?_
 refine r_move (.int .u8 (a0.toNat : Int)) an rfl ?_
 refine r_guard (j := 6) (want := false) (d := 9) (c := aa) (v := false) rfl rfl ac rfl rfl ?_
 refine r_bin (.int .u8 (a0.toNat : Int)) (.int .u8 95) (bv ((a0.toNat : Int) == 95)) rfl rfl rfl rfl (b_eql) ?_
 refine r_pick_f (c := aa) (bv ((a0.toNat : Int) == 95)) rfl ac rfl rfl rfl rfl ?_
 refine r_assign (bv ((a0.toNat : Int) == 95)) rfl rfl ?_
 refine j0 (j1 (jb ?_))
 obtain rfl := oi hf
 refine ret_one (bv ((a0.toNat : Int) == 95)) rfl ⟨rfl, rfl⟩ ag ?_
 exact (RpV.mkBool _ _)

def S_ident_IsAtom (f : (ByteArray → Option Bool)) : Prop := ∀ (s0 : S) (v0 : Value) (a0 : ByteArray) (r : Bool), RpV s0 a0 v0 → f a0 = some r → Ctr Go.Proofs.Try.prog 82 [v0] s0 (fun v τ => RpV τ r v)

theorem ok_ident_IsAtom : S_ident_IsAtom ident_IsAtom := by
 intro s0 v0 a0 r hp0 hf
 obtain rfl := RpV.str hp0
 unfold ident_IsAtom at hf
 have E0 : ExtB s0.N s0 s0 := ExtB.refl _ _
 refine ctr_of 5 func82 rfl rfl rfl rfl ?_
 refine j2 (j3 ?_)
 refine r_assign (bv false) rfl rfl ?_
 refine j0 (j1 (j2 (j3 ?_)))
 refine r_move (tv a0) rfl rfl ?_
 obtain ⟨r1, e2, hf⟩ := bind_some hf
 refine r_call [tv a0, .func (.func 98) #[] #[], .func (.func 99) #[] #[]] (evs3 rfl rfl rfl) rfl (ok_ident_isName _ _ _ _ _ _ _ _ (RpV.mkStr _ _) ⟨98, [], [], rfl, fun _ _ _ _ _ h1 h => (ok_ident_isLower _ _ _ _ h1 h)⟩ ⟨99, [], [], rfl, fun _ _ _ _ _ h1 h => (ok_ident_IsAtom_1 _ _ _ _ h1 h)⟩ e2) ?_
 intro v4 s3 k5 hr6
 have E7 := E0.x k5
 obtain rfl := RpV.bool hr6
 refine r_assign (bv r1) rfl rfl ?_
 refine j0 (j1 (jb ?_))
 obtain rfl := oi hf
 refine ret_one (bv r1) rfl ⟨rfl, rfl⟩ E7 ?_
 exact (RpV.mkBool _ _)

def S_cmp_isNaN_int (f : (Int → Option Bool)) : Prop := ∀ (s0 : S) (v0 : Value) (a0 : Int) (r : Bool), RpV s0 a0 v0 → f a0 = some r → Ctr Go.Proofs.Try.prog 63 [v0] s0 (fun v τ => RpV τ r v)

theorem ok_cmp_isNaN_int : S_cmp_isNaN_int cmp_isNaN_int := by
 intro s0 v0 a0 r hp0 hf
 obtain rfl := RpV.int hp0
 unfold cmp_isNaN_int at hf
 have E0 : ExtB s0.N s0 s0 := ExtB.refl _ _
 refine ctr_of 6 func63 rfl rfl rfl rfl ?_
 refine j2 (j3 ?_)
 refine r_assign (bv false) rfl rfl ?_
 refine j0 (j1 (j2 (j3 ?_)))
 refine r_move (iv a0) rfl rfl ?_
 refine r_move (iv a0) rfl rfl ?_
 refine r_bin (iv a0) (iv a0) (bv (a0 != a0)) rfl rfl rfl rfl (b_neq) ?_
 refine r_assign (bv (a0 != a0)) rfl rfl ?_
 refine j0 (j1 (jb ?_))
 obtain rfl := oi hf
 refine ret_one (bv (a0 != a0)) rfl ⟨rfl, rfl⟩ E0 ?_
 exact (RpV.mkBool _ _)

def S_cmp_Compare_int (f : (Int → Int → Option Int)) : Prop := ∀ (s0 : S) (v0 : Value) (v1 : Value) (a0 : Int) (a1 : Int) (r : Int), RpV s0 a0 v0 → RpV s0 a1 v1 → f a0 a1 = some r → Ctr Go.Proofs.Try.prog 37 [v0, v1] s0 (fun v τ => RpV τ r v)

theorem ok_cmp_Compare_int : S_cmp_Compare_int cmp_Compare_int := by
 intro s0 v0 v1 a0 a1 r hp0 hp1 hf
 obtain rfl := RpV.int hp0
 obtain rfl := RpV.int hp1
 unfold cmp_Compare_int at hf
 have E0 : ExtB s0.N s0 s0 := ExtB.refl _ _
 refine ctr_of 20 func37 rfl rfl rfl rfl ?_
 refine j2 (j3 ?_)
 refine r_assign (iv 0) rfl rfl ?_
 refine j0 (j1 (j2 (j3 ?_)))
 refine r_move (iv a0) rfl rfl ?_
 obtain ⟨r1, e2, hf⟩ := bind_some hf
 refine r_call [iv a0] (evs1 rfl) rfl (ok_cmp_isNaN_int _ _ _ _ (RpV.mkInt _ _) e2) ?_
 intro v4 s3 k5 hr6
 have E7 := E0.x k5
 obtain rfl := RpV.bool hr6
 refine r_assign (bv r1) rfl rfl ?_
 refine j0 (j1 (j2 (j3 ?_)))
 refine r_move (iv a1) rfl rfl ?_
 obtain ⟨r8, e9, hf⟩ := bind_some hf
 refine r_call [iv a1] (evs1 rfl) rfl (ok_cmp_isNaN_int _ _ _ _ (RpV.mkInt _ _) e9) ?_
 intro _ _ ag ah
 have aa := E7.x ag
 obtain rfl := RpV.bool ah
 refine r_assign (bv r8) rfl rfl ?_
 refine j0 (j1 (j2 (j2 (j3 ?_))))
 refine r_move (bv r1) rfl rfl ?_
 refine j0 (j1 ?_)
 refine if_else hf (fun ab hf => ?_) (fun ab hf => ?_)
 ·refine c_true rfl ab rfl ?_
  refine j2 (j2 (j3 ?_))
  refine r_move (bv r8) rfl rfl ?_
  refine j0 (j1 ?_)
  refine if_else hf (fun ac hf => ?_) (fun ac hf => ?_)
  ·refine c_true rfl ac rfl ?_
   refine j2 (j3 ?_)
   refine r_assign (iv 0) rfl rfl ?_
   refine j0 (j1 (jb (j9 (j9 ?_))))
   obtain rfl := oi hf
   refine ret_one (iv 0) rfl ⟨rfl, rfl⟩ aa ?_
   exact (RpV.mkInt _ _)
  refine c_false rfl ac rfl ?_
  refine ja (j1 (j2 (j3 ?_)))
  refine r_assign (iv (-1)) rfl rfl ?_
  refine j0 (j1 (jb (j9 ?_)))
  obtain rfl := oi hf
  refine ret_one (iv (-1)) rfl ⟨rfl, rfl⟩ aa ?_
  exact (RpV.mkInt _ _)
 refine c_false rfl ab rfl ?_
 refine ja (j1 (j2 (j2 (j3 ?_))))
 refine r_move (bv r8) rfl rfl ?_
 refine j0 (j1 ?_)
 refine if_else hf (fun ad hf => ?_) (fun ad hf => ?_)
 ·refine c_true rfl ad rfl ?_
  refine j2 (j3 ?_)
  refine r_assign (iv 1) rfl rfl ?_
  refine j0 (j1 (jb (j9 ?_)))
  obtain rfl := oi hf
  refine ret_one (iv 1) rfl ⟨rfl, rfl⟩ aa ?_
  exact (RpV.mkInt _ _)
 refine c_false rfl ad rfl ?_
 refine ja (j1 (j2 (j2 (j3 ?_))))
 refine r_move (iv a0) rfl rfl ?_
 refine r_move (iv a1) rfl rfl ?_
 refine r_bin (iv a0) (iv a1) (bv (decide (a0 < a1))) rfl rfl rfl rfl (b_lss) ?_
 refine j0 (j1 ?_)
 refine if_else hf (fun ae hf => ?_) (fun ae hf => ?_)
 ·refine c_true rfl ae rfl ?_
  refine j2 (j3 ?_)
  refine r_assign (iv (-1)) rfl rfl ?_
  refine j0 (j1 (jb (j9 ?_)))
  obtain rfl := oi hf
  refine ret_one (iv (-1)) rfl ⟨rfl, rfl⟩ aa ?_
  exact (RpV.mkInt _ _)
 refine c_false rfl ae rfl ?_
 refine ja (j1 (j2 (j2 (j3 ?_))))
 refine r_move (iv a0) rfl rfl ?_
 refine r_move (iv a1) rfl rfl ?_
 refine r_bin (iv a0) (iv a1) (bv (decide (a1 < a0))) rfl rfl rfl rfl (b_gtr) ?_
 refine j0 (j1 ?_)
 refine if_else hf (fun af hf => ?_) (fun af hf => ?_)
 ·refine c_true rfl af rfl ?_
  refine j2 (j3 ?_)
  refine r_assign (iv 1) rfl rfl ?_
  refine j0 (j1 (jb (j9 ?_)))
  obtain rfl := oi hf
  refine ret_one (iv 1) rfl ⟨rfl, rfl⟩ aa ?_
  exact (RpV.mkInt _ _)
 refine c_false rfl af rfl ?_
 refine ja (j1 (j2 (j3 ?_)))
 refine r_assign (iv 0) rfl rfl ?_
 refine j0 (j1 (jb ?_))
 obtain rfl := oi hf
 refine ret_one (iv 0) rfl ⟨rfl, rfl⟩ aa ?_
 exact (RpV.mkInt _ _)

def S_ident_CompareKeys (f : (Key → Key → Option Int)) : Prop := ∀ (s0 : S) (v0 : Value) (v1 : Value) (a0 : Key) (a1 : Key) (r : Int), RpV s0 a0 v0 → RpV s0 a1 v1 → f a0 a1 = some r → Ctr Go.Proofs.Try.prog 41 [v0, v1] s0 (fun v τ => RpV τ r v)

theorem ok_ident_CompareKeys : S_ident_CompareKeys ident_CompareKeys := by
 intro s0 v0 v1 a0 a1 r hp0 hp1 hf
 obtain rfl := Key.rpv hp0
 obtain rfl := Key.rpv hp1
 unfold ident_CompareKeys at hf
 have E0 : ExtB s0.N s0 s0 := ExtB.refl _ _
 refine ctr_of 19 func41 rfl rfl rfl rfl ?_
 refine j2 (j3 ?_)
 refine r_box (B := s0.N) 1 E0.size (Key.ag a0) (Key.cs a0) rfl rfl rfl ?_
 intro s2 b1 k3 hb4
 have E5 := E0.x k3
 refine r_box (B := s0.N) 2 E5.size (Key.ag a1) (Key.cs a1) rfl rfl rfl ?_
 intro s7 b6 k8 hb9
 have af := E5.x k8
 refine r_assign (iv 0) rfl rfl ?_
 refine j0 (j1 (j2 (j2 (j3 ?_))))
 refine r_fieldAddr b1 0 0 0 rfl rfl fo60_0 rfl ?_
 refine r_load b1 0 (iv a0.Kind) rfl rfl (loads_one to3 (((hb4.ext k8).cell 0).trans rfl)) ?_
 refine r_fieldAddr b6 0 0 0 rfl rfl fo60_0 rfl ?_
 refine r_load b6 0 (iv a1.Kind) rfl rfl (loads_one to3 ((hb9.cell 0).trans rfl)) ?_
 obtain ⟨aa, ag, hf⟩ := bind_some hf
 refine r_call [iv a0.Kind, iv a1.Kind] (evs2 rfl rfl) rfl (ok_cmp_Compare_int _ _ _ _ _ _ (RpV.mkInt _ _) (RpV.mkInt _ _) ag) ?_
 intro _ _ ab ah
 have ad := af.x ab
 obtain rfl := RpV.int ah
 refine r_assign (iv aa) rfl rfl ?_
 refine j0 (j1 (j2 (j3 ?_)))
 refine r_move (iv aa) rfl rfl ?_
 refine r_bin (iv aa) (iv 0) (bv (aa != 0)) rfl rfl rfl rfl (b_neq) ?_
 refine j0 (j1 ?_)
 refine if_else hf (fun ac hf => ?_) (fun ac hf => ?_)
 ·refine c_true rfl ac rfl ?_
  refine j2 (j3 ?_)
  refine r_move (iv aa) rfl rfl ?_
  refine r_assign (iv aa) rfl rfl ?_
  refine j0 (j1 (jb (j9 ?_)))
  obtain rfl := oi hf
  refine ret_one (iv aa) rfl ⟨rfl, rfl⟩ ad ?_
  exact (RpV.mkInt _ _)
 refine c_false rfl ac rfl ?_
 refine ja (j1 (j2 (j3 ?_)))
 refine r_fieldAddr b1 0 1 1 rfl rfl fo60_1 rfl ?_
 refine r_load b1 1 (tv a0.Text) rfl rfl (loads_one to9 ((((hb4.ext k8).ext ab).cell 1).trans rfl)) ?_
 refine r_fieldAddr b6 0 1 1 rfl rfl fo60_1 rfl ?_
 refine r_load b6 1 (tv a1.Text) rfl rfl (loads_one to9 (((hb9.ext ab).cell 1).trans rfl)) ?_
 obtain ⟨ae, ai, hf⟩ := bind_some hf
 refine r_call [tv a0.Text, tv a1.Text] (evs2 rfl rfl) rfl (ok_strings_Compare _ _ _ _ _ _ (RpV.mkStr _ _) (RpV.mkStr _ _) ai) ?_
 intro _ _ aj ak
 have al := ad.x aj
 obtain rfl := RpV.int ak
 refine r_assign (iv ae) rfl rfl ?_
 refine j0 (j1 (jb ?_))
 obtain rfl := oi hf
 refine ret_one (iv ae) rfl ⟨rfl, rfl⟩ al ?_
 exact (RpV.mkInt _ _)

def S_value_ascending_api_Key (f : ((List Key) → (Key → Key → Option Int) → Option Bool)) : Prop := ∀ (s0 : S) (v0 : Value) (v1 : Value) (a0 : (List Key)) (a1 : (Key → Key → Option Int)) (r : Bool), RpV s0 a0 v0 → Fn2 Go.Proofs.Try.prog s0 v1 a1 → f a0 a1 = some r → Ctr Go.Proofs.Try.prog 101 [v0, v1] s0 (fun v τ => RpV τ r v)

theorem ok_value_ascending_api_Key : S_value_ascending_api_Key value_ascending_api_Key := by
 intro s0 v0 v1 a0 a1 r hp0 hp1 hf
 obtain ⟨A1, c2, rfl, h3⟩ := RpV.list hp0
 obtain ⟨kk1, fi1, ca1, rfl, hk1⟩ := hp1
 unfold value_ascending_api_Key at hf
 have E0 : ExtB s0.N s0 s0 := ExtB.refl _ _
 refine ctr_of 24 func101 rfl rfl rfl rfl ?_
 refine j2 (j3 ?_)
 refine r_assign (bv false) rfl rfl ?_
 refine j0 (j1 (j2 (j2 (j3 ?_))))
 refine r_assign (iv 1) rfl rfl ?_
 refine j0 (j1 (j4 ?_))
 refine gen_F fun F4 hg5 => ?_
 have f6 : F4 0 = (lv A1 a0.length c2) := (hg5 0).trans rfl
 have f7 : F4 1 = (.func (.func kk1) (List.toArray fi1) (List.toArray ca1)) := (hg5 1).trans rfl
 have f9 : F4 5 = (iv 1) := (hg5 5).trans rfl
 obtain ⟨ax, ay, hf⟩ := bind_some hf
 refine wp_mono (wp_iter (step := value_ascending_api_Key_l1 a0 a1) (fun q a w => ∃ (F : Fr) (τ : S), a = fr 24 F ∧ w = τ.w ∧ Agr [4, 5, 6, 7, 8, 9, 10, 11, 12, 13, 14, 15, 16, 17, 18, 19, 20, 21, 22, 23] F F4 ∧ ExtB s0.N s0 τ ∧ Wext s0 τ ∧ F 5 = (iv q)) (fun o e a w => match o with | .inl q => e = .exit 0 ∧ ∃ (F : Fr) (τ : S), a = fr 24 F ∧ w = τ.w ∧ Agr [4, 5, 6, 7, 8, 9, 10, 11, 12, 13, 14, 15, 16, 17, 18, 19, 20, 21, 22, 23] F F4 ∧ ExtB s0.N s0 τ ∧ Wext s0 τ ∧ F 5 = (iv q) | .inr r => e = .ret ∧ ∃ (F : Fr) (τ : S) (va : Value), a = fr 24 F ∧ w = τ.w ∧ ExtB s0.N s0 τ ∧ ResV prog 24 F τ.w (.tmp 4) va ∧ RpV τ r va) (by rintro (_ | _) a w ⟨h, _⟩ <;> cases h) ?_ _ _ _ _ _ ay ?_) ?_
 ·intro ac fl a w hf hI
  obtain ⟨_, _, rfl, rfl, am, ao, an, ag⟩ := hI
  unfold value_ascending_api_Key_l1 at hf
  have ap := (am 0 rfl).trans f6
  have az := (am 1 rfl).trans f7
  refine j2 (j2 (j3 ?_))
  refine r_move (iv ac) ag rfl ?_
  refine r_move (lv A1 a0.length c2) ap rfl ?_
  refine r_len A1 a0.length c2 rfl rfl underlying23 ?_
  refine r_bin (iv ac) (iv (a0.length : Int)) (bv (decide (ac < (a0.length : Int)))) rfl rfl rfl rfl (b_lss) ?_
  refine j0 (j1 ?_)
  refine if_else hf (fun aq hf => ?_) (fun aq hf => ?_)
  ·refine c_true rfl aq rfl ?_
   refine ja (j1 (j2 (j4 (j2 ?_))))
   obtain ⟨x20, aA, hf⟩ := bind_some hf
   obtain ⟨x22, aB, hf⟩ := bind_some hf
   obtain ⟨ah, aC, hf⟩ := bind_some hf
   refine wp_draw (B := frExt s0.N) (sm 12 12) [[], [], [], [2], [1, 2, 3], [1, 2, 3, 4], [], [], [6, 7], [6, 7, 8], rg 10, rg 11] [Fct.eqv (.func (.func kk1) (List.toArray fi1) (List.toArray ca1)), Fct.eqv (lv A1 a0.length c2), Fct.eqv (iv ac), Fct.eqv (iv (w64 (ac - 1))), Fct.elem (x20 : Key), Fct.data (x20 : Key), Fct.eqv (lv A1 a0.length c2), Fct.eqv (iv ac), Fct.elem (x22 : Key), Fct.data (x22 : Key), Fct.eqv (iv ah), Fct.eqv (bv (decide (0 ≤ ah)))] (fun D F τ => True) (by kernel_rfl) rfl (by decide) (by decide) trivial (by decide) (by decide) ⟨?_, ?_, ?_, ?_, ?_, ?_, ?_, ?_, ?_, ?_, ?_, ?_, trivial⟩ ?_
   ·intro _ _ _ _ _ _ _ _ ab aa _
    refine r_move (.func (.func kk1) (List.toArray fi1) (List.toArray ca1)) ((aa 1 rfl).trans az) rfl ?_
    exact d0 ⟨rfl, ab⟩
   ·intro _ _ _ _ _ _ _ _ ab aa _
    refine r_move (lv A1 a0.length c2) ((aa 0 rfl).trans ap) rfl ?_
    exact d0 ⟨rfl, ab⟩
   ·intro _ _ _ _ _ _ _ _ ab aa _
    refine r_move (iv ac) ((aa 5 rfl).trans ag) rfl ?_
    exact d0 ⟨rfl, ab⟩
   ·intro _ _ _ _ _ _ _ _ ab _ aa
    refine r_bin (iv ac) (iv 1) (iv (w64 (ac - 1))) (aa 2 rfl 14 rfl) rfl rfl rfl (b_sub) ?_
    exact d0 ⟨rfl, ab⟩
   ·intro _ _ _ _ _ _ _ ab aa _ ad
    refine r_indexAddr (T := 23) (E := 60) ((h3.mono an).mono ab) aA (ad 1 rfl 13 rfl) (ad 3 rfl 15 rfl) rfl rfl underlying23 sz60 ?_
    intro _ _ _ ae af
    obtain rfl := Key.cells_iff.1 ae
    exact d0 ⟨⟨_, _, _, rfl, (Key.cells_iff.2 rfl), af⟩, aa⟩
   ·intro _ ab aa _ _ _ _ _ ad _ ae
    obtain ⟨af, ai, _, aj, ak, al⟩ : (Fct.elem (x20 : Key)).p (ab 16) aa := ae 4 rfl 16 rfl
    obtain rfl := Key.cells_iff.1 ak
    refine r_load af ai (Key.ag x20) aj rfl (loads_row tr60 al.2) ?_
    exact d0 ⟨(Key.rpvMk (v := x20) ), ad⟩
   ·intro _ _ _ _ _ _ _ _ ab aa _
    refine r_move (lv A1 a0.length c2) ((aa 0 rfl).trans ap) rfl ?_
    exact d0 ⟨rfl, ab⟩
   ·intro _ _ _ _ _ _ _ _ ab aa _
    refine r_move (iv ac) ((aa 5 rfl).trans ag) rfl ?_
    exact d0 ⟨rfl, ab⟩
   ·intro _ _ _ _ _ _ _ ab aa _ ad
    refine r_indexAddr (T := 23) (E := 60) ((h3.mono an).mono ab) aB (ad 6 rfl 18 rfl) (ad 7 rfl 19 rfl) rfl rfl underlying23 sz60 ?_
    intro _ _ _ ae af
    obtain rfl := Key.cells_iff.1 ae
    exact d0 ⟨⟨_, _, _, rfl, (Key.cells_iff.2 rfl), af⟩, aa⟩
   ·intro _ ab aa _ _ _ _ _ ad _ ae
    obtain ⟨af, ai, _, aj, ak, al⟩ : (Fct.elem (x22 : Key)).p (ab 20) aa := ae 8 rfl 20 rfl
    obtain rfl := Key.cells_iff.1 ak
    refine r_load af ai (Key.ag x22) aj rfl (loads_row tr60 al.2) ?_
    exact d0 ⟨(Key.rpvMk (v := x22) ), ad⟩
   ·intro _ ab aa _ _ _ ad _ _ _ ae
    have af := ao.trans ad
    have ai : RpV aa (x20 : Key) (ab 17) := ae 5 rfl 17 rfl
    have aj := Key.rpv ai
    have ak : RpV aa (x22 : Key) (ab 21) := ae 9 rfl 21 rfl
    have al := Key.rpv ak
    refine r_callv [Key.ag x20, Key.ag x22] (ae 0 rfl 12 rfl) rfl (evs2 aj al) rfl (hk1 aa af _ _ _ _ _ (Key.rpvMk (v := x20) ) (Key.rpvMk (v := x22) ) aC) ?_
    intro _ _ aD aE
    obtain rfl := RpV.int aE
    exact d1 af (Nat.le_refl _) aD ⟨rfl, trivial⟩
   ·intro _ _ _ _ _ _ _ _ ab _ aa
    refine r_bin (iv ah) (iv 0) (bv (decide (0 ≤ ah))) (aa 10 rfl 22 rfl) rfl rfl rfl (b_geq) ?_
    exact d0 ⟨rfl, ab⟩
   intro aF _ aG aH _ au aI
   have av := ao.trans aG
   have aJ := (au 5 rfl).trans ag
   have aw : aF 23 = (bv (decide (0 ≤ ah))) := aI 11 23 rfl
   refine j1 ?_
   refine if_else hf (fun ar hf => ?_) (fun ar hf => ?_)
   ·refine c_true aw ar rfl ?_
    refine j2 (j3 ?_)
    refine r_assign (bv false) rfl rfl ?_
    refine j0 (j1 (jb (j7 (j9 ?_))))
    obtain rfl := oi hf
    exact ⟨rfl, _, _, (bv false), rfl, rfl, av, ⟨rfl, rfl⟩, (RpV.mkBool _ _)⟩
   refine c_false aw ar rfl ?_
   refine ja (j5 (j1 (j3 ?_)))
   refine r_move (iv ac) aJ rfl ?_
   refine r_bin (iv ac) (iv 1) (iv (w64 (ac + 1))) rfl rfl rfl rfl (b_add) ?_
   refine r_assign (iv (w64 (ac + 1))) rfl rfl ?_
   refine j0 ?_
   obtain rfl := oi hf
   exact ⟨rfl, _, _, rfl, rfl, (((((((((am).put rfl).put rfl).put rfl).put rfl).draw au rfl).put rfl).put rfl).put rfl), av, (((Wext.refl _).trans an).trans aH), rfl⟩
  refine c_false rfl aq rfl ?_
  refine jc (j8 ?_)
  obtain rfl := oi hf
  exact ⟨rfl, _, _, rfl, rfl, (((((am).put rfl).put rfl).put rfl).put rfl), ao, ((Wext.refl _).trans an), ag⟩
 ·exact ⟨_, _, rfl, rfl, (Agr.refl _ _), E0, (Wext.refl _), f9⟩
 intro e a w hp
 rcases ax with aP | r
 ·replace hf := onEnd_inl hf
  obtain ⟨rfl, _, _, rfl, rfl, _, aK, _, _⟩ := hp
  refine j6 (j1 (j2 (j3 ?_)))
  refine r_assign (bv true) rfl rfl ?_
  refine j0 (j1 (jb ?_))
  obtain rfl := oi hf
  refine ret_one (bv true) rfl ⟨rfl, rfl⟩ aK ?_
  exact (RpV.mkBool _ _)
 replace hf := onEnd_inr hf
 obtain ⟨rfl, _, _, aL, rfl, rfl, aM, aN, aO⟩ := hp
 refine j7 (j9 ?_)
 obtain rfl := oi hf
 refine ret_one aL rfl aN aM ?_
 exact aO

def S_ident_ValidKey (f : (Key → Option Bool)) : Prop := ∀ (s0 : S) (v0 : Value) (a0 : Key) (r : Bool), RpV s0 a0 v0 → f a0 = some r → Ctr Go.Proofs.Try.prog 102 [v0] s0 (fun v τ => RpV τ r v)

theorem ok_ident_ValidKey : S_ident_ValidKey ident_ValidKey := by
 intro s0 v0 a0 r hp0 hf
 obtain rfl := Key.rpv hp0
 unfold ident_ValidKey at hf
 have E0 : ExtB s0.N s0 s0 := ExtB.refl _ _
 refine ctr_of 16 func102 rfl rfl rfl rfl ?_
 refine j2 (j3 ?_)
 refine r_box (B := s0.N) 1 E0.size (Key.ag a0) (Key.cs a0) rfl rfl rfl ?_
 intro s2 b1 k3 hb4
 have E5 := E0.x k3
 refine r_assign (bv false) rfl rfl ?_
 refine j0 (j1 (j2 (j2 (j3 ?_))))
 refine r_fieldAddr b1 0 0 0 rfl rfl fo60_0 rfl ?_
 refine r_load b1 0 (iv a0.Kind) rfl rfl (loads_one to3 ((hb4.cell 0).trans rfl)) ?_
 refine j0 (j1 (j4 (j2 (j3 ?_))))
 refine r_bin (iv a0.Kind) (iv 0) (bv (a0.Kind == 0)) rfl rfl rfl rfl (b_eql) ?_
 refine r_assign (bv (a0.Kind == 0)) rfl rfl ?_
 refine j0 (j1 ?_)
 refine if_else hf (fun hc6 hf => ?_) (fun hc6 hf => ?_)
 ·refine c_true rfl hc6 rfl ?_
  refine j2 (j3 ?_)
  refine r_fieldAddr b1 0 1 1 rfl rfl fo60_1 rfl ?_
  refine r_load b1 1 (tv a0.Text) rfl rfl (loads_one to9 ((hb4.cell 1).trans rfl)) ?_
  obtain ⟨r7, e8, hf⟩ := bind_some hf
  refine r_call [tv a0.Text] (evs1 rfl) rfl (ok_ident_IsAtom _ _ _ _ (RpV.mkStr _ _) e8) ?_
  intro _ s9 ab ac
  have ad := E5.x ab
  obtain rfl := RpV.bool ac
  refine r_assign (bv r7) rfl rfl ?_
  refine j0 (j1 (jb (j7 (j9 ?_))))
  obtain rfl := oi hf
  refine ret_one (bv r7) rfl ⟨rfl, rfl⟩ ad ?_
  exact (RpV.mkBool _ _)
 refine c_false rfl hc6 rfl ?_
 refine j2 (j3 ?_)
 refine r_bin (iv a0.Kind) (iv 1) (bv (a0.Kind == 1)) rfl rfl rfl rfl (b_eql) ?_
 refine r_assign (bv (a0.Kind == 1)) rfl rfl ?_
 refine j0 (j1 ?_)
 refine if_else hf (fun aa hf => ?_) (fun aa hf => ?_)
 ·refine c_true rfl aa rfl ?_
  refine j2 (j3 ?_)
  refine r_fieldAddr b1 0 1 1 rfl rfl fo60_1 rfl ?_
  refine r_load b1 1 (tv a0.Text) rfl rfl (loads_one to9 ((hb4.cell 1).trans rfl)) ?_
  refine r_lenStr a0.Text rfl rfl underlying9 ?_
  refine r_bin (iv (a0.Text.size : Int)) (iv 64) (bv (decide ((a0.Text.size : Int) ≤ 64))) rfl rfl rfl rfl (b_leq) ?_
  refine r_assign (bv (decide ((a0.Text.size : Int) ≤ 64))) rfl rfl ?_
  refine j0 (j1 (jb (j7 (j9 ?_))))
  obtain rfl := oi hf
  refine ret_one (bv (decide ((a0.Text.size : Int) ≤ 64))) rfl ⟨rfl, rfl⟩ E5 ?_
  exact (RpV.mkBool _ _)
 refine c_false rfl aa rfl ?_
 refine ja (j5 (j1 (j2 (j3 ?_))))
 refine r_assign (bv false) rfl rfl ?_
 refine j0 (j1 (jb ?_))
 obtain rfl := oi hf
 refine ret_one (bv false) rfl ⟨rfl, rfl⟩ E5 ?_
 exact (RpV.mkBool _ _)

def S_value_validMap (f : (Val → Option Bool)) : Prop := ∀ (s0 : S) (v0 : Value) (a0 : Val) (r : Bool), RpV s0 a0 v0 → f a0 = some r → Ctr Go.Proofs.Try.prog 83 [v0] s0 (fun v τ => RpV τ r v)

theorem ok_value_validMap : S_value_validMap value_validMap := by
 intro s0 v0 a0 r hp0 hf
 obtain ⟨A1, c2, A4, c5, A7, c8, aq, ar, rfl, h3, h6, h9, _⟩ := Val.rpv hp0
 unfold value_validMap at hf
 have E0 : ExtB s0.N s0 s0 := ExtB.refl _ _
 refine ctr_of 29 func83 rfl rfl rfl rfl ?_
 refine j2 (j3 ?_)
 refine r_box (B := s0.N) 1 E0.size (Val.ag a0 A1 c2 A4 c5 A7 c8 aq ar) (Val.cs a0 A1 c2 A4 c5 A7 c8 aq ar) rfl rfl rfl ?_
 intro _ ab ah ae
 have au := E0.x ah
 refine r_assign (bv false) rfl rfl ?_
 refine j0 (j1 (j2 (j2 (j3 ?_))))
 refine r_fieldAddr ab 0 4 4 rfl rfl fo27_4 rfl ?_
 refine r_load ab 4 (lv A4 a0.Keys.length c5) rfl rfl (loads_one to23 ((ae.cell 4).trans rfl)) ?_
 refine r_len A4 a0.Keys.length c5 rfl rfl underlying23 ?_
 refine r_fieldAddr ab 0 3 3 rfl rfl fo27_3 rfl ?_
 refine r_load ab 3 (lv A1 a0.Kids.length c2) rfl rfl (loads_one to22 ((ae.cell 3).trans rfl)) ?_
 refine r_len A1 a0.Kids.length c2 rfl rfl underlying22 ?_
 refine r_bin (iv (a0.Keys.length : Int)) (iv (a0.Kids.length : Int)) (bv ((a0.Keys.length : Int) != (a0.Kids.length : Int))) rfl rfl rfl rfl (b_neq) ?_
 refine r_move (bv ((a0.Keys.length : Int) != (a0.Kids.length : Int))) rfl rfl ?_
 refine if_else hf (fun aa hf => ?_) (fun aa hf => ?_)
 ·refine r_skip (j := 7) (want := false) (d := 12) (c := ((a0.Keys.length : Int) != (a0.Kids.length : Int))) (v := true) rfl rfl aa rfl rfl ?_
  refine r_skip (j := 7) (want := false) (d := 12) (c := ((a0.Keys.length : Int) != (a0.Kids.length : Int))) (v := true) rfl rfl aa rfl rfl ?_
  refine r_skip (j := 7) (want := false) (d := 12) (c := ((a0.Keys.length : Int) != (a0.Kids.length : Int))) (v := true) rfl rfl aa rfl rfl ?_
  refine r_skip (j := 7) (want := false) (d := 12) (c := ((a0.Keys.length : Int) != (a0.Kids.length : Int))) (v := true) rfl rfl aa rfl rfl ?_
  refine r_pick_t (c := ((a0.Keys.length : Int) != (a0.Kids.length : Int))) (bv true) rfl aa rfl rfl rfl rfl ?_
  refine j0 (j1 ?_)
  refine c_true rfl rfl rfl ?_
  refine j2 (j3 ?_)
  refine r_assign (bv false) rfl rfl ?_
  refine j0 (j1 (jb (j9 ?_)))
  obtain rfl := oi hf
  refine ret_one (bv false) rfl ⟨rfl, rfl⟩ au ?_
  exact (RpV.mkBool _ _)
 refine r_guard (j := 7) (want := false) (d := 12) (c := ((a0.Keys.length : Int) != (a0.Kids.length : Int))) (v := false) rfl rfl aa rfl rfl ?_
 refine r_fieldAddr ab 0 4 4 rfl rfl fo27_4 rfl ?_
 refine r_guard (j := 7) (want := false) (d := 12) (c := ((a0.Keys.length : Int) != (a0.Kids.length : Int))) (v := false) rfl rfl aa rfl rfl ?_
 refine r_load ab 4 (lv A4 a0.Keys.length c5) rfl rfl (loads_one to23 ((ae.cell 4).trans rfl)) ?_
 refine r_guard (j := 7) (want := false) (d := 12) (c := ((a0.Keys.length : Int) != (a0.Kids.length : Int))) (v := false) rfl rfl aa rfl rfl ?_
 obtain ⟨ai, aC, hf⟩ := bind_some hf
 refine r_call [lv A4 a0.Keys.length c5, .func (.func 41) #[] #[]] (evs2 rfl rfl) rfl (ok_value_ascending_api_Key _ _ _ _ _ _ (RpV.mkList (h6.mono ah.wext)) ⟨41, [], [], rfl, fun _ _ _ _ _ _ _ h1 h2 h => (ok_ident_CompareKeys _ _ _ _ _ _ h1 h2 h)⟩ aC) ?_
 intro _ av aj aD
 have aw := au.x aj
 obtain rfl := RpV.bool aD
 refine r_guard (j := 7) (want := false) (d := 12) (c := ((a0.Keys.length : Int) != (a0.Kids.length : Int))) (v := false) rfl rfl aa rfl rfl ?_
 refine r_un (bv ai) (bv (!ai)) rfl rfl u_not ?_
 refine r_pick_f (c := ((a0.Keys.length : Int) != (a0.Kids.length : Int))) (bv (!ai)) rfl aa rfl rfl rfl rfl ?_
 refine j0 (j1 ?_)
 refine if_else hf (fun ak hf => ?_) (fun ak hf => ?_)
 ·refine c_true rfl ak rfl ?_
  refine j2 (j3 ?_)
  refine r_assign (bv false) rfl rfl ?_
  refine j0 (j1 (jb (j9 ?_)))
  obtain rfl := oi hf
  refine ret_one (bv false) rfl ⟨rfl, rfl⟩ aw ?_
  exact (RpV.mkBool _ _)
 refine c_false rfl ak rfl ?_
 refine ja (j1 (j2 (j2 (j3 ?_))))
 refine r_fieldAddr ab 0 4 4 rfl rfl fo27_4 rfl ?_
 refine r_load ab 4 (lv A4 a0.Keys.length c5) rfl rfl (loads_one to23 (((ae.ext aj).cell 4).trans rfl)) ?_
 refine r_len A4 a0.Keys.length c5 rfl rfl underlying23 ?_
 refine r_move (iv 0) rfl rfl ?_
 refine j0 (j1 (j4 ?_))
 refine gen_F fun ac al => ?_
 have aE : ac 19 = (lv A4 a0.Keys.length c5) := (al 19).trans rfl
 have aF : ac 20 = (iv (a0.Keys.length : Int)) := (al 20).trans rfl
 have aG : ac 21 = (iv 0) := (al 21).trans rfl
 obtain ⟨aH, aI, hf⟩ := bind_some hf
 refine wp_mono (wp_iter (step := value_validMap_l1 a0) (fun q a w => ∃ (F : Fr) (τ : S), a = fr 29 F ∧ w = τ.w ∧ Agr [2, 4, 21, 22, 23, 24, 25, 26, 27, 28] F ac ∧ ExtB s0.N s0 τ ∧ Wext av τ ∧ F 21 = (iv q)) (fun o e a w => match o with | .inl q => e = .exit 0 ∧ ∃ (F : Fr) (τ : S), a = fr 29 F ∧ w = τ.w ∧ Agr [2, 4, 21, 22, 23, 24, 25, 26, 27, 28] F ac ∧ ExtB s0.N s0 τ ∧ Wext av τ ∧ F 21 = (iv q) | .inr r => e = .ret ∧ ∃ (F : Fr) (τ : S) (va : Value), a = fr 29 F ∧ w = τ.w ∧ ExtB s0.N s0 τ ∧ ResV prog 29 F τ.w (.tmp 2) va ∧ RpV τ r va) (by rintro (_ | _) a w ⟨h, _⟩ <;> cases h) ?_ _ _ _ _ _ aI ?_) ?_
 ·intro ad fl a w hf hI
  obtain ⟨_, _, rfl, rfl, af, am, an, ag⟩ := hI
  unfold value_validMap_l1 at hf
  have aJ := (af 19 rfl).trans aE
  have aK := (af 20 rfl).trans aF
  refine j2 (j3 ?_)
  refine r_bin (iv ad) (iv (a0.Keys.length : Int)) (bv (decide (ad < (a0.Keys.length : Int)))) ag aK rfl rfl (b_lss) ?_
  refine j0 (j1 (j2 ?_))
  refine if_else hf (fun ao hf => ?_) (fun ao hf => ?_)
  ·refine c_true rfl ao rfl ?_
   refine ja (j1 (j2 (j4 (j2 (j3 ?_)))))
   obtain ⟨x43, aL, hf⟩ := bind_some hf
   refine r_indexAddr (T := 23) (E := 60) (((h6.mono ah.wext).mono aj.wext).mono an) aL aJ ag rfl rfl underlying23 sz60 ?_
   intro aM aN _ aO aP
   obtain rfl := Key.cells_iff.1 aO
   refine r_load aM aN (Key.ag x43) rfl rfl (loads_row tr60 aP.2) ?_
   refine r_alloc (B := s0.N) 2 am.size _ [iv 0, tv (⟨#[]⟩)] ti60 rfl ?_
   intro _ aQ ax aR
   have aS := am.x ax
   refine r_store aR 0 (Key.ag x43) (Key.cs x43) (Key.cs x43) rfl rfl rfl rfl rfl sz60 rfl rfl rfl ?_
   intro _ ay aT
   have aU := aS.y ay
   refine j0 (j1 (j2 (j3 ?_)))
   refine r_load aQ 0 (Key.ag x43) rfl rfl (loads_row tr60 (Blk.range aT 0 (Key.cs x43) rfl)) ?_
   obtain ⟨az, aV, hf⟩ := bind_some hf
   refine r_call [Key.ag x43] (evs1 rfl) rfl (ok_ident_ValidKey _ _ _ _ (Key.rpvMk (v := x43) ) aV) ?_
   intro _ _ aA aW
   have aB := aU.x aA
   obtain rfl := RpV.bool aW
   refine r_un (bv az) (bv (!az)) rfl rfl u_not ?_
   refine j0 (j1 ?_)
   refine if_else hf (fun ap hf => ?_) (fun ap hf => ?_)
   ·refine c_true rfl ap rfl ?_
    refine j2 (j3 ?_)
    refine r_assign (bv false) rfl rfl ?_
    refine j0 (j1 (jb (j7 (j9 ?_))))
    obtain rfl := oi hf
    exact ⟨rfl, _, _, (bv false), rfl, rfl, aB, ⟨rfl, rfl⟩, (RpV.mkBool _ _)⟩
   refine c_false rfl ap rfl ?_
   refine ja (j5 (j1 (j3 ?_)))
   refine r_bin (iv ad) (iv 1) (iv (w64 (ad + 1))) ag rfl rfl rfl (b_add) ?_
   refine r_move (iv (w64 (ad + 1))) rfl rfl ?_
   refine j0 ?_
   obtain rfl := oi hf
   exact ⟨rfl, _, _, rfl, rfl, (((((((((((af).put rfl).put rfl).put rfl).put rfl).put0).put rfl).put rfl).put rfl).put rfl).put rfl), aB, (((((Wext.refl _).trans an).trans ax.wext).trans ay.wext).trans aA.wext), rfl⟩
  refine c_false rfl ao rfl ?_
  refine jc (j8 ?_)
  obtain rfl := oi hf
  exact ⟨rfl, _, _, rfl, rfl, ((af).put rfl), am, ((Wext.refl _).trans an), ag⟩
 ·exact ⟨_, _, rfl, rfl, (Agr.refl _ _), aw, (Wext.refl _), aG⟩
 intro e a w hp
 rcases aH with a3 | r
 ·replace hf := onEnd_inl hf
  obtain ⟨rfl, _, _, rfl, rfl, _, aX, _, _⟩ := hp
  refine j6 (j1 (j2 (j3 ?_)))
  refine r_assign (bv true) rfl rfl ?_
  refine j0 (j1 (jb ?_))
  obtain rfl := oi hf
  refine ret_one (bv true) rfl ⟨rfl, rfl⟩ aX ?_
  exact (RpV.mkBool _ _)
 replace hf := onEnd_inr hf
 obtain ⟨rfl, _, _, aY, rfl, rfl, aZ, a1, a2⟩ := hp
 refine j7 (j9 ?_)
 obtain rfl := oi hf
 refine ret_one aY rfl a1 aZ ?_
 exact a2

def S_cmp_isNaN_int64 (f : (Int → Option Bool)) : Prop := ∀ (s0 : S) (v0 : Value) (a0 : Int) (r : Bool), RpV s0 a0 v0 → f a0 = some r → Ctr Go.Proofs.Try.prog 64 [v0] s0 (fun v τ => RpV τ r v)

theorem ok_cmp_isNaN_int64 : S_cmp_isNaN_int64 cmp_isNaN_int64 := by
 intro s0 v0 a0 r hp0 hf
 obtain rfl := RpV.int hp0
 unfold cmp_isNaN_int64 at hf
 have E0 : ExtB s0.N s0 s0 := ExtB.refl _ _
 refine ctr_of 6 func64 rfl rfl rfl rfl ?_
 refine j2 (j3 ?_)
 refine r_assign (bv false) rfl rfl ?_
 refine j0 (j1 (j2 (j3 ?_)))
 refine r_move (iv a0) rfl rfl ?_
 refine r_move (iv a0) rfl rfl ?_
 refine r_bin (iv a0) (iv a0) (bv (a0 != a0)) rfl rfl rfl rfl (b_neq) ?_
 refine r_assign (bv (a0 != a0)) rfl rfl ?_
 refine j0 (j1 (jb ?_))
 obtain rfl := oi hf
 refine ret_one (bv (a0 != a0)) rfl ⟨rfl, rfl⟩ E0 ?_
 exact (RpV.mkBool _ _)

def S_cmp_Compare_int64 (f : (Int → Int → Option Int)) : Prop := ∀ (s0 : S) (v0 : Value) (v1 : Value) (a0 : Int) (a1 : Int) (r : Int), RpV s0 a0 v0 → RpV s0 a1 v1 → f a0 a1 = some r → Ctr Go.Proofs.Try.prog 38 [v0, v1] s0 (fun v τ => RpV τ r v)

theorem ok_cmp_Compare_int64 : S_cmp_Compare_int64 cmp_Compare_int64 := by
 intro s0 v0 v1 a0 a1 r hp0 hp1 hf
 obtain rfl := RpV.int hp0
 obtain rfl := RpV.int hp1
 unfold cmp_Compare_int64 at hf
 have E0 : ExtB s0.N s0 s0 := ExtB.refl _ _
 refine ctr_of 20 func38 rfl rfl rfl rfl ?_
 refine j2 (j3 ?_)
 refine r_assign (iv 0) rfl rfl ?_
 refine j0 (j1 (j2 (j3 ?_)))
 refine r_move (iv a0) rfl rfl ?_
 obtain ⟨r1, e2, hf⟩ := bind_some hf
 refine r_call [iv a0] (evs1 rfl) rfl (ok_cmp_isNaN_int64 _ _ _ _ (RpV.mkInt _ _) e2) ?_
 intro v4 s3 k5 hr6
 have E7 := E0.x k5
 obtain rfl := RpV.bool hr6
 refine r_assign (bv r1) rfl rfl ?_
 refine j0 (j1 (j2 (j3 ?_)))
 refine r_move (iv a1) rfl rfl ?_
 obtain ⟨r8, e9, hf⟩ := bind_some hf
 refine r_call [iv a1] (evs1 rfl) rfl (ok_cmp_isNaN_int64 _ _ _ _ (RpV.mkInt _ _) e9) ?_
 intro _ _ ag ah
 have aa := E7.x ag
 obtain rfl := RpV.bool ah
 refine r_assign (bv r8) rfl rfl ?_
 refine j0 (j1 (j2 (j2 (j3 ?_))))
 refine r_move (bv r1) rfl rfl ?_
 refine j0 (j1 ?_)
 refine if_else hf (fun ab hf => ?_) (fun ab hf => ?_)
 ·refine c_true rfl ab rfl ?_
  refine j2 (j2 (j3 ?_))
  refine r_move (bv r8) rfl rfl ?_
  refine j0 (j1 ?_)
  refine if_else hf (fun ac hf => ?_) (fun ac hf => ?_)
  ·refine c_true rfl ac rfl ?_
   refine j2 (j3 ?_)
   refine r_assign (iv 0) rfl rfl ?_
   refine j0 (j1 (jb (j9 (j9 ?_))))
   obtain rfl := oi hf
   refine ret_one (iv 0) rfl ⟨rfl, rfl⟩ aa ?_
   exact (RpV.mkInt _ _)
  refine c_false rfl ac rfl ?_
  refine ja (j1 (j2 (j3 ?_)))
  refine r_assign (iv (-1)) rfl rfl ?_
  refine j0 (j1 (jb (j9 ?_)))
  obtain rfl := oi hf
  refine ret_one (iv (-1)) rfl ⟨rfl, rfl⟩ aa ?_
  exact (RpV.mkInt _ _)
 refine c_false rfl ab rfl ?_
 refine ja (j1 (j2 (j2 (j3 ?_))))
 refine r_move (bv r8) rfl rfl ?_
 refine j0 (j1 ?_)
 refine if_else hf (fun ad hf => ?_) (fun ad hf => ?_)
 ·refine c_true rfl ad rfl ?_
  refine j2 (j3 ?_)
  refine r_assign (iv 1) rfl rfl ?_
  refine j0 (j1 (jb (j9 ?_)))
  obtain rfl := oi hf
  refine ret_one (iv 1) rfl ⟨rfl, rfl⟩ aa ?_
  exact (RpV.mkInt _ _)
 refine c_false rfl ad rfl ?_
 refine ja (j1 (j2 (j2 (j3 ?_))))
 refine r_move (iv a0) rfl rfl ?_
 refine r_move (iv a1) rfl rfl ?_
 refine r_bin (iv a0) (iv a1) (bv (decide (a0 < a1))) rfl rfl rfl rfl (b_lss) ?_
 refine j0 (j1 ?_)
 refine if_else hf (fun ae hf => ?_) (fun ae hf => ?_)
 ·refine c_true rfl ae rfl ?_
  refine j2 (j3 ?_)
  refine r_assign (iv (-1)) rfl rfl ?_
  refine j0 (j1 (jb (j9 ?_)))
  obtain rfl := oi hf
  refine ret_one (iv (-1)) rfl ⟨rfl, rfl⟩ aa ?_
  exact (RpV.mkInt _ _)
 refine c_false rfl ae rfl ?_
 refine ja (j1 (j2 (j2 (j3 ?_))))
 refine r_move (iv a0) rfl rfl ?_
 refine r_move (iv a1) rfl rfl ?_
 refine r_bin (iv a0) (iv a1) (bv (decide (a1 < a0))) rfl rfl rfl rfl (b_gtr) ?_
 refine j0 (j1 ?_)
 refine if_else hf (fun af hf => ?_) (fun af hf => ?_)
 ·refine c_true rfl af rfl ?_
  refine j2 (j3 ?_)
  refine r_assign (iv 1) rfl rfl ?_
  refine j0 (j1 (jb (j9 ?_)))
  obtain rfl := oi hf
  refine ret_one (iv 1) rfl ⟨rfl, rfl⟩ aa ?_
  exact (RpV.mkInt _ _)
 refine c_false rfl af rfl ?_
 refine ja (j1 (j2 (j3 ?_)))
 refine r_assign (iv 0) rfl rfl ?_
 refine j0 (j1 (jb ?_))
 obtain rfl := oi hf
 refine ret_one (iv 0) rfl ⟨rfl, rfl⟩ aa ?_
 exact (RpV.mkInt _ _)

def S_value_compareLists_api_Key (f : ((List Key) → (List Key) → (Key → Key → Option Int) → Option Int)) : Prop := ∀ (s0 : S) (v0 : Value) (v1 : Value) (v2 : Value) (a0 : (List Key)) (a1 : (List Key)) (a2 : (Key → Key → Option Int)) (r : Int), RpV s0 a0 v0 → RpV s0 a1 v1 → Fn2 Go.Proofs.Try.prog s0 v2 a2 → f a0 a1 a2 = some r → Ctr Go.Proofs.Try.prog 40 [v0, v1, v2] s0 (fun v τ => RpV τ r v)

theorem ok_value_compareLists_api_Key : S_value_compareLists_api_Key value_compareLists_api_Key := by
 intro s0 v0 v1 v2 a0 a1 a2 r hp0 hp1 hp2 hf
 obtain ⟨A1, c2, rfl, h3⟩ := RpV.list hp0
 obtain ⟨A4, c5, rfl, h6⟩ := RpV.list hp1
 obtain ⟨kk2, fi2, ca2, rfl, hk2⟩ := hp2
 unfold value_compareLists_api_Key at hf
 have E0 : ExtB s0.N s0 s0 := ExtB.refl _ _
 refine ctr_of 37 func40 rfl rfl rfl rfl ?_
 refine j2 (j3 ?_)
 refine r_assign (iv 0) rfl rfl ?_
 refine j0 (j1 (j2 (j2 (j3 ?_))))
 refine r_move (lv A1 a0.length c2) rfl rfl ?_
 refine r_len A1 a0.length c2 rfl rfl underlying23 ?_
 refine r_move (lv A4 a1.length c5) rfl rfl ?_
 refine r_len A4 a1.length c5 rfl rfl underlying23 ?_
 obtain ⟨r7, e8, hf⟩ := bind_some hf
 refine r_call [iv (a0.length : Int), iv (a1.length : Int)] (evs2 rfl rfl) rfl (ok_cmp_Compare_int _ _ _ _ _ _ (RpV.mkInt _ _) (RpV.mkInt _ _) e8) ?_
 intro _ s9 aq aB
 have ax := E0.x aq
 obtain rfl := RpV.int aB
 refine r_assign (iv r7) rfl rfl ?_
 refine j0 (j1 (j2 (j3 ?_)))
 refine r_move (iv r7) rfl rfl ?_
 refine r_bin (iv r7) (iv 0) (bv (r7 != 0)) rfl rfl rfl rfl (b_neq) ?_
 refine j0 (j1 ?_)
 refine if_else hf (fun ar hf => ?_) (fun ar hf => ?_)
 ·refine c_true rfl ar rfl ?_
  refine j2 (j3 ?_)
  refine r_move (iv r7) rfl rfl ?_
  refine r_assign (iv r7) rfl rfl ?_
  refine j0 (j1 (jb (j9 ?_)))
  obtain rfl := oi hf
  refine ret_one (iv r7) rfl ⟨rfl, rfl⟩ ax ?_
  exact (RpV.mkInt _ _)
 refine c_false rfl ar rfl ?_
 refine ja (j1 (j2 (j2 (j3 ?_))))
 refine r_move (lv A1 a0.length c2) rfl rfl ?_
 refine r_len A1 a0.length c2 rfl rfl underlying23 ?_
 refine r_move (iv 0) rfl rfl ?_
 refine j0 (j1 (j4 ?_))
 refine gen_F fun ah aj => ?_
 have aC : ah 0 = (lv A1 a0.length c2) := (aj 0).trans rfl
 have aD : ah 1 = (lv A4 a1.length c5) := (aj 1).trans rfl
 have aE : ah 2 = (.func (.func kk2) (List.toArray fi2) (List.toArray ca2)) := (aj 2).trans rfl
 have aF : ah 19 = (iv (a0.length : Int)) := (aj 19).trans rfl
 have aG : ah 20 = (iv 0) := (aj 20).trans rfl
 obtain ⟨aH, aI, hf⟩ := bind_some hf
 refine wp_mono (wp_iter (step := value_compareLists_api_Key_l1 a0 a1 a2) (fun q a w => ∃ (F : Fr) (τ : S), a = fr 37 F ∧ w = τ.w ∧ Agr [6, 8, 9, 20, 21, 22, 23, 24, 25, 26, 27, 28, 29, 30, 31, 32, 33, 34, 35, 36] F ah ∧ ExtB s0.N s0 τ ∧ Wext s9 τ ∧ F 20 = (iv q)) (fun o e a w => match o with | .inl q => e = .exit 0 ∧ ∃ (F : Fr) (τ : S), a = fr 37 F ∧ w = τ.w ∧ Agr [6, 8, 9, 20, 21, 22, 23, 24, 25, 26, 27, 28, 29, 30, 31, 32, 33, 34, 35, 36] F ah ∧ ExtB s0.N s0 τ ∧ Wext s9 τ ∧ F 20 = (iv q) | .inr r => e = .ret ∧ ∃ (F : Fr) (τ : S) (va : Value), a = fr 37 F ∧ w = τ.w ∧ ExtB s0.N s0 τ ∧ ResV prog 37 F τ.w (.tmp 6) va ∧ RpV τ r va) (by rintro (_ | _) a w ⟨h, _⟩ <;> cases h) ?_ _ _ _ _ _ aI ?_) ?_
 ·intro ac fl a w hf hI
  obtain ⟨_, _, rfl, rfl, ai, au, ao, ap⟩ := hI
  unfold value_compareLists_api_Key_l1 at hf
  have aJ := (ai 0 rfl).trans aC
  have aK := (ai 1 rfl).trans aD
  have aL := (ai 2 rfl).trans aE
  have aM := (ai 19 rfl).trans aF
  refine j2 (j3 ?_)
  refine r_bin (iv ac) (iv (a0.length : Int)) (bv (decide (ac < (a0.length : Int)))) ap aM rfl rfl (b_lss) ?_
  refine j0 (j1 (j2 ?_))
  refine if_else hf (fun av hf => ?_) (fun av hf => ?_)
  ·refine c_true rfl av rfl ?_
   refine ja (j1 (j2 (j4 (j2 (j3 ?_)))))
   refine r_move (iv ac) ap rfl ?_
   refine r_assign (iv ac) rfl rfl ?_
   refine j0 (j1 (j2 ?_))
   obtain ⟨x35, aN, hf⟩ := bind_some hf
   obtain ⟨x37, aO, hf⟩ := bind_some hf
   obtain ⟨af, aP, hf⟩ := bind_some hf
   refine wp_draw (B := frExt s0.N) (sm 23 10 ++ [some 9]) [[], [], [], [1, 2], [1, 2, 3], [], [], [5, 6], [5, 6, 7], rg 9, rg 10] [Fct.eqv (.func (.func kk2) (List.toArray fi2) (List.toArray ca2)), Fct.eqv (lv A1 a0.length c2), Fct.eqv (iv ac), Fct.elem (x35 : Key), Fct.data (x35 : Key), Fct.eqv (lv A4 a1.length c5), Fct.eqv (iv ac), Fct.elem (x37 : Key), Fct.data (x37 : Key), Fct.eqv (iv af), Fct.eqv (iv af)] (fun D F τ => True) (by kernel_rfl) rfl (by decide) (by decide) trivial (by decide) (by decide) ⟨?_, ?_, ?_, ?_, ?_, ?_, ?_, ?_, ?_, ?_, ?_, trivial⟩ ?_
   ·intro _ _ _ _ _ _ _ _ ab aa _
    refine r_move (.func (.func kk2) (List.toArray fi2) (List.toArray ca2)) ((aa 2 rfl).trans aL) rfl ?_
    exact d0 ⟨rfl, ab⟩
   ·intro _ _ _ _ _ _ _ _ ab aa _
    refine r_move (lv A1 a0.length c2) ((aa 0 rfl).trans aJ) rfl ?_
    exact d0 ⟨rfl, ab⟩
   ·intro _ _ _ _ _ _ _ _ ab aa _
    refine r_move (iv ac) ((aa 8 rfl).trans rfl) rfl ?_
    exact d0 ⟨rfl, ab⟩
   ·intro _ _ _ _ _ _ _ ab aa _ ad
    refine r_indexAddr (T := 23) (E := 60) (((h3.mono aq.wext).mono ao).mono ab) aN (ad 1 rfl 24 rfl) (ad 2 rfl 25 rfl) rfl rfl underlying23 sz60 ?_
    intro _ _ _ ae ag
    obtain rfl := Key.cells_iff.1 ae
    exact d0 ⟨⟨_, _, _, rfl, (Key.cells_iff.2 rfl), ag⟩, aa⟩
   ·intro _ ab aa _ _ _ _ _ ad _ ae
    obtain ⟨ag, ak, _, al, am, an⟩ : (Fct.elem (x35 : Key)).p (ab 26) aa := ae 3 rfl 26 rfl
    obtain rfl := Key.cells_iff.1 am
    refine r_load ag ak (Key.ag x35) al rfl (loads_row tr60 an.2) ?_
    exact d0 ⟨(Key.rpvMk (v := x35) ), ad⟩
   ·intro _ _ _ _ _ _ _ _ ab aa _
    refine r_move (lv A4 a1.length c5) ((aa 1 rfl).trans aK) rfl ?_
    exact d0 ⟨rfl, ab⟩
   ·intro _ _ _ _ _ _ _ _ ab aa _
    refine r_move (iv ac) ((aa 8 rfl).trans rfl) rfl ?_
    exact d0 ⟨rfl, ab⟩
   ·intro _ _ _ _ _ _ _ ab aa _ ad
    refine r_indexAddr (T := 23) (E := 60) (((h6.mono aq.wext).mono ao).mono ab) aO (ad 5 rfl 28 rfl) (ad 6 rfl 29 rfl) rfl rfl underlying23 sz60 ?_
    intro _ _ _ ae ag
    obtain rfl := Key.cells_iff.1 ae
    exact d0 ⟨⟨_, _, _, rfl, (Key.cells_iff.2 rfl), ag⟩, aa⟩
   ·intro _ ab aa _ _ _ _ _ ad _ ae
    obtain ⟨ag, ak, _, al, am, an⟩ : (Fct.elem (x37 : Key)).p (ab 30) aa := ae 7 rfl 30 rfl
    obtain rfl := Key.cells_iff.1 am
    refine r_load ag ak (Key.ag x37) al rfl (loads_row tr60 an.2) ?_
    exact d0 ⟨(Key.rpvMk (v := x37) ), ad⟩
   ·intro _ ab aa _ _ _ ad _ _ _ ae
    have ag := au.trans ad
    have ak : RpV aa (x35 : Key) (ab 27) := ae 4 rfl 27 rfl
    have al := Key.rpv ak
    have am : RpV aa (x37 : Key) (ab 31) := ae 8 rfl 31 rfl
    have an := Key.rpv am
    refine r_callv [Key.ag x35, Key.ag x37] (ae 0 rfl 23 rfl) rfl (evs2 al an) rfl (hk2 aa ag _ _ _ _ _ (Key.rpvMk (v := x35) ) (Key.rpvMk (v := x37) ) aP) ?_
    intro _ _ aQ aR
    obtain rfl := RpV.int aR
    exact d1 ag (Nat.le_refl _) aQ ⟨rfl, trivial⟩
   ·intro _ _ _ _ _ _ _ _ ab _ aa
    refine r_assign (iv af) (aa 9 rfl 32 rfl) rfl ?_
    exact d0 ⟨rfl, ab⟩
   intro aS _ aT aU _ ay aV
   have az := au.trans aT
   have aW := (ay 20 rfl).trans ap
   have aA : aS 9 = (iv af) := aV 10 9 rfl
   refine j1 (j2 (j3 ?_))
   refine r_move (iv af) aA rfl ?_
   refine r_bin (iv af) (iv 0) (bv (af != 0)) rfl rfl rfl rfl (b_neq) ?_
   refine j0 (j1 ?_)
   refine if_else hf (fun aw hf => ?_) (fun aw hf => ?_)
   ·refine c_true rfl aw rfl ?_
    refine j2 (j3 ?_)
    refine r_move (iv af) aA rfl ?_
    refine r_assign (iv af) rfl rfl ?_
    refine j0 (j1 (jb (j7 (j9 ?_))))
    obtain rfl := oi hf
    exact ⟨rfl, _, _, (iv af), rfl, rfl, az, ⟨rfl, rfl⟩, (RpV.mkInt _ _)⟩
   refine c_false rfl aw rfl ?_
   refine ja (j5 (j1 (j3 ?_)))
   refine r_bin (iv ac) (iv 1) (iv (w64 (ac + 1))) aW rfl rfl rfl (b_add) ?_
   refine r_move (iv (w64 (ac + 1))) rfl rfl ?_
   refine j0 ?_
   obtain rfl := oi hf
   exact ⟨rfl, _, _, rfl, rfl, (((((((((ai).put rfl).put rfl).put rfl).draw ay rfl).put rfl).put rfl).put rfl).put rfl), az, (((Wext.refl _).trans ao).trans aU), rfl⟩
  refine c_false rfl av rfl ?_
  refine jc (j8 ?_)
  obtain rfl := oi hf
  exact ⟨rfl, _, _, rfl, rfl, ((ai).put rfl), au, ((Wext.refl _).trans ao), ap⟩
 ·exact ⟨_, _, rfl, rfl, (Agr.refl _ _), ax, (Wext.refl _), aG⟩
 intro e a w hp
 rcases aH with a5 | r
 ·replace hf := onEnd_inl hf
  obtain ⟨rfl, _, _, rfl, rfl, _, aX, _, _⟩ := hp
  refine j6 (j1 (j2 (j3 ?_)))
  refine r_assign (iv 0) rfl rfl ?_
  refine j0 (j1 (jb ?_))
  obtain rfl := oi hf
  refine ret_one (iv 0) rfl ⟨rfl, rfl⟩ aX ?_
  exact (RpV.mkInt _ _)
 replace hf := onEnd_inr hf
 obtain ⟨rfl, _, _, aY, rfl, rfl, aZ, a3, a4⟩ := hp
 refine j7 (j9 ?_)
 obtain rfl := oi hf
 refine ret_one aY rfl a3 aZ ?_
 exact a4

def S_value_compareLists_api_Value (f : ((List Val) → (List Val) → (Val → Val → Option Int) → Option Int)) : Prop := ∀ (s0 : S) (v0 : Value) (v1 : Value) (v2 : Value) (a0 : (List Val)) (a1 : (List Val)) (a2 : (Val → Val → Option Int)) (r : Int), RpV s0 a0 v0 → RpV s0 a1 v1 → Fn2 Go.Proofs.Try.prog s0 v2 a2 → f a0 a1 a2 = some r → Ctr Go.Proofs.Try.prog 66 [v0, v1, v2] s0 (fun v τ => RpV τ r v)

theorem ok_value_compareLists_api_Value : S_value_compareLists_api_Value value_compareLists_api_Value := by
 intro s0 v0 v1 v2 a0 a1 a2 r hp0 hp1 hp2 hf
 obtain ⟨A1, c2, rfl, h3⟩ := RpV.list hp0
 obtain ⟨A4, c5, rfl, h6⟩ := RpV.list hp1
 obtain ⟨kk2, fi2, ca2, rfl, hk2⟩ := hp2
 unfold value_compareLists_api_Value at hf
 have E0 : ExtB s0.N s0 s0 := ExtB.refl _ _
 refine ctr_of 37 func66 rfl rfl rfl rfl ?_
 refine j2 (j3 ?_)
 refine r_assign (iv 0) rfl rfl ?_
 refine j0 (j1 (j2 (j2 (j3 ?_))))
 refine r_move (lv A1 a0.length c2) rfl rfl ?_
 refine r_len A1 a0.length c2 rfl rfl underlying22 ?_
 refine r_move (lv A4 a1.length c5) rfl rfl ?_
 refine r_len A4 a1.length c5 rfl rfl underlying22 ?_
 obtain ⟨r7, e8, hf⟩ := bind_some hf
 refine r_call [iv (a0.length : Int), iv (a1.length : Int)] (evs2 rfl rfl) rfl (ok_cmp_Compare_int _ _ _ _ _ _ (RpV.mkInt _ _) (RpV.mkInt _ _) e8) ?_
 intro _ s9 aE aN
 have aJ := E0.x aE
 obtain rfl := RpV.int aN
 refine r_assign (iv r7) rfl rfl ?_
 refine j0 (j1 (j2 (j3 ?_)))
 refine r_move (iv r7) rfl rfl ?_
 refine r_bin (iv r7) (iv 0) (bv (r7 != 0)) rfl rfl rfl rfl (b_neq) ?_
 refine j0 (j1 ?_)
 refine if_else hf (fun aF hf => ?_) (fun aF hf => ?_)
 ·refine c_true rfl aF rfl ?_
  refine j2 (j3 ?_)
  refine r_move (iv r7) rfl rfl ?_
  refine r_assign (iv r7) rfl rfl ?_
  refine j0 (j1 (jb (j9 ?_)))
  obtain rfl := oi hf
  refine ret_one (iv r7) rfl ⟨rfl, rfl⟩ aJ ?_
  exact (RpV.mkInt _ _)
 refine c_false rfl aF rfl ?_
 refine ja (j1 (j2 (j2 (j3 ?_))))
 refine r_move (lv A1 a0.length c2) rfl rfl ?_
 refine r_len A1 a0.length c2 rfl rfl underlying22 ?_
 refine r_move (iv 0) rfl rfl ?_
 refine j0 (j1 (j4 ?_))
 refine gen_F fun al an => ?_
 have aO : al 0 = (lv A1 a0.length c2) := (an 0).trans rfl
 have aP : al 1 = (lv A4 a1.length c5) := (an 1).trans rfl
 have aQ : al 2 = (.func (.func kk2) (List.toArray fi2) (List.toArray ca2)) := (an 2).trans rfl
 have aR : al 19 = (iv (a0.length : Int)) := (an 19).trans rfl
 have aS : al 20 = (iv 0) := (an 20).trans rfl
 obtain ⟨aT, aU, hf⟩ := bind_some hf
 refine wp_mono (wp_iter (step := value_compareLists_api_Value_l1 a0 a1 a2) (fun q a w => ∃ (F : Fr) (τ : S), a = fr 37 F ∧ w = τ.w ∧ Agr [6, 8, 9, 20, 21, 22, 23, 24, 25, 26, 27, 28, 29, 30, 31, 32, 33, 34, 35, 36] F al ∧ ExtB s0.N s0 τ ∧ Wext s9 τ ∧ F 20 = (iv q)) (fun o e a w => match o with | .inl q => e = .exit 0 ∧ ∃ (F : Fr) (τ : S), a = fr 37 F ∧ w = τ.w ∧ Agr [6, 8, 9, 20, 21, 22, 23, 24, 25, 26, 27, 28, 29, 30, 31, 32, 33, 34, 35, 36] F al ∧ ExtB s0.N s0 τ ∧ Wext s9 τ ∧ F 20 = (iv q) | .inr r => e = .ret ∧ ∃ (F : Fr) (τ : S) (va : Value), a = fr 37 F ∧ w = τ.w ∧ ExtB s0.N s0 τ ∧ ResV prog 37 F τ.w (.tmp 6) va ∧ RpV τ r va) (by rintro (_ | _) a w ⟨h, _⟩ <;> cases h) ?_ _ _ _ _ _ aU ?_) ?_
 ·intro ac fl a w hf hI
  obtain ⟨_, _, rfl, rfl, am, aG, aC, aD⟩ := hI
  unfold value_compareLists_api_Value_l1 at hf
  have aV := (am 0 rfl).trans aO
  have aW := (am 1 rfl).trans aP
  have aX := (am 2 rfl).trans aQ
  have aY := (am 19 rfl).trans aR
  refine j2 (j3 ?_)
  refine r_bin (iv ac) (iv (a0.length : Int)) (bv (decide (ac < (a0.length : Int)))) aD aY rfl rfl (b_lss) ?_
  refine j0 (j1 (j2 ?_))
  refine if_else hf (fun aH hf => ?_) (fun aH hf => ?_)
  ·refine c_true rfl aH rfl ?_
   refine ja (j1 (j2 (j4 (j2 (j3 ?_)))))
   refine r_move (iv ac) aD rfl ?_
   refine r_assign (iv ac) rfl rfl ?_
   refine j0 (j1 (j2 ?_))
   obtain ⟨x35, aZ, hf⟩ := bind_some hf
   obtain ⟨x37, a3, hf⟩ := bind_some hf
   obtain ⟨af, a4, hf⟩ := bind_some hf
   refine wp_draw (B := frExt s0.N) (sm 23 10 ++ [some 9]) [[], [], [], [1, 2], [1, 2, 3], [], [], [5, 6], [5, 6, 7], rg 9, rg 10] [Fct.eqv (.func (.func kk2) (List.toArray fi2) (List.toArray ca2)), Fct.eqv (lv A1 a0.length c2), Fct.eqv (iv ac), Fct.elem (x35 : Val), Fct.data (x35 : Val), Fct.eqv (lv A4 a1.length c5), Fct.eqv (iv ac), Fct.elem (x37 : Val), Fct.data (x37 : Val), Fct.eqv (iv af), Fct.eqv (iv af)] (fun D F τ => True) (by kernel_rfl) rfl (by decide) (by decide) trivial (by decide) (by decide) ⟨?_, ?_, ?_, ?_, ?_, ?_, ?_, ?_, ?_, ?_, ?_, trivial⟩ ?_
   ·intro _ _ _ _ _ _ _ _ ab aa _
    refine r_move (.func (.func kk2) (List.toArray fi2) (List.toArray ca2)) ((aa 2 rfl).trans aX) rfl ?_
    exact d0 ⟨rfl, ab⟩
   ·intro _ _ _ _ _ _ _ _ ab aa _
    refine r_move (lv A1 a0.length c2) ((aa 0 rfl).trans aV) rfl ?_
    exact d0 ⟨rfl, ab⟩
   ·intro _ _ _ _ _ _ _ _ ab aa _
    refine r_move (iv ac) ((aa 8 rfl).trans rfl) rfl ?_
    exact d0 ⟨rfl, ab⟩
   ·intro _ _ _ _ _ _ _ ab aa _ ad
    refine r_indexAddr (T := 22) (E := 27) (((h3.mono aE.wext).mono aC).mono ab) aZ (ad 1 rfl 24 rfl) (ad 2 rfl 25 rfl) rfl rfl underlying22 sz27 ?_
    intro _ _ _ ae ag
    obtain ⟨_, _, _, _, _, _, _, _, rfl, ah, ai, aj, ak⟩ := Val.cells_iff.1 ae
    exact d0 ⟨⟨_, _, _, rfl, (Val.cells_iff.2 ⟨_, _, _, _, _, _, _, _, rfl, ah, ai, aj, ak⟩), ag⟩, aa⟩
   ·intro _ ab aa _ _ _ _ _ ad _ ae
    obtain ⟨ag, ah, _, ai, aj, ak⟩ : (Fct.elem (x35 : Val)).p (ab 26) aa := ae 3 rfl 26 rfl
    obtain ⟨ao, ap, aq, ar, au, av, aw, ax, rfl, ay, az, aA, aB⟩ := Val.cells_iff.1 aj
    refine r_load ag ah (Val.ag x35 ao ap aq ar au av aw ax) ai rfl (loads_row tr27 ak.2) ?_
    exact d0 ⟨(Val.rpvMk (v := x35) ay az aA aB), ad⟩
   ·intro _ _ _ _ _ _ _ _ ab aa _
    refine r_move (lv A4 a1.length c5) ((aa 1 rfl).trans aW) rfl ?_
    exact d0 ⟨rfl, ab⟩
   ·intro _ _ _ _ _ _ _ _ ab aa _
    refine r_move (iv ac) ((aa 8 rfl).trans rfl) rfl ?_
    exact d0 ⟨rfl, ab⟩
   ·intro _ _ _ _ _ _ _ ab aa _ ad
    refine r_indexAddr (T := 22) (E := 27) (((h6.mono aE.wext).mono aC).mono ab) a3 (ad 5 rfl 28 rfl) (ad 6 rfl 29 rfl) rfl rfl underlying22 sz27 ?_
    intro _ _ _ ae ag
    obtain ⟨_, _, _, _, _, _, _, _, rfl, ah, ai, aj, ak⟩ := Val.cells_iff.1 ae
    exact d0 ⟨⟨_, _, _, rfl, (Val.cells_iff.2 ⟨_, _, _, _, _, _, _, _, rfl, ah, ai, aj, ak⟩), ag⟩, aa⟩
   ·intro _ ab aa _ _ _ _ _ ad _ ae
    obtain ⟨ag, ah, _, ai, aj, ak⟩ : (Fct.elem (x37 : Val)).p (ab 30) aa := ae 7 rfl 30 rfl
    obtain ⟨ao, ap, aq, ar, au, av, aw, ax, rfl, ay, az, aA, aB⟩ := Val.cells_iff.1 aj
    refine r_load ag ah (Val.ag x37 ao ap aq ar au av aw ax) ai rfl (loads_row tr27 ak.2) ?_
    exact d0 ⟨(Val.rpvMk (v := x37) ay az aA aB), ad⟩
   ·intro _ ab aa _ _ _ ad _ _ _ ae
    have ag := aG.trans ad
    have ah : RpV aa (x35 : Val) (ab 27) := ae 4 rfl 27 rfl
    obtain ⟨ai, aj, ak, ao, ap, aq, ar, au, av, aw, ax, ay, az⟩ := Val.rpv ah
    have aA : RpV aa (x37 : Val) (ab 31) := ae 8 rfl 31 rfl
    obtain ⟨aB, a5, a6, a7, a8, a9, ba, bb, bc, bd, be, bf, bg⟩ := Val.rpv aA
    refine r_callv [Val.ag x35 ai aj ak ao ap aq ar au, Val.ag x37 aB a5 a6 a7 a8 a9 ba bb] (ae 0 rfl 23 rfl) rfl (evs2 av bc) rfl (hk2 aa ag _ _ _ _ _ (Val.rpvMk (v := x35) aw ax ay az) (Val.rpvMk (v := x37) bd be bf bg) a4) ?_
    intro _ _ bh bi
    obtain rfl := RpV.int bi
    exact d1 ag (Nat.le_refl _) bh ⟨rfl, trivial⟩
   ·intro _ _ _ _ _ _ _ _ ab _ aa
    refine r_assign (iv af) (aa 9 rfl 32 rfl) rfl ?_
    exact d0 ⟨rfl, ab⟩
   intro bj _ bk bl _ aK bm
   have aL := aG.trans bk
   have bn := (aK 20 rfl).trans aD
   have aM : bj 9 = (iv af) := bm 10 9 rfl
   refine j1 (j2 (j3 ?_))
   refine r_move (iv af) aM rfl ?_
   refine r_bin (iv af) (iv 0) (bv (af != 0)) rfl rfl rfl rfl (b_neq) ?_
   refine j0 (j1 ?_)
   refine if_else hf (fun aI hf => ?_) (fun aI hf => ?_)
   ·refine c_true rfl aI rfl ?_
    refine j2 (j3 ?_)
    refine r_move (iv af) aM rfl ?_
    refine r_assign (iv af) rfl rfl ?_
    refine j0 (j1 (jb (j7 (j9 ?_))))
    obtain rfl := oi hf
    exact ⟨rfl, _, _, (iv af), rfl, rfl, aL, ⟨rfl, rfl⟩, (RpV.mkInt _ _)⟩
   refine c_false rfl aI rfl ?_
   refine ja (j5 (j1 (j3 ?_)))
   refine r_bin (iv ac) (iv 1) (iv (w64 (ac + 1))) bn rfl rfl rfl (b_add) ?_
   refine r_move (iv (w64 (ac + 1))) rfl rfl ?_
   refine j0 ?_
   obtain rfl := oi hf
   exact ⟨rfl, _, _, rfl, rfl, (((((((((am).put rfl).put rfl).put rfl).draw aK rfl).put rfl).put rfl).put rfl).put rfl), aL, (((Wext.refl _).trans aC).trans bl), rfl⟩
  refine c_false rfl aH rfl ?_
  refine jc (j8 ?_)
  obtain rfl := oi hf
  exact ⟨rfl, _, _, rfl, rfl, ((am).put rfl), aG, ((Wext.refl _).trans aC), aD⟩
 ·exact ⟨_, _, rfl, rfl, (Agr.refl _ _), aJ, (Wext.refl _), aS⟩
 intro e a w hp
 rcases aT with bt | r
 ·replace hf := onEnd_inl hf
  obtain ⟨rfl, _, _, rfl, rfl, _, bo, _, _⟩ := hp
  refine j6 (j1 (j2 (j3 ?_)))
  refine r_assign (iv 0) rfl rfl ?_
  refine j0 (j1 (jb ?_))
  obtain rfl := oi hf
  refine ret_one (iv 0) rfl ⟨rfl, rfl⟩ bo ?_
  exact (RpV.mkInt _ _)
 replace hf := onEnd_inr hf
 obtain ⟨rfl, _, _, bp, rfl, rfl, bq, br, bs⟩ := hp
 refine j7 (j9 ?_)
 obtain rfl := oi hf
 refine ret_one bp rfl br bq ?_
 exact bs

def S_value_compareLists_api_Entry (f : ((List Ent) → (List Ent) → (Ent → Ent → Option Int) → Option Int)) : Prop := ∀ (s0 : S) (v0 : Value) (v1 : Value) (v2 : Value) (a0 : (List Ent)) (a1 : (List Ent)) (a2 : (Ent → Ent → Option Int)) (r : Int), RpV s0 a0 v0 → RpV s0 a1 v1 → Fn2 Go.Proofs.Try.prog s0 v2 a2 → f a0 a1 a2 = some r → Ctr Go.Proofs.Try.prog 43 [v0, v1, v2] s0 (fun v τ => RpV τ r v)

theorem ok_value_compareLists_api_Entry : S_value_compareLists_api_Entry value_compareLists_api_Entry := by
 intro s0 v0 v1 v2 a0 a1 a2 r hp0 hp1 hp2 hf
 obtain ⟨A1, c2, rfl, h3⟩ := RpV.list hp0
 obtain ⟨A4, c5, rfl, h6⟩ := RpV.list hp1
 obtain ⟨kk2, fi2, ca2, rfl, hk2⟩ := hp2
 unfold value_compareLists_api_Entry at hf
 have E0 : ExtB s0.N s0 s0 := ExtB.refl _ _
 refine ctr_of 37 func43 rfl rfl rfl rfl ?_
 refine j2 (j3 ?_)
 refine r_assign (iv 0) rfl rfl ?_
 refine j0 (j1 (j2 (j2 (j3 ?_))))
 refine r_move (lv A1 a0.length c2) rfl rfl ?_
 refine r_len A1 a0.length c2 rfl rfl underlying24 ?_
 refine r_move (lv A4 a1.length c5) rfl rfl ?_
 refine r_len A4 a1.length c5 rfl rfl underlying24 ?_
 obtain ⟨r7, e8, hf⟩ := bind_some hf
 refine r_call [iv (a0.length : Int), iv (a1.length : Int)] (evs2 rfl rfl) rfl (ok_cmp_Compare_int _ _ _ _ _ _ (RpV.mkInt _ _) (RpV.mkInt _ _) e8) ?_
 intro _ s9 aH aQ
 have aM := E0.x aH
 obtain rfl := RpV.int aQ
 refine r_assign (iv r7) rfl rfl ?_
 refine j0 (j1 (j2 (j3 ?_)))
 refine r_move (iv r7) rfl rfl ?_
 refine r_bin (iv r7) (iv 0) (bv (r7 != 0)) rfl rfl rfl rfl (b_neq) ?_
 refine j0 (j1 ?_)
 refine if_else hf (fun aI hf => ?_) (fun aI hf => ?_)
 ·refine c_true rfl aI rfl ?_
  refine j2 (j3 ?_)
  refine r_move (iv r7) rfl rfl ?_
  refine r_assign (iv r7) rfl rfl ?_
  refine j0 (j1 (jb (j9 ?_)))
  obtain rfl := oi hf
  refine ret_one (iv r7) rfl ⟨rfl, rfl⟩ aM ?_
  exact (RpV.mkInt _ _)
 refine c_false rfl aI rfl ?_
 refine ja (j1 (j2 (j2 (j3 ?_))))
 refine r_move (lv A1 a0.length c2) rfl rfl ?_
 refine r_len A1 a0.length c2 rfl rfl underlying24 ?_
 refine r_move (iv 0) rfl rfl ?_
 refine j0 (j1 (j4 ?_))
 refine gen_F fun am ao => ?_
 have aR : am 0 = (lv A1 a0.length c2) := (ao 0).trans rfl
 have aS : am 1 = (lv A4 a1.length c5) := (ao 1).trans rfl
 have aT : am 2 = (.func (.func kk2) (List.toArray fi2) (List.toArray ca2)) := (ao 2).trans rfl
 have aU : am 19 = (iv (a0.length : Int)) := (ao 19).trans rfl
 have aV : am 20 = (iv 0) := (ao 20).trans rfl
 obtain ⟨aW, aX, hf⟩ := bind_some hf
 refine wp_mono (wp_iter (step := value_compareLists_api_Entry_l1 a0 a1 a2) (fun q a w => ∃ (F : Fr) (τ : S), a = fr 37 F ∧ w = τ.w ∧ Agr [6, 8, 9, 20, 21, 22, 23, 24, 25, 26, 27, 28, 29, 30, 31, 32, 33, 34, 35, 36] F am ∧ ExtB s0.N s0 τ ∧ Wext s9 τ ∧ F 20 = (iv q)) (fun o e a w => match o with | .inl q => e = .exit 0 ∧ ∃ (F : Fr) (τ : S), a = fr 37 F ∧ w = τ.w ∧ Agr [6, 8, 9, 20, 21, 22, 23, 24, 25, 26, 27, 28, 29, 30, 31, 32, 33, 34, 35, 36] F am ∧ ExtB s0.N s0 τ ∧ Wext s9 τ ∧ F 20 = (iv q) | .inr r => e = .ret ∧ ∃ (F : Fr) (τ : S) (va : Value), a = fr 37 F ∧ w = τ.w ∧ ExtB s0.N s0 τ ∧ ResV prog 37 F τ.w (.tmp 6) va ∧ RpV τ r va) (by rintro (_ | _) a w ⟨h, _⟩ <;> cases h) ?_ _ _ _ _ _ aX ?_) ?_
 ·intro ac fl a w hf hI
  obtain ⟨_, _, rfl, rfl, an, aJ, aF, aG⟩ := hI
  unfold value_compareLists_api_Entry_l1 at hf
  have aY := (an 0 rfl).trans aR
  have aZ := (an 1 rfl).trans aS
  have a3 := (an 2 rfl).trans aT
  have a4 := (an 19 rfl).trans aU
  refine j2 (j3 ?_)
  refine r_bin (iv ac) (iv (a0.length : Int)) (bv (decide (ac < (a0.length : Int)))) aG a4 rfl rfl (b_lss) ?_
  refine j0 (j1 (j2 ?_))
  refine if_else hf (fun aK hf => ?_) (fun aK hf => ?_)
  ·refine c_true rfl aK rfl ?_
   refine ja (j1 (j2 (j4 (j2 (j3 ?_)))))
   refine r_move (iv ac) aG rfl ?_
   refine r_assign (iv ac) rfl rfl ?_
   refine j0 (j1 (j2 ?_))
   obtain ⟨x35, a5, hf⟩ := bind_some hf
   obtain ⟨x37, a6, hf⟩ := bind_some hf
   obtain ⟨af, a7, hf⟩ := bind_some hf
   refine wp_draw (B := frExt s0.N) (sm 23 10 ++ [some 9]) [[], [], [], [1, 2], [1, 2, 3], [], [], [5, 6], [5, 6, 7], rg 9, rg 10] [Fct.eqv (.func (.func kk2) (List.toArray fi2) (List.toArray ca2)), Fct.eqv (lv A1 a0.length c2), Fct.eqv (iv ac), Fct.elem (x35 : Ent), Fct.data (x35 : Ent), Fct.eqv (lv A4 a1.length c5), Fct.eqv (iv ac), Fct.elem (x37 : Ent), Fct.data (x37 : Ent), Fct.eqv (iv af), Fct.eqv (iv af)] (fun D F τ => True) (by kernel_rfl) rfl (by decide) (by decide) trivial (by decide) (by decide) ⟨?_, ?_, ?_, ?_, ?_, ?_, ?_, ?_, ?_, ?_, ?_, trivial⟩ ?_
   ·intro _ _ _ _ _ _ _ _ ab aa _
    refine r_move (.func (.func kk2) (List.toArray fi2) (List.toArray ca2)) ((aa 2 rfl).trans a3) rfl ?_
    exact d0 ⟨rfl, ab⟩
   ·intro _ _ _ _ _ _ _ _ ab aa _
    refine r_move (lv A1 a0.length c2) ((aa 0 rfl).trans aY) rfl ?_
    exact d0 ⟨rfl, ab⟩
   ·intro _ _ _ _ _ _ _ _ ab aa _
    refine r_move (iv ac) ((aa 8 rfl).trans rfl) rfl ?_
    exact d0 ⟨rfl, ab⟩
   ·intro _ _ _ _ _ _ _ ab aa _ ad
    refine r_indexAddr (T := 24) (E := 65) (((h3.mono aH.wext).mono aF).mono ab) a5 (ad 1 rfl 24 rfl) (ad 2 rfl 25 rfl) rfl rfl underlying24 sz65 ?_
    intro _ _ _ ae ag
    obtain ⟨_, _, _, _, _, _, _, _, _, _, rfl, ah, ai, aj, ak, al⟩ := Ent.cells_iff.1 ae
    exact d0 ⟨⟨_, _, _, rfl, (Ent.cells_iff.2 ⟨_, _, _, _, _, _, _, _, _, _, rfl, ah, ai, aj, ak, al⟩), ag⟩, aa⟩
   ·intro _ ab aa _ _ _ _ _ ad _ ae
    obtain ⟨ag, ah, _, ai, aj, ak⟩ : (Fct.elem (x35 : Ent)).p (ab 26) aa := ae 3 rfl 26 rfl
    obtain ⟨al, ap, aq, ar, au, av, aw, ax, ay, az, rfl, aA, aB, aC, aD, aE⟩ := Ent.cells_iff.1 aj
    refine r_load ag ah (.agg #[lv al x35.Args.length ap, bv x35.Fails, iv x35.Result.Kind, iv x35.Result.Int_, tv x35.Result.Text, lv aq x35.Result.Kids.length ar, lv au x35.Result.Keys.length av, lv aw x35.Result.Entries.length ax, lv ay x35.Result.Labels.length az]) ai rfl (loads_row tr65 ak.2) ?_
    exact d0 ⟨(Ent.rpvMk (v := x35) aA aB aC aD aE), ad⟩
   ·intro _ _ _ _ _ _ _ _ ab aa _
    refine r_move (lv A4 a1.length c5) ((aa 1 rfl).trans aZ) rfl ?_
    exact d0 ⟨rfl, ab⟩
   ·intro _ _ _ _ _ _ _ _ ab aa _
    refine r_move (iv ac) ((aa 8 rfl).trans rfl) rfl ?_
    exact d0 ⟨rfl, ab⟩
   ·intro _ _ _ _ _ _ _ ab aa _ ad
    refine r_indexAddr (T := 24) (E := 65) (((h6.mono aH.wext).mono aF).mono ab) a6 (ad 5 rfl 28 rfl) (ad 6 rfl 29 rfl) rfl rfl underlying24 sz65 ?_
    intro _ _ _ ae ag
    obtain ⟨_, _, _, _, _, _, _, _, _, _, rfl, ah, ai, aj, ak, al⟩ := Ent.cells_iff.1 ae
    exact d0 ⟨⟨_, _, _, rfl, (Ent.cells_iff.2 ⟨_, _, _, _, _, _, _, _, _, _, rfl, ah, ai, aj, ak, al⟩), ag⟩, aa⟩
   ·intro _ ab aa _ _ _ _ _ ad _ ae
    obtain ⟨ag, ah, _, ai, aj, ak⟩ : (Fct.elem (x37 : Ent)).p (ab 30) aa := ae 7 rfl 30 rfl
    obtain ⟨al, ap, aq, ar, au, av, aw, ax, ay, az, rfl, aA, aB, aC, aD, aE⟩ := Ent.cells_iff.1 aj
    refine r_load ag ah (.agg #[lv al x37.Args.length ap, bv x37.Fails, iv x37.Result.Kind, iv x37.Result.Int_, tv x37.Result.Text, lv aq x37.Result.Kids.length ar, lv au x37.Result.Keys.length av, lv aw x37.Result.Entries.length ax, lv ay x37.Result.Labels.length az]) ai rfl (loads_row tr65 ak.2) ?_
    exact d0 ⟨(Ent.rpvMk (v := x37) aA aB aC aD aE), ad⟩
   ·intro _ ab aa _ _ _ ad _ _ _ ae
    have ag := aJ.trans ad
    have ah : RpV aa (x35 : Ent) (ab 27) := ae 4 rfl 27 rfl
    obtain ⟨ai, aj, ak, al, ap, aq, ar, au, av, aw, ax, ay, az, aA, aB, aC⟩ := Ent.rpv ah
    have aD : RpV aa (x37 : Ent) (ab 31) := ae 8 rfl 31 rfl
    obtain ⟨aE, a8, a9, ba, bb, bc, bd, be, bf, bg, bh, bi, bj, bk, bl, bm⟩ := Ent.rpv aD
    refine r_callv [.agg #[lv ai x35.Args.length aj, bv x35.Fails, iv x35.Result.Kind, iv x35.Result.Int_, tv x35.Result.Text, lv ak x35.Result.Kids.length al, lv ap x35.Result.Keys.length aq, lv ar x35.Result.Entries.length au, lv av x35.Result.Labels.length aw], .agg #[lv aE x37.Args.length a8, bv x37.Fails, iv x37.Result.Kind, iv x37.Result.Int_, tv x37.Result.Text, lv a9 x37.Result.Kids.length ba, lv bb x37.Result.Keys.length bc, lv bd x37.Result.Entries.length be, lv bf x37.Result.Labels.length bg]] (ae 0 rfl 23 rfl) rfl (evs2 ax bh) rfl (hk2 aa ag _ _ _ _ _ (Ent.rpvMk (v := x35) ay az aA aB aC) (Ent.rpvMk (v := x37) bi bj bk bl bm) a7) ?_
    intro _ _ bn bo
    obtain rfl := RpV.int bo
    exact d1 ag (Nat.le_refl _) bn ⟨rfl, trivial⟩
   ·intro _ _ _ _ _ _ _ _ ab _ aa
    refine r_assign (iv af) (aa 9 rfl 32 rfl) rfl ?_
    exact d0 ⟨rfl, ab⟩
   intro bp _ bq br _ aN bs
   have aO := aJ.trans bq
   have bt := (aN 20 rfl).trans aG
   have aP : bp 9 = (iv af) := bs 10 9 rfl
   refine j1 (j2 (j3 ?_))
   refine r_move (iv af) aP rfl ?_
   refine r_bin (iv af) (iv 0) (bv (af != 0)) rfl rfl rfl rfl (b_neq) ?_
   refine j0 (j1 ?_)
   refine if_else hf (fun aL hf => ?_) (fun aL hf => ?_)
   ·refine c_true rfl aL rfl ?_
    refine j2 (j3 ?_)
    refine r_move (iv af) aP rfl ?_
    refine r_assign (iv af) rfl rfl ?_
    refine j0 (j1 (jb (j7 (j9 ?_))))
    obtain rfl := oi hf
    exact ⟨rfl, _, _, (iv af), rfl, rfl, aO, ⟨rfl, rfl⟩, (RpV.mkInt _ _)⟩
   refine c_false rfl aL rfl ?_
   refine ja (j5 (j1 (j3 ?_)))
   refine r_bin (iv ac) (iv 1) (iv (w64 (ac + 1))) bt rfl rfl rfl (b_add) ?_
   refine r_move (iv (w64 (ac + 1))) rfl rfl ?_
   refine j0 ?_
   obtain rfl := oi hf
   exact ⟨rfl, _, _, rfl, rfl, (((((((((an).put rfl).put rfl).put rfl).draw aN rfl).put rfl).put rfl).put rfl).put rfl), aO, (((Wext.refl _).trans aF).trans br), rfl⟩
  refine c_false rfl aK rfl ?_
  refine jc (j8 ?_)
  obtain rfl := oi hf
  exact ⟨rfl, _, _, rfl, rfl, ((an).put rfl), aJ, ((Wext.refl _).trans aF), aG⟩
 ·exact ⟨_, _, rfl, rfl, (Agr.refl _ _), aM, (Wext.refl _), aV⟩
 intro e a w hp
 rcases aW with bB | r
 ·replace hf := onEnd_inl hf
  obtain ⟨rfl, _, _, rfl, rfl, _, bu, _, _⟩ := hp
  refine j6 (j1 (j2 (j3 ?_)))
  refine r_assign (iv 0) rfl rfl ?_
  refine j0 (j1 (jb ?_))
  obtain rfl := oi hf
  refine ret_one (iv 0) rfl ⟨rfl, rfl⟩ bu ?_
  exact (RpV.mkInt _ _)
 replace hf := onEnd_inr hf
 obtain ⟨rfl, _, _, bw, rfl, rfl, bx, bz, bA⟩ := hp
 refine j7 (j9 ?_)
 obtain rfl := oi hf
 refine ret_one bw rfl bz bx ?_
 exact bA

def S_value_compareLists_string (f : ((List ByteArray) → (List ByteArray) → (ByteArray → ByteArray → Option Int) → Option Int)) : Prop := ∀ (s0 : S) (v0 : Value) (v1 : Value) (v2 : Value) (a0 : (List ByteArray)) (a1 : (List ByteArray)) (a2 : (ByteArray → ByteArray → Option Int)) (r : Int), RpV s0 a0 v0 → RpV s0 a1 v1 → Fn2 Go.Proofs.Try.prog s0 v2 a2 → f a0 a1 a2 = some r → Ctr Go.Proofs.Try.prog 45 [v0, v1, v2] s0 (fun v τ => RpV τ r v)

theorem ok_value_compareLists_string : S_value_compareLists_string value_compareLists_string := by
 intro s0 v0 v1 v2 a0 a1 a2 r hp0 hp1 hp2 hf
 obtain ⟨A1, c2, rfl, h3⟩ := RpV.list hp0
 obtain ⟨A4, c5, rfl, h6⟩ := RpV.list hp1
 obtain ⟨kk2, fi2, ca2, rfl, hk2⟩ := hp2
 unfold value_compareLists_string at hf
 have E0 : ExtB s0.N s0 s0 := ExtB.refl _ _
 refine ctr_of 37 func45 rfl rfl rfl rfl ?_
 refine j2 (j3 ?_)
 refine r_assign (iv 0) rfl rfl ?_
 refine j0 (j1 (j2 (j2 (j3 ?_))))
 refine r_move (lv A1 a0.length c2) rfl rfl ?_
 refine r_len A1 a0.length c2 rfl rfl underlying25 ?_
 refine r_move (lv A4 a1.length c5) rfl rfl ?_
 refine r_len A4 a1.length c5 rfl rfl underlying25 ?_
 obtain ⟨r7, e8, hf⟩ := bind_some hf
 refine r_call [iv (a0.length : Int), iv (a1.length : Int)] (evs2 rfl rfl) rfl (ok_cmp_Compare_int _ _ _ _ _ _ (RpV.mkInt _ _) (RpV.mkInt _ _) e8) ?_
 intro _ s9 an aB
 have ax := E0.x an
 obtain rfl := RpV.int aB
 refine r_assign (iv r7) rfl rfl ?_
 refine j0 (j1 (j2 (j3 ?_)))
 refine r_move (iv r7) rfl rfl ?_
 refine r_bin (iv r7) (iv 0) (bv (r7 != 0)) rfl rfl rfl rfl (b_neq) ?_
 refine j0 (j1 ?_)
 refine if_else hf (fun ao hf => ?_) (fun ao hf => ?_)
 ·refine c_true rfl ao rfl ?_
  refine j2 (j3 ?_)
  refine r_move (iv r7) rfl rfl ?_
  refine r_assign (iv r7) rfl rfl ?_
  refine j0 (j1 (jb (j9 ?_)))
  obtain rfl := oi hf
  refine ret_one (iv r7) rfl ⟨rfl, rfl⟩ ax ?_
  exact (RpV.mkInt _ _)
 refine c_false rfl ao rfl ?_
 refine ja (j1 (j2 (j2 (j3 ?_))))
 refine r_move (lv A1 a0.length c2) rfl rfl ?_
 refine r_len A1 a0.length c2 rfl rfl underlying25 ?_
 refine r_move (iv 0) rfl rfl ?_
 refine j0 (j1 (j4 ?_))
 refine gen_F fun ah aj => ?_
 have aC : ah 0 = (lv A1 a0.length c2) := (aj 0).trans rfl
 have aD : ah 1 = (lv A4 a1.length c5) := (aj 1).trans rfl
 have aE : ah 2 = (.func (.func kk2) (List.toArray fi2) (List.toArray ca2)) := (aj 2).trans rfl
 have aF : ah 19 = (iv (a0.length : Int)) := (aj 19).trans rfl
 have aG : ah 20 = (iv 0) := (aj 20).trans rfl
 obtain ⟨aH, aI, hf⟩ := bind_some hf
 refine wp_mono (wp_iter (step := value_compareLists_string_l1 a0 a1 a2) (fun q a w => ∃ (F : Fr) (τ : S), a = fr 37 F ∧ w = τ.w ∧ Agr [6, 8, 9, 20, 21, 22, 23, 24, 25, 26, 27, 28, 29, 30, 31, 32, 33, 34, 35, 36] F ah ∧ ExtB s0.N s0 τ ∧ Wext s9 τ ∧ F 20 = (iv q)) (fun o e a w => match o with | .inl q => e = .exit 0 ∧ ∃ (F : Fr) (τ : S), a = fr 37 F ∧ w = τ.w ∧ Agr [6, 8, 9, 20, 21, 22, 23, 24, 25, 26, 27, 28, 29, 30, 31, 32, 33, 34, 35, 36] F ah ∧ ExtB s0.N s0 τ ∧ Wext s9 τ ∧ F 20 = (iv q) | .inr r => e = .ret ∧ ∃ (F : Fr) (τ : S) (va : Value), a = fr 37 F ∧ w = τ.w ∧ ExtB s0.N s0 τ ∧ ResV prog 37 F τ.w (.tmp 6) va ∧ RpV τ r va) (by rintro (_ | _) a w ⟨h, _⟩ <;> cases h) ?_ _ _ _ _ _ aI ?_) ?_
 ·intro ad fl a w hf hI
  obtain ⟨_, _, rfl, rfl, ai, ap, al, am⟩ := hI
  unfold value_compareLists_string_l1 at hf
  have aJ := (ai 0 rfl).trans aC
  have aK := (ai 1 rfl).trans aD
  have aL := (ai 2 rfl).trans aE
  have aM := (ai 19 rfl).trans aF
  refine j2 (j3 ?_)
  refine r_bin (iv ad) (iv (a0.length : Int)) (bv (decide (ad < (a0.length : Int)))) am aM rfl rfl (b_lss) ?_
  refine j0 (j1 (j2 ?_))
  refine if_else hf (fun aq hf => ?_) (fun aq hf => ?_)
  ·refine c_true rfl aq rfl ?_
   refine ja (j1 (j2 (j4 (j2 (j3 ?_)))))
   refine r_move (iv ad) am rfl ?_
   refine r_assign (iv ad) rfl rfl ?_
   refine j0 (j1 (j2 ?_))
   obtain ⟨x35, aN, hf⟩ := bind_some hf
   obtain ⟨x37, aO, hf⟩ := bind_some hf
   obtain ⟨ae, aP, hf⟩ := bind_some hf
   refine wp_draw (B := frExt s0.N) (sm 23 10 ++ [some 9]) [[], [], [], [1, 2], [1, 2, 3], [], [], [5, 6], [5, 6, 7], rg 9, rg 10] [Fct.eqv (.func (.func kk2) (List.toArray fi2) (List.toArray ca2)), Fct.eqv (lv A1 a0.length c2), Fct.eqv (iv ad), Fct.elem (x35 : ByteArray), Fct.eqv (tv x35), Fct.eqv (lv A4 a1.length c5), Fct.eqv (iv ad), Fct.elem (x37 : ByteArray), Fct.eqv (tv x37), Fct.eqv (iv ae), Fct.eqv (iv ae)] (fun D F τ => True) (by kernel_rfl) rfl (by decide) (by decide) trivial (by decide) (by decide) ⟨?_, ?_, ?_, ?_, ?_, ?_, ?_, ?_, ?_, ?_, ?_, trivial⟩ ?_
   ·intro _ _ _ _ _ _ _ _ aa ab _
    refine r_move (.func (.func kk2) (List.toArray fi2) (List.toArray ca2)) ((ab 2 rfl).trans aL) rfl ?_
    exact d0 ⟨rfl, aa⟩
   ·intro _ _ _ _ _ _ _ _ aa ab _
    refine r_move (lv A1 a0.length c2) ((ab 0 rfl).trans aJ) rfl ?_
    exact d0 ⟨rfl, aa⟩
   ·intro _ _ _ _ _ _ _ _ aa ab _
    refine r_move (iv ad) ((ab 8 rfl).trans rfl) rfl ?_
    exact d0 ⟨rfl, aa⟩
   ·intro _ _ _ _ _ _ _ aa ab _ ac
    refine r_indexAddr (T := 25) (E := 9) (((h3.mono an.wext).mono al).mono aa) aN (ac 1 rfl 24 rfl) (ac 2 rfl 25 rfl) rfl rfl underlying25 sz9 ?_
    intro _ _ _ af ag
    obtain rfl := af
    exact d0 ⟨⟨_, _, _, rfl, rfl, ag⟩, ab⟩
   ·intro _ aa ab _ _ _ _ _ ac _ af
    obtain ⟨ag, ak, _, ar, au, av⟩ : (Fct.elem (x35 : ByteArray)).p (aa 26) ab := af 3 rfl 26 rfl
    obtain rfl := au
    refine r_load ag ak (tv x35) ar rfl (loads_one to9 (av.2 0 _ rfl)) ?_
    exact d0 ⟨rfl, ac⟩
   ·intro _ _ _ _ _ _ _ _ aa ab _
    refine r_move (lv A4 a1.length c5) ((ab 1 rfl).trans aK) rfl ?_
    exact d0 ⟨rfl, aa⟩
   ·intro _ _ _ _ _ _ _ _ aa ab _
    refine r_move (iv ad) ((ab 8 rfl).trans rfl) rfl ?_
    exact d0 ⟨rfl, aa⟩
   ·intro _ _ _ _ _ _ _ aa ab _ ac
    refine r_indexAddr (T := 25) (E := 9) (((h6.mono an.wext).mono al).mono aa) aO (ac 5 rfl 28 rfl) (ac 6 rfl 29 rfl) rfl rfl underlying25 sz9 ?_
    intro _ _ _ af ag
    obtain rfl := af
    exact d0 ⟨⟨_, _, _, rfl, rfl, ag⟩, ab⟩
   ·intro _ aa ab _ _ _ _ _ ac _ af
    obtain ⟨ag, ak, _, ar, au, av⟩ : (Fct.elem (x37 : ByteArray)).p (aa 30) ab := af 7 rfl 30 rfl
    obtain rfl := au
    refine r_load ag ak (tv x37) ar rfl (loads_one to9 (av.2 0 _ rfl)) ?_
    exact d0 ⟨rfl, ac⟩
   ·intro _ _ aa _ _ _ ab _ _ _ ac
    have af := ap.trans ab
    refine r_callv [tv x35, tv x37] (ac 0 rfl 23 rfl) rfl (evs2 (ac 4 rfl 27 rfl) (ac 8 rfl 31 rfl)) rfl (hk2 aa af _ _ _ _ _ (RpV.mkStr _ _) (RpV.mkStr _ _) aP) ?_
    intro _ _ ag ak
    obtain rfl := RpV.int ak
    exact d1 af (Nat.le_refl _) ag ⟨rfl, trivial⟩
   ·intro _ _ _ _ _ _ _ _ aa _ ab
    refine r_assign (iv ae) (ab 9 rfl 32 rfl) rfl ?_
    exact d0 ⟨rfl, aa⟩
   intro aQ _ aR aS _ ay aT
   have az := ap.trans aR
   have aU := (ay 20 rfl).trans am
   have aA : aQ 9 = (iv ae) := aT 10 9 rfl
   refine j1 (j2 (j3 ?_))
   refine r_move (iv ae) aA rfl ?_
   refine r_bin (iv ae) (iv 0) (bv (ae != 0)) rfl rfl rfl rfl (b_neq) ?_
   refine j0 (j1 ?_)
   refine if_else hf (fun aw hf => ?_) (fun aw hf => ?_)
   ·refine c_true rfl aw rfl ?_
    refine j2 (j3 ?_)
    refine r_move (iv ae) aA rfl ?_
    refine r_assign (iv ae) rfl rfl ?_
    refine j0 (j1 (jb (j7 (j9 ?_))))
    obtain rfl := oi hf
    exact ⟨rfl, _, _, (iv ae), rfl, rfl, az, ⟨rfl, rfl⟩, (RpV.mkInt _ _)⟩
   refine c_false rfl aw rfl ?_
   refine ja (j5 (j1 (j3 ?_)))
   refine r_bin (iv ad) (iv 1) (iv (w64 (ad + 1))) aU rfl rfl rfl (b_add) ?_
   refine r_move (iv (w64 (ad + 1))) rfl rfl ?_
   refine j0 ?_
   obtain rfl := oi hf
   exact ⟨rfl, _, _, rfl, rfl, (((((((((ai).put rfl).put rfl).put rfl).draw ay rfl).put rfl).put rfl).put rfl).put rfl), az, (((Wext.refl _).trans al).trans aS), rfl⟩
  refine c_false rfl aq rfl ?_
  refine jc (j8 ?_)
  obtain rfl := oi hf
  exact ⟨rfl, _, _, rfl, rfl, ((ai).put rfl), ap, ((Wext.refl _).trans al), am⟩
 ·exact ⟨_, _, rfl, rfl, (Agr.refl _ _), ax, (Wext.refl _), aG⟩
 intro e a w hp
 rcases aH with a3 | r
 ·replace hf := onEnd_inl hf
  obtain ⟨rfl, _, _, rfl, rfl, _, aV, _, _⟩ := hp
  refine j6 (j1 (j2 (j3 ?_)))
  refine r_assign (iv 0) rfl rfl ?_
  refine j0 (j1 (jb ?_))
  obtain rfl := oi hf
  refine ret_one (iv 0) rfl ⟨rfl, rfl⟩ aV ?_
  exact (RpV.mkInt _ _)
 replace hf := onEnd_inr hf
 obtain ⟨rfl, _, _, aW, rfl, rfl, aX, aY, aZ⟩ := hp
 refine j7 (j9 ?_)
 obtain rfl := oi hf
 refine ret_one aW rfl aY aX ?_
 exact aZ

def S_value_Compare (f : (Val → Val → Option Int)) : Prop := ∀ (s0 : S) (v0 : Value) (v1 : Value) (a0 : Val) (a1 : Val) (r : Int), RpV s0 a0 v0 → RpV s0 a1 v1 → f a0 a1 = some r → Ctr Go.Proofs.Try.prog 12 [v0, v1] s0 (fun v τ => RpV τ r v)

def S_value_compareValues (f : ((List Val) → (List Val) → Option Int)) : Prop := ∀ (s0 : S) (v0 : Value) (v1 : Value) (a0 : (List Val)) (a1 : (List Val)) (r : Int), RpV s0 a0 v0 → RpV s0 a1 v1 → f a0 a1 = some r → Ctr Go.Proofs.Try.prog 42 [v0, v1] s0 (fun v τ => RpV τ r v)

def S_value_compareEntries (f : (Ent → Ent → Option Int)) : Prop := ∀ (s0 : S) (v0 : Value) (v1 : Value) (a0 : Ent) (a1 : Ent) (r : Int), RpV s0 a0 v0 → RpV s0 a1 v1 → f a0 a1 = some r → Ctr Go.Proofs.Try.prog 44 [v0, v1] s0 (fun v τ => RpV τ r v)

theorem okB_value_Compare {rec_value_Compare : (Val → Val → Option Int)} {rec_value_compareValues : ((List Val) → (List Val) → Option Int)} {rec_value_compareEntries : (Ent → Ent → Option Int)} (_hrec_value_Compare : S_value_Compare rec_value_Compare) (hrec_value_compareValues : S_value_compareValues rec_value_compareValues) (hrec_value_compareEntries : S_value_compareEntries rec_value_compareEntries) : S_value_Compare (value_Compare_B rec_value_Compare rec_value_compareValues rec_value_compareEntries) := by
 intro s0 v0 v1 a0 a1 r hp0 hp1 hf
 obtain ⟨A1, c2, A4, c5, A7, c8, au, av, rfl, h3, h6, h9, aS⟩ := Val.rpv hp0
 obtain ⟨aw, ax, ay, az, aA, aB, aC, aD, rfl, aT, aU, aV, aW⟩ := Val.rpv hp1
 unfold value_Compare_B at hf
 have E0 : ExtB s0.N s0 s0 := ExtB.refl _ _
 refine ctr_of 64 func12 rfl rfl rfl rfl ?_
 refine j2 (j3 ?_)
 refine r_box (B := s0.N) 1 E0.size (Val.ag a0 A1 c2 A4 c5 A7 c8 au av) (Val.cs a0 A1 c2 A4 c5 A7 c8 au av) rfl rfl rfl ?_
 intro _ ae ah aj
 have aK := E0.x ah
 refine r_box (B := s0.N) 2 aK.size (Val.ag a1 aw ax ay az aA aB aC aD) (Val.cs a1 aw ax ay az aA aB aC aD) rfl rfl rfl ?_
 intro _ af ad ak
 have aX := aK.x ad
 refine r_assign (iv 0) rfl rfl ?_
 refine j0 (j1 (j2 (j2 (j3 ?_))))
 refine r_fieldAddr ae 0 0 0 rfl rfl fo27_0 rfl ?_
 refine r_load ae 0 (iv a0.Kind) rfl rfl (loads_one to3 (((aj.ext ad).cell 0).trans rfl)) ?_
 refine r_fieldAddr af 0 0 0 rfl rfl fo27_0 rfl ?_
 refine r_load af 0 (iv a1.Kind) rfl rfl (loads_one to3 ((ak.cell 0).trans rfl)) ?_
 obtain ⟨al, aY, hf⟩ := bind_some hf
 refine r_call [iv a0.Kind, iv a1.Kind] (evs2 rfl rfl) rfl (ok_cmp_Compare_int _ _ _ _ _ _ (RpV.mkInt _ _) (RpV.mkInt _ _) aY) ?_
 intro _ _ aa aZ
 have aL := aX.x aa
 obtain rfl := RpV.int aZ
 refine r_assign (iv al) rfl rfl ?_
 refine j0 (j1 (j2 (j3 ?_)))
 refine r_move (iv al) rfl rfl ?_
 refine r_bin (iv al) (iv 0) (bv (al != 0)) rfl rfl rfl rfl (b_neq) ?_
 refine j0 (j1 ?_)
 refine if_else hf (fun aE hf => ?_) (fun aE hf => ?_)
 ·refine c_true rfl aE rfl ?_
  refine j2 (j3 ?_)
  refine r_move (iv al) rfl rfl ?_
  refine r_assign (iv al) rfl rfl ?_
  refine j0 (j1 (jb (j9 ?_)))
  obtain rfl := oi hf
  refine ret_one (iv al) rfl ⟨rfl, rfl⟩ aL ?_
  exact (RpV.mkInt _ _)
 refine c_false rfl aE rfl ?_
 refine ja (j1 (j2 (j2 (j3 ?_))))
 refine r_fieldAddr ae 0 1 1 rfl rfl fo27_1 rfl ?_
 refine r_load ae 1 (iv a0.Int_) rfl rfl (loads_one to2 ((((aj.ext ad).ext aa).cell 1).trans rfl)) ?_
 refine r_fieldAddr af 0 1 1 rfl rfl fo27_1 rfl ?_
 refine r_load af 1 (iv a1.Int_) rfl rfl (loads_one to2 (((ak.ext aa).cell 1).trans rfl)) ?_
 obtain ⟨am, a2, hf⟩ := bind_some hf
 refine r_call [iv a0.Int_, iv a1.Int_] (evs2 rfl rfl) rfl (ok_cmp_Compare_int64 _ _ _ _ _ _ (RpV.mkInt _ _) (RpV.mkInt _ _) a2) ?_
 intro _ _ ab a3
 have aM := aL.x ab
 obtain rfl := RpV.int a3
 refine r_assign (iv am) rfl rfl ?_
 refine j0 (j1 (j2 (j3 ?_)))
 refine r_move (iv am) rfl rfl ?_
 refine r_bin (iv am) (iv 0) (bv (am != 0)) rfl rfl rfl rfl (b_neq) ?_
 refine j0 (j1 ?_)
 refine if_else hf (fun aF hf => ?_) (fun aF hf => ?_)
 ·refine c_true rfl aF rfl ?_
  refine j2 (j3 ?_)
  refine r_move (iv am) rfl rfl ?_
  refine r_assign (iv am) rfl rfl ?_
  refine j0 (j1 (jb (j9 ?_)))
  obtain rfl := oi hf
  refine ret_one (iv am) rfl ⟨rfl, rfl⟩ aM ?_
  exact (RpV.mkInt _ _)
 refine c_false rfl aF rfl ?_
 refine ja (j1 (j2 (j2 (j3 ?_))))
 refine r_fieldAddr ae 0 2 2 rfl rfl fo27_2 rfl ?_
 refine r_load ae 2 (tv a0.Text) rfl rfl (loads_one to9 (((((aj.ext ad).ext aa).ext ab).cell 2).trans rfl)) ?_
 refine r_fieldAddr af 0 2 2 rfl rfl fo27_2 rfl ?_
 refine r_load af 2 (tv a1.Text) rfl rfl (loads_one to9 ((((ak.ext aa).ext ab).cell 2).trans rfl)) ?_
 obtain ⟨an, a4, hf⟩ := bind_some hf
 refine r_call [tv a0.Text, tv a1.Text] (evs2 rfl rfl) rfl (ok_strings_Compare _ _ _ _ _ _ (RpV.mkStr _ _) (RpV.mkStr _ _) a4) ?_
 intro _ _ ac a5
 have aN := aM.x ac
 obtain rfl := RpV.int a5
 refine r_assign (iv an) rfl rfl ?_
 refine j0 (j1 (j2 (j3 ?_)))
 refine r_move (iv an) rfl rfl ?_
 refine r_bin (iv an) (iv 0) (bv (an != 0)) rfl rfl rfl rfl (b_neq) ?_
 refine j0 (j1 ?_)
 refine if_else hf (fun aG hf => ?_) (fun aG hf => ?_)
 ·refine c_true rfl aG rfl ?_
  refine j2 (j3 ?_)
  refine r_move (iv an) rfl rfl ?_
  refine r_assign (iv an) rfl rfl ?_
  refine j0 (j1 (jb (j9 ?_)))
  obtain rfl := oi hf
  refine ret_one (iv an) rfl ⟨rfl, rfl⟩ aN ?_
  exact (RpV.mkInt _ _)
 refine c_false rfl aG rfl ?_
 refine ja (j1 (j2 (j2 (j3 ?_))))
 refine r_fieldAddr ae 0 4 4 rfl rfl fo27_4 rfl ?_
 refine r_load ae 4 (lv A4 a0.Keys.length c5) rfl rfl (loads_one to23 ((((((aj.ext ad).ext aa).ext ab).ext ac).cell 4).trans rfl)) ?_
 refine r_fieldAddr af 0 4 4 rfl rfl fo27_4 rfl ?_
 refine r_load af 4 (lv ay a1.Keys.length az) rfl rfl (loads_one to23 (((((ak.ext aa).ext ab).ext ac).cell 4).trans rfl)) ?_
 obtain ⟨ao, a6, hf⟩ := bind_some hf
 refine r_call [lv A4 a0.Keys.length c5, lv ay a1.Keys.length az, .func (.func 41) #[] #[]] (evs3 rfl rfl rfl) rfl (ok_value_compareLists_api_Key _ _ _ _ _ _ _ _ (RpV.mkList (((((h6.mono ah.wext).mono ad.wext).mono aa.wext).mono ab.wext).mono ac.wext)) (RpV.mkList (((((aU.mono ah.wext).mono ad.wext).mono aa.wext).mono ab.wext).mono ac.wext)) ⟨41, [], [], rfl, fun _ _ _ _ _ _ _ h1 h2 h => (ok_ident_CompareKeys _ _ _ _ _ _ h1 h2 h)⟩ a6) ?_
 intro _ _ ag a7
 have aO := aN.x ag
 obtain rfl := RpV.int a7
 refine r_assign (iv ao) rfl rfl ?_
 refine j0 (j1 (j2 (j3 ?_)))
 refine r_move (iv ao) rfl rfl ?_
 refine r_bin (iv ao) (iv 0) (bv (ao != 0)) rfl rfl rfl rfl (b_neq) ?_
 refine j0 (j1 ?_)
 refine if_else hf (fun aH hf => ?_) (fun aH hf => ?_)
 ·refine c_true rfl aH rfl ?_
  refine j2 (j3 ?_)
  refine r_move (iv ao) rfl rfl ?_
  refine r_assign (iv ao) rfl rfl ?_
  refine j0 (j1 (jb (j9 ?_)))
  obtain rfl := oi hf
  refine ret_one (iv ao) rfl ⟨rfl, rfl⟩ aO ?_
  exact (RpV.mkInt _ _)
 refine c_false rfl aH rfl ?_
 refine ja (j1 (j2 (j2 (j3 ?_))))
 refine r_fieldAddr ae 0 3 3 rfl rfl fo27_3 rfl ?_
 refine r_load ae 3 (lv A1 a0.Kids.length c2) rfl rfl (loads_one to22 (((((((aj.ext ad).ext aa).ext ab).ext ac).ext ag).cell 3).trans rfl)) ?_
 refine r_fieldAddr af 0 3 3 rfl rfl fo27_3 rfl ?_
 refine r_load af 3 (lv aw a1.Kids.length ax) rfl rfl (loads_one to22 ((((((ak.ext aa).ext ab).ext ac).ext ag).cell 3).trans rfl)) ?_
 obtain ⟨ap, a8, hf⟩ := bind_some hf
 refine r_call [lv A1 a0.Kids.length c2, lv aw a1.Kids.length ax] (evs2 rfl rfl) rfl (hrec_value_compareValues _ _ _ _ _ _ (RpV.mkList ((((((h3.mono ah.wext).mono ad.wext).mono aa.wext).mono ab.wext).mono ac.wext).mono ag.wext)) (RpV.mkList ((((((aT.mono ah.wext).mono ad.wext).mono aa.wext).mono ab.wext).mono ac.wext).mono ag.wext)) a8) ?_
 intro _ _ ai a9
 have aP := aO.x ai
 obtain rfl := RpV.int a9
 refine r_assign (iv ap) rfl rfl ?_
 refine j0 (j1 (j2 (j3 ?_)))
 refine r_move (iv ap) rfl rfl ?_
 refine r_bin (iv ap) (iv 0) (bv (ap != 0)) rfl rfl rfl rfl (b_neq) ?_
 refine j0 (j1 ?_)
 refine if_else hf (fun aI hf => ?_) (fun aI hf => ?_)
 ·refine c_true rfl aI rfl ?_
  refine j2 (j3 ?_)
  refine r_move (iv ap) rfl rfl ?_
  refine r_assign (iv ap) rfl rfl ?_
  refine j0 (j1 (jb (j9 ?_)))
  obtain rfl := oi hf
  refine ret_one (iv ap) rfl ⟨rfl, rfl⟩ aP ?_
  exact (RpV.mkInt _ _)
 refine c_false rfl aI rfl ?_
 refine ja (j1 (j2 (j2 (j3 ?_))))
 refine r_fieldAddr ae 0 5 5 rfl rfl fo27_5 rfl ?_
 refine r_load ae 5 (lv A7 a0.Entries.length c8) rfl rfl (loads_one to24 ((((((((aj.ext ad).ext aa).ext ab).ext ac).ext ag).ext ai).cell 5).trans rfl)) ?_
 refine r_fieldAddr af 0 5 5 rfl rfl fo27_5 rfl ?_
 refine r_load af 5 (lv aA a1.Entries.length aB) rfl rfl (loads_one to24 (((((((ak.ext aa).ext ab).ext ac).ext ag).ext ai).cell 5).trans rfl)) ?_
 obtain ⟨aq, ba, hf⟩ := bind_some hf
 refine r_call [lv A7 a0.Entries.length c8, lv aA a1.Entries.length aB, .func (.func 44) #[] #[]] (evs3 rfl rfl rfl) rfl (ok_value_compareLists_api_Entry _ _ _ _ _ _ _ _ (RpV.mkList (((((((h9.mono ah.wext).mono ad.wext).mono aa.wext).mono ab.wext).mono ac.wext).mono ag.wext).mono ai.wext)) (RpV.mkList (((((((aV.mono ah.wext).mono ad.wext).mono aa.wext).mono ab.wext).mono ac.wext).mono ag.wext).mono ai.wext)) ⟨44, [], [], rfl, fun _ _ _ _ _ _ _ h1 h2 h => (hrec_value_compareEntries _ _ _ _ _ _ h1 h2 h)⟩ ba) ?_
 intro _ _ ar bb
 have aQ := aP.x ar
 obtain rfl := RpV.int bb
 refine r_assign (iv aq) rfl rfl ?_
 refine j0 (j1 (j2 (j3 ?_)))
 refine r_move (iv aq) rfl rfl ?_
 refine r_bin (iv aq) (iv 0) (bv (aq != 0)) rfl rfl rfl rfl (b_neq) ?_
 refine j0 (j1 ?_)
 refine if_else hf (fun aJ hf => ?_) (fun aJ hf => ?_)
 ·refine c_true rfl aJ rfl ?_
  refine j2 (j3 ?_)
  refine r_move (iv aq) rfl rfl ?_
  refine r_assign (iv aq) rfl rfl ?_
  refine j0 (j1 (jb (j9 ?_)))
  obtain rfl := oi hf
  refine ret_one (iv aq) rfl ⟨rfl, rfl⟩ aQ ?_
  exact (RpV.mkInt _ _)
 refine c_false rfl aJ rfl ?_
 refine ja (j1 (j2 (j3 ?_)))
 refine r_fieldAddr ae 0 6 6 rfl rfl fo27_6 rfl ?_
 refine r_load ae 6 (lv au a0.Labels.length av) rfl rfl (loads_one to25 (((((((((aj.ext ad).ext aa).ext ab).ext ac).ext ag).ext ai).ext ar).cell 6).trans rfl)) ?_
 refine r_fieldAddr af 0 6 6 rfl rfl fo27_6 rfl ?_
 refine r_load af 6 (lv aC a1.Labels.length aD) rfl rfl (loads_one to25 ((((((((ak.ext aa).ext ab).ext ac).ext ag).ext ai).ext ar).cell 6).trans rfl)) ?_
 obtain ⟨aR, bc, hf⟩ := bind_some hf
 refine r_call [lv au a0.Labels.length av, lv aC a1.Labels.length aD, .func (.func 39) #[] #[]] (evs3 rfl rfl rfl) rfl (ok_value_compareLists_string _ _ _ _ _ _ _ _ (RpV.mkList ((((((((aS.mono ah.wext).mono ad.wext).mono aa.wext).mono ab.wext).mono ac.wext).mono ag.wext).mono ai.wext).mono ar.wext)) (RpV.mkList ((((((((aW.mono ah.wext).mono ad.wext).mono aa.wext).mono ab.wext).mono ac.wext).mono ag.wext).mono ai.wext).mono ar.wext)) ⟨39, [], [], rfl, fun _ _ _ _ _ _ _ h1 h2 h => (ok_strings_Compare _ _ _ _ _ _ h1 h2 h)⟩ bc) ?_
 intro _ _ bd be
 have bf := aQ.x bd
 obtain rfl := RpV.int be
 refine r_assign (iv aR) rfl rfl ?_
 refine j0 (j1 (jb ?_))
 obtain rfl := oi hf
 refine ret_one (iv aR) rfl ⟨rfl, rfl⟩ bf ?_
 exact (RpV.mkInt _ _)

theorem okB_value_compareValues {rec_value_Compare : (Val → Val → Option Int)} {rec_value_compareValues : ((List Val) → (List Val) → Option Int)} {rec_value_compareEntries : (Ent → Ent → Option Int)} (hrec_value_Compare : S_value_Compare rec_value_Compare) (_hrec_value_compareValues : S_value_compareValues rec_value_compareValues) (_hrec_value_compareEntries : S_value_compareEntries rec_value_compareEntries) : S_value_compareValues (value_compareValues_B rec_value_Compare rec_value_compareValues rec_value_compareEntries) := by
 intro s0 v0 v1 a0 a1 r hp0 hp1 hf
 obtain ⟨A1, c2, rfl, h3⟩ := RpV.list hp0
 obtain ⟨A4, c5, rfl, h6⟩ := RpV.list hp1
 unfold value_compareValues_B at hf
 have E0 : ExtB s0.N s0 s0 := ExtB.refl _ _
 refine ctr_of 8 func42 rfl rfl rfl rfl ?_
 refine j2 (j3 ?_)
 refine r_assign (iv 0) rfl rfl ?_
 refine j0 (j1 (j2 (j3 ?_)))
 refine r_move (lv A1 a0.length c2) rfl rfl ?_
 refine r_move (lv A4 a1.length c5) rfl rfl ?_
 obtain ⟨r7, e8, hf⟩ := bind_some hf
 refine r_call [lv A1 a0.length c2, lv A4 a1.length c5, .func (.func 12) #[] #[]] (evs3 rfl rfl rfl) rfl (ok_value_compareLists_api_Value _ _ _ _ _ _ _ _ (RpV.mkList h3) (RpV.mkList h6) ⟨12, [], [], rfl, fun _ _ _ _ _ _ _ h1 h2 h => (hrec_value_Compare _ _ _ _ _ _ h1 h2 h)⟩ e8) ?_
 intro _ s9 aa ab
 have ac := E0.x aa
 obtain rfl := RpV.int ab
 refine r_assign (iv r7) rfl rfl ?_
 refine j0 (j1 (jb ?_))
 obtain rfl := oi hf
 refine ret_one (iv r7) rfl ⟨rfl, rfl⟩ ac ?_
 exact (RpV.mkInt _ _)

theorem okB_value_compareEntries {rec_value_Compare : (Val → Val → Option Int)} {rec_value_compareValues : ((List Val) → (List Val) → Option Int)} {rec_value_compareEntries : (Ent → Ent → Option Int)} (hrec_value_Compare : S_value_Compare rec_value_Compare) (hrec_value_compareValues : S_value_compareValues rec_value_compareValues) (_hrec_value_compareEntries : S_value_compareEntries rec_value_compareEntries) : S_value_compareEntries (value_compareEntries_B rec_value_Compare rec_value_compareValues rec_value_compareEntries) := by
 intro s0 v0 v1 a0 a1 r hp0 hp1 hf
 obtain ⟨A1, c2, A4, c5, A7, c8, ag, ah, ai, aj, rfl, h3, h6, h9, aE, aF⟩ := Ent.rpv hp0
 obtain ⟨au, av, ak, al, am, an, ao, ap, aq, ar, rfl, aG, aH, aI, aJ, aK⟩ := Ent.rpv hp1
 unfold value_compareEntries_B at hf
 have E0 : ExtB s0.N s0 s0 := ExtB.refl _ _
 refine ctr_of 26 func44 rfl rfl rfl rfl ?_
 refine j2 (j3 ?_)
 refine r_box (B := s0.N) 1 E0.size (.agg #[lv A1 a0.Args.length c2, bv a0.Fails, iv a0.Result.Kind, iv a0.Result.Int_, tv a0.Result.Text, lv A4 a0.Result.Kids.length c5, lv A7 a0.Result.Keys.length c8, lv ag a0.Result.Entries.length ah, lv ai a0.Result.Labels.length aj]) [lv A1 a0.Args.length c2, bv a0.Fails, iv a0.Result.Kind, iv a0.Result.Int_, tv a0.Result.Text, lv A4 a0.Result.Kids.length c5, lv A7 a0.Result.Keys.length c8, lv ag a0.Result.Entries.length ah, lv ai a0.Result.Labels.length aj] rfl rfl rfl ?_
 intro _ ad ac aw
 have aC := E0.x ac
 refine r_box (B := s0.N) 2 aC.size (.agg #[lv au a1.Args.length av, bv a1.Fails, iv a1.Result.Kind, iv a1.Result.Int_, tv a1.Result.Text, lv ak a1.Result.Kids.length al, lv am a1.Result.Keys.length an, lv ao a1.Result.Entries.length ap, lv aq a1.Result.Labels.length ar]) [lv au a1.Args.length av, bv a1.Fails, iv a1.Result.Kind, iv a1.Result.Int_, tv a1.Result.Text, lv ak a1.Result.Kids.length al, lv am a1.Result.Keys.length an, lv ao a1.Result.Entries.length ap, lv aq a1.Result.Labels.length ar] rfl rfl rfl ?_
 intro _ af aa ay
 have aL := aC.x aa
 refine r_assign (iv 0) rfl rfl ?_
 refine j0 (j1 (j2 (j2 (j3 ?_))))
 refine r_fieldAddr ad 0 0 0 rfl rfl fo65_0 rfl ?_
 refine r_load ad 0 (lv A1 a0.Args.length c2) rfl rfl (loads_one to22 (((aw.ext aa).cell 0).trans rfl)) ?_
 refine r_fieldAddr af 0 0 0 rfl rfl fo65_0 rfl ?_
 refine r_load af 0 (lv au a1.Args.length av) rfl rfl (loads_one to22 ((ay.cell 0).trans rfl)) ?_
 obtain ⟨ae, aM, hf⟩ := bind_some hf
 refine r_call [lv A1 a0.Args.length c2, lv au a1.Args.length av] (evs2 rfl rfl) rfl (hrec_value_compareValues _ _ _ _ _ _ (RpV.mkList ((h3.mono ac.wext).mono aa.wext)) (RpV.mkList ((aG.mono ac.wext).mono aa.wext)) aM) ?_
 intro _ _ ab aN
 have ax := aL.x ab
 obtain rfl := RpV.int aN
 refine r_assign (iv ae) rfl rfl ?_
 refine j0 (j1 (j2 (j3 ?_)))
 refine r_move (iv ae) rfl rfl ?_
 refine r_bin (iv ae) (iv 0) (bv (ae != 0)) rfl rfl rfl rfl (b_neq) ?_
 refine j0 (j1 ?_)
 refine if_else hf (fun az hf => ?_) (fun az hf => ?_)
 ·refine c_true rfl az rfl ?_
  refine j2 (j3 ?_)
  refine r_move (iv ae) rfl rfl ?_
  refine r_assign (iv ae) rfl rfl ?_
  refine j0 (j1 (jb (j9 ?_)))
  obtain rfl := oi hf
  refine ret_one (iv ae) rfl ⟨rfl, rfl⟩ ax ?_
  exact (RpV.mkInt _ _)
 refine c_false rfl az rfl ?_
 refine ja (j1 (j2 (j2 (j3 ?_))))
 refine r_fieldAddr ad 0 1 1 rfl rfl fo65_1 rfl ?_
 refine r_load ad 1 (bv a0.Fails) rfl rfl (loads_one to4 ((((aw.ext aa).ext ab).cell 1).trans rfl)) ?_
 refine r_fieldAddr af 0 1 1 rfl rfl fo65_1 rfl ?_
 refine r_load af 1 (bv a1.Fails) rfl rfl (loads_one to4 (((ay.ext ab).cell 1).trans rfl)) ?_
 refine r_bin (bv a0.Fails) (bv a1.Fails) (bv (a0.Fails != a1.Fails)) rfl rfl rfl rfl (b_bneq underlying4) ?_
 refine j0 (j1 ?_)
 refine if_else hf (fun aA hf => ?_) (fun aA hf => ?_)
 ·refine c_true rfl aA rfl ?_
  refine j2 (j2 (j3 ?_))
  refine r_fieldAddr ad 0 1 1 rfl rfl fo65_1 rfl ?_
  refine r_load ad 1 (bv a0.Fails) rfl rfl (loads_one to4 ((((aw.ext aa).ext ab).cell 1).trans rfl)) ?_
  refine j0 (j1 ?_)
  refine if_else hf (fun aB hf => ?_) (fun aB hf => ?_)
  ·refine c_true rfl aB rfl ?_
   refine j2 (j3 ?_)
   refine r_assign (iv (-1)) rfl rfl ?_
   refine j0 (j1 (jb (j9 (j9 ?_))))
   obtain rfl := oi hf
   refine ret_one (iv (-1)) rfl ⟨rfl, rfl⟩ ax ?_
   exact (RpV.mkInt _ _)
  refine c_false rfl aB rfl ?_
  refine ja (j1 (j2 (j3 ?_)))
  refine r_assign (iv 1) rfl rfl ?_
  refine j0 (j1 (jb (j9 ?_)))
  obtain rfl := oi hf
  refine ret_one (iv 1) rfl ⟨rfl, rfl⟩ ax ?_
  exact (RpV.mkInt _ _)
 refine c_false rfl aA rfl ?_
 refine ja (j1 (j2 (j3 ?_)))
 refine r_fieldAddr ad 0 2 2 rfl rfl fo65_2 rfl ?_
 refine r_load ad 2 (Val.ag a0.Result A4 c5 A7 c8 ag ah ai aj) rfl rfl (loads_row tr27 (Blk.range ((aw.ext aa).ext ab) 2 (Val.cs a0.Result A4 c5 A7 c8 ag ah ai aj) rfl)) ?_
 refine r_fieldAddr af 0 2 2 rfl rfl fo65_2 rfl ?_
 refine r_load af 2 (Val.ag a1.Result ak al am an ao ap aq ar) rfl rfl (loads_row tr27 (Blk.range (ay.ext ab) 2 (Val.cs a1.Result ak al am an ao ap aq ar) rfl)) ?_
 obtain ⟨aD, aO, hf⟩ := bind_some hf
 refine r_call [Val.ag a0.Result A4 c5 A7 c8 ag ah ai aj, Val.ag a1.Result ak al am an ao ap aq ar] (evs2 rfl rfl) rfl (hrec_value_Compare _ _ _ _ _ _ (Val.rpvMk (v := a0.Result) (((h6.mono ac.wext).mono aa.wext).mono ab.wext) (((h9.mono ac.wext).mono aa.wext).mono ab.wext) (((aE.mono ac.wext).mono aa.wext).mono ab.wext) (((aF.mono ac.wext).mono aa.wext).mono ab.wext)) (Val.rpvMk (v := a1.Result) (((aH.mono ac.wext).mono aa.wext).mono ab.wext) (((aI.mono ac.wext).mono aa.wext).mono ab.wext) (((aJ.mono ac.wext).mono aa.wext).mono ab.wext) (((aK.mono ac.wext).mono aa.wext).mono ab.wext)) aO) ?_
 intro _ _ aP aQ
 have aR := ax.x aP
 obtain rfl := RpV.int aQ
 refine r_assign (iv aD) rfl rfl ?_
 refine j0 (j1 (jb ?_))
 obtain rfl := oi hf
 refine ret_one (iv aD) rfl ⟨rfl, rfl⟩ aR ?_
 exact (RpV.mkInt _ _)

theorem ok_scc_value_Compare : ∀ n : Nat, S_value_Compare (scc_value_Compare n).1 ∧ S_value_compareValues (scc_value_Compare n).2.1 ∧ S_value_compareEntries (scc_value_Compare n).2.2
  | 0 => ⟨(by intro _ _ _ _ _ _ _ _ h; cases h), (by intro _ _ _ _ _ _ _ _ h; cases h), (by intro _ _ _ _ _ _ _ _ h; cases h)⟩
  | n + 1 => by
    obtain ⟨h0, h1, h2⟩ := ok_scc_value_Compare n
    exact ⟨okB_value_Compare h0 h1 h2, okB_value_compareValues h0 h1 h2, okB_value_compareEntries h0 h1 h2⟩

theorem ok_value_Compare (n : Nat) : S_value_Compare (value_Compare n) := (ok_scc_value_Compare n).1

theorem ok_value_compareValues (n : Nat) : S_value_compareValues (value_compareValues n) := (ok_scc_value_Compare n).2.1

theorem ok_value_compareEntries (n : Nat) : S_value_compareEntries (value_compareEntries n) := (ok_scc_value_Compare n).2.2

def S_value_ascending_api_Entry (f : ((List Ent) → (Ent → Ent → Option Int) → Option Bool)) : Prop := ∀ (s0 : S) (v0 : Value) (v1 : Value) (a0 : (List Ent)) (a1 : (Ent → Ent → Option Int)) (r : Bool), RpV s0 a0 v0 → Fn2 Go.Proofs.Try.prog s0 v1 a1 → f a0 a1 = some r → Ctr Go.Proofs.Try.prog 103 [v0, v1] s0 (fun v τ => RpV τ r v)

theorem ok_value_ascending_api_Entry : S_value_ascending_api_Entry value_ascending_api_Entry := by
 intro s0 v0 v1 a0 a1 r hp0 hp1 hf
 obtain ⟨A1, c2, rfl, h3⟩ := RpV.list hp0
 obtain ⟨kk1, fi1, ca1, rfl, hk1⟩ := hp1
 unfold value_ascending_api_Entry at hf
 have E0 : ExtB s0.N s0 s0 := ExtB.refl _ _
 refine ctr_of 24 func103 rfl rfl rfl rfl ?_
 refine j2 (j3 ?_)
 refine r_assign (bv false) rfl rfl ?_
 refine j0 (j1 (j2 (j2 (j3 ?_))))
 refine r_assign (iv 1) rfl rfl ?_
 refine j0 (j1 (j4 ?_))
 refine gen_F fun F4 hg5 => ?_
 have f6 : F4 0 = (lv A1 a0.length c2) := (hg5 0).trans rfl
 have f7 : F4 1 = (.func (.func kk1) (List.toArray fi1) (List.toArray ca1)) := (hg5 1).trans rfl
 have f9 : F4 5 = (iv 1) := (hg5 5).trans rfl
 obtain ⟨aM, aN, hf⟩ := bind_some hf
 refine wp_mono (wp_iter (step := value_ascending_api_Entry_l1 a0 a1) (fun q a w => ∃ (F : Fr) (τ : S), a = fr 24 F ∧ w = τ.w ∧ Agr [4, 5, 6, 7, 8, 9, 10, 11, 12, 13, 14, 15, 16, 17, 18, 19, 20, 21, 22, 23] F F4 ∧ ExtB s0.N s0 τ ∧ Wext s0 τ ∧ F 5 = (iv q)) (fun o e a w => match o with | .inl q => e = .exit 0 ∧ ∃ (F : Fr) (τ : S), a = fr 24 F ∧ w = τ.w ∧ Agr [4, 5, 6, 7, 8, 9, 10, 11, 12, 13, 14, 15, 16, 17, 18, 19, 20, 21, 22, 23] F F4 ∧ ExtB s0.N s0 τ ∧ Wext s0 τ ∧ F 5 = (iv q) | .inr r => e = .ret ∧ ∃ (F : Fr) (τ : S) (va : Value), a = fr 24 F ∧ w = τ.w ∧ ExtB s0.N s0 τ ∧ ResV prog 24 F τ.w (.tmp 4) va ∧ RpV τ r va) (by rintro (_ | _) a w ⟨h, _⟩ <;> cases h) ?_ _ _ _ _ _ aN ?_) ?_
 ·intro ac fl a w hf hI
  obtain ⟨_, _, rfl, rfl, aD, aF, aE, al⟩ := hI
  unfold value_ascending_api_Entry_l1 at hf
  have aG := (aD 0 rfl).trans f6
  have aO := (aD 1 rfl).trans f7
  refine j2 (j2 (j3 ?_))
  refine r_move (iv ac) al rfl ?_
  refine r_move (lv A1 a0.length c2) aG rfl ?_
  refine r_len A1 a0.length c2 rfl rfl underlying24 ?_
  refine r_bin (iv ac) (iv (a0.length : Int)) (bv (decide (ac < (a0.length : Int)))) rfl rfl rfl rfl (b_lss) ?_
  refine j0 (j1 ?_)
  refine if_else hf (fun aH hf => ?_) (fun aH hf => ?_)
  ·refine c_true rfl aH rfl ?_
   refine ja (j1 (j2 (j4 (j2 ?_))))
   obtain ⟨x20, aP, hf⟩ := bind_some hf
   obtain ⟨x22, aQ, hf⟩ := bind_some hf
   obtain ⟨am, aR, hf⟩ := bind_some hf
   refine wp_draw (B := frExt s0.N) (sm 12 12) [[], [], [], [2], [1, 2, 3], [1, 2, 3, 4], [], [], [6, 7], [6, 7, 8], rg 10, rg 11] [Fct.eqv (.func (.func kk1) (List.toArray fi1) (List.toArray ca1)), Fct.eqv (lv A1 a0.length c2), Fct.eqv (iv ac), Fct.eqv (iv (w64 (ac - 1))), Fct.elem (x20 : Ent), Fct.data (x20 : Ent), Fct.eqv (lv A1 a0.length c2), Fct.eqv (iv ac), Fct.elem (x22 : Ent), Fct.data (x22 : Ent), Fct.eqv (iv am), Fct.eqv (bv (decide (0 ≤ am)))] (fun D F τ => True) (by kernel_rfl) rfl (by decide) (by decide) trivial (by decide) (by decide) ⟨?_, ?_, ?_, ?_, ?_, ?_, ?_, ?_, ?_, ?_, ?_, ?_, trivial⟩ ?_
   ·intro _ _ _ _ _ _ _ _ ab aa _
    refine r_move (.func (.func kk1) (List.toArray fi1) (List.toArray ca1)) ((aa 1 rfl).trans aO) rfl ?_
    exact d0 ⟨rfl, ab⟩
   ·intro _ _ _ _ _ _ _ _ ab aa _
    refine r_move (lv A1 a0.length c2) ((aa 0 rfl).trans aG) rfl ?_
    exact d0 ⟨rfl, ab⟩
   ·intro _ _ _ _ _ _ _ _ ab aa _
    refine r_move (iv ac) ((aa 5 rfl).trans al) rfl ?_
    exact d0 ⟨rfl, ab⟩
   ·intro _ _ _ _ _ _ _ _ ab _ aa
    refine r_bin (iv ac) (iv 1) (iv (w64 (ac - 1))) (aa 2 rfl 14 rfl) rfl rfl rfl (b_sub) ?_
    exact d0 ⟨rfl, ab⟩
   ·intro _ _ _ _ _ _ _ ab aa _ ad
    refine r_indexAddr (T := 24) (E := 65) ((h3.mono aE).mono ab) aP (ad 1 rfl 13 rfl) (ad 3 rfl 15 rfl) rfl rfl underlying24 sz65 ?_
    intro _ _ _ ae af
    obtain ⟨_, _, _, _, _, _, _, _, _, _, rfl, ag, ah, ai, aj, ak⟩ := Ent.cells_iff.1 ae
    exact d0 ⟨⟨_, _, _, rfl, (Ent.cells_iff.2 ⟨_, _, _, _, _, _, _, _, _, _, rfl, ag, ah, ai, aj, ak⟩), af⟩, aa⟩
   ·intro _ ab aa _ _ _ _ _ ad _ ae
    obtain ⟨af, ag, _, ah, ai, aj⟩ : (Fct.elem (x20 : Ent)).p (ab 16) aa := ae 4 rfl 16 rfl
    obtain ⟨ak, an, ao, ap, aq, ar, au, av, aw, ax, rfl, ay, az, aA, aB, aC⟩ := Ent.cells_iff.1 ai
    refine r_load af ag (.agg #[lv ak x20.Args.length an, bv x20.Fails, iv x20.Result.Kind, iv x20.Result.Int_, tv x20.Result.Text, lv ao x20.Result.Kids.length ap, lv aq x20.Result.Keys.length ar, lv au x20.Result.Entries.length av, lv aw x20.Result.Labels.length ax]) ah rfl (loads_row tr65 aj.2) ?_
    exact d0 ⟨(Ent.rpvMk (v := x20) ay az aA aB aC), ad⟩
   ·intro _ _ _ _ _ _ _ _ ab aa _
    refine r_move (lv A1 a0.length c2) ((aa 0 rfl).trans aG) rfl ?_
    exact d0 ⟨rfl, ab⟩
   ·intro _ _ _ _ _ _ _ _ ab aa _
    refine r_move (iv ac) ((aa 5 rfl).trans al) rfl ?_
    exact d0 ⟨rfl, ab⟩
   ·intro _ _ _ _ _ _ _ ab aa _ ad
    refine r_indexAddr (T := 24) (E := 65) ((h3.mono aE).mono ab) aQ (ad 6 rfl 18 rfl) (ad 7 rfl 19 rfl) rfl rfl underlying24 sz65 ?_
    intro _ _ _ ae af
    obtain ⟨_, _, _, _, _, _, _, _, _, _, rfl, ag, ah, ai, aj, ak⟩ := Ent.cells_iff.1 ae
    exact d0 ⟨⟨_, _, _, rfl, (Ent.cells_iff.2 ⟨_, _, _, _, _, _, _, _, _, _, rfl, ag, ah, ai, aj, ak⟩), af⟩, aa⟩
   ·intro _ ab aa _ _ _ _ _ ad _ ae
    obtain ⟨af, ag, _, ah, ai, aj⟩ : (Fct.elem (x22 : Ent)).p (ab 20) aa := ae 8 rfl 20 rfl
    obtain ⟨ak, an, ao, ap, aq, ar, au, av, aw, ax, rfl, ay, az, aA, aB, aC⟩ := Ent.cells_iff.1 ai
    refine r_load af ag (.agg #[lv ak x22.Args.length an, bv x22.Fails, iv x22.Result.Kind, iv x22.Result.Int_, tv x22.Result.Text, lv ao x22.Result.Kids.length ap, lv aq x22.Result.Keys.length ar, lv au x22.Result.Entries.length av, lv aw x22.Result.Labels.length ax]) ah rfl (loads_row tr65 aj.2) ?_
    exact d0 ⟨(Ent.rpvMk (v := x22) ay az aA aB aC), ad⟩
   ·intro _ ab aa _ _ _ ad _ _ _ ae
    have af := aF.trans ad
    have ag : RpV aa (x20 : Ent) (ab 17) := ae 5 rfl 17 rfl
    obtain ⟨ah, ai, aj, ak, an, ao, ap, aq, ar, au, av, aw, ax, ay, az, aA⟩ := Ent.rpv ag
    have aB : RpV aa (x22 : Ent) (ab 21) := ae 9 rfl 21 rfl
    obtain ⟨aC, aS, aT, aU, aV, aW, aX, aY, aZ, a2, a3, a4, a5, a6, a7, a8⟩ := Ent.rpv aB
    refine r_callv [.agg #[lv ah x20.Args.length ai, bv x20.Fails, iv x20.Result.Kind, iv x20.Result.Int_, tv x20.Result.Text, lv aj x20.Result.Kids.length ak, lv an x20.Result.Keys.length ao, lv ap x20.Result.Entries.length aq, lv ar x20.Result.Labels.length au], .agg #[lv aC x22.Args.length aS, bv x22.Fails, iv x22.Result.Kind, iv x22.Result.Int_, tv x22.Result.Text, lv aT x22.Result.Kids.length aU, lv aV x22.Result.Keys.length aW, lv aX x22.Result.Entries.length aY, lv aZ x22.Result.Labels.length a2]] (ae 0 rfl 12 rfl) rfl (evs2 av a3) rfl (hk1 aa af _ _ _ _ _ (Ent.rpvMk (v := x20) aw ax ay az aA) (Ent.rpvMk (v := x22) a4 a5 a6 a7 a8) aR) ?_
    intro _ _ a9 ba
    obtain rfl := RpV.int ba
    exact d1 af (Nat.le_refl _) a9 ⟨rfl, trivial⟩
   ·intro _ _ _ _ _ _ _ _ ab _ aa
    refine r_bin (iv am) (iv 0) (bv (decide (0 ≤ am))) (aa 10 rfl 22 rfl) rfl rfl rfl (b_geq) ?_
    exact d0 ⟨rfl, ab⟩
   intro bb _ bc bd _ aJ be
   have aK := aF.trans bc
   have bf := (aJ 5 rfl).trans al
   have aL : bb 23 = (bv (decide (0 ≤ am))) := be 11 23 rfl
   refine j1 ?_
   refine if_else hf (fun aI hf => ?_) (fun aI hf => ?_)
   ·refine c_true aL aI rfl ?_
    refine j2 (j3 ?_)
    refine r_assign (bv false) rfl rfl ?_
    refine j0 (j1 (jb (j7 (j9 ?_))))
    obtain rfl := oi hf
    exact ⟨rfl, _, _, (bv false), rfl, rfl, aK, ⟨rfl, rfl⟩, (RpV.mkBool _ _)⟩
   refine c_false aL aI rfl ?_
   refine ja (j5 (j1 (j3 ?_)))
   refine r_move (iv ac) bf rfl ?_
   refine r_bin (iv ac) (iv 1) (iv (w64 (ac + 1))) rfl rfl rfl rfl (b_add) ?_
   refine r_assign (iv (w64 (ac + 1))) rfl rfl ?_
   refine j0 ?_
   obtain rfl := oi hf
   exact ⟨rfl, _, _, rfl, rfl, (((((((((aD).put rfl).put rfl).put rfl).put rfl).draw aJ rfl).put rfl).put rfl).put rfl), aK, (((Wext.refl _).trans aE).trans bd), rfl⟩
  refine c_false rfl aH rfl ?_
  refine jc (j8 ?_)
  obtain rfl := oi hf
  exact ⟨rfl, _, _, rfl, rfl, (((((aD).put rfl).put rfl).put rfl).put rfl), aF, ((Wext.refl _).trans aE), al⟩
 ·exact ⟨_, _, rfl, rfl, (Agr.refl _ _), E0, (Wext.refl _), f9⟩
 intro e a w hp
 rcases aM with bl | r
 ·replace hf := onEnd_inl hf
  obtain ⟨rfl, _, _, rfl, rfl, _, bg, _, _⟩ := hp
  refine j6 (j1 (j2 (j3 ?_)))
  refine r_assign (bv true) rfl rfl ?_
  refine j0 (j1 (jb ?_))
  obtain rfl := oi hf
  refine ret_one (bv true) rfl ⟨rfl, rfl⟩ bg ?_
  exact (RpV.mkBool _ _)
 replace hf := onEnd_inr hf
 obtain ⟨rfl, _, _, bh, rfl, rfl, bi, bj, bk⟩ := hp
 refine j7 (j9 ?_)
 obtain rfl := oi hf
 refine ret_one bh rfl bj bi ?_
 exact bk

def S_value_Equal (f : (Val → Val → Option Bool)) : Prop := ∀ (s0 : S) (v0 : Value) (v1 : Value) (a0 : Val) (a1 : Val) (r : Bool), RpV s0 a0 v0 → RpV s0 a1 v1 → f a0 a1 = some r → Ctr Go.Proofs.Try.prog 14 [v0, v1] s0 (fun v τ => RpV τ r v)

theorem ok_value_Equal (fuel : Nat) : S_value_Equal (value_Equal fuel) := by
 intro s0 v0 v1 a0 a1 r hp0 hp1 hf
 obtain ⟨A1, c2, A4, c5, A7, c8, ac, ad, rfl, h3, h6, h9, ao⟩ := Val.rpv hp0
 obtain ⟨ae, af, ag, ah, ai, aj, ak, al, rfl, ap, aq, ar, au⟩ := Val.rpv hp1
 unfold value_Equal at hf
 have E0 : ExtB s0.N s0 s0 := ExtB.refl _ _
 refine ctr_of 9 func14 rfl rfl rfl rfl ?_
 refine j2 (j3 ?_)
 refine r_box (B := s0.N) 1 E0.size (Val.ag a0 A1 c2 A4 c5 A7 c8 ac ad) (Val.cs a0 A1 c2 A4 c5 A7 c8 ac ad) rfl rfl rfl ?_
 intro _ av ab aw
 have an := E0.x ab
 refine r_box (B := s0.N) 2 an.size (Val.ag a1 ae af ag ah ai aj ak al) (Val.cs a1 ae af ag ah ai aj ak al) rfl rfl rfl ?_
 intro _ ax aa ay
 have az := an.x aa
 refine r_assign (bv false) rfl rfl ?_
 refine j0 (j1 (j2 (j3 ?_)))
 refine r_load av 0 (Val.ag a0 A1 c2 A4 c5 A7 c8 ac ad) rfl rfl (loads_row tr27 (Blk.range (aw.ext aa) 0 (Val.cs a0 A1 c2 A4 c5 A7 c8 ac ad) rfl)) ?_
 refine r_load ax 0 (Val.ag a1 ae af ag ah ai aj ak al) rfl rfl (loads_row tr27 (Blk.range ay 0 (Val.cs a1 ae af ag ah ai aj ak al) rfl)) ?_
 obtain ⟨am, aA, hf⟩ := bind_some hf
 refine r_call [Val.ag a0 A1 c2 A4 c5 A7 c8 ac ad, Val.ag a1 ae af ag ah ai aj ak al] (evs2 rfl rfl) rfl ((ok_value_Compare fuel) _ _ _ _ _ _ (Val.rpvMk (v := a0) ((h3.mono ab.wext).mono aa.wext) ((h6.mono ab.wext).mono aa.wext) ((h9.mono ab.wext).mono aa.wext) ((ao.mono ab.wext).mono aa.wext)) (Val.rpvMk (v := a1) ((ap.mono ab.wext).mono aa.wext) ((aq.mono ab.wext).mono aa.wext) ((ar.mono ab.wext).mono aa.wext) ((au.mono ab.wext).mono aa.wext)) aA) ?_
 intro _ _ aB aC
 have aD := az.x aB
 obtain rfl := RpV.int aC
 refine r_bin (iv am) (iv 0) (bv (am == 0)) rfl rfl rfl rfl (b_eql) ?_
 refine r_assign (bv (am == 0)) rfl rfl ?_
 refine j0 (j1 (jb ?_))
 obtain rfl := oi hf
 refine ret_one (bv (am == 0)) rfl ⟨rfl, rfl⟩ aD ?_
 exact (RpV.mkBool _ _)

def S_value_isZero (f : (Val → Option Bool)) : Prop := ∀ (s0 : S) (v0 : Value) (a0 : Val) (r : Bool), RpV s0 a0 v0 → f a0 = some r → Ctr Go.Proofs.Try.prog 108 [v0] s0 (fun v τ => RpV τ r v)

theorem ok_value_isZero (fuel : Nat) : S_value_isZero (value_isZero fuel) := by
 intro s0 v0 a0 r hp0 hf
 obtain ⟨A1, c2, A4, c5, A7, c8, aa, ab, rfl, h3, h6, h9, ae⟩ := Val.rpv hp0
 unfold value_isZero at hf
 have E0 : ExtB s0.N s0 s0 := ExtB.refl _ _
 refine ctr_of 6 func108 rfl rfl rfl rfl ?_
 refine j2 (j3 ?_)
 refine r_box (B := s0.N) 1 E0.size (Val.ag a0 A1 c2 A4 c5 A7 c8 aa ab) (Val.cs a0 A1 c2 A4 c5 A7 c8 aa ab) rfl rfl rfl ?_
 intro _ af ac ag
 have ah := E0.x ac
 refine r_assign (bv false) rfl rfl ?_
 refine j0 (j1 (j2 (j3 ?_)))
 refine r_load af 0 (Val.ag a0 A1 c2 A4 c5 A7 c8 aa ab) rfl rfl (loads_row tr27 (Blk.range ag 0 (Val.cs a0 A1 c2 A4 c5 A7 c8 aa ab) rfl)) ?_
 refine r_build tst27 [] [iv 0, iv 0, tv (⟨#[]⟩), nl Val, nl Key, nl Ent, nl ByteArray] eps_nil rfl rfl ?_
 obtain ⟨ad, ai, hf⟩ := bind_some hf
 refine r_call [Val.ag a0 A1 c2 A4 c5 A7 c8 aa ab, .agg #[iv 0, iv 0, tv (⟨#[]⟩), nl Val, nl Key, nl Ent, nl ByteArray]] (evs2 rfl rfl) rfl ((ok_value_Equal fuel) _ _ _ _ _ _ (Val.rpvMk (v := a0) (h3.mono ac.wext) (h6.mono ac.wext) (h9.mono ac.wext) (ae.mono ac.wext)) (Val.rpvMk (v := (Val.mk 0 0 (⟨#[]⟩) ([] : List Val) ([] : List Key) ([] : List Ent) ([] : List ByteArray))) (Sl.nil_ _ _ _ (Nat.zero_le _)) (Sl.nil_ _ _ _ (Nat.zero_le _)) (Sl.nil_ _ _ _ (Nat.zero_le _)) (Sl.nil_ _ _ _ (Nat.zero_le _))) ai) ?_
 intro _ _ aj ak
 have al := ah.x aj
 obtain rfl := RpV.bool ak
 refine r_assign (bv ad) rfl rfl ?_
 refine j0 (j1 (jb ?_))
 obtain rfl := oi hf
 refine ret_one (bv ad) rfl ⟨rfl, rfl⟩ al ?_
 exact (RpV.mkBool _ _)

def S_value_validEntry (f : (Ent → Int → Option Bool)) : Prop := ∀ (s0 : S) (v0 : Value) (v1 : Value) (a0 : Ent) (a1 : Int) (r : Bool), RpV s0 a0 v0 → RpV s0 a1 v1 → f a0 a1 = some r → Ctr Go.Proofs.Try.prog 104 [v0, v1] s0 (fun v τ => RpV τ r v)

theorem ok_value_validEntry (fuel : Nat) : S_value_validEntry (value_validEntry fuel) := by
 intro s0 v0 v1 a0 a1 r hp0 hp1 hf
 obtain ⟨A1, c2, A4, c5, A7, c8, ae, af, ag, ah, rfl, h3, h6, h9, aq, ar⟩ := Ent.rpv hp0
 obtain rfl := RpV.int hp1
 unfold value_validEntry at hf
 have E0 : ExtB s0.N s0 s0 := ExtB.refl _ _
 refine ctr_of 20 func104 rfl rfl rfl rfl ?_
 refine j2 (j3 ?_)
 refine r_box (B := s0.N) 1 E0.size (.agg #[lv A1 a0.Args.length c2, bv a0.Fails, iv a0.Result.Kind, iv a0.Result.Int_, tv a0.Result.Text, lv A4 a0.Result.Kids.length c5, lv A7 a0.Result.Keys.length c8, lv ae a0.Result.Entries.length af, lv ag a0.Result.Labels.length ah]) [lv A1 a0.Args.length c2, bv a0.Fails, iv a0.Result.Kind, iv a0.Result.Int_, tv a0.Result.Text, lv A4 a0.Result.Kids.length c5, lv A7 a0.Result.Keys.length c8, lv ae a0.Result.Entries.length af, lv ag a0.Result.Labels.length ah] rfl rfl rfl ?_
 intro au ad ai al
 have am := E0.x ai
 refine r_assign (bv false) rfl rfl ?_
 refine j0 (j1 (j2 (j3 ?_)))
 refine r_fieldAddr ad 0 0 0 rfl rfl fo65_0 rfl ?_
 refine r_load ad 0 (lv A1 a0.Args.length c2) rfl rfl (loads_one to22 ((al.cell 0).trans rfl)) ?_
 refine r_len A1 a0.Args.length c2 rfl rfl underlying22 ?_
 refine r_move (iv a1) rfl rfl ?_
 refine r_bin (iv (a0.Args.length : Int)) (iv a1) (bv ((a0.Args.length : Int) == a1)) rfl rfl rfl rfl (b_eql) ?_
 refine r_move (bv ((a0.Args.length : Int) == a1)) rfl rfl ?_
 refine if_else hf (fun aa hf => ?_) (fun aa hf => ?_)
 ·refine r_guard (j := 5) (want := true) (d := 10) (c := ((a0.Args.length : Int) == a1)) (v := true) rfl rfl aa rfl rfl ?_
  refine r_fieldAddr ad 0 1 1 rfl rfl fo65_1 rfl ?_
  refine r_guard (j := 5) (want := true) (d := 10) (c := ((a0.Args.length : Int) == a1)) (v := true) rfl rfl aa rfl rfl ?_
  refine r_load ad 1 (bv a0.Fails) rfl rfl (loads_one to4 ((al.cell 1).trans rfl)) ?_
  refine r_guard (j := 5) (want := true) (d := 10) (c := ((a0.Args.length : Int) == a1)) (v := true) rfl rfl aa rfl rfl ?_
  refine r_un (bv a0.Fails) (bv (!a0.Fails)) rfl rfl u_not ?_
  refine r_guard (j := 5) (want := true) (d := 10) (c := ((a0.Args.length : Int) == a1)) (v := true) rfl rfl aa rfl rfl ?_
  refine r_move (bv (!a0.Fails)) rfl rfl ?_
  refine gen_FL fun aj an => ?_
  have av : aj 2 = (.pointer (some ⟨ad, 0, none⟩)) := (an 2).trans rfl
  have ao : aj 10 = (bv ((a0.Args.length : Int) == a1)) := (an 10).trans rfl
  have ac : aj 14 = (bv (!a0.Fails)) := (an 14).trans rfl
  obtain ⟨ak, hq29, hf⟩ := bind_some hf
  refine wpl_take 4 (J := fun a w => ∃ (F : Fr) (τ : S), a = fr 20 F ∧ w = τ.w ∧ Agr [15, 16, 17, 18] F aj ∧ ExtB s0.N s0 τ ∧ Wext au τ ∧ F 18 = (bv ak)) ?_ ?_
  ·have hf := hq29
   refine if_else hf (fun ab hf => ?_) (fun ab hf => ?_)
   ·refine r_skip (j := 9) (want := false) (d := 14) (c := !a0.Fails) (v := true) rfl ac ab rfl rfl ?_
    refine r_skip (j := 9) (want := false) (d := 14) (c := !a0.Fails) (v := true) rfl ac ab rfl rfl ?_
    refine r_skip (j := 9) (want := false) (d := 14) (c := !a0.Fails) (v := true) rfl ac ab rfl rfl ?_
    refine r_guard (j := 5) (want := true) (d := 10) (c := ((a0.Args.length : Int) == a1)) (v := true) rfl ao aa rfl rfl ?_
    refine r_pick_t (c := !a0.Fails) (bv true) ac ab rfl rfl rfl rfl ?_
    refine j0 ?_
    obtain rfl := oi hf
    exact ⟨rfl, _, _, rfl, rfl, (((((Agr.refl _ _).put rfl).put rfl).put rfl).put rfl), am, (Wext.refl _), rfl⟩
   refine r_guard (j := 9) (want := false) (d := 14) (c := !a0.Fails) (v := false) rfl ac ab rfl rfl ?_
   refine r_fieldAddr ad 0 2 2 av rfl fo65_2 rfl ?_
   refine r_guard (j := 9) (want := false) (d := 14) (c := !a0.Fails) (v := false) rfl ac ab rfl rfl ?_
   refine r_load ad 2 (Val.ag a0.Result A4 c5 A7 c8 ae af ag ah) rfl rfl (loads_row tr27 (Blk.range al 2 (Val.cs a0.Result A4 c5 A7 c8 ae af ag ah) rfl)) ?_
   refine r_guard (j := 9) (want := false) (d := 14) (c := !a0.Fails) (v := false) rfl ac ab rfl rfl ?_
   obtain ⟨aw, ax, hf⟩ := bind_some hf
   refine r_call [Val.ag a0.Result A4 c5 A7 c8 ae af ag ah] (evs1 rfl) rfl ((ok_value_isZero fuel) _ _ _ _ (Val.rpvMk (v := a0.Result) (h6.mono ai.wext) (h9.mono ai.wext) (aq.mono ai.wext) (ar.mono ai.wext)) ax) ?_
   intro _ _ ap ay
   have az := am.x ap
   obtain rfl := RpV.bool ay
   refine r_guard (j := 5) (want := true) (d := 10) (c := ((a0.Args.length : Int) == a1)) (v := true) rfl ao aa rfl rfl ?_
   refine r_pick_f (c := !a0.Fails) (bv aw) ac ab rfl rfl rfl rfl ?_
   refine j0 ?_
   obtain rfl := oi hf
   exact ⟨rfl, _, _, rfl, rfl, (((((Agr.refl _ _).put rfl).put rfl).put rfl).put rfl), az, ((Wext.refl _).trans ap.wext), rfl⟩
  rintro a w ⟨aE, aF, rfl, rfl, aA, aB, aG, aC⟩
  have aD := (aA 10 rfl).trans ao
  refine r_pick_t (c := ((a0.Args.length : Int) == a1)) (bv ak) aD aa aC rfl rfl rfl ?_
  refine r_assign (bv ak) rfl rfl ?_
  refine j0 (j1 (jb ?_))
  obtain rfl := oi hf
  refine ret_one (bv ak) rfl ⟨rfl, rfl⟩ aB ?_
  exact (RpV.mkBool _ _)
 refine r_skip (j := 5) (want := true) (d := 10) (c := ((a0.Args.length : Int) == a1)) (v := false) rfl rfl aa rfl rfl ?_
 refine r_skip (j := 5) (want := true) (d := 10) (c := ((a0.Args.length : Int) == a1)) (v := false) rfl rfl aa rfl rfl ?_
 refine r_skip (j := 5) (want := true) (d := 10) (c := ((a0.Args.length : Int) == a1)) (v := false) rfl rfl aa rfl rfl ?_
 refine r_skip (j := 5) (want := true) (d := 10) (c := ((a0.Args.length : Int) == a1)) (v := false) rfl rfl aa rfl rfl ?_
 refine r_skipu (j := 9) (d := 14) rfl rfl rfl ?_
 refine r_skipu (j := 9) (d := 14) rfl rfl rfl ?_
 refine r_skipu (j := 9) (d := 14) rfl rfl rfl ?_
 refine r_skip (j := 5) (want := true) (d := 10) (c := ((a0.Args.length : Int) == a1)) (v := false) rfl rfl aa rfl rfl ?_
 refine r_pick_f (c := ((a0.Args.length : Int) == a1)) (bv false) rfl aa rfl rfl rfl rfl ?_
 refine r_assign (bv false) rfl rfl ?_
 refine j0 (j1 (jb ?_))
 obtain rfl := oi hf
 refine ret_one (bv false) rfl ⟨rfl, rfl⟩ am ?_
 exact (RpV.mkBool _ _)

def S_value_validFunction (f : (Val → Option Bool)) : Prop := ∀ (s0 : S) (v0 : Value) (a0 : Val) (r : Bool), RpV s0 a0 v0 → f a0 = some r → Ctr Go.Proofs.Try.prog 84 [v0] s0 (fun v τ => RpV τ r v)

theorem ok_value_validFunction (fuel : Nat) : S_value_validFunction (value_validFunction fuel) := by
 intro s0 v0 a0 r hp0 hf
 obtain ⟨A1, c2, A4, c5, A7, c8, ar, au, rfl, h3, h6, h9, _⟩ := Val.rpv hp0
 unfold value_validFunction at hf
 have E0 : ExtB s0.N s0 s0 := ExtB.refl _ _
 refine ctr_of 32 func84 rfl rfl rfl rfl ?_
 refine j2 (j3 ?_)
 refine r_box (B := s0.N) 1 E0.size (Val.ag a0 A1 c2 A4 c5 A7 c8 ar au) (Val.cs a0 A1 c2 A4 c5 A7 c8 ar au) rfl rfl rfl ?_
 intro aX aa aC ay
 have aO := E0.x aC
 refine r_assign (bv false) rfl rfl ?_
 refine j0 (j1 (j2 (j2 (j3 ?_))))
 refine r_fieldAddr aa 0 1 1 rfl rfl fo27_1 rfl ?_
 refine r_load aa 1 (iv a0.Int_) rfl rfl (loads_one to2 ((ay.cell 1).trans rfl)) ?_
 refine r_bin (iv a0.Int_) (iv 0) (bv (decide (a0.Int_ < 0))) rfl rfl rfl rfl (b_lss) ?_
 refine r_move (bv (decide (a0.Int_ < 0))) rfl rfl ?_
 refine gen_FL fun aD aP => ?_
 have aQ : aD 1 = (.pointer (some ⟨aa, 0, none⟩)) := (aP 1).trans rfl
 have ag : aD 8 = (bv (decide (a0.Int_ < 0))) := (aP 8).trans rfl
 obtain ⟨ab, hq24, hf⟩ := bind_some hf
 refine wpl_take 4 (J := fun a w => ∃ (F : Fr) (τ : S), a = fr 32 F ∧ w = τ.w ∧ Agr [9, 10, 11, 12] F aD ∧ ExtB s0.N s0 τ ∧ Wext aX τ ∧ F 12 = (bv ab) ∧ Blk s0.N 1 τ aa 27 (Val.cs a0 A1 c2 A4 c5 A7 c8 ar au)) ?_ ?_
 ·have hf := hq24
  refine if_else hf (fun ad hf => ?_) (fun ad hf => ?_)
  ·refine r_skip (j := 3) (want := false) (d := 8) (c := decide (a0.Int_ < 0)) (v := true) rfl ag ad rfl rfl ?_
   refine r_skip (j := 3) (want := false) (d := 8) (c := decide (a0.Int_ < 0)) (v := true) rfl ag ad rfl rfl ?_
   refine r_skip (j := 3) (want := false) (d := 8) (c := decide (a0.Int_ < 0)) (v := true) rfl ag ad rfl rfl ?_
   refine r_pick_t (c := decide (a0.Int_ < 0)) (bv true) ag ad rfl rfl rfl rfl ?_
   refine j0 ?_
   obtain rfl := oi hf
   exact ⟨rfl, _, _, rfl, rfl, (((((Agr.refl _ _).put rfl).put rfl).put rfl).put rfl), aO, (Wext.refl _), rfl, ay⟩
  refine r_guard (j := 3) (want := false) (d := 8) (c := decide (a0.Int_ < 0)) (v := false) rfl ag ad rfl rfl ?_
  refine r_fieldAddr aa 0 1 1 aQ rfl fo27_1 rfl ?_
  refine r_guard (j := 3) (want := false) (d := 8) (c := decide (a0.Int_ < 0)) (v := false) rfl ag ad rfl rfl ?_
  refine r_load aa 1 (iv a0.Int_) rfl rfl (loads_one to2 ((ay.cell 1).trans rfl)) ?_
  refine r_guard (j := 3) (want := false) (d := 8) (c := decide (a0.Int_ < 0)) (v := false) rfl ag ad rfl rfl ?_
  refine r_bin (iv a0.Int_) (iv 4) (bv (decide (4 < a0.Int_))) rfl rfl rfl rfl (b_gtr) ?_
  refine r_pick_f (c := decide (a0.Int_ < 0)) (bv (decide (4 < a0.Int_))) ag ad rfl rfl rfl rfl ?_
  refine j0 ?_
  obtain rfl := oi hf
  exact ⟨rfl, _, _, rfl, rfl, (((((Agr.refl _ _).put rfl).put rfl).put rfl).put rfl), aO, (Wext.refl _), rfl, ay⟩
 rintro a w ⟨bA, bB, rfl, rfl, aY, aR, aS, aZ, aE⟩
 have aF := (aY 1 rfl).trans aQ
 refine r_move (bv ab) aZ rfl ?_
 refine if_else hf (fun ac hf => ?_) (fun ac hf => ?_)
 ·refine r_skip (j := 8) (want := false) (d := 13) (c := ab) (v := true) rfl rfl ac rfl rfl ?_
  refine r_skip (j := 8) (want := false) (d := 13) (c := ab) (v := true) rfl rfl ac rfl rfl ?_
  refine r_skip (j := 8) (want := false) (d := 13) (c := ab) (v := true) rfl rfl ac rfl rfl ?_
  refine r_skip (j := 8) (want := false) (d := 13) (c := ab) (v := true) rfl rfl ac rfl rfl ?_
  refine r_pick_t (c := ab) (bv true) rfl ac rfl rfl rfl rfl ?_
  refine j0 (j1 ?_)
  refine c_true rfl rfl rfl ?_
  refine j2 (j3 ?_)
  refine r_assign (bv false) rfl rfl ?_
  refine j0 (j1 (jb (j9 ?_)))
  obtain rfl := oi hf
  refine ret_one (bv false) rfl ⟨rfl, rfl⟩ aR ?_
  exact (RpV.mkBool _ _)
 refine r_guard (j := 8) (want := false) (d := 13) (c := ab) (v := false) rfl rfl ac rfl rfl ?_
 refine r_fieldAddr aa 0 5 5 aF rfl fo27_5 rfl ?_
 refine r_guard (j := 8) (want := false) (d := 13) (c := ab) (v := false) rfl rfl ac rfl rfl ?_
 refine r_load aa 5 (lv A7 a0.Entries.length c8) rfl rfl (loads_one to24 ((aE.cell 5).trans rfl)) ?_
 refine r_guard (j := 8) (want := false) (d := 13) (c := ab) (v := false) rfl rfl ac rfl rfl ?_
 obtain ⟨aG, a1, hf⟩ := bind_some hf
 refine r_call [lv A7 a0.Entries.length c8, .func (.func 44) #[] #[]] (evs2 rfl rfl) rfl (ok_value_ascending_api_Entry _ _ _ _ _ _ (RpV.mkList ((h9.mono aC.wext).mono aS)) ⟨44, [], [], rfl, fun _ _ _ _ _ _ _ h1 h2 h => ((ok_value_compareEntries fuel) _ _ _ _ _ _ h1 h2 h)⟩ a1) ?_
 intro _ aT az a2
 have aU := aR.x az
 obtain rfl := RpV.bool a2
 refine r_guard (j := 8) (want := false) (d := 13) (c := ab) (v := false) rfl rfl ac rfl rfl ?_
 refine r_un (bv aG) (bv (!aG)) rfl rfl u_not ?_
 refine r_pick_f (c := ab) (bv (!aG)) rfl ac rfl rfl rfl rfl ?_
 refine j0 (j1 ?_)
 refine if_else hf (fun aH hf => ?_) (fun aH hf => ?_)
 ·refine c_true rfl aH rfl ?_
  refine j2 (j3 ?_)
  refine r_assign (bv false) rfl rfl ?_
  refine j0 (j1 (jb (j9 ?_)))
  obtain rfl := oi hf
  refine ret_one (bv false) rfl ⟨rfl, rfl⟩ aU ?_
  exact (RpV.mkBool _ _)
 refine c_false rfl aH rfl ?_
 refine ja (j1 (j2 (j2 (j3 ?_))))
 refine r_fieldAddr aa 0 5 5 aF rfl fo27_5 rfl ?_
 refine r_load aa 5 (lv A7 a0.Entries.length c8) rfl rfl (loads_one to24 (((aE.ext az).cell 5).trans rfl)) ?_
 refine r_len A7 a0.Entries.length c8 rfl rfl underlying24 ?_
 refine r_move (iv 0) rfl rfl ?_
 refine j0 (j1 (j4 ?_))
 refine gen_F fun av aA => ?_
 have a3 := (aA 1).trans aF
 have a4 : av 20 = (lv A7 a0.Entries.length c8) := (aA 20).trans rfl
 have a5 : av 21 = (iv (a0.Entries.length : Int)) := (aA 21).trans rfl
 have a6 : av 22 = (iv 0) := (aA 22).trans rfl
 obtain ⟨a7, a8, hf⟩ := bind_some hf
 refine wp_mono (wp_iter (step := value_validFunction_l1 fuel a0) (fun q a w => ∃ (F : Fr) (τ : S), a = fr 32 F ∧ w = τ.w ∧ Agr [2, 4, 22, 23, 24, 25, 26, 27, 28, 29, 30, 31] F av ∧ ExtB s0.N s0 τ ∧ Wext aT τ ∧ F 22 = (iv q) ∧ Blk s0.N 1 τ aa 27 (Val.cs a0 A1 c2 A4 c5 A7 c8 ar au)) (fun o e a w => match o with | .inl q => e = .exit 0 ∧ ∃ (F : Fr) (τ : S), a = fr 32 F ∧ w = τ.w ∧ Agr [2, 4, 22, 23, 24, 25, 26, 27, 28, 29, 30, 31] F av ∧ ExtB s0.N s0 τ ∧ Wext aT τ ∧ F 22 = (iv q) ∧ Blk s0.N 1 τ aa 27 (Val.cs a0 A1 c2 A4 c5 A7 c8 ar au) | .inr r => e = .ret ∧ ∃ (F : Fr) (τ : S) (va : Value), a = fr 32 F ∧ w = τ.w ∧ ExtB s0.N s0 τ ∧ ResV prog 32 F τ.w (.tmp 2) va ∧ RpV τ r va) (by rintro (_ | _) a w ⟨h, _⟩ <;> cases h) ?_ _ _ _ _ _ a8 ?_) ?_
 ·intro aw fl a w hf hI
  obtain ⟨_, _, rfl, rfl, ax, aI, aJ, aB, aK⟩ := hI
  unfold value_validFunction_l1 at hf
  have a9 := (ax 1 rfl).trans a3
  have ba := (ax 20 rfl).trans a4
  have bb := (ax 21 rfl).trans a5
  refine j2 (j3 ?_)
  refine r_bin (iv aw) (iv (a0.Entries.length : Int)) (bv (decide (aw < (a0.Entries.length : Int)))) aB bb rfl rfl (b_lss) ?_
  refine j0 (j1 (j2 ?_))
  refine if_else hf (fun aL hf => ?_) (fun aL hf => ?_)
  ·refine c_true rfl aL rfl ?_
   refine ja (j1 (j2 (j4 (j2 (j3 ?_)))))
   obtain ⟨x63, bc, hf⟩ := bind_some hf
   refine r_indexAddr (T := 24) (E := 65) ((((h9.mono aC.wext).mono aS).mono az.wext).mono aJ) bc ba aB rfl rfl underlying24 sz65 ?_
   intro bd be _ bf bg
   obtain ⟨ah, ai, aj, ak, al, am, an, ao, ap, aq, rfl, bh, bi, bj, bk, bl⟩ := Ent.cells_iff.1 bf
   refine r_load bd be (.agg #[lv ah x63.Args.length ai, bv x63.Fails, iv x63.Result.Kind, iv x63.Result.Int_, tv x63.Result.Text, lv aj x63.Result.Kids.length ak, lv al x63.Result.Keys.length am, lv an x63.Result.Entries.length ao, lv ap x63.Result.Labels.length aq]) rfl rfl (loads_row tr65 bg.2) ?_
   refine r_alloc (B := s0.N) 2 aI.size _ [nl Val, bv false, iv 0, iv 0, tv (⟨#[]⟩), nl Val, nl Key, nl Ent, nl ByteArray] ti65 rfl ?_
   intro _ bm ae bn
   have bo := aI.x ae
   refine r_store bn 0 (.agg #[lv ah x63.Args.length ai, bv x63.Fails, iv x63.Result.Kind, iv x63.Result.Int_, tv x63.Result.Text, lv aj x63.Result.Kids.length ak, lv al x63.Result.Keys.length am, lv an x63.Result.Entries.length ao, lv ap x63.Result.Labels.length aq]) [lv ah x63.Args.length ai, bv x63.Fails, iv x63.Result.Kind, iv x63.Result.Int_, tv x63.Result.Text, lv aj x63.Result.Kids.length ak, lv al x63.Result.Keys.length am, lv an x63.Result.Entries.length ao, lv ap x63.Result.Labels.length aq] [lv ah x63.Args.length ai, bv x63.Fails, iv x63.Result.Kind, iv x63.Result.Int_, tv x63.Result.Text, lv aj x63.Result.Kids.length ak, lv al x63.Result.Keys.length am, lv an x63.Result.Entries.length ao, lv ap x63.Result.Labels.length aq] rfl rfl rfl rfl rfl sz65 rfl rfl rfl ?_
   intro _ af bp
   have bq := bo.y af
   refine j0 (j1 (j2 (j3 ?_)))
   refine r_load bm 0 (.agg #[lv ah x63.Args.length ai, bv x63.Fails, iv x63.Result.Kind, iv x63.Result.Int_, tv x63.Result.Text, lv aj x63.Result.Kids.length ak, lv al x63.Result.Keys.length am, lv an x63.Result.Entries.length ao, lv ap x63.Result.Labels.length aq]) rfl rfl (loads_row tr65 (Blk.range bp 0 [lv ah x63.Args.length ai, bv x63.Fails, iv x63.Result.Kind, iv x63.Result.Int_, tv x63.Result.Text, lv aj x63.Result.Kids.length ak, lv al x63.Result.Keys.length am, lv an x63.Result.Entries.length ao, lv ap x63.Result.Labels.length aq] rfl)) ?_
   refine r_fieldAddr aa 0 1 1 a9 rfl fo27_1 rfl ?_
   refine r_load aa 1 (iv a0.Int_) rfl rfl (loads_one to2 ((((aK.ext ae).mod af rfl).cell 1).trans rfl)) ?_
   obtain ⟨aV, br, hf⟩ := bind_some hf
   refine r_call [.agg #[lv ah x63.Args.length ai, bv x63.Fails, iv x63.Result.Kind, iv x63.Result.Int_, tv x63.Result.Text, lv aj x63.Result.Kids.length ak, lv al x63.Result.Keys.length am, lv an x63.Result.Entries.length ao, lv ap x63.Result.Labels.length aq], iv a0.Int_] (evs2 rfl rfl) rfl ((ok_value_validEntry fuel) _ _ _ _ _ _ (Ent.rpvMk (v := x63) ((bh.mono ae.wext).mono af.wext) ((bi.mono ae.wext).mono af.wext) ((bj.mono ae.wext).mono af.wext) ((bk.mono ae.wext).mono af.wext) ((bl.mono ae.wext).mono af.wext)) (RpV.mkInt _ _) br) ?_
   intro _ _ aM bs
   have aW := bq.x aM
   obtain rfl := RpV.bool bs
   refine r_un (bv aV) (bv (!aV)) rfl rfl u_not ?_
   refine j0 (j1 ?_)
   refine if_else hf (fun aN hf => ?_) (fun aN hf => ?_)
   ·refine c_true rfl aN rfl ?_
    refine j2 (j3 ?_)
    refine r_assign (bv false) rfl rfl ?_
    refine j0 (j1 (jb (j7 (j9 ?_))))
    obtain rfl := oi hf
    exact ⟨rfl, _, _, (bv false), rfl, rfl, aW, ⟨rfl, rfl⟩, (RpV.mkBool _ _)⟩
   refine c_false rfl aN rfl ?_
   refine ja (j5 (j1 (j3 ?_)))
   refine r_bin (iv aw) (iv 1) (iv (w64 (aw + 1))) aB rfl rfl rfl (b_add) ?_
   refine r_move (iv (w64 (aw + 1))) rfl rfl ?_
   refine j0 ?_
   obtain rfl := oi hf
   exact ⟨rfl, _, _, rfl, rfl, (((((((((((((ax).put rfl).put rfl).put rfl).put rfl).put0).put rfl).put rfl).put rfl).put rfl).put rfl).put rfl).put rfl), aW, (((((Wext.refl _).trans aJ).trans ae.wext).trans af.wext).trans aM.wext), rfl, (((aK.ext ae).mod af rfl).ext aM)⟩
  refine c_false rfl aL rfl ?_
  refine jc (j8 ?_)
  obtain rfl := oi hf
  exact ⟨rfl, _, _, rfl, rfl, ((ax).put rfl), aI, ((Wext.refl _).trans aJ), aB, aK⟩
 ·exact ⟨_, _, rfl, rfl, (Agr.refl _ _), aU, (Wext.refl _), a6, (aE.ext az)⟩
 intro e a w hp
 rcases a7 with bC | r
 ·replace hf := onEnd_inl hf
  obtain ⟨rfl, _, _, rfl, rfl, _, bt, _, _, _⟩ := hp
  refine j6 (j1 (j2 (j3 ?_)))
  refine r_assign (bv true) rfl rfl ?_
  refine j0 (j1 (jb ?_))
  obtain rfl := oi hf
  refine ret_one (bv true) rfl ⟨rfl, rfl⟩ bt ?_
  exact (RpV.mkBool _ _)
 replace hf := onEnd_inr hf
 obtain ⟨rfl, _, _, bu, rfl, rfl, bw, bx, bz⟩ := hp
 refine j7 (j9 ?_)
 obtain rfl := oi hf
 refine ret_one bu rfl bx bw ?_
 exact bz

def S_value_validNode (f : (Val → Option Bool)) : Prop := ∀ (s0 : S) (v0 : Value) (a0 : Val) (r : Bool), RpV s0 a0 v0 → f a0 = some r → Ctr Go.Proofs.Try.prog 61 [v0] s0 (fun v τ => RpV τ r v)

end Go.Sx
