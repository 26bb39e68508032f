/- Printed by dec.py. The walks. -/
import Derived.Test.YtamfhohifmbjnaaWk3
namespace Go.Sx
open Go Go.RowKit
attribute [local irreducible] Go.wpList Go.Code.wp Go.Sx.Ctr Go.Sx.CtrE
set_option maxHeartbeats 1600000
set_option maxRecDepth 100000
open Go.Proofs.Try

theorem okB_semtypebase_Source_entry {rec_semtypebase_Source_Value : (Semtypebase_Source → Int → Option (Val × Semtypebase_Source))} {rec_semtypebase_Source_value : (Semtypebase_Source → Int → Option (Val × Semtypebase_Source))} {rec_semtypebase_Source_entry : (Semtypebase_Source → Int → Int → Option (Ent × Semtypebase_Source))} (fuel : Nat) (hrec_semtypebase_Source_Value : S_semtypebase_Source_Value rec_semtypebase_Source_Value) (_hrec_semtypebase_Source_value : S_semtypebase_Source_value rec_semtypebase_Source_value) (_hrec_semtypebase_Source_entry : S_semtypebase_Source_entry rec_semtypebase_Source_entry) : S_semtypebase_Source_entry (semtypebase_Source_entry_B rec_semtypebase_Source_Value rec_semtypebase_Source_value rec_semtypebase_Source_entry fuel) := by
 intro s0 v1 v2 B0 id0 b0 cs0 a0 a1 a2 r hc0 hb0 hid0 hp1 hp2 hf
 obtain ⟨A1, c2, rfl, h3⟩ := Semtypebase_Source.cells_iff.1 hc0
 obtain rfl := RpV.int hp1
 obtain rfl := RpV.int hp2
 unfold semtypebase_Source_entry_B at hf
 have E0 : ExtP s0.N B0 id0 s0 s0 := ExtP.refl _ _ _ _
 refine ctr_ofE 30 func76 rfl rfl rfl rfl ?_
 refine j2 (j3 ?_)
 refine r_alloc (B := s0.N) 1 E0.size _ [nl Val, bv false, iv 0, iv 0, tv (⟨#[]⟩), nl Val, nl Key, nl Ent, nl ByteArray] ti65 rfl ?_
 intro s5 b4 k6 hb7
 have E8 := E0.x k6
 refine j0 (j1 (j2 (j3 ?_)))
 refine r_alloc (B := s0.N) 2 E8.size _ [nl Val, bv false, iv 0, iv 0, tv (⟨#[]⟩), nl Val, nl Key, nl Ent, nl ByteArray] ti65 rfl ?_
 intro ba b9 aV bx
 have bz := E8.x aV
 refine j0 (j1 (j2 (j4 ?_)))
 refine gen_F fun aF aP => ?_
 have bb : aF 0 = (.pointer (some ⟨b0, 0, none⟩)) := (aP 0).trans rfl
 have bA : aF 1 = (iv a1) := (aP 1).trans rfl
 have bc : aF 2 = (iv a2) := (aP 2).trans rfl
 have bB : aF 6 = (.pointer (some ⟨b4, 0, none⟩)) := (aP 6).trans rfl
 have bd : aF 7 = (.pointer (some ⟨b9, 0, none⟩)) := (aP 7).trans rfl
 obtain ⟨af, bC, hf⟩ := bind_some hf
 refine wp_mono (wp_iter (step := semtypebase_Source_entry_l1 rec_semtypebase_Source_Value a2) (fun q a w => ∃ (F : Fr) (τ : S) (A1 : Option Addr) (c1 : Nat) (A2 : Option Addr) (c2 : Nat), a = fr 30 F ∧ w = τ.w ∧ Agr [1, 8, 9, 10, 11, 12, 13, 14, 15, 16, 17, 18, 19] F aF ∧ ExtP s0.N B0 id0 s0 τ ∧ Wext ba τ ∧ F 1 = (iv q.1) ∧ Blk B0 id0 τ b0 53 [lv A1 q.2.1.length c1, iv q.2.2.1] ∧ Sl τ q.2.1 A1 c1 ∧ Blk s0.N 1 τ b4 65 [nl Val, bv false, iv 0, iv 0, tv (⟨#[]⟩), nl Val, nl Key, nl Ent, nl ByteArray] ∧ Blk s0.N 2 τ b9 65 [lv A2 q.2.2.2.length c2, bv false, iv 0, iv 0, tv (⟨#[]⟩), nl Val, nl Key, nl Ent, nl ByteArray] ∧ Own s0.N 3 27 τ q.2.2.2 A2 c2) (fun q e a w => e = .exit 0 ∧ ∃ (F : Fr) (τ : S) (A1 : Option Addr) (c1 : Nat) (A2 : Option Addr) (c2 : Nat), a = fr 30 F ∧ w = τ.w ∧ Agr [1, 8, 9, 10, 11, 12, 13, 14, 15, 16, 17, 18, 19] F aF ∧ ExtP s0.N B0 id0 s0 τ ∧ Wext ba τ ∧ F 1 = (iv q.1) ∧ Blk B0 id0 τ b0 53 [lv A1 q.2.1.length c1, iv q.2.2.1] ∧ Sl τ q.2.1 A1 c1 ∧ Blk s0.N 1 τ b4 65 [nl Val, bv false, iv 0, iv 0, tv (⟨#[]⟩), nl Val, nl Key, nl Ent, nl ByteArray] ∧ Blk s0.N 2 τ b9 65 [lv A2 q.2.2.2.length c2, bv false, iv 0, iv 0, tv (⟨#[]⟩), nl Val, nl Key, nl Ent, nl ByteArray] ∧ Own s0.N 3 27 τ q.2.2.2 A2 c2) (by rintro _ a w ⟨h, _⟩; cases h) ?_ _ _ _ _ _ bC ?_) ?_
 ·intro ab fl a w hf hI
  obtain ⟨_, _, be, bf, aQ, aR, rfl, rfl, aS, aN, bg, a3, bh, bi, bj, bk, bl⟩ := hI
  unfold semtypebase_Source_entry_l1 at hf
  have bD := (aS 0 rfl).trans bb
  have bE := (aS 2 rfl).trans bc
  have bm := (aS 7 rfl).trans bd
  refine j2 (j2 (j3 ?_))
  refine r_move (iv ab.1) a3 rfl ?_
  refine r_bin (iv ab.1) (iv 0) (bv (decide (0 < ab.1))) rfl rfl rfl rfl (b_gtr) ?_
  refine j0 (j1 ?_)
  refine if_else hf (fun a4 hf => ?_) (fun a4 hf => ?_)
  ·refine c_true rfl a4 rfl ?_
   refine ja (j1 (j2 (j4 ?_)))
   obtain ⟨ae, bF, hf⟩ := bind_some hf
   obtain ⟨_, bG, hf⟩ := bind_some hf
   refine wp_draw (B := frP s0.N B0 id0) (sm 12 8 ++ [none]) [[], [0], [], [], [2, 3], [2, 3, 4], rg 6, rg 7, rg 8] [Fct.eqv (.pointer (some ⟨b9, 0, none⟩)), Fct.eqv (lv aQ ab.2.2.2.length aR), Fct.eqv (.pointer (some ⟨b0, 0, none⟩)), Fct.eqv (iv a2), Fct.data (ae.1 : Val), Fct.data ([ae.1] : (List Val)), Fct.data (ab.2.2.2 ++ [ae.1] : (List Val)), Fct.eqv (.pointer (some ⟨b9, 0, none⟩)), Fct.any] (fun D F τ => (D 4 = false → Blk B0 id0 τ b0 53 [lv be ab.2.1.length bf, iv ab.2.2.1]) ∧ (D 4 = true → (∃ (zA0 : Option Addr) (zc0 : Nat), Blk B0 id0 τ b0 53 [lv zA0 ae.2.L.length zc0, iv ae.2.At] ∧ Sl τ ae.2.L zA0 zc0)) ∧ (Blk s0.N 1 τ b4 65 [nl Val, bv false, iv 0, iv 0, tv (⟨#[]⟩), nl Val, nl Key, nl Ent, nl ByteArray]) ∧ (D 8 = false → Blk s0.N 2 τ b9 65 [lv aQ ab.2.2.2.length aR, bv false, iv 0, iv 0, tv (⟨#[]⟩), nl Val, nl Key, nl Ent, nl ByteArray]) ∧ (D 8 = true → (∃ (zA0 : Option Addr) (zc0 : Nat), Blk s0.N 2 τ b9 65 [lv zA0 (ab.2.2.2 ++ [ae.1]).length zc0, bv false, iv 0, iv 0, tv (⟨#[]⟩), nl Val, nl Key, nl Ent, nl ByteArray] ∧ Own s0.N 3 27 τ (ab.2.2.2 ++ [ae.1]) zA0 zc0)) ∧ (D 6 = false → Own s0.N 3 27 τ ab.2.2.2 aQ aR) ∧ (D 6 = true → ∃ zA zc, F 18 = (lv zA (ab.2.2.2 ++ [ae.1]).length zc) ∧ Own s0.N 3 27 τ (ab.2.2.2 ++ [ae.1]) zA zc)) (by kernel_rfl) rfl (by decide) (by decide) ⟨(fun _ => (bh.ext (ext_draw _))), (fun h => Bool.noConfusion h), (bj.ext (ext_draw _)), (fun _ => (bk.ext (ext_draw _))), (fun h => Bool.noConfusion h), (fun _ => (bl.ext (ext_draw _))), (fun h => Bool.noConfusion h)⟩ (by decide) (by decide) ⟨?_, ?_, ?_, ?_, ?_, ?_, ?_, ?_, ?_, trivial⟩ ?_
   ·intro _ _ _ _ _ _ _ _ ad ac _
    obtain ⟨_, _, _, _, _, _, _⟩ := id ad
    refine r_fieldAddr b9 0 0 0 ((ac 7 rfl).trans bm) rfl fo65_0 rfl ?_
    exact d0 ⟨rfl, ad⟩
   ·intro _ _ _ _ _ ad _ _ ac _ ax
    obtain ⟨_, _, _, ak, _, _, _⟩ := id ac
    have ay := ak (ad 8 rfl)
    refine r_load b9 0 (lv aQ ab.2.2.2.length aR) (ax 0 rfl 12 rfl) rfl (loads_one to22 ((ay.cell 0).trans rfl)) ?_
    exact d0 ⟨rfl, ac⟩
   ·intro _ _ _ _ _ _ _ _ ad ac _
    obtain ⟨_, _, _, _, _, _, _⟩ := id ad
    refine r_move (.pointer (some ⟨b0, 0, none⟩)) ((ac 0 rfl).trans bD) rfl ?_
    exact d0 ⟨rfl, ad⟩
   ·intro _ _ _ _ _ _ _ _ ad ac _
    refine r_move (iv a2) ((ac 2 rfl).trans bE) rfl ?_
    exact d0 ⟨rfl, ad⟩
   ·intro _ _ _ ad _ ac ax ak ay _ aB
    have aG := aN.trans ax
    obtain ⟨az, _, aC, aD, _, aH, _⟩ := id ay
    have al := az ad
    refine r_callE [.pointer (some ⟨b0, 0, none⟩), iv a2] (evs2 (aB 2 rfl 14 rfl) (aB 3 rfl 15 rfl)) rfl (hrec_semtypebase_Source_Value _ _ _ _ _ _ _ _ _ (Semtypebase_Source.cells_iff.2 ⟨_, _, rfl, (bi.mono ak)⟩) al hid0 (RpV.mkInt _ _) bF) ?_
    intro _ _ ai aI
    obtain ⟨aJ, _, aj, aK⟩ := aI
    obtain ⟨aT, am, rfl, aO⟩ := Semtypebase_Source.cells_iff.1 aj
    obtain ⟨_, _, _, _, _, _, _, _, rfl, a5, a6, a7, a8⟩ := Val.rpv aJ
    refine j0 ?_
    exact ⟨_, _, rfl, rfl, (ExtP.refl _ _ _ _).modp aG.size ai, (Wext.refl _).trans ai.wext, (Val.rpvMk (v := ae.1) a5 a6 a7 a8), ⟨(fun h => Bool.noConfusion h), (fun _ => ⟨aT, am, aK, aO⟩), (aC.mod ai (beq_false (by omega))), (fun y0 => ((aD y0).mod ai (beq_false (by omega)))), (nc (ac 8 rfl)), (fun h => ((aH h).mod ai (beq_false (by omega)))), (nc (ac 6 rfl))⟩⟩
   ·intro _ ad ac _ ax ak ay _ aB _ aG
    have az := aN.trans ay
    obtain ⟨_, aC, aD, aH, _, al, _⟩ := id aB
    have ai : RpV ac (ae.1 : Val) (ad 16) := aG 4 rfl 16 rfl
    obtain ⟨aI, aJ, aj, aK, aT, am, aO, a5, a6, a7, a8, bH, bI⟩ := Val.rpv ai
    refine r_buildSlice (B := s0.N) (E := 27) 4 az.size ts22 (xs := [ae.1]) [Val.ag ae.1 aI aJ aj aK aT am aO a5] (eps_cons a6 eps_nil) rfl rfl rfl (by decide) rfl (by simp [Value.cells, Rp.sz]) ⟨_, _, rfl, (Val.cells_iff.2 ⟨_, _, _, _, _, _, _, _, rfl, a7, a8, bH, bI⟩), rfl⟩ ?_
    intro _ _ _ aL bJ
    refine j0 ?_
    exact ⟨_, _, rfl, rfl, (ExtP.refl _ _ _ _).ext az.size aL, (Wext.refl _).trans aL.wext, (RpV.mkList bJ.sl), ⟨(nc (ax 4 rfl)), (fun y0 => (let ⟨zA0, zc0, zb, zf0⟩ := (aC y0); ⟨zA0, zc0, (zb.ext aL), (zf0.mono aL.wext)⟩)), (aD.ext aL), (fun y0 => ((aH y0).ext aL)), (nc (ak 8 rfl)), (fun h => ((al h).ext aL)), (nc (ak 6 rfl))⟩⟩
   ·intro _ ad ac ax ak ay aB _ aG _ az
    have aC := aN.trans aB
    obtain ⟨_, aD, aH, al, _, ai, _⟩ := id aG
    have aI : RpV ac ([ae.1] : (List Val)) (ad 17) := az 5 rfl 17 rfl
    obtain ⟨_, _, aJ, aj⟩ := RpV.list aI
    refine r_append (B := s0.N) (id := 3) (E := 27) (xs := ab.2.2.2) (ys := [ae.1]) aC.size ((ai ax)) aj ts22 (room_some bG) (az 1 rfl 13 rfl) aJ rfl rfl ?_
    intro _ aK aT am aO
    refine j0 ?_
    exact ⟨_, _, rfl, rfl, (ExtP.refl _ _ _ _).mod aC.size am, (Wext.refl _).trans am.wext, (RpV.mkList aO.sl), ⟨(nc (ak 4 rfl)), (fun y0 => (let ⟨zA0, zc0, zb, zf0⟩ := (aD y0); ⟨zA0, zc0, (zb.mod am (beq_false (by omega))), (zf0.mono am.wext)⟩)), (aH.mod am rfl), (fun y0 => ((al y0).mod am rfl)), (nc (ay 8 rfl)), (fun h => Bool.noConfusion h), (fun _ => ⟨aK, aT, rfl, aO⟩)⟩⟩
   ·intro _ _ _ _ _ _ _ _ ad ac _
    obtain ⟨_, _, _, _, _, _, _⟩ := id ad
    refine r_fieldAddr b9 0 0 0 ((ac 7 rfl).trans bm) rfl fo65_0 rfl ?_
    exact d0 ⟨rfl, ad⟩
   ·intro _ _ _ ad ac _ ax _ ak _ ay
    have aB := aN.trans ax
    obtain ⟨_, aG, az, aC, _, _, aD⟩ := id ak
    have aH := aC ad
    obtain ⟨al, ai, aI, aJ⟩ := aD (ac 6 rfl)
    refine r_store aH 0 (lv al (ab.2.2.2 ++ [ae.1]).length ai) [lv al (ab.2.2.2 ++ [ae.1]).length ai] [lv al (ab.2.2.2 ++ [ae.1]).length ai, bv false, iv 0, iv 0, tv (⟨#[]⟩), nl Val, nl Key, nl Ent, nl ByteArray] (ay 7 rfl 19 rfl) aI rfl rfl rfl sz22 rfl rfl rfl ?_
    intro _ aj aK
    refine j0 ?_
    exact ⟨_, _, rfl, rfl, (ExtP.refl _ _ _ _).mod aB.size aj, (Wext.refl _).trans aj.wext, trivial, ⟨(nc (ac 4 rfl)), (fun y0 => (let ⟨zA0, zc0, zb, zf0⟩ := (aG y0); ⟨zA0, zc0, (zb.mod aj (beq_false (by omega))), (zf0.mono aj.wext)⟩)), (az.mod aj rfl), (fun h => Bool.noConfusion h), (fun _ => ⟨al, ai, aK, (aJ.mod aj rfl)⟩), (nc (ac 6 rfl)), (fun y0 => let ⟨zA, zc, zv, zo⟩ := aD y0; ⟨zA, zc, zv, (zo.mod aj rfl)⟩)⟩⟩
   intro _ _ bK bL bM bn _
   have bN := aN.trans bK
   obtain ⟨_, bO, bP, _, bQ, _, bR⟩ := bM
   obtain ⟨bS, bT, bU, bV⟩ := bO rfl
   have bW := bP
   obtain ⟨bX, bY, bZ, b1⟩ := bQ rfl
   obtain ⟨_, _, _, _⟩ := bR rfl
   have b2 := (bn 1 rfl).trans a3
   refine j5 (j1 (j3 ?_))
   refine r_move (iv ab.1) b2 rfl ?_
   refine r_bin (iv ab.1) (iv 1) (iv (w64 (ab.1 - 1))) rfl rfl rfl rfl (b_sub) ?_
   refine r_assign (iv (w64 (ab.1 - 1))) rfl rfl ?_
   refine j0 ?_
   obtain rfl := oi hf
   exact ⟨rfl, _, _, bS, bT, bX, bY, rfl, rfl, (((((((aS).put rfl).put rfl).draw bn rfl).put rfl).put rfl).put rfl), bN, (((Wext.refl _).trans bg).trans bL), rfl, bU, bV, bW, bZ, (b1)⟩
  refine c_false rfl a4 rfl ?_
  refine jc (j8 ?_)
  obtain rfl := oi hf
  exact ⟨rfl, _, _, be, bf, aQ, aR, rfl, rfl, (((aS).put rfl).put rfl), aN, ((Wext.refl _).trans bg), a3, bh, bi, bj, bk, (bl)⟩
 ·exact ⟨_, _, A1, c2, none, 0, rfl, rfl, (Agr.refl _ _), bz, (Wext.refl _), bA, ((hb0.ext k6).ext aV), ((h3.mono k6.wext).mono aV.wext), (hb7.ext aV), bx, (Own.nil_ _)⟩
 rintro e a w ⟨rfl, cw, cx, cy, cz, ag, ah, rfl, rfl, aW, b3, cA, cB, b5, b6, bo, bp, bq⟩
 have br := (aW 0 rfl).trans bb
 have b7 := (aW 2 rfl).trans bc
 have aX := (aW 6 rfl).trans bB
 have aY := (aW 7 rfl).trans bd
 refine j6 (j1 (j2 (j2 (j3 ?_))))
 refine r_move (.pointer (some ⟨b0, 0, none⟩)) br rfl ?_
 obtain ⟨bs, b8, hf⟩ := bind_some hf
 refine r_callE [.pointer (some ⟨b0, 0, none⟩), iv 4] (evs2 rfl rfl) rfl (ok_semtypebase_Source_Next _ _ _ _ _ _ _ _ _ (Semtypebase_Source.cells_iff.2 ⟨_, _, rfl, b6⟩) b5 hid0 (RpV.mkInt _ _) b8) ?_
 intro _ _ aM ca
 obtain ⟨cb, _, cc, bt⟩ := ca
 have bu := b3.z aM
 obtain ⟨_, _, rfl, bw⟩ := Semtypebase_Source.cells_iff.1 cc
 obtain rfl := RpV.int cb
 refine r_bin (iv bs.1) (iv 1) (bv (bs.1 == 1)) rfl rfl rfl rfl (b_eql) ?_
 refine j0 (j1 ?_)
 refine if_else hf (fun a9 hf => ?_) (fun a9 hf => ?_)
 ·refine c_true rfl a9 rfl ?_
  refine j2 (j3 ?_)
  refine r_fieldAddr b9 0 1 1 aY rfl fo65_1 rfl ?_
  refine r_store (bp.mod aM (beq_false (by omega))) 1 (bv true) [bv true] [lv ag af.2.2.2.length ah, bv true, iv 0, iv 0, tv (⟨#[]⟩), nl Val, nl Key, nl Ent, nl ByteArray] rfl rfl rfl rfl rfl sz4 rfl rfl rfl ?_
  intro _ aU cd
  have ce := bu.y aU
  refine j0 (j1 (j2 (j3 ?_)))
  refine r_load b9 0 (.agg #[lv ag af.2.2.2.length ah, bv true, iv 0, iv 0, tv (⟨#[]⟩), nl Val, nl Key, nl Ent, nl ByteArray]) aY rfl (loads_row tr65 (Blk.range cd 0 [lv ag af.2.2.2.length ah, bv true, iv 0, iv 0, tv (⟨#[]⟩), nl Val, nl Key, nl Ent, nl ByteArray] rfl)) ?_
  refine r_store ((bo.mod aM (beq_false (by omega))).mod aU rfl) 0 (.agg #[lv ag af.2.2.2.length ah, bv true, iv 0, iv 0, tv (⟨#[]⟩), nl Val, nl Key, nl Ent, nl ByteArray]) [lv ag af.2.2.2.length ah, bv true, iv 0, iv 0, tv (⟨#[]⟩), nl Val, nl Key, nl Ent, nl ByteArray] [lv ag af.2.2.2.length ah, bv true, iv 0, iv 0, tv (⟨#[]⟩), nl Val, nl Key, nl Ent, nl ByteArray] aX rfl rfl rfl rfl sz65 rfl rfl rfl ?_
  intro _ aZ cf
  have cg := ce.y aZ
  refine j0 (j1 (jb (j9 ?_)))
  obtain rfl := oi hf
  refine ret_oneE (.agg #[lv ag af.2.2.2.length ah, bv true, iv 0, iv 0, tv (⟨#[]⟩), nl Val, nl Key, nl Ent, nl ByteArray]) rfl ⟨rfl, _, aX, loads_row tr65 (Blk.range cf 0 [lv ag af.2.2.2.length ah, bv true, iv 0, iv 0, tv (⟨#[]⟩), nl Val, nl Key, nl Ent, nl ByteArray] rfl)⟩ cg.mod_ ?_
  exact ⟨(Ent.rpvMk (v := (Ent.mk af.2.2.2 true (Val.mk 0 0 (⟨#[]⟩) ([] : List Val) ([] : List Key) ([] : List Ent) ([] : List ByteArray)))) ((((bq.mod aM (beq_false (by omega))).mod aU rfl).mod aZ rfl).sl) (Sl.nil_ _ _ _ (Nat.zero_le _)) (Sl.nil_ _ _ _ (Nat.zero_le _)) (Sl.nil_ _ _ _ (Nat.zero_le _)) (Sl.nil_ _ _ _ (Nat.zero_le _))), _, (Semtypebase_Source.cells_iff.2 ⟨_, _, rfl, ((bw.mono aU.wext).mono aZ.wext)⟩), ((bt.mod aU (beq_false (by omega))).mod aZ (beq_false (by omega)))⟩
 refine c_false rfl a9 rfl ?_
 refine ja (j1 (j2 (j3 ?_)))
 refine r_move (.pointer (some ⟨b0, 0, none⟩)) br rfl ?_
 refine r_move (iv a2) b7 rfl ?_
 obtain ⟨aa, ch, hf⟩ := bind_some hf
 refine r_callE [.pointer (some ⟨b0, 0, none⟩), iv a2] (evs2 rfl rfl) rfl (hrec_semtypebase_Source_Value _ _ _ _ _ _ _ _ _ (Semtypebase_Source.cells_iff.2 ⟨_, _, rfl, bw⟩) bt hid0 (RpV.mkInt _ _) ch) ?_
 intro _ _ a0 ci
 obtain ⟨cj, _, ck, cl⟩ := ci
 have cm := bu.z a0
 obtain ⟨_, _, rfl, cn⟩ := Semtypebase_Source.cells_iff.1 ck
 obtain ⟨an, ao, ap, aq, ar, au, av, aw, rfl, co, cp, cq, cr⟩ := Val.rpv cj
 refine r_fieldAddr b9 0 2 2 aY rfl fo65_2 rfl ?_
 refine r_store ((bp.mod aM (beq_false (by omega))).mod a0 (beq_false (by omega))) 2 (Val.ag aa.1 an ao ap aq ar au av aw) (Val.cs aa.1 an ao ap aq ar au av aw) [lv ag af.2.2.2.length ah, bv false, iv aa.1.Kind, iv aa.1.Int_, tv aa.1.Text, lv an aa.1.Kids.length ao, lv ap aa.1.Keys.length aq, lv ar aa.1.Entries.length au, lv av aa.1.Labels.length aw] rfl rfl rfl rfl rfl sz27 rfl rfl rfl ?_
 intro _ aA cs
 have ct := cm.y aA
 refine j0 (j1 (j2 (j3 ?_)))
 refine r_load b9 0 (.agg #[lv ag af.2.2.2.length ah, bv false, iv aa.1.Kind, iv aa.1.Int_, tv aa.1.Text, lv an aa.1.Kids.length ao, lv ap aa.1.Keys.length aq, lv ar aa.1.Entries.length au, lv av aa.1.Labels.length aw]) aY rfl (loads_row tr65 (Blk.range cs 0 [lv ag af.2.2.2.length ah, bv false, iv aa.1.Kind, iv aa.1.Int_, tv aa.1.Text, lv an aa.1.Kids.length ao, lv ap aa.1.Keys.length aq, lv ar aa.1.Entries.length au, lv av aa.1.Labels.length aw] rfl)) ?_
 refine r_store (((bo.mod aM (beq_false (by omega))).mod a0 (beq_false (by omega))).mod aA rfl) 0 (.agg #[lv ag af.2.2.2.length ah, bv false, iv aa.1.Kind, iv aa.1.Int_, tv aa.1.Text, lv an aa.1.Kids.length ao, lv ap aa.1.Keys.length aq, lv ar aa.1.Entries.length au, lv av aa.1.Labels.length aw]) [lv ag af.2.2.2.length ah, bv false, iv aa.1.Kind, iv aa.1.Int_, tv aa.1.Text, lv an aa.1.Kids.length ao, lv ap aa.1.Keys.length aq, lv ar aa.1.Entries.length au, lv av aa.1.Labels.length aw] [lv ag af.2.2.2.length ah, bv false, iv aa.1.Kind, iv aa.1.Int_, tv aa.1.Text, lv an aa.1.Kids.length ao, lv ap aa.1.Keys.length aq, lv ar aa.1.Entries.length au, lv av aa.1.Labels.length aw] aX rfl rfl rfl rfl sz65 rfl rfl rfl ?_
 intro _ aE cu
 have cv := ct.y aE
 refine j0 (j1 (jb ?_))
 obtain rfl := oi hf
 refine ret_oneE (.agg #[lv ag af.2.2.2.length ah, bv false, iv aa.1.Kind, iv aa.1.Int_, tv aa.1.Text, lv an aa.1.Kids.length ao, lv ap aa.1.Keys.length aq, lv ar aa.1.Entries.length au, lv av aa.1.Labels.length aw]) rfl ⟨rfl, _, aX, loads_row tr65 (Blk.range cu 0 [lv ag af.2.2.2.length ah, bv false, iv aa.1.Kind, iv aa.1.Int_, tv aa.1.Text, lv an aa.1.Kids.length ao, lv ap aa.1.Keys.length aq, lv ar aa.1.Entries.length au, lv av aa.1.Labels.length aw] rfl)⟩ cv.mod_ ?_
 exact ⟨(Ent.rpvMk (v := (Ent.mk af.2.2.2 false aa.1)) (((((bq.mod aM (beq_false (by omega))).mod a0 (beq_false (by omega))).mod aA rfl).mod aE rfl).sl) ((co.mono aA.wext).mono aE.wext) ((cp.mono aA.wext).mono aE.wext) ((cq.mono aA.wext).mono aE.wext) ((cr.mono aA.wext).mono aE.wext)), _, (Semtypebase_Source.cells_iff.2 ⟨_, _, rfl, ((cn.mono aA.wext).mono aE.wext)⟩), ((cl.mod aA (beq_false (by omega))).mod aE (beq_false (by omega)))⟩

theorem ok_scc_semtypebase_Source_Value : ∀ n : Nat, S_semtypebase_Source_Value (scc_semtypebase_Source_Value n).1 ∧ S_semtypebase_Source_value (scc_semtypebase_Source_Value n).2.1 ∧ S_semtypebase_Source_entry (scc_semtypebase_Source_Value n).2.2
  | 0 => ⟨(by intro _ _ _ _ _ _ _ _ _ _ _ _ _ h; cases h), (by intro _ _ _ _ _ _ _ _ _ _ _ _ _ h; cases h), (by intro _ _ _ _ _ _ _ _ _ _ _ _ _ _ _ _ h; cases h)⟩
  | n + 1 => by
    obtain ⟨h0, h1, h2⟩ := ok_scc_semtypebase_Source_Value n
    exact ⟨okB_semtypebase_Source_Value h0 h1 h2, okB_semtypebase_Source_value n h0 h1 h2, okB_semtypebase_Source_entry n h0 h1 h2⟩

theorem ok_semtypebase_Source_Value (n : Nat) : S_semtypebase_Source_Value (semtypebase_Source_Value n) := (ok_scc_semtypebase_Source_Value n).1

theorem ok_semtypebase_Source_value (n : Nat) : S_semtypebase_Source_value (semtypebase_Source_value n) := (ok_scc_semtypebase_Source_Value n).2.1

theorem ok_semtypebase_Source_entry (n : Nat) : S_semtypebase_Source_entry (semtypebase_Source_entry n) := (ok_scc_semtypebase_Source_Value n).2.2

def S_semtypelaw4_drawn (f : ((List Int) → Option Val)) : Prop := ∀ (s0 : S) (v0 : Value) (a0 : (List Int)) (r : Val), RpV s0 a0 v0 → f a0 = some r → Ctr Go.Proofs.Try.prog 9 [v0] s0 (fun v τ => RpV τ r v)

theorem ok_semtypelaw4_drawn (fuel : Nat) : S_semtypelaw4_drawn (semtypelaw4_drawn fuel) := by
 intro s0 v0 a0 r hp0 hf
 obtain ⟨A1, c2, rfl, h3⟩ := RpV.list hp0
 unfold semtypelaw4_drawn at hf
 have E0 : ExtB s0.N s0 s0 := ExtB.refl _ _
 refine ctr_of 9 func9 rfl rfl rfl rfl ?_
 refine j2 (j3 ?_)
 refine r_alloc (B := s0.N) 1 E0.size _ [iv 0, iv 0, tv (⟨#[]⟩), nl Val, nl Key, nl Ent, nl ByteArray] ti27 rfl ?_
 intro s5 b4 k6 hb7
 have E8 := E0.x k6
 refine j0 (j1 (j2 (j3 ?_)))
 refine r_move (lv A1 a0.length c2) rfl rfl ?_
 refine r_build tst53 [(0, lv A1 a0.length c2)] [lv A1 a0.length c2, iv 0] (eps_cons rfl eps_nil) rfl rfl ?_
 refine r_box (B := s0.N) 1000002 E8.size (.agg #[lv A1 a0.length c2, iv 0]) [lv A1 a0.length c2, iv 0] rfl rfl rfl ?_
 intro _ b9 ak am
 have an := E8.x ak
 refine r_assign (.pointer (some ⟨b9, 0, none⟩)) rfl rfl ?_
 refine j0 (j1 (j2 (j3 ?_)))
 refine r_move (.pointer (some ⟨b9, 0, none⟩)) rfl rfl ?_
 obtain ⟨aa, ao, hf⟩ := bind_some hf
 refine r_callE [.pointer (some ⟨b9, 0, none⟩), iv 4] (evs2 rfl rfl) rfl ((ok_semtypebase_Source_Value fuel) _ _ _ _ _ _ _ _ _ (Semtypebase_Source.cells_iff.2 ⟨_, _, rfl, ((h3.mono k6.wext).mono ak.wext)⟩) am (by omega) (RpV.mkInt _ _) ao) ?_
 intro _ _ al ap
 obtain ⟨aq, _, ar, _⟩ := ap
 have au := an.y al
 obtain ⟨_, _, rfl, _⟩ := Semtypebase_Source.cells_iff.1 ar
 obtain ⟨ab, ac, ad, ae, af, ag, ah, ai, rfl, av, aw, ax, ay⟩ := Val.rpv aq
 refine r_store ((hb7.ext ak).mod al rfl) 0 (Val.ag aa.1 ab ac ad ae af ag ah ai) (Val.cs aa.1 ab ac ad ae af ag ah ai) (Val.cs aa.1 ab ac ad ae af ag ah ai) rfl rfl rfl rfl rfl sz27 rfl rfl rfl ?_
 intro _ aj az
 have aA := au.y aj
 refine j0 (j1 (jb ?_))
 obtain rfl := oi hf
 refine ret_one (Val.ag aa.1 ab ac ad ae af ag ah ai) rfl ⟨rfl, _, rfl, loads_row tr27 (Blk.range az 0 (Val.cs aa.1 ab ac ad ae af ag ah ai) rfl)⟩ aA ?_
 exact (Val.rpvMk (v := aa.1) (av.mono aj.wext) (aw.mono aj.wext) (ax.mono aj.wext) (ay.mono aj.wext))

def S_semtyperef1_upper (f : (UInt8 → Option Bool)) : Prop := ∀ (s0 : S) (v0 : Value) (a0 : UInt8) (r : Bool), RpV s0 a0 v0 → f a0 = some r → Ctr Go.Proofs.Try.prog 105 [v0] s0 (fun v τ => RpV τ r v)

theorem ok_semtyperef1_upper : S_semtyperef1_upper semtyperef1_upper := by
 intro s0 v0 a0 r hp0 hf
 obtain rfl := RpV.u8 hp0
 unfold semtyperef1_upper at hf
 have E0 : ExtB s0.N s0 s0 := ExtB.refl _ _
 refine ctr_of 9 func105 rfl rfl rfl rfl ?_
 refine j2 (j3 ?_)
 refine r_assign (bv false) rfl rfl ?_
 refine j0 (j1 (j2 (j3 ?_)))
 refine r_move (.int .u8 (a0.toNat : Int)) rfl rfl ?_
 refine r_bin (.int .u8 (a0.toNat : Int)) (.int .u8 65) (bv (decide (65 ≤ (a0.toNat : Int)))) rfl rfl rfl rfl (b_geq) ?_
 refine r_move (bv (decide (65 ≤ (a0.toNat : Int)))) rfl rfl ?_
 refine if_else hf (fun hc1 hf => ?_) (fun hc1 hf => ?_)
 ·refine r_guard (j := 2) (want := true) (d := 5) (c := decide (65 ≤ (a0.toNat : Int))) (v := true) rfl rfl hc1 rfl rfl ?_
  refine r_move (.int .u8 (a0.toNat : Int)) rfl rfl ?_
  refine r_guard (j := 2) (want := true) (d := 5) (c := decide (65 ≤ (a0.toNat : Int))) (v := true) rfl rfl hc1 rfl rfl ?_
  refine r_bin (.int .u8 (a0.toNat : Int)) (.int .u8 90) (bv (decide ((a0.toNat : Int) ≤ 90))) rfl rfl rfl rfl (b_leq) ?_
  refine r_pick_t (c := decide (65 ≤ (a0.toNat : Int))) (bv (decide ((a0.toNat : Int) ≤ 90))) rfl hc1 rfl rfl rfl rfl ?_
  refine r_assign (bv (decide ((a0.toNat : Int) ≤ 90))) rfl rfl ?_
  refine j0 (j1 (jb ?_))
  obtain rfl := oi hf
  refine ret_one (bv (decide ((a0.toNat : Int) ≤ 90))) rfl ⟨rfl, rfl⟩ E0 ?_
  exact (RpV.mkBool _ _)
 refine r_skip (j := 2) (want := true) (d := 5) (c := decide (65 ≤ (a0.toNat : Int))) (v := false) rfl rfl hc1 rfl rfl ?_
 refine r_skip (j := 2) (want := true) (d := 5) (c := decide (65 ≤ (a0.toNat : Int))) (v := false) rfl rfl hc1 rfl rfl ?_
 refine r_pick_f (c := decide (65 ≤ (a0.toNat : Int))) (bv false) rfl hc1 rfl rfl rfl rfl ?_
 refine r_assign (bv false) rfl rfl ?_
 refine j0 (j1 (jb ?_))
 obtain rfl := oi hf
 refine ret_one (bv false) rfl ⟨rfl, rfl⟩ E0 ?_
 exact (RpV.mkBool _ _)

def S_semtyperef1_IsVariable (f : (ByteArray → Option Bool)) : Prop := ∀ (s0 : S) (v0 : Value) (a0 : ByteArray) (r : Bool), RpV s0 a0 v0 → f a0 = some r → Ctr Go.Proofs.Try.prog 85 [v0] s0 (fun v τ => RpV τ r v)

theorem ok_semtyperef1_IsVariable : S_semtyperef1_IsVariable semtyperef1_IsVariable := by
 intro s0 v0 a0 r hp0 hf
 obtain rfl := RpV.str hp0
 unfold semtyperef1_IsVariable at hf
 have E0 : ExtB s0.N s0 s0 := ExtB.refl _ _
 refine ctr_of 49 func85 rfl rfl rfl rfl ?_
 refine j2 (j3 ?_)
 refine r_assign (bv false) rfl rfl ?_
 refine j0 (j1 (j2 (j2 (j3 ?_))))
 refine r_move (tv a0) rfl rfl ?_
 refine r_lenStr a0 rfl rfl underlying9 ?_
 refine r_bin (iv (a0.size : Int)) (iv 1) (bv (decide ((a0.size : Int) < 1))) rfl rfl rfl rfl (b_lss) ?_
 refine r_move (bv (decide ((a0.size : Int) < 1))) rfl rfl ?_
 refine gen_FL fun F1 hg2 => ?_
 have f3 : F1 0 = (tv a0) := (hg2 0).trans rfl
 have f5 : F1 7 = (bv (decide ((a0.size : Int) < 1))) := (hg2 7).trans rfl
 obtain ⟨q6, hq7, hf⟩ := bind_some hf
 refine wpl_take 4 (J := fun a w => ∃ (F : Fr) (τ : S), a = fr 49 F ∧ w = τ.w ∧ Agr [8, 9, 10, 11] F F1 ∧ ExtB s0.N s0 τ ∧ Wext s0 τ ∧ F 11 = (bv q6)) ?_ ?_
 ·have hf := hq7
  refine if_else hf (fun hc8 hf => ?_) (fun hc8 hf => ?_)
  ·refine r_skip (j := 3) (want := false) (d := 7) (c := decide ((a0.size : Int) < 1)) (v := true) rfl f5 hc8 rfl rfl ?_
   refine r_skip (j := 3) (want := false) (d := 7) (c := decide ((a0.size : Int) < 1)) (v := true) rfl f5 hc8 rfl rfl ?_
   refine r_skip (j := 3) (want := false) (d := 7) (c := decide ((a0.size : Int) < 1)) (v := true) rfl f5 hc8 rfl rfl ?_
   refine r_pick_t (c := decide ((a0.size : Int) < 1)) (bv true) f5 hc8 rfl rfl rfl rfl ?_
   refine j0 ?_
   obtain rfl := oi hf
   exact ⟨rfl, _, _, rfl, rfl, (((((Agr.refl _ _).put rfl).put rfl).put rfl).put rfl), E0, (Wext.refl _), rfl⟩
  refine r_guard (j := 3) (want := false) (d := 7) (c := decide ((a0.size : Int) < 1)) (v := false) rfl f5 hc8 rfl rfl ?_
  refine r_move (tv a0) f3 rfl ?_
  refine r_guard (j := 3) (want := false) (d := 7) (c := decide ((a0.size : Int) < 1)) (v := false) rfl f5 hc8 rfl rfl ?_
  refine r_lenStr a0 rfl rfl underlying9 ?_
  refine r_guard (j := 3) (want := false) (d := 7) (c := decide ((a0.size : Int) < 1)) (v := false) rfl f5 hc8 rfl rfl ?_
  refine r_bin (iv (a0.size : Int)) (iv 16) (bv (decide (16 < (a0.size : Int)))) rfl rfl rfl rfl (b_gtr) ?_
  refine r_pick_f (c := decide ((a0.size : Int) < 1)) (bv (decide (16 < (a0.size : Int)))) f5 hc8 rfl rfl rfl rfl ?_
  refine j0 ?_
  obtain rfl := oi hf
  exact ⟨rfl, _, _, rfl, rfl, (((((Agr.refl _ _).put rfl).put rfl).put rfl).put rfl), E0, (Wext.refl _), rfl⟩
 rintro a w ⟨F9, bw, rfl, rfl, aW, aE, bx, aX⟩
 have aF := (aW 0 rfl).trans f3
 refine r_move (bv q6) aX rfl ?_
 refine if_else hf (fun ai hf => ?_) (fun ai hf => ?_)
 ·refine r_skip (j := 8) (want := false) (d := 12) (c := q6) (v := true) rfl rfl ai rfl rfl ?_
  refine r_skip (j := 8) (want := false) (d := 12) (c := q6) (v := true) rfl rfl ai rfl rfl ?_
  refine r_skip (j := 8) (want := false) (d := 12) (c := q6) (v := true) rfl rfl ai rfl rfl ?_
  refine r_skip (j := 8) (want := false) (d := 12) (c := q6) (v := true) rfl rfl ai rfl rfl ?_
  refine r_pick_t (c := q6) (bv true) rfl ai rfl rfl rfl rfl ?_
  refine j0 (j1 ?_)
  refine c_true rfl rfl rfl ?_
  refine j2 (j3 ?_)
  refine r_assign (bv false) rfl rfl ?_
  refine j0 (j1 (jb (j9 ?_)))
  obtain rfl := oi hf
  refine ret_one (bv false) rfl ⟨rfl, rfl⟩ aE ?_
  exact (RpV.mkBool _ _)
 refine r_guard (j := 8) (want := false) (d := 12) (c := q6) (v := false) rfl rfl ai rfl rfl ?_
 refine r_move (tv a0) aF rfl ?_
 refine r_guard (j := 8) (want := false) (d := 12) (c := q6) (v := false) rfl rfl ai rfl rfl ?_
 obtain ⟨x18, aY, hf⟩ := bind_some hf
 refine r_index (tv a0) (iv 0) (.int .u8 (x18.toNat : Int)) rfl rfl rfl rfl (ix_str underlying9 aY) ?_
 refine r_guard (j := 8) (want := false) (d := 12) (c := q6) (v := false) rfl rfl ai rfl rfl ?_
 obtain ⟨aq, aZ, hf⟩ := bind_some hf
 refine r_call [.int .u8 (x18.toNat : Int)] (evs1 rfl) rfl (ok_semtyperef1_upper _ _ _ _ (RpV.mkU8 _ _) aZ) ?_
 intro _ aG a1 a2
 have aH := aE.x a1
 obtain rfl := RpV.bool a2
 refine r_guard (j := 8) (want := false) (d := 12) (c := q6) (v := false) rfl rfl ai rfl rfl ?_
 refine r_un (bv aq) (bv (!aq)) rfl rfl u_not ?_
 refine r_pick_f (c := q6) (bv (!aq)) rfl ai rfl rfl rfl rfl ?_
 refine j0 (j1 ?_)
 refine if_else hf (fun ar hf => ?_) (fun ar hf => ?_)
 ·refine c_true rfl ar rfl ?_
  refine j2 (j3 ?_)
  refine r_assign (bv false) rfl rfl ?_
  refine j0 (j1 (jb (j9 ?_)))
  obtain rfl := oi hf
  refine ret_one (bv false) rfl ⟨rfl, rfl⟩ aH ?_
  exact (RpV.mkBool _ _)
 refine c_false rfl ar rfl ?_
 refine ja (j1 (j2 (j2 (j3 ?_))))
 refine r_assign (iv 1) rfl rfl ?_
 refine j0 (j1 (j4 ?_))
 refine gen_F fun au aI => ?_
 have a3 := (aI 0).trans aF
 have a4 : au 3 = (iv 1) := (aI 3).trans rfl
 obtain ⟨a5, a6, hf⟩ := bind_some hf
 refine wp_mono (wp_iter (step := semtyperef1_IsVariable_l1 a0) (fun q a w => ∃ (F : Fr) (τ : S), a = fr 49 F ∧ w = τ.w ∧ Agr [2, 3, 18, 19, 20, 21, 22, 23, 24, 25, 26, 27, 28, 29, 30, 31, 32, 33, 34, 35, 36, 37, 38, 39, 40, 41, 42, 43, 44, 45, 46, 47, 48] F au ∧ ExtB s0.N s0 τ ∧ Wext aG τ ∧ F 3 = (iv q)) (fun o e a w => match o with | .inl q => e = .exit 0 ∧ ∃ (F : Fr) (τ : S), a = fr 49 F ∧ w = τ.w ∧ Agr [2, 3, 18, 19, 20, 21, 22, 23, 24, 25, 26, 27, 28, 29, 30, 31, 32, 33, 34, 35, 36, 37, 38, 39, 40, 41, 42, 43, 44, 45, 46, 47, 48] F au ∧ ExtB s0.N s0 τ ∧ Wext aG τ ∧ F 3 = (iv q) | .inr r => e = .ret ∧ ∃ (F : Fr) (τ : S) (va : Value), a = fr 49 F ∧ w = τ.w ∧ ExtB s0.N s0 τ ∧ ResV prog 49 F τ.w (.tmp 2) va ∧ RpV τ r va) (by rintro (_ | _) a w ⟨h, _⟩ <;> cases h) ?_ _ _ _ _ _ a6 ?_) ?_
 ·intro aa fl a w hf hI
  obtain ⟨_, _, rfl, rfl, am, aJ, av, an⟩ := hI
  unfold semtyperef1_IsVariable_l1 at hf
  have aw := (am 0 rfl).trans a3
  refine j2 (j2 (j3 ?_))
  refine r_move (iv aa) an rfl ?_
  refine r_move (tv a0) aw rfl ?_
  refine r_lenStr a0 rfl rfl underlying9 ?_
  refine r_bin (iv aa) (iv (a0.size : Int)) (bv (decide (aa < (a0.size : Int)))) rfl rfl rfl rfl (b_lss) ?_
  refine j0 (j1 ?_)
  refine if_else hf (fun ax hf => ?_) (fun ax hf => ?_)
  ·refine c_true rfl ax rfl ?_
   refine ja (j1 (j2 (j4 (j2 (j3 ?_)))))
   refine r_move (tv a0) aw rfl ?_
   refine r_move (iv aa) an rfl ?_
   obtain ⟨x42, a7, hf⟩ := bind_some hf
   refine r_index (tv a0) (iv aa) (.int .u8 (x42.toNat : Int)) rfl rfl rfl rfl (ix_str underlying9 a7) ?_
   obtain ⟨ab, a8, hf⟩ := bind_some hf
   refine r_call [.int .u8 (x42.toNat : Int)] (evs1 rfl) rfl (ok_semtyperef1_lower _ _ _ _ (RpV.mkU8 _ _) a8) ?_
   intro _ a9 ay ba
   have aK := aJ.x ay
   obtain rfl := RpV.bool ba
   refine r_un (bv ab) (bv (!ab)) rfl rfl u_not ?_
   refine r_move (bv (!ab)) rfl rfl ?_
   refine gen_FL fun aL ak => ?_
   have aM := (ak 0).trans aw
   have aN := (ak 3).trans an
   have af : aL 29 = (bv (!ab)) := (ak 29).trans rfl
   obtain ⟨ac, hq57, hf⟩ := bind_some hf
   refine wpl_take 6 (J := fun a w => ∃ (F : Fr) (τ : S), a = fr 49 F ∧ w = τ.w ∧ Agr [30, 31, 32, 33, 34, 35] F aL ∧ ExtB s0.N s0 τ ∧ Wext a9 τ ∧ F 35 = (bv ac)) ?_ ?_
   ·have hf := hq57
    refine if_else hf (fun ad hf => ?_) (fun ad hf => ?_)
    ·refine r_guard (j := 5) (want := true) (d := 29) (c := !ab) (v := true) rfl af ad rfl rfl ?_
     refine r_move (tv a0) aM rfl ?_
     refine r_guard (j := 5) (want := true) (d := 29) (c := !ab) (v := true) rfl af ad rfl rfl ?_
     refine r_move (iv aa) aN rfl ?_
     refine r_guard (j := 5) (want := true) (d := 29) (c := !ab) (v := true) rfl af ad rfl rfl ?_
     obtain ⟨x59, bb, hf⟩ := bind_some hf
     refine r_index (tv a0) (iv aa) (.int .u8 (x59.toNat : Int)) rfl rfl rfl rfl (ix_str underlying9 bb) ?_
     refine r_guard (j := 5) (want := true) (d := 29) (c := !ab) (v := true) rfl af ad rfl rfl ?_
     obtain ⟨az, bc, hf⟩ := bind_some hf
     refine r_call [.int .u8 (x59.toNat : Int)] (evs1 rfl) rfl (ok_semtyperef1_upper _ _ _ _ (RpV.mkU8 _ _) bc) ?_
     intro _ _ aO bd
     have be := aK.x aO
     obtain rfl := RpV.bool bd
     refine r_guard (j := 5) (want := true) (d := 29) (c := !ab) (v := true) rfl af ad rfl rfl ?_
     refine r_un (bv az) (bv (!az)) rfl rfl u_not ?_
     refine r_pick_t (c := !ab) (bv (!az)) af ad rfl rfl rfl rfl ?_
     refine j0 ?_
     obtain rfl := oi hf
     exact ⟨rfl, _, _, rfl, rfl, (((((((Agr.refl _ _).put rfl).put rfl).put rfl).put rfl).put rfl).put rfl), be, ((Wext.refl _).trans aO.wext), rfl⟩
    refine r_skip (j := 5) (want := true) (d := 29) (c := !ab) (v := false) rfl af ad rfl rfl ?_
    refine r_skip (j := 5) (want := true) (d := 29) (c := !ab) (v := false) rfl af ad rfl rfl ?_
    refine r_skip (j := 5) (want := true) (d := 29) (c := !ab) (v := false) rfl af ad rfl rfl ?_
    refine r_skip (j := 5) (want := true) (d := 29) (c := !ab) (v := false) rfl af ad rfl rfl ?_
    refine r_skip (j := 5) (want := true) (d := 29) (c := !ab) (v := false) rfl af ad rfl rfl ?_
    refine r_pick_f (c := !ab) (bv false) af ad rfl rfl rfl rfl ?_
    refine j0 ?_
    obtain rfl := oi hf
    exact ⟨rfl, _, _, rfl, rfl, (((((((Agr.refl _ _).put rfl).put rfl).put rfl).put rfl).put rfl).put rfl), aK, (Wext.refl _), rfl⟩
   rintro a w ⟨bz, bf, rfl, rfl, ao, aP, aQ, bg⟩
   have bh := (ao 0 rfl).trans aM
   have bi := (ao 3 rfl).trans aN
   refine r_move (bv ac) bg rfl ?_
   refine gen_FL fun aR al => ?_
   have aS := (al 0).trans bh
   have aT := (al 3).trans bi
   have ag : aR 36 = (bv ac) := (al 36).trans rfl
   obtain ⟨ah, hq82, hf⟩ := bind_some hf
   refine wpl_take 6 (J := fun a w => ∃ (F : Fr) (τ : S), a = fr 49 F ∧ w = τ.w ∧ Agr [37, 38, 39, 40, 41, 42] F aR ∧ ExtB s0.N s0 τ ∧ Wext bf τ ∧ F 42 = (bv ah)) ?_ ?_
   ·have hf := hq82
    refine if_else hf (fun ae hf => ?_) (fun ae hf => ?_)
    ·refine r_guard (j := 12) (want := true) (d := 36) (c := ac) (v := true) rfl ag ae rfl rfl ?_
     refine r_move (tv a0) aS rfl ?_
     refine r_guard (j := 12) (want := true) (d := 36) (c := ac) (v := true) rfl ag ae rfl rfl ?_
     refine r_move (iv aa) aT rfl ?_
     refine r_guard (j := 12) (want := true) (d := 36) (c := ac) (v := true) rfl ag ae rfl rfl ?_
     obtain ⟨x84, bj, hf⟩ := bind_some hf
     refine r_index (tv a0) (iv aa) (.int .u8 (x84.toNat : Int)) rfl rfl rfl rfl (ix_str underlying9 bj) ?_
     refine r_guard (j := 12) (want := true) (d := 36) (c := ac) (v := true) rfl ag ae rfl rfl ?_
     obtain ⟨aA, bk, hf⟩ := bind_some hf
     refine r_call [.int .u8 (x84.toNat : Int)] (evs1 rfl) rfl (ok_semtyperef1_digit _ _ _ _ (RpV.mkU8 _ _) bk) ?_
     intro _ _ aU bl
     have bm := aP.x aU
     obtain rfl := RpV.bool bl
     refine r_guard (j := 12) (want := true) (d := 36) (c := ac) (v := true) rfl ag ae rfl rfl ?_
     refine r_un (bv aA) (bv (!aA)) rfl rfl u_not ?_
     refine r_pick_t (c := ac) (bv (!aA)) ag ae rfl rfl rfl rfl ?_
     refine j0 ?_
     obtain rfl := oi hf
     exact ⟨rfl, _, _, rfl, rfl, (((((((Agr.refl _ _).put rfl).put rfl).put rfl).put rfl).put rfl).put rfl), bm, ((Wext.refl _).trans aU.wext), rfl⟩
    refine r_skip (j := 12) (want := true) (d := 36) (c := ac) (v := false) rfl ag ae rfl rfl ?_
    refine r_skip (j := 12) (want := true) (d := 36) (c := ac) (v := false) rfl ag ae rfl rfl ?_
    refine r_skip (j := 12) (want := true) (d := 36) (c := ac) (v := false) rfl ag ae rfl rfl ?_
    refine r_skip (j := 12) (want := true) (d := 36) (c := ac) (v := false) rfl ag ae rfl rfl ?_
    refine r_skip (j := 12) (want := true) (d := 36) (c := ac) (v := false) rfl ag ae rfl rfl ?_
    refine r_pick_f (c := ac) (bv false) ag ae rfl rfl rfl rfl ?_
    refine j0 ?_
    obtain rfl := oi hf
    exact ⟨rfl, _, _, rfl, rfl, (((((((Agr.refl _ _).put rfl).put rfl).put rfl).put rfl).put rfl).put rfl), aP, (Wext.refl _), rfl⟩
   rintro a w ⟨bA, bB, rfl, rfl, ap, aB, aV, bn⟩
   have bo := (ap 0 rfl).trans aS
   have aC := (ap 3 rfl).trans aT
   refine r_move (bv ah) bn rfl ?_
   refine if_else hf (fun aj hf => ?_) (fun aj hf => ?_)
   ·refine r_guard (j := 19) (want := true) (d := 43) (c := ah) (v := true) rfl rfl aj rfl rfl ?_
    refine r_move (tv a0) bo rfl ?_
    refine r_guard (j := 19) (want := true) (d := 43) (c := ah) (v := true) rfl rfl aj rfl rfl ?_
    refine r_move (iv aa) aC rfl ?_
    refine r_guard (j := 19) (want := true) (d := 43) (c := ah) (v := true) rfl rfl aj rfl rfl ?_
    obtain ⟨x102, bp, hf⟩ := bind_some hf
    refine r_index (tv a0) (iv aa) (.int .u8 (x102.toNat : Int)) rfl rfl rfl rfl (ix_str underlying9 bp) ?_
    refine r_guard (j := 19) (want := true) (d := 43) (c := ah) (v := true) rfl rfl aj rfl rfl ?_
    refine r_bin (.int .u8 (x102.toNat : Int)) (.int .u8 95) (bv ((x102.toNat : Int) != 95)) rfl rfl rfl rfl (b_neq) ?_
    refine r_pick_t (c := ah) (bv ((x102.toNat : Int) != 95)) rfl aj rfl rfl rfl rfl ?_
    refine j0 (j1 ?_)
    refine if_else hf (fun aD hf => ?_) (fun aD hf => ?_)
    ·refine c_true rfl aD rfl ?_
     refine j2 (j3 ?_)
     refine r_assign (bv false) rfl rfl ?_
     refine j0 (j1 (jb (j7 (j9 ?_))))
     obtain rfl := oi hf
     exact ⟨rfl, _, _, (bv false), rfl, rfl, aB, ⟨rfl, rfl⟩, (RpV.mkBool _ _)⟩
    refine c_false rfl aD rfl ?_
    refine ja (j5 (j1 (j3 ?_)))
    refine r_move (iv aa) aC rfl ?_
    refine r_bin (iv aa) (iv 1) (iv (w64 (aa + 1))) rfl rfl rfl rfl (b_add) ?_
    refine r_assign (iv (w64 (aa + 1))) rfl rfl ?_
    refine j0 ?_
    obtain rfl := oi hf
    exact ⟨rfl, _, _, rfl, rfl, (((((((((((((((((((((((((am).put rfl).put rfl).put rfl).put rfl).put rfl).put rfl).put rfl).put rfl).put rfl).put rfl).gen ak).loop ao rfl).put rfl).gen al).loop ap rfl).put rfl).put rfl).put rfl).put rfl).put rfl).put rfl).put rfl).put rfl).put rfl), aB, (((((Wext.refl _).trans av).trans ay.wext).trans aQ).trans aV), rfl⟩
   refine r_skip (j := 19) (want := true) (d := 43) (c := ah) (v := false) rfl rfl aj rfl rfl ?_
   refine r_skip (j := 19) (want := true) (d := 43) (c := ah) (v := false) rfl rfl aj rfl rfl ?_
   refine r_skip (j := 19) (want := true) (d := 43) (c := ah) (v := false) rfl rfl aj rfl rfl ?_
   refine r_skip (j := 19) (want := true) (d := 43) (c := ah) (v := false) rfl rfl aj rfl rfl ?_
   refine r_pick_f (c := ah) (bv false) rfl aj rfl rfl rfl rfl ?_
   refine j0 (j1 ?_)
   refine c_false rfl rfl rfl ?_
   refine ja (j5 (j1 (j3 ?_)))
   refine r_move (iv aa) aC rfl ?_
   refine r_bin (iv aa) (iv 1) (iv (w64 (aa + 1))) rfl rfl rfl rfl (b_add) ?_
   refine r_assign (iv (w64 (aa + 1))) rfl rfl ?_
   refine j0 ?_
   obtain rfl := oi hf
   exact ⟨rfl, _, _, rfl, rfl, (((((((((((((((((((((((((am).put rfl).put rfl).put rfl).put rfl).put rfl).put rfl).put rfl).put rfl).put rfl).put rfl).gen ak).loop ao rfl).put rfl).gen al).loop ap rfl).put rfl).put rfl).put rfl).put rfl).put rfl).put rfl).put rfl).put rfl).put rfl), aB, (((((Wext.refl _).trans av).trans ay.wext).trans aQ).trans aV), rfl⟩
  refine c_false rfl ax rfl ?_
  refine jc (j8 ?_)
  obtain rfl := oi hf
  exact ⟨rfl, _, _, rfl, rfl, (((((am).put rfl).put rfl).put rfl).put rfl), aJ, ((Wext.refl _).trans av), an⟩
 ·exact ⟨_, _, rfl, rfl, (Agr.refl _ _), aH, (Wext.refl _), a4⟩
 intro e a w hp
 rcases a5 with bC | r
 ·replace hf := onEnd_inl hf
  obtain ⟨rfl, _, _, rfl, rfl, _, bq, _, _⟩ := hp
  refine j6 (j1 (j2 (j3 ?_)))
  refine r_assign (bv true) rfl rfl ?_
  refine j0 (j1 (jb ?_))
  obtain rfl := oi hf
  refine ret_one (bv true) rfl ⟨rfl, rfl⟩ bq ?_
  exact (RpV.mkBool _ _)
 replace hf := onEnd_inr hf
 obtain ⟨rfl, _, _, br, rfl, rfl, bs, bt, bu⟩ := hp
 refine j7 (j9 ?_)
 obtain rfl := oi hf
 refine ret_one br rfl bt bs ?_
 exact bu

def S_semtyperef1_node (f : (Val → Option Bool)) : Prop := ∀ (s0 : S) (v0 : Value) (a0 : Val) (r : Bool), RpV s0 a0 v0 → f a0 = some r → Ctr Go.Proofs.Try.prog 62 [v0] s0 (fun v τ => RpV τ r v)

end Go.Sx
