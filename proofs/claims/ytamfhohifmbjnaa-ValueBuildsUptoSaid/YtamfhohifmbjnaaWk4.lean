/- Printed by dec.py. The walks. -/
import Derived.Test.YtamfhohifmbjnaaWk3
namespace Go.Sx
open Go Go.RowKit
attribute [local irreducible] Go.wpList Go.Code.wp Go.Sx.Ctr Go.Sx.CtrE

set_option maxHeartbeats 1600000 in
set_option maxRecDepth 100000 in
theorem ok_semtyperef1_entries (fuel : Nat) : S_semtyperef1_entries (semtyperef1_entries fuel) := by
 intro s0 v0 a0 r h0 hf
 obtain ⟨A1, c2, rfl, h3⟩ := RpV.list h0
 unfold semtyperef1_entries at hf
 have E0 : ExtB s0.N s0 s0 := ExtB.refl _ _
 refine ctr_of 63 Go.Proofs.Try.func94 rfl rfl rfl rfl ?_
 refine j2 (j3 ?_)
 refine r_assign (nl Ent) rfl rfl ?_
 refine j0 (j1 (j2 (j3 ?_)))
 refine r_assign (nl Ent) rfl rfl ?_
 refine j0 (j1 (j2 (j2 (j3 ?_))))
 refine r_assign (.int .i64 0) rfl rfl ?_
 refine j0 (j1 (j4 ?_))
 refine gen_F fun F4 hg5 => ?_
 have f6 : F4 0 = (.slice A1 a0.length c2) := (hg5 0).trans rfl
 have f8 : F4 3 = (nl Ent) := (hg5 3).trans rfl
 have f9 : F4 4 = (.int .i64 0) := (hg5 4).trans rfl
 obtain ⟨aI, cN, hf⟩ := bind_some hf
 refine wp_mono (wp_iter (step := semtyperef1_entries_l1 fuel a0) (fun q a w => ∃ (F : Fr) (τ : S) (A1 : Option Addr) (c1 : Nat), a = fr 63 F ∧ w = τ.w ∧ Agr [3, 4, 5, 6, 7, 8, 9, 10, 11, 12, 13, 14, 15, 16, 17, 18, 19, 20, 21, 22, 23, 24, 25, 26, 27, 28, 29, 30, 31, 32, 33, 34, 35, 36, 37, 38, 39, 40, 41, 42, 43, 44, 45, 46, 47, 48, 49, 50, 51, 52, 53, 54, 55, 56, 57, 58, 59, 60, 61] F F4 ∧ ExtB s0.N s0 τ ∧ Wext s0 τ ∧ F 3 = (.slice A1 q.1.length c1) ∧ Sl τ q.1 A1 c1 ∧ F 4 = (.int .i64 q.2)) (fun q e a w => e = .exit 0 ∧ ∃ (F : Fr) (τ : S) (A1 : Option Addr) (c1 : Nat), a = fr 63 F ∧ w = τ.w ∧ Agr [3, 4, 5, 6, 7, 8, 9, 10, 11, 12, 13, 14, 15, 16, 17, 18, 19, 20, 21, 22, 23, 24, 25, 26, 27, 28, 29, 30, 31, 32, 33, 34, 35, 36, 37, 38, 39, 40, 41, 42, 43, 44, 45, 46, 47, 48, 49, 50, 51, 52, 53, 54, 55, 56, 57, 58, 59, 60, 61] F F4 ∧ ExtB s0.N s0 τ ∧ Wext s0 τ ∧ F 3 = (.slice A1 q.1.length c1) ∧ Sl τ q.1 A1 c1 ∧ F 4 = (.int .i64 q.2)) (by rintro _ a w ⟨h, _⟩; cases h) ?_ _ _ _ _ _ cN ?_) ?_
 ·intro aa fl a w hf hI
  obtain ⟨l6, be, ad, ae, rfl, rfl, ar, bf, ai, bg, aj, aJ⟩ := hI
  unfold semtyperef1_entries_l1 at hf
  have bh := (ar 0 rfl).trans f6
  refine j2 (j2 (j3 ?_))
  refine r_move (.int .i64 aa.2) aJ rfl ?_
  refine r_move (.slice A1 a0.length c2) bh rfl ?_
  refine r_len A1 a0.length c2 rfl rfl Go.Proofs.Try.underlying24 ?_
  refine r_bin (.int .i64 aa.2) (.int .i64 (a0.length : Int)) (.bool (decide (aa.2 < (a0.length : Int)))) rfl rfl rfl rfl (b_lss) ?_
  refine j0 (j1 ?_)
  refine if_else hf (fun aK hf => ?_) (fun aK hf => ?_)
  ·refine c_true rfl aK rfl ?_
   refine ja (j1 (j2 (j4 (j2 (j3 ?_)))))
   refine r_assign (.int .i64 0) rfl rfl ?_
   refine j0 (j1 (j2 (j4 ?_)))
   refine gen_F fun aL ak => ?_
   have bi := (ak 0).trans bh
   have bj := (ak 3).trans bg
   have bk := (ak 4).trans aJ
   have cO : aL 5 = (.int .i64 0) := (ak 5).trans rfl
   obtain ⟨ab, cP, hf⟩ := bind_some hf
   refine wp_mono (wp_iter (step := semtyperef1_entries_l2 fuel a0 aa) (fun q a w => ∃ (F : Fr) (τ : S), a = fr 63 F ∧ w = τ.w ∧ Agr [5, 13, 14, 15, 16, 17, 18, 19, 20, 21, 22, 23, 24, 25, 26, 27, 28, 29, 30] F aL ∧ ExtB s0.N s0 τ ∧ Wext be τ ∧ F 5 = (.int .i64 q)) (fun q e a w => e = .exit 2 ∧ ∃ (F : Fr) (τ : S), a = fr 63 F ∧ w = τ.w ∧ Agr [5, 13, 14, 15, 16, 17, 18, 19, 20, 21, 22, 23, 24, 25, 26, 27, 28, 29, 30] F aL ∧ ExtB s0.N s0 τ ∧ Wext be τ ∧ F 5 = (.int .i64 q)) (by rintro _ a w ⟨h, _⟩; cases h) ?_ _ _ _ _ _ cP ?_) ?_
   ·intro ac fl a w hf hI
    obtain ⟨l7, l8, rfl, rfl, an, aM, au, av⟩ := hI
    unfold semtyperef1_entries_l2 at hf
    have cQ := (an 0 rfl).trans bi
    have aN := (an 3 rfl).trans bj
    have cR := (an 4 rfl).trans bk
    refine j2 (j2 ?_)
    refine if_else hf (fun af hf => ?_) (fun af hf => ?_)
    ·obtain ⟨x43, cS, hf⟩ := bind_some hf
     obtain ⟨x45, cT, hf⟩ := bind_some hf
     obtain ⟨al, cU, hf⟩ := bind_some hf
     refine wp_draw (B := frExt s0.N) [some 13, some 14, some 15, some 16, some 17, some 18, some 19, some 20, some 21, some 22, some 23, some 24, some 25, some 26, some 27, some 28] [[], [], [1], [0, 1, 2], [0, 1, 2, 3], [0, 1, 2, 3, 4], [0, 1, 2, 3, 4], [0, 1, 2, 3, 4, 5, 6], [0, 1, 2, 3, 4, 5, 6, 7], [0, 1, 2, 3, 4], [0, 1, 2, 3, 4], [0, 1, 2, 3, 4, 9, 10], [0, 1, 2, 3, 4, 9, 10, 11], [0, 1, 2, 3, 4, 5, 6, 7, 8, 9, 10, 11, 12], [0, 1, 2, 3, 4, 5, 6, 7, 8, 9, 10, 11, 12, 13], [0, 1, 2, 3, 4, 5, 6, 7, 8, 9, 10, 11, 12, 13, 14]] [Fct.eqv (.int .i64 ac), Fct.eqv (.slice ad aa.1.length ae), Fct.eqv (.int .i64 (aa.1.length : Int)), Fct.eqv (.bool (decide (ac < (aa.1.length : Int)))), Fct.eqv (.bool (decide (ac < (aa.1.length : Int)))), Fct.eqv (.slice ad aa.1.length ae), Fct.eqv (.int .i64 ac), Fct.elem (x43 : Ent), Fct.data (x43 : Ent), Fct.eqv (.slice A1 a0.length c2), Fct.eqv (.int .i64 aa.2), Fct.elem (x45 : Ent), Fct.data (x45 : Ent), Fct.eqv (.int .i64 al), Fct.eqv (.bool (decide (al < 0))), Fct.eqv (.bool (decide (al < 0)))] (fun D F τ => True) (by kernel_rfl) rfl (by decide) (by decide) trivial (by decide) (by decide) ⟨?_, ?_, ?_, ?_, ?_, ?_, ?_, ?_, ?_, ?_, ?_, ?_, ?_, ?_, ?_, ?_, trivial⟩ ?_
     ·intro l9 ma mb mc md me mf mg mh cV mi
      refine r_move (.int .i64 ac) ((cV 5 rfl).trans av) rfl ?_
      exact d0 ⟨rfl, trivial⟩
     ·intro mj mk ml mm mn mo mp mq mr cW ms
      refine r_move (.slice ad aa.1.length ae) ((cW 3 rfl).trans aN) rfl ?_
      exact d0 ⟨rfl, trivial⟩
     ·intro mt mu mv mw mx my mz mA mB mC cX
      refine r_len ad aa.1.length ae (cX 1 rfl 14 rfl) rfl Go.Proofs.Try.underlying24 ?_
      exact d0 ⟨rfl, trivial⟩
     ·intro mD mE mF mG mH mI mJ mK mL mM bl
      refine r_bin (.int .i64 ac) (.int .i64 (aa.1.length : Int)) (.bool (decide (ac < (aa.1.length : Int)))) (bl 0 rfl 13 rfl) (bl 2 rfl 15 rfl) rfl rfl (b_lss) ?_
      exact d0 ⟨rfl, trivial⟩
     ·intro mN mO mP mQ mR mS mT mU mV mW cY
      refine r_move (.bool (decide (ac < (aa.1.length : Int)))) (cY 3 rfl 16 rfl) rfl ?_
      exact d0 ⟨rfl, trivial⟩
     ·intro mX mY mZ m0 m1 m2 m3 m4 m5 cZ c0
      refine Or.inr ⟨decide (ac < (aa.1.length : Int)), (fun d hd => by cases hd; exact (c0 4 rfl 17 rfl)), fun _ => ?_, fun h => absurd (af : (decide (ac < (aa.1.length : Int))) = true) h⟩
      refine r_move (.slice ad aa.1.length ae) ((cZ 3 rfl).trans aN) rfl ?_
      exact d0 ⟨rfl, trivial⟩
     ·intro m6 m7 m8 m9 na nb nc nd ne c3 c4
      refine Or.inr ⟨decide (ac < (aa.1.length : Int)), (fun d hd => by cases hd; exact (c4 4 rfl 17 rfl)), fun _ => ?_, fun h => absurd (af : (decide (ac < (aa.1.length : Int))) = true) h⟩
      refine r_move (.int .i64 ac) ((c3 5 rfl).trans av) rfl ?_
      exact d0 ⟨rfl, trivial⟩
     ·intro nf ng nh ni nj nk nm c5 nn no aO
      refine Or.inr ⟨decide (ac < (aa.1.length : Int)), (fun d hd => by cases hd; exact (aO 4 rfl 17 rfl)), fun _ => ?_, fun h => absurd (af : (decide (ac < (aa.1.length : Int))) = true) h⟩
      refine r_indexAddr (T := 24) (E := 65) ((aj.mono au).mono c5) cS (aO 5 rfl 18 rfl) (aO 6 rfl 19 rfl) rfl rfl Go.Proofs.Try.underlying24 sz65 ?_
      intro np nq nr c6 c7
      obtain ⟨ns, nt, nu, nv, nw, nx, ny, nz, nA, nB, rfl, c8, c9, da, db, dc⟩ := Ent.cells_iff.1 c6
      exact d0 ⟨⟨_, _, _, rfl, (Ent.cells_iff.2 ⟨_, _, _, _, _, _, _, _, _, _, rfl, c8, c9, da, db, dc⟩), c7⟩, trivial⟩
     ·intro nC dd de nD nE nF nG nH nI nJ bm
      obtain ⟨df, dg, nK, dh, di, dj⟩ : (Fct.elem (x43 : Ent)).p (dd 20) de := bm 7 rfl 20 rfl
      obtain ⟨dk, dl, dm, dn, dp, dq, dr, ds, dt, du, rfl, dv, dw, dx, dy, dz⟩ := Ent.cells_iff.1 di
      refine Or.inr ⟨decide (ac < (aa.1.length : Int)), (fun d hd => by cases hd; exact (bm 4 rfl 17 rfl)), fun _ => ?_, fun h => absurd (af : (decide (ac < (aa.1.length : Int))) = true) h⟩
      refine r_load df dg (.agg #[.slice dk x43.Args.length dl, .bool x43.Fails, .int .i64 x43.Result.Kind, .int .i64 x43.Result.Int_, .string x43.Result.Text, .slice dm x43.Result.Kids.length dn, .slice dp x43.Result.Keys.length dq, .slice dr x43.Result.Entries.length ds, .slice dt x43.Result.Labels.length du]) dh rfl (loads_row tr65 dj.2) ?_
      exact d0 ⟨(Ent.rpvMk (v := x43) dv dw dx dy dz), trivial⟩
     ·intro nL nM nN nO nP nQ nR nS nT dA dB
      refine Or.inr ⟨decide (ac < (aa.1.length : Int)), (fun d hd => by cases hd; exact (dB 4 rfl 17 rfl)), fun _ => ?_, fun h => absurd (af : (decide (ac < (aa.1.length : Int))) = true) h⟩
      refine r_move (.slice A1 a0.length c2) ((dA 0 rfl).trans cQ) rfl ?_
      exact d0 ⟨rfl, trivial⟩
     ·intro nU nV nW nX nY nZ n0 n1 n2 dC dD
      refine Or.inr ⟨decide (ac < (aa.1.length : Int)), (fun d hd => by cases hd; exact (dD 4 rfl 17 rfl)), fun _ => ?_, fun h => absurd (af : (decide (ac < (aa.1.length : Int))) = true) h⟩
      refine r_move (.int .i64 aa.2) ((dC 4 rfl).trans cR) rfl ?_
      exact d0 ⟨rfl, trivial⟩
     ·intro n3 n4 n5 n6 n7 n8 n9 dE oa ob aP
      refine Or.inr ⟨decide (ac < (aa.1.length : Int)), (fun d hd => by cases hd; exact (aP 4 rfl 17 rfl)), fun _ => ?_, fun h => absurd (af : (decide (ac < (aa.1.length : Int))) = true) h⟩
      refine r_indexAddr (T := 24) (E := 65) (((h3.mono ai).mono au).mono dE) cT (aP 9 rfl 22 rfl) (aP 10 rfl 23 rfl) rfl rfl Go.Proofs.Try.underlying24 sz65 ?_
      intro oc od oe dF dG
      obtain ⟨og, oh, oi, oj, ol, on, oo, op, oq, ot, rfl, dH, dI, dJ, dK, dL⟩ := Ent.cells_iff.1 dF
      exact d0 ⟨⟨_, _, _, rfl, (Ent.cells_iff.2 ⟨_, _, _, _, _, _, _, _, _, _, rfl, dH, dI, dJ, dK, dL⟩), dG⟩, trivial⟩
     ·intro ou dM dN ov ow ox oy oz oA oB bn
      obtain ⟨dO, dP, oC, dQ, dR, dS⟩ : (Fct.elem (x45 : Ent)).p (dM 24) dN := bn 11 rfl 24 rfl
      obtain ⟨dT, dU, dV, dW, dX, dY, dZ, d1, d2, d3, rfl, d4, d5, d6, d7, d8⟩ := Ent.cells_iff.1 dR
      refine Or.inr ⟨decide (ac < (aa.1.length : Int)), (fun d hd => by cases hd; exact (bn 4 rfl 17 rfl)), fun _ => ?_, fun h => absurd (af : (decide (ac < (aa.1.length : Int))) = true) h⟩
      refine r_load dO dP (.agg #[.slice dT x45.Args.length dU, .bool x45.Fails, .int .i64 x45.Result.Kind, .int .i64 x45.Result.Int_, .string x45.Result.Text, .slice dV x45.Result.Kids.length dW, .slice dX x45.Result.Keys.length dY, .slice dZ x45.Result.Entries.length d1, .slice d2 x45.Result.Labels.length d3]) dQ rfl (loads_row tr65 dS.2) ?_
      exact d0 ⟨(Ent.rpvMk (v := x45) d4 d5 d6 d7 d8), trivial⟩
     ·intro oD bo bp oE oF oG d9 oH oI oJ aQ
      have ea := aM.trans d9
      have eb : RpV bp (x43 : Ent) (bo 21) := aQ 8 rfl 21 rfl
      obtain ⟨ec, ed, ee, ef, eg, eh, ei, ej, ek, el, em, en, eo, ep, eq, er⟩ := Ent.rpv eb
      have es : RpV bp (x45 : Ent) (bo 25) := aQ 12 rfl 25 rfl
      obtain ⟨et, eu, ev, ew, ex, ey, ez, eA, eB, eC, eD, eE, eF, eG, eH, eI⟩ := Ent.rpv es
      refine Or.inr ⟨decide (ac < (aa.1.length : Int)), (fun d hd => by cases hd; exact (aQ 4 rfl 17 rfl)), fun _ => ?_, fun h => absurd (af : (decide (ac < (aa.1.length : Int))) = true) h⟩
      refine r_call [.agg #[.slice ec x43.Args.length ed, .bool x43.Fails, .int .i64 x43.Result.Kind, .int .i64 x43.Result.Int_, .string x43.Result.Text, .slice ee x43.Result.Kids.length ef, .slice eg x43.Result.Keys.length eh, .slice ei x43.Result.Entries.length ej, .slice ek x43.Result.Labels.length el], .agg #[.slice et x45.Args.length eu, .bool x45.Fails, .int .i64 x45.Result.Kind, .int .i64 x45.Result.Int_, .string x45.Result.Text, .slice ev x45.Result.Kids.length ew, .slice ex x45.Result.Keys.length ey, .slice ez x45.Result.Entries.length eA, .slice eB x45.Result.Labels.length eC]] (evs2 em eD) rfl ((ok_semtyperef1_CompareEntries fuel) _ _ _ _ _ _ (Ent.rpvMk (v := x43) en eo ep eq er) (Ent.rpvMk (v := x45) eE eF eG eH eI) cU) ?_
      intro oK oL bq eJ
      obtain rfl := RpV.int eJ
      refine j0 ?_
      exact ⟨_, _, rfl, rfl, (ExtB.refl _ _).trans (bq.mono ea.size), (Wext.refl _).trans bq.wext, rfl, trivial⟩
     ·intro oM oN oO oP oQ oR oS oT oU oV br
      refine Or.inr ⟨decide (ac < (aa.1.length : Int)), (fun d hd => by cases hd; exact (br 4 rfl 17 rfl)), fun _ => ?_, fun h => absurd (af : (decide (ac < (aa.1.length : Int))) = true) h⟩
      refine r_bin (.int .i64 al) (.int .i64 0) (.bool (decide (al < 0))) (br 13 rfl 26 rfl) rfl rfl rfl (b_lss) ?_
      exact d0 ⟨rfl, trivial⟩
     ·intro oW oX oY oZ o0 o1 o2 o3 o4 o5 bs
      refine r_pick_t (c := decide (ac < (aa.1.length : Int))) (.bool (decide (al < 0))) (bs 4 rfl 17 rfl) af (bs 14 rfl 27 rfl) rfl rfl rfl ?_
      exact d0 ⟨rfl, trivial⟩
     intro eK o6 eL bt o7 aR eM
     have bu := aM.trans eL
     have bv := (aR 5 rfl).trans av
     have bw : eK 28 = (.bool (decide (al < 0))) := eM 15 28 rfl
     refine j1 ?_
     refine if_else hf (fun aS hf => ?_) (fun aS hf => ?_)
     ·refine c_true bw aS rfl ?_
      refine ja (j1 (j4 (j3 ?_)))
      refine r_move (.int .i64 ac) bv rfl ?_
      refine r_bin (.int .i64 ac) (.int .i64 1) (.int .i64 (w64 (ac + 1))) rfl rfl rfl rfl (b_add) ?_
      refine r_assign (.int .i64 (w64 (ac + 1))) rfl rfl ?_
      refine j0 (j5 ?_)
      obtain rfl := Option.some.inj hf
      exact ⟨rfl, _, _, rfl, rfl, (((((an).draw aR rfl).put rfl).put rfl).put rfl), bu, (((Wext.refl _).trans au).trans bt), rfl⟩
     refine c_false bw aS rfl ?_
     refine jc (j8 ?_)
     obtain rfl := Option.some.inj hf
     exact ⟨rfl, _, _, rfl, rfl, ((an).draw aR rfl), bu, (((Wext.refl _).trans au).trans bt), bv⟩
    refine wp_draw (B := frExt s0.N) [some 13, some 14, some 15, some 16, some 17, some 18, some 19, some 20, some 21, some 22, some 23, some 24, some 25, some 26, some 27, some 28] [[], [], [1], [0, 1, 2], [0, 1, 2, 3], [0, 1, 2, 3, 4], [0, 1, 2, 3, 4], [0, 1, 2, 3, 4, 5, 6], [0, 1, 2, 3, 4, 5, 6, 7], [0, 1, 2, 3, 4], [0, 1, 2, 3, 4], [0, 1, 2, 3, 4, 9, 10], [0, 1, 2, 3, 4, 9, 10, 11], [0, 1, 2, 3, 4, 5, 6, 7, 8, 9, 10, 11, 12], [0, 1, 2, 3, 4, 5, 6, 7, 8, 9, 10, 11, 12, 13], [0, 1, 2, 3, 4, 5, 6, 7, 8, 9, 10, 11, 12, 13, 14]] [Fct.eqv (.int .i64 ac), Fct.eqv (.slice ad aa.1.length ae), Fct.eqv (.int .i64 (aa.1.length : Int)), Fct.eqv (.bool (decide (ac < (aa.1.length : Int)))), Fct.eqv (.bool (decide (ac < (aa.1.length : Int)))), Fct.eqv undef, Fct.eqv undef, Fct.eqv undef, Fct.eqv undef, Fct.eqv undef, Fct.eqv undef, Fct.eqv undef, Fct.eqv undef, Fct.eqv undef, Fct.eqv undef, Fct.eqv (.bool false)] (fun D F τ => True) (by kernel_rfl) rfl (by decide) (by decide) trivial (by decide) (by decide) ⟨?_, ?_, ?_, ?_, ?_, ?_, ?_, ?_, ?_, ?_, ?_, ?_, ?_, ?_, ?_, ?_, trivial⟩ ?_
    ·intro o8 o9 pa pb pc pd pe pf pg eN ph
     refine r_move (.int .i64 ac) ((eN 5 rfl).trans av) rfl ?_
     exact d0 ⟨rfl, trivial⟩
    ·intro pi pj pk pl pm pn po pp pq eO pr
     refine r_move (.slice ad aa.1.length ae) ((eO 3 rfl).trans aN) rfl ?_
     exact d0 ⟨rfl, trivial⟩
    ·intro ps pt pu pv pw px py pz pA pB eP
     refine r_len ad aa.1.length ae (eP 1 rfl 14 rfl) rfl Go.Proofs.Try.underlying24 ?_
     exact d0 ⟨rfl, trivial⟩
    ·intro pC pD pE pF pG pH pI pJ pK pL bx
     refine r_bin (.int .i64 ac) (.int .i64 (aa.1.length : Int)) (.bool (decide (ac < (aa.1.length : Int)))) (bx 0 rfl 13 rfl) (bx 2 rfl 15 rfl) rfl rfl (b_lss) ?_
     exact d0 ⟨rfl, trivial⟩
    ·intro pM pN pO pP pQ pR pS pT pU pV eQ
     refine r_move (.bool (decide (ac < (aa.1.length : Int)))) (eQ 3 rfl 16 rfl) rfl ?_
     exact d0 ⟨rfl, trivial⟩
    ·intro pW pX pY pZ p0 p1 p2 p3 p4 p5 eR
     refine Or.inr ⟨decide (ac < (aa.1.length : Int)), (fun d hd => by cases hd; exact (eR 4 rfl 17 rfl)), fun h => Bool.noConfusion (Eq.trans (Eq.symm (af : (decide (ac < (aa.1.length : Int))) = false)) h), fun _ => ⟨rfl, ?_⟩⟩
     exact trivial
    ·intro p6 p7 p8 p9 qa qb qc qd qe qf eS
     refine Or.inr ⟨decide (ac < (aa.1.length : Int)), (fun d hd => by cases hd; exact (eS 4 rfl 17 rfl)), fun h => Bool.noConfusion (Eq.trans (Eq.symm (af : (decide (ac < (aa.1.length : Int))) = false)) h), fun _ => ⟨rfl, ?_⟩⟩
     exact trivial
    ·intro qg bz qh qi qj qk ql qm qn qo aT
     have qp : bz 18 = undef := aT 5 rfl 18 rfl
     have qq : bz 19 = undef := aT 6 rfl 19 rfl
     refine Or.inr ⟨decide (ac < (aa.1.length : Int)), (fun d hd => by cases hd; exact (aT 4 rfl 17 rfl)), fun h => Bool.noConfusion (Eq.trans (Eq.symm (af : (decide (ac < (aa.1.length : Int))) = false)) h), fun _ => ⟨rfl, ?_⟩⟩
     exact trivial
    ·intro qr eT qs qt qu qv qw qx qy qz bA
     have qA : eT 20 = undef := bA 7 rfl 20 rfl
     refine Or.inr ⟨decide (ac < (aa.1.length : Int)), (fun d hd => by cases hd; exact (bA 4 rfl 17 rfl)), fun h => Bool.noConfusion (Eq.trans (Eq.symm (af : (decide (ac < (aa.1.length : Int))) = false)) h), fun _ => ⟨rfl, ?_⟩⟩
     exact trivial
    ·intro qB qC qD qE qF qG qH qI qJ qK eU
     refine Or.inr ⟨decide (ac < (aa.1.length : Int)), (fun d hd => by cases hd; exact (eU 4 rfl 17 rfl)), fun h => Bool.noConfusion (Eq.trans (Eq.symm (af : (decide (ac < (aa.1.length : Int))) = false)) h), fun _ => ⟨rfl, ?_⟩⟩
     exact trivial
    ·intro qL qM qN qO qP qQ qR qS qT qU eV
     refine Or.inr ⟨decide (ac < (aa.1.length : Int)), (fun d hd => by cases hd; exact (eV 4 rfl 17 rfl)), fun h => Bool.noConfusion (Eq.trans (Eq.symm (af : (decide (ac < (aa.1.length : Int))) = false)) h), fun _ => ⟨rfl, ?_⟩⟩
     exact trivial
    ·intro qV bB qW qX qY qZ q0 q1 q2 q3 aU
     have q4 : bB 22 = undef := aU 9 rfl 22 rfl
     have q5 : bB 23 = undef := aU 10 rfl 23 rfl
     refine Or.inr ⟨decide (ac < (aa.1.length : Int)), (fun d hd => by cases hd; exact (aU 4 rfl 17 rfl)), fun h => Bool.noConfusion (Eq.trans (Eq.symm (af : (decide (ac < (aa.1.length : Int))) = false)) h), fun _ => ⟨rfl, ?_⟩⟩
     exact trivial
    ·intro q6 eW q7 q8 q9 ra rb rc rd re bC
     have rf : eW 24 = undef := bC 11 rfl 24 rfl
     refine Or.inr ⟨decide (ac < (aa.1.length : Int)), (fun d hd => by cases hd; exact (bC 4 rfl 17 rfl)), fun h => Bool.noConfusion (Eq.trans (Eq.symm (af : (decide (ac < (aa.1.length : Int))) = false)) h), fun _ => ⟨rfl, ?_⟩⟩
     exact trivial
    ·intro rg bD rh ri rj rk rl rm rn ro aV
     have rq : bD 21 = undef := aV 8 rfl 21 rfl
     have rr : bD 25 = undef := aV 12 rfl 25 rfl
     refine Or.inr ⟨decide (ac < (aa.1.length : Int)), (fun d hd => by cases hd; exact (aV 4 rfl 17 rfl)), fun h => Bool.noConfusion (Eq.trans (Eq.symm (af : (decide (ac < (aa.1.length : Int))) = false)) h), fun _ => ⟨rfl, ?_⟩⟩
     exact trivial
    ·intro rs eX rt ru rv rw rx ry rz rA bE
     have rB : eX 26 = undef := bE 13 rfl 26 rfl
     refine Or.inr ⟨decide (ac < (aa.1.length : Int)), (fun d hd => by cases hd; exact (bE 4 rfl 17 rfl)), fun h => Bool.noConfusion (Eq.trans (Eq.symm (af : (decide (ac < (aa.1.length : Int))) = false)) h), fun _ => ⟨rfl, ?_⟩⟩
     exact trivial
    ·intro rC eY rD rE rF rG rH rI rJ rK bF
     have rL : eY 27 = undef := bF 14 rfl 27 rfl
     refine r_pick_f (c := decide (ac < (aa.1.length : Int))) (.bool false) (bF 4 rfl 17 rfl) af rfl rfl rfl rfl ?_
     exact d0 ⟨rfl, trivial⟩
    intro rM rN eZ e0 rO bG e1
    have e2 := aM.trans eZ
    have e3 := (bG 5 rfl).trans av
    refine j1 ?_
    refine c_false (e1 15 28 rfl) rfl rfl ?_
    refine jc (j8 ?_)
    obtain rfl := Option.some.inj hf
    exact ⟨rfl, _, _, rfl, rfl, ((an).draw bG rfl), e2, (((Wext.refl _).trans au).trans e0), e3⟩
   ·exact ⟨_, _, rfl, rfl, (Agr.refl _ _), bf, (Wext.refl _), cO⟩
   rintro e a w ⟨rfl, rP, rQ, rfl, rfl, ao, aW, ah, aw⟩
   have aX := (ao 0 rfl).trans bi
   have ax := (ao 3 rfl).trans bj
   have aY := (ao 4 rfl).trans bk
   refine j6 (j1 (j2 (j2 ?_)))
   refine if_else hf (fun ag hf => ?_) (fun ag hf => ?_)
   ·obtain ⟨x651, e4, hf⟩ := bind_some hf
    obtain ⟨x653, e5, hf⟩ := bind_some hf
    obtain ⟨am, e6, hf⟩ := bind_some hf
    refine wp_draw (B := frExt s0.N) [some 31, some 32, some 33, some 34, some 35, some 36, some 37, some 38, some 39, some 40, some 41, some 42, some 43, some 44, some 45, some 46] [[], [], [1], [0, 1, 2], [0, 1, 2, 3], [0, 1, 2, 3, 4], [0, 1, 2, 3, 4], [0, 1, 2, 3, 4, 5, 6], [0, 1, 2, 3, 4, 5, 6, 7], [0, 1, 2, 3, 4], [0, 1, 2, 3, 4], [0, 1, 2, 3, 4, 9, 10], [0, 1, 2, 3, 4, 9, 10, 11], [0, 1, 2, 3, 4, 5, 6, 7, 8, 9, 10, 11, 12], [0, 1, 2, 3, 4, 5, 6, 7, 8, 9, 10, 11, 12, 13], [0, 1, 2, 3, 4, 5, 6, 7, 8, 9, 10, 11, 12, 13, 14]] [Fct.eqv (.int .i64 ab), Fct.eqv (.slice ad aa.1.length ae), Fct.eqv (.int .i64 (aa.1.length : Int)), Fct.eqv (.bool (decide (ab < (aa.1.length : Int)))), Fct.eqv (.bool (decide (ab < (aa.1.length : Int)))), Fct.eqv (.slice ad aa.1.length ae), Fct.eqv (.int .i64 ab), Fct.elem (x651 : Ent), Fct.data (x651 : Ent), Fct.eqv (.slice A1 a0.length c2), Fct.eqv (.int .i64 aa.2), Fct.elem (x653 : Ent), Fct.data (x653 : Ent), Fct.eqv (.int .i64 am), Fct.eqv (.bool (am == 0)), Fct.eqv (.bool (am == 0))] (fun D F τ => True) (by kernel_rfl) rfl (by decide) (by decide) trivial (by decide) (by decide) ⟨?_, ?_, ?_, ?_, ?_, ?_, ?_, ?_, ?_, ?_, ?_, ?_, ?_, ?_, ?_, ?_, trivial⟩ ?_
    ·intro rR rS rT rU rV rW rX rY rZ e7 r0
     refine r_move (.int .i64 ab) ((e7 5 rfl).trans aw) rfl ?_
     exact d0 ⟨rfl, trivial⟩
    ·intro r1 r2 r3 r4 r5 r6 r7 r8 r9 e8 sa
     refine r_move (.slice ad aa.1.length ae) ((e8 3 rfl).trans ax) rfl ?_
     exact d0 ⟨rfl, trivial⟩
    ·intro sb sc sd se sf sg sh si sj sk e9
     refine r_len ad aa.1.length ae (e9 1 rfl 32 rfl) rfl Go.Proofs.Try.underlying24 ?_
     exact d0 ⟨rfl, trivial⟩
    ·intro sl sm sn so sp sq sr ss st su bH
     refine r_bin (.int .i64 ab) (.int .i64 (aa.1.length : Int)) (.bool (decide (ab < (aa.1.length : Int)))) (bH 0 rfl 31 rfl) (bH 2 rfl 33 rfl) rfl rfl (b_lss) ?_
     exact d0 ⟨rfl, trivial⟩
    ·intro sv sw sx sy sA sB sC sD sE sF fa
     refine r_move (.bool (decide (ab < (aa.1.length : Int)))) (fa 3 rfl 34 rfl) rfl ?_
     exact d0 ⟨rfl, trivial⟩
    ·intro sG sH sI sJ sK sL sM sN sO fb fc
     refine Or.inr ⟨decide (ab < (aa.1.length : Int)), (fun d hd => by cases hd; exact (fc 4 rfl 35 rfl)), fun _ => ?_, fun h => absurd (ag : (decide (ab < (aa.1.length : Int))) = true) h⟩
     refine r_move (.slice ad aa.1.length ae) ((fb 3 rfl).trans ax) rfl ?_
     exact d0 ⟨rfl, trivial⟩
    ·intro sP sQ sR sS sT sU sV sW sX fd fe
     refine Or.inr ⟨decide (ab < (aa.1.length : Int)), (fun d hd => by cases hd; exact (fe 4 rfl 35 rfl)), fun _ => ?_, fun h => absurd (ag : (decide (ab < (aa.1.length : Int))) = true) h⟩
     refine r_move (.int .i64 ab) ((fd 5 rfl).trans aw) rfl ?_
     exact d0 ⟨rfl, trivial⟩
    ·intro sY sZ s1 s2 s3 s4 s5 ff s6 s7 aZ
     refine Or.inr ⟨decide (ab < (aa.1.length : Int)), (fun d hd => by cases hd; exact (aZ 4 rfl 35 rfl)), fun _ => ?_, fun h => absurd (ag : (decide (ab < (aa.1.length : Int))) = true) h⟩
     refine r_indexAddr (T := 24) (E := 65) ((aj.mono ah).mono ff) e4 (aZ 5 rfl 36 rfl) (aZ 6 rfl 37 rfl) rfl rfl Go.Proofs.Try.underlying24 sz65 ?_
     intro s8 s9 ta fg fh
     obtain ⟨tb, tc, td, te, tf, tg, th, ti, tj, tk, rfl, fj, fk, fm, fn, fo⟩ := Ent.cells_iff.1 fg
     exact d0 ⟨⟨_, _, _, rfl, (Ent.cells_iff.2 ⟨_, _, _, _, _, _, _, _, _, _, rfl, fj, fk, fm, fn, fo⟩), fh⟩, trivial⟩
    ·intro tl fp fq tm tn tp tq tr ts tt bI
     obtain ⟨fs, ft, tu, fu, fv, fw⟩ : (Fct.elem (x651 : Ent)).p (fp 38) fq := bI 7 rfl 38 rfl
     obtain ⟨fx, fy, fz, fA, fB, fC, fD, fE, fF, fG, rfl, fH, fI, fJ, fK, fL⟩ := Ent.cells_iff.1 fv
     refine Or.inr ⟨decide (ab < (aa.1.length : Int)), (fun d hd => by cases hd; exact (bI 4 rfl 35 rfl)), fun _ => ?_, fun h => absurd (ag : (decide (ab < (aa.1.length : Int))) = true) h⟩
     refine r_load fs ft (.agg #[.slice fx x651.Args.length fy, .bool x651.Fails, .int .i64 x651.Result.Kind, .int .i64 x651.Result.Int_, .string x651.Result.Text, .slice fz x651.Result.Kids.length fA, .slice fB x651.Result.Keys.length fC, .slice fD x651.Result.Entries.length fE, .slice fF x651.Result.Labels.length fG]) fu rfl (loads_row tr65 fw.2) ?_
     exact d0 ⟨(Ent.rpvMk (v := x651) fH fI fJ fK fL), trivial⟩
    ·intro tv tw tx ty tz tA tB tC tD fM fN
     refine Or.inr ⟨decide (ab < (aa.1.length : Int)), (fun d hd => by cases hd; exact (fN 4 rfl 35 rfl)), fun _ => ?_, fun h => absurd (ag : (decide (ab < (aa.1.length : Int))) = true) h⟩
     refine r_move (.slice A1 a0.length c2) ((fM 0 rfl).trans aX) rfl ?_
     exact d0 ⟨rfl, trivial⟩
    ·intro tE tF tG tH tI tJ tK tL tM fO fP
     refine Or.inr ⟨decide (ab < (aa.1.length : Int)), (fun d hd => by cases hd; exact (fP 4 rfl 35 rfl)), fun _ => ?_, fun h => absurd (ag : (decide (ab < (aa.1.length : Int))) = true) h⟩
     refine r_move (.int .i64 aa.2) ((fO 4 rfl).trans aY) rfl ?_
     exact d0 ⟨rfl, trivial⟩
    ·intro tN tO tP tQ tR tS tT fQ tU tV a1
     refine Or.inr ⟨decide (ab < (aa.1.length : Int)), (fun d hd => by cases hd; exact (a1 4 rfl 35 rfl)), fun _ => ?_, fun h => absurd (ag : (decide (ab < (aa.1.length : Int))) = true) h⟩
     refine r_indexAddr (T := 24) (E := 65) (((h3.mono ai).mono ah).mono fQ) e5 (a1 9 rfl 40 rfl) (a1 10 rfl 41 rfl) rfl rfl Go.Proofs.Try.underlying24 sz65 ?_
     intro tW tX tY fR fS
     obtain ⟨tZ, t0, t1, t2, t3, t4, t5, t6, t7, t8, rfl, fT, fU, fV, fW, fX⟩ := Ent.cells_iff.1 fR
     exact d0 ⟨⟨_, _, _, rfl, (Ent.cells_iff.2 ⟨_, _, _, _, _, _, _, _, _, _, rfl, fT, fU, fV, fW, fX⟩), fS⟩, trivial⟩
    ·intro t9 fY fZ ua ub uc ud ue uf ug bJ
     obtain ⟨f0, f1, uh, f2, f3, f4⟩ : (Fct.elem (x653 : Ent)).p (fY 42) fZ := bJ 11 rfl 42 rfl
     obtain ⟨f5, f7, ga, gb, gc, gd, ge, gf, gg, gh, rfl, gi, gj, gk, gl, gm⟩ := Ent.cells_iff.1 f3
     refine Or.inr ⟨decide (ab < (aa.1.length : Int)), (fun d hd => by cases hd; exact (bJ 4 rfl 35 rfl)), fun _ => ?_, fun h => absurd (ag : (decide (ab < (aa.1.length : Int))) = true) h⟩
     refine r_load f0 f1 (.agg #[.slice f5 x653.Args.length f7, .bool x653.Fails, .int .i64 x653.Result.Kind, .int .i64 x653.Result.Int_, .string x653.Result.Text, .slice ga x653.Result.Kids.length gb, .slice gc x653.Result.Keys.length gd, .slice ge x653.Result.Entries.length gf, .slice gg x653.Result.Labels.length gh]) f2 rfl (loads_row tr65 f4.2) ?_
     exact d0 ⟨(Ent.rpvMk (v := x653) gi gj gk gl gm), trivial⟩
    ·intro ui bK bL uj uk ul gn um un uo a2
     have go := aW.trans gn
     have gp : RpV bL (x651 : Ent) (bK 39) := a2 8 rfl 39 rfl
     obtain ⟨gq, gr, gs, gt, gu, gv, gw, gx, gy, gz, gA, gB, gC, gD, gE, gF⟩ := Ent.rpv gp
     have gG : RpV bL (x653 : Ent) (bK 43) := a2 12 rfl 43 rfl
     obtain ⟨gH, gI, gJ, gK, gL, gM, gN, gO, gP, gQ, gR, gS, gT, gU, gV, gW⟩ := Ent.rpv gG
     refine Or.inr ⟨decide (ab < (aa.1.length : Int)), (fun d hd => by cases hd; exact (a2 4 rfl 35 rfl)), fun _ => ?_, fun h => absurd (ag : (decide (ab < (aa.1.length : Int))) = true) h⟩
     refine r_call [.agg #[.slice gq x651.Args.length gr, .bool x651.Fails, .int .i64 x651.Result.Kind, .int .i64 x651.Result.Int_, .string x651.Result.Text, .slice gs x651.Result.Kids.length gt, .slice gu x651.Result.Keys.length gv, .slice gw x651.Result.Entries.length gx, .slice gy x651.Result.Labels.length gz], .agg #[.slice gH x653.Args.length gI, .bool x653.Fails, .int .i64 x653.Result.Kind, .int .i64 x653.Result.Int_, .string x653.Result.Text, .slice gJ x653.Result.Kids.length gK, .slice gL x653.Result.Keys.length gM, .slice gN x653.Result.Entries.length gO, .slice gP x653.Result.Labels.length gQ]] (evs2 gA gR) rfl ((ok_semtyperef1_CompareEntries fuel) _ _ _ _ _ _ (Ent.rpvMk (v := x651) gB gC gD gE gF) (Ent.rpvMk (v := x653) gS gT gU gV gW) e6) ?_
     intro up uq bM gX
     obtain rfl := RpV.int gX
     refine j0 ?_
     exact ⟨_, _, rfl, rfl, (ExtB.refl _ _).trans (bM.mono go.size), (Wext.refl _).trans bM.wext, rfl, trivial⟩
    ·intro ur us ut uu uv uw ux uy uz uA bN
     refine Or.inr ⟨decide (ab < (aa.1.length : Int)), (fun d hd => by cases hd; exact (bN 4 rfl 35 rfl)), fun _ => ?_, fun h => absurd (ag : (decide (ab < (aa.1.length : Int))) = true) h⟩
     refine r_bin (.int .i64 am) (.int .i64 0) (.bool (am == 0)) (bN 13 rfl 44 rfl) rfl rfl rfl (b_eql) ?_
     exact d0 ⟨rfl, trivial⟩
    ·intro uB uC uD uE uF uG uH uI uJ uK bO
     refine r_pick_t (c := decide (ab < (aa.1.length : Int))) (.bool (am == 0)) (bO 4 rfl 35 rfl) ag (bO 14 rfl 45 rfl) rfl rfl rfl ?_
     exact d0 ⟨rfl, trivial⟩
    intro gY uL gZ ap uM aq g0
    have a3 := aW.trans gZ
    have g1 := (aq 0 rfl).trans aX
    have a4 := (aq 3 rfl).trans ax
    have a5 := (aq 4 rfl).trans aY
    have bP := (aq 5 rfl).trans aw
    have bQ : gY 46 = (.bool (am == 0)) := g0 15 46 rfl
    refine j1 ?_
    refine if_else hf (fun a6 hf => ?_) (fun a6 hf => ?_)
    ·refine c_true bQ a6 rfl ?_
     refine jc (j8 (j6 (j1 (j3 ?_))))
     refine r_move (.int .i64 aa.2) a5 rfl ?_
     refine r_bin (.int .i64 aa.2) (.int .i64 1) (.int .i64 (w64 (aa.2 + 1))) rfl rfl rfl rfl (b_add) ?_
     refine r_assign (.int .i64 (w64 (aa.2 + 1))) rfl rfl ?_
     refine j0 ?_
     obtain rfl := Option.some.inj hf
     exact ⟨rfl, _, _, ad, ae, rfl, rfl, ((((((((((((ar).put rfl).put rfl).put rfl).put rfl).put rfl).gen ak).loop ao rfl).draw aq rfl).put rfl).put rfl).put rfl), a3, ((((Wext.refl _).trans ai).trans ah).trans ap), a4, ((aj.mono ah).mono ap), rfl⟩
    refine c_false bQ a6 rfl ?_
    refine ja (j1 (j2 (j3 ?_)))
    refine r_move (.slice ad aa.1.length ae) a4 rfl ?_
    refine r_move (.int .i64 ab) bP rfl ?_
    obtain ⟨x1011, g2, hf⟩ := bind_some hf
    obtain ⟨g3, g4, g5, g6⟩ := sl_cut_h (P := Go.Proofs.Try.prog) ((aj.mono ah).mono ap) g2 Go.Proofs.Try.underlying24 sz65
    refine r_slice (.slice ad aa.1.length ae) (.slice g3 x1011.length g4) none (some (.int .i64 ab)) none rfl rfl rfl (om rfl) rfl rfl (g5) ?_
    obtain ⟨uN, g7, hf⟩ := bind_some hf
    refine r_append (B := s0.N) (id := 2) (E := 65) (xs := ([] : List Ent)) (ys := x1011) a3.size (Own.nil_ _) g6 ts24 (room_some g7) rfl rfl rfl rfl ?_
    intro uO az aA aB g8
    have aC := a3.y aB
    refine r_assign (.slice az x1011.length aA) rfl rfl ?_
    refine j0 (j1 ?_)
    obtain ⟨x1025, g9, hf⟩ := bind_some hf
    obtain ⟨uP, ha, hf⟩ := bind_some hf
    obtain ⟨x1029, hb, hf⟩ := bind_some hf
    obtain ⟨uQ, hc, hf⟩ := bind_some hf
    refine wp_draw (B := frExt s0.N) [some 51, some 52, some 53, some 54, some 55, some 56, some 57, some 58, some 59, some 60, some 61, some 3] [[], [], [], [1, 2], [1, 2, 3], [1, 2, 3, 4], [0, 1, 2, 3, 4, 5], [], [], [7, 8], [0, 1, 2, 3, 4, 5, 6, 7, 8, 9], [0, 1, 2, 3, 4, 5, 6, 7, 8, 9, 10]] [Fct.eqv (.slice az x1011.length aA), Fct.eqv (.slice A1 a0.length c2), Fct.eqv (.int .i64 aa.2), Fct.elem (x1025 : Ent), Fct.data (x1025 : Ent), Fct.data ([x1025] : (List Ent)), Fct.data (x1011 ++ [x1025] : (List Ent)), Fct.eqv (.slice ad aa.1.length ae), Fct.eqv (.int .i64 ab), Fct.data (x1029 : (List Ent)), Fct.data ((x1011 ++ [x1025]) ++ x1029 : (List Ent)), Fct.data ((x1011 ++ [x1025]) ++ x1029 : (List Ent))] (fun D F τ => (D 6 = false → Own s0.N 2 65 τ x1011 az aA) ∧ (D 6 = true → D 10 = false → ∃ zA zc, F 57 = (.slice zA (x1011 ++ [x1025]).length zc) ∧ Own s0.N 2 65 τ (x1011 ++ [x1025]) zA zc) ∧ (D 10 = true → ∃ zA zc, F 61 = (.slice zA ((x1011 ++ [x1025]) ++ x1029).length zc) ∧ Own s0.N 2 65 τ ((x1011 ++ [x1025]) ++ x1029) zA zc ∧ (D 11 = true → F 3 = (.slice zA ((x1011 ++ [x1025]) ++ x1029).length zc)))) (by kernel_rfl) rfl (by decide) (by decide) ⟨(fun _ => (g8.ext (ext_draw _))), (fun h => Bool.noConfusion h), (fun h => Bool.noConfusion h)⟩ (by decide) (by decide) ⟨?_, ?_, ?_, ?_, ?_, ?_, ?_, ?_, ?_, ?_, ?_, ?_, trivial⟩ ?_
    ·intro uR uS uT uU uV bR uW uX he hg uY
     obtain ⟨hh, uZ, u0⟩ := he
     refine r_move (.slice az x1011.length aA) ((hg 6 rfl).trans rfl) rfl ?_
     exact d0 ⟨rfl, ⟨(fun h => (hh h)), (fun h => Bool.noConfusion ((bR 6 rfl).symm.trans h)), (fun h => Bool.noConfusion ((bR 10 rfl).symm.trans h))⟩⟩
    ·intro u1 u2 u3 u4 u5 bS u6 u7 hi hj u8
     obtain ⟨hk, u9, va⟩ := hi
     refine r_move (.slice A1 a0.length c2) ((hj 0 rfl).trans g1) rfl ?_
     exact d0 ⟨rfl, ⟨(fun h => (hk h)), (fun h => Bool.noConfusion ((bS 6 rfl).symm.trans h)), (fun h => Bool.noConfusion ((bS 10 rfl).symm.trans h))⟩⟩
    ·intro vb vc vd ve vf bT vg vh hl hm vi
     obtain ⟨hn, vj, vk⟩ := hl
     refine r_move (.int .i64 aa.2) ((hm 4 rfl).trans a5) rfl ?_
     exact d0 ⟨rfl, ⟨(fun h => (hn h)), (fun h => Bool.noConfusion ((bT 6 rfl).symm.trans h)), (fun h => Bool.noConfusion ((bT 10 rfl).symm.trans h))⟩⟩
    ·intro vl vm vn vo vp bU vq ho hp vr bV
     obtain ⟨hq, vs, vt⟩ := hp
     refine r_indexAddr (T := 24) (E := 65) (((((h3.mono ai).mono ah).mono ap).mono aB.wext).mono ho) g9 (bV 1 rfl 52 rfl) (bV 2 rfl 53 rfl) rfl rfl Go.Proofs.Try.underlying24 sz65 ?_
     intro vu vv vw hr hs
     obtain ⟨vx, vy, vz, vA, vB, vC, vD, vE, vF, vG, rfl, ht, hu, hv, hw, hx⟩ := Ent.cells_iff.1 hr
     exact d0 ⟨⟨_, _, _, rfl, (Ent.cells_iff.2 ⟨_, _, _, _, _, _, _, _, _, _, rfl, ht, hu, hv, hw, hx⟩), hs⟩, ⟨(fun h => (hq h)), (fun h => Bool.noConfusion ((bU 6 rfl).symm.trans h)), (fun h => Bool.noConfusion ((bU 10 rfl).symm.trans h))⟩⟩
    ·intro vH hy hz vI vJ bW vK vL hA vM hB
     obtain ⟨hC, vN, vO⟩ := hA
     obtain ⟨hD, hE, vP, hF, hG, hH⟩ : (Fct.elem (x1025 : Ent)).p (hy 54) hz := hB 3 rfl 54 rfl
     obtain ⟨hJ, hK, hL, hM, hN, hO, hP, hQ, hR, hS, rfl, hT, hU, hV, hW, hX⟩ := Ent.cells_iff.1 hG
     refine r_load hD hE (.agg #[.slice hJ x1025.Args.length hK, .bool x1025.Fails, .int .i64 x1025.Result.Kind, .int .i64 x1025.Result.Int_, .string x1025.Result.Text, .slice hL x1025.Result.Kids.length hM, .slice hN x1025.Result.Keys.length hO, .slice hP x1025.Result.Entries.length hQ, .slice hR x1025.Result.Labels.length hS]) hF rfl (loads_row tr65 hH.2) ?_
     exact d0 ⟨(Ent.rpvMk (v := x1025) hT hU hV hW hX), ⟨(fun h => (hC h)), (fun h => Bool.noConfusion ((bW 6 rfl).symm.trans h)), (fun h => Bool.noConfusion ((bW 10 rfl).symm.trans h))⟩⟩
    ·intro vQ hY hZ vR vS bX h1 vT h2 vU h4
     have bY := aC.trans h1
     obtain ⟨h5, vV, vW⟩ := h2
     have h6 : RpV hZ (x1025 : Ent) (hY 55) := h4 4 rfl 55 rfl
     obtain ⟨h7, h8, h9, ia, ib, ic, ie, ig, ih, ii, ij, ik, il, im, io, ip⟩ := Ent.rpv h6
     refine r_buildSlice (B := s0.N) (E := 65) 3 bY.size ts24 (xs := [x1025]) [.agg #[.slice h7 x1025.Args.length h8, .bool x1025.Fails, .int .i64 x1025.Result.Kind, .int .i64 x1025.Result.Int_, .string x1025.Result.Text, .slice h9 x1025.Result.Kids.length ia, .slice ib x1025.Result.Keys.length ic, .slice ie x1025.Result.Entries.length ig, .slice ih x1025.Result.Labels.length ii]] (eps_cons ij eps_nil) rfl rfl rfl (by decide) rfl (by simp [Value.cells, Rp.sz]) ⟨_, _, rfl, (Ent.cells_iff.2 ⟨_, _, _, _, _, _, _, _, _, _, rfl, ik, il, im, io, ip⟩), rfl⟩ ?_
     intro vX vY vZ a7 iq
     refine j0 ?_
     exact ⟨_, _, rfl, rfl, (ExtB.refl _ _).trans (a7.mono bY.size), (Wext.refl _).trans a7.wext, (RpV.mkList iq.sl), ⟨(fun h => ((h5 h).ext a7)), (fun h => Bool.noConfusion ((bX 6 rfl).symm.trans h)), (fun h => Bool.noConfusion ((bX 10 rfl).symm.trans h))⟩⟩
    ·intro v0 ir it iu v1 iv iw v2 ix v3 bZ
     have b0 := aC.trans iw
     obtain ⟨iy, v4, v5⟩ := ix
     have iz : RpV it ([x1025] : (List Ent)) (ir 56) := bZ 5 rfl 56 rfl
     obtain ⟨v6, v7, iA, iB⟩ := RpV.list iz
     refine r_append (B := s0.N) (id := 2) (E := 65) (xs := x1011) (ys := [x1025]) b0.size ((iy iu)) iB ts24 (room_some ha) (bZ 0 rfl 51 rfl) iA rfl rfl ?_
     intro v8 iC iD b1 b2
     refine j0 ?_
     exact ⟨_, _, rfl, rfl, (ExtB.refl _ _).trans ((ExtB.refl _ _).mod b0.size b1), (Wext.refl _).trans b1.wext, (RpV.mkList b2.sl), ⟨(fun h => Bool.noConfusion h), (fun _ _ => ⟨iC, iD, rfl, b2⟩), (fun h => Bool.noConfusion ((iv 10 rfl).symm.trans h))⟩⟩
    ·intro v9 wa wb wc wd iE we wf iF iG wg
     obtain ⟨iH, iI, wh⟩ := iF
     refine r_move (.slice ad aa.1.length ae) ((iG 3 rfl).trans a4) rfl ?_
     exact d0 ⟨rfl, ⟨(fun h => (iH h)), (fun y0 y1 => let ⟨zA, zc, zv, zo⟩ := iI y0 y1; ⟨zA, zc, zv, zo⟩), (fun h => Bool.noConfusion ((iE 10 rfl).symm.trans h))⟩⟩
    ·intro wi wj wk wl wm iJ wn wo iK iL wp
     obtain ⟨iM, iN, wq⟩ := iK
     refine r_move (.int .i64 ab) ((iL 5 rfl).trans bP) rfl ?_
     exact d0 ⟨rfl, ⟨(fun h => (iM h)), (fun y0 y1 => let ⟨zA, zc, zv, zo⟩ := iN y0 y1; ⟨zA, zc, zv, zo⟩), (fun h => Bool.noConfusion ((iJ 10 rfl).symm.trans h))⟩⟩
    ·intro wr ws wt wu wv iO ww iP iQ wx b3
     obtain ⟨iR, iS, wy⟩ := iQ
     obtain ⟨iT, iU, iV, iW⟩ := sl_cut_l (P := Go.Proofs.Try.prog) ((((aj.mono ah).mono ap).mono aB.wext).mono iP) hb Go.Proofs.Try.underlying24 sz65
     refine r_slice (.slice ad aa.1.length ae) (.slice iT x1029.length iU) (some (.int .i64 ab)) none none (b3 7 rfl 58 rfl) rfl (om (b3 8 rfl 59 rfl)) rfl rfl rfl (iV) ?_
     exact d0 ⟨(RpV.mkList iW), ⟨(fun h => (iR h)), (fun y0 y1 => let ⟨zA, zc, zv, zo⟩ := iS y0 y1; ⟨zA, zc, zv, zo⟩), (fun h => Bool.noConfusion ((iO 10 rfl).symm.trans h))⟩⟩
    ·intro wz iX iY iZ b4 i0 i1 wA i2 wB i3
     have b5 := aC.trans i1
     obtain ⟨wC, i4, wD⟩ := i2
     obtain ⟨wE, wF, i5, i6⟩ := i4 (b4 6 rfl) iZ
     have i7 : RpV iY (x1029 : (List Ent)) (iX 60) := i3 9 rfl 60 rfl
     obtain ⟨wG, wH, i8, i9⟩ := RpV.list i7
     refine r_append (B := s0.N) (id := 2) (E := 65) (xs := x1011 ++ [x1025]) (ys := x1029) b5.size (i6) i9 ts24 (room_some hc) i5 i8 rfl rfl ?_
     intro wI jd je b6 b7
     refine j0 ?_
     exact ⟨_, _, rfl, rfl, (ExtB.refl _ _).trans ((ExtB.refl _ _).mod b5.size b6), (Wext.refl _).trans b6.wext, (RpV.mkList b7.sl), ⟨(fun h => Bool.noConfusion ((b4 6 rfl).symm.trans h)), (fun _ h => Bool.noConfusion h), (fun _ => ⟨jd, je, rfl, b7, (fun h => Bool.noConfusion ((i0 11 rfl).symm.trans h))⟩)⟩⟩
    ·intro wJ wK wL wM b8 wN wO wP jf wQ wR
     obtain ⟨wS, jg, jh⟩ := jf
     obtain ⟨b9, ca, cb, cc, wT⟩ := jh (b8 10 rfl)
     refine r_assign (.slice b9 ((x1011 ++ [x1025]) ++ x1029).length ca) cb rfl ?_
     exact d0 ⟨(RpV.mkList cc.sl), ⟨(fun h => Bool.noConfusion ((b8 6 rfl).symm.trans h)), (fun y0 y1 => let ⟨zA, zc, zv, zo⟩ := jg y0 y1; ⟨zA, zc, zv, zo⟩), (fun _ => ⟨b9, ca, cb, cc, (fun _ => rfl)⟩)⟩⟩
    intro wU wV ji jj jk cd wW
    have jl := aC.trans ji
    obtain ⟨wX, wY, jm⟩ := jk
    obtain ⟨jn, jo, wZ, jp, jq⟩ := jm rfl
    have jr := (cd 4 rfl).trans a5
    refine j5 (j1 (j3 ?_))
    refine r_move (.int .i64 aa.2) jr rfl ?_
    refine r_bin (.int .i64 aa.2) (.int .i64 1) (.int .i64 (w64 (aa.2 + 1))) rfl rfl rfl rfl (b_add) ?_
    refine r_assign (.int .i64 (w64 (aa.2 + 1))) rfl rfl ?_
    refine j0 ?_
    obtain rfl := Option.some.inj hf
    exact ⟨rfl, _, _, jn, jo, rfl, rfl, ((((((((((((((((((ar).put rfl).put rfl).put rfl).put rfl).put rfl).gen ak).loop ao rfl).draw aq rfl).put rfl).put rfl).put rfl).put rfl).put rfl).draw cd rfl).put rfl).put rfl).put rfl), jl, ((((((Wext.refl _).trans ai).trans ah).trans ap).trans aB.wext).trans jj), (jq rfl), jp.sl, rfl⟩
   refine wp_draw (B := frExt s0.N) [some 31, some 32, some 33, some 34, some 35, some 36, some 37, some 38, some 39, some 40, some 41, some 42, some 43, some 44, some 45, some 46] [[], [], [1], [0, 1, 2], [0, 1, 2, 3], [0, 1, 2, 3, 4], [0, 1, 2, 3, 4], [0, 1, 2, 3, 4, 5, 6], [0, 1, 2, 3, 4, 5, 6, 7], [0, 1, 2, 3, 4], [0, 1, 2, 3, 4], [0, 1, 2, 3, 4, 9, 10], [0, 1, 2, 3, 4, 9, 10, 11], [0, 1, 2, 3, 4, 5, 6, 7, 8, 9, 10, 11, 12], [0, 1, 2, 3, 4, 5, 6, 7, 8, 9, 10, 11, 12, 13], [0, 1, 2, 3, 4, 5, 6, 7, 8, 9, 10, 11, 12, 13, 14]] [Fct.eqv (.int .i64 ab), Fct.eqv (.slice ad aa.1.length ae), Fct.eqv (.int .i64 (aa.1.length : Int)), Fct.eqv (.bool (decide (ab < (aa.1.length : Int)))), Fct.eqv (.bool (decide (ab < (aa.1.length : Int)))), Fct.eqv undef, Fct.eqv undef, Fct.eqv undef, Fct.eqv undef, Fct.eqv undef, Fct.eqv undef, Fct.eqv undef, Fct.eqv undef, Fct.eqv undef, Fct.eqv undef, Fct.eqv (.bool false)] (fun D F τ => True) (by kernel_rfl) rfl (by decide) (by decide) trivial (by decide) (by decide) ⟨?_, ?_, ?_, ?_, ?_, ?_, ?_, ?_, ?_, ?_, ?_, ?_, ?_, ?_, ?_, ?_, trivial⟩ ?_
   ·intro w0 w1 w2 w3 w4 w5 w6 w7 w8 js w9
    refine r_move (.int .i64 ab) ((js 5 rfl).trans aw) rfl ?_
    exact d0 ⟨rfl, trivial⟩
   ·intro xa xb xc xd xe xf xg xh xi jt xj
    refine r_move (.slice ad aa.1.length ae) ((jt 3 rfl).trans ax) rfl ?_
    exact d0 ⟨rfl, trivial⟩
   ·intro xk xl xm xn xo xp xq xr xt xu ju
    refine r_len ad aa.1.length ae (ju 1 rfl 32 rfl) rfl Go.Proofs.Try.underlying24 ?_
    exact d0 ⟨rfl, trivial⟩
   ·intro xv xw xx xy xz xA xB xC xD xE ce
    refine r_bin (.int .i64 ab) (.int .i64 (aa.1.length : Int)) (.bool (decide (ab < (aa.1.length : Int)))) (ce 0 rfl 31 rfl) (ce 2 rfl 33 rfl) rfl rfl (b_lss) ?_
    exact d0 ⟨rfl, trivial⟩
   ·intro xF xG xH xI xJ xK xL xM xN xO jv
    refine r_move (.bool (decide (ab < (aa.1.length : Int)))) (jv 3 rfl 34 rfl) rfl ?_
    exact d0 ⟨rfl, trivial⟩
   ·intro xP xQ xR xS xT xU xV xW xX xY jw
    refine Or.inr ⟨decide (ab < (aa.1.length : Int)), (fun d hd => by cases hd; exact (jw 4 rfl 35 rfl)), fun h => Bool.noConfusion (Eq.trans (Eq.symm (ag : (decide (ab < (aa.1.length : Int))) = false)) h), fun _ => ⟨rfl, ?_⟩⟩
    exact trivial
   ·intro xZ x0 x1 x2 x3 x4 x5 x6 x7 x8 jx
    refine Or.inr ⟨decide (ab < (aa.1.length : Int)), (fun d hd => by cases hd; exact (jx 4 rfl 35 rfl)), fun h => Bool.noConfusion (Eq.trans (Eq.symm (ag : (decide (ab < (aa.1.length : Int))) = false)) h), fun _ => ⟨rfl, ?_⟩⟩
    exact trivial
   ·intro x9 cf ya yb yc yd ye yf yg yh a8
    have yi : cf 36 = undef := a8 5 rfl 36 rfl
    have yj : cf 37 = undef := a8 6 rfl 37 rfl
    refine Or.inr ⟨decide (ab < (aa.1.length : Int)), (fun d hd => by cases hd; exact (a8 4 rfl 35 rfl)), fun h => Bool.noConfusion (Eq.trans (Eq.symm (ag : (decide (ab < (aa.1.length : Int))) = false)) h), fun _ => ⟨rfl, ?_⟩⟩
    exact trivial
   ·intro yk jy yl ym yn yo yp yq yr yt cg
    have yu : jy 38 = undef := cg 7 rfl 38 rfl
    refine Or.inr ⟨decide (ab < (aa.1.length : Int)), (fun d hd => by cases hd; exact (cg 4 rfl 35 rfl)), fun h => Bool.noConfusion (Eq.trans (Eq.symm (ag : (decide (ab < (aa.1.length : Int))) = false)) h), fun _ => ⟨rfl, ?_⟩⟩
    exact trivial
   ·intro yv yw yx yy yz yA yB yC yD yE jz
    refine Or.inr ⟨decide (ab < (aa.1.length : Int)), (fun d hd => by cases hd; exact (jz 4 rfl 35 rfl)), fun h => Bool.noConfusion (Eq.trans (Eq.symm (ag : (decide (ab < (aa.1.length : Int))) = false)) h), fun _ => ⟨rfl, ?_⟩⟩
    exact trivial
   ·intro yF yG yH yI yJ yK yL yM yN yO jA
    refine Or.inr ⟨decide (ab < (aa.1.length : Int)), (fun d hd => by cases hd; exact (jA 4 rfl 35 rfl)), fun h => Bool.noConfusion (Eq.trans (Eq.symm (ag : (decide (ab < (aa.1.length : Int))) = false)) h), fun _ => ⟨rfl, ?_⟩⟩
    exact trivial
   ·intro yP ch yQ yR yS yT yU yV yW yX a9
    have yY : ch 40 = undef := a9 9 rfl 40 rfl
    have yZ : ch 41 = undef := a9 10 rfl 41 rfl
    refine Or.inr ⟨decide (ab < (aa.1.length : Int)), (fun d hd => by cases hd; exact (a9 4 rfl 35 rfl)), fun h => Bool.noConfusion (Eq.trans (Eq.symm (ag : (decide (ab < (aa.1.length : Int))) = false)) h), fun _ => ⟨rfl, ?_⟩⟩
    exact trivial
   ·intro y2 jB y3 y4 y5 y6 y7 y8 y9 za ci
    have zb : jB 42 = undef := ci 11 rfl 42 rfl
    refine Or.inr ⟨decide (ab < (aa.1.length : Int)), (fun d hd => by cases hd; exact (ci 4 rfl 35 rfl)), fun h => Bool.noConfusion (Eq.trans (Eq.symm (ag : (decide (ab < (aa.1.length : Int))) = false)) h), fun _ => ⟨rfl, ?_⟩⟩
    exact trivial
   ·intro zd cj ze zf zg zh zi zj zk zl ba
    have zm : cj 39 = undef := ba 8 rfl 39 rfl
    have zn : cj 43 = undef := ba 12 rfl 43 rfl
    refine Or.inr ⟨decide (ab < (aa.1.length : Int)), (fun d hd => by cases hd; exact (ba 4 rfl 35 rfl)), fun h => Bool.noConfusion (Eq.trans (Eq.symm (ag : (decide (ab < (aa.1.length : Int))) = false)) h), fun _ => ⟨rfl, ?_⟩⟩
    exact trivial
   ·intro zp jC zq zr zs zt zu zw zx zy ck
    have zz : jC 44 = undef := ck 13 rfl 44 rfl
    refine Or.inr ⟨decide (ab < (aa.1.length : Int)), (fun d hd => by cases hd; exact (ck 4 rfl 35 rfl)), fun h => Bool.noConfusion (Eq.trans (Eq.symm (ag : (decide (ab < (aa.1.length : Int))) = false)) h), fun _ => ⟨rfl, ?_⟩⟩
    exact trivial
   ·intro zB jD zC zD zE zF zG zH zI zJ cl
    have zK : jD 45 = undef := cl 14 rfl 45 rfl
    refine r_pick_f (c := decide (ab < (aa.1.length : Int))) (.bool false) (cl 4 rfl 35 rfl) ag rfl rfl rfl rfl ?_
    exact d0 ⟨rfl, trivial⟩
   intro zL zM jE aD zN ay jF
   have cm := aW.trans jE
   have jG := (ay 0 rfl).trans aX
   have cn := (ay 3 rfl).trans ax
   have co := (ay 4 rfl).trans aY
   have cp := (ay 5 rfl).trans aw
   refine j1 ?_
   refine c_false (jF 15 46 rfl) rfl rfl ?_
   refine ja (j1 (j2 (j3 ?_)))
   refine r_move (.slice ad aa.1.length ae) cn rfl ?_
   refine r_move (.int .i64 ab) cp rfl ?_
   obtain ⟨x1574, jH, hf⟩ := bind_some hf
   obtain ⟨jI, jJ, jK, jL⟩ := sl_cut_h (P := Go.Proofs.Try.prog) ((aj.mono ah).mono aD) jH Go.Proofs.Try.underlying24 sz65
   refine r_slice (.slice ad aa.1.length ae) (.slice jI x1574.length jJ) none (some (.int .i64 ab)) none rfl rfl rfl (om rfl) rfl rfl (jK) ?_
   obtain ⟨zO, jM, hf⟩ := bind_some hf
   refine r_append (B := s0.N) (id := 4) (E := 65) (xs := ([] : List Ent)) (ys := x1574) cm.size (Own.nil_ _) jL ts24 (room_some jM) rfl rfl rfl rfl ?_
   intro zP aE aF aG jN
   have aH := cm.y aG
   refine r_assign (.slice aE x1574.length aF) rfl rfl ?_
   refine j0 (j1 ?_)
   obtain ⟨x1588, jO, hf⟩ := bind_some hf
   obtain ⟨zQ, jP, hf⟩ := bind_some hf
   obtain ⟨x1592, jQ, hf⟩ := bind_some hf
   obtain ⟨zR, jR, hf⟩ := bind_some hf
   refine wp_draw (B := frExt s0.N) [some 51, some 52, some 53, some 54, some 55, some 56, some 57, some 58, some 59, some 60, some 61, some 3] [[], [], [], [1, 2], [1, 2, 3], [1, 2, 3, 4], [0, 1, 2, 3, 4, 5], [], [], [7, 8], [0, 1, 2, 3, 4, 5, 6, 7, 8, 9], [0, 1, 2, 3, 4, 5, 6, 7, 8, 9, 10]] [Fct.eqv (.slice aE x1574.length aF), Fct.eqv (.slice A1 a0.length c2), Fct.eqv (.int .i64 aa.2), Fct.elem (x1588 : Ent), Fct.data (x1588 : Ent), Fct.data ([x1588] : (List Ent)), Fct.data (x1574 ++ [x1588] : (List Ent)), Fct.eqv (.slice ad aa.1.length ae), Fct.eqv (.int .i64 ab), Fct.data (x1592 : (List Ent)), Fct.data ((x1574 ++ [x1588]) ++ x1592 : (List Ent)), Fct.data ((x1574 ++ [x1588]) ++ x1592 : (List Ent))] (fun D F τ => (D 6 = false → Own s0.N 4 65 τ x1574 aE aF) ∧ (D 6 = true → D 10 = false → ∃ zA zc, F 57 = (.slice zA (x1574 ++ [x1588]).length zc) ∧ Own s0.N 4 65 τ (x1574 ++ [x1588]) zA zc) ∧ (D 10 = true → ∃ zA zc, F 61 = (.slice zA ((x1574 ++ [x1588]) ++ x1592).length zc) ∧ Own s0.N 4 65 τ ((x1574 ++ [x1588]) ++ x1592) zA zc ∧ (D 11 = true → F 3 = (.slice zA ((x1574 ++ [x1588]) ++ x1592).length zc)))) (by kernel_rfl) rfl (by decide) (by decide) ⟨(fun _ => (jN.ext (ext_draw _))), (fun h => Bool.noConfusion h), (fun h => Bool.noConfusion h)⟩ (by decide) (by decide) ⟨?_, ?_, ?_, ?_, ?_, ?_, ?_, ?_, ?_, ?_, ?_, ?_, trivial⟩ ?_
   ·intro zS zT zU zV zW cq zX zY jS jT zZ
    obtain ⟨jU, z0, z1⟩ := jS
    refine r_move (.slice aE x1574.length aF) ((jT 6 rfl).trans rfl) rfl ?_
    exact d0 ⟨rfl, ⟨(fun h => (jU h)), (fun h => Bool.noConfusion ((cq 6 rfl).symm.trans h)), (fun h => Bool.noConfusion ((cq 10 rfl).symm.trans h))⟩⟩
   ·intro z2 z3 z4 z5 z6 cr z7 z8 jV jW z9
    obtain ⟨jX, Aa, Ab⟩ := jV
    refine r_move (.slice A1 a0.length c2) ((jW 0 rfl).trans jG) rfl ?_
    exact d0 ⟨rfl, ⟨(fun h => (jX h)), (fun h => Bool.noConfusion ((cr 6 rfl).symm.trans h)), (fun h => Bool.noConfusion ((cr 10 rfl).symm.trans h))⟩⟩
   ·intro Ac Ad Ae Af Ag cs Ah Ai jY jZ Aj
    obtain ⟨j7, Ak, Al⟩ := jY
    refine r_move (.int .i64 aa.2) ((jZ 4 rfl).trans co) rfl ?_
    exact d0 ⟨rfl, ⟨(fun h => (j7 h)), (fun h => Bool.noConfusion ((cs 6 rfl).symm.trans h)), (fun h => Bool.noConfusion ((cs 10 rfl).symm.trans h))⟩⟩
   ·intro Am An Ao Ap Aq ct Ar j9 ka As cu
    obtain ⟨kb, At, Au⟩ := ka
    refine r_indexAddr (T := 24) (E := 65) (((((h3.mono ai).mono ah).mono aD).mono aG.wext).mono j9) jO (cu 1 rfl 52 rfl) (cu 2 rfl 53 rfl) rfl rfl Go.Proofs.Try.underlying24 sz65 ?_
    intro Av Aw Ax kc kd
    obtain ⟨Ay, Az, AA, AB, AC, AD, AE, AF, AG, AH, rfl, ke, kf, kg, kh, ki⟩ := Ent.cells_iff.1 kc
    exact d0 ⟨⟨_, _, _, rfl, (Ent.cells_iff.2 ⟨_, _, _, _, _, _, _, _, _, _, rfl, ke, kf, kg, kh, ki⟩), kd⟩, ⟨(fun h => (kb h)), (fun h => Bool.noConfusion ((ct 6 rfl).symm.trans h)), (fun h => Bool.noConfusion ((ct 10 rfl).symm.trans h))⟩⟩
   ·intro AI kj kk AJ AK cv AL AM kl AN km
    obtain ⟨kn, AO, AP⟩ := kl
    obtain ⟨ko, kp, AQ, kq, kr, ks⟩ : (Fct.elem (x1588 : Ent)).p (kj 54) kk := km 3 rfl 54 rfl
    obtain ⟨kt, ku, kv, kw, kx, ky, kz, kA, kB, kC, rfl, kD, kE, kF, kG, kH⟩ := Ent.cells_iff.1 kr
    refine r_load ko kp (.agg #[.slice kt x1588.Args.length ku, .bool x1588.Fails, .int .i64 x1588.Result.Kind, .int .i64 x1588.Result.Int_, .string x1588.Result.Text, .slice kv x1588.Result.Kids.length kw, .slice kx x1588.Result.Keys.length ky, .slice kz x1588.Result.Entries.length kA, .slice kB x1588.Result.Labels.length kC]) kq rfl (loads_row tr65 ks.2) ?_
    exact d0 ⟨(Ent.rpvMk (v := x1588) kD kE kF kG kH), ⟨(fun h => (kn h)), (fun h => Bool.noConfusion ((cv 6 rfl).symm.trans h)), (fun h => Bool.noConfusion ((cv 10 rfl).symm.trans h))⟩⟩
   ·intro AR kI kJ AS AT cw kK AU kL AV kM
    have cx := aH.trans kK
    obtain ⟨kN, AW, AX⟩ := kL
    have kO : RpV kJ (x1588 : Ent) (kI 55) := kM 4 rfl 55 rfl
    obtain ⟨kP, kQ, kR, kS, kT, kU, kV, kW, kX, kY, kZ, k0, k1, k2, k3, k4⟩ := Ent.rpv kO
    refine r_buildSlice (B := s0.N) (E := 65) 5 cx.size ts24 (xs := [x1588]) [.agg #[.slice kP x1588.Args.length kQ, .bool x1588.Fails, .int .i64 x1588.Result.Kind, .int .i64 x1588.Result.Int_, .string x1588.Result.Text, .slice kR x1588.Result.Kids.length kS, .slice kT x1588.Result.Keys.length kU, .slice kV x1588.Result.Entries.length kW, .slice kX x1588.Result.Labels.length kY]] (eps_cons kZ eps_nil) rfl rfl rfl (by decide) rfl (by simp [Value.cells, Rp.sz]) ⟨_, _, rfl, (Ent.cells_iff.2 ⟨_, _, _, _, _, _, _, _, _, _, rfl, k0, k1, k2, k3, k4⟩), rfl⟩ ?_
    intro AY AZ A0 bb k5
    refine j0 ?_
    exact ⟨_, _, rfl, rfl, (ExtB.refl _ _).trans (bb.mono cx.size), (Wext.refl _).trans bb.wext, (RpV.mkList k5.sl), ⟨(fun h => ((kN h).ext bb)), (fun h => Bool.noConfusion ((cw 6 rfl).symm.trans h)), (fun h => Bool.noConfusion ((cw 10 rfl).symm.trans h))⟩⟩
   ·intro A2 k6 k7 k8 A3 k9 la A4 lb A5 cy
    have cz := aH.trans la
    obtain ⟨lc, A6, A7⟩ := lb
    have ld : RpV k7 ([x1588] : (List Ent)) (k6 56) := cy 5 rfl 56 rfl
    obtain ⟨A8, A9, le, lf⟩ := RpV.list ld
    refine r_append (B := s0.N) (id := 4) (E := 65) (xs := x1574) (ys := [x1588]) cz.size ((lc k8)) lf ts24 (room_some jP) (cy 0 rfl 51 rfl) le rfl rfl ?_
    intro Ba lg lh cA cB
    refine j0 ?_
    exact ⟨_, _, rfl, rfl, (ExtB.refl _ _).trans ((ExtB.refl _ _).mod cz.size cA), (Wext.refl _).trans cA.wext, (RpV.mkList cB.sl), ⟨(fun h => Bool.noConfusion h), (fun _ _ => ⟨lg, lh, rfl, cB⟩), (fun h => Bool.noConfusion ((k9 10 rfl).symm.trans h))⟩⟩
   ·intro Bb Bc Bd Be Bf li Bg Bh lj lk Bi
    obtain ⟨ll, lm, Bj⟩ := lj
    refine r_move (.slice ad aa.1.length ae) ((lk 3 rfl).trans cn) rfl ?_
    exact d0 ⟨rfl, ⟨(fun h => (ll h)), (fun y0 y1 => let ⟨zA, zc, zv, zo⟩ := lm y0 y1; ⟨zA, zc, zv, zo⟩), (fun h => Bool.noConfusion ((li 10 rfl).symm.trans h))⟩⟩
   ·intro Bk Bl Bm Bn Bo ln Bp Bq lo lp Br
    obtain ⟨lq, lr, Bs⟩ := lo
    refine r_move (.int .i64 ab) ((lp 5 rfl).trans cp) rfl ?_
    exact d0 ⟨rfl, ⟨(fun h => (lq h)), (fun y0 y1 => let ⟨zA, zc, zv, zo⟩ := lr y0 y1; ⟨zA, zc, zv, zo⟩), (fun h => Bool.noConfusion ((ln 10 rfl).symm.trans h))⟩⟩
   ·intro Bt Bu Bv Bw Bx ls By lt lu Bz cC
    obtain ⟨lv, lw, BA⟩ := lu
    obtain ⟨lx, ly, lz, lA⟩ := sl_cut_l (P := Go.Proofs.Try.prog) ((((aj.mono ah).mono aD).mono aG.wext).mono lt) jQ Go.Proofs.Try.underlying24 sz65
    refine r_slice (.slice ad aa.1.length ae) (.slice lx x1592.length ly) (some (.int .i64 ab)) none none (cC 7 rfl 58 rfl) rfl (om (cC 8 rfl 59 rfl)) rfl rfl rfl (lz) ?_
    exact d0 ⟨(RpV.mkList lA), ⟨(fun h => (lv h)), (fun y0 y1 => let ⟨zA, zc, zv, zo⟩ := lw y0 y1; ⟨zA, zc, zv, zo⟩), (fun h => Bool.noConfusion ((ls 10 rfl).symm.trans h))⟩⟩
   ·intro BB lB lC lD cD lE lF BC lG BD lH
    have cE := aH.trans lF
    obtain ⟨BE, lI, BF⟩ := lG
    obtain ⟨BG, BH, lJ, lK⟩ := lI (cD 6 rfl) lD
    have lL : RpV lC (x1592 : (List Ent)) (lB 60) := lH 9 rfl 60 rfl
    obtain ⟨BI, BJ, lM, lN⟩ := RpV.list lL
    refine r_append (B := s0.N) (id := 4) (E := 65) (xs := x1574 ++ [x1588]) (ys := x1592) cE.size (lK) lN ts24 (room_some jR) lJ lM rfl rfl ?_
    intro BK lO lP cF cG
    refine j0 ?_
    exact ⟨_, _, rfl, rfl, (ExtB.refl _ _).trans ((ExtB.refl _ _).mod cE.size cF), (Wext.refl _).trans cF.wext, (RpV.mkList cG.sl), ⟨(fun h => Bool.noConfusion ((cD 6 rfl).symm.trans h)), (fun _ h => Bool.noConfusion h), (fun _ => ⟨lO, lP, rfl, cG, (fun h => Bool.noConfusion ((lE 11 rfl).symm.trans h))⟩)⟩⟩
   ·intro BL BM BN BO cH BP BQ BR lQ BS BT
    obtain ⟨BU, lR, lS⟩ := lQ
    obtain ⟨cI, cJ, cK, cL, BV⟩ := lS (cH 10 rfl)
    refine r_assign (.slice cI ((x1574 ++ [x1588]) ++ x1592).length cJ) cK rfl ?_
    exact d0 ⟨(RpV.mkList cL.sl), ⟨(fun h => Bool.noConfusion ((cH 6 rfl).symm.trans h)), (fun y0 y1 => let ⟨zA, zc, zv, zo⟩ := lR y0 y1; ⟨zA, zc, zv, zo⟩), (fun _ => ⟨cI, cJ, cK, cL, (fun _ => rfl)⟩)⟩⟩
   intro BW BX lT lU lV cM BY
   have lW := aH.trans lT
   obtain ⟨BZ, B0, lX⟩ := lV
   obtain ⟨lY, lZ, B1, l0, l1⟩ := lX rfl
   have l2 := (cM 4 rfl).trans co
   refine j5 (j1 (j3 ?_))
   refine r_move (.int .i64 aa.2) l2 rfl ?_
   refine r_bin (.int .i64 aa.2) (.int .i64 1) (.int .i64 (w64 (aa.2 + 1))) rfl rfl rfl rfl (b_add) ?_
   refine r_assign (.int .i64 (w64 (aa.2 + 1))) rfl rfl ?_
   refine j0 ?_
   obtain rfl := Option.some.inj hf
   exact ⟨rfl, _, _, lY, lZ, rfl, rfl, ((((((((((((((((((ar).put rfl).put rfl).put rfl).put rfl).put rfl).gen ak).loop ao rfl).draw ay rfl).put rfl).put rfl).put rfl).put rfl).put rfl).draw cM rfl).put rfl).put rfl).put rfl), lW, ((((((Wext.refl _).trans ai).trans ah).trans aD).trans aG.wext).trans lU), (l1 rfl), l0.sl, rfl⟩
  refine c_false rfl aK rfl ?_
  refine jc (j8 ?_)
  obtain rfl := Option.some.inj hf
  exact ⟨rfl, _, _, ad, ae, rfl, rfl, (((((ar).put rfl).put rfl).put rfl).put rfl), bf, ((Wext.refl _).trans ai), bg, aj, aJ⟩
 ·exact ⟨_, _, none, 0, rfl, rfl, (Agr.refl _ _), E0, (Wext.refl _), f8, (Sl.nil_ _ _ _ (Nat.zero_le _)), f9⟩
 rintro e a w ⟨rfl, B2, B3, bc, bd, rfl, rfl, B4, l3, B5, l4, l5, B6⟩
 refine j6 (j1 (j2 (j3 ?_)))
 refine r_move (.slice bc aI.1.length bd) l4 rfl ?_
 refine r_assign (.slice bc aI.1.length bd) rfl rfl ?_
 refine j0 (j1 (jb ?_))
 obtain rfl := Option.some.inj hf
 refine ret_one (.slice bc aI.1.length bd) rfl ⟨rfl, rfl⟩ l3 ?_
 exact (RpV.mkList l5)

def S_semtyperef1_Function (f : (Int → (List Ent) → Option (Val × Int))) : Prop := ∀ (s0 : S) (v0 : Value) (v1 : Value) (a0 : Int) (a1 : (List Ent)) (r : (Val × Int)), RpV s0 a0 v0 → RpV s0 a1 v1 → f a0 a1 = some r → Ctr Go.Proofs.Try.prog 77 [v0, v1] s0 (fun v τ => ∃ v1 v2, v = .tuple #[v1, v2] ∧ RpV τ r.1 v1 ∧ RpV τ r.2 v2)

set_option maxHeartbeats 1600000 in
set_option maxRecDepth 100000 in
theorem ok_semtyperef1_Function (fuel : Nat) : S_semtyperef1_Function (semtyperef1_Function fuel) := by
 intro s0 v0 v1 a0 a1 r h0 h1 hf
 obtain rfl := RpV.int h0
 obtain ⟨A1, c2, rfl, h3⟩ := RpV.list h1
 unfold semtyperef1_Function at hf
 have E0 : ExtB s0.N s0 s0 := ExtB.refl _ _
 refine ctr_of 50 Go.Proofs.Try.func77 rfl rfl rfl rfl ?_
 refine j2 (j3 ?_)
 refine r_alloc (B := s0.N) 1 E0.size _ [.int .i64 0, .int .i64 0, .string (⟨#[]⟩), nl Val, nl Key, nl Ent, nl ByteArray] ti27 rfl ?_
 intro s5 b4 k6 hb7
 have E8 := E0.x k6
 refine r_assign (.int .i64 0) rfl rfl ?_
 refine j0 (j1 (j2 (j2 (j3 ?_))))
 refine r_move (.int .i64 a0) rfl rfl ?_
 refine r_bin (.int .i64 a0) (.int .i64 0) (.bool (decide (a0 < 0))) rfl rfl rfl rfl (b_lss) ?_
 refine r_move (.bool (decide (a0 < 0))) rfl rfl ?_
 refine if_else hf (fun hc9 hf => ?_) (fun hc9 hf => ?_)
 ·refine r_skip (j := 2) (want := false) (d := 9) (c := decide (a0 < 0)) (v := true) rfl rfl hc9 rfl rfl ?_
  refine r_skip (j := 2) (want := false) (d := 9) (c := decide (a0 < 0)) (v := true) rfl rfl hc9 rfl rfl ?_
  refine r_pick_t (c := decide (a0 < 0)) (.bool true) rfl hc9 rfl rfl rfl rfl ?_
  refine j0 (j1 ?_)
  refine c_true rfl rfl rfl ?_
  refine j2 (j3 ?_)
  refine r_build tst27 [] [.int .i64 0, .int .i64 0, .string (⟨#[]⟩), nl Val, nl Key, nl Ent, nl ByteArray] eps_nil rfl rfl ?_
  refine r_store hb7 0 (.agg #[.int .i64 0, .int .i64 0, .string (⟨#[]⟩), nl Val, nl Key, nl Ent, nl ByteArray]) [.int .i64 0, .int .i64 0, .string (⟨#[]⟩), nl Val, nl Key, nl Ent, nl ByteArray] [.int .i64 0, .int .i64 0, .string (⟨#[]⟩), nl Val, nl Key, nl Ent, nl ByteArray] rfl rfl rfl rfl rfl sz27 rfl rfl rfl ?_
  intro b1 a5 a6
  have a7 := E8.y a5
  refine r_assign (.int .i64 1) rfl rfl ?_
  refine j0 (j1 (jb (j9 ?_)))
  obtain rfl := Option.some.inj hf
  refine ret_two (.agg #[.int .i64 0, .int .i64 0, .string (⟨#[]⟩), nl Val, nl Key, nl Ent, nl ByteArray]) (.int .i64 1) rfl ⟨rfl, _, rfl, loads_row tr27 (Blk.range a6 0 [.int .i64 0, .int .i64 0, .string (⟨#[]⟩), nl Val, nl Key, nl Ent, nl ByteArray] rfl)⟩ ⟨rfl, rfl⟩ a7 ?_
  exact ⟨_, _, rfl, (Val.rpvMk (v := (Val.mk 0 0 (⟨#[]⟩) ([] : List Val) ([] : List Key) ([] : List Ent) ([] : List ByteArray))) (Sl.nil_ _ _ _ (Nat.zero_le _)) (Sl.nil_ _ _ _ (Nat.zero_le _)) (Sl.nil_ _ _ _ (Nat.zero_le _)) (Sl.nil_ _ _ _ (Nat.zero_le _))), (RpV.mkInt _ _)⟩
 refine r_guard (j := 2) (want := false) (d := 9) (c := decide (a0 < 0)) (v := false) rfl rfl hc9 rfl rfl ?_
 refine r_move (.int .i64 a0) rfl rfl ?_
 refine r_guard (j := 2) (want := false) (d := 9) (c := decide (a0 < 0)) (v := false) rfl rfl hc9 rfl rfl ?_
 refine r_bin (.int .i64 a0) (.int .i64 4) (.bool (decide (4 < a0))) rfl rfl rfl rfl (b_gtr) ?_
 refine r_pick_f (c := decide (a0 < 0)) (.bool (decide (4 < a0))) rfl hc9 rfl rfl rfl rfl ?_
 refine j0 (j1 ?_)
 refine if_else hf (fun ar hf => ?_) (fun ar hf => ?_)
 ·refine c_true rfl ar rfl ?_
  refine j2 (j3 ?_)
  refine r_build tst27 [] [.int .i64 0, .int .i64 0, .string (⟨#[]⟩), nl Val, nl Key, nl Ent, nl ByteArray] eps_nil rfl rfl ?_
  refine r_store hb7 0 (.agg #[.int .i64 0, .int .i64 0, .string (⟨#[]⟩), nl Val, nl Key, nl Ent, nl ByteArray]) [.int .i64 0, .int .i64 0, .string (⟨#[]⟩), nl Val, nl Key, nl Ent, nl ByteArray] [.int .i64 0, .int .i64 0, .string (⟨#[]⟩), nl Val, nl Key, nl Ent, nl ByteArray] rfl rfl rfl rfl rfl sz27 rfl rfl rfl ?_
  intro b2 a8 a9
  have ba := E8.y a8
  refine r_assign (.int .i64 1) rfl rfl ?_
  refine j0 (j1 (jb (j9 ?_)))
  obtain rfl := Option.some.inj hf
  refine ret_two (.agg #[.int .i64 0, .int .i64 0, .string (⟨#[]⟩), nl Val, nl Key, nl Ent, nl ByteArray]) (.int .i64 1) rfl ⟨rfl, _, rfl, loads_row tr27 (Blk.range a9 0 [.int .i64 0, .int .i64 0, .string (⟨#[]⟩), nl Val, nl Key, nl Ent, nl ByteArray] rfl)⟩ ⟨rfl, rfl⟩ ba ?_
  exact ⟨_, _, rfl, (Val.rpvMk (v := (Val.mk 0 0 (⟨#[]⟩) ([] : List Val) ([] : List Key) ([] : List Ent) ([] : List ByteArray))) (Sl.nil_ _ _ _ (Nat.zero_le _)) (Sl.nil_ _ _ _ (Nat.zero_le _)) (Sl.nil_ _ _ _ (Nat.zero_le _)) (Sl.nil_ _ _ _ (Nat.zero_le _))), (RpV.mkInt _ _)⟩
 refine c_false rfl ar rfl ?_
 refine ja (j1 (j2 (j2 (j3 ?_))))
 refine r_assign (.int .i64 0) rfl rfl ?_
 refine j0 (j1 (j4 ?_))
 refine gen_F fun ah am => ?_
 have aN : ah 0 = (.int .i64 a0) := (am 0).trans rfl
 have aO : ah 1 = (.slice A1 a1.length c2) := (am 1).trans rfl
 have aP : ah 4 = (.pointer (some ⟨b4, 0, none⟩)) := (am 4).trans rfl
 have bb : ah 6 = (.int .i64 0) := (am 6).trans rfl
 obtain ⟨bc, bd, hf⟩ := bind_some hf
 refine wp_mono (wp_iter (step := semtyperef1_Function_l1 fuel a0 a1) (fun q a w => ∃ (F : Fr) (τ : S), a = fr 50 F ∧ w = τ.w ∧ Agr [5, 6, 14, 15, 16, 17, 18, 19, 20, 21, 22, 23, 24, 25, 26, 27, 28, 29, 30, 31, 32, 33, 34, 35, 36, 37, 38, 39, 40, 41, 42, 43, 44, 45] F ah ∧ ExtB s0.N s0 τ ∧ Wext s5 τ ∧ F 6 = (.int .i64 q) ∧ Blk s0.N 1 τ b4 27 [.int .i64 0, .int .i64 0, .string (⟨#[]⟩), nl Val, nl Key, nl Ent, nl ByteArray]) (fun o e a w => match o with | .inl q => e = .exit 0 ∧ ∃ (F : Fr) (τ : S), a = fr 50 F ∧ w = τ.w ∧ Agr [5, 6, 14, 15, 16, 17, 18, 19, 20, 21, 22, 23, 24, 25, 26, 27, 28, 29, 30, 31, 32, 33, 34, 35, 36, 37, 38, 39, 40, 41, 42, 43, 44, 45] F ah ∧ ExtB s0.N s0 τ ∧ Wext s5 τ ∧ F 6 = (.int .i64 q) ∧ Blk s0.N 1 τ b4 27 [.int .i64 0, .int .i64 0, .string (⟨#[]⟩), nl Val, nl Key, nl Ent, nl ByteArray] | .inr r => e = .ret ∧ ∃ (F : Fr) (τ : S) (va : Value) (vb : Value), a = fr 50 F ∧ w = τ.w ∧ ExtB s0.N s0 τ ∧ ResV Go.Proofs.Try.prog 50 F τ.w (.cell 4 27) va ∧ RpV τ r.1 va ∧ ResV Go.Proofs.Try.prog 50 F τ.w (.tmp 5) vb ∧ RpV τ r.2 vb) (by rintro (_ | _) a w ⟨h, _⟩ <;> cases h) ?_ _ _ _ _ _ bd ?_) ?_
 ·intro ad fl a w hf hI
  obtain ⟨b3, be, rfl, rfl, aj, an, ak, al, ao⟩ := hI
  unfold semtyperef1_Function_l1 at hf
  have bf := (aj 0 rfl).trans aN
  have ap := (aj 1 rfl).trans aO
  have au := (aj 4 rfl).trans aP
  refine j2 (j2 (j3 ?_))
  refine r_move (.int .i64 ad) al rfl ?_
  refine r_move (.slice A1 a1.length c2) ap rfl ?_
  refine r_len A1 a1.length c2 rfl rfl Go.Proofs.Try.underlying24 ?_
  refine r_bin (.int .i64 ad) (.int .i64 (a1.length : Int)) (.bool (decide (ad < (a1.length : Int)))) rfl rfl rfl rfl (b_lss) ?_
  refine j0 (j1 ?_)
  refine if_else hf (fun av hf => ?_) (fun av hf => ?_)
  ·refine c_true rfl av rfl ?_
   refine ja (j1 (j2 (j4 (j2 (j3 ?_)))))
   refine r_move (.slice A1 a1.length c2) ap rfl ?_
   refine r_move (.int .i64 ad) al rfl ?_
   obtain ⟨x38, bg, hf⟩ := bind_some hf
   refine r_indexAddr (T := 24) (E := 65) ((h3.mono k6.wext).mono ak) bg rfl rfl rfl rfl Go.Proofs.Try.underlying24 sz65 ?_
   intro aQ aw b5 bh bi
   obtain ⟨aR, aS, b6, b7, b8, b9, ca, cb, cc, cd, rfl, ce, cf, cg, ch, ci⟩ := Ent.cells_iff.1 bh
   refine r_fieldAddr aQ aw 0 (aw) rfl rfl fo65_0 rfl ?_
   refine r_load aQ aw (.slice aR x38.Args.length aS) rfl rfl (loads_one to22 (bi.2 0 _ rfl)) ?_
   refine r_len aR x38.Args.length aS rfl rfl Go.Proofs.Try.underlying22 ?_
   refine r_move (.int .i64 a0) bf rfl ?_
   refine r_bin (.int .i64 (x38.Args.length : Int)) (.int .i64 a0) (.bool ((x38.Args.length : Int) != a0)) rfl rfl rfl rfl (b_neq) ?_
   refine r_move (.bool ((x38.Args.length : Int) != a0)) rfl rfl ?_
   refine if_else hf (fun ab hf => ?_) (fun ab hf => ?_)
   ·refine r_skip (j := 8) (want := false) (d := 28) (c := ((x38.Args.length : Int) != a0)) (v := true) rfl rfl ab rfl rfl ?_
    refine r_skip (j := 8) (want := false) (d := 28) (c := ((x38.Args.length : Int) != a0)) (v := true) rfl rfl ab rfl rfl ?_
    refine r_skip (j := 8) (want := false) (d := 28) (c := ((x38.Args.length : Int) != a0)) (v := true) rfl rfl ab rfl rfl ?_
    refine r_skip (j := 8) (want := false) (d := 28) (c := ((x38.Args.length : Int) != a0)) (v := true) rfl rfl ab rfl rfl ?_
    refine r_skip (j := 8) (want := false) (d := 28) (c := ((x38.Args.length : Int) != a0)) (v := true) rfl rfl ab rfl rfl ?_
    refine r_skip (j := 8) (want := false) (d := 28) (c := ((x38.Args.length : Int) != a0)) (v := true) rfl rfl ab rfl rfl ?_
    refine r_skipu (j := 14) (d := 34) rfl rfl rfl ?_
    refine r_skipu (j := 14) (d := 34) rfl rfl rfl ?_
    refine r_skipu (j := 14) (d := 34) rfl rfl rfl ?_
    refine r_skipu (j := 14) (d := 34) rfl rfl rfl ?_
    refine r_skipu (j := 14) (d := 34) rfl rfl rfl ?_
    refine r_skipu (j := 14) (d := 34) rfl rfl rfl ?_
    refine r_skipu (j := 14) (d := 34) rfl rfl rfl ?_
    refine r_skipu (j := 14) (d := 34) rfl rfl rfl ?_
    refine r_skip (j := 8) (want := false) (d := 28) (c := ((x38.Args.length : Int) != a0)) (v := true) rfl rfl ab rfl rfl ?_
    refine r_pick_t (c := ((x38.Args.length : Int) != a0)) (.bool true) rfl ab rfl rfl rfl rfl ?_
    refine j0 (j1 ?_)
    refine c_true rfl rfl rfl ?_
    refine j2 (j3 ?_)
    refine r_build tst27 [] [.int .i64 0, .int .i64 0, .string (⟨#[]⟩), nl Val, nl Key, nl Ent, nl ByteArray] eps_nil rfl rfl ?_
    refine r_store ao 0 (.agg #[.int .i64 0, .int .i64 0, .string (⟨#[]⟩), nl Val, nl Key, nl Ent, nl ByteArray]) [.int .i64 0, .int .i64 0, .string (⟨#[]⟩), nl Val, nl Key, nl Ent, nl ByteArray] [.int .i64 0, .int .i64 0, .string (⟨#[]⟩), nl Val, nl Key, nl Ent, nl ByteArray] au rfl rfl rfl rfl sz27 rfl rfl rfl ?_
    intro cj bj bk
    have bl := an.y bj
    refine r_assign (.int .i64 1) rfl rfl ?_
    refine j0 (j1 (jb (j7 (j9 ?_))))
    obtain rfl := Option.some.inj hf
    exact ⟨rfl, _, _, (.agg #[.int .i64 0, .int .i64 0, .string (⟨#[]⟩), nl Val, nl Key, nl Ent, nl ByteArray]), (.int .i64 1), rfl, rfl, bl, ⟨rfl, _, au, loads_row tr27 (Blk.range bk 0 [.int .i64 0, .int .i64 0, .string (⟨#[]⟩), nl Val, nl Key, nl Ent, nl ByteArray] rfl)⟩, (Val.rpvMk (v := (Val.mk 0 0 (⟨#[]⟩) ([] : List Val) ([] : List Key) ([] : List Ent) ([] : List ByteArray))) (Sl.nil_ _ _ _ (Nat.zero_le _)) (Sl.nil_ _ _ _ (Nat.zero_le _)) (Sl.nil_ _ _ _ (Nat.zero_le _)) (Sl.nil_ _ _ _ (Nat.zero_le _))), ⟨rfl, rfl⟩, (RpV.mkInt _ _)⟩
   refine r_guard (j := 8) (want := false) (d := 28) (c := ((x38.Args.length : Int) != a0)) (v := false) rfl rfl ab rfl rfl ?_
   refine r_move (.slice A1 a1.length c2) ap rfl ?_
   refine r_guard (j := 8) (want := false) (d := 28) (c := ((x38.Args.length : Int) != a0)) (v := false) rfl rfl ab rfl rfl ?_
   refine r_move (.int .i64 ad) al rfl ?_
   refine r_guard (j := 8) (want := false) (d := 28) (c := ((x38.Args.length : Int) != a0)) (v := false) rfl rfl ab rfl rfl ?_
   obtain ⟨x65, bm, hf⟩ := bind_some hf
   refine r_indexAddr (T := 24) (E := 65) ((h3.mono k6.wext).mono ak) bm rfl rfl rfl rfl Go.Proofs.Try.underlying24 sz65 ?_
   intro aT ax ck bn bo
   obtain ⟨cl, cm, cn, co, cp, cq, cr, cs, ct, cu, rfl, cv, cw, cx, cy, cz⟩ := Ent.cells_iff.1 bn
   refine r_guard (j := 8) (want := false) (d := 28) (c := ((x38.Args.length : Int) != a0)) (v := false) rfl rfl ab rfl rfl ?_
   refine r_fieldAddr aT ax 1 (ax + 1) rfl rfl fo65_1 rfl ?_
   refine r_guard (j := 8) (want := false) (d := 28) (c := ((x38.Args.length : Int) != a0)) (v := false) rfl rfl ab rfl rfl ?_
   refine r_load aT (ax + 1) (.bool x65.Fails) rfl rfl (loads_one to4 (bo.2 1 _ rfl)) ?_
   refine r_guard (j := 8) (want := false) (d := 28) (c := ((x38.Args.length : Int) != a0)) (v := false) rfl rfl ab rfl rfl ?_
   refine r_move (.bool x65.Fails) rfl rfl ?_
   refine gen_FL fun ay ai => ?_
   have bp := (ai 1).trans ap
   have bq := (ai 4).trans au
   have aU := (ai 6).trans al
   have az : ay 28 = (.bool ((x38.Args.length : Int) != a0)) := (ai 28).trans rfl
   have ac : ay 34 = (.bool x65.Fails) := (ai 34).trans rfl
   obtain ⟨aV, hq96, hf⟩ := bind_some hf
   refine wpl_take 9 (J := fun a w => ∃ (F : Fr) (τ : S), a = fr 50 F ∧ w = τ.w ∧ Agr [35, 36, 37, 38, 39, 40, 41, 42, 43] F ay ∧ ExtB s0.N s0 τ ∧ Wext be τ ∧ F 43 = (.bool aV) ∧ Blk s0.N 1 τ b4 27 [.int .i64 0, .int .i64 0, .string (⟨#[]⟩), nl Val, nl Key, nl Ent, nl ByteArray]) ?_ ?_
   ·have hf := hq96
    refine if_else hf (fun aa hf => ?_) (fun aa hf => ?_)
    ·refine r_guard (j := 14) (want := true) (d := 34) (c := x65.Fails) (v := true) rfl ac aa rfl rfl ?_
     refine r_move (.slice A1 a1.length c2) bp rfl ?_
     refine r_guard (j := 14) (want := true) (d := 34) (c := x65.Fails) (v := true) rfl ac aa rfl rfl ?_
     refine r_move (.int .i64 ad) aU rfl ?_
     refine r_guard (j := 14) (want := true) (d := 34) (c := x65.Fails) (v := true) rfl ac aa rfl rfl ?_
     obtain ⟨x98, br, hf⟩ := bind_some hf
     refine r_indexAddr (T := 24) (E := 65) ((h3.mono k6.wext).mono ak) br rfl rfl rfl rfl Go.Proofs.Try.underlying24 sz65 ?_
     intro aW aA cA bs bt
     obtain ⟨cB, cC, aB, aC, aD, aE, aF, aG, aH, aI, rfl, cD, bu, bv, bw, bx⟩ := Ent.cells_iff.1 bs
     refine r_guard (j := 14) (want := true) (d := 34) (c := x65.Fails) (v := true) rfl ac aa rfl rfl ?_
     refine r_fieldAddr aW aA 2 (aA + 2) rfl rfl fo65_2 rfl ?_
     refine r_guard (j := 14) (want := true) (d := 34) (c := x65.Fails) (v := true) rfl ac aa rfl rfl ?_
     refine r_load aW (aA + 2) (Val.ag x98.Result aB aC aD aE aF aG aH aI) rfl rfl (loads_row tr27 (sub_range 2 (Val.cs x98.Result aB aC aD aE aF aG aH aI) rfl bt.2)) ?_
     refine r_guard (j := 14) (want := true) (d := 34) (c := x65.Fails) (v := true) rfl ac aa rfl rfl ?_
     refine r_build tst27 [] [.int .i64 0, .int .i64 0, .string (⟨#[]⟩), nl Val, nl Key, nl Ent, nl ByteArray] eps_nil rfl rfl ?_
     refine r_guard (j := 14) (want := true) (d := 34) (c := x65.Fails) (v := true) rfl ac aa rfl rfl ?_
     obtain ⟨aJ, bz, hf⟩ := bind_some hf
     refine r_call [Val.ag x98.Result aB aC aD aE aF aG aH aI, .agg #[.int .i64 0, .int .i64 0, .string (⟨#[]⟩), nl Val, nl Key, nl Ent, nl ByteArray]] (evs2 rfl rfl) rfl ((ok_semtyperef1_Equal fuel) _ _ _ _ _ _ (Val.rpvMk (v := x98.Result) bu bv bw bx) (Val.rpvMk (v := (Val.mk 0 0 (⟨#[]⟩) ([] : List Val) ([] : List Key) ([] : List Ent) ([] : List ByteArray))) (Sl.nil_ _ _ _ (Nat.zero_le _)) (Sl.nil_ _ _ _ (Nat.zero_le _)) (Sl.nil_ _ _ _ (Nat.zero_le _)) (Sl.nil_ _ _ _ (Nat.zero_le _))) bz) ?_
     intro cE cF aK bA
     have bB := an.x aK
     obtain rfl := RpV.bool bA
     refine r_guard (j := 14) (want := true) (d := 34) (c := x65.Fails) (v := true) rfl ac aa rfl rfl ?_
     refine r_un (.bool aJ) (.bool (!aJ)) rfl rfl u_not ?_
     refine r_guard (j := 8) (want := false) (d := 28) (c := ((x38.Args.length : Int) != a0)) (v := false) rfl az ab rfl rfl ?_
     refine r_pick_t (c := x65.Fails) (.bool (!aJ)) ac aa rfl rfl rfl rfl ?_
     refine j0 ?_
     obtain rfl := Option.some.inj hf
     exact ⟨rfl, _, _, rfl, rfl, ((((((((((Agr.refl _ _).put rfl).put rfl).put rfl).put rfl).put rfl).put rfl).put rfl).put rfl).put rfl), bB, ((Wext.refl _).trans aK.wext), rfl, (ao.ext aK)⟩
    refine r_skip (j := 14) (want := true) (d := 34) (c := x65.Fails) (v := false) rfl ac aa rfl rfl ?_
    refine r_skip (j := 14) (want := true) (d := 34) (c := x65.Fails) (v := false) rfl ac aa rfl rfl ?_
    refine r_skip (j := 14) (want := true) (d := 34) (c := x65.Fails) (v := false) rfl ac aa rfl rfl ?_
    refine r_skip (j := 14) (want := true) (d := 34) (c := x65.Fails) (v := false) rfl ac aa rfl rfl ?_
    refine r_skip (j := 14) (want := true) (d := 34) (c := x65.Fails) (v := false) rfl ac aa rfl rfl ?_
    refine r_skip (j := 14) (want := true) (d := 34) (c := x65.Fails) (v := false) rfl ac aa rfl rfl ?_
    refine r_skip (j := 14) (want := true) (d := 34) (c := x65.Fails) (v := false) rfl ac aa rfl rfl ?_
    refine r_skip (j := 14) (want := true) (d := 34) (c := x65.Fails) (v := false) rfl ac aa rfl rfl ?_
    refine r_guard (j := 8) (want := false) (d := 28) (c := ((x38.Args.length : Int) != a0)) (v := false) rfl az ab rfl rfl ?_
    refine r_pick_f (c := x65.Fails) (.bool false) ac aa rfl rfl rfl rfl ?_
    refine j0 ?_
    obtain rfl := Option.some.inj hf
    exact ⟨rfl, _, _, rfl, rfl, ((((((((((Agr.refl _ _).put rfl).put rfl).put rfl).put rfl).put rfl).put rfl).put rfl).put rfl).put rfl), an, (Wext.refl _), rfl, ao⟩
   rintro a w ⟨cG, cH, rfl, rfl, aq, aX, bC, bD, aY⟩
   have aZ := (aq 4 rfl).trans bq
   have bE := (aq 6 rfl).trans aU
   have bF := (aq 28 rfl).trans az
   refine r_pick_f (c := ((x38.Args.length : Int) != a0)) (.bool aV) bF ab bD rfl rfl rfl ?_
   refine j0 (j1 ?_)
   refine if_else hf (fun aL hf => ?_) (fun aL hf => ?_)
   ·refine c_true rfl aL rfl ?_
    refine j2 (j3 ?_)
    refine r_build tst27 [] [.int .i64 0, .int .i64 0, .string (⟨#[]⟩), nl Val, nl Key, nl Ent, nl ByteArray] eps_nil rfl rfl ?_
    refine r_store aY 0 (.agg #[.int .i64 0, .int .i64 0, .string (⟨#[]⟩), nl Val, nl Key, nl Ent, nl ByteArray]) [.int .i64 0, .int .i64 0, .string (⟨#[]⟩), nl Val, nl Key, nl Ent, nl ByteArray] [.int .i64 0, .int .i64 0, .string (⟨#[]⟩), nl Val, nl Key, nl Ent, nl ByteArray] aZ rfl rfl rfl rfl sz27 rfl rfl rfl ?_
    intro cI bG bH
    have bI := aX.y bG
    refine r_assign (.int .i64 1) rfl rfl ?_
    refine j0 (j1 (jb (j7 (j9 ?_))))
    obtain rfl := Option.some.inj hf
    exact ⟨rfl, _, _, (.agg #[.int .i64 0, .int .i64 0, .string (⟨#[]⟩), nl Val, nl Key, nl Ent, nl ByteArray]), (.int .i64 1), rfl, rfl, bI, ⟨rfl, _, aZ, loads_row tr27 (Blk.range bH 0 [.int .i64 0, .int .i64 0, .string (⟨#[]⟩), nl Val, nl Key, nl Ent, nl ByteArray] rfl)⟩, (Val.rpvMk (v := (Val.mk 0 0 (⟨#[]⟩) ([] : List Val) ([] : List Key) ([] : List Ent) ([] : List ByteArray))) (Sl.nil_ _ _ _ (Nat.zero_le _)) (Sl.nil_ _ _ _ (Nat.zero_le _)) (Sl.nil_ _ _ _ (Nat.zero_le _)) (Sl.nil_ _ _ _ (Nat.zero_le _))), ⟨rfl, rfl⟩, (RpV.mkInt _ _)⟩
   refine c_false rfl aL rfl ?_
   refine ja (j5 (j1 (j3 ?_)))
   refine r_move (.int .i64 ad) bE rfl ?_
   refine r_bin (.int .i64 ad) (.int .i64 1) (.int .i64 (w64 (ad + 1))) rfl rfl rfl rfl (b_add) ?_
   refine r_assign (.int .i64 (w64 (ad + 1))) rfl rfl ?_
   refine j0 ?_
   obtain rfl := Option.some.inj hf
   exact ⟨rfl, _, _, rfl, rfl, ((((((((((((((((((((((((((aj).put rfl).put rfl).put rfl).put rfl).put rfl).put rfl).put rfl).put rfl).put rfl).put rfl).put rfl).put rfl).put rfl).put rfl).put rfl).put rfl).put rfl).put rfl).put rfl).gen ai).loop aq rfl).put rfl).put rfl).put rfl).put rfl), aX, (((Wext.refl _).trans ak).trans bC), rfl, aY⟩
  refine c_false rfl av rfl ?_
  refine jc (j8 ?_)
  obtain rfl := Option.some.inj hf
  exact ⟨rfl, _, _, rfl, rfl, (((((aj).put rfl).put rfl).put rfl).put rfl), an, ((Wext.refl _).trans ak), al, ao⟩
 ·exact ⟨_, _, rfl, rfl, (Agr.refl _ _), E8, (Wext.refl _), bb, hb7⟩
 intro e a w hp
 rcases bc with cJ | r
 ·replace hf := onEnd_inl hf
  obtain ⟨rfl, cK, cL, rfl, rfl, aM, bJ, bK, cM, bL⟩ := hp
  have bM := (aM 0 rfl).trans aN
  have bN := (aM 1 rfl).trans aO
  have a2 := (aM 4 rfl).trans aP
  refine j6 (j1 (j2 (j3 ?_)))
  refine r_move (.int .i64 a0) bM rfl ?_
  refine r_move (.slice A1 a1.length c2) bN rfl ?_
  obtain ⟨ae, bO, hf⟩ := bind_some hf
  refine r_call [.slice A1 a1.length c2] (evs1 rfl) rfl ((ok_semtyperef1_entries fuel) _ _ _ _ (RpV.mkList ((h3.mono k6.wext).mono bK)) bO) ?_
  intro cN cO a3 bP
  have bQ := bJ.x a3
  obtain ⟨af, ag, rfl, bR⟩ := RpV.list bP
  refine r_build tst27 [(0, .int .i64 9), (1, .int .i64 a0), (5, .slice af ae.length ag)] [.int .i64 9, .int .i64 a0, .string (⟨#[]⟩), nl Val, nl Key, .slice af ae.length ag, nl ByteArray] (eps_cons rfl (eps_cons rfl (eps_cons rfl eps_nil))) rfl rfl ?_
  refine r_store (bL.ext a3) 0 (.agg #[.int .i64 9, .int .i64 a0, .string (⟨#[]⟩), nl Val, nl Key, .slice af ae.length ag, nl ByteArray]) [.int .i64 9, .int .i64 a0, .string (⟨#[]⟩), nl Val, nl Key, .slice af ae.length ag, nl ByteArray] [.int .i64 9, .int .i64 a0, .string (⟨#[]⟩), nl Val, nl Key, .slice af ae.length ag, nl ByteArray] a2 rfl rfl rfl rfl sz27 rfl rfl rfl ?_
  intro cP a4 bS
  have bT := bQ.y a4
  refine r_assign (.int .i64 0) rfl rfl ?_
  refine j0 (j1 (jb ?_))
  obtain rfl := Option.some.inj hf
  refine ret_two (.agg #[.int .i64 9, .int .i64 a0, .string (⟨#[]⟩), nl Val, nl Key, .slice af ae.length ag, nl ByteArray]) (.int .i64 0) rfl ⟨rfl, _, a2, loads_row tr27 (Blk.range bS 0 [.int .i64 9, .int .i64 a0, .string (⟨#[]⟩), nl Val, nl Key, .slice af ae.length ag, nl ByteArray] rfl)⟩ ⟨rfl, rfl⟩ bT ?_
  exact ⟨_, _, rfl, (Val.rpvMk (v := (Val.mk 9 a0 (⟨#[]⟩) ([] : List Val) ([] : List Key) ae ([] : List ByteArray))) (Sl.nil_ _ _ _ (Nat.zero_le _)) (Sl.nil_ _ _ _ (Nat.zero_le _)) (bR.mono a4.wext) (Sl.nil_ _ _ _ (Nat.zero_le _))), (RpV.mkInt _ _)⟩
 replace hf := onEnd_inr hf
 obtain ⟨rfl, cQ, cR, bU, bV, rfl, rfl, bW, bX, bY, bZ, b0⟩ := hp
 refine j7 (j9 ?_)
 obtain rfl := Option.some.inj hf
 refine ret_two bU bV rfl bX bZ bW ?_
 exact ⟨_, _, rfl, bY, b0⟩

def S_semtypebase_Source_Value (f : (Semtypebase_Source → Int → Option (Val × Semtypebase_Source))) : Prop := ∀ (s0 : S) (v1 : Value) (B0 id0 b0 : Nat) (cs0 : List Value) (a0 : Semtypebase_Source) (a1 : Int) (r : (Val × Semtypebase_Source)), Rp.cells s0 a0 cs0 → Blk B0 id0 s0 b0 53 cs0 → 1000000 ≤ id0 → RpV s0 a1 v1 → f a0 a1 = some r → CtrE Go.Proofs.Try.prog 34 [.pointer (some ⟨b0, 0, none⟩), v1] s0 (Mod B0 id0 s0) (fun v τ => RpV τ r.1 v ∧ PtrR B0 id0 53 τ r.2 b0)

def S_semtypebase_Source_value (f : (Semtypebase_Source → Int → Option (Val × Semtypebase_Source))) : Prop := ∀ (s0 : S) (v1 : Value) (B0 id0 b0 : Nat) (cs0 : List Value) (a0 : Semtypebase_Source) (a1 : Int) (r : (Val × Semtypebase_Source)), Rp.cells s0 a0 cs0 → Blk B0 id0 s0 b0 53 cs0 → 1000000 ≤ id0 → RpV s0 a1 v1 → f a0 a1 = some r → CtrE Go.Proofs.Try.prog 59 [.pointer (some ⟨b0, 0, none⟩), v1] s0 (Mod B0 id0 s0) (fun v τ => RpV τ r.1 v ∧ PtrR B0 id0 53 τ r.2 b0)

def S_semtypebase_Source_entry (f : (Semtypebase_Source → Int → Int → Option (Ent × Semtypebase_Source))) : Prop := ∀ (s0 : S) (v1 : Value) (v2 : Value) (B0 id0 b0 : Nat) (cs0 : List Value) (a0 : Semtypebase_Source) (a1 : Int) (a2 : Int) (r : (Ent × Semtypebase_Source)), Rp.cells s0 a0 cs0 → Blk B0 id0 s0 b0 53 cs0 → 1000000 ≤ id0 → RpV s0 a1 v1 → RpV s0 a2 v2 → f a0 a1 a2 = some r → CtrE Go.Proofs.Try.prog 76 [.pointer (some ⟨b0, 0, none⟩), v1, v2] s0 (Mod B0 id0 s0) (fun v τ => RpV τ r.1 v ∧ PtrR B0 id0 53 τ r.2 b0)

set_option maxHeartbeats 1600000 in
set_option maxRecDepth 100000 in
theorem okB_semtypebase_Source_Value {rec_semtypebase_Source_Value : (Semtypebase_Source → Int → Option (Val × Semtypebase_Source))} {rec_semtypebase_Source_value : (Semtypebase_Source → Int → Option (Val × Semtypebase_Source))} {rec_semtypebase_Source_entry : (Semtypebase_Source → Int → Int → Option (Ent × Semtypebase_Source))} (_hrec_semtypebase_Source_Value : S_semtypebase_Source_Value rec_semtypebase_Source_Value) (hrec_semtypebase_Source_value : S_semtypebase_Source_value rec_semtypebase_Source_value) (_hrec_semtypebase_Source_entry : S_semtypebase_Source_entry rec_semtypebase_Source_entry) : S_semtypebase_Source_Value (semtypebase_Source_Value_B rec_semtypebase_Source_Value rec_semtypebase_Source_value rec_semtypebase_Source_entry) := by
 intro s0 v1 B0 id0 b0 cs0 a0 a1 r hc0 hb0 hid0 h1 hf
 obtain ⟨A1, c2, rfl, h3⟩ := Semtypebase_Source.cells_iff.1 hc0
 obtain rfl := RpV.int h1
 unfold semtypebase_Source_Value_B at hf
 have E0 : ExtP s0.N B0 id0 s0 s0 := ExtP.refl _ _ _ _
 refine ctr_ofE 13 Go.Proofs.Try.func34 rfl rfl rfl rfl ?_
 refine j2 (j3 ?_)
 refine r_alloc (B := s0.N) 1 E0.size _ [.int .i64 0, .int .i64 0, .string (⟨#[]⟩), nl Val, nl Key, nl Ent, nl ByteArray] ti27 rfl ?_
 intro s5 b4 k6 hb7
 have E8 := E0.x k6
 refine j0 (j1 (j2 (j3 ?_)))
 refine r_move (.pointer (some ⟨b0, 0, none⟩)) rfl rfl ?_
 refine r_move (.int .i64 a1) rfl rfl ?_
 obtain ⟨r9, av, hf⟩ := bind_some hf
 refine r_callE [.pointer (some ⟨b0, 0, none⟩), .int .i64 a1] (evs2 rfl rfl) rfl (hrec_semtypebase_Source_value _ _ _ _ _ _ _ _ _ (Semtypebase_Source.cells_iff.2 ⟨_, _, rfl, (h3.mono k6.wext)⟩) (hb0.ext k6) hid0 (RpV.mkInt _ _) av) ?_
 intro aU aV aq aw
 obtain ⟨ax, aW, ay, az⟩ := aw
 have ar := E8.z aq
 obtain ⟨aX, aY, rfl, aA⟩ := Semtypebase_Source.cells_iff.1 ay
 obtain ⟨aa, ab, ac, ad, ae, af, ao, ap, rfl, aB, aC, aD, aZ⟩ := Val.rpv ax
 refine r_alloc (B := s0.N) 2 ar.size _ [.int .i64 0, .int .i64 0, .string (⟨#[]⟩), nl Val, nl Key, nl Ent, nl ByteArray] ti27 rfl ?_
 intro a0 au ak aE
 have aF := ar.x ak
 refine r_store aE 0 (Val.ag r9.1 aa ab ac ad ae af ao ap) (Val.cs r9.1 aa ab ac ad ae af ao ap) (Val.cs r9.1 aa ab ac ad ae af ao ap) rfl rfl rfl rfl rfl sz27 rfl rfl rfl ?_
 intro a2 al aG
 have aH := aF.y al
 refine j0 (j1 (j2 (j3 ?_)))
 refine r_move (.pointer (some ⟨b0, 0, none⟩)) rfl rfl ?_
 obtain ⟨ag, aI, hf⟩ := bind_some hf
 refine r_callE [.pointer (some ⟨b0, 0, none⟩)] (evs1 rfl) rfl (ok_semtypebase_Source_Labels _ _ _ _ _ _ _ (Semtypebase_Source.cells_iff.2 ⟨_, _, rfl, ((aA.mono ak.wext).mono al.wext)⟩) ((az.ext ak).mod al (beq_false (by omega))) hid0  aI) ?_
 intro a3 a4 an aJ
 obtain ⟨aK, a5, aL, aM⟩ := aJ
 have aN := aH.z an
 obtain ⟨a6, a7, rfl, aO⟩ := Semtypebase_Source.cells_iff.1 aL
 obtain ⟨ah, ai, rfl, aP⟩ := RpV.list aK
 refine r_fieldAddr au 0 6 6 rfl rfl fo27_6 rfl ?_
 refine r_store (aG.mod an (beq_false (by omega))) 6 (.slice ah ag.1.length ai) [.slice ah ag.1.length ai] [.int .i64 r9.1.Kind, .int .i64 r9.1.Int_, .string r9.1.Text, .slice aa r9.1.Kids.length ab, .slice ac r9.1.Keys.length ad, .slice ae r9.1.Entries.length af, .slice ah ag.1.length ai] rfl rfl rfl rfl rfl sz25 rfl rfl rfl ?_
 intro a8 aj aQ
 have aR := aN.y aj
 refine j0 (j1 (j2 (j3 ?_)))
 refine r_load au 0 (.agg #[.int .i64 r9.1.Kind, .int .i64 r9.1.Int_, .string r9.1.Text, .slice aa r9.1.Kids.length ab, .slice ac r9.1.Keys.length ad, .slice ae r9.1.Entries.length af, .slice ah ag.1.length ai]) rfl rfl (loads_row tr27 (Blk.range aQ 0 [.int .i64 r9.1.Kind, .int .i64 r9.1.Int_, .string r9.1.Text, .slice aa r9.1.Kids.length ab, .slice ac r9.1.Keys.length ad, .slice ae r9.1.Entries.length af, .slice ah ag.1.length ai] rfl)) ?_
 refine r_store (((((hb7.mod aq (beq_false (by omega))).ext ak).mod al rfl).mod an (beq_false (by omega))).mod aj rfl) 0 (.agg #[.int .i64 r9.1.Kind, .int .i64 r9.1.Int_, .string r9.1.Text, .slice aa r9.1.Kids.length ab, .slice ac r9.1.Keys.length ad, .slice ae r9.1.Entries.length af, .slice ah ag.1.length ai]) [.int .i64 r9.1.Kind, .int .i64 r9.1.Int_, .string r9.1.Text, .slice aa r9.1.Kids.length ab, .slice ac r9.1.Keys.length ad, .slice ae r9.1.Entries.length af, .slice ah ag.1.length ai] [.int .i64 r9.1.Kind, .int .i64 r9.1.Int_, .string r9.1.Text, .slice aa r9.1.Kids.length ab, .slice ac r9.1.Keys.length ad, .slice ae r9.1.Entries.length af, .slice ah ag.1.length ai] rfl rfl rfl rfl rfl sz27 rfl rfl rfl ?_
 intro a9 am aS
 have aT := aR.y am
 refine j0 (j1 (jb ?_))
 obtain rfl := Option.some.inj hf
 refine ret_oneE (.agg #[.int .i64 r9.1.Kind, .int .i64 r9.1.Int_, .string r9.1.Text, .slice aa r9.1.Kids.length ab, .slice ac r9.1.Keys.length ad, .slice ae r9.1.Entries.length af, .slice ah ag.1.length ai]) rfl ⟨rfl, _, rfl, loads_row tr27 (Blk.range aS 0 [.int .i64 r9.1.Kind, .int .i64 r9.1.Int_, .string r9.1.Text, .slice aa r9.1.Kids.length ab, .slice ac r9.1.Keys.length ad, .slice ae r9.1.Entries.length af, .slice ah ag.1.length ai] rfl)⟩ aT.mod_ ?_
 exact ⟨(Val.rpvMk (v := (Val.mk r9.1.Kind r9.1.Int_ r9.1.Text r9.1.Kids r9.1.Keys r9.1.Entries ag.1)) (((((aB.mono ak.wext).mono al.wext).mono an.wext).mono aj.wext).mono am.wext) (((((aC.mono ak.wext).mono al.wext).mono an.wext).mono aj.wext).mono am.wext) (((((aD.mono ak.wext).mono al.wext).mono an.wext).mono aj.wext).mono am.wext) ((aP.mono aj.wext).mono am.wext)), _, (Semtypebase_Source.cells_iff.2 ⟨_, _, rfl, ((aO.mono aj.wext).mono am.wext)⟩), ((aM.mod aj (beq_false (by omega))).mod am (beq_false (by omega)))⟩

set_option maxHeartbeats 1600000 in
set_option maxRecDepth 100000 in
theorem okB_semtypebase_Source_value {rec_semtypebase_Source_Value : (Semtypebase_Source → Int → Option (Val × Semtypebase_Source))} {rec_semtypebase_Source_value : (Semtypebase_Source → Int → Option (Val × Semtypebase_Source))} {rec_semtypebase_Source_entry : (Semtypebase_Source → Int → Int → Option (Ent × Semtypebase_Source))} (fuel : Nat) (hrec_semtypebase_Source_Value : S_semtypebase_Source_Value rec_semtypebase_Source_Value) (_hrec_semtypebase_Source_value : S_semtypebase_Source_value rec_semtypebase_Source_value) (hrec_semtypebase_Source_entry : S_semtypebase_Source_entry rec_semtypebase_Source_entry) : S_semtypebase_Source_value (semtypebase_Source_value_B rec_semtypebase_Source_Value rec_semtypebase_Source_value rec_semtypebase_Source_entry fuel) := by
 intro s0 v1 B0 id0 b0 cs0 a0 a1 r hc0 hb0 hid0 h1 hf
 obtain ⟨A1, c2, rfl, h3⟩ := Semtypebase_Source.cells_iff.1 hc0
 obtain rfl := RpV.int h1
 unfold semtypebase_Source_value_B at hf
 have E0 : ExtP s0.N B0 id0 s0 s0 := ExtP.refl _ _ _ _
 refine ctr_ofE 124 Go.Proofs.Try.func59 rfl rfl rfl rfl ?_
 refine j2 (j3 ?_)
 refine r_alloc (B := s0.N) 1 E0.size _ [.int .i64 0, .int .i64 0, .string (⟨#[]⟩), nl Val, nl Key, nl Ent, nl ByteArray] ti27 rfl ?_
 intro s5 b4 k6 hb7
 have E8 := E0.x k6
 refine j0 (j1 (j2 (j2 (j3 ?_))))
 refine r_move (.int .i64 a1) rfl rfl ?_
 refine r_bin (.int .i64 a1) (.int .i64 1) (.bool (decide (a1 ≤ 1))) rfl rfl rfl rfl (b_leq) ?_
 refine j0 (j1 ?_)
 refine if_else hf (fun hc9 hf => ?_) (fun hc9 hf => ?_)
 ·refine c_true rfl hc9 rfl ?_
  refine j2 (j3 ?_)
  refine r_move (.pointer (some ⟨b0, 0, none⟩)) rfl rfl ?_
  obtain ⟨bv, gf, hf⟩ := bind_some hf
  refine r_callE [.pointer (some ⟨b0, 0, none⟩)] (evs1 rfl) rfl (ok_semtypebase_Source_leaf _ _ _ _ _ _ _ (Semtypebase_Source.cells_iff.2 ⟨_, _, rfl, (h3.mono k6.wext)⟩) (hb0.ext k6) hid0  gf) ?_
  intro r4 r5 dQ gg
  obtain ⟨gh, r6, gi, gj⟩ := gg
  have gk := E8.z dQ
  obtain ⟨r7, r8, rfl, gl⟩ := Semtypebase_Source.cells_iff.1 gi
  obtain ⟨bV, bW, bX, bY, bZ, b1, b2, b3, rfl, gm, gn, go, gp⟩ := Val.rpv gh
  refine r_store (hb7.mod dQ (beq_false (by omega))) 0 (Val.ag bv.1 bV bW bX bY bZ b1 b2 b3) (Val.cs bv.1 bV bW bX bY bZ b1 b2 b3) (Val.cs bv.1 bV bW bX bY bZ b1 b2 b3) rfl rfl rfl rfl rfl sz27 rfl rfl rfl ?_
  intro r9 bb gq
  have gr := gk.y bb
  refine j0 (j1 (jb (j9 ?_)))
  obtain rfl := Option.some.inj hf
  refine ret_oneE (Val.ag bv.1 bV bW bX bY bZ b1 b2 b3) rfl ⟨rfl, _, rfl, loads_row tr27 (Blk.range gq 0 (Val.cs bv.1 bV bW bX bY bZ b1 b2 b3) rfl)⟩ gr.mod_ ?_
  exact ⟨(Val.rpvMk (v := bv.1) (gm.mono bb.wext) (gn.mono bb.wext) (go.mono bb.wext) (gp.mono bb.wext)), _, (Semtypebase_Source.cells_iff.2 ⟨_, _, rfl, (gl.mono bb.wext)⟩), (gj.mod bb (beq_false (by omega)))⟩
 refine c_false rfl hc9 rfl ?_
 refine ja (j1 (j2 (j2 (j3 ?_))))
 refine r_move (.pointer (some ⟨b0, 0, none⟩)) rfl rfl ?_
 obtain ⟨aF, gs, hf⟩ := bind_some hf
 refine r_callE [.pointer (some ⟨b0, 0, none⟩), .int .i64 6] (evs2 rfl rfl) rfl (ok_semtypebase_Source_Next _ _ _ _ _ _ _ _ _ (Semtypebase_Source.cells_iff.2 ⟨_, _, rfl, (h3.mono k6.wext)⟩) (hb0.ext k6) hid0 (RpV.mkInt _ _) gs) ?_
 intro sa sb aZ gt
 obtain ⟨gu, sc, gv, bw⟩ := gt
 have b5 := E8.z aZ
 obtain ⟨sd, se, rfl, bx⟩ := Semtypebase_Source.cells_iff.1 gv
 obtain rfl := RpV.int gu
 refine j0 (j1 (j4 (j2 (j3 ?_))))
 refine r_bin (.int .i64 aF.1) (.int .i64 1) (.bool (aF.1 == 1)) rfl rfl rfl rfl (b_eql) ?_
 refine r_assign (.bool (aF.1 == 1)) rfl rfl ?_
 refine j0 (j1 ?_)
 refine if_else hf (fun dv hf => ?_) (fun dv hf => ?_)
 ·refine c_true rfl dv rfl ?_
  refine j2 (j3 ?_)
  refine r_assign (nl Val) rfl rfl ?_
  refine j0 (j1 (j2 (j2 (j3 ?_))))
  refine r_move (.pointer (some ⟨b0, 0, none⟩)) rfl rfl ?_
  obtain ⟨dR, gw, hf⟩ := bind_some hf
  refine r_callE [.pointer (some ⟨b0, 0, none⟩), .int .i64 4] (evs2 rfl rfl) rfl (ok_semtypebase_Source_Next _ _ _ _ _ _ _ _ _ (Semtypebase_Source.cells_iff.2 ⟨_, _, rfl, bx⟩) bw hid0 (RpV.mkInt _ _) gw) ?_
  intro sf dS dT gx
  obtain ⟨gy, sg, gz, gA⟩ := gx
  have gB := b5.z dT
  obtain ⟨gC, gD, rfl, gE⟩ := Semtypebase_Source.cells_iff.1 gz
  obtain rfl := RpV.int gy
  refine r_assign (.int .i64 dR.1) rfl rfl ?_
  refine j0 (j1 (j4 ?_))
  refine gen_F fun bc b6 => ?_
  have gF : bc 0 = (.pointer (some ⟨b0, 0, none⟩)) := (b6 0).trans rfl
  have gG : bc 1 = (.int .i64 a1) := (b6 1).trans rfl
  have gH : bc 4 = (.pointer (some ⟨b4, 0, none⟩)) := (b6 4).trans rfl
  have gI : bc 5 = (nl Val) := (b6 5).trans rfl
  have gJ : bc 6 = (.int .i64 dR.1) := (b6 6).trans rfl
  obtain ⟨dU, gK, hf⟩ := bind_some hf
  refine wp_mono (wp_iter (step := semtypebase_Source_value_l1 rec_semtypebase_Source_Value a1) (fun q a w => ∃ (F : Fr) (τ : S) (A1 : Option Addr) (c1 : Nat) (A2 : Option Addr) (c2 : Nat), a = fr 124 F ∧ w = τ.w ∧ Agr [5, 6, 28, 29, 30, 31, 32, 33, 34, 35, 36, 37, 38] F bc ∧ ExtP s0.N B0 id0 s0 τ ∧ Wext dS τ ∧ F 5 = (.slice A1 q.1.length c1) ∧ Own s0.N 2 27 τ q.1 A1 c1 ∧ F 6 = (.int .i64 q.2.1) ∧ Blk B0 id0 τ b0 53 [.slice A2 q.2.2.1.length c2, .int .i64 q.2.2.2] ∧ Sl τ q.2.2.1 A2 c2 ∧ Blk s0.N 1 τ b4 27 [.int .i64 0, .int .i64 0, .string (⟨#[]⟩), nl Val, nl Key, nl Ent, nl ByteArray]) (fun q e a w => e = .exit 1 ∧ ∃ (F : Fr) (τ : S) (A1 : Option Addr) (c1 : Nat) (A2 : Option Addr) (c2 : Nat), a = fr 124 F ∧ w = τ.w ∧ Agr [5, 6, 28, 29, 30, 31, 32, 33, 34, 35, 36, 37, 38] F bc ∧ ExtP s0.N B0 id0 s0 τ ∧ Wext dS τ ∧ F 5 = (.slice A1 q.1.length c1) ∧ Own s0.N 2 27 τ q.1 A1 c1 ∧ F 6 = (.int .i64 q.2.1) ∧ Blk B0 id0 τ b0 53 [.slice A2 q.2.2.1.length c2, .int .i64 q.2.2.2] ∧ Sl τ q.2.2.1 A2 c2 ∧ Blk s0.N 1 τ b4 27 [.int .i64 0, .int .i64 0, .string (⟨#[]⟩), nl Val, nl Key, nl Ent, nl ByteArray]) (by rintro _ a w ⟨h, _⟩; cases h) ?_ _ _ _ _ _ gK ?_) ?_
  ·intro aR fl a w hf hI
   obtain ⟨sh, si, dV, dW, gL, gM, rfl, rfl, cJ, dX, dY, dZ, d1, dw, d2, d3, d4⟩ := hI
   unfold semtypebase_Source_value_l1 at hf
   have gN := (cJ 0 rfl).trans gF
   have gO := (cJ 1 rfl).trans gG
   refine j2 (j2 (j3 ?_))
   refine r_move (.int .i64 aR.2.1) dw rfl ?_
   refine r_bin (.int .i64 aR.2.1) (.int .i64 0) (.bool (decide (0 < aR.2.1))) rfl rfl rfl rfl (b_gtr) ?_
   refine j0 (j1 ?_)
   refine if_else hf (fun dx hf => ?_) (fun dx hf => ?_)
   ·refine c_true rfl dx rfl ?_
    refine ja (j1 (j2 (j4 (j3 ?_))))
    refine r_move (.slice dV aR.1.length dW) dZ rfl ?_
    refine r_move (.pointer (some ⟨b0, 0, none⟩)) gN rfl ?_
    refine r_move (.int .i64 a1) gO rfl ?_
    refine r_bin (.int .i64 a1) (.int .i64 1) (.int .i64 (w64 (a1 - 1))) rfl rfl rfl rfl (b_sub) ?_
    obtain ⟨cK, gP, hf⟩ := bind_some hf
    refine r_callE [.pointer (some ⟨b0, 0, none⟩), .int .i64 (w64 (a1 - 1))] (evs2 rfl rfl) rfl (hrec_semtypebase_Source_Value _ _ _ _ _ _ _ _ _ (Semtypebase_Source.cells_iff.2 ⟨_, _, rfl, d3⟩) d2 hid0 (RpV.mkInt _ _) gP) ?_
    intro sj sk cL gQ
    obtain ⟨gR, sl, gS, gT⟩ := gQ
    have d5 := dX.z cL
    obtain ⟨gU, gV, rfl, gW⟩ := Semtypebase_Source.cells_iff.1 gS
    obtain ⟨gX, gY, gZ, g0, g1, g2, g3, g4, rfl, g5, g6, g7, g8⟩ := Val.rpv gR
    refine r_buildSlice (B := s0.N) (E := 27) 3 d5.size ts22 (xs := [cK.1]) [Val.ag cK.1 gX gY gZ g0 g1 g2 g3 g4] (eps_cons rfl eps_nil) rfl rfl rfl (by decide) rfl (by simp [Value.cells, Rp.sz]) ⟨_, _, rfl, (Val.cells_iff.2 ⟨_, _, _, _, _, _, _, _, rfl, g5, g6, g7, g8⟩), rfl⟩ ?_
    intro sm sn so bz g9
    have d6 := d5.x bz
    obtain ⟨sp, ha, hf⟩ := bind_some hf
    refine r_append (B := s0.N) (id := 2) (E := 27) (xs := aR.1) (ys := [cK.1]) d6.size (((d1.mod cL (beq_false (by omega))).ext bz)) g9.sl ts22 (room_some ha) rfl rfl rfl rfl ?_
    intro sq d7 d8 b7 hb
    have hc := d6.y b7
    refine r_assign (.slice d7 (aR.1 ++ [cK.1]).length d8) rfl rfl ?_
    refine j0 (j5 (j1 (j3 ?_)))
    refine r_move (.int .i64 aR.2.1) dw rfl ?_
    refine r_bin (.int .i64 aR.2.1) (.int .i64 1) (.int .i64 (w64 (aR.2.1 - 1))) rfl rfl rfl rfl (b_sub) ?_
    refine r_assign (.int .i64 (w64 (aR.2.1 - 1))) rfl rfl ?_
    refine j0 ?_
    obtain rfl := Option.some.inj hf
    exact ⟨rfl, _, _, d7, d8, gU, gV, rfl, rfl, ((((((((((((((cJ).put rfl).put rfl).put rfl).put rfl).put rfl).put rfl).put rfl).put rfl).put rfl).put rfl).put rfl).put rfl).put rfl), hc, (((((Wext.refl _).trans dY).trans cL.wext).trans bz.wext).trans b7.wext), rfl, (hb), rfl, ((gT.ext bz).mod b7 (beq_false (by omega))), ((gW.mono bz.wext).mono b7.wext), (((d4.mod cL (beq_false (by omega))).ext bz).mod b7 rfl)⟩
   refine c_false rfl dx rfl ?_
   refine jc (j8 ?_)
   obtain rfl := Option.some.inj hf
   exact ⟨rfl, _, _, dV, dW, gL, gM, rfl, rfl, (((cJ).put rfl).put rfl), dX, ((Wext.refl _).trans dY), dZ, (d1), dw, d2, d3, d4⟩
  ·exact ⟨_, _, none, 0, gC, gD, rfl, rfl, (Agr.refl _ _), gB, (Wext.refl _), gI, (Own.nil_ _), gJ, gA, gE, ((hb7.mod aZ (beq_false (by omega))).mod dT (beq_false (by omega)))⟩
  rintro e a w ⟨rfl, sr, ss, d9, ea, st, su, rfl, rfl, hd, he, sv, hg, hh, sw, hi, hj, hk⟩
  have eb := (hd 4 rfl).trans gH
  refine j6 (j1 (j2 (j3 ?_)))
  refine r_move (.slice d9 dU.1.length ea) hg rfl ?_
  obtain ⟨bA, hl, hf⟩ := bind_some hf
  refine r_call [.slice d9 dU.1.length ea] (evs1 rfl) rfl (ok_semtyperef1_Tuple _ _ _ _ (RpV.mkList hh.sl) hl) ?_
  intro sx sy cM hm
  have hn := he.x cM
  obtain ⟨b8, b9, ca, cb, cc, cd, ce, cf, rfl, ho, hp, hq, hr⟩ := Val.rpv hm
  refine r_store (hk.ext cM) 0 (Val.ag bA b8 b9 ca cb cc cd ce cf) (Val.cs bA b8 b9 ca cb cc cd ce cf) (Val.cs bA b8 b9 ca cb cc cd ce cf) eb rfl rfl rfl rfl sz27 rfl rfl rfl ?_
  intro sA bd hs
  have ht := hn.y bd
  refine j0 (j1 (jb (j7 (j9 ?_))))
  obtain rfl := Option.some.inj hf
  refine ret_oneE (Val.ag bA b8 b9 ca cb cc cd ce cf) rfl ⟨rfl, _, eb, loads_row tr27 (Blk.range hs 0 (Val.cs bA b8 b9 ca cb cc cd ce cf) rfl)⟩ ht.mod_ ?_
  exact ⟨(Val.rpvMk (v := bA) (ho.mono bd.wext) (hp.mono bd.wext) (hq.mono bd.wext) (hr.mono bd.wext)), _, (Semtypebase_Source.cells_iff.2 ⟨_, _, rfl, ((hj.mono cM.wext).mono bd.wext)⟩), ((hi.ext cM).mod bd (beq_false (by omega)))⟩
 refine c_false rfl dv rfl ?_
 refine j2 (j3 ?_)
 refine r_bin (.int .i64 aF.1) (.int .i64 2) (.bool (aF.1 == 2)) rfl rfl rfl rfl (b_eql) ?_
 refine r_assign (.bool (aF.1 == 2)) rfl rfl ?_
 refine j0 (j1 ?_)
 refine if_else hf (fun dy hf => ?_) (fun dy hf => ?_)
 ·refine c_true rfl dy rfl ?_
  refine j2 (j3 ?_)
  obtain ⟨aa, hu, hf⟩ := bind_some hf
  refine r_call [] evs0 rfl (ok_semtyperef1_Nil _ _  hu) ?_
  intro sB sC a0 hv
  have ec := b5.x a0
  obtain ⟨aH, aI, aJ, aK, aL, aM, dz, dA, rfl, ed, ee, ef, sD⟩ := Val.rpv hv
  refine r_alloc (B := s0.N) 4 ec.size _ [.int .i64 0, .int .i64 0, .string (⟨#[]⟩), nl Val, nl Key, nl Ent, nl ByteArray] ti27 rfl ?_
  intro sE aT ah hw
  have hx := ec.x ah
  refine r_store hw 0 (Val.ag aa aH aI aJ aK aL aM dz dA) (Val.cs aa aH aI aJ aK aL aM dz dA) (Val.cs aa aH aI aJ aK aL aM dz dA) rfl rfl rfl rfl rfl sz27 rfl rfl rfl ?_
  intro sF ai dB
  have eg := hx.y ai
  refine j0 (j1 (j2 (j2 (j3 ?_))))
  refine r_move (.int .i64 a1) rfl rfl ?_
  refine r_bin (.int .i64 a1) (.int .i64 2) (.bool (decide (2 < a1))) rfl rfl rfl rfl (b_gtr) ?_
  refine r_move (.bool (decide (2 < a1))) rfl rfl ?_
  refine if_else hf (fun aU hf => ?_) (fun aU hf => ?_)
  ·refine r_guard (j := 2) (want := true) (d := 46) (c := decide (2 < a1)) (v := true) rfl rfl aU rfl rfl ?_
   refine r_move (.pointer (some ⟨b0, 0, none⟩)) rfl rfl ?_
   refine r_guard (j := 2) (want := true) (d := 46) (c := decide (2 < a1)) (v := true) rfl rfl aU rfl rfl ?_
   obtain ⟨dC, hy, hf⟩ := bind_some hf
   refine r_callE [.pointer (some ⟨b0, 0, none⟩), .int .i64 2] (evs2 rfl rfl) rfl (ok_semtypebase_Source_Next _ _ _ _ _ _ _ _ _ (Semtypebase_Source.cells_iff.2 ⟨_, _, rfl, (((bx.mono a0.wext).mono ah.wext).mono ai.wext)⟩) (((bw.ext a0).ext ah).mod ai (beq_false (by omega))) hid0 (RpV.mkInt _ _) hy) ?_
   intro sG sH a2 hz
   obtain ⟨hA, sI, hB, eh⟩ := hz
   have ei := eg.z a2
   obtain ⟨sJ, sK, rfl, ej⟩ := Semtypebase_Source.cells_iff.1 hB
   obtain rfl := RpV.int hA
   refine r_guard (j := 2) (want := true) (d := 46) (c := decide (2 < a1)) (v := true) rfl rfl aU rfl rfl ?_
   refine r_bin (.int .i64 dC.1) (.int .i64 1) (.bool (dC.1 == 1)) rfl rfl rfl rfl (b_eql) ?_
   refine r_pick_t (c := decide (2 < a1)) (.bool (dC.1 == 1)) rfl aU rfl rfl rfl rfl ?_
   refine j0 (j1 ?_)
   refine if_else hf (fun dD hf => ?_) (fun dD hf => ?_)
   ·refine c_true rfl dD rfl ?_
    refine j3 ?_
    refine r_move (.pointer (some ⟨b0, 0, none⟩)) rfl rfl ?_
    refine r_move (.int .i64 a1) rfl rfl ?_
    refine r_bin (.int .i64 a1) (.int .i64 2) (.int .i64 (w64 (a1 - 2))) rfl rfl rfl rfl (b_sub) ?_
    obtain ⟨ek, hC, hf⟩ := bind_some hf
    refine r_callE [.pointer (some ⟨b0, 0, none⟩), .int .i64 (w64 (a1 - 2))] (evs2 rfl rfl) rfl (hrec_semtypebase_Source_Value _ _ _ _ _ _ _ _ _ (Semtypebase_Source.cells_iff.2 ⟨_, _, rfl, ej⟩) eh hid0 (RpV.mkInt _ _) hC) ?_
    intro sL sM dE hD
    obtain ⟨hE, sN, hF, hG⟩ := hD
    have hH := ei.z dE
    obtain ⟨sO, sP, rfl, hJ⟩ := Semtypebase_Source.cells_iff.1 hF
    obtain ⟨hK, hL, hM, hN, hO, hP, hQ, hR, rfl, hS, hT, hU, hV⟩ := Val.rpv hE
    obtain ⟨el, hW, hf⟩ := bind_some hf
    refine r_call [] evs0 rfl (ok_semtyperef1_Nil _ _  hW) ?_
    intro sQ sR aV hX
    have hY := hH.x aV
    obtain ⟨hZ, h0, h2, h4, h5, h6, h7, h8, rfl, h9, ia, ib, ic⟩ := Val.rpv hX
    obtain ⟨ab, ie, hf⟩ := bind_some hf
    refine r_call [Val.ag ek.1 hK hL hM hN hO hP hQ hR, Val.ag el hZ h0 h2 h4 h5 h6 h7 h8] (evs2 rfl rfl) rfl (ok_semtyperef1_Cons _ _ _ _ _ _ (Val.rpvMk (v := ek.1) (hS.mono aV.wext) (hT.mono aV.wext) (hU.mono aV.wext) (hV.mono aV.wext)) (Val.rpvMk (v := el) h9 ia ib ic) ie) ?_
    intro sS sT cg ig
    have ih := hY.x cg
    obtain ⟨be, bf, bg, bh, bi, bj, dF, dG, rfl, ii, ij, ik, sU⟩ := Val.rpv ig
    refine r_store ((((dB.mod a2 (beq_false (by omega))).mod dE (beq_false (by omega))).ext aV).ext cg) 0 (Val.ag ab be bf bg bh bi bj dF dG) (Val.cs ab be bf bg bh bi bj dF dG) (Val.cs ab be bf bg bh bi bj dF dG) rfl rfl rfl rfl rfl sz27 rfl rfl rfl ?_
    intro sV bk il
    have im := ih.y bk
    refine j0 (j1 (j2 (j3 ?_)))
    refine r_move (.pointer (some ⟨b0, 0, none⟩)) rfl rfl ?_
    obtain ⟨ae, io, hf⟩ := bind_some hf
    refine r_callE [.pointer (some ⟨b0, 0, none⟩)] (evs1 rfl) rfl (ok_semtypebase_Source_Labels _ _ _ _ _ _ _ (Semtypebase_Source.cells_iff.2 ⟨_, _, rfl, (((hJ.mono aV.wext).mono cg.wext).mono bk.wext)⟩) (((hG.ext aV).ext cg).mod bk (beq_false (by omega))) hid0  io) ?_
    intro sW sX bB ip
    obtain ⟨iq, sY, ir, it⟩ := ip
    have iu := im.z bB
    obtain ⟨iv, iw, rfl, ix⟩ := Semtypebase_Source.cells_iff.1 ir
    obtain ⟨bC, bD, rfl, iy⟩ := RpV.list iq
    refine r_fieldAddr aT 0 6 6 rfl rfl fo27_6 rfl ?_
    refine r_store (il.mod bB (beq_false (by omega))) 6 (.slice bC ae.1.length bD) [.slice bC ae.1.length bD] [.int .i64 ab.Kind, .int .i64 ab.Int_, .string ab.Text, .slice be ab.Kids.length bf, .slice bg ab.Keys.length bh, .slice bi ab.Entries.length bj, .slice bC ae.1.length bD] rfl rfl rfl rfl rfl sz25 rfl rfl rfl ?_
    intro sZ a3 iz
    have cN := iu.y a3
    refine j0 (j1 (j2 ?_))
    obtain ⟨a4, iA, hf⟩ := bind_some hf
    obtain ⟨aj, iB, hf⟩ := bind_some hf
    refine wp_draw (B := frP s0.N B0 id0) [some 60, some 61, some 62, some 63, some 64, some 65, none] [[], [], [1], [0, 1, 2], [], [0, 1, 2, 3, 4], [0, 1, 2, 3, 4, 5]] [Fct.eqv (.pointer (some ⟨b0, 0, none⟩)), Fct.eqv (.int .i64 a1), Fct.eqv (.int .i64 (w64 (a1 - 1))), Fct.data (a4.1 : Val), Fct.data ((Val.mk ab.Kind ab.Int_ ab.Text ab.Kids ab.Keys ab.Entries ae.1) : Val), Fct.data (aj : Val), Fct.any] (fun D F τ => (D 3 = false → Blk B0 id0 τ b0 53 [.slice iv ae.2.L.length iw, .int .i64 ae.2.At]) ∧ (D 3 = true → (∃ (zA0 : Option Addr) (zc0 : Nat), Blk B0 id0 τ b0 53 [.slice zA0 a4.2.L.length zc0, .int .i64 a4.2.At] ∧ Sl τ a4.2.L zA0 zc0)) ∧ (D 6 = false → Blk s0.N 1 τ b4 27 [.int .i64 0, .int .i64 0, .string (⟨#[]⟩), nl Val, nl Key, nl Ent, nl ByteArray]) ∧ (D 6 = true → (∃ (zA3 : Option Addr) (zc3 : Nat) (zA4 : Option Addr) (zc4 : Nat) (zA5 : Option Addr) (zc5 : Nat) (zA6 : Option Addr) (zc6 : Nat), Blk s0.N 1 τ b4 27 (Val.cs aj zA3 zc3 zA4 zc4 zA5 zc5 zA6 zc6) ∧ Sl τ aj.Kids zA3 zc3 ∧ Sl τ aj.Keys zA4 zc4 ∧ Sl τ aj.Entries zA5 zc5 ∧ Sl τ aj.Labels zA6 zc6)) ∧ (Blk s0.N 4 τ aT 27 [.int .i64 ab.Kind, .int .i64 ab.Int_, .string ab.Text, .slice be ab.Kids.length bf, .slice bg ab.Keys.length bh, .slice bi ab.Entries.length bj, .slice bC ae.1.length bD])) (by kernel_rfl) rfl (by decide) (by decide) ⟨(fun _ => ((it.mod a3 (beq_false (by omega))).ext (ext_draw _))), (fun h => Bool.noConfusion h), (fun _ => ((((((((((((hb7.mod aZ (beq_false (by omega))).ext a0).ext ah).mod ai rfl).mod a2 (beq_false (by omega))).mod dE (beq_false (by omega))).ext aV).ext cg).mod bk rfl).mod bB (beq_false (by omega))).mod a3 rfl).ext (ext_draw _))), (fun h => Bool.noConfusion h), (iz.ext (ext_draw _))⟩ (by decide) (by decide) ⟨?_, ?_, ?_, ?_, ?_, ?_, ?_, trivial⟩ ?_
    ·intro s1 s2 s3 s4 s6 em s7 s8 iC iD s9
     obtain ⟨iE, ta, iF, tb, iG⟩ := iC
     refine r_move (.pointer (some ⟨b0, 0, none⟩)) ((iD 0 rfl).trans rfl) rfl ?_
     exact d0 ⟨rfl, ⟨(fun y0 => (iE y0)), (fun h => Bool.noConfusion ((em 3 rfl).symm.trans h)), (fun y0 => (iF y0)), (fun h => Bool.noConfusion ((em 6 rfl).symm.trans h)), iG⟩⟩
    ·intro tc td te tf tg en th ti iH iI tj
     obtain ⟨iJ, tk, iK, tl, iL⟩ := iH
     refine r_move (.int .i64 a1) ((iI 1 rfl).trans rfl) rfl ?_
     exact d0 ⟨rfl, ⟨(fun y0 => (iJ y0)), (fun h => Bool.noConfusion ((en 3 rfl).symm.trans h)), (fun y0 => (iK y0)), (fun h => Bool.noConfusion ((en 6 rfl).symm.trans h)), iL⟩⟩
    ·intro tm tn tp tq tr eo ts tt iM tu iN
     obtain ⟨iO, tv, iP, tw, iQ⟩ := iM
     refine r_bin (.int .i64 a1) (.int .i64 1) (.int .i64 (w64 (a1 - 1))) (iN 1 rfl 61 rfl) rfl rfl rfl (b_sub) ?_
     exact d0 ⟨rfl, ⟨(fun y0 => (iO y0)), (fun h => Bool.noConfusion ((eo 3 rfl).symm.trans h)), (fun y0 => (iP y0)), (fun h => Bool.noConfusion ((eo 6 rfl).symm.trans h)), iQ⟩⟩
    ·intro tx ty tz iR tA iS iT iU iV tB ep
     have iW := cN.trans iT
     obtain ⟨iX, tC, iY, tD, iZ⟩ := iV
     have i0 := iX iR
     refine r_callE [.pointer (some ⟨b0, 0, none⟩), .int .i64 (w64 (a1 - 1))] (evs2 (ep 0 rfl 60 rfl) (ep 2 rfl 62 rfl)) rfl (hrec_semtypebase_Source_Value _ _ _ _ _ _ _ _ _ (Semtypebase_Source.cells_iff.2 ⟨_, _, rfl, ((ix.mono a3.wext).mono iU)⟩) i0 hid0 (RpV.mkInt _ _) iA) ?_
     intro tE tF cO i1
     obtain ⟨i2, tG, i3, i4⟩ := i1
     obtain ⟨i5, i6, rfl, i7⟩ := Semtypebase_Source.cells_iff.1 i3
     obtain ⟨tH, tI, tJ, tK, tL, tM, tN, tO, rfl, i8, i9, jd, je⟩ := Val.rpv i2
     refine j0 ?_
     exact ⟨_, _, rfl, rfl, (ExtP.refl _ _ _ _).modp iW.size cO, (Wext.refl _).trans cO.wext, (Val.rpvMk (v := a4.1) i8 i9 jd je), ⟨(fun h => Bool.noConfusion h), (fun _ => ⟨i5, i6, i4, i7⟩), (fun y0 => ((iY y0).mod cO (beq_false (by omega)))), (fun h => Bool.noConfusion ((iS 6 rfl).symm.trans h)), (iZ.mod cO (beq_false (by omega)))⟩⟩
    ·intro tP tQ tR tS tT jf tU cP jg jh tV
     obtain ⟨ji, jj, jk, tW, eq⟩ := jg
     have jl := eq
     refine r_load aT 0 (.agg #[.int .i64 ab.Kind, .int .i64 ab.Int_, .string ab.Text, .slice be ab.Kids.length bf, .slice bg ab.Keys.length bh, .slice bi ab.Entries.length bj, .slice bC ae.1.length bD]) ((jh 7 rfl).trans rfl) rfl (loads_row tr27 (Blk.range jl 0 [.int .i64 ab.Kind, .int .i64 ab.Int_, .string ab.Text, .slice be ab.Kids.length bf, .slice bg ab.Keys.length bh, .slice bi ab.Entries.length bj, .slice bC ae.1.length bD] rfl)) ?_
     exact d0 ⟨(Val.rpvMk (v := (Val.mk ab.Kind ab.Int_ ab.Text ab.Kids ab.Keys ab.Entries ae.1)) ((((ii.mono bk.wext).mono bB.wext).mono a3.wext).mono cP) ((((ij.mono bk.wext).mono bB.wext).mono a3.wext).mono cP) ((((ik.mono bk.wext).mono bB.wext).mono a3.wext).mono cP) ((iy.mono a3.wext).mono cP)), ⟨(fun y0 => (ji y0)), (fun y0 => (let ⟨zA0, zc0, zb, zf0⟩ := (jj y0); ⟨zA0, zc0, zb, zf0⟩)), (fun y0 => (jk y0)), (fun h => Bool.noConfusion ((jf 6 rfl).symm.trans h)), eq⟩⟩
    ·intro tX er es tY jm jn jo tZ jp t0 et
     have jq := cN.trans jo
     obtain ⟨t1, jr, js, t2, jt⟩ := jp
     have ju : RpV es (a4.1 : Val) (er 63) := et 3 rfl 63 rfl
     obtain ⟨jv, jw, jx, jy, jz, jA, jB, jC, jD, jE, jF, jG, jH⟩ := Val.rpv ju
     have jI : RpV es ((Val.mk ab.Kind ab.Int_ ab.Text ab.Kids ab.Keys ab.Entries ae.1) : Val) (er 64) := et 4 rfl 64 rfl
     obtain ⟨jJ, jK, jL, jM, jN, jO, jP, jQ, jR, jS, jT, jU, jV⟩ := Val.rpv jI
     refine r_call [Val.ag a4.1 jv jw jx jy jz jA jB jC, .agg #[.int .i64 ab.Kind, .int .i64 ab.Int_, .string ab.Text, .slice jJ ((Val.mk ab.Kind ab.Int_ ab.Text ab.Kids ab.Keys ab.Entries ae.1).Kids).length jK, .slice jL ((Val.mk ab.Kind ab.Int_ ab.Text ab.Kids ab.Keys ab.Entries ae.1).Keys).length jM, .slice jN ((Val.mk ab.Kind ab.Int_ ab.Text ab.Kids ab.Keys ab.Entries ae.1).Entries).length jO, .slice jP ((Val.mk ab.Kind ab.Int_ ab.Text ab.Kids ab.Keys ab.Entries ae.1).Labels).length jQ]] (evs2 jD jR) rfl (ok_semtyperef1_Cons _ _ _ _ _ _ (Val.rpvMk (v := a4.1) jE jF jG jH) (Val.rpvMk (v := (Val.mk ab.Kind ab.Int_ ab.Text ab.Kids ab.Keys ab.Entries ae.1)) jS jT jU jV) iB) ?_
     intro t3 t4 bE jW
     obtain ⟨t5, t6, t7, t8, t9, ua, ub, uc, rfl, jX, jY, jZ, ka⟩ := Val.rpv jW
     refine j0 ?_
     exact ⟨_, _, rfl, rfl, (ExtP.refl _ _ _ _).ext jq.size bE, (Wext.refl _).trans bE.wext, (Val.rpvMk (v := aj) jX jY jZ ka), ⟨(fun h => Bool.noConfusion ((jm 3 rfl).symm.trans h)), (fun y0 => (let ⟨zA0, zc0, zb, zf0⟩ := (jr y0); ⟨zA0, zc0, (zb.ext bE), (zf0.mono bE.wext)⟩)), (fun y0 => ((js y0).ext bE)), (fun h => Bool.noConfusion ((jn 6 rfl).symm.trans h)), (jt.ext bE)⟩⟩
    ·intro ud kb kc kd ke ue kf uf kg kh ki
     have kj := cN.trans kf
     obtain ⟨ug, kk, kl, uh, km⟩ := kg
     have kn := kl kd
     have ko : RpV kc (aj : Val) (kb 65) := ki 5 rfl 65 rfl
     obtain ⟨cQ, cR, cS, cT, cU, cV, cW, cX, kp, kq, kr, ks, kt⟩ := Val.rpv ko
     refine r_store kn 0 (Val.ag aj cQ cR cS cT cU cV cW cX) (Val.cs aj cQ cR cS cT cU cV cW cX) (Val.cs aj cQ cR cS cT cU cV cW cX) ((kh 4 rfl).trans rfl) kp rfl rfl rfl sz27 rfl rfl rfl ?_
     intro ui aW ku
     refine j0 ?_
     exact ⟨_, _, rfl, rfl, (ExtP.refl _ _ _ _).mod kj.size aW, (Wext.refl _).trans aW.wext, trivial, ⟨(fun h => Bool.noConfusion ((ke 3 rfl).symm.trans h)), (fun y0 => (let ⟨zA0, zc0, zb, zf0⟩ := (kk y0); ⟨zA0, zc0, (zb.mod aW (beq_false (by omega))), (zf0.mono aW.wext)⟩)), (fun h => Bool.noConfusion h), (fun _ => ⟨cQ, cR, cS, cT, cU, cV, cW, cX, ku, (kq.mono aW.wext), (kr.mono aW.wext), (ks.mono aW.wext), (kt.mono aW.wext)⟩), (km.mod aW rfl)⟩⟩
    intro kv uj kw uk kx ky ul
    have kz := cN.trans kw
    obtain ⟨um, kA, un, kB, uo⟩ := kx
    obtain ⟨up, uq, kC, kD⟩ := kA rfl
    obtain ⟨eu, ev, ew, ex, ey, ez, eA, eB, kE, kF, kG, kH, kI⟩ := kB rfl
    have kJ : kv 4 = (.pointer (some ⟨b4, 0, none⟩)) := (ky 4 rfl).trans rfl
    refine j1 (jb (j7 (j9 ?_)))
    obtain rfl := Option.some.inj hf
    refine ret_oneE (Val.ag aj eu ev ew ex ey ez eA eB) rfl ⟨rfl, _, kJ, loads_row tr27 (Blk.range kE 0 (Val.cs aj eu ev ew ex ey ez eA eB) rfl)⟩ kz.mod_ ?_
    exact ⟨(Val.rpvMk (v := aj) kF kG kH kI), _, (Semtypebase_Source.cells_iff.2 ⟨_, _, rfl, kD⟩), kC⟩
   refine c_false rfl dD rfl ?_
   refine ja (j1 (j2 (j3 ?_)))
   refine r_move (.pointer (some ⟨b0, 0, none⟩)) rfl rfl ?_
   obtain ⟨af, kK, hf⟩ := bind_some hf
   refine r_callE [.pointer (some ⟨b0, 0, none⟩)] (evs1 rfl) rfl (ok_semtypebase_Source_Labels _ _ _ _ _ _ _ (Semtypebase_Source.cells_iff.2 ⟨_, _, rfl, ej⟩) eh hid0  kK) ?_
   intro ur us bF kL
   obtain ⟨kM, ut, kN, kO⟩ := kL
   have kP := ei.z bF
   obtain ⟨kQ, kR, rfl, kS⟩ := Semtypebase_Source.cells_iff.1 kN
   obtain ⟨bG, bH, rfl, kT⟩ := RpV.list kM
   refine r_fieldAddr aT 0 6 6 rfl rfl fo27_6 rfl ?_
   refine r_store ((dB.mod a2 (beq_false (by omega))).mod bF (beq_false (by omega))) 6 (.slice bG af.1.length bH) [.slice bG af.1.length bH] [.int .i64 aa.Kind, .int .i64 aa.Int_, .string aa.Text, .slice aH aa.Kids.length aI, .slice aJ aa.Keys.length aK, .slice aL aa.Entries.length aM, .slice bG af.1.length bH] rfl rfl rfl rfl rfl sz25 rfl rfl rfl ?_
   intro uu a5 kU
   have cY := kP.y a5
   refine j0 (j1 (j2 ?_))
   obtain ⟨a6, kV, hf⟩ := bind_some hf
   obtain ⟨ak, kW, hf⟩ := bind_some hf
   refine wp_draw (B := frP s0.N B0 id0) [some 60, some 61, some 62, some 63, some 64, some 65, none] [[], [], [1], [0, 1, 2], [], [0, 1, 2, 3, 4], [0, 1, 2, 3, 4, 5]] [Fct.eqv (.pointer (some ⟨b0, 0, none⟩)), Fct.eqv (.int .i64 a1), Fct.eqv (.int .i64 (w64 (a1 - 1))), Fct.data (a6.1 : Val), Fct.data ((Val.mk aa.Kind aa.Int_ aa.Text aa.Kids aa.Keys aa.Entries af.1) : Val), Fct.data (ak : Val), Fct.any] (fun D F τ => (D 3 = false → Blk B0 id0 τ b0 53 [.slice kQ af.2.L.length kR, .int .i64 af.2.At]) ∧ (D 3 = true → (∃ (zA0 : Option Addr) (zc0 : Nat), Blk B0 id0 τ b0 53 [.slice zA0 a6.2.L.length zc0, .int .i64 a6.2.At] ∧ Sl τ a6.2.L zA0 zc0)) ∧ (D 6 = false → Blk s0.N 1 τ b4 27 [.int .i64 0, .int .i64 0, .string (⟨#[]⟩), nl Val, nl Key, nl Ent, nl ByteArray]) ∧ (D 6 = true → (∃ (zA3 : Option Addr) (zc3 : Nat) (zA4 : Option Addr) (zc4 : Nat) (zA5 : Option Addr) (zc5 : Nat) (zA6 : Option Addr) (zc6 : Nat), Blk s0.N 1 τ b4 27 (Val.cs ak zA3 zc3 zA4 zc4 zA5 zc5 zA6 zc6) ∧ Sl τ ak.Kids zA3 zc3 ∧ Sl τ ak.Keys zA4 zc4 ∧ Sl τ ak.Entries zA5 zc5 ∧ Sl τ ak.Labels zA6 zc6)) ∧ (Blk s0.N 4 τ aT 27 [.int .i64 aa.Kind, .int .i64 aa.Int_, .string aa.Text, .slice aH aa.Kids.length aI, .slice aJ aa.Keys.length aK, .slice aL aa.Entries.length aM, .slice bG af.1.length bH])) (by kernel_rfl) rfl (by decide) (by decide) ⟨(fun _ => ((kO.mod a5 (beq_false (by omega))).ext (ext_draw _))), (fun h => Bool.noConfusion h), (fun _ => ((((((((hb7.mod aZ (beq_false (by omega))).ext a0).ext ah).mod ai rfl).mod a2 (beq_false (by omega))).mod bF (beq_false (by omega))).mod a5 rfl).ext (ext_draw _))), (fun h => Bool.noConfusion h), (kU.ext (ext_draw _))⟩ (by decide) (by decide) ⟨?_, ?_, ?_, ?_, ?_, ?_, ?_, trivial⟩ ?_
   ·intro uv uw ux uy uz eC uA uB kX kY uC
    obtain ⟨kZ, uD, k0, uE, k1⟩ := kX
    refine r_move (.pointer (some ⟨b0, 0, none⟩)) ((kY 0 rfl).trans rfl) rfl ?_
    exact d0 ⟨rfl, ⟨(fun y0 => (kZ y0)), (fun h => Bool.noConfusion ((eC 3 rfl).symm.trans h)), (fun y0 => (k0 y0)), (fun h => Bool.noConfusion ((eC 6 rfl).symm.trans h)), k1⟩⟩
   ·intro uF uG uH uI uJ eD uK uL k2 k3 uM
    obtain ⟨k4, uN, k5, uO, k7⟩ := k2
    refine r_move (.int .i64 a1) ((k3 1 rfl).trans rfl) rfl ?_
    exact d0 ⟨rfl, ⟨(fun y0 => (k4 y0)), (fun h => Bool.noConfusion ((eD 3 rfl).symm.trans h)), (fun y0 => (k5 y0)), (fun h => Bool.noConfusion ((eD 6 rfl).symm.trans h)), k7⟩⟩
   ·intro uP uQ uR uS uT eE uU uV k8 uW k9
    obtain ⟨la, uX, lb, uY, lc⟩ := k8
    refine r_bin (.int .i64 a1) (.int .i64 1) (.int .i64 (w64 (a1 - 1))) (k9 1 rfl 61 rfl) rfl rfl rfl (b_sub) ?_
    exact d0 ⟨rfl, ⟨(fun y0 => (la y0)), (fun h => Bool.noConfusion ((eE 3 rfl).symm.trans h)), (fun y0 => (lb y0)), (fun h => Bool.noConfusion ((eE 6 rfl).symm.trans h)), lc⟩⟩
   ·intro uZ u0 u1 ld u2 le lf lg lh u3 eF
    have li := cY.trans lf
    obtain ⟨lj, u4, lk, u5, ll⟩ := lh
    have lm := lj ld
    refine r_callE [.pointer (some ⟨b0, 0, none⟩), .int .i64 (w64 (a1 - 1))] (evs2 (eF 0 rfl 60 rfl) (eF 2 rfl 62 rfl)) rfl (hrec_semtypebase_Source_Value _ _ _ _ _ _ _ _ _ (Semtypebase_Source.cells_iff.2 ⟨_, _, rfl, ((kS.mono a5.wext).mono lg)⟩) lm hid0 (RpV.mkInt _ _) kV) ?_
    intro u6 u7 cZ ln
    obtain ⟨lo, u8, lp, lq⟩ := ln
    obtain ⟨lr, ls, rfl, lt⟩ := Semtypebase_Source.cells_iff.1 lp
    obtain ⟨u9, va, vb, vc, vd, ve, vf, vg, rfl, lu, lv, lw, lx⟩ := Val.rpv lo
    refine j0 ?_
    exact ⟨_, _, rfl, rfl, (ExtP.refl _ _ _ _).modp li.size cZ, (Wext.refl _).trans cZ.wext, (Val.rpvMk (v := a6.1) lu lv lw lx), ⟨(fun h => Bool.noConfusion h), (fun _ => ⟨lr, ls, lq, lt⟩), (fun y0 => ((lk y0).mod cZ (beq_false (by omega)))), (fun h => Bool.noConfusion ((le 6 rfl).symm.trans h)), (ll.mod cZ (beq_false (by omega)))⟩⟩
   ·intro vh vi vj vk vl ly vm c0 lz lA vn
    obtain ⟨lB, lC, lD, vo, eG⟩ := lz
    have lE := eG
    refine r_load aT 0 (.agg #[.int .i64 aa.Kind, .int .i64 aa.Int_, .string aa.Text, .slice aH aa.Kids.length aI, .slice aJ aa.Keys.length aK, .slice aL aa.Entries.length aM, .slice bG af.1.length bH]) ((lA 7 rfl).trans rfl) rfl (loads_row tr27 (Blk.range lE 0 [.int .i64 aa.Kind, .int .i64 aa.Int_, .string aa.Text, .slice aH aa.Kids.length aI, .slice aJ aa.Keys.length aK, .slice aL aa.Entries.length aM, .slice bG af.1.length bH] rfl)) ?_
    exact d0 ⟨(Val.rpvMk (v := (Val.mk aa.Kind aa.Int_ aa.Text aa.Kids aa.Keys aa.Entries af.1)) ((((((ed.mono ah.wext).mono ai.wext).mono a2.wext).mono bF.wext).mono a5.wext).mono c0) ((((((ee.mono ah.wext).mono ai.wext).mono a2.wext).mono bF.wext).mono a5.wext).mono c0) ((((((ef.mono ah.wext).mono ai.wext).mono a2.wext).mono bF.wext).mono a5.wext).mono c0) ((kT.mono a5.wext).mono c0)), ⟨(fun y0 => (lB y0)), (fun y0 => (let ⟨zA0, zc0, zb, zf0⟩ := (lC y0); ⟨zA0, zc0, zb, zf0⟩)), (fun y0 => (lD y0)), (fun h => Bool.noConfusion ((ly 6 rfl).symm.trans h)), eG⟩⟩
   ·intro vp eH eI vq lF lG lH vr lI vs eJ
    have lJ := cY.trans lH
    obtain ⟨vt, lK, lL, vu, lM⟩ := lI
    have lN : RpV eI (a6.1 : Val) (eH 63) := eJ 3 rfl 63 rfl
    obtain ⟨lO, lP, lQ, lR, lS, lT, lU, lV, lW, lX, lY, lZ, l0⟩ := Val.rpv lN
    have l1 : RpV eI ((Val.mk aa.Kind aa.Int_ aa.Text aa.Kids aa.Keys aa.Entries af.1) : Val) (eH 64) := eJ 4 rfl 64 rfl
    obtain ⟨l2, l3, l4, l5, l6, l7, l8, l9, ma, mb, mc, md, me⟩ := Val.rpv l1
    refine r_call [Val.ag a6.1 lO lP lQ lR lS lT lU lV, .agg #[.int .i64 aa.Kind, .int .i64 aa.Int_, .string aa.Text, .slice l2 ((Val.mk aa.Kind aa.Int_ aa.Text aa.Kids aa.Keys aa.Entries af.1).Kids).length l3, .slice l4 ((Val.mk aa.Kind aa.Int_ aa.Text aa.Kids aa.Keys aa.Entries af.1).Keys).length l5, .slice l6 ((Val.mk aa.Kind aa.Int_ aa.Text aa.Kids aa.Keys aa.Entries af.1).Entries).length l7, .slice l8 ((Val.mk aa.Kind aa.Int_ aa.Text aa.Kids aa.Keys aa.Entries af.1).Labels).length l9]] (evs2 lW ma) rfl (ok_semtyperef1_Cons _ _ _ _ _ _ (Val.rpvMk (v := a6.1) lX lY lZ l0) (Val.rpvMk (v := (Val.mk aa.Kind aa.Int_ aa.Text aa.Kids aa.Keys aa.Entries af.1)) mb mc md me) kW) ?_
    intro vv vw bI mf
    obtain ⟨vx, vy, vz, vA, vB, vC, vD, vE, rfl, mg, mh, mi, mj⟩ := Val.rpv mf
    refine j0 ?_
    exact ⟨_, _, rfl, rfl, (ExtP.refl _ _ _ _).ext lJ.size bI, (Wext.refl _).trans bI.wext, (Val.rpvMk (v := ak) mg mh mi mj), ⟨(fun h => Bool.noConfusion ((lF 3 rfl).symm.trans h)), (fun y0 => (let ⟨zA0, zc0, zb, zf0⟩ := (lK y0); ⟨zA0, zc0, (zb.ext bI), (zf0.mono bI.wext)⟩)), (fun y0 => ((lL y0).ext bI)), (fun h => Bool.noConfusion ((lG 6 rfl).symm.trans h)), (lM.ext bI)⟩⟩
   ·intro vF mk ml mm mn vG mo vH mp mq mr
    have ms := cY.trans mo
    obtain ⟨vI, mt, mu, vJ, mv⟩ := mp
    have mw := mu mm
    have mx : RpV ml (ak : Val) (mk 65) := mr 5 rfl 65 rfl
    obtain ⟨c4, c5, c6, c7, c8, c9, da, db, my, mz, mA, mB, mC⟩ := Val.rpv mx
    refine r_store mw 0 (Val.ag ak c4 c5 c6 c7 c8 c9 da db) (Val.cs ak c4 c5 c6 c7 c8 c9 da db) (Val.cs ak c4 c5 c6 c7 c8 c9 da db) ((mq 4 rfl).trans rfl) my rfl rfl rfl sz27 rfl rfl rfl ?_
    intro vK aX mD
    refine j0 ?_
    exact ⟨_, _, rfl, rfl, (ExtP.refl _ _ _ _).mod ms.size aX, (Wext.refl _).trans aX.wext, trivial, ⟨(fun h => Bool.noConfusion ((mn 3 rfl).symm.trans h)), (fun y0 => (let ⟨zA0, zc0, zb, zf0⟩ := (mt y0); ⟨zA0, zc0, (zb.mod aX (beq_false (by omega))), (zf0.mono aX.wext)⟩)), (fun h => Bool.noConfusion h), (fun _ => ⟨c4, c5, c6, c7, c8, c9, da, db, mD, (mz.mono aX.wext), (mA.mono aX.wext), (mB.mono aX.wext), (mC.mono aX.wext)⟩), (mv.mod aX rfl)⟩⟩
   intro mE vL mF vM mG mH vN
   have mI := cY.trans mF
   obtain ⟨vO, mJ, vP, mK, vQ⟩ := mG
   obtain ⟨vR, vS, mL, mM⟩ := mJ rfl
   obtain ⟨eK, eL, eM, eN, eO, eP, eQ, eR, mN, mO, mP, mQ, mR⟩ := mK rfl
   have mS : mE 4 = (.pointer (some ⟨b4, 0, none⟩)) := (mH 4 rfl).trans rfl
   refine j1 (jb (j7 (j9 ?_)))
   obtain rfl := Option.some.inj hf
   refine ret_oneE (Val.ag ak eK eL eM eN eO eP eQ eR) rfl ⟨rfl, _, mS, loads_row tr27 (Blk.range mN 0 (Val.cs ak eK eL eM eN eO eP eQ eR) rfl)⟩ mI.mod_ ?_
   exact ⟨(Val.rpvMk (v := ak) mO mP mQ mR), _, (Semtypebase_Source.cells_iff.2 ⟨_, _, rfl, mM⟩), mL⟩
  refine r_skip (j := 2) (want := true) (d := 46) (c := decide (2 < a1)) (v := false) rfl rfl aU rfl rfl ?_
  refine r_skip (j := 2) (want := true) (d := 46) (c := decide (2 < a1)) (v := false) rfl rfl aU rfl rfl ?_
  refine r_skip (j := 2) (want := true) (d := 46) (c := decide (2 < a1)) (v := false) rfl rfl aU rfl rfl ?_
  refine r_pick_f (c := decide (2 < a1)) (.bool false) rfl aU rfl rfl rfl rfl ?_
  refine j0 (j1 ?_)
  refine c_false rfl rfl rfl ?_
  refine ja (j1 (j2 (j3 ?_)))
  refine r_move (.pointer (some ⟨b0, 0, none⟩)) rfl rfl ?_
  obtain ⟨ag, mT, hf⟩ := bind_some hf
  refine r_callE [.pointer (some ⟨b0, 0, none⟩)] (evs1 rfl) rfl (ok_semtypebase_Source_Labels _ _ _ _ _ _ _ (Semtypebase_Source.cells_iff.2 ⟨_, _, rfl, (((bx.mono a0.wext).mono ah.wext).mono ai.wext)⟩) (((bw.ext a0).ext ah).mod ai (beq_false (by omega))) hid0  mT) ?_
  intro vT vU bJ mU
  obtain ⟨mV, vV, mW, mX⟩ := mU
  have mY := eg.z bJ
  obtain ⟨mZ, m0, rfl, m1⟩ := Semtypebase_Source.cells_iff.1 mW
  obtain ⟨bK, bL, rfl, m2⟩ := RpV.list mV
  refine r_fieldAddr aT 0 6 6 rfl rfl fo27_6 rfl ?_
  refine r_store (dB.mod bJ (beq_false (by omega))) 6 (.slice bK ag.1.length bL) [.slice bK ag.1.length bL] [.int .i64 aa.Kind, .int .i64 aa.Int_, .string aa.Text, .slice aH aa.Kids.length aI, .slice aJ aa.Keys.length aK, .slice aL aa.Entries.length aM, .slice bK ag.1.length bL] rfl rfl rfl rfl rfl sz25 rfl rfl rfl ?_
  intro vW a7 m3
  have dc := mY.y a7
  refine j0 (j1 (j2 ?_))
  obtain ⟨a8, m4, hf⟩ := bind_some hf
  obtain ⟨al, m5, hf⟩ := bind_some hf
  refine wp_draw (B := frP s0.N B0 id0) [some 60, some 61, some 62, some 63, some 64, some 65, none] [[], [], [1], [0, 1, 2], [], [0, 1, 2, 3, 4], [0, 1, 2, 3, 4, 5]] [Fct.eqv (.pointer (some ⟨b0, 0, none⟩)), Fct.eqv (.int .i64 a1), Fct.eqv (.int .i64 (w64 (a1 - 1))), Fct.data (a8.1 : Val), Fct.data ((Val.mk aa.Kind aa.Int_ aa.Text aa.Kids aa.Keys aa.Entries ag.1) : Val), Fct.data (al : Val), Fct.any] (fun D F τ => (D 3 = false → Blk B0 id0 τ b0 53 [.slice mZ ag.2.L.length m0, .int .i64 ag.2.At]) ∧ (D 3 = true → (∃ (zA0 : Option Addr) (zc0 : Nat), Blk B0 id0 τ b0 53 [.slice zA0 a8.2.L.length zc0, .int .i64 a8.2.At] ∧ Sl τ a8.2.L zA0 zc0)) ∧ (D 6 = false → Blk s0.N 1 τ b4 27 [.int .i64 0, .int .i64 0, .string (⟨#[]⟩), nl Val, nl Key, nl Ent, nl ByteArray]) ∧ (D 6 = true → (∃ (zA3 : Option Addr) (zc3 : Nat) (zA4 : Option Addr) (zc4 : Nat) (zA5 : Option Addr) (zc5 : Nat) (zA6 : Option Addr) (zc6 : Nat), Blk s0.N 1 τ b4 27 (Val.cs al zA3 zc3 zA4 zc4 zA5 zc5 zA6 zc6) ∧ Sl τ al.Kids zA3 zc3 ∧ Sl τ al.Keys zA4 zc4 ∧ Sl τ al.Entries zA5 zc5 ∧ Sl τ al.Labels zA6 zc6)) ∧ (Blk s0.N 4 τ aT 27 [.int .i64 aa.Kind, .int .i64 aa.Int_, .string aa.Text, .slice aH aa.Kids.length aI, .slice aJ aa.Keys.length aK, .slice aL aa.Entries.length aM, .slice bK ag.1.length bL])) (by kernel_rfl) rfl (by decide) (by decide) ⟨(fun _ => ((mX.mod a7 (beq_false (by omega))).ext (ext_draw _))), (fun h => Bool.noConfusion h), (fun _ => (((((((hb7.mod aZ (beq_false (by omega))).ext a0).ext ah).mod ai rfl).mod bJ (beq_false (by omega))).mod a7 rfl).ext (ext_draw _))), (fun h => Bool.noConfusion h), (m3.ext (ext_draw _))⟩ (by decide) (by decide) ⟨?_, ?_, ?_, ?_, ?_, ?_, ?_, trivial⟩ ?_
  ·intro vX vY vZ v0 v1 eS v2 v3 m6 m7 v4
   obtain ⟨m8, v5, m9, v6, na⟩ := m6
   refine r_move (.pointer (some ⟨b0, 0, none⟩)) ((m7 0 rfl).trans rfl) rfl ?_
   exact d0 ⟨rfl, ⟨(fun y0 => (m8 y0)), (fun h => Bool.noConfusion ((eS 3 rfl).symm.trans h)), (fun y0 => (m9 y0)), (fun h => Bool.noConfusion ((eS 6 rfl).symm.trans h)), na⟩⟩
  ·intro v7 v8 v9 wa wb eT wc wd nb nc we
   obtain ⟨nd, wf, ne, wg, nf⟩ := nb
   refine r_move (.int .i64 a1) ((nc 1 rfl).trans rfl) rfl ?_
   exact d0 ⟨rfl, ⟨(fun y0 => (nd y0)), (fun h => Bool.noConfusion ((eT 3 rfl).symm.trans h)), (fun y0 => (ne y0)), (fun h => Bool.noConfusion ((eT 6 rfl).symm.trans h)), nf⟩⟩
  ·intro wh wi wj wk wl eU wm wn ng wo nh
   obtain ⟨ni, wp, nj, wq, nk⟩ := ng
   refine r_bin (.int .i64 a1) (.int .i64 1) (.int .i64 (w64 (a1 - 1))) (nh 1 rfl 61 rfl) rfl rfl rfl (b_sub) ?_
   exact d0 ⟨rfl, ⟨(fun y0 => (ni y0)), (fun h => Bool.noConfusion ((eU 3 rfl).symm.trans h)), (fun y0 => (nj y0)), (fun h => Bool.noConfusion ((eU 6 rfl).symm.trans h)), nk⟩⟩
  ·intro wr ws wt nm wu nn no np nq wv eV
   have nr := dc.trans no
   obtain ⟨ns, ww, nt, wx, nu⟩ := nq
   have nv := ns nm
   refine r_callE [.pointer (some ⟨b0, 0, none⟩), .int .i64 (w64 (a1 - 1))] (evs2 (eV 0 rfl 60 rfl) (eV 2 rfl 62 rfl)) rfl (hrec_semtypebase_Source_Value _ _ _ _ _ _ _ _ _ (Semtypebase_Source.cells_iff.2 ⟨_, _, rfl, ((m1.mono a7.wext).mono np)⟩) nv hid0 (RpV.mkInt _ _) m4) ?_
   intro wy wz dd nw
   obtain ⟨nx, wA, ny, nz⟩ := nw
   obtain ⟨nA, nB, rfl, nC⟩ := Semtypebase_Source.cells_iff.1 ny
   obtain ⟨wB, wC, wD, wE, wF, wG, wH, wI, rfl, nD, nE, nF, nG⟩ := Val.rpv nx
   refine j0 ?_
   exact ⟨_, _, rfl, rfl, (ExtP.refl _ _ _ _).modp nr.size dd, (Wext.refl _).trans dd.wext, (Val.rpvMk (v := a8.1) nD nE nF nG), ⟨(fun h => Bool.noConfusion h), (fun _ => ⟨nA, nB, nz, nC⟩), (fun y0 => ((nt y0).mod dd (beq_false (by omega)))), (fun h => Bool.noConfusion ((nn 6 rfl).symm.trans h)), (nu.mod dd (beq_false (by omega)))⟩⟩
  ·intro wJ wK wL wM wN nH wO de nI nJ wP
   obtain ⟨nK, nL, nM, wQ, eW⟩ := nI
   have nN := eW
   refine r_load aT 0 (.agg #[.int .i64 aa.Kind, .int .i64 aa.Int_, .string aa.Text, .slice aH aa.Kids.length aI, .slice aJ aa.Keys.length aK, .slice aL aa.Entries.length aM, .slice bK ag.1.length bL]) ((nJ 7 rfl).trans rfl) rfl (loads_row tr27 (Blk.range nN 0 [.int .i64 aa.Kind, .int .i64 aa.Int_, .string aa.Text, .slice aH aa.Kids.length aI, .slice aJ aa.Keys.length aK, .slice aL aa.Entries.length aM, .slice bK ag.1.length bL] rfl)) ?_
   exact d0 ⟨(Val.rpvMk (v := (Val.mk aa.Kind aa.Int_ aa.Text aa.Kids aa.Keys aa.Entries ag.1)) (((((ed.mono ah.wext).mono ai.wext).mono bJ.wext).mono a7.wext).mono de) (((((ee.mono ah.wext).mono ai.wext).mono bJ.wext).mono a7.wext).mono de) (((((ef.mono ah.wext).mono ai.wext).mono bJ.wext).mono a7.wext).mono de) ((m2.mono a7.wext).mono de)), ⟨(fun y0 => (nK y0)), (fun y0 => (let ⟨zA0, zc0, zb, zf0⟩ := (nL y0); ⟨zA0, zc0, zb, zf0⟩)), (fun y0 => (nM y0)), (fun h => Bool.noConfusion ((nH 6 rfl).symm.trans h)), eW⟩⟩
  ·intro wR eX eY wS nO nP nQ wT nR wU eZ
   have nS := dc.trans nQ
   obtain ⟨wV, nT, nU, wW, nV⟩ := nR
   have nW : RpV eY (a8.1 : Val) (eX 63) := eZ 3 rfl 63 rfl
   obtain ⟨nX, nY, nZ, n0, n1, n2, n3, n4, n5, n6, n7, n8, n9⟩ := Val.rpv nW
   have oa : RpV eY ((Val.mk aa.Kind aa.Int_ aa.Text aa.Kids aa.Keys aa.Entries ag.1) : Val) (eX 64) := eZ 4 rfl 64 rfl
   obtain ⟨ob, oc, od, oe, og, oh, oi, oj, ol, om, on, oo, op⟩ := Val.rpv oa
   refine r_call [Val.ag a8.1 nX nY nZ n0 n1 n2 n3 n4, .agg #[.int .i64 aa.Kind, .int .i64 aa.Int_, .string aa.Text, .slice ob ((Val.mk aa.Kind aa.Int_ aa.Text aa.Kids aa.Keys aa.Entries ag.1).Kids).length oc, .slice od ((Val.mk aa.Kind aa.Int_ aa.Text aa.Kids aa.Keys aa.Entries ag.1).Keys).length oe, .slice og ((Val.mk aa.Kind aa.Int_ aa.Text aa.Kids aa.Keys aa.Entries ag.1).Entries).length oh, .slice oi ((Val.mk aa.Kind aa.Int_ aa.Text aa.Kids aa.Keys aa.Entries ag.1).Labels).length oj]] (evs2 n5 ol) rfl (ok_semtyperef1_Cons _ _ _ _ _ _ (Val.rpvMk (v := a8.1) n6 n7 n8 n9) (Val.rpvMk (v := (Val.mk aa.Kind aa.Int_ aa.Text aa.Kids aa.Keys aa.Entries ag.1)) om on oo op) m5) ?_
   intro wX wY bM oq
   obtain ⟨wZ, w0, w1, w2, w3, w4, w5, w6, rfl, ot, ou, ov, ow⟩ := Val.rpv oq
   refine j0 ?_
   exact ⟨_, _, rfl, rfl, (ExtP.refl _ _ _ _).ext nS.size bM, (Wext.refl _).trans bM.wext, (Val.rpvMk (v := al) ot ou ov ow), ⟨(fun h => Bool.noConfusion ((nO 3 rfl).symm.trans h)), (fun y0 => (let ⟨zA0, zc0, zb, zf0⟩ := (nT y0); ⟨zA0, zc0, (zb.ext bM), (zf0.mono bM.wext)⟩)), (fun y0 => ((nU y0).ext bM)), (fun h => Bool.noConfusion ((nP 6 rfl).symm.trans h)), (nV.ext bM)⟩⟩
  ·intro w7 ox oy oz oA w8 oB w9 oC oD oE
   have oF := dc.trans oB
   obtain ⟨xa, oG, oH, xb, oI⟩ := oC
   have oJ := oH oz
   have oK : RpV oy (al : Val) (ox 65) := oE 5 rfl 65 rfl
   obtain ⟨df, dg, dh, di, dj, dk, dl, dm, oL, oM, oN, oO, oP⟩ := Val.rpv oK
   refine r_store oJ 0 (Val.ag al df dg dh di dj dk dl dm) (Val.cs al df dg dh di dj dk dl dm) (Val.cs al df dg dh di dj dk dl dm) ((oD 4 rfl).trans rfl) oL rfl rfl rfl sz27 rfl rfl rfl ?_
   intro xc aY oQ
   refine j0 ?_
   exact ⟨_, _, rfl, rfl, (ExtP.refl _ _ _ _).mod oF.size aY, (Wext.refl _).trans aY.wext, trivial, ⟨(fun h => Bool.noConfusion ((oA 3 rfl).symm.trans h)), (fun y0 => (let ⟨zA0, zc0, zb, zf0⟩ := (oG y0); ⟨zA0, zc0, (zb.mod aY (beq_false (by omega))), (zf0.mono aY.wext)⟩)), (fun h => Bool.noConfusion h), (fun _ => ⟨df, dg, dh, di, dj, dk, dl, dm, oQ, (oM.mono aY.wext), (oN.mono aY.wext), (oO.mono aY.wext), (oP.mono aY.wext)⟩), (oI.mod aY rfl)⟩⟩
  intro oR xd oS xe oT oU xf
  have oV := dc.trans oS
  obtain ⟨xg, oW, xh, oX, xi⟩ := oT
  obtain ⟨xj, xk, oY, oZ⟩ := oW rfl
  obtain ⟨e0, e1, e2, e3, e4, e5, e6, e7, o0, o1, o2, o3, o4⟩ := oX rfl
  have o5 : oR 4 = (.pointer (some ⟨b4, 0, none⟩)) := (oU 4 rfl).trans rfl
  refine j1 (jb (j7 (j9 ?_)))
  obtain rfl := Option.some.inj hf
  refine ret_oneE (Val.ag al e0 e1 e2 e3 e4 e5 e6 e7) rfl ⟨rfl, _, o5, loads_row tr27 (Blk.range o0 0 (Val.cs al e0 e1 e2 e3 e4 e5 e6 e7) rfl)⟩ oV.mod_ ?_
  exact ⟨(Val.rpvMk (v := al) o1 o2 o3 o4), _, (Semtypebase_Source.cells_iff.2 ⟨_, _, rfl, oZ⟩), oY⟩
 refine c_false rfl dy rfl ?_
 refine j2 (j3 ?_)
 refine r_bin (.int .i64 aF.1) (.int .i64 3) (.bool (aF.1 == 3)) rfl rfl rfl rfl (b_eql) ?_
 refine r_assign (.bool (aF.1 == 3)) rfl rfl ?_
 refine j0 (j1 ?_)
 refine if_else hf (fun dH hf => ?_) (fun dH hf => ?_)
 ·refine c_true rfl dH rfl ?_
  refine j2 (j3 ?_)
  refine r_assign (nl Key) rfl rfl ?_
  refine j0 (j1 (j2 (j3 ?_)))
  refine r_assign (nl Val) rfl rfl ?_
  refine j0 (j1 (j2 (j2 (j3 ?_))))
  refine r_move (.pointer (some ⟨b0, 0, none⟩)) rfl rfl ?_
  obtain ⟨e8, o6, hf⟩ := bind_some hf
  refine r_callE [.pointer (some ⟨b0, 0, none⟩), .int .i64 3] (evs2 rfl rfl) rfl (ok_semtypebase_Source_Next _ _ _ _ _ _ _ _ _ (Semtypebase_Source.cells_iff.2 ⟨_, _, rfl, bx⟩) bw hid0 (RpV.mkInt _ _) o6) ?_
  intro xl e9 fa o7
  obtain ⟨o8, xm, o9, pa⟩ := o7
  have pb := b5.z fa
  obtain ⟨pc, pd, rfl, pe⟩ := Semtypebase_Source.cells_iff.1 o9
  obtain rfl := RpV.int o8
  refine r_assign (.int .i64 e8.1) rfl rfl ?_
  refine j0 (j1 (j4 ?_))
  refine gen_F fun a9 bN => ?_
  have fb : a9 0 = (.pointer (some ⟨b0, 0, none⟩)) := (bN 0).trans rfl
  have pf : a9 1 = (.int .i64 a1) := (bN 1).trans rfl
  have pg : a9 4 = (.pointer (some ⟨b4, 0, none⟩)) := (bN 4).trans rfl
  have ph : a9 8 = (nl Key) := (bN 8).trans rfl
  have pi : a9 9 = (nl Val) := (bN 9).trans rfl
  have pj : a9 10 = (.int .i64 e8.1) := (bN 10).trans rfl
  obtain ⟨dn, pk, hf⟩ := bind_some hf
  refine wp_mono (wp_iter (step := semtypebase_Source_value_l2 rec_semtypebase_Source_Value a1) (fun q a w => ∃ (F : Fr) (τ : S) (A1 : Option Addr) (c1 : Nat) (A2 : Option Addr) (c2 : Nat) (A3 : Option Addr) (c3 : Nat), a = fr 124 F ∧ w = τ.w ∧ Agr [8, 9, 10, 70, 71, 72, 73, 74, 75, 76, 77, 78, 79, 80, 81, 82, 83, 84, 85] F a9 ∧ ExtP s0.N B0 id0 s0 τ ∧ Wext e9 τ ∧ F 8 = (.slice A1 q.1.length c1) ∧ Own s0.N 5 60 τ q.1 A1 c1 ∧ F 9 = (.slice A2 q.2.1.length c2) ∧ Own s0.N 6 27 τ q.2.1 A2 c2 ∧ F 10 = (.int .i64 q.2.2.1) ∧ Blk B0 id0 τ b0 53 [.slice A3 q.2.2.2.1.length c3, .int .i64 q.2.2.2.2] ∧ Sl τ q.2.2.2.1 A3 c3 ∧ Blk s0.N 1 τ b4 27 [.int .i64 0, .int .i64 0, .string (⟨#[]⟩), nl Val, nl Key, nl Ent, nl ByteArray]) (fun q e a w => e = .exit 3 ∧ ∃ (F : Fr) (τ : S) (A1 : Option Addr) (c1 : Nat) (A2 : Option Addr) (c2 : Nat) (A3 : Option Addr) (c3 : Nat), a = fr 124 F ∧ w = τ.w ∧ Agr [8, 9, 10, 70, 71, 72, 73, 74, 75, 76, 77, 78, 79, 80, 81, 82, 83, 84, 85] F a9 ∧ ExtP s0.N B0 id0 s0 τ ∧ Wext e9 τ ∧ F 8 = (.slice A1 q.1.length c1) ∧ Own s0.N 5 60 τ q.1 A1 c1 ∧ F 9 = (.slice A2 q.2.1.length c2) ∧ Own s0.N 6 27 τ q.2.1 A2 c2 ∧ F 10 = (.int .i64 q.2.2.1) ∧ Blk B0 id0 τ b0 53 [.slice A3 q.2.2.2.1.length c3, .int .i64 q.2.2.2.2] ∧ Sl τ q.2.2.2.1 A3 c3 ∧ Blk s0.N 1 τ b4 27 [.int .i64 0, .int .i64 0, .string (⟨#[]⟩), nl Val, nl Key, nl Ent, nl ByteArray]) (by rintro _ a w ⟨h, _⟩; cases h) ?_ _ _ _ _ _ pk ?_) ?_
  ·intro aE fl a w hf hI
   obtain ⟨xn, xo, fc, fd, fe, ff, pl, pm, rfl, rfl, dp, fg, fh, fj, fk, fm, fn, dI, fo, fp, fq⟩ := hI
   unfold semtypebase_Source_value_l2 at hf
   have fs := (dp 0 rfl).trans fb
   have pn := (dp 1 rfl).trans pf
   refine j2 (j2 (j3 ?_))
   refine r_move (.int .i64 aE.2.2.1) dI rfl ?_
   refine r_bin (.int .i64 aE.2.2.1) (.int .i64 0) (.bool (decide (0 < aE.2.2.1))) rfl rfl rfl rfl (b_gtr) ?_
   refine j0 (j1 ?_)
   refine if_else hf (fun dJ hf => ?_) (fun dJ hf => ?_)
   ·refine c_true rfl dJ rfl ?_
    refine ja (j1 (j2 (j4 (j2 (j3 ?_)))))
    refine r_move (.slice fc aE.1.length fd) fj rfl ?_
    refine r_move (.pointer (some ⟨b0, 0, none⟩)) fs rfl ?_
    obtain ⟨dq, po, hf⟩ := bind_some hf
    refine r_callE [.pointer (some ⟨b0, 0, none⟩)] (evs1 rfl) rfl (ok_semtypebase_Source_Key _ _ _ _ _ _ _ (Semtypebase_Source.cells_iff.2 ⟨_, _, rfl, fp⟩) fo hid0  po) ?_
    intro xp xq ch pp
    obtain ⟨pq, xr, pr, ps⟩ := pp
    have ft := fg.z ch
    obtain ⟨xt, xu, rfl, pt⟩ := Semtypebase_Source.cells_iff.1 pr
    obtain rfl := Key.rpv pq
    refine r_buildSlice (B := s0.N) (E := 60) 7 ft.size ts23 (xs := [dq.1]) [Key.ag dq.1] (eps_cons rfl eps_nil) rfl rfl rfl (by decide) rfl (by simp [Value.cells, Rp.sz]) ⟨_, _, rfl, (Key.cells_iff.2 rfl), rfl⟩ ?_
    intro xv xw xx bl pu
    have fu := ft.x bl
    obtain ⟨xy, pv, hf⟩ := bind_some hf
    refine r_append (B := s0.N) (id := 5) (E := 60) (xs := aE.1) (ys := [dq.1]) fu.size (((fk.mod ch (beq_false (by omega))).ext bl)) pu.sl ts23 (room_some pv) rfl rfl rfl rfl ?_
    intro xz fv fw bO pw
    have px := fu.y bO
    refine r_assign (.slice fv (aE.1 ++ [dq.1]).length fw) rfl rfl ?_
    refine j0 (j1 (j3 ?_))
    refine r_move (.slice fe aE.2.1.length ff) fm rfl ?_
    refine r_move (.pointer (some ⟨b0, 0, none⟩)) fs rfl ?_
    refine r_move (.int .i64 a1) pn rfl ?_
    refine r_bin (.int .i64 a1) (.int .i64 1) (.int .i64 (w64 (a1 - 1))) rfl rfl rfl rfl (b_sub) ?_
    obtain ⟨dr, py, hf⟩ := bind_some hf
    refine r_callE [.pointer (some ⟨b0, 0, none⟩), .int .i64 (w64 (a1 - 1))] (evs2 rfl rfl) rfl (hrec_semtypebase_Source_Value _ _ _ _ _ _ _ _ _ (Semtypebase_Source.cells_iff.2 ⟨_, _, rfl, ((pt.mono bl.wext).mono bO.wext)⟩) ((ps.ext bl).mod bO (beq_false (by omega))) hid0 (RpV.mkInt _ _) py) ?_
    intro xA xB ci pz
    obtain ⟨pA, xC, pB, pC⟩ := pz
    have fx := px.z ci
    obtain ⟨pD, pE, rfl, pF⟩ := Semtypebase_Source.cells_iff.1 pB
    obtain ⟨pG, pH, pI, pJ, pK, pL, pM, pN, rfl, pO, pP, pQ, pR⟩ := Val.rpv pA
    refine r_buildSlice (B := s0.N) (E := 27) 8 fx.size ts22 (xs := [dr.1]) [Val.ag dr.1 pG pH pI pJ pK pL pM pN] (eps_cons rfl eps_nil) rfl rfl rfl (by decide) rfl (by simp [Value.cells, Rp.sz]) ⟨_, _, rfl, (Val.cells_iff.2 ⟨_, _, _, _, _, _, _, _, rfl, pO, pP, pQ, pR⟩), rfl⟩ ?_
    intro xD xE xF bm pS
    have fy := fx.x bm
    obtain ⟨xG, pT, hf⟩ := bind_some hf
    refine r_append (B := s0.N) (id := 6) (E := 27) (xs := aE.2.1) (ys := [dr.1]) fy.size ((((((fn.mod ch (beq_false (by omega))).ext bl).mod bO rfl).mod ci (beq_false (by omega))).ext bm)) pS.sl ts22 (room_some pT) rfl rfl rfl rfl ?_
    intro xH fz fA bP pU
    have pV := fy.y bP
    refine r_assign (.slice fz (aE.2.1 ++ [dr.1]).length fA) rfl rfl ?_
    refine j0 (j5 (j1 (j3 ?_)))
    refine r_move (.int .i64 aE.2.2.1) dI rfl ?_
    refine r_bin (.int .i64 aE.2.2.1) (.int .i64 1) (.int .i64 (w64 (aE.2.2.1 - 1))) rfl rfl rfl rfl (b_sub) ?_
    refine r_assign (.int .i64 (w64 (aE.2.2.1 - 1))) rfl rfl ?_
    refine j0 ?_
    obtain rfl := Option.some.inj hf
    exact ⟨rfl, _, _, fv, fw, fz, fA, pD, pE, rfl, rfl, ((((((((((((((((((((dp).put rfl).put rfl).put rfl).put rfl).put rfl).put rfl).put rfl).put rfl).put rfl).put rfl).put rfl).put rfl).put rfl).put rfl).put rfl).put rfl).put rfl).put rfl).put rfl), pV, ((((((((Wext.refl _).trans fh).trans ch.wext).trans bl.wext).trans bO.wext).trans ci.wext).trans bm.wext).trans bP.wext), rfl, ((((pw.mod ci (beq_false (by omega))).ext bm).mod bP rfl)), rfl, (pU), rfl, ((pC.ext bm).mod bP (beq_false (by omega))), ((pF.mono bm.wext).mono bP.wext), ((((((fq.mod ch (beq_false (by omega))).ext bl).mod bO rfl).mod ci (beq_false (by omega))).ext bm).mod bP rfl)⟩
   refine c_false rfl dJ rfl ?_
   refine jc (j8 ?_)
   obtain rfl := Option.some.inj hf
   exact ⟨rfl, _, _, fc, fd, fe, ff, pl, pm, rfl, rfl, (((dp).put rfl).put rfl), fg, ((Wext.refl _).trans fh), fj, (fk), fm, (fn), dI, fo, fp, fq⟩
  ·exact ⟨_, _, none, 0, none, 0, pc, pd, rfl, rfl, (Agr.refl _ _), pb, (Wext.refl _), ph, (Own.nil_ _), pi, (Own.nil_ _), pj, pa, pe, ((hb7.mod aZ (beq_false (by omega))).mod fa (beq_false (by omega)))⟩
  rintro e a w ⟨rfl, xI, xJ, fB, fC, fD, fE, xK, xL, rfl, rfl, fF, pW, xM, pX, pY, pZ, p0, xN, fG, fH, fI⟩
  have p1 := (fF 0 rfl).trans fb
  have ds := (fF 4 rfl).trans pg
  refine j6 (j1 (j2 (j3 ?_)))
  refine r_move (.slice fB dn.1.length fC) pX rfl ?_
  refine r_move (.slice fD dn.2.1.length fE) pZ rfl ?_
  obtain ⟨ac, p2, hf⟩ := bind_some hf
  refine r_call [.slice fB dn.1.length fC, .slice fD dn.2.1.length fE] (evs2 rfl rfl) rfl (ok_semtyperef1_Map _ _ _ _ _ _ (RpV.mkList pY.sl) (RpV.mkList p0.sl) p2) ?_
  intro xO xP bn p3
  have fJ := pW.x bn
  obtain ⟨xQ, xR, rfl, p4, p5⟩ := p3
  obtain ⟨am, an, ao, ap, aq, ar, au, av, rfl, p6, p7, p8, p9⟩ := Val.rpv p4
  obtain rfl := RpV.int p5
  refine r_move (.tuple #[Val.ag ac.1 am an ao ap aq ar au av, .int .i64 ac.2]) rfl rfl ?_
  refine r_extract [Val.ag ac.1 am an ao ap aq ar au av, .int .i64 ac.2] (Val.ag ac.1 am an ao ap aq ar au av) rfl rfl rfl ?_
  refine r_extract [Val.ag ac.1 am an ao ap aq ar au av, .int .i64 ac.2] (.int .i64 ac.2) rfl rfl rfl ?_
  refine r_alloc (B := s0.N) 9 fJ.size _ [.int .i64 0, .int .i64 0, .string (⟨#[]⟩), nl Val, nl Key, nl Ent, nl ByteArray] ti27 rfl ?_
  intro xS qa aN qb
  have qc := fJ.x aN
  refine r_store qb 0 (Val.ag ac.1 am an ao ap aq ar au av) (Val.cs ac.1 am an ao ap aq ar au av) (Val.cs ac.1 am an ao ap aq ar au av) rfl rfl rfl rfl rfl sz27 rfl rfl rfl ?_
  intro xT aO qd
  have fK := qc.y aO
  refine r_assign (.int .i64 ac.2) rfl rfl ?_
  refine j0 (j1 (j2 (j3 ?_)))
  refine r_move (.int .i64 ac.2) rfl rfl ?_
  refine r_bin (.int .i64 ac.2) (.int .i64 0) (.bool (ac.2 == 0)) rfl rfl rfl rfl (b_eql) ?_
  refine j0 (j1 ?_)
  refine if_else hf (fun dK hf => ?_) (fun dK hf => ?_)
  ·refine c_true rfl dK rfl ?_
   refine j2 (j3 ?_)
   refine r_load qa 0 (Val.ag ac.1 am an ao ap aq ar au av) rfl rfl (loads_row tr27 (Blk.range qd 0 (Val.cs ac.1 am an ao ap aq ar au av) rfl)) ?_
   refine r_store (((fI.ext bn).ext aN).mod aO rfl) 0 (Val.ag ac.1 am an ao ap aq ar au av) (Val.cs ac.1 am an ao ap aq ar au av) (Val.cs ac.1 am an ao ap aq ar au av) ds rfl rfl rfl rfl sz27 rfl rfl rfl ?_
   intro xU bo qe
   have qf := fK.y bo
   refine j0 (j1 (jb (j7 (j9 ?_))))
   obtain rfl := Option.some.inj hf
   refine ret_oneE (Val.ag ac.1 am an ao ap aq ar au av) rfl ⟨rfl, _, ds, loads_row tr27 (Blk.range qe 0 (Val.cs ac.1 am an ao ap aq ar au av) rfl)⟩ qf.mod_ ?_
   exact ⟨(Val.rpvMk (v := ac.1) (((p6.mono aN.wext).mono aO.wext).mono bo.wext) (((p7.mono aN.wext).mono aO.wext).mono bo.wext) (((p8.mono aN.wext).mono aO.wext).mono bo.wext) (((p9.mono aN.wext).mono aO.wext).mono bo.wext)), _, (Semtypebase_Source.cells_iff.2 ⟨_, _, rfl, ((((fH.mono bn.wext).mono aN.wext).mono aO.wext).mono bo.wext)⟩), ((((fG.ext bn).ext aN).mod aO (beq_false (by omega))).mod bo (beq_false (by omega)))⟩
  refine c_false rfl dK rfl ?_
  refine ja (j5 (j1 (j2 (j3 ?_))))
  refine r_move (.pointer (some ⟨b0, 0, none⟩)) p1 rfl ?_
  obtain ⟨bQ, qg, hf⟩ := bind_some hf
  refine r_callE [.pointer (some ⟨b0, 0, none⟩)] (evs1 rfl) rfl (ok_semtypebase_Source_leaf _ _ _ _ _ _ _ (Semtypebase_Source.cells_iff.2 ⟨_, _, rfl, (((fH.mono bn.wext).mono aN.wext).mono aO.wext)⟩) (((fG.ext bn).ext aN).mod aO (beq_false (by omega))) hid0  qg) ?_
  intro xV xW fL qh
  obtain ⟨qi, xX, qj, qk⟩ := qh
  have ql := fK.z fL
  obtain ⟨xY, xZ, rfl, qm⟩ := Semtypebase_Source.cells_iff.1 qj
  obtain ⟨cj, ck, cl, cm, cn, co, cp, cq, rfl, qn, qo, qp, qq⟩ := Val.rpv qi
  refine r_store ((((fI.ext bn).ext aN).mod aO rfl).mod fL (beq_false (by omega))) 0 (Val.ag bQ.1 cj ck cl cm cn co cp cq) (Val.cs bQ.1 cj ck cl cm cn co cp cq) (Val.cs bQ.1 cj ck cl cm cn co cp cq) ds rfl rfl rfl rfl sz27 rfl rfl rfl ?_
  intro x0 bp qr
  have qs := ql.y bp
  refine j0 (j1 (jb ?_))
  obtain rfl := Option.some.inj hf
  refine ret_oneE (Val.ag bQ.1 cj ck cl cm cn co cp cq) rfl ⟨rfl, _, ds, loads_row tr27 (Blk.range qr 0 (Val.cs bQ.1 cj ck cl cm cn co cp cq) rfl)⟩ qs.mod_ ?_
  exact ⟨(Val.rpvMk (v := bQ.1) (qn.mono bp.wext) (qo.mono bp.wext) (qp.mono bp.wext) (qq.mono bp.wext)), _, (Semtypebase_Source.cells_iff.2 ⟨_, _, rfl, (qm.mono bp.wext)⟩), (qk.mod bp (beq_false (by omega)))⟩
 refine c_false rfl dH rfl ?_
 refine j2 (j3 ?_)
 refine r_bin (.int .i64 aF.1) (.int .i64 4) (.bool (aF.1 == 4)) rfl rfl rfl rfl (b_eql) ?_
 refine r_assign (.bool (aF.1 == 4)) rfl rfl ?_
 refine j0 (j1 ?_)
 refine if_else hf (fun dL hf => ?_) (fun dL hf => ?_)
 ·refine c_true rfl dL rfl ?_
  refine j2 (j3 ?_)
  refine r_move (.pointer (some ⟨b0, 0, none⟩)) rfl rfl ?_
  obtain ⟨bq, qt, hf⟩ := bind_some hf
  refine r_callE [.pointer (some ⟨b0, 0, none⟩), .int .i64 3] (evs2 rfl rfl) rfl (ok_semtypebase_Source_Next _ _ _ _ _ _ _ _ _ (Semtypebase_Source.cells_iff.2 ⟨_, _, rfl, bx⟩) bw hid0 (RpV.mkInt _ _) qt) ?_
  intro x1 x2 fM qu
  obtain ⟨qv, x3, qw, qx⟩ := qu
  have qy := b5.z fM
  obtain ⟨x4, x5, rfl, qz⟩ := Semtypebase_Source.cells_iff.1 qw
  obtain rfl := RpV.int qv
  refine r_assign (.int .i64 bq.1) rfl rfl ?_
  refine j0 (j1 (j2 (j3 ?_)))
  refine r_assign (nl Ent) rfl rfl ?_
  refine j0 (j1 (j2 (j2 (j3 ?_))))
  refine r_move (.pointer (some ⟨b0, 0, none⟩)) rfl rfl ?_
  obtain ⟨fN, qA, hf⟩ := bind_some hf
  refine r_callE [.pointer (some ⟨b0, 0, none⟩), .int .i64 3] (evs2 rfl rfl) rfl (ok_semtypebase_Source_Next _ _ _ _ _ _ _ _ _ (Semtypebase_Source.cells_iff.2 ⟨_, _, rfl, qz⟩) qx hid0 (RpV.mkInt _ _) qA) ?_
  intro x6 fO fP qB
  obtain ⟨qC, x7, qD, qE⟩ := qB
  have qF := qy.z fP
  obtain ⟨qG, qH, rfl, qI⟩ := Semtypebase_Source.cells_iff.1 qD
  obtain rfl := RpV.int qC
  refine r_assign (.int .i64 fN.1) rfl rfl ?_
  refine j0 (j1 (j4 ?_))
  refine gen_F fun ba bR => ?_
  have fQ : ba 0 = (.pointer (some ⟨b0, 0, none⟩)) := (bR 0).trans rfl
  have qJ : ba 1 = (.int .i64 a1) := (bR 1).trans rfl
  have qK : ba 4 = (.pointer (some ⟨b4, 0, none⟩)) := (bR 4).trans rfl
  have fR : ba 13 = (.int .i64 bq.1) := (bR 13).trans rfl
  have qL : ba 14 = (nl Ent) := (bR 14).trans rfl
  have qM : ba 15 = (.int .i64 fN.1) := (bR 15).trans rfl
  obtain ⟨fS, qN, hf⟩ := bind_some hf
  refine wp_mono (wp_iter (step := semtypebase_Source_value_l3 rec_semtypebase_Source_entry a1 bq) (fun q a w => ∃ (F : Fr) (τ : S) (A1 : Option Addr) (c1 : Nat) (A2 : Option Addr) (c2 : Nat), a = fr 124 F ∧ w = τ.w ∧ Agr [14, 15, 101, 102, 103, 104, 105, 106, 107, 108, 109, 110, 111, 112] F ba ∧ ExtP s0.N B0 id0 s0 τ ∧ Wext fO τ ∧ F 14 = (.slice A1 q.1.length c1) ∧ Own s0.N 10 65 τ q.1 A1 c1 ∧ F 15 = (.int .i64 q.2.1) ∧ Blk B0 id0 τ b0 53 [.slice A2 q.2.2.1.length c2, .int .i64 q.2.2.2] ∧ Sl τ q.2.2.1 A2 c2 ∧ Blk s0.N 1 τ b4 27 [.int .i64 0, .int .i64 0, .string (⟨#[]⟩), nl Val, nl Key, nl Ent, nl ByteArray]) (fun q e a w => e = .exit 5 ∧ ∃ (F : Fr) (τ : S) (A1 : Option Addr) (c1 : Nat) (A2 : Option Addr) (c2 : Nat), a = fr 124 F ∧ w = τ.w ∧ Agr [14, 15, 101, 102, 103, 104, 105, 106, 107, 108, 109, 110, 111, 112] F ba ∧ ExtP s0.N B0 id0 s0 τ ∧ Wext fO τ ∧ F 14 = (.slice A1 q.1.length c1) ∧ Own s0.N 10 65 τ q.1 A1 c1 ∧ F 15 = (.int .i64 q.2.1) ∧ Blk B0 id0 τ b0 53 [.slice A2 q.2.2.1.length c2, .int .i64 q.2.2.2] ∧ Sl τ q.2.2.1 A2 c2 ∧ Blk s0.N 1 τ b4 27 [.int .i64 0, .int .i64 0, .string (⟨#[]⟩), nl Val, nl Key, nl Ent, nl ByteArray]) (by rintro _ a w ⟨h, _⟩; cases h) ?_ _ _ _ _ _ qN ?_) ?_
  ·intro aS fl a w hf hI
   obtain ⟨x8, x9, fT, fU, qO, qP, rfl, rfl, cr, fV, fW, fX, fY, dM, fZ, f0, f1⟩ := hI
   unfold semtypebase_Source_value_l3 at hf
   have qQ := (cr 0 rfl).trans fQ
   have qR := (cr 1 rfl).trans qJ
   have qS := (cr 13 rfl).trans fR
   refine j2 (j2 (j3 ?_))
   refine r_move (.int .i64 aS.2.1) dM rfl ?_
   refine r_bin (.int .i64 aS.2.1) (.int .i64 0) (.bool (decide (0 < aS.2.1))) rfl rfl rfl rfl (b_gtr) ?_
   refine j0 (j1 ?_)
   refine if_else hf (fun dN hf => ?_) (fun dN hf => ?_)
   ·refine c_true rfl dN rfl ?_
    refine ja (j1 (j2 (j4 (j3 ?_))))
    refine r_move (.slice fT aS.1.length fU) fX rfl ?_
    refine r_move (.pointer (some ⟨b0, 0, none⟩)) qQ rfl ?_
    refine r_move (.int .i64 bq.1) qS rfl ?_
    refine r_move (.int .i64 a1) qR rfl ?_
    refine r_bin (.int .i64 a1) (.int .i64 1) (.int .i64 (w64 (a1 - 1))) rfl rfl rfl rfl (b_sub) ?_
    obtain ⟨aG, qT, hf⟩ := bind_some hf
    refine r_callE [.pointer (some ⟨b0, 0, none⟩), .int .i64 bq.1, .int .i64 (w64 (a1 - 1))] (evs3 rfl rfl rfl) rfl (hrec_semtypebase_Source_entry _ _ _ _ _ _ _ _ _ _ _ (Semtypebase_Source.cells_iff.2 ⟨_, _, rfl, f0⟩) fZ hid0 (RpV.mkInt _ _) (RpV.mkInt _ _) qT) ?_
    intro ya yb dt qU
    obtain ⟨qV, yc, qW, qX⟩ := qU
    have f2 := fV.z dt
    obtain ⟨qY, qZ, rfl, q0⟩ := Semtypebase_Source.cells_iff.1 qW
    obtain ⟨q1, q2, q3, q4, q5, q6, q7, q8, q9, ra, rfl, rb, rc, rd, re, rf⟩ := Ent.rpv qV
    refine r_buildSlice (B := s0.N) (E := 65) 11 f2.size ts24 (xs := [aG.1]) [.agg #[.slice q1 aG.1.Args.length q2, .bool aG.1.Fails, .int .i64 aG.1.Result.Kind, .int .i64 aG.1.Result.Int_, .string aG.1.Result.Text, .slice q3 aG.1.Result.Kids.length q4, .slice q5 aG.1.Result.Keys.length q6, .slice q7 aG.1.Result.Entries.length q8, .slice q9 aG.1.Result.Labels.length ra]] (eps_cons rfl eps_nil) rfl rfl rfl (by decide) rfl (by simp [Value.cells, Rp.sz]) ⟨_, _, rfl, (Ent.cells_iff.2 ⟨_, _, _, _, _, _, _, _, _, _, rfl, rb, rc, rd, re, rf⟩), rfl⟩ ?_
    intro yd ye yf bS rg
    have f3 := f2.x bS
    obtain ⟨yg, rh, hf⟩ := bind_some hf
    refine r_append (B := s0.N) (id := 10) (E := 65) (xs := aS.1) (ys := [aG.1]) f3.size (((fY.mod dt (beq_false (by omega))).ext bS)) rg.sl ts24 (room_some rh) rfl rfl rfl rfl ?_
    intro yh f4 f5 cs ri
    have rj := f3.y cs
    refine r_assign (.slice f4 (aS.1 ++ [aG.1]).length f5) rfl rfl ?_
    refine j0 (j5 (j1 (j3 ?_)))
    refine r_move (.int .i64 aS.2.1) dM rfl ?_
    refine r_bin (.int .i64 aS.2.1) (.int .i64 1) (.int .i64 (w64 (aS.2.1 - 1))) rfl rfl rfl rfl (b_sub) ?_
    refine r_assign (.int .i64 (w64 (aS.2.1 - 1))) rfl rfl ?_
    refine j0 ?_
    obtain rfl := Option.some.inj hf
    exact ⟨rfl, _, _, f4, f5, qY, qZ, rfl, rfl, (((((((((((((((cr).put rfl).put rfl).put rfl).put rfl).put rfl).put rfl).put rfl).put rfl).put rfl).put rfl).put rfl).put rfl).put rfl).put rfl), rj, (((((Wext.refl _).trans fW).trans dt.wext).trans bS.wext).trans cs.wext), rfl, (ri), rfl, ((qX.ext bS).mod cs (beq_false (by omega))), ((q0.mono bS.wext).mono cs.wext), (((f1.mod dt (beq_false (by omega))).ext bS).mod cs rfl)⟩
   refine c_false rfl dN rfl ?_
   refine jc (j8 ?_)
   obtain rfl := Option.some.inj hf
   exact ⟨rfl, _, _, fT, fU, qO, qP, rfl, rfl, (((cr).put rfl).put rfl), fV, ((Wext.refl _).trans fW), fX, (fY), dM, fZ, f0, f1⟩
  ·exact ⟨_, _, none, 0, qG, qH, rfl, rfl, (Agr.refl _ _), qF, (Wext.refl _), qL, (Own.nil_ _), qM, qE, qI, (((hb7.mod aZ (beq_false (by omega))).mod fM (beq_false (by omega))).mod fP (beq_false (by omega)))⟩
  rintro e a w ⟨rfl, yi, yj, f6, f7, yk, yl, rfl, rfl, dO, rk, ym, rl, rm, yn, f8, f9, ga⟩
  have rn := (dO 0 rfl).trans fQ
  have du := (dO 4 rfl).trans qK
  have ro := (dO 13 rfl).trans fR
  refine j6 (j1 (j2 (j3 ?_)))
  refine r_move (.int .i64 bq.1) ro rfl ?_
  refine r_move (.slice f6 fS.1.length f7) rl rfl ?_
  obtain ⟨ad, rq, hf⟩ := bind_some hf
  refine r_call [.int .i64 bq.1, .slice f6 fS.1.length f7] (evs2 rfl rfl) rfl ((ok_semtyperef1_Function fuel) _ _ _ _ _ _ (RpV.mkInt _ _) (RpV.mkList rm.sl) rq) ?_
  intro yo yp br rr
  have gb := rk.x br
  obtain ⟨yq, yr, rfl, rs, rt⟩ := rr
  obtain ⟨aw, ax, ay, az, aA, aB, aC, aD, rfl, ru, rv, rw, rx⟩ := Val.rpv rs
  obtain rfl := RpV.int rt
  refine r_move (.tuple #[Val.ag ad.1 aw ax ay az aA aB aC aD, .int .i64 ad.2]) rfl rfl ?_
  refine r_extract [Val.ag ad.1 aw ax ay az aA aB aC aD, .int .i64 ad.2] (Val.ag ad.1 aw ax ay az aA aB aC aD) rfl rfl rfl ?_
  refine r_extract [Val.ag ad.1 aw ax ay az aA aB aC aD, .int .i64 ad.2] (.int .i64 ad.2) rfl rfl rfl ?_
  refine r_alloc (B := s0.N) 12 gb.size _ [.int .i64 0, .int .i64 0, .string (⟨#[]⟩), nl Val, nl Key, nl Ent, nl ByteArray] ti27 rfl ?_
  intro yt ry aP rz
  have rA := gb.x aP
  refine r_store rz 0 (Val.ag ad.1 aw ax ay az aA aB aC aD) (Val.cs ad.1 aw ax ay az aA aB aC aD) (Val.cs ad.1 aw ax ay az aA aB aC aD) rfl rfl rfl rfl rfl sz27 rfl rfl rfl ?_
  intro yu aQ rB
  have gc := rA.y aQ
  refine r_assign (.int .i64 ad.2) rfl rfl ?_
  refine j0 (j1 (j2 (j3 ?_)))
  refine r_move (.int .i64 ad.2) rfl rfl ?_
  refine r_bin (.int .i64 ad.2) (.int .i64 0) (.bool (ad.2 == 0)) rfl rfl rfl rfl (b_eql) ?_
  refine j0 (j1 ?_)
  refine if_else hf (fun dP hf => ?_) (fun dP hf => ?_)
  ·refine c_true rfl dP rfl ?_
   refine j2 (j3 ?_)
   refine r_load ry 0 (Val.ag ad.1 aw ax ay az aA aB aC aD) rfl rfl (loads_row tr27 (Blk.range rB 0 (Val.cs ad.1 aw ax ay az aA aB aC aD) rfl)) ?_
   refine r_store (((ga.ext br).ext aP).mod aQ rfl) 0 (Val.ag ad.1 aw ax ay az aA aB aC aD) (Val.cs ad.1 aw ax ay az aA aB aC aD) (Val.cs ad.1 aw ax ay az aA aB aC aD) du rfl rfl rfl rfl sz27 rfl rfl rfl ?_
   intro yv bs rC
   have rD := gc.y bs
   refine j0 (j1 (jb (j7 (j9 ?_))))
   obtain rfl := Option.some.inj hf
   refine ret_oneE (Val.ag ad.1 aw ax ay az aA aB aC aD) rfl ⟨rfl, _, du, loads_row tr27 (Blk.range rC 0 (Val.cs ad.1 aw ax ay az aA aB aC aD) rfl)⟩ rD.mod_ ?_
   exact ⟨(Val.rpvMk (v := ad.1) (((ru.mono aP.wext).mono aQ.wext).mono bs.wext) (((rv.mono aP.wext).mono aQ.wext).mono bs.wext) (((rw.mono aP.wext).mono aQ.wext).mono bs.wext) (((rx.mono aP.wext).mono aQ.wext).mono bs.wext)), _, (Semtypebase_Source.cells_iff.2 ⟨_, _, rfl, ((((f9.mono br.wext).mono aP.wext).mono aQ.wext).mono bs.wext)⟩), ((((f8.ext br).ext aP).mod aQ (beq_false (by omega))).mod bs (beq_false (by omega)))⟩
  refine c_false rfl dP rfl ?_
  refine ja (j5 (j1 (j2 (j3 ?_))))
  refine r_move (.pointer (some ⟨b0, 0, none⟩)) rn rfl ?_
  obtain ⟨bT, rE, hf⟩ := bind_some hf
  refine r_callE [.pointer (some ⟨b0, 0, none⟩)] (evs1 rfl) rfl (ok_semtypebase_Source_leaf _ _ _ _ _ _ _ (Semtypebase_Source.cells_iff.2 ⟨_, _, rfl, (((f9.mono br.wext).mono aP.wext).mono aQ.wext)⟩) (((f8.ext br).ext aP).mod aQ (beq_false (by omega))) hid0  rE) ?_
  intro yw yx gd rF
  obtain ⟨rG, yy, rH, rI⟩ := rF
  have rJ := gc.z gd
  obtain ⟨yz, yA, rfl, rK⟩ := Semtypebase_Source.cells_iff.1 rH
  obtain ⟨ct, cu, cv, cw, cx, cy, cz, cA, rfl, rL, rM, rN, rO⟩ := Val.rpv rG
  refine r_store ((((ga.ext br).ext aP).mod aQ rfl).mod gd (beq_false (by omega))) 0 (Val.ag bT.1 ct cu cv cw cx cy cz cA) (Val.cs bT.1 ct cu cv cw cx cy cz cA) (Val.cs bT.1 ct cu cv cw cx cy cz cA) du rfl rfl rfl rfl sz27 rfl rfl rfl ?_
  intro yB bt rP
  have rQ := rJ.y bt
  refine j0 (j1 (jb ?_))
  obtain rfl := Option.some.inj hf
  refine ret_oneE (Val.ag bT.1 ct cu cv cw cx cy cz cA) rfl ⟨rfl, _, du, loads_row tr27 (Blk.range rP 0 (Val.cs bT.1 ct cu cv cw cx cy cz cA) rfl)⟩ rQ.mod_ ?_
  exact ⟨(Val.rpvMk (v := bT.1) (rL.mono bt.wext) (rM.mono bt.wext) (rN.mono bt.wext) (rO.mono bt.wext)), _, (Semtypebase_Source.cells_iff.2 ⟨_, _, rfl, (rK.mono bt.wext)⟩), (rI.mod bt (beq_false (by omega)))⟩
 refine c_false rfl dL rfl ?_
 refine ja (j5 (j1 (j2 (j3 ?_))))
 refine r_move (.pointer (some ⟨b0, 0, none⟩)) rfl rfl ?_
 obtain ⟨bU, rR, hf⟩ := bind_some hf
 refine r_callE [.pointer (some ⟨b0, 0, none⟩)] (evs1 rfl) rfl (ok_semtypebase_Source_leaf _ _ _ _ _ _ _ (Semtypebase_Source.cells_iff.2 ⟨_, _, rfl, bx⟩) bw hid0  rR) ?_
 intro yC yD ge rS
 obtain ⟨rT, yE, rU, rV⟩ := rS
 have rW := b5.z ge
 obtain ⟨yF, yG, rfl, rX⟩ := Semtypebase_Source.cells_iff.1 rU
 obtain ⟨cB, cC, cD, cE, cF, cG, cH, cI, rfl, rY, rZ, r0, r1⟩ := Val.rpv rT
 refine r_store ((hb7.mod aZ (beq_false (by omega))).mod ge (beq_false (by omega))) 0 (Val.ag bU.1 cB cC cD cE cF cG cH cI) (Val.cs bU.1 cB cC cD cE cF cG cH cI) (Val.cs bU.1 cB cC cD cE cF cG cH cI) rfl rfl rfl rfl rfl sz27 rfl rfl rfl ?_
 intro yH bu r2
 have r3 := rW.y bu
 refine j0 (j1 (jb ?_))
 obtain rfl := Option.some.inj hf
 refine ret_oneE (Val.ag bU.1 cB cC cD cE cF cG cH cI) rfl ⟨rfl, _, rfl, loads_row tr27 (Blk.range r2 0 (Val.cs bU.1 cB cC cD cE cF cG cH cI) rfl)⟩ r3.mod_ ?_
 exact ⟨(Val.rpvMk (v := bU.1) (rY.mono bu.wext) (rZ.mono bu.wext) (r0.mono bu.wext) (r1.mono bu.wext)), _, (Semtypebase_Source.cells_iff.2 ⟨_, _, rfl, (rX.mono bu.wext)⟩), (rV.mod bu (beq_false (by omega)))⟩

set_option maxHeartbeats 1600000 in
set_option maxRecDepth 100000 in
theorem okB_semtypebase_Source_entry {rec_semtypebase_Source_Value : (Semtypebase_Source → Int → Option (Val × Semtypebase_Source))} {rec_semtypebase_Source_value : (Semtypebase_Source → Int → Option (Val × Semtypebase_Source))} {rec_semtypebase_Source_entry : (Semtypebase_Source → Int → Int → Option (Ent × Semtypebase_Source))} (fuel : Nat) (hrec_semtypebase_Source_Value : S_semtypebase_Source_Value rec_semtypebase_Source_Value) (_hrec_semtypebase_Source_value : S_semtypebase_Source_value rec_semtypebase_Source_value) (_hrec_semtypebase_Source_entry : S_semtypebase_Source_entry rec_semtypebase_Source_entry) : S_semtypebase_Source_entry (semtypebase_Source_entry_B rec_semtypebase_Source_Value rec_semtypebase_Source_value rec_semtypebase_Source_entry fuel) := by
 intro s0 v1 v2 B0 id0 b0 cs0 a0 a1 a2 r hc0 hb0 hid0 h1 h2 hf
 obtain ⟨A1, c2, rfl, h3⟩ := Semtypebase_Source.cells_iff.1 hc0
 obtain rfl := RpV.int h1
 obtain rfl := RpV.int h2
 unfold semtypebase_Source_entry_B at hf
 have E0 : ExtP s0.N B0 id0 s0 s0 := ExtP.refl _ _ _ _
 refine ctr_ofE 30 Go.Proofs.Try.func76 rfl rfl rfl rfl ?_
 refine j2 (j3 ?_)
 refine r_alloc (B := s0.N) 1 E0.size _ [nl Val, .bool false, .int .i64 0, .int .i64 0, .string (⟨#[]⟩), nl Val, nl Key, nl Ent, nl ByteArray] ti65 rfl ?_
 intro s5 b4 k6 hb7
 have E8 := E0.x k6
 refine j0 (j1 (j2 (j3 ?_)))
 refine r_alloc (B := s0.N) 2 E8.size _ [nl Val, .bool false, .int .i64 0, .int .i64 0, .string (⟨#[]⟩), nl Val, nl Key, nl Ent, nl ByteArray] ti65 rfl ?_
 intro aT b9 aE bs
 have bt := E8.x aE
 refine j0 (j1 (j2 (j4 ?_)))
 refine gen_F fun aq ay => ?_
 have aU : aq 0 = (.pointer (some ⟨b0, 0, none⟩)) := (ay 0).trans rfl
 have bu : aq 1 = (.int .i64 a1) := (ay 1).trans rfl
 have aV : aq 2 = (.int .i64 a2) := (ay 2).trans rfl
 have bv : aq 6 = (.pointer (some ⟨b4, 0, none⟩)) := (ay 6).trans rfl
 have aW : aq 7 = (.pointer (some ⟨b9, 0, none⟩)) := (ay 7).trans rfl
 obtain ⟨ad, bw, hf⟩ := bind_some hf
 refine wp_mono (wp_iter (step := semtypebase_Source_entry_l1 rec_semtypebase_Source_Value a2) (fun q a w => ∃ (F : Fr) (τ : S) (A1 : Option Addr) (c1 : Nat) (A2 : Option Addr) (c2 : Nat), a = fr 30 F ∧ w = τ.w ∧ Agr [1, 8, 9, 10, 11, 12, 13, 14, 15, 16, 17, 18, 19] F aq ∧ ExtP s0.N B0 id0 s0 τ ∧ Wext aT τ ∧ F 1 = (.int .i64 q.1) ∧ Blk B0 id0 τ b0 53 [.slice A1 q.2.1.length c1, .int .i64 q.2.2.1] ∧ Sl τ q.2.1 A1 c1 ∧ Blk s0.N 1 τ b4 65 [nl Val, .bool false, .int .i64 0, .int .i64 0, .string (⟨#[]⟩), nl Val, nl Key, nl Ent, nl ByteArray] ∧ Blk s0.N 2 τ b9 65 [.slice A2 q.2.2.2.length c2, .bool false, .int .i64 0, .int .i64 0, .string (⟨#[]⟩), nl Val, nl Key, nl Ent, nl ByteArray] ∧ Own s0.N 3 27 τ q.2.2.2 A2 c2) (fun q e a w => e = .exit 0 ∧ ∃ (F : Fr) (τ : S) (A1 : Option Addr) (c1 : Nat) (A2 : Option Addr) (c2 : Nat), a = fr 30 F ∧ w = τ.w ∧ Agr [1, 8, 9, 10, 11, 12, 13, 14, 15, 16, 17, 18, 19] F aq ∧ ExtP s0.N B0 id0 s0 τ ∧ Wext aT τ ∧ F 1 = (.int .i64 q.1) ∧ Blk B0 id0 τ b0 53 [.slice A1 q.2.1.length c1, .int .i64 q.2.2.1] ∧ Sl τ q.2.1 A1 c1 ∧ Blk s0.N 1 τ b4 65 [nl Val, .bool false, .int .i64 0, .int .i64 0, .string (⟨#[]⟩), nl Val, nl Key, nl Ent, nl ByteArray] ∧ Blk s0.N 2 τ b9 65 [.slice A2 q.2.2.2.length c2, .bool false, .int .i64 0, .int .i64 0, .string (⟨#[]⟩), nl Val, nl Key, nl Ent, nl ByteArray] ∧ Own s0.N 3 27 τ q.2.2.2 A2 c2) (by rintro _ a w ⟨h, _⟩; cases h) ?_ _ _ _ _ _ bw ?_) ?_
 ·intro ab fl a w hf hI
  obtain ⟨eb, ec, aX, aY, az, aA, rfl, rfl, aB, aw, aZ, aM, a0, a3, a4, a5, a6⟩ := hI
  unfold semtypebase_Source_entry_l1 at hf
  have bx := (aB 0 rfl).trans aU
  have bz := (aB 2 rfl).trans aV
  have a7 := (aB 7 rfl).trans aW
  refine j2 (j2 (j3 ?_))
  refine r_move (.int .i64 ab.1) aM rfl ?_
  refine r_bin (.int .i64 ab.1) (.int .i64 0) (.bool (decide (0 < ab.1))) rfl rfl rfl rfl (b_gtr) ?_
  refine j0 (j1 ?_)
  refine if_else hf (fun aN hf => ?_) (fun aN hf => ?_)
  ·refine c_true rfl aN rfl ?_
   refine ja (j1 (j2 (j4 ?_)))
   obtain ⟨ac, bA, hf⟩ := bind_some hf
   obtain ⟨ed, bB, hf⟩ := bind_some hf
   refine wp_draw (B := frP s0.N B0 id0) [some 12, some 13, some 14, some 15, some 16, some 17, some 18, some 19, none] [[], [0], [], [], [2, 3], [2, 3, 4], [0, 1, 2, 3, 4, 5], [0, 1, 2, 3, 4, 5, 6], [0, 1, 2, 3, 4, 5, 6, 7]] [Fct.eqv (.pointer (some ⟨b9, 0, none⟩)), Fct.eqv (.slice az ab.2.2.2.length aA), Fct.eqv (.pointer (some ⟨b0, 0, none⟩)), Fct.eqv (.int .i64 a2), Fct.data (ac.1 : Val), Fct.data ([ac.1] : (List Val)), Fct.data (ab.2.2.2 ++ [ac.1] : (List Val)), Fct.eqv (.pointer (some ⟨b9, 0, none⟩)), Fct.any] (fun D F τ => (D 4 = false → Blk B0 id0 τ b0 53 [.slice aX ab.2.1.length aY, .int .i64 ab.2.2.1]) ∧ (D 4 = true → (∃ (zA0 : Option Addr) (zc0 : Nat), Blk B0 id0 τ b0 53 [.slice zA0 ac.2.L.length zc0, .int .i64 ac.2.At] ∧ Sl τ ac.2.L zA0 zc0)) ∧ (Blk s0.N 1 τ b4 65 [nl Val, .bool false, .int .i64 0, .int .i64 0, .string (⟨#[]⟩), nl Val, nl Key, nl Ent, nl ByteArray]) ∧ (D 8 = false → Blk s0.N 2 τ b9 65 [.slice az ab.2.2.2.length aA, .bool false, .int .i64 0, .int .i64 0, .string (⟨#[]⟩), nl Val, nl Key, nl Ent, nl ByteArray]) ∧ (D 8 = true → (∃ (zA0 : Option Addr) (zc0 : Nat), Blk s0.N 2 τ b9 65 [.slice zA0 (ab.2.2.2 ++ [ac.1]).length zc0, .bool false, .int .i64 0, .int .i64 0, .string (⟨#[]⟩), nl Val, nl Key, nl Ent, nl ByteArray] ∧ Own s0.N 3 27 τ (ab.2.2.2 ++ [ac.1]) zA0 zc0)) ∧ (D 6 = false → Own s0.N 3 27 τ ab.2.2.2 az aA) ∧ (D 6 = true → ∃ zA zc, F 18 = (.slice zA (ab.2.2.2 ++ [ac.1]).length zc) ∧ Own s0.N 3 27 τ (ab.2.2.2 ++ [ac.1]) zA zc)) (by kernel_rfl) rfl (by decide) (by decide) ⟨(fun _ => (a0.ext (ext_draw _))), (fun h => Bool.noConfusion h), (a4.ext (ext_draw _)), (fun _ => (a5.ext (ext_draw _))), (fun h => Bool.noConfusion h), (fun _ => (a6.ext (ext_draw _))), (fun h => Bool.noConfusion h)⟩ (by decide) (by decide) ⟨?_, ?_, ?_, ?_, ?_, ?_, ?_, ?_, ?_, trivial⟩ ?_
   ·intro ee ef eg eh ei a8 ej ek bC bD el
    obtain ⟨bE, bF, bG, bH, em, bI, en⟩ := bC
    refine r_fieldAddr b9 0 0 0 ((bD 7 rfl).trans a7) rfl fo65_0 rfl ?_
    exact d0 ⟨rfl, ⟨(fun y0 => (bE y0)), (fun y0 => (let ⟨zA0, zc0, zb, zf0⟩ := (bF y0); ⟨zA0, zc0, zb, zf0⟩)), bG, (fun y0 => (bH y0)), (fun h => Bool.noConfusion ((a8 8 rfl).symm.trans h)), (fun h => (bI h)), (fun h => Bool.noConfusion ((a8 6 rfl).symm.trans h))⟩⟩
   ·intro eo ep eq er es aO et eu bJ ev bK
    obtain ⟨bL, bM, bN, a9, ew, bO, ex⟩ := bJ
    have bP := a9 (aO 8 rfl)
    refine r_load b9 0 (.slice az ab.2.2.2.length aA) (bK 0 rfl 12 rfl) rfl (loads_one to22 ((bP.cell 0).trans rfl)) ?_
    exact d0 ⟨rfl, ⟨(fun y0 => (bL y0)), (fun y0 => (let ⟨zA0, zc0, zb, zf0⟩ := (bM y0); ⟨zA0, zc0, zb, zf0⟩)), bN, (fun y0 => (a9 y0)), (fun h => Bool.noConfusion ((aO 8 rfl).symm.trans h)), (fun h => (bO h)), (fun h => Bool.noConfusion ((aO 6 rfl).symm.trans h))⟩⟩
   ·intro ey ez eA eB eC aP eD eE bQ bR eF
    obtain ⟨bS, eG, bT, bU, eH, bV, eI⟩ := bQ
    refine r_move (.pointer (some ⟨b0, 0, none⟩)) ((bR 0 rfl).trans bx) rfl ?_
    exact d0 ⟨rfl, ⟨(fun y0 => (bS y0)), (fun h => Bool.noConfusion ((aP 4 rfl).symm.trans h)), bT, (fun y0 => (bU y0)), (fun h => Bool.noConfusion ((aP 8 rfl).symm.trans h)), (fun h => (bV h)), (fun h => Bool.noConfusion ((aP 6 rfl).symm.trans h))⟩⟩
   ·intro eJ eK eL eM eN aQ eO eP bW bX eQ
    obtain ⟨bY, eR, bZ, b1, eS, b2, eT⟩ := bW
    refine r_move (.int .i64 a2) ((bX 2 rfl).trans bz) rfl ?_
    exact d0 ⟨rfl, ⟨(fun y0 => (bY y0)), (fun h => Bool.noConfusion ((aQ 4 rfl).symm.trans h)), bZ, (fun y0 => (b1 y0)), (fun h => Bool.noConfusion ((aQ 8 rfl).symm.trans h)), (fun h => (b2 h)), (fun h => Bool.noConfusion ((aQ 6 rfl).symm.trans h))⟩⟩
   ·intro eU eV eW b3 eX ba b5 b6 b7 eY bb
    have b8 := aw.trans b5
    obtain ⟨ca, eZ, cb, cc, e0, cd, e1⟩ := b7
    have ce := ca b3
    refine r_callE [.pointer (some ⟨b0, 0, none⟩), .int .i64 a2] (evs2 (bb 2 rfl 14 rfl) (bb 3 rfl 15 rfl)) rfl (hrec_semtypebase_Source_Value _ _ _ _ _ _ _ _ _ (Semtypebase_Source.cells_iff.2 ⟨_, _, rfl, (a3.mono b6)⟩) ce hid0 (RpV.mkInt _ _) bA) ?_
    intro e2 e3 aC cf
    obtain ⟨cg, e4, ch, ci⟩ := cf
    obtain ⟨cj, ck, rfl, cl⟩ := Semtypebase_Source.cells_iff.1 ch
    obtain ⟨e5, e6, e7, e8, e9, fa, fb, fc, rfl, cm, cn, co, cp⟩ := Val.rpv cg
    refine j0 ?_
    exact ⟨_, _, rfl, rfl, (ExtP.refl _ _ _ _).modp b8.size aC, (Wext.refl _).trans aC.wext, (Val.rpvMk (v := ac.1) cm cn co cp), ⟨(fun h => Bool.noConfusion h), (fun _ => ⟨cj, ck, ci, cl⟩), (cb.mod aC (beq_false (by omega))), (fun y0 => ((cc y0).mod aC (beq_false (by omega)))), (fun h => Bool.noConfusion ((ba 8 rfl).symm.trans h)), (fun h => ((cd h).mod aC (beq_false (by omega)))), (fun h => Bool.noConfusion ((ba 6 rfl).symm.trans h))⟩⟩
   ·intro fd cq cr fe cs bc ct ff cu fg cv
    have bd := aw.trans ct
    obtain ⟨fh, cw, cx, cy, fj, cz, fk⟩ := cu
    have cA : RpV cr (ac.1 : Val) (cq 16) := cv 4 rfl 16 rfl
    obtain ⟨cB, cC, cD, cE, cF, cG, cH, cI, cJ, cK, cL, cM, cN⟩ := Val.rpv cA
    refine r_buildSlice (B := s0.N) (E := 27) 4 bd.size ts22 (xs := [ac.1]) [Val.ag ac.1 cB cC cD cE cF cG cH cI] (eps_cons cJ eps_nil) rfl rfl rfl (by decide) rfl (by simp [Value.cells, Rp.sz]) ⟨_, _, rfl, (Val.cells_iff.2 ⟨_, _, _, _, _, _, _, _, rfl, cK, cL, cM, cN⟩), rfl⟩ ?_
    intro fm fn fo ar cO
    refine j0 ?_
    exact ⟨_, _, rfl, rfl, (ExtP.refl _ _ _ _).ext bd.size ar, (Wext.refl _).trans ar.wext, (RpV.mkList cO.sl), ⟨(fun h => Bool.noConfusion ((cs 4 rfl).symm.trans h)), (fun y0 => (let ⟨zA0, zc0, zb, zf0⟩ := (cw y0); ⟨zA0, zc0, (zb.ext ar), (zf0.mono ar.wext)⟩)), (cx.ext ar), (fun y0 => ((cy y0).ext ar)), (fun h => Bool.noConfusion ((bc 8 rfl).symm.trans h)), (fun h => ((cz h).ext ar)), (fun h => Bool.noConfusion ((bc 6 rfl).symm.trans h))⟩⟩
   ·intro fp cP cQ cR cS cT cU fq cV fs be
    have bf := aw.trans cU
    obtain ⟨ft, cW, cX, cY, fu, cZ, fv⟩ := cV
    have c0 : RpV cQ ([ac.1] : (List Val)) (cP 17) := be 5 rfl 17 rfl
    obtain ⟨fw, fx, c3, c4⟩ := RpV.list c0
    refine r_append (B := s0.N) (id := 3) (E := 27) (xs := ab.2.2.2) (ys := [ac.1]) bf.size ((cZ cR)) c4 ts22 (room_some bB) (be 1 rfl 13 rfl) c3 rfl rfl ?_
    intro fy c5 c6 ax bg
    refine j0 ?_
    exact ⟨_, _, rfl, rfl, (ExtP.refl _ _ _ _).mod bf.size ax, (Wext.refl _).trans ax.wext, (RpV.mkList bg.sl), ⟨(fun h => Bool.noConfusion ((cS 4 rfl).symm.trans h)), (fun y0 => (let ⟨zA0, zc0, zb, zf0⟩ := (cW y0); ⟨zA0, zc0, (zb.mod ax (beq_false (by omega))), (zf0.mono ax.wext)⟩)), (cX.mod ax rfl), (fun y0 => ((cY y0).mod ax rfl)), (fun h => Bool.noConfusion ((cT 8 rfl).symm.trans h)), (fun h => Bool.noConfusion h), (fun _ => ⟨c5, c6, rfl, bg⟩)⟩⟩
   ·intro fz fA fB fC bh c7 fD fE c8 c9 fF
    obtain ⟨fG, da, db, dc, fH, fI, dd⟩ := c8
    refine r_fieldAddr b9 0 0 0 ((c9 7 rfl).trans a7) rfl fo65_0 rfl ?_
    exact d0 ⟨rfl, ⟨(fun h => Bool.noConfusion ((bh 4 rfl).symm.trans h)), (fun y0 => (let ⟨zA0, zc0, zb, zf0⟩ := (da y0); ⟨zA0, zc0, zb, zf0⟩)), db, (fun y0 => (dc y0)), (fun h => Bool.noConfusion ((c7 8 rfl).symm.trans h)), (fun h => Bool.noConfusion ((bh 6 rfl).symm.trans h)), (fun y0 => let ⟨zA, zc, zv, zo⟩ := dd y0; ⟨zA, zc, zv, zo⟩)⟩⟩
   ·intro fJ fK fL de aR fM df fN dg fO dh
    have di := aw.trans df
    obtain ⟨fP, dj, dk, dl, fQ, fR, bi⟩ := dg
    have dm := dl de
    obtain ⟨aF, aG, dn, dp⟩ := bi (aR 6 rfl)
    refine r_store dm 0 (.slice aF (ab.2.2.2 ++ [ac.1]).length aG) [.slice aF (ab.2.2.2 ++ [ac.1]).length aG] [.slice aF (ab.2.2.2 ++ [ac.1]).length aG, .bool false, .int .i64 0, .int .i64 0, .string (⟨#[]⟩), nl Val, nl Key, nl Ent, nl ByteArray] (dh 7 rfl 19 rfl) dn rfl rfl rfl sz22 rfl rfl rfl ?_
    intro fS au dq
    refine j0 ?_
    exact ⟨_, _, rfl, rfl, (ExtP.refl _ _ _ _).mod di.size au, (Wext.refl _).trans au.wext, trivial, ⟨(fun h => Bool.noConfusion ((aR 4 rfl).symm.trans h)), (fun y0 => (let ⟨zA0, zc0, zb, zf0⟩ := (dj y0); ⟨zA0, zc0, (zb.mod au (beq_false (by omega))), (zf0.mono au.wext)⟩)), (dk.mod au rfl), (fun h => Bool.noConfusion h), (fun _ => ⟨aF, aG, dq, (dp.mod au rfl)⟩), (fun h => Bool.noConfusion ((aR 6 rfl).symm.trans h)), (fun y0 => let ⟨zA, zc, zv, zo⟩ := bi y0; ⟨zA, zc, zv, (zo.mod au rfl)⟩)⟩⟩
   intro fT fU dr ds dt bj fV
   have du := aw.trans dr
   obtain ⟨fW, dv, dw, fX, dx, fY, dy⟩ := dt
   obtain ⟨dz, dA, dB, dC⟩ := dv rfl
   have dD := dw
   obtain ⟨dE, dF, dG, dH⟩ := dx rfl
   obtain ⟨fZ, f0, f1, f2⟩ := dy rfl
   have dI := (bj 1 rfl).trans aM
   refine j5 (j1 (j3 ?_))
   refine r_move (.int .i64 ab.1) dI rfl ?_
   refine r_bin (.int .i64 ab.1) (.int .i64 1) (.int .i64 (w64 (ab.1 - 1))) rfl rfl rfl rfl (b_sub) ?_
   refine r_assign (.int .i64 (w64 (ab.1 - 1))) rfl rfl ?_
   refine j0 ?_
   obtain rfl := Option.some.inj hf
   exact ⟨rfl, _, _, dz, dA, dE, dF, rfl, rfl, (((((((aB).put rfl).put rfl).draw bj rfl).put rfl).put rfl).put rfl), du, (((Wext.refl _).trans aZ).trans ds), rfl, dB, dC, dD, dG, (dH)⟩
  refine c_false rfl aN rfl ?_
  refine jc (j8 ?_)
  obtain rfl := Option.some.inj hf
  exact ⟨rfl, _, _, aX, aY, az, aA, rfl, rfl, (((aB).put rfl).put rfl), aw, ((Wext.refl _).trans aZ), aM, a0, a3, a4, a5, (a6)⟩
 ·exact ⟨_, _, A1, c2, none, 0, rfl, rfl, (Agr.refl _ _), bt, (Wext.refl _), bu, ((hb0.ext k6).ext aE), ((h3.mono k6.wext).mono aE.wext), (hb7.ext aE), bs, (Own.nil_ _)⟩
 rintro e a w ⟨rfl, f3, f4, f5, f6, ae, af, rfl, rfl, aH, dJ, f7, f8, dK, dL, bk, bl, bm⟩
 have bn := (aH 0 rfl).trans aU
 have dM := (aH 2 rfl).trans aV
 have aI := (aH 6 rfl).trans bv
 have aJ := (aH 7 rfl).trans aW
 refine j6 (j1 (j2 (j2 (j3 ?_))))
 refine r_move (.pointer (some ⟨b0, 0, none⟩)) bn rfl ?_
 obtain ⟨bo, dN, hf⟩ := bind_some hf
 refine r_callE [.pointer (some ⟨b0, 0, none⟩), .int .i64 4] (evs2 rfl rfl) rfl (ok_semtypebase_Source_Next _ _ _ _ _ _ _ _ _ (Semtypebase_Source.cells_iff.2 ⟨_, _, rfl, dL⟩) dK hid0 (RpV.mkInt _ _) dN) ?_
 intro f9 ga av dO
 obtain ⟨dP, gb, dQ, bp⟩ := dO
 have bq := dJ.z av
 obtain ⟨gc, gd, rfl, br⟩ := Semtypebase_Source.cells_iff.1 dQ
 obtain rfl := RpV.int dP
 refine r_bin (.int .i64 bo.1) (.int .i64 1) (.bool (bo.1 == 1)) rfl rfl rfl rfl (b_eql) ?_
 refine j0 (j1 ?_)
 refine if_else hf (fun aS hf => ?_) (fun aS hf => ?_)
 ·refine c_true rfl aS rfl ?_
  refine j2 (j3 ?_)
  refine r_fieldAddr b9 0 1 1 aJ rfl fo65_1 rfl ?_
  refine r_store (bl.mod av (beq_false (by omega))) 1 (.bool true) [.bool true] [.slice ae ad.2.2.2.length af, .bool true, .int .i64 0, .int .i64 0, .string (⟨#[]⟩), nl Val, nl Key, nl Ent, nl ByteArray] rfl rfl rfl rfl rfl sz4 rfl rfl rfl ?_
  intro ge aD dR
  have dS := bq.y aD
  refine j0 (j1 (j2 (j3 ?_)))
  refine r_load b9 0 (.agg #[.slice ae ad.2.2.2.length af, .bool true, .int .i64 0, .int .i64 0, .string (⟨#[]⟩), nl Val, nl Key, nl Ent, nl ByteArray]) aJ rfl (loads_row tr65 (Blk.range dR 0 [.slice ae ad.2.2.2.length af, .bool true, .int .i64 0, .int .i64 0, .string (⟨#[]⟩), nl Val, nl Key, nl Ent, nl ByteArray] rfl)) ?_
  refine r_store ((bk.mod av (beq_false (by omega))).mod aD rfl) 0 (.agg #[.slice ae ad.2.2.2.length af, .bool true, .int .i64 0, .int .i64 0, .string (⟨#[]⟩), nl Val, nl Key, nl Ent, nl ByteArray]) [.slice ae ad.2.2.2.length af, .bool true, .int .i64 0, .int .i64 0, .string (⟨#[]⟩), nl Val, nl Key, nl Ent, nl ByteArray] [.slice ae ad.2.2.2.length af, .bool true, .int .i64 0, .int .i64 0, .string (⟨#[]⟩), nl Val, nl Key, nl Ent, nl ByteArray] aI rfl rfl rfl rfl sz65 rfl rfl rfl ?_
  intro gf aK dT
  have dU := dS.y aK
  refine j0 (j1 (jb (j9 ?_)))
  obtain rfl := Option.some.inj hf
  refine ret_oneE (.agg #[.slice ae ad.2.2.2.length af, .bool true, .int .i64 0, .int .i64 0, .string (⟨#[]⟩), nl Val, nl Key, nl Ent, nl ByteArray]) rfl ⟨rfl, _, aI, loads_row tr65 (Blk.range dT 0 [.slice ae ad.2.2.2.length af, .bool true, .int .i64 0, .int .i64 0, .string (⟨#[]⟩), nl Val, nl Key, nl Ent, nl ByteArray] rfl)⟩ dU.mod_ ?_
  exact ⟨(Ent.rpvMk (v := (Ent.mk ad.2.2.2 true (Val.mk 0 0 (⟨#[]⟩) ([] : List Val) ([] : List Key) ([] : List Ent) ([] : List ByteArray)))) ((((bm.mod av (beq_false (by omega))).mod aD rfl).mod aK rfl).sl) (Sl.nil_ _ _ _ (Nat.zero_le _)) (Sl.nil_ _ _ _ (Nat.zero_le _)) (Sl.nil_ _ _ _ (Nat.zero_le _)) (Sl.nil_ _ _ _ (Nat.zero_le _))), _, (Semtypebase_Source.cells_iff.2 ⟨_, _, rfl, ((br.mono aD.wext).mono aK.wext)⟩), ((bp.mod aD (beq_false (by omega))).mod aK (beq_false (by omega)))⟩
 refine c_false rfl aS rfl ?_
 refine ja (j1 (j2 (j3 ?_)))
 refine r_move (.pointer (some ⟨b0, 0, none⟩)) bn rfl ?_
 refine r_move (.int .i64 a2) dM rfl ?_
 obtain ⟨aa, dV, hf⟩ := bind_some hf
 refine r_callE [.pointer (some ⟨b0, 0, none⟩), .int .i64 a2] (evs2 rfl rfl) rfl (hrec_semtypebase_Source_Value _ _ _ _ _ _ _ _ _ (Semtypebase_Source.cells_iff.2 ⟨_, _, rfl, br⟩) bp hid0 (RpV.mkInt _ _) dV) ?_
 intro gg gh aL dW
 obtain ⟨dX, gi, dY, dZ⟩ := dW
 have d1 := bq.z aL
 obtain ⟨gj, gk, rfl, d2⟩ := Semtypebase_Source.cells_iff.1 dY
 obtain ⟨ag, ah, ai, aj, ak, al, am, an, rfl, d3, d4, d5, d6⟩ := Val.rpv dX
 refine r_fieldAddr b9 0 2 2 aJ rfl fo65_2 rfl ?_
 refine r_store ((bl.mod av (beq_false (by omega))).mod aL (beq_false (by omega))) 2 (Val.ag aa.1 ag ah ai aj ak al am an) (Val.cs aa.1 ag ah ai aj ak al am an) [.slice ae ad.2.2.2.length af, .bool false, .int .i64 aa.1.Kind, .int .i64 aa.1.Int_, .string aa.1.Text, .slice ag aa.1.Kids.length ah, .slice ai aa.1.Keys.length aj, .slice ak aa.1.Entries.length al, .slice am aa.1.Labels.length an] rfl rfl rfl rfl rfl sz27 rfl rfl rfl ?_
 intro gl ao d7
 have d8 := d1.y ao
 refine j0 (j1 (j2 (j3 ?_)))
 refine r_load b9 0 (.agg #[.slice ae ad.2.2.2.length af, .bool false, .int .i64 aa.1.Kind, .int .i64 aa.1.Int_, .string aa.1.Text, .slice ag aa.1.Kids.length ah, .slice ai aa.1.Keys.length aj, .slice ak aa.1.Entries.length al, .slice am aa.1.Labels.length an]) aJ rfl (loads_row tr65 (Blk.range d7 0 [.slice ae ad.2.2.2.length af, .bool false, .int .i64 aa.1.Kind, .int .i64 aa.1.Int_, .string aa.1.Text, .slice ag aa.1.Kids.length ah, .slice ai aa.1.Keys.length aj, .slice ak aa.1.Entries.length al, .slice am aa.1.Labels.length an] rfl)) ?_
 refine r_store (((bk.mod av (beq_false (by omega))).mod aL (beq_false (by omega))).mod ao rfl) 0 (.agg #[.slice ae ad.2.2.2.length af, .bool false, .int .i64 aa.1.Kind, .int .i64 aa.1.Int_, .string aa.1.Text, .slice ag aa.1.Kids.length ah, .slice ai aa.1.Keys.length aj, .slice ak aa.1.Entries.length al, .slice am aa.1.Labels.length an]) [.slice ae ad.2.2.2.length af, .bool false, .int .i64 aa.1.Kind, .int .i64 aa.1.Int_, .string aa.1.Text, .slice ag aa.1.Kids.length ah, .slice ai aa.1.Keys.length aj, .slice ak aa.1.Entries.length al, .slice am aa.1.Labels.length an] [.slice ae ad.2.2.2.length af, .bool false, .int .i64 aa.1.Kind, .int .i64 aa.1.Int_, .string aa.1.Text, .slice ag aa.1.Kids.length ah, .slice ai aa.1.Keys.length aj, .slice ak aa.1.Entries.length al, .slice am aa.1.Labels.length an] aI rfl rfl rfl rfl sz65 rfl rfl rfl ?_
 intro gm ap d9
 have ea := d8.y ap
 refine j0 (j1 (jb ?_))
 obtain rfl := Option.some.inj hf
 refine ret_oneE (.agg #[.slice ae ad.2.2.2.length af, .bool false, .int .i64 aa.1.Kind, .int .i64 aa.1.Int_, .string aa.1.Text, .slice ag aa.1.Kids.length ah, .slice ai aa.1.Keys.length aj, .slice ak aa.1.Entries.length al, .slice am aa.1.Labels.length an]) rfl ⟨rfl, _, aI, loads_row tr65 (Blk.range d9 0 [.slice ae ad.2.2.2.length af, .bool false, .int .i64 aa.1.Kind, .int .i64 aa.1.Int_, .string aa.1.Text, .slice ag aa.1.Kids.length ah, .slice ai aa.1.Keys.length aj, .slice ak aa.1.Entries.length al, .slice am aa.1.Labels.length an] rfl)⟩ ea.mod_ ?_
 exact ⟨(Ent.rpvMk (v := (Ent.mk ad.2.2.2 false aa.1)) (((((bm.mod av (beq_false (by omega))).mod aL (beq_false (by omega))).mod ao rfl).mod ap rfl).sl) ((d3.mono ao.wext).mono ap.wext) ((d4.mono ao.wext).mono ap.wext) ((d5.mono ao.wext).mono ap.wext) ((d6.mono ao.wext).mono ap.wext)), _, (Semtypebase_Source.cells_iff.2 ⟨_, _, rfl, ((d2.mono ao.wext).mono ap.wext)⟩), ((dZ.mod ao (beq_false (by omega))).mod ap (beq_false (by omega)))⟩

theorem ok_scc_semtypebase_Source_Value : ∀ n : Nat, S_semtypebase_Source_Value (scc_semtypebase_Source_Value n).1 ∧ S_semtypebase_Source_value (scc_semtypebase_Source_Value n).2.1 ∧ S_semtypebase_Source_entry (scc_semtypebase_Source_Value n).2.2
  | 0 => ⟨(by intro _ _ _ _ _ _ _ _ _ _ _ _ _ h; cases h), (by intro _ _ _ _ _ _ _ _ _ _ _ _ _ h; cases h), (by intro _ _ _ _ _ _ _ _ _ _ _ _ _ _ _ _ h; cases h)⟩
  | n + 1 => by
    obtain ⟨h0, h1, h2⟩ := ok_scc_semtypebase_Source_Value n
    exact ⟨okB_semtypebase_Source_Value h0 h1 h2, okB_semtypebase_Source_value n h0 h1 h2, okB_semtypebase_Source_entry n h0 h1 h2⟩

theorem ok_semtypebase_Source_Value (n : Nat) : S_semtypebase_Source_Value (semtypebase_Source_Value n) := (ok_scc_semtypebase_Source_Value n).1

theorem ok_semtypebase_Source_value (n : Nat) : S_semtypebase_Source_value (semtypebase_Source_value n) := (ok_scc_semtypebase_Source_Value n).2.1

theorem ok_semtypebase_Source_entry (n : Nat) : S_semtypebase_Source_entry (semtypebase_Source_entry n) := (ok_scc_semtypebase_Source_Value n).2.2

def S_semtypelaw4_drawn (f : ((List Int) → Option Val)) : Prop := ∀ (s0 : S) (v0 : Value) (a0 : (List Int)) (r : Val), RpV s0 a0 v0 → f a0 = some r → Ctr Go.Proofs.Try.prog 9 [v0] s0 (fun v τ => RpV τ r v)

set_option maxHeartbeats 1600000 in
set_option maxRecDepth 100000 in
theorem ok_semtypelaw4_drawn (fuel : Nat) : S_semtypelaw4_drawn (semtypelaw4_drawn fuel) := by
 intro s0 v0 a0 r h0 hf
 obtain ⟨A1, c2, rfl, h3⟩ := RpV.list h0
 unfold semtypelaw4_drawn at hf
 have E0 : ExtB s0.N s0 s0 := ExtB.refl _ _
 refine ctr_of 9 Go.Proofs.Try.func9 rfl rfl rfl rfl ?_
 refine j2 (j3 ?_)
 refine r_alloc (B := s0.N) 1 E0.size _ [.int .i64 0, .int .i64 0, .string (⟨#[]⟩), nl Val, nl Key, nl Ent, nl ByteArray] ti27 rfl ?_
 intro s5 b4 k6 hb7
 have E8 := E0.x k6
 refine j0 (j1 (j2 (j3 ?_)))
 refine r_move (.slice A1 a0.length c2) rfl rfl ?_
 refine r_build tst53 [(0, .slice A1 a0.length c2)] [.slice A1 a0.length c2, .int .i64 0] (eps_cons rfl eps_nil) rfl rfl ?_
 refine r_box (B := s0.N) 1000002 E8.size (.agg #[.slice A1 a0.length c2, .int .i64 0]) [.slice A1 a0.length c2, .int .i64 0] rfl rfl rfl ?_
 intro aB b9 ak am
 have an := E8.x ak
 refine r_assign (.pointer (some ⟨b9, 0, none⟩)) rfl rfl ?_
 refine j0 (j1 (j2 (j3 ?_)))
 refine r_move (.pointer (some ⟨b9, 0, none⟩)) rfl rfl ?_
 obtain ⟨aa, ao, hf⟩ := bind_some hf
 refine r_callE [.pointer (some ⟨b9, 0, none⟩), .int .i64 4] (evs2 rfl rfl) rfl ((ok_semtypebase_Source_Value fuel) _ _ _ _ _ _ _ _ _ (Semtypebase_Source.cells_iff.2 ⟨_, _, rfl, ((h3.mono k6.wext).mono ak.wext)⟩) am (by omega) (RpV.mkInt _ _) ao) ?_
 intro aC aD al ap
 obtain ⟨aq, aE, ar, aF⟩ := ap
 have au := an.y al
 obtain ⟨aG, aH, rfl, aI⟩ := Semtypebase_Source.cells_iff.1 ar
 obtain ⟨ab, ac, ad, ae, af, ag, ah, ai, rfl, av, aw, ax, ay⟩ := Val.rpv aq
 refine r_store ((hb7.ext ak).mod al rfl) 0 (Val.ag aa.1 ab ac ad ae af ag ah ai) (Val.cs aa.1 ab ac ad ae af ag ah ai) (Val.cs aa.1 ab ac ad ae af ag ah ai) rfl rfl rfl rfl rfl sz27 rfl rfl rfl ?_
 intro aJ aj az
 have aA := au.y aj
 refine j0 (j1 (jb ?_))
 obtain rfl := Option.some.inj hf
 refine ret_one (Val.ag aa.1 ab ac ad ae af ag ah ai) rfl ⟨rfl, _, rfl, loads_row tr27 (Blk.range az 0 (Val.cs aa.1 ab ac ad ae af ag ah ai) rfl)⟩ aA ?_
 exact (Val.rpvMk (v := aa.1) (av.mono aj.wext) (aw.mono aj.wext) (ax.mono aj.wext) (ay.mono aj.wext))

def S_value_Tuple (f : ((List Val) → Option Val)) : Prop := ∀ (s0 : S) (v0 : Value) (a0 : (List Val)) (r : Val), RpV s0 a0 v0 → f a0 = some r → Ctr Go.Proofs.Try.prog 15 [v0] s0 (fun v τ => RpV τ r v)

set_option maxHeartbeats 1600000 in
set_option maxRecDepth 100000 in
theorem ok_value_Tuple (fuel : Nat) : S_value_Tuple (value_Tuple fuel) := by
 intro s0 v0 a0 r h0 hf
 obtain ⟨A1, c2, rfl, h3⟩ := RpV.list h0
 unfold value_Tuple at hf
 have E0 : ExtB s0.N s0 s0 := ExtB.refl _ _
 refine ctr_of 6 Go.Proofs.Try.func15 rfl rfl rfl rfl ?_
 refine j2 (j3 ?_)
 refine r_alloc (B := s0.N) 1 E0.size _ [.int .i64 0, .int .i64 0, .string (⟨#[]⟩), nl Val, nl Key, nl Ent, nl ByteArray] ti27 rfl ?_
 intro s5 b4 k6 hb7
 have E8 := E0.x k6
 refine j0 (j1 (j2 (j3 ?_)))
 refine r_move (.slice A1 a0.length c2) rfl rfl ?_
 obtain ⟨r9, ae, hf⟩ := bind_some hf
 refine r_call [.slice A1 a0.length c2] (evs1 rfl) rfl ((ok_value_cloneAll fuel) _ _ _ _ (RpV.mkList (h3.mono k6.wext)) ae) ?_
 intro ak al ac af
 have ag := E8.x ac
 obtain ⟨aa, ab, rfl, ah⟩ := RpV.list af
 refine r_build tst27 [(0, .int .i64 6), (3, .slice aa r9.length ab)] [.int .i64 6, .int .i64 0, .string (⟨#[]⟩), .slice aa r9.length ab, nl Key, nl Ent, nl ByteArray] (eps_cons rfl (eps_cons rfl eps_nil)) rfl rfl ?_
 refine r_store (hb7.ext ac) 0 (.agg #[.int .i64 6, .int .i64 0, .string (⟨#[]⟩), .slice aa r9.length ab, nl Key, nl Ent, nl ByteArray]) [.int .i64 6, .int .i64 0, .string (⟨#[]⟩), .slice aa r9.length ab, nl Key, nl Ent, nl ByteArray] [.int .i64 6, .int .i64 0, .string (⟨#[]⟩), .slice aa r9.length ab, nl Key, nl Ent, nl ByteArray] rfl rfl rfl rfl rfl sz27 rfl rfl rfl ?_
 intro am ad ai
 have aj := ag.y ad
 refine j0 (j1 (jb ?_))
 obtain rfl := Option.some.inj hf
 refine ret_one (.agg #[.int .i64 6, .int .i64 0, .string (⟨#[]⟩), .slice aa r9.length ab, nl Key, nl Ent, nl ByteArray]) rfl ⟨rfl, _, rfl, loads_row tr27 (Blk.range ai 0 [.int .i64 6, .int .i64 0, .string (⟨#[]⟩), .slice aa r9.length ab, nl Key, nl Ent, nl ByteArray] rfl)⟩ aj ?_
 exact (Val.rpvMk (v := (Val.mk 6 0 (⟨#[]⟩) r9 ([] : List Key) ([] : List Ent) ([] : List ByteArray))) (ah.mono ad.wext) (Sl.nil_ _ _ _ (Nat.zero_le _)) (Sl.nil_ _ _ _ (Nat.zero_le _)) (Sl.nil_ _ _ _ (Nat.zero_le _)))

def S_value_Elements (f : (Val → Option ((List Val) × Bool))) : Prop := ∀ (s0 : S) (v0 : Value) (a0 : Val) (r : ((List Val) × Bool)), RpV s0 a0 v0 → f a0 = some r → Ctr Go.Proofs.Try.prog 21 [v0] s0 (fun v τ => ∃ v1 v2, v = .tuple #[v1, v2] ∧ RpV τ r.1 v1 ∧ RpV τ r.2 v2)

set_option maxHeartbeats 1600000 in
set_option maxRecDepth 100000 in
theorem ok_value_Elements (fuel : Nat) : S_value_Elements (value_Elements fuel) := by
 intro s0 v0 a0 r h0 hf
 obtain ⟨A1, c2, A4, c5, A7, c8, aB, aC, rfl, h3, h6, h9, bd⟩ := Val.rpv h0
 unfold value_Elements at hf
 have E0 : ExtB s0.N s0 s0 := ExtB.refl _ _
 refine ctr_of 30 Go.Proofs.Try.func21 rfl rfl rfl rfl ?_
 refine j2 (j3 ?_)
 refine r_box (B := s0.N) 1 E0.size (Val.ag a0 A1 c2 A4 c5 A7 c8 aB aC) (Val.cs a0 A1 c2 A4 c5 A7 c8 aB aC) rfl rfl rfl ?_
 intro aN ab ak be
 have bf := E0.x ak
 refine r_assign (nl Val) rfl rfl ?_
 refine r_assign (.bool false) rfl rfl ?_
 refine j0 (j1 (j2 (j3 ?_)))
 refine r_assign (nl Val) rfl rfl ?_
 refine j0 (j1 (j2 (j4 ?_)))
 refine gen_F fun ax aO => ?_
 have aP : ax 1 = (.pointer (some ⟨ab, 0, none⟩)) := (aO 1).trans rfl
 have bg : ax 4 = (nl Val) := (aO 4).trans rfl
 obtain ⟨af, bh, hf⟩ := bind_some hf
 refine wp_mono (wp_iter (step := value_Elements_l1 fuel) (fun q a w => ∃ (F : Fr) (τ : S) (A1 : Option Addr) (c1 : Nat) (A2 : Option Addr) (c2 : Nat) (A3 : Option Addr) (c3 : Nat) (A4 : Option Addr) (c4 : Nat) (A5 : Option Addr) (c5 : Nat), a = fr 30 F ∧ w = τ.w ∧ Agr [4, 5, 6, 7, 8, 9, 10, 11, 12, 13, 14, 15, 16, 17, 18, 19, 20, 21, 22, 23, 24, 25] F ax ∧ ExtB s0.N s0 τ ∧ Wext aN τ ∧ F 4 = (.slice A1 q.1.length c1) ∧ Own s0.N 2 27 τ q.1 A1 c1 ∧ Blk s0.N 1 τ ab 27 [.int .i64 q.2.1, .int .i64 q.2.2.1, .string q.2.2.2.1, .slice A2 q.2.2.2.2.1.length c2, .slice A3 q.2.2.2.2.2.1.length c3, .slice A4 q.2.2.2.2.2.2.1.length c4, .slice A5 q.2.2.2.2.2.2.2.length c5] ∧ Sl τ q.2.2.2.2.1 A2 c2 ∧ Sl τ q.2.2.2.2.2.1 A3 c3 ∧ Sl τ q.2.2.2.2.2.2.1 A4 c4 ∧ Sl τ q.2.2.2.2.2.2.2 A5 c5) (fun q e a w => e = .exit 0 ∧ ∃ (F : Fr) (τ : S) (A1 : Option Addr) (c1 : Nat) (A2 : Option Addr) (c2 : Nat) (A3 : Option Addr) (c3 : Nat) (A4 : Option Addr) (c4 : Nat) (A5 : Option Addr) (c5 : Nat), a = fr 30 F ∧ w = τ.w ∧ Agr [4, 5, 6, 7, 8, 9, 10, 11, 12, 13, 14, 15, 16, 17, 18, 19, 20, 21, 22, 23, 24, 25] F ax ∧ ExtB s0.N s0 τ ∧ Wext aN τ ∧ F 4 = (.slice A1 q.1.length c1) ∧ Own s0.N 2 27 τ q.1 A1 c1 ∧ Blk s0.N 1 τ ab 27 [.int .i64 q.2.1, .int .i64 q.2.2.1, .string q.2.2.2.1, .slice A2 q.2.2.2.2.1.length c2, .slice A3 q.2.2.2.2.2.1.length c3, .slice A4 q.2.2.2.2.2.2.1.length c4, .slice A5 q.2.2.2.2.2.2.2.length c5] ∧ Sl τ q.2.2.2.2.1 A2 c2 ∧ Sl τ q.2.2.2.2.2.1 A3 c3 ∧ Sl τ q.2.2.2.2.2.2.1 A4 c4 ∧ Sl τ q.2.2.2.2.2.2.2 A5 c5) (by rintro _ a w ⟨h, _⟩; cases h) ?_ _ _ _ _ _ bh ?_) ?_
 ·intro aa fl a w hf hI
  obtain ⟨b0, b1, aD, aE, ag, ah, aQ, aR, aS, aT, aU, aV, rfl, rfl, ay, aF, aG, aH, aI, ad, az, aW, aX, aY⟩ := hI
  unfold value_Elements_l1 at hf
  have al := (ay 1 rfl).trans aP
  refine j2 (j2 (j3 ?_))
  refine r_fieldAddr ab 0 0 0 al rfl fo27_0 rfl ?_
  refine r_load ab 0 (.int .i64 aa.2.1) rfl rfl (loads_one to3 ((ad.cell 0).trans rfl)) ?_
  refine r_bin (.int .i64 aa.2.1) (.int .i64 7) (.bool (aa.2.1 == 7)) rfl rfl rfl rfl (b_eql) ?_
  refine r_move (.bool (aa.2.1 == 7)) rfl rfl ?_
  refine if_else hf (fun ac hf => ?_) (fun ac hf => ?_)
  ·refine r_guard (j := 3) (want := true) (d := 8) (c := (aa.2.1 == 7)) (v := true) rfl rfl ac rfl rfl ?_
   refine r_fieldAddr ab 0 3 3 al rfl fo27_3 rfl ?_
   refine r_guard (j := 3) (want := true) (d := 8) (c := (aa.2.1 == 7)) (v := true) rfl rfl ac rfl rfl ?_
   refine r_load ab 3 (.slice ag aa.2.2.2.2.1.length ah) rfl rfl (loads_one to22 ((ad.cell 3).trans rfl)) ?_
   refine r_guard (j := 3) (want := true) (d := 8) (c := (aa.2.1 == 7)) (v := true) rfl rfl ac rfl rfl ?_
   refine r_len ag aa.2.2.2.2.1.length ah rfl rfl Go.Proofs.Try.underlying22 ?_
   refine r_guard (j := 3) (want := true) (d := 8) (c := (aa.2.1 == 7)) (v := true) rfl rfl ac rfl rfl ?_
   refine r_bin (.int .i64 (aa.2.2.2.2.1.length : Int)) (.int .i64 2) (.bool ((aa.2.2.2.2.1.length : Int) == 2)) rfl rfl rfl rfl (b_eql) ?_
   refine r_pick_t (c := (aa.2.1 == 7)) (.bool ((aa.2.2.2.2.1.length : Int) == 2)) rfl ac rfl rfl rfl rfl ?_
   refine j0 (j1 ?_)
   refine if_else hf (fun aJ hf => ?_) (fun aJ hf => ?_)
   ·refine c_true rfl aJ rfl ?_
    refine ja (j1 (j4 (j2 (j3 ?_))))
    refine r_move (.slice aD aa.1.length aE) aH rfl ?_
    refine r_fieldAddr ab 0 3 3 al rfl fo27_3 rfl ?_
    refine r_load ab 3 (.slice ag aa.2.2.2.2.1.length ah) rfl rfl (loads_one to22 ((ad.cell 3).trans rfl)) ?_
    obtain ⟨x52, bi, hf⟩ := bind_some hf
    refine r_indexAddr (T := 22) (E := 27) az bi rfl rfl rfl rfl Go.Proofs.Try.underlying22 sz27 ?_
    intro bj bk b2 bl bm
    obtain ⟨aZ, a1, a2, a3, a4, a5, a6, a7, rfl, bn, bo, bp, bq⟩ := Val.cells_iff.1 bl
    refine r_load bj bk (Val.ag x52 aZ a1 a2 a3 a4 a5 a6 a7) rfl rfl (loads_row tr27 bm.2) ?_
    obtain ⟨aA, br, hf⟩ := bind_some hf
    refine r_call [Val.ag x52 aZ a1 a2 a3 a4 a5 a6 a7] (evs1 rfl) rfl ((ok_value_clone fuel) _ _ _ _ (Val.rpvMk (v := x52) bn bo bp bq) br) ?_
    intro b3 b4 ai bs
    have a8 := aF.x ai
    obtain ⟨bt, bu, bv, bw, bx, bz, bA, bB, rfl, bC, bD, bE, bF⟩ := Val.rpv bs
    refine r_buildSlice (B := s0.N) (E := 27) 3 a8.size ts22 (xs := [aA]) [Val.ag aA bt bu bv bw bx bz bA bB] (eps_cons rfl eps_nil) rfl rfl rfl (by decide) rfl (by simp [Value.cells, Rp.sz]) ⟨_, _, rfl, (Val.cells_iff.2 ⟨_, _, _, _, _, _, _, _, rfl, bC, bD, bE, bF⟩), rfl⟩ ?_
    intro b5 b6 b7 aj bG
    have a9 := a8.x aj
    obtain ⟨b8, bH, hf⟩ := bind_some hf
    refine r_append (B := s0.N) (id := 2) (E := 27) (xs := aa.1) (ys := [aA]) a9.size (((aI.ext ai).ext aj)) bG.sl ts22 (room_some bH) rfl rfl rfl rfl ?_
    intro b9 ba bb am bI
    have bJ := a9.y am
    refine r_assign (.slice ba (aa.1 ++ [aA]).length bb) rfl rfl ?_
    refine j0 (j1 (j3 ?_))
    refine r_fieldAddr ab 0 3 3 al rfl fo27_3 rfl ?_
    refine r_load ab 3 (.slice ag aa.2.2.2.2.1.length ah) rfl rfl (loads_one to22 (((((ad.ext ai).ext aj).mod am rfl).cell 3).trans rfl)) ?_
    obtain ⟨x104, bK, hf⟩ := bind_some hf
    refine r_indexAddr (T := 22) (E := 27) (((az.mono ai.wext).mono aj.wext).mono am.wext) bK rfl rfl rfl rfl Go.Proofs.Try.underlying22 sz27 ?_
    intro bL bM ca bN bO
    obtain ⟨an, ao, ap, aq, ar, au, av, aw, rfl, bP, bQ, bR, bS⟩ := Val.cells_iff.1 bN
    refine r_load bL bM (Val.ag x104 an ao ap aq ar au av aw) rfl rfl (loads_row tr27 bO.2) ?_
    refine r_store (((ad.ext ai).ext aj).mod am rfl) 0 (Val.ag x104 an ao ap aq ar au av aw) (Val.cs x104 an ao ap aq ar au av aw) (Val.cs x104 an ao ap aq ar au av aw) al rfl rfl rfl rfl sz27 rfl rfl rfl ?_
    intro cb ae bT
    have bU := bJ.y ae
    refine j0 (j5 ?_)
    obtain rfl := Option.some.inj hf
    exact ⟨rfl, _, _, ba, bb, an, ao, ap, aq, ar, au, av, aw, rfl, rfl, ((((((((((((((((((((((((ay).put rfl).put rfl).put rfl).put rfl).put rfl).put rfl).put rfl).put rfl).put rfl).put rfl).put rfl).put rfl).put rfl).put rfl).put rfl).put rfl).put rfl).put rfl).put rfl).put rfl).put rfl).put rfl).put0), bU, ((((((Wext.refl _).trans aG).trans ai.wext).trans aj.wext).trans am.wext).trans ae.wext), rfl, ((bI.mod ae rfl)), bT, (bP.mono ae.wext), (bQ.mono ae.wext), (bR.mono ae.wext), (bS.mono ae.wext)⟩
   refine c_false rfl aJ rfl ?_
   refine jc (j8 ?_)
   obtain rfl := Option.some.inj hf
   exact ⟨rfl, _, _, aD, aE, ag, ah, aQ, aR, aS, aT, aU, aV, rfl, rfl, ((((((((((ay).put rfl).put rfl).put rfl).put rfl).put rfl).put rfl).put rfl).put rfl).put rfl), aF, ((Wext.refl _).trans aG), aH, (aI), ad, az, aW, aX, aY⟩
  refine r_skip (j := 3) (want := true) (d := 8) (c := (aa.2.1 == 7)) (v := false) rfl rfl ac rfl rfl ?_
  refine r_skip (j := 3) (want := true) (d := 8) (c := (aa.2.1 == 7)) (v := false) rfl rfl ac rfl rfl ?_
  refine r_skip (j := 3) (want := true) (d := 8) (c := (aa.2.1 == 7)) (v := false) rfl rfl ac rfl rfl ?_
  refine r_skip (j := 3) (want := true) (d := 8) (c := (aa.2.1 == 7)) (v := false) rfl rfl ac rfl rfl ?_
  refine r_pick_f (c := (aa.2.1 == 7)) (.bool false) rfl ac rfl rfl rfl rfl ?_
  refine j0 (j1 ?_)
  refine c_false rfl rfl rfl ?_
  refine jc (j8 ?_)
  obtain rfl := Option.some.inj hf
  exact ⟨rfl, _, _, aD, aE, ag, ah, aQ, aR, aS, aT, aU, aV, rfl, rfl, ((((((((((ay).put rfl).put rfl).put rfl).put rfl).put rfl).put rfl).put rfl).put rfl).put rfl), aF, ((Wext.refl _).trans aG), aH, (aI), ad, az, aW, aX, aY⟩
 ·exact ⟨_, _, none, 0, A1, c2, A4, c5, A7, c8, aB, aC, rfl, rfl, (Agr.refl _ _), bf, (Wext.refl _), bg, (Own.nil_ _), be, (h3.mono ak.wext), (h6.mono ak.wext), (h9.mono ak.wext), (bd.mono ak.wext)⟩
 rintro e a w ⟨rfl, cc, cd, aK, aL, ce, cf, cg, ch, ci, cj, ck, cl, rfl, rfl, bV, bc, cm, bW, bX, bY, cn, co, cp, cq⟩
 have bZ := (bV 1 rfl).trans aP
 refine j6 (j1 (j2 (j2 (j3 ?_))))
 refine r_fieldAddr ab 0 0 0 bZ rfl fo27_0 rfl ?_
 refine r_load ab 0 (.int .i64 af.2.1) rfl rfl (loads_one to3 ((bY.cell 0).trans rfl)) ?_
 refine r_bin (.int .i64 af.2.1) (.int .i64 5) (.bool (af.2.1 != 5)) rfl rfl rfl rfl (b_neq) ?_
 refine j0 (j1 ?_)
 refine if_else hf (fun aM hf => ?_) (fun aM hf => ?_)
 ·refine c_true rfl aM rfl ?_
  refine j2 (j3 ?_)
  refine r_assign (nl Val) rfl rfl ?_
  refine r_assign (.bool false) rfl rfl ?_
  refine j0 (j1 (jb (j9 ?_)))
  obtain rfl := Option.some.inj hf
  refine ret_two (nl Val) (.bool false) rfl ⟨rfl, rfl⟩ ⟨rfl, rfl⟩ bc ?_
  exact ⟨_, _, rfl, (RpV.mkList (Sl.nil_ _ _ _ (Nat.zero_le _))), (RpV.mkBool _ _)⟩
 refine c_false rfl aM rfl ?_
 refine ja (j1 (j2 (j3 ?_)))
 refine r_move (.slice aK af.1.length aL) bW rfl ?_
 refine r_assign (.slice aK af.1.length aL) rfl rfl ?_
 refine r_assign (.bool true) rfl rfl ?_
 refine j0 (j1 (jb ?_))
 obtain rfl := Option.some.inj hf
 refine ret_two (.slice aK af.1.length aL) (.bool true) rfl ⟨rfl, rfl⟩ ⟨rfl, rfl⟩ bc ?_
 exact ⟨_, _, rfl, (RpV.mkList bX.sl), (RpV.mkBool _ _)⟩

def S_value_String (f : (ByteArray → Option Val)) : Prop := ∀ (s0 : S) (v0 : Value) (a0 : ByteArray) (r : Val), RpV s0 a0 v0 → f a0 = some r → Ctr Go.Proofs.Try.prog 24 [v0] s0 (fun v τ => RpV τ r v)

set_option maxHeartbeats 1600000 in
set_option maxRecDepth 100000 in
theorem ok_value_String : S_value_String value_String := by
 intro s0 v0 a0 r h0 hf
 obtain rfl := RpV.str h0
 unfold value_String at hf
 have E0 : ExtB s0.N s0 s0 := ExtB.refl _ _
 refine ctr_of 5 Go.Proofs.Try.func24 rfl rfl rfl rfl ?_
 refine j2 (j3 ?_)
 refine r_alloc (B := s0.N) 1 E0.size _ [.int .i64 0, .int .i64 0, .string (⟨#[]⟩), nl Val, nl Key, nl Ent, nl ByteArray] ti27 rfl ?_
 intro s2 b1 k3 hb4
 have E5 := E0.x k3
 refine j0 (j1 (j2 (j3 ?_)))
 refine r_move (.string a0) rfl rfl ?_
 refine r_build tst27 [(0, .int .i64 2), (2, .string a0)] [.int .i64 2, .int .i64 0, .string a0, nl Val, nl Key, nl Ent, nl ByteArray] (eps_cons rfl (eps_cons rfl eps_nil)) rfl rfl ?_
 refine r_store hb4 0 (.agg #[.int .i64 2, .int .i64 0, .string a0, nl Val, nl Key, nl Ent, nl ByteArray]) [.int .i64 2, .int .i64 0, .string a0, nl Val, nl Key, nl Ent, nl ByteArray] [.int .i64 2, .int .i64 0, .string a0, nl Val, nl Key, nl Ent, nl ByteArray] rfl rfl rfl rfl rfl sz27 rfl rfl rfl ?_
 intro s6 hm7 hb8
 have E9 := E5.y hm7
 refine j0 (j1 (jb ?_))
 obtain rfl := Option.some.inj hf
 refine ret_one (.agg #[.int .i64 2, .int .i64 0, .string a0, nl Val, nl Key, nl Ent, nl ByteArray]) rfl ⟨rfl, _, rfl, loads_row tr27 (Blk.range hb8 0 [.int .i64 2, .int .i64 0, .string a0, nl Val, nl Key, nl Ent, nl ByteArray] rfl)⟩ E9 ?_
 exact (Val.rpvMk (v := (Val.mk 2 0 a0 ([] : List Val) ([] : List Key) ([] : List Ent) ([] : List ByteArray))) (Sl.nil_ _ _ _ (Nat.zero_le _)) (Sl.nil_ _ _ _ (Nat.zero_le _)) (Sl.nil_ _ _ _ (Nat.zero_le _)) (Sl.nil_ _ _ _ (Nat.zero_le _)))

def S_semtyperef1_EqualValues (f : ((List Val) → (List Val) → Option Bool)) : Prop := ∀ (s0 : S) (v0 : Value) (v1 : Value) (a0 : (List Val)) (a1 : (List Val)) (r : Bool), RpV s0 a0 v0 → RpV s0 a1 v1 → f a0 a1 = some r → Ctr Go.Proofs.Try.prog 25 [v0, v1] s0 (fun v τ => RpV τ r v)

set_option maxHeartbeats 1600000 in
set_option maxRecDepth 100000 in
theorem ok_semtyperef1_EqualValues (fuel : Nat) : S_semtyperef1_EqualValues (semtyperef1_EqualValues fuel) := by
 intro s0 v0 v1 a0 a1 r h0 h1 hf
 obtain ⟨A1, c2, rfl, h3⟩ := RpV.list h0
 obtain ⟨A4, c5, rfl, h6⟩ := RpV.list h1
 unfold semtyperef1_EqualValues at hf
 have E0 : ExtB s0.N s0 s0 := ExtB.refl _ _
 refine ctr_of 9 Go.Proofs.Try.func25 rfl rfl rfl rfl ?_
 refine j2 (j3 ?_)
 refine r_assign (.bool false) rfl rfl ?_
 refine j0 (j1 (j2 (j3 ?_)))
 refine r_move (.slice A1 a0.length c2) rfl rfl ?_
 refine r_move (.slice A4 a1.length c5) rfl rfl ?_
 obtain ⟨r7, e8, hf⟩ := bind_some hf
 refine r_call [.slice A1 a0.length c2, .slice A4 a1.length c5] (evs2 rfl rfl) rfl ((ok_semtyperef1_values fuel) _ _ _ _ _ _ (RpV.mkList h3) (RpV.mkList h6) e8) ?_
 intro ad s9 aa ab
 have ac := E0.x aa
 obtain rfl := RpV.int ab
 refine r_bin (.int .i64 r7) (.int .i64 0) (.bool (r7 == 0)) rfl rfl rfl rfl (b_eql) ?_
 refine r_assign (.bool (r7 == 0)) rfl rfl ?_
 refine j0 (j1 (jb ?_))
 obtain rfl := Option.some.inj hf
 refine ret_one (.bool (r7 == 0)) rfl ⟨rfl, rfl⟩ ac ?_
 exact (RpV.mkBool _ _)

def S_semtyperef1_List (f : ((List Val) → Option Val)) : Prop := ∀ (s0 : S) (v0 : Value) (a0 : (List Val)) (r : Val), RpV s0 a0 v0 → f a0 = some r → Ctr Go.Proofs.Try.prog 27 [v0] s0 (fun v τ => RpV τ r v)

end Go.Sx
