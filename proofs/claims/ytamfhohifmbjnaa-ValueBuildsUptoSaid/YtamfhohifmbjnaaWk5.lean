/- Printed by dec.py. The walks. -/
import Derived.Test.YtamfhohifmbjnaaWk4
namespace Go.Sx
open Go Go.RowKit
attribute [local irreducible] Go.wpList Go.Code.wp Go.Sx.Ctr Go.Sx.CtrE

set_option maxHeartbeats 1600000 in
set_option maxRecDepth 100000 in
theorem ok_semtyperef1_List (fuel : Nat) : S_semtyperef1_List (semtyperef1_List fuel) := by
 intro s0 v0 a0 r h0 hf
 obtain ⟨A1, c2, rfl, h3⟩ := RpV.list h0
 unfold semtyperef1_List at hf
 have E0 : ExtB s0.N s0 s0 := ExtB.refl _ _
 refine ctr_of 20 Go.Proofs.Try.func27 rfl rfl rfl rfl ?_
 refine j2 (j3 ?_)
 refine r_alloc (B := s0.N) 1 E0.size _ [.int .i64 0, .int .i64 0, .string (⟨#[]⟩), nl Val, nl Key, nl Ent, nl ByteArray] ti27 rfl ?_
 intro s5 b4 k6 hb7
 have E8 := E0.x k6
 refine j0 (j1 (j2 (j3 ?_)))
 obtain ⟨r9, bk, hf⟩ := bind_some hf
 refine r_call [] evs0 rfl (ok_semtyperef1_Nil _ _  bk) ?_
 intro dV dW aX bl
 have a1 := E8.x aX
 obtain ⟨ar, au, av, aw, ax, ay, az, aA, rfl, bm, bn, bo, bp⟩ := Val.rpv bl
 refine r_alloc (B := s0.N) 2 a1.size _ [.int .i64 0, .int .i64 0, .string (⟨#[]⟩), nl Val, nl Key, nl Ent, nl ByteArray] ti27 rfl ?_
 intro dX ad ae bq
 have br := a1.x ae
 refine r_store bq 0 (Val.ag r9 ar au av aw ax ay az aA) (Val.cs r9 ar au av aw ax ay az aA) (Val.cs r9 ar au av aw ax ay az aA) rfl rfl rfl rfl rfl sz27 rfl rfl rfl ?_
 intro a2 af bs
 have bt := br.y af
 refine j0 (j1 (j2 (j2 (j3 ?_))))
 refine r_move (.slice A1 a0.length c2) rfl rfl ?_
 refine r_len A1 a0.length c2 rfl rfl Go.Proofs.Try.underlying22 ?_
 refine r_bin (.int .i64 (a0.length : Int)) (.int .i64 1) (.int .i64 (w64 ((a0.length : Int) - 1))) rfl rfl rfl rfl (b_sub) ?_
 refine r_assign (.int .i64 (w64 ((a0.length : Int) - 1))) rfl rfl ?_
 refine j0 (j1 (j4 ?_))
 refine gen_F fun ap aB => ?_
 have bu : ap 0 = (.slice A1 a0.length c2) := (aB 0).trans rfl
 have bv : ap 2 = (.pointer (some ⟨b4, 0, none⟩)) := (aB 2).trans rfl
 have a3 : ap 3 = (.pointer (some ⟨ad, 0, none⟩)) := (aB 3).trans rfl
 have bw : ap 4 = (.int .i64 (w64 ((a0.length : Int) - 1))) := (aB 4).trans rfl
 obtain ⟨ab, bx, hf⟩ := bind_some hf
 refine wp_mono (wp_iter (step := semtyperef1_List_l1 a0) (fun q a w => ∃ (F : Fr) (τ : S) (A1 : Option Addr) (c1 : Nat) (A2 : Option Addr) (c2 : Nat) (A3 : Option Addr) (c3 : Nat) (A4 : Option Addr) (c4 : Nat), a = fr 20 F ∧ w = τ.w ∧ Agr [4, 9, 10, 11, 12, 13, 14, 15, 16, 17, 18] F ap ∧ ExtB s0.N s0 τ ∧ Wext a2 τ ∧ F 4 = (.int .i64 q.1) ∧ Blk s0.N 1 τ b4 27 [.int .i64 0, .int .i64 0, .string (⟨#[]⟩), nl Val, nl Key, nl Ent, nl ByteArray] ∧ Blk s0.N 2 τ ad 27 [.int .i64 q.2.1, .int .i64 q.2.2.1, .string q.2.2.2.1, .slice A1 q.2.2.2.2.1.length c1, .slice A2 q.2.2.2.2.2.1.length c2, .slice A3 q.2.2.2.2.2.2.1.length c3, .slice A4 q.2.2.2.2.2.2.2.length c4] ∧ Sl τ q.2.2.2.2.1 A1 c1 ∧ Sl τ q.2.2.2.2.2.1 A2 c2 ∧ Sl τ q.2.2.2.2.2.2.1 A3 c3 ∧ Sl τ q.2.2.2.2.2.2.2 A4 c4) (fun q e a w => e = .exit 0 ∧ ∃ (F : Fr) (τ : S) (A1 : Option Addr) (c1 : Nat) (A2 : Option Addr) (c2 : Nat) (A3 : Option Addr) (c3 : Nat) (A4 : Option Addr) (c4 : Nat), a = fr 20 F ∧ w = τ.w ∧ Agr [4, 9, 10, 11, 12, 13, 14, 15, 16, 17, 18] F ap ∧ ExtB s0.N s0 τ ∧ Wext a2 τ ∧ F 4 = (.int .i64 q.1) ∧ Blk s0.N 1 τ b4 27 [.int .i64 0, .int .i64 0, .string (⟨#[]⟩), nl Val, nl Key, nl Ent, nl ByteArray] ∧ Blk s0.N 2 τ ad 27 [.int .i64 q.2.1, .int .i64 q.2.2.1, .string q.2.2.2.1, .slice A1 q.2.2.2.2.1.length c1, .slice A2 q.2.2.2.2.2.1.length c2, .slice A3 q.2.2.2.2.2.2.1.length c3, .slice A4 q.2.2.2.2.2.2.2.length c4] ∧ Sl τ q.2.2.2.2.1 A1 c1 ∧ Sl τ q.2.2.2.2.2.1 A2 c2 ∧ Sl τ q.2.2.2.2.2.2.1 A3 c3 ∧ Sl τ q.2.2.2.2.2.2.2 A4 c4) (by rintro _ a w ⟨h, _⟩; cases h) ?_ _ _ _ _ _ bx ?_) ?_
 ·intro aa fl a w hf hI
  obtain ⟨dY, dZ, aC, aD, aE, aF, aG, aH, aI, aJ, rfl, rfl, aK, aL, aY, aM, a4, a5, a6, a7, a8, a9⟩ := hI
  unfold semtyperef1_List_l1 at hf
  have bz := (aK 0 rfl).trans bu
  have ba := (aK 3 rfl).trans a3
  refine j2 (j2 (j3 ?_))
  refine r_move (.int .i64 aa.1) aM rfl ?_
  refine r_bin (.int .i64 aa.1) (.int .i64 0) (.bool (decide (0 ≤ aa.1))) rfl rfl rfl rfl (b_geq) ?_
  refine j0 (j1 ?_)
  refine if_else hf (fun aZ hf => ?_) (fun aZ hf => ?_)
  ·refine c_true rfl aZ rfl ?_
   refine ja (j1 (j2 (j4 ?_)))
   obtain ⟨x68, bA, hf⟩ := bind_some hf
   obtain ⟨ac, bB, hf⟩ := bind_some hf
   refine wp_draw (B := frExt s0.N) [some 13, some 14, some 15, some 16, some 17, some 18, none] [[], [], [0, 1], [0, 1, 2], [], [0, 1, 2, 3, 4], [0, 1, 2, 3, 4, 5]] [Fct.eqv (.slice A1 a0.length c2), Fct.eqv (.int .i64 aa.1), Fct.elem (x68 : Val), Fct.data (x68 : Val), Fct.data ((Val.mk aa.2.1 aa.2.2.1 aa.2.2.2.1 aa.2.2.2.2.1 aa.2.2.2.2.2.1 aa.2.2.2.2.2.2.1 aa.2.2.2.2.2.2.2) : Val), Fct.data (ac : Val), Fct.any] (fun D F τ => (Blk s0.N 1 τ b4 27 [.int .i64 0, .int .i64 0, .string (⟨#[]⟩), nl Val, nl Key, nl Ent, nl ByteArray]) ∧ (D 6 = false → Blk s0.N 2 τ ad 27 [.int .i64 aa.2.1, .int .i64 aa.2.2.1, .string aa.2.2.2.1, .slice aC aa.2.2.2.2.1.length aD, .slice aE aa.2.2.2.2.2.1.length aF, .slice aG aa.2.2.2.2.2.2.1.length aH, .slice aI aa.2.2.2.2.2.2.2.length aJ]) ∧ (D 6 = true → (∃ (zA3 : Option Addr) (zc3 : Nat) (zA4 : Option Addr) (zc4 : Nat) (zA5 : Option Addr) (zc5 : Nat) (zA6 : Option Addr) (zc6 : Nat), Blk s0.N 2 τ ad 27 (Val.cs ac zA3 zc3 zA4 zc4 zA5 zc5 zA6 zc6) ∧ Sl τ ac.Kids zA3 zc3 ∧ Sl τ ac.Keys zA4 zc4 ∧ Sl τ ac.Entries zA5 zc5 ∧ Sl τ ac.Labels zA6 zc6))) (by kernel_rfl) rfl (by decide) (by decide) ⟨(a4.ext (ext_draw _)), (fun _ => (a5.ext (ext_draw _))), (fun h => Bool.noConfusion h)⟩ (by decide) (by decide) ⟨?_, ?_, ?_, ?_, ?_, ?_, ?_, trivial⟩ ?_
   ·intro d1 d2 d3 d4 d5 bC d6 d7 bD bE d8
    obtain ⟨bF, bG, d9⟩ := bD
    refine r_move (.slice A1 a0.length c2) ((bE 0 rfl).trans bz) rfl ?_
    exact d0 ⟨rfl, ⟨bF, (fun y0 => (bG y0)), (fun h => Bool.noConfusion ((bC 6 rfl).symm.trans h))⟩⟩
   ·intro ea eb ec ed ee bH ef eg bI bJ eh
    obtain ⟨bK, bL, ei⟩ := bI
    refine r_move (.int .i64 aa.1) ((bJ 4 rfl).trans aM) rfl ?_
    exact d0 ⟨rfl, ⟨bK, (fun y0 => (bL y0)), (fun h => Bool.noConfusion ((bH 6 rfl).symm.trans h))⟩⟩
   ·intro ej ek el em en bM eo bN bO ep bb
    obtain ⟨bP, bQ, eq⟩ := bO
    refine r_indexAddr (T := 22) (E := 27) ((((((h3.mono k6.wext).mono aX.wext).mono ae.wext).mono af.wext).mono aY).mono bN) bA (bb 0 rfl 13 rfl) (bb 1 rfl 14 rfl) rfl rfl Go.Proofs.Try.underlying22 sz27 ?_
    intro er es et bR bS
    obtain ⟨eu, ev, ew, ex, ey, ez, eA, eB, rfl, bT, bU, bV, bW⟩ := Val.cells_iff.1 bR
    exact d0 ⟨⟨_, _, _, rfl, (Val.cells_iff.2 ⟨_, _, _, _, _, _, _, _, rfl, bT, bU, bV, bW⟩), bS⟩, ⟨bP, (fun y0 => (bQ y0)), (fun h => Bool.noConfusion ((bM 6 rfl).symm.trans h))⟩⟩
   ·intro eC bX bY eD eE bZ eF eG b0 eH b1
    obtain ⟨b2, b3, eI⟩ := b0
    obtain ⟨b5, b6, eJ, b7, b8, b9⟩ : (Fct.elem (x68 : Val)).p (bX 15) bY := b1 2 rfl 15 rfl
    obtain ⟨ca, cb, cc, cd, ce, cf, cg, ch, rfl, ci, cj, ck, cl⟩ := Val.cells_iff.1 b8
    refine r_load b5 b6 (Val.ag x68 ca cb cc cd ce cf cg ch) b7 rfl (loads_row tr27 b9.2) ?_
    exact d0 ⟨(Val.rpvMk (v := x68) ci cj ck cl), ⟨b2, (fun y0 => (b3 y0)), (fun h => Bool.noConfusion ((bZ 6 rfl).symm.trans h))⟩⟩
   ·intro eK eL eM eN eO bc eP aN cm cn eQ
    obtain ⟨co, bd, eR⟩ := cm
    have cp := bd (bc 6 rfl)
    refine r_load ad 0 (.agg #[.int .i64 aa.2.1, .int .i64 aa.2.2.1, .string aa.2.2.2.1, .slice aC aa.2.2.2.2.1.length aD, .slice aE aa.2.2.2.2.2.1.length aF, .slice aG aa.2.2.2.2.2.2.1.length aH, .slice aI aa.2.2.2.2.2.2.2.length aJ]) ((cn 3 rfl).trans ba) rfl (loads_row tr27 (Blk.range cp 0 [.int .i64 aa.2.1, .int .i64 aa.2.2.1, .string aa.2.2.2.1, .slice aC aa.2.2.2.2.1.length aD, .slice aE aa.2.2.2.2.2.1.length aF, .slice aG aa.2.2.2.2.2.2.1.length aH, .slice aI aa.2.2.2.2.2.2.2.length aJ] rfl)) ?_
    exact d0 ⟨(Val.rpvMk (v := (Val.mk aa.2.1 aa.2.2.1 aa.2.2.2.1 aa.2.2.2.2.1 aa.2.2.2.2.2.1 aa.2.2.2.2.2.2.1 aa.2.2.2.2.2.2.2)) (a6.mono aN) (a7.mono aN) (a8.mono aN) (a9.mono aN)), ⟨co, (fun y0 => (bd y0)), (fun h => Bool.noConfusion ((bc 6 rfl).symm.trans h))⟩⟩
   ·intro eS be bf eT eU cq cr eV cs eW bg
    have ct := aL.trans cr
    obtain ⟨cu, cv, eX⟩ := cs
    have cw : RpV bf (x68 : Val) (be 16) := bg 3 rfl 16 rfl
    obtain ⟨cx, cy, cz, cA, cB, cC, cD, cE, cF, cG, cH, cI, cJ⟩ := Val.rpv cw
    have cK : RpV bf ((Val.mk aa.2.1 aa.2.2.1 aa.2.2.2.1 aa.2.2.2.2.1 aa.2.2.2.2.2.1 aa.2.2.2.2.2.2.1 aa.2.2.2.2.2.2.2) : Val) (be 17) := bg 4 rfl 17 rfl
    obtain ⟨cL, cM, cN, cO, cP, cQ, cR, cS, cT, cU, cV, cW, cX⟩ := Val.rpv cK
    refine r_call [Val.ag x68 cx cy cz cA cB cC cD cE, .agg #[.int .i64 aa.2.1, .int .i64 aa.2.2.1, .string aa.2.2.2.1, .slice cL ((Val.mk aa.2.1 aa.2.2.1 aa.2.2.2.1 aa.2.2.2.2.1 aa.2.2.2.2.2.1 aa.2.2.2.2.2.2.1 aa.2.2.2.2.2.2.2).Kids).length cM, .slice cN ((Val.mk aa.2.1 aa.2.2.1 aa.2.2.2.1 aa.2.2.2.2.1 aa.2.2.2.2.2.1 aa.2.2.2.2.2.2.1 aa.2.2.2.2.2.2.2).Keys).length cO, .slice cP ((Val.mk aa.2.1 aa.2.2.1 aa.2.2.2.1 aa.2.2.2.2.1 aa.2.2.2.2.2.1 aa.2.2.2.2.2.2.1 aa.2.2.2.2.2.2.2).Entries).length cQ, .slice cR ((Val.mk aa.2.1 aa.2.2.1 aa.2.2.2.1 aa.2.2.2.2.1 aa.2.2.2.2.2.1 aa.2.2.2.2.2.2.1 aa.2.2.2.2.2.2.2).Labels).length cS]] (evs2 cF cT) rfl (ok_semtyperef1_Cons _ _ _ _ _ _ (Val.rpvMk (v := x68) cG cH cI cJ) (Val.rpvMk (v := (Val.mk aa.2.1 aa.2.2.1 aa.2.2.2.1 aa.2.2.2.2.1 aa.2.2.2.2.2.1 aa.2.2.2.2.2.2.1 aa.2.2.2.2.2.2.2)) cU cV cW cX) bB) ?_
    intro eY eZ aO cY
    obtain ⟨e0, e1, e2, e3, e4, e5, e6, e7, rfl, cZ, c0, c5, c6⟩ := Val.rpv cY
    refine j0 ?_
    exact ⟨_, _, rfl, rfl, (ExtB.refl _ _).trans (aO.mono ct.size), (Wext.refl _).trans aO.wext, (Val.rpvMk (v := ac) cZ c0 c5 c6), ⟨(cu.ext aO), (fun y0 => ((cv y0).ext aO)), (fun h => Bool.noConfusion ((cq 6 rfl).symm.trans h))⟩⟩
   ·intro e8 c7 c8 c9 e9 fa da fb db dc dd
    have de := aL.trans da
    obtain ⟨df, dg, fc⟩ := db
    have dh := dg c9
    have di : RpV c8 (ac : Val) (c7 18) := dd 5 rfl 18 rfl
    obtain ⟨aP, aQ, aR, aS, aT, aU, aV, aW, dj, dk, dl, dm, dn⟩ := Val.rpv di
    refine r_store dh 0 (Val.ag ac aP aQ aR aS aT aU aV aW) (Val.cs ac aP aQ aR aS aT aU aV aW) (Val.cs ac aP aQ aR aS aT aU aV aW) ((dc 3 rfl).trans ba) dj rfl rfl rfl sz27 rfl rfl rfl ?_
    intro fd ag dp
    refine j0 ?_
    exact ⟨_, _, rfl, rfl, (ExtB.refl _ _).trans ((ExtB.refl _ _).mod de.size ag), (Wext.refl _).trans ag.wext, trivial, ⟨(df.mod ag rfl), (fun h => Bool.noConfusion h), (fun _ => ⟨aP, aQ, aR, aS, aT, aU, aV, aW, dp, (dk.mono ag.wext), (dl.mono ag.wext), (dm.mono ag.wext), (dn.mono ag.wext)⟩)⟩⟩
   intro fe ff dq dr ds bh fg
   have dt := aL.trans dq
   obtain ⟨du, fh, dv⟩ := ds
   have dw := du
   obtain ⟨dx, dy, dz, dA, dB, dC, dD, dE, dF, dG, dH, dI, dJ⟩ := dv rfl
   have dK := (bh 4 rfl).trans aM
   refine j5 (j1 (j3 ?_))
   refine r_move (.int .i64 aa.1) dK rfl ?_
   refine r_bin (.int .i64 aa.1) (.int .i64 1) (.int .i64 (w64 (aa.1 - 1))) rfl rfl rfl rfl (b_sub) ?_
   refine r_assign (.int .i64 (w64 (aa.1 - 1))) rfl rfl ?_
   refine j0 ?_
   obtain rfl := Option.some.inj hf
   exact ⟨rfl, _, _, dx, dy, dz, dA, dB, dC, dD, dE, rfl, rfl, (((((((aK).put rfl).put rfl).draw bh rfl).put rfl).put rfl).put rfl), dt, (((Wext.refl _).trans aY).trans dr), rfl, dw, dF, dG, dH, dI, dJ⟩
  refine c_false rfl aZ rfl ?_
  refine jc (j8 ?_)
  obtain rfl := Option.some.inj hf
  exact ⟨rfl, _, _, aC, aD, aE, aF, aG, aH, aI, aJ, rfl, rfl, (((aK).put rfl).put rfl), aL, ((Wext.refl _).trans aY), aM, a4, a5, a6, a7, a8, a9⟩
 ·exact ⟨_, _, ar, au, av, aw, ax, ay, az, aA, rfl, rfl, (Agr.refl _ _), bt, (Wext.refl _), bw, (((hb7.ext aX).ext ae).mod af rfl), bs, ((bm.mono ae.wext).mono af.wext), ((bn.mono ae.wext).mono af.wext), ((bo.mono ae.wext).mono af.wext), ((bp.mono ae.wext).mono af.wext)⟩
 rintro e a w ⟨rfl, fj, fk, ah, ai, aj, ak, al, am, an, ao, rfl, rfl, bi, dL, fm, fn, dM, dN, dO, dP, dQ, dR⟩
 have bj := (bi 2 rfl).trans bv
 have dS := (bi 3 rfl).trans a3
 refine j6 (j1 (j2 (j3 ?_)))
 refine r_load ad 0 (.agg #[.int .i64 ab.2.1, .int .i64 ab.2.2.1, .string ab.2.2.2.1, .slice ah ab.2.2.2.2.1.length ai, .slice aj ab.2.2.2.2.2.1.length ak, .slice al ab.2.2.2.2.2.2.1.length am, .slice an ab.2.2.2.2.2.2.2.length ao]) dS rfl (loads_row tr27 (Blk.range dN 0 [.int .i64 ab.2.1, .int .i64 ab.2.2.1, .string ab.2.2.2.1, .slice ah ab.2.2.2.2.1.length ai, .slice aj ab.2.2.2.2.2.1.length ak, .slice al ab.2.2.2.2.2.2.1.length am, .slice an ab.2.2.2.2.2.2.2.length ao] rfl)) ?_
 refine r_store dM 0 (.agg #[.int .i64 ab.2.1, .int .i64 ab.2.2.1, .string ab.2.2.2.1, .slice ah ab.2.2.2.2.1.length ai, .slice aj ab.2.2.2.2.2.1.length ak, .slice al ab.2.2.2.2.2.2.1.length am, .slice an ab.2.2.2.2.2.2.2.length ao]) [.int .i64 ab.2.1, .int .i64 ab.2.2.1, .string ab.2.2.2.1, .slice ah ab.2.2.2.2.1.length ai, .slice aj ab.2.2.2.2.2.1.length ak, .slice al ab.2.2.2.2.2.2.1.length am, .slice an ab.2.2.2.2.2.2.2.length ao] [.int .i64 ab.2.1, .int .i64 ab.2.2.1, .string ab.2.2.2.1, .slice ah ab.2.2.2.2.1.length ai, .slice aj ab.2.2.2.2.2.1.length ak, .slice al ab.2.2.2.2.2.2.1.length am, .slice an ab.2.2.2.2.2.2.2.length ao] bj rfl rfl rfl rfl sz27 rfl rfl rfl ?_
 intro fo aq dT
 have dU := dL.y aq
 refine j0 (j1 (jb ?_))
 obtain rfl := Option.some.inj hf
 refine ret_one (.agg #[.int .i64 ab.2.1, .int .i64 ab.2.2.1, .string ab.2.2.2.1, .slice ah ab.2.2.2.2.1.length ai, .slice aj ab.2.2.2.2.2.1.length ak, .slice al ab.2.2.2.2.2.2.1.length am, .slice an ab.2.2.2.2.2.2.2.length ao]) rfl ⟨rfl, _, bj, loads_row tr27 (Blk.range dT 0 [.int .i64 ab.2.1, .int .i64 ab.2.2.1, .string ab.2.2.2.1, .slice ah ab.2.2.2.2.1.length ai, .slice aj ab.2.2.2.2.2.1.length ak, .slice al ab.2.2.2.2.2.2.1.length am, .slice an ab.2.2.2.2.2.2.2.length ao] rfl)⟩ dU ?_
 exact (Val.rpvMk (v := (Val.mk ab.2.1 ab.2.2.1 ab.2.2.2.1 ab.2.2.2.2.1 ab.2.2.2.2.2.1 ab.2.2.2.2.2.2.1 ab.2.2.2.2.2.2.2)) (dO.mono aq.wext) (dP.mono aq.wext) (dQ.mono aq.wext) (dR.mono aq.wext))

def S_value_Atom (f : (ByteArray → Option Val)) : Prop := ∀ (s0 : S) (v0 : Value) (a0 : ByteArray) (r : Val), RpV s0 a0 v0 → f a0 = some r → Ctr Go.Proofs.Try.prog 30 [v0] s0 (fun v τ => RpV τ r v)

set_option maxHeartbeats 1600000 in
set_option maxRecDepth 100000 in
theorem ok_value_Atom : S_value_Atom value_Atom := by
 intro s0 v0 a0 r h0 hf
 obtain rfl := RpV.str h0
 unfold value_Atom at hf
 have E0 : ExtB s0.N s0 s0 := ExtB.refl _ _
 refine ctr_of 5 Go.Proofs.Try.func30 rfl rfl rfl rfl ?_
 refine j2 (j3 ?_)
 refine r_alloc (B := s0.N) 1 E0.size _ [.int .i64 0, .int .i64 0, .string (⟨#[]⟩), nl Val, nl Key, nl Ent, nl ByteArray] ti27 rfl ?_
 intro s2 b1 k3 hb4
 have E5 := E0.x k3
 refine j0 (j1 (j2 (j3 ?_)))
 refine r_move (.string a0) rfl rfl ?_
 refine r_build tst27 [(0, .int .i64 3), (2, .string a0)] [.int .i64 3, .int .i64 0, .string a0, nl Val, nl Key, nl Ent, nl ByteArray] (eps_cons rfl (eps_cons rfl eps_nil)) rfl rfl ?_
 refine r_store hb4 0 (.agg #[.int .i64 3, .int .i64 0, .string a0, nl Val, nl Key, nl Ent, nl ByteArray]) [.int .i64 3, .int .i64 0, .string a0, nl Val, nl Key, nl Ent, nl ByteArray] [.int .i64 3, .int .i64 0, .string a0, nl Val, nl Key, nl Ent, nl ByteArray] rfl rfl rfl rfl rfl sz27 rfl rfl rfl ?_
 intro s6 hm7 hb8
 have E9 := E5.y hm7
 refine j0 (j1 (jb ?_))
 obtain rfl := Option.some.inj hf
 refine ret_one (.agg #[.int .i64 3, .int .i64 0, .string a0, nl Val, nl Key, nl Ent, nl ByteArray]) rfl ⟨rfl, _, rfl, loads_row tr27 (Blk.range hb8 0 [.int .i64 3, .int .i64 0, .string a0, nl Val, nl Key, nl Ent, nl ByteArray] rfl)⟩ E9 ?_
 exact (Val.rpvMk (v := (Val.mk 3 0 a0 ([] : List Val) ([] : List Key) ([] : List Ent) ([] : List ByteArray))) (Sl.nil_ _ _ _ (Nat.zero_le _)) (Sl.nil_ _ _ _ (Nat.zero_le _)) (Sl.nil_ _ _ _ (Nat.zero_le _)) (Sl.nil_ _ _ _ (Nat.zero_le _)))

def S_value_Pid (f : (Int → Option Val)) : Prop := ∀ (s0 : S) (v0 : Value) (a0 : Int) (r : Val), RpV s0 a0 v0 → f a0 = some r → Ctr Go.Proofs.Try.prog 32 [v0] s0 (fun v τ => RpV τ r v)

set_option maxHeartbeats 1600000 in
set_option maxRecDepth 100000 in
theorem ok_value_Pid : S_value_Pid value_Pid := by
 intro s0 v0 a0 r h0 hf
 obtain rfl := RpV.int h0
 unfold value_Pid at hf
 have E0 : ExtB s0.N s0 s0 := ExtB.refl _ _
 refine ctr_of 5 Go.Proofs.Try.func32 rfl rfl rfl rfl ?_
 refine j2 (j3 ?_)
 refine r_alloc (B := s0.N) 1 E0.size _ [.int .i64 0, .int .i64 0, .string (⟨#[]⟩), nl Val, nl Key, nl Ent, nl ByteArray] ti27 rfl ?_
 intro s2 b1 k3 hb4
 have E5 := E0.x k3
 refine j0 (j1 (j2 (j3 ?_)))
 refine r_move (.int .i64 a0) rfl rfl ?_
 refine r_build tst27 [(0, .int .i64 4), (1, .int .i64 a0)] [.int .i64 4, .int .i64 a0, .string (⟨#[]⟩), nl Val, nl Key, nl Ent, nl ByteArray] (eps_cons rfl (eps_cons rfl eps_nil)) rfl rfl ?_
 refine r_store hb4 0 (.agg #[.int .i64 4, .int .i64 a0, .string (⟨#[]⟩), nl Val, nl Key, nl Ent, nl ByteArray]) [.int .i64 4, .int .i64 a0, .string (⟨#[]⟩), nl Val, nl Key, nl Ent, nl ByteArray] [.int .i64 4, .int .i64 a0, .string (⟨#[]⟩), nl Val, nl Key, nl Ent, nl ByteArray] rfl rfl rfl rfl rfl sz27 rfl rfl rfl ?_
 intro s6 hm7 hb8
 have E9 := E5.y hm7
 refine j0 (j1 (jb ?_))
 obtain rfl := Option.some.inj hf
 refine ret_one (.agg #[.int .i64 4, .int .i64 a0, .string (⟨#[]⟩), nl Val, nl Key, nl Ent, nl ByteArray]) rfl ⟨rfl, _, rfl, loads_row tr27 (Blk.range hb8 0 [.int .i64 4, .int .i64 a0, .string (⟨#[]⟩), nl Val, nl Key, nl Ent, nl ByteArray] rfl)⟩ E9 ?_
 exact (Val.rpvMk (v := (Val.mk 4 a0 (⟨#[]⟩) ([] : List Val) ([] : List Key) ([] : List Ent) ([] : List ByteArray))) (Sl.nil_ _ _ _ (Nat.zero_le _)) (Sl.nil_ _ _ _ (Nat.zero_le _)) (Sl.nil_ _ _ _ (Nat.zero_le _)) (Sl.nil_ _ _ _ (Nat.zero_le _)))

def S_semtypelaw4_ValueBuilds (f : ((List (List Int)) → Int → ByteArray → Option Bool)) : Prop := ∀ (s0 : S) (v0 : Value) (v1 : Value) (v2 : Value) (a0 : (List (List Int))) (a1 : Int) (a2 : ByteArray) (r : Bool), RpV s0 a0 v0 → RpV s0 a1 v1 → RpV s0 a2 v2 → f a0 a1 a2 = some r → Ctr Go.Proofs.Try.prog 6 [v0, v1, v2] s0 (fun v τ => RpV τ r v)

set_option maxHeartbeats 1600000 in
set_option maxRecDepth 100000 in
theorem ok_semtypelaw4_ValueBuilds (fuel : Nat) : S_semtypelaw4_ValueBuilds (semtypelaw4_ValueBuilds fuel) := by
 intro s0 v0 v1 v2 a0 a1 a2 r h0 h1 h2 hf
 obtain ⟨A1, c2, rfl, h3⟩ := RpV.list h0
 obtain rfl := RpV.int h1
 obtain rfl := RpV.str h2
 unfold semtypelaw4_ValueBuilds at hf
 have E0 : ExtB s0.N s0 s0 := ExtB.refl _ _
 refine ctr_of 130 Go.Proofs.Try.func6 rfl rfl rfl rfl ?_
 refine j2 (j3 ?_)
 refine r_assign (.bool false) rfl rfl ?_
 refine j0 (j1 (j2 (j2 (j3 ?_))))
 refine r_move (.slice A1 a0.length c2) rfl rfl ?_
 refine r_len A1 a0.length c2 rfl rfl Go.Proofs.Try.underlying40 ?_
 refine r_bin (.int .i64 (a0.length : Int)) (.int .i64 4) (.bool (decide (4 < (a0.length : Int)))) rfl rfl rfl rfl (b_gtr) ?_
 refine r_move (.bool (decide (4 < (a0.length : Int)))) rfl rfl ?_
 refine if_else hf (fun hc4 hf => ?_) (fun hc4 hf => ?_)
 ·refine r_skip (j := 3) (want := false) (d := 18) (c := decide (4 < (a0.length : Int))) (v := true) rfl rfl hc4 rfl rfl ?_
  refine r_skip (j := 3) (want := false) (d := 18) (c := decide (4 < (a0.length : Int))) (v := true) rfl rfl hc4 rfl rfl ?_
  refine r_skip (j := 3) (want := false) (d := 18) (c := decide (4 < (a0.length : Int))) (v := true) rfl rfl hc4 rfl rfl ?_
  refine r_pick_t (c := decide (4 < (a0.length : Int))) (.bool true) rfl hc4 rfl rfl rfl rfl ?_
  refine j0 (j1 ?_)
  refine c_true rfl rfl rfl ?_
  refine j2 (j3 ?_)
  obtain ⟨r5, e6, hf⟩ := bind_some hf
  refine r_call [] evs0 rfl ((ok_semtypelaw4_awake fuel) _ _  e6) ?_
  intro v8 s7 k9 hn
  have ho := E0.x k9
  obtain rfl := RpV.bool hn
  refine r_assign (.bool r5) rfl rfl ?_
  refine j0 (j1 (jb (j9 ?_)))
  obtain rfl := Option.some.inj hf
  refine ret_one (.bool r5) rfl ⟨rfl, rfl⟩ ho ?_
  exact (RpV.mkBool _ _)
 refine r_guard (j := 3) (want := false) (d := 18) (c := decide (4 < (a0.length : Int))) (v := false) rfl rfl hc4 rfl rfl ?_
 refine r_move (.string a2) rfl rfl ?_
 refine r_guard (j := 3) (want := false) (d := 18) (c := decide (4 < (a0.length : Int))) (v := false) rfl rfl hc4 rfl rfl ?_
 refine r_lenStr a2 rfl rfl Go.Proofs.Try.underlying9 ?_
 refine r_guard (j := 3) (want := false) (d := 18) (c := decide (4 < (a0.length : Int))) (v := false) rfl rfl hc4 rfl rfl ?_
 refine r_bin (.int .i64 (a2.size : Int)) (.int .i64 64) (.bool (decide (64 < (a2.size : Int)))) rfl rfl rfl rfl (b_gtr) ?_
 refine r_pick_f (c := decide (4 < (a0.length : Int))) (.bool (decide (64 < (a2.size : Int)))) rfl hc4 rfl rfl rfl rfl ?_
 refine j0 (j1 ?_)
 refine if_else hf (fun da hf => ?_) (fun da hf => ?_)
 ·refine c_true rfl da rfl ?_
  refine j2 (j3 ?_)
  obtain ⟨dT, hq, hf⟩ := bind_some hf
  refine r_call [] evs0 rfl ((ok_semtypelaw4_awake fuel) _ _  hq) ?_
  intro Mn Mo hr hs
  have ht := E0.x hr
  obtain rfl := RpV.bool hs
  refine r_assign (.bool dT) rfl rfl ?_
  refine j0 (j1 (jb (j9 ?_)))
  obtain rfl := Option.some.inj hf
  refine ret_one (.bool dT) rfl ⟨rfl, rfl⟩ ht ?_
  exact (RpV.mkBool _ _)
 refine c_false rfl da rfl ?_
 refine ja (j1 (j2 (j3 ?_)))
 refine r_assign (nl Val) rfl rfl ?_
 refine j0 (j1 (j2 (j2 (j3 ?_))))
 refine r_assign (.int .i64 0) rfl rfl ?_
 refine j0 (j1 (j4 ?_))
 refine gen_F fun bt bK => ?_
 have hu : bt 0 = (.slice A1 a0.length c2) := (bK 0).trans rfl
 have hv : bt 1 = (.int .i64 a1) := (bK 1).trans rfl
 have hw : bt 2 = (.string a2) := (bK 2).trans rfl
 have hx : bt 7 = (nl Val) := (bK 7).trans rfl
 have hy : bt 8 = (.int .i64 0) := (bK 8).trans rfl
 obtain ⟨hz, hA, hf⟩ := bind_some hf
 refine wp_mono (wp_iter (step := semtypelaw4_ValueBuilds_l1 fuel a0) (fun q a w => ∃ (F : Fr) (τ : S) (A1 : Option Addr) (c1 : Nat), a = fr 130 F ∧ w = τ.w ∧ Agr [6, 7, 8, 24, 25, 26, 27, 28, 29, 30, 31, 32, 33, 34, 35, 36, 37, 38, 39, 40, 41, 42, 43, 44] F bt ∧ ExtB s0.N s0 τ ∧ Wext s0 τ ∧ F 7 = (.slice A1 q.1.length c1) ∧ Own s0.N 1 27 τ q.1 A1 c1 ∧ F 8 = (.int .i64 q.2)) (fun o e a w => match o with | .inl q => e = .exit 0 ∧ ∃ (F : Fr) (τ : S) (A1 : Option Addr) (c1 : Nat), a = fr 130 F ∧ w = τ.w ∧ Agr [6, 7, 8, 24, 25, 26, 27, 28, 29, 30, 31, 32, 33, 34, 35, 36, 37, 38, 39, 40, 41, 42, 43, 44] F bt ∧ ExtB s0.N s0 τ ∧ Wext s0 τ ∧ F 7 = (.slice A1 q.1.length c1) ∧ Own s0.N 1 27 τ q.1 A1 c1 ∧ F 8 = (.int .i64 q.2) | .inr r => e = .ret ∧ ∃ (F : Fr) (τ : S) (va : Value), a = fr 130 F ∧ w = τ.w ∧ ExtB s0.N s0 τ ∧ ResV Go.Proofs.Try.prog 130 F τ.w (.tmp 6) va ∧ RpV τ r va) (by rintro (_ | _) a w ⟨h, _⟩ <;> cases h) ?_ _ _ _ _ _ hA ?_) ?_
 ·intro aZ fl a w hf hI
  obtain ⟨Mp, Mq, dU, dV, rfl, rfl, db, dc, bW, dW, dX, bL⟩ := hI
  unfold semtypelaw4_ValueBuilds_l1 at hf
  have dd := (db 0 rfl).trans hu
  refine j2 (j2 (j3 ?_))
  refine r_move (.int .i64 aZ.2) bL rfl ?_
  refine r_move (.slice A1 a0.length c2) dd rfl ?_
  refine r_len A1 a0.length c2 rfl rfl Go.Proofs.Try.underlying40 ?_
  refine r_bin (.int .i64 aZ.2) (.int .i64 (a0.length : Int)) (.bool (decide (aZ.2 < (a0.length : Int)))) rfl rfl rfl rfl (b_lss) ?_
  refine j0 (j1 ?_)
  refine if_else hf (fun de hf => ?_) (fun de hf => ?_)
  ·refine c_true rfl de rfl ?_
   refine ja (j1 (j2 (j4 (j2 (j2 (j3 ?_))))))
   refine r_move (.slice A1 a0.length c2) dd rfl ?_
   refine r_move (.int .i64 aZ.2) bL rfl ?_
   obtain ⟨x43, hB, hf⟩ := bind_some hf
   refine r_indexAddr (T := 40) (E := 28) (h3.mono bW) hB rfl rfl rfl rfl Go.Proofs.Try.underlying40 sz28 ?_
   intro hC hD Mr hE hF
   obtain ⟨dY, dZ, rfl, Ms⟩ := hE
   refine r_load hC hD (.slice dY x43.length dZ) rfl rfl (loads_one to28 (hF.2 0 _ rfl)) ?_
   refine r_len dY x43.length dZ rfl rfl Go.Proofs.Try.underlying28 ?_
   refine r_bin (.int .i64 (x43.length : Int)) (.int .i64 40) (.bool (decide (40 < (x43.length : Int)))) rfl rfl rfl rfl (b_gtr) ?_
   refine j0 (j1 ?_)
   refine if_else hf (fun df hf => ?_) (fun df hf => ?_)
   ·refine c_true rfl df rfl ?_
    refine j2 (j3 ?_)
    obtain ⟨d1, hG, hf⟩ := bind_some hf
    refine r_call [] evs0 rfl ((ok_semtypelaw4_awake fuel) _ _  hG) ?_
    intro Mt Mu hH hJ
    have hK := dc.x hH
    obtain rfl := RpV.bool hJ
    refine r_assign (.bool d1) rfl rfl ?_
    refine j0 (j1 (jb (j9 (j7 (j9 ?_)))))
    obtain rfl := Option.some.inj hf
    exact ⟨rfl, _, _, (.bool d1), rfl, rfl, hK, ⟨rfl, rfl⟩, (RpV.mkBool _ _)⟩
   refine c_false rfl df rfl ?_
   refine ja (j1 (j3 ?_))
   refine r_move (.slice dU aZ.1.length dV) dW rfl ?_
   refine r_move (.slice A1 a0.length c2) dd rfl ?_
   refine r_move (.int .i64 aZ.2) bL rfl ?_
   obtain ⟨x61, hL, hf⟩ := bind_some hf
   refine r_indexAddr (T := 40) (E := 28) (h3.mono bW) hL rfl rfl rfl rfl Go.Proofs.Try.underlying40 sz28 ?_
   intro hM hN Mv hO hP
   obtain ⟨d2, d3, rfl, hQ⟩ := hO
   refine r_load hM hN (.slice d2 x61.length d3) rfl rfl (loads_one to28 (hP.2 0 _ rfl)) ?_
   obtain ⟨bX, hR, hf⟩ := bind_some hf
   refine r_call [.slice d2 x61.length d3] (evs1 rfl) rfl ((ok_semtypelaw4_drawn fuel) _ _ _ _ (RpV.mkList hQ) hR) ?_
   intro Mw Mx dg hS
   have d4 := dc.x dg
   obtain ⟨hT, hU, hV, hW, hX, hY, hZ, h4, rfl, h5, h6, h7, h8⟩ := Val.rpv hS
   refine r_buildSlice (B := s0.N) (E := 27) 2 d4.size ts22 (xs := [bX]) [Val.ag bX hT hU hV hW hX hY hZ h4] (eps_cons rfl eps_nil) rfl rfl rfl (by decide) rfl (by simp [Value.cells, Rp.sz]) ⟨_, _, rfl, (Val.cells_iff.2 ⟨_, _, _, _, _, _, _, _, rfl, h5, h6, h7, h8⟩), rfl⟩ ?_
   intro My Mz MA dh h9
   have d5 := d4.x dh
   obtain ⟨MB, ia, hf⟩ := bind_some hf
   refine r_append (B := s0.N) (id := 1) (E := 27) (xs := aZ.1) (ys := [bX]) d5.size (((dX.ext dg).ext dh)) h9.sl ts22 (room_some ia) rfl rfl rfl rfl ?_
   intro MC d6 d7 d8 ib
   have ic := d5.y d8
   refine r_assign (.slice d6 (aZ.1 ++ [bX]).length d7) rfl rfl ?_
   refine j0 (j5 (j1 (j3 ?_)))
   refine r_move (.int .i64 aZ.2) bL rfl ?_
   refine r_bin (.int .i64 aZ.2) (.int .i64 1) (.int .i64 (w64 (aZ.2 + 1))) rfl rfl rfl rfl (b_add) ?_
   refine r_assign (.int .i64 (w64 (aZ.2 + 1))) rfl rfl ?_
   refine j0 ?_
   obtain rfl := Option.some.inj hf
   exact ⟨rfl, _, _, d6, d7, rfl, rfl, (((((((((((((((((((((((db).put rfl).put rfl).put rfl).put rfl).put rfl).put rfl).put rfl).put rfl).put rfl).put rfl).put rfl).put rfl).put rfl).put rfl).put rfl).put rfl).put rfl).put rfl).put rfl).put rfl).put rfl).put rfl), ic, (((((Wext.refl _).trans bW).trans dg.wext).trans dh.wext).trans d8.wext), rfl, (ib), rfl⟩
  refine c_false rfl de rfl ?_
  refine jc (j8 ?_)
  obtain rfl := Option.some.inj hf
  exact ⟨rfl, _, _, dU, dV, rfl, rfl, (((((db).put rfl).put rfl).put rfl).put rfl), dc, ((Wext.refl _).trans bW), dW, (dX), bL⟩
 ·exact ⟨_, _, none, 0, rfl, rfl, (Agr.refl _ _), E0, (Wext.refl _), hx, (Own.nil_ _), hy⟩
 intro e a w hp
 rcases hz with aq | r
 ·replace hf := onEnd_inl hf
  obtain ⟨rfl, MD, ME, ar, au, rfl, rfl, d9, ie, MF, di, bY, MG⟩ := hp
  have ea := (d9 1 rfl).trans hv
  have eb := (d9 2 rfl).trans hw
  refine j6 (j1 (j2 (j3 ?_)))
  refine r_move (.slice ar aq.1.length au) di rfl ?_
  obtain ⟨aV, ig, hf⟩ := bind_some hf
  refine r_call [.slice ar aq.1.length au] (evs1 rfl) rfl ((ok_value_Tuple fuel) _ _ _ _ (RpV.mkList bY.sl) ig) ?_
  intro MH MI bZ ih
  have ii := ie.x bZ
  obtain ⟨a3, a4, a7, a8, a9, ba, bb, bc, rfl, ec, ij, ik, il⟩ := Val.rpv ih
  refine r_move (.slice ar aq.1.length au) di rfl ?_
  obtain ⟨af, im, hf⟩ := bind_some hf
  refine r_call [.slice ar aq.1.length au] (evs1 rfl) rfl ((ok_value_List fuel) _ _ _ _ (RpV.mkList (bY.ext bZ).sl) im) ?_
  intro MJ MK bi io
  have ed := ii.x bi
  obtain ⟨ax, ay, az, aA, aB, aC, aD, aE, rfl, bj, bk, bl, bm⟩ := Val.rpv io
  refine r_alloc (B := s0.N) 3 ed.size _ [.int .i64 0, .int .i64 0, .string (⟨#[]⟩), nl Val, nl Key, nl Ent, nl ByteArray] ti27 rfl ?_
  intro ML bn ap ip
  have ee := ed.x ap
  refine r_alloc (B := s0.N) 4 ee.size _ [.int .i64 0, .int .i64 0, .string (⟨#[]⟩), nl Val, nl Key, nl Ent, nl ByteArray] ti27 rfl ?_
  intro MM aM an iq
  have ir := ee.x an
  refine r_store (ip.ext an) 0 (Val.ag aV a3 a4 a7 a8 a9 ba bb bc) (Val.cs aV a3 a4 a7 a8 a9 ba bb bc) (Val.cs aV a3 a4 a7 a8 a9 ba bb bc) rfl rfl rfl rfl rfl sz27 rfl rfl rfl ?_
  intro MN ao dj
  have it := ir.y ao
  refine r_store (iq.mod ao rfl) 0 (Val.ag af ax ay az aA aB aC aD aE) (Val.cs af ax ay az aA aB aC aD aE) (Val.cs af ax ay az aA aB aC aD aE) rfl rfl rfl rfl rfl sz27 rfl rfl rfl ?_
  intro MO ai b0
  have iu := it.y ai
  refine j0 (j1 (j2 (j3 ?_)))
  refine r_load aM 0 (Val.ag af ax ay az aA aB aC aD aE) rfl rfl (loads_row tr27 (Blk.range b0 0 (Val.cs af ax ay az aA aB aC aD aE) rfl)) ?_
  obtain ⟨aP, iv, hf⟩ := bind_some hf
  refine r_call [Val.ag af ax ay az aA aB aC aD aE] (evs1 rfl) rfl ((ok_value_Elements fuel) _ _ _ _ (Val.rpvMk (v := af) ((((bj.mono ap.wext).mono an.wext).mono ao.wext).mono ai.wext) ((((bk.mono ap.wext).mono an.wext).mono ao.wext).mono ai.wext) ((((bl.mono ap.wext).mono an.wext).mono ao.wext).mono ai.wext) ((((bm.mono ap.wext).mono an.wext).mono ao.wext).mono ai.wext)) iv) ?_
  intro MP MQ am iw
  have ix := iu.x am
  obtain ⟨MR, MS, rfl, iy, iz⟩ := iw
  obtain ⟨bo, bp, rfl, iA⟩ := RpV.list iy
  obtain rfl := RpV.bool iz
  refine r_move (.tuple #[.slice bo aP.1.length bp, .bool aP.2]) rfl rfl ?_
  refine r_extract [.slice bo aP.1.length bp, .bool aP.2] (.slice bo aP.1.length bp) rfl rfl rfl ?_
  refine r_extract [.slice bo aP.1.length bp, .bool aP.2] (.bool aP.2) rfl rfl rfl ?_
  refine r_assign (.slice bo aP.1.length bp) rfl rfl ?_
  refine r_assign (.bool aP.2) rfl rfl ?_
  refine j0 (j1 (j2 (j3 ?_)))
  refine r_move (.int .i64 a1) ea rfl ?_
  obtain ⟨ef, iB, hf⟩ := bind_some hf
  refine r_call [.int .i64 a1] (evs1 rfl) rfl (ok_value_Int _ _ _ _ (RpV.mkInt _ _) iB) ?_
  intro MT MU aj iC
  have iD := ix.x aj
  obtain ⟨iE, iF, iG, iH, iI, iJ, iK, iL, rfl, iM, iN, iO, iP⟩ := Val.rpv iC
  refine r_move (.string a2) eb rfl ?_
  obtain ⟨eg, iQ, hf⟩ := bind_some hf
  refine r_call [.string a2] (evs1 rfl) rfl (ok_value_String _ _ _ _ (RpV.mkStr _ _) iQ) ?_
  intro MV MW ah iR
  have iS := iD.x ah
  obtain ⟨iT, iU, iV, iW, iX, iY, iZ, i0, rfl, i1, i2, i3, i4⟩ := Val.rpv iR
  obtain ⟨eh, i5, hf⟩ := bind_some hf
  refine r_call [Val.ag ef iE iF iG iH iI iJ iK iL, Val.ag eg iT iU iV iW iX iY iZ i0] (evs2 rfl rfl) rfl ((ok_value_Cons fuel) _ _ _ _ _ _ (Val.rpvMk (v := ef) (iM.mono ah.wext) (iN.mono ah.wext) (iO.mono ah.wext) (iP.mono ah.wext)) (Val.rpvMk (v := eg) i1 i2 i3 i4) i5) ?_
  intro MX MY ak i6
  have i7 := iS.x ak
  obtain ⟨i8, i9, jd, je, jf, jg, jh, ji, rfl, jj, jk, jl, jm⟩ := Val.rpv i6
  obtain ⟨aW, jn, hf⟩ := bind_some hf
  refine r_call [Val.ag eh i8 i9 jd je jf jg jh ji] (evs1 rfl) rfl ((ok_value_Elements fuel) _ _ _ _ (Val.rpvMk (v := eh) jj jk jl jm) jn) ?_
  intro MZ jo al jp
  have jq := i7.x al
  obtain ⟨M0, M1, rfl, jr, js⟩ := jp
  obtain ⟨bM, bN, rfl, M2⟩ := RpV.list jr
  obtain rfl := RpV.bool js
  refine r_move (.tuple #[.slice bM aW.1.length bN, .bool aW.2]) rfl rfl ?_
  refine r_extract [.slice bM aW.1.length bN, .bool aW.2] (.slice bM aW.1.length bN) rfl rfl rfl ?_
  refine r_extract [.slice bM aW.1.length bN, .bool aW.2] (.bool aW.2) rfl rfl rfl ?_
  refine r_assign (.slice bM aW.1.length bN) rfl rfl ?_
  refine r_assign (.bool aW.2) rfl rfl ?_
  refine j0 (j1 (j2 ?_))
  refine gen_F fun bz bq => ?_
  have jt := (bq 1).trans ea
  have ju := (bq 2).trans eb
  have ei := (bq 7).trans di
  have ej : bz 9 = (.pointer (some ⟨bn, 0, none⟩)) := (bq 9).trans rfl
  have ek : bz 10 = (.pointer (some ⟨aM, 0, none⟩)) := (bq 10).trans rfl
  have jv : bz 11 = (.slice bo aP.1.length bp) := (bq 11).trans rfl
  have jw : bz 12 = (.bool aP.2) := (bq 12).trans rfl
  have jx : bz 14 = (.bool aW.2) := (bq 14).trans rfl
  obtain ⟨jy, hq272, hf⟩ := bind_some hf
  refine wp_join1 (fun a w => ∃ (F : Fr) (τ : S), a = fr 130 F ∧ w = τ.w ∧ Agr [63, 64, 65, 66, 67, 68, 69, 70, 71, 72, 73, 74, 75, 76, 77, 78, 79, 80, 81, 82, 83, 84, 85, 86, 87, 88, 89, 90] F bz ∧ ExtB s0.N s0 τ ∧ Wext jo τ ∧ F 90 = (.bool jy) ∧ Blk s0.N 4 τ aM 27 (Val.cs af ax ay az aA aB aC aD aE) ∧ Own s0.N 1 27 τ aq.1 ar au) ?_ ?_
  ·have hf := hq272
   refine j3 ?_
   refine r_load bn 0 (Val.ag aV a3 a4 a7 a8 a9 ba bb bc) ej rfl (loads_row tr27 (Blk.range ((((((dj.mod ai rfl).ext am).ext aj).ext ah).ext ak).ext al) 0 (Val.cs aV a3 a4 a7 a8 a9 ba bb bc) rfl)) ?_
   obtain ⟨a5, jz, hf⟩ := bind_some hf
   refine r_call [Val.ag aV a3 a4 a7 a8 a9 ba bb bc] (evs1 rfl) rfl ((ok_value_Validate fuel) _ _ _ _ (Val.rpvMk (v := aV) ((((((((((ec.mono bi.wext).mono ap.wext).mono an.wext).mono ao.wext).mono ai.wext).mono am.wext).mono aj.wext).mono ah.wext).mono ak.wext).mono al.wext) ((((((((((ij.mono bi.wext).mono ap.wext).mono an.wext).mono ao.wext).mono ai.wext).mono am.wext).mono aj.wext).mono ah.wext).mono ak.wext).mono al.wext) ((((((((((ik.mono bi.wext).mono ap.wext).mono an.wext).mono ao.wext).mono ai.wext).mono am.wext).mono aj.wext).mono ah.wext).mono ak.wext).mono al.wext) ((((((((((il.mono bi.wext).mono ap.wext).mono an.wext).mono ao.wext).mono ai.wext).mono am.wext).mono aj.wext).mono ah.wext).mono ak.wext).mono al.wext)) jz) ?_
   intro M3 jA aQ jB
   have el := jq.x aQ
   obtain rfl := RpV.int jB
   refine r_bin (.int .i64 a5) (.int .i64 0) (.bool (a5 != 0)) rfl rfl rfl rfl (b_neq) ?_
   refine r_move (.bool (a5 != 0)) rfl rfl ?_
   refine gen_FL fun em bf => ?_
   have jC := (bf 7).trans ei
   have jD := (bf 9).trans ej
   have jE := (bf 10).trans ek
   have jF := (bf 11).trans jv
   have jG := (bf 12).trans jw
   have jH := (bf 14).trans jx
   have br : em 66 = (.bool (a5 != 0)) := (bf 66).trans rfl
   obtain ⟨bg, hq292, hf⟩ := bind_some hf
   refine wpl_take 4 (J := fun a w => ∃ (F : Fr) (τ : S), a = fr 130 F ∧ w = τ.w ∧ Agr [67, 68, 69, 70] F em ∧ ExtB s0.N s0 τ ∧ Wext jA τ ∧ F 70 = (.bool bg) ∧ Blk s0.N 3 τ bn 27 (Val.cs aV a3 a4 a7 a8 a9 ba bb bc) ∧ Blk s0.N 4 τ aM 27 (Val.cs af ax ay az aA aB aC aD aE) ∧ Own s0.N 1 27 τ aq.1 ar au) ?_ ?_
   ·have hf := hq292
    refine if_else hf (fun bh hf => ?_) (fun bh hf => ?_)
    ·refine r_skip (j := 3) (want := false) (d := 66) (c := (a5 != 0)) (v := true) rfl br bh rfl rfl ?_
     refine r_skip (j := 3) (want := false) (d := 66) (c := (a5 != 0)) (v := true) rfl br bh rfl rfl ?_
     refine r_skip (j := 3) (want := false) (d := 66) (c := (a5 != 0)) (v := true) rfl br bh rfl rfl ?_
     refine r_pick_t (c := (a5 != 0)) (.bool true) br bh rfl rfl rfl rfl ?_
     refine j0 ?_
     obtain rfl := Option.some.inj hf
     exact ⟨rfl, _, _, rfl, rfl, (((((Agr.refl _ _).put rfl).put rfl).put rfl).put rfl), el, (Wext.refl _), rfl, (((((((dj.mod ai rfl).ext am).ext aj).ext ah).ext ak).ext al).ext aQ), ((((((b0.ext am).ext aj).ext ah).ext ak).ext al).ext aQ), ((((((((((((bY.ext bZ).ext bi).ext ap).ext an).mod ao rfl).mod ai rfl).ext am).ext aj).ext ah).ext ak).ext al).ext aQ)⟩
    refine r_guard (j := 3) (want := false) (d := 66) (c := (a5 != 0)) (v := false) rfl br bh rfl rfl ?_
    refine r_load aM 0 (Val.ag af ax ay az aA aB aC aD aE) jE rfl (loads_row tr27 (Blk.range ((((((b0.ext am).ext aj).ext ah).ext ak).ext al).ext aQ) 0 (Val.cs af ax ay az aA aB aC aD aE) rfl)) ?_
    refine r_guard (j := 3) (want := false) (d := 66) (c := (a5 != 0)) (v := false) rfl br bh rfl rfl ?_
    obtain ⟨dk, jI, hf⟩ := bind_some hf
    refine r_call [Val.ag af ax ay az aA aB aC aD aE] (evs1 rfl) rfl ((ok_value_Validate fuel) _ _ _ _ (Val.rpvMk (v := af) ((((((((((bj.mono ap.wext).mono an.wext).mono ao.wext).mono ai.wext).mono am.wext).mono aj.wext).mono ah.wext).mono ak.wext).mono al.wext).mono aQ.wext) ((((((((((bk.mono ap.wext).mono an.wext).mono ao.wext).mono ai.wext).mono am.wext).mono aj.wext).mono ah.wext).mono ak.wext).mono al.wext).mono aQ.wext) ((((((((((bl.mono ap.wext).mono an.wext).mono ao.wext).mono ai.wext).mono am.wext).mono aj.wext).mono ah.wext).mono ak.wext).mono al.wext).mono aQ.wext) ((((((((((bm.mono ap.wext).mono an.wext).mono ao.wext).mono ai.wext).mono am.wext).mono aj.wext).mono ah.wext).mono ak.wext).mono al.wext).mono aQ.wext)) jI) ?_
    intro M4 M5 bO jJ
    have jK := el.x bO
    obtain rfl := RpV.int jJ
    refine r_guard (j := 3) (want := false) (d := 66) (c := (a5 != 0)) (v := false) rfl br bh rfl rfl ?_
    refine r_bin (.int .i64 dk) (.int .i64 0) (.bool (dk != 0)) rfl rfl rfl rfl (b_neq) ?_
    refine r_pick_f (c := (a5 != 0)) (.bool (dk != 0)) br bh rfl rfl rfl rfl ?_
    refine j0 ?_
    obtain rfl := Option.some.inj hf
    exact ⟨rfl, _, _, rfl, rfl, (((((Agr.refl _ _).put rfl).put rfl).put rfl).put rfl), jK, ((Wext.refl _).trans bO.wext), rfl, ((((((((dj.mod ai rfl).ext am).ext aj).ext ah).ext ak).ext al).ext aQ).ext bO), (((((((b0.ext am).ext aj).ext ah).ext ak).ext al).ext aQ).ext bO), (((((((((((((bY.ext bZ).ext bi).ext ap).ext an).mod ao rfl).mod ai rfl).ext am).ext aj).ext ah).ext ak).ext al).ext aQ).ext bO)⟩
   rintro a w ⟨M6, jL, rfl, rfl, bu, en, b1, jM, eo, ep, eq⟩
   have jN := (bu 7 rfl).trans jC
   have jO := (bu 9 rfl).trans jD
   have jP := (bu 11 rfl).trans jF
   have jQ := (bu 12 rfl).trans jG
   have jR := (bu 14 rfl).trans jH
   refine r_move (.bool bg) jM rfl ?_
   refine gen_FL fun er bs => ?_
   have jS := (bs 7).trans jN
   have jT := (bs 9).trans jO
   have jU := (bs 11).trans jP
   have jV := (bs 12).trans jQ
   have jW := (bs 14).trans jR
   have bA : er 71 = (.bool bg) := (bs 71).trans rfl
   obtain ⟨bv, hq330, hf⟩ := bind_some hf
   refine wpl_take 3 (J := fun a w => ∃ (F : Fr) (τ : S), a = fr 130 F ∧ w = τ.w ∧ Agr [72, 73, 74] F er ∧ ExtB s0.N s0 τ ∧ Wext jL τ ∧ F 74 = (.bool bv) ∧ Blk s0.N 3 τ bn 27 (Val.cs aV a3 a4 a7 a8 a9 ba bb bc) ∧ Blk s0.N 4 τ aM 27 (Val.cs af ax ay az aA aB aC aD aE) ∧ Own s0.N 1 27 τ aq.1 ar au) ?_ ?_
   ·have hf := hq330
    refine if_else hf (fun bw hf => ?_) (fun bw hf => ?_)
    ·refine r_skip (j := 8) (want := false) (d := 71) (c := bg) (v := true) rfl bA bw rfl rfl ?_
     refine r_skip (j := 8) (want := false) (d := 71) (c := bg) (v := true) rfl bA bw rfl rfl ?_
     refine r_pick_t (c := bg) (.bool true) bA bw rfl rfl rfl rfl ?_
     refine j0 ?_
     obtain rfl := Option.some.inj hf
     exact ⟨rfl, _, _, rfl, rfl, ((((Agr.refl _ _).put rfl).put rfl).put rfl), en, (Wext.refl _), rfl, eo, ep, eq⟩
    refine r_guard (j := 8) (want := false) (d := 71) (c := bg) (v := false) rfl bA bw rfl rfl ?_
    refine r_move (.bool aP.2) jV rfl ?_
    refine r_guard (j := 8) (want := false) (d := 71) (c := bg) (v := false) rfl bA bw rfl rfl ?_
    refine r_un (.bool aP.2) (.bool (!aP.2)) rfl rfl u_not ?_
    refine r_pick_f (c := bg) (.bool (!aP.2)) bA bw rfl rfl rfl rfl ?_
    refine j0 ?_
    obtain rfl := Option.some.inj hf
    exact ⟨rfl, _, _, rfl, rfl, ((((Agr.refl _ _).put rfl).put rfl).put rfl), en, (Wext.refl _), rfl, eo, ep, eq⟩
   rintro a w ⟨M7, jX, rfl, rfl, bB, es, b2, jY, et, eu, ev⟩
   have jZ := (bB 7 rfl).trans jS
   have ka := (bB 9 rfl).trans jT
   have kb := (bB 11 rfl).trans jU
   have kc := (bB 14 rfl).trans jW
   refine r_move (.bool bv) jY rfl ?_
   refine gen_FL fun ew bx => ?_
   have kd := (bx 7).trans jZ
   have ke := (bx 9).trans ka
   have kf := (bx 11).trans kb
   have kg := (bx 14).trans kc
   have b3 : ew 75 = (.bool bv) := (bx 75).trans rfl
   obtain ⟨aX, hq359, hf⟩ := bind_some hf
   refine wpl_take 2 (J := fun a w => ∃ (F : Fr) (τ : S), a = fr 130 F ∧ w = τ.w ∧ Agr [76, 77] F ew ∧ ExtB s0.N s0 τ ∧ Wext jX τ ∧ F 77 = (.bool aX) ∧ Blk s0.N 3 τ bn 27 (Val.cs aV a3 a4 a7 a8 a9 ba bb bc) ∧ Blk s0.N 4 τ aM 27 (Val.cs af ax ay az aA aB aC aD aE) ∧ Own s0.N 1 27 τ aq.1 ar au) ?_ ?_
   ·have hf := hq359
    refine if_else hf (fun bP hf => ?_) (fun bP hf => ?_)
    ·refine r_skip (j := 12) (want := false) (d := 75) (c := bv) (v := true) rfl b3 bP rfl rfl ?_
     refine r_pick_t (c := bv) (.bool true) b3 bP rfl rfl rfl rfl ?_
     refine j0 ?_
     obtain rfl := Option.some.inj hf
     exact ⟨rfl, _, _, rfl, rfl, (((Agr.refl _ _).put rfl).put rfl), es, (Wext.refl _), rfl, et, eu, ev⟩
    refine r_guard (j := 12) (want := false) (d := 75) (c := bv) (v := false) rfl b3 bP rfl rfl ?_
    refine r_move (.bool aW.2) kg rfl ?_
    refine r_pick_f (c := bv) (.bool aW.2) b3 bP rfl rfl rfl rfl ?_
    refine j0 ?_
    obtain rfl := Option.some.inj hf
    exact ⟨rfl, _, _, rfl, rfl, (((Agr.refl _ _).put rfl).put rfl), es, (Wext.refl _), rfl, et, eu, ev⟩
   rintro a w ⟨M8, kh, rfl, rfl, bQ, ex, b4, ki, ey, ez, dl⟩
   have kj := (bQ 7 rfl).trans kd
   have kk := (bQ 9 rfl).trans ke
   have kl := (bQ 11 rfl).trans kf
   refine r_move (.bool aX) ki rfl ?_
   refine gen_FL fun eA bC => ?_
   have eB := (bC 7).trans kj
   have km := (bC 9).trans kk
   have kn := (bC 11).trans kl
   have bd : eA 78 = (.bool aX) := (bC 78).trans rfl
   obtain ⟨aS, hq386, hf⟩ := bind_some hf
   refine wpl_take 5 (J := fun a w => ∃ (F : Fr) (τ : S), a = fr 130 F ∧ w = τ.w ∧ Agr [79, 80, 81, 82, 83] F eA ∧ ExtB s0.N s0 τ ∧ Wext kh τ ∧ F 83 = (.bool aS) ∧ Blk s0.N 3 τ bn 27 (Val.cs aV a3 a4 a7 a8 a9 ba bb bc) ∧ Blk s0.N 4 τ aM 27 (Val.cs af ax ay az aA aB aC aD aE) ∧ Own s0.N 1 27 τ aq.1 ar au) ?_ ?_
   ·have hf := hq386
    refine if_else hf (fun a6 hf => ?_) (fun a6 hf => ?_)
    ·refine r_skip (j := 15) (want := false) (d := 78) (c := aX) (v := true) rfl bd a6 rfl rfl ?_
     refine r_skip (j := 15) (want := false) (d := 78) (c := aX) (v := true) rfl bd a6 rfl rfl ?_
     refine r_skip (j := 15) (want := false) (d := 78) (c := aX) (v := true) rfl bd a6 rfl rfl ?_
     refine r_skip (j := 15) (want := false) (d := 78) (c := aX) (v := true) rfl bd a6 rfl rfl ?_
     refine r_pick_t (c := aX) (.bool true) bd a6 rfl rfl rfl rfl ?_
     refine j0 ?_
     obtain rfl := Option.some.inj hf
     exact ⟨rfl, _, _, rfl, rfl, ((((((Agr.refl _ _).put rfl).put rfl).put rfl).put rfl).put rfl), ex, (Wext.refl _), rfl, ey, ez, dl⟩
    refine r_guard (j := 15) (want := false) (d := 78) (c := aX) (v := false) rfl bd a6 rfl rfl ?_
    refine r_move (.slice bo aP.1.length bp) kn rfl ?_
    refine r_guard (j := 15) (want := false) (d := 78) (c := aX) (v := false) rfl bd a6 rfl rfl ?_
    refine r_move (.slice ar aq.1.length au) eB rfl ?_
    refine r_guard (j := 15) (want := false) (d := 78) (c := aX) (v := false) rfl bd a6 rfl rfl ?_
    obtain ⟨dm, ko, hf⟩ := bind_some hf
    refine r_call [.slice bo aP.1.length bp, .slice ar aq.1.length au] (evs2 rfl rfl) rfl ((ok_semtyperef1_EqualValues fuel) _ _ _ _ _ _ (RpV.mkList ((((((((iA.mono aj.wext).mono ah.wext).mono ak.wext).mono al.wext).mono aQ.wext).mono b1).mono b2).mono b4)) (RpV.mkList dl.sl) ko) ?_
    intro M9 Na bR kp
    have kq := ex.x bR
    obtain rfl := RpV.bool kp
    refine r_guard (j := 15) (want := false) (d := 78) (c := aX) (v := false) rfl bd a6 rfl rfl ?_
    refine r_un (.bool dm) (.bool (!dm)) rfl rfl u_not ?_
    refine r_pick_f (c := aX) (.bool (!dm)) bd a6 rfl rfl rfl rfl ?_
    refine j0 ?_
    obtain rfl := Option.some.inj hf
    exact ⟨rfl, _, _, rfl, rfl, ((((((Agr.refl _ _).put rfl).put rfl).put rfl).put rfl).put rfl), kq, ((Wext.refl _).trans bR.wext), rfl, (ey.ext bR), (ez.ext bR), (dl.ext bR)⟩
   rintro a w ⟨Nb, Nc, rfl, rfl, b5, eC, dn, kr, ks, eD, dp⟩
   have kt := (b5 7 rfl).trans eB
   have ku := (b5 9 rfl).trans km
   refine r_move (.bool aS) kr rfl ?_
   refine if_else hf (fun aY hf => ?_) (fun aY hf => ?_)
   ·refine r_skip (j := 21) (want := false) (d := 84) (c := aS) (v := true) rfl rfl aY rfl rfl ?_
    refine r_skip (j := 21) (want := false) (d := 84) (c := aS) (v := true) rfl rfl aY rfl rfl ?_
    refine r_skip (j := 21) (want := false) (d := 84) (c := aS) (v := true) rfl rfl aY rfl rfl ?_
    refine r_skip (j := 21) (want := false) (d := 84) (c := aS) (v := true) rfl rfl aY rfl rfl ?_
    refine r_skip (j := 21) (want := false) (d := 84) (c := aS) (v := true) rfl rfl aY rfl rfl ?_
    refine r_pick_t (c := aS) (.bool true) rfl aY rfl rfl rfl rfl ?_
    refine j0 ?_
    obtain rfl := Option.some.inj hf
    exact ⟨rfl, _, _, rfl, rfl, (((((((((((((((((((((((Agr.refl _ _).put rfl).put rfl).put rfl).put rfl).gen bf).loop bu rfl).put rfl).gen bs).loop bB rfl).put rfl).gen bx).loop bQ rfl).put rfl).gen bC).loop b5 rfl).put rfl).put rfl).put rfl).put rfl).put rfl).put rfl).put rfl), eC, ((((((Wext.refl _).trans aQ.wext).trans b1).trans b2).trans b4).trans dn), rfl, eD, dp⟩
   refine r_guard (j := 21) (want := false) (d := 84) (c := aS) (v := false) rfl rfl aY rfl rfl ?_
   refine r_fieldAddr bn 0 3 3 ku rfl fo27_3 rfl ?_
   refine r_guard (j := 21) (want := false) (d := 84) (c := aS) (v := false) rfl rfl aY rfl rfl ?_
   refine r_load bn 3 (.slice a3 aV.Kids.length a4) rfl rfl (loads_one to22 ((ks.cell 3).trans rfl)) ?_
   refine r_guard (j := 21) (want := false) (d := 84) (c := aS) (v := false) rfl rfl aY rfl rfl ?_
   refine r_move (.slice ar aq.1.length au) kt rfl ?_
   refine r_guard (j := 21) (want := false) (d := 84) (c := aS) (v := false) rfl rfl aY rfl rfl ?_
   obtain ⟨dq, kv, hf⟩ := bind_some hf
   refine r_call [.slice a3 aV.Kids.length a4, .slice ar aq.1.length au] (evs2 rfl rfl) rfl ((ok_semtyperef1_EqualValues fuel) _ _ _ _ _ _ (RpV.mkList (((((((((((((((ec.mono bi.wext).mono ap.wext).mono an.wext).mono ao.wext).mono ai.wext).mono am.wext).mono aj.wext).mono ah.wext).mono ak.wext).mono al.wext).mono aQ.wext).mono b1).mono b2).mono b4).mono dn)) (RpV.mkList dp.sl) kv) ?_
   intro Nd Ne b6 kw
   have kx := eC.x b6
   obtain rfl := RpV.bool kw
   refine r_guard (j := 21) (want := false) (d := 84) (c := aS) (v := false) rfl rfl aY rfl rfl ?_
   refine r_un (.bool dq) (.bool (!dq)) rfl rfl u_not ?_
   refine r_pick_f (c := aS) (.bool (!dq)) rfl aY rfl rfl rfl rfl ?_
   refine j0 ?_
   obtain rfl := Option.some.inj hf
   exact ⟨rfl, _, _, rfl, rfl, (((((((((((((((((((((((Agr.refl _ _).put rfl).put rfl).put rfl).put rfl).gen bf).loop bu rfl).put rfl).gen bs).loop bB rfl).put rfl).gen bx).loop bQ rfl).put rfl).gen bC).loop b5 rfl).put rfl).put rfl).put rfl).put rfl).put rfl).put rfl).put rfl), kx, (((((((Wext.refl _).trans aQ.wext).trans b1).trans b2).trans b4).trans dn).trans b6.wext), rfl, (eD.ext b6), (dp.ext b6)⟩
  rintro a w ⟨Nf, Ng, rfl, rfl, b7, ag, aL, eE, bD, bE⟩
  have aT := (b7 1 rfl).trans jt
  have aU := (b7 2 rfl).trans ju
  have bF := (b7 7 rfl).trans ei
  have bG := (b7 10 rfl).trans ek
  refine if_else hf (fun dr hf => ?_) (fun dr hf => ?_)
  ·refine c_true eE dr rfl ?_
   refine j2 (j3 ?_)
   refine r_assign (.bool false) rfl rfl ?_
   refine j0 (j1 (jb (j9 ?_)))
   obtain rfl := Option.some.inj hf
   refine ret_one (.bool false) rfl ⟨rfl, rfl⟩ ag ?_
   exact (RpV.mkBool _ _)
  refine c_false eE dr rfl ?_
  refine ja (j1 (j2 ?_))
  obtain ⟨aG, bH, hf⟩ := bind_some hf
  obtain ⟨aa, bI, hf⟩ := bind_some hf
  refine if_else hf (fun av hf => ?_) (fun av hf => ?_)
  ·obtain ⟨aI, bS, hf⟩ := bind_some hf
   obtain ⟨aJ, bT, hf⟩ := bind_some hf
   obtain ⟨ab, bU, hf⟩ := bind_some hf
   refine if_else hf (fun aF hf => ?_) (fun aF hf => ?_)
   ·obtain ⟨aN, b8, hf⟩ := bind_some hf
    obtain ⟨aO, b9, hf⟩ := bind_some hf
    obtain ⟨ac, ca, hf⟩ := bind_some hf
    refine if_else hf (fun aw hf => ?_) (fun aw hf => ?_)
    ·obtain ⟨aR, ds, hf⟩ := bind_some hf
     obtain ⟨ad, dt, hf⟩ := bind_some hf
     obtain ⟨ae, du, hf⟩ := bind_some hf
     refine if_else hf (fun aK hf => ?_) (fun aK hf => ?_)
     ·obtain ⟨be, eF, hf⟩ := bind_some hf
      obtain ⟨aH, eG, hf⟩ := bind_some hf
      refine if_else hf (fun bV hf => ?_) (fun bV hf => ?_)
      ·obtain ⟨bJ, ky, hf⟩ := bind_some hf
       refine wp_draw (B := frExt s0.N) [some 91, some 92, some 93, some 94, some 95, some 96, some 97, some 98, some 99, some 100, some 101, some 102, some 103, some 104, some 105, some 106, some 107, some 108, some 109, some 110, some 111, some 112, some 113, some 114, some 115, some 116, some 117, some 118, some 119, some 120, some 121, some 122, some 123, some 124, some 125, some 126, some 127, some 128, some 129, some 6] [[], [], [1], [0, 1, 2], [0, 1, 2, 3], [0, 1, 2, 3, 4], [0, 1, 2, 3, 4, 5], [0, 1, 2, 3, 4], [0, 1, 2, 3, 4, 5, 6, 7], [0, 1, 2, 3, 4, 5, 6, 7, 8], [0, 1, 2, 3, 4, 5, 6, 7, 8, 9], [0, 1, 2, 3, 4, 5, 6, 7, 8, 9, 10], [0, 1, 2, 3, 4, 5, 6, 7, 8, 9, 10, 11], [0, 1, 2, 3, 4, 5, 6, 7, 8, 9, 10, 11, 12], [0, 1, 2, 3, 4, 5, 6, 7, 8, 9, 10, 11], [0, 1, 2, 3, 4, 5, 6, 7, 8, 9, 10, 11, 12, 13, 14], [0, 1, 2, 3, 4, 5, 6, 7, 8, 9, 10, 11, 12, 13, 14, 15], [0, 1, 2, 3, 4, 5, 6, 7, 8, 9, 10, 11, 12, 13, 14, 15, 16], [0, 1, 2, 3, 4, 5, 6, 7, 8, 9, 10, 11, 12, 13, 14, 15, 16, 17], [0, 1, 2, 3, 4, 5, 6, 7, 8, 9, 10, 11, 12, 13, 14, 15, 16, 17, 18], [0, 1, 2, 3, 4, 5, 6, 7, 8, 9, 10, 11, 12, 13, 14, 15, 16, 17, 18, 19], [0, 1, 2, 3, 4, 5, 6, 7, 8, 9, 10, 11, 12, 13, 14, 15, 16, 17, 18, 19, 20], [0, 1, 2, 3, 4, 5, 6, 7, 8, 9, 10, 11, 12, 13, 14, 15, 16, 17, 18, 19, 20, 21], [0, 1, 2, 3, 4, 5, 6, 7, 8, 9, 10, 11, 12, 13, 14, 15, 16, 17, 18], [0, 1, 2, 3, 4, 5, 6, 7, 8, 9, 10, 11, 12, 13, 14, 15, 16, 17, 18, 19, 20, 21, 23], [0, 1, 2, 3, 4, 5, 6, 7, 8, 9, 10, 11, 12, 13, 14, 15, 16, 17, 18, 19, 20, 21, 22, 23, 24], [0, 1, 2, 3, 4, 5, 6, 7, 8, 9, 10, 11, 12, 13, 14, 15, 16, 17, 18, 19, 20, 21, 22, 23, 24, 25], [0, 1, 2, 3, 4, 5, 6, 7, 8, 9, 10, 11, 12, 13, 14, 15, 16, 17, 18, 19, 20, 21, 22, 23, 24, 25, 26], [0, 1, 2, 3, 4, 5, 6, 7, 8, 9, 10, 11, 12, 13, 14, 15, 16, 17, 18, 19, 20, 21, 22, 23, 24, 25, 26, 27], [0, 1, 2, 3, 4, 5, 6, 7, 8, 9, 10, 11, 12, 13, 14, 15, 16, 17, 18, 19, 20, 21, 22, 23, 24, 25, 26, 27, 28], [0, 1, 2, 3, 4, 5, 6, 7, 8, 9, 10, 11, 12, 13, 14, 15, 16, 17, 18, 19, 20, 21, 22, 23, 24, 25, 26, 27, 28, 29], [0, 1, 2, 3, 4, 5, 6, 7, 8, 9, 10, 11, 12, 13, 14, 15, 16, 17, 18, 19, 20, 21, 22, 23, 24, 25, 26, 27, 28, 29, 30], [0, 1, 2, 3, 4, 5, 6, 7, 8, 9, 10, 11, 12, 13, 14, 15, 16, 17, 18, 19, 20, 21, 22, 23, 24, 25, 26, 27], [0, 1, 2, 3, 4, 5, 6, 7, 8, 9, 10, 11, 12, 13, 14, 15, 16, 17, 18, 19, 20, 21, 22, 23, 24, 25, 26, 27, 32], [0, 1, 2, 3, 4, 5, 6, 7, 8, 9, 10, 11, 12, 13, 14, 15, 16, 17, 18, 19, 20, 21, 22, 23, 24, 25, 26, 27, 28, 29, 30, 31, 32, 33], [0, 1, 2, 3, 4, 5, 6, 7, 8, 9, 10, 11, 12, 13, 14, 15, 16, 17, 18, 19, 20, 21, 22, 23, 24, 25, 26, 27, 28, 29, 30, 31, 32, 33, 34], [0, 1, 2, 3, 4, 5, 6, 7, 8, 9, 10, 11, 12, 13, 14, 15, 16, 17, 18, 19, 20, 21, 22, 23, 24, 25, 26, 27, 28, 29, 30, 31, 32, 33, 34, 35], [0, 1, 2, 3, 4, 5, 6, 7, 8, 9, 10, 11, 12, 13, 14, 15, 16, 17, 18, 19, 20, 21, 22, 23, 24, 25, 26, 27, 28, 29, 30, 31, 32, 33, 34, 35, 36], [0, 1, 2, 3, 4, 5, 6, 7, 8, 9, 10, 11, 12, 13, 14, 15, 16, 17, 18, 19, 20, 21, 22, 23, 24, 25, 26, 27, 28, 29, 30, 31, 32, 33, 34, 35, 36, 37], [0, 1, 2, 3, 4, 5, 6, 7, 8, 9, 10, 11, 12, 13, 14, 15, 16, 17, 18, 19, 20, 21, 22, 23, 24, 25, 26, 27, 28, 29, 30, 31, 32, 33, 34, 35, 36, 37, 38]] [Fct.data (af : Val), Fct.eqv (.slice ar aq.1.length au), Fct.data (aG : Val), Fct.eqv (.bool aa), Fct.eqv (.bool aa), Fct.eqv (.int .i64 a1), Fct.data (aI : Val), Fct.eqv (.int .i64 a1), Fct.data (aJ : Val), Fct.eqv (.bool ab), Fct.eqv (.bool ab), Fct.eqv (.bool ab), Fct.eqv (.string a2), Fct.data (aN : Val), Fct.eqv (.string a2), Fct.data (aO : Val), Fct.eqv (.bool ac), Fct.eqv (.bool ac), Fct.eqv (.bool ac), Fct.eqv (.string a2), Fct.data (aR : Val), Fct.eqv (.int .i64 ad), Fct.eqv (.bool (ad == 0)), Fct.eqv (.string a2), Fct.eqv (.bool ae), Fct.eqv (.bool ((ad == 0) == ae)), Fct.eqv (.bool ((ad == 0) == ae)), Fct.eqv (.bool ((ad == 0) == ae)), Fct.eqv (.int .i64 a1), Fct.data (be : Val), Fct.eqv (.int .i64 aH), Fct.eqv (.bool (aH == 0)), Fct.eqv (.int .i64 a1), Fct.eqv (.bool (decide (0 ≤ a1))), Fct.eqv (.bool ((aH == 0) == (decide (0 ≤ a1)))), Fct.eqv (.bool ((aH == 0) == (decide (0 ≤ a1)))), Fct.eqv (.bool ((aH == 0) == (decide (0 ≤ a1)))), Fct.eqv (.bool bJ), Fct.eqv (.bool bJ), Fct.eqv (.bool bJ)] (fun D F τ => (Blk s0.N 4 τ aM 27 (Val.cs af ax ay az aA aB aC aD aE)) ∧ (Own s0.N 1 27 τ aq.1 ar au)) (by kernel_rfl) rfl (by decide) (by decide) ⟨(bD.ext (ext_draw _)), (bE.ext (ext_draw _))⟩ (by decide) (by decide) ⟨?_, ?_, ?_, ?_, ?_, ?_, ?_, ?_, ?_, ?_, ?_, ?_, ?_, ?_, ?_, ?_, ?_, ?_, ?_, ?_, ?_, ?_, ?_, ?_, ?_, ?_, ?_, ?_, ?_, ?_, ?_, ?_, ?_, ?_, ?_, ?_, ?_, ?_, ?_, ?_, trivial⟩ ?_
       ·intro Nh Ni Nj Nk Nl Nm Nn cb kz kA No
        obtain ⟨eH, kB⟩ := kz
        have kC := eH
        refine r_load aM 0 (Val.ag af ax ay az aA aB aC aD aE) ((kA 10 rfl).trans bG) rfl (loads_row tr27 (Blk.range kC 0 (Val.cs af ax ay az aA aB aC aD aE) rfl)) ?_
        exact d0 ⟨(Val.rpvMk (v := af) (((((((((((bj.mono ap.wext).mono an.wext).mono ao.wext).mono ai.wext).mono am.wext).mono aj.wext).mono ah.wext).mono ak.wext).mono al.wext).mono aL).mono cb) (((((((((((bk.mono ap.wext).mono an.wext).mono ao.wext).mono ai.wext).mono am.wext).mono aj.wext).mono ah.wext).mono ak.wext).mono al.wext).mono aL).mono cb) (((((((((((bl.mono ap.wext).mono an.wext).mono ao.wext).mono ai.wext).mono am.wext).mono aj.wext).mono ah.wext).mono ak.wext).mono al.wext).mono aL).mono cb) (((((((((((bm.mono ap.wext).mono an.wext).mono ao.wext).mono ai.wext).mono am.wext).mono aj.wext).mono ah.wext).mono ak.wext).mono al.wext).mono aL).mono cb)), ⟨eH, kB⟩⟩
       ·intro Np Nq Nr Ns Nt Nu Nv Nw kD kE Nx
        obtain ⟨kF, kG⟩ := kD
        refine r_move (.slice ar aq.1.length au) ((kE 7 rfl).trans bF) rfl ?_
        exact d0 ⟨rfl, ⟨kF, kG⟩⟩
       ·intro Ny Nz NA NB NC ND kH NE kI NF kJ
        have kK := ag.trans kH
        obtain ⟨kL, eI⟩ := kI
        refine r_call [.slice ar aq.1.length au] (evs1 (kJ 1 rfl 92 rfl)) rfl ((ok_semtyperef1_List fuel) _ _ _ _ (RpV.mkList eI.sl) bH) ?_
        intro NG NH cc kM
        obtain ⟨NI, NJ, NK, NL, NM, NN, NO, NP, rfl, kN, kO, kP, kQ⟩ := Val.rpv kM
        refine j0 ?_
        exact ⟨_, _, rfl, rfl, (ExtB.refl _ _).trans (cc.mono kK.size), (Wext.refl _).trans cc.wext, (Val.rpvMk (v := aG) kN kO kP kQ), ⟨(kL.ext cc), (eI.ext cc)⟩⟩
       ·intro NQ eJ eK NR NS NT kR NU kS NV eL
        have kT := ag.trans kR
        obtain ⟨kU, kV⟩ := kS
        have kW : RpV eK (af : Val) (eJ 91) := eL 0 rfl 91 rfl
        obtain ⟨kX, kY, kZ, k0, k1, k2, k3, k4, k5, k6, k7, k8, la⟩ := Val.rpv kW
        have lb : RpV eK (aG : Val) (eJ 93) := eL 2 rfl 93 rfl
        obtain ⟨lc, ld, le, lf, lg, lh, li, lj, lk, ll, lm, ln, lo⟩ := Val.rpv lb
        refine r_call [Val.ag af kX kY kZ k0 k1 k2 k3 k4, Val.ag aG lc ld le lf lg lh li lj] (evs2 k5 lk) rfl ((ok_semtyperef1_Equal fuel) _ _ _ _ _ _ (Val.rpvMk (v := af) k6 k7 k8 la) (Val.rpvMk (v := aG) ll lm ln lo) bI) ?_
        intro NW NX cd lp
        obtain rfl := RpV.bool lp
        refine j0 ?_
        exact ⟨_, _, rfl, rfl, (ExtB.refl _ _).trans (cd.mono kT.size), (Wext.refl _).trans cd.wext, rfl, ⟨(kU.ext cd), (kV.ext cd)⟩⟩
       ·intro NY NZ N0 N1 N2 N3 N4 N5 lq N6 lr
        obtain ⟨ls, lt⟩ := lq
        refine r_move (.bool aa) (lr 3 rfl 94 rfl) rfl ?_
        exact d0 ⟨rfl, ⟨ls, lt⟩⟩
       ·intro N7 N8 N9 Oa Ob Oc Od Oe lu lv lw
        obtain ⟨lx, ly⟩ := lu
        refine Or.inr ⟨aa, (fun d hd => by cases hd; exact (lw 4 rfl 95 rfl)), fun _ => ?_, fun h => absurd (av : aa = true) h⟩
        refine r_move (.int .i64 a1) ((lv 1 rfl).trans aT) rfl ?_
        exact d0 ⟨rfl, ⟨lx, ly⟩⟩
       ·intro Of Og Oh Oi Oj Ok lz Ol lA Om eM
        have lB := ag.trans lz
        obtain ⟨lC, lD⟩ := lA
        refine Or.inr ⟨aa, (fun d hd => by cases hd; exact (eM 4 rfl 95 rfl)), fun _ => ?_, fun h => absurd (av : aa = true) h⟩
        refine r_call [.int .i64 a1] (evs1 (eM 5 rfl 96 rfl)) rfl (ok_value_Int _ _ _ _ (RpV.mkInt _ _) bS) ?_
        intro On Oo ce lE
        obtain ⟨Op, Oq, Os, Ot, Ou, Ov, Ow, Ox, rfl, lF, lG, lH, lI⟩ := Val.rpv lE
        refine j0 ?_
        exact ⟨_, _, rfl, rfl, (ExtB.refl _ _).trans (ce.mono lB.size), (Wext.refl _).trans ce.wext, (Val.rpvMk (v := aI) lF lG lH lI), ⟨(lC.ext ce), (lD.ext ce)⟩⟩
       ·intro Oy Oz OA OB OC OD OE OF lJ lK lL
        obtain ⟨lM, lN⟩ := lJ
        refine Or.inr ⟨aa, (fun d hd => by cases hd; exact (lL 4 rfl 95 rfl)), fun _ => ?_, fun h => absurd (av : aa = true) h⟩
        refine r_move (.int .i64 a1) ((lK 1 rfl).trans aT) rfl ?_
        exact d0 ⟨rfl, ⟨lM, lN⟩⟩
       ·intro OG OH OI OJ OK OL lO OM lP ON eN
        have lQ := ag.trans lO
        obtain ⟨lR, lS⟩ := lP
        refine Or.inr ⟨aa, (fun d hd => by cases hd; exact (eN 4 rfl 95 rfl)), fun _ => ?_, fun h => absurd (av : aa = true) h⟩
        refine r_call [.int .i64 a1] (evs1 (eN 7 rfl 98 rfl)) rfl (ok_semtyperef1_Int _ _ _ _ (RpV.mkInt _ _) bT) ?_
        intro OO OP cf lT
        obtain ⟨OQ, OR, OS, OT, OU, OV, OW, OX, rfl, lU, lV, lW, lX⟩ := Val.rpv lT
        refine j0 ?_
        exact ⟨_, _, rfl, rfl, (ExtB.refl _ _).trans (cf.mono lQ.size), (Wext.refl _).trans cf.wext, (Val.rpvMk (v := aJ) lU lV lW lX), ⟨(lR.ext cf), (lS.ext cf)⟩⟩
       ·intro OY eO eP OZ O0 O1 lY O2 lZ O3 dv
        have l0 := ag.trans lY
        obtain ⟨l1, l2⟩ := lZ
        have l3 : RpV eP (aI : Val) (eO 97) := dv 6 rfl 97 rfl
        obtain ⟨l4, l5, l6, l7, l8, l9, ma, mb, mc, md, me, mf, mg⟩ := Val.rpv l3
        have mh : RpV eP (aJ : Val) (eO 99) := dv 8 rfl 99 rfl
        obtain ⟨mi, mj, mk, ml, mm, mn, mo, mp, mq, mr, ms, mt, mu⟩ := Val.rpv mh
        refine Or.inr ⟨aa, (fun d hd => by cases hd; exact (dv 4 rfl 95 rfl)), fun _ => ?_, fun h => absurd (av : aa = true) h⟩
        refine r_call [Val.ag aI l4 l5 l6 l7 l8 l9 ma mb, Val.ag aJ mi mj mk ml mm mn mo mp] (evs2 mc mq) rfl ((ok_semtyperef1_Equal fuel) _ _ _ _ _ _ (Val.rpvMk (v := aI) md me mf mg) (Val.rpvMk (v := aJ) mr ms mt mu) bU) ?_
        intro O4 O5 cg mv
        obtain rfl := RpV.bool mv
        refine j0 ?_
        exact ⟨_, _, rfl, rfl, (ExtB.refl _ _).trans (cg.mono l0.size), (Wext.refl _).trans cg.wext, rfl, ⟨(l1.ext cg), (l2.ext cg)⟩⟩
       ·intro O6 O7 O8 O9 Pa Pb Pc Pd mw Pe eQ
        obtain ⟨mx, my⟩ := mw
        refine r_pick_t (c := aa) (.bool ab) (eQ 4 rfl 95 rfl) av (eQ 9 rfl 100 rfl) rfl rfl rfl ?_
        exact d0 ⟨rfl, ⟨mx, my⟩⟩
       ·intro Pf Pg Ph Pi Pj Pk Pl Pm mz Pn mA
        obtain ⟨mB, mC⟩ := mz
        refine r_move (.bool ab) (mA 10 rfl 101 rfl) rfl ?_
        exact d0 ⟨rfl, ⟨mB, mC⟩⟩
       ·intro Po Pp Pq Pr Ps Pt Pu Pv mD mE mF
        obtain ⟨mG, mH⟩ := mD
        refine Or.inr ⟨ab, (fun d hd => by cases hd; exact (mF 11 rfl 102 rfl)), fun _ => ?_, fun h => absurd (aF : ab = true) h⟩
        refine r_move (.string a2) ((mE 2 rfl).trans aU) rfl ?_
        exact d0 ⟨rfl, ⟨mG, mH⟩⟩
       ·intro Pw Px Py Pz PA PB mI PC mJ PD eR
        have mK := ag.trans mI
        obtain ⟨mL, mM⟩ := mJ
        refine Or.inr ⟨ab, (fun d hd => by cases hd; exact (eR 11 rfl 102 rfl)), fun _ => ?_, fun h => absurd (aF : ab = true) h⟩
        refine r_call [.string a2] (evs1 (eR 12 rfl 103 rfl)) rfl (ok_value_String _ _ _ _ (RpV.mkStr _ _) b8) ?_
        intro PE PF ch mN
        obtain ⟨PG, PH, PI, PJ, PK, PL, PM, PN, rfl, mO, mP, mQ, mR⟩ := Val.rpv mN
        refine j0 ?_
        exact ⟨_, _, rfl, rfl, (ExtB.refl _ _).trans (ch.mono mK.size), (Wext.refl _).trans ch.wext, (Val.rpvMk (v := aN) mO mP mQ mR), ⟨(mL.ext ch), (mM.ext ch)⟩⟩
       ·intro PO PP PQ PR PS PT PU PV mS mT mU
        obtain ⟨mV, mW⟩ := mS
        refine Or.inr ⟨ab, (fun d hd => by cases hd; exact (mU 11 rfl 102 rfl)), fun _ => ?_, fun h => absurd (aF : ab = true) h⟩
        refine r_move (.string a2) ((mT 2 rfl).trans aU) rfl ?_
        exact d0 ⟨rfl, ⟨mV, mW⟩⟩
       ·intro PW PX PY PZ P0 P1 mX P2 mY P3 eS
        have mZ := ag.trans mX
        obtain ⟨m0, m1⟩ := mY
        refine Or.inr ⟨ab, (fun d hd => by cases hd; exact (eS 11 rfl 102 rfl)), fun _ => ?_, fun h => absurd (aF : ab = true) h⟩
        refine r_call [.string a2] (evs1 (eS 14 rfl 105 rfl)) rfl (ok_semtyperef1_String _ _ _ _ (RpV.mkStr _ _) b9) ?_
        intro P4 P5 ci m2
        obtain ⟨P6, P7, P8, P9, Qa, Qb, Qc, Qd, rfl, m3, m4, m5, m6⟩ := Val.rpv m2
        refine j0 ?_
        exact ⟨_, _, rfl, rfl, (ExtB.refl _ _).trans (ci.mono mZ.size), (Wext.refl _).trans ci.wext, (Val.rpvMk (v := aO) m3 m4 m5 m6), ⟨(m0.ext ci), (m1.ext ci)⟩⟩
       ·intro Qe eT eU Qf Qg Qh m7 Qi m8 Qj dw
        have m9 := ag.trans m7
        obtain ⟨na, nb⟩ := m8
        have nc : RpV eU (aN : Val) (eT 104) := dw 13 rfl 104 rfl
        obtain ⟨nd, ne, nf, ng, nh, ni, nj, nk, nm, nn, no, np, nq⟩ := Val.rpv nc
        have nr : RpV eU (aO : Val) (eT 106) := dw 15 rfl 106 rfl
        obtain ⟨ns, nt, nu, nv, nw, nx, ny, nz, nA, nB, nC, nD, nE⟩ := Val.rpv nr
        refine Or.inr ⟨ab, (fun d hd => by cases hd; exact (dw 11 rfl 102 rfl)), fun _ => ?_, fun h => absurd (aF : ab = true) h⟩
        refine r_call [Val.ag aN nd ne nf ng nh ni nj nk, Val.ag aO ns nt nu nv nw nx ny nz] (evs2 nm nA) rfl ((ok_semtyperef1_Equal fuel) _ _ _ _ _ _ (Val.rpvMk (v := aN) nn no np nq) (Val.rpvMk (v := aO) nB nC nD nE) ca) ?_
        intro Qk Ql cj nF
        obtain rfl := RpV.bool nF
        refine j0 ?_
        exact ⟨_, _, rfl, rfl, (ExtB.refl _ _).trans (cj.mono m9.size), (Wext.refl _).trans cj.wext, rfl, ⟨(na.ext cj), (nb.ext cj)⟩⟩
       ·intro Qm Qn Qo Qp Qq Qr Qs Qt nG Qu eV
        obtain ⟨nH, nI⟩ := nG
        refine r_pick_t (c := ab) (.bool ac) (eV 11 rfl 102 rfl) aF (eV 16 rfl 107 rfl) rfl rfl rfl ?_
        exact d0 ⟨rfl, ⟨nH, nI⟩⟩
       ·intro Qv Qw Qx Qy Qz QA QB QC nJ QD nK
        obtain ⟨nL, nM⟩ := nJ
        refine r_move (.bool ac) (nK 17 rfl 108 rfl) rfl ?_
        exact d0 ⟨rfl, ⟨nL, nM⟩⟩
       ·intro QE QF QG QH QI QJ QK QL nN nO nP
        obtain ⟨nQ, nR⟩ := nN
        refine Or.inr ⟨ac, (fun d hd => by cases hd; exact (nP 18 rfl 109 rfl)), fun _ => ?_, fun h => absurd (aw : ac = true) h⟩
        refine r_move (.string a2) ((nO 2 rfl).trans aU) rfl ?_
        exact d0 ⟨rfl, ⟨nQ, nR⟩⟩
       ·intro QM QN QO QP QQ QR nS QS nT QT eW
        have nU := ag.trans nS
        obtain ⟨nV, nW⟩ := nT
        refine Or.inr ⟨ac, (fun d hd => by cases hd; exact (eW 18 rfl 109 rfl)), fun _ => ?_, fun h => absurd (aw : ac = true) h⟩
        refine r_call [.string a2] (evs1 (eW 19 rfl 110 rfl)) rfl (ok_value_Atom _ _ _ _ (RpV.mkStr _ _) ds) ?_
        intro QU QV ck nX
        obtain ⟨QW, QX, QY, QZ, Q0, Q1, Q2, Q3, rfl, nY, nZ, n0, n1⟩ := Val.rpv nX
        refine j0 ?_
        exact ⟨_, _, rfl, rfl, (ExtB.refl _ _).trans (ck.mono nU.size), (Wext.refl _).trans ck.wext, (Val.rpvMk (v := aR) nY nZ n0 n1), ⟨(nV.ext ck), (nW.ext ck)⟩⟩
       ·intro Q4 n2 n3 Q5 Q6 Q7 n4 Q8 n5 Q9 eX
        have n6 := ag.trans n4
        obtain ⟨n7, n8⟩ := n5
        have n9 : RpV n3 (aR : Val) (n2 111) := eX 20 rfl 111 rfl
        obtain ⟨oa, ob, oc, od, oe, og, oh, oi, oj, ol, om, on, oo⟩ := Val.rpv n9
        refine Or.inr ⟨ac, (fun d hd => by cases hd; exact (eX 18 rfl 109 rfl)), fun _ => ?_, fun h => absurd (aw : ac = true) h⟩
        refine r_call [Val.ag aR oa ob oc od oe og oh oi] (evs1 oj) rfl ((ok_value_Validate fuel) _ _ _ _ (Val.rpvMk (v := aR) ol om on oo) dt) ?_
        intro Ra Rb cl op
        obtain rfl := RpV.int op
        refine j0 ?_
        exact ⟨_, _, rfl, rfl, (ExtB.refl _ _).trans (cl.mono n6.size), (Wext.refl _).trans cl.wext, rfl, ⟨(n7.ext cl), (n8.ext cl)⟩⟩
       ·intro Rc Rd Re Rf Rg Rh Ri Rj oq Rk eY
        obtain ⟨ot, ou⟩ := oq
        refine Or.inr ⟨ac, (fun d hd => by cases hd; exact (eY 18 rfl 109 rfl)), fun _ => ?_, fun h => absurd (aw : ac = true) h⟩
        refine r_bin (.int .i64 ad) (.int .i64 0) (.bool (ad == 0)) (eY 21 rfl 112 rfl) rfl rfl rfl (b_eql) ?_
        exact d0 ⟨rfl, ⟨ot, ou⟩⟩
       ·intro Rl Rm Rn Ro Rq Rr Rs Rt ov ow ox
        obtain ⟨oy, oz⟩ := ov
        refine Or.inr ⟨ac, (fun d hd => by cases hd; exact (ox 18 rfl 109 rfl)), fun _ => ?_, fun h => absurd (aw : ac = true) h⟩
        refine r_move (.string a2) ((ow 2 rfl).trans aU) rfl ?_
        exact d0 ⟨rfl, ⟨oy, oz⟩⟩
       ·intro Ru Rv Rw Rx Ry Rz oA RA oB RB eZ
        have oC := ag.trans oA
        obtain ⟨oD, oE⟩ := oB
        refine Or.inr ⟨ac, (fun d hd => by cases hd; exact (eZ 18 rfl 109 rfl)), fun _ => ?_, fun h => absurd (aw : ac = true) h⟩
        refine r_call [.string a2] (evs1 (eZ 23 rfl 114 rfl)) rfl (ok_semtyperef1_IsAtom _ _ _ _ (RpV.mkStr _ _) du) ?_
        intro RC RD cm oF
        obtain rfl := RpV.bool oF
        refine j0 ?_
        exact ⟨_, _, rfl, rfl, (ExtB.refl _ _).trans (cm.mono oC.size), (Wext.refl _).trans cm.wext, rfl, ⟨(oD.ext cm), (oE.ext cm)⟩⟩
       ·intro RE RF RG RH RI RJ RK RL oG RM dx
        obtain ⟨oH, oI⟩ := oG
        refine Or.inr ⟨ac, (fun d hd => by cases hd; exact (dx 18 rfl 109 rfl)), fun _ => ?_, fun h => absurd (aw : ac = true) h⟩
        refine r_bin (.bool (ad == 0)) (.bool ae) (.bool ((ad == 0) == ae)) (dx 22 rfl 113 rfl) (dx 24 rfl 115 rfl) rfl rfl (b_beql Go.Proofs.Try.underlying4) ?_
        exact d0 ⟨rfl, ⟨oH, oI⟩⟩
       ·intro RN RO RP RQ RR RS RT RU oJ RV e0
        obtain ⟨oK, oL⟩ := oJ
        refine r_pick_t (c := ac) (.bool ((ad == 0) == ae)) (e0 18 rfl 109 rfl) aw (e0 25 rfl 116 rfl) rfl rfl rfl ?_
        exact d0 ⟨rfl, ⟨oK, oL⟩⟩
       ·intro RW RX RY RZ R0 R1 R2 R3 oM R4 oN
        obtain ⟨oO, oP⟩ := oM
        refine r_move (.bool ((ad == 0) == ae)) (oN 26 rfl 117 rfl) rfl ?_
        exact d0 ⟨rfl, ⟨oO, oP⟩⟩
       ·intro R5 R6 R7 R8 R9 Sa Sb Sc oQ oR oS
        obtain ⟨oT, oU⟩ := oQ
        refine Or.inr ⟨((ad == 0) == ae), (fun d hd => by cases hd; exact (oS 27 rfl 118 rfl)), fun _ => ?_, fun h => absurd (aK : ((ad == 0) == ae) = true) h⟩
        refine r_move (.int .i64 a1) ((oR 1 rfl).trans aT) rfl ?_
        exact d0 ⟨rfl, ⟨oT, oU⟩⟩
       ·intro Sd Se Sf Sg Sh Si oV Sj oW Sk e1
        have oX := ag.trans oV
        obtain ⟨oY, oZ⟩ := oW
        refine Or.inr ⟨((ad == 0) == ae), (fun d hd => by cases hd; exact (e1 27 rfl 118 rfl)), fun _ => ?_, fun h => absurd (aK : ((ad == 0) == ae) = true) h⟩
        refine r_call [.int .i64 a1] (evs1 (e1 28 rfl 119 rfl)) rfl (ok_value_Pid _ _ _ _ (RpV.mkInt _ _) eF) ?_
        intro Sl Sm cn o0
        obtain ⟨Sn, So, Sp, Sq, Sr, Ss, St, Su, rfl, o1, o2, o3, o4⟩ := Val.rpv o0
        refine j0 ?_
        exact ⟨_, _, rfl, rfl, (ExtB.refl _ _).trans (cn.mono oX.size), (Wext.refl _).trans cn.wext, (Val.rpvMk (v := be) o1 o2 o3 o4), ⟨(oY.ext cn), (oZ.ext cn)⟩⟩
       ·intro Sv o5 o6 Sw Sx Sy o7 Sz o8 SA e2
        have o9 := ag.trans o7
        obtain ⟨pa, pb⟩ := o8
        have pc : RpV o6 (be : Val) (o5 120) := e2 29 rfl 120 rfl
        obtain ⟨pd, pe, pf, pg, ph, pi, pj, pk, pl, pm, pn, po, pp⟩ := Val.rpv pc
        refine Or.inr ⟨((ad == 0) == ae), (fun d hd => by cases hd; exact (e2 27 rfl 118 rfl)), fun _ => ?_, fun h => absurd (aK : ((ad == 0) == ae) = true) h⟩
        refine r_call [Val.ag be pd pe pf pg ph pi pj pk] (evs1 pl) rfl ((ok_value_Validate fuel) _ _ _ _ (Val.rpvMk (v := be) pm pn po pp) eG) ?_
        intro SB SC co pq
        obtain rfl := RpV.int pq
        refine j0 ?_
        exact ⟨_, _, rfl, rfl, (ExtB.refl _ _).trans (co.mono o9.size), (Wext.refl _).trans co.wext, rfl, ⟨(pa.ext co), (pb.ext co)⟩⟩
       ·intro SD SE SF SG SH SI SJ SK pr SL e3
        obtain ⟨ps, pt⟩ := pr
        refine Or.inr ⟨((ad == 0) == ae), (fun d hd => by cases hd; exact (e3 27 rfl 118 rfl)), fun _ => ?_, fun h => absurd (aK : ((ad == 0) == ae) = true) h⟩
        refine r_bin (.int .i64 aH) (.int .i64 0) (.bool (aH == 0)) (e3 30 rfl 121 rfl) rfl rfl rfl (b_eql) ?_
        exact d0 ⟨rfl, ⟨ps, pt⟩⟩
       ·intro SM SN SO SP SQ SR SS ST pu pv pw
        obtain ⟨px, py⟩ := pu
        refine Or.inr ⟨((ad == 0) == ae), (fun d hd => by cases hd; exact (pw 27 rfl 118 rfl)), fun _ => ?_, fun h => absurd (aK : ((ad == 0) == ae) = true) h⟩
        refine r_move (.int .i64 a1) ((pv 1 rfl).trans aT) rfl ?_
        exact d0 ⟨rfl, ⟨px, py⟩⟩
       ·intro SU SV SW SX SY SZ S0 S1 pz S2 e4
        obtain ⟨pA, pB⟩ := pz
        refine Or.inr ⟨((ad == 0) == ae), (fun d hd => by cases hd; exact (e4 27 rfl 118 rfl)), fun _ => ?_, fun h => absurd (aK : ((ad == 0) == ae) = true) h⟩
        refine r_bin (.int .i64 a1) (.int .i64 0) (.bool (decide (0 ≤ a1))) (e4 32 rfl 123 rfl) rfl rfl rfl (b_geq) ?_
        exact d0 ⟨rfl, ⟨pA, pB⟩⟩
       ·intro S3 S4 S5 S6 S7 S8 S9 Ta pC Tb dy
        obtain ⟨pD, pE⟩ := pC
        refine Or.inr ⟨((ad == 0) == ae), (fun d hd => by cases hd; exact (dy 27 rfl 118 rfl)), fun _ => ?_, fun h => absurd (aK : ((ad == 0) == ae) = true) h⟩
        refine r_bin (.bool (aH == 0)) (.bool (decide (0 ≤ a1))) (.bool ((aH == 0) == (decide (0 ≤ a1)))) (dy 31 rfl 122 rfl) (dy 33 rfl 124 rfl) rfl rfl (b_beql Go.Proofs.Try.underlying4) ?_
        exact d0 ⟨rfl, ⟨pD, pE⟩⟩
       ·intro Tc Td Te Tf Tg Th Ti Tj pF Tk e5
        obtain ⟨pG, pH⟩ := pF
        refine r_pick_t (c := ((ad == 0) == ae)) (.bool ((aH == 0) == (decide (0 ≤ a1)))) (e5 27 rfl 118 rfl) aK (e5 34 rfl 125 rfl) rfl rfl rfl ?_
        exact d0 ⟨rfl, ⟨pG, pH⟩⟩
       ·intro Tl Tm Tn To Tp Tq Tr Ts pI Tt pJ
        obtain ⟨pK, pL⟩ := pI
        refine r_move (.bool ((aH == 0) == (decide (0 ≤ a1)))) (pJ 35 rfl 126 rfl) rfl ?_
        exact d0 ⟨rfl, ⟨pK, pL⟩⟩
       ·intro Tu Tv Tw Tx Ty Tz pM TA pN TB pO
        have pP := ag.trans pM
        obtain ⟨pQ, pR⟩ := pN
        refine Or.inr ⟨((aH == 0) == (decide (0 ≤ a1))), (fun d hd => by cases hd; exact (pO 36 rfl 127 rfl)), fun _ => ?_, fun h => absurd (bV : ((aH == 0) == (decide (0 ≤ a1))) = true) h⟩
        refine r_call [] evs0 rfl ((ok_semtypelaw4_awake fuel) _ _  ky) ?_
        intro TC TD cp pS
        obtain rfl := RpV.bool pS
        refine j0 ?_
        exact ⟨_, _, rfl, rfl, (ExtB.refl _ _).trans (cp.mono pP.size), (Wext.refl _).trans cp.wext, rfl, ⟨(pQ.ext cp), (pR.ext cp)⟩⟩
       ·intro TE TF TG TH TI TJ TK TL pT TM e7
        obtain ⟨pU, pV⟩ := pT
        refine r_pick_t (c := ((aH == 0) == (decide (0 ≤ a1)))) (.bool bJ) (e7 36 rfl 127 rfl) bV (e7 37 rfl 128 rfl) rfl rfl rfl ?_
        exact d0 ⟨rfl, ⟨pU, pV⟩⟩
       ·intro TN TO TP TQ TR TS TT TU pW TV pX
        obtain ⟨pY, pZ⟩ := pW
        refine r_assign (.bool bJ) (pX 38 rfl 129 rfl) rfl ?_
        exact d0 ⟨rfl, ⟨pY, pZ⟩⟩
       intro TW TX p0 TY p1 TZ p2
       have p3 := ag.trans p0
       obtain ⟨T0, T1⟩ := p1
       refine j1 (jb ?_)
       obtain rfl := Option.some.inj hf
       refine ret_one (.bool bJ) rfl ⟨rfl, (p2 39 6 rfl)⟩ p3 ?_
       exact (RpV.mkBool _ _)
      refine wp_draw (B := frExt s0.N) [some 91, some 92, some 93, some 94, some 95, some 96, some 97, some 98, some 99, some 100, some 101, some 102, some 103, some 104, some 105, some 106, some 107, some 108, some 109, some 110, some 111, some 112, some 113, some 114, some 115, some 116, some 117, some 118, some 119, some 120, some 121, some 122, some 123, some 124, some 125, some 126, some 127, some 128, some 129, some 6] [[], [], [1], [0, 1, 2], [0, 1, 2, 3], [0, 1, 2, 3, 4], [0, 1, 2, 3, 4, 5], [0, 1, 2, 3, 4], [0, 1, 2, 3, 4, 5, 6, 7], [0, 1, 2, 3, 4, 5, 6, 7, 8], [0, 1, 2, 3, 4, 5, 6, 7, 8, 9], [0, 1, 2, 3, 4, 5, 6, 7, 8, 9, 10], [0, 1, 2, 3, 4, 5, 6, 7, 8, 9, 10, 11], [0, 1, 2, 3, 4, 5, 6, 7, 8, 9, 10, 11, 12], [0, 1, 2, 3, 4, 5, 6, 7, 8, 9, 10, 11], [0, 1, 2, 3, 4, 5, 6, 7, 8, 9, 10, 11, 12, 13, 14], [0, 1, 2, 3, 4, 5, 6, 7, 8, 9, 10, 11, 12, 13, 14, 15], [0, 1, 2, 3, 4, 5, 6, 7, 8, 9, 10, 11, 12, 13, 14, 15, 16], [0, 1, 2, 3, 4, 5, 6, 7, 8, 9, 10, 11, 12, 13, 14, 15, 16, 17], [0, 1, 2, 3, 4, 5, 6, 7, 8, 9, 10, 11, 12, 13, 14, 15, 16, 17, 18], [0, 1, 2, 3, 4, 5, 6, 7, 8, 9, 10, 11, 12, 13, 14, 15, 16, 17, 18, 19], [0, 1, 2, 3, 4, 5, 6, 7, 8, 9, 10, 11, 12, 13, 14, 15, 16, 17, 18, 19, 20], [0, 1, 2, 3, 4, 5, 6, 7, 8, 9, 10, 11, 12, 13, 14, 15, 16, 17, 18, 19, 20, 21], [0, 1, 2, 3, 4, 5, 6, 7, 8, 9, 10, 11, 12, 13, 14, 15, 16, 17, 18], [0, 1, 2, 3, 4, 5, 6, 7, 8, 9, 10, 11, 12, 13, 14, 15, 16, 17, 18, 19, 20, 21, 23], [0, 1, 2, 3, 4, 5, 6, 7, 8, 9, 10, 11, 12, 13, 14, 15, 16, 17, 18, 19, 20, 21, 22, 23, 24], [0, 1, 2, 3, 4, 5, 6, 7, 8, 9, 10, 11, 12, 13, 14, 15, 16, 17, 18, 19, 20, 21, 22, 23, 24, 25], [0, 1, 2, 3, 4, 5, 6, 7, 8, 9, 10, 11, 12, 13, 14, 15, 16, 17, 18, 19, 20, 21, 22, 23, 24, 25, 26], [0, 1, 2, 3, 4, 5, 6, 7, 8, 9, 10, 11, 12, 13, 14, 15, 16, 17, 18, 19, 20, 21, 22, 23, 24, 25, 26, 27], [0, 1, 2, 3, 4, 5, 6, 7, 8, 9, 10, 11, 12, 13, 14, 15, 16, 17, 18, 19, 20, 21, 22, 23, 24, 25, 26, 27, 28], [0, 1, 2, 3, 4, 5, 6, 7, 8, 9, 10, 11, 12, 13, 14, 15, 16, 17, 18, 19, 20, 21, 22, 23, 24, 25, 26, 27, 28, 29], [0, 1, 2, 3, 4, 5, 6, 7, 8, 9, 10, 11, 12, 13, 14, 15, 16, 17, 18, 19, 20, 21, 22, 23, 24, 25, 26, 27, 28, 29, 30], [0, 1, 2, 3, 4, 5, 6, 7, 8, 9, 10, 11, 12, 13, 14, 15, 16, 17, 18, 19, 20, 21, 22, 23, 24, 25, 26, 27], [0, 1, 2, 3, 4, 5, 6, 7, 8, 9, 10, 11, 12, 13, 14, 15, 16, 17, 18, 19, 20, 21, 22, 23, 24, 25, 26, 27, 32], [0, 1, 2, 3, 4, 5, 6, 7, 8, 9, 10, 11, 12, 13, 14, 15, 16, 17, 18, 19, 20, 21, 22, 23, 24, 25, 26, 27, 28, 29, 30, 31, 32, 33], [0, 1, 2, 3, 4, 5, 6, 7, 8, 9, 10, 11, 12, 13, 14, 15, 16, 17, 18, 19, 20, 21, 22, 23, 24, 25, 26, 27, 28, 29, 30, 31, 32, 33, 34], [0, 1, 2, 3, 4, 5, 6, 7, 8, 9, 10, 11, 12, 13, 14, 15, 16, 17, 18, 19, 20, 21, 22, 23, 24, 25, 26, 27, 28, 29, 30, 31, 32, 33, 34, 35], [0, 1, 2, 3, 4, 5, 6, 7, 8, 9, 10, 11, 12, 13, 14, 15, 16, 17, 18, 19, 20, 21, 22, 23, 24, 25, 26, 27, 28, 29, 30, 31, 32, 33, 34, 35, 36], [0, 1, 2, 3, 4, 5, 6, 7, 8, 9, 10, 11, 12, 13, 14, 15, 16, 17, 18, 19, 20, 21, 22, 23, 24, 25, 26, 27, 28, 29, 30, 31, 32, 33, 34, 35, 36, 37], [0, 1, 2, 3, 4, 5, 6, 7, 8, 9, 10, 11, 12, 13, 14, 15, 16, 17, 18, 19, 20, 21, 22, 23, 24, 25, 26, 27, 28, 29, 30, 31, 32, 33, 34, 35, 36, 37, 38]] [Fct.data (af : Val), Fct.eqv (.slice ar aq.1.length au), Fct.data (aG : Val), Fct.eqv (.bool aa), Fct.eqv (.bool aa), Fct.eqv (.int .i64 a1), Fct.data (aI : Val), Fct.eqv (.int .i64 a1), Fct.data (aJ : Val), Fct.eqv (.bool ab), Fct.eqv (.bool ab), Fct.eqv (.bool ab), Fct.eqv (.string a2), Fct.data (aN : Val), Fct.eqv (.string a2), Fct.data (aO : Val), Fct.eqv (.bool ac), Fct.eqv (.bool ac), Fct.eqv (.bool ac), Fct.eqv (.string a2), Fct.data (aR : Val), Fct.eqv (.int .i64 ad), Fct.eqv (.bool (ad == 0)), Fct.eqv (.string a2), Fct.eqv (.bool ae), Fct.eqv (.bool ((ad == 0) == ae)), Fct.eqv (.bool ((ad == 0) == ae)), Fct.eqv (.bool ((ad == 0) == ae)), Fct.eqv (.int .i64 a1), Fct.data (be : Val), Fct.eqv (.int .i64 aH), Fct.eqv (.bool (aH == 0)), Fct.eqv (.int .i64 a1), Fct.eqv (.bool (decide (0 ≤ a1))), Fct.eqv (.bool ((aH == 0) == (decide (0 ≤ a1)))), Fct.eqv (.bool ((aH == 0) == (decide (0 ≤ a1)))), Fct.eqv (.bool ((aH == 0) == (decide (0 ≤ a1)))), Fct.eqv undef, Fct.eqv (.bool false), Fct.eqv (.bool false)] (fun D F τ => (Blk s0.N 4 τ aM 27 (Val.cs af ax ay az aA aB aC aD aE)) ∧ (Own s0.N 1 27 τ aq.1 ar au)) (by kernel_rfl) rfl (by decide) (by decide) ⟨(bD.ext (ext_draw _)), (bE.ext (ext_draw _))⟩ (by decide) (by decide) ⟨?_, ?_, ?_, ?_, ?_, ?_, ?_, ?_, ?_, ?_, ?_, ?_, ?_, ?_, ?_, ?_, ?_, ?_, ?_, ?_, ?_, ?_, ?_, ?_, ?_, ?_, ?_, ?_, ?_, ?_, ?_, ?_, ?_, ?_, ?_, ?_, ?_, ?_, ?_, ?_, trivial⟩ ?_
      ·intro T2 T3 T4 T5 T6 T7 T8 cq p4 p5 T9
       obtain ⟨e8, p6⟩ := p4
       have p7 := e8
       refine r_load aM 0 (Val.ag af ax ay az aA aB aC aD aE) ((p5 10 rfl).trans bG) rfl (loads_row tr27 (Blk.range p7 0 (Val.cs af ax ay az aA aB aC aD aE) rfl)) ?_
       exact d0 ⟨(Val.rpvMk (v := af) (((((((((((bj.mono ap.wext).mono an.wext).mono ao.wext).mono ai.wext).mono am.wext).mono aj.wext).mono ah.wext).mono ak.wext).mono al.wext).mono aL).mono cq) (((((((((((bk.mono ap.wext).mono an.wext).mono ao.wext).mono ai.wext).mono am.wext).mono aj.wext).mono ah.wext).mono ak.wext).mono al.wext).mono aL).mono cq) (((((((((((bl.mono ap.wext).mono an.wext).mono ao.wext).mono ai.wext).mono am.wext).mono aj.wext).mono ah.wext).mono ak.wext).mono al.wext).mono aL).mono cq) (((((((((((bm.mono ap.wext).mono an.wext).mono ao.wext).mono ai.wext).mono am.wext).mono aj.wext).mono ah.wext).mono ak.wext).mono al.wext).mono aL).mono cq)), ⟨e8, p6⟩⟩
      ·intro Ua Ub Uc Ud Ue Uf Ug Uh p8 p9 Ui
       obtain ⟨qa, qb⟩ := p8
       refine r_move (.slice ar aq.1.length au) ((p9 7 rfl).trans bF) rfl ?_
       exact d0 ⟨rfl, ⟨qa, qb⟩⟩
      ·intro Uj Uk Ul Um Un Uo qc Up qd Uq qe
       have qf := ag.trans qc
       obtain ⟨qg, e9⟩ := qd
       refine r_call [.slice ar aq.1.length au] (evs1 (qe 1 rfl 92 rfl)) rfl ((ok_semtyperef1_List fuel) _ _ _ _ (RpV.mkList e9.sl) bH) ?_
       intro Ur Us cr qh
       obtain ⟨Ut, Uu, Uv, Uw, Ux, Uy, Uz, UA, rfl, qi, qj, qk, ql⟩ := Val.rpv qh
       refine j0 ?_
       exact ⟨_, _, rfl, rfl, (ExtB.refl _ _).trans (cr.mono qf.size), (Wext.refl _).trans cr.wext, (Val.rpvMk (v := aG) qi qj qk ql), ⟨(qg.ext cr), (e9.ext cr)⟩⟩
      ·intro UB fa fb UC UD UE qm UF qn UG fc
       have qo := ag.trans qm
       obtain ⟨qp, qq⟩ := qn
       have qr : RpV fb (af : Val) (fa 91) := fc 0 rfl 91 rfl
       obtain ⟨qs, qt, qu, qv, qw, qx, qy, qz, qA, qB, qC, qD, qE⟩ := Val.rpv qr
       have qF : RpV fb (aG : Val) (fa 93) := fc 2 rfl 93 rfl
       obtain ⟨qG, qH, qI, qJ, qK, qL, qM, qN, qO, qP, qQ, qR, qS⟩ := Val.rpv qF
       refine r_call [Val.ag af qs qt qu qv qw qx qy qz, Val.ag aG qG qH qI qJ qK qL qM qN] (evs2 qA qO) rfl ((ok_semtyperef1_Equal fuel) _ _ _ _ _ _ (Val.rpvMk (v := af) qB qC qD qE) (Val.rpvMk (v := aG) qP qQ qR qS) bI) ?_
       intro UH UI cs qT
       obtain rfl := RpV.bool qT
       refine j0 ?_
       exact ⟨_, _, rfl, rfl, (ExtB.refl _ _).trans (cs.mono qo.size), (Wext.refl _).trans cs.wext, rfl, ⟨(qp.ext cs), (qq.ext cs)⟩⟩
      ·intro UJ UK UL UM UN UO UP UQ qU UR qV
       obtain ⟨qW, qX⟩ := qU
       refine r_move (.bool aa) (qV 3 rfl 94 rfl) rfl ?_
       exact d0 ⟨rfl, ⟨qW, qX⟩⟩
      ·intro US UT UU UV UW UX UY UZ qY qZ q0
       obtain ⟨q1, q2⟩ := qY
       refine Or.inr ⟨aa, (fun d hd => by cases hd; exact (q0 4 rfl 95 rfl)), fun _ => ?_, fun h => absurd (av : aa = true) h⟩
       refine r_move (.int .i64 a1) ((qZ 1 rfl).trans aT) rfl ?_
       exact d0 ⟨rfl, ⟨q1, q2⟩⟩
      ·intro U0 U1 U2 U3 U4 U5 q3 U6 q4 U7 fd
       have q5 := ag.trans q3
       obtain ⟨q6, q7⟩ := q4
       refine Or.inr ⟨aa, (fun d hd => by cases hd; exact (fd 4 rfl 95 rfl)), fun _ => ?_, fun h => absurd (av : aa = true) h⟩
       refine r_call [.int .i64 a1] (evs1 (fd 5 rfl 96 rfl)) rfl (ok_value_Int _ _ _ _ (RpV.mkInt _ _) bS) ?_
       intro U8 U9 ct q8
       obtain ⟨Va, Vb, Vc, Vd, Ve, Vf, Vg, Vh, rfl, q9, ra, rb, rc⟩ := Val.rpv q8
       refine j0 ?_
       exact ⟨_, _, rfl, rfl, (ExtB.refl _ _).trans (ct.mono q5.size), (Wext.refl _).trans ct.wext, (Val.rpvMk (v := aI) q9 ra rb rc), ⟨(q6.ext ct), (q7.ext ct)⟩⟩
      ·intro Vi Vj Vk Vl Vm Vn Vo Vp rd re rf
       obtain ⟨rg, rh⟩ := rd
       refine Or.inr ⟨aa, (fun d hd => by cases hd; exact (rf 4 rfl 95 rfl)), fun _ => ?_, fun h => absurd (av : aa = true) h⟩
       refine r_move (.int .i64 a1) ((re 1 rfl).trans aT) rfl ?_
       exact d0 ⟨rfl, ⟨rg, rh⟩⟩
      ·intro Vq Vr Vs Vt Vu Vv ri Vw rj Vx fe
       have rk := ag.trans ri
       obtain ⟨rl, rm⟩ := rj
       refine Or.inr ⟨aa, (fun d hd => by cases hd; exact (fe 4 rfl 95 rfl)), fun _ => ?_, fun h => absurd (av : aa = true) h⟩
       refine r_call [.int .i64 a1] (evs1 (fe 7 rfl 98 rfl)) rfl (ok_semtyperef1_Int _ _ _ _ (RpV.mkInt _ _) bT) ?_
       intro Vy Vz cu rn
       obtain ⟨VA, VB, VC, VD, VE, VF, VG, VH, rfl, ro, rq, rr, rs⟩ := Val.rpv rn
       refine j0 ?_
       exact ⟨_, _, rfl, rfl, (ExtB.refl _ _).trans (cu.mono rk.size), (Wext.refl _).trans cu.wext, (Val.rpvMk (v := aJ) ro rq rr rs), ⟨(rl.ext cu), (rm.ext cu)⟩⟩
      ·intro VI ff fg VJ VK VL rt VM ru VN dz
       have rv := ag.trans rt
       obtain ⟨rw, rx⟩ := ru
       have ry : RpV fg (aI : Val) (ff 97) := dz 6 rfl 97 rfl
       obtain ⟨rz, rA, rB, rC, rD, rE, rF, rG, rH, rI, rJ, rK, rL⟩ := Val.rpv ry
       have rM : RpV fg (aJ : Val) (ff 99) := dz 8 rfl 99 rfl
       obtain ⟨rN, rO, rP, rQ, rR, rS, rT, rU, rV, rW, rX, rY, rZ⟩ := Val.rpv rM
       refine Or.inr ⟨aa, (fun d hd => by cases hd; exact (dz 4 rfl 95 rfl)), fun _ => ?_, fun h => absurd (av : aa = true) h⟩
       refine r_call [Val.ag aI rz rA rB rC rD rE rF rG, Val.ag aJ rN rO rP rQ rR rS rT rU] (evs2 rH rV) rfl ((ok_semtyperef1_Equal fuel) _ _ _ _ _ _ (Val.rpvMk (v := aI) rI rJ rK rL) (Val.rpvMk (v := aJ) rW rX rY rZ) bU) ?_
       intro VO VP cv r0
       obtain rfl := RpV.bool r0
       refine j0 ?_
       exact ⟨_, _, rfl, rfl, (ExtB.refl _ _).trans (cv.mono rv.size), (Wext.refl _).trans cv.wext, rfl, ⟨(rw.ext cv), (rx.ext cv)⟩⟩
      ·intro VQ VR VS VT VU VV VW VX r1 VY fh
       obtain ⟨r2, r3⟩ := r1
       refine r_pick_t (c := aa) (.bool ab) (fh 4 rfl 95 rfl) av (fh 9 rfl 100 rfl) rfl rfl rfl ?_
       exact d0 ⟨rfl, ⟨r2, r3⟩⟩
      ·intro VZ V0 V1 V2 V3 V4 V5 V6 r4 V7 r6
       obtain ⟨r7, r8⟩ := r4
       refine r_move (.bool ab) (r6 10 rfl 101 rfl) rfl ?_
       exact d0 ⟨rfl, ⟨r7, r8⟩⟩
      ·intro V8 V9 Wa Wb Wc Wd We Wf r9 sa sb
       obtain ⟨sc, sd⟩ := r9
       refine Or.inr ⟨ab, (fun d hd => by cases hd; exact (sb 11 rfl 102 rfl)), fun _ => ?_, fun h => absurd (aF : ab = true) h⟩
       refine r_move (.string a2) ((sa 2 rfl).trans aU) rfl ?_
       exact d0 ⟨rfl, ⟨sc, sd⟩⟩
      ·intro Wg Wh Wi Wj Wk Wl se Wm sf Wn fj
       have sg := ag.trans se
       obtain ⟨sh, si⟩ := sf
       refine Or.inr ⟨ab, (fun d hd => by cases hd; exact (fj 11 rfl 102 rfl)), fun _ => ?_, fun h => absurd (aF : ab = true) h⟩
       refine r_call [.string a2] (evs1 (fj 12 rfl 103 rfl)) rfl (ok_value_String _ _ _ _ (RpV.mkStr _ _) b8) ?_
       intro Wo Wp cw sj
       obtain ⟨Wq, Wr, Ws, Wt, Wu, Wv, Ww, Wx, rfl, sk, sm, sn, so⟩ := Val.rpv sj
       refine j0 ?_
       exact ⟨_, _, rfl, rfl, (ExtB.refl _ _).trans (cw.mono sg.size), (Wext.refl _).trans cw.wext, (Val.rpvMk (v := aN) sk sm sn so), ⟨(sh.ext cw), (si.ext cw)⟩⟩
      ·intro Wy Wz WA WB WC WD WE WF sp sq sr
       obtain ⟨ss, st⟩ := sp
       refine Or.inr ⟨ab, (fun d hd => by cases hd; exact (sr 11 rfl 102 rfl)), fun _ => ?_, fun h => absurd (aF : ab = true) h⟩
       refine r_move (.string a2) ((sq 2 rfl).trans aU) rfl ?_
       exact d0 ⟨rfl, ⟨ss, st⟩⟩
      ·intro WG WH WI WJ WK WL su WM sv WN fk
       have sw := ag.trans su
       obtain ⟨sx, sy⟩ := sv
       refine Or.inr ⟨ab, (fun d hd => by cases hd; exact (fk 11 rfl 102 rfl)), fun _ => ?_, fun h => absurd (aF : ab = true) h⟩
       refine r_call [.string a2] (evs1 (fk 14 rfl 105 rfl)) rfl (ok_semtyperef1_String _ _ _ _ (RpV.mkStr _ _) b9) ?_
       intro WO WP cx sA
       obtain ⟨WQ, WR, WS, WT, WU, WV, WW, WX, rfl, sB, sC, sD, sE⟩ := Val.rpv sA
       refine j0 ?_
       exact ⟨_, _, rfl, rfl, (ExtB.refl _ _).trans (cx.mono sw.size), (Wext.refl _).trans cx.wext, (Val.rpvMk (v := aO) sB sC sD sE), ⟨(sx.ext cx), (sy.ext cx)⟩⟩
      ·intro WY fm fn WZ W0 W1 sF W2 sG W3 dA
       have sH := ag.trans sF
       obtain ⟨sI, sJ⟩ := sG
       have sK : RpV fn (aN : Val) (fm 104) := dA 13 rfl 104 rfl
       obtain ⟨sL, sM, sN, sO, sP, sQ, sR, sS, sT, sU, sV, sW, sX⟩ := Val.rpv sK
       have sY : RpV fn (aO : Val) (fm 106) := dA 15 rfl 106 rfl
       obtain ⟨sZ, s1, s2, s3, s4, s5, s6, s8, s9, ta, tb, tc, td⟩ := Val.rpv sY
       refine Or.inr ⟨ab, (fun d hd => by cases hd; exact (dA 11 rfl 102 rfl)), fun _ => ?_, fun h => absurd (aF : ab = true) h⟩
       refine r_call [Val.ag aN sL sM sN sO sP sQ sR sS, Val.ag aO sZ s1 s2 s3 s4 s5 s6 s8] (evs2 sT s9) rfl ((ok_semtyperef1_Equal fuel) _ _ _ _ _ _ (Val.rpvMk (v := aN) sU sV sW sX) (Val.rpvMk (v := aO) ta tb tc td) ca) ?_
       intro W4 W5 cy te
       obtain rfl := RpV.bool te
       refine j0 ?_
       exact ⟨_, _, rfl, rfl, (ExtB.refl _ _).trans (cy.mono sH.size), (Wext.refl _).trans cy.wext, rfl, ⟨(sI.ext cy), (sJ.ext cy)⟩⟩
      ·intro W6 W7 W8 W9 Xa Xb Xc Xd tf Xe fo
       obtain ⟨tg, th⟩ := tf
       refine r_pick_t (c := ab) (.bool ac) (fo 11 rfl 102 rfl) aF (fo 16 rfl 107 rfl) rfl rfl rfl ?_
       exact d0 ⟨rfl, ⟨tg, th⟩⟩
      ·intro Xf Xg Xh Xi Xj Xk Xl Xm ti Xn tj
       obtain ⟨tk, tl⟩ := ti
       refine r_move (.bool ac) (tj 17 rfl 108 rfl) rfl ?_
       exact d0 ⟨rfl, ⟨tk, tl⟩⟩
      ·intro Xo Xp Xq Xr Xs Xt Xu Xv tm tn tp
       obtain ⟨tq, tr⟩ := tm
       refine Or.inr ⟨ac, (fun d hd => by cases hd; exact (tp 18 rfl 109 rfl)), fun _ => ?_, fun h => absurd (aw : ac = true) h⟩
       refine r_move (.string a2) ((tn 2 rfl).trans aU) rfl ?_
       exact d0 ⟨rfl, ⟨tq, tr⟩⟩
      ·intro Xw Xx Xy Xz XA XB ts XC tt XD fp
       have tu := ag.trans ts
       obtain ⟨tv, tw⟩ := tt
       refine Or.inr ⟨ac, (fun d hd => by cases hd; exact (fp 18 rfl 109 rfl)), fun _ => ?_, fun h => absurd (aw : ac = true) h⟩
       refine r_call [.string a2] (evs1 (fp 19 rfl 110 rfl)) rfl (ok_value_Atom _ _ _ _ (RpV.mkStr _ _) ds) ?_
       intro XE XF cz tx
       obtain ⟨XG, XH, XI, XJ, XK, XL, XM, XN, rfl, ty, tz, tA, tB⟩ := Val.rpv tx
       refine j0 ?_
       exact ⟨_, _, rfl, rfl, (ExtB.refl _ _).trans (cz.mono tu.size), (Wext.refl _).trans cz.wext, (Val.rpvMk (v := aR) ty tz tA tB), ⟨(tv.ext cz), (tw.ext cz)⟩⟩
      ·intro XO tC tD XP XQ XR tE XS tF XT fq
       have tG := ag.trans tE
       obtain ⟨tH, tI⟩ := tF
       have tJ : RpV tD (aR : Val) (tC 111) := fq 20 rfl 111 rfl
       obtain ⟨tK, tL, tM, tN, tO, tP, tQ, tR, tS, tT, tU, tV, tW⟩ := Val.rpv tJ
       refine Or.inr ⟨ac, (fun d hd => by cases hd; exact (fq 18 rfl 109 rfl)), fun _ => ?_, fun h => absurd (aw : ac = true) h⟩
       refine r_call [Val.ag aR tK tL tM tN tO tP tQ tR] (evs1 tS) rfl ((ok_value_Validate fuel) _ _ _ _ (Val.rpvMk (v := aR) tT tU tV tW) dt) ?_
       intro XU XV cA tX
       obtain rfl := RpV.int tX
       refine j0 ?_
       exact ⟨_, _, rfl, rfl, (ExtB.refl _ _).trans (cA.mono tG.size), (Wext.refl _).trans cA.wext, rfl, ⟨(tH.ext cA), (tI.ext cA)⟩⟩
      ·intro XW XX XY XZ X0 X1 X2 X3 tY X4 fs
       obtain ⟨tZ, t0⟩ := tY
       refine Or.inr ⟨ac, (fun d hd => by cases hd; exact (fs 18 rfl 109 rfl)), fun _ => ?_, fun h => absurd (aw : ac = true) h⟩
       refine r_bin (.int .i64 ad) (.int .i64 0) (.bool (ad == 0)) (fs 21 rfl 112 rfl) rfl rfl rfl (b_eql) ?_
       exact d0 ⟨rfl, ⟨tZ, t0⟩⟩
      ·intro X5 X6 X7 X8 X9 Ya Yb Yc t1 t2 t3
       obtain ⟨t4, t5⟩ := t1
       refine Or.inr ⟨ac, (fun d hd => by cases hd; exact (t3 18 rfl 109 rfl)), fun _ => ?_, fun h => absurd (aw : ac = true) h⟩
       refine r_move (.string a2) ((t2 2 rfl).trans aU) rfl ?_
       exact d0 ⟨rfl, ⟨t4, t5⟩⟩
      ·intro Yd Ye Yf Yg Yh Yi t6 Yj t7 Yk ft
       have t8 := ag.trans t6
       obtain ⟨t9, ua⟩ := t7
       refine Or.inr ⟨ac, (fun d hd => by cases hd; exact (ft 18 rfl 109 rfl)), fun _ => ?_, fun h => absurd (aw : ac = true) h⟩
       refine r_call [.string a2] (evs1 (ft 23 rfl 114 rfl)) rfl (ok_semtyperef1_IsAtom _ _ _ _ (RpV.mkStr _ _) du) ?_
       intro Yl Ym cB ub
       obtain rfl := RpV.bool ub
       refine j0 ?_
       exact ⟨_, _, rfl, rfl, (ExtB.refl _ _).trans (cB.mono t8.size), (Wext.refl _).trans cB.wext, rfl, ⟨(t9.ext cB), (ua.ext cB)⟩⟩
      ·intro Yn Yo Yp Yq Yr Ys Yt Yu uc Yv dB
       obtain ⟨ud, ue⟩ := uc
       refine Or.inr ⟨ac, (fun d hd => by cases hd; exact (dB 18 rfl 109 rfl)), fun _ => ?_, fun h => absurd (aw : ac = true) h⟩
       refine r_bin (.bool (ad == 0)) (.bool ae) (.bool ((ad == 0) == ae)) (dB 22 rfl 113 rfl) (dB 24 rfl 115 rfl) rfl rfl (b_beql Go.Proofs.Try.underlying4) ?_
       exact d0 ⟨rfl, ⟨ud, ue⟩⟩
      ·intro Yw Yx Yy Yz YA YB YC YD uf YE fu
       obtain ⟨ug, uh⟩ := uf
       refine r_pick_t (c := ac) (.bool ((ad == 0) == ae)) (fu 18 rfl 109 rfl) aw (fu 25 rfl 116 rfl) rfl rfl rfl ?_
       exact d0 ⟨rfl, ⟨ug, uh⟩⟩
      ·intro YF YG YH YI YJ YK YL YM ui YN uj
       obtain ⟨uk, ul⟩ := ui
       refine r_move (.bool ((ad == 0) == ae)) (uj 26 rfl 117 rfl) rfl ?_
       exact d0 ⟨rfl, ⟨uk, ul⟩⟩
      ·intro YO YP YQ YR YS YT YU YV um un uo
       obtain ⟨up, uq⟩ := um
       refine Or.inr ⟨((ad == 0) == ae), (fun d hd => by cases hd; exact (uo 27 rfl 118 rfl)), fun _ => ?_, fun h => absurd (aK : ((ad == 0) == ae) = true) h⟩
       refine r_move (.int .i64 a1) ((un 1 rfl).trans aT) rfl ?_
       exact d0 ⟨rfl, ⟨up, uq⟩⟩
      ·intro YW YX YY YZ Y0 Y1 ur Y2 us Y3 fv
       have ut := ag.trans ur
       obtain ⟨uu, uv⟩ := us
       refine Or.inr ⟨((ad == 0) == ae), (fun d hd => by cases hd; exact (fv 27 rfl 118 rfl)), fun _ => ?_, fun h => absurd (aK : ((ad == 0) == ae) = true) h⟩
       refine r_call [.int .i64 a1] (evs1 (fv 28 rfl 119 rfl)) rfl (ok_value_Pid _ _ _ _ (RpV.mkInt _ _) eF) ?_
       intro Y4 Y5 cC uw
       obtain ⟨Y6, Y7, Y8, Y9, Za, Zb, Zc, Zd, rfl, ux, uy, uz, uA⟩ := Val.rpv uw
       refine j0 ?_
       exact ⟨_, _, rfl, rfl, (ExtB.refl _ _).trans (cC.mono ut.size), (Wext.refl _).trans cC.wext, (Val.rpvMk (v := be) ux uy uz uA), ⟨(uu.ext cC), (uv.ext cC)⟩⟩
      ·intro Ze uB uC Zf Zg Zh uD Zi uE Zj fw
       have uF := ag.trans uD
       obtain ⟨uG, uH⟩ := uE
       have uI : RpV uC (be : Val) (uB 120) := fw 29 rfl 120 rfl
       obtain ⟨uJ, uK, uL, uM, uN, uO, uP, uQ, uR, uS, uT, uU, uV⟩ := Val.rpv uI
       refine Or.inr ⟨((ad == 0) == ae), (fun d hd => by cases hd; exact (fw 27 rfl 118 rfl)), fun _ => ?_, fun h => absurd (aK : ((ad == 0) == ae) = true) h⟩
       refine r_call [Val.ag be uJ uK uL uM uN uO uP uQ] (evs1 uR) rfl ((ok_value_Validate fuel) _ _ _ _ (Val.rpvMk (v := be) uS uT uU uV) eG) ?_
       intro Zk Zl cD uW
       obtain rfl := RpV.int uW
       refine j0 ?_
       exact ⟨_, _, rfl, rfl, (ExtB.refl _ _).trans (cD.mono uF.size), (Wext.refl _).trans cD.wext, rfl, ⟨(uG.ext cD), (uH.ext cD)⟩⟩
      ·intro Zm Zn Zo Zp Zq Zr Zs Zt uX Zu fx
       obtain ⟨uY, uZ⟩ := uX
       refine Or.inr ⟨((ad == 0) == ae), (fun d hd => by cases hd; exact (fx 27 rfl 118 rfl)), fun _ => ?_, fun h => absurd (aK : ((ad == 0) == ae) = true) h⟩
       refine r_bin (.int .i64 aH) (.int .i64 0) (.bool (aH == 0)) (fx 30 rfl 121 rfl) rfl rfl rfl (b_eql) ?_
       exact d0 ⟨rfl, ⟨uY, uZ⟩⟩
      ·intro Zv Zw Zx Zy Zz ZA ZB ZC u0 u1 u2
       obtain ⟨u3, u4⟩ := u0
       refine Or.inr ⟨((ad == 0) == ae), (fun d hd => by cases hd; exact (u2 27 rfl 118 rfl)), fun _ => ?_, fun h => absurd (aK : ((ad == 0) == ae) = true) h⟩
       refine r_move (.int .i64 a1) ((u1 1 rfl).trans aT) rfl ?_
       exact d0 ⟨rfl, ⟨u3, u4⟩⟩
      ·intro ZD ZE ZF ZG ZH ZI ZJ ZK u5 ZL fy
       obtain ⟨u6, u7⟩ := u5
       refine Or.inr ⟨((ad == 0) == ae), (fun d hd => by cases hd; exact (fy 27 rfl 118 rfl)), fun _ => ?_, fun h => absurd (aK : ((ad == 0) == ae) = true) h⟩
       refine r_bin (.int .i64 a1) (.int .i64 0) (.bool (decide (0 ≤ a1))) (fy 32 rfl 123 rfl) rfl rfl rfl (b_geq) ?_
       exact d0 ⟨rfl, ⟨u6, u7⟩⟩
      ·intro ZM ZN ZO ZP ZQ ZR ZS ZT u8 ZU dC
       obtain ⟨u9, vb⟩ := u8
       refine Or.inr ⟨((ad == 0) == ae), (fun d hd => by cases hd; exact (dC 27 rfl 118 rfl)), fun _ => ?_, fun h => absurd (aK : ((ad == 0) == ae) = true) h⟩
       refine r_bin (.bool (aH == 0)) (.bool (decide (0 ≤ a1))) (.bool ((aH == 0) == (decide (0 ≤ a1)))) (dC 31 rfl 122 rfl) (dC 33 rfl 124 rfl) rfl rfl (b_beql Go.Proofs.Try.underlying4) ?_
       exact d0 ⟨rfl, ⟨u9, vb⟩⟩
      ·intro ZV ZW ZX ZY ZZ Z0 Z1 Z2 vc Z3 fz
       obtain ⟨vd, ve⟩ := vc
       refine r_pick_t (c := ((ad == 0) == ae)) (.bool ((aH == 0) == (decide (0 ≤ a1)))) (fz 27 rfl 118 rfl) aK (fz 34 rfl 125 rfl) rfl rfl rfl ?_
       exact d0 ⟨rfl, ⟨vd, ve⟩⟩
      ·intro Z4 Z5 Z6 Z7 Z8 Z9 aaa aab vf aac vg
       obtain ⟨vh, vi⟩ := vf
       refine r_move (.bool ((aH == 0) == (decide (0 ≤ a1)))) (vg 35 rfl 126 rfl) rfl ?_
       exact d0 ⟨rfl, ⟨vh, vi⟩⟩
      ·intro aad aae aaf aag aah aai aaj aak vj aal vk
       obtain ⟨vl, vm⟩ := vj
       refine Or.inr ⟨((aH == 0) == (decide (0 ≤ a1))), (fun d hd => by cases hd; exact (vk 36 rfl 127 rfl)), fun h => Bool.noConfusion (Eq.trans (Eq.symm (bV : ((aH == 0) == (decide (0 ≤ a1))) = false)) h), fun _ => ⟨rfl, ?_⟩⟩
       exact ⟨vl, vm⟩
      ·intro aam vn aan aao aap aaq aar aas vo aat fA
       obtain ⟨vp, vq⟩ := vo
       have aau : vn 128 = undef := fA 37 rfl 128 rfl
       refine r_pick_f (c := ((aH == 0) == (decide (0 ≤ a1)))) (.bool false) (fA 36 rfl 127 rfl) bV rfl rfl rfl rfl ?_
       exact d0 ⟨rfl, ⟨vp, vq⟩⟩
      ·intro aav aaw aax aay aaz aaA aaB aaC vr aaD vs
       obtain ⟨vt, vu⟩ := vr
       refine r_assign (.bool false) (vs 38 rfl 129 rfl) rfl ?_
       exact d0 ⟨rfl, ⟨vt, vu⟩⟩
      intro aaE aaF vv aaG vw aaH vx
      have vy := ag.trans vv
      obtain ⟨aaI, aaJ⟩ := vw
      refine j1 (jb ?_)
      obtain rfl := Option.some.inj hf
      refine ret_one (.bool false) rfl ⟨rfl, (vx 39 6 rfl)⟩ vy ?_
      exact (RpV.mkBool _ _)
     refine wp_draw (B := frExt s0.N) [some 91, some 92, some 93, some 94, some 95, some 96, some 97, some 98, some 99, some 100, some 101, some 102, some 103, some 104, some 105, some 106, some 107, some 108, some 109, some 110, some 111, some 112, some 113, some 114, some 115, some 116, some 117, some 118, some 119, some 120, some 121, some 122, some 123, some 124, some 125, some 126, some 127, some 128, some 129, some 6] [[], [], [1], [0, 1, 2], [0, 1, 2, 3], [0, 1, 2, 3, 4], [0, 1, 2, 3, 4, 5], [0, 1, 2, 3, 4], [0, 1, 2, 3, 4, 5, 6, 7], [0, 1, 2, 3, 4, 5, 6, 7, 8], [0, 1, 2, 3, 4, 5, 6, 7, 8, 9], [0, 1, 2, 3, 4, 5, 6, 7, 8, 9, 10], [0, 1, 2, 3, 4, 5, 6, 7, 8, 9, 10, 11], [0, 1, 2, 3, 4, 5, 6, 7, 8, 9, 10, 11, 12], [0, 1, 2, 3, 4, 5, 6, 7, 8, 9, 10, 11], [0, 1, 2, 3, 4, 5, 6, 7, 8, 9, 10, 11, 12, 13, 14], [0, 1, 2, 3, 4, 5, 6, 7, 8, 9, 10, 11, 12, 13, 14, 15], [0, 1, 2, 3, 4, 5, 6, 7, 8, 9, 10, 11, 12, 13, 14, 15, 16], [0, 1, 2, 3, 4, 5, 6, 7, 8, 9, 10, 11, 12, 13, 14, 15, 16, 17], [0, 1, 2, 3, 4, 5, 6, 7, 8, 9, 10, 11, 12, 13, 14, 15, 16, 17, 18], [0, 1, 2, 3, 4, 5, 6, 7, 8, 9, 10, 11, 12, 13, 14, 15, 16, 17, 18, 19], [0, 1, 2, 3, 4, 5, 6, 7, 8, 9, 10, 11, 12, 13, 14, 15, 16, 17, 18, 19, 20], [0, 1, 2, 3, 4, 5, 6, 7, 8, 9, 10, 11, 12, 13, 14, 15, 16, 17, 18, 19, 20, 21], [0, 1, 2, 3, 4, 5, 6, 7, 8, 9, 10, 11, 12, 13, 14, 15, 16, 17, 18], [0, 1, 2, 3, 4, 5, 6, 7, 8, 9, 10, 11, 12, 13, 14, 15, 16, 17, 18, 19, 20, 21, 23], [0, 1, 2, 3, 4, 5, 6, 7, 8, 9, 10, 11, 12, 13, 14, 15, 16, 17, 18, 19, 20, 21, 22, 23, 24], [0, 1, 2, 3, 4, 5, 6, 7, 8, 9, 10, 11, 12, 13, 14, 15, 16, 17, 18, 19, 20, 21, 22, 23, 24, 25], [0, 1, 2, 3, 4, 5, 6, 7, 8, 9, 10, 11, 12, 13, 14, 15, 16, 17, 18, 19, 20, 21, 22, 23, 24, 25, 26], [0, 1, 2, 3, 4, 5, 6, 7, 8, 9, 10, 11, 12, 13, 14, 15, 16, 17, 18, 19, 20, 21, 22, 23, 24, 25, 26, 27], [0, 1, 2, 3, 4, 5, 6, 7, 8, 9, 10, 11, 12, 13, 14, 15, 16, 17, 18, 19, 20, 21, 22, 23, 24, 25, 26, 27, 28], [0, 1, 2, 3, 4, 5, 6, 7, 8, 9, 10, 11, 12, 13, 14, 15, 16, 17, 18, 19, 20, 21, 22, 23, 24, 25, 26, 27, 28, 29], [0, 1, 2, 3, 4, 5, 6, 7, 8, 9, 10, 11, 12, 13, 14, 15, 16, 17, 18, 19, 20, 21, 22, 23, 24, 25, 26, 27, 28, 29, 30], [0, 1, 2, 3, 4, 5, 6, 7, 8, 9, 10, 11, 12, 13, 14, 15, 16, 17, 18, 19, 20, 21, 22, 23, 24, 25, 26, 27], [0, 1, 2, 3, 4, 5, 6, 7, 8, 9, 10, 11, 12, 13, 14, 15, 16, 17, 18, 19, 20, 21, 22, 23, 24, 25, 26, 27, 32], [0, 1, 2, 3, 4, 5, 6, 7, 8, 9, 10, 11, 12, 13, 14, 15, 16, 17, 18, 19, 20, 21, 22, 23, 24, 25, 26, 27, 28, 29, 30, 31, 32, 33], [0, 1, 2, 3, 4, 5, 6, 7, 8, 9, 10, 11, 12, 13, 14, 15, 16, 17, 18, 19, 20, 21, 22, 23, 24, 25, 26, 27, 28, 29, 30, 31, 32, 33, 34], [0, 1, 2, 3, 4, 5, 6, 7, 8, 9, 10, 11, 12, 13, 14, 15, 16, 17, 18, 19, 20, 21, 22, 23, 24, 25, 26, 27, 28, 29, 30, 31, 32, 33, 34, 35], [0, 1, 2, 3, 4, 5, 6, 7, 8, 9, 10, 11, 12, 13, 14, 15, 16, 17, 18, 19, 20, 21, 22, 23, 24, 25, 26, 27, 28, 29, 30, 31, 32, 33, 34, 35, 36], [0, 1, 2, 3, 4, 5, 6, 7, 8, 9, 10, 11, 12, 13, 14, 15, 16, 17, 18, 19, 20, 21, 22, 23, 24, 25, 26, 27, 28, 29, 30, 31, 32, 33, 34, 35, 36, 37], [0, 1, 2, 3, 4, 5, 6, 7, 8, 9, 10, 11, 12, 13, 14, 15, 16, 17, 18, 19, 20, 21, 22, 23, 24, 25, 26, 27, 28, 29, 30, 31, 32, 33, 34, 35, 36, 37, 38]] [Fct.data (af : Val), Fct.eqv (.slice ar aq.1.length au), Fct.data (aG : Val), Fct.eqv (.bool aa), Fct.eqv (.bool aa), Fct.eqv (.int .i64 a1), Fct.data (aI : Val), Fct.eqv (.int .i64 a1), Fct.data (aJ : Val), Fct.eqv (.bool ab), Fct.eqv (.bool ab), Fct.eqv (.bool ab), Fct.eqv (.string a2), Fct.data (aN : Val), Fct.eqv (.string a2), Fct.data (aO : Val), Fct.eqv (.bool ac), Fct.eqv (.bool ac), Fct.eqv (.bool ac), Fct.eqv (.string a2), Fct.data (aR : Val), Fct.eqv (.int .i64 ad), Fct.eqv (.bool (ad == 0)), Fct.eqv (.string a2), Fct.eqv (.bool ae), Fct.eqv (.bool ((ad == 0) == ae)), Fct.eqv (.bool ((ad == 0) == ae)), Fct.eqv (.bool ((ad == 0) == ae)), Fct.eqv undef, Fct.eqv undef, Fct.eqv undef, Fct.eqv undef, Fct.eqv undef, Fct.eqv undef, Fct.eqv undef, Fct.eqv (.bool false), Fct.eqv (.bool false), Fct.eqv undef, Fct.eqv (.bool false), Fct.eqv (.bool false)] (fun D F τ => (Blk s0.N 4 τ aM 27 (Val.cs af ax ay az aA aB aC aD aE)) ∧ (Own s0.N 1 27 τ aq.1 ar au)) (by kernel_rfl) rfl (by decide) (by decide) ⟨(bD.ext (ext_draw _)), (bE.ext (ext_draw _))⟩ (by decide) (by decide) ⟨?_, ?_, ?_, ?_, ?_, ?_, ?_, ?_, ?_, ?_, ?_, ?_, ?_, ?_, ?_, ?_, ?_, ?_, ?_, ?_, ?_, ?_, ?_, ?_, ?_, ?_, ?_, ?_, ?_, ?_, ?_, ?_, ?_, ?_, ?_, ?_, ?_, ?_, ?_, ?_, trivial⟩ ?_
     ·intro aaK aaL aaM aaN aaO aaP aaQ cE vz vA aaR
      obtain ⟨fB, vB⟩ := vz
      have vC := fB
      refine r_load aM 0 (Val.ag af ax ay az aA aB aC aD aE) ((vA 10 rfl).trans bG) rfl (loads_row tr27 (Blk.range vC 0 (Val.cs af ax ay az aA aB aC aD aE) rfl)) ?_
      exact d0 ⟨(Val.rpvMk (v := af) (((((((((((bj.mono ap.wext).mono an.wext).mono ao.wext).mono ai.wext).mono am.wext).mono aj.wext).mono ah.wext).mono ak.wext).mono al.wext).mono aL).mono cE) (((((((((((bk.mono ap.wext).mono an.wext).mono ao.wext).mono ai.wext).mono am.wext).mono aj.wext).mono ah.wext).mono ak.wext).mono al.wext).mono aL).mono cE) (((((((((((bl.mono ap.wext).mono an.wext).mono ao.wext).mono ai.wext).mono am.wext).mono aj.wext).mono ah.wext).mono ak.wext).mono al.wext).mono aL).mono cE) (((((((((((bm.mono ap.wext).mono an.wext).mono ao.wext).mono ai.wext).mono am.wext).mono aj.wext).mono ah.wext).mono ak.wext).mono al.wext).mono aL).mono cE)), ⟨fB, vB⟩⟩
     ·intro aaS aaT aaU aaV aaW aaX aaY aaZ vD vE aa0
      obtain ⟨vF, vG⟩ := vD
      refine r_move (.slice ar aq.1.length au) ((vE 7 rfl).trans bF) rfl ?_
      exact d0 ⟨rfl, ⟨vF, vG⟩⟩
     ·intro aa1 aa2 aa3 aa4 aa5 aa6 vH aa7 vI aa8 vJ
      have vK := ag.trans vH
      obtain ⟨vL, fC⟩ := vI
      refine r_call [.slice ar aq.1.length au] (evs1 (vJ 1 rfl 92 rfl)) rfl ((ok_semtyperef1_List fuel) _ _ _ _ (RpV.mkList fC.sl) bH) ?_
      intro aa9 aba cF vM
      obtain ⟨abb, abc, abd, abe, abf, abg, abh, abi, rfl, vN, vO, vP, vQ⟩ := Val.rpv vM
      refine j0 ?_
      exact ⟨_, _, rfl, rfl, (ExtB.refl _ _).trans (cF.mono vK.size), (Wext.refl _).trans cF.wext, (Val.rpvMk (v := aG) vN vO vP vQ), ⟨(vL.ext cF), (fC.ext cF)⟩⟩
     ·intro abj fD fE abk abl abm vR abn vS abo fF
      have vT := ag.trans vR
      obtain ⟨vU, vV⟩ := vS
      have vW : RpV fE (af : Val) (fD 91) := fF 0 rfl 91 rfl
      obtain ⟨vX, vY, vZ, v0, v1, v2, v3, v4, v5, v6, v7, v9, wa⟩ := Val.rpv vW
      have wb : RpV fE (aG : Val) (fD 93) := fF 2 rfl 93 rfl
      obtain ⟨wc, wd, we, wf, wg, wh, wi, wj, wk, wl, wm, wn, wo⟩ := Val.rpv wb
      refine r_call [Val.ag af vX vY vZ v0 v1 v2 v3 v4, Val.ag aG wc wd we wf wg wh wi wj] (evs2 v5 wk) rfl ((ok_semtyperef1_Equal fuel) _ _ _ _ _ _ (Val.rpvMk (v := af) v6 v7 v9 wa) (Val.rpvMk (v := aG) wl wm wn wo) bI) ?_
      intro abp abq cG wp
      obtain rfl := RpV.bool wp
      refine j0 ?_
      exact ⟨_, _, rfl, rfl, (ExtB.refl _ _).trans (cG.mono vT.size), (Wext.refl _).trans cG.wext, rfl, ⟨(vU.ext cG), (vV.ext cG)⟩⟩
     ·intro abr abs abt abu abv abw abx aby wq abz wr
      obtain ⟨ws, wt⟩ := wq
      refine r_move (.bool aa) (wr 3 rfl 94 rfl) rfl ?_
      exact d0 ⟨rfl, ⟨ws, wt⟩⟩
     ·intro abA abB abC abD abE abF abG abH wu wv ww
      obtain ⟨wx, wy⟩ := wu
      refine Or.inr ⟨aa, (fun d hd => by cases hd; exact (ww 4 rfl 95 rfl)), fun _ => ?_, fun h => absurd (av : aa = true) h⟩
      refine r_move (.int .i64 a1) ((wv 1 rfl).trans aT) rfl ?_
      exact d0 ⟨rfl, ⟨wx, wy⟩⟩
     ·intro abI abJ abK abL abM abN wz abO wA abP fG
      have wB := ag.trans wz
      obtain ⟨wC, wD⟩ := wA
      refine Or.inr ⟨aa, (fun d hd => by cases hd; exact (fG 4 rfl 95 rfl)), fun _ => ?_, fun h => absurd (av : aa = true) h⟩
      refine r_call [.int .i64 a1] (evs1 (fG 5 rfl 96 rfl)) rfl (ok_value_Int _ _ _ _ (RpV.mkInt _ _) bS) ?_
      intro abQ abR cH wE
      obtain ⟨abS, abT, abU, abV, abW, abX, abY, abZ, rfl, wF, wG, wH, wI⟩ := Val.rpv wE
      refine j0 ?_
      exact ⟨_, _, rfl, rfl, (ExtB.refl _ _).trans (cH.mono wB.size), (Wext.refl _).trans cH.wext, (Val.rpvMk (v := aI) wF wG wH wI), ⟨(wC.ext cH), (wD.ext cH)⟩⟩
     ·intro ab0 ab1 ab2 ab3 ab4 ab5 ab6 ab7 wJ wK wL
      obtain ⟨wM, wN⟩ := wJ
      refine Or.inr ⟨aa, (fun d hd => by cases hd; exact (wL 4 rfl 95 rfl)), fun _ => ?_, fun h => absurd (av : aa = true) h⟩
      refine r_move (.int .i64 a1) ((wK 1 rfl).trans aT) rfl ?_
      exact d0 ⟨rfl, ⟨wM, wN⟩⟩
     ·intro ab8 ab9 aca acb acc acd wO ace wP acf fH
      have wQ := ag.trans wO
      obtain ⟨wR, wS⟩ := wP
      refine Or.inr ⟨aa, (fun d hd => by cases hd; exact (fH 4 rfl 95 rfl)), fun _ => ?_, fun h => absurd (av : aa = true) h⟩
      refine r_call [.int .i64 a1] (evs1 (fH 7 rfl 98 rfl)) rfl (ok_semtyperef1_Int _ _ _ _ (RpV.mkInt _ _) bT) ?_
      intro acg ach cI wT
      obtain ⟨aci, acj, ack, acl, acm, acn, aco, acp, rfl, wU, wV, wW, wX⟩ := Val.rpv wT
      refine j0 ?_
      exact ⟨_, _, rfl, rfl, (ExtB.refl _ _).trans (cI.mono wQ.size), (Wext.refl _).trans cI.wext, (Val.rpvMk (v := aJ) wU wV wW wX), ⟨(wR.ext cI), (wS.ext cI)⟩⟩
     ·intro acq fI fJ acr acs act wY acu wZ acv dD
      have w0 := ag.trans wY
      obtain ⟨w1, w2⟩ := wZ
      have w3 : RpV fJ (aI : Val) (fI 97) := dD 6 rfl 97 rfl
      obtain ⟨w4, w5, w6, w7, w8, w9, xa, xb, xc, xd, xe, xf, xg⟩ := Val.rpv w3
      have xh : RpV fJ (aJ : Val) (fI 99) := dD 8 rfl 99 rfl
      obtain ⟨xi, xj, xk, xl, xm, xn, xo, xp, xq, xr, xt, xu, xv⟩ := Val.rpv xh
      refine Or.inr ⟨aa, (fun d hd => by cases hd; exact (dD 4 rfl 95 rfl)), fun _ => ?_, fun h => absurd (av : aa = true) h⟩
      refine r_call [Val.ag aI w4 w5 w6 w7 w8 w9 xa xb, Val.ag aJ xi xj xk xl xm xn xo xp] (evs2 xc xq) rfl ((ok_semtyperef1_Equal fuel) _ _ _ _ _ _ (Val.rpvMk (v := aI) xd xe xf xg) (Val.rpvMk (v := aJ) xr xt xu xv) bU) ?_
      intro acw acx cJ xw
      obtain rfl := RpV.bool xw
      refine j0 ?_
      exact ⟨_, _, rfl, rfl, (ExtB.refl _ _).trans (cJ.mono w0.size), (Wext.refl _).trans cJ.wext, rfl, ⟨(w1.ext cJ), (w2.ext cJ)⟩⟩
     ·intro acy acz acA acB acC acD acE acF xx acG fK
      obtain ⟨xy, xz⟩ := xx
      refine r_pick_t (c := aa) (.bool ab) (fK 4 rfl 95 rfl) av (fK 9 rfl 100 rfl) rfl rfl rfl ?_
      exact d0 ⟨rfl, ⟨xy, xz⟩⟩
     ·intro acH acI acJ acK acL acM acN acO xA acP xB
      obtain ⟨xC, xD⟩ := xA
      refine r_move (.bool ab) (xB 10 rfl 101 rfl) rfl ?_
      exact d0 ⟨rfl, ⟨xC, xD⟩⟩
     ·intro acQ acR acS acT acU acV acW acX xE xF xG
      obtain ⟨xH, xI⟩ := xE
      refine Or.inr ⟨ab, (fun d hd => by cases hd; exact (xG 11 rfl 102 rfl)), fun _ => ?_, fun h => absurd (aF : ab = true) h⟩
      refine r_move (.string a2) ((xF 2 rfl).trans aU) rfl ?_
      exact d0 ⟨rfl, ⟨xH, xI⟩⟩
     ·intro acY acZ ac0 ac1 ac2 ac3 xJ ac4 xK ac5 fL
      have xL := ag.trans xJ
      obtain ⟨xM, xN⟩ := xK
      refine Or.inr ⟨ab, (fun d hd => by cases hd; exact (fL 11 rfl 102 rfl)), fun _ => ?_, fun h => absurd (aF : ab = true) h⟩
      refine r_call [.string a2] (evs1 (fL 12 rfl 103 rfl)) rfl (ok_value_String _ _ _ _ (RpV.mkStr _ _) b8) ?_
      intro ac6 ac7 cK xO
      obtain ⟨ac8, ac9, ada, adb, adc, add, ade, adf, rfl, xP, xQ, xR, xS⟩ := Val.rpv xO
      refine j0 ?_
      exact ⟨_, _, rfl, rfl, (ExtB.refl _ _).trans (cK.mono xL.size), (Wext.refl _).trans cK.wext, (Val.rpvMk (v := aN) xP xQ xR xS), ⟨(xM.ext cK), (xN.ext cK)⟩⟩
     ·intro adg adh adi adj adk adl adm adn xT xU xV
      obtain ⟨xW, xX⟩ := xT
      refine Or.inr ⟨ab, (fun d hd => by cases hd; exact (xV 11 rfl 102 rfl)), fun _ => ?_, fun h => absurd (aF : ab = true) h⟩
      refine r_move (.string a2) ((xU 2 rfl).trans aU) rfl ?_
      exact d0 ⟨rfl, ⟨xW, xX⟩⟩
     ·intro ado adp adq adr ads adt xY adu xZ adv fM
      have x0 := ag.trans xY
      obtain ⟨x1, x2⟩ := xZ
      refine Or.inr ⟨ab, (fun d hd => by cases hd; exact (fM 11 rfl 102 rfl)), fun _ => ?_, fun h => absurd (aF : ab = true) h⟩
      refine r_call [.string a2] (evs1 (fM 14 rfl 105 rfl)) rfl (ok_semtyperef1_String _ _ _ _ (RpV.mkStr _ _) b9) ?_
      intro adw adx cL x3
      obtain ⟨ady, adz, adA, adB, adC, adD, adE, adF, rfl, x4, x5, x6, x7⟩ := Val.rpv x3
      refine j0 ?_
      exact ⟨_, _, rfl, rfl, (ExtB.refl _ _).trans (cL.mono x0.size), (Wext.refl _).trans cL.wext, (Val.rpvMk (v := aO) x4 x5 x6 x7), ⟨(x1.ext cL), (x2.ext cL)⟩⟩
     ·intro adG fN fO adH adI adJ x8 adK x9 adL dE
      have ya := ag.trans x8
      obtain ⟨yb, yc⟩ := x9
      have yd : RpV fO (aN : Val) (fN 104) := dE 13 rfl 104 rfl
      obtain ⟨ye, yf, yg, yh, yi, yj, yk, yl, ym, yn, yo, yp, yq⟩ := Val.rpv yd
      have yr : RpV fO (aO : Val) (fN 106) := dE 15 rfl 106 rfl
      obtain ⟨yt, yu, yv, yw, yx, yy, yz, yA, yB, yC, yD, yE, yF⟩ := Val.rpv yr
      refine Or.inr ⟨ab, (fun d hd => by cases hd; exact (dE 11 rfl 102 rfl)), fun _ => ?_, fun h => absurd (aF : ab = true) h⟩
      refine r_call [Val.ag aN ye yf yg yh yi yj yk yl, Val.ag aO yt yu yv yw yx yy yz yA] (evs2 ym yB) rfl ((ok_semtyperef1_Equal fuel) _ _ _ _ _ _ (Val.rpvMk (v := aN) yn yo yp yq) (Val.rpvMk (v := aO) yC yD yE yF) ca) ?_
      intro adM adN cM yG
      obtain rfl := RpV.bool yG
      refine j0 ?_
      exact ⟨_, _, rfl, rfl, (ExtB.refl _ _).trans (cM.mono ya.size), (Wext.refl _).trans cM.wext, rfl, ⟨(yb.ext cM), (yc.ext cM)⟩⟩
     ·intro adO adP adQ adR adS adT adU adV yH adW fP
      obtain ⟨yI, yJ⟩ := yH
      refine r_pick_t (c := ab) (.bool ac) (fP 11 rfl 102 rfl) aF (fP 16 rfl 107 rfl) rfl rfl rfl ?_
      exact d0 ⟨rfl, ⟨yI, yJ⟩⟩
     ·intro adX adY adZ ad0 ad1 ad2 ad3 ad4 yK ad5 yL
      obtain ⟨yM, yN⟩ := yK
      refine r_move (.bool ac) (yL 17 rfl 108 rfl) rfl ?_
      exact d0 ⟨rfl, ⟨yM, yN⟩⟩
     ·intro ad6 ad7 ad8 ad9 aea aeb aec aed yO yP yQ
      obtain ⟨yR, yS⟩ := yO
      refine Or.inr ⟨ac, (fun d hd => by cases hd; exact (yQ 18 rfl 109 rfl)), fun _ => ?_, fun h => absurd (aw : ac = true) h⟩
      refine r_move (.string a2) ((yP 2 rfl).trans aU) rfl ?_
      exact d0 ⟨rfl, ⟨yR, yS⟩⟩
     ·intro aee aef aeg aeh aei aej yT aek yU ael fQ
      have yV := ag.trans yT
      obtain ⟨yW, yX⟩ := yU
      refine Or.inr ⟨ac, (fun d hd => by cases hd; exact (fQ 18 rfl 109 rfl)), fun _ => ?_, fun h => absurd (aw : ac = true) h⟩
      refine r_call [.string a2] (evs1 (fQ 19 rfl 110 rfl)) rfl (ok_value_Atom _ _ _ _ (RpV.mkStr _ _) ds) ?_
      intro aem aen cN yY
      obtain ⟨aeo, aep, aeq, aer, aes, aet, aeu, aev, rfl, yZ, y0, y1, y2⟩ := Val.rpv yY
      refine j0 ?_
      exact ⟨_, _, rfl, rfl, (ExtB.refl _ _).trans (cN.mono yV.size), (Wext.refl _).trans cN.wext, (Val.rpvMk (v := aR) yZ y0 y1 y2), ⟨(yW.ext cN), (yX.ext cN)⟩⟩
     ·intro aew y3 y4 aex aey aez y5 aeA y6 aeB fR
      have y7 := ag.trans y5
      obtain ⟨y8, y9⟩ := y6
      have za : RpV y4 (aR : Val) (y3 111) := fR 20 rfl 111 rfl
      obtain ⟨zb, zc, zd, ze, zf, zg, zh, zi, zj, zk, zl, zm, zn⟩ := Val.rpv za
      refine Or.inr ⟨ac, (fun d hd => by cases hd; exact (fR 18 rfl 109 rfl)), fun _ => ?_, fun h => absurd (aw : ac = true) h⟩
      refine r_call [Val.ag aR zb zc zd ze zf zg zh zi] (evs1 zj) rfl ((ok_value_Validate fuel) _ _ _ _ (Val.rpvMk (v := aR) zk zl zm zn) dt) ?_
      intro aeC aeD cO zo
      obtain rfl := RpV.int zo
      refine j0 ?_
      exact ⟨_, _, rfl, rfl, (ExtB.refl _ _).trans (cO.mono y7.size), (Wext.refl _).trans cO.wext, rfl, ⟨(y8.ext cO), (y9.ext cO)⟩⟩
     ·intro aeE aeF aeG aeH aeI aeJ aeK aeL zp aeM fS
      obtain ⟨zq, zr⟩ := zp
      refine Or.inr ⟨ac, (fun d hd => by cases hd; exact (fS 18 rfl 109 rfl)), fun _ => ?_, fun h => absurd (aw : ac = true) h⟩
      refine r_bin (.int .i64 ad) (.int .i64 0) (.bool (ad == 0)) (fS 21 rfl 112 rfl) rfl rfl rfl (b_eql) ?_
      exact d0 ⟨rfl, ⟨zq, zr⟩⟩
     ·intro aeN aeO aeP aeQ aeR aeS aeT aeU zs zt zu
      obtain ⟨zv, zw⟩ := zs
      refine Or.inr ⟨ac, (fun d hd => by cases hd; exact (zu 18 rfl 109 rfl)), fun _ => ?_, fun h => absurd (aw : ac = true) h⟩
      refine r_move (.string a2) ((zt 2 rfl).trans aU) rfl ?_
      exact d0 ⟨rfl, ⟨zv, zw⟩⟩
     ·intro aeV aeW aeX aeY aeZ ae0 zx ae1 zy ae2 fT
      have zz := ag.trans zx
      obtain ⟨zA, zB⟩ := zy
      refine Or.inr ⟨ac, (fun d hd => by cases hd; exact (fT 18 rfl 109 rfl)), fun _ => ?_, fun h => absurd (aw : ac = true) h⟩
      refine r_call [.string a2] (evs1 (fT 23 rfl 114 rfl)) rfl (ok_semtyperef1_IsAtom _ _ _ _ (RpV.mkStr _ _) du) ?_
      intro ae3 ae4 cP zC
      obtain rfl := RpV.bool zC
      refine j0 ?_
      exact ⟨_, _, rfl, rfl, (ExtB.refl _ _).trans (cP.mono zz.size), (Wext.refl _).trans cP.wext, rfl, ⟨(zA.ext cP), (zB.ext cP)⟩⟩
     ·intro ae5 ae6 ae7 ae8 ae9 afa afb afc zD afd dF
      obtain ⟨zE, zF⟩ := zD
      refine Or.inr ⟨ac, (fun d hd => by cases hd; exact (dF 18 rfl 109 rfl)), fun _ => ?_, fun h => absurd (aw : ac = true) h⟩
      refine r_bin (.bool (ad == 0)) (.bool ae) (.bool ((ad == 0) == ae)) (dF 22 rfl 113 rfl) (dF 24 rfl 115 rfl) rfl rfl (b_beql Go.Proofs.Try.underlying4) ?_
      exact d0 ⟨rfl, ⟨zE, zF⟩⟩
     ·intro afe aff afg afh afi afj afk afl zG afm fU
      obtain ⟨zH, zI⟩ := zG
      refine r_pick_t (c := ac) (.bool ((ad == 0) == ae)) (fU 18 rfl 109 rfl) aw (fU 25 rfl 116 rfl) rfl rfl rfl ?_
      exact d0 ⟨rfl, ⟨zH, zI⟩⟩
     ·intro afn afo afp afq afr afs aft afu zJ afv zK
      obtain ⟨zL, zM⟩ := zJ
      refine r_move (.bool ((ad == 0) == ae)) (zK 26 rfl 117 rfl) rfl ?_
      exact d0 ⟨rfl, ⟨zL, zM⟩⟩
     ·intro afw afx afy afz afA afB afC afD zN afE zO
      obtain ⟨zP, zQ⟩ := zN
      refine Or.inr ⟨((ad == 0) == ae), (fun d hd => by cases hd; exact (zO 27 rfl 118 rfl)), fun h => Bool.noConfusion (Eq.trans (Eq.symm (aK : ((ad == 0) == ae) = false)) h), fun _ => ⟨rfl, ?_⟩⟩
      exact ⟨zP, zQ⟩
     ·intro afF zR afG afH afI afJ afK afL zS afM fV
      obtain ⟨zT, zU⟩ := zS
      have afN : zR 119 = undef := fV 28 rfl 119 rfl
      refine Or.inr ⟨((ad == 0) == ae), (fun d hd => by cases hd; exact (fV 27 rfl 118 rfl)), fun h => Bool.noConfusion (Eq.trans (Eq.symm (aK : ((ad == 0) == ae) = false)) h), fun _ => ⟨rfl, ?_⟩⟩
      exact ⟨zT, zU⟩
     ·intro afO zV afP afQ afR afS afT afU zW afV fW
      obtain ⟨zX, zY⟩ := zW
      have afW : zV 120 = undef := fW 29 rfl 120 rfl
      refine Or.inr ⟨((ad == 0) == ae), (fun d hd => by cases hd; exact (fW 27 rfl 118 rfl)), fun h => Bool.noConfusion (Eq.trans (Eq.symm (aK : ((ad == 0) == ae) = false)) h), fun _ => ⟨rfl, ?_⟩⟩
      exact ⟨zX, zY⟩
     ·intro afX zZ afY afZ af0 af1 af2 af3 z0 af4 fX
      obtain ⟨z1, z2⟩ := z0
      have af5 : zZ 121 = undef := fX 30 rfl 121 rfl
      refine Or.inr ⟨((ad == 0) == ae), (fun d hd => by cases hd; exact (fX 27 rfl 118 rfl)), fun h => Bool.noConfusion (Eq.trans (Eq.symm (aK : ((ad == 0) == ae) = false)) h), fun _ => ⟨rfl, ?_⟩⟩
      exact ⟨z1, z2⟩
     ·intro af6 af7 af8 af9 aga agb agc agd z3 age z4
      obtain ⟨z5, z6⟩ := z3
      refine Or.inr ⟨((ad == 0) == ae), (fun d hd => by cases hd; exact (z4 27 rfl 118 rfl)), fun h => Bool.noConfusion (Eq.trans (Eq.symm (aK : ((ad == 0) == ae) = false)) h), fun _ => ⟨rfl, ?_⟩⟩
      exact ⟨z5, z6⟩
     ·intro agf z7 agg agh agi agj agk agl z8 agm fY
      obtain ⟨z9, Aa⟩ := z8
      have agn : z7 123 = undef := fY 32 rfl 123 rfl
      refine Or.inr ⟨((ad == 0) == ae), (fun d hd => by cases hd; exact (fY 27 rfl 118 rfl)), fun h => Bool.noConfusion (Eq.trans (Eq.symm (aK : ((ad == 0) == ae) = false)) h), fun _ => ⟨rfl, ?_⟩⟩
      exact ⟨z9, Aa⟩
     ·intro ago fZ agp agq agr ags agt agu Ab agv dG
      obtain ⟨Ac, Ad⟩ := Ab
      have agw : fZ 122 = undef := dG 31 rfl 122 rfl
      have agx : fZ 124 = undef := dG 33 rfl 124 rfl
      refine Or.inr ⟨((ad == 0) == ae), (fun d hd => by cases hd; exact (dG 27 rfl 118 rfl)), fun h => Bool.noConfusion (Eq.trans (Eq.symm (aK : ((ad == 0) == ae) = false)) h), fun _ => ⟨rfl, ?_⟩⟩
      exact ⟨Ac, Ad⟩
     ·intro agy Ae agz agA agB agC agD agE Af agF f0
      obtain ⟨Ag, Ah⟩ := Af
      have agG : Ae 125 = undef := f0 34 rfl 125 rfl
      refine r_pick_f (c := ((ad == 0) == ae)) (.bool false) (f0 27 rfl 118 rfl) aK rfl rfl rfl rfl ?_
      exact d0 ⟨rfl, ⟨Ag, Ah⟩⟩
     ·intro agH agI agJ agK agL agM agN agO Ai agP Aj
      obtain ⟨Ak, Al⟩ := Ai
      refine r_move (.bool false) (Aj 35 rfl 126 rfl) rfl ?_
      exact d0 ⟨rfl, ⟨Ak, Al⟩⟩
     ·intro agQ agR agS agT agU agV agW agX Am agY An
      obtain ⟨Ao, Ap⟩ := Am
      refine Or.inr ⟨false, (fun d hd => by cases hd; exact (An 36 rfl 127 rfl)), fun h => Bool.noConfusion (Eq.trans (Eq.symm (rfl : false = false)) h), fun _ => ⟨rfl, ?_⟩⟩
      exact ⟨Ao, Ap⟩
     ·intro agZ Aq ag0 ag1 ag2 ag3 ag4 ag5 Ar ag6 f1
      obtain ⟨As, At⟩ := Ar
      have ag7 : Aq 128 = undef := f1 37 rfl 128 rfl
      refine r_pick_f (c := false) (.bool false) (f1 36 rfl 127 rfl) rfl rfl rfl rfl rfl ?_
      exact d0 ⟨rfl, ⟨As, At⟩⟩
     ·intro ag8 ag9 aha ahb ahc ahd ahe ahf Au ahg Av
      obtain ⟨Aw, Ax⟩ := Au
      refine r_assign (.bool false) (Av 38 rfl 129 rfl) rfl ?_
      exact d0 ⟨rfl, ⟨Aw, Ax⟩⟩
     intro ahh ahi Ay ahj Az ahk AA
     have AB := ag.trans Ay
     obtain ⟨ahl, ahm⟩ := Az
     refine j1 (jb ?_)
     obtain rfl := Option.some.inj hf
     refine ret_one (.bool false) rfl ⟨rfl, (AA 39 6 rfl)⟩ AB ?_
     exact (RpV.mkBool _ _)
    refine wp_draw (B := frExt s0.N) [some 91, some 92, some 93, some 94, some 95, some 96, some 97, some 98, some 99, some 100, some 101, some 102, some 103, some 104, some 105, some 106, some 107, some 108, some 109, some 110, some 111, some 112, some 113, some 114, some 115, some 116, some 117, some 118, some 119, some 120, some 121, some 122, some 123, some 124, some 125, some 126, some 127, some 128, some 129, some 6] [[], [], [1], [0, 1, 2], [0, 1, 2, 3], [0, 1, 2, 3, 4], [0, 1, 2, 3, 4, 5], [0, 1, 2, 3, 4], [0, 1, 2, 3, 4, 5, 6, 7], [0, 1, 2, 3, 4, 5, 6, 7, 8], [0, 1, 2, 3, 4, 5, 6, 7, 8, 9], [0, 1, 2, 3, 4, 5, 6, 7, 8, 9, 10], [0, 1, 2, 3, 4, 5, 6, 7, 8, 9, 10, 11], [0, 1, 2, 3, 4, 5, 6, 7, 8, 9, 10, 11, 12], [0, 1, 2, 3, 4, 5, 6, 7, 8, 9, 10, 11], [0, 1, 2, 3, 4, 5, 6, 7, 8, 9, 10, 11, 12, 13, 14], [0, 1, 2, 3, 4, 5, 6, 7, 8, 9, 10, 11, 12, 13, 14, 15], [0, 1, 2, 3, 4, 5, 6, 7, 8, 9, 10, 11, 12, 13, 14, 15, 16], [0, 1, 2, 3, 4, 5, 6, 7, 8, 9, 10, 11, 12, 13, 14, 15, 16, 17], [0, 1, 2, 3, 4, 5, 6, 7, 8, 9, 10, 11, 12, 13, 14, 15, 16, 17, 18], [0, 1, 2, 3, 4, 5, 6, 7, 8, 9, 10, 11, 12, 13, 14, 15, 16, 17, 18, 19], [0, 1, 2, 3, 4, 5, 6, 7, 8, 9, 10, 11, 12, 13, 14, 15, 16, 17, 18, 19, 20], [0, 1, 2, 3, 4, 5, 6, 7, 8, 9, 10, 11, 12, 13, 14, 15, 16, 17, 18, 19, 20, 21], [0, 1, 2, 3, 4, 5, 6, 7, 8, 9, 10, 11, 12, 13, 14, 15, 16, 17, 18], [0, 1, 2, 3, 4, 5, 6, 7, 8, 9, 10, 11, 12, 13, 14, 15, 16, 17, 18, 19, 20, 21, 23], [0, 1, 2, 3, 4, 5, 6, 7, 8, 9, 10, 11, 12, 13, 14, 15, 16, 17, 18, 19, 20, 21, 22, 23, 24], [0, 1, 2, 3, 4, 5, 6, 7, 8, 9, 10, 11, 12, 13, 14, 15, 16, 17, 18, 19, 20, 21, 22, 23, 24, 25], [0, 1, 2, 3, 4, 5, 6, 7, 8, 9, 10, 11, 12, 13, 14, 15, 16, 17, 18, 19, 20, 21, 22, 23, 24, 25, 26], [0, 1, 2, 3, 4, 5, 6, 7, 8, 9, 10, 11, 12, 13, 14, 15, 16, 17, 18, 19, 20, 21, 22, 23, 24, 25, 26, 27], [0, 1, 2, 3, 4, 5, 6, 7, 8, 9, 10, 11, 12, 13, 14, 15, 16, 17, 18, 19, 20, 21, 22, 23, 24, 25, 26, 27, 28], [0, 1, 2, 3, 4, 5, 6, 7, 8, 9, 10, 11, 12, 13, 14, 15, 16, 17, 18, 19, 20, 21, 22, 23, 24, 25, 26, 27, 28, 29], [0, 1, 2, 3, 4, 5, 6, 7, 8, 9, 10, 11, 12, 13, 14, 15, 16, 17, 18, 19, 20, 21, 22, 23, 24, 25, 26, 27, 28, 29, 30], [0, 1, 2, 3, 4, 5, 6, 7, 8, 9, 10, 11, 12, 13, 14, 15, 16, 17, 18, 19, 20, 21, 22, 23, 24, 25, 26, 27], [0, 1, 2, 3, 4, 5, 6, 7, 8, 9, 10, 11, 12, 13, 14, 15, 16, 17, 18, 19, 20, 21, 22, 23, 24, 25, 26, 27, 32], [0, 1, 2, 3, 4, 5, 6, 7, 8, 9, 10, 11, 12, 13, 14, 15, 16, 17, 18, 19, 20, 21, 22, 23, 24, 25, 26, 27, 28, 29, 30, 31, 32, 33], [0, 1, 2, 3, 4, 5, 6, 7, 8, 9, 10, 11, 12, 13, 14, 15, 16, 17, 18, 19, 20, 21, 22, 23, 24, 25, 26, 27, 28, 29, 30, 31, 32, 33, 34], [0, 1, 2, 3, 4, 5, 6, 7, 8, 9, 10, 11, 12, 13, 14, 15, 16, 17, 18, 19, 20, 21, 22, 23, 24, 25, 26, 27, 28, 29, 30, 31, 32, 33, 34, 35], [0, 1, 2, 3, 4, 5, 6, 7, 8, 9, 10, 11, 12, 13, 14, 15, 16, 17, 18, 19, 20, 21, 22, 23, 24, 25, 26, 27, 28, 29, 30, 31, 32, 33, 34, 35, 36], [0, 1, 2, 3, 4, 5, 6, 7, 8, 9, 10, 11, 12, 13, 14, 15, 16, 17, 18, 19, 20, 21, 22, 23, 24, 25, 26, 27, 28, 29, 30, 31, 32, 33, 34, 35, 36, 37], [0, 1, 2, 3, 4, 5, 6, 7, 8, 9, 10, 11, 12, 13, 14, 15, 16, 17, 18, 19, 20, 21, 22, 23, 24, 25, 26, 27, 28, 29, 30, 31, 32, 33, 34, 35, 36, 37, 38]] [Fct.data (af : Val), Fct.eqv (.slice ar aq.1.length au), Fct.data (aG : Val), Fct.eqv (.bool aa), Fct.eqv (.bool aa), Fct.eqv (.int .i64 a1), Fct.data (aI : Val), Fct.eqv (.int .i64 a1), Fct.data (aJ : Val), Fct.eqv (.bool ab), Fct.eqv (.bool ab), Fct.eqv (.bool ab), Fct.eqv (.string a2), Fct.data (aN : Val), Fct.eqv (.string a2), Fct.data (aO : Val), Fct.eqv (.bool ac), Fct.eqv (.bool ac), Fct.eqv (.bool ac), Fct.eqv undef, Fct.eqv undef, Fct.eqv undef, Fct.eqv undef, Fct.eqv undef, Fct.eqv undef, Fct.eqv undef, Fct.eqv (.bool false), Fct.eqv (.bool false), Fct.eqv undef, Fct.eqv undef, Fct.eqv undef, Fct.eqv undef, Fct.eqv undef, Fct.eqv undef, Fct.eqv undef, Fct.eqv (.bool false), Fct.eqv (.bool false), Fct.eqv undef, Fct.eqv (.bool false), Fct.eqv (.bool false)] (fun D F τ => (Blk s0.N 4 τ aM 27 (Val.cs af ax ay az aA aB aC aD aE)) ∧ (Own s0.N 1 27 τ aq.1 ar au)) (by kernel_rfl) rfl (by decide) (by decide) ⟨(bD.ext (ext_draw _)), (bE.ext (ext_draw _))⟩ (by decide) (by decide) ⟨?_, ?_, ?_, ?_, ?_, ?_, ?_, ?_, ?_, ?_, ?_, ?_, ?_, ?_, ?_, ?_, ?_, ?_, ?_, ?_, ?_, ?_, ?_, ?_, ?_, ?_, ?_, ?_, ?_, ?_, ?_, ?_, ?_, ?_, ?_, ?_, ?_, ?_, ?_, ?_, trivial⟩ ?_
    ·intro ahn aho ahp ahq ahr ahs aht cQ AC AD ahu
     obtain ⟨f2, AE⟩ := AC
     have AF := f2
     refine r_load aM 0 (Val.ag af ax ay az aA aB aC aD aE) ((AD 10 rfl).trans bG) rfl (loads_row tr27 (Blk.range AF 0 (Val.cs af ax ay az aA aB aC aD aE) rfl)) ?_
     exact d0 ⟨(Val.rpvMk (v := af) (((((((((((bj.mono ap.wext).mono an.wext).mono ao.wext).mono ai.wext).mono am.wext).mono aj.wext).mono ah.wext).mono ak.wext).mono al.wext).mono aL).mono cQ) (((((((((((bk.mono ap.wext).mono an.wext).mono ao.wext).mono ai.wext).mono am.wext).mono aj.wext).mono ah.wext).mono ak.wext).mono al.wext).mono aL).mono cQ) (((((((((((bl.mono ap.wext).mono an.wext).mono ao.wext).mono ai.wext).mono am.wext).mono aj.wext).mono ah.wext).mono ak.wext).mono al.wext).mono aL).mono cQ) (((((((((((bm.mono ap.wext).mono an.wext).mono ao.wext).mono ai.wext).mono am.wext).mono aj.wext).mono ah.wext).mono ak.wext).mono al.wext).mono aL).mono cQ)), ⟨f2, AE⟩⟩
    ·intro ahv ahw ahx ahy ahz ahA ahB ahC AG AH ahD
     obtain ⟨AI, AJ⟩ := AG
     refine r_move (.slice ar aq.1.length au) ((AH 7 rfl).trans bF) rfl ?_
     exact d0 ⟨rfl, ⟨AI, AJ⟩⟩
    ·intro ahE ahF ahG ahH ahI ahJ AK ahK AL ahL AM
     have AN := ag.trans AK
     obtain ⟨AO, f3⟩ := AL
     refine r_call [.slice ar aq.1.length au] (evs1 (AM 1 rfl 92 rfl)) rfl ((ok_semtyperef1_List fuel) _ _ _ _ (RpV.mkList f3.sl) bH) ?_
     intro ahM ahN cR AP
     obtain ⟨ahO, ahP, ahQ, ahR, ahS, ahT, ahU, ahV, rfl, AQ, AR, AS, AT⟩ := Val.rpv AP
     refine j0 ?_
     exact ⟨_, _, rfl, rfl, (ExtB.refl _ _).trans (cR.mono AN.size), (Wext.refl _).trans cR.wext, (Val.rpvMk (v := aG) AQ AR AS AT), ⟨(AO.ext cR), (f3.ext cR)⟩⟩
    ·intro ahW f4 f5 ahX ahY ahZ AU ah0 AV ah1 f6
     have AW := ag.trans AU
     obtain ⟨AX, AY⟩ := AV
     have AZ : RpV f5 (af : Val) (f4 91) := f6 0 rfl 91 rfl
     obtain ⟨A0, A2, A3, A4, A5, A6, A7, A8, A9, Ba, Bb, Bc, Bd⟩ := Val.rpv AZ
     have Be : RpV f5 (aG : Val) (f4 93) := f6 2 rfl 93 rfl
     obtain ⟨Bf, Bg, Bh, Bi, Bj, Bk, Bl, Bm, Bn, Bo, Bp, Bq, Br⟩ := Val.rpv Be
     refine r_call [Val.ag af A0 A2 A3 A4 A5 A6 A7 A8, Val.ag aG Bf Bg Bh Bi Bj Bk Bl Bm] (evs2 A9 Bn) rfl ((ok_semtyperef1_Equal fuel) _ _ _ _ _ _ (Val.rpvMk (v := af) Ba Bb Bc Bd) (Val.rpvMk (v := aG) Bo Bp Bq Br) bI) ?_
     intro ah2 ah3 cS Bs
     obtain rfl := RpV.bool Bs
     refine j0 ?_
     exact ⟨_, _, rfl, rfl, (ExtB.refl _ _).trans (cS.mono AW.size), (Wext.refl _).trans cS.wext, rfl, ⟨(AX.ext cS), (AY.ext cS)⟩⟩
    ·intro ah4 ah5 ah6 ah7 ah8 ah9 aia aib Bt aic Bu
     obtain ⟨Bv, Bw⟩ := Bt
     refine r_move (.bool aa) (Bu 3 rfl 94 rfl) rfl ?_
     exact d0 ⟨rfl, ⟨Bv, Bw⟩⟩
    ·intro aid aie aif aig aih aii aij aik Bx By Bz
     obtain ⟨BA, BB⟩ := Bx
     refine Or.inr ⟨aa, (fun d hd => by cases hd; exact (Bz 4 rfl 95 rfl)), fun _ => ?_, fun h => absurd (av : aa = true) h⟩
     refine r_move (.int .i64 a1) ((By 1 rfl).trans aT) rfl ?_
     exact d0 ⟨rfl, ⟨BA, BB⟩⟩
    ·intro ail aim ain aio aip aiq BC air BD ais f7
     have BE := ag.trans BC
     obtain ⟨BF, BG⟩ := BD
     refine Or.inr ⟨aa, (fun d hd => by cases hd; exact (f7 4 rfl 95 rfl)), fun _ => ?_, fun h => absurd (av : aa = true) h⟩
     refine r_call [.int .i64 a1] (evs1 (f7 5 rfl 96 rfl)) rfl (ok_value_Int _ _ _ _ (RpV.mkInt _ _) bS) ?_
     intro ait aiu cT BH
     obtain ⟨aiv, aiw, aix, aiy, aiz, aiA, aiB, aiC, rfl, BI, BJ, BK, BL⟩ := Val.rpv BH
     refine j0 ?_
     exact ⟨_, _, rfl, rfl, (ExtB.refl _ _).trans (cT.mono BE.size), (Wext.refl _).trans cT.wext, (Val.rpvMk (v := aI) BI BJ BK BL), ⟨(BF.ext cT), (BG.ext cT)⟩⟩
    ·intro aiD aiE aiF aiG aiH aiI aiJ aiK BM BN BO
     obtain ⟨BP, BQ⟩ := BM
     refine Or.inr ⟨aa, (fun d hd => by cases hd; exact (BO 4 rfl 95 rfl)), fun _ => ?_, fun h => absurd (av : aa = true) h⟩
     refine r_move (.int .i64 a1) ((BN 1 rfl).trans aT) rfl ?_
     exact d0 ⟨rfl, ⟨BP, BQ⟩⟩
    ·intro aiL aiM aiN aiO aiP aiQ BR aiR BS aiS f8
     have BT := ag.trans BR
     obtain ⟨BU, BV⟩ := BS
     refine Or.inr ⟨aa, (fun d hd => by cases hd; exact (f8 4 rfl 95 rfl)), fun _ => ?_, fun h => absurd (av : aa = true) h⟩
     refine r_call [.int .i64 a1] (evs1 (f8 7 rfl 98 rfl)) rfl (ok_semtyperef1_Int _ _ _ _ (RpV.mkInt _ _) bT) ?_
     intro aiT aiU cU BW
     obtain ⟨aiV, aiW, aiX, aiY, aiZ, ai0, ai1, ai2, rfl, BX, BY, BZ, B0⟩ := Val.rpv BW
     refine j0 ?_
     exact ⟨_, _, rfl, rfl, (ExtB.refl _ _).trans (cU.mono BT.size), (Wext.refl _).trans cU.wext, (Val.rpvMk (v := aJ) BX BY BZ B0), ⟨(BU.ext cU), (BV.ext cU)⟩⟩
    ·intro ai3 f9 ga ai4 ai5 ai6 B1 ai7 B2 ai8 dH
     have B3 := ag.trans B1
     obtain ⟨B4, B5⟩ := B2
     have B6 : RpV ga (aI : Val) (f9 97) := dH 6 rfl 97 rfl
     obtain ⟨B7, B8, B9, Ca, Cb, Cc, Cd, Ce, Cf, Cg, Ch, Ci, Cj⟩ := Val.rpv B6
     have Ck : RpV ga (aJ : Val) (f9 99) := dH 8 rfl 99 rfl
     obtain ⟨Cl, Cm, Cn, Co, Cp, Cq, Cr, Cs, Ct, Cu, Cv, Cw, Cx⟩ := Val.rpv Ck
     refine Or.inr ⟨aa, (fun d hd => by cases hd; exact (dH 4 rfl 95 rfl)), fun _ => ?_, fun h => absurd (av : aa = true) h⟩
     refine r_call [Val.ag aI B7 B8 B9 Ca Cb Cc Cd Ce, Val.ag aJ Cl Cm Cn Co Cp Cq Cr Cs] (evs2 Cf Ct) rfl ((ok_semtyperef1_Equal fuel) _ _ _ _ _ _ (Val.rpvMk (v := aI) Cg Ch Ci Cj) (Val.rpvMk (v := aJ) Cu Cv Cw Cx) bU) ?_
     intro ai9 aja cV Cy
     obtain rfl := RpV.bool Cy
     refine j0 ?_
     exact ⟨_, _, rfl, rfl, (ExtB.refl _ _).trans (cV.mono B3.size), (Wext.refl _).trans cV.wext, rfl, ⟨(B4.ext cV), (B5.ext cV)⟩⟩
    ·intro ajb ajc ajd aje ajf ajg ajh aji Cz ajj gb
     obtain ⟨CA, CB⟩ := Cz
     refine r_pick_t (c := aa) (.bool ab) (gb 4 rfl 95 rfl) av (gb 9 rfl 100 rfl) rfl rfl rfl ?_
     exact d0 ⟨rfl, ⟨CA, CB⟩⟩
    ·intro ajk ajl ajm ajn ajo ajp ajq ajr CC ajs CD
     obtain ⟨CE, CF⟩ := CC
     refine r_move (.bool ab) (CD 10 rfl 101 rfl) rfl ?_
     exact d0 ⟨rfl, ⟨CE, CF⟩⟩
    ·intro ajt aju ajv ajw ajx ajy ajz ajA CG CH CI
     obtain ⟨CJ, CK⟩ := CG
     refine Or.inr ⟨ab, (fun d hd => by cases hd; exact (CI 11 rfl 102 rfl)), fun _ => ?_, fun h => absurd (aF : ab = true) h⟩
     refine r_move (.string a2) ((CH 2 rfl).trans aU) rfl ?_
     exact d0 ⟨rfl, ⟨CJ, CK⟩⟩
    ·intro ajB ajC ajD ajE ajF ajG CL ajH CM ajI gc
     have CN := ag.trans CL
     obtain ⟨CO, CP⟩ := CM
     refine Or.inr ⟨ab, (fun d hd => by cases hd; exact (gc 11 rfl 102 rfl)), fun _ => ?_, fun h => absurd (aF : ab = true) h⟩
     refine r_call [.string a2] (evs1 (gc 12 rfl 103 rfl)) rfl (ok_value_String _ _ _ _ (RpV.mkStr _ _) b8) ?_
     intro ajJ ajK cW CQ
     obtain ⟨ajL, ajM, ajN, ajO, ajP, ajQ, ajR, ajS, rfl, CR, CS, CT, CU⟩ := Val.rpv CQ
     refine j0 ?_
     exact ⟨_, _, rfl, rfl, (ExtB.refl _ _).trans (cW.mono CN.size), (Wext.refl _).trans cW.wext, (Val.rpvMk (v := aN) CR CS CT CU), ⟨(CO.ext cW), (CP.ext cW)⟩⟩
    ·intro ajT ajU ajV ajW ajX ajY ajZ aj0 CV CW CX
     obtain ⟨CY, CZ⟩ := CV
     refine Or.inr ⟨ab, (fun d hd => by cases hd; exact (CX 11 rfl 102 rfl)), fun _ => ?_, fun h => absurd (aF : ab = true) h⟩
     refine r_move (.string a2) ((CW 2 rfl).trans aU) rfl ?_
     exact d0 ⟨rfl, ⟨CY, CZ⟩⟩
    ·intro aj1 aj2 aj3 aj4 aj5 aj6 C0 aj7 C1 aj8 gd
     have C2 := ag.trans C0
     obtain ⟨C3, C4⟩ := C1
     refine Or.inr ⟨ab, (fun d hd => by cases hd; exact (gd 11 rfl 102 rfl)), fun _ => ?_, fun h => absurd (aF : ab = true) h⟩
     refine r_call [.string a2] (evs1 (gd 14 rfl 105 rfl)) rfl (ok_semtyperef1_String _ _ _ _ (RpV.mkStr _ _) b9) ?_
     intro aj9 aka cX C5
     obtain ⟨akb, akc, akd, ake, akf, akg, akh, aki, rfl, C6, C7, C8, C9⟩ := Val.rpv C5
     refine j0 ?_
     exact ⟨_, _, rfl, rfl, (ExtB.refl _ _).trans (cX.mono C2.size), (Wext.refl _).trans cX.wext, (Val.rpvMk (v := aO) C6 C7 C8 C9), ⟨(C3.ext cX), (C4.ext cX)⟩⟩
    ·intro akj ge gf akk akl akm Da akn Db ako dI
     have Dc := ag.trans Da
     obtain ⟨Dd, De⟩ := Db
     have Df : RpV gf (aN : Val) (ge 104) := dI 13 rfl 104 rfl
     obtain ⟨Dg, Dh, Di, Dj, Dk, Dl, Dm, Dn, Do, Dp, Dq, Dr, Ds⟩ := Val.rpv Df
     have Dt : RpV gf (aO : Val) (ge 106) := dI 15 rfl 106 rfl
     obtain ⟨Du, Dv, Dw, Dx, Dy, Dz, DA, DB, DC, DD, DE, DF, DG⟩ := Val.rpv Dt
     refine Or.inr ⟨ab, (fun d hd => by cases hd; exact (dI 11 rfl 102 rfl)), fun _ => ?_, fun h => absurd (aF : ab = true) h⟩
     refine r_call [Val.ag aN Dg Dh Di Dj Dk Dl Dm Dn, Val.ag aO Du Dv Dw Dx Dy Dz DA DB] (evs2 Do DC) rfl ((ok_semtyperef1_Equal fuel) _ _ _ _ _ _ (Val.rpvMk (v := aN) Dp Dq Dr Ds) (Val.rpvMk (v := aO) DD DE DF DG) ca) ?_
     intro akp akq cY DH
     obtain rfl := RpV.bool DH
     refine j0 ?_
     exact ⟨_, _, rfl, rfl, (ExtB.refl _ _).trans (cY.mono Dc.size), (Wext.refl _).trans cY.wext, rfl, ⟨(Dd.ext cY), (De.ext cY)⟩⟩
    ·intro akr aks akt aku akv akw akx aky DI akz gg
     obtain ⟨DJ, DK⟩ := DI
     refine r_pick_t (c := ab) (.bool ac) (gg 11 rfl 102 rfl) aF (gg 16 rfl 107 rfl) rfl rfl rfl ?_
     exact d0 ⟨rfl, ⟨DJ, DK⟩⟩
    ·intro akA akB akC akD akE akF akG akH DL akI DM
     obtain ⟨DN, DO⟩ := DL
     refine r_move (.bool ac) (DM 17 rfl 108 rfl) rfl ?_
     exact d0 ⟨rfl, ⟨DN, DO⟩⟩
    ·intro akJ akK akL akM akN akO akP akQ DP akR DQ
     obtain ⟨DR, DS⟩ := DP
     refine Or.inr ⟨ac, (fun d hd => by cases hd; exact (DQ 18 rfl 109 rfl)), fun h => Bool.noConfusion (Eq.trans (Eq.symm (aw : ac = false)) h), fun _ => ⟨rfl, ?_⟩⟩
     exact ⟨DR, DS⟩
    ·intro akS DT akT akU akV akW akX akY DU akZ gh
     obtain ⟨DV, DW⟩ := DU
     have ak0 : DT 110 = undef := gh 19 rfl 110 rfl
     refine Or.inr ⟨ac, (fun d hd => by cases hd; exact (gh 18 rfl 109 rfl)), fun h => Bool.noConfusion (Eq.trans (Eq.symm (aw : ac = false)) h), fun _ => ⟨rfl, ?_⟩⟩
     exact ⟨DV, DW⟩
    ·intro ak1 DX ak2 ak3 ak4 ak5 ak6 ak7 DY ak8 gi
     obtain ⟨DZ, D0⟩ := DY
     have ak9 : DX 111 = undef := gi 20 rfl 111 rfl
     refine Or.inr ⟨ac, (fun d hd => by cases hd; exact (gi 18 rfl 109 rfl)), fun h => Bool.noConfusion (Eq.trans (Eq.symm (aw : ac = false)) h), fun _ => ⟨rfl, ?_⟩⟩
     exact ⟨DZ, D0⟩
    ·intro ala D1 alb alc ald ale alf alg D2 alh gj
     obtain ⟨D3, D4⟩ := D2
     have ali : D1 112 = undef := gj 21 rfl 112 rfl
     refine Or.inr ⟨ac, (fun d hd => by cases hd; exact (gj 18 rfl 109 rfl)), fun h => Bool.noConfusion (Eq.trans (Eq.symm (aw : ac = false)) h), fun _ => ⟨rfl, ?_⟩⟩
     exact ⟨D3, D4⟩
    ·intro alj alk all alm aln alo alp alq D5 alr D6
     obtain ⟨D7, D8⟩ := D5
     refine Or.inr ⟨ac, (fun d hd => by cases hd; exact (D6 18 rfl 109 rfl)), fun h => Bool.noConfusion (Eq.trans (Eq.symm (aw : ac = false)) h), fun _ => ⟨rfl, ?_⟩⟩
     exact ⟨D7, D8⟩
    ·intro als D9 alt alu alv alw alx aly Ea alz gk
     obtain ⟨Eb, Ec⟩ := Ea
     have alA : D9 114 = undef := gk 23 rfl 114 rfl
     refine Or.inr ⟨ac, (fun d hd => by cases hd; exact (gk 18 rfl 109 rfl)), fun h => Bool.noConfusion (Eq.trans (Eq.symm (aw : ac = false)) h), fun _ => ⟨rfl, ?_⟩⟩
     exact ⟨Eb, Ec⟩
    ·intro alB gl alC alD alE alF alG alH Ed alI dJ
     obtain ⟨Ee, Ef⟩ := Ed
     have alJ : gl 113 = undef := dJ 22 rfl 113 rfl
     have alK : gl 115 = undef := dJ 24 rfl 115 rfl
     refine Or.inr ⟨ac, (fun d hd => by cases hd; exact (dJ 18 rfl 109 rfl)), fun h => Bool.noConfusion (Eq.trans (Eq.symm (aw : ac = false)) h), fun _ => ⟨rfl, ?_⟩⟩
     exact ⟨Ee, Ef⟩
    ·intro alL Eg alM alN alO alP alQ alR Eh alS gm
     obtain ⟨Ei, Ej⟩ := Eh
     have alT : Eg 116 = undef := gm 25 rfl 116 rfl
     refine r_pick_f (c := ac) (.bool false) (gm 18 rfl 109 rfl) aw rfl rfl rfl rfl ?_
     exact d0 ⟨rfl, ⟨Ei, Ej⟩⟩
    ·intro alU alV alW alX alY alZ al0 al1 Ek al2 El
     obtain ⟨Em, En⟩ := Ek
     refine r_move (.bool false) (El 26 rfl 117 rfl) rfl ?_
     exact d0 ⟨rfl, ⟨Em, En⟩⟩
    ·intro al3 al4 al5 al6 al7 al8 al9 ama Eo amb Ep
     obtain ⟨Er, Es⟩ := Eo
     refine Or.inr ⟨false, (fun d hd => by cases hd; exact (Ep 27 rfl 118 rfl)), fun h => Bool.noConfusion (Eq.trans (Eq.symm (rfl : false = false)) h), fun _ => ⟨rfl, ?_⟩⟩
     exact ⟨Er, Es⟩
    ·intro amc Et amd ame amf amg amh ami Eu amj gn
     obtain ⟨Ev, Ew⟩ := Eu
     have amk : Et 119 = undef := gn 28 rfl 119 rfl
     refine Or.inr ⟨false, (fun d hd => by cases hd; exact (gn 27 rfl 118 rfl)), fun h => Bool.noConfusion (Eq.trans (Eq.symm (rfl : false = false)) h), fun _ => ⟨rfl, ?_⟩⟩
     exact ⟨Ev, Ew⟩
    ·intro aml Ex amm amn amo amp amq amr Ey ams go
     obtain ⟨Ez, EA⟩ := Ey
     have amt : Ex 120 = undef := go 29 rfl 120 rfl
     refine Or.inr ⟨false, (fun d hd => by cases hd; exact (go 27 rfl 118 rfl)), fun h => Bool.noConfusion (Eq.trans (Eq.symm (rfl : false = false)) h), fun _ => ⟨rfl, ?_⟩⟩
     exact ⟨Ez, EA⟩
    ·intro amu EB amv amw amx amy amz amA EC amB gp
     obtain ⟨ED, EE⟩ := EC
     have amC : EB 121 = undef := gp 30 rfl 121 rfl
     refine Or.inr ⟨false, (fun d hd => by cases hd; exact (gp 27 rfl 118 rfl)), fun h => Bool.noConfusion (Eq.trans (Eq.symm (rfl : false = false)) h), fun _ => ⟨rfl, ?_⟩⟩
     exact ⟨ED, EE⟩
    ·intro amD amE amF amG amH amI amJ amK EF amL EG
     obtain ⟨EH, EI⟩ := EF
     refine Or.inr ⟨false, (fun d hd => by cases hd; exact (EG 27 rfl 118 rfl)), fun h => Bool.noConfusion (Eq.trans (Eq.symm (rfl : false = false)) h), fun _ => ⟨rfl, ?_⟩⟩
     exact ⟨EH, EI⟩
    ·intro amM EJ amN amO amP amQ amR amS EK amT gq
     obtain ⟨EL, EM⟩ := EK
     have amU : EJ 123 = undef := gq 32 rfl 123 rfl
     refine Or.inr ⟨false, (fun d hd => by cases hd; exact (gq 27 rfl 118 rfl)), fun h => Bool.noConfusion (Eq.trans (Eq.symm (rfl : false = false)) h), fun _ => ⟨rfl, ?_⟩⟩
     exact ⟨EL, EM⟩
    ·intro amV gr amW amX amY amZ am0 am1 EN am2 dK
     obtain ⟨EO, EP⟩ := EN
     have am3 : gr 122 = undef := dK 31 rfl 122 rfl
     have am4 : gr 124 = undef := dK 33 rfl 124 rfl
     refine Or.inr ⟨false, (fun d hd => by cases hd; exact (dK 27 rfl 118 rfl)), fun h => Bool.noConfusion (Eq.trans (Eq.symm (rfl : false = false)) h), fun _ => ⟨rfl, ?_⟩⟩
     exact ⟨EO, EP⟩
    ·intro am5 EQ am6 am7 am8 am9 ana anb ER anc gs
     obtain ⟨ES, ET⟩ := ER
     have and : EQ 125 = undef := gs 34 rfl 125 rfl
     refine r_pick_f (c := false) (.bool false) (gs 27 rfl 118 rfl) rfl rfl rfl rfl rfl ?_
     exact d0 ⟨rfl, ⟨ES, ET⟩⟩
    ·intro ane anf ang anh ani anj ank anl EU anm EV
     obtain ⟨EW, EX⟩ := EU
     refine r_move (.bool false) (EV 35 rfl 126 rfl) rfl ?_
     exact d0 ⟨rfl, ⟨EW, EX⟩⟩
    ·intro ann ano anp anq anr ans ant anu EY anv EZ
     obtain ⟨E1, E2⟩ := EY
     refine Or.inr ⟨false, (fun d hd => by cases hd; exact (EZ 36 rfl 127 rfl)), fun h => Bool.noConfusion (Eq.trans (Eq.symm (rfl : false = false)) h), fun _ => ⟨rfl, ?_⟩⟩
     exact ⟨E1, E2⟩
    ·intro anw E3 anx any anz anA anB anC E4 anD gt
     obtain ⟨E5, E6⟩ := E4
     have anE : E3 128 = undef := gt 37 rfl 128 rfl
     refine r_pick_f (c := false) (.bool false) (gt 36 rfl 127 rfl) rfl rfl rfl rfl rfl ?_
     exact d0 ⟨rfl, ⟨E5, E6⟩⟩
    ·intro anF anG anH anI anJ anK anL anM E7 anN E8
     obtain ⟨E9, Fa⟩ := E7
     refine r_assign (.bool false) (E8 38 rfl 129 rfl) rfl ?_
     exact d0 ⟨rfl, ⟨E9, Fa⟩⟩
    intro anO anP Fb anQ Fc anR Fd
    have Fe := ag.trans Fb
    obtain ⟨anS, anT⟩ := Fc
    refine j1 (jb ?_)
    obtain rfl := Option.some.inj hf
    refine ret_one (.bool false) rfl ⟨rfl, (Fd 39 6 rfl)⟩ Fe ?_
    exact (RpV.mkBool _ _)
   refine wp_draw (B := frExt s0.N) [some 91, some 92, some 93, some 94, some 95, some 96, some 97, some 98, some 99, some 100, some 101, some 102, some 103, some 104, some 105, some 106, some 107, some 108, some 109, some 110, some 111, some 112, some 113, some 114, some 115, some 116, some 117, some 118, some 119, some 120, some 121, some 122, some 123, some 124, some 125, some 126, some 127, some 128, some 129, some 6] [[], [], [1], [0, 1, 2], [0, 1, 2, 3], [0, 1, 2, 3, 4], [0, 1, 2, 3, 4, 5], [0, 1, 2, 3, 4], [0, 1, 2, 3, 4, 5, 6, 7], [0, 1, 2, 3, 4, 5, 6, 7, 8], [0, 1, 2, 3, 4, 5, 6, 7, 8, 9], [0, 1, 2, 3, 4, 5, 6, 7, 8, 9, 10], [0, 1, 2, 3, 4, 5, 6, 7, 8, 9, 10, 11], [0, 1, 2, 3, 4, 5, 6, 7, 8, 9, 10, 11, 12], [0, 1, 2, 3, 4, 5, 6, 7, 8, 9, 10, 11], [0, 1, 2, 3, 4, 5, 6, 7, 8, 9, 10, 11, 12, 13, 14], [0, 1, 2, 3, 4, 5, 6, 7, 8, 9, 10, 11, 12, 13, 14, 15], [0, 1, 2, 3, 4, 5, 6, 7, 8, 9, 10, 11, 12, 13, 14, 15, 16], [0, 1, 2, 3, 4, 5, 6, 7, 8, 9, 10, 11, 12, 13, 14, 15, 16, 17], [0, 1, 2, 3, 4, 5, 6, 7, 8, 9, 10, 11, 12, 13, 14, 15, 16, 17, 18], [0, 1, 2, 3, 4, 5, 6, 7, 8, 9, 10, 11, 12, 13, 14, 15, 16, 17, 18, 19], [0, 1, 2, 3, 4, 5, 6, 7, 8, 9, 10, 11, 12, 13, 14, 15, 16, 17, 18, 19, 20], [0, 1, 2, 3, 4, 5, 6, 7, 8, 9, 10, 11, 12, 13, 14, 15, 16, 17, 18, 19, 20, 21], [0, 1, 2, 3, 4, 5, 6, 7, 8, 9, 10, 11, 12, 13, 14, 15, 16, 17, 18], [0, 1, 2, 3, 4, 5, 6, 7, 8, 9, 10, 11, 12, 13, 14, 15, 16, 17, 18, 19, 20, 21, 23], [0, 1, 2, 3, 4, 5, 6, 7, 8, 9, 10, 11, 12, 13, 14, 15, 16, 17, 18, 19, 20, 21, 22, 23, 24], [0, 1, 2, 3, 4, 5, 6, 7, 8, 9, 10, 11, 12, 13, 14, 15, 16, 17, 18, 19, 20, 21, 22, 23, 24, 25], [0, 1, 2, 3, 4, 5, 6, 7, 8, 9, 10, 11, 12, 13, 14, 15, 16, 17, 18, 19, 20, 21, 22, 23, 24, 25, 26], [0, 1, 2, 3, 4, 5, 6, 7, 8, 9, 10, 11, 12, 13, 14, 15, 16, 17, 18, 19, 20, 21, 22, 23, 24, 25, 26, 27], [0, 1, 2, 3, 4, 5, 6, 7, 8, 9, 10, 11, 12, 13, 14, 15, 16, 17, 18, 19, 20, 21, 22, 23, 24, 25, 26, 27, 28], [0, 1, 2, 3, 4, 5, 6, 7, 8, 9, 10, 11, 12, 13, 14, 15, 16, 17, 18, 19, 20, 21, 22, 23, 24, 25, 26, 27, 28, 29], [0, 1, 2, 3, 4, 5, 6, 7, 8, 9, 10, 11, 12, 13, 14, 15, 16, 17, 18, 19, 20, 21, 22, 23, 24, 25, 26, 27, 28, 29, 30], [0, 1, 2, 3, 4, 5, 6, 7, 8, 9, 10, 11, 12, 13, 14, 15, 16, 17, 18, 19, 20, 21, 22, 23, 24, 25, 26, 27], [0, 1, 2, 3, 4, 5, 6, 7, 8, 9, 10, 11, 12, 13, 14, 15, 16, 17, 18, 19, 20, 21, 22, 23, 24, 25, 26, 27, 32], [0, 1, 2, 3, 4, 5, 6, 7, 8, 9, 10, 11, 12, 13, 14, 15, 16, 17, 18, 19, 20, 21, 22, 23, 24, 25, 26, 27, 28, 29, 30, 31, 32, 33], [0, 1, 2, 3, 4, 5, 6, 7, 8, 9, 10, 11, 12, 13, 14, 15, 16, 17, 18, 19, 20, 21, 22, 23, 24, 25, 26, 27, 28, 29, 30, 31, 32, 33, 34], [0, 1, 2, 3, 4, 5, 6, 7, 8, 9, 10, 11, 12, 13, 14, 15, 16, 17, 18, 19, 20, 21, 22, 23, 24, 25, 26, 27, 28, 29, 30, 31, 32, 33, 34, 35], [0, 1, 2, 3, 4, 5, 6, 7, 8, 9, 10, 11, 12, 13, 14, 15, 16, 17, 18, 19, 20, 21, 22, 23, 24, 25, 26, 27, 28, 29, 30, 31, 32, 33, 34, 35, 36], [0, 1, 2, 3, 4, 5, 6, 7, 8, 9, 10, 11, 12, 13, 14, 15, 16, 17, 18, 19, 20, 21, 22, 23, 24, 25, 26, 27, 28, 29, 30, 31, 32, 33, 34, 35, 36, 37], [0, 1, 2, 3, 4, 5, 6, 7, 8, 9, 10, 11, 12, 13, 14, 15, 16, 17, 18, 19, 20, 21, 22, 23, 24, 25, 26, 27, 28, 29, 30, 31, 32, 33, 34, 35, 36, 37, 38]] [Fct.data (af : Val), Fct.eqv (.slice ar aq.1.length au), Fct.data (aG : Val), Fct.eqv (.bool aa), Fct.eqv (.bool aa), Fct.eqv (.int .i64 a1), Fct.data (aI : Val), Fct.eqv (.int .i64 a1), Fct.data (aJ : Val), Fct.eqv (.bool ab), Fct.eqv (.bool ab), Fct.eqv (.bool ab), Fct.eqv undef, Fct.eqv undef, Fct.eqv undef, Fct.eqv undef, Fct.eqv undef, Fct.eqv (.bool false), Fct.eqv (.bool false), Fct.eqv undef, Fct.eqv undef, Fct.eqv undef, Fct.eqv undef, Fct.eqv undef, Fct.eqv undef, Fct.eqv undef, Fct.eqv (.bool false), Fct.eqv (.bool false), Fct.eqv undef, Fct.eqv undef, Fct.eqv undef, Fct.eqv undef, Fct.eqv undef, Fct.eqv undef, Fct.eqv undef, Fct.eqv (.bool false), Fct.eqv (.bool false), Fct.eqv undef, Fct.eqv (.bool false), Fct.eqv (.bool false)] (fun D F τ => (Blk s0.N 4 τ aM 27 (Val.cs af ax ay az aA aB aC aD aE)) ∧ (Own s0.N 1 27 τ aq.1 ar au)) (by kernel_rfl) rfl (by decide) (by decide) ⟨(bD.ext (ext_draw _)), (bE.ext (ext_draw _))⟩ (by decide) (by decide) ⟨?_, ?_, ?_, ?_, ?_, ?_, ?_, ?_, ?_, ?_, ?_, ?_, ?_, ?_, ?_, ?_, ?_, ?_, ?_, ?_, ?_, ?_, ?_, ?_, ?_, ?_, ?_, ?_, ?_, ?_, ?_, ?_, ?_, ?_, ?_, ?_, ?_, ?_, ?_, ?_, trivial⟩ ?_
   ·intro anU anV anW anX anY anZ an0 cZ Ff Fg an1
    obtain ⟨gu, Fh⟩ := Ff
    have Fi := gu
    refine r_load aM 0 (Val.ag af ax ay az aA aB aC aD aE) ((Fg 10 rfl).trans bG) rfl (loads_row tr27 (Blk.range Fi 0 (Val.cs af ax ay az aA aB aC aD aE) rfl)) ?_
    exact d0 ⟨(Val.rpvMk (v := af) (((((((((((bj.mono ap.wext).mono an.wext).mono ao.wext).mono ai.wext).mono am.wext).mono aj.wext).mono ah.wext).mono ak.wext).mono al.wext).mono aL).mono cZ) (((((((((((bk.mono ap.wext).mono an.wext).mono ao.wext).mono ai.wext).mono am.wext).mono aj.wext).mono ah.wext).mono ak.wext).mono al.wext).mono aL).mono cZ) (((((((((((bl.mono ap.wext).mono an.wext).mono ao.wext).mono ai.wext).mono am.wext).mono aj.wext).mono ah.wext).mono ak.wext).mono al.wext).mono aL).mono cZ) (((((((((((bm.mono ap.wext).mono an.wext).mono ao.wext).mono ai.wext).mono am.wext).mono aj.wext).mono ah.wext).mono ak.wext).mono al.wext).mono aL).mono cZ)), ⟨gu, Fh⟩⟩
   ·intro an2 an3 an4 an5 an6 an7 an8 an9 Fj Fk aoa
    obtain ⟨Fl, Fm⟩ := Fj
    refine r_move (.slice ar aq.1.length au) ((Fk 7 rfl).trans bF) rfl ?_
    exact d0 ⟨rfl, ⟨Fl, Fm⟩⟩
   ·intro aob aoc aod aoe aof aog Fn aoh Fo aoi Fp
    have Fq := ag.trans Fn
    obtain ⟨Fs, gv⟩ := Fo
    refine r_call [.slice ar aq.1.length au] (evs1 (Fp 1 rfl 92 rfl)) rfl ((ok_semtyperef1_List fuel) _ _ _ _ (RpV.mkList gv.sl) bH) ?_
    intro aoj aok c0 Ft
    obtain ⟨aol, aom, aon, aoo, aop, aoq, aor, aos, rfl, Fu, Fv, Fw, Fx⟩ := Val.rpv Ft
    refine j0 ?_
    exact ⟨_, _, rfl, rfl, (ExtB.refl _ _).trans (c0.mono Fq.size), (Wext.refl _).trans c0.wext, (Val.rpvMk (v := aG) Fu Fv Fw Fx), ⟨(Fs.ext c0), (gv.ext c0)⟩⟩
   ·intro aot gw gx aou aov aow Fy aox Fz aoy gy
    have FA := ag.trans Fy
    obtain ⟨FB, FC⟩ := Fz
    have FD : RpV gx (af : Val) (gw 91) := gy 0 rfl 91 rfl
    obtain ⟨FE, FF, FG, FH, FI, FJ, FK, FL, FM, FN, FO, FP, FQ⟩ := Val.rpv FD
    have FR : RpV gx (aG : Val) (gw 93) := gy 2 rfl 93 rfl
    obtain ⟨FS, FT, FU, FV, FW, FX, FY, FZ, F0, F1, F2, F3, F4⟩ := Val.rpv FR
    refine r_call [Val.ag af FE FF FG FH FI FJ FK FL, Val.ag aG FS FT FU FV FW FX FY FZ] (evs2 FM F0) rfl ((ok_semtyperef1_Equal fuel) _ _ _ _ _ _ (Val.rpvMk (v := af) FN FO FP FQ) (Val.rpvMk (v := aG) F1 F2 F3 F4) bI) ?_
    intro aoz aoA c3 F5
    obtain rfl := RpV.bool F5
    refine j0 ?_
    exact ⟨_, _, rfl, rfl, (ExtB.refl _ _).trans (c3.mono FA.size), (Wext.refl _).trans c3.wext, rfl, ⟨(FB.ext c3), (FC.ext c3)⟩⟩
   ·intro aoB aoC aoD aoE aoF aoG aoH aoI F6 aoJ F7
    obtain ⟨F8, F9⟩ := F6
    refine r_move (.bool aa) (F7 3 rfl 94 rfl) rfl ?_
    exact d0 ⟨rfl, ⟨F8, F9⟩⟩
   ·intro aoK aoL aoM aoN aoO aoP aoQ aoR Ga Gb Gc
    obtain ⟨Gd, Ge⟩ := Ga
    refine Or.inr ⟨aa, (fun d hd => by cases hd; exact (Gc 4 rfl 95 rfl)), fun _ => ?_, fun h => absurd (av : aa = true) h⟩
    refine r_move (.int .i64 a1) ((Gb 1 rfl).trans aT) rfl ?_
    exact d0 ⟨rfl, ⟨Gd, Ge⟩⟩
   ·intro aoS aoT aoU aoV aoW aoX Gf aoY Gg aoZ gz
    have Gh := ag.trans Gf
    obtain ⟨Gi, Gj⟩ := Gg
    refine Or.inr ⟨aa, (fun d hd => by cases hd; exact (gz 4 rfl 95 rfl)), fun _ => ?_, fun h => absurd (av : aa = true) h⟩
    refine r_call [.int .i64 a1] (evs1 (gz 5 rfl 96 rfl)) rfl (ok_value_Int _ _ _ _ (RpV.mkInt _ _) bS) ?_
    intro ao0 ao1 c4 Gk
    obtain ⟨ao2, ao3, ao4, ao5, ao6, ao7, ao8, ao9, rfl, Gl, Gm, Gn, Gp⟩ := Val.rpv Gk
    refine j0 ?_
    exact ⟨_, _, rfl, rfl, (ExtB.refl _ _).trans (c4.mono Gh.size), (Wext.refl _).trans c4.wext, (Val.rpvMk (v := aI) Gl Gm Gn Gp), ⟨(Gi.ext c4), (Gj.ext c4)⟩⟩
   ·intro apa apb apc apd ape apf apg aph Gq Gr Gs
    obtain ⟨Gt, Gu⟩ := Gq
    refine Or.inr ⟨aa, (fun d hd => by cases hd; exact (Gs 4 rfl 95 rfl)), fun _ => ?_, fun h => absurd (av : aa = true) h⟩
    refine r_move (.int .i64 a1) ((Gr 1 rfl).trans aT) rfl ?_
    exact d0 ⟨rfl, ⟨Gt, Gu⟩⟩
   ·intro api apj apk apl apm apn Gv apo Gw app gA
    have Gx := ag.trans Gv
    obtain ⟨Gy, Gz⟩ := Gw
    refine Or.inr ⟨aa, (fun d hd => by cases hd; exact (gA 4 rfl 95 rfl)), fun _ => ?_, fun h => absurd (av : aa = true) h⟩
    refine r_call [.int .i64 a1] (evs1 (gA 7 rfl 98 rfl)) rfl (ok_semtyperef1_Int _ _ _ _ (RpV.mkInt _ _) bT) ?_
    intro apq apr c5 GA
    obtain ⟨aps, apt, apu, apv, apw, apx, apy, apz, rfl, GB, GC, GD, GE⟩ := Val.rpv GA
    refine j0 ?_
    exact ⟨_, _, rfl, rfl, (ExtB.refl _ _).trans (c5.mono Gx.size), (Wext.refl _).trans c5.wext, (Val.rpvMk (v := aJ) GB GC GD GE), ⟨(Gy.ext c5), (Gz.ext c5)⟩⟩
   ·intro apA gB gC apB apC apD GF apE GG apF dL
    have GH := ag.trans GF
    obtain ⟨GI, GJ⟩ := GG
    have GK : RpV gC (aI : Val) (gB 97) := dL 6 rfl 97 rfl
    obtain ⟨GL, GM, GN, GO, GP, GQ, GR, GS, GT, GU, GV, GW, GX⟩ := Val.rpv GK
    have GY : RpV gC (aJ : Val) (gB 99) := dL 8 rfl 99 rfl
    obtain ⟨GZ, G0, G1, G2, G3, G4, G5, G6, G7, G8, G9, Ha, Hb⟩ := Val.rpv GY
    refine Or.inr ⟨aa, (fun d hd => by cases hd; exact (dL 4 rfl 95 rfl)), fun _ => ?_, fun h => absurd (av : aa = true) h⟩
    refine r_call [Val.ag aI GL GM GN GO GP GQ GR GS, Val.ag aJ GZ G0 G1 G2 G3 G4 G5 G6] (evs2 GT G7) rfl ((ok_semtyperef1_Equal fuel) _ _ _ _ _ _ (Val.rpvMk (v := aI) GU GV GW GX) (Val.rpvMk (v := aJ) G8 G9 Ha Hb) bU) ?_
    intro apG apH c6 Hc
    obtain rfl := RpV.bool Hc
    refine j0 ?_
    exact ⟨_, _, rfl, rfl, (ExtB.refl _ _).trans (c6.mono GH.size), (Wext.refl _).trans c6.wext, rfl, ⟨(GI.ext c6), (GJ.ext c6)⟩⟩
   ·intro apI apJ apK apL apM apN apO apP Hd apQ gD
    obtain ⟨He, Hf⟩ := Hd
    refine r_pick_t (c := aa) (.bool ab) (gD 4 rfl 95 rfl) av (gD 9 rfl 100 rfl) rfl rfl rfl ?_
    exact d0 ⟨rfl, ⟨He, Hf⟩⟩
   ·intro apR apS apT apU apV apW apX apY Hg apZ Hh
    obtain ⟨Hi, Hj⟩ := Hg
    refine r_move (.bool ab) (Hh 10 rfl 101 rfl) rfl ?_
    exact d0 ⟨rfl, ⟨Hi, Hj⟩⟩
   ·intro ap0 ap1 ap2 ap3 ap4 ap5 ap6 ap7 Hk ap8 Hl
    obtain ⟨Hm, Hn⟩ := Hk
    refine Or.inr ⟨ab, (fun d hd => by cases hd; exact (Hl 11 rfl 102 rfl)), fun h => Bool.noConfusion (Eq.trans (Eq.symm (aF : ab = false)) h), fun _ => ⟨rfl, ?_⟩⟩
    exact ⟨Hm, Hn⟩
   ·intro ap9 Ho aqa aqb aqc aqd aqe aqf Hp aqg gE
    obtain ⟨Hq, Hr⟩ := Hp
    have aqh : Ho 103 = undef := gE 12 rfl 103 rfl
    refine Or.inr ⟨ab, (fun d hd => by cases hd; exact (gE 11 rfl 102 rfl)), fun h => Bool.noConfusion (Eq.trans (Eq.symm (aF : ab = false)) h), fun _ => ⟨rfl, ?_⟩⟩
    exact ⟨Hq, Hr⟩
   ·intro aqi aqj aqk aql aqm aqn aqo aqp Hs aqq Ht
    obtain ⟨Hu, Hv⟩ := Hs
    refine Or.inr ⟨ab, (fun d hd => by cases hd; exact (Ht 11 rfl 102 rfl)), fun h => Bool.noConfusion (Eq.trans (Eq.symm (aF : ab = false)) h), fun _ => ⟨rfl, ?_⟩⟩
    exact ⟨Hu, Hv⟩
   ·intro aqr Hw aqs aqt aqu aqv aqw aqx Hx aqy gF
    obtain ⟨Hy, Hz⟩ := Hx
    have aqz : Hw 105 = undef := gF 14 rfl 105 rfl
    refine Or.inr ⟨ab, (fun d hd => by cases hd; exact (gF 11 rfl 102 rfl)), fun h => Bool.noConfusion (Eq.trans (Eq.symm (aF : ab = false)) h), fun _ => ⟨rfl, ?_⟩⟩
    exact ⟨Hy, Hz⟩
   ·intro aqA gG aqB aqC aqD aqE aqF aqG HA aqH dM
    obtain ⟨HB, HC⟩ := HA
    have aqI : gG 104 = undef := dM 13 rfl 104 rfl
    have aqJ : gG 106 = undef := dM 15 rfl 106 rfl
    refine Or.inr ⟨ab, (fun d hd => by cases hd; exact (dM 11 rfl 102 rfl)), fun h => Bool.noConfusion (Eq.trans (Eq.symm (aF : ab = false)) h), fun _ => ⟨rfl, ?_⟩⟩
    exact ⟨HB, HC⟩
   ·intro aqK HD aqL aqM aqN aqO aqP aqQ HE aqR gH
    obtain ⟨HF, HG⟩ := HE
    have aqS : HD 107 = undef := gH 16 rfl 107 rfl
    refine r_pick_f (c := ab) (.bool false) (gH 11 rfl 102 rfl) aF rfl rfl rfl rfl ?_
    exact d0 ⟨rfl, ⟨HF, HG⟩⟩
   ·intro aqT aqU aqV aqW aqX aqY aqZ aq0 HH aq1 HI
    obtain ⟨HJ, HK⟩ := HH
    refine r_move (.bool false) (HI 17 rfl 108 rfl) rfl ?_
    exact d0 ⟨rfl, ⟨HJ, HK⟩⟩
   ·intro aq2 aq3 aq4 aq5 aq6 aq7 aq8 aq9 HL ara HM
    obtain ⟨HN, HO⟩ := HL
    refine Or.inr ⟨false, (fun d hd => by cases hd; exact (HM 18 rfl 109 rfl)), fun h => Bool.noConfusion (Eq.trans (Eq.symm (rfl : false = false)) h), fun _ => ⟨rfl, ?_⟩⟩
    exact ⟨HN, HO⟩
   ·intro arb HP arc ard are arf arg arh HQ ari gI
    obtain ⟨HR, HS⟩ := HQ
    have arj : HP 110 = undef := gI 19 rfl 110 rfl
    refine Or.inr ⟨false, (fun d hd => by cases hd; exact (gI 18 rfl 109 rfl)), fun h => Bool.noConfusion (Eq.trans (Eq.symm (rfl : false = false)) h), fun _ => ⟨rfl, ?_⟩⟩
    exact ⟨HR, HS⟩
   ·intro ark HT arl arm arn aro arp arq HU arr gJ
    obtain ⟨HV, HW⟩ := HU
    have ars : HT 111 = undef := gJ 20 rfl 111 rfl
    refine Or.inr ⟨false, (fun d hd => by cases hd; exact (gJ 18 rfl 109 rfl)), fun h => Bool.noConfusion (Eq.trans (Eq.symm (rfl : false = false)) h), fun _ => ⟨rfl, ?_⟩⟩
    exact ⟨HV, HW⟩
   ·intro art HX aru arv arw arx ary arz HY arA gK
    obtain ⟨HZ, H0⟩ := HY
    have arB : HX 112 = undef := gK 21 rfl 112 rfl
    refine Or.inr ⟨false, (fun d hd => by cases hd; exact (gK 18 rfl 109 rfl)), fun h => Bool.noConfusion (Eq.trans (Eq.symm (rfl : false = false)) h), fun _ => ⟨rfl, ?_⟩⟩
    exact ⟨HZ, H0⟩
   ·intro arC arD arE arF arG arH arI arJ H1 arK H2
    obtain ⟨H3, H4⟩ := H1
    refine Or.inr ⟨false, (fun d hd => by cases hd; exact (H2 18 rfl 109 rfl)), fun h => Bool.noConfusion (Eq.trans (Eq.symm (rfl : false = false)) h), fun _ => ⟨rfl, ?_⟩⟩
    exact ⟨H3, H4⟩
   ·intro arL H5 arM arN arO arP arQ arR H6 arS gL
    obtain ⟨H7, H8⟩ := H6
    have arT : H5 114 = undef := gL 23 rfl 114 rfl
    refine Or.inr ⟨false, (fun d hd => by cases hd; exact (gL 18 rfl 109 rfl)), fun h => Bool.noConfusion (Eq.trans (Eq.symm (rfl : false = false)) h), fun _ => ⟨rfl, ?_⟩⟩
    exact ⟨H7, H8⟩
   ·intro arU gM arV arW arX arY arZ ar0 H9 ar1 dN
    obtain ⟨Ia, Ib⟩ := H9
    have ar2 : gM 113 = undef := dN 22 rfl 113 rfl
    have ar3 : gM 115 = undef := dN 24 rfl 115 rfl
    refine Or.inr ⟨false, (fun d hd => by cases hd; exact (dN 18 rfl 109 rfl)), fun h => Bool.noConfusion (Eq.trans (Eq.symm (rfl : false = false)) h), fun _ => ⟨rfl, ?_⟩⟩
    exact ⟨Ia, Ib⟩
   ·intro ar4 Ic ar5 ar6 ar7 ar8 ar9 asa Id asb gN
    obtain ⟨Ie, If⟩ := Id
    have asc : Ic 116 = undef := gN 25 rfl 116 rfl
    refine r_pick_f (c := false) (.bool false) (gN 18 rfl 109 rfl) rfl rfl rfl rfl rfl ?_
    exact d0 ⟨rfl, ⟨Ie, If⟩⟩
   ·intro asd ase asf asg ash asi asj ask Ig asl Ih
    obtain ⟨Ii, Ij⟩ := Ig
    refine r_move (.bool false) (Ih 26 rfl 117 rfl) rfl ?_
    exact d0 ⟨rfl, ⟨Ii, Ij⟩⟩
   ·intro asm asn aso asp asq asr ass ast Ik asu Il
    obtain ⟨Im, In⟩ := Ik
    refine Or.inr ⟨false, (fun d hd => by cases hd; exact (Il 27 rfl 118 rfl)), fun h => Bool.noConfusion (Eq.trans (Eq.symm (rfl : false = false)) h), fun _ => ⟨rfl, ?_⟩⟩
    exact ⟨Im, In⟩
   ·intro asv Io asw asx asy asz asA asB Ip asC gO
    obtain ⟨Iq, Ir⟩ := Ip
    have asD : Io 119 = undef := gO 28 rfl 119 rfl
    refine Or.inr ⟨false, (fun d hd => by cases hd; exact (gO 27 rfl 118 rfl)), fun h => Bool.noConfusion (Eq.trans (Eq.symm (rfl : false = false)) h), fun _ => ⟨rfl, ?_⟩⟩
    exact ⟨Iq, Ir⟩
   ·intro asE Is asF asG asH asI asJ asK It asL gP
    obtain ⟨Iu, Iv⟩ := It
    have asM : Is 120 = undef := gP 29 rfl 120 rfl
    refine Or.inr ⟨false, (fun d hd => by cases hd; exact (gP 27 rfl 118 rfl)), fun h => Bool.noConfusion (Eq.trans (Eq.symm (rfl : false = false)) h), fun _ => ⟨rfl, ?_⟩⟩
    exact ⟨Iu, Iv⟩
   ·intro asN Iw asO asP asQ asR asS asT Ix asU gQ
    obtain ⟨Iy, Iz⟩ := Ix
    have asV : Iw 121 = undef := gQ 30 rfl 121 rfl
    refine Or.inr ⟨false, (fun d hd => by cases hd; exact (gQ 27 rfl 118 rfl)), fun h => Bool.noConfusion (Eq.trans (Eq.symm (rfl : false = false)) h), fun _ => ⟨rfl, ?_⟩⟩
    exact ⟨Iy, Iz⟩
   ·intro asW asX asY asZ as0 as1 as2 as3 IA as4 IB
    obtain ⟨IC, ID⟩ := IA
    refine Or.inr ⟨false, (fun d hd => by cases hd; exact (IB 27 rfl 118 rfl)), fun h => Bool.noConfusion (Eq.trans (Eq.symm (rfl : false = false)) h), fun _ => ⟨rfl, ?_⟩⟩
    exact ⟨IC, ID⟩
   ·intro as5 IE as6 as7 as8 as9 ata atb IF atc gR
    obtain ⟨IG, IH⟩ := IF
    have atd : IE 123 = undef := gR 32 rfl 123 rfl
    refine Or.inr ⟨false, (fun d hd => by cases hd; exact (gR 27 rfl 118 rfl)), fun h => Bool.noConfusion (Eq.trans (Eq.symm (rfl : false = false)) h), fun _ => ⟨rfl, ?_⟩⟩
    exact ⟨IG, IH⟩
   ·intro ate gS atf atg ath ati atj atk II atl dO
    obtain ⟨IJ, IK⟩ := II
    have atm : gS 122 = undef := dO 31 rfl 122 rfl
    have atn : gS 124 = undef := dO 33 rfl 124 rfl
    refine Or.inr ⟨false, (fun d hd => by cases hd; exact (dO 27 rfl 118 rfl)), fun h => Bool.noConfusion (Eq.trans (Eq.symm (rfl : false = false)) h), fun _ => ⟨rfl, ?_⟩⟩
    exact ⟨IJ, IK⟩
   ·intro ato IL atp atq atr ats att atu IM atv gT
    obtain ⟨IN, IO⟩ := IM
    have atw : IL 125 = undef := gT 34 rfl 125 rfl
    refine r_pick_f (c := false) (.bool false) (gT 27 rfl 118 rfl) rfl rfl rfl rfl rfl ?_
    exact d0 ⟨rfl, ⟨IN, IO⟩⟩
   ·intro atx aty atz atA atB atC atD atE IP atF IQ
    obtain ⟨IR, IS⟩ := IP
    refine r_move (.bool false) (IQ 35 rfl 126 rfl) rfl ?_
    exact d0 ⟨rfl, ⟨IR, IS⟩⟩
   ·intro atG atH atI atJ atK atL atM atN IT atO IU
    obtain ⟨IV, IW⟩ := IT
    refine Or.inr ⟨false, (fun d hd => by cases hd; exact (IU 36 rfl 127 rfl)), fun h => Bool.noConfusion (Eq.trans (Eq.symm (rfl : false = false)) h), fun _ => ⟨rfl, ?_⟩⟩
    exact ⟨IV, IW⟩
   ·intro atP IX atQ atR atS atT atU atV IY atW gU
    obtain ⟨IZ, I0⟩ := IY
    have atX : IX 128 = undef := gU 37 rfl 128 rfl
    refine r_pick_f (c := false) (.bool false) (gU 36 rfl 127 rfl) rfl rfl rfl rfl rfl ?_
    exact d0 ⟨rfl, ⟨IZ, I0⟩⟩
   ·intro atY atZ at0 at1 at2 at3 at4 at5 I1 at6 I2
    obtain ⟨I3, I4⟩ := I1
    refine r_assign (.bool false) (I2 38 rfl 129 rfl) rfl ?_
    exact d0 ⟨rfl, ⟨I3, I4⟩⟩
   intro at7 at8 I5 at9 I6 aua I7
   have I8 := ag.trans I5
   obtain ⟨aub, auc⟩ := I6
   refine j1 (jb ?_)
   obtain rfl := Option.some.inj hf
   refine ret_one (.bool false) rfl ⟨rfl, (I7 39 6 rfl)⟩ I8 ?_
   exact (RpV.mkBool _ _)
  refine wp_draw (B := frExt s0.N) [some 91, some 92, some 93, some 94, some 95, some 96, some 97, some 98, some 99, some 100, some 101, some 102, some 103, some 104, some 105, some 106, some 107, some 108, some 109, some 110, some 111, some 112, some 113, some 114, some 115, some 116, some 117, some 118, some 119, some 120, some 121, some 122, some 123, some 124, some 125, some 126, some 127, some 128, some 129, some 6] [[], [], [1], [0, 1, 2], [0, 1, 2, 3], [0, 1, 2, 3, 4], [0, 1, 2, 3, 4, 5], [0, 1, 2, 3, 4], [0, 1, 2, 3, 4, 5, 6, 7], [0, 1, 2, 3, 4, 5, 6, 7, 8], [0, 1, 2, 3, 4, 5, 6, 7, 8, 9], [0, 1, 2, 3, 4, 5, 6, 7, 8, 9, 10], [0, 1, 2, 3, 4, 5, 6, 7, 8, 9, 10, 11], [0, 1, 2, 3, 4, 5, 6, 7, 8, 9, 10, 11, 12], [0, 1, 2, 3, 4, 5, 6, 7, 8, 9, 10, 11], [0, 1, 2, 3, 4, 5, 6, 7, 8, 9, 10, 11, 12, 13, 14], [0, 1, 2, 3, 4, 5, 6, 7, 8, 9, 10, 11, 12, 13, 14, 15], [0, 1, 2, 3, 4, 5, 6, 7, 8, 9, 10, 11, 12, 13, 14, 15, 16], [0, 1, 2, 3, 4, 5, 6, 7, 8, 9, 10, 11, 12, 13, 14, 15, 16, 17], [0, 1, 2, 3, 4, 5, 6, 7, 8, 9, 10, 11, 12, 13, 14, 15, 16, 17, 18], [0, 1, 2, 3, 4, 5, 6, 7, 8, 9, 10, 11, 12, 13, 14, 15, 16, 17, 18, 19], [0, 1, 2, 3, 4, 5, 6, 7, 8, 9, 10, 11, 12, 13, 14, 15, 16, 17, 18, 19, 20], [0, 1, 2, 3, 4, 5, 6, 7, 8, 9, 10, 11, 12, 13, 14, 15, 16, 17, 18, 19, 20, 21], [0, 1, 2, 3, 4, 5, 6, 7, 8, 9, 10, 11, 12, 13, 14, 15, 16, 17, 18], [0, 1, 2, 3, 4, 5, 6, 7, 8, 9, 10, 11, 12, 13, 14, 15, 16, 17, 18, 19, 20, 21, 23], [0, 1, 2, 3, 4, 5, 6, 7, 8, 9, 10, 11, 12, 13, 14, 15, 16, 17, 18, 19, 20, 21, 22, 23, 24], [0, 1, 2, 3, 4, 5, 6, 7, 8, 9, 10, 11, 12, 13, 14, 15, 16, 17, 18, 19, 20, 21, 22, 23, 24, 25], [0, 1, 2, 3, 4, 5, 6, 7, 8, 9, 10, 11, 12, 13, 14, 15, 16, 17, 18, 19, 20, 21, 22, 23, 24, 25, 26], [0, 1, 2, 3, 4, 5, 6, 7, 8, 9, 10, 11, 12, 13, 14, 15, 16, 17, 18, 19, 20, 21, 22, 23, 24, 25, 26, 27], [0, 1, 2, 3, 4, 5, 6, 7, 8, 9, 10, 11, 12, 13, 14, 15, 16, 17, 18, 19, 20, 21, 22, 23, 24, 25, 26, 27, 28], [0, 1, 2, 3, 4, 5, 6, 7, 8, 9, 10, 11, 12, 13, 14, 15, 16, 17, 18, 19, 20, 21, 22, 23, 24, 25, 26, 27, 28, 29], [0, 1, 2, 3, 4, 5, 6, 7, 8, 9, 10, 11, 12, 13, 14, 15, 16, 17, 18, 19, 20, 21, 22, 23, 24, 25, 26, 27, 28, 29, 30], [0, 1, 2, 3, 4, 5, 6, 7, 8, 9, 10, 11, 12, 13, 14, 15, 16, 17, 18, 19, 20, 21, 22, 23, 24, 25, 26, 27], [0, 1, 2, 3, 4, 5, 6, 7, 8, 9, 10, 11, 12, 13, 14, 15, 16, 17, 18, 19, 20, 21, 22, 23, 24, 25, 26, 27, 32], [0, 1, 2, 3, 4, 5, 6, 7, 8, 9, 10, 11, 12, 13, 14, 15, 16, 17, 18, 19, 20, 21, 22, 23, 24, 25, 26, 27, 28, 29, 30, 31, 32, 33], [0, 1, 2, 3, 4, 5, 6, 7, 8, 9, 10, 11, 12, 13, 14, 15, 16, 17, 18, 19, 20, 21, 22, 23, 24, 25, 26, 27, 28, 29, 30, 31, 32, 33, 34], [0, 1, 2, 3, 4, 5, 6, 7, 8, 9, 10, 11, 12, 13, 14, 15, 16, 17, 18, 19, 20, 21, 22, 23, 24, 25, 26, 27, 28, 29, 30, 31, 32, 33, 34, 35], [0, 1, 2, 3, 4, 5, 6, 7, 8, 9, 10, 11, 12, 13, 14, 15, 16, 17, 18, 19, 20, 21, 22, 23, 24, 25, 26, 27, 28, 29, 30, 31, 32, 33, 34, 35, 36], [0, 1, 2, 3, 4, 5, 6, 7, 8, 9, 10, 11, 12, 13, 14, 15, 16, 17, 18, 19, 20, 21, 22, 23, 24, 25, 26, 27, 28, 29, 30, 31, 32, 33, 34, 35, 36, 37], [0, 1, 2, 3, 4, 5, 6, 7, 8, 9, 10, 11, 12, 13, 14, 15, 16, 17, 18, 19, 20, 21, 22, 23, 24, 25, 26, 27, 28, 29, 30, 31, 32, 33, 34, 35, 36, 37, 38]] [Fct.data (af : Val), Fct.eqv (.slice ar aq.1.length au), Fct.data (aG : Val), Fct.eqv (.bool aa), Fct.eqv (.bool aa), Fct.eqv undef, Fct.eqv undef, Fct.eqv undef, Fct.eqv undef, Fct.eqv undef, Fct.eqv (.bool false), Fct.eqv (.bool false), Fct.eqv undef, Fct.eqv undef, Fct.eqv undef, Fct.eqv undef, Fct.eqv undef, Fct.eqv (.bool false), Fct.eqv (.bool false), Fct.eqv undef, Fct.eqv undef, Fct.eqv undef, Fct.eqv undef, Fct.eqv undef, Fct.eqv undef, Fct.eqv undef, Fct.eqv (.bool false), Fct.eqv (.bool false), Fct.eqv undef, Fct.eqv undef, Fct.eqv undef, Fct.eqv undef, Fct.eqv undef, Fct.eqv undef, Fct.eqv undef, Fct.eqv (.bool false), Fct.eqv (.bool false), Fct.eqv undef, Fct.eqv (.bool false), Fct.eqv (.bool false)] (fun D F τ => (Blk s0.N 4 τ aM 27 (Val.cs af ax ay az aA aB aC aD aE)) ∧ (Own s0.N 1 27 τ aq.1 ar au)) (by kernel_rfl) rfl (by decide) (by decide) ⟨(bD.ext (ext_draw _)), (bE.ext (ext_draw _))⟩ (by decide) (by decide) ⟨?_, ?_, ?_, ?_, ?_, ?_, ?_, ?_, ?_, ?_, ?_, ?_, ?_, ?_, ?_, ?_, ?_, ?_, ?_, ?_, ?_, ?_, ?_, ?_, ?_, ?_, ?_, ?_, ?_, ?_, ?_, ?_, ?_, ?_, ?_, ?_, ?_, ?_, ?_, ?_, trivial⟩ ?_
  ·intro aud aue auf aug auh aui auj c7 I9 Ja auk
   obtain ⟨gV, Jb⟩ := I9
   have Jc := gV
   refine r_load aM 0 (Val.ag af ax ay az aA aB aC aD aE) ((Ja 10 rfl).trans bG) rfl (loads_row tr27 (Blk.range Jc 0 (Val.cs af ax ay az aA aB aC aD aE) rfl)) ?_
   exact d0 ⟨(Val.rpvMk (v := af) (((((((((((bj.mono ap.wext).mono an.wext).mono ao.wext).mono ai.wext).mono am.wext).mono aj.wext).mono ah.wext).mono ak.wext).mono al.wext).mono aL).mono c7) (((((((((((bk.mono ap.wext).mono an.wext).mono ao.wext).mono ai.wext).mono am.wext).mono aj.wext).mono ah.wext).mono ak.wext).mono al.wext).mono aL).mono c7) (((((((((((bl.mono ap.wext).mono an.wext).mono ao.wext).mono ai.wext).mono am.wext).mono aj.wext).mono ah.wext).mono ak.wext).mono al.wext).mono aL).mono c7) (((((((((((bm.mono ap.wext).mono an.wext).mono ao.wext).mono ai.wext).mono am.wext).mono aj.wext).mono ah.wext).mono ak.wext).mono al.wext).mono aL).mono c7)), ⟨gV, Jb⟩⟩
  ·intro aul aum aun auo aup auq aur aus Jd Je aut
   obtain ⟨Jf, Jg⟩ := Jd
   refine r_move (.slice ar aq.1.length au) ((Je 7 rfl).trans bF) rfl ?_
   exact d0 ⟨rfl, ⟨Jf, Jg⟩⟩
  ·intro auu auv auw aux auy auz Jh auA Ji auB Jj
   have Jk := ag.trans Jh
   obtain ⟨Jl, gW⟩ := Ji
   refine r_call [.slice ar aq.1.length au] (evs1 (Jj 1 rfl 92 rfl)) rfl ((ok_semtyperef1_List fuel) _ _ _ _ (RpV.mkList gW.sl) bH) ?_
   intro auC auD c8 Jm
   obtain ⟨auE, auF, auG, auH, auI, auJ, auK, auL, rfl, Jn, Jo, Jp, Jq⟩ := Val.rpv Jm
   refine j0 ?_
   exact ⟨_, _, rfl, rfl, (ExtB.refl _ _).trans (c8.mono Jk.size), (Wext.refl _).trans c8.wext, (Val.rpvMk (v := aG) Jn Jo Jp Jq), ⟨(Jl.ext c8), (gW.ext c8)⟩⟩
  ·intro auM gX gY auN auO auP Jr auQ Js auR gZ
   have Jt := ag.trans Jr
   obtain ⟨Ju, Jv⟩ := Js
   have Jw : RpV gY (af : Val) (gX 91) := gZ 0 rfl 91 rfl
   obtain ⟨Jx, Jy, Jz, JA, JB, JC, JD, JE, JF, JG, JH, JI, JJ⟩ := Val.rpv Jw
   have JK : RpV gY (aG : Val) (gX 93) := gZ 2 rfl 93 rfl
   obtain ⟨JL, JM, JN, JO, JP, JQ, JR, JS, JT, JU, JV, JW, JX⟩ := Val.rpv JK
   refine r_call [Val.ag af Jx Jy Jz JA JB JC JD JE, Val.ag aG JL JM JN JO JP JQ JR JS] (evs2 JF JT) rfl ((ok_semtyperef1_Equal fuel) _ _ _ _ _ _ (Val.rpvMk (v := af) JG JH JI JJ) (Val.rpvMk (v := aG) JU JV JW JX) bI) ?_
   intro auS auT c9 JY
   obtain rfl := RpV.bool JY
   refine j0 ?_
   exact ⟨_, _, rfl, rfl, (ExtB.refl _ _).trans (c9.mono Jt.size), (Wext.refl _).trans c9.wext, rfl, ⟨(Ju.ext c9), (Jv.ext c9)⟩⟩
  ·intro auU auV auW auX auY auZ au0 au1 JZ au2 J0
   obtain ⟨J1, J2⟩ := JZ
   refine r_move (.bool aa) (J0 3 rfl 94 rfl) rfl ?_
   exact d0 ⟨rfl, ⟨J1, J2⟩⟩
  ·intro au3 au4 au5 au6 au7 au8 au9 ava J3 avb J4
   obtain ⟨J5, J6⟩ := J3
   refine Or.inr ⟨aa, (fun d hd => by cases hd; exact (J4 4 rfl 95 rfl)), fun h => Bool.noConfusion (Eq.trans (Eq.symm (av : aa = false)) h), fun _ => ⟨rfl, ?_⟩⟩
   exact ⟨J5, J6⟩
  ·intro avc J7 avd ave avf avg avh avi J8 avj g0
   obtain ⟨J9, Ka⟩ := J8
   have avk : J7 96 = undef := g0 5 rfl 96 rfl
   refine Or.inr ⟨aa, (fun d hd => by cases hd; exact (g0 4 rfl 95 rfl)), fun h => Bool.noConfusion (Eq.trans (Eq.symm (av : aa = false)) h), fun _ => ⟨rfl, ?_⟩⟩
   exact ⟨J9, Ka⟩
  ·intro avl avm avn avo avp avq avr avs Kb avt Kc
   obtain ⟨Kd, Ke⟩ := Kb
   refine Or.inr ⟨aa, (fun d hd => by cases hd; exact (Kc 4 rfl 95 rfl)), fun h => Bool.noConfusion (Eq.trans (Eq.symm (av : aa = false)) h), fun _ => ⟨rfl, ?_⟩⟩
   exact ⟨Kd, Ke⟩
  ·intro avu Kf avv avw avx avy avz avA Kg avB g1
   obtain ⟨Kh, Ki⟩ := Kg
   have avC : Kf 98 = undef := g1 7 rfl 98 rfl
   refine Or.inr ⟨aa, (fun d hd => by cases hd; exact (g1 4 rfl 95 rfl)), fun h => Bool.noConfusion (Eq.trans (Eq.symm (av : aa = false)) h), fun _ => ⟨rfl, ?_⟩⟩
   exact ⟨Kh, Ki⟩
  ·intro avD g2 avE avF avG avH avI avJ Kj avK dP
   obtain ⟨Kk, Kl⟩ := Kj
   have avL : g2 97 = undef := dP 6 rfl 97 rfl
   have avM : g2 99 = undef := dP 8 rfl 99 rfl
   refine Or.inr ⟨aa, (fun d hd => by cases hd; exact (dP 4 rfl 95 rfl)), fun h => Bool.noConfusion (Eq.trans (Eq.symm (av : aa = false)) h), fun _ => ⟨rfl, ?_⟩⟩
   exact ⟨Kk, Kl⟩
  ·intro avN Km avO avP avQ avR avS avT Kn avU g3
   obtain ⟨Ko, Kp⟩ := Kn
   have avV : Km 100 = undef := g3 9 rfl 100 rfl
   refine r_pick_f (c := aa) (.bool false) (g3 4 rfl 95 rfl) av rfl rfl rfl rfl ?_
   exact d0 ⟨rfl, ⟨Ko, Kp⟩⟩
  ·intro avW avX avY avZ av0 av1 av2 av3 Kq av4 Kr
   obtain ⟨Ks, Kt⟩ := Kq
   refine r_move (.bool false) (Kr 10 rfl 101 rfl) rfl ?_
   exact d0 ⟨rfl, ⟨Ks, Kt⟩⟩
  ·intro av5 av6 av7 av8 av9 awa awb awc Ku awd Kv
   obtain ⟨Kw, Kx⟩ := Ku
   refine Or.inr ⟨false, (fun d hd => by cases hd; exact (Kv 11 rfl 102 rfl)), fun h => Bool.noConfusion (Eq.trans (Eq.symm (rfl : false = false)) h), fun _ => ⟨rfl, ?_⟩⟩
   exact ⟨Kw, Kx⟩
  ·intro awe Ky awf awg awh awi awj awk Kz awl g4
   obtain ⟨KA, KB⟩ := Kz
   have awm : Ky 103 = undef := g4 12 rfl 103 rfl
   refine Or.inr ⟨false, (fun d hd => by cases hd; exact (g4 11 rfl 102 rfl)), fun h => Bool.noConfusion (Eq.trans (Eq.symm (rfl : false = false)) h), fun _ => ⟨rfl, ?_⟩⟩
   exact ⟨KA, KB⟩
  ·intro awn awo awp awq awr aws awt awu KC awv KD
   obtain ⟨KE, KF⟩ := KC
   refine Or.inr ⟨false, (fun d hd => by cases hd; exact (KD 11 rfl 102 rfl)), fun h => Bool.noConfusion (Eq.trans (Eq.symm (rfl : false = false)) h), fun _ => ⟨rfl, ?_⟩⟩
   exact ⟨KE, KF⟩
  ·intro aww KG awx awy awz awA awB awC KH awD g5
   obtain ⟨KI, KJ⟩ := KH
   have awE : KG 105 = undef := g5 14 rfl 105 rfl
   refine Or.inr ⟨false, (fun d hd => by cases hd; exact (g5 11 rfl 102 rfl)), fun h => Bool.noConfusion (Eq.trans (Eq.symm (rfl : false = false)) h), fun _ => ⟨rfl, ?_⟩⟩
   exact ⟨KI, KJ⟩
  ·intro awF g6 awG awH awI awJ awK awL KK awM dQ
   obtain ⟨KL, KM⟩ := KK
   have awN : g6 104 = undef := dQ 13 rfl 104 rfl
   have awO : g6 106 = undef := dQ 15 rfl 106 rfl
   refine Or.inr ⟨false, (fun d hd => by cases hd; exact (dQ 11 rfl 102 rfl)), fun h => Bool.noConfusion (Eq.trans (Eq.symm (rfl : false = false)) h), fun _ => ⟨rfl, ?_⟩⟩
   exact ⟨KL, KM⟩
  ·intro awP KN awQ awR awS awT awU awV KO awW g7
   obtain ⟨KP, KQ⟩ := KO
   have awX : KN 107 = undef := g7 16 rfl 107 rfl
   refine r_pick_f (c := false) (.bool false) (g7 11 rfl 102 rfl) rfl rfl rfl rfl rfl ?_
   exact d0 ⟨rfl, ⟨KP, KQ⟩⟩
  ·intro awY awZ aw0 aw1 aw2 aw3 aw4 aw5 KR aw6 KS
   obtain ⟨KT, KU⟩ := KR
   refine r_move (.bool false) (KS 17 rfl 108 rfl) rfl ?_
   exact d0 ⟨rfl, ⟨KT, KU⟩⟩
  ·intro aw7 aw8 aw9 axa axb axc axd axe KV axf KW
   obtain ⟨KX, KY⟩ := KV
   refine Or.inr ⟨false, (fun d hd => by cases hd; exact (KW 18 rfl 109 rfl)), fun h => Bool.noConfusion (Eq.trans (Eq.symm (rfl : false = false)) h), fun _ => ⟨rfl, ?_⟩⟩
   exact ⟨KX, KY⟩
  ·intro axg KZ axh axi axj axk axl axm K0 axn g8
   obtain ⟨K1, K2⟩ := K0
   have axo : KZ 110 = undef := g8 19 rfl 110 rfl
   refine Or.inr ⟨false, (fun d hd => by cases hd; exact (g8 18 rfl 109 rfl)), fun h => Bool.noConfusion (Eq.trans (Eq.symm (rfl : false = false)) h), fun _ => ⟨rfl, ?_⟩⟩
   exact ⟨K1, K2⟩
  ·intro axp K3 axq axr axs axt axu axv K4 axw g9
   obtain ⟨K5, K6⟩ := K4
   have axx : K3 111 = undef := g9 20 rfl 111 rfl
   refine Or.inr ⟨false, (fun d hd => by cases hd; exact (g9 18 rfl 109 rfl)), fun h => Bool.noConfusion (Eq.trans (Eq.symm (rfl : false = false)) h), fun _ => ⟨rfl, ?_⟩⟩
   exact ⟨K5, K6⟩
  ·intro axy K7 axz axA axB axC axD axE K8 axF ha
   obtain ⟨K9, La⟩ := K8
   have axG : K7 112 = undef := ha 21 rfl 112 rfl
   refine Or.inr ⟨false, (fun d hd => by cases hd; exact (ha 18 rfl 109 rfl)), fun h => Bool.noConfusion (Eq.trans (Eq.symm (rfl : false = false)) h), fun _ => ⟨rfl, ?_⟩⟩
   exact ⟨K9, La⟩
  ·intro axH axI axJ axK axL axM axN axO Lb axP Lc
   obtain ⟨Ld, Le⟩ := Lb
   refine Or.inr ⟨false, (fun d hd => by cases hd; exact (Lc 18 rfl 109 rfl)), fun h => Bool.noConfusion (Eq.trans (Eq.symm (rfl : false = false)) h), fun _ => ⟨rfl, ?_⟩⟩
   exact ⟨Ld, Le⟩
  ·intro axQ Lf axR axS axT axU axV axW Lg axX hb
   obtain ⟨Lh, Li⟩ := Lg
   have axY : Lf 114 = undef := hb 23 rfl 114 rfl
   refine Or.inr ⟨false, (fun d hd => by cases hd; exact (hb 18 rfl 109 rfl)), fun h => Bool.noConfusion (Eq.trans (Eq.symm (rfl : false = false)) h), fun _ => ⟨rfl, ?_⟩⟩
   exact ⟨Lh, Li⟩
  ·intro axZ hc ax0 ax1 ax2 ax3 ax4 ax5 Lj ax6 dR
   obtain ⟨Lk, Ll⟩ := Lj
   have ax7 : hc 113 = undef := dR 22 rfl 113 rfl
   have ax8 : hc 115 = undef := dR 24 rfl 115 rfl
   refine Or.inr ⟨false, (fun d hd => by cases hd; exact (dR 18 rfl 109 rfl)), fun h => Bool.noConfusion (Eq.trans (Eq.symm (rfl : false = false)) h), fun _ => ⟨rfl, ?_⟩⟩
   exact ⟨Lk, Ll⟩
  ·intro ax9 Lm aya ayb ayc ayd aye ayf Ln ayg he
   obtain ⟨Lo, Lp⟩ := Ln
   have ayh : Lm 116 = undef := he 25 rfl 116 rfl
   refine r_pick_f (c := false) (.bool false) (he 18 rfl 109 rfl) rfl rfl rfl rfl rfl ?_
   exact d0 ⟨rfl, ⟨Lo, Lp⟩⟩
  ·intro ayi ayj ayk ayl aym ayn ayo ayp Lq ayq Lr
   obtain ⟨Ls, Lt⟩ := Lq
   refine r_move (.bool false) (Lr 26 rfl 117 rfl) rfl ?_
   exact d0 ⟨rfl, ⟨Ls, Lt⟩⟩
  ·intro ayr ays ayt ayu ayv ayw ayx ayy Lu ayz Lv
   obtain ⟨Lw, Lx⟩ := Lu
   refine Or.inr ⟨false, (fun d hd => by cases hd; exact (Lv 27 rfl 118 rfl)), fun h => Bool.noConfusion (Eq.trans (Eq.symm (rfl : false = false)) h), fun _ => ⟨rfl, ?_⟩⟩
   exact ⟨Lw, Lx⟩
  ·intro ayA Ly ayB ayC ayD ayE ayF ayG Lz ayH hg
   obtain ⟨LA, LB⟩ := Lz
   have ayI : Ly 119 = undef := hg 28 rfl 119 rfl
   refine Or.inr ⟨false, (fun d hd => by cases hd; exact (hg 27 rfl 118 rfl)), fun h => Bool.noConfusion (Eq.trans (Eq.symm (rfl : false = false)) h), fun _ => ⟨rfl, ?_⟩⟩
   exact ⟨LA, LB⟩
  ·intro ayJ LC ayK ayL ayM ayN ayO ayP LD ayQ hh
   obtain ⟨LE, LF⟩ := LD
   have ayR : LC 120 = undef := hh 29 rfl 120 rfl
   refine Or.inr ⟨false, (fun d hd => by cases hd; exact (hh 27 rfl 118 rfl)), fun h => Bool.noConfusion (Eq.trans (Eq.symm (rfl : false = false)) h), fun _ => ⟨rfl, ?_⟩⟩
   exact ⟨LE, LF⟩
  ·intro ayS LG ayT ayU ayV ayW ayX ayY LH ayZ hi
   obtain ⟨LI, LJ⟩ := LH
   have ay0 : LG 121 = undef := hi 30 rfl 121 rfl
   refine Or.inr ⟨false, (fun d hd => by cases hd; exact (hi 27 rfl 118 rfl)), fun h => Bool.noConfusion (Eq.trans (Eq.symm (rfl : false = false)) h), fun _ => ⟨rfl, ?_⟩⟩
   exact ⟨LI, LJ⟩
  ·intro ay1 ay2 ay3 ay4 ay5 ay6 ay7 ay8 LK ay9 LL
   obtain ⟨LM, LN⟩ := LK
   refine Or.inr ⟨false, (fun d hd => by cases hd; exact (LL 27 rfl 118 rfl)), fun h => Bool.noConfusion (Eq.trans (Eq.symm (rfl : false = false)) h), fun _ => ⟨rfl, ?_⟩⟩
   exact ⟨LM, LN⟩
  ·intro aza LO azb azc azd aze azf azg LP azh hj
   obtain ⟨LQ, LR⟩ := LP
   have azi : LO 123 = undef := hj 32 rfl 123 rfl
   refine Or.inr ⟨false, (fun d hd => by cases hd; exact (hj 27 rfl 118 rfl)), fun h => Bool.noConfusion (Eq.trans (Eq.symm (rfl : false = false)) h), fun _ => ⟨rfl, ?_⟩⟩
   exact ⟨LQ, LR⟩
  ·intro azj hk azk azl azm azn azo azp LS azq dS
   obtain ⟨LT, LU⟩ := LS
   have azr : hk 122 = undef := dS 31 rfl 122 rfl
   have azs : hk 124 = undef := dS 33 rfl 124 rfl
   refine Or.inr ⟨false, (fun d hd => by cases hd; exact (dS 27 rfl 118 rfl)), fun h => Bool.noConfusion (Eq.trans (Eq.symm (rfl : false = false)) h), fun _ => ⟨rfl, ?_⟩⟩
   exact ⟨LT, LU⟩
  ·intro azt LV azu azv azw azx azy azz LW azA hl
   obtain ⟨LX, LY⟩ := LW
   have azB : LV 125 = undef := hl 34 rfl 125 rfl
   refine r_pick_f (c := false) (.bool false) (hl 27 rfl 118 rfl) rfl rfl rfl rfl rfl ?_
   exact d0 ⟨rfl, ⟨LX, LY⟩⟩
  ·intro azC azD azE azF azG azH azI azJ LZ azK L0
   obtain ⟨L1, L2⟩ := LZ
   refine r_move (.bool false) (L0 35 rfl 126 rfl) rfl ?_
   exact d0 ⟨rfl, ⟨L1, L2⟩⟩
  ·intro azL azM azN azO azP azQ azR azS L3 azT L4
   obtain ⟨L5, L6⟩ := L3
   refine Or.inr ⟨false, (fun d hd => by cases hd; exact (L4 36 rfl 127 rfl)), fun h => Bool.noConfusion (Eq.trans (Eq.symm (rfl : false = false)) h), fun _ => ⟨rfl, ?_⟩⟩
   exact ⟨L5, L6⟩
  ·intro azU L7 azV azW azX azY azZ az0 L8 az1 hm
   obtain ⟨L9, Ma⟩ := L8
   have az2 : L7 128 = undef := hm 37 rfl 128 rfl
   refine r_pick_f (c := false) (.bool false) (hm 36 rfl 127 rfl) rfl rfl rfl rfl rfl ?_
   exact d0 ⟨rfl, ⟨L9, Ma⟩⟩
  ·intro az3 az4 az5 az6 az7 az8 az9 aAa Mb aAb Mc
   obtain ⟨Md, Me⟩ := Mb
   refine r_assign (.bool false) (Mc 38 rfl 129 rfl) rfl ?_
   exact d0 ⟨rfl, ⟨Md, Me⟩⟩
  intro aAc aAd Mf aAe Mg aAf Mh
  have Mi := ag.trans Mf
  obtain ⟨aAg, aAh⟩ := Mg
  refine j1 (jb ?_)
  obtain rfl := Option.some.inj hf
  refine ret_one (.bool false) rfl ⟨rfl, (Mh 39 6 rfl)⟩ Mi ?_
  exact (RpV.mkBool _ _)
 replace hf := onEnd_inr hf
 obtain ⟨rfl, aAi, aAj, Mj, rfl, rfl, Mk, Ml, Mm⟩ := hp
 refine j7 (j9 ?_)
 obtain rfl := Option.some.inj hf
 refine ret_one Mj rfl Ml Mk ?_
 exact Mm

end Go.Sx
