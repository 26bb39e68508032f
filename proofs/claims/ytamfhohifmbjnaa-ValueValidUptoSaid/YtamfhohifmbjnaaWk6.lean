/- Printed by dec.py. The walks. -/
import Derived.Test.YtamfhohifmbjnaaWk5
namespace Go.Sx
open Go Go.RowKit
attribute [local irreducible] Go.wpList Go.Code.wp Go.Sx.Ctr Go.Sx.CtrE
set_option maxHeartbeats 1600000
set_option maxRecDepth 100000
open Go.Proofs.Try

theorem ok_semtypelaw4_ValueValid (fuel : Nat) : S_semtypelaw4_ValueValid (semtypelaw4_ValueValid fuel) := by
 intro s0 v0 v1 v2 v3 v4 a0 a1 a2 a3 a4 r hp0 hp1 hp2 hp3 hp4 hf
 obtain ⟨A1, c2, A4, c5, A7, c8, a8, a9, rfl, h3, h6, h9, cB⟩ := Val.rpv hp0
 obtain ⟨cp, cq, rfl, dl⟩ := RpV.list hp1
 obtain rfl := RpV.int hp2
 obtain rfl := RpV.int hp3
 obtain rfl := RpV.str hp4
 unfold semtypelaw4_ValueValid at hf
 have E0 : ExtB s0.N s0 s0 := ExtB.refl _ _
 refine ctr_of 70 func3 rfl rfl rfl rfl ?_
 refine j2 (j3 ?_)
 refine r_box (B := s0.N) 1 E0.size (Val.ag a0 A1 c2 A4 c5 A7 c8 a8 a9) (Val.cs a0 A1 c2 A4 c5 A7 c8 a8 a9) rfl rfl rfl ?_
 intro _ cr aY cC
 have dm := E0.x aY
 refine r_assign (bv false) rfl rfl ?_
 refine j0 (j1 (j2 (j2 (j3 ?_))))
 refine r_load cr 0 (Val.ag a0 A1 c2 A4 c5 A7 c8 a8 a9) rfl rfl (loads_row tr27 (Blk.range cC 0 (Val.cs a0 A1 c2 A4 c5 A7 c8 a8 a9) rfl)) ?_
 obtain ⟨aV, dn, hf⟩ := bind_some hf
 refine r_call [Val.ag a0 A1 c2 A4 c5 A7 c8 a8 a9] (evs1 rfl) rfl ((ok_semtypelaw4_small fuel) _ _ _ _ (Val.rpvMk (v := a0) (h3.mono aY.wext) (h6.mono aY.wext) (h9.mono aY.wext) (cB.mono aY.wext)) dn) ?_
 intro _ _ bp dp
 have cv := dm.x bp
 obtain rfl := RpV.bool dp
 refine r_un (bv aV) (bv (!aV)) rfl rfl u_not ?_
 refine r_move (bv (!aV)) rfl rfl ?_
 refine if_else hf (fun ba hf => ?_) (fun ba hf => ?_)
 ·refine r_skip (j := 3) (want := false) (d := 19) (c := !aV) (v := true) rfl rfl ba rfl rfl ?_
  refine r_skip (j := 3) (want := false) (d := 19) (c := !aV) (v := true) rfl rfl ba rfl rfl ?_
  refine r_skip (j := 3) (want := false) (d := 19) (c := !aV) (v := true) rfl rfl ba rfl rfl ?_
  refine r_pick_t (c := !aV) (bv true) rfl ba rfl rfl rfl rfl ?_
  refine j0 (j1 ?_)
  refine c_true rfl rfl rfl ?_
  refine j2 (j3 ?_)
  obtain ⟨cD, dq, hf⟩ := bind_some hf
  refine r_call [] evs0 rfl ((ok_semtypelaw4_awake fuel) _ _  dq) ?_
  intro _ _ dr ds
  have dt := cv.x dr
  obtain rfl := RpV.bool ds
  refine r_assign (bv cD) rfl rfl ?_
  refine j0 (j1 (jb (j9 ?_)))
  obtain rfl := oi hf
  refine ret_one (bv cD) rfl ⟨rfl, rfl⟩ dt ?_
  exact (RpV.mkBool _ _)
 refine r_guard (j := 3) (want := false) (d := 19) (c := !aV) (v := false) rfl rfl ba rfl rfl ?_
 refine r_move (lv cp a1.length cq) rfl rfl ?_
 refine r_guard (j := 3) (want := false) (d := 19) (c := !aV) (v := false) rfl rfl ba rfl rfl ?_
 refine r_len cp a1.length cq rfl rfl underlying28 ?_
 refine r_guard (j := 3) (want := false) (d := 19) (c := !aV) (v := false) rfl rfl ba rfl rfl ?_
 refine r_bin (iv (a1.length : Int)) (iv 60) (bv (decide (60 < (a1.length : Int)))) rfl rfl rfl rfl (b_gtr) ?_
 refine r_pick_f (c := !aV) (bv (decide (60 < (a1.length : Int)))) rfl ba rfl rfl rfl rfl ?_
 refine j0 (j1 ?_)
 refine if_else hf (fun cw hf => ?_) (fun cw hf => ?_)
 ·refine c_true rfl cw rfl ?_
  refine j2 (j3 ?_)
  obtain ⟨cE, du, hf⟩ := bind_some hf
  refine r_call [] evs0 rfl ((ok_semtypelaw4_awake fuel) _ _  du) ?_
  intro _ _ dv dw
  have dx := cv.x dv
  obtain rfl := RpV.bool dw
  refine r_assign (bv cE) rfl rfl ?_
  refine j0 (j1 (jb (j9 ?_)))
  obtain rfl := oi hf
  refine ret_one (bv cE) rfl ⟨rfl, rfl⟩ dx ?_
  exact (RpV.mkBool _ _)
 refine c_false rfl cw rfl ?_
 refine ja (j1 (j2 (j3 ?_)))
 refine r_move (lv cp a1.length cq) rfl rfl ?_
 obtain ⟨aa, dy, hf⟩ := bind_some hf
 refine r_call [lv cp a1.length cq] (evs1 rfl) rfl ((ok_semtypelaw4_drawn fuel) _ _ _ _ (RpV.mkList ((dl.mono aY.wext).mono bp.wext)) dy) ?_
 intro _ _ bQ dz
 have cF := cv.x bQ
 obtain ⟨aF, aG, aH, aI, aJ, aK, aC, aD, rfl, b8, b9, ca, bR⟩ := Val.rpv dz
 refine r_alloc (B := s0.N) 2 cF.size _ [iv 0, iv 0, tv (⟨#[]⟩), nl Val, nl Key, nl Ent, nl ByteArray] ti27 rfl ?_
 intro _ bb an dA
 have dB := cF.x an
 refine r_store dA 0 (Val.ag aa aF aG aH aI aJ aK aC aD) (Val.cs aa aF aG aH aI aJ aK aC aD) (Val.cs aa aF aG aH aI aJ aK aC aD) rfl rfl rfl rfl rfl sz27 rfl rfl rfl ?_
 intro _ ao dC
 have bc := dB.y ao
 refine j0 (j1 (j2 ?_))
 refine wp_draw (B := frExt s0.N) (sm 27 4 ++ sm 12 4 ++ [none, none, none, none]) [[], [], [], [], [], [], [], [], [0, 4, 5, 6, 7], [0, 1, 4, 5, 6, 7, 8], [0, 1, 2, 4, 5, 6, 7, 8, 9], rg 11] [Fct.data (aa : Val), Fct.data (aa : Val), Fct.data (aa : Val), Fct.data (aa : Val), Fct.any, Fct.any, Fct.any, Fct.any, Fct.any, Fct.any, Fct.any, Fct.any] (fun D F τ => (Blk s0.N 1 τ cr 27 (Val.cs a0 A1 c2 A4 c5 A7 c8 a8 a9)) ∧ (Blk s0.N 2 τ bb 27 (Val.cs aa aF aG aH aI aJ aK aC aD)) ∧ (D 4 = true → ∃ aZ : Nat, F 12 = .pointer (some ⟨aZ, 0, none⟩) ∧ (D 8 = false → Blk s0.N 3 τ aZ 27 [iv 0, iv 0, tv (⟨#[]⟩), nl Val, nl Key, nl Ent, nl ByteArray]) ∧ (D 8 = true → (∃ (zA3 : Option Addr) (zc3 : Nat) (zA4 : Option Addr) (zc4 : Nat) (zA5 : Option Addr) (zc5 : Nat) (zA6 : Option Addr) (zc6 : Nat), Blk s0.N 3 τ aZ 27 (Val.cs aa zA3 zc3 zA4 zc4 zA5 zc5 zA6 zc6) ∧ Sl τ aa.Kids zA3 zc3 ∧ Sl τ aa.Keys zA4 zc4 ∧ Sl τ aa.Entries zA5 zc5 ∧ Sl τ aa.Labels zA6 zc6))) ∧ (D 5 = true → ∃ aW : Nat, F 13 = .pointer (some ⟨aW, 0, none⟩) ∧ (D 9 = false → Blk s0.N 4 τ aW 27 [iv 0, iv 0, tv (⟨#[]⟩), nl Val, nl Key, nl Ent, nl ByteArray]) ∧ (D 9 = true → (∃ (zA3 : Option Addr) (zc3 : Nat) (zA4 : Option Addr) (zc4 : Nat) (zA5 : Option Addr) (zc5 : Nat) (zA6 : Option Addr) (zc6 : Nat), Blk s0.N 4 τ aW 27 (Val.cs aa zA3 zc3 zA4 zc4 zA5 zc5 zA6 zc6) ∧ Sl τ aa.Kids zA3 zc3 ∧ Sl τ aa.Keys zA4 zc4 ∧ Sl τ aa.Entries zA5 zc5 ∧ Sl τ aa.Labels zA6 zc6))) ∧ (D 6 = true → ∃ aU : Nat, F 14 = .pointer (some ⟨aU, 0, none⟩) ∧ (D 10 = false → Blk s0.N 5 τ aU 27 [iv 0, iv 0, tv (⟨#[]⟩), nl Val, nl Key, nl Ent, nl ByteArray]) ∧ (D 10 = true → (∃ (zA3 : Option Addr) (zc3 : Nat) (zA4 : Option Addr) (zc4 : Nat) (zA5 : Option Addr) (zc5 : Nat) (zA6 : Option Addr) (zc6 : Nat), Blk s0.N 5 τ aU 27 (Val.cs aa zA3 zc3 zA4 zc4 zA5 zc5 zA6 zc6) ∧ Sl τ aa.Kids zA3 zc3 ∧ Sl τ aa.Keys zA4 zc4 ∧ Sl τ aa.Entries zA5 zc5 ∧ Sl τ aa.Labels zA6 zc6))) ∧ (D 7 = true → ∃ aT : Nat, F 15 = .pointer (some ⟨aT, 0, none⟩) ∧ (D 11 = false → Blk s0.N 6 τ aT 27 [iv 0, iv 0, tv (⟨#[]⟩), nl Val, nl Key, nl Ent, nl ByteArray]) ∧ (D 11 = true → (∃ (zA3 : Option Addr) (zc3 : Nat) (zA4 : Option Addr) (zc4 : Nat) (zA5 : Option Addr) (zc5 : Nat) (zA6 : Option Addr) (zc6 : Nat), Blk s0.N 6 τ aT 27 (Val.cs aa zA3 zc3 zA4 zc4 zA5 zc5 zA6 zc6) ∧ Sl τ aa.Kids zA3 zc3 ∧ Sl τ aa.Keys zA4 zc4 ∧ Sl τ aa.Entries zA5 zc5 ∧ Sl τ aa.Labels zA6 zc6)))) (by kernel_rfl) rfl (by decide) (by decide) ⟨(((((cC.ext bp).ext bQ).ext an).mod ao rfl).ext (ext_draw _)), (dC.ext (ext_draw _)), (fun h => Bool.noConfusion h), (fun h => Bool.noConfusion h), (fun h => Bool.noConfusion h), (fun h => Bool.noConfusion h)⟩ (by decide) (by decide) ⟨?_, ?_, ?_, ?_, ?_, ?_, ?_, ?_, ?_, ?_, ?_, ?_, trivial⟩ ?_
 ·intro _ _ _ _ _ _ _ ac ap au _
  obtain ⟨_, aq, _, _, _, _⟩ := id ap
  have ar := aq
  refine r_load bb 0 (Val.ag aa aF aG aH aI aJ aK aC aD) ((au 11 rfl).trans rfl) rfl (loads_row tr27 (Blk.range ar 0 (Val.cs aa aF aG aH aI aJ aK aC aD) rfl)) ?_
  exact d0 ⟨(Val.rpvMk (v := aa) (((b8.mono an.wext).mono ao.wext).mono ac) (((b9.mono an.wext).mono ao.wext).mono ac) (((ca.mono an.wext).mono ao.wext).mono ac) (((bR.mono an.wext).mono ao.wext).mono ac)), ap⟩
 ·intro _ _ _ _ _ _ _ ac ap au _
  obtain ⟨_, aq, _, _, _, _⟩ := id ap
  have ar := aq
  refine r_load bb 0 (Val.ag aa aF aG aH aI aJ aK aC aD) ((au 11 rfl).trans rfl) rfl (loads_row tr27 (Blk.range ar 0 (Val.cs aa aF aG aH aI aJ aK aC aD) rfl)) ?_
  exact d0 ⟨(Val.rpvMk (v := aa) (((b8.mono an.wext).mono ao.wext).mono ac) (((b9.mono an.wext).mono ao.wext).mono ac) (((ca.mono an.wext).mono ao.wext).mono ac) (((bR.mono an.wext).mono ao.wext).mono ac)), ap⟩
 ·intro _ _ _ _ _ _ _ ac ap au _
  obtain ⟨_, aq, _, _, _, _⟩ := id ap
  have ar := aq
  refine r_load bb 0 (Val.ag aa aF aG aH aI aJ aK aC aD) ((au 11 rfl).trans rfl) rfl (loads_row tr27 (Blk.range ar 0 (Val.cs aa aF aG aH aI aJ aK aC aD) rfl)) ?_
  exact d0 ⟨(Val.rpvMk (v := aa) (((b8.mono an.wext).mono ao.wext).mono ac) (((b9.mono an.wext).mono ao.wext).mono ac) (((ca.mono an.wext).mono ao.wext).mono ac) (((bR.mono an.wext).mono ao.wext).mono ac)), ap⟩
 ·intro _ _ _ _ _ _ _ ac ap au _
  obtain ⟨_, aq, _, _, _, _⟩ := id ap
  have ar := aq
  refine r_load bb 0 (Val.ag aa aF aG aH aI aJ aK aC aD) ((au 11 rfl).trans rfl) rfl (loads_row tr27 (Blk.range ar 0 (Val.cs aa aF aG aH aI aJ aK aC aD) rfl)) ?_
  exact d0 ⟨(Val.rpvMk (v := aa) (((b8.mono an.wext).mono ao.wext).mono ac) (((b9.mono an.wext).mono ao.wext).mono ac) (((ca.mono an.wext).mono ao.wext).mono ac) (((bR.mono an.wext).mono ao.wext).mono ac)), ap⟩
 ·intro _ _ _ _ _ ac ap _ au _ _
  have aq := bc.trans ap
  obtain ⟨ar, aL, _, aM, aN, aO⟩ := id au
  refine r_alloc (B := s0.N) 3 aq.size _ [iv 0, iv 0, tv (⟨#[]⟩), nl Val, nl Key, nl Ent, nl ByteArray] ti27 rfl ?_
  intro _ aZ ad aP
  exact d1 aq (Nat.le_refl _) ad ⟨trivial, ⟨(ar.ext ad), (aL.ext ad), (fun _ => ⟨_, rfl, (fun _ => aP), (nc (ac 8 rfl))⟩), (fun y0 => let ⟨zb_, zv, zs0, zs1⟩ := aM y0; ⟨zb_, zv, (fun y1 => ((zs0 y1).ext ad)), (nc (ac 9 rfl))⟩), (fun y0 => let ⟨zb_, zv, zs0, zs1⟩ := aN y0; ⟨zb_, zv, (fun y1 => ((zs0 y1).ext ad)), (nc (ac 10 rfl))⟩), (fun y0 => let ⟨zb_, zv, zs0, zs1⟩ := aO y0; ⟨zb_, zv, (fun y1 => ((zs0 y1).ext ad)), (nc (ac 11 rfl))⟩)⟩⟩
 ·intro _ _ _ _ _ ac ap _ au _ _
  have aq := bc.trans ap
  obtain ⟨ar, aL, aM, _, aN, aO⟩ := id au
  refine r_alloc (B := s0.N) 4 aq.size _ [iv 0, iv 0, tv (⟨#[]⟩), nl Val, nl Key, nl Ent, nl ByteArray] ti27 rfl ?_
  intro _ aW ad aP
  exact d1 aq (Nat.le_refl _) ad ⟨trivial, ⟨(ar.ext ad), (aL.ext ad), (fun y0 => let ⟨zb_, zv, zs0, zs1⟩ := aM y0; ⟨zb_, zv, (fun y1 => ((zs0 y1).ext ad)), (nc (ac 8 rfl))⟩), (fun _ => ⟨_, rfl, (fun _ => aP), (nc (ac 9 rfl))⟩), (fun y0 => let ⟨zb_, zv, zs0, zs1⟩ := aN y0; ⟨zb_, zv, (fun y1 => ((zs0 y1).ext ad)), (nc (ac 10 rfl))⟩), (fun y0 => let ⟨zb_, zv, zs0, zs1⟩ := aO y0; ⟨zb_, zv, (fun y1 => ((zs0 y1).ext ad)), (nc (ac 11 rfl))⟩)⟩⟩
 ·intro _ _ _ _ _ ac ap _ au _ _
  have aq := bc.trans ap
  obtain ⟨ar, aL, aM, aN, _, aO⟩ := id au
  refine r_alloc (B := s0.N) 5 aq.size _ [iv 0, iv 0, tv (⟨#[]⟩), nl Val, nl Key, nl Ent, nl ByteArray] ti27 rfl ?_
  intro _ aU ad aP
  exact d1 aq (Nat.le_refl _) ad ⟨trivial, ⟨(ar.ext ad), (aL.ext ad), (fun y0 => let ⟨zb_, zv, zs0, zs1⟩ := aM y0; ⟨zb_, zv, (fun y1 => ((zs0 y1).ext ad)), (nc (ac 8 rfl))⟩), (fun y0 => let ⟨zb_, zv, zs0, zs1⟩ := aN y0; ⟨zb_, zv, (fun y1 => ((zs0 y1).ext ad)), (nc (ac 9 rfl))⟩), (fun _ => ⟨_, rfl, (fun _ => aP), (nc (ac 10 rfl))⟩), (fun y0 => let ⟨zb_, zv, zs0, zs1⟩ := aO y0; ⟨zb_, zv, (fun y1 => ((zs0 y1).ext ad)), (nc (ac 11 rfl))⟩)⟩⟩
 ·intro _ _ _ _ _ ac ap _ au _ _
  have aq := bc.trans ap
  obtain ⟨ar, aL, aM, aN, aO, _⟩ := id au
  refine r_alloc (B := s0.N) 6 aq.size _ [iv 0, iv 0, tv (⟨#[]⟩), nl Val, nl Key, nl Ent, nl ByteArray] ti27 rfl ?_
  intro _ aT ad aP
  exact d1 aq (Nat.le_refl _) ad ⟨trivial, ⟨(ar.ext ad), (aL.ext ad), (fun y0 => let ⟨zb_, zv, zs0, zs1⟩ := aM y0; ⟨zb_, zv, (fun y1 => ((zs0 y1).ext ad)), (nc (ac 8 rfl))⟩), (fun y0 => let ⟨zb_, zv, zs0, zs1⟩ := aN y0; ⟨zb_, zv, (fun y1 => ((zs0 y1).ext ad)), (nc (ac 9 rfl))⟩), (fun y0 => let ⟨zb_, zv, zs0, zs1⟩ := aO y0; ⟨zb_, zv, (fun y1 => ((zs0 y1).ext ad)), (nc (ac 10 rfl))⟩), (fun _ => ⟨_, rfl, (fun _ => aP), (nc (ac 11 rfl))⟩)⟩⟩
 ·intro _ ac ap au aq ar aL _ aM _ aN
  have aO := bc.trans aL
  obtain ⟨ad, aP, bq, br, bs, bi⟩ := id aM
  obtain ⟨aZ, a5, bt, _⟩ := bq (aq 4 rfl)
  have bu := bt au
  have a6 : RpV ap (aa : Val) (ac 27) := aN 0 rfl 27 rfl
  obtain ⟨av, aw, ax, ay, az, aA, aB, aE, bw, bx, bz, bA, aj⟩ := Val.rpv a6
  refine r_store bu 0 (Val.ag aa av aw ax ay az aA aB aE) (Val.cs aa av aw ax ay az aA aB aE) (Val.cs aa av aw ax ay az aA aB aE) a5 bw rfl rfl rfl sz27 rfl rfl rfl ?_
  intro _ ab cb
  refine j0 ?_
  exact ⟨_, _, rfl, rfl, (ExtB.refl _ _).trans ((ExtB.refl _ _).mod aO.size ab), (Wext.refl _).trans ab.wext, trivial, ⟨(ad.mod ab rfl), (aP.mod ab rfl), (fun _ => ⟨aZ, a5, (fun h => Bool.noConfusion h), (fun _ => ⟨av, aw, ax, ay, az, aA, aB, aE, cb, (bx.mono ab.wext), (bz.mono ab.wext), (bA.mono ab.wext), (aj.mono ab.wext)⟩)⟩), (fun y0 => let ⟨zb_, zv, zs0, zs1⟩ := br y0; ⟨zb_, zv, (fun y1 => ((zs0 y1).mod ab rfl)), (nc (ar 9 rfl))⟩), (fun y0 => let ⟨zb_, zv, zs0, zs1⟩ := bs y0; ⟨zb_, zv, (fun y1 => ((zs0 y1).mod ab rfl)), (nc (ar 10 rfl))⟩), (fun y0 => let ⟨zb_, zv, zs0, zs1⟩ := bi y0; ⟨zb_, zv, (fun y1 => ((zs0 y1).mod ab rfl)), (nc (ar 11 rfl))⟩)⟩⟩
 ·intro _ ac ap au aq ar aL _ aM _ aN
  have aO := bc.trans aL
  obtain ⟨ad, aP, bq, br, bs, bi⟩ := id aM
  obtain ⟨aW, a5, bt, _⟩ := br (aq 5 rfl)
  have bu := bt au
  have a6 : RpV ap (aa : Val) (ac 28) := aN 1 rfl 28 rfl
  obtain ⟨av, aw, ax, ay, az, aA, aB, aE, bw, bx, bz, bA, aj⟩ := Val.rpv a6
  refine r_store bu 0 (Val.ag aa av aw ax ay az aA aB aE) (Val.cs aa av aw ax ay az aA aB aE) (Val.cs aa av aw ax ay az aA aB aE) a5 bw rfl rfl rfl sz27 rfl rfl rfl ?_
  intro _ ab cb
  refine j0 ?_
  exact ⟨_, _, rfl, rfl, (ExtB.refl _ _).trans ((ExtB.refl _ _).mod aO.size ab), (Wext.refl _).trans ab.wext, trivial, ⟨(ad.mod ab rfl), (aP.mod ab rfl), (fun y0 => let ⟨zb_, zv, zs0, zs1⟩ := bq y0; ⟨zb_, zv, (fun y1 => ((zs0 y1).mod ab rfl)), (fun y1 => (let ⟨zA0, zc0, zA1, zc1, zA2, zc2, zA3, zc3, zb, zf0, zf1, zf2, zf3⟩ := (zs1 y1); ⟨zA0, zc0, zA1, zc1, zA2, zc2, zA3, zc3, (zb.mod ab rfl), (zf0.mono ab.wext), (zf1.mono ab.wext), (zf2.mono ab.wext), (zf3.mono ab.wext)⟩))⟩), (fun _ => ⟨aW, a5, (fun h => Bool.noConfusion h), (fun _ => ⟨av, aw, ax, ay, az, aA, aB, aE, cb, (bx.mono ab.wext), (bz.mono ab.wext), (bA.mono ab.wext), (aj.mono ab.wext)⟩)⟩), (fun y0 => let ⟨zb_, zv, zs0, zs1⟩ := bs y0; ⟨zb_, zv, (fun y1 => ((zs0 y1).mod ab rfl)), (nc (ar 10 rfl))⟩), (fun y0 => let ⟨zb_, zv, zs0, zs1⟩ := bi y0; ⟨zb_, zv, (fun y1 => ((zs0 y1).mod ab rfl)), (nc (ar 11 rfl))⟩)⟩⟩
 ·intro _ ac ap au aq ar aL _ aM _ aN
  have aO := bc.trans aL
  obtain ⟨ad, aP, bq, br, bs, bi⟩ := id aM
  obtain ⟨aU, a5, bt, _⟩ := bs (aq 6 rfl)
  have bu := bt au
  have a6 : RpV ap (aa : Val) (ac 29) := aN 2 rfl 29 rfl
  obtain ⟨av, aw, ax, ay, az, aA, aB, aE, bw, bx, bz, bA, aj⟩ := Val.rpv a6
  refine r_store bu 0 (Val.ag aa av aw ax ay az aA aB aE) (Val.cs aa av aw ax ay az aA aB aE) (Val.cs aa av aw ax ay az aA aB aE) a5 bw rfl rfl rfl sz27 rfl rfl rfl ?_
  intro _ ab cb
  refine j0 ?_
  exact ⟨_, _, rfl, rfl, (ExtB.refl _ _).trans ((ExtB.refl _ _).mod aO.size ab), (Wext.refl _).trans ab.wext, trivial, ⟨(ad.mod ab rfl), (aP.mod ab rfl), (fun y0 => let ⟨zb_, zv, zs0, zs1⟩ := bq y0; ⟨zb_, zv, (fun y1 => ((zs0 y1).mod ab rfl)), (fun y1 => (let ⟨zA0, zc0, zA1, zc1, zA2, zc2, zA3, zc3, zb, zf0, zf1, zf2, zf3⟩ := (zs1 y1); ⟨zA0, zc0, zA1, zc1, zA2, zc2, zA3, zc3, (zb.mod ab rfl), (zf0.mono ab.wext), (zf1.mono ab.wext), (zf2.mono ab.wext), (zf3.mono ab.wext)⟩))⟩), (fun y0 => let ⟨zb_, zv, zs0, zs1⟩ := br y0; ⟨zb_, zv, (fun y1 => ((zs0 y1).mod ab rfl)), (fun y1 => (let ⟨zA0, zc0, zA1, zc1, zA2, zc2, zA3, zc3, zb, zf0, zf1, zf2, zf3⟩ := (zs1 y1); ⟨zA0, zc0, zA1, zc1, zA2, zc2, zA3, zc3, (zb.mod ab rfl), (zf0.mono ab.wext), (zf1.mono ab.wext), (zf2.mono ab.wext), (zf3.mono ab.wext)⟩))⟩), (fun _ => ⟨aU, a5, (fun h => Bool.noConfusion h), (fun _ => ⟨av, aw, ax, ay, az, aA, aB, aE, cb, (bx.mono ab.wext), (bz.mono ab.wext), (bA.mono ab.wext), (aj.mono ab.wext)⟩)⟩), (fun y0 => let ⟨zb_, zv, zs0, zs1⟩ := bi y0; ⟨zb_, zv, (fun y1 => ((zs0 y1).mod ab rfl)), (nc (ar 11 rfl))⟩)⟩⟩
 ·intro _ ac ap au aq _ ar _ aL _ aM
  have aN := bc.trans ar
  obtain ⟨aO, ad, aP, bq, br, bs⟩ := id aL
  obtain ⟨aT, bi, a5, _⟩ := bs (aq 7 rfl)
  have bt := a5 au
  have bu : RpV ap (aa : Val) (ac 30) := aM 3 rfl 30 rfl
  obtain ⟨a6, av, aw, ax, ay, az, aA, aB, aE, bw, bx, bz, bA⟩ := Val.rpv bu
  refine r_store bt 0 (Val.ag aa a6 av aw ax ay az aA aB) (Val.cs aa a6 av aw ax ay az aA aB) (Val.cs aa a6 av aw ax ay az aA aB) bi aE rfl rfl rfl sz27 rfl rfl rfl ?_
  intro _ aj ab
  refine j0 ?_
  exact ⟨_, _, rfl, rfl, (ExtB.refl _ _).trans ((ExtB.refl _ _).mod aN.size aj), (Wext.refl _).trans aj.wext, trivial, ⟨(aO.mod aj rfl), (ad.mod aj rfl), (fun y0 => let ⟨zb_, zv, zs0, zs1⟩ := aP y0; ⟨zb_, zv, (fun y1 => ((zs0 y1).mod aj rfl)), (fun y1 => (let ⟨zA0, zc0, zA1, zc1, zA2, zc2, zA3, zc3, zb, zf0, zf1, zf2, zf3⟩ := (zs1 y1); ⟨zA0, zc0, zA1, zc1, zA2, zc2, zA3, zc3, (zb.mod aj rfl), (zf0.mono aj.wext), (zf1.mono aj.wext), (zf2.mono aj.wext), (zf3.mono aj.wext)⟩))⟩), (fun y0 => let ⟨zb_, zv, zs0, zs1⟩ := bq y0; ⟨zb_, zv, (fun y1 => ((zs0 y1).mod aj rfl)), (fun y1 => (let ⟨zA0, zc0, zA1, zc1, zA2, zc2, zA3, zc3, zb, zf0, zf1, zf2, zf3⟩ := (zs1 y1); ⟨zA0, zc0, zA1, zc1, zA2, zc2, zA3, zc3, (zb.mod aj rfl), (zf0.mono aj.wext), (zf1.mono aj.wext), (zf2.mono aj.wext), (zf3.mono aj.wext)⟩))⟩), (fun y0 => let ⟨zb_, zv, zs0, zs1⟩ := br y0; ⟨zb_, zv, (fun y1 => ((zs0 y1).mod aj rfl)), (fun y1 => (let ⟨zA0, zc0, zA1, zc1, zA2, zc2, zA3, zc3, zb, zf0, zf1, zf2, zf3⟩ := (zs1 y1); ⟨zA0, zc0, zA1, zc1, zA2, zc2, zA3, zc3, (zb.mod aj rfl), (zf0.mono aj.wext), (zf1.mono aj.wext), (zf2.mono aj.wext), (zf3.mono aj.wext)⟩))⟩), (fun _ => ⟨aT, bi, (fun h => Bool.noConfusion h), (fun _ => ⟨a6, av, aw, ax, ay, az, aA, aB, ab, (bw.mono aj.wext), (bx.mono aj.wext), (bz.mono aj.wext), (bA.mono aj.wext)⟩)⟩)⟩⟩
 intro cc _ dD bd dE cd _
 have dF := bc.trans dD
 obtain ⟨dG, dH, dI, dJ, dK, dL⟩ := dE
 have dM := dG
 have cG := dH
 obtain ⟨aZ, cH, _, dN⟩ := dI rfl
 obtain ⟨ce, cf, cg, ch, ci, cj, ck, cl, dO, dP, dQ, dR, dS⟩ := dN rfl
 obtain ⟨aW, cI, _, dT⟩ := dJ rfl
 obtain ⟨bS, bT, bU, bV, bW, bX, bY, bZ, dU, dV, dW, dX, dY⟩ := dT rfl
 obtain ⟨aU, cJ, _, dZ⟩ := dK rfl
 obtain ⟨bB, bC, bD, bE, bF, bG, bH, bI, d2, d3, d4, d5, d6⟩ := dZ rfl
 obtain ⟨aT, cK, _, d7⟩ := dL rfl
 obtain ⟨bj, bk, bl, bm, bn, bo, _, _, d8, d9, ea, eb, _⟩ := d7 rfl
 have ec : cc 2 = (iv a2) := (cd 2 rfl).trans rfl
 have ed : cc 3 = (iv a3) := (cd 3 rfl).trans rfl
 have cL : cc 4 = (tv a4) := (cd 4 rfl).trans rfl
 have ee : cc 5 = (.pointer (some ⟨cr, 0, none⟩)) := (cd 5 rfl).trans rfl
 have cM : cc 11 = (.pointer (some ⟨bb, 0, none⟩)) := (cd 11 rfl).trans rfl
 refine j1 (j2 (j3 ?_))
 refine r_move (iv a2) ec rfl ?_
 refine r_fieldAddr aZ 0 0 0 cH rfl fo27_0 rfl ?_
 refine r_store dO 0 (iv a2) [iv a2] [iv a2, iv aa.Int_, tv aa.Text, lv ce aa.Kids.length cf, lv cg aa.Keys.length ch, lv ci aa.Entries.length cj, lv ck aa.Labels.length cl] rfl rfl rfl rfl rfl sz3 rfl rfl rfl ?_
 intro _ al cN
 have ef := dF.y al
 refine j0 (j1 (j2 (j3 ?_)))
 refine r_move (iv a3) ed rfl ?_
 refine r_fieldAddr aW 0 1 1 cI rfl fo27_1 rfl ?_
 refine r_store (dU.mod al rfl) 1 (iv a3) [iv a3] [iv aa.Kind, iv a3, tv aa.Text, lv bS aa.Kids.length bT, lv bU aa.Keys.length bV, lv bW aa.Entries.length bX, lv bY aa.Labels.length bZ] rfl rfl rfl rfl rfl sz2 rfl rfl rfl ?_
 intro _ ak cO
 have eg := ef.y ak
 refine j0 (j1 (j2 (j3 ?_)))
 refine r_move (tv a4) cL rfl ?_
 refine r_fieldAddr aU 0 2 2 cJ rfl fo27_2 rfl ?_
 refine r_store ((d2.mod al rfl).mod ak rfl) 2 (tv a4) [tv a4] [iv aa.Kind, iv aa.Int_, tv a4, lv bB aa.Kids.length bC, lv bD aa.Keys.length bE, lv bF aa.Entries.length bG, lv bH aa.Labels.length bI] rfl rfl rfl rfl rfl sz9 rfl rfl rfl ?_
 intro _ ag cP
 have cQ := eg.y ag
 refine j0 (j1 (j2 (j3 ?_)))
 refine r_fieldAddr bb 0 6 6 cM rfl fo27_6 rfl ?_
 refine r_load bb 6 (lv aC aa.Labels.length aD) rfl rfl (loads_one to25 (((((cG.mod al rfl).mod ak rfl).mod ag rfl).cell 6).trans rfl)) ?_
 obtain ⟨_, eh, hf⟩ := bind_some hf
 refine r_append (B := s0.N) (id := 7) (E := 9) (xs := ([] : List ByteArray)) (ys := aa.Labels) cQ.size (Own.nil_ _) ((((((bR.mono an.wext).mono ao.wext).mono bd).mono al.wext).mono ak.wext).mono ag.wext) ts25 (room_some eh) rfl rfl rfl rfl ?_
 intro _ _ _ ah ei
 have cR := cQ.y ah
 refine r_move (tv a4) cL rfl ?_
 refine r_buildSlice (B := s0.N) (E := 9) 8 cR.size ts25 (xs := [a4]) [tv a4] (eps_cons rfl eps_nil) rfl rfl rfl (by decide) rfl (by simp [Value.cells, Rp.sz]) ⟨_, _, rfl, rfl, rfl⟩ ?_
 intro _ _ _ ae ej
 have cS := cR.x ae
 obtain ⟨_, ek, hf⟩ := bind_some hf
 refine r_append (B := s0.N) (id := 7) (E := 9) (xs := aa.Labels) (ys := [a4]) cS.size ((ei.ext ae)) ej.sl ts25 (room_some ek) rfl rfl rfl rfl ?_
 intro _ aR aS ai cT
 have el := cS.y ai
 refine r_fieldAddr aT 0 6 6 cK rfl fo27_6 rfl ?_
 refine r_store ((((((d8.mod al rfl).mod ak rfl).mod ag rfl).mod ah rfl).ext ae).mod ai rfl) 6 (lv aR (aa.Labels ++ [a4]).length aS) [lv aR (aa.Labels ++ [a4]).length aS] [iv aa.Kind, iv aa.Int_, tv aa.Text, lv bj aa.Kids.length bk, lv bl aa.Keys.length bm, lv bn aa.Entries.length bo, lv aR (aa.Labels ++ [a4]).length aS] rfl rfl rfl rfl rfl sz25 rfl rfl rfl ?_
 intro _ af cU
 have em := el.y af
 refine j0 (j1 (j2 (j3 ?_)))
 refine r_load bb 0 (Val.ag aa aF aG aH aI aJ aK aC aD) cM rfl (loads_row tr27 (Blk.range (((((((cG.mod al rfl).mod ak rfl).mod ag rfl).mod ah rfl).ext ae).mod ai rfl).mod af rfl) 0 (Val.cs aa aF aG aH aI aJ aK aC aD) rfl)) ?_
 obtain ⟨a7, en, hf⟩ := bind_some hf
 refine r_call [Val.ag aa aF aG aH aI aJ aK aC aD] (evs1 rfl) rfl ((ok_value_Validate fuel) _ _ _ _ (Val.rpvMk (v := aa) ((((((((((b8.mono an.wext).mono ao.wext).mono bd).mono al.wext).mono ak.wext).mono ag.wext).mono ah.wext).mono ae.wext).mono ai.wext).mono af.wext) ((((((((((b9.mono an.wext).mono ao.wext).mono bd).mono al.wext).mono ak.wext).mono ag.wext).mono ah.wext).mono ae.wext).mono ai.wext).mono af.wext) ((((((((((ca.mono an.wext).mono ao.wext).mono bd).mono al.wext).mono ak.wext).mono ag.wext).mono ah.wext).mono ae.wext).mono ai.wext).mono af.wext) ((((((((((bR.mono an.wext).mono ao.wext).mono bd).mono al.wext).mono ak.wext).mono ag.wext).mono ah.wext).mono ae.wext).mono ai.wext).mono af.wext)) en) ?_
 intro _ eo am ep
 have cV := em.x am
 obtain rfl := RpV.int ep
 refine r_bin (iv a7) (iv 0) (bv (a7 == 0)) rfl rfl rfl rfl (b_eql) ?_
 refine r_move (bv (a7 == 0)) rfl rfl ?_
 refine gen_FL fun cW b0 => ?_
 have eq := (b0 5).trans ee
 have er := (b0 12).trans cH
 have es := (b0 13).trans cI
 have et := (b0 14).trans cJ
 have eu := (b0 15).trans cK
 have b1 : cW 47 = (bv (a7 == 0)) := (b0 47).trans rfl
 obtain ⟨be, hq542, hf⟩ := bind_some hf
 refine wpl_take 3 (J := fun a w => ∃ (F : Fr) (τ : S), a = fr 70 F ∧ w = τ.w ∧ Agr [48, 49, 50] F cW ∧ ExtB s0.N s0 τ ∧ Wext eo τ ∧ F 50 = (bv be) ∧ Blk s0.N 3 τ aZ 27 [iv a2, iv aa.Int_, tv aa.Text, lv ce aa.Kids.length cf, lv cg aa.Keys.length ch, lv ci aa.Entries.length cj, lv ck aa.Labels.length cl] ∧ Blk s0.N 4 τ aW 27 [iv aa.Kind, iv a3, tv aa.Text, lv bS aa.Kids.length bT, lv bU aa.Keys.length bV, lv bW aa.Entries.length bX, lv bY aa.Labels.length bZ] ∧ Blk s0.N 5 τ aU 27 [iv aa.Kind, iv aa.Int_, tv a4, lv bB aa.Kids.length bC, lv bD aa.Keys.length bE, lv bF aa.Entries.length bG, lv bH aa.Labels.length bI] ∧ Blk s0.N 6 τ aT 27 [iv aa.Kind, iv aa.Int_, tv aa.Text, lv bj aa.Kids.length bk, lv bl aa.Keys.length bm, lv bn aa.Entries.length bo, lv aR (aa.Labels ++ [a4]).length aS] ∧ Own s0.N 7 9 τ (aa.Labels ++ [a4]) aR aS) ?_ ?_
 ·have hf := hq542
  refine if_else hf (fun bJ hf => ?_) (fun bJ hf => ?_)
  ·refine r_guard (j := 3) (want := true) (d := 47) (c := (a7 == 0)) (v := true) rfl b1 bJ rfl rfl ?_
   refine r_load cr 0 (Val.ag a0 A1 c2 A4 c5 A7 c8 a8 a9) eq rfl (loads_row tr27 (Blk.range ((((((((dM.mod al rfl).mod ak rfl).mod ag rfl).mod ah rfl).ext ae).mod ai rfl).mod af rfl).ext am) 0 (Val.cs a0 A1 c2 A4 c5 A7 c8 a8 a9) rfl)) ?_
   refine r_guard (j := 3) (want := true) (d := 47) (c := (a7 == 0)) (v := true) rfl b1 bJ rfl rfl ?_
   obtain ⟨ev, ew, hf⟩ := bind_some hf
   refine r_call [Val.ag a0 A1 c2 A4 c5 A7 c8 a8 a9] (evs1 rfl) rfl ((ok_semtypelaw4_judged fuel) _ _ _ _ (Val.rpvMk (v := a0) ((((((((((((((h3.mono aY.wext).mono bp.wext).mono bQ.wext).mono an.wext).mono ao.wext).mono bd).mono al.wext).mono ak.wext).mono ag.wext).mono ah.wext).mono ae.wext).mono ai.wext).mono af.wext).mono am.wext) ((((((((((((((h6.mono aY.wext).mono bp.wext).mono bQ.wext).mono an.wext).mono ao.wext).mono bd).mono al.wext).mono ak.wext).mono ag.wext).mono ah.wext).mono ae.wext).mono ai.wext).mono af.wext).mono am.wext) ((((((((((((((h9.mono aY.wext).mono bp.wext).mono bQ.wext).mono an.wext).mono ao.wext).mono bd).mono al.wext).mono ak.wext).mono ag.wext).mono ah.wext).mono ae.wext).mono ai.wext).mono af.wext).mono am.wext) ((((((((((((((cB.mono aY.wext).mono bp.wext).mono bQ.wext).mono an.wext).mono ao.wext).mono bd).mono al.wext).mono ak.wext).mono ag.wext).mono ah.wext).mono ae.wext).mono ai.wext).mono af.wext).mono am.wext)) ew) ?_
   intro _ _ bK ex
   have ey := cV.x bK
   obtain rfl := RpV.bool ex
   refine r_pick_t (c := (a7 == 0)) (bv ev) b1 bJ rfl rfl rfl rfl ?_
   refine j0 ?_
   obtain rfl := oi hf
   exact ⟨rfl, _, _, rfl, rfl, ((((Agr.refl _ _).put rfl).put rfl).put rfl), ey, ((Wext.refl _).trans bK.wext), rfl, ((((((((cN.mod ak rfl).mod ag rfl).mod ah rfl).ext ae).mod ai rfl).mod af rfl).ext am).ext bK), (((((((cO.mod ag rfl).mod ah rfl).ext ae).mod ai rfl).mod af rfl).ext am).ext bK), ((((((cP.mod ah rfl).ext ae).mod ai rfl).mod af rfl).ext am).ext bK), ((cU.ext am).ext bK), (((cT.mod af rfl).ext am).ext bK)⟩
  refine r_skip (j := 3) (want := true) (d := 47) (c := (a7 == 0)) (v := false) rfl b1 bJ rfl rfl ?_
  refine r_skip (j := 3) (want := true) (d := 47) (c := (a7 == 0)) (v := false) rfl b1 bJ rfl rfl ?_
  refine r_pick_f (c := (a7 == 0)) (bv false) b1 bJ rfl rfl rfl rfl ?_
  refine j0 ?_
  obtain rfl := oi hf
  exact ⟨rfl, _, _, rfl, rfl, ((((Agr.refl _ _).put rfl).put rfl).put rfl), cV, (Wext.refl _), rfl, (((((((cN.mod ak rfl).mod ag rfl).mod ah rfl).ext ae).mod ai rfl).mod af rfl).ext am), ((((((cO.mod ag rfl).mod ah rfl).ext ae).mod ai rfl).mod af rfl).ext am), (((((cP.mod ah rfl).ext ae).mod ai rfl).mod af rfl).ext am), (cU.ext am), ((cT.mod af rfl).ext am)⟩
 rintro a w ⟨fu, ez, rfl, rfl, cs, cX, aQ, eA, eB, cY, cZ, c0, c1⟩
 have eC := (cs 12 rfl).trans er
 have eD := (cs 13 rfl).trans es
 have eE := (cs 14 rfl).trans et
 have eF := (cs 15 rfl).trans eu
 refine r_move (bv be) eA rfl ?_
 refine gen_FL fun c3 cm => ?_
 have eG := (cm 12).trans eC
 have eH := (cm 13).trans eD
 have eI := (cm 14).trans eE
 have eJ := (cm 15).trans eF
 have b2 : c3 51 = (bv be) := (cm 51).trans rfl
 obtain ⟨bf, hq574, hf⟩ := bind_some hf
 refine wpl_take 3 (J := fun a w => ∃ (F : Fr) (τ : S), a = fr 70 F ∧ w = τ.w ∧ Agr [52, 53, 54] F c3 ∧ ExtB s0.N s0 τ ∧ Wext ez τ ∧ F 54 = (bv bf) ∧ Blk s0.N 4 τ aW 27 [iv aa.Kind, iv a3, tv aa.Text, lv bS aa.Kids.length bT, lv bU aa.Keys.length bV, lv bW aa.Entries.length bX, lv bY aa.Labels.length bZ] ∧ Blk s0.N 5 τ aU 27 [iv aa.Kind, iv aa.Int_, tv a4, lv bB aa.Kids.length bC, lv bD aa.Keys.length bE, lv bF aa.Entries.length bG, lv bH aa.Labels.length bI] ∧ Blk s0.N 6 τ aT 27 [iv aa.Kind, iv aa.Int_, tv aa.Text, lv bj aa.Kids.length bk, lv bl aa.Keys.length bm, lv bn aa.Entries.length bo, lv aR (aa.Labels ++ [a4]).length aS] ∧ Own s0.N 7 9 τ (aa.Labels ++ [a4]) aR aS) ?_ ?_
 ·have hf := hq574
  refine if_else hf (fun bL hf => ?_) (fun bL hf => ?_)
  ·refine r_guard (j := 7) (want := true) (d := 51) (c := be) (v := true) rfl b2 bL rfl rfl ?_
   refine r_load aZ 0 (.agg #[iv a2, iv aa.Int_, tv aa.Text, lv ce aa.Kids.length cf, lv cg aa.Keys.length ch, lv ci aa.Entries.length cj, lv ck aa.Labels.length cl]) eG rfl (loads_row tr27 (Blk.range eB 0 [iv a2, iv aa.Int_, tv aa.Text, lv ce aa.Kids.length cf, lv cg aa.Keys.length ch, lv ci aa.Entries.length cj, lv ck aa.Labels.length cl] rfl)) ?_
   refine r_guard (j := 7) (want := true) (d := 51) (c := be) (v := true) rfl b2 bL rfl rfl ?_
   obtain ⟨eK, eL, hf⟩ := bind_some hf
   refine r_call [.agg #[iv a2, iv aa.Int_, tv aa.Text, lv ce aa.Kids.length cf, lv cg aa.Keys.length ch, lv ci aa.Entries.length cj, lv ck aa.Labels.length cl]] (evs1 rfl) rfl ((ok_semtypelaw4_judged fuel) _ _ _ _ (Val.rpvMk (v := (Val.mk a2 aa.Int_ aa.Text aa.Kids aa.Keys aa.Entries aa.Labels)) (((((((((dP.mono al.wext).mono ak.wext).mono ag.wext).mono ah.wext).mono ae.wext).mono ai.wext).mono af.wext).mono am.wext).mono aQ) (((((((((dQ.mono al.wext).mono ak.wext).mono ag.wext).mono ah.wext).mono ae.wext).mono ai.wext).mono af.wext).mono am.wext).mono aQ) (((((((((dR.mono al.wext).mono ak.wext).mono ag.wext).mono ah.wext).mono ae.wext).mono ai.wext).mono af.wext).mono am.wext).mono aQ) (((((((((dS.mono al.wext).mono ak.wext).mono ag.wext).mono ah.wext).mono ae.wext).mono ai.wext).mono af.wext).mono am.wext).mono aQ)) eL) ?_
   intro _ _ b3 eM
   have eN := cX.x b3
   obtain rfl := RpV.bool eM
   refine r_pick_t (c := be) (bv eK) b2 bL rfl rfl rfl rfl ?_
   refine j0 ?_
   obtain rfl := oi hf
   exact ⟨rfl, _, _, rfl, rfl, ((((Agr.refl _ _).put rfl).put rfl).put rfl), eN, ((Wext.refl _).trans b3.wext), rfl, (cY.ext b3), (cZ.ext b3), (c0.ext b3), (c1.ext b3)⟩
  refine r_skip (j := 7) (want := true) (d := 51) (c := be) (v := false) rfl b2 bL rfl rfl ?_
  refine r_skip (j := 7) (want := true) (d := 51) (c := be) (v := false) rfl b2 bL rfl rfl ?_
  refine r_pick_f (c := be) (bv false) b2 bL rfl rfl rfl rfl ?_
  refine j0 ?_
  obtain rfl := oi hf
  exact ⟨rfl, _, _, rfl, rfl, ((((Agr.refl _ _).put rfl).put rfl).put rfl), cX, (Wext.refl _), rfl, cY, cZ, c0, c1⟩
 rintro a w ⟨fv, eO, rfl, rfl, cx, c4, aX, eP, eQ, c6, c7, c9⟩
 have eR := (cx 13 rfl).trans eH
 have eS := (cx 14 rfl).trans eI
 have eT := (cx 15 rfl).trans eJ
 refine r_move (bv bf) eP rfl ?_
 refine gen_FL fun da ct => ?_
 have eU := (ct 13).trans eR
 have eV := (ct 14).trans eS
 have eW := (ct 15).trans eT
 have b4 : da 55 = (bv bf) := (ct 55).trans rfl
 obtain ⟨bg, hq603, hf⟩ := bind_some hf
 refine wpl_take 3 (J := fun a w => ∃ (F : Fr) (τ : S), a = fr 70 F ∧ w = τ.w ∧ Agr [56, 57, 58] F da ∧ ExtB s0.N s0 τ ∧ Wext eO τ ∧ F 58 = (bv bg) ∧ Blk s0.N 5 τ aU 27 [iv aa.Kind, iv aa.Int_, tv a4, lv bB aa.Kids.length bC, lv bD aa.Keys.length bE, lv bF aa.Entries.length bG, lv bH aa.Labels.length bI] ∧ Blk s0.N 6 τ aT 27 [iv aa.Kind, iv aa.Int_, tv aa.Text, lv bj aa.Kids.length bk, lv bl aa.Keys.length bm, lv bn aa.Entries.length bo, lv aR (aa.Labels ++ [a4]).length aS] ∧ Own s0.N 7 9 τ (aa.Labels ++ [a4]) aR aS) ?_ ?_
 ·have hf := hq603
  refine if_else hf (fun bM hf => ?_) (fun bM hf => ?_)
  ·refine r_guard (j := 11) (want := true) (d := 55) (c := bf) (v := true) rfl b4 bM rfl rfl ?_
   refine r_load aW 0 (.agg #[iv aa.Kind, iv a3, tv aa.Text, lv bS aa.Kids.length bT, lv bU aa.Keys.length bV, lv bW aa.Entries.length bX, lv bY aa.Labels.length bZ]) eU rfl (loads_row tr27 (Blk.range eQ 0 [iv aa.Kind, iv a3, tv aa.Text, lv bS aa.Kids.length bT, lv bU aa.Keys.length bV, lv bW aa.Entries.length bX, lv bY aa.Labels.length bZ] rfl)) ?_
   refine r_guard (j := 11) (want := true) (d := 55) (c := bf) (v := true) rfl b4 bM rfl rfl ?_
   obtain ⟨eX, eY, hf⟩ := bind_some hf
   refine r_call [.agg #[iv aa.Kind, iv a3, tv aa.Text, lv bS aa.Kids.length bT, lv bU aa.Keys.length bV, lv bW aa.Entries.length bX, lv bY aa.Labels.length bZ]] (evs1 rfl) rfl ((ok_semtypelaw4_judged fuel) _ _ _ _ (Val.rpvMk (v := (Val.mk aa.Kind a3 aa.Text aa.Kids aa.Keys aa.Entries aa.Labels)) ((((((((((dV.mono al.wext).mono ak.wext).mono ag.wext).mono ah.wext).mono ae.wext).mono ai.wext).mono af.wext).mono am.wext).mono aQ).mono aX) ((((((((((dW.mono al.wext).mono ak.wext).mono ag.wext).mono ah.wext).mono ae.wext).mono ai.wext).mono af.wext).mono am.wext).mono aQ).mono aX) ((((((((((dX.mono al.wext).mono ak.wext).mono ag.wext).mono ah.wext).mono ae.wext).mono ai.wext).mono af.wext).mono am.wext).mono aQ).mono aX) ((((((((((dY.mono al.wext).mono ak.wext).mono ag.wext).mono ah.wext).mono ae.wext).mono ai.wext).mono af.wext).mono am.wext).mono aQ).mono aX)) eY) ?_
   intro _ _ cn eZ
   have e0 := c4.x cn
   obtain rfl := RpV.bool eZ
   refine r_pick_t (c := bf) (bv eX) b4 bM rfl rfl rfl rfl ?_
   refine j0 ?_
   obtain rfl := oi hf
   exact ⟨rfl, _, _, rfl, rfl, ((((Agr.refl _ _).put rfl).put rfl).put rfl), e0, ((Wext.refl _).trans cn.wext), rfl, (c6.ext cn), (c7.ext cn), (c9.ext cn)⟩
  refine r_skip (j := 11) (want := true) (d := 55) (c := bf) (v := false) rfl b4 bM rfl rfl ?_
  refine r_skip (j := 11) (want := true) (d := 55) (c := bf) (v := false) rfl b4 bM rfl rfl ?_
  refine r_pick_f (c := bf) (bv false) b4 bM rfl rfl rfl rfl ?_
  refine j0 ?_
  obtain rfl := oi hf
  exact ⟨rfl, _, _, rfl, rfl, ((((Agr.refl _ _).put rfl).put rfl).put rfl), c4, (Wext.refl _), rfl, c6, c7, c9⟩
 rintro a w ⟨fw, e1, rfl, rfl, db, dc, bN, e2, e3, dd, de⟩
 have e4 := (db 14 rfl).trans eV
 have e5 := (db 15 rfl).trans eW
 refine r_move (bv bg) e2 rfl ?_
 refine gen_FL fun df cy => ?_
 have e6 := (cy 14).trans e4
 have e7 := (cy 15).trans e5
 have b5 : df 59 = (bv bg) := (cy 59).trans rfl
 obtain ⟨bh, hq629, hf⟩ := bind_some hf
 refine wpl_take 3 (J := fun a w => ∃ (F : Fr) (τ : S), a = fr 70 F ∧ w = τ.w ∧ Agr [60, 61, 62] F df ∧ ExtB s0.N s0 τ ∧ Wext e1 τ ∧ F 62 = (bv bh) ∧ Blk s0.N 6 τ aT 27 [iv aa.Kind, iv aa.Int_, tv aa.Text, lv bj aa.Kids.length bk, lv bl aa.Keys.length bm, lv bn aa.Entries.length bo, lv aR (aa.Labels ++ [a4]).length aS] ∧ Own s0.N 7 9 τ (aa.Labels ++ [a4]) aR aS) ?_ ?_
 ·have hf := hq629
  refine if_else hf (fun bO hf => ?_) (fun bO hf => ?_)
  ·refine r_guard (j := 15) (want := true) (d := 59) (c := bg) (v := true) rfl b5 bO rfl rfl ?_
   refine r_load aU 0 (.agg #[iv aa.Kind, iv aa.Int_, tv a4, lv bB aa.Kids.length bC, lv bD aa.Keys.length bE, lv bF aa.Entries.length bG, lv bH aa.Labels.length bI]) e6 rfl (loads_row tr27 (Blk.range e3 0 [iv aa.Kind, iv aa.Int_, tv a4, lv bB aa.Kids.length bC, lv bD aa.Keys.length bE, lv bF aa.Entries.length bG, lv bH aa.Labels.length bI] rfl)) ?_
   refine r_guard (j := 15) (want := true) (d := 59) (c := bg) (v := true) rfl b5 bO rfl rfl ?_
   obtain ⟨e8, e9, hf⟩ := bind_some hf
   refine r_call [.agg #[iv aa.Kind, iv aa.Int_, tv a4, lv bB aa.Kids.length bC, lv bD aa.Keys.length bE, lv bF aa.Entries.length bG, lv bH aa.Labels.length bI]] (evs1 rfl) rfl ((ok_semtypelaw4_judged fuel) _ _ _ _ (Val.rpvMk (v := (Val.mk aa.Kind aa.Int_ a4 aa.Kids aa.Keys aa.Entries aa.Labels)) (((((((((((d3.mono al.wext).mono ak.wext).mono ag.wext).mono ah.wext).mono ae.wext).mono ai.wext).mono af.wext).mono am.wext).mono aQ).mono aX).mono bN) (((((((((((d4.mono al.wext).mono ak.wext).mono ag.wext).mono ah.wext).mono ae.wext).mono ai.wext).mono af.wext).mono am.wext).mono aQ).mono aX).mono bN) (((((((((((d5.mono al.wext).mono ak.wext).mono ag.wext).mono ah.wext).mono ae.wext).mono ai.wext).mono af.wext).mono am.wext).mono aQ).mono aX).mono bN) (((((((((((d6.mono al.wext).mono ak.wext).mono ag.wext).mono ah.wext).mono ae.wext).mono ai.wext).mono af.wext).mono am.wext).mono aQ).mono aX).mono bN)) e9) ?_
   intro _ _ cu fa
   have fb := dc.x cu
   obtain rfl := RpV.bool fa
   refine r_pick_t (c := bg) (bv e8) b5 bO rfl rfl rfl rfl ?_
   refine j0 ?_
   obtain rfl := oi hf
   exact ⟨rfl, _, _, rfl, rfl, ((((Agr.refl _ _).put rfl).put rfl).put rfl), fb, ((Wext.refl _).trans cu.wext), rfl, (dd.ext cu), (de.ext cu)⟩
  refine r_skip (j := 15) (want := true) (d := 59) (c := bg) (v := false) rfl b5 bO rfl rfl ?_
  refine r_skip (j := 15) (want := true) (d := 59) (c := bg) (v := false) rfl b5 bO rfl rfl ?_
  refine r_pick_f (c := bg) (bv false) b5 bO rfl rfl rfl rfl ?_
  refine j0 ?_
  obtain rfl := oi hf
  exact ⟨rfl, _, _, rfl, rfl, ((((Agr.refl _ _).put rfl).put rfl).put rfl), dc, (Wext.refl _), rfl, dd, de⟩
 rintro a w ⟨fx, fc, rfl, rfl, fd, dg, cz, fe, ff, fg⟩
 have fh := (fd 15 rfl).trans e7
 refine r_move (bv bh) fe rfl ?_
 refine gen_FL fun dh di => ?_
 have fj := (di 15).trans fh
 have b6 : dh 63 = (bv bh) := (di 63).trans rfl
 obtain ⟨b7, hq652, hf⟩ := bind_some hf
 refine wpl_take 3 (J := fun a w => ∃ (F : Fr) (τ : S), a = fr 70 F ∧ w = τ.w ∧ Agr [64, 65, 66] F dh ∧ ExtB s0.N s0 τ ∧ Wext fc τ ∧ F 66 = (bv b7)) ?_ ?_
 ·have hf := hq652
  refine if_else hf (fun bP hf => ?_) (fun bP hf => ?_)
  ·refine r_guard (j := 19) (want := true) (d := 63) (c := bh) (v := true) rfl b6 bP rfl rfl ?_
   refine r_load aT 0 (.agg #[iv aa.Kind, iv aa.Int_, tv aa.Text, lv bj aa.Kids.length bk, lv bl aa.Keys.length bm, lv bn aa.Entries.length bo, lv aR (aa.Labels ++ [a4]).length aS]) fj rfl (loads_row tr27 (Blk.range ff 0 [iv aa.Kind, iv aa.Int_, tv aa.Text, lv bj aa.Kids.length bk, lv bl aa.Keys.length bm, lv bn aa.Entries.length bo, lv aR (aa.Labels ++ [a4]).length aS] rfl)) ?_
   refine r_guard (j := 19) (want := true) (d := 63) (c := bh) (v := true) rfl b6 bP rfl rfl ?_
   obtain ⟨fk, fl, hf⟩ := bind_some hf
   refine r_call [.agg #[iv aa.Kind, iv aa.Int_, tv aa.Text, lv bj aa.Kids.length bk, lv bl aa.Keys.length bm, lv bn aa.Entries.length bo, lv aR (aa.Labels ++ [a4]).length aS]] (evs1 rfl) rfl ((ok_semtypelaw4_judged fuel) _ _ _ _ (Val.rpvMk (v := (Val.mk aa.Kind aa.Int_ aa.Text aa.Kids aa.Keys aa.Entries (aa.Labels ++ [a4]))) ((((((((((((d9.mono al.wext).mono ak.wext).mono ag.wext).mono ah.wext).mono ae.wext).mono ai.wext).mono af.wext).mono am.wext).mono aQ).mono aX).mono bN).mono cz) ((((((((((((ea.mono al.wext).mono ak.wext).mono ag.wext).mono ah.wext).mono ae.wext).mono ai.wext).mono af.wext).mono am.wext).mono aQ).mono aX).mono bN).mono cz) ((((((((((((eb.mono al.wext).mono ak.wext).mono ag.wext).mono ah.wext).mono ae.wext).mono ai.wext).mono af.wext).mono am.wext).mono aQ).mono aX).mono bN).mono cz) fg.sl) fl) ?_
   intro _ _ dj fm
   have fn := dg.x dj
   obtain rfl := RpV.bool fm
   refine r_pick_t (c := bh) (bv fk) b6 bP rfl rfl rfl rfl ?_
   refine j0 ?_
   obtain rfl := oi hf
   exact ⟨rfl, _, _, rfl, rfl, ((((Agr.refl _ _).put rfl).put rfl).put rfl), fn, ((Wext.refl _).trans dj.wext), rfl⟩
  refine r_skip (j := 19) (want := true) (d := 63) (c := bh) (v := false) rfl b6 bP rfl rfl ?_
  refine r_skip (j := 19) (want := true) (d := 63) (c := bh) (v := false) rfl b6 bP rfl rfl ?_
  refine r_pick_f (c := bh) (bv false) b6 bP rfl rfl rfl rfl ?_
  refine j0 ?_
  obtain rfl := oi hf
  exact ⟨rfl, _, _, rfl, rfl, ((((Agr.refl _ _).put rfl).put rfl).put rfl), dg, (Wext.refl _), rfl⟩
 rintro a w ⟨fy, fz, rfl, rfl, fA, dk, fB, fo⟩
 refine r_move (bv b7) fo rfl ?_
 refine if_else hf (fun co hf => ?_) (fun co hf => ?_)
 ·refine r_guard (j := 23) (want := true) (d := 67) (c := b7) (v := true) rfl rfl co rfl rfl ?_
  obtain ⟨cA, fp, hf⟩ := bind_some hf
  refine r_call [] evs0 rfl ((ok_semtypelaw4_awake fuel) _ _  fp) ?_
  intro _ _ fq fs
  have ft := dk.x fq
  obtain rfl := RpV.bool fs
  refine r_pick_t (c := b7) (bv cA) rfl co rfl rfl rfl rfl ?_
  refine r_assign (bv cA) rfl rfl ?_
  refine j0 (j1 (jb ?_))
  obtain rfl := oi hf
  refine ret_one (bv cA) rfl ⟨rfl, rfl⟩ ft ?_
  exact (RpV.mkBool _ _)
 refine r_skip (j := 23) (want := true) (d := 67) (c := b7) (v := false) rfl rfl co rfl rfl ?_
 refine r_pick_f (c := b7) (bv false) rfl co rfl rfl rfl rfl ?_
 refine r_assign (bv false) rfl rfl ?_
 refine j0 (j1 (jb ?_))
 obtain rfl := oi hf
 refine ret_one (bv false) rfl ⟨rfl, rfl⟩ dk ?_
 exact (RpV.mkBool _ _)

end Go.Sx
