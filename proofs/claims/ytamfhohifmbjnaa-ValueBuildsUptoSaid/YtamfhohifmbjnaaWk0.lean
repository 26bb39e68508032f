/- Printed by dec.py. The walks. -/
import Derived.Test.YtamfhohifmbjnaaTy
namespace Go.Sx
open Go Go.RowKit
attribute [local irreducible] Go.wpList Go.Code.wp Go.Sx.Ctr Go.Sx.CtrE

def S_slices_Clone_api_Value_api_Value (f : ((List Val) → Option (List Val))) : Prop := ∀ (s0 : S) (v0 : Value) (a0 : (List Val)) (r : (List Val)), RpV s0 a0 v0 → f a0 = some r → ∀ id : Nat, 1000 ≤ id → Ctr Go.Proofs.Try.prog 67 [v0] s0 (fun v τ => OwnV s0.N id 27 τ r v)

set_option maxHeartbeats 1600000 in
set_option maxRecDepth 100000 in
theorem ok_slices_Clone_api_Value_api_Value : S_slices_Clone_api_Value_api_Value slices_Clone_api_Value_api_Value := by
 intro s0 v0 a0 r h0 hf id hid
 obtain ⟨A1, c2, rfl, h3⟩ := RpV.list h0
 unfold slices_Clone_api_Value_api_Value at hf
 have E0 : ExtB s0.N s0 s0 := ExtB.refl _ _
 refine ctr_of 8 Go.Proofs.Try.func67 rfl rfl rfl rfl ?_
 refine j2 (j3 ?_)
 refine r_assign (nl Val) rfl rfl ?_
 refine j0 (j1 (j2 (j2 (j3 ?_))))
 refine r_move (.slice A1 a0.length c2) rfl rfl ?_
 refine r_bin (.slice A1 a0.length c2) (nl Val) (.bool A1.isNone) rfl rfl rfl rfl (b_nil Go.Proofs.Try.underlying22) ?_
 refine j0 (j1 ?_)
 refine (Bool.eq_false_or_eq_true A1.isNone).elim (fun hn4 => ?_) (fun hn4 => ?_)
 ·have k5 := h3.nil_of hn4
  replace hf : some ([] : List Val) = some r := by simpa [k5, room] using hf
  refine c_true rfl hn4 rfl ?_
  refine j2 (j3 ?_)
  refine r_assign (nl Val) rfl rfl ?_
  refine j0 (j1 (jb (j9 ?_)))
  obtain rfl := Option.some.inj hf
  refine ret_one (nl Val) rfl ⟨rfl, rfl⟩ E0 ?_
  exact ⟨_, _, rfl, Own.nil_ _⟩
 refine c_false rfl hn4 rfl ?_
 refine ja (j1 (j2 (j3 ?_)))
 refine r_buildSlice0 ts22 ?_
 intro s7 A6 k8
 have E9 := E0.x k8
 refine r_move (.slice A1 a0.length c2) rfl rfl ?_
 obtain ⟨ag, ac, hf⟩ := bind_some hf
 refine r_append (B := s0.N) (id := id) (E := 27) (xs := ([] : List Val)) (ys := a0) E9.size (Own.nil_ _) (h3.mono k8.wext) ts22 (room_some ac) rfl rfl rfl rfl ?_
 intro ah aa ab ad ae
 have af := E9.y ad
 refine r_assign (.slice aa a0.length ab) rfl rfl ?_
 refine j0 (j1 (jb ?_))
 obtain rfl := Option.some.inj hf
 refine ret_one (.slice aa a0.length ab) rfl ⟨rfl, rfl⟩ af ?_
 exact ⟨_, _, rfl, ae⟩

def S_value_parts (f : (Val → Option (List Val))) : Prop := ∀ (s0 : S) (v0 : Value) (a0 : Val) (r : (List Val)), RpV s0 a0 v0 → f a0 = some r → ∀ id : Nat, 1000 ≤ id → Ctr Go.Proofs.Try.prog 53 [v0] s0 (fun v τ => OwnV s0.N id 27 τ r v)

set_option maxHeartbeats 1600000 in
set_option maxRecDepth 100000 in
theorem ok_value_parts : S_value_parts value_parts := by
 intro s0 v0 a0 r h0 hf id hid
 obtain ⟨A1, c2, A4, c5, A7, c8, aM, aN, rfl, h3, h6, h9, bz⟩ := Val.rpv h0
 unfold value_parts at hf
 have E0 : ExtB s0.N s0 s0 := ExtB.refl _ _
 refine ctr_of 30 Go.Proofs.Try.func53 rfl rfl rfl rfl ?_
 refine j2 (j3 ?_)
 refine r_box (B := s0.N) 1 E0.size (Val.ag a0 A1 c2 A4 c5 A7 c8 aM aN) (Val.cs a0 A1 c2 A4 c5 A7 c8 aM aN) rfl rfl rfl ?_
 intro bA au ax aO
 have aP := E0.x ax
 refine r_assign (nl Val) rfl rfl ?_
 refine j0 (j1 (j2 (j3 ?_)))
 refine r_fieldAddr au 0 3 3 rfl rfl fo27_3 rfl ?_
 refine r_load au 3 (.slice A1 a0.Kids.length c2) rfl rfl (loads_one to22 ((aO.cell 3).trans rfl)) ?_
 obtain ⟨aQ, a3, hf⟩ := bind_some hf
 refine r_call [.slice A1 a0.Kids.length c2] (evs1 rfl) rfl (ok_slices_Clone_api_Value_api_Value _ _ _ _ (RpV.mkList (h3.mono ax.wext)) a3 id (by omega)) ?_
 intro bB aR ay a4
 have a5 := aP.x ay
 obtain ⟨az, aA, rfl, a6⟩ := a4
 refine r_assign (.slice az aQ.length aA) rfl rfl ?_
 refine j0 (j1 (j2 (j2 (j3 ?_))))
 refine r_fieldAddr au 0 5 5 rfl rfl fo27_5 rfl ?_
 refine r_load au 5 (.slice A7 a0.Entries.length c8) rfl rfl (loads_one to24 (((aO.ext ay).cell 5).trans rfl)) ?_
 refine r_len A7 a0.Entries.length c8 rfl rfl Go.Proofs.Try.underlying24 ?_
 refine r_move (.int .i64 0) rfl rfl ?_
 refine j0 (j1 (j4 ?_))
 refine gen_F fun am av => ?_
 have a7 : am 3 = (.slice az aQ.length aA) := (av 3).trans rfl
 have a8 : am 10 = (.slice A7 a0.Entries.length c8) := (av 10).trans rfl
 have a9 : am 11 = (.int .i64 (a0.Entries.length : Int)) := (av 11).trans rfl
 have ba : am 12 = (.int .i64 0) := (av 12).trans rfl
 obtain ⟨aB, bb, hf⟩ := bind_some hf
 refine wp_mono (wp_iter (step := value_parts_l1 a0) (fun q a w => ∃ (F : Fr) (τ : S) (A1 : Option Addr) (c1 : Nat), a = fr 30 F ∧ w = τ.w ∧ Agr [3, 5, 12, 13, 14, 15, 16, 17, 18, 19, 20, 21, 22, 23, 24, 25, 26, 27, 28] F am ∧ ExtB s0.N s0 τ ∧ Wext aR τ ∧ F 3 = (.slice A1 q.1.length c1) ∧ Own s0.N id 27 τ q.1 A1 c1 ∧ F 12 = (.int .i64 q.2)) (fun q e a w => e = .exit 0 ∧ ∃ (F : Fr) (τ : S) (A1 : Option Addr) (c1 : Nat), a = fr 30 F ∧ w = τ.w ∧ Agr [3, 5, 12, 13, 14, 15, 16, 17, 18, 19, 20, 21, 22, 23, 24, 25, 26, 27, 28] F am ∧ ExtB s0.N s0 τ ∧ Wext aR τ ∧ F 3 = (.slice A1 q.1.length c1) ∧ Own s0.N id 27 τ q.1 A1 c1 ∧ F 12 = (.int .i64 q.2)) (by rintro _ a w ⟨h, _⟩; cases h) ?_ _ _ _ _ _ bb ?_) ?_
 ·intro aa fl a w hf hI
  obtain ⟨bC, bD, aS, aT, rfl, rfl, ao, aC, aw, aU, aV, ap⟩ := hI
  unfold value_parts_l1 at hf
  have bc := (ao 10 rfl).trans a8
  have bd := (ao 11 rfl).trans a9
  refine j2 (j3 ?_)
  refine r_bin (.int .i64 aa.2) (.int .i64 (a0.Entries.length : Int)) (.bool (decide (aa.2 < (a0.Entries.length : Int)))) ap bd rfl rfl (b_lss) ?_
  refine j0 (j1 (j2 ?_))
  refine if_else hf (fun aD hf => ?_) (fun aD hf => ?_)
  ·refine c_true rfl aD rfl ?_
   refine ja (j1 (j2 (j4 (j2 (j3 ?_)))))
   obtain ⟨x50, be, hf⟩ := bind_some hf
   refine r_indexAddr (T := 24) (E := 65) (((h9.mono ax.wext).mono ay.wext).mono aw) be bc ap rfl rfl Go.Proofs.Try.underlying24 sz65 ?_
   intro bf bg bE bh bi
   obtain ⟨aq, ar, ae, af, ag, ah, ai, aj, ak, al, rfl, bj, bk, bl, bm, bn⟩ := Ent.cells_iff.1 bh
   refine r_load bf bg (.agg #[.slice aq x50.Args.length ar, .bool x50.Fails, .int .i64 x50.Result.Kind, .int .i64 x50.Result.Int_, .string x50.Result.Text, .slice ae x50.Result.Kids.length af, .slice ag x50.Result.Keys.length ah, .slice ai x50.Result.Entries.length aj, .slice ak x50.Result.Labels.length al]) rfl rfl (loads_row tr65 bi.2) ?_
   refine r_alloc (B := s0.N) 3 aC.size _ [nl Val, .bool false, .int .i64 0, .int .i64 0, .string (⟨#[]⟩), nl Val, nl Key, nl Ent, nl ByteArray] ti65 rfl ?_
   intro bF an ab bo
   have bp := aC.x ab
   refine r_store bo 0 (.agg #[.slice aq x50.Args.length ar, .bool x50.Fails, .int .i64 x50.Result.Kind, .int .i64 x50.Result.Int_, .string x50.Result.Text, .slice ae x50.Result.Kids.length af, .slice ag x50.Result.Keys.length ah, .slice ai x50.Result.Entries.length aj, .slice ak x50.Result.Labels.length al]) [.slice aq x50.Args.length ar, .bool x50.Fails, .int .i64 x50.Result.Kind, .int .i64 x50.Result.Int_, .string x50.Result.Text, .slice ae x50.Result.Kids.length af, .slice ag x50.Result.Keys.length ah, .slice ai x50.Result.Entries.length aj, .slice ak x50.Result.Labels.length al] [.slice aq x50.Args.length ar, .bool x50.Fails, .int .i64 x50.Result.Kind, .int .i64 x50.Result.Int_, .string x50.Result.Text, .slice ae x50.Result.Kids.length af, .slice ag x50.Result.Keys.length ah, .slice ai x50.Result.Entries.length aj, .slice ak x50.Result.Labels.length al] rfl rfl rfl rfl rfl sz65 rfl rfl rfl ?_
   intro bG ac aE
   have aW := bp.y ac
   refine j0 (j1 (j2 (j3 ?_)))
   refine r_move (.slice aS aa.1.length aT) aU rfl ?_
   refine r_fieldAddr an 0 0 0 rfl rfl fo65_0 rfl ?_
   refine r_load an 0 (.slice aq x50.Args.length ar) rfl rfl (loads_one to22 ((aE.cell 0).trans rfl)) ?_
   obtain ⟨bH, bq, hf⟩ := bind_some hf
   refine r_append (B := s0.N) (id := id) (E := 27) (xs := aa.1) (ys := x50.Args) aW.size (((aV.ext ab).mod ac (beq_false (by omega)))) ((bj.mono ab.wext).mono ac.wext) ts22 (room_some bq) rfl rfl rfl rfl ?_
   intro bI aF aG ad aX
   have aH := aW.y ad
   refine r_assign (.slice aF (aa.1 ++ x50.Args).length aG) rfl rfl ?_
   refine j0 (j1 (j2 (j3 ?_)))
   refine r_fieldAddr an 0 1 1 rfl rfl fo65_1 rfl ?_
   refine r_load an 1 (.bool x50.Fails) rfl rfl (loads_one to4 (((aE.mod ad (beq_false (by omega))).cell 1).trans rfl)) ?_
   refine r_un (.bool x50.Fails) (.bool (!x50.Fails)) rfl rfl u_not ?_
   refine j0 (j1 ?_)
   refine if_else hf (fun aI hf => ?_) (fun aI hf => ?_)
   ·refine c_true rfl aI rfl ?_
    refine j3 ?_
    refine r_move (.slice aF (aa.1 ++ x50.Args).length aG) rfl rfl ?_
    refine r_fieldAddr an 0 2 2 rfl rfl fo65_2 rfl ?_
    refine r_load an 2 (Val.ag x50.Result ae af ag ah ai aj ak al) rfl rfl (loads_row tr27 (Blk.range (aE.mod ad (beq_false (by omega))) 2 (Val.cs x50.Result ae af ag ah ai aj ak al) rfl)) ?_
    refine r_buildSlice (B := s0.N) (E := 27) 4 aH.size ts22 (xs := [x50.Result]) [Val.ag x50.Result ae af ag ah ai aj ak al] (eps_cons rfl eps_nil) rfl rfl rfl (by decide) rfl (by simp [Value.cells, Rp.sz]) ⟨_, _, rfl, (Val.cells_iff.2 ⟨_, _, _, _, _, _, _, _, rfl, (((bk.mono ab.wext).mono ac.wext).mono ad.wext), (((bl.mono ab.wext).mono ac.wext).mono ad.wext), (((bm.mono ab.wext).mono ac.wext).mono ad.wext), (((bn.mono ab.wext).mono ac.wext).mono ad.wext)⟩), rfl⟩ ?_
    intro bJ bK bL aJ br
    have aY := aH.x aJ
    obtain ⟨bM, bs, hf⟩ := bind_some hf
    refine r_append (B := s0.N) (id := id) (E := 27) (xs := aa.1 ++ x50.Args) (ys := [x50.Result]) aY.size ((aX.ext aJ)) br.sl ts22 (room_some bs) rfl rfl rfl rfl ?_
    intro bN aZ a1 a2 bt
    have bu := aY.y a2
    refine r_assign (.slice aZ ((aa.1 ++ x50.Args) ++ [x50.Result]).length a1) rfl rfl ?_
    refine j0 (j5 (j1 (j3 ?_)))
    refine r_bin (.int .i64 aa.2) (.int .i64 1) (.int .i64 (w64 (aa.2 + 1))) ap rfl rfl rfl (b_add) ?_
    refine r_move (.int .i64 (w64 (aa.2 + 1))) rfl rfl ?_
    refine j0 ?_
    obtain rfl := Option.some.inj hf
    exact ⟨rfl, _, _, aZ, a1, rfl, rfl, ((((((((((((((((((((((ao).put rfl).put rfl).put rfl).put rfl).put0).put rfl).put rfl).put rfl).put rfl).put rfl).put rfl).put rfl).put rfl).put rfl).put rfl).put rfl).put rfl).put rfl).put rfl).put rfl).put rfl), bu, (((((((Wext.refl _).trans aw).trans ab.wext).trans ac.wext).trans ad.wext).trans aJ.wext).trans a2.wext), rfl, (bt), rfl⟩
   refine c_false rfl aI rfl ?_
   refine ja (j5 (j1 (j3 ?_)))
   refine r_bin (.int .i64 aa.2) (.int .i64 1) (.int .i64 (w64 (aa.2 + 1))) ap rfl rfl rfl (b_add) ?_
   refine r_move (.int .i64 (w64 (aa.2 + 1))) rfl rfl ?_
   refine j0 ?_
   obtain rfl := Option.some.inj hf
   exact ⟨rfl, _, _, aF, aG, rfl, rfl, ((((((((((((((((ao).put rfl).put rfl).put rfl).put rfl).put0).put rfl).put rfl).put rfl).put rfl).put rfl).put rfl).put rfl).put rfl).put rfl).put rfl), aH, (((((Wext.refl _).trans aw).trans ab.wext).trans ac.wext).trans ad.wext), rfl, (aX), rfl⟩
  refine c_false rfl aD rfl ?_
  refine jc (j8 ?_)
  obtain rfl := Option.some.inj hf
  exact ⟨rfl, _, _, aS, aT, rfl, rfl, ((ao).put rfl), aC, ((Wext.refl _).trans aw), aU, (aV), ap⟩
 ·exact ⟨_, _, az, aA, rfl, rfl, (Agr.refl _ _), a5, (Wext.refl _), a7, ((a6.base (by have := aP.size; omega))), ba⟩
 rintro e a w ⟨rfl, bO, bP, aK, aL, rfl, rfl, bQ, bv, bR, bw, bx, bS⟩
 refine j6 (j1 (j2 (j3 ?_)))
 refine r_move (.slice aK aB.1.length aL) bw rfl ?_
 refine r_assign (.slice aK aB.1.length aL) rfl rfl ?_
 refine j0 (j1 (jb ?_))
 obtain rfl := Option.some.inj hf
 refine ret_one (.slice aK aB.1.length aL) rfl ⟨rfl, rfl⟩ bv ?_
 exact ⟨_, _, rfl, bx⟩

def S_value_uses (f : (Int → Option (Value_used × Bool))) : Prop := ∀ (s0 : S) (v0 : Value) (a0 : Int) (r : (Value_used × Bool)), RpV s0 a0 v0 → f a0 = some r → Ctr Go.Proofs.Try.prog 80 [v0] s0 (fun v τ => ∃ v1 v2, v = .tuple #[v1, v2] ∧ RpV τ r.1 v1 ∧ RpV τ r.2 v2)

set_option maxHeartbeats 1600000 in
set_option maxRecDepth 100000 in
theorem ok_value_uses : S_value_uses value_uses := by
 intro s0 v0 a0 r h0 hf
 obtain rfl := RpV.int h0
 unfold value_uses at hf
 have E0 : ExtB s0.N s0 s0 := ExtB.refl _ _
 refine ctr_of 27 Go.Proofs.Try.func80 rfl rfl rfl rfl ?_
 refine j2 (j3 ?_)
 refine r_alloc (B := s0.N) 1 E0.size _ [.bool false, .bool false, .bool false, .bool false, .bool false] ti87 rfl ?_
 intro s2 b1 k3 hb4
 have E5 := E0.x k3
 refine r_assign (.bool false) rfl rfl ?_
 refine j0 (j1 (j2 (j2 (j3 ?_))))
 refine r_move (.int .i64 a0) rfl rfl ?_
 refine j0 (j1 (j4 (j2 (j2 (j3 ?_)))))
 refine r_bin (.int .i64 a0) (.int .i64 1) (.bool (a0 == 1)) rfl rfl rfl rfl (b_eql) ?_
 refine r_assign (.bool (a0 == 1)) rfl rfl ?_
 refine j0 (j1 ?_)
 refine if_else hf (fun hc6 hf => ?_) (fun hc6 hf => ?_)
 ·refine c_true rfl hc6 rfl ?_
  refine ja (j1 ?_)
  refine c_true rfl hc6 rfl ?_
  refine j2 (j3 ?_)
  refine r_build tst87 [(0, .bool true)] [.bool true, .bool false, .bool false, .bool false, .bool false] (eps_cons rfl eps_nil) rfl rfl ?_
  refine r_store hb4 0 (.agg #[.bool true, .bool false, .bool false, .bool false, .bool false]) [.bool true, .bool false, .bool false, .bool false, .bool false] [.bool true, .bool false, .bool false, .bool false, .bool false] rfl rfl rfl rfl rfl sz87 rfl rfl rfl ?_
  intro s7 hm8 hb9
  have ai := E5.y hm8
  refine r_assign (.bool true) rfl rfl ?_
  refine j0 (j1 (jb (j7 (j9 ?_))))
  obtain rfl := Option.some.inj hf
  refine ret_two (.agg #[.bool true, .bool false, .bool false, .bool false, .bool false]) (.bool true) rfl ⟨rfl, _, rfl, loads_row tr87 (Blk.range hb9 0 [.bool true, .bool false, .bool false, .bool false, .bool false] rfl)⟩ ⟨rfl, rfl⟩ ai ?_
  exact ⟨_, _, rfl, (Value_used.rpvMk (v := (Value_used.mk true false false false false)) ), (RpV.mkBool _ _)⟩
 refine c_false rfl hc6 rfl ?_
 refine j3 ?_
 refine r_bin (.int .i64 a0) (.int .i64 4) (.bool (a0 == 4)) rfl rfl rfl rfl (b_eql) ?_
 refine r_assign (.bool (a0 == 4)) rfl rfl ?_
 refine j0 (j1 ?_)
 refine if_else hf (fun ac hf => ?_) (fun ac hf => ?_)
 ·refine c_true rfl ac rfl ?_
  refine j2 (j3 ?_)
  refine r_build tst87 [(0, .bool true)] [.bool true, .bool false, .bool false, .bool false, .bool false] (eps_cons rfl eps_nil) rfl rfl ?_
  refine r_store hb4 0 (.agg #[.bool true, .bool false, .bool false, .bool false, .bool false]) [.bool true, .bool false, .bool false, .bool false, .bool false] [.bool true, .bool false, .bool false, .bool false, .bool false] rfl rfl rfl rfl rfl sz87 rfl rfl rfl ?_
  intro aM aj ak
  have al := E5.y aj
  refine r_assign (.bool true) rfl rfl ?_
  refine j0 (j1 (jb (j7 (j9 ?_))))
  obtain rfl := Option.some.inj hf
  refine ret_two (.agg #[.bool true, .bool false, .bool false, .bool false, .bool false]) (.bool true) rfl ⟨rfl, _, rfl, loads_row tr87 (Blk.range ak 0 [.bool true, .bool false, .bool false, .bool false, .bool false] rfl)⟩ ⟨rfl, rfl⟩ al ?_
  exact ⟨_, _, rfl, (Value_used.rpvMk (v := (Value_used.mk true false false false false)) ), (RpV.mkBool _ _)⟩
 refine c_false rfl ac rfl ?_
 refine j2 (j2 (j3 ?_))
 refine r_bin (.int .i64 a0) (.int .i64 2) (.bool (a0 == 2)) rfl rfl rfl rfl (b_eql) ?_
 refine r_assign (.bool (a0 == 2)) rfl rfl ?_
 refine j0 (j1 ?_)
 refine if_else hf (fun aa hf => ?_) (fun aa hf => ?_)
 ·refine c_true rfl aa rfl ?_
  refine ja (j1 ?_)
  refine c_true rfl aa rfl ?_
  refine j2 (j3 ?_)
  refine r_build tst87 [(1, .bool true)] [.bool false, .bool true, .bool false, .bool false, .bool false] (eps_cons rfl eps_nil) rfl rfl ?_
  refine r_store hb4 0 (.agg #[.bool false, .bool true, .bool false, .bool false, .bool false]) [.bool false, .bool true, .bool false, .bool false, .bool false] [.bool false, .bool true, .bool false, .bool false, .bool false] rfl rfl rfl rfl rfl sz87 rfl rfl rfl ?_
  intro aN am an
  have ao := E5.y am
  refine r_assign (.bool true) rfl rfl ?_
  refine j0 (j1 (jb (j7 (j9 ?_))))
  obtain rfl := Option.some.inj hf
  refine ret_two (.agg #[.bool false, .bool true, .bool false, .bool false, .bool false]) (.bool true) rfl ⟨rfl, _, rfl, loads_row tr87 (Blk.range an 0 [.bool false, .bool true, .bool false, .bool false, .bool false] rfl)⟩ ⟨rfl, rfl⟩ ao ?_
  exact ⟨_, _, rfl, (Value_used.rpvMk (v := (Value_used.mk false true false false false)) ), (RpV.mkBool _ _)⟩
 refine c_false rfl aa rfl ?_
 refine j3 ?_
 refine r_bin (.int .i64 a0) (.int .i64 3) (.bool (a0 == 3)) rfl rfl rfl rfl (b_eql) ?_
 refine r_assign (.bool (a0 == 3)) rfl rfl ?_
 refine j0 (j1 ?_)
 refine if_else hf (fun ad hf => ?_) (fun ad hf => ?_)
 ·refine c_true rfl ad rfl ?_
  refine j2 (j3 ?_)
  refine r_build tst87 [(1, .bool true)] [.bool false, .bool true, .bool false, .bool false, .bool false] (eps_cons rfl eps_nil) rfl rfl ?_
  refine r_store hb4 0 (.agg #[.bool false, .bool true, .bool false, .bool false, .bool false]) [.bool false, .bool true, .bool false, .bool false, .bool false] [.bool false, .bool true, .bool false, .bool false, .bool false] rfl rfl rfl rfl rfl sz87 rfl rfl rfl ?_
  intro aO ap aq
  have ar := E5.y ap
  refine r_assign (.bool true) rfl rfl ?_
  refine j0 (j1 (jb (j7 (j9 ?_))))
  obtain rfl := Option.some.inj hf
  refine ret_two (.agg #[.bool false, .bool true, .bool false, .bool false, .bool false]) (.bool true) rfl ⟨rfl, _, rfl, loads_row tr87 (Blk.range aq 0 [.bool false, .bool true, .bool false, .bool false, .bool false] rfl)⟩ ⟨rfl, rfl⟩ ar ?_
  exact ⟨_, _, rfl, (Value_used.rpvMk (v := (Value_used.mk false true false false false)) ), (RpV.mkBool _ _)⟩
 refine c_false rfl ad rfl ?_
 refine j2 (j3 ?_)
 refine r_bin (.int .i64 a0) (.int .i64 5) (.bool (a0 == 5)) rfl rfl rfl rfl (b_eql) ?_
 refine r_assign (.bool (a0 == 5)) rfl rfl ?_
 refine j0 (j1 ?_)
 refine if_else hf (fun ae hf => ?_) (fun ae hf => ?_)
 ·refine c_true rfl ae rfl ?_
  refine j2 (j3 ?_)
  refine r_build tst87 [] [.bool false, .bool false, .bool false, .bool false, .bool false] eps_nil rfl rfl ?_
  refine r_store hb4 0 (.agg #[.bool false, .bool false, .bool false, .bool false, .bool false]) [.bool false, .bool false, .bool false, .bool false, .bool false] [.bool false, .bool false, .bool false, .bool false, .bool false] rfl rfl rfl rfl rfl sz87 rfl rfl rfl ?_
  intro aP au av
  have aw := E5.y au
  refine r_assign (.bool true) rfl rfl ?_
  refine j0 (j1 (jb (j7 (j9 ?_))))
  obtain rfl := Option.some.inj hf
  refine ret_two (.agg #[.bool false, .bool false, .bool false, .bool false, .bool false]) (.bool true) rfl ⟨rfl, _, rfl, loads_row tr87 (Blk.range av 0 [.bool false, .bool false, .bool false, .bool false, .bool false] rfl)⟩ ⟨rfl, rfl⟩ aw ?_
  exact ⟨_, _, rfl, (Value_used.rpvMk (v := (Value_used.mk false false false false false)) ), (RpV.mkBool _ _)⟩
 refine c_false rfl ae rfl ?_
 refine j2 (j2 (j3 ?_))
 refine r_bin (.int .i64 a0) (.int .i64 6) (.bool (a0 == 6)) rfl rfl rfl rfl (b_eql) ?_
 refine r_assign (.bool (a0 == 6)) rfl rfl ?_
 refine j0 (j1 ?_)
 refine if_else hf (fun ab hf => ?_) (fun ab hf => ?_)
 ·refine c_true rfl ab rfl ?_
  refine ja (j1 ?_)
  refine c_true rfl ab rfl ?_
  refine j2 (j3 ?_)
  refine r_build tst87 [(2, .bool true)] [.bool false, .bool false, .bool true, .bool false, .bool false] (eps_cons rfl eps_nil) rfl rfl ?_
  refine r_store hb4 0 (.agg #[.bool false, .bool false, .bool true, .bool false, .bool false]) [.bool false, .bool false, .bool true, .bool false, .bool false] [.bool false, .bool false, .bool true, .bool false, .bool false] rfl rfl rfl rfl rfl sz87 rfl rfl rfl ?_
  intro aQ ax ay
  have az := E5.y ax
  refine r_assign (.bool true) rfl rfl ?_
  refine j0 (j1 (jb (j7 (j9 ?_))))
  obtain rfl := Option.some.inj hf
  refine ret_two (.agg #[.bool false, .bool false, .bool true, .bool false, .bool false]) (.bool true) rfl ⟨rfl, _, rfl, loads_row tr87 (Blk.range ay 0 [.bool false, .bool false, .bool true, .bool false, .bool false] rfl)⟩ ⟨rfl, rfl⟩ az ?_
  exact ⟨_, _, rfl, (Value_used.rpvMk (v := (Value_used.mk false false true false false)) ), (RpV.mkBool _ _)⟩
 refine c_false rfl ab rfl ?_
 refine j3 ?_
 refine r_bin (.int .i64 a0) (.int .i64 7) (.bool (a0 == 7)) rfl rfl rfl rfl (b_eql) ?_
 refine r_assign (.bool (a0 == 7)) rfl rfl ?_
 refine j0 (j1 ?_)
 refine if_else hf (fun af hf => ?_) (fun af hf => ?_)
 ·refine c_true rfl af rfl ?_
  refine j2 (j3 ?_)
  refine r_build tst87 [(2, .bool true)] [.bool false, .bool false, .bool true, .bool false, .bool false] (eps_cons rfl eps_nil) rfl rfl ?_
  refine r_store hb4 0 (.agg #[.bool false, .bool false, .bool true, .bool false, .bool false]) [.bool false, .bool false, .bool true, .bool false, .bool false] [.bool false, .bool false, .bool true, .bool false, .bool false] rfl rfl rfl rfl rfl sz87 rfl rfl rfl ?_
  intro aR aA aB
  have aC := E5.y aA
  refine r_assign (.bool true) rfl rfl ?_
  refine j0 (j1 (jb (j7 (j9 ?_))))
  obtain rfl := Option.some.inj hf
  refine ret_two (.agg #[.bool false, .bool false, .bool true, .bool false, .bool false]) (.bool true) rfl ⟨rfl, _, rfl, loads_row tr87 (Blk.range aB 0 [.bool false, .bool false, .bool true, .bool false, .bool false] rfl)⟩ ⟨rfl, rfl⟩ aC ?_
  exact ⟨_, _, rfl, (Value_used.rpvMk (v := (Value_used.mk false false true false false)) ), (RpV.mkBool _ _)⟩
 refine c_false rfl af rfl ?_
 refine j2 (j3 ?_)
 refine r_bin (.int .i64 a0) (.int .i64 8) (.bool (a0 == 8)) rfl rfl rfl rfl (b_eql) ?_
 refine r_assign (.bool (a0 == 8)) rfl rfl ?_
 refine j0 (j1 ?_)
 refine if_else hf (fun ag hf => ?_) (fun ag hf => ?_)
 ·refine c_true rfl ag rfl ?_
  refine j2 (j3 ?_)
  refine r_build tst87 [(2, .bool true), (3, .bool true)] [.bool false, .bool false, .bool true, .bool true, .bool false] (eps_cons rfl (eps_cons rfl eps_nil)) rfl rfl ?_
  refine r_store hb4 0 (.agg #[.bool false, .bool false, .bool true, .bool true, .bool false]) [.bool false, .bool false, .bool true, .bool true, .bool false] [.bool false, .bool false, .bool true, .bool true, .bool false] rfl rfl rfl rfl rfl sz87 rfl rfl rfl ?_
  intro aS aD aE
  have aF := E5.y aD
  refine r_assign (.bool true) rfl rfl ?_
  refine j0 (j1 (jb (j7 (j9 ?_))))
  obtain rfl := Option.some.inj hf
  refine ret_two (.agg #[.bool false, .bool false, .bool true, .bool true, .bool false]) (.bool true) rfl ⟨rfl, _, rfl, loads_row tr87 (Blk.range aE 0 [.bool false, .bool false, .bool true, .bool true, .bool false] rfl)⟩ ⟨rfl, rfl⟩ aF ?_
  exact ⟨_, _, rfl, (Value_used.rpvMk (v := (Value_used.mk false false true true false)) ), (RpV.mkBool _ _)⟩
 refine c_false rfl ag rfl ?_
 refine j2 (j3 ?_)
 refine r_bin (.int .i64 a0) (.int .i64 9) (.bool (a0 == 9)) rfl rfl rfl rfl (b_eql) ?_
 refine r_assign (.bool (a0 == 9)) rfl rfl ?_
 refine j0 (j1 ?_)
 refine if_else hf (fun ah hf => ?_) (fun ah hf => ?_)
 ·refine c_true rfl ah rfl ?_
  refine j2 (j3 ?_)
  refine r_build tst87 [(0, .bool true), (4, .bool true)] [.bool true, .bool false, .bool false, .bool false, .bool true] (eps_cons rfl (eps_cons rfl eps_nil)) rfl rfl ?_
  refine r_store hb4 0 (.agg #[.bool true, .bool false, .bool false, .bool false, .bool true]) [.bool true, .bool false, .bool false, .bool false, .bool true] [.bool true, .bool false, .bool false, .bool false, .bool true] rfl rfl rfl rfl rfl sz87 rfl rfl rfl ?_
  intro aT aG aH
  have aI := E5.y aG
  refine r_assign (.bool true) rfl rfl ?_
  refine j0 (j1 (jb (j7 (j9 ?_))))
  obtain rfl := Option.some.inj hf
  refine ret_two (.agg #[.bool true, .bool false, .bool false, .bool false, .bool true]) (.bool true) rfl ⟨rfl, _, rfl, loads_row tr87 (Blk.range aH 0 [.bool true, .bool false, .bool false, .bool false, .bool true] rfl)⟩ ⟨rfl, rfl⟩ aI ?_
  exact ⟨_, _, rfl, (Value_used.rpvMk (v := (Value_used.mk true false false false true)) ), (RpV.mkBool _ _)⟩
 refine c_false rfl ah rfl ?_
 refine ja (j5 (j1 (j2 (j3 ?_))))
 refine r_build tst87 [] [.bool false, .bool false, .bool false, .bool false, .bool false] eps_nil rfl rfl ?_
 refine r_store hb4 0 (.agg #[.bool false, .bool false, .bool false, .bool false, .bool false]) [.bool false, .bool false, .bool false, .bool false, .bool false] [.bool false, .bool false, .bool false, .bool false, .bool false] rfl rfl rfl rfl rfl sz87 rfl rfl rfl ?_
 intro aU aJ aK
 have aL := E5.y aJ
 refine r_assign (.bool false) rfl rfl ?_
 refine j0 (j1 (jb ?_))
 obtain rfl := Option.some.inj hf
 refine ret_two (.agg #[.bool false, .bool false, .bool false, .bool false, .bool false]) (.bool false) rfl ⟨rfl, _, rfl, loads_row tr87 (Blk.range aK 0 [.bool false, .bool false, .bool false, .bool false, .bool false] rfl)⟩ ⟨rfl, rfl⟩ aL ?_
 exact ⟨_, _, rfl, (Value_used.rpvMk (v := (Value_used.mk false false false false false)) ), (RpV.mkBool _ _)⟩

def S_internal_bytealg_CompareString (f : (ByteArray → ByteArray → Option Int)) : Prop := ∀ (s0 : S) (v0 : Value) (v1 : Value) (a0 : ByteArray) (a1 : ByteArray) (r : Int), RpV s0 a0 v0 → RpV s0 a1 v1 → f a0 a1 = some r → Ctr Go.Proofs.Try.prog 65 [v0, v1] s0 (fun v τ => RpV τ r v)

set_option maxHeartbeats 1600000 in
set_option maxRecDepth 100000 in
theorem ok_internal_bytealg_CompareString : S_internal_bytealg_CompareString internal_bytealg_CompareString := by
 intro s0 v0 v1 a0 a1 r h0 h1 hf
 obtain rfl := RpV.str h0
 obtain rfl := RpV.str h1
 unfold internal_bytealg_CompareString at hf
 have E0 : ExtB s0.N s0 s0 := ExtB.refl _ _
 refine ctr_of 8 Go.Proofs.Try.func65 rfl rfl rfl rfl ?_
 refine j2 (j3 ?_)
 refine r_assign (.int .i64 0) rfl rfl ?_
 refine j0 (j1 (j2 (j3 ?_)))
 refine r_move (.string a0) rfl rfl ?_
 refine r_move (.string a1) rfl rfl ?_
 refine r_callx [.string a0, .string a1] (.int .i64 (strCmp a0 a1)) (evs2 rfl rfl) rfl (x87 _ _ _) ?_
 refine r_assign (.int .i64 (strCmp a0 a1)) rfl rfl ?_
 refine j0 (j1 (jb ?_))
 obtain rfl := Option.some.inj hf
 refine ret_one (.int .i64 (strCmp a0 a1)) rfl ⟨rfl, rfl⟩ E0 ?_
 exact (RpV.mkInt _ _)

def S_strings_Compare (f : (ByteArray → ByteArray → Option Int)) : Prop := ∀ (s0 : S) (v0 : Value) (v1 : Value) (a0 : ByteArray) (a1 : ByteArray) (r : Int), RpV s0 a0 v0 → RpV s0 a1 v1 → f a0 a1 = some r → Ctr Go.Proofs.Try.prog 39 [v0, v1] s0 (fun v τ => RpV τ r v)

set_option maxHeartbeats 1600000 in
set_option maxRecDepth 100000 in
theorem ok_strings_Compare : S_strings_Compare strings_Compare := by
 intro s0 v0 v1 a0 a1 r h0 h1 hf
 obtain rfl := RpV.str h0
 obtain rfl := RpV.str h1
 unfold strings_Compare at hf
 have E0 : ExtB s0.N s0 s0 := ExtB.refl _ _
 refine ctr_of 8 Go.Proofs.Try.func39 rfl rfl rfl rfl ?_
 refine j2 (j3 ?_)
 refine r_assign (.int .i64 0) rfl rfl ?_
 refine j0 (j1 (j2 (j3 ?_)))
 refine r_move (.string a0) rfl rfl ?_
 refine r_move (.string a1) rfl rfl ?_
 obtain ⟨r1, e2, hf⟩ := bind_some hf
 refine r_call [.string a0, .string a1] (evs2 rfl rfl) rfl (ok_internal_bytealg_CompareString _ _ _ _ _ _ (RpV.mkStr _ _) (RpV.mkStr _ _) e2) ?_
 intro v4 s3 k5 hr6
 have E7 := E0.x k5
 obtain rfl := RpV.int hr6
 refine r_assign (.int .i64 r1) rfl rfl ?_
 refine j0 (j1 (jb ?_))
 obtain rfl := Option.some.inj hf
 refine ret_one (.int .i64 r1) rfl ⟨rfl, rfl⟩ E7 ?_
 exact (RpV.mkInt _ _)

def S_value_ascending_string (f : ((List ByteArray) → (ByteArray → ByteArray → Option Int) → Option Bool)) : Prop := ∀ (s0 : S) (v0 : Value) (v1 : Value) (a0 : (List ByteArray)) (a1 : (ByteArray → ByteArray → Option Int)) (r : Bool), RpV s0 a0 v0 → Fn2 Go.Proofs.Try.prog s0 v1 a1 → f a0 a1 = some r → Ctr Go.Proofs.Try.prog 95 [v0, v1] s0 (fun v τ => RpV τ r v)

set_option maxHeartbeats 1600000 in
set_option maxRecDepth 100000 in
theorem ok_value_ascending_string : S_value_ascending_string value_ascending_string := by
 intro s0 v0 v1 a0 a1 r h0 h1 hf
 obtain ⟨A1, c2, rfl, h3⟩ := RpV.list h0
 obtain ⟨kk1, fi1, ca1, rfl, hk1⟩ := h1
 unfold value_ascending_string at hf
 have E0 : ExtB s0.N s0 s0 := ExtB.refl _ _
 refine ctr_of 24 Go.Proofs.Try.func95 rfl rfl rfl rfl ?_
 refine j2 (j3 ?_)
 refine r_assign (.bool false) rfl rfl ?_
 refine j0 (j1 (j2 (j2 (j3 ?_))))
 refine r_assign (.int .i64 1) rfl rfl ?_
 refine j0 (j1 (j4 ?_))
 refine gen_F fun F4 hg5 => ?_
 have f6 : F4 0 = (.slice A1 a0.length c2) := (hg5 0).trans rfl
 have f7 : F4 1 = (.func (.func kk1) (List.toArray fi1) (List.toArray ca1)) := (hg5 1).trans rfl
 have f9 : F4 5 = (.int .i64 1) := (hg5 5).trans rfl
 obtain ⟨ar, au, hf⟩ := bind_some hf
 refine wp_mono (wp_iter (step := value_ascending_string_l1 a0 a1) (fun q a w => ∃ (F : Fr) (τ : S), a = fr 24 F ∧ w = τ.w ∧ Agr [4, 5, 6, 7, 8, 9, 10, 11, 12, 13, 14, 15, 16, 17, 18, 19, 20, 21, 22, 23] F F4 ∧ ExtB s0.N s0 τ ∧ Wext s0 τ ∧ F 5 = (.int .i64 q)) (fun o e a w => match o with | .inl q => e = .exit 0 ∧ ∃ (F : Fr) (τ : S), a = fr 24 F ∧ w = τ.w ∧ Agr [4, 5, 6, 7, 8, 9, 10, 11, 12, 13, 14, 15, 16, 17, 18, 19, 20, 21, 22, 23] F F4 ∧ ExtB s0.N s0 τ ∧ Wext s0 τ ∧ F 5 = (.int .i64 q) | .inr r => e = .ret ∧ ∃ (F : Fr) (τ : S) (va : Value), a = fr 24 F ∧ w = τ.w ∧ ExtB s0.N s0 τ ∧ ResV Go.Proofs.Try.prog 24 F τ.w (.tmp 4) va ∧ RpV τ r va) (by rintro (_ | _) a w ⟨h, _⟩ <;> cases h) ?_ _ _ _ _ _ au ?_) ?_
 ·intro aa fl a w hf hI
  obtain ⟨bh, bi, rfl, rfl, ad, af, ae, ab⟩ := hI
  unfold value_ascending_string_l1 at hf
  have ag := (ad 0 rfl).trans f6
  have av := (ad 1 rfl).trans f7
  refine j2 (j2 (j3 ?_))
  refine r_move (.int .i64 aa) ab rfl ?_
  refine r_move (.slice A1 a0.length c2) ag rfl ?_
  refine r_len A1 a0.length c2 rfl rfl Go.Proofs.Try.underlying25 ?_
  refine r_bin (.int .i64 aa) (.int .i64 (a0.length : Int)) (.bool (decide (aa < (a0.length : Int)))) rfl rfl rfl rfl (b_lss) ?_
  refine j0 (j1 ?_)
  refine if_else hf (fun ah hf => ?_) (fun ah hf => ?_)
  ·refine c_true rfl ah rfl ?_
   refine ja (j1 (j2 (j4 (j2 ?_))))
   obtain ⟨x20, aw, hf⟩ := bind_some hf
   obtain ⟨x22, ax, hf⟩ := bind_some hf
   obtain ⟨ac, ay, hf⟩ := bind_some hf
   refine wp_draw (B := frExt s0.N) [some 12, some 13, some 14, some 15, some 16, some 17, some 18, some 19, some 20, some 21, some 22, some 23] [[], [], [], [2], [1, 2, 3], [1, 2, 3, 4], [], [], [6, 7], [6, 7, 8], [0, 1, 2, 3, 4, 5, 6, 7, 8, 9], [0, 1, 2, 3, 4, 5, 6, 7, 8, 9, 10]] [Fct.eqv (.func (.func kk1) (List.toArray fi1) (List.toArray ca1)), Fct.eqv (.slice A1 a0.length c2), Fct.eqv (.int .i64 aa), Fct.eqv (.int .i64 (w64 (aa - 1))), Fct.elem (x20 : ByteArray), Fct.eqv (.string x20), Fct.eqv (.slice A1 a0.length c2), Fct.eqv (.int .i64 aa), Fct.elem (x22 : ByteArray), Fct.eqv (.string x22), Fct.eqv (.int .i64 ac), Fct.eqv (.bool (decide (0 ≤ ac)))] (fun D F τ => True) (by kernel_rfl) rfl (by decide) (by decide) trivial (by decide) (by decide) ⟨?_, ?_, ?_, ?_, ?_, ?_, ?_, ?_, ?_, ?_, ?_, ?_, trivial⟩ ?_
   ·intro bj bk bl bm bn bo bp bq br az bs
    refine r_move (.func (.func kk1) (List.toArray fi1) (List.toArray ca1)) ((az 1 rfl).trans av) rfl ?_
    exact d0 ⟨rfl, trivial⟩
   ·intro bt bu bv bw bx bz bA bB bC aA bD
    refine r_move (.slice A1 a0.length c2) ((aA 0 rfl).trans ag) rfl ?_
    exact d0 ⟨rfl, trivial⟩
   ·intro bE bF bG bH bI bJ bK bL bM aB bN
    refine r_move (.int .i64 aa) ((aB 5 rfl).trans ab) rfl ?_
    exact d0 ⟨rfl, trivial⟩
   ·intro bO bP bQ bR bS bT bU bV bW bX aC
    refine r_bin (.int .i64 aa) (.int .i64 1) (.int .i64 (w64 (aa - 1))) (aC 2 rfl 14 rfl) rfl rfl rfl (b_sub) ?_
    exact d0 ⟨rfl, trivial⟩
   ·intro bY bZ b0 b1 b2 b3 b4 aD b5 b6 ak
    refine r_indexAddr (T := 25) (E := 9) ((h3.mono ae).mono aD) aw (ak 1 rfl 13 rfl) (ak 3 rfl 15 rfl) rfl rfl Go.Proofs.Try.underlying25 sz9 ?_
    intro b7 b8 b9 aE aF
    obtain rfl := aE
    exact d0 ⟨⟨_, _, _, rfl, rfl, aF⟩, trivial⟩
   ·intro ca aG aH cb cc cd ce cf cg ch aI
    obtain ⟨aJ, aK, ci, aL, aM, aN⟩ : (Fct.elem (x20 : ByteArray)).p (aG 16) aH := aI 4 rfl 16 rfl
    obtain rfl := aM
    refine r_load aJ aK (.string x20) aL rfl (loads_one to9 (aN.2 0 _ rfl)) ?_
    exact d0 ⟨rfl, trivial⟩
   ·intro cj ck cl cm cn co cp cq cr aO cs
    refine r_move (.slice A1 a0.length c2) ((aO 0 rfl).trans ag) rfl ?_
    exact d0 ⟨rfl, trivial⟩
   ·intro ct cu cv cw cx cy cz cA cB aP cC
    refine r_move (.int .i64 aa) ((aP 5 rfl).trans ab) rfl ?_
    exact d0 ⟨rfl, trivial⟩
   ·intro cD cE cF cG cH cI cJ aQ cK cL al
    refine r_indexAddr (T := 25) (E := 9) ((h3.mono ae).mono aQ) ax (al 6 rfl 18 rfl) (al 7 rfl 19 rfl) rfl rfl Go.Proofs.Try.underlying25 sz9 ?_
    intro cM cN cO aR aS
    obtain rfl := aR
    exact d0 ⟨⟨_, _, _, rfl, rfl, aS⟩, trivial⟩
   ·intro cP aT aU cQ cR cS cT cU cV cW aV
    obtain ⟨aW, aX, cX, aY, aZ, a2⟩ : (Fct.elem (x22 : ByteArray)).p (aT 20) aU := aV 8 rfl 20 rfl
    obtain rfl := aZ
    refine r_load aW aX (.string x22) aY rfl (loads_one to9 (a2.2 0 _ rfl)) ?_
    exact d0 ⟨rfl, trivial⟩
   ·intro cY cZ a3 c0 c1 c3 a4 c4 c5 c6 ai
    have am := af.trans a4
    refine r_callv [.string x20, .string x22] (ai 0 rfl 12 rfl) rfl (evs2 (ai 5 rfl 17 rfl) (ai 9 rfl 21 rfl)) rfl (hk1 a3 am _ _ _ _ _ (RpV.mkStr _ _) (RpV.mkStr _ _) ay) ?_
    intro c7 c8 an a5
    obtain rfl := RpV.int a5
    refine j0 ?_
    exact ⟨_, _, rfl, rfl, (ExtB.refl _ _).trans (an.mono am.size), (Wext.refl _).trans an.wext, rfl, trivial⟩
   ·intro c9 da db dc dd de df dg dh di a6
    refine r_bin (.int .i64 ac) (.int .i64 0) (.bool (decide (0 ≤ ac))) (a6 10 rfl 22 rfl) rfl rfl rfl (b_geq) ?_
    exact d0 ⟨rfl, trivial⟩
   intro a7 dj a8 a9 dk ao ba
   have ap := af.trans a8
   have bb := (ao 5 rfl).trans ab
   have aq : a7 23 = (.bool (decide (0 ≤ ac))) := ba 11 23 rfl
   refine j1 ?_
   refine if_else hf (fun aj hf => ?_) (fun aj hf => ?_)
   ·refine c_true aq aj rfl ?_
    refine j2 (j3 ?_)
    refine r_assign (.bool false) rfl rfl ?_
    refine j0 (j1 (jb (j7 (j9 ?_))))
    obtain rfl := Option.some.inj hf
    exact ⟨rfl, _, _, (.bool false), rfl, rfl, ap, ⟨rfl, rfl⟩, (RpV.mkBool _ _)⟩
   refine c_false aq aj rfl ?_
   refine ja (j5 (j1 (j3 ?_)))
   refine r_move (.int .i64 aa) bb rfl ?_
   refine r_bin (.int .i64 aa) (.int .i64 1) (.int .i64 (w64 (aa + 1))) rfl rfl rfl rfl (b_add) ?_
   refine r_assign (.int .i64 (w64 (aa + 1))) rfl rfl ?_
   refine j0 ?_
   obtain rfl := Option.some.inj hf
   exact ⟨rfl, _, _, rfl, rfl, (((((((((ad).put rfl).put rfl).put rfl).put rfl).draw ao rfl).put rfl).put rfl).put rfl), ap, (((Wext.refl _).trans ae).trans a9), rfl⟩
  refine c_false rfl ah rfl ?_
  refine jc (j8 ?_)
  obtain rfl := Option.some.inj hf
  exact ⟨rfl, _, _, rfl, rfl, (((((ad).put rfl).put rfl).put rfl).put rfl), af, ((Wext.refl _).trans ae), ab⟩
 ·exact ⟨_, _, rfl, rfl, (Agr.refl _ _), E0, (Wext.refl _), f9⟩
 intro e a w hp
 rcases ar with dl | r
 ·replace hf := onEnd_inl hf
  obtain ⟨rfl, dm, dn, rfl, rfl, dp, bc, dq, dr⟩ := hp
  refine j6 (j1 (j2 (j3 ?_)))
  refine r_assign (.bool true) rfl rfl ?_
  refine j0 (j1 (jb ?_))
  obtain rfl := Option.some.inj hf
  refine ret_one (.bool true) rfl ⟨rfl, rfl⟩ bc ?_
  exact (RpV.mkBool _ _)
 replace hf := onEnd_inr hf
 obtain ⟨rfl, ds, dt, bd, rfl, rfl, be, bf, bg⟩ := hp
 refine j7 (j9 ?_)
 obtain rfl := Option.some.inj hf
 refine ret_one bd rfl bf be ?_
 exact bg

def S_ident_isName (f : (ByteArray → (UInt8 → Option Bool) → (UInt8 → Option Bool) → Option Bool)) : Prop := ∀ (s0 : S) (v0 : Value) (v1 : Value) (v2 : Value) (a0 : ByteArray) (a1 : (UInt8 → Option Bool)) (a2 : (UInt8 → Option Bool)) (r : Bool), RpV s0 a0 v0 → Fn1 Go.Proofs.Try.prog s0 v1 a1 → Fn1 Go.Proofs.Try.prog s0 v2 a2 → f a0 a1 a2 = some r → Ctr Go.Proofs.Try.prog 97 [v0, v1, v2] s0 (fun v τ => RpV τ r v)

set_option maxHeartbeats 1600000 in
set_option maxRecDepth 100000 in
theorem ok_ident_isName : S_ident_isName ident_isName := by
 intro s0 v0 v1 v2 a0 a1 a2 r h0 h1 h2 hf
 obtain rfl := RpV.str h0
 obtain ⟨kk1, fi1, ca1, rfl, hk1⟩ := h1
 have hg2 := h2
 obtain ⟨kk2, fi2, ca2, rfl, hk2⟩ := h2
 unfold ident_isName at hf
 have E0 : ExtB s0.N s0 s0 := ExtB.refl _ _
 refine ctr_of 35 Go.Proofs.Try.func97 rfl rfl rfl rfl ?_
 refine j2 (j3 ?_)
 refine r_assign (.bool false) rfl rfl ?_
 refine j0 (j1 (j2 (j2 (j3 ?_))))
 refine r_move (.string a0) rfl rfl ?_
 refine r_lenStr a0 rfl rfl Go.Proofs.Try.underlying9 ?_
 refine r_bin (.int .i64 (a0.size : Int)) (.int .i64 1) (.bool (decide ((a0.size : Int) < 1))) rfl rfl rfl rfl (b_lss) ?_
 refine r_move (.bool (decide ((a0.size : Int) < 1))) rfl rfl ?_
 refine gen_FL fun F1 hg2 => ?_
 have f3 : F1 0 = (.string a0) := (hg2 0).trans rfl
 have f4 : F1 1 = (.func (.func kk1) (List.toArray fi1) (List.toArray ca1)) := (hg2 1).trans rfl
 have f5 : F1 2 = (.func (.func kk2) (List.toArray fi2) (List.toArray ca2)) := (hg2 2).trans rfl
 have f7 : F1 11 = (.bool (decide ((a0.size : Int) < 1))) := (hg2 11).trans rfl
 obtain ⟨q8, hq9, hf⟩ := bind_some hf
 refine wpl_take 4 (J := fun a w => ∃ (F : Fr) (τ : S), a = fr 35 F ∧ w = τ.w ∧ Agr [12, 13, 14, 15] F F1 ∧ ExtB s0.N s0 τ ∧ Wext s0 τ ∧ F 15 = (.bool q8)) ?_ ?_
 ·have hf := hq9
  refine if_else hf (fun ab hf => ?_) (fun ab hf => ?_)
  ·refine r_skip (j := 3) (want := false) (d := 11) (c := decide ((a0.size : Int) < 1)) (v := true) rfl f7 ab rfl rfl ?_
   refine r_skip (j := 3) (want := false) (d := 11) (c := decide ((a0.size : Int) < 1)) (v := true) rfl f7 ab rfl rfl ?_
   refine r_skip (j := 3) (want := false) (d := 11) (c := decide ((a0.size : Int) < 1)) (v := true) rfl f7 ab rfl rfl ?_
   refine r_pick_t (c := decide ((a0.size : Int) < 1)) (.bool true) f7 ab rfl rfl rfl rfl ?_
   refine j0 ?_
   obtain rfl := Option.some.inj hf
   exact ⟨rfl, _, _, rfl, rfl, (((((Agr.refl _ _).put rfl).put rfl).put rfl).put rfl), E0, (Wext.refl _), rfl⟩
  refine r_guard (j := 3) (want := false) (d := 11) (c := decide ((a0.size : Int) < 1)) (v := false) rfl f7 ab rfl rfl ?_
  refine r_move (.string a0) f3 rfl ?_
  refine r_guard (j := 3) (want := false) (d := 11) (c := decide ((a0.size : Int) < 1)) (v := false) rfl f7 ab rfl rfl ?_
  refine r_lenStr a0 rfl rfl Go.Proofs.Try.underlying9 ?_
  refine r_guard (j := 3) (want := false) (d := 11) (c := decide ((a0.size : Int) < 1)) (v := false) rfl f7 ab rfl rfl ?_
  refine r_bin (.int .i64 (a0.size : Int)) (.int .i64 16) (.bool (decide (16 < (a0.size : Int)))) rfl rfl rfl rfl (b_gtr) ?_
  refine r_pick_f (c := decide ((a0.size : Int) < 1)) (.bool (decide (16 < (a0.size : Int)))) f7 ab rfl rfl rfl rfl ?_
  refine j0 ?_
  obtain rfl := Option.some.inj hf
  exact ⟨rfl, _, _, rfl, rfl, (((((Agr.refl _ _).put rfl).put rfl).put rfl).put rfl), E0, (Wext.refl _), rfl⟩
 rintro a w ⟨aV, ay, rfl, rfl, af, ag, aW, az⟩
 have ao := (af 0 rfl).trans f3
 have aA := (af 1 rfl).trans f4
 have aB := (af 2 rfl).trans f5
 refine r_move (.bool q8) az rfl ?_
 refine if_else hf (fun aa hf => ?_) (fun aa hf => ?_)
 ·refine r_skip (j := 8) (want := false) (d := 16) (c := q8) (v := true) rfl rfl aa rfl rfl ?_
  refine r_skip (j := 8) (want := false) (d := 16) (c := q8) (v := true) rfl rfl aa rfl rfl ?_
  refine r_skip (j := 8) (want := false) (d := 16) (c := q8) (v := true) rfl rfl aa rfl rfl ?_
  refine r_skip (j := 8) (want := false) (d := 16) (c := q8) (v := true) rfl rfl aa rfl rfl ?_
  refine r_skip (j := 8) (want := false) (d := 16) (c := q8) (v := true) rfl rfl aa rfl rfl ?_
  refine r_pick_t (c := q8) (.bool true) rfl aa rfl rfl rfl rfl ?_
  refine j0 (j1 ?_)
  refine c_true rfl rfl rfl ?_
  refine j2 (j3 ?_)
  refine r_assign (.bool false) rfl rfl ?_
  refine j0 (j1 (jb (j9 ?_)))
  obtain rfl := Option.some.inj hf
  refine ret_one (.bool false) rfl ⟨rfl, rfl⟩ ag ?_
  exact (RpV.mkBool _ _)
 refine r_guard (j := 8) (want := false) (d := 16) (c := q8) (v := false) rfl rfl aa rfl rfl ?_
 refine r_move (.func (.func kk1) (List.toArray fi1) (List.toArray ca1)) aA rfl ?_
 refine r_guard (j := 8) (want := false) (d := 16) (c := q8) (v := false) rfl rfl aa rfl rfl ?_
 refine r_move (.string a0) ao rfl ?_
 refine r_guard (j := 8) (want := false) (d := 16) (c := q8) (v := false) rfl rfl aa rfl rfl ?_
 obtain ⟨x22, aC, hf⟩ := bind_some hf
 refine r_index (.string a0) (.int .i64 0) (.int .u8 (x22.toNat : Int)) rfl rfl rfl rfl (ix_str Go.Proofs.Try.underlying9 aC) ?_
 refine r_guard (j := 8) (want := false) (d := 16) (c := q8) (v := false) rfl rfl aa rfl rfl ?_
 obtain ⟨ah, aD, hf⟩ := bind_some hf
 refine r_callv [.int .u8 (x22.toNat : Int)] rfl rfl (evs1 rfl) rfl (hk1 ay ag _ _ _ (RpV.mkU8 _ _) aD) ?_
 intro aX ap aE aF
 have aq := ag.x aE
 obtain rfl := RpV.bool aF
 refine r_guard (j := 8) (want := false) (d := 16) (c := q8) (v := false) rfl rfl aa rfl rfl ?_
 refine r_un (.bool ah) (.bool (!ah)) rfl rfl u_not ?_
 refine r_pick_f (c := q8) (.bool (!ah)) rfl aa rfl rfl rfl rfl ?_
 refine j0 (j1 ?_)
 refine if_else hf (fun ai hf => ?_) (fun ai hf => ?_)
 ·refine c_true rfl ai rfl ?_
  refine j2 (j3 ?_)
  refine r_assign (.bool false) rfl rfl ?_
  refine j0 (j1 (jb (j9 ?_)))
  obtain rfl := Option.some.inj hf
  refine ret_one (.bool false) rfl ⟨rfl, rfl⟩ aq ?_
  exact (RpV.mkBool _ _)
 refine c_false rfl ai rfl ?_
 refine ja (j1 (j2 (j2 (j3 ?_))))
 refine r_assign (.int .i64 1) rfl rfl ?_
 refine j0 (j1 (j4 ?_))
 refine gen_F fun aj ak => ?_
 have aG := (ak 0).trans ao
 have aH := (ak 2).trans aB
 have aI : aj 7 = (.int .i64 1) := (ak 7).trans rfl
 obtain ⟨aJ, aK, hf⟩ := bind_some hf
 refine wp_mono (wp_iter (step := ident_isName_l1 a0 a2) (fun q a w => ∃ (F : Fr) (τ : S), a = fr 35 F ∧ w = τ.w ∧ Agr [6, 7, 23, 24, 25, 26, 27, 28, 29, 30, 31, 32, 33, 34] F aj ∧ ExtB s0.N s0 τ ∧ Wext ap τ ∧ F 7 = (.int .i64 q)) (fun o e a w => match o with | .inl q => e = .exit 0 ∧ ∃ (F : Fr) (τ : S), a = fr 35 F ∧ w = τ.w ∧ Agr [6, 7, 23, 24, 25, 26, 27, 28, 29, 30, 31, 32, 33, 34] F aj ∧ ExtB s0.N s0 τ ∧ Wext ap τ ∧ F 7 = (.int .i64 q) | .inr r => e = .ret ∧ ∃ (F : Fr) (τ : S) (va : Value), a = fr 35 F ∧ w = τ.w ∧ ExtB s0.N s0 τ ∧ ResV Go.Proofs.Try.prog 35 F τ.w (.tmp 6) va ∧ RpV τ r va) (by rintro (_ | _) a w ⟨h, _⟩ <;> cases h) ?_ _ _ _ _ _ aK ?_) ?_
 ·intro ac fl a w hf hI
  obtain ⟨aY, aL, rfl, rfl, ad, al, ar, ae⟩ := hI
  unfold ident_isName_l1 at hf
  have au := (ad 0 rfl).trans aG
  have aM := (ad 2 rfl).trans aH
  refine j2 (j2 (j3 ?_))
  refine r_move (.int .i64 ac) ae rfl ?_
  refine r_move (.string a0) au rfl ?_
  refine r_lenStr a0 rfl rfl Go.Proofs.Try.underlying9 ?_
  refine r_bin (.int .i64 ac) (.int .i64 (a0.size : Int)) (.bool (decide (ac < (a0.size : Int)))) rfl rfl rfl rfl (b_lss) ?_
  refine j0 (j1 ?_)
  refine if_else hf (fun am hf => ?_) (fun am hf => ?_)
  ·refine c_true rfl am rfl ?_
   refine ja (j1 (j2 (j4 (j2 (j3 ?_)))))
   refine r_move (.func (.func kk2) (List.toArray fi2) (List.toArray ca2)) aM rfl ?_
   refine r_move (.string a0) au rfl ?_
   refine r_move (.int .i64 ac) ae rfl ?_
   obtain ⟨x48, aN, hf⟩ := bind_some hf
   refine r_index (.string a0) (.int .i64 ac) (.int .u8 (x48.toNat : Int)) rfl rfl rfl rfl (ix_str Go.Proofs.Try.underlying9 aN) ?_
   obtain ⟨av, aO, hf⟩ := bind_some hf
   refine r_callv [.int .u8 (x48.toNat : Int)] rfl rfl (evs1 rfl) rfl (hk2 aL al _ _ _ (RpV.mkU8 _ _) aO) ?_
   intro aZ a1 aw aP
   have ax := al.x aw
   obtain rfl := RpV.bool aP
   refine r_un (.bool av) (.bool (!av)) rfl rfl u_not ?_
   refine j0 (j1 ?_)
   refine if_else hf (fun an hf => ?_) (fun an hf => ?_)
   ·refine c_true rfl an rfl ?_
    refine j2 (j3 ?_)
    refine r_assign (.bool false) rfl rfl ?_
    refine j0 (j1 (jb (j7 (j9 ?_))))
    obtain rfl := Option.some.inj hf
    exact ⟨rfl, _, _, (.bool false), rfl, rfl, ax, ⟨rfl, rfl⟩, (RpV.mkBool _ _)⟩
   refine c_false rfl an rfl ?_
   refine ja (j5 (j1 (j3 ?_)))
   refine r_move (.int .i64 ac) ae rfl ?_
   refine r_bin (.int .i64 ac) (.int .i64 1) (.int .i64 (w64 (ac + 1))) rfl rfl rfl rfl (b_add) ?_
   refine r_assign (.int .i64 (w64 (ac + 1))) rfl rfl ?_
   refine j0 ?_
   obtain rfl := Option.some.inj hf
   exact ⟨rfl, _, _, rfl, rfl, ((((((((((((((ad).put rfl).put rfl).put rfl).put rfl).put rfl).put rfl).put rfl).put rfl).put rfl).put rfl).put rfl).put rfl).put rfl), ax, (((Wext.refl _).trans ar).trans aw.wext), rfl⟩
  refine c_false rfl am rfl ?_
  refine jc (j8 ?_)
  obtain rfl := Option.some.inj hf
  exact ⟨rfl, _, _, rfl, rfl, (((((ad).put rfl).put rfl).put rfl).put rfl), al, ((Wext.refl _).trans ar), ae⟩
 ·exact ⟨_, _, rfl, rfl, (Agr.refl _ _), aq, (Wext.refl _), aI⟩
 intro e a w hp
 rcases aJ with a3 | r
 ·replace hf := onEnd_inl hf
  obtain ⟨rfl, a4, a5, rfl, rfl, a6, aQ, a7, a8⟩ := hp
  refine j6 (j1 (j2 (j3 ?_)))
  refine r_assign (.bool true) rfl rfl ?_
  refine j0 (j1 (jb ?_))
  obtain rfl := Option.some.inj hf
  refine ret_one (.bool true) rfl ⟨rfl, rfl⟩ aQ ?_
  exact (RpV.mkBool _ _)
 replace hf := onEnd_inr hf
 obtain ⟨rfl, a9, ba, aR, rfl, rfl, aS, aT, aU⟩ := hp
 refine j7 (j9 ?_)
 obtain rfl := Option.some.inj hf
 refine ret_one aR rfl aT aS ?_
 exact aU

def S_ident_isUpper (f : (UInt8 → Option Bool)) : Prop := ∀ (s0 : S) (v0 : Value) (a0 : UInt8) (r : Bool), RpV s0 a0 v0 → f a0 = some r → Ctr Go.Proofs.Try.prog 106 [v0] s0 (fun v τ => RpV τ r v)

set_option maxHeartbeats 1600000 in
set_option maxRecDepth 100000 in
theorem ok_ident_isUpper : S_ident_isUpper ident_isUpper := by
 intro s0 v0 a0 r h0 hf
 obtain rfl := RpV.u8 h0
 unfold ident_isUpper at hf
 have E0 : ExtB s0.N s0 s0 := ExtB.refl _ _
 refine ctr_of 9 Go.Proofs.Try.func106 rfl rfl rfl rfl ?_
 refine j2 (j3 ?_)
 refine r_assign (.bool false) rfl rfl ?_
 refine j0 (j1 (j2 (j3 ?_)))
 refine r_move (.int .u8 (a0.toNat : Int)) rfl rfl ?_
 refine r_bin (.int .u8 (a0.toNat : Int)) (.int .u8 65) (.bool (decide (65 ≤ (a0.toNat : Int)))) rfl rfl rfl rfl (b_geq) ?_
 refine r_move (.bool (decide (65 ≤ (a0.toNat : Int)))) rfl rfl ?_
 refine if_else hf (fun hc1 hf => ?_) (fun hc1 hf => ?_)
 ·refine r_guard (j := 2) (want := true) (d := 5) (c := decide (65 ≤ (a0.toNat : Int))) (v := true) rfl rfl hc1 rfl rfl ?_
  refine r_move (.int .u8 (a0.toNat : Int)) rfl rfl ?_
  refine r_guard (j := 2) (want := true) (d := 5) (c := decide (65 ≤ (a0.toNat : Int))) (v := true) rfl rfl hc1 rfl rfl ?_
  refine r_bin (.int .u8 (a0.toNat : Int)) (.int .u8 90) (.bool (decide ((a0.toNat : Int) ≤ 90))) rfl rfl rfl rfl (b_leq) ?_
  refine r_pick_t (c := decide (65 ≤ (a0.toNat : Int))) (.bool (decide ((a0.toNat : Int) ≤ 90))) rfl hc1 rfl rfl rfl rfl ?_
  refine r_assign (.bool (decide ((a0.toNat : Int) ≤ 90))) rfl rfl ?_
  refine j0 (j1 (jb ?_))
  obtain rfl := Option.some.inj hf
  refine ret_one (.bool (decide ((a0.toNat : Int) ≤ 90))) rfl ⟨rfl, rfl⟩ E0 ?_
  exact (RpV.mkBool _ _)
 refine r_skip (j := 2) (want := true) (d := 5) (c := decide (65 ≤ (a0.toNat : Int))) (v := false) rfl rfl hc1 rfl rfl ?_
 refine r_skip (j := 2) (want := true) (d := 5) (c := decide (65 ≤ (a0.toNat : Int))) (v := false) rfl rfl hc1 rfl rfl ?_
 refine r_pick_f (c := decide (65 ≤ (a0.toNat : Int))) (.bool false) rfl hc1 rfl rfl rfl rfl ?_
 refine r_assign (.bool false) rfl rfl ?_
 refine j0 (j1 (jb ?_))
 obtain rfl := Option.some.inj hf
 refine ret_one (.bool false) rfl ⟨rfl, rfl⟩ E0 ?_
 exact (RpV.mkBool _ _)

def S_ident_isLower (f : (UInt8 → Option Bool)) : Prop := ∀ (s0 : S) (v0 : Value) (a0 : UInt8) (r : Bool), RpV s0 a0 v0 → f a0 = some r → Ctr Go.Proofs.Try.prog 98 [v0] s0 (fun v τ => RpV τ r v)

set_option maxHeartbeats 1600000 in
set_option maxRecDepth 100000 in
theorem ok_ident_isLower : S_ident_isLower ident_isLower := by
 intro s0 v0 a0 r h0 hf
 obtain rfl := RpV.u8 h0
 unfold ident_isLower at hf
 have E0 : ExtB s0.N s0 s0 := ExtB.refl _ _
 refine ctr_of 9 Go.Proofs.Try.func98 rfl rfl rfl rfl ?_
 refine j2 (j3 ?_)
 refine r_assign (.bool false) rfl rfl ?_
 refine j0 (j1 (j2 (j3 ?_)))
 refine r_move (.int .u8 (a0.toNat : Int)) rfl rfl ?_
 refine r_bin (.int .u8 (a0.toNat : Int)) (.int .u8 97) (.bool (decide (97 ≤ (a0.toNat : Int)))) rfl rfl rfl rfl (b_geq) ?_
 refine r_move (.bool (decide (97 ≤ (a0.toNat : Int)))) rfl rfl ?_
 refine if_else hf (fun hc1 hf => ?_) (fun hc1 hf => ?_)
 ·refine r_guard (j := 2) (want := true) (d := 5) (c := decide (97 ≤ (a0.toNat : Int))) (v := true) rfl rfl hc1 rfl rfl ?_
  refine r_move (.int .u8 (a0.toNat : Int)) rfl rfl ?_
  refine r_guard (j := 2) (want := true) (d := 5) (c := decide (97 ≤ (a0.toNat : Int))) (v := true) rfl rfl hc1 rfl rfl ?_
  refine r_bin (.int .u8 (a0.toNat : Int)) (.int .u8 122) (.bool (decide ((a0.toNat : Int) ≤ 122))) rfl rfl rfl rfl (b_leq) ?_
  refine r_pick_t (c := decide (97 ≤ (a0.toNat : Int))) (.bool (decide ((a0.toNat : Int) ≤ 122))) rfl hc1 rfl rfl rfl rfl ?_
  refine r_assign (.bool (decide ((a0.toNat : Int) ≤ 122))) rfl rfl ?_
  refine j0 (j1 (jb ?_))
  obtain rfl := Option.some.inj hf
  refine ret_one (.bool (decide ((a0.toNat : Int) ≤ 122))) rfl ⟨rfl, rfl⟩ E0 ?_
  exact (RpV.mkBool _ _)
 refine r_skip (j := 2) (want := true) (d := 5) (c := decide (97 ≤ (a0.toNat : Int))) (v := false) rfl rfl hc1 rfl rfl ?_
 refine r_skip (j := 2) (want := true) (d := 5) (c := decide (97 ≤ (a0.toNat : Int))) (v := false) rfl rfl hc1 rfl rfl ?_
 refine r_pick_f (c := decide (97 ≤ (a0.toNat : Int))) (.bool false) rfl hc1 rfl rfl rfl rfl ?_
 refine r_assign (.bool false) rfl rfl ?_
 refine j0 (j1 (jb ?_))
 obtain rfl := Option.some.inj hf
 refine ret_one (.bool false) rfl ⟨rfl, rfl⟩ E0 ?_
 exact (RpV.mkBool _ _)

def S_ident_isDigit (f : (UInt8 → Option Bool)) : Prop := ∀ (s0 : S) (v0 : Value) (a0 : UInt8) (r : Bool), RpV s0 a0 v0 → f a0 = some r → Ctr Go.Proofs.Try.prog 100 [v0] s0 (fun v τ => RpV τ r v)

set_option maxHeartbeats 1600000 in
set_option maxRecDepth 100000 in
theorem ok_ident_isDigit : S_ident_isDigit ident_isDigit := by
 intro s0 v0 a0 r h0 hf
 obtain rfl := RpV.u8 h0
 unfold ident_isDigit at hf
 have E0 : ExtB s0.N s0 s0 := ExtB.refl _ _
 refine ctr_of 9 Go.Proofs.Try.func100 rfl rfl rfl rfl ?_
 refine j2 (j3 ?_)
 refine r_assign (.bool false) rfl rfl ?_
 refine j0 (j1 (j2 (j3 ?_)))
 refine r_move (.int .u8 (a0.toNat : Int)) rfl rfl ?_
 refine r_bin (.int .u8 (a0.toNat : Int)) (.int .u8 48) (.bool (decide (48 ≤ (a0.toNat : Int)))) rfl rfl rfl rfl (b_geq) ?_
 refine r_move (.bool (decide (48 ≤ (a0.toNat : Int)))) rfl rfl ?_
 refine if_else hf (fun hc1 hf => ?_) (fun hc1 hf => ?_)
 ·refine r_guard (j := 2) (want := true) (d := 5) (c := decide (48 ≤ (a0.toNat : Int))) (v := true) rfl rfl hc1 rfl rfl ?_
  refine r_move (.int .u8 (a0.toNat : Int)) rfl rfl ?_
  refine r_guard (j := 2) (want := true) (d := 5) (c := decide (48 ≤ (a0.toNat : Int))) (v := true) rfl rfl hc1 rfl rfl ?_
  refine r_bin (.int .u8 (a0.toNat : Int)) (.int .u8 57) (.bool (decide ((a0.toNat : Int) ≤ 57))) rfl rfl rfl rfl (b_leq) ?_
  refine r_pick_t (c := decide (48 ≤ (a0.toNat : Int))) (.bool (decide ((a0.toNat : Int) ≤ 57))) rfl hc1 rfl rfl rfl rfl ?_
  refine r_assign (.bool (decide ((a0.toNat : Int) ≤ 57))) rfl rfl ?_
  refine j0 (j1 (jb ?_))
  obtain rfl := Option.some.inj hf
  refine ret_one (.bool (decide ((a0.toNat : Int) ≤ 57))) rfl ⟨rfl, rfl⟩ E0 ?_
  exact (RpV.mkBool _ _)
 refine r_skip (j := 2) (want := true) (d := 5) (c := decide (48 ≤ (a0.toNat : Int))) (v := false) rfl rfl hc1 rfl rfl ?_
 refine r_skip (j := 2) (want := true) (d := 5) (c := decide (48 ≤ (a0.toNat : Int))) (v := false) rfl rfl hc1 rfl rfl ?_
 refine r_pick_f (c := decide (48 ≤ (a0.toNat : Int))) (.bool false) rfl hc1 rfl rfl rfl rfl ?_
 refine r_assign (.bool false) rfl rfl ?_
 refine j0 (j1 (jb ?_))
 obtain rfl := Option.some.inj hf
 refine ret_one (.bool false) rfl ⟨rfl, rfl⟩ E0 ?_
 exact (RpV.mkBool _ _)

def S_ident_IsVariable_1 (f : (UInt8 → Option Bool)) : Prop := ∀ (s0 : S) (v0 : Value) (a0 : UInt8) (r : Bool), RpV s0 a0 v0 → f a0 = some r → Ctr Go.Proofs.Try.prog 107 [v0] s0 (fun v τ => RpV τ r v)

set_option maxHeartbeats 1600000 in
set_option maxRecDepth 100000 in
theorem ok_ident_IsVariable_1 : S_ident_IsVariable_1 ident_IsVariable_1 := by
 intro s0 v0 a0 r h0 hf
 obtain rfl := RpV.u8 h0
 unfold ident_IsVariable_1 at hf
 have E0 : ExtB s0.N s0 s0 := ExtB.refl _ _
 refine ctr_of 17 Go.Proofs.Try.func107 rfl rfl rfl rfl ?_
 refine j2 (j3 ?_)
 refine r_assign (.bool false) rfl rfl ?_
 refine j0 (j1 (j2 (j3 ?_)))
 refine r_move (.int .u8 (a0.toNat : Int)) rfl rfl ?_
 obtain ⟨r1, e2, hf⟩ := bind_some hf
 refine r_call [.int .u8 (a0.toNat : Int)] (evs1 rfl) rfl (ok_ident_isLower _ _ _ _ (RpV.mkU8 _ _) e2) ?_
 intro v4 s3 k5 hr6
 have E7 := E0.x k5
 obtain rfl := RpV.bool hr6
 refine r_move (.bool r1) rfl rfl ?_
 refine gen_FL fun F8 hg9 => ?_
 have ah : F8 0 = (.int .u8 (a0.toNat : Int)) := (hg9 0).trans rfl
 have af : F8 5 = (.bool r1) := (hg9 5).trans rfl
 obtain ⟨aa, hq14, hf⟩ := bind_some hf
 refine wpl_take 3 (J := fun a w => ∃ (F : Fr) (τ : S), a = fr 17 F ∧ w = τ.w ∧ Agr [6, 7, 8] F F8 ∧ ExtB s0.N s0 τ ∧ Wext s3 τ ∧ F 8 = (.bool aa)) ?_ ?_
 ·have hf := hq14
  refine if_else hf (fun ac hf => ?_) (fun ac hf => ?_)
  ·refine r_skip (j := 2) (want := false) (d := 5) (c := r1) (v := true) rfl af ac rfl rfl ?_
   refine r_skip (j := 2) (want := false) (d := 5) (c := r1) (v := true) rfl af ac rfl rfl ?_
   refine r_pick_t (c := r1) (.bool true) af ac rfl rfl rfl rfl ?_
   refine j0 ?_
   obtain rfl := Option.some.inj hf
   exact ⟨rfl, _, _, rfl, rfl, ((((Agr.refl _ _).put rfl).put rfl).put rfl), E7, (Wext.refl _), rfl⟩
  refine r_guard (j := 2) (want := false) (d := 5) (c := r1) (v := false) rfl af ac rfl rfl ?_
  refine r_move (.int .u8 (a0.toNat : Int)) ah rfl ?_
  refine r_guard (j := 2) (want := false) (d := 5) (c := r1) (v := false) rfl af ac rfl rfl ?_
  obtain ⟨ap, aq, hf⟩ := bind_some hf
  refine r_call [.int .u8 (a0.toNat : Int)] (evs1 rfl) rfl (ok_ident_isUpper _ _ _ _ (RpV.mkU8 _ _) aq) ?_
  intro aG aH ai ar
  have au := E7.x ai
  obtain rfl := RpV.bool ar
  refine r_pick_f (c := r1) (.bool ap) af ac rfl rfl rfl rfl ?_
  refine j0 ?_
  obtain rfl := Option.some.inj hf
  exact ⟨rfl, _, _, rfl, rfl, ((((Agr.refl _ _).put rfl).put rfl).put rfl), au, ((Wext.refl _).trans ai.wext), rfl⟩
 rintro a w ⟨aI, av, rfl, rfl, aw, aj, aJ, ax⟩
 have ay := (aw 0 rfl).trans ah
 refine r_move (.bool aa) ax rfl ?_
 refine gen_FL fun ak al => ?_
 have am := (al 0).trans ay
 have ag : ak 9 = (.bool aa) := (al 9).trans rfl
 obtain ⟨ab, hq37, hf⟩ := bind_some hf
 refine wpl_take 3 (J := fun a w => ∃ (F : Fr) (τ : S), a = fr 17 F ∧ w = τ.w ∧ Agr [10, 11, 12] F ak ∧ ExtB s0.N s0 τ ∧ Wext av τ ∧ F 12 = (.bool ab)) ?_ ?_
 ·have hf := hq37
  refine if_else hf (fun ad hf => ?_) (fun ad hf => ?_)
  ·refine r_skip (j := 6) (want := false) (d := 9) (c := aa) (v := true) rfl ag ad rfl rfl ?_
   refine r_skip (j := 6) (want := false) (d := 9) (c := aa) (v := true) rfl ag ad rfl rfl ?_
   refine r_pick_t (c := aa) (.bool true) ag ad rfl rfl rfl rfl ?_
   refine j0 ?_
   obtain rfl := Option.some.inj hf
   exact ⟨rfl, _, _, rfl, rfl, ((((Agr.refl _ _).put rfl).put rfl).put rfl), aj, (Wext.refl _), rfl⟩
  refine r_guard (j := 6) (want := false) (d := 9) (c := aa) (v := false) rfl ag ad rfl rfl ?_
  refine r_move (.int .u8 (a0.toNat : Int)) am rfl ?_
  refine r_guard (j := 6) (want := false) (d := 9) (c := aa) (v := false) rfl ag ad rfl rfl ?_
  obtain ⟨az, aA, hf⟩ := bind_some hf
  refine r_call [.int .u8 (a0.toNat : Int)] (evs1 rfl) rfl (ok_ident_isDigit _ _ _ _ (RpV.mkU8 _ _) aA) ?_
  intro aK aL an aB
  have aC := aj.x an
  obtain rfl := RpV.bool aB
  refine r_pick_f (c := aa) (.bool az) ag ad rfl rfl rfl rfl ?_
  refine j0 ?_
  obtain rfl := Option.some.inj hf
  exact ⟨rfl, _, _, rfl, rfl, ((((Agr.refl _ _).put rfl).put rfl).put rfl), aC, ((Wext.refl _).trans an.wext), rfl⟩
 rintro a w ⟨aM, aN, rfl, rfl, aD, ao, aO, aE⟩
 have aF := (aD 0 rfl).trans am
 refine r_move (.bool ab) aE rfl ?_
 refine if_else hf (fun ae hf => ?_) (fun ae hf => ?_)
 ·refine r_skip (j := 10) (want := false) (d := 13) (c := ab) (v := true) rfl rfl ae rfl rfl ?_
  refine r_skip (j := 10) (want := false) (d := 13) (c := ab) (v := true) rfl rfl ae rfl rfl ?_
  refine r_pick_t (c := ab) (.bool true) rfl ae rfl rfl rfl rfl ?_
  refine r_assign (.bool true) rfl rfl ?_
  refine j0 (j1 (jb ?_))
  obtain rfl := Option.some.inj hf
  refine ret_one (.bool true) rfl ⟨rfl, rfl⟩ ao ?_
  exact (RpV.mkBool _ _)
 refine r_guard (j := 10) (want := false) (d := 13) (c := ab) (v := false) rfl rfl ae rfl rfl ?_
 refine r_move (.int .u8 (a0.toNat : Int)) aF rfl ?_
 refine r_guard (j := 10) (want := false) (d := 13) (c := ab) (v := false) rfl rfl ae rfl rfl ?_
 refine r_bin (.int .u8 (a0.toNat : Int)) (.int .u8 95) (.bool ((a0.toNat : Int) == 95)) rfl rfl rfl rfl (b_eql) ?_
 refine r_pick_f (c := ab) (.bool ((a0.toNat : Int) == 95)) rfl ae rfl rfl rfl rfl ?_
 refine r_assign (.bool ((a0.toNat : Int) == 95)) rfl rfl ?_
 refine j0 (j1 (jb ?_))
 obtain rfl := Option.some.inj hf
 refine ret_one (.bool ((a0.toNat : Int) == 95)) rfl ⟨rfl, rfl⟩ ao ?_
 exact (RpV.mkBool _ _)

def S_ident_IsVariable (f : (ByteArray → Option Bool)) : Prop := ∀ (s0 : S) (v0 : Value) (a0 : ByteArray) (r : Bool), RpV s0 a0 v0 → f a0 = some r → Ctr Go.Proofs.Try.prog 96 [v0] s0 (fun v τ => RpV τ r v)

set_option maxHeartbeats 1600000 in
set_option maxRecDepth 100000 in
theorem ok_ident_IsVariable : S_ident_IsVariable ident_IsVariable := by
 intro s0 v0 a0 r h0 hf
 obtain rfl := RpV.str h0
 unfold ident_IsVariable at hf
 have E0 : ExtB s0.N s0 s0 := ExtB.refl _ _
 refine ctr_of 5 Go.Proofs.Try.func96 rfl rfl rfl rfl ?_
 refine j2 (j3 ?_)
 refine r_assign (.bool false) rfl rfl ?_
 refine j0 (j1 (j2 (j3 ?_)))
 refine r_move (.string a0) rfl rfl ?_
 obtain ⟨r1, e2, hf⟩ := bind_some hf
 refine r_call [.string a0, .func (.func 106) #[] #[], .func (.func 107) #[] #[]] (evs3 rfl rfl rfl) rfl (ok_ident_isName _ _ _ _ _ _ _ _ (RpV.mkStr _ _) ⟨106, [], [], rfl, fun _ _ _ _ _ h1 h => (ok_ident_isUpper _ _ _ _ h1 h)⟩ ⟨107, [], [], rfl, fun _ _ _ _ _ h1 h => (ok_ident_IsVariable_1 _ _ _ _ h1 h)⟩ e2) ?_
 intro v4 s3 k5 hr6
 have E7 := E0.x k5
 obtain rfl := RpV.bool hr6
 refine r_assign (.bool r1) rfl rfl ?_
 refine j0 (j1 (jb ?_))
 obtain rfl := Option.some.inj hf
 refine ret_one (.bool r1) rfl ⟨rfl, rfl⟩ E7 ?_
 exact (RpV.mkBool _ _)

def S_value_validLabels (f : ((List ByteArray) → Option Bool)) : Prop := ∀ (s0 : S) (v0 : Value) (a0 : (List ByteArray)) (r : Bool), RpV s0 a0 v0 → f a0 = some r → Ctr Go.Proofs.Try.prog 81 [v0] s0 (fun v τ => RpV τ r v)

set_option maxHeartbeats 1600000 in
set_option maxRecDepth 100000 in
theorem ok_value_validLabels : S_value_validLabels value_validLabels := by
 intro s0 v0 a0 r h0 hf
 obtain ⟨A1, c2, rfl, h3⟩ := RpV.list h0
 unfold value_validLabels at hf
 have E0 : ExtB s0.N s0 s0 := ExtB.refl _ _
 refine ctr_of 18 Go.Proofs.Try.func81 rfl rfl rfl rfl ?_
 refine j2 (j3 ?_)
 refine r_assign (.bool false) rfl rfl ?_
 refine j0 (j1 (j2 (j2 (j3 ?_))))
 refine r_move (.slice A1 a0.length c2) rfl rfl ?_
 obtain ⟨r4, e5, hf⟩ := bind_some hf
 refine r_call [.slice A1 a0.length c2, .func (.func 39) #[] #[]] (evs2 rfl rfl) rfl (ok_value_ascending_string _ _ _ _ _ _ (RpV.mkList h3) ⟨39, [], [], rfl, fun _ _ _ _ _ _ _ h1 h2 h => (ok_strings_Compare _ _ _ _ _ _ h1 h2 h)⟩ e5) ?_
 intro v7 s6 k8 hr9
 have aj := E0.x k8
 obtain rfl := RpV.bool hr9
 refine r_un (.bool r4) (.bool (!r4)) rfl rfl u_not ?_
 refine j0 (j1 ?_)
 refine if_else hf (fun ae hf => ?_) (fun ae hf => ?_)
 ·refine c_true rfl ae rfl ?_
  refine j2 (j3 ?_)
  refine r_assign (.bool false) rfl rfl ?_
  refine j0 (j1 (jb (j9 ?_)))
  obtain rfl := Option.some.inj hf
  refine ret_one (.bool false) rfl ⟨rfl, rfl⟩ aj ?_
  exact (RpV.mkBool _ _)
 refine c_false rfl ae rfl ?_
 refine ja (j1 (j2 (j2 (j3 ?_))))
 refine r_move (.slice A1 a0.length c2) rfl rfl ?_
 refine r_len A1 a0.length c2 rfl rfl Go.Proofs.Try.underlying25 ?_
 refine r_move (.int .i64 0) rfl rfl ?_
 refine j0 (j1 (j4 ?_))
 refine gen_F fun aa af => ?_
 have ao : aa 8 = (.slice A1 a0.length c2) := (af 8).trans rfl
 have ap : aa 9 = (.int .i64 (a0.length : Int)) := (af 9).trans rfl
 have aq : aa 10 = (.int .i64 0) := (af 10).trans rfl
 obtain ⟨ar, au, hf⟩ := bind_some hf
 refine wp_mono (wp_iter (step := value_validLabels_l1 a0) (fun q a w => ∃ (F : Fr) (τ : S), a = fr 18 F ∧ w = τ.w ∧ Agr [2, 4, 10, 11, 12, 13, 14, 15, 16, 17] F aa ∧ ExtB s0.N s0 τ ∧ Wext s6 τ ∧ F 10 = (.int .i64 q)) (fun o e a w => match o with | .inl q => e = .exit 0 ∧ ∃ (F : Fr) (τ : S), a = fr 18 F ∧ w = τ.w ∧ Agr [2, 4, 10, 11, 12, 13, 14, 15, 16, 17] F aa ∧ ExtB s0.N s0 τ ∧ Wext s6 τ ∧ F 10 = (.int .i64 q) | .inr r => e = .ret ∧ ∃ (F : Fr) (τ : S) (va : Value), a = fr 18 F ∧ w = τ.w ∧ ExtB s0.N s0 τ ∧ ResV Go.Proofs.Try.prog 18 F τ.w (.tmp 2) va ∧ RpV τ r va) (by rintro (_ | _) a w ⟨h, _⟩ <;> cases h) ?_ _ _ _ _ _ au ?_) ?_
 ·intro ab fl a w hf hI
  obtain ⟨aJ, aK, rfl, rfl, ac, ak, ag, ad⟩ := hI
  unfold value_validLabels_l1 at hf
  have av := (ac 8 rfl).trans ao
  have aw := (ac 9 rfl).trans ap
  refine j2 (j3 ?_)
  refine r_bin (.int .i64 ab) (.int .i64 (a0.length : Int)) (.bool (decide (ab < (a0.length : Int)))) ad aw rfl rfl (b_lss) ?_
  refine j0 (j1 (j2 ?_))
  refine if_else hf (fun ah hf => ?_) (fun ah hf => ?_)
  ·refine c_true rfl ah rfl ?_
   refine ja (j1 (j2 (j4 (j2 (j3 ?_)))))
   obtain ⟨x28, ax, hf⟩ := bind_some hf
   refine r_indexAddr (T := 25) (E := 9) ((h3.mono k8.wext).mono ag) ax av ad rfl rfl Go.Proofs.Try.underlying25 sz9 ?_
   intro ay az aL aA aB
   obtain rfl := aA
   refine r_load ay az (.string x28) rfl rfl (loads_one to9 (aB.2 0 _ rfl)) ?_
   refine r_assign (.string x28) rfl rfl ?_
   refine j0 (j1 (j2 (j3 ?_)))
   refine r_move (.string x28) rfl rfl ?_
   obtain ⟨al, aC, hf⟩ := bind_some hf
   refine r_call [.string x28] (evs1 rfl) rfl (ok_ident_IsVariable _ _ _ _ (RpV.mkStr _ _) aC) ?_
   intro aM aN am aD
   have an := ak.x am
   obtain rfl := RpV.bool aD
   refine r_un (.bool al) (.bool (!al)) rfl rfl u_not ?_
   refine j0 (j1 ?_)
   refine if_else hf (fun ai hf => ?_) (fun ai hf => ?_)
   ·refine c_true rfl ai rfl ?_
    refine j2 (j3 ?_)
    refine r_assign (.bool false) rfl rfl ?_
    refine j0 (j1 (jb (j7 (j9 ?_))))
    obtain rfl := Option.some.inj hf
    exact ⟨rfl, _, _, (.bool false), rfl, rfl, an, ⟨rfl, rfl⟩, (RpV.mkBool _ _)⟩
   refine c_false rfl ai rfl ?_
   refine ja (j5 (j1 (j3 ?_)))
   refine r_bin (.int .i64 ab) (.int .i64 1) (.int .i64 (w64 (ab + 1))) ad rfl rfl rfl (b_add) ?_
   refine r_move (.int .i64 (w64 (ab + 1))) rfl rfl ?_
   refine j0 ?_
   obtain rfl := Option.some.inj hf
   exact ⟨rfl, _, _, rfl, rfl, ((((((((((ac).put rfl).put rfl).put rfl).put rfl).put rfl).put rfl).put rfl).put rfl).put rfl), an, (((Wext.refl _).trans ag).trans am.wext), rfl⟩
  refine c_false rfl ah rfl ?_
  refine jc (j8 ?_)
  obtain rfl := Option.some.inj hf
  exact ⟨rfl, _, _, rfl, rfl, ((ac).put rfl), ak, ((Wext.refl _).trans ag), ad⟩
 ·exact ⟨_, _, rfl, rfl, (Agr.refl _ _), aj, (Wext.refl _), aq⟩
 intro e a w hp
 rcases ar with aO | r
 ·replace hf := onEnd_inl hf
  obtain ⟨rfl, aP, aQ, rfl, rfl, aR, aE, aS, aT⟩ := hp
  refine j6 (j1 (j2 (j3 ?_)))
  refine r_assign (.bool true) rfl rfl ?_
  refine j0 (j1 (jb ?_))
  obtain rfl := Option.some.inj hf
  refine ret_one (.bool true) rfl ⟨rfl, rfl⟩ aE ?_
  exact (RpV.mkBool _ _)
 replace hf := onEnd_inr hf
 obtain ⟨rfl, aU, aV, aF, rfl, rfl, aG, aH, aI⟩ := hp
 refine j7 (j9 ?_)
 obtain rfl := Option.some.inj hf
 refine ret_one aF rfl aH aG ?_
 exact aI

def S_ident_IsAtom_1 (f : (UInt8 → Option Bool)) : Prop := ∀ (s0 : S) (v0 : Value) (a0 : UInt8) (r : Bool), RpV s0 a0 v0 → f a0 = some r → Ctr Go.Proofs.Try.prog 99 [v0] s0 (fun v τ => RpV τ r v)

set_option maxHeartbeats 1600000 in
set_option maxRecDepth 100000 in
theorem ok_ident_IsAtom_1 : S_ident_IsAtom_1 ident_IsAtom_1 := by
 intro s0 v0 a0 r h0 hf
 obtain rfl := RpV.u8 h0
 unfold ident_IsAtom_1 at hf
 have E0 : ExtB s0.N s0 s0 := ExtB.refl _ _
 refine ctr_of 13 Go.Proofs.Try.func99 rfl rfl rfl rfl ?_
 refine j2 (j3 ?_)
 refine r_assign (.bool false) rfl rfl ?_
 refine j0 (j1 (j2 (j3 ?_)))
 refine r_move (.int .u8 (a0.toNat : Int)) rfl rfl ?_
 obtain ⟨r1, e2, hf⟩ := bind_some hf
 refine r_call [.int .u8 (a0.toNat : Int)] (evs1 rfl) rfl (ok_ident_isLower _ _ _ _ (RpV.mkU8 _ _) e2) ?_
 intro v4 s3 k5 hr6
 have E7 := E0.x k5
 obtain rfl := RpV.bool hr6
 refine r_move (.bool r1) rfl rfl ?_
 refine gen_FL fun F8 hg9 => ?_
 have ae : F8 0 = (.int .u8 (a0.toNat : Int)) := (hg9 0).trans rfl
 have ad : F8 5 = (.bool r1) := (hg9 5).trans rfl
 obtain ⟨aa, hq14, hf⟩ := bind_some hf
 refine wpl_take 3 (J := fun a w => ∃ (F : Fr) (τ : S), a = fr 13 F ∧ w = τ.w ∧ Agr [6, 7, 8] F F8 ∧ ExtB s0.N s0 τ ∧ Wext s3 τ ∧ F 8 = (.bool aa)) ?_ ?_
 ·have hf := hq14
  refine if_else hf (fun ab hf => ?_) (fun ab hf => ?_)
  ·refine r_skip (j := 2) (want := false) (d := 5) (c := r1) (v := true) rfl ad ab rfl rfl ?_
   refine r_skip (j := 2) (want := false) (d := 5) (c := r1) (v := true) rfl ad ab rfl rfl ?_
   refine r_pick_t (c := r1) (.bool true) ad ab rfl rfl rfl rfl ?_
   refine j0 ?_
   obtain rfl := Option.some.inj hf
   exact ⟨rfl, _, _, rfl, rfl, ((((Agr.refl _ _).put rfl).put rfl).put rfl), E7, (Wext.refl _), rfl⟩
  refine r_guard (j := 2) (want := false) (d := 5) (c := r1) (v := false) rfl ad ab rfl rfl ?_
  refine r_move (.int .u8 (a0.toNat : Int)) ae rfl ?_
  refine r_guard (j := 2) (want := false) (d := 5) (c := r1) (v := false) rfl ad ab rfl rfl ?_
  obtain ⟨ah, ai, hf⟩ := bind_some hf
  refine r_call [.int .u8 (a0.toNat : Int)] (evs1 rfl) rfl (ok_ident_isDigit _ _ _ _ (RpV.mkU8 _ _) ai) ?_
  intro ao ap af aj
  have ak := E7.x af
  obtain rfl := RpV.bool aj
  refine r_pick_f (c := r1) (.bool ah) ad ab rfl rfl rfl rfl ?_
  refine j0 ?_
  obtain rfl := Option.some.inj hf
  exact ⟨rfl, _, _, rfl, rfl, ((((Agr.refl _ _).put rfl).put rfl).put rfl), ak, ((Wext.refl _).trans af.wext), rfl⟩
 rintro a w ⟨aq, ar, rfl, rfl, al, ag, au, am⟩
 have an := (al 0 rfl).trans ae
 refine r_move (.bool aa) am rfl ?_
 refine if_else hf (fun ac hf => ?_) (fun ac hf => ?_)
 ·refine r_skip (j := 6) (want := false) (d := 9) (c := aa) (v := true) rfl rfl ac rfl rfl ?_
  refine r_skip (j := 6) (want := false) (d := 9) (c := aa) (v := true) rfl rfl ac rfl rfl ?_
  refine r_pick_t (c := aa) (.bool true) rfl ac rfl rfl rfl rfl ?_
  refine r_assign (.bool true) rfl rfl ?_
  refine j0 (j1 (jb ?_))
  obtain rfl := Option.some.inj hf
  refine ret_one (.bool true) rfl ⟨rfl, rfl⟩ ag ?_
  exact (RpV.mkBool _ _)
 refine r_guard (j := 6) (want := false) (d := 9) (c := aa) (v := false) rfl rfl ac rfl rfl ?_
 refine r_move (.int .u8 (a0.toNat : Int)) an rfl ?_
 refine r_guard (j := 6) (want := false) (d := 9) (c := aa) (v := false) rfl rfl ac rfl rfl ?_
 refine r_bin (.int .u8 (a0.toNat : Int)) (.int .u8 95) (.bool ((a0.toNat : Int) == 95)) rfl rfl rfl rfl (b_eql) ?_
 refine r_pick_f (c := aa) (.bool ((a0.toNat : Int) == 95)) rfl ac rfl rfl rfl rfl ?_
 refine r_assign (.bool ((a0.toNat : Int) == 95)) rfl rfl ?_
 refine j0 (j1 (jb ?_))
 obtain rfl := Option.some.inj hf
 refine ret_one (.bool ((a0.toNat : Int) == 95)) rfl ⟨rfl, rfl⟩ ag ?_
 exact (RpV.mkBool _ _)

def S_ident_IsAtom (f : (ByteArray → Option Bool)) : Prop := ∀ (s0 : S) (v0 : Value) (a0 : ByteArray) (r : Bool), RpV s0 a0 v0 → f a0 = some r → Ctr Go.Proofs.Try.prog 82 [v0] s0 (fun v τ => RpV τ r v)

set_option maxHeartbeats 1600000 in
set_option maxRecDepth 100000 in
theorem ok_ident_IsAtom : S_ident_IsAtom ident_IsAtom := by
 intro s0 v0 a0 r h0 hf
 obtain rfl := RpV.str h0
 unfold ident_IsAtom at hf
 have E0 : ExtB s0.N s0 s0 := ExtB.refl _ _
 refine ctr_of 5 Go.Proofs.Try.func82 rfl rfl rfl rfl ?_
 refine j2 (j3 ?_)
 refine r_assign (.bool false) rfl rfl ?_
 refine j0 (j1 (j2 (j3 ?_)))
 refine r_move (.string a0) rfl rfl ?_
 obtain ⟨r1, e2, hf⟩ := bind_some hf
 refine r_call [.string a0, .func (.func 98) #[] #[], .func (.func 99) #[] #[]] (evs3 rfl rfl rfl) rfl (ok_ident_isName _ _ _ _ _ _ _ _ (RpV.mkStr _ _) ⟨98, [], [], rfl, fun _ _ _ _ _ h1 h => (ok_ident_isLower _ _ _ _ h1 h)⟩ ⟨99, [], [], rfl, fun _ _ _ _ _ h1 h => (ok_ident_IsAtom_1 _ _ _ _ h1 h)⟩ e2) ?_
 intro v4 s3 k5 hr6
 have E7 := E0.x k5
 obtain rfl := RpV.bool hr6
 refine r_assign (.bool r1) rfl rfl ?_
 refine j0 (j1 (jb ?_))
 obtain rfl := Option.some.inj hf
 refine ret_one (.bool r1) rfl ⟨rfl, rfl⟩ E7 ?_
 exact (RpV.mkBool _ _)

def S_cmp_isNaN_int (f : (Int → Option Bool)) : Prop := ∀ (s0 : S) (v0 : Value) (a0 : Int) (r : Bool), RpV s0 a0 v0 → f a0 = some r → Ctr Go.Proofs.Try.prog 63 [v0] s0 (fun v τ => RpV τ r v)

set_option maxHeartbeats 1600000 in
set_option maxRecDepth 100000 in
theorem ok_cmp_isNaN_int : S_cmp_isNaN_int cmp_isNaN_int := by
 intro s0 v0 a0 r h0 hf
 obtain rfl := RpV.int h0
 unfold cmp_isNaN_int at hf
 have E0 : ExtB s0.N s0 s0 := ExtB.refl _ _
 refine ctr_of 6 Go.Proofs.Try.func63 rfl rfl rfl rfl ?_
 refine j2 (j3 ?_)
 refine r_assign (.bool false) rfl rfl ?_
 refine j0 (j1 (j2 (j3 ?_)))
 refine r_move (.int .i64 a0) rfl rfl ?_
 refine r_move (.int .i64 a0) rfl rfl ?_
 refine r_bin (.int .i64 a0) (.int .i64 a0) (.bool (a0 != a0)) rfl rfl rfl rfl (b_neq) ?_
 refine r_assign (.bool (a0 != a0)) rfl rfl ?_
 refine j0 (j1 (jb ?_))
 obtain rfl := Option.some.inj hf
 refine ret_one (.bool (a0 != a0)) rfl ⟨rfl, rfl⟩ E0 ?_
 exact (RpV.mkBool _ _)

def S_cmp_Compare_int (f : (Int → Int → Option Int)) : Prop := ∀ (s0 : S) (v0 : Value) (v1 : Value) (a0 : Int) (a1 : Int) (r : Int), RpV s0 a0 v0 → RpV s0 a1 v1 → f a0 a1 = some r → Ctr Go.Proofs.Try.prog 37 [v0, v1] s0 (fun v τ => RpV τ r v)

set_option maxHeartbeats 1600000 in
set_option maxRecDepth 100000 in
theorem ok_cmp_Compare_int : S_cmp_Compare_int cmp_Compare_int := by
 intro s0 v0 v1 a0 a1 r h0 h1 hf
 obtain rfl := RpV.int h0
 obtain rfl := RpV.int h1
 unfold cmp_Compare_int at hf
 have E0 : ExtB s0.N s0 s0 := ExtB.refl _ _
 refine ctr_of 20 Go.Proofs.Try.func37 rfl rfl rfl rfl ?_
 refine j2 (j3 ?_)
 refine r_assign (.int .i64 0) rfl rfl ?_
 refine j0 (j1 (j2 (j3 ?_)))
 refine r_move (.int .i64 a0) rfl rfl ?_
 obtain ⟨r1, e2, hf⟩ := bind_some hf
 refine r_call [.int .i64 a0] (evs1 rfl) rfl (ok_cmp_isNaN_int _ _ _ _ (RpV.mkInt _ _) e2) ?_
 intro v4 s3 k5 hr6
 have E7 := E0.x k5
 obtain rfl := RpV.bool hr6
 refine r_assign (.bool r1) rfl rfl ?_
 refine j0 (j1 (j2 (j3 ?_)))
 refine r_move (.int .i64 a1) rfl rfl ?_
 obtain ⟨r8, e9, hf⟩ := bind_some hf
 refine r_call [.int .i64 a1] (evs1 rfl) rfl (ok_cmp_isNaN_int _ _ _ _ (RpV.mkInt _ _) e9) ?_
 intro ai aj ag ah
 have aa := E7.x ag
 obtain rfl := RpV.bool ah
 refine r_assign (.bool r8) rfl rfl ?_
 refine j0 (j1 (j2 (j2 (j3 ?_))))
 refine r_move (.bool r1) rfl rfl ?_
 refine j0 (j1 ?_)
 refine if_else hf (fun ab hf => ?_) (fun ab hf => ?_)
 ·refine c_true rfl ab rfl ?_
  refine j2 (j2 (j3 ?_))
  refine r_move (.bool r8) rfl rfl ?_
  refine j0 (j1 ?_)
  refine if_else hf (fun ac hf => ?_) (fun ac hf => ?_)
  ·refine c_true rfl ac rfl ?_
   refine j2 (j3 ?_)
   refine r_assign (.int .i64 0) rfl rfl ?_
   refine j0 (j1 (jb (j9 (j9 ?_))))
   obtain rfl := Option.some.inj hf
   refine ret_one (.int .i64 0) rfl ⟨rfl, rfl⟩ aa ?_
   exact (RpV.mkInt _ _)
  refine c_false rfl ac rfl ?_
  refine ja (j1 (j2 (j3 ?_)))
  refine r_assign (.int .i64 (-1)) rfl rfl ?_
  refine j0 (j1 (jb (j9 ?_)))
  obtain rfl := Option.some.inj hf
  refine ret_one (.int .i64 (-1)) rfl ⟨rfl, rfl⟩ aa ?_
  exact (RpV.mkInt _ _)
 refine c_false rfl ab rfl ?_
 refine ja (j1 (j2 (j2 (j3 ?_))))
 refine r_move (.bool r8) rfl rfl ?_
 refine j0 (j1 ?_)
 refine if_else hf (fun ad hf => ?_) (fun ad hf => ?_)
 ·refine c_true rfl ad rfl ?_
  refine j2 (j3 ?_)
  refine r_assign (.int .i64 1) rfl rfl ?_
  refine j0 (j1 (jb (j9 ?_)))
  obtain rfl := Option.some.inj hf
  refine ret_one (.int .i64 1) rfl ⟨rfl, rfl⟩ aa ?_
  exact (RpV.mkInt _ _)
 refine c_false rfl ad rfl ?_
 refine ja (j1 (j2 (j2 (j3 ?_))))
 refine r_move (.int .i64 a0) rfl rfl ?_
 refine r_move (.int .i64 a1) rfl rfl ?_
 refine r_bin (.int .i64 a0) (.int .i64 a1) (.bool (decide (a0 < a1))) rfl rfl rfl rfl (b_lss) ?_
 refine j0 (j1 ?_)
 refine if_else hf (fun ae hf => ?_) (fun ae hf => ?_)
 ·refine c_true rfl ae rfl ?_
  refine j2 (j3 ?_)
  refine r_assign (.int .i64 (-1)) rfl rfl ?_
  refine j0 (j1 (jb (j9 ?_)))
  obtain rfl := Option.some.inj hf
  refine ret_one (.int .i64 (-1)) rfl ⟨rfl, rfl⟩ aa ?_
  exact (RpV.mkInt _ _)
 refine c_false rfl ae rfl ?_
 refine ja (j1 (j2 (j2 (j3 ?_))))
 refine r_move (.int .i64 a0) rfl rfl ?_
 refine r_move (.int .i64 a1) rfl rfl ?_
 refine r_bin (.int .i64 a0) (.int .i64 a1) (.bool (decide (a1 < a0))) rfl rfl rfl rfl (b_gtr) ?_
 refine j0 (j1 ?_)
 refine if_else hf (fun af hf => ?_) (fun af hf => ?_)
 ·refine c_true rfl af rfl ?_
  refine j2 (j3 ?_)
  refine r_assign (.int .i64 1) rfl rfl ?_
  refine j0 (j1 (jb (j9 ?_)))
  obtain rfl := Option.some.inj hf
  refine ret_one (.int .i64 1) rfl ⟨rfl, rfl⟩ aa ?_
  exact (RpV.mkInt _ _)
 refine c_false rfl af rfl ?_
 refine ja (j1 (j2 (j3 ?_)))
 refine r_assign (.int .i64 0) rfl rfl ?_
 refine j0 (j1 (jb ?_))
 obtain rfl := Option.some.inj hf
 refine ret_one (.int .i64 0) rfl ⟨rfl, rfl⟩ aa ?_
 exact (RpV.mkInt _ _)

def S_ident_CompareKeys (f : (Key → Key → Option Int)) : Prop := ∀ (s0 : S) (v0 : Value) (v1 : Value) (a0 : Key) (a1 : Key) (r : Int), RpV s0 a0 v0 → RpV s0 a1 v1 → f a0 a1 = some r → Ctr Go.Proofs.Try.prog 41 [v0, v1] s0 (fun v τ => RpV τ r v)

set_option maxHeartbeats 1600000 in
set_option maxRecDepth 100000 in
theorem ok_ident_CompareKeys : S_ident_CompareKeys ident_CompareKeys := by
 intro s0 v0 v1 a0 a1 r h0 h1 hf
 obtain rfl := Key.rpv h0
 obtain rfl := Key.rpv h1
 unfold ident_CompareKeys at hf
 have E0 : ExtB s0.N s0 s0 := ExtB.refl _ _
 refine ctr_of 19 Go.Proofs.Try.func41 rfl rfl rfl rfl ?_
 refine j2 (j3 ?_)
 refine r_box (B := s0.N) 1 E0.size (Key.ag a0) (Key.cs a0) rfl rfl rfl ?_
 intro s2 b1 k3 hb4
 have E5 := E0.x k3
 refine r_box (B := s0.N) 2 E5.size (Key.ag a1) (Key.cs a1) rfl rfl rfl ?_
 intro s7 b6 k8 hb9
 have af := E5.x k8
 refine r_assign (.int .i64 0) rfl rfl ?_
 refine j0 (j1 (j2 (j2 (j3 ?_))))
 refine r_fieldAddr b1 0 0 0 rfl rfl fo60_0 rfl ?_
 refine r_load b1 0 (.int .i64 a0.Kind) rfl rfl (loads_one to3 (((hb4.ext k8).cell 0).trans rfl)) ?_
 refine r_fieldAddr b6 0 0 0 rfl rfl fo60_0 rfl ?_
 refine r_load b6 0 (.int .i64 a1.Kind) rfl rfl (loads_one to3 ((hb9.cell 0).trans rfl)) ?_
 obtain ⟨aa, ag, hf⟩ := bind_some hf
 refine r_call [.int .i64 a0.Kind, .int .i64 a1.Kind] (evs2 rfl rfl) rfl (ok_cmp_Compare_int _ _ _ _ _ _ (RpV.mkInt _ _) (RpV.mkInt _ _) ag) ?_
 intro am an ab ah
 have ad := af.x ab
 obtain rfl := RpV.int ah
 refine r_assign (.int .i64 aa) rfl rfl ?_
 refine j0 (j1 (j2 (j3 ?_)))
 refine r_move (.int .i64 aa) rfl rfl ?_
 refine r_bin (.int .i64 aa) (.int .i64 0) (.bool (aa != 0)) rfl rfl rfl rfl (b_neq) ?_
 refine j0 (j1 ?_)
 refine if_else hf (fun ac hf => ?_) (fun ac hf => ?_)
 ·refine c_true rfl ac rfl ?_
  refine j2 (j3 ?_)
  refine r_move (.int .i64 aa) rfl rfl ?_
  refine r_assign (.int .i64 aa) rfl rfl ?_
  refine j0 (j1 (jb (j9 ?_)))
  obtain rfl := Option.some.inj hf
  refine ret_one (.int .i64 aa) rfl ⟨rfl, rfl⟩ ad ?_
  exact (RpV.mkInt _ _)
 refine c_false rfl ac rfl ?_
 refine ja (j1 (j2 (j3 ?_)))
 refine r_fieldAddr b1 0 1 1 rfl rfl fo60_1 rfl ?_
 refine r_load b1 1 (.string a0.Text) rfl rfl (loads_one to9 ((((hb4.ext k8).ext ab).cell 1).trans rfl)) ?_
 refine r_fieldAddr b6 0 1 1 rfl rfl fo60_1 rfl ?_
 refine r_load b6 1 (.string a1.Text) rfl rfl (loads_one to9 (((hb9.ext ab).cell 1).trans rfl)) ?_
 obtain ⟨ae, ai, hf⟩ := bind_some hf
 refine r_call [.string a0.Text, .string a1.Text] (evs2 rfl rfl) rfl (ok_strings_Compare _ _ _ _ _ _ (RpV.mkStr _ _) (RpV.mkStr _ _) ai) ?_
 intro ao ap aj ak
 have al := ad.x aj
 obtain rfl := RpV.int ak
 refine r_assign (.int .i64 ae) rfl rfl ?_
 refine j0 (j1 (jb ?_))
 obtain rfl := Option.some.inj hf
 refine ret_one (.int .i64 ae) rfl ⟨rfl, rfl⟩ al ?_
 exact (RpV.mkInt _ _)

def S_value_ascending_api_Key (f : ((List Key) → (Key → Key → Option Int) → Option Bool)) : Prop := ∀ (s0 : S) (v0 : Value) (v1 : Value) (a0 : (List Key)) (a1 : (Key → Key → Option Int)) (r : Bool), RpV s0 a0 v0 → Fn2 Go.Proofs.Try.prog s0 v1 a1 → f a0 a1 = some r → Ctr Go.Proofs.Try.prog 101 [v0, v1] s0 (fun v τ => RpV τ r v)

set_option maxHeartbeats 1600000 in
set_option maxRecDepth 100000 in
theorem ok_value_ascending_api_Key : S_value_ascending_api_Key value_ascending_api_Key := by
 intro s0 v0 v1 a0 a1 r h0 h1 hf
 obtain ⟨A1, c2, rfl, h3⟩ := RpV.list h0
 obtain ⟨kk1, fi1, ca1, rfl, hk1⟩ := h1
 unfold value_ascending_api_Key at hf
 have E0 : ExtB s0.N s0 s0 := ExtB.refl _ _
 refine ctr_of 24 Go.Proofs.Try.func101 rfl rfl rfl rfl ?_
 refine j2 (j3 ?_)
 refine r_assign (.bool false) rfl rfl ?_
 refine j0 (j1 (j2 (j2 (j3 ?_))))
 refine r_assign (.int .i64 1) rfl rfl ?_
 refine j0 (j1 (j4 ?_))
 refine gen_F fun F4 hg5 => ?_
 have f6 : F4 0 = (.slice A1 a0.length c2) := (hg5 0).trans rfl
 have f7 : F4 1 = (.func (.func kk1) (List.toArray fi1) (List.toArray ca1)) := (hg5 1).trans rfl
 have f9 : F4 5 = (.int .i64 1) := (hg5 5).trans rfl
 obtain ⟨av, aw, hf⟩ := bind_some hf
 refine wp_mono (wp_iter (step := value_ascending_api_Key_l1 a0 a1) (fun q a w => ∃ (F : Fr) (τ : S), a = fr 24 F ∧ w = τ.w ∧ Agr [4, 5, 6, 7, 8, 9, 10, 11, 12, 13, 14, 15, 16, 17, 18, 19, 20, 21, 22, 23] F F4 ∧ ExtB s0.N s0 τ ∧ Wext s0 τ ∧ F 5 = (.int .i64 q)) (fun o e a w => match o with | .inl q => e = .exit 0 ∧ ∃ (F : Fr) (τ : S), a = fr 24 F ∧ w = τ.w ∧ Agr [4, 5, 6, 7, 8, 9, 10, 11, 12, 13, 14, 15, 16, 17, 18, 19, 20, 21, 22, 23] F F4 ∧ ExtB s0.N s0 τ ∧ Wext s0 τ ∧ F 5 = (.int .i64 q) | .inr r => e = .ret ∧ ∃ (F : Fr) (τ : S) (va : Value), a = fr 24 F ∧ w = τ.w ∧ ExtB s0.N s0 τ ∧ ResV Go.Proofs.Try.prog 24 F τ.w (.tmp 4) va ∧ RpV τ r va) (by rintro (_ | _) a w ⟨h, _⟩ <;> cases h) ?_ _ _ _ _ _ aw ?_) ?_
 ·intro aa fl a w hf hI
  obtain ⟨bm, bn, rfl, rfl, ad, af, ae, ab⟩ := hI
  unfold value_ascending_api_Key_l1 at hf
  have ag := (ad 0 rfl).trans f6
  have ax := (ad 1 rfl).trans f7
  refine j2 (j2 (j3 ?_))
  refine r_move (.int .i64 aa) ab rfl ?_
  refine r_move (.slice A1 a0.length c2) ag rfl ?_
  refine r_len A1 a0.length c2 rfl rfl Go.Proofs.Try.underlying23 ?_
  refine r_bin (.int .i64 aa) (.int .i64 (a0.length : Int)) (.bool (decide (aa < (a0.length : Int)))) rfl rfl rfl rfl (b_lss) ?_
  refine j0 (j1 ?_)
  refine if_else hf (fun ah hf => ?_) (fun ah hf => ?_)
  ·refine c_true rfl ah rfl ?_
   refine ja (j1 (j2 (j4 (j2 ?_))))
   obtain ⟨x20, ay, hf⟩ := bind_some hf
   obtain ⟨x22, az, hf⟩ := bind_some hf
   obtain ⟨ac, aA, hf⟩ := bind_some hf
   refine wp_draw (B := frExt s0.N) [some 12, some 13, some 14, some 15, some 16, some 17, some 18, some 19, some 20, some 21, some 22, some 23] [[], [], [], [2], [1, 2, 3], [1, 2, 3, 4], [], [], [6, 7], [6, 7, 8], [0, 1, 2, 3, 4, 5, 6, 7, 8, 9], [0, 1, 2, 3, 4, 5, 6, 7, 8, 9, 10]] [Fct.eqv (.func (.func kk1) (List.toArray fi1) (List.toArray ca1)), Fct.eqv (.slice A1 a0.length c2), Fct.eqv (.int .i64 aa), Fct.eqv (.int .i64 (w64 (aa - 1))), Fct.elem (x20 : Key), Fct.data (x20 : Key), Fct.eqv (.slice A1 a0.length c2), Fct.eqv (.int .i64 aa), Fct.elem (x22 : Key), Fct.data (x22 : Key), Fct.eqv (.int .i64 ac), Fct.eqv (.bool (decide (0 ≤ ac)))] (fun D F τ => True) (by kernel_rfl) rfl (by decide) (by decide) trivial (by decide) (by decide) ⟨?_, ?_, ?_, ?_, ?_, ?_, ?_, ?_, ?_, ?_, ?_, ?_, trivial⟩ ?_
   ·intro bo bp bq br bs bt bu bv bw aB bx
    refine r_move (.func (.func kk1) (List.toArray fi1) (List.toArray ca1)) ((aB 1 rfl).trans ax) rfl ?_
    exact d0 ⟨rfl, trivial⟩
   ·intro bz bA bB bC bD bE bF bG bH aC bI
    refine r_move (.slice A1 a0.length c2) ((aC 0 rfl).trans ag) rfl ?_
    exact d0 ⟨rfl, trivial⟩
   ·intro bJ bK bL bM bN bO bP bQ bR aD bS
    refine r_move (.int .i64 aa) ((aD 5 rfl).trans ab) rfl ?_
    exact d0 ⟨rfl, trivial⟩
   ·intro bT bU bV bW bX bY bZ b0 b1 b2 aE
    refine r_bin (.int .i64 aa) (.int .i64 1) (.int .i64 (w64 (aa - 1))) (aE 2 rfl 14 rfl) rfl rfl rfl (b_sub) ?_
    exact d0 ⟨rfl, trivial⟩
   ·intro b3 b4 b5 b6 b7 b8 b9 aF ca cb al
    refine r_indexAddr (T := 23) (E := 60) ((h3.mono ae).mono aF) ay (al 1 rfl 13 rfl) (al 3 rfl 15 rfl) rfl rfl Go.Proofs.Try.underlying23 sz60 ?_
    intro cc cd ce aG aH
    obtain rfl := Key.cells_iff.1 aG
    exact d0 ⟨⟨_, _, _, rfl, (Key.cells_iff.2 rfl), aH⟩, trivial⟩
   ·intro cf aI aJ cg ch ci cj ck cl cm aK
    obtain ⟨aL, aM, cn, aN, aO, aP⟩ : (Fct.elem (x20 : Key)).p (aI 16) aJ := aK 4 rfl 16 rfl
    obtain rfl := Key.cells_iff.1 aO
    refine r_load aL aM (Key.ag x20) aN rfl (loads_row tr60 aP.2) ?_
    exact d0 ⟨(Key.rpvMk (v := x20) ), trivial⟩
   ·intro co cp cq cr cs ct cu cv cw aQ cx
    refine r_move (.slice A1 a0.length c2) ((aQ 0 rfl).trans ag) rfl ?_
    exact d0 ⟨rfl, trivial⟩
   ·intro cy cz cA cB cC cD cE cF cG aR cH
    refine r_move (.int .i64 aa) ((aR 5 rfl).trans ab) rfl ?_
    exact d0 ⟨rfl, trivial⟩
   ·intro cI cJ cK cL cM cN cO aS cP cQ am
    refine r_indexAddr (T := 23) (E := 60) ((h3.mono ae).mono aS) az (am 6 rfl 18 rfl) (am 7 rfl 19 rfl) rfl rfl Go.Proofs.Try.underlying23 sz60 ?_
    intro cR cS cT aT aU
    obtain rfl := Key.cells_iff.1 aT
    exact d0 ⟨⟨_, _, _, rfl, (Key.cells_iff.2 rfl), aU⟩, trivial⟩
   ·intro cU aV aW cV cW cX cY cZ c0 c1 aX
    obtain ⟨aY, aZ, c3, a2, a3, a4⟩ : (Fct.elem (x22 : Key)).p (aV 20) aW := aX 8 rfl 20 rfl
    obtain rfl := Key.cells_iff.1 a3
    refine r_load aY aZ (Key.ag x22) a2 rfl (loads_row tr60 a4.2) ?_
    exact d0 ⟨(Key.rpvMk (v := x22) ), trivial⟩
   ·intro c4 an ai c5 c6 c7 a5 c8 c9 da aj
    have ao := af.trans a5
    have a6 : RpV ai (x20 : Key) (an 17) := aj 5 rfl 17 rfl
    have a7 := Key.rpv a6
    have a8 : RpV ai (x22 : Key) (an 21) := aj 9 rfl 21 rfl
    have a9 := Key.rpv a8
    refine r_callv [Key.ag x20, Key.ag x22] (aj 0 rfl 12 rfl) rfl (evs2 a7 a9) rfl (hk1 ai ao _ _ _ _ _ (Key.rpvMk (v := x20) ) (Key.rpvMk (v := x22) ) aA) ?_
    intro db dc ap ba
    obtain rfl := RpV.int ba
    refine j0 ?_
    exact ⟨_, _, rfl, rfl, (ExtB.refl _ _).trans (ap.mono ao.size), (Wext.refl _).trans ap.wext, rfl, trivial⟩
   ·intro dd de df dg dh di dj dk dl dm bb
    refine r_bin (.int .i64 ac) (.int .i64 0) (.bool (decide (0 ≤ ac))) (bb 10 rfl 22 rfl) rfl rfl rfl (b_geq) ?_
    exact d0 ⟨rfl, trivial⟩
   intro bc dn bd be dp aq bf
   have ar := af.trans bd
   have bg := (aq 5 rfl).trans ab
   have au : bc 23 = (.bool (decide (0 ≤ ac))) := bf 11 23 rfl
   refine j1 ?_
   refine if_else hf (fun ak hf => ?_) (fun ak hf => ?_)
   ·refine c_true au ak rfl ?_
    refine j2 (j3 ?_)
    refine r_assign (.bool false) rfl rfl ?_
    refine j0 (j1 (jb (j7 (j9 ?_))))
    obtain rfl := Option.some.inj hf
    exact ⟨rfl, _, _, (.bool false), rfl, rfl, ar, ⟨rfl, rfl⟩, (RpV.mkBool _ _)⟩
   refine c_false au ak rfl ?_
   refine ja (j5 (j1 (j3 ?_)))
   refine r_move (.int .i64 aa) bg rfl ?_
   refine r_bin (.int .i64 aa) (.int .i64 1) (.int .i64 (w64 (aa + 1))) rfl rfl rfl rfl (b_add) ?_
   refine r_assign (.int .i64 (w64 (aa + 1))) rfl rfl ?_
   refine j0 ?_
   obtain rfl := Option.some.inj hf
   exact ⟨rfl, _, _, rfl, rfl, (((((((((ad).put rfl).put rfl).put rfl).put rfl).draw aq rfl).put rfl).put rfl).put rfl), ar, (((Wext.refl _).trans ae).trans be), rfl⟩
  refine c_false rfl ah rfl ?_
  refine jc (j8 ?_)
  obtain rfl := Option.some.inj hf
  exact ⟨rfl, _, _, rfl, rfl, (((((ad).put rfl).put rfl).put rfl).put rfl), af, ((Wext.refl _).trans ae), ab⟩
 ·exact ⟨_, _, rfl, rfl, (Agr.refl _ _), E0, (Wext.refl _), f9⟩
 intro e a w hp
 rcases av with dq | r
 ·replace hf := onEnd_inl hf
  obtain ⟨rfl, dr, ds, rfl, rfl, dt, bh, du, dv⟩ := hp
  refine j6 (j1 (j2 (j3 ?_)))
  refine r_assign (.bool true) rfl rfl ?_
  refine j0 (j1 (jb ?_))
  obtain rfl := Option.some.inj hf
  refine ret_one (.bool true) rfl ⟨rfl, rfl⟩ bh ?_
  exact (RpV.mkBool _ _)
 replace hf := onEnd_inr hf
 obtain ⟨rfl, dw, dx, bi, rfl, rfl, bj, bk, bl⟩ := hp
 refine j7 (j9 ?_)
 obtain rfl := Option.some.inj hf
 refine ret_one bi rfl bk bj ?_
 exact bl

def S_ident_ValidKey (f : (Key → Option Bool)) : Prop := ∀ (s0 : S) (v0 : Value) (a0 : Key) (r : Bool), RpV s0 a0 v0 → f a0 = some r → Ctr Go.Proofs.Try.prog 102 [v0] s0 (fun v τ => RpV τ r v)

set_option maxHeartbeats 1600000 in
set_option maxRecDepth 100000 in
theorem ok_ident_ValidKey : S_ident_ValidKey ident_ValidKey := by
 intro s0 v0 a0 r h0 hf
 obtain rfl := Key.rpv h0
 unfold ident_ValidKey at hf
 have E0 : ExtB s0.N s0 s0 := ExtB.refl _ _
 refine ctr_of 16 Go.Proofs.Try.func102 rfl rfl rfl rfl ?_
 refine j2 (j3 ?_)
 refine r_box (B := s0.N) 1 E0.size (Key.ag a0) (Key.cs a0) rfl rfl rfl ?_
 intro s2 b1 k3 hb4
 have E5 := E0.x k3
 refine r_assign (.bool false) rfl rfl ?_
 refine j0 (j1 (j2 (j2 (j3 ?_))))
 refine r_fieldAddr b1 0 0 0 rfl rfl fo60_0 rfl ?_
 refine r_load b1 0 (.int .i64 a0.Kind) rfl rfl (loads_one to3 ((hb4.cell 0).trans rfl)) ?_
 refine j0 (j1 (j4 (j2 (j3 ?_))))
 refine r_bin (.int .i64 a0.Kind) (.int .i64 0) (.bool (a0.Kind == 0)) rfl rfl rfl rfl (b_eql) ?_
 refine r_assign (.bool (a0.Kind == 0)) rfl rfl ?_
 refine j0 (j1 ?_)
 refine if_else hf (fun hc6 hf => ?_) (fun hc6 hf => ?_)
 ·refine c_true rfl hc6 rfl ?_
  refine j2 (j3 ?_)
  refine r_fieldAddr b1 0 1 1 rfl rfl fo60_1 rfl ?_
  refine r_load b1 1 (.string a0.Text) rfl rfl (loads_one to9 ((hb4.cell 1).trans rfl)) ?_
  obtain ⟨r7, e8, hf⟩ := bind_some hf
  refine r_call [.string a0.Text] (evs1 rfl) rfl (ok_ident_IsAtom _ _ _ _ (RpV.mkStr _ _) e8) ?_
  intro ae s9 ab ac
  have ad := E5.x ab
  obtain rfl := RpV.bool ac
  refine r_assign (.bool r7) rfl rfl ?_
  refine j0 (j1 (jb (j7 (j9 ?_))))
  obtain rfl := Option.some.inj hf
  refine ret_one (.bool r7) rfl ⟨rfl, rfl⟩ ad ?_
  exact (RpV.mkBool _ _)
 refine c_false rfl hc6 rfl ?_
 refine j2 (j3 ?_)
 refine r_bin (.int .i64 a0.Kind) (.int .i64 1) (.bool (a0.Kind == 1)) rfl rfl rfl rfl (b_eql) ?_
 refine r_assign (.bool (a0.Kind == 1)) rfl rfl ?_
 refine j0 (j1 ?_)
 refine if_else hf (fun aa hf => ?_) (fun aa hf => ?_)
 ·refine c_true rfl aa rfl ?_
  refine j2 (j3 ?_)
  refine r_fieldAddr b1 0 1 1 rfl rfl fo60_1 rfl ?_
  refine r_load b1 1 (.string a0.Text) rfl rfl (loads_one to9 ((hb4.cell 1).trans rfl)) ?_
  refine r_lenStr a0.Text rfl rfl Go.Proofs.Try.underlying9 ?_
  refine r_bin (.int .i64 (a0.Text.size : Int)) (.int .i64 64) (.bool (decide ((a0.Text.size : Int) ≤ 64))) rfl rfl rfl rfl (b_leq) ?_
  refine r_assign (.bool (decide ((a0.Text.size : Int) ≤ 64))) rfl rfl ?_
  refine j0 (j1 (jb (j7 (j9 ?_))))
  obtain rfl := Option.some.inj hf
  refine ret_one (.bool (decide ((a0.Text.size : Int) ≤ 64))) rfl ⟨rfl, rfl⟩ E5 ?_
  exact (RpV.mkBool _ _)
 refine c_false rfl aa rfl ?_
 refine ja (j5 (j1 (j2 (j3 ?_))))
 refine r_assign (.bool false) rfl rfl ?_
 refine j0 (j1 (jb ?_))
 obtain rfl := Option.some.inj hf
 refine ret_one (.bool false) rfl ⟨rfl, rfl⟩ E5 ?_
 exact (RpV.mkBool _ _)

def S_value_validMap (f : (Val → Option Bool)) : Prop := ∀ (s0 : S) (v0 : Value) (a0 : Val) (r : Bool), RpV s0 a0 v0 → f a0 = some r → Ctr Go.Proofs.Try.prog 83 [v0] s0 (fun v τ => RpV τ r v)

set_option maxHeartbeats 1600000 in
set_option maxRecDepth 100000 in
theorem ok_value_validMap : S_value_validMap value_validMap := by
 intro s0 v0 a0 r h0 hf
 obtain ⟨A1, c2, A4, c5, A7, c8, aq, ar, rfl, h3, h6, h9, a3⟩ := Val.rpv h0
 unfold value_validMap at hf
 have E0 : ExtB s0.N s0 s0 := ExtB.refl _ _
 refine ctr_of 29 Go.Proofs.Try.func83 rfl rfl rfl rfl ?_
 refine j2 (j3 ?_)
 refine r_box (B := s0.N) 1 E0.size (Val.ag a0 A1 c2 A4 c5 A7 c8 aq ar) (Val.cs a0 A1 c2 A4 c5 A7 c8 aq ar) rfl rfl rfl ?_
 intro a4 ab ah ae
 have au := E0.x ah
 refine r_assign (.bool false) rfl rfl ?_
 refine j0 (j1 (j2 (j2 (j3 ?_))))
 refine r_fieldAddr ab 0 4 4 rfl rfl fo27_4 rfl ?_
 refine r_load ab 4 (.slice A4 a0.Keys.length c5) rfl rfl (loads_one to23 ((ae.cell 4).trans rfl)) ?_
 refine r_len A4 a0.Keys.length c5 rfl rfl Go.Proofs.Try.underlying23 ?_
 refine r_fieldAddr ab 0 3 3 rfl rfl fo27_3 rfl ?_
 refine r_load ab 3 (.slice A1 a0.Kids.length c2) rfl rfl (loads_one to22 ((ae.cell 3).trans rfl)) ?_
 refine r_len A1 a0.Kids.length c2 rfl rfl Go.Proofs.Try.underlying22 ?_
 refine r_bin (.int .i64 (a0.Keys.length : Int)) (.int .i64 (a0.Kids.length : Int)) (.bool ((a0.Keys.length : Int) != (a0.Kids.length : Int))) rfl rfl rfl rfl (b_neq) ?_
 refine r_move (.bool ((a0.Keys.length : Int) != (a0.Kids.length : Int))) rfl rfl ?_
 refine if_else hf (fun aa hf => ?_) (fun aa hf => ?_)
 ·refine r_skip (j := 7) (want := false) (d := 12) (c := ((a0.Keys.length : Int) != (a0.Kids.length : Int))) (v := true) rfl rfl aa rfl rfl ?_
  refine r_skip (j := 7) (want := false) (d := 12) (c := ((a0.Keys.length : Int) != (a0.Kids.length : Int))) (v := true) rfl rfl aa rfl rfl ?_
  refine r_skip (j := 7) (want := false) (d := 12) (c := ((a0.Keys.length : Int) != (a0.Kids.length : Int))) (v := true) rfl rfl aa rfl rfl ?_
  refine r_skip (j := 7) (want := false) (d := 12) (c := ((a0.Keys.length : Int) != (a0.Kids.length : Int))) (v := true) rfl rfl aa rfl rfl ?_
  refine r_pick_t (c := ((a0.Keys.length : Int) != (a0.Kids.length : Int))) (.bool true) rfl aa rfl rfl rfl rfl ?_
  refine j0 (j1 ?_)
  refine c_true rfl rfl rfl ?_
  refine j2 (j3 ?_)
  refine r_assign (.bool false) rfl rfl ?_
  refine j0 (j1 (jb (j9 ?_)))
  obtain rfl := Option.some.inj hf
  refine ret_one (.bool false) rfl ⟨rfl, rfl⟩ au ?_
  exact (RpV.mkBool _ _)
 refine r_guard (j := 7) (want := false) (d := 12) (c := ((a0.Keys.length : Int) != (a0.Kids.length : Int))) (v := false) rfl rfl aa rfl rfl ?_
 refine r_fieldAddr ab 0 4 4 rfl rfl fo27_4 rfl ?_
 refine r_guard (j := 7) (want := false) (d := 12) (c := ((a0.Keys.length : Int) != (a0.Kids.length : Int))) (v := false) rfl rfl aa rfl rfl ?_
 refine r_load ab 4 (.slice A4 a0.Keys.length c5) rfl rfl (loads_one to23 ((ae.cell 4).trans rfl)) ?_
 refine r_guard (j := 7) (want := false) (d := 12) (c := ((a0.Keys.length : Int) != (a0.Kids.length : Int))) (v := false) rfl rfl aa rfl rfl ?_
 obtain ⟨ai, aC, hf⟩ := bind_some hf
 refine r_call [.slice A4 a0.Keys.length c5, .func (.func 41) #[] #[]] (evs2 rfl rfl) rfl (ok_value_ascending_api_Key _ _ _ _ _ _ (RpV.mkList (h6.mono ah.wext)) ⟨41, [], [], rfl, fun _ _ _ _ _ _ _ h1 h2 h => (ok_ident_CompareKeys _ _ _ _ _ _ h1 h2 h)⟩ aC) ?_
 intro a5 av aj aD
 have aw := au.x aj
 obtain rfl := RpV.bool aD
 refine r_guard (j := 7) (want := false) (d := 12) (c := ((a0.Keys.length : Int) != (a0.Kids.length : Int))) (v := false) rfl rfl aa rfl rfl ?_
 refine r_un (.bool ai) (.bool (!ai)) rfl rfl u_not ?_
 refine r_pick_f (c := ((a0.Keys.length : Int) != (a0.Kids.length : Int))) (.bool (!ai)) rfl aa rfl rfl rfl rfl ?_
 refine j0 (j1 ?_)
 refine if_else hf (fun ak hf => ?_) (fun ak hf => ?_)
 ·refine c_true rfl ak rfl ?_
  refine j2 (j3 ?_)
  refine r_assign (.bool false) rfl rfl ?_
  refine j0 (j1 (jb (j9 ?_)))
  obtain rfl := Option.some.inj hf
  refine ret_one (.bool false) rfl ⟨rfl, rfl⟩ aw ?_
  exact (RpV.mkBool _ _)
 refine c_false rfl ak rfl ?_
 refine ja (j1 (j2 (j2 (j3 ?_))))
 refine r_fieldAddr ab 0 4 4 rfl rfl fo27_4 rfl ?_
 refine r_load ab 4 (.slice A4 a0.Keys.length c5) rfl rfl (loads_one to23 (((ae.ext aj).cell 4).trans rfl)) ?_
 refine r_len A4 a0.Keys.length c5 rfl rfl Go.Proofs.Try.underlying23 ?_
 refine r_move (.int .i64 0) rfl rfl ?_
 refine j0 (j1 (j4 ?_))
 refine gen_F fun ac al => ?_
 have aE : ac 19 = (.slice A4 a0.Keys.length c5) := (al 19).trans rfl
 have aF : ac 20 = (.int .i64 (a0.Keys.length : Int)) := (al 20).trans rfl
 have aG : ac 21 = (.int .i64 0) := (al 21).trans rfl
 obtain ⟨aH, aI, hf⟩ := bind_some hf
 refine wp_mono (wp_iter (step := value_validMap_l1 a0) (fun q a w => ∃ (F : Fr) (τ : S), a = fr 29 F ∧ w = τ.w ∧ Agr [2, 4, 21, 22, 23, 24, 25, 26, 27, 28] F ac ∧ ExtB s0.N s0 τ ∧ Wext av τ ∧ F 21 = (.int .i64 q)) (fun o e a w => match o with | .inl q => e = .exit 0 ∧ ∃ (F : Fr) (τ : S), a = fr 29 F ∧ w = τ.w ∧ Agr [2, 4, 21, 22, 23, 24, 25, 26, 27, 28] F ac ∧ ExtB s0.N s0 τ ∧ Wext av τ ∧ F 21 = (.int .i64 q) | .inr r => e = .ret ∧ ∃ (F : Fr) (τ : S) (va : Value), a = fr 29 F ∧ w = τ.w ∧ ExtB s0.N s0 τ ∧ ResV Go.Proofs.Try.prog 29 F τ.w (.tmp 2) va ∧ RpV τ r va) (by rintro (_ | _) a w ⟨h, _⟩ <;> cases h) ?_ _ _ _ _ _ aI ?_) ?_
 ·intro ad fl a w hf hI
  obtain ⟨a6, a7, rfl, rfl, af, am, an, ag⟩ := hI
  unfold value_validMap_l1 at hf
  have aJ := (af 19 rfl).trans aE
  have aK := (af 20 rfl).trans aF
  refine j2 (j3 ?_)
  refine r_bin (.int .i64 ad) (.int .i64 (a0.Keys.length : Int)) (.bool (decide (ad < (a0.Keys.length : Int)))) ag aK rfl rfl (b_lss) ?_
  refine j0 (j1 (j2 ?_))
  refine if_else hf (fun ao hf => ?_) (fun ao hf => ?_)
  ·refine c_true rfl ao rfl ?_
   refine ja (j1 (j2 (j4 (j2 (j3 ?_)))))
   obtain ⟨x43, aL, hf⟩ := bind_some hf
   refine r_indexAddr (T := 23) (E := 60) (((h6.mono ah.wext).mono aj.wext).mono an) aL aJ ag rfl rfl Go.Proofs.Try.underlying23 sz60 ?_
   intro aM aN a8 aO aP
   obtain rfl := Key.cells_iff.1 aO
   refine r_load aM aN (Key.ag x43) rfl rfl (loads_row tr60 aP.2) ?_
   refine r_alloc (B := s0.N) 2 am.size _ [.int .i64 0, .string (⟨#[]⟩)] ti60 rfl ?_
   intro a9 aQ ax aR
   have aS := am.x ax
   refine r_store aR 0 (Key.ag x43) (Key.cs x43) (Key.cs x43) rfl rfl rfl rfl rfl sz60 rfl rfl rfl ?_
   intro ba ay aT
   have aU := aS.y ay
   refine j0 (j1 (j2 (j3 ?_)))
   refine r_load aQ 0 (Key.ag x43) rfl rfl (loads_row tr60 (Blk.range aT 0 (Key.cs x43) rfl)) ?_
   obtain ⟨az, aV, hf⟩ := bind_some hf
   refine r_call [Key.ag x43] (evs1 rfl) rfl (ok_ident_ValidKey _ _ _ _ (Key.rpvMk (v := x43) ) aV) ?_
   intro bb bc aA aW
   have aB := aU.x aA
   obtain rfl := RpV.bool aW
   refine r_un (.bool az) (.bool (!az)) rfl rfl u_not ?_
   refine j0 (j1 ?_)
   refine if_else hf (fun ap hf => ?_) (fun ap hf => ?_)
   ·refine c_true rfl ap rfl ?_
    refine j2 (j3 ?_)
    refine r_assign (.bool false) rfl rfl ?_
    refine j0 (j1 (jb (j7 (j9 ?_))))
    obtain rfl := Option.some.inj hf
    exact ⟨rfl, _, _, (.bool false), rfl, rfl, aB, ⟨rfl, rfl⟩, (RpV.mkBool _ _)⟩
   refine c_false rfl ap rfl ?_
   refine ja (j5 (j1 (j3 ?_)))
   refine r_bin (.int .i64 ad) (.int .i64 1) (.int .i64 (w64 (ad + 1))) ag rfl rfl rfl (b_add) ?_
   refine r_move (.int .i64 (w64 (ad + 1))) rfl rfl ?_
   refine j0 ?_
   obtain rfl := Option.some.inj hf
   exact ⟨rfl, _, _, rfl, rfl, (((((((((((af).put rfl).put rfl).put rfl).put rfl).put0).put rfl).put rfl).put rfl).put rfl).put rfl), aB, (((((Wext.refl _).trans an).trans ax.wext).trans ay.wext).trans aA.wext), rfl⟩
  refine c_false rfl ao rfl ?_
  refine jc (j8 ?_)
  obtain rfl := Option.some.inj hf
  exact ⟨rfl, _, _, rfl, rfl, ((af).put rfl), am, ((Wext.refl _).trans an), ag⟩
 ·exact ⟨_, _, rfl, rfl, (Agr.refl _ _), aw, (Wext.refl _), aG⟩
 intro e a w hp
 rcases aH with bd | r
 ·replace hf := onEnd_inl hf
  obtain ⟨rfl, be, bf, rfl, rfl, bg, aX, bh, bi⟩ := hp
  refine j6 (j1 (j2 (j3 ?_)))
  refine r_assign (.bool true) rfl rfl ?_
  refine j0 (j1 (jb ?_))
  obtain rfl := Option.some.inj hf
  refine ret_one (.bool true) rfl ⟨rfl, rfl⟩ aX ?_
  exact (RpV.mkBool _ _)
 replace hf := onEnd_inr hf
 obtain ⟨rfl, bj, bk, aY, rfl, rfl, aZ, a1, a2⟩ := hp
 refine j7 (j9 ?_)
 obtain rfl := Option.some.inj hf
 refine ret_one aY rfl a1 aZ ?_
 exact a2

def S_cmp_isNaN_int64 (f : (Int → Option Bool)) : Prop := ∀ (s0 : S) (v0 : Value) (a0 : Int) (r : Bool), RpV s0 a0 v0 → f a0 = some r → Ctr Go.Proofs.Try.prog 64 [v0] s0 (fun v τ => RpV τ r v)

set_option maxHeartbeats 1600000 in
set_option maxRecDepth 100000 in
theorem ok_cmp_isNaN_int64 : S_cmp_isNaN_int64 cmp_isNaN_int64 := by
 intro s0 v0 a0 r h0 hf
 obtain rfl := RpV.int h0
 unfold cmp_isNaN_int64 at hf
 have E0 : ExtB s0.N s0 s0 := ExtB.refl _ _
 refine ctr_of 6 Go.Proofs.Try.func64 rfl rfl rfl rfl ?_
 refine j2 (j3 ?_)
 refine r_assign (.bool false) rfl rfl ?_
 refine j0 (j1 (j2 (j3 ?_)))
 refine r_move (.int .i64 a0) rfl rfl ?_
 refine r_move (.int .i64 a0) rfl rfl ?_
 refine r_bin (.int .i64 a0) (.int .i64 a0) (.bool (a0 != a0)) rfl rfl rfl rfl (b_neq) ?_
 refine r_assign (.bool (a0 != a0)) rfl rfl ?_
 refine j0 (j1 (jb ?_))
 obtain rfl := Option.some.inj hf
 refine ret_one (.bool (a0 != a0)) rfl ⟨rfl, rfl⟩ E0 ?_
 exact (RpV.mkBool _ _)

def S_cmp_Compare_int64 (f : (Int → Int → Option Int)) : Prop := ∀ (s0 : S) (v0 : Value) (v1 : Value) (a0 : Int) (a1 : Int) (r : Int), RpV s0 a0 v0 → RpV s0 a1 v1 → f a0 a1 = some r → Ctr Go.Proofs.Try.prog 38 [v0, v1] s0 (fun v τ => RpV τ r v)

set_option maxHeartbeats 1600000 in
set_option maxRecDepth 100000 in
theorem ok_cmp_Compare_int64 : S_cmp_Compare_int64 cmp_Compare_int64 := by
 intro s0 v0 v1 a0 a1 r h0 h1 hf
 obtain rfl := RpV.int h0
 obtain rfl := RpV.int h1
 unfold cmp_Compare_int64 at hf
 have E0 : ExtB s0.N s0 s0 := ExtB.refl _ _
 refine ctr_of 20 Go.Proofs.Try.func38 rfl rfl rfl rfl ?_
 refine j2 (j3 ?_)
 refine r_assign (.int .i64 0) rfl rfl ?_
 refine j0 (j1 (j2 (j3 ?_)))
 refine r_move (.int .i64 a0) rfl rfl ?_
 obtain ⟨r1, e2, hf⟩ := bind_some hf
 refine r_call [.int .i64 a0] (evs1 rfl) rfl (ok_cmp_isNaN_int64 _ _ _ _ (RpV.mkInt _ _) e2) ?_
 intro v4 s3 k5 hr6
 have E7 := E0.x k5
 obtain rfl := RpV.bool hr6
 refine r_assign (.bool r1) rfl rfl ?_
 refine j0 (j1 (j2 (j3 ?_)))
 refine r_move (.int .i64 a1) rfl rfl ?_
 obtain ⟨r8, e9, hf⟩ := bind_some hf
 refine r_call [.int .i64 a1] (evs1 rfl) rfl (ok_cmp_isNaN_int64 _ _ _ _ (RpV.mkInt _ _) e9) ?_
 intro ai aj ag ah
 have aa := E7.x ag
 obtain rfl := RpV.bool ah
 refine r_assign (.bool r8) rfl rfl ?_
 refine j0 (j1 (j2 (j2 (j3 ?_))))
 refine r_move (.bool r1) rfl rfl ?_
 refine j0 (j1 ?_)
 refine if_else hf (fun ab hf => ?_) (fun ab hf => ?_)
 ·refine c_true rfl ab rfl ?_
  refine j2 (j2 (j3 ?_))
  refine r_move (.bool r8) rfl rfl ?_
  refine j0 (j1 ?_)
  refine if_else hf (fun ac hf => ?_) (fun ac hf => ?_)
  ·refine c_true rfl ac rfl ?_
   refine j2 (j3 ?_)
   refine r_assign (.int .i64 0) rfl rfl ?_
   refine j0 (j1 (jb (j9 (j9 ?_))))
   obtain rfl := Option.some.inj hf
   refine ret_one (.int .i64 0) rfl ⟨rfl, rfl⟩ aa ?_
   exact (RpV.mkInt _ _)
  refine c_false rfl ac rfl ?_
  refine ja (j1 (j2 (j3 ?_)))
  refine r_assign (.int .i64 (-1)) rfl rfl ?_
  refine j0 (j1 (jb (j9 ?_)))
  obtain rfl := Option.some.inj hf
  refine ret_one (.int .i64 (-1)) rfl ⟨rfl, rfl⟩ aa ?_
  exact (RpV.mkInt _ _)
 refine c_false rfl ab rfl ?_
 refine ja (j1 (j2 (j2 (j3 ?_))))
 refine r_move (.bool r8) rfl rfl ?_
 refine j0 (j1 ?_)
 refine if_else hf (fun ad hf => ?_) (fun ad hf => ?_)
 ·refine c_true rfl ad rfl ?_
  refine j2 (j3 ?_)
  refine r_assign (.int .i64 1) rfl rfl ?_
  refine j0 (j1 (jb (j9 ?_)))
  obtain rfl := Option.some.inj hf
  refine ret_one (.int .i64 1) rfl ⟨rfl, rfl⟩ aa ?_
  exact (RpV.mkInt _ _)
 refine c_false rfl ad rfl ?_
 refine ja (j1 (j2 (j2 (j3 ?_))))
 refine r_move (.int .i64 a0) rfl rfl ?_
 refine r_move (.int .i64 a1) rfl rfl ?_
 refine r_bin (.int .i64 a0) (.int .i64 a1) (.bool (decide (a0 < a1))) rfl rfl rfl rfl (b_lss) ?_
 refine j0 (j1 ?_)
 refine if_else hf (fun ae hf => ?_) (fun ae hf => ?_)
 ·refine c_true rfl ae rfl ?_
  refine j2 (j3 ?_)
  refine r_assign (.int .i64 (-1)) rfl rfl ?_
  refine j0 (j1 (jb (j9 ?_)))
  obtain rfl := Option.some.inj hf
  refine ret_one (.int .i64 (-1)) rfl ⟨rfl, rfl⟩ aa ?_
  exact (RpV.mkInt _ _)
 refine c_false rfl ae rfl ?_
 refine ja (j1 (j2 (j2 (j3 ?_))))
 refine r_move (.int .i64 a0) rfl rfl ?_
 refine r_move (.int .i64 a1) rfl rfl ?_
 refine r_bin (.int .i64 a0) (.int .i64 a1) (.bool (decide (a1 < a0))) rfl rfl rfl rfl (b_gtr) ?_
 refine j0 (j1 ?_)
 refine if_else hf (fun af hf => ?_) (fun af hf => ?_)
 ·refine c_true rfl af rfl ?_
  refine j2 (j3 ?_)
  refine r_assign (.int .i64 1) rfl rfl ?_
  refine j0 (j1 (jb (j9 ?_)))
  obtain rfl := Option.some.inj hf
  refine ret_one (.int .i64 1) rfl ⟨rfl, rfl⟩ aa ?_
  exact (RpV.mkInt _ _)
 refine c_false rfl af rfl ?_
 refine ja (j1 (j2 (j3 ?_)))
 refine r_assign (.int .i64 0) rfl rfl ?_
 refine j0 (j1 (jb ?_))
 obtain rfl := Option.some.inj hf
 refine ret_one (.int .i64 0) rfl ⟨rfl, rfl⟩ aa ?_
 exact (RpV.mkInt _ _)

def S_value_compareLists_api_Key (f : ((List Key) → (List Key) → (Key → Key → Option Int) → Option Int)) : Prop := ∀ (s0 : S) (v0 : Value) (v1 : Value) (v2 : Value) (a0 : (List Key)) (a1 : (List Key)) (a2 : (Key → Key → Option Int)) (r : Int), RpV s0 a0 v0 → RpV s0 a1 v1 → Fn2 Go.Proofs.Try.prog s0 v2 a2 → f a0 a1 a2 = some r → Ctr Go.Proofs.Try.prog 40 [v0, v1, v2] s0 (fun v τ => RpV τ r v)

set_option maxHeartbeats 1600000 in
set_option maxRecDepth 100000 in
theorem ok_value_compareLists_api_Key : S_value_compareLists_api_Key value_compareLists_api_Key := by
 intro s0 v0 v1 v2 a0 a1 a2 r h0 h1 h2 hf
 obtain ⟨A1, c2, rfl, h3⟩ := RpV.list h0
 obtain ⟨A4, c5, rfl, h6⟩ := RpV.list h1
 obtain ⟨kk2, fi2, ca2, rfl, hk2⟩ := h2
 unfold value_compareLists_api_Key at hf
 have E0 : ExtB s0.N s0 s0 := ExtB.refl _ _
 refine ctr_of 37 Go.Proofs.Try.func40 rfl rfl rfl rfl ?_
 refine j2 (j3 ?_)
 refine r_assign (.int .i64 0) rfl rfl ?_
 refine j0 (j1 (j2 (j2 (j3 ?_))))
 refine r_move (.slice A1 a0.length c2) rfl rfl ?_
 refine r_len A1 a0.length c2 rfl rfl Go.Proofs.Try.underlying23 ?_
 refine r_move (.slice A4 a1.length c5) rfl rfl ?_
 refine r_len A4 a1.length c5 rfl rfl Go.Proofs.Try.underlying23 ?_
 obtain ⟨r7, e8, hf⟩ := bind_some hf
 refine r_call [.int .i64 (a0.length : Int), .int .i64 (a1.length : Int)] (evs2 rfl rfl) rfl (ok_cmp_Compare_int _ _ _ _ _ _ (RpV.mkInt _ _) (RpV.mkInt _ _) e8) ?_
 intro bA s9 ah az
 have ao := E0.x ah
 obtain rfl := RpV.int az
 refine r_assign (.int .i64 r7) rfl rfl ?_
 refine j0 (j1 (j2 (j3 ?_)))
 refine r_move (.int .i64 r7) rfl rfl ?_
 refine r_bin (.int .i64 r7) (.int .i64 0) (.bool (r7 != 0)) rfl rfl rfl rfl (b_neq) ?_
 refine j0 (j1 ?_)
 refine if_else hf (fun ai hf => ?_) (fun ai hf => ?_)
 ·refine c_true rfl ai rfl ?_
  refine j2 (j3 ?_)
  refine r_move (.int .i64 r7) rfl rfl ?_
  refine r_assign (.int .i64 r7) rfl rfl ?_
  refine j0 (j1 (jb (j9 ?_)))
  obtain rfl := Option.some.inj hf
  refine ret_one (.int .i64 r7) rfl ⟨rfl, rfl⟩ ao ?_
  exact (RpV.mkInt _ _)
 refine c_false rfl ai rfl ?_
 refine ja (j1 (j2 (j2 (j3 ?_))))
 refine r_move (.slice A1 a0.length c2) rfl rfl ?_
 refine r_len A1 a0.length c2 rfl rfl Go.Proofs.Try.underlying23 ?_
 refine r_move (.int .i64 0) rfl rfl ?_
 refine j0 (j1 (j4 ?_))
 refine gen_F fun ac ae => ?_
 have aA : ac 0 = (.slice A1 a0.length c2) := (ae 0).trans rfl
 have aB : ac 1 = (.slice A4 a1.length c5) := (ae 1).trans rfl
 have aC : ac 2 = (.func (.func kk2) (List.toArray fi2) (List.toArray ca2)) := (ae 2).trans rfl
 have aD : ac 19 = (.int .i64 (a0.length : Int)) := (ae 19).trans rfl
 have aE : ac 20 = (.int .i64 0) := (ae 20).trans rfl
 obtain ⟨aF, aG, hf⟩ := bind_some hf
 refine wp_mono (wp_iter (step := value_compareLists_api_Key_l1 a0 a1 a2) (fun q a w => ∃ (F : Fr) (τ : S), a = fr 37 F ∧ w = τ.w ∧ Agr [6, 8, 9, 20, 21, 22, 23, 24, 25, 26, 27, 28, 29, 30, 31, 32, 33, 34, 35, 36] F ac ∧ ExtB s0.N s0 τ ∧ Wext s9 τ ∧ F 20 = (.int .i64 q)) (fun o e a w => match o with | .inl q => e = .exit 0 ∧ ∃ (F : Fr) (τ : S), a = fr 37 F ∧ w = τ.w ∧ Agr [6, 8, 9, 20, 21, 22, 23, 24, 25, 26, 27, 28, 29, 30, 31, 32, 33, 34, 35, 36] F ac ∧ ExtB s0.N s0 τ ∧ Wext s9 τ ∧ F 20 = (.int .i64 q) | .inr r => e = .ret ∧ ∃ (F : Fr) (τ : S) (va : Value), a = fr 37 F ∧ w = τ.w ∧ ExtB s0.N s0 τ ∧ ResV Go.Proofs.Try.prog 37 F τ.w (.tmp 6) va ∧ RpV τ r va) (by rintro (_ | _) a w ⟨h, _⟩ <;> cases h) ?_ _ _ _ _ _ aG ?_) ?_
 ·intro aa fl a w hf hI
  obtain ⟨bB, bC, rfl, rfl, ad, aj, af, ag⟩ := hI
  unfold value_compareLists_api_Key_l1 at hf
  have aH := (ad 0 rfl).trans aA
  have aI := (ad 1 rfl).trans aB
  have aJ := (ad 2 rfl).trans aC
  have aK := (ad 19 rfl).trans aD
  refine j2 (j3 ?_)
  refine r_bin (.int .i64 aa) (.int .i64 (a0.length : Int)) (.bool (decide (aa < (a0.length : Int)))) ag aK rfl rfl (b_lss) ?_
  refine j0 (j1 (j2 ?_))
  refine if_else hf (fun ak hf => ?_) (fun ak hf => ?_)
  ·refine c_true rfl ak rfl ?_
   refine ja (j1 (j2 (j4 (j2 (j3 ?_)))))
   refine r_move (.int .i64 aa) ag rfl ?_
   refine r_assign (.int .i64 aa) rfl rfl ?_
   refine j0 (j1 (j2 ?_))
   obtain ⟨x35, aL, hf⟩ := bind_some hf
   obtain ⟨x37, aM, hf⟩ := bind_some hf
   obtain ⟨ab, aN, hf⟩ := bind_some hf
   refine wp_draw (B := frExt s0.N) [some 23, some 24, some 25, some 26, some 27, some 28, some 29, some 30, some 31, some 32, some 9] [[], [], [], [1, 2], [1, 2, 3], [], [], [5, 6], [5, 6, 7], [0, 1, 2, 3, 4, 5, 6, 7, 8], [0, 1, 2, 3, 4, 5, 6, 7, 8, 9]] [Fct.eqv (.func (.func kk2) (List.toArray fi2) (List.toArray ca2)), Fct.eqv (.slice A1 a0.length c2), Fct.eqv (.int .i64 aa), Fct.elem (x35 : Key), Fct.data (x35 : Key), Fct.eqv (.slice A4 a1.length c5), Fct.eqv (.int .i64 aa), Fct.elem (x37 : Key), Fct.data (x37 : Key), Fct.eqv (.int .i64 ab), Fct.eqv (.int .i64 ab)] (fun D F τ => True) (by kernel_rfl) rfl (by decide) (by decide) trivial (by decide) (by decide) ⟨?_, ?_, ?_, ?_, ?_, ?_, ?_, ?_, ?_, ?_, ?_, trivial⟩ ?_
   ·intro bD bE bF bG bH bI bJ bK bL aO bM
    refine r_move (.func (.func kk2) (List.toArray fi2) (List.toArray ca2)) ((aO 2 rfl).trans aJ) rfl ?_
    exact d0 ⟨rfl, trivial⟩
   ·intro bN bO bP bQ bR bS bT bU bV aP bW
    refine r_move (.slice A1 a0.length c2) ((aP 0 rfl).trans aH) rfl ?_
    exact d0 ⟨rfl, trivial⟩
   ·intro bX bY bZ b0 b1 b2 b3 b4 b5 aQ b6
    refine r_move (.int .i64 aa) ((aQ 8 rfl).trans rfl) rfl ?_
    exact d0 ⟨rfl, trivial⟩
   ·intro b7 b8 b9 ca cb cc cd aR ce cf ap
    refine r_indexAddr (T := 23) (E := 60) (((h3.mono ah.wext).mono af).mono aR) aL (ap 1 rfl 24 rfl) (ap 2 rfl 25 rfl) rfl rfl Go.Proofs.Try.underlying23 sz60 ?_
    intro cg ch ci aS aT
    obtain rfl := Key.cells_iff.1 aS
    exact d0 ⟨⟨_, _, _, rfl, (Key.cells_iff.2 rfl), aT⟩, trivial⟩
   ·intro cj aU aV ck cl cm cn co cp cq aW
    obtain ⟨aX, aY, cr, aZ, a3, a4⟩ : (Fct.elem (x35 : Key)).p (aU 26) aV := aW 3 rfl 26 rfl
    obtain rfl := Key.cells_iff.1 a3
    refine r_load aX aY (Key.ag x35) aZ rfl (loads_row tr60 a4.2) ?_
    exact d0 ⟨(Key.rpvMk (v := x35) ), trivial⟩
   ·intro cs ct cu cv cw cx cy cz cA a5 cB
    refine r_move (.slice A4 a1.length c5) ((a5 1 rfl).trans aI) rfl ?_
    exact d0 ⟨rfl, trivial⟩
   ·intro cC cD cE cF cG cH cI cJ cK a6 cL
    refine r_move (.int .i64 aa) ((a6 8 rfl).trans rfl) rfl ?_
    exact d0 ⟨rfl, trivial⟩
   ·intro cM cN cO cP cQ cR cS a7 cT cU aq
    refine r_indexAddr (T := 23) (E := 60) (((h6.mono ah.wext).mono af).mono a7) aM (aq 5 rfl 28 rfl) (aq 6 rfl 29 rfl) rfl rfl Go.Proofs.Try.underlying23 sz60 ?_
    intro cV cW cX a8 a9
    obtain rfl := Key.cells_iff.1 a8
    exact d0 ⟨⟨_, _, _, rfl, (Key.cells_iff.2 rfl), a9⟩, trivial⟩
   ·intro cY ba bb cZ c0 c1 c3 c4 c6 c7 bc
    obtain ⟨bd, be, c8, bf, bg, bh⟩ : (Fct.elem (x37 : Key)).p (ba 30) bb := bc 7 rfl 30 rfl
    obtain rfl := Key.cells_iff.1 bg
    refine r_load bd be (Key.ag x37) bf rfl (loads_row tr60 bh.2) ?_
    exact d0 ⟨(Key.rpvMk (v := x37) ), trivial⟩
   ·intro c9 ar al da db dc bi dd de df am
    have au := aj.trans bi
    have bj : RpV al (x35 : Key) (ar 27) := am 4 rfl 27 rfl
    have bk := Key.rpv bj
    have bl : RpV al (x37 : Key) (ar 31) := am 8 rfl 31 rfl
    have bm := Key.rpv bl
    refine r_callv [Key.ag x35, Key.ag x37] (am 0 rfl 23 rfl) rfl (evs2 bk bm) rfl (hk2 al au _ _ _ _ _ (Key.rpvMk (v := x35) ) (Key.rpvMk (v := x37) ) aN) ?_
    intro dg dh av bn
    obtain rfl := RpV.int bn
    refine j0 ?_
    exact ⟨_, _, rfl, rfl, (ExtB.refl _ _).trans (av.mono au.size), (Wext.refl _).trans av.wext, rfl, trivial⟩
   ·intro di dj dk dl dm dn dp dq dr ds bo
    refine r_assign (.int .i64 ab) (bo 9 rfl 32 rfl) rfl ?_
    exact d0 ⟨rfl, trivial⟩
   intro bp dt bq br du aw bs
   have ax := aj.trans bq
   have bt := (aw 20 rfl).trans ag
   have ay : bp 9 = (.int .i64 ab) := bs 10 9 rfl
   refine j1 (j2 (j3 ?_))
   refine r_move (.int .i64 ab) ay rfl ?_
   refine r_bin (.int .i64 ab) (.int .i64 0) (.bool (ab != 0)) rfl rfl rfl rfl (b_neq) ?_
   refine j0 (j1 ?_)
   refine if_else hf (fun an hf => ?_) (fun an hf => ?_)
   ·refine c_true rfl an rfl ?_
    refine j2 (j3 ?_)
    refine r_move (.int .i64 ab) ay rfl ?_
    refine r_assign (.int .i64 ab) rfl rfl ?_
    refine j0 (j1 (jb (j7 (j9 ?_))))
    obtain rfl := Option.some.inj hf
    exact ⟨rfl, _, _, (.int .i64 ab), rfl, rfl, ax, ⟨rfl, rfl⟩, (RpV.mkInt _ _)⟩
   refine c_false rfl an rfl ?_
   refine ja (j5 (j1 (j3 ?_)))
   refine r_bin (.int .i64 aa) (.int .i64 1) (.int .i64 (w64 (aa + 1))) bt rfl rfl rfl (b_add) ?_
   refine r_move (.int .i64 (w64 (aa + 1))) rfl rfl ?_
   refine j0 ?_
   obtain rfl := Option.some.inj hf
   exact ⟨rfl, _, _, rfl, rfl, (((((((((ad).put rfl).put rfl).put rfl).draw aw rfl).put rfl).put rfl).put rfl).put rfl), ax, (((Wext.refl _).trans af).trans br), rfl⟩
  refine c_false rfl ak rfl ?_
  refine jc (j8 ?_)
  obtain rfl := Option.some.inj hf
  exact ⟨rfl, _, _, rfl, rfl, ((ad).put rfl), aj, ((Wext.refl _).trans af), ag⟩
 ·exact ⟨_, _, rfl, rfl, (Agr.refl _ _), ao, (Wext.refl _), aE⟩
 intro e a w hp
 rcases aF with dv | r
 ·replace hf := onEnd_inl hf
  obtain ⟨rfl, dw, dx, rfl, rfl, dy, bu, dz, dA⟩ := hp
  refine j6 (j1 (j2 (j3 ?_)))
  refine r_assign (.int .i64 0) rfl rfl ?_
  refine j0 (j1 (jb ?_))
  obtain rfl := Option.some.inj hf
  refine ret_one (.int .i64 0) rfl ⟨rfl, rfl⟩ bu ?_
  exact (RpV.mkInt _ _)
 replace hf := onEnd_inr hf
 obtain ⟨rfl, dB, dC, bv, rfl, rfl, bw, bx, bz⟩ := hp
 refine j7 (j9 ?_)
 obtain rfl := Option.some.inj hf
 refine ret_one bv rfl bx bw ?_
 exact bz

def S_value_compareLists_api_Value (f : ((List Val) → (List Val) → (Val → Val → Option Int) → Option Int)) : Prop := ∀ (s0 : S) (v0 : Value) (v1 : Value) (v2 : Value) (a0 : (List Val)) (a1 : (List Val)) (a2 : (Val → Val → Option Int)) (r : Int), RpV s0 a0 v0 → RpV s0 a1 v1 → Fn2 Go.Proofs.Try.prog s0 v2 a2 → f a0 a1 a2 = some r → Ctr Go.Proofs.Try.prog 66 [v0, v1, v2] s0 (fun v τ => RpV τ r v)

set_option maxHeartbeats 1600000 in
set_option maxRecDepth 100000 in
theorem ok_value_compareLists_api_Value : S_value_compareLists_api_Value value_compareLists_api_Value := by
 intro s0 v0 v1 v2 a0 a1 a2 r h0 h1 h2 hf
 obtain ⟨A1, c2, rfl, h3⟩ := RpV.list h0
 obtain ⟨A4, c5, rfl, h6⟩ := RpV.list h1
 obtain ⟨kk2, fi2, ca2, rfl, hk2⟩ := h2
 unfold value_compareLists_api_Value at hf
 have E0 : ExtB s0.N s0 s0 := ExtB.refl _ _
 refine ctr_of 37 Go.Proofs.Try.func66 rfl rfl rfl rfl ?_
 refine j2 (j3 ?_)
 refine r_assign (.int .i64 0) rfl rfl ?_
 refine j0 (j1 (j2 (j2 (j3 ?_))))
 refine r_move (.slice A1 a0.length c2) rfl rfl ?_
 refine r_len A1 a0.length c2 rfl rfl Go.Proofs.Try.underlying22 ?_
 refine r_move (.slice A4 a1.length c5) rfl rfl ?_
 refine r_len A4 a1.length c5 rfl rfl Go.Proofs.Try.underlying22 ?_
 obtain ⟨r7, e8, hf⟩ := bind_some hf
 refine r_call [.int .i64 (a0.length : Int), .int .i64 (a1.length : Int)] (evs2 rfl rfl) rfl (ok_cmp_Compare_int _ _ _ _ _ _ (RpV.mkInt _ _) (RpV.mkInt _ _) e8) ?_
 intro cu s9 ah az
 have ao := E0.x ah
 obtain rfl := RpV.int az
 refine r_assign (.int .i64 r7) rfl rfl ?_
 refine j0 (j1 (j2 (j3 ?_)))
 refine r_move (.int .i64 r7) rfl rfl ?_
 refine r_bin (.int .i64 r7) (.int .i64 0) (.bool (r7 != 0)) rfl rfl rfl rfl (b_neq) ?_
 refine j0 (j1 ?_)
 refine if_else hf (fun ai hf => ?_) (fun ai hf => ?_)
 ·refine c_true rfl ai rfl ?_
  refine j2 (j3 ?_)
  refine r_move (.int .i64 r7) rfl rfl ?_
  refine r_assign (.int .i64 r7) rfl rfl ?_
  refine j0 (j1 (jb (j9 ?_)))
  obtain rfl := Option.some.inj hf
  refine ret_one (.int .i64 r7) rfl ⟨rfl, rfl⟩ ao ?_
  exact (RpV.mkInt _ _)
 refine c_false rfl ai rfl ?_
 refine ja (j1 (j2 (j2 (j3 ?_))))
 refine r_move (.slice A1 a0.length c2) rfl rfl ?_
 refine r_len A1 a0.length c2 rfl rfl Go.Proofs.Try.underlying22 ?_
 refine r_move (.int .i64 0) rfl rfl ?_
 refine j0 (j1 (j4 ?_))
 refine gen_F fun ac ae => ?_
 have aA : ac 0 = (.slice A1 a0.length c2) := (ae 0).trans rfl
 have aB : ac 1 = (.slice A4 a1.length c5) := (ae 1).trans rfl
 have aC : ac 2 = (.func (.func kk2) (List.toArray fi2) (List.toArray ca2)) := (ae 2).trans rfl
 have aD : ac 19 = (.int .i64 (a0.length : Int)) := (ae 19).trans rfl
 have aE : ac 20 = (.int .i64 0) := (ae 20).trans rfl
 obtain ⟨aF, aG, hf⟩ := bind_some hf
 refine wp_mono (wp_iter (step := value_compareLists_api_Value_l1 a0 a1 a2) (fun q a w => ∃ (F : Fr) (τ : S), a = fr 37 F ∧ w = τ.w ∧ Agr [6, 8, 9, 20, 21, 22, 23, 24, 25, 26, 27, 28, 29, 30, 31, 32, 33, 34, 35, 36] F ac ∧ ExtB s0.N s0 τ ∧ Wext s9 τ ∧ F 20 = (.int .i64 q)) (fun o e a w => match o with | .inl q => e = .exit 0 ∧ ∃ (F : Fr) (τ : S), a = fr 37 F ∧ w = τ.w ∧ Agr [6, 8, 9, 20, 21, 22, 23, 24, 25, 26, 27, 28, 29, 30, 31, 32, 33, 34, 35, 36] F ac ∧ ExtB s0.N s0 τ ∧ Wext s9 τ ∧ F 20 = (.int .i64 q) | .inr r => e = .ret ∧ ∃ (F : Fr) (τ : S) (va : Value), a = fr 37 F ∧ w = τ.w ∧ ExtB s0.N s0 τ ∧ ResV Go.Proofs.Try.prog 37 F τ.w (.tmp 6) va ∧ RpV τ r va) (by rintro (_ | _) a w ⟨h, _⟩ <;> cases h) ?_ _ _ _ _ _ aG ?_) ?_
 ·intro aa fl a w hf hI
  obtain ⟨cv, cw, rfl, rfl, ad, aj, af, ag⟩ := hI
  unfold value_compareLists_api_Value_l1 at hf
  have aH := (ad 0 rfl).trans aA
  have aI := (ad 1 rfl).trans aB
  have aJ := (ad 2 rfl).trans aC
  have aK := (ad 19 rfl).trans aD
  refine j2 (j3 ?_)
  refine r_bin (.int .i64 aa) (.int .i64 (a0.length : Int)) (.bool (decide (aa < (a0.length : Int)))) ag aK rfl rfl (b_lss) ?_
  refine j0 (j1 (j2 ?_))
  refine if_else hf (fun ak hf => ?_) (fun ak hf => ?_)
  ·refine c_true rfl ak rfl ?_
   refine ja (j1 (j2 (j4 (j2 (j3 ?_)))))
   refine r_move (.int .i64 aa) ag rfl ?_
   refine r_assign (.int .i64 aa) rfl rfl ?_
   refine j0 (j1 (j2 ?_))
   obtain ⟨x35, aL, hf⟩ := bind_some hf
   obtain ⟨x37, aM, hf⟩ := bind_some hf
   obtain ⟨ab, aN, hf⟩ := bind_some hf
   refine wp_draw (B := frExt s0.N) [some 23, some 24, some 25, some 26, some 27, some 28, some 29, some 30, some 31, some 32, some 9] [[], [], [], [1, 2], [1, 2, 3], [], [], [5, 6], [5, 6, 7], [0, 1, 2, 3, 4, 5, 6, 7, 8], [0, 1, 2, 3, 4, 5, 6, 7, 8, 9]] [Fct.eqv (.func (.func kk2) (List.toArray fi2) (List.toArray ca2)), Fct.eqv (.slice A1 a0.length c2), Fct.eqv (.int .i64 aa), Fct.elem (x35 : Val), Fct.data (x35 : Val), Fct.eqv (.slice A4 a1.length c5), Fct.eqv (.int .i64 aa), Fct.elem (x37 : Val), Fct.data (x37 : Val), Fct.eqv (.int .i64 ab), Fct.eqv (.int .i64 ab)] (fun D F τ => True) (by kernel_rfl) rfl (by decide) (by decide) trivial (by decide) (by decide) ⟨?_, ?_, ?_, ?_, ?_, ?_, ?_, ?_, ?_, ?_, ?_, trivial⟩ ?_
   ·intro cx cy cz cA cB cC cD cE cF aO cG
    refine r_move (.func (.func kk2) (List.toArray fi2) (List.toArray ca2)) ((aO 2 rfl).trans aJ) rfl ?_
    exact d0 ⟨rfl, trivial⟩
   ·intro cH cI cJ cK cL cM cN cO cP aP cQ
    refine r_move (.slice A1 a0.length c2) ((aP 0 rfl).trans aH) rfl ?_
    exact d0 ⟨rfl, trivial⟩
   ·intro cR cS cT cU cV cW cX cY cZ aQ c0
    refine r_move (.int .i64 aa) ((aQ 8 rfl).trans rfl) rfl ?_
    exact d0 ⟨rfl, trivial⟩
   ·intro c1 c3 c4 c6 c7 c8 c9 aR da db ap
    refine r_indexAddr (T := 22) (E := 27) (((h3.mono ah.wext).mono af).mono aR) aL (ap 1 rfl 24 rfl) (ap 2 rfl 25 rfl) rfl rfl Go.Proofs.Try.underlying22 sz27 ?_
    intro dc dd de aS aT
    obtain ⟨df, dg, dh, di, dj, dk, dl, dm, rfl, aU, aV, aW, aX⟩ := Val.cells_iff.1 aS
    exact d0 ⟨⟨_, _, _, rfl, (Val.cells_iff.2 ⟨_, _, _, _, _, _, _, _, rfl, aU, aV, aW, aX⟩), aT⟩, trivial⟩
   ·intro dn aY aZ dp dq dr ds dt du dv a3
    obtain ⟨a4, a5, dw, a6, a7, a8⟩ : (Fct.elem (x35 : Val)).p (aY 26) aZ := a3 3 rfl 26 rfl
    obtain ⟨a9, ba, bb, bc, bd, be, bf, bg, rfl, bh, bi, bj, bk⟩ := Val.cells_iff.1 a7
    refine r_load a4 a5 (Val.ag x35 a9 ba bb bc bd be bf bg) a6 rfl (loads_row tr27 a8.2) ?_
    exact d0 ⟨(Val.rpvMk (v := x35) bh bi bj bk), trivial⟩
   ·intro dx dy dz dA dB dC dD dE dF bl dG
    refine r_move (.slice A4 a1.length c5) ((bl 1 rfl).trans aI) rfl ?_
    exact d0 ⟨rfl, trivial⟩
   ·intro dH dI dJ dK dL dM dN dO dP bm dQ
    refine r_move (.int .i64 aa) ((bm 8 rfl).trans rfl) rfl ?_
    exact d0 ⟨rfl, trivial⟩
   ·intro dR dS dT dU dV dW dX bn dY dZ aq
    refine r_indexAddr (T := 22) (E := 27) (((h6.mono ah.wext).mono af).mono bn) aM (aq 5 rfl 28 rfl) (aq 6 rfl 29 rfl) rfl rfl Go.Proofs.Try.underlying22 sz27 ?_
    intro d1 d2 d3 bo bp
    obtain ⟨d4, d5, d6, d7, d8, d9, ea, eb, rfl, bq, br, bs, bt⟩ := Val.cells_iff.1 bo
    exact d0 ⟨⟨_, _, _, rfl, (Val.cells_iff.2 ⟨_, _, _, _, _, _, _, _, rfl, bq, br, bs, bt⟩), bp⟩, trivial⟩
   ·intro ec bu bv ed ee ef eg eh ei ej bw
    obtain ⟨bx, bz, ek, bA, bB, bC⟩ : (Fct.elem (x37 : Val)).p (bu 30) bv := bw 7 rfl 30 rfl
    obtain ⟨bD, bE, bF, bG, bH, bI, bJ, bK, rfl, bL, bM, bN, bO⟩ := Val.cells_iff.1 bB
    refine r_load bx bz (Val.ag x37 bD bE bF bG bH bI bJ bK) bA rfl (loads_row tr27 bC.2) ?_
    exact d0 ⟨(Val.rpvMk (v := x37) bL bM bN bO), trivial⟩
   ·intro el ar al em en eo bP ep eq er am
    have au := aj.trans bP
    have bQ : RpV al (x35 : Val) (ar 27) := am 4 rfl 27 rfl
    obtain ⟨bR, bS, bT, bU, bV, bW, bX, bY, bZ, b0, b1, b2, b3⟩ := Val.rpv bQ
    have b4 : RpV al (x37 : Val) (ar 31) := am 8 rfl 31 rfl
    obtain ⟨b5, b6, b7, b8, b9, ca, cb, cc, cd, ce, cf, cg, ch⟩ := Val.rpv b4
    refine r_callv [Val.ag x35 bR bS bT bU bV bW bX bY, Val.ag x37 b5 b6 b7 b8 b9 ca cb cc] (am 0 rfl 23 rfl) rfl (evs2 bZ cd) rfl (hk2 al au _ _ _ _ _ (Val.rpvMk (v := x35) b0 b1 b2 b3) (Val.rpvMk (v := x37) ce cf cg ch) aN) ?_
    intro es et av ci
    obtain rfl := RpV.int ci
    refine j0 ?_
    exact ⟨_, _, rfl, rfl, (ExtB.refl _ _).trans (av.mono au.size), (Wext.refl _).trans av.wext, rfl, trivial⟩
   ·intro eu ev ew ex ey ez eA eB eC eD cj
    refine r_assign (.int .i64 ab) (cj 9 rfl 32 rfl) rfl ?_
    exact d0 ⟨rfl, trivial⟩
   intro ck eE cl cm eF aw cn
   have ax := aj.trans cl
   have co := (aw 20 rfl).trans ag
   have ay : ck 9 = (.int .i64 ab) := cn 10 9 rfl
   refine j1 (j2 (j3 ?_))
   refine r_move (.int .i64 ab) ay rfl ?_
   refine r_bin (.int .i64 ab) (.int .i64 0) (.bool (ab != 0)) rfl rfl rfl rfl (b_neq) ?_
   refine j0 (j1 ?_)
   refine if_else hf (fun an hf => ?_) (fun an hf => ?_)
   ·refine c_true rfl an rfl ?_
    refine j2 (j3 ?_)
    refine r_move (.int .i64 ab) ay rfl ?_
    refine r_assign (.int .i64 ab) rfl rfl ?_
    refine j0 (j1 (jb (j7 (j9 ?_))))
    obtain rfl := Option.some.inj hf
    exact ⟨rfl, _, _, (.int .i64 ab), rfl, rfl, ax, ⟨rfl, rfl⟩, (RpV.mkInt _ _)⟩
   refine c_false rfl an rfl ?_
   refine ja (j5 (j1 (j3 ?_)))
   refine r_bin (.int .i64 aa) (.int .i64 1) (.int .i64 (w64 (aa + 1))) co rfl rfl rfl (b_add) ?_
   refine r_move (.int .i64 (w64 (aa + 1))) rfl rfl ?_
   refine j0 ?_
   obtain rfl := Option.some.inj hf
   exact ⟨rfl, _, _, rfl, rfl, (((((((((ad).put rfl).put rfl).put rfl).draw aw rfl).put rfl).put rfl).put rfl).put rfl), ax, (((Wext.refl _).trans af).trans cm), rfl⟩
  refine c_false rfl ak rfl ?_
  refine jc (j8 ?_)
  obtain rfl := Option.some.inj hf
  exact ⟨rfl, _, _, rfl, rfl, ((ad).put rfl), aj, ((Wext.refl _).trans af), ag⟩
 ·exact ⟨_, _, rfl, rfl, (Agr.refl _ _), ao, (Wext.refl _), aE⟩
 intro e a w hp
 rcases aF with eG | r
 ·replace hf := onEnd_inl hf
  obtain ⟨rfl, eH, eI, rfl, rfl, eJ, cp, eK, eL⟩ := hp
  refine j6 (j1 (j2 (j3 ?_)))
  refine r_assign (.int .i64 0) rfl rfl ?_
  refine j0 (j1 (jb ?_))
  obtain rfl := Option.some.inj hf
  refine ret_one (.int .i64 0) rfl ⟨rfl, rfl⟩ cp ?_
  exact (RpV.mkInt _ _)
 replace hf := onEnd_inr hf
 obtain ⟨rfl, eM, eN, cq, rfl, rfl, cr, cs, ct⟩ := hp
 refine j7 (j9 ?_)
 obtain rfl := Option.some.inj hf
 refine ret_one cq rfl cs cr ?_
 exact ct

def S_value_compareLists_api_Entry (f : ((List Ent) → (List Ent) → (Ent → Ent → Option Int) → Option Int)) : Prop := ∀ (s0 : S) (v0 : Value) (v1 : Value) (v2 : Value) (a0 : (List Ent)) (a1 : (List Ent)) (a2 : (Ent → Ent → Option Int)) (r : Int), RpV s0 a0 v0 → RpV s0 a1 v1 → Fn2 Go.Proofs.Try.prog s0 v2 a2 → f a0 a1 a2 = some r → Ctr Go.Proofs.Try.prog 43 [v0, v1, v2] s0 (fun v τ => RpV τ r v)

set_option maxHeartbeats 1600000 in
set_option maxRecDepth 100000 in
theorem ok_value_compareLists_api_Entry : S_value_compareLists_api_Entry value_compareLists_api_Entry := by
 intro s0 v0 v1 v2 a0 a1 a2 r h0 h1 h2 hf
 obtain ⟨A1, c2, rfl, h3⟩ := RpV.list h0
 obtain ⟨A4, c5, rfl, h6⟩ := RpV.list h1
 obtain ⟨kk2, fi2, ca2, rfl, hk2⟩ := h2
 unfold value_compareLists_api_Entry at hf
 have E0 : ExtB s0.N s0 s0 := ExtB.refl _ _
 refine ctr_of 37 Go.Proofs.Try.func43 rfl rfl rfl rfl ?_
 refine j2 (j3 ?_)
 refine r_assign (.int .i64 0) rfl rfl ?_
 refine j0 (j1 (j2 (j2 (j3 ?_))))
 refine r_move (.slice A1 a0.length c2) rfl rfl ?_
 refine r_len A1 a0.length c2 rfl rfl Go.Proofs.Try.underlying24 ?_
 refine r_move (.slice A4 a1.length c5) rfl rfl ?_
 refine r_len A4 a1.length c5 rfl rfl Go.Proofs.Try.underlying24 ?_
 obtain ⟨r7, e8, hf⟩ := bind_some hf
 refine r_call [.int .i64 (a0.length : Int), .int .i64 (a1.length : Int)] (evs2 rfl rfl) rfl (ok_cmp_Compare_int _ _ _ _ _ _ (RpV.mkInt _ _) (RpV.mkInt _ _) e8) ?_
 intro cI s9 ah az
 have ao := E0.x ah
 obtain rfl := RpV.int az
 refine r_assign (.int .i64 r7) rfl rfl ?_
 refine j0 (j1 (j2 (j3 ?_)))
 refine r_move (.int .i64 r7) rfl rfl ?_
 refine r_bin (.int .i64 r7) (.int .i64 0) (.bool (r7 != 0)) rfl rfl rfl rfl (b_neq) ?_
 refine j0 (j1 ?_)
 refine if_else hf (fun ai hf => ?_) (fun ai hf => ?_)
 ·refine c_true rfl ai rfl ?_
  refine j2 (j3 ?_)
  refine r_move (.int .i64 r7) rfl rfl ?_
  refine r_assign (.int .i64 r7) rfl rfl ?_
  refine j0 (j1 (jb (j9 ?_)))
  obtain rfl := Option.some.inj hf
  refine ret_one (.int .i64 r7) rfl ⟨rfl, rfl⟩ ao ?_
  exact (RpV.mkInt _ _)
 refine c_false rfl ai rfl ?_
 refine ja (j1 (j2 (j2 (j3 ?_))))
 refine r_move (.slice A1 a0.length c2) rfl rfl ?_
 refine r_len A1 a0.length c2 rfl rfl Go.Proofs.Try.underlying24 ?_
 refine r_move (.int .i64 0) rfl rfl ?_
 refine j0 (j1 (j4 ?_))
 refine gen_F fun ac ae => ?_
 have aA : ac 0 = (.slice A1 a0.length c2) := (ae 0).trans rfl
 have aB : ac 1 = (.slice A4 a1.length c5) := (ae 1).trans rfl
 have aC : ac 2 = (.func (.func kk2) (List.toArray fi2) (List.toArray ca2)) := (ae 2).trans rfl
 have aD : ac 19 = (.int .i64 (a0.length : Int)) := (ae 19).trans rfl
 have aE : ac 20 = (.int .i64 0) := (ae 20).trans rfl
 obtain ⟨aF, aG, hf⟩ := bind_some hf
 refine wp_mono (wp_iter (step := value_compareLists_api_Entry_l1 a0 a1 a2) (fun q a w => ∃ (F : Fr) (τ : S), a = fr 37 F ∧ w = τ.w ∧ Agr [6, 8, 9, 20, 21, 22, 23, 24, 25, 26, 27, 28, 29, 30, 31, 32, 33, 34, 35, 36] F ac ∧ ExtB s0.N s0 τ ∧ Wext s9 τ ∧ F 20 = (.int .i64 q)) (fun o e a w => match o with | .inl q => e = .exit 0 ∧ ∃ (F : Fr) (τ : S), a = fr 37 F ∧ w = τ.w ∧ Agr [6, 8, 9, 20, 21, 22, 23, 24, 25, 26, 27, 28, 29, 30, 31, 32, 33, 34, 35, 36] F ac ∧ ExtB s0.N s0 τ ∧ Wext s9 τ ∧ F 20 = (.int .i64 q) | .inr r => e = .ret ∧ ∃ (F : Fr) (τ : S) (va : Value), a = fr 37 F ∧ w = τ.w ∧ ExtB s0.N s0 τ ∧ ResV Go.Proofs.Try.prog 37 F τ.w (.tmp 6) va ∧ RpV τ r va) (by rintro (_ | _) a w ⟨h, _⟩ <;> cases h) ?_ _ _ _ _ _ aG ?_) ?_
 ·intro aa fl a w hf hI
  obtain ⟨cJ, cK, rfl, rfl, ad, aj, af, ag⟩ := hI
  unfold value_compareLists_api_Entry_l1 at hf
  have aH := (ad 0 rfl).trans aA
  have aI := (ad 1 rfl).trans aB
  have aJ := (ad 2 rfl).trans aC
  have aK := (ad 19 rfl).trans aD
  refine j2 (j3 ?_)
  refine r_bin (.int .i64 aa) (.int .i64 (a0.length : Int)) (.bool (decide (aa < (a0.length : Int)))) ag aK rfl rfl (b_lss) ?_
  refine j0 (j1 (j2 ?_))
  refine if_else hf (fun ak hf => ?_) (fun ak hf => ?_)
  ·refine c_true rfl ak rfl ?_
   refine ja (j1 (j2 (j4 (j2 (j3 ?_)))))
   refine r_move (.int .i64 aa) ag rfl ?_
   refine r_assign (.int .i64 aa) rfl rfl ?_
   refine j0 (j1 (j2 ?_))
   obtain ⟨x35, aL, hf⟩ := bind_some hf
   obtain ⟨x37, aM, hf⟩ := bind_some hf
   obtain ⟨ab, aN, hf⟩ := bind_some hf
   refine wp_draw (B := frExt s0.N) [some 23, some 24, some 25, some 26, some 27, some 28, some 29, some 30, some 31, some 32, some 9] [[], [], [], [1, 2], [1, 2, 3], [], [], [5, 6], [5, 6, 7], [0, 1, 2, 3, 4, 5, 6, 7, 8], [0, 1, 2, 3, 4, 5, 6, 7, 8, 9]] [Fct.eqv (.func (.func kk2) (List.toArray fi2) (List.toArray ca2)), Fct.eqv (.slice A1 a0.length c2), Fct.eqv (.int .i64 aa), Fct.elem (x35 : Ent), Fct.data (x35 : Ent), Fct.eqv (.slice A4 a1.length c5), Fct.eqv (.int .i64 aa), Fct.elem (x37 : Ent), Fct.data (x37 : Ent), Fct.eqv (.int .i64 ab), Fct.eqv (.int .i64 ab)] (fun D F τ => True) (by kernel_rfl) rfl (by decide) (by decide) trivial (by decide) (by decide) ⟨?_, ?_, ?_, ?_, ?_, ?_, ?_, ?_, ?_, ?_, ?_, trivial⟩ ?_
   ·intro cL cM cN cO cP cQ cR cS cT aO cU
    refine r_move (.func (.func kk2) (List.toArray fi2) (List.toArray ca2)) ((aO 2 rfl).trans aJ) rfl ?_
    exact d0 ⟨rfl, trivial⟩
   ·intro cV cW cX cY cZ c0 c1 c3 c4 aP c6
    refine r_move (.slice A1 a0.length c2) ((aP 0 rfl).trans aH) rfl ?_
    exact d0 ⟨rfl, trivial⟩
   ·intro c7 c8 c9 da db dc dd de df aQ dg
    refine r_move (.int .i64 aa) ((aQ 8 rfl).trans rfl) rfl ?_
    exact d0 ⟨rfl, trivial⟩
   ·intro dh di dj dk dl dm dn aR dp dq ap
    refine r_indexAddr (T := 24) (E := 65) (((h3.mono ah.wext).mono af).mono aR) aL (ap 1 rfl 24 rfl) (ap 2 rfl 25 rfl) rfl rfl Go.Proofs.Try.underlying24 sz65 ?_
    intro dr ds dt aS aT
    obtain ⟨du, dv, dw, dx, dy, dz, dA, dB, dC, dD, rfl, aU, aV, aW, aX, aY⟩ := Ent.cells_iff.1 aS
    exact d0 ⟨⟨_, _, _, rfl, (Ent.cells_iff.2 ⟨_, _, _, _, _, _, _, _, _, _, rfl, aU, aV, aW, aX, aY⟩), aT⟩, trivial⟩
   ·intro dE aZ a3 dF dG dH dI dJ dK dL a4
    obtain ⟨a5, a6, dM, a7, a8, a9⟩ : (Fct.elem (x35 : Ent)).p (aZ 26) a3 := a4 3 rfl 26 rfl
    obtain ⟨ba, bb, bc, bd, be, bf, bg, bh, bi, bj, rfl, bk, bl, bm, bn, bo⟩ := Ent.cells_iff.1 a8
    refine r_load a5 a6 (.agg #[.slice ba x35.Args.length bb, .bool x35.Fails, .int .i64 x35.Result.Kind, .int .i64 x35.Result.Int_, .string x35.Result.Text, .slice bc x35.Result.Kids.length bd, .slice be x35.Result.Keys.length bf, .slice bg x35.Result.Entries.length bh, .slice bi x35.Result.Labels.length bj]) a7 rfl (loads_row tr65 a9.2) ?_
    exact d0 ⟨(Ent.rpvMk (v := x35) bk bl bm bn bo), trivial⟩
   ·intro dN dO dP dQ dR dS dT dU dV bp dW
    refine r_move (.slice A4 a1.length c5) ((bp 1 rfl).trans aI) rfl ?_
    exact d0 ⟨rfl, trivial⟩
   ·intro dX dY dZ d1 d2 d3 d4 d5 d6 bq d7
    refine r_move (.int .i64 aa) ((bq 8 rfl).trans rfl) rfl ?_
    exact d0 ⟨rfl, trivial⟩
   ·intro d8 d9 ea eb ec ed ee br ef eg aq
    refine r_indexAddr (T := 24) (E := 65) (((h6.mono ah.wext).mono af).mono br) aM (aq 5 rfl 28 rfl) (aq 6 rfl 29 rfl) rfl rfl Go.Proofs.Try.underlying24 sz65 ?_
    intro eh ei ej bs bt
    obtain ⟨ek, el, em, en, eo, ep, eq, er, es, et, rfl, bu, bv, bw, bx, bz⟩ := Ent.cells_iff.1 bs
    exact d0 ⟨⟨_, _, _, rfl, (Ent.cells_iff.2 ⟨_, _, _, _, _, _, _, _, _, _, rfl, bu, bv, bw, bx, bz⟩), bt⟩, trivial⟩
   ·intro eu bA bB ev ew ex ey ez eA eB bC
    obtain ⟨bD, bE, eC, bF, bG, bH⟩ : (Fct.elem (x37 : Ent)).p (bA 30) bB := bC 7 rfl 30 rfl
    obtain ⟨bI, bJ, bK, bL, bM, bN, bO, bP, bQ, bR, rfl, bS, bT, bU, bV, bW⟩ := Ent.cells_iff.1 bG
    refine r_load bD bE (.agg #[.slice bI x37.Args.length bJ, .bool x37.Fails, .int .i64 x37.Result.Kind, .int .i64 x37.Result.Int_, .string x37.Result.Text, .slice bK x37.Result.Kids.length bL, .slice bM x37.Result.Keys.length bN, .slice bO x37.Result.Entries.length bP, .slice bQ x37.Result.Labels.length bR]) bF rfl (loads_row tr65 bH.2) ?_
    exact d0 ⟨(Ent.rpvMk (v := x37) bS bT bU bV bW), trivial⟩
   ·intro eD ar al eE eF eG bX eH eI eJ am
    have au := aj.trans bX
    have bY : RpV al (x35 : Ent) (ar 27) := am 4 rfl 27 rfl
    obtain ⟨bZ, b0, b1, b2, b3, b4, b5, b6, b7, b8, b9, ca, cb, cc, cd, ce⟩ := Ent.rpv bY
    have cf : RpV al (x37 : Ent) (ar 31) := am 8 rfl 31 rfl
    obtain ⟨cg, ch, ci, cj, ck, cl, cm, cn, co, cp, cq, cr, cs, ct, cu, cv⟩ := Ent.rpv cf
    refine r_callv [.agg #[.slice bZ x35.Args.length b0, .bool x35.Fails, .int .i64 x35.Result.Kind, .int .i64 x35.Result.Int_, .string x35.Result.Text, .slice b1 x35.Result.Kids.length b2, .slice b3 x35.Result.Keys.length b4, .slice b5 x35.Result.Entries.length b6, .slice b7 x35.Result.Labels.length b8], .agg #[.slice cg x37.Args.length ch, .bool x37.Fails, .int .i64 x37.Result.Kind, .int .i64 x37.Result.Int_, .string x37.Result.Text, .slice ci x37.Result.Kids.length cj, .slice ck x37.Result.Keys.length cl, .slice cm x37.Result.Entries.length cn, .slice co x37.Result.Labels.length cp]] (am 0 rfl 23 rfl) rfl (evs2 b9 cq) rfl (hk2 al au _ _ _ _ _ (Ent.rpvMk (v := x35) ca cb cc cd ce) (Ent.rpvMk (v := x37) cr cs ct cu cv) aN) ?_
    intro eK eL av cw
    obtain rfl := RpV.int cw
    refine j0 ?_
    exact ⟨_, _, rfl, rfl, (ExtB.refl _ _).trans (av.mono au.size), (Wext.refl _).trans av.wext, rfl, trivial⟩
   ·intro eM eN eO eP eQ eR eS eT eU eV cx
    refine r_assign (.int .i64 ab) (cx 9 rfl 32 rfl) rfl ?_
    exact d0 ⟨rfl, trivial⟩
   intro cy eW cz cA eX aw cB
   have ax := aj.trans cz
   have cC := (aw 20 rfl).trans ag
   have ay : cy 9 = (.int .i64 ab) := cB 10 9 rfl
   refine j1 (j2 (j3 ?_))
   refine r_move (.int .i64 ab) ay rfl ?_
   refine r_bin (.int .i64 ab) (.int .i64 0) (.bool (ab != 0)) rfl rfl rfl rfl (b_neq) ?_
   refine j0 (j1 ?_)
   refine if_else hf (fun an hf => ?_) (fun an hf => ?_)
   ·refine c_true rfl an rfl ?_
    refine j2 (j3 ?_)
    refine r_move (.int .i64 ab) ay rfl ?_
    refine r_assign (.int .i64 ab) rfl rfl ?_
    refine j0 (j1 (jb (j7 (j9 ?_))))
    obtain rfl := Option.some.inj hf
    exact ⟨rfl, _, _, (.int .i64 ab), rfl, rfl, ax, ⟨rfl, rfl⟩, (RpV.mkInt _ _)⟩
   refine c_false rfl an rfl ?_
   refine ja (j5 (j1 (j3 ?_)))
   refine r_bin (.int .i64 aa) (.int .i64 1) (.int .i64 (w64 (aa + 1))) cC rfl rfl rfl (b_add) ?_
   refine r_move (.int .i64 (w64 (aa + 1))) rfl rfl ?_
   refine j0 ?_
   obtain rfl := Option.some.inj hf
   exact ⟨rfl, _, _, rfl, rfl, (((((((((ad).put rfl).put rfl).put rfl).draw aw rfl).put rfl).put rfl).put rfl).put rfl), ax, (((Wext.refl _).trans af).trans cA), rfl⟩
  refine c_false rfl ak rfl ?_
  refine jc (j8 ?_)
  obtain rfl := Option.some.inj hf
  exact ⟨rfl, _, _, rfl, rfl, ((ad).put rfl), aj, ((Wext.refl _).trans af), ag⟩
 ·exact ⟨_, _, rfl, rfl, (Agr.refl _ _), ao, (Wext.refl _), aE⟩
 intro e a w hp
 rcases aF with eY | r
 ·replace hf := onEnd_inl hf
  obtain ⟨rfl, eZ, e0, rfl, rfl, e1, cD, e2, e3⟩ := hp
  refine j6 (j1 (j2 (j3 ?_)))
  refine r_assign (.int .i64 0) rfl rfl ?_
  refine j0 (j1 (jb ?_))
  obtain rfl := Option.some.inj hf
  refine ret_one (.int .i64 0) rfl ⟨rfl, rfl⟩ cD ?_
  exact (RpV.mkInt _ _)
 replace hf := onEnd_inr hf
 obtain ⟨rfl, e4, e5, cE, rfl, rfl, cF, cG, cH⟩ := hp
 refine j7 (j9 ?_)
 obtain rfl := Option.some.inj hf
 refine ret_one cE rfl cG cF ?_
 exact cH

def S_value_compareLists_string (f : ((List ByteArray) → (List ByteArray) → (ByteArray → ByteArray → Option Int) → Option Int)) : Prop := ∀ (s0 : S) (v0 : Value) (v1 : Value) (v2 : Value) (a0 : (List ByteArray)) (a1 : (List ByteArray)) (a2 : (ByteArray → ByteArray → Option Int)) (r : Int), RpV s0 a0 v0 → RpV s0 a1 v1 → Fn2 Go.Proofs.Try.prog s0 v2 a2 → f a0 a1 a2 = some r → Ctr Go.Proofs.Try.prog 45 [v0, v1, v2] s0 (fun v τ => RpV τ r v)

set_option maxHeartbeats 1600000 in
set_option maxRecDepth 100000 in
theorem ok_value_compareLists_string : S_value_compareLists_string value_compareLists_string := by
 intro s0 v0 v1 v2 a0 a1 a2 r h0 h1 h2 hf
 obtain ⟨A1, c2, rfl, h3⟩ := RpV.list h0
 obtain ⟨A4, c5, rfl, h6⟩ := RpV.list h1
 obtain ⟨kk2, fi2, ca2, rfl, hk2⟩ := h2
 unfold value_compareLists_string at hf
 have E0 : ExtB s0.N s0 s0 := ExtB.refl _ _
 refine ctr_of 37 Go.Proofs.Try.func45 rfl rfl rfl rfl ?_
 refine j2 (j3 ?_)
 refine r_assign (.int .i64 0) rfl rfl ?_
 refine j0 (j1 (j2 (j2 (j3 ?_))))
 refine r_move (.slice A1 a0.length c2) rfl rfl ?_
 refine r_len A1 a0.length c2 rfl rfl Go.Proofs.Try.underlying25 ?_
 refine r_move (.slice A4 a1.length c5) rfl rfl ?_
 refine r_len A4 a1.length c5 rfl rfl Go.Proofs.Try.underlying25 ?_
 obtain ⟨r7, e8, hf⟩ := bind_some hf
 refine r_call [.int .i64 (a0.length : Int), .int .i64 (a1.length : Int)] (evs2 rfl rfl) rfl (ok_cmp_Compare_int _ _ _ _ _ _ (RpV.mkInt _ _) (RpV.mkInt _ _) e8) ?_
 intro bu s9 ah ax
 have an := E0.x ah
 obtain rfl := RpV.int ax
 refine r_assign (.int .i64 r7) rfl rfl ?_
 refine j0 (j1 (j2 (j3 ?_)))
 refine r_move (.int .i64 r7) rfl rfl ?_
 refine r_bin (.int .i64 r7) (.int .i64 0) (.bool (r7 != 0)) rfl rfl rfl rfl (b_neq) ?_
 refine j0 (j1 ?_)
 refine if_else hf (fun ai hf => ?_) (fun ai hf => ?_)
 ·refine c_true rfl ai rfl ?_
  refine j2 (j3 ?_)
  refine r_move (.int .i64 r7) rfl rfl ?_
  refine r_assign (.int .i64 r7) rfl rfl ?_
  refine j0 (j1 (jb (j9 ?_)))
  obtain rfl := Option.some.inj hf
  refine ret_one (.int .i64 r7) rfl ⟨rfl, rfl⟩ an ?_
  exact (RpV.mkInt _ _)
 refine c_false rfl ai rfl ?_
 refine ja (j1 (j2 (j2 (j3 ?_))))
 refine r_move (.slice A1 a0.length c2) rfl rfl ?_
 refine r_len A1 a0.length c2 rfl rfl Go.Proofs.Try.underlying25 ?_
 refine r_move (.int .i64 0) rfl rfl ?_
 refine j0 (j1 (j4 ?_))
 refine gen_F fun ac ae => ?_
 have ay : ac 0 = (.slice A1 a0.length c2) := (ae 0).trans rfl
 have az : ac 1 = (.slice A4 a1.length c5) := (ae 1).trans rfl
 have aA : ac 2 = (.func (.func kk2) (List.toArray fi2) (List.toArray ca2)) := (ae 2).trans rfl
 have aB : ac 19 = (.int .i64 (a0.length : Int)) := (ae 19).trans rfl
 have aC : ac 20 = (.int .i64 0) := (ae 20).trans rfl
 obtain ⟨aD, aE, hf⟩ := bind_some hf
 refine wp_mono (wp_iter (step := value_compareLists_string_l1 a0 a1 a2) (fun q a w => ∃ (F : Fr) (τ : S), a = fr 37 F ∧ w = τ.w ∧ Agr [6, 8, 9, 20, 21, 22, 23, 24, 25, 26, 27, 28, 29, 30, 31, 32, 33, 34, 35, 36] F ac ∧ ExtB s0.N s0 τ ∧ Wext s9 τ ∧ F 20 = (.int .i64 q)) (fun o e a w => match o with | .inl q => e = .exit 0 ∧ ∃ (F : Fr) (τ : S), a = fr 37 F ∧ w = τ.w ∧ Agr [6, 8, 9, 20, 21, 22, 23, 24, 25, 26, 27, 28, 29, 30, 31, 32, 33, 34, 35, 36] F ac ∧ ExtB s0.N s0 τ ∧ Wext s9 τ ∧ F 20 = (.int .i64 q) | .inr r => e = .ret ∧ ∃ (F : Fr) (τ : S) (va : Value), a = fr 37 F ∧ w = τ.w ∧ ExtB s0.N s0 τ ∧ ResV Go.Proofs.Try.prog 37 F τ.w (.tmp 6) va ∧ RpV τ r va) (by rintro (_ | _) a w ⟨h, _⟩ <;> cases h) ?_ _ _ _ _ _ aE ?_) ?_
 ·intro aa fl a w hf hI
  obtain ⟨bv, bw, rfl, rfl, ad, aj, af, ag⟩ := hI
  unfold value_compareLists_string_l1 at hf
  have aF := (ad 0 rfl).trans ay
  have aG := (ad 1 rfl).trans az
  have aH := (ad 2 rfl).trans aA
  have aI := (ad 19 rfl).trans aB
  refine j2 (j3 ?_)
  refine r_bin (.int .i64 aa) (.int .i64 (a0.length : Int)) (.bool (decide (aa < (a0.length : Int)))) ag aI rfl rfl (b_lss) ?_
  refine j0 (j1 (j2 ?_))
  refine if_else hf (fun ak hf => ?_) (fun ak hf => ?_)
  ·refine c_true rfl ak rfl ?_
   refine ja (j1 (j2 (j4 (j2 (j3 ?_)))))
   refine r_move (.int .i64 aa) ag rfl ?_
   refine r_assign (.int .i64 aa) rfl rfl ?_
   refine j0 (j1 (j2 ?_))
   obtain ⟨x35, aJ, hf⟩ := bind_some hf
   obtain ⟨x37, aK, hf⟩ := bind_some hf
   obtain ⟨ab, aL, hf⟩ := bind_some hf
   refine wp_draw (B := frExt s0.N) [some 23, some 24, some 25, some 26, some 27, some 28, some 29, some 30, some 31, some 32, some 9] [[], [], [], [1, 2], [1, 2, 3], [], [], [5, 6], [5, 6, 7], [0, 1, 2, 3, 4, 5, 6, 7, 8], [0, 1, 2, 3, 4, 5, 6, 7, 8, 9]] [Fct.eqv (.func (.func kk2) (List.toArray fi2) (List.toArray ca2)), Fct.eqv (.slice A1 a0.length c2), Fct.eqv (.int .i64 aa), Fct.elem (x35 : ByteArray), Fct.eqv (.string x35), Fct.eqv (.slice A4 a1.length c5), Fct.eqv (.int .i64 aa), Fct.elem (x37 : ByteArray), Fct.eqv (.string x37), Fct.eqv (.int .i64 ab), Fct.eqv (.int .i64 ab)] (fun D F τ => True) (by kernel_rfl) rfl (by decide) (by decide) trivial (by decide) (by decide) ⟨?_, ?_, ?_, ?_, ?_, ?_, ?_, ?_, ?_, ?_, ?_, trivial⟩ ?_
   ·intro bx bz bA bB bC bD bE bF bG aM bH
    refine r_move (.func (.func kk2) (List.toArray fi2) (List.toArray ca2)) ((aM 2 rfl).trans aH) rfl ?_
    exact d0 ⟨rfl, trivial⟩
   ·intro bI bJ bK bL bM bN bO bP bQ aN bR
    refine r_move (.slice A1 a0.length c2) ((aN 0 rfl).trans aF) rfl ?_
    exact d0 ⟨rfl, trivial⟩
   ·intro bS bT bU bV bW bX bY bZ b0 aO b1
    refine r_move (.int .i64 aa) ((aO 8 rfl).trans rfl) rfl ?_
    exact d0 ⟨rfl, trivial⟩
   ·intro b2 b3 b4 b5 b6 b7 b8 aP b9 ca ao
    refine r_indexAddr (T := 25) (E := 9) (((h3.mono ah.wext).mono af).mono aP) aJ (ao 1 rfl 24 rfl) (ao 2 rfl 25 rfl) rfl rfl Go.Proofs.Try.underlying25 sz9 ?_
    intro cb cc cd aQ aR
    obtain rfl := aQ
    exact d0 ⟨⟨_, _, _, rfl, rfl, aR⟩, trivial⟩
   ·intro ce aS aT cf cg ch ci cj ck cl aU
    obtain ⟨aV, aW, cm, aX, aY, aZ⟩ : (Fct.elem (x35 : ByteArray)).p (aS 26) aT := aU 3 rfl 26 rfl
    obtain rfl := aY
    refine r_load aV aW (.string x35) aX rfl (loads_one to9 (aZ.2 0 _ rfl)) ?_
    exact d0 ⟨rfl, trivial⟩
   ·intro cn co cp cq cr cs ct cu cv a3 cw
    refine r_move (.slice A4 a1.length c5) ((a3 1 rfl).trans aG) rfl ?_
    exact d0 ⟨rfl, trivial⟩
   ·intro cx cy cz cA cB cC cD cE cF a4 cG
    refine r_move (.int .i64 aa) ((a4 8 rfl).trans rfl) rfl ?_
    exact d0 ⟨rfl, trivial⟩
   ·intro cH cI cJ cK cL cM cN a5 cO cP ap
    refine r_indexAddr (T := 25) (E := 9) (((h6.mono ah.wext).mono af).mono a5) aK (ap 5 rfl 28 rfl) (ap 6 rfl 29 rfl) rfl rfl Go.Proofs.Try.underlying25 sz9 ?_
    intro cQ cR cS a6 a7
    obtain rfl := a6
    exact d0 ⟨⟨_, _, _, rfl, rfl, a7⟩, trivial⟩
   ·intro cT a8 a9 cU cV cW cX cY cZ c0 ba
    obtain ⟨bb, bc, c1, bd, be, bf⟩ : (Fct.elem (x37 : ByteArray)).p (a8 30) a9 := ba 7 rfl 30 rfl
    obtain rfl := be
    refine r_load bb bc (.string x37) bd rfl (loads_one to9 (bf.2 0 _ rfl)) ?_
    exact d0 ⟨rfl, trivial⟩
   ·intro c3 c4 bg c6 c7 c8 bh c9 da db al
    have aq := aj.trans bh
    refine r_callv [.string x35, .string x37] (al 0 rfl 23 rfl) rfl (evs2 (al 4 rfl 27 rfl) (al 8 rfl 31 rfl)) rfl (hk2 bg aq _ _ _ _ _ (RpV.mkStr _ _) (RpV.mkStr _ _) aL) ?_
    intro dc dd ar bi
    obtain rfl := RpV.int bi
    refine j0 ?_
    exact ⟨_, _, rfl, rfl, (ExtB.refl _ _).trans (ar.mono aq.size), (Wext.refl _).trans ar.wext, rfl, trivial⟩
   ·intro de df dg dh di dj dk dl dm dn bj
    refine r_assign (.int .i64 ab) (bj 9 rfl 32 rfl) rfl ?_
    exact d0 ⟨rfl, trivial⟩
   intro bk dp bl bm dq au bn
   have av := aj.trans bl
   have bo := (au 20 rfl).trans ag
   have aw : bk 9 = (.int .i64 ab) := bn 10 9 rfl
   refine j1 (j2 (j3 ?_))
   refine r_move (.int .i64 ab) aw rfl ?_
   refine r_bin (.int .i64 ab) (.int .i64 0) (.bool (ab != 0)) rfl rfl rfl rfl (b_neq) ?_
   refine j0 (j1 ?_)
   refine if_else hf (fun am hf => ?_) (fun am hf => ?_)
   ·refine c_true rfl am rfl ?_
    refine j2 (j3 ?_)
    refine r_move (.int .i64 ab) aw rfl ?_
    refine r_assign (.int .i64 ab) rfl rfl ?_
    refine j0 (j1 (jb (j7 (j9 ?_))))
    obtain rfl := Option.some.inj hf
    exact ⟨rfl, _, _, (.int .i64 ab), rfl, rfl, av, ⟨rfl, rfl⟩, (RpV.mkInt _ _)⟩
   refine c_false rfl am rfl ?_
   refine ja (j5 (j1 (j3 ?_)))
   refine r_bin (.int .i64 aa) (.int .i64 1) (.int .i64 (w64 (aa + 1))) bo rfl rfl rfl (b_add) ?_
   refine r_move (.int .i64 (w64 (aa + 1))) rfl rfl ?_
   refine j0 ?_
   obtain rfl := Option.some.inj hf
   exact ⟨rfl, _, _, rfl, rfl, (((((((((ad).put rfl).put rfl).put rfl).draw au rfl).put rfl).put rfl).put rfl).put rfl), av, (((Wext.refl _).trans af).trans bm), rfl⟩
  refine c_false rfl ak rfl ?_
  refine jc (j8 ?_)
  obtain rfl := Option.some.inj hf
  exact ⟨rfl, _, _, rfl, rfl, ((ad).put rfl), aj, ((Wext.refl _).trans af), ag⟩
 ·exact ⟨_, _, rfl, rfl, (Agr.refl _ _), an, (Wext.refl _), aC⟩
 intro e a w hp
 rcases aD with dr | r
 ·replace hf := onEnd_inl hf
  obtain ⟨rfl, ds, dt, rfl, rfl, du, bp, dv, dw⟩ := hp
  refine j6 (j1 (j2 (j3 ?_)))
  refine r_assign (.int .i64 0) rfl rfl ?_
  refine j0 (j1 (jb ?_))
  obtain rfl := Option.some.inj hf
  refine ret_one (.int .i64 0) rfl ⟨rfl, rfl⟩ bp ?_
  exact (RpV.mkInt _ _)
 replace hf := onEnd_inr hf
 obtain ⟨rfl, dx, dy, bq, rfl, rfl, br, bs, bt⟩ := hp
 refine j7 (j9 ?_)
 obtain rfl := Option.some.inj hf
 refine ret_one bq rfl bs br ?_
 exact bt

def S_value_Compare (f : (Val → Val → Option Int)) : Prop := ∀ (s0 : S) (v0 : Value) (v1 : Value) (a0 : Val) (a1 : Val) (r : Int), RpV s0 a0 v0 → RpV s0 a1 v1 → f a0 a1 = some r → Ctr Go.Proofs.Try.prog 12 [v0, v1] s0 (fun v τ => RpV τ r v)

def S_value_compareValues (f : ((List Val) → (List Val) → Option Int)) : Prop := ∀ (s0 : S) (v0 : Value) (v1 : Value) (a0 : (List Val)) (a1 : (List Val)) (r : Int), RpV s0 a0 v0 → RpV s0 a1 v1 → f a0 a1 = some r → Ctr Go.Proofs.Try.prog 42 [v0, v1] s0 (fun v τ => RpV τ r v)

def S_value_compareEntries (f : (Ent → Ent → Option Int)) : Prop := ∀ (s0 : S) (v0 : Value) (v1 : Value) (a0 : Ent) (a1 : Ent) (r : Int), RpV s0 a0 v0 → RpV s0 a1 v1 → f a0 a1 = some r → Ctr Go.Proofs.Try.prog 44 [v0, v1] s0 (fun v τ => RpV τ r v)

set_option maxHeartbeats 1600000 in
set_option maxRecDepth 100000 in
theorem okB_value_Compare {rec_value_Compare : (Val → Val → Option Int)} {rec_value_compareValues : ((List Val) → (List Val) → Option Int)} {rec_value_compareEntries : (Ent → Ent → Option Int)} (_hrec_value_Compare : S_value_Compare rec_value_Compare) (hrec_value_compareValues : S_value_compareValues rec_value_compareValues) (hrec_value_compareEntries : S_value_compareEntries rec_value_compareEntries) : S_value_Compare (value_Compare_B rec_value_Compare rec_value_compareValues rec_value_compareEntries) := by
 intro s0 v0 v1 a0 a1 r h0 h1 hf
 obtain ⟨A1, c2, A4, c5, A7, c8, au, av, rfl, h3, h6, h9, aS⟩ := Val.rpv h0
 obtain ⟨aw, ax, ay, az, aA, aB, aC, aD, rfl, aT, aU, aV, aW⟩ := Val.rpv h1
 unfold value_Compare_B at hf
 have E0 : ExtB s0.N s0 s0 := ExtB.refl _ _
 refine ctr_of 64 Go.Proofs.Try.func12 rfl rfl rfl rfl ?_
 refine j2 (j3 ?_)
 refine r_box (B := s0.N) 1 E0.size (Val.ag a0 A1 c2 A4 c5 A7 c8 au av) (Val.cs a0 A1 c2 A4 c5 A7 c8 au av) rfl rfl rfl ?_
 intro bg ae ah aj
 have aK := E0.x ah
 refine r_box (B := s0.N) 2 aK.size (Val.ag a1 aw ax ay az aA aB aC aD) (Val.cs a1 aw ax ay az aA aB aC aD) rfl rfl rfl ?_
 intro bh af ad ak
 have aX := aK.x ad
 refine r_assign (.int .i64 0) rfl rfl ?_
 refine j0 (j1 (j2 (j2 (j3 ?_))))
 refine r_fieldAddr ae 0 0 0 rfl rfl fo27_0 rfl ?_
 refine r_load ae 0 (.int .i64 a0.Kind) rfl rfl (loads_one to3 (((aj.ext ad).cell 0).trans rfl)) ?_
 refine r_fieldAddr af 0 0 0 rfl rfl fo27_0 rfl ?_
 refine r_load af 0 (.int .i64 a1.Kind) rfl rfl (loads_one to3 ((ak.cell 0).trans rfl)) ?_
 obtain ⟨al, aY, hf⟩ := bind_some hf
 refine r_call [.int .i64 a0.Kind, .int .i64 a1.Kind] (evs2 rfl rfl) rfl (ok_cmp_Compare_int _ _ _ _ _ _ (RpV.mkInt _ _) (RpV.mkInt _ _) aY) ?_
 intro bi bj aa aZ
 have aL := aX.x aa
 obtain rfl := RpV.int aZ
 refine r_assign (.int .i64 al) rfl rfl ?_
 refine j0 (j1 (j2 (j3 ?_)))
 refine r_move (.int .i64 al) rfl rfl ?_
 refine r_bin (.int .i64 al) (.int .i64 0) (.bool (al != 0)) rfl rfl rfl rfl (b_neq) ?_
 refine j0 (j1 ?_)
 refine if_else hf (fun aE hf => ?_) (fun aE hf => ?_)
 ·refine c_true rfl aE rfl ?_
  refine j2 (j3 ?_)
  refine r_move (.int .i64 al) rfl rfl ?_
  refine r_assign (.int .i64 al) rfl rfl ?_
  refine j0 (j1 (jb (j9 ?_)))
  obtain rfl := Option.some.inj hf
  refine ret_one (.int .i64 al) rfl ⟨rfl, rfl⟩ aL ?_
  exact (RpV.mkInt _ _)
 refine c_false rfl aE rfl ?_
 refine ja (j1 (j2 (j2 (j3 ?_))))
 refine r_fieldAddr ae 0 1 1 rfl rfl fo27_1 rfl ?_
 refine r_load ae 1 (.int .i64 a0.Int_) rfl rfl (loads_one to2 ((((aj.ext ad).ext aa).cell 1).trans rfl)) ?_
 refine r_fieldAddr af 0 1 1 rfl rfl fo27_1 rfl ?_
 refine r_load af 1 (.int .i64 a1.Int_) rfl rfl (loads_one to2 (((ak.ext aa).cell 1).trans rfl)) ?_
 obtain ⟨am, a2, hf⟩ := bind_some hf
 refine r_call [.int .i64 a0.Int_, .int .i64 a1.Int_] (evs2 rfl rfl) rfl (ok_cmp_Compare_int64 _ _ _ _ _ _ (RpV.mkInt _ _) (RpV.mkInt _ _) a2) ?_
 intro bk bl ab a3
 have aM := aL.x ab
 obtain rfl := RpV.int a3
 refine r_assign (.int .i64 am) rfl rfl ?_
 refine j0 (j1 (j2 (j3 ?_)))
 refine r_move (.int .i64 am) rfl rfl ?_
 refine r_bin (.int .i64 am) (.int .i64 0) (.bool (am != 0)) rfl rfl rfl rfl (b_neq) ?_
 refine j0 (j1 ?_)
 refine if_else hf (fun aF hf => ?_) (fun aF hf => ?_)
 ·refine c_true rfl aF rfl ?_
  refine j2 (j3 ?_)
  refine r_move (.int .i64 am) rfl rfl ?_
  refine r_assign (.int .i64 am) rfl rfl ?_
  refine j0 (j1 (jb (j9 ?_)))
  obtain rfl := Option.some.inj hf
  refine ret_one (.int .i64 am) rfl ⟨rfl, rfl⟩ aM ?_
  exact (RpV.mkInt _ _)
 refine c_false rfl aF rfl ?_
 refine ja (j1 (j2 (j2 (j3 ?_))))
 refine r_fieldAddr ae 0 2 2 rfl rfl fo27_2 rfl ?_
 refine r_load ae 2 (.string a0.Text) rfl rfl (loads_one to9 (((((aj.ext ad).ext aa).ext ab).cell 2).trans rfl)) ?_
 refine r_fieldAddr af 0 2 2 rfl rfl fo27_2 rfl ?_
 refine r_load af 2 (.string a1.Text) rfl rfl (loads_one to9 ((((ak.ext aa).ext ab).cell 2).trans rfl)) ?_
 obtain ⟨an, a4, hf⟩ := bind_some hf
 refine r_call [.string a0.Text, .string a1.Text] (evs2 rfl rfl) rfl (ok_strings_Compare _ _ _ _ _ _ (RpV.mkStr _ _) (RpV.mkStr _ _) a4) ?_
 intro bm bn ac a5
 have aN := aM.x ac
 obtain rfl := RpV.int a5
 refine r_assign (.int .i64 an) rfl rfl ?_
 refine j0 (j1 (j2 (j3 ?_)))
 refine r_move (.int .i64 an) rfl rfl ?_
 refine r_bin (.int .i64 an) (.int .i64 0) (.bool (an != 0)) rfl rfl rfl rfl (b_neq) ?_
 refine j0 (j1 ?_)
 refine if_else hf (fun aG hf => ?_) (fun aG hf => ?_)
 ·refine c_true rfl aG rfl ?_
  refine j2 (j3 ?_)
  refine r_move (.int .i64 an) rfl rfl ?_
  refine r_assign (.int .i64 an) rfl rfl ?_
  refine j0 (j1 (jb (j9 ?_)))
  obtain rfl := Option.some.inj hf
  refine ret_one (.int .i64 an) rfl ⟨rfl, rfl⟩ aN ?_
  exact (RpV.mkInt _ _)
 refine c_false rfl aG rfl ?_
 refine ja (j1 (j2 (j2 (j3 ?_))))
 refine r_fieldAddr ae 0 4 4 rfl rfl fo27_4 rfl ?_
 refine r_load ae 4 (.slice A4 a0.Keys.length c5) rfl rfl (loads_one to23 ((((((aj.ext ad).ext aa).ext ab).ext ac).cell 4).trans rfl)) ?_
 refine r_fieldAddr af 0 4 4 rfl rfl fo27_4 rfl ?_
 refine r_load af 4 (.slice ay a1.Keys.length az) rfl rfl (loads_one to23 (((((ak.ext aa).ext ab).ext ac).cell 4).trans rfl)) ?_
 obtain ⟨ao, a6, hf⟩ := bind_some hf
 refine r_call [.slice A4 a0.Keys.length c5, .slice ay a1.Keys.length az, .func (.func 41) #[] #[]] (evs3 rfl rfl rfl) rfl (ok_value_compareLists_api_Key _ _ _ _ _ _ _ _ (RpV.mkList (((((h6.mono ah.wext).mono ad.wext).mono aa.wext).mono ab.wext).mono ac.wext)) (RpV.mkList (((((aU.mono ah.wext).mono ad.wext).mono aa.wext).mono ab.wext).mono ac.wext)) ⟨41, [], [], rfl, fun _ _ _ _ _ _ _ h1 h2 h => (ok_ident_CompareKeys _ _ _ _ _ _ h1 h2 h)⟩ a6) ?_
 intro bo bp ag a7
 have aO := aN.x ag
 obtain rfl := RpV.int a7
 refine r_assign (.int .i64 ao) rfl rfl ?_
 refine j0 (j1 (j2 (j3 ?_)))
 refine r_move (.int .i64 ao) rfl rfl ?_
 refine r_bin (.int .i64 ao) (.int .i64 0) (.bool (ao != 0)) rfl rfl rfl rfl (b_neq) ?_
 refine j0 (j1 ?_)
 refine if_else hf (fun aH hf => ?_) (fun aH hf => ?_)
 ·refine c_true rfl aH rfl ?_
  refine j2 (j3 ?_)
  refine r_move (.int .i64 ao) rfl rfl ?_
  refine r_assign (.int .i64 ao) rfl rfl ?_
  refine j0 (j1 (jb (j9 ?_)))
  obtain rfl := Option.some.inj hf
  refine ret_one (.int .i64 ao) rfl ⟨rfl, rfl⟩ aO ?_
  exact (RpV.mkInt _ _)
 refine c_false rfl aH rfl ?_
 refine ja (j1 (j2 (j2 (j3 ?_))))
 refine r_fieldAddr ae 0 3 3 rfl rfl fo27_3 rfl ?_
 refine r_load ae 3 (.slice A1 a0.Kids.length c2) rfl rfl (loads_one to22 (((((((aj.ext ad).ext aa).ext ab).ext ac).ext ag).cell 3).trans rfl)) ?_
 refine r_fieldAddr af 0 3 3 rfl rfl fo27_3 rfl ?_
 refine r_load af 3 (.slice aw a1.Kids.length ax) rfl rfl (loads_one to22 ((((((ak.ext aa).ext ab).ext ac).ext ag).cell 3).trans rfl)) ?_
 obtain ⟨ap, a8, hf⟩ := bind_some hf
 refine r_call [.slice A1 a0.Kids.length c2, .slice aw a1.Kids.length ax] (evs2 rfl rfl) rfl (hrec_value_compareValues _ _ _ _ _ _ (RpV.mkList ((((((h3.mono ah.wext).mono ad.wext).mono aa.wext).mono ab.wext).mono ac.wext).mono ag.wext)) (RpV.mkList ((((((aT.mono ah.wext).mono ad.wext).mono aa.wext).mono ab.wext).mono ac.wext).mono ag.wext)) a8) ?_
 intro bq br ai a9
 have aP := aO.x ai
 obtain rfl := RpV.int a9
 refine r_assign (.int .i64 ap) rfl rfl ?_
 refine j0 (j1 (j2 (j3 ?_)))
 refine r_move (.int .i64 ap) rfl rfl ?_
 refine r_bin (.int .i64 ap) (.int .i64 0) (.bool (ap != 0)) rfl rfl rfl rfl (b_neq) ?_
 refine j0 (j1 ?_)
 refine if_else hf (fun aI hf => ?_) (fun aI hf => ?_)
 ·refine c_true rfl aI rfl ?_
  refine j2 (j3 ?_)
  refine r_move (.int .i64 ap) rfl rfl ?_
  refine r_assign (.int .i64 ap) rfl rfl ?_
  refine j0 (j1 (jb (j9 ?_)))
  obtain rfl := Option.some.inj hf
  refine ret_one (.int .i64 ap) rfl ⟨rfl, rfl⟩ aP ?_
  exact (RpV.mkInt _ _)
 refine c_false rfl aI rfl ?_
 refine ja (j1 (j2 (j2 (j3 ?_))))
 refine r_fieldAddr ae 0 5 5 rfl rfl fo27_5 rfl ?_
 refine r_load ae 5 (.slice A7 a0.Entries.length c8) rfl rfl (loads_one to24 ((((((((aj.ext ad).ext aa).ext ab).ext ac).ext ag).ext ai).cell 5).trans rfl)) ?_
 refine r_fieldAddr af 0 5 5 rfl rfl fo27_5 rfl ?_
 refine r_load af 5 (.slice aA a1.Entries.length aB) rfl rfl (loads_one to24 (((((((ak.ext aa).ext ab).ext ac).ext ag).ext ai).cell 5).trans rfl)) ?_
 obtain ⟨aq, ba, hf⟩ := bind_some hf
 refine r_call [.slice A7 a0.Entries.length c8, .slice aA a1.Entries.length aB, .func (.func 44) #[] #[]] (evs3 rfl rfl rfl) rfl (ok_value_compareLists_api_Entry _ _ _ _ _ _ _ _ (RpV.mkList (((((((h9.mono ah.wext).mono ad.wext).mono aa.wext).mono ab.wext).mono ac.wext).mono ag.wext).mono ai.wext)) (RpV.mkList (((((((aV.mono ah.wext).mono ad.wext).mono aa.wext).mono ab.wext).mono ac.wext).mono ag.wext).mono ai.wext)) ⟨44, [], [], rfl, fun _ _ _ _ _ _ _ h1 h2 h => (hrec_value_compareEntries _ _ _ _ _ _ h1 h2 h)⟩ ba) ?_
 intro bs bt ar bb
 have aQ := aP.x ar
 obtain rfl := RpV.int bb
 refine r_assign (.int .i64 aq) rfl rfl ?_
 refine j0 (j1 (j2 (j3 ?_)))
 refine r_move (.int .i64 aq) rfl rfl ?_
 refine r_bin (.int .i64 aq) (.int .i64 0) (.bool (aq != 0)) rfl rfl rfl rfl (b_neq) ?_
 refine j0 (j1 ?_)
 refine if_else hf (fun aJ hf => ?_) (fun aJ hf => ?_)
 ·refine c_true rfl aJ rfl ?_
  refine j2 (j3 ?_)
  refine r_move (.int .i64 aq) rfl rfl ?_
  refine r_assign (.int .i64 aq) rfl rfl ?_
  refine j0 (j1 (jb (j9 ?_)))
  obtain rfl := Option.some.inj hf
  refine ret_one (.int .i64 aq) rfl ⟨rfl, rfl⟩ aQ ?_
  exact (RpV.mkInt _ _)
 refine c_false rfl aJ rfl ?_
 refine ja (j1 (j2 (j3 ?_)))
 refine r_fieldAddr ae 0 6 6 rfl rfl fo27_6 rfl ?_
 refine r_load ae 6 (.slice au a0.Labels.length av) rfl rfl (loads_one to25 (((((((((aj.ext ad).ext aa).ext ab).ext ac).ext ag).ext ai).ext ar).cell 6).trans rfl)) ?_
 refine r_fieldAddr af 0 6 6 rfl rfl fo27_6 rfl ?_
 refine r_load af 6 (.slice aC a1.Labels.length aD) rfl rfl (loads_one to25 ((((((((ak.ext aa).ext ab).ext ac).ext ag).ext ai).ext ar).cell 6).trans rfl)) ?_
 obtain ⟨aR, bc, hf⟩ := bind_some hf
 refine r_call [.slice au a0.Labels.length av, .slice aC a1.Labels.length aD, .func (.func 39) #[] #[]] (evs3 rfl rfl rfl) rfl (ok_value_compareLists_string _ _ _ _ _ _ _ _ (RpV.mkList ((((((((aS.mono ah.wext).mono ad.wext).mono aa.wext).mono ab.wext).mono ac.wext).mono ag.wext).mono ai.wext).mono ar.wext)) (RpV.mkList ((((((((aW.mono ah.wext).mono ad.wext).mono aa.wext).mono ab.wext).mono ac.wext).mono ag.wext).mono ai.wext).mono ar.wext)) ⟨39, [], [], rfl, fun _ _ _ _ _ _ _ h1 h2 h => (ok_strings_Compare _ _ _ _ _ _ h1 h2 h)⟩ bc) ?_
 intro bu bv bd be
 have bf := aQ.x bd
 obtain rfl := RpV.int be
 refine r_assign (.int .i64 aR) rfl rfl ?_
 refine j0 (j1 (jb ?_))
 obtain rfl := Option.some.inj hf
 refine ret_one (.int .i64 aR) rfl ⟨rfl, rfl⟩ bf ?_
 exact (RpV.mkInt _ _)

set_option maxHeartbeats 1600000 in
set_option maxRecDepth 100000 in
theorem okB_value_compareValues {rec_value_Compare : (Val → Val → Option Int)} {rec_value_compareValues : ((List Val) → (List Val) → Option Int)} {rec_value_compareEntries : (Ent → Ent → Option Int)} (hrec_value_Compare : S_value_Compare rec_value_Compare) (_hrec_value_compareValues : S_value_compareValues rec_value_compareValues) (_hrec_value_compareEntries : S_value_compareEntries rec_value_compareEntries) : S_value_compareValues (value_compareValues_B rec_value_Compare rec_value_compareValues rec_value_compareEntries) := by
 intro s0 v0 v1 a0 a1 r h0 h1 hf
 obtain ⟨A1, c2, rfl, h3⟩ := RpV.list h0
 obtain ⟨A4, c5, rfl, h6⟩ := RpV.list h1
 unfold value_compareValues_B at hf
 have E0 : ExtB s0.N s0 s0 := ExtB.refl _ _
 refine ctr_of 8 Go.Proofs.Try.func42 rfl rfl rfl rfl ?_
 refine j2 (j3 ?_)
 refine r_assign (.int .i64 0) rfl rfl ?_
 refine j0 (j1 (j2 (j3 ?_)))
 refine r_move (.slice A1 a0.length c2) rfl rfl ?_
 refine r_move (.slice A4 a1.length c5) rfl rfl ?_
 obtain ⟨r7, e8, hf⟩ := bind_some hf
 refine r_call [.slice A1 a0.length c2, .slice A4 a1.length c5, .func (.func 12) #[] #[]] (evs3 rfl rfl rfl) rfl (ok_value_compareLists_api_Value _ _ _ _ _ _ _ _ (RpV.mkList h3) (RpV.mkList h6) ⟨12, [], [], rfl, fun _ _ _ _ _ _ _ h1 h2 h => (hrec_value_Compare _ _ _ _ _ _ h1 h2 h)⟩ e8) ?_
 intro ad s9 aa ab
 have ac := E0.x aa
 obtain rfl := RpV.int ab
 refine r_assign (.int .i64 r7) rfl rfl ?_
 refine j0 (j1 (jb ?_))
 obtain rfl := Option.some.inj hf
 refine ret_one (.int .i64 r7) rfl ⟨rfl, rfl⟩ ac ?_
 exact (RpV.mkInt _ _)

set_option maxHeartbeats 1600000 in
set_option maxRecDepth 100000 in
theorem okB_value_compareEntries {rec_value_Compare : (Val → Val → Option Int)} {rec_value_compareValues : ((List Val) → (List Val) → Option Int)} {rec_value_compareEntries : (Ent → Ent → Option Int)} (hrec_value_Compare : S_value_Compare rec_value_Compare) (hrec_value_compareValues : S_value_compareValues rec_value_compareValues) (_hrec_value_compareEntries : S_value_compareEntries rec_value_compareEntries) : S_value_compareEntries (value_compareEntries_B rec_value_Compare rec_value_compareValues rec_value_compareEntries) := by
 intro s0 v0 v1 a0 a1 r h0 h1 hf
 obtain ⟨A1, c2, A4, c5, A7, c8, ag, ah, ai, aj, rfl, h3, h6, h9, aE, aF⟩ := Ent.rpv h0
 obtain ⟨au, av, ak, al, am, an, ao, ap, aq, ar, rfl, aG, aH, aI, aJ, aK⟩ := Ent.rpv h1
 unfold value_compareEntries_B at hf
 have E0 : ExtB s0.N s0 s0 := ExtB.refl _ _
 refine ctr_of 26 Go.Proofs.Try.func44 rfl rfl rfl rfl ?_
 refine j2 (j3 ?_)
 refine r_box (B := s0.N) 1 E0.size (.agg #[.slice A1 a0.Args.length c2, .bool a0.Fails, .int .i64 a0.Result.Kind, .int .i64 a0.Result.Int_, .string a0.Result.Text, .slice A4 a0.Result.Kids.length c5, .slice A7 a0.Result.Keys.length c8, .slice ag a0.Result.Entries.length ah, .slice ai a0.Result.Labels.length aj]) [.slice A1 a0.Args.length c2, .bool a0.Fails, .int .i64 a0.Result.Kind, .int .i64 a0.Result.Int_, .string a0.Result.Text, .slice A4 a0.Result.Kids.length c5, .slice A7 a0.Result.Keys.length c8, .slice ag a0.Result.Entries.length ah, .slice ai a0.Result.Labels.length aj] rfl rfl rfl ?_
 intro aS ad ac aw
 have aC := E0.x ac
 refine r_box (B := s0.N) 2 aC.size (.agg #[.slice au a1.Args.length av, .bool a1.Fails, .int .i64 a1.Result.Kind, .int .i64 a1.Result.Int_, .string a1.Result.Text, .slice ak a1.Result.Kids.length al, .slice am a1.Result.Keys.length an, .slice ao a1.Result.Entries.length ap, .slice aq a1.Result.Labels.length ar]) [.slice au a1.Args.length av, .bool a1.Fails, .int .i64 a1.Result.Kind, .int .i64 a1.Result.Int_, .string a1.Result.Text, .slice ak a1.Result.Kids.length al, .slice am a1.Result.Keys.length an, .slice ao a1.Result.Entries.length ap, .slice aq a1.Result.Labels.length ar] rfl rfl rfl ?_
 intro aT af aa ay
 have aL := aC.x aa
 refine r_assign (.int .i64 0) rfl rfl ?_
 refine j0 (j1 (j2 (j2 (j3 ?_))))
 refine r_fieldAddr ad 0 0 0 rfl rfl fo65_0 rfl ?_
 refine r_load ad 0 (.slice A1 a0.Args.length c2) rfl rfl (loads_one to22 (((aw.ext aa).cell 0).trans rfl)) ?_
 refine r_fieldAddr af 0 0 0 rfl rfl fo65_0 rfl ?_
 refine r_load af 0 (.slice au a1.Args.length av) rfl rfl (loads_one to22 ((ay.cell 0).trans rfl)) ?_
 obtain ⟨ae, aM, hf⟩ := bind_some hf
 refine r_call [.slice A1 a0.Args.length c2, .slice au a1.Args.length av] (evs2 rfl rfl) rfl (hrec_value_compareValues _ _ _ _ _ _ (RpV.mkList ((h3.mono ac.wext).mono aa.wext)) (RpV.mkList ((aG.mono ac.wext).mono aa.wext)) aM) ?_
 intro aU aV ab aN
 have ax := aL.x ab
 obtain rfl := RpV.int aN
 refine r_assign (.int .i64 ae) rfl rfl ?_
 refine j0 (j1 (j2 (j3 ?_)))
 refine r_move (.int .i64 ae) rfl rfl ?_
 refine r_bin (.int .i64 ae) (.int .i64 0) (.bool (ae != 0)) rfl rfl rfl rfl (b_neq) ?_
 refine j0 (j1 ?_)
 refine if_else hf (fun az hf => ?_) (fun az hf => ?_)
 ·refine c_true rfl az rfl ?_
  refine j2 (j3 ?_)
  refine r_move (.int .i64 ae) rfl rfl ?_
  refine r_assign (.int .i64 ae) rfl rfl ?_
  refine j0 (j1 (jb (j9 ?_)))
  obtain rfl := Option.some.inj hf
  refine ret_one (.int .i64 ae) rfl ⟨rfl, rfl⟩ ax ?_
  exact (RpV.mkInt _ _)
 refine c_false rfl az rfl ?_
 refine ja (j1 (j2 (j2 (j3 ?_))))
 refine r_fieldAddr ad 0 1 1 rfl rfl fo65_1 rfl ?_
 refine r_load ad 1 (.bool a0.Fails) rfl rfl (loads_one to4 ((((aw.ext aa).ext ab).cell 1).trans rfl)) ?_
 refine r_fieldAddr af 0 1 1 rfl rfl fo65_1 rfl ?_
 refine r_load af 1 (.bool a1.Fails) rfl rfl (loads_one to4 (((ay.ext ab).cell 1).trans rfl)) ?_
 refine r_bin (.bool a0.Fails) (.bool a1.Fails) (.bool (a0.Fails != a1.Fails)) rfl rfl rfl rfl (b_bneq Go.Proofs.Try.underlying4) ?_
 refine j0 (j1 ?_)
 refine if_else hf (fun aA hf => ?_) (fun aA hf => ?_)
 ·refine c_true rfl aA rfl ?_
  refine j2 (j2 (j3 ?_))
  refine r_fieldAddr ad 0 1 1 rfl rfl fo65_1 rfl ?_
  refine r_load ad 1 (.bool a0.Fails) rfl rfl (loads_one to4 ((((aw.ext aa).ext ab).cell 1).trans rfl)) ?_
  refine j0 (j1 ?_)
  refine if_else hf (fun aB hf => ?_) (fun aB hf => ?_)
  ·refine c_true rfl aB rfl ?_
   refine j2 (j3 ?_)
   refine r_assign (.int .i64 (-1)) rfl rfl ?_
   refine j0 (j1 (jb (j9 (j9 ?_))))
   obtain rfl := Option.some.inj hf
   refine ret_one (.int .i64 (-1)) rfl ⟨rfl, rfl⟩ ax ?_
   exact (RpV.mkInt _ _)
  refine c_false rfl aB rfl ?_
  refine ja (j1 (j2 (j3 ?_)))
  refine r_assign (.int .i64 1) rfl rfl ?_
  refine j0 (j1 (jb (j9 ?_)))
  obtain rfl := Option.some.inj hf
  refine ret_one (.int .i64 1) rfl ⟨rfl, rfl⟩ ax ?_
  exact (RpV.mkInt _ _)
 refine c_false rfl aA rfl ?_
 refine ja (j1 (j2 (j3 ?_)))
 refine r_fieldAddr ad 0 2 2 rfl rfl fo65_2 rfl ?_
 refine r_load ad 2 (Val.ag a0.Result A4 c5 A7 c8 ag ah ai aj) rfl rfl (loads_row tr27 (Blk.range ((aw.ext aa).ext ab) 2 (Val.cs a0.Result A4 c5 A7 c8 ag ah ai aj) rfl)) ?_
 refine r_fieldAddr af 0 2 2 rfl rfl fo65_2 rfl ?_
 refine r_load af 2 (Val.ag a1.Result ak al am an ao ap aq ar) rfl rfl (loads_row tr27 (Blk.range (ay.ext ab) 2 (Val.cs a1.Result ak al am an ao ap aq ar) rfl)) ?_
 obtain ⟨aD, aO, hf⟩ := bind_some hf
 refine r_call [Val.ag a0.Result A4 c5 A7 c8 ag ah ai aj, Val.ag a1.Result ak al am an ao ap aq ar] (evs2 rfl rfl) rfl (hrec_value_Compare _ _ _ _ _ _ (Val.rpvMk (v := a0.Result) (((h6.mono ac.wext).mono aa.wext).mono ab.wext) (((h9.mono ac.wext).mono aa.wext).mono ab.wext) (((aE.mono ac.wext).mono aa.wext).mono ab.wext) (((aF.mono ac.wext).mono aa.wext).mono ab.wext)) (Val.rpvMk (v := a1.Result) (((aH.mono ac.wext).mono aa.wext).mono ab.wext) (((aI.mono ac.wext).mono aa.wext).mono ab.wext) (((aJ.mono ac.wext).mono aa.wext).mono ab.wext) (((aK.mono ac.wext).mono aa.wext).mono ab.wext)) aO) ?_
 intro aW aX aP aQ
 have aR := ax.x aP
 obtain rfl := RpV.int aQ
 refine r_assign (.int .i64 aD) rfl rfl ?_
 refine j0 (j1 (jb ?_))
 obtain rfl := Option.some.inj hf
 refine ret_one (.int .i64 aD) rfl ⟨rfl, rfl⟩ aR ?_
 exact (RpV.mkInt _ _)

theorem ok_scc_value_Compare : ∀ n : Nat, S_value_Compare (scc_value_Compare n).1 ∧ S_value_compareValues (scc_value_Compare n).2.1 ∧ S_value_compareEntries (scc_value_Compare n).2.2
  | 0 => ⟨(by intro _ _ _ _ _ _ _ _ h; cases h), (by intro _ _ _ _ _ _ _ _ h; cases h), (by intro _ _ _ _ _ _ _ _ h; cases h)⟩
  | n + 1 => by
    obtain ⟨h0, h1, h2⟩ := ok_scc_value_Compare n
    exact ⟨okB_value_Compare h0 h1 h2, okB_value_compareValues h0 h1 h2, okB_value_compareEntries h0 h1 h2⟩

theorem ok_value_Compare (n : Nat) : S_value_Compare (value_Compare n) := (ok_scc_value_Compare n).1

theorem ok_value_compareValues (n : Nat) : S_value_compareValues (value_compareValues n) := (ok_scc_value_Compare n).2.1

theorem ok_value_compareEntries (n : Nat) : S_value_compareEntries (value_compareEntries n) := (ok_scc_value_Compare n).2.2

def S_value_ascending_api_Entry (f : ((List Ent) → (Ent → Ent → Option Int) → Option Bool)) : Prop := ∀ (s0 : S) (v0 : Value) (v1 : Value) (a0 : (List Ent)) (a1 : (Ent → Ent → Option Int)) (r : Bool), RpV s0 a0 v0 → Fn2 Go.Proofs.Try.prog s0 v1 a1 → f a0 a1 = some r → Ctr Go.Proofs.Try.prog 103 [v0, v1] s0 (fun v τ => RpV τ r v)

set_option maxHeartbeats 1600000 in
set_option maxRecDepth 100000 in
theorem ok_value_ascending_api_Entry : S_value_ascending_api_Entry value_ascending_api_Entry := by
 intro s0 v0 v1 a0 a1 r h0 h1 hf
 obtain ⟨A1, c2, rfl, h3⟩ := RpV.list h0
 obtain ⟨kk1, fi1, ca1, rfl, hk1⟩ := h1
 unfold value_ascending_api_Entry at hf
 have E0 : ExtB s0.N s0 s0 := ExtB.refl _ _
 refine ctr_of 24 Go.Proofs.Try.func103 rfl rfl rfl rfl ?_
 refine j2 (j3 ?_)
 refine r_assign (.bool false) rfl rfl ?_
 refine j0 (j1 (j2 (j2 (j3 ?_))))
 refine r_assign (.int .i64 1) rfl rfl ?_
 refine j0 (j1 (j4 ?_))
 refine gen_F fun F4 hg5 => ?_
 have f6 : F4 0 = (.slice A1 a0.length c2) := (hg5 0).trans rfl
 have f7 : F4 1 = (.func (.func kk1) (List.toArray fi1) (List.toArray ca1)) := (hg5 1).trans rfl
 have f9 : F4 5 = (.int .i64 1) := (hg5 5).trans rfl
 obtain ⟨av, aw, hf⟩ := bind_some hf
 refine wp_mono (wp_iter (step := value_ascending_api_Entry_l1 a0 a1) (fun q a w => ∃ (F : Fr) (τ : S), a = fr 24 F ∧ w = τ.w ∧ Agr [4, 5, 6, 7, 8, 9, 10, 11, 12, 13, 14, 15, 16, 17, 18, 19, 20, 21, 22, 23] F F4 ∧ ExtB s0.N s0 τ ∧ Wext s0 τ ∧ F 5 = (.int .i64 q)) (fun o e a w => match o with | .inl q => e = .exit 0 ∧ ∃ (F : Fr) (τ : S), a = fr 24 F ∧ w = τ.w ∧ Agr [4, 5, 6, 7, 8, 9, 10, 11, 12, 13, 14, 15, 16, 17, 18, 19, 20, 21, 22, 23] F F4 ∧ ExtB s0.N s0 τ ∧ Wext s0 τ ∧ F 5 = (.int .i64 q) | .inr r => e = .ret ∧ ∃ (F : Fr) (τ : S) (va : Value), a = fr 24 F ∧ w = τ.w ∧ ExtB s0.N s0 τ ∧ ResV Go.Proofs.Try.prog 24 F τ.w (.tmp 4) va ∧ RpV τ r va) (by rintro (_ | _) a w ⟨h, _⟩ <;> cases h) ?_ _ _ _ _ _ aw ?_) ?_
 ·intro aa fl a w hf hI
  obtain ⟨cv, cw, rfl, rfl, ad, af, ae, ab⟩ := hI
  unfold value_ascending_api_Entry_l1 at hf
  have ag := (ad 0 rfl).trans f6
  have ax := (ad 1 rfl).trans f7
  refine j2 (j2 (j3 ?_))
  refine r_move (.int .i64 aa) ab rfl ?_
  refine r_move (.slice A1 a0.length c2) ag rfl ?_
  refine r_len A1 a0.length c2 rfl rfl Go.Proofs.Try.underlying24 ?_
  refine r_bin (.int .i64 aa) (.int .i64 (a0.length : Int)) (.bool (decide (aa < (a0.length : Int)))) rfl rfl rfl rfl (b_lss) ?_
  refine j0 (j1 ?_)
  refine if_else hf (fun ah hf => ?_) (fun ah hf => ?_)
  ·refine c_true rfl ah rfl ?_
   refine ja (j1 (j2 (j4 (j2 ?_))))
   obtain ⟨x20, ay, hf⟩ := bind_some hf
   obtain ⟨x22, az, hf⟩ := bind_some hf
   obtain ⟨ac, aA, hf⟩ := bind_some hf
   refine wp_draw (B := frExt s0.N) [some 12, some 13, some 14, some 15, some 16, some 17, some 18, some 19, some 20, some 21, some 22, some 23] [[], [], [], [2], [1, 2, 3], [1, 2, 3, 4], [], [], [6, 7], [6, 7, 8], [0, 1, 2, 3, 4, 5, 6, 7, 8, 9], [0, 1, 2, 3, 4, 5, 6, 7, 8, 9, 10]] [Fct.eqv (.func (.func kk1) (List.toArray fi1) (List.toArray ca1)), Fct.eqv (.slice A1 a0.length c2), Fct.eqv (.int .i64 aa), Fct.eqv (.int .i64 (w64 (aa - 1))), Fct.elem (x20 : Ent), Fct.data (x20 : Ent), Fct.eqv (.slice A1 a0.length c2), Fct.eqv (.int .i64 aa), Fct.elem (x22 : Ent), Fct.data (x22 : Ent), Fct.eqv (.int .i64 ac), Fct.eqv (.bool (decide (0 ≤ ac)))] (fun D F τ => True) (by kernel_rfl) rfl (by decide) (by decide) trivial (by decide) (by decide) ⟨?_, ?_, ?_, ?_, ?_, ?_, ?_, ?_, ?_, ?_, ?_, ?_, trivial⟩ ?_
   ·intro cx cy cz cA cB cC cD cE cF aB cG
    refine r_move (.func (.func kk1) (List.toArray fi1) (List.toArray ca1)) ((aB 1 rfl).trans ax) rfl ?_
    exact d0 ⟨rfl, trivial⟩
   ·intro cH cI cJ cK cL cM cN cO cP aC cQ
    refine r_move (.slice A1 a0.length c2) ((aC 0 rfl).trans ag) rfl ?_
    exact d0 ⟨rfl, trivial⟩
   ·intro cR cS cT cU cV cW cX cY cZ aD c0
    refine r_move (.int .i64 aa) ((aD 5 rfl).trans ab) rfl ?_
    exact d0 ⟨rfl, trivial⟩
   ·intro c1 c3 c4 c5 c6 c7 c8 c9 da db aE
    refine r_bin (.int .i64 aa) (.int .i64 1) (.int .i64 (w64 (aa - 1))) (aE 2 rfl 14 rfl) rfl rfl rfl (b_sub) ?_
    exact d0 ⟨rfl, trivial⟩
   ·intro dc dd de df dg dh di aF dj dk al
    refine r_indexAddr (T := 24) (E := 65) ((h3.mono ae).mono aF) ay (al 1 rfl 13 rfl) (al 3 rfl 15 rfl) rfl rfl Go.Proofs.Try.underlying24 sz65 ?_
    intro dl dm dn aG aH
    obtain ⟨dp, dq, dr, ds, dt, du, dv, dw, dx, dy, rfl, aI, aJ, aK, aL, aM⟩ := Ent.cells_iff.1 aG
    exact d0 ⟨⟨_, _, _, rfl, (Ent.cells_iff.2 ⟨_, _, _, _, _, _, _, _, _, _, rfl, aI, aJ, aK, aL, aM⟩), aH⟩, trivial⟩
   ·intro dz aN aO dA dB dC dD dE dF dG aP
    obtain ⟨aQ, aR, dH, aS, aT, aU⟩ : (Fct.elem (x20 : Ent)).p (aN 16) aO := aP 4 rfl 16 rfl
    obtain ⟨aV, aW, aX, aY, aZ, a2, a3, a4, a5, a6, rfl, a7, a8, a9, ba, bb⟩ := Ent.cells_iff.1 aT
    refine r_load aQ aR (.agg #[.slice aV x20.Args.length aW, .bool x20.Fails, .int .i64 x20.Result.Kind, .int .i64 x20.Result.Int_, .string x20.Result.Text, .slice aX x20.Result.Kids.length aY, .slice aZ x20.Result.Keys.length a2, .slice a3 x20.Result.Entries.length a4, .slice a5 x20.Result.Labels.length a6]) aS rfl (loads_row tr65 aU.2) ?_
    exact d0 ⟨(Ent.rpvMk (v := x20) a7 a8 a9 ba bb), trivial⟩
   ·intro dI dJ dK dL dM dN dO dP dQ bc dR
    refine r_move (.slice A1 a0.length c2) ((bc 0 rfl).trans ag) rfl ?_
    exact d0 ⟨rfl, trivial⟩
   ·intro dS dT dU dV dW dX dY dZ d1 bd d2
    refine r_move (.int .i64 aa) ((bd 5 rfl).trans ab) rfl ?_
    exact d0 ⟨rfl, trivial⟩
   ·intro d3 d4 d5 d6 d7 d8 d9 be ea eb am
    refine r_indexAddr (T := 24) (E := 65) ((h3.mono ae).mono be) az (am 6 rfl 18 rfl) (am 7 rfl 19 rfl) rfl rfl Go.Proofs.Try.underlying24 sz65 ?_
    intro ec ed ee bf bg
    obtain ⟨ef, eg, eh, ei, ej, ek, el, em, en, eo, rfl, bh, bi, bj, bk, bl⟩ := Ent.cells_iff.1 bf
    exact d0 ⟨⟨_, _, _, rfl, (Ent.cells_iff.2 ⟨_, _, _, _, _, _, _, _, _, _, rfl, bh, bi, bj, bk, bl⟩), bg⟩, trivial⟩
   ·intro ep bm bn eq er es et eu ev ew bo
    obtain ⟨bp, bq, ex, br, bs, bt⟩ : (Fct.elem (x22 : Ent)).p (bm 20) bn := bo 8 rfl 20 rfl
    obtain ⟨bu, bv, bw, bx, bz, bA, bB, bC, bD, bE, rfl, bF, bG, bH, bI, bJ⟩ := Ent.cells_iff.1 bs
    refine r_load bp bq (.agg #[.slice bu x22.Args.length bv, .bool x22.Fails, .int .i64 x22.Result.Kind, .int .i64 x22.Result.Int_, .string x22.Result.Text, .slice bw x22.Result.Kids.length bx, .slice bz x22.Result.Keys.length bA, .slice bB x22.Result.Entries.length bC, .slice bD x22.Result.Labels.length bE]) br rfl (loads_row tr65 bt.2) ?_
    exact d0 ⟨(Ent.rpvMk (v := x22) bF bG bH bI bJ), trivial⟩
   ·intro ey an ai ez eA eB bK eC eD eE aj
    have ao := af.trans bK
    have bL : RpV ai (x20 : Ent) (an 17) := aj 5 rfl 17 rfl
    obtain ⟨bM, bN, bO, bP, bQ, bR, bS, bT, bU, bV, bW, bX, bY, bZ, b0, b1⟩ := Ent.rpv bL
    have b2 : RpV ai (x22 : Ent) (an 21) := aj 9 rfl 21 rfl
    obtain ⟨b3, b4, b5, b6, b7, b8, b9, ca, cb, cc, cd, ce, cf, cg, ch, ci⟩ := Ent.rpv b2
    refine r_callv [.agg #[.slice bM x20.Args.length bN, .bool x20.Fails, .int .i64 x20.Result.Kind, .int .i64 x20.Result.Int_, .string x20.Result.Text, .slice bO x20.Result.Kids.length bP, .slice bQ x20.Result.Keys.length bR, .slice bS x20.Result.Entries.length bT, .slice bU x20.Result.Labels.length bV], .agg #[.slice b3 x22.Args.length b4, .bool x22.Fails, .int .i64 x22.Result.Kind, .int .i64 x22.Result.Int_, .string x22.Result.Text, .slice b5 x22.Result.Kids.length b6, .slice b7 x22.Result.Keys.length b8, .slice b9 x22.Result.Entries.length ca, .slice cb x22.Result.Labels.length cc]] (aj 0 rfl 12 rfl) rfl (evs2 bW cd) rfl (hk1 ai ao _ _ _ _ _ (Ent.rpvMk (v := x20) bX bY bZ b0 b1) (Ent.rpvMk (v := x22) ce cf cg ch ci) aA) ?_
    intro eF eG ap cj
    obtain rfl := RpV.int cj
    refine j0 ?_
    exact ⟨_, _, rfl, rfl, (ExtB.refl _ _).trans (ap.mono ao.size), (Wext.refl _).trans ap.wext, rfl, trivial⟩
   ·intro eH eI eJ eK eL eM eN eO eP eQ ck
    refine r_bin (.int .i64 ac) (.int .i64 0) (.bool (decide (0 ≤ ac))) (ck 10 rfl 22 rfl) rfl rfl rfl (b_geq) ?_
    exact d0 ⟨rfl, trivial⟩
   intro cl eR cm cn eS aq co
   have ar := af.trans cm
   have cp := (aq 5 rfl).trans ab
   have au : cl 23 = (.bool (decide (0 ≤ ac))) := co 11 23 rfl
   refine j1 ?_
   refine if_else hf (fun ak hf => ?_) (fun ak hf => ?_)
   ·refine c_true au ak rfl ?_
    refine j2 (j3 ?_)
    refine r_assign (.bool false) rfl rfl ?_
    refine j0 (j1 (jb (j7 (j9 ?_))))
    obtain rfl := Option.some.inj hf
    exact ⟨rfl, _, _, (.bool false), rfl, rfl, ar, ⟨rfl, rfl⟩, (RpV.mkBool _ _)⟩
   refine c_false au ak rfl ?_
   refine ja (j5 (j1 (j3 ?_)))
   refine r_move (.int .i64 aa) cp rfl ?_
   refine r_bin (.int .i64 aa) (.int .i64 1) (.int .i64 (w64 (aa + 1))) rfl rfl rfl rfl (b_add) ?_
   refine r_assign (.int .i64 (w64 (aa + 1))) rfl rfl ?_
   refine j0 ?_
   obtain rfl := Option.some.inj hf
   exact ⟨rfl, _, _, rfl, rfl, (((((((((ad).put rfl).put rfl).put rfl).put rfl).draw aq rfl).put rfl).put rfl).put rfl), ar, (((Wext.refl _).trans ae).trans cn), rfl⟩
  refine c_false rfl ah rfl ?_
  refine jc (j8 ?_)
  obtain rfl := Option.some.inj hf
  exact ⟨rfl, _, _, rfl, rfl, (((((ad).put rfl).put rfl).put rfl).put rfl), af, ((Wext.refl _).trans ae), ab⟩
 ·exact ⟨_, _, rfl, rfl, (Agr.refl _ _), E0, (Wext.refl _), f9⟩
 intro e a w hp
 rcases av with eT | r
 ·replace hf := onEnd_inl hf
  obtain ⟨rfl, eU, eV, rfl, rfl, eW, cq, eX, eY⟩ := hp
  refine j6 (j1 (j2 (j3 ?_)))
  refine r_assign (.bool true) rfl rfl ?_
  refine j0 (j1 (jb ?_))
  obtain rfl := Option.some.inj hf
  refine ret_one (.bool true) rfl ⟨rfl, rfl⟩ cq ?_
  exact (RpV.mkBool _ _)
 replace hf := onEnd_inr hf
 obtain ⟨rfl, eZ, e0, cr, rfl, rfl, cs, ct, cu⟩ := hp
 refine j7 (j9 ?_)
 obtain rfl := Option.some.inj hf
 refine ret_one cr rfl ct cs ?_
 exact cu

def S_value_Equal (f : (Val → Val → Option Bool)) : Prop := ∀ (s0 : S) (v0 : Value) (v1 : Value) (a0 : Val) (a1 : Val) (r : Bool), RpV s0 a0 v0 → RpV s0 a1 v1 → f a0 a1 = some r → Ctr Go.Proofs.Try.prog 14 [v0, v1] s0 (fun v τ => RpV τ r v)

set_option maxHeartbeats 1600000 in
set_option maxRecDepth 100000 in
theorem ok_value_Equal (fuel : Nat) : S_value_Equal (value_Equal fuel) := by
 intro s0 v0 v1 a0 a1 r h0 h1 hf
 obtain ⟨A1, c2, A4, c5, A7, c8, ac, ad, rfl, h3, h6, h9, ao⟩ := Val.rpv h0
 obtain ⟨ae, af, ag, ah, ai, aj, ak, al, rfl, ap, aq, ar, au⟩ := Val.rpv h1
 unfold value_Equal at hf
 have E0 : ExtB s0.N s0 s0 := ExtB.refl _ _
 refine ctr_of 9 Go.Proofs.Try.func14 rfl rfl rfl rfl ?_
 refine j2 (j3 ?_)
 refine r_box (B := s0.N) 1 E0.size (Val.ag a0 A1 c2 A4 c5 A7 c8 ac ad) (Val.cs a0 A1 c2 A4 c5 A7 c8 ac ad) rfl rfl rfl ?_
 intro aE av ab aw
 have an := E0.x ab
 refine r_box (B := s0.N) 2 an.size (Val.ag a1 ae af ag ah ai aj ak al) (Val.cs a1 ae af ag ah ai aj ak al) rfl rfl rfl ?_
 intro aF ax aa ay
 have az := an.x aa
 refine r_assign (.bool false) rfl rfl ?_
 refine j0 (j1 (j2 (j3 ?_)))
 refine r_load av 0 (Val.ag a0 A1 c2 A4 c5 A7 c8 ac ad) rfl rfl (loads_row tr27 (Blk.range (aw.ext aa) 0 (Val.cs a0 A1 c2 A4 c5 A7 c8 ac ad) rfl)) ?_
 refine r_load ax 0 (Val.ag a1 ae af ag ah ai aj ak al) rfl rfl (loads_row tr27 (Blk.range ay 0 (Val.cs a1 ae af ag ah ai aj ak al) rfl)) ?_
 obtain ⟨am, aA, hf⟩ := bind_some hf
 refine r_call [Val.ag a0 A1 c2 A4 c5 A7 c8 ac ad, Val.ag a1 ae af ag ah ai aj ak al] (evs2 rfl rfl) rfl ((ok_value_Compare fuel) _ _ _ _ _ _ (Val.rpvMk (v := a0) ((h3.mono ab.wext).mono aa.wext) ((h6.mono ab.wext).mono aa.wext) ((h9.mono ab.wext).mono aa.wext) ((ao.mono ab.wext).mono aa.wext)) (Val.rpvMk (v := a1) ((ap.mono ab.wext).mono aa.wext) ((aq.mono ab.wext).mono aa.wext) ((ar.mono ab.wext).mono aa.wext) ((au.mono ab.wext).mono aa.wext)) aA) ?_
 intro aG aH aB aC
 have aD := az.x aB
 obtain rfl := RpV.int aC
 refine r_bin (.int .i64 am) (.int .i64 0) (.bool (am == 0)) rfl rfl rfl rfl (b_eql) ?_
 refine r_assign (.bool (am == 0)) rfl rfl ?_
 refine j0 (j1 (jb ?_))
 obtain rfl := Option.some.inj hf
 refine ret_one (.bool (am == 0)) rfl ⟨rfl, rfl⟩ aD ?_
 exact (RpV.mkBool _ _)

def S_value_isZero (f : (Val → Option Bool)) : Prop := ∀ (s0 : S) (v0 : Value) (a0 : Val) (r : Bool), RpV s0 a0 v0 → f a0 = some r → Ctr Go.Proofs.Try.prog 108 [v0] s0 (fun v τ => RpV τ r v)

set_option maxHeartbeats 1600000 in
set_option maxRecDepth 100000 in
theorem ok_value_isZero (fuel : Nat) : S_value_isZero (value_isZero fuel) := by
 intro s0 v0 a0 r h0 hf
 obtain ⟨A1, c2, A4, c5, A7, c8, aa, ab, rfl, h3, h6, h9, ae⟩ := Val.rpv h0
 unfold value_isZero at hf
 have E0 : ExtB s0.N s0 s0 := ExtB.refl _ _
 refine ctr_of 6 Go.Proofs.Try.func108 rfl rfl rfl rfl ?_
 refine j2 (j3 ?_)
 refine r_box (B := s0.N) 1 E0.size (Val.ag a0 A1 c2 A4 c5 A7 c8 aa ab) (Val.cs a0 A1 c2 A4 c5 A7 c8 aa ab) rfl rfl rfl ?_
 intro am af ac ag
 have ah := E0.x ac
 refine r_assign (.bool false) rfl rfl ?_
 refine j0 (j1 (j2 (j3 ?_)))
 refine r_load af 0 (Val.ag a0 A1 c2 A4 c5 A7 c8 aa ab) rfl rfl (loads_row tr27 (Blk.range ag 0 (Val.cs a0 A1 c2 A4 c5 A7 c8 aa ab) rfl)) ?_
 refine r_build tst27 [] [.int .i64 0, .int .i64 0, .string (⟨#[]⟩), nl Val, nl Key, nl Ent, nl ByteArray] eps_nil rfl rfl ?_
 obtain ⟨ad, ai, hf⟩ := bind_some hf
 refine r_call [Val.ag a0 A1 c2 A4 c5 A7 c8 aa ab, .agg #[.int .i64 0, .int .i64 0, .string (⟨#[]⟩), nl Val, nl Key, nl Ent, nl ByteArray]] (evs2 rfl rfl) rfl ((ok_value_Equal fuel) _ _ _ _ _ _ (Val.rpvMk (v := a0) (h3.mono ac.wext) (h6.mono ac.wext) (h9.mono ac.wext) (ae.mono ac.wext)) (Val.rpvMk (v := (Val.mk 0 0 (⟨#[]⟩) ([] : List Val) ([] : List Key) ([] : List Ent) ([] : List ByteArray))) (Sl.nil_ _ _ _ (Nat.zero_le _)) (Sl.nil_ _ _ _ (Nat.zero_le _)) (Sl.nil_ _ _ _ (Nat.zero_le _)) (Sl.nil_ _ _ _ (Nat.zero_le _))) ai) ?_
 intro an ao aj ak
 have al := ah.x aj
 obtain rfl := RpV.bool ak
 refine r_assign (.bool ad) rfl rfl ?_
 refine j0 (j1 (jb ?_))
 obtain rfl := Option.some.inj hf
 refine ret_one (.bool ad) rfl ⟨rfl, rfl⟩ al ?_
 exact (RpV.mkBool _ _)

def S_value_validEntry (f : (Ent → Int → Option Bool)) : Prop := ∀ (s0 : S) (v0 : Value) (v1 : Value) (a0 : Ent) (a1 : Int) (r : Bool), RpV s0 a0 v0 → RpV s0 a1 v1 → f a0 a1 = some r → Ctr Go.Proofs.Try.prog 104 [v0, v1] s0 (fun v τ => RpV τ r v)

set_option maxHeartbeats 1600000 in
set_option maxRecDepth 100000 in
theorem ok_value_validEntry (fuel : Nat) : S_value_validEntry (value_validEntry fuel) := by
 intro s0 v0 v1 a0 a1 r h0 h1 hf
 obtain ⟨A1, c2, A4, c5, A7, c8, ae, af, ag, ah, rfl, h3, h6, h9, aq, ar⟩ := Ent.rpv h0
 obtain rfl := RpV.int h1
 unfold value_validEntry at hf
 have E0 : ExtB s0.N s0 s0 := ExtB.refl _ _
 refine ctr_of 20 Go.Proofs.Try.func104 rfl rfl rfl rfl ?_
 refine j2 (j3 ?_)
 refine r_box (B := s0.N) 1 E0.size (.agg #[.slice A1 a0.Args.length c2, .bool a0.Fails, .int .i64 a0.Result.Kind, .int .i64 a0.Result.Int_, .string a0.Result.Text, .slice A4 a0.Result.Kids.length c5, .slice A7 a0.Result.Keys.length c8, .slice ae a0.Result.Entries.length af, .slice ag a0.Result.Labels.length ah]) [.slice A1 a0.Args.length c2, .bool a0.Fails, .int .i64 a0.Result.Kind, .int .i64 a0.Result.Int_, .string a0.Result.Text, .slice A4 a0.Result.Kids.length c5, .slice A7 a0.Result.Keys.length c8, .slice ae a0.Result.Entries.length af, .slice ag a0.Result.Labels.length ah] rfl rfl rfl ?_
 intro au ad ai al
 have am := E0.x ai
 refine r_assign (.bool false) rfl rfl ?_
 refine j0 (j1 (j2 (j3 ?_)))
 refine r_fieldAddr ad 0 0 0 rfl rfl fo65_0 rfl ?_
 refine r_load ad 0 (.slice A1 a0.Args.length c2) rfl rfl (loads_one to22 ((al.cell 0).trans rfl)) ?_
 refine r_len A1 a0.Args.length c2 rfl rfl Go.Proofs.Try.underlying22 ?_
 refine r_move (.int .i64 a1) rfl rfl ?_
 refine r_bin (.int .i64 (a0.Args.length : Int)) (.int .i64 a1) (.bool ((a0.Args.length : Int) == a1)) rfl rfl rfl rfl (b_eql) ?_
 refine r_move (.bool ((a0.Args.length : Int) == a1)) rfl rfl ?_
 refine if_else hf (fun aa hf => ?_) (fun aa hf => ?_)
 ·refine r_guard (j := 5) (want := true) (d := 10) (c := ((a0.Args.length : Int) == a1)) (v := true) rfl rfl aa rfl rfl ?_
  refine r_fieldAddr ad 0 1 1 rfl rfl fo65_1 rfl ?_
  refine r_guard (j := 5) (want := true) (d := 10) (c := ((a0.Args.length : Int) == a1)) (v := true) rfl rfl aa rfl rfl ?_
  refine r_load ad 1 (.bool a0.Fails) rfl rfl (loads_one to4 ((al.cell 1).trans rfl)) ?_
  refine r_guard (j := 5) (want := true) (d := 10) (c := ((a0.Args.length : Int) == a1)) (v := true) rfl rfl aa rfl rfl ?_
  refine r_un (.bool a0.Fails) (.bool (!a0.Fails)) rfl rfl u_not ?_
  refine r_guard (j := 5) (want := true) (d := 10) (c := ((a0.Args.length : Int) == a1)) (v := true) rfl rfl aa rfl rfl ?_
  refine r_move (.bool (!a0.Fails)) rfl rfl ?_
  refine gen_FL fun aj an => ?_
  have av : aj 2 = (.pointer (some ⟨ad, 0, none⟩)) := (an 2).trans rfl
  have ao : aj 10 = (.bool ((a0.Args.length : Int) == a1)) := (an 10).trans rfl
  have ac : aj 14 = (.bool (!a0.Fails)) := (an 14).trans rfl
  obtain ⟨ak, hq29, hf⟩ := bind_some hf
  refine wpl_take 4 (J := fun a w => ∃ (F : Fr) (τ : S), a = fr 20 F ∧ w = τ.w ∧ Agr [15, 16, 17, 18] F aj ∧ ExtB s0.N s0 τ ∧ Wext au τ ∧ F 18 = (.bool ak)) ?_ ?_
  ·have hf := hq29
   refine if_else hf (fun ab hf => ?_) (fun ab hf => ?_)
   ·refine r_skip (j := 9) (want := false) (d := 14) (c := !a0.Fails) (v := true) rfl ac ab rfl rfl ?_
    refine r_skip (j := 9) (want := false) (d := 14) (c := !a0.Fails) (v := true) rfl ac ab rfl rfl ?_
    refine r_skip (j := 9) (want := false) (d := 14) (c := !a0.Fails) (v := true) rfl ac ab rfl rfl ?_
    refine r_guard (j := 5) (want := true) (d := 10) (c := ((a0.Args.length : Int) == a1)) (v := true) rfl ao aa rfl rfl ?_
    refine r_pick_t (c := !a0.Fails) (.bool true) ac ab rfl rfl rfl rfl ?_
    refine j0 ?_
    obtain rfl := Option.some.inj hf
    exact ⟨rfl, _, _, rfl, rfl, (((((Agr.refl _ _).put rfl).put rfl).put rfl).put rfl), am, (Wext.refl _), rfl⟩
   refine r_guard (j := 9) (want := false) (d := 14) (c := !a0.Fails) (v := false) rfl ac ab rfl rfl ?_
   refine r_fieldAddr ad 0 2 2 av rfl fo65_2 rfl ?_
   refine r_guard (j := 9) (want := false) (d := 14) (c := !a0.Fails) (v := false) rfl ac ab rfl rfl ?_
   refine r_load ad 2 (Val.ag a0.Result A4 c5 A7 c8 ae af ag ah) rfl rfl (loads_row tr27 (Blk.range al 2 (Val.cs a0.Result A4 c5 A7 c8 ae af ag ah) rfl)) ?_
   refine r_guard (j := 9) (want := false) (d := 14) (c := !a0.Fails) (v := false) rfl ac ab rfl rfl ?_
   obtain ⟨aw, ax, hf⟩ := bind_some hf
   refine r_call [Val.ag a0.Result A4 c5 A7 c8 ae af ag ah] (evs1 rfl) rfl ((ok_value_isZero fuel) _ _ _ _ (Val.rpvMk (v := a0.Result) (h6.mono ai.wext) (h9.mono ai.wext) (aq.mono ai.wext) (ar.mono ai.wext)) ax) ?_
   intro aE aF ap ay
   have az := am.x ap
   obtain rfl := RpV.bool ay
   refine r_guard (j := 5) (want := true) (d := 10) (c := ((a0.Args.length : Int) == a1)) (v := true) rfl ao aa rfl rfl ?_
   refine r_pick_f (c := !a0.Fails) (.bool aw) ac ab rfl rfl rfl rfl ?_
   refine j0 ?_
   obtain rfl := Option.some.inj hf
   exact ⟨rfl, _, _, rfl, rfl, (((((Agr.refl _ _).put rfl).put rfl).put rfl).put rfl), az, ((Wext.refl _).trans ap.wext), rfl⟩
  rintro a w ⟨aG, aH, rfl, rfl, aA, aB, aI, aC⟩
  have aD := (aA 10 rfl).trans ao
  refine r_pick_t (c := ((a0.Args.length : Int) == a1)) (.bool ak) aD aa aC rfl rfl rfl ?_
  refine r_assign (.bool ak) rfl rfl ?_
  refine j0 (j1 (jb ?_))
  obtain rfl := Option.some.inj hf
  refine ret_one (.bool ak) rfl ⟨rfl, rfl⟩ aB ?_
  exact (RpV.mkBool _ _)
 refine r_skip (j := 5) (want := true) (d := 10) (c := ((a0.Args.length : Int) == a1)) (v := false) rfl rfl aa rfl rfl ?_
 refine r_skip (j := 5) (want := true) (d := 10) (c := ((a0.Args.length : Int) == a1)) (v := false) rfl rfl aa rfl rfl ?_
 refine r_skip (j := 5) (want := true) (d := 10) (c := ((a0.Args.length : Int) == a1)) (v := false) rfl rfl aa rfl rfl ?_
 refine r_skip (j := 5) (want := true) (d := 10) (c := ((a0.Args.length : Int) == a1)) (v := false) rfl rfl aa rfl rfl ?_
 refine r_skipu (j := 9) (d := 14) rfl rfl rfl ?_
 refine r_skipu (j := 9) (d := 14) rfl rfl rfl ?_
 refine r_skipu (j := 9) (d := 14) rfl rfl rfl ?_
 refine r_skip (j := 5) (want := true) (d := 10) (c := ((a0.Args.length : Int) == a1)) (v := false) rfl rfl aa rfl rfl ?_
 refine r_pick_f (c := ((a0.Args.length : Int) == a1)) (.bool false) rfl aa rfl rfl rfl rfl ?_
 refine r_assign (.bool false) rfl rfl ?_
 refine j0 (j1 (jb ?_))
 obtain rfl := Option.some.inj hf
 refine ret_one (.bool false) rfl ⟨rfl, rfl⟩ am ?_
 exact (RpV.mkBool _ _)

def S_value_validFunction (f : (Val → Option Bool)) : Prop := ∀ (s0 : S) (v0 : Value) (a0 : Val) (r : Bool), RpV s0 a0 v0 → f a0 = some r → Ctr Go.Proofs.Try.prog 84 [v0] s0 (fun v τ => RpV τ r v)

set_option maxHeartbeats 1600000 in
set_option maxRecDepth 100000 in
theorem ok_value_validFunction (fuel : Nat) : S_value_validFunction (value_validFunction fuel) := by
 intro s0 v0 a0 r h0 hf
 obtain ⟨A1, c2, A4, c5, A7, c8, ar, au, rfl, h3, h6, h9, bz⟩ := Val.rpv h0
 unfold value_validFunction at hf
 have E0 : ExtB s0.N s0 s0 := ExtB.refl _ _
 refine ctr_of 32 Go.Proofs.Try.func84 rfl rfl rfl rfl ?_
 refine j2 (j3 ?_)
 refine r_box (B := s0.N) 1 E0.size (Val.ag a0 A1 c2 A4 c5 A7 c8 ar au) (Val.cs a0 A1 c2 A4 c5 A7 c8 ar au) rfl rfl rfl ?_
 intro aX aa aC ay
 have aO := E0.x aC
 refine r_assign (.bool false) rfl rfl ?_
 refine j0 (j1 (j2 (j2 (j3 ?_))))
 refine r_fieldAddr aa 0 1 1 rfl rfl fo27_1 rfl ?_
 refine r_load aa 1 (.int .i64 a0.Int_) rfl rfl (loads_one to2 ((ay.cell 1).trans rfl)) ?_
 refine r_bin (.int .i64 a0.Int_) (.int .i64 0) (.bool (decide (a0.Int_ < 0))) rfl rfl rfl rfl (b_lss) ?_
 refine r_move (.bool (decide (a0.Int_ < 0))) rfl rfl ?_
 refine gen_FL fun aD aP => ?_
 have aQ : aD 1 = (.pointer (some ⟨aa, 0, none⟩)) := (aP 1).trans rfl
 have ag : aD 8 = (.bool (decide (a0.Int_ < 0))) := (aP 8).trans rfl
 obtain ⟨ab, hq24, hf⟩ := bind_some hf
 refine wpl_take 4 (J := fun a w => ∃ (F : Fr) (τ : S), a = fr 32 F ∧ w = τ.w ∧ Agr [9, 10, 11, 12] F aD ∧ ExtB s0.N s0 τ ∧ Wext aX τ ∧ F 12 = (.bool ab) ∧ Blk s0.N 1 τ aa 27 (Val.cs a0 A1 c2 A4 c5 A7 c8 ar au)) ?_ ?_
 ·have hf := hq24
  refine if_else hf (fun ad hf => ?_) (fun ad hf => ?_)
  ·refine r_skip (j := 3) (want := false) (d := 8) (c := decide (a0.Int_ < 0)) (v := true) rfl ag ad rfl rfl ?_
   refine r_skip (j := 3) (want := false) (d := 8) (c := decide (a0.Int_ < 0)) (v := true) rfl ag ad rfl rfl ?_
   refine r_skip (j := 3) (want := false) (d := 8) (c := decide (a0.Int_ < 0)) (v := true) rfl ag ad rfl rfl ?_
   refine r_pick_t (c := decide (a0.Int_ < 0)) (.bool true) ag ad rfl rfl rfl rfl ?_
   refine j0 ?_
   obtain rfl := Option.some.inj hf
   exact ⟨rfl, _, _, rfl, rfl, (((((Agr.refl _ _).put rfl).put rfl).put rfl).put rfl), aO, (Wext.refl _), rfl, ay⟩
  refine r_guard (j := 3) (want := false) (d := 8) (c := decide (a0.Int_ < 0)) (v := false) rfl ag ad rfl rfl ?_
  refine r_fieldAddr aa 0 1 1 aQ rfl fo27_1 rfl ?_
  refine r_guard (j := 3) (want := false) (d := 8) (c := decide (a0.Int_ < 0)) (v := false) rfl ag ad rfl rfl ?_
  refine r_load aa 1 (.int .i64 a0.Int_) rfl rfl (loads_one to2 ((ay.cell 1).trans rfl)) ?_
  refine r_guard (j := 3) (want := false) (d := 8) (c := decide (a0.Int_ < 0)) (v := false) rfl ag ad rfl rfl ?_
  refine r_bin (.int .i64 a0.Int_) (.int .i64 4) (.bool (decide (4 < a0.Int_))) rfl rfl rfl rfl (b_gtr) ?_
  refine r_pick_f (c := decide (a0.Int_ < 0)) (.bool (decide (4 < a0.Int_))) ag ad rfl rfl rfl rfl ?_
  refine j0 ?_
  obtain rfl := Option.some.inj hf
  exact ⟨rfl, _, _, rfl, rfl, (((((Agr.refl _ _).put rfl).put rfl).put rfl).put rfl), aO, (Wext.refl _), rfl, ay⟩
 rintro a w ⟨bA, bB, rfl, rfl, aY, aR, aS, aZ, aE⟩
 have aF := (aY 1 rfl).trans aQ
 refine r_move (.bool ab) aZ rfl ?_
 refine if_else hf (fun ac hf => ?_) (fun ac hf => ?_)
 ·refine r_skip (j := 8) (want := false) (d := 13) (c := ab) (v := true) rfl rfl ac rfl rfl ?_
  refine r_skip (j := 8) (want := false) (d := 13) (c := ab) (v := true) rfl rfl ac rfl rfl ?_
  refine r_skip (j := 8) (want := false) (d := 13) (c := ab) (v := true) rfl rfl ac rfl rfl ?_
  refine r_skip (j := 8) (want := false) (d := 13) (c := ab) (v := true) rfl rfl ac rfl rfl ?_
  refine r_pick_t (c := ab) (.bool true) rfl ac rfl rfl rfl rfl ?_
  refine j0 (j1 ?_)
  refine c_true rfl rfl rfl ?_
  refine j2 (j3 ?_)
  refine r_assign (.bool false) rfl rfl ?_
  refine j0 (j1 (jb (j9 ?_)))
  obtain rfl := Option.some.inj hf
  refine ret_one (.bool false) rfl ⟨rfl, rfl⟩ aR ?_
  exact (RpV.mkBool _ _)
 refine r_guard (j := 8) (want := false) (d := 13) (c := ab) (v := false) rfl rfl ac rfl rfl ?_
 refine r_fieldAddr aa 0 5 5 aF rfl fo27_5 rfl ?_
 refine r_guard (j := 8) (want := false) (d := 13) (c := ab) (v := false) rfl rfl ac rfl rfl ?_
 refine r_load aa 5 (.slice A7 a0.Entries.length c8) rfl rfl (loads_one to24 ((aE.cell 5).trans rfl)) ?_
 refine r_guard (j := 8) (want := false) (d := 13) (c := ab) (v := false) rfl rfl ac rfl rfl ?_
 obtain ⟨aG, a1, hf⟩ := bind_some hf
 refine r_call [.slice A7 a0.Entries.length c8, .func (.func 44) #[] #[]] (evs2 rfl rfl) rfl (ok_value_ascending_api_Entry _ _ _ _ _ _ (RpV.mkList ((h9.mono aC.wext).mono aS)) ⟨44, [], [], rfl, fun _ _ _ _ _ _ _ h1 h2 h => ((ok_value_compareEntries fuel) _ _ _ _ _ _ h1 h2 h)⟩ a1) ?_
 intro bC aT az a2
 have aU := aR.x az
 obtain rfl := RpV.bool a2
 refine r_guard (j := 8) (want := false) (d := 13) (c := ab) (v := false) rfl rfl ac rfl rfl ?_
 refine r_un (.bool aG) (.bool (!aG)) rfl rfl u_not ?_
 refine r_pick_f (c := ab) (.bool (!aG)) rfl ac rfl rfl rfl rfl ?_
 refine j0 (j1 ?_)
 refine if_else hf (fun aH hf => ?_) (fun aH hf => ?_)
 ·refine c_true rfl aH rfl ?_
  refine j2 (j3 ?_)
  refine r_assign (.bool false) rfl rfl ?_
  refine j0 (j1 (jb (j9 ?_)))
  obtain rfl := Option.some.inj hf
  refine ret_one (.bool false) rfl ⟨rfl, rfl⟩ aU ?_
  exact (RpV.mkBool _ _)
 refine c_false rfl aH rfl ?_
 refine ja (j1 (j2 (j2 (j3 ?_))))
 refine r_fieldAddr aa 0 5 5 aF rfl fo27_5 rfl ?_
 refine r_load aa 5 (.slice A7 a0.Entries.length c8) rfl rfl (loads_one to24 (((aE.ext az).cell 5).trans rfl)) ?_
 refine r_len A7 a0.Entries.length c8 rfl rfl Go.Proofs.Try.underlying24 ?_
 refine r_move (.int .i64 0) rfl rfl ?_
 refine j0 (j1 (j4 ?_))
 refine gen_F fun av aA => ?_
 have a3 := (aA 1).trans aF
 have a4 : av 20 = (.slice A7 a0.Entries.length c8) := (aA 20).trans rfl
 have a5 : av 21 = (.int .i64 (a0.Entries.length : Int)) := (aA 21).trans rfl
 have a6 : av 22 = (.int .i64 0) := (aA 22).trans rfl
 obtain ⟨a7, a8, hf⟩ := bind_some hf
 refine wp_mono (wp_iter (step := value_validFunction_l1 fuel a0) (fun q a w => ∃ (F : Fr) (τ : S), a = fr 32 F ∧ w = τ.w ∧ Agr [2, 4, 22, 23, 24, 25, 26, 27, 28, 29, 30, 31] F av ∧ ExtB s0.N s0 τ ∧ Wext aT τ ∧ F 22 = (.int .i64 q) ∧ Blk s0.N 1 τ aa 27 (Val.cs a0 A1 c2 A4 c5 A7 c8 ar au)) (fun o e a w => match o with | .inl q => e = .exit 0 ∧ ∃ (F : Fr) (τ : S), a = fr 32 F ∧ w = τ.w ∧ Agr [2, 4, 22, 23, 24, 25, 26, 27, 28, 29, 30, 31] F av ∧ ExtB s0.N s0 τ ∧ Wext aT τ ∧ F 22 = (.int .i64 q) ∧ Blk s0.N 1 τ aa 27 (Val.cs a0 A1 c2 A4 c5 A7 c8 ar au) | .inr r => e = .ret ∧ ∃ (F : Fr) (τ : S) (va : Value), a = fr 32 F ∧ w = τ.w ∧ ExtB s0.N s0 τ ∧ ResV Go.Proofs.Try.prog 32 F τ.w (.tmp 2) va ∧ RpV τ r va) (by rintro (_ | _) a w ⟨h, _⟩ <;> cases h) ?_ _ _ _ _ _ a8 ?_) ?_
 ·intro aw fl a w hf hI
  obtain ⟨bD, bE, rfl, rfl, ax, aI, aJ, aB, aK⟩ := hI
  unfold value_validFunction_l1 at hf
  have a9 := (ax 1 rfl).trans a3
  have ba := (ax 20 rfl).trans a4
  have bb := (ax 21 rfl).trans a5
  refine j2 (j3 ?_)
  refine r_bin (.int .i64 aw) (.int .i64 (a0.Entries.length : Int)) (.bool (decide (aw < (a0.Entries.length : Int)))) aB bb rfl rfl (b_lss) ?_
  refine j0 (j1 (j2 ?_))
  refine if_else hf (fun aL hf => ?_) (fun aL hf => ?_)
  ·refine c_true rfl aL rfl ?_
   refine ja (j1 (j2 (j4 (j2 (j3 ?_)))))
   obtain ⟨x63, bc, hf⟩ := bind_some hf
   refine r_indexAddr (T := 24) (E := 65) ((((h9.mono aC.wext).mono aS).mono az.wext).mono aJ) bc ba aB rfl rfl Go.Proofs.Try.underlying24 sz65 ?_
   intro bd be bF bf bg
   obtain ⟨ah, ai, aj, ak, al, am, an, ao, ap, aq, rfl, bh, bi, bj, bk, bl⟩ := Ent.cells_iff.1 bf
   refine r_load bd be (.agg #[.slice ah x63.Args.length ai, .bool x63.Fails, .int .i64 x63.Result.Kind, .int .i64 x63.Result.Int_, .string x63.Result.Text, .slice aj x63.Result.Kids.length ak, .slice al x63.Result.Keys.length am, .slice an x63.Result.Entries.length ao, .slice ap x63.Result.Labels.length aq]) rfl rfl (loads_row tr65 bg.2) ?_
   refine r_alloc (B := s0.N) 2 aI.size _ [nl Val, .bool false, .int .i64 0, .int .i64 0, .string (⟨#[]⟩), nl Val, nl Key, nl Ent, nl ByteArray] ti65 rfl ?_
   intro bG bm ae bn
   have bo := aI.x ae
   refine r_store bn 0 (.agg #[.slice ah x63.Args.length ai, .bool x63.Fails, .int .i64 x63.Result.Kind, .int .i64 x63.Result.Int_, .string x63.Result.Text, .slice aj x63.Result.Kids.length ak, .slice al x63.Result.Keys.length am, .slice an x63.Result.Entries.length ao, .slice ap x63.Result.Labels.length aq]) [.slice ah x63.Args.length ai, .bool x63.Fails, .int .i64 x63.Result.Kind, .int .i64 x63.Result.Int_, .string x63.Result.Text, .slice aj x63.Result.Kids.length ak, .slice al x63.Result.Keys.length am, .slice an x63.Result.Entries.length ao, .slice ap x63.Result.Labels.length aq] [.slice ah x63.Args.length ai, .bool x63.Fails, .int .i64 x63.Result.Kind, .int .i64 x63.Result.Int_, .string x63.Result.Text, .slice aj x63.Result.Kids.length ak, .slice al x63.Result.Keys.length am, .slice an x63.Result.Entries.length ao, .slice ap x63.Result.Labels.length aq] rfl rfl rfl rfl rfl sz65 rfl rfl rfl ?_
   intro bH af bp
   have bq := bo.y af
   refine j0 (j1 (j2 (j3 ?_)))
   refine r_load bm 0 (.agg #[.slice ah x63.Args.length ai, .bool x63.Fails, .int .i64 x63.Result.Kind, .int .i64 x63.Result.Int_, .string x63.Result.Text, .slice aj x63.Result.Kids.length ak, .slice al x63.Result.Keys.length am, .slice an x63.Result.Entries.length ao, .slice ap x63.Result.Labels.length aq]) rfl rfl (loads_row tr65 (Blk.range bp 0 [.slice ah x63.Args.length ai, .bool x63.Fails, .int .i64 x63.Result.Kind, .int .i64 x63.Result.Int_, .string x63.Result.Text, .slice aj x63.Result.Kids.length ak, .slice al x63.Result.Keys.length am, .slice an x63.Result.Entries.length ao, .slice ap x63.Result.Labels.length aq] rfl)) ?_
   refine r_fieldAddr aa 0 1 1 a9 rfl fo27_1 rfl ?_
   refine r_load aa 1 (.int .i64 a0.Int_) rfl rfl (loads_one to2 ((((aK.ext ae).mod af rfl).cell 1).trans rfl)) ?_
   obtain ⟨aV, br, hf⟩ := bind_some hf
   refine r_call [.agg #[.slice ah x63.Args.length ai, .bool x63.Fails, .int .i64 x63.Result.Kind, .int .i64 x63.Result.Int_, .string x63.Result.Text, .slice aj x63.Result.Kids.length ak, .slice al x63.Result.Keys.length am, .slice an x63.Result.Entries.length ao, .slice ap x63.Result.Labels.length aq], .int .i64 a0.Int_] (evs2 rfl rfl) rfl ((ok_value_validEntry fuel) _ _ _ _ _ _ (Ent.rpvMk (v := x63) ((bh.mono ae.wext).mono af.wext) ((bi.mono ae.wext).mono af.wext) ((bj.mono ae.wext).mono af.wext) ((bk.mono ae.wext).mono af.wext) ((bl.mono ae.wext).mono af.wext)) (RpV.mkInt _ _) br) ?_
   intro bI bJ aM bs
   have aW := bq.x aM
   obtain rfl := RpV.bool bs
   refine r_un (.bool aV) (.bool (!aV)) rfl rfl u_not ?_
   refine j0 (j1 ?_)
   refine if_else hf (fun aN hf => ?_) (fun aN hf => ?_)
   ·refine c_true rfl aN rfl ?_
    refine j2 (j3 ?_)
    refine r_assign (.bool false) rfl rfl ?_
    refine j0 (j1 (jb (j7 (j9 ?_))))
    obtain rfl := Option.some.inj hf
    exact ⟨rfl, _, _, (.bool false), rfl, rfl, aW, ⟨rfl, rfl⟩, (RpV.mkBool _ _)⟩
   refine c_false rfl aN rfl ?_
   refine ja (j5 (j1 (j3 ?_)))
   refine r_bin (.int .i64 aw) (.int .i64 1) (.int .i64 (w64 (aw + 1))) aB rfl rfl rfl (b_add) ?_
   refine r_move (.int .i64 (w64 (aw + 1))) rfl rfl ?_
   refine j0 ?_
   obtain rfl := Option.some.inj hf
   exact ⟨rfl, _, _, rfl, rfl, (((((((((((((ax).put rfl).put rfl).put rfl).put rfl).put0).put rfl).put rfl).put rfl).put rfl).put rfl).put rfl).put rfl), aW, (((((Wext.refl _).trans aJ).trans ae.wext).trans af.wext).trans aM.wext), rfl, (((aK.ext ae).mod af rfl).ext aM)⟩
  refine c_false rfl aL rfl ?_
  refine jc (j8 ?_)
  obtain rfl := Option.some.inj hf
  exact ⟨rfl, _, _, rfl, rfl, ((ax).put rfl), aI, ((Wext.refl _).trans aJ), aB, aK⟩
 ·exact ⟨_, _, rfl, rfl, (Agr.refl _ _), aU, (Wext.refl _), a6, (aE.ext az)⟩
 intro e a w hp
 rcases a7 with bK | r
 ·replace hf := onEnd_inl hf
  obtain ⟨rfl, bL, bM, rfl, rfl, bN, bt, bO, bP, bQ⟩ := hp
  refine j6 (j1 (j2 (j3 ?_)))
  refine r_assign (.bool true) rfl rfl ?_
  refine j0 (j1 (jb ?_))
  obtain rfl := Option.some.inj hf
  refine ret_one (.bool true) rfl ⟨rfl, rfl⟩ bt ?_
  exact (RpV.mkBool _ _)
 replace hf := onEnd_inr hf
 obtain ⟨rfl, bR, bS, bu, rfl, rfl, bv, bw, bx⟩ := hp
 refine j7 (j9 ?_)
 obtain rfl := Option.some.inj hf
 refine ret_one bu rfl bw bv ?_
 exact bx

def S_value_validNode (f : (Val → Option Bool)) : Prop := ∀ (s0 : S) (v0 : Value) (a0 : Val) (r : Bool), RpV s0 a0 v0 → f a0 = some r → Ctr Go.Proofs.Try.prog 61 [v0] s0 (fun v τ => RpV τ r v)

end Go.Sx
