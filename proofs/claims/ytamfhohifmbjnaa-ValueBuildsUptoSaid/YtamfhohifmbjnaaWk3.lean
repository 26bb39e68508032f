/- Printed by dec.py. The walks. -/
import Derived.Test.YtamfhohifmbjnaaWk2
namespace Go.Sx
open Go Go.RowKit
attribute [local irreducible] Go.wpList Go.Code.wp Go.Sx.Ctr Go.Sx.CtrE

set_option maxHeartbeats 1600000 in
set_option maxRecDepth 100000 in
theorem ok_semtyperef1_Map : S_semtyperef1_Map semtyperef1_Map := by
 intro s0 v0 v1 a0 a1 r h0 h1 hf
 obtain ⟨A1, c2, rfl, h3⟩ := RpV.list h0
 obtain ⟨A4, c5, rfl, h6⟩ := RpV.list h1
 unfold semtyperef1_Map at hf
 have E0 : ExtB s0.N s0 s0 := ExtB.refl _ _
 refine ctr_of 113 Go.Proofs.Try.func75 rfl rfl rfl rfl ?_
 refine j2 (j3 ?_)
 refine r_alloc (B := s0.N) 1 E0.size _ [.int .i64 0, .int .i64 0, .string (⟨#[]⟩), nl Val, nl Key, nl Ent, nl ByteArray] ti27 rfl ?_
 intro s8 b7 k9 cV
 have cW := E0.x k9
 refine r_assign (.int .i64 0) rfl rfl ?_
 refine j0 (j1 (j2 (j2 (j3 ?_))))
 refine r_move (.slice A1 a0.length c2) rfl rfl ?_
 refine r_len A1 a0.length c2 rfl rfl Go.Proofs.Try.underlying23 ?_
 refine r_move (.slice A4 a1.length c5) rfl rfl ?_
 refine r_len A4 a1.length c5 rfl rfl Go.Proofs.Try.underlying22 ?_
 refine r_bin (.int .i64 (a0.length : Int)) (.int .i64 (a1.length : Int)) (.bool ((a0.length : Int) != (a1.length : Int))) rfl rfl rfl rfl (b_neq) ?_
 refine j0 (j1 ?_)
 refine if_else hf (fun bK hf => ?_) (fun bK hf => ?_)
 ·refine c_true rfl bK rfl ?_
  refine j2 (j3 ?_)
  refine r_build tst27 [] [.int .i64 0, .int .i64 0, .string (⟨#[]⟩), nl Val, nl Key, nl Ent, nl ByteArray] eps_nil rfl rfl ?_
  refine r_store cV 0 (.agg #[.int .i64 0, .int .i64 0, .string (⟨#[]⟩), nl Val, nl Key, nl Ent, nl ByteArray]) [.int .i64 0, .int .i64 0, .string (⟨#[]⟩), nl Val, nl Key, nl Ent, nl ByteArray] [.int .i64 0, .int .i64 0, .string (⟨#[]⟩), nl Val, nl Key, nl Ent, nl ByteArray] rfl rfl rfl rfl rfl sz27 rfl rfl rfl ?_
  intro B1 f8 f9
  have ga := cW.y f8
  refine r_assign (.int .i64 1) rfl rfl ?_
  refine j0 (j1 (jb (j9 ?_)))
  obtain rfl := Option.some.inj hf
  refine ret_two (.agg #[.int .i64 0, .int .i64 0, .string (⟨#[]⟩), nl Val, nl Key, nl Ent, nl ByteArray]) (.int .i64 1) rfl ⟨rfl, _, rfl, loads_row tr27 (Blk.range f9 0 [.int .i64 0, .int .i64 0, .string (⟨#[]⟩), nl Val, nl Key, nl Ent, nl ByteArray] rfl)⟩ ⟨rfl, rfl⟩ ga ?_
  exact ⟨_, _, rfl, (Val.rpvMk (v := (Val.mk 0 0 (⟨#[]⟩) ([] : List Val) ([] : List Key) ([] : List Ent) ([] : List ByteArray))) (Sl.nil_ _ _ _ (Nat.zero_le _)) (Sl.nil_ _ _ _ (Nat.zero_le _)) (Sl.nil_ _ _ _ (Nat.zero_le _)) (Sl.nil_ _ _ _ (Nat.zero_le _))), (RpV.mkInt _ _)⟩
 refine c_false rfl bK rfl ?_
 refine ja (j1 (j2 (j2 (j3 ?_))))
 refine r_assign (.int .i64 0) rfl rfl ?_
 refine j0 (j1 (j4 ?_))
 refine gen_F fun aK bo => ?_
 have cX : aK 0 = (.slice A1 a0.length c2) := (bo 0).trans rfl
 have gb : aK 1 = (.slice A4 a1.length c5) := (bo 1).trans rfl
 have cY : aK 4 = (.pointer (some ⟨b7, 0, none⟩)) := (bo 4).trans rfl
 have gc : aK 6 = (.int .i64 0) := (bo 6).trans rfl
 obtain ⟨gd, ge, hf⟩ := bind_some hf
 refine wp_mono (wp_iter (step := semtyperef1_Map_l1 a0) (fun q a w => ∃ (F : Fr) (τ : S), a = fr 113 F ∧ w = τ.w ∧ Agr [5, 6, 18, 19, 20, 21, 22, 23, 24, 25, 26, 27, 28, 29, 30] F aK ∧ ExtB s0.N s0 τ ∧ Wext s8 τ ∧ F 6 = (.int .i64 q) ∧ Blk s0.N 1 τ b7 27 [.int .i64 0, .int .i64 0, .string (⟨#[]⟩), nl Val, nl Key, nl Ent, nl ByteArray]) (fun o e a w => match o with | .inl q => e = .exit 0 ∧ ∃ (F : Fr) (τ : S), a = fr 113 F ∧ w = τ.w ∧ Agr [5, 6, 18, 19, 20, 21, 22, 23, 24, 25, 26, 27, 28, 29, 30] F aK ∧ ExtB s0.N s0 τ ∧ Wext s8 τ ∧ F 6 = (.int .i64 q) ∧ Blk s0.N 1 τ b7 27 [.int .i64 0, .int .i64 0, .string (⟨#[]⟩), nl Val, nl Key, nl Ent, nl ByteArray] | .inr r => e = .ret ∧ ∃ (F : Fr) (τ : S) (va : Value) (vb : Value), a = fr 113 F ∧ w = τ.w ∧ ExtB s0.N s0 τ ∧ ResV Go.Proofs.Try.prog 113 F τ.w (.cell 4 27) va ∧ RpV τ r.1 va ∧ ResV Go.Proofs.Try.prog 113 F τ.w (.tmp 5) vb ∧ RpV τ r.2 vb) (by rintro (_ | _) a w ⟨h, _⟩ <;> cases h) ?_ _ _ _ _ _ ge ?_) ?_
 ·intro ap fl a w hf hI
  obtain ⟨B2, B3, rfl, rfl, bp, cZ, bL, bq, bM⟩ := hI
  unfold semtyperef1_Map_l1 at hf
  have c0 := (bp 0 rfl).trans cX
  have c3 := (bp 4 rfl).trans cY
  refine j2 (j2 (j3 ?_))
  refine r_move (.int .i64 ap) bq rfl ?_
  refine r_move (.slice A1 a0.length c2) c0 rfl ?_
  refine r_len A1 a0.length c2 rfl rfl Go.Proofs.Try.underlying23 ?_
  refine r_bin (.int .i64 ap) (.int .i64 (a0.length : Int)) (.bool (decide (ap < (a0.length : Int)))) rfl rfl rfl rfl (b_lss) ?_
  refine j0 (j1 ?_)
  refine if_else hf (fun bN hf => ?_) (fun bN hf => ?_)
  ·refine c_true rfl bN rfl ?_
   refine ja (j1 (j2 (j4 (j2 (j3 ?_)))))
   refine r_move (.slice A1 a0.length c2) c0 rfl ?_
   refine r_move (.int .i64 ap) bq rfl ?_
   obtain ⟨x36, gf, hf⟩ := bind_some hf
   refine r_indexAddr (T := 23) (E := 60) ((h3.mono k9.wext).mono bL) gf rfl rfl rfl rfl Go.Proofs.Try.underlying23 sz60 ?_
   intro gg gh B4 gi gj
   obtain rfl := Key.cells_iff.1 gi
   refine r_load gg gh (Key.ag x36) rfl rfl (loads_row tr60 gj.2) ?_
   obtain ⟨c4, gk, hf⟩ := bind_some hf
   refine r_call [Key.ag x36] (evs1 rfl) rfl (ok_semtyperef1_ValidKey _ _ _ _ (Key.rpvMk (v := x36) ) gk) ?_
   intro B5 B6 br gl
   have c6 := cZ.x br
   obtain rfl := RpV.bool gl
   refine r_un (.bool c4) (.bool (!c4)) rfl rfl u_not ?_
   refine j0 (j1 ?_)
   refine if_else hf (fun bO hf => ?_) (fun bO hf => ?_)
   ·refine c_true rfl bO rfl ?_
    refine j2 (j3 ?_)
    refine r_build tst27 [] [.int .i64 0, .int .i64 0, .string (⟨#[]⟩), nl Val, nl Key, nl Ent, nl ByteArray] eps_nil rfl rfl ?_
    refine r_store (bM.ext br) 0 (.agg #[.int .i64 0, .int .i64 0, .string (⟨#[]⟩), nl Val, nl Key, nl Ent, nl ByteArray]) [.int .i64 0, .int .i64 0, .string (⟨#[]⟩), nl Val, nl Key, nl Ent, nl ByteArray] [.int .i64 0, .int .i64 0, .string (⟨#[]⟩), nl Val, nl Key, nl Ent, nl ByteArray] c3 rfl rfl rfl rfl sz27 rfl rfl rfl ?_
    intro B7 gm gn
    have go := c6.y gm
    refine r_assign (.int .i64 1) rfl rfl ?_
    refine j0 (j1 (jb (j7 (j9 ?_))))
    obtain rfl := Option.some.inj hf
    exact ⟨rfl, _, _, (.agg #[.int .i64 0, .int .i64 0, .string (⟨#[]⟩), nl Val, nl Key, nl Ent, nl ByteArray]), (.int .i64 1), rfl, rfl, go, ⟨rfl, _, c3, loads_row tr27 (Blk.range gn 0 [.int .i64 0, .int .i64 0, .string (⟨#[]⟩), nl Val, nl Key, nl Ent, nl ByteArray] rfl)⟩, (Val.rpvMk (v := (Val.mk 0 0 (⟨#[]⟩) ([] : List Val) ([] : List Key) ([] : List Ent) ([] : List ByteArray))) (Sl.nil_ _ _ _ (Nat.zero_le _)) (Sl.nil_ _ _ _ (Nat.zero_le _)) (Sl.nil_ _ _ _ (Nat.zero_le _)) (Sl.nil_ _ _ _ (Nat.zero_le _))), ⟨rfl, rfl⟩, (RpV.mkInt _ _)⟩
   refine c_false rfl bO rfl ?_
   refine ja (j5 (j1 (j3 ?_)))
   refine r_move (.int .i64 ap) bq rfl ?_
   refine r_bin (.int .i64 ap) (.int .i64 1) (.int .i64 (w64 (ap + 1))) rfl rfl rfl rfl (b_add) ?_
   refine r_assign (.int .i64 (w64 (ap + 1))) rfl rfl ?_
   refine j0 ?_
   obtain rfl := Option.some.inj hf
   exact ⟨rfl, _, _, rfl, rfl, ((((((((((((((bp).put rfl).put rfl).put rfl).put rfl).put rfl).put rfl).put rfl).put rfl).put rfl).put rfl).put rfl).put rfl).put rfl), c6, (((Wext.refl _).trans bL).trans br.wext), rfl, (bM.ext br)⟩
  refine c_false rfl bN rfl ?_
  refine jc (j8 ?_)
  obtain rfl := Option.some.inj hf
  exact ⟨rfl, _, _, rfl, rfl, (((((bp).put rfl).put rfl).put rfl).put rfl), cZ, ((Wext.refl _).trans bL), bq, bM⟩
 ·exact ⟨_, _, rfl, rfl, (Agr.refl _ _), cW, (Wext.refl _), gc, cV⟩
 intro e a w hp
 rcases gd with B8 | r
 ·replace hf := onEnd_inl hf
  obtain ⟨rfl, B9, Ca, rfl, rfl, bP, c7, aL, Cb, gp⟩ := hp
  have gq := (bP 0 rfl).trans cX
  have gr := (bP 1 rfl).trans gb
  have gs := (bP 4 rfl).trans cY
  refine j6 (j1 (j2 (j3 ?_)))
  refine r_build tst27 [(0, .int .i64 8)] [.int .i64 8, .int .i64 0, .string (⟨#[]⟩), nl Val, nl Key, nl Ent, nl ByteArray] (eps_cons rfl eps_nil) rfl rfl ?_
  refine r_alloc (B := s0.N) 2 c7.size _ [.int .i64 0, .int .i64 0, .string (⟨#[]⟩), nl Val, nl Key, nl Ent, nl ByteArray] ti27 rfl ?_
  intro Cc ac aq gt
  have gu := c7.x aq
  refine r_store gt 0 (.agg #[.int .i64 8, .int .i64 0, .string (⟨#[]⟩), nl Val, nl Key, nl Ent, nl ByteArray]) [.int .i64 8, .int .i64 0, .string (⟨#[]⟩), nl Val, nl Key, nl Ent, nl ByteArray] [.int .i64 8, .int .i64 0, .string (⟨#[]⟩), nl Val, nl Key, nl Ent, nl ByteArray] rfl rfl rfl rfl rfl sz27 rfl rfl rfl ?_
  intro c8 ar gv
  have gw := gu.y ar
  refine j0 (j1 (j2 (j2 (j3 ?_))))
  refine r_assign (.int .i64 0) rfl rfl ?_
  refine j0 (j1 (j4 ?_))
  refine gen_F fun bs aW => ?_
  have gx := (aW 0).trans gq
  have gy := (aW 1).trans gr
  have c9 := (aW 4).trans gs
  have da : bs 7 = (.pointer (some ⟨ac, 0, none⟩)) := (aW 7).trans rfl
  have gz : bs 8 = (.int .i64 0) := (aW 8).trans rfl
  obtain ⟨gA, gB, hf⟩ := bind_some hf
  refine wp_mono (wp_iter (step := semtyperef1_Map_l2 a0 a1) (fun q a w => ∃ (F : Fr) (τ : S) (A1 : Option Addr) (c1 : Nat) (A2 : Option Addr) (c2 : Nat), a = fr 113 F ∧ w = τ.w ∧ Agr [5, 8, 9, 10, 11, 32, 33, 34, 35, 36, 37, 38, 39, 40, 41, 42, 43, 44, 45, 46, 47, 48, 49, 50, 51, 52, 53, 54, 55, 56, 57, 58, 59, 60, 61, 62, 63, 64, 65, 66, 67, 68, 69, 70, 71, 72, 73, 74, 75, 76, 77, 78, 79, 80, 81, 82, 83, 84, 85, 86, 87, 88, 89, 90, 91, 92, 93, 94, 95, 96, 97, 98, 99, 100, 101, 102, 103, 104, 105, 106, 107, 108, 109, 110, 111] F bs ∧ ExtB s0.N s0 τ ∧ Wext c8 τ ∧ F 8 = (.int .i64 q.1) ∧ Blk s0.N 1 τ b7 27 [.int .i64 0, .int .i64 0, .string (⟨#[]⟩), nl Val, nl Key, nl Ent, nl ByteArray] ∧ Blk s0.N 2 τ ac 27 [.int .i64 8, .int .i64 0, .string (⟨#[]⟩), .slice A1 q.2.1.length c1, .slice A2 q.2.2.length c2, nl Ent, nl ByteArray] ∧ Sl τ q.2.1 A1 c1 ∧ Sl τ q.2.2 A2 c2) (fun o e a w => match o with | .inl q => e = .exit 2 ∧ ∃ (F : Fr) (τ : S) (A1 : Option Addr) (c1 : Nat) (A2 : Option Addr) (c2 : Nat), a = fr 113 F ∧ w = τ.w ∧ Agr [5, 8, 9, 10, 11, 32, 33, 34, 35, 36, 37, 38, 39, 40, 41, 42, 43, 44, 45, 46, 47, 48, 49, 50, 51, 52, 53, 54, 55, 56, 57, 58, 59, 60, 61, 62, 63, 64, 65, 66, 67, 68, 69, 70, 71, 72, 73, 74, 75, 76, 77, 78, 79, 80, 81, 82, 83, 84, 85, 86, 87, 88, 89, 90, 91, 92, 93, 94, 95, 96, 97, 98, 99, 100, 101, 102, 103, 104, 105, 106, 107, 108, 109, 110, 111] F bs ∧ ExtB s0.N s0 τ ∧ Wext c8 τ ∧ F 8 = (.int .i64 q.1) ∧ Blk s0.N 1 τ b7 27 [.int .i64 0, .int .i64 0, .string (⟨#[]⟩), nl Val, nl Key, nl Ent, nl ByteArray] ∧ Blk s0.N 2 τ ac 27 [.int .i64 8, .int .i64 0, .string (⟨#[]⟩), .slice A1 q.2.1.length c1, .slice A2 q.2.2.length c2, nl Ent, nl ByteArray] ∧ Sl τ q.2.1 A1 c1 ∧ Sl τ q.2.2 A2 c2 | .inr r => e = .ret ∧ ∃ (F : Fr) (τ : S) (va : Value) (vb : Value), a = fr 113 F ∧ w = τ.w ∧ ExtB s0.N s0 τ ∧ ResV Go.Proofs.Try.prog 113 F τ.w (.cell 4 27) va ∧ RpV τ r.1 va ∧ ResV Go.Proofs.Try.prog 113 F τ.w (.tmp 5) vb ∧ RpV τ r.2 vb) (by rintro (_ | _) a w ⟨h, _⟩ <;> cases h) ?_ _ _ _ _ _ gB ?_) ?_
  ·intro aa fl a w hf hI
   obtain ⟨Cd, db, ag, ah, ae, af, rfl, rfl, av, dc, ao, bQ, dd, de, aX, aw⟩ := hI
   unfold semtyperef1_Map_l2 at hf
   have df := (av 0 rfl).trans gx
   have gC := (av 1 rfl).trans gy
   have gD := (av 4 rfl).trans c9
   have gE := (av 7 rfl).trans da
   refine j2 (j2 (j3 ?_))
   refine r_move (.int .i64 aa.1) bQ rfl ?_
   refine r_move (.slice A1 a0.length c2) df rfl ?_
   refine r_len A1 a0.length c2 rfl rfl Go.Proofs.Try.underlying23 ?_
   refine r_bin (.int .i64 aa.1) (.int .i64 (a0.length : Int)) (.bool (decide (aa.1 < (a0.length : Int)))) rfl rfl rfl rfl (b_lss) ?_
   refine j0 (j1 ?_)
   refine if_else hf (fun bR hf => ?_) (fun bR hf => ?_)
   ·refine c_true rfl bR rfl ?_
    refine ja (j1 (j2 (j4 (j2 (j3 ?_)))))
    refine r_assign (.int .i64 0) rfl rfl ?_
    refine j0 (j1 (j2 (j4 ?_)))
    refine gen_F fun bS au => ?_
    have dg := (au 0).trans df
    have gF := (au 1).trans gC
    have gG := (au 4).trans gD
    have dh := (au 7).trans gE
    have di := (au 8).trans bQ
    have gH : bS 9 = (.int .i64 0) := (au 9).trans rfl
    obtain ⟨ab, gI, hf⟩ := bind_some hf
    refine wp_mono (wp_iter (step := semtyperef1_Map_l3 a0 aa) (fun q a w => ∃ (F : Fr) (τ : S), a = fr 113 F ∧ w = τ.w ∧ Agr [9, 38, 39, 40, 41, 42, 43, 44, 45, 46, 47, 48, 49, 50, 51, 52, 53, 54, 55, 56, 57] F bS ∧ ExtB s0.N s0 τ ∧ Wext db τ ∧ F 9 = (.int .i64 q) ∧ Blk s0.N 1 τ b7 27 [.int .i64 0, .int .i64 0, .string (⟨#[]⟩), nl Val, nl Key, nl Ent, nl ByteArray] ∧ Blk s0.N 2 τ ac 27 [.int .i64 8, .int .i64 0, .string (⟨#[]⟩), .slice ag aa.2.1.length ah, .slice ae aa.2.2.length af, nl Ent, nl ByteArray]) (fun q e a w => e = .exit 4 ∧ ∃ (F : Fr) (τ : S), a = fr 113 F ∧ w = τ.w ∧ Agr [9, 38, 39, 40, 41, 42, 43, 44, 45, 46, 47, 48, 49, 50, 51, 52, 53, 54, 55, 56, 57] F bS ∧ ExtB s0.N s0 τ ∧ Wext db τ ∧ F 9 = (.int .i64 q) ∧ Blk s0.N 1 τ b7 27 [.int .i64 0, .int .i64 0, .string (⟨#[]⟩), nl Val, nl Key, nl Ent, nl ByteArray] ∧ Blk s0.N 2 τ ac 27 [.int .i64 8, .int .i64 0, .string (⟨#[]⟩), .slice ag aa.2.1.length ah, .slice ae aa.2.2.length af, nl Ent, nl ByteArray]) (by rintro _ a w ⟨h, _⟩; cases h) ?_ _ _ _ _ _ gI ?_) ?_
    ·intro ad fl a w hf hI
     obtain ⟨Ce, Cf, rfl, rfl, aM, bT, aY, aZ, dj, dk⟩ := hI
     unfold semtyperef1_Map_l3 at hf
     have gJ := (aM 0 rfl).trans dg
     have bU := (aM 7 rfl).trans dh
     have gK := (aM 8 rfl).trans di
     refine j2 (j2 ?_)
     refine if_else hf (fun ai hf => ?_) (fun ai hf => ?_)
     ·obtain ⟨x127, gL, hf⟩ := bind_some hf
      obtain ⟨x129, gM, hf⟩ := bind_some hf
      obtain ⟨ax, gN, hf⟩ := bind_some hf
      refine wp_draw (B := frExt s0.N) [some 38, some 39, some 40, some 41, some 42, some 43, some 44, some 45, some 46, some 47, some 48, some 49, some 50, some 51, some 52, some 53, some 54, some 55] [[], [], [1], [1, 2], [0, 1, 2, 3], [0, 1, 2, 3, 4], [0, 1, 2, 3, 4, 5], [0, 1, 2, 3, 4, 5, 6], [0, 1, 2, 3, 4, 5], [0, 1, 2, 3, 4, 5, 6, 7, 8], [0, 1, 2, 3, 4, 5, 6, 7, 8, 9], [0, 1, 2, 3, 4, 5], [0, 1, 2, 3, 4, 5], [0, 1, 2, 3, 4, 5, 11, 12], [0, 1, 2, 3, 4, 5, 11, 12, 13], [0, 1, 2, 3, 4, 5, 6, 7, 8, 9, 10, 11, 12, 13, 14], [0, 1, 2, 3, 4, 5, 6, 7, 8, 9, 10, 11, 12, 13, 14, 15], [0, 1, 2, 3, 4, 5, 6, 7, 8, 9, 10, 11, 12, 13, 14, 15, 16]] [Fct.eqv (.int .i64 ad), Fct.eqv (.pointer (some ⟨ac, 4, none⟩)), Fct.eqv (.slice ae aa.2.2.length af), Fct.eqv (.int .i64 (aa.2.2.length : Int)), Fct.eqv (.bool (decide (ad < (aa.2.2.length : Int)))), Fct.eqv (.bool (decide (ad < (aa.2.2.length : Int)))), Fct.eqv (.pointer (some ⟨ac, 4, none⟩)), Fct.eqv (.slice ae aa.2.2.length af), Fct.eqv (.int .i64 ad), Fct.elem (x127 : Key), Fct.data (x127 : Key), Fct.eqv (.slice A1 a0.length c2), Fct.eqv (.int .i64 aa.1), Fct.elem (x129 : Key), Fct.data (x129 : Key), Fct.eqv (.int .i64 ax), Fct.eqv (.bool (decide (ax < 0))), Fct.eqv (.bool (decide (ax < 0)))] (fun D F τ => (Blk s0.N 1 τ b7 27 [.int .i64 0, .int .i64 0, .string (⟨#[]⟩), nl Val, nl Key, nl Ent, nl ByteArray]) ∧ (Blk s0.N 2 τ ac 27 [.int .i64 8, .int .i64 0, .string (⟨#[]⟩), .slice ag aa.2.1.length ah, .slice ae aa.2.2.length af, nl Ent, nl ByteArray])) (by kernel_rfl) rfl (by decide) (by decide) ⟨(dj.ext (ext_draw _)), (dk.ext (ext_draw _))⟩ (by decide) (by decide) ⟨?_, ?_, ?_, ?_, ?_, ?_, ?_, ?_, ?_, ?_, ?_, ?_, ?_, ?_, ?_, ?_, ?_, ?_, trivial⟩ ?_
      ·intro Cg Ch Ci Cj Ck Cl Cm Cn gO gP Co
       obtain ⟨gQ, gR⟩ := gO
       refine r_move (.int .i64 ad) ((gP 9 rfl).trans aZ) rfl ?_
       exact d0 ⟨rfl, ⟨gQ, gR⟩⟩
      ·intro Cp Cq Cr Cs Ct Cu Cv Cw gS gT Cx
       obtain ⟨gU, gV⟩ := gS
       refine r_fieldAddr ac 0 4 4 ((gT 7 rfl).trans bU) rfl fo27_4 rfl ?_
       exact d0 ⟨rfl, ⟨gU, gV⟩⟩
      ·intro Cy Cz CA CB CC CD CE CF gW CG gX
       obtain ⟨gY, dl⟩ := gW
       have gZ := dl
       refine r_load ac 4 (.slice ae aa.2.2.length af) (gX 1 rfl 39 rfl) rfl (loads_one to23 ((gZ.cell 4).trans rfl)) ?_
       exact d0 ⟨rfl, ⟨gY, dl⟩⟩
      ·intro CH CI CJ CK CL CM CN CO g0 CP g1
       obtain ⟨g2, g3⟩ := g0
       refine r_len ae aa.2.2.length af (g1 2 rfl 40 rfl) rfl Go.Proofs.Try.underlying23 ?_
       exact d0 ⟨rfl, ⟨g2, g3⟩⟩
      ·intro CQ CR CS CT CU CV CW CX g4 CY dm
       obtain ⟨g5, g6⟩ := g4
       refine r_bin (.int .i64 ad) (.int .i64 (aa.2.2.length : Int)) (.bool (decide (ad < (aa.2.2.length : Int)))) (dm 0 rfl 38 rfl) (dm 3 rfl 41 rfl) rfl rfl (b_lss) ?_
       exact d0 ⟨rfl, ⟨g5, g6⟩⟩
      ·intro CZ C0 C1 C2 C3 C4 C5 C6 g7 C7 g8
       obtain ⟨g9, ha⟩ := g7
       refine r_move (.bool (decide (ad < (aa.2.2.length : Int)))) (g8 4 rfl 42 rfl) rfl ?_
       exact d0 ⟨rfl, ⟨g9, ha⟩⟩
      ·intro C8 C9 Da Db Dc Dd De Df hb hc he
       obtain ⟨hg, hh⟩ := hb
       refine Or.inr ⟨decide (ad < (aa.2.2.length : Int)), (fun d hd => by cases hd; exact (he 5 rfl 43 rfl)), fun _ => ?_, fun h => absurd (ai : (decide (ad < (aa.2.2.length : Int))) = true) h⟩
       refine r_fieldAddr ac 0 4 4 ((hc 7 rfl).trans bU) rfl fo27_4 rfl ?_
       exact d0 ⟨rfl, ⟨hg, hh⟩⟩
      ·intro Dg Dh Di Dj Dk Dl Dm Dn hi Do dn
       obtain ⟨hj, dp⟩ := hi
       have hk := dp
       refine Or.inr ⟨decide (ad < (aa.2.2.length : Int)), (fun d hd => by cases hd; exact (dn 5 rfl 43 rfl)), fun _ => ?_, fun h => absurd (ai : (decide (ad < (aa.2.2.length : Int))) = true) h⟩
       refine r_load ac 4 (.slice ae aa.2.2.length af) (dn 6 rfl 44 rfl) rfl (loads_one to23 ((hk.cell 4).trans rfl)) ?_
       exact d0 ⟨rfl, ⟨hj, dp⟩⟩
      ·intro Dp Dq Dr Ds Dt Du Dv Dw hl hm hn
       obtain ⟨ho, hq⟩ := hl
       refine Or.inr ⟨decide (ad < (aa.2.2.length : Int)), (fun d hd => by cases hd; exact (hn 5 rfl 43 rfl)), fun _ => ?_, fun h => absurd (ai : (decide (ad < (aa.2.2.length : Int))) = true) h⟩
       refine r_move (.int .i64 ad) ((hm 9 rfl).trans aZ) rfl ?_
       exact d0 ⟨rfl, ⟨ho, hq⟩⟩
      ·intro Dx Dy Dz DA DB DC DD hr hs DE bV
       obtain ⟨ht, hu⟩ := hs
       refine Or.inr ⟨decide (ad < (aa.2.2.length : Int)), (fun d hd => by cases hd; exact (bV 5 rfl 43 rfl)), fun _ => ?_, fun h => absurd (ai : (decide (ad < (aa.2.2.length : Int))) = true) h⟩
       refine r_indexAddr (T := 23) (E := 60) ((aw.mono aY).mono hr) gL (bV 7 rfl 45 rfl) (bV 8 rfl 46 rfl) rfl rfl Go.Proofs.Try.underlying23 sz60 ?_
       intro DF DG DH hv hw
       obtain rfl := Key.cells_iff.1 hv
       exact d0 ⟨⟨_, _, _, rfl, (Key.cells_iff.2 rfl), hw⟩, ⟨ht, hu⟩⟩
      ·intro DI hx hy DJ DK DL DM DN hz DO dq
       obtain ⟨hA, hB⟩ := hz
       obtain ⟨hC, hD, DP, hE, hF, hG⟩ : (Fct.elem (x127 : Key)).p (hx 47) hy := dq 9 rfl 47 rfl
       obtain rfl := Key.cells_iff.1 hF
       refine Or.inr ⟨decide (ad < (aa.2.2.length : Int)), (fun d hd => by cases hd; exact (dq 5 rfl 43 rfl)), fun _ => ?_, fun h => absurd (ai : (decide (ad < (aa.2.2.length : Int))) = true) h⟩
       refine r_load hC hD (Key.ag x127) hE rfl (loads_row tr60 hG.2) ?_
       exact d0 ⟨(Key.rpvMk (v := x127) ), ⟨hA, hB⟩⟩
      ·intro DQ DR DS DT DU DV DW DX hH hJ hK
       obtain ⟨hL, hM⟩ := hH
       refine Or.inr ⟨decide (ad < (aa.2.2.length : Int)), (fun d hd => by cases hd; exact (hK 5 rfl 43 rfl)), fun _ => ?_, fun h => absurd (ai : (decide (ad < (aa.2.2.length : Int))) = true) h⟩
       refine r_move (.slice A1 a0.length c2) ((hJ 0 rfl).trans gJ) rfl ?_
       exact d0 ⟨rfl, ⟨hL, hM⟩⟩
      ·intro DY DZ D0 D1 D2 D3 D4 D5 hN hO hP
       obtain ⟨hQ, hR⟩ := hN
       refine Or.inr ⟨decide (ad < (aa.2.2.length : Int)), (fun d hd => by cases hd; exact (hP 5 rfl 43 rfl)), fun _ => ?_, fun h => absurd (ai : (decide (ad < (aa.2.2.length : Int))) = true) h⟩
       refine r_move (.int .i64 aa.1) ((hO 8 rfl).trans gK) rfl ?_
       exact d0 ⟨rfl, ⟨hQ, hR⟩⟩
      ·intro D6 D7 D8 D9 Ea Eb Ec hS hT Ed bW
       obtain ⟨hU, hV⟩ := hT
       refine Or.inr ⟨decide (ad < (aa.2.2.length : Int)), (fun d hd => by cases hd; exact (bW 5 rfl 43 rfl)), fun _ => ?_, fun h => absurd (ai : (decide (ad < (aa.2.2.length : Int))) = true) h⟩
       refine r_indexAddr (T := 23) (E := 60) (((((((h3.mono k9.wext).mono aL).mono aq.wext).mono ar.wext).mono ao).mono aY).mono hS) gM (bW 11 rfl 49 rfl) (bW 12 rfl 50 rfl) rfl rfl Go.Proofs.Try.underlying23 sz60 ?_
       intro Ee Ef Eg hW hX
       obtain rfl := Key.cells_iff.1 hW
       exact d0 ⟨⟨_, _, _, rfl, (Key.cells_iff.2 rfl), hX⟩, ⟨hU, hV⟩⟩
      ·intro Eh hY hZ Ei Ej Ek El Em h2 En dr
       obtain ⟨h4, h5⟩ := h2
       obtain ⟨h7, h8, Eo, h9, ia, ib⟩ : (Fct.elem (x129 : Key)).p (hY 51) hZ := dr 13 rfl 51 rfl
       obtain rfl := Key.cells_iff.1 ia
       refine Or.inr ⟨decide (ad < (aa.2.2.length : Int)), (fun d hd => by cases hd; exact (dr 5 rfl 43 rfl)), fun _ => ?_, fun h => absurd (ai : (decide (ad < (aa.2.2.length : Int))) = true) h⟩
       refine r_load h7 h8 (Key.ag x129) h9 rfl (loads_row tr60 ib.2) ?_
       exact d0 ⟨(Key.rpvMk (v := x129) ), ⟨h4, h5⟩⟩
      ·intro Ep ds dt Er Es Et ic Eu ie Ev bX
       have ig := bT.trans ic
       obtain ⟨ih, ii⟩ := ie
       have ij : RpV dt (x127 : Key) (ds 48) := bX 10 rfl 48 rfl
       have ik := Key.rpv ij
       have il : RpV dt (x129 : Key) (ds 52) := bX 14 rfl 52 rfl
       have im := Key.rpv il
       refine Or.inr ⟨decide (ad < (aa.2.2.length : Int)), (fun d hd => by cases hd; exact (bX 5 rfl 43 rfl)), fun _ => ?_, fun h => absurd (ai : (decide (ad < (aa.2.2.length : Int))) = true) h⟩
       refine r_call [Key.ag x127, Key.ag x129] (evs2 ik im) rfl (ok_semtyperef1_CompareKeys _ _ _ _ _ _ (Key.rpvMk (v := x127) ) (Key.rpvMk (v := x129) ) gN) ?_
       intro Ew Ex bt io
       obtain rfl := RpV.int io
       refine j0 ?_
       exact ⟨_, _, rfl, rfl, (ExtB.refl _ _).trans (bt.mono ig.size), (Wext.refl _).trans bt.wext, rfl, ⟨(ih.ext bt), (ii.ext bt)⟩⟩
      ·intro Ey Ez EA EB EC ED EE EF ip EG du
       obtain ⟨iq, ir⟩ := ip
       refine Or.inr ⟨decide (ad < (aa.2.2.length : Int)), (fun d hd => by cases hd; exact (du 5 rfl 43 rfl)), fun _ => ?_, fun h => absurd (ai : (decide (ad < (aa.2.2.length : Int))) = true) h⟩
       refine r_bin (.int .i64 ax) (.int .i64 0) (.bool (decide (ax < 0))) (du 15 rfl 53 rfl) rfl rfl rfl (b_lss) ?_
       exact d0 ⟨rfl, ⟨iq, ir⟩⟩
      ·intro EH EI EJ EK EL EM EN EO it EP dv
       obtain ⟨iu, iv⟩ := it
       refine r_pick_t (c := decide (ad < (aa.2.2.length : Int))) (.bool (decide (ax < 0))) (dv 5 rfl 43 rfl) ai (dv 16 rfl 54 rfl) rfl rfl rfl ?_
       exact d0 ⟨rfl, ⟨iu, iv⟩⟩
      intro iw EQ ix dw iy bY iz
      have dx := bT.trans ix
      obtain ⟨iA, iB⟩ := iy
      have dy := iA
      have dz := iB
      have dA := (bY 9 rfl).trans aZ
      have dB : iw 55 = (.bool (decide (ax < 0))) := iz 17 55 rfl
      refine j1 ?_
      refine if_else hf (fun bZ hf => ?_) (fun bZ hf => ?_)
      ·refine c_true dB bZ rfl ?_
       refine ja (j1 (j4 (j3 ?_)))
       refine r_move (.int .i64 ad) dA rfl ?_
       refine r_bin (.int .i64 ad) (.int .i64 1) (.int .i64 (w64 (ad + 1))) rfl rfl rfl rfl (b_add) ?_
       refine r_assign (.int .i64 (w64 (ad + 1))) rfl rfl ?_
       refine j0 (j5 ?_)
       obtain rfl := Option.some.inj hf
       exact ⟨rfl, _, _, rfl, rfl, (((((aM).draw bY rfl).put rfl).put rfl).put rfl), dx, (((Wext.refl _).trans aY).trans dw), rfl, dy, dz⟩
      refine c_false dB bZ rfl ?_
      refine jc (j8 ?_)
      obtain rfl := Option.some.inj hf
      exact ⟨rfl, _, _, rfl, rfl, ((aM).draw bY rfl), dx, (((Wext.refl _).trans aY).trans dw), dA, dy, dz⟩
     refine wp_draw (B := frExt s0.N) [some 38, some 39, some 40, some 41, some 42, some 43, some 44, some 45, some 46, some 47, some 48, some 49, some 50, some 51, some 52, some 53, some 54, some 55] [[], [], [1], [1, 2], [0, 1, 2, 3], [0, 1, 2, 3, 4], [0, 1, 2, 3, 4, 5], [0, 1, 2, 3, 4, 5, 6], [0, 1, 2, 3, 4, 5], [0, 1, 2, 3, 4, 5, 6, 7, 8], [0, 1, 2, 3, 4, 5, 6, 7, 8, 9], [0, 1, 2, 3, 4, 5], [0, 1, 2, 3, 4, 5], [0, 1, 2, 3, 4, 5, 11, 12], [0, 1, 2, 3, 4, 5, 11, 12, 13], [0, 1, 2, 3, 4, 5, 6, 7, 8, 9, 10, 11, 12, 13, 14], [0, 1, 2, 3, 4, 5, 6, 7, 8, 9, 10, 11, 12, 13, 14, 15], [0, 1, 2, 3, 4, 5, 6, 7, 8, 9, 10, 11, 12, 13, 14, 15, 16]] [Fct.eqv (.int .i64 ad), Fct.eqv (.pointer (some ⟨ac, 4, none⟩)), Fct.eqv (.slice ae aa.2.2.length af), Fct.eqv (.int .i64 (aa.2.2.length : Int)), Fct.eqv (.bool (decide (ad < (aa.2.2.length : Int)))), Fct.eqv (.bool (decide (ad < (aa.2.2.length : Int)))), Fct.eqv undef, Fct.eqv undef, Fct.eqv undef, Fct.eqv undef, Fct.eqv undef, Fct.eqv undef, Fct.eqv undef, Fct.eqv undef, Fct.eqv undef, Fct.eqv undef, Fct.eqv undef, Fct.eqv (.bool false)] (fun D F τ => (Blk s0.N 1 τ b7 27 [.int .i64 0, .int .i64 0, .string (⟨#[]⟩), nl Val, nl Key, nl Ent, nl ByteArray]) ∧ (Blk s0.N 2 τ ac 27 [.int .i64 8, .int .i64 0, .string (⟨#[]⟩), .slice ag aa.2.1.length ah, .slice ae aa.2.2.length af, nl Ent, nl ByteArray])) (by kernel_rfl) rfl (by decide) (by decide) ⟨(dj.ext (ext_draw _)), (dk.ext (ext_draw _))⟩ (by decide) (by decide) ⟨?_, ?_, ?_, ?_, ?_, ?_, ?_, ?_, ?_, ?_, ?_, ?_, ?_, ?_, ?_, ?_, ?_, ?_, trivial⟩ ?_
     ·intro ER ES ET EU EV EW EX EY iC iD EZ
      obtain ⟨iE, iF⟩ := iC
      refine r_move (.int .i64 ad) ((iD 9 rfl).trans aZ) rfl ?_
      exact d0 ⟨rfl, ⟨iE, iF⟩⟩
     ·intro E1 E2 E3 E4 E5 E6 E7 E8 iG iH E9
      obtain ⟨iI, iJ⟩ := iG
      refine r_fieldAddr ac 0 4 4 ((iH 7 rfl).trans bU) rfl fo27_4 rfl ?_
      exact d0 ⟨rfl, ⟨iI, iJ⟩⟩
     ·intro Fa Fb Fc Fd Fe Ff Fg Fh iK Fi iL
      obtain ⟨iM, dC⟩ := iK
      have iN := dC
      refine r_load ac 4 (.slice ae aa.2.2.length af) (iL 1 rfl 39 rfl) rfl (loads_one to23 ((iN.cell 4).trans rfl)) ?_
      exact d0 ⟨rfl, ⟨iM, dC⟩⟩
     ·intro Fj Fk Fl Fm Fn Fo Fp Fq iO Fs iP
      obtain ⟨iQ, iR⟩ := iO
      refine r_len ae aa.2.2.length af (iP 2 rfl 40 rfl) rfl Go.Proofs.Try.underlying23 ?_
      exact d0 ⟨rfl, ⟨iQ, iR⟩⟩
     ·intro Ft Fu Fv Fw Fx Fy Fz FA iS FB dD
      obtain ⟨iT, iU⟩ := iS
      refine r_bin (.int .i64 ad) (.int .i64 (aa.2.2.length : Int)) (.bool (decide (ad < (aa.2.2.length : Int)))) (dD 0 rfl 38 rfl) (dD 3 rfl 41 rfl) rfl rfl (b_lss) ?_
      exact d0 ⟨rfl, ⟨iT, iU⟩⟩
     ·intro FC FD FE FF FG FH FI FJ iV FK iW
      obtain ⟨iX, iY⟩ := iV
      refine r_move (.bool (decide (ad < (aa.2.2.length : Int)))) (iW 4 rfl 42 rfl) rfl ?_
      exact d0 ⟨rfl, ⟨iX, iY⟩⟩
     ·intro FL FM FN FO FP FQ FR FS iZ FT i0
      obtain ⟨i1, i2⟩ := iZ
      refine Or.inr ⟨decide (ad < (aa.2.2.length : Int)), (fun d hd => by cases hd; exact (i0 5 rfl 43 rfl)), fun h => Bool.noConfusion (Eq.trans (Eq.symm (ai : (decide (ad < (aa.2.2.length : Int))) = false)) h), fun _ => ⟨rfl, ?_⟩⟩
      exact ⟨i1, i2⟩
     ·intro FU i3 FV FW FX FY FZ F0 i4 F1 dE
      obtain ⟨i5, i6⟩ := i4
      have F2 : i3 44 = undef := dE 6 rfl 44 rfl
      refine Or.inr ⟨decide (ad < (aa.2.2.length : Int)), (fun d hd => by cases hd; exact (dE 5 rfl 43 rfl)), fun h => Bool.noConfusion (Eq.trans (Eq.symm (ai : (decide (ad < (aa.2.2.length : Int))) = false)) h), fun _ => ⟨rfl, ?_⟩⟩
      exact ⟨i5, i6⟩
     ·intro F3 F4 F5 F6 F7 F8 F9 Ga i7 Gb i8
      obtain ⟨i9, jd⟩ := i7
      refine Or.inr ⟨decide (ad < (aa.2.2.length : Int)), (fun d hd => by cases hd; exact (i8 5 rfl 43 rfl)), fun h => Bool.noConfusion (Eq.trans (Eq.symm (ai : (decide (ad < (aa.2.2.length : Int))) = false)) h), fun _ => ⟨rfl, ?_⟩⟩
      exact ⟨i9, jd⟩
     ·intro Gc dF Gd Ge Gf Gg Gh Gi je Gj b0
      obtain ⟨jf, jg⟩ := je
      have Gk : dF 45 = undef := b0 7 rfl 45 rfl
      have Gl : dF 46 = undef := b0 8 rfl 46 rfl
      refine Or.inr ⟨decide (ad < (aa.2.2.length : Int)), (fun d hd => by cases hd; exact (b0 5 rfl 43 rfl)), fun h => Bool.noConfusion (Eq.trans (Eq.symm (ai : (decide (ad < (aa.2.2.length : Int))) = false)) h), fun _ => ⟨rfl, ?_⟩⟩
      exact ⟨jf, jg⟩
     ·intro Gm jh Gn Gp Gq Gr Gs Gt ji Gu dG
      obtain ⟨jj, jk⟩ := ji
      have Gv : jh 47 = undef := dG 9 rfl 47 rfl
      refine Or.inr ⟨decide (ad < (aa.2.2.length : Int)), (fun d hd => by cases hd; exact (dG 5 rfl 43 rfl)), fun h => Bool.noConfusion (Eq.trans (Eq.symm (ai : (decide (ad < (aa.2.2.length : Int))) = false)) h), fun _ => ⟨rfl, ?_⟩⟩
      exact ⟨jj, jk⟩
     ·intro Gw Gx Gy Gz GA GB GC GD jl GE jm
      obtain ⟨jn, jo⟩ := jl
      refine Or.inr ⟨decide (ad < (aa.2.2.length : Int)), (fun d hd => by cases hd; exact (jm 5 rfl 43 rfl)), fun h => Bool.noConfusion (Eq.trans (Eq.symm (ai : (decide (ad < (aa.2.2.length : Int))) = false)) h), fun _ => ⟨rfl, ?_⟩⟩
      exact ⟨jn, jo⟩
     ·intro GF GG GH GI GJ GK GL GM jp GN jq
      obtain ⟨jr, js⟩ := jp
      refine Or.inr ⟨decide (ad < (aa.2.2.length : Int)), (fun d hd => by cases hd; exact (jq 5 rfl 43 rfl)), fun h => Bool.noConfusion (Eq.trans (Eq.symm (ai : (decide (ad < (aa.2.2.length : Int))) = false)) h), fun _ => ⟨rfl, ?_⟩⟩
      exact ⟨jr, js⟩
     ·intro GO dH GP GQ GR GS GT GU jt GV b1
      obtain ⟨ju, jv⟩ := jt
      have GW : dH 49 = undef := b1 11 rfl 49 rfl
      have GX : dH 50 = undef := b1 12 rfl 50 rfl
      refine Or.inr ⟨decide (ad < (aa.2.2.length : Int)), (fun d hd => by cases hd; exact (b1 5 rfl 43 rfl)), fun h => Bool.noConfusion (Eq.trans (Eq.symm (ai : (decide (ad < (aa.2.2.length : Int))) = false)) h), fun _ => ⟨rfl, ?_⟩⟩
      exact ⟨ju, jv⟩
     ·intro GY jw GZ G0 G1 G2 G3 G4 jx G5 dI
      obtain ⟨jy, jz⟩ := jx
      have G6 : jw 51 = undef := dI 13 rfl 51 rfl
      refine Or.inr ⟨decide (ad < (aa.2.2.length : Int)), (fun d hd => by cases hd; exact (dI 5 rfl 43 rfl)), fun h => Bool.noConfusion (Eq.trans (Eq.symm (ai : (decide (ad < (aa.2.2.length : Int))) = false)) h), fun _ => ⟨rfl, ?_⟩⟩
      exact ⟨jy, jz⟩
     ·intro G7 dJ G8 G9 Ha Hb Hc Hd jA He b2
      obtain ⟨jB, jC⟩ := jA
      have Hf : dJ 48 = undef := b2 10 rfl 48 rfl
      have Hg : dJ 52 = undef := b2 14 rfl 52 rfl
      refine Or.inr ⟨decide (ad < (aa.2.2.length : Int)), (fun d hd => by cases hd; exact (b2 5 rfl 43 rfl)), fun h => Bool.noConfusion (Eq.trans (Eq.symm (ai : (decide (ad < (aa.2.2.length : Int))) = false)) h), fun _ => ⟨rfl, ?_⟩⟩
      exact ⟨jB, jC⟩
     ·intro Hh jD Hi Hj Hk Hl Hm Hn jE Ho dK
      obtain ⟨jF, jG⟩ := jE
      have Hp : jD 53 = undef := dK 15 rfl 53 rfl
      refine Or.inr ⟨decide (ad < (aa.2.2.length : Int)), (fun d hd => by cases hd; exact (dK 5 rfl 43 rfl)), fun h => Bool.noConfusion (Eq.trans (Eq.symm (ai : (decide (ad < (aa.2.2.length : Int))) = false)) h), fun _ => ⟨rfl, ?_⟩⟩
      exact ⟨jF, jG⟩
     ·intro Hq jH Hr Hs Ht Hu Hv Hw jI Hx dL
      obtain ⟨jJ, jK⟩ := jI
      have Hy : jH 54 = undef := dL 16 rfl 54 rfl
      refine r_pick_f (c := decide (ad < (aa.2.2.length : Int))) (.bool false) (dL 5 rfl 43 rfl) ai rfl rfl rfl rfl ?_
      exact d0 ⟨rfl, ⟨jJ, jK⟩⟩
     intro Hz HA jL jM jN dM jO
     have jP := bT.trans jL
     obtain ⟨jQ, jR⟩ := jN
     have jS := jQ
     have jT := jR
     have jU := (dM 9 rfl).trans aZ
     refine j1 ?_
     refine c_false (jO 17 55 rfl) rfl rfl ?_
     refine jc (j8 ?_)
     obtain rfl := Option.some.inj hf
     exact ⟨rfl, _, _, rfl, rfl, ((aM).draw dM rfl), jP, (((Wext.refl _).trans aY).trans jM), jU, jS, jT⟩
    ·exact ⟨_, _, rfl, rfl, (Agr.refl _ _), dc, (Wext.refl _), gH, dd, de⟩
    rintro e a w ⟨rfl, HB, HC, rfl, rfl, ay, dN, am, a2, dO, dP⟩
    have b3 := (ay 0 rfl).trans dg
    have dQ := (ay 1 rfl).trans gF
    have jV := (ay 4 rfl).trans gG
    have a3 := (ay 7 rfl).trans dh
    have b4 := (ay 8 rfl).trans di
    refine j6 (j1 (j2 (j2 ?_)))
    refine if_else hf (fun aj hf => ?_) (fun aj hf => ?_)
    ·obtain ⟨x790, jW, hf⟩ := bind_some hf
     obtain ⟨x792, jX, hf⟩ := bind_some hf
     refine wp_draw (B := frExt s0.N) [some 58, some 59, some 60, some 61, some 62, some 63, some 64, some 65, some 66, some 67, some 68, some 69, some 70, some 71, some 72, some 73, some 74] [[], [], [1], [1, 2], [0, 1, 2, 3], [0, 1, 2, 3, 4], [0, 1, 2, 3, 4, 5], [0, 1, 2, 3, 4, 5, 6], [0, 1, 2, 3, 4, 5], [0, 1, 2, 3, 4, 5, 6, 7, 8], [0, 1, 2, 3, 4, 5, 6, 7, 8, 9], [0, 1, 2, 3, 4, 5], [0, 1, 2, 3, 4, 5], [0, 1, 2, 3, 4, 5, 11, 12], [0, 1, 2, 3, 4, 5, 11, 12, 13], [0, 1, 2, 3, 4, 5, 6, 7, 8, 9, 10, 11, 12, 13, 14], [0, 1, 2, 3, 4, 5, 6, 7, 8, 9, 10, 11, 12, 13, 14, 15]] [Fct.eqv (.int .i64 ab), Fct.eqv (.pointer (some ⟨ac, 4, none⟩)), Fct.eqv (.slice ae aa.2.2.length af), Fct.eqv (.int .i64 (aa.2.2.length : Int)), Fct.eqv (.bool (decide (ab < (aa.2.2.length : Int)))), Fct.eqv (.bool (decide (ab < (aa.2.2.length : Int)))), Fct.eqv (.pointer (some ⟨ac, 4, none⟩)), Fct.eqv (.slice ae aa.2.2.length af), Fct.eqv (.int .i64 ab), Fct.elem (x790 : Key), Fct.data (x790 : Key), Fct.eqv (.slice A1 a0.length c2), Fct.eqv (.int .i64 aa.1), Fct.elem (x792 : Key), Fct.data (x792 : Key), Fct.eqv (.bool ((x790.Kind == x792.Kind) && ((strEq x790.Text x792.Text) && true))), Fct.eqv (.bool ((x790.Kind == x792.Kind) && ((strEq x790.Text x792.Text) && true)))] (fun D F τ => (Blk s0.N 1 τ b7 27 [.int .i64 0, .int .i64 0, .string (⟨#[]⟩), nl Val, nl Key, nl Ent, nl ByteArray]) ∧ (Blk s0.N 2 τ ac 27 [.int .i64 8, .int .i64 0, .string (⟨#[]⟩), .slice ag aa.2.1.length ah, .slice ae aa.2.2.length af, nl Ent, nl ByteArray])) (by kernel_rfl) rfl (by decide) (by decide) ⟨(dO.ext (ext_draw _)), (dP.ext (ext_draw _))⟩ (by decide) (by decide) ⟨?_, ?_, ?_, ?_, ?_, ?_, ?_, ?_, ?_, ?_, ?_, ?_, ?_, ?_, ?_, ?_, ?_, trivial⟩ ?_
     ·intro HD HE HF HG HH HI HJ HK jY jZ HL
      obtain ⟨ka, kb⟩ := jY
      refine r_move (.int .i64 ab) ((jZ 9 rfl).trans a2) rfl ?_
      exact d0 ⟨rfl, ⟨ka, kb⟩⟩
     ·intro HM HN HO HP HQ HR HS HT kc kd HU
      obtain ⟨ke, kf⟩ := kc
      refine r_fieldAddr ac 0 4 4 ((kd 7 rfl).trans a3) rfl fo27_4 rfl ?_
      exact d0 ⟨rfl, ⟨ke, kf⟩⟩
     ·intro HV HW HX HY HZ H0 H1 H2 kg H3 kh
      obtain ⟨ki, dR⟩ := kg
      have kj := dR
      refine r_load ac 4 (.slice ae aa.2.2.length af) (kh 1 rfl 59 rfl) rfl (loads_one to23 ((kj.cell 4).trans rfl)) ?_
      exact d0 ⟨rfl, ⟨ki, dR⟩⟩
     ·intro H4 H5 H6 H7 H8 H9 Ia Ib kk Ic kl
      obtain ⟨km, kn⟩ := kk
      refine r_len ae aa.2.2.length af (kl 2 rfl 60 rfl) rfl Go.Proofs.Try.underlying23 ?_
      exact d0 ⟨rfl, ⟨km, kn⟩⟩
     ·intro Id Ie If Ig Ih Ii Ij Ik ko Il dS
      obtain ⟨kp, kq⟩ := ko
      refine r_bin (.int .i64 ab) (.int .i64 (aa.2.2.length : Int)) (.bool (decide (ab < (aa.2.2.length : Int)))) (dS 0 rfl 58 rfl) (dS 3 rfl 61 rfl) rfl rfl (b_lss) ?_
      exact d0 ⟨rfl, ⟨kp, kq⟩⟩
     ·intro Im In Io Ip Iq Ir Is It kr Iu ks
      obtain ⟨kt, ku⟩ := kr
      refine r_move (.bool (decide (ab < (aa.2.2.length : Int)))) (ks 4 rfl 62 rfl) rfl ?_
      exact d0 ⟨rfl, ⟨kt, ku⟩⟩
     ·intro Iv Iw Ix Iy Iz IA IB IC kv kw kx
      obtain ⟨ky, kz⟩ := kv
      refine Or.inr ⟨decide (ab < (aa.2.2.length : Int)), (fun d hd => by cases hd; exact (kx 5 rfl 63 rfl)), fun _ => ?_, fun h => absurd (aj : (decide (ab < (aa.2.2.length : Int))) = true) h⟩
      refine r_fieldAddr ac 0 4 4 ((kw 7 rfl).trans a3) rfl fo27_4 rfl ?_
      exact d0 ⟨rfl, ⟨ky, kz⟩⟩
     ·intro ID IE IF IG IH II IJ IK kA IL dT
      obtain ⟨kB, dU⟩ := kA
      have kC := dU
      refine Or.inr ⟨decide (ab < (aa.2.2.length : Int)), (fun d hd => by cases hd; exact (dT 5 rfl 63 rfl)), fun _ => ?_, fun h => absurd (aj : (decide (ab < (aa.2.2.length : Int))) = true) h⟩
      refine r_load ac 4 (.slice ae aa.2.2.length af) (dT 6 rfl 64 rfl) rfl (loads_one to23 ((kC.cell 4).trans rfl)) ?_
      exact d0 ⟨rfl, ⟨kB, dU⟩⟩
     ·intro IM IN IO IP IQ IR IS IT kD kE kF
      obtain ⟨kG, kH⟩ := kD
      refine Or.inr ⟨decide (ab < (aa.2.2.length : Int)), (fun d hd => by cases hd; exact (kF 5 rfl 63 rfl)), fun _ => ?_, fun h => absurd (aj : (decide (ab < (aa.2.2.length : Int))) = true) h⟩
      refine r_move (.int .i64 ab) ((kE 9 rfl).trans a2) rfl ?_
      exact d0 ⟨rfl, ⟨kG, kH⟩⟩
     ·intro IU IV IW IX IY IZ I0 kI kJ I1 b5
      obtain ⟨kK, kL⟩ := kJ
      refine Or.inr ⟨decide (ab < (aa.2.2.length : Int)), (fun d hd => by cases hd; exact (b5 5 rfl 63 rfl)), fun _ => ?_, fun h => absurd (aj : (decide (ab < (aa.2.2.length : Int))) = true) h⟩
      refine r_indexAddr (T := 23) (E := 60) ((aw.mono am).mono kI) jW (b5 7 rfl 65 rfl) (b5 8 rfl 66 rfl) rfl rfl Go.Proofs.Try.underlying23 sz60 ?_
      intro I2 I3 I4 kM kN
      obtain rfl := Key.cells_iff.1 kM
      exact d0 ⟨⟨_, _, _, rfl, (Key.cells_iff.2 rfl), kN⟩, ⟨kK, kL⟩⟩
     ·intro I5 kO kP I6 I7 I8 I9 Ja kQ Jb dV
      obtain ⟨kR, kS⟩ := kQ
      obtain ⟨kT, kU, Jc, kV, kW, kX⟩ : (Fct.elem (x790 : Key)).p (kO 67) kP := dV 9 rfl 67 rfl
      obtain rfl := Key.cells_iff.1 kW
      refine Or.inr ⟨decide (ab < (aa.2.2.length : Int)), (fun d hd => by cases hd; exact (dV 5 rfl 63 rfl)), fun _ => ?_, fun h => absurd (aj : (decide (ab < (aa.2.2.length : Int))) = true) h⟩
      refine r_load kT kU (Key.ag x790) kV rfl (loads_row tr60 kX.2) ?_
      exact d0 ⟨(Key.rpvMk (v := x790) ), ⟨kR, kS⟩⟩
     ·intro Jd Je Jf Jg Jh Ji Jj Jk kY kZ k0
      obtain ⟨k1, k2⟩ := kY
      refine Or.inr ⟨decide (ab < (aa.2.2.length : Int)), (fun d hd => by cases hd; exact (k0 5 rfl 63 rfl)), fun _ => ?_, fun h => absurd (aj : (decide (ab < (aa.2.2.length : Int))) = true) h⟩
      refine r_move (.slice A1 a0.length c2) ((kZ 0 rfl).trans b3) rfl ?_
      exact d0 ⟨rfl, ⟨k1, k2⟩⟩
     ·intro Jl Jm Jn Jo Jp Jq Jr Js k3 k4 k5
      obtain ⟨k6, k7⟩ := k3
      refine Or.inr ⟨decide (ab < (aa.2.2.length : Int)), (fun d hd => by cases hd; exact (k5 5 rfl 63 rfl)), fun _ => ?_, fun h => absurd (aj : (decide (ab < (aa.2.2.length : Int))) = true) h⟩
      refine r_move (.int .i64 aa.1) ((k4 8 rfl).trans b4) rfl ?_
      exact d0 ⟨rfl, ⟨k6, k7⟩⟩
     ·intro Jt Ju Jv Jw Jx Jy Jz k8 la JA b6
      obtain ⟨lb, lc⟩ := la
      refine Or.inr ⟨decide (ab < (aa.2.2.length : Int)), (fun d hd => by cases hd; exact (b6 5 rfl 63 rfl)), fun _ => ?_, fun h => absurd (aj : (decide (ab < (aa.2.2.length : Int))) = true) h⟩
      refine r_indexAddr (T := 23) (E := 60) (((((((h3.mono k9.wext).mono aL).mono aq.wext).mono ar.wext).mono ao).mono am).mono k8) jX (b6 11 rfl 69 rfl) (b6 12 rfl 70 rfl) rfl rfl Go.Proofs.Try.underlying23 sz60 ?_
      intro JB JC JD ld le
      obtain rfl := Key.cells_iff.1 ld
      exact d0 ⟨⟨_, _, _, rfl, (Key.cells_iff.2 rfl), le⟩, ⟨lb, lc⟩⟩
     ·intro JE lf lg JF JG JH JI JJ lh JK dW
      obtain ⟨li, lj⟩ := lh
      obtain ⟨lk, ll, JL, lm, ln, lo⟩ : (Fct.elem (x792 : Key)).p (lf 71) lg := dW 13 rfl 71 rfl
      obtain rfl := Key.cells_iff.1 ln
      refine Or.inr ⟨decide (ab < (aa.2.2.length : Int)), (fun d hd => by cases hd; exact (dW 5 rfl 63 rfl)), fun _ => ?_, fun h => absurd (aj : (decide (ab < (aa.2.2.length : Int))) = true) h⟩
      refine r_load lk ll (Key.ag x792) lm rfl (loads_row tr60 lo.2) ?_
      exact d0 ⟨(Key.rpvMk (v := x792) ), ⟨li, lj⟩⟩
     ·intro JM dX dY JN JO JP JQ JR lp JS b8
      obtain ⟨lq, lr⟩ := lp
      have ls : RpV dY (x790 : Key) (dX 68) := b8 10 rfl 68 rfl
      have lt := Key.rpv ls
      have lu : RpV dY (x792 : Key) (dX 72) := b8 14 rfl 72 rfl
      have lv := Key.rpv lu
      refine Or.inr ⟨decide (ab < (aa.2.2.length : Int)), (fun d hd => by cases hd; exact (b8 5 rfl 63 rfl)), fun _ => ?_, fun h => absurd (aj : (decide (ab < (aa.2.2.length : Int))) = true) h⟩
      refine r_bin (Key.ag x790) (Key.ag x792) (.bool ((x790.Kind == x792.Kind) && ((strEq x790.Text x792.Text) && true))) lt lv rfl rfl (b_aggeql (k := 2) (by kernel_rfl) (eqAt_struct Go.Proofs.Try.underlying60 (by kernel_rfl) (eqFs_cons (by decide) (part_one to3 rfl) (part_one to3 rfl) (eqAt_int Go.Proofs.Try.underlying3) (eqFs_cons (by decide) (part_one to9 rfl) (part_one to9 rfl) (eqAt_str Go.Proofs.Try.underlying9) eqFs_nil))) (by decide)) ?_
      exact d0 ⟨rfl, ⟨lq, lr⟩⟩
     ·intro JT JU JV JW JX JY JZ J0 lw J1 dZ
      obtain ⟨lx, ly⟩ := lw
      refine r_pick_t (c := decide (ab < (aa.2.2.length : Int))) (.bool ((x790.Kind == x792.Kind) && ((strEq x790.Text x792.Text) && true))) (dZ 5 rfl 63 rfl) aj (dZ 15 rfl 73 rfl) rfl rfl rfl ?_
      exact d0 ⟨rfl, ⟨lx, ly⟩⟩
     intro lz J2 lA az lB aA lC
     have bu := dN.trans lA
     obtain ⟨lD, lE⟩ := lB
     have d1 := lD
     have lF := lE
     have lG := (aA 0 rfl).trans b3
     have lH := (aA 1 rfl).trans dQ
     have d2 := (aA 4 rfl).trans jV
     have b9 := (aA 7 rfl).trans a3
     have lI := (aA 8 rfl).trans b4
     have ca := (aA 9 rfl).trans a2
     have d3 : lz 74 = (.bool ((x790.Kind == x792.Kind) && ((strEq x790.Text x792.Text) && true))) := lC 16 74 rfl
     refine j1 ?_
     refine if_else hf (fun cb hf => ?_) (fun cb hf => ?_)
     ·refine c_true d3 cb rfl ?_
      refine j2 (j3 ?_)
      refine r_build tst27 [] [.int .i64 0, .int .i64 0, .string (⟨#[]⟩), nl Val, nl Key, nl Ent, nl ByteArray] eps_nil rfl rfl ?_
      refine r_store d1 0 (.agg #[.int .i64 0, .int .i64 0, .string (⟨#[]⟩), nl Val, nl Key, nl Ent, nl ByteArray]) [.int .i64 0, .int .i64 0, .string (⟨#[]⟩), nl Val, nl Key, nl Ent, nl ByteArray] [.int .i64 0, .int .i64 0, .string (⟨#[]⟩), nl Val, nl Key, nl Ent, nl ByteArray] d2 rfl rfl rfl rfl sz27 rfl rfl rfl ?_
      intro J3 lJ lK
      have lL := bu.y lJ
      refine r_assign (.int .i64 6) rfl rfl ?_
      refine j0 (j1 (jb (j9 (j7 (j9 ?_)))))
      obtain rfl := Option.some.inj hf
      exact ⟨rfl, _, _, (.agg #[.int .i64 0, .int .i64 0, .string (⟨#[]⟩), nl Val, nl Key, nl Ent, nl ByteArray]), (.int .i64 6), rfl, rfl, lL, ⟨rfl, _, d2, loads_row tr27 (Blk.range lK 0 [.int .i64 0, .int .i64 0, .string (⟨#[]⟩), nl Val, nl Key, nl Ent, nl ByteArray] rfl)⟩, (Val.rpvMk (v := (Val.mk 0 0 (⟨#[]⟩) ([] : List Val) ([] : List Key) ([] : List Ent) ([] : List ByteArray))) (Sl.nil_ _ _ _ (Nat.zero_le _)) (Sl.nil_ _ _ _ (Nat.zero_le _)) (Sl.nil_ _ _ _ (Nat.zero_le _)) (Sl.nil_ _ _ _ (Nat.zero_le _))), ⟨rfl, rfl⟩, (RpV.mkInt _ _)⟩
     refine c_false d3 cb rfl ?_
     refine ja (j1 (j2 ?_))
     obtain ⟨x1113, lM, hf⟩ := bind_some hf
     obtain ⟨J4, lN, hf⟩ := bind_some hf
     obtain ⟨x1117, lO, hf⟩ := bind_some hf
     obtain ⟨ak, lP, hf⟩ := bind_some hf
     refine wp_draw (B := frExt s0.N) [some 76, some 77, some 78, some 79, some 80, some 81, some 82, some 83, some 84, some 85, some 10, some 11] [[], [0], [], [0, 1, 2], [0, 1, 2, 3], [], [5], [], [5, 6, 7], [0, 1, 2, 3, 4, 5, 6, 7, 8], [0, 1, 2, 3, 4, 5, 6, 7, 8, 9], [0, 1, 2, 3, 4, 5, 6, 7, 8, 9, 10]] [Fct.eqv (.pointer (some ⟨ac, 4, none⟩)), Fct.eqv (.slice ae aa.2.2.length af), Fct.eqv (.int .i64 ab), Fct.data (x1113 : (List Key)), Fct.data (x1113 : (List Key)), Fct.eqv (.pointer (some ⟨ac, 3, none⟩)), Fct.eqv (.slice ag aa.2.1.length ah), Fct.eqv (.int .i64 ab), Fct.data (x1117 : (List Val)), Fct.data (ak : (List Val)), Fct.data (x1113 : (List Key)), Fct.data (ak : (List Val))] (fun D F τ => (Blk s0.N 1 τ b7 27 [.int .i64 0, .int .i64 0, .string (⟨#[]⟩), nl Val, nl Key, nl Ent, nl ByteArray]) ∧ (Blk s0.N 2 τ ac 27 [.int .i64 8, .int .i64 0, .string (⟨#[]⟩), .slice ag aa.2.1.length ah, .slice ae aa.2.2.length af, nl Ent, nl ByteArray]) ∧ (D 4 = true → ∃ zA zc, F 80 = (.slice zA x1113.length zc) ∧ Own s0.N 5 60 τ x1113 zA zc ∧ (D 10 = true → F 10 = (.slice zA x1113.length zc))) ∧ (D 9 = true → ∃ zA zc, F 85 = (.slice zA ak.length zc) ∧ Own s0.N 1006 27 τ ak zA zc ∧ (D 11 = true → F 11 = (.slice zA ak.length zc)))) (by kernel_rfl) rfl (by decide) (by decide) ⟨(d1.ext (ext_draw _)), (lF.ext (ext_draw _)), (fun h => Bool.noConfusion h), (fun h => Bool.noConfusion h)⟩ (by decide) (by decide) ⟨?_, ?_, ?_, ?_, ?_, ?_, ?_, ?_, ?_, ?_, ?_, ?_, trivial⟩ ?_
     ·intro J5 J6 J7 J8 J9 d4 Ka Kb lQ lR Kc
      obtain ⟨lS, lT, Kd, Ke⟩ := lQ
      refine r_fieldAddr ac 0 4 4 ((lR 7 rfl).trans b9) rfl fo27_4 rfl ?_
      exact d0 ⟨rfl, ⟨lS, lT, (fun h => Bool.noConfusion ((d4 4 rfl).symm.trans h)), (fun h => Bool.noConfusion ((d4 9 rfl).symm.trans h))⟩⟩
     ·intro Kf Kg Kh Ki Kj d5 Kk Kl lU Km lV
      obtain ⟨lW, d6, Kn, Ko⟩ := lU
      have lX := d6
      refine r_load ac 4 (.slice ae aa.2.2.length af) (lV 0 rfl 76 rfl) rfl (loads_one to23 ((lX.cell 4).trans rfl)) ?_
      exact d0 ⟨rfl, ⟨lW, d6, (fun h => Bool.noConfusion ((d5 4 rfl).symm.trans h)), (fun h => Bool.noConfusion ((d5 9 rfl).symm.trans h))⟩⟩
     ·intro Kp Kq Kr Ks Kt d7 Ku Kv lY lZ Kw
      obtain ⟨l0, l1, Kx, Ky⟩ := lY
      refine r_move (.int .i64 ab) ((lZ 9 rfl).trans ca) rfl ?_
      exact d0 ⟨rfl, ⟨l0, l1, (fun h => Bool.noConfusion ((d7 4 rfl).symm.trans h)), (fun h => Bool.noConfusion ((d7 9 rfl).symm.trans h))⟩⟩
     ·intro Kz KA KB KC KD d8 KE l2 l3 KF d9
      obtain ⟨l4, l5, KG, KH⟩ := l3
      obtain ⟨l6, l7, l8, l9⟩ := sl_cut_h (P := Go.Proofs.Try.prog) (((aw.mono am).mono az).mono l2) lM Go.Proofs.Try.underlying23 sz60
      refine r_slice (.slice ae aa.2.2.length af) (.slice l6 x1113.length l7) none (some (.int .i64 ab)) none (d9 1 rfl 77 rfl) rfl rfl (om (d9 2 rfl 78 rfl)) rfl rfl (l8) ?_
      exact d0 ⟨(RpV.mkList l9), ⟨l4, l5, (fun h => Bool.noConfusion ((d8 4 rfl).symm.trans h)), (fun h => Bool.noConfusion ((d8 9 rfl).symm.trans h))⟩⟩
     ·intro KI ma mb KJ KK ea mc KL md KM me
      have eb := bu.trans mc
      obtain ⟨mf, mg, KN, KO⟩ := md
      have mh : RpV mb (x1113 : (List Key)) (ma 79) := me 3 rfl 79 rfl
      obtain ⟨KP, KQ, mi, mj⟩ := RpV.list mh
      refine r_append (B := s0.N) (id := 5) (E := 60) (xs := ([] : List Key)) (ys := x1113) eb.size (Own.nil_ _) mj ts23 (room_some lN) rfl mi rfl rfl ?_
      intro KR mk ml bv ec
      refine j0 ?_
      exact ⟨_, _, rfl, rfl, (ExtB.refl _ _).trans ((ExtB.refl _ _).mod eb.size bv), (Wext.refl _).trans bv.wext, (RpV.mkList ec.sl), ⟨(mf.mod bv rfl), (mg.mod bv rfl), (fun _ => ⟨mk, ml, rfl, ec, (fun h => Bool.noConfusion ((ea 10 rfl).symm.trans h))⟩), (fun h => Bool.noConfusion ((ea 9 rfl).symm.trans h))⟩⟩
     ·intro KS KT KU KV KW mm KX KY mn mo KZ
      obtain ⟨mp, mq, mr, K0⟩ := mn
      refine r_fieldAddr ac 0 3 3 ((mo 7 rfl).trans b9) rfl fo27_3 rfl ?_
      exact d0 ⟨rfl, ⟨mp, mq, (fun y0 => let ⟨zA, zc, zv, zo, zm10⟩ := mr y0; ⟨zA, zc, zv, zo, zm10⟩), (fun h => Bool.noConfusion ((mm 9 rfl).symm.trans h))⟩⟩
     ·intro K1 K2 K3 K4 K5 ms K6 K7 mt K8 mu
      obtain ⟨mv, ed, mw, K9⟩ := mt
      have mx := ed
      refine r_load ac 3 (.slice ag aa.2.1.length ah) (mu 5 rfl 81 rfl) rfl (loads_one to22 ((mx.cell 3).trans rfl)) ?_
      exact d0 ⟨rfl, ⟨mv, ed, (fun y0 => let ⟨zA, zc, zv, zo, zm10⟩ := mw y0; ⟨zA, zc, zv, zo, zm10⟩), (fun h => Bool.noConfusion ((ms 9 rfl).symm.trans h))⟩⟩
     ·intro La Lb Lc Ld Le my Lf Lg mz mA Lh
      obtain ⟨mB, mC, mD, Li⟩ := mz
      refine r_move (.int .i64 ab) ((mA 9 rfl).trans ca) rfl ?_
      exact d0 ⟨rfl, ⟨mB, mC, (fun y0 => let ⟨zA, zc, zv, zo, zm10⟩ := mD y0; ⟨zA, zc, zv, zo, zm10⟩), (fun h => Bool.noConfusion ((my 9 rfl).symm.trans h))⟩⟩
     ·intro Lj Lk Ll Lm Ln mE Lo mF mG Lp ee
      obtain ⟨mH, mI, mJ, Lq⟩ := mG
      obtain ⟨mK, mL, mM, mN⟩ := sl_cut_h (P := Go.Proofs.Try.prog) (((aX.mono am).mono az).mono mF) lO Go.Proofs.Try.underlying22 sz27
      refine r_slice (.slice ag aa.2.1.length ah) (.slice mK x1117.length mL) none (some (.int .i64 ab)) none (ee 6 rfl 82 rfl) rfl rfl (om (ee 7 rfl 83 rfl)) rfl rfl (mM) ?_
      exact d0 ⟨(RpV.mkList mN), ⟨mH, mI, (fun y0 => let ⟨zA, zc, zv, zo, zm10⟩ := mJ y0; ⟨zA, zc, zv, zo, zm10⟩), (fun h => Bool.noConfusion ((mE 9 rfl).symm.trans h))⟩⟩
     ·intro Lr mO mP Ls Lt mQ mR Lu mS Lv mT
      have cc := bu.trans mR
      obtain ⟨mU, mV, mW, Lw⟩ := mS
      have mX : RpV mP (x1117 : (List Val)) (mO 84) := mT 8 rfl 84 rfl
      obtain ⟨mY, mZ, m0, m1⟩ := RpV.list mX
      refine r_call [.slice mY x1117.length mZ] (evs1 m0) rfl (ok_semtyperef1_copies _ _ _ _ (RpV.mkList m1) lP 1006 (by omega)) ?_
      intro Lx Ly a4 m2
      obtain ⟨m3, m4, rfl, ef⟩ := m2
      refine j0 ?_
      exact ⟨_, _, rfl, rfl, (ExtB.refl _ _).trans (a4.mono cc.size), (Wext.refl _).trans a4.wext, (RpV.mkList (ef.base (by have := cc.size; omega)).sl), ⟨(mU.ext a4), (mV.ext a4), (fun y0 => let ⟨zA, zc, zv, zo, zm10⟩ := mW y0; ⟨zA, zc, zv, (zo.ext a4), zm10⟩), (fun _ => ⟨m3, m4, rfl, (ef.base (by have := cc.size; omega)), (fun h => Bool.noConfusion ((mQ 11 rfl).symm.trans h))⟩)⟩⟩
     ·intro Lz LA LB LC m5 LD LE LF m6 LG LH
      obtain ⟨m7, m8, m9, na⟩ := m6
      obtain ⟨eg, eh, ei, ej, LI⟩ := m9 (m5 4 rfl)
      refine r_assign (.slice eg x1113.length eh) ei rfl ?_
      exact d0 ⟨(RpV.mkList ej.sl), ⟨m7, m8, (fun _ => ⟨eg, eh, ei, ej, (fun _ => rfl)⟩), (fun y0 => let ⟨zA, zc, zv, zo, zm11⟩ := na y0; ⟨zA, zc, zv, zo, zm11⟩)⟩⟩
     ·intro LJ LK LL LM nb LN LO LP nc LQ LR
      obtain ⟨nd, ne, nf, ng⟩ := nc
      obtain ⟨ek, el, em, en, LS⟩ := ng (nb 9 rfl)
      refine r_assign (.slice ek ak.length el) em rfl ?_
      exact d0 ⟨(RpV.mkList en.sl), ⟨nd, ne, (fun y0 => let ⟨zA, zc, zv, zo, zm10⟩ := nf y0; ⟨zA, zc, zv, zo, zm10⟩), (fun _ => ⟨ek, el, em, en, (fun _ => rfl)⟩)⟩⟩
     intro LT LU nh a5 ni aN LV
     have a6 := bu.trans nh
     obtain ⟨nj, nk, nm, nn⟩ := ni
     have no := nj
     have np := nk
     obtain ⟨cd, ce, LW, nq, nr⟩ := nm rfl
     obtain ⟨bw, bx, LX, ns, nt⟩ := nn rfl
     have nu := (aN 0 rfl).trans lG
     have nv := (aN 1 rfl).trans lH
     have cf := (aN 7 rfl).trans b9
     have eo := (aN 8 rfl).trans lI
     have ep := (aN 9 rfl).trans ca
     refine j1 (j2 ?_)
     obtain ⟨x1398, nw, hf⟩ := bind_some hf
     obtain ⟨LY, nx, hf⟩ := bind_some hf
     obtain ⟨x1402, ny, hf⟩ := bind_some hf
     obtain ⟨LZ, nz, hf⟩ := bind_some hf
     refine wp_draw (B := frExt s0.N) [some 86, some 87, some 88, some 89, some 90, some 91, some 92, some 93, some 94, some 95, some 96, some 97, some 98, none] [[], [], [], [1, 2], [1, 2, 3], [1, 2, 3, 4], [0, 1, 2, 3, 4, 5], [], [7], [], [7, 8, 9], [0, 1, 2, 3, 4, 5, 6, 7, 8, 9, 10], [0, 1, 2, 3, 4, 5, 6, 7, 8, 9, 10, 11], [0, 1, 2, 3, 4, 5, 6, 7, 8, 9, 10, 11, 12]] [Fct.eqv (.slice cd x1113.length ce), Fct.eqv (.slice A1 a0.length c2), Fct.eqv (.int .i64 aa.1), Fct.elem (x1398 : Key), Fct.data (x1398 : Key), Fct.data ([x1398] : (List Key)), Fct.data (x1113 ++ [x1398] : (List Key)), Fct.eqv (.pointer (some ⟨ac, 4, none⟩)), Fct.eqv (.slice ae aa.2.2.length af), Fct.eqv (.int .i64 ab), Fct.data (x1402 : (List Key)), Fct.data ((x1113 ++ [x1398]) ++ x1402 : (List Key)), Fct.eqv (.pointer (some ⟨ac, 4, none⟩)), Fct.any] (fun D F τ => (Blk s0.N 1 τ b7 27 [.int .i64 0, .int .i64 0, .string (⟨#[]⟩), nl Val, nl Key, nl Ent, nl ByteArray]) ∧ (D 13 = false → Blk s0.N 2 τ ac 27 [.int .i64 8, .int .i64 0, .string (⟨#[]⟩), .slice ag aa.2.1.length ah, .slice ae aa.2.2.length af, nl Ent, nl ByteArray]) ∧ (D 13 = true → (∃ (zA4 : Option Addr) (zc4 : Nat), Blk s0.N 2 τ ac 27 [.int .i64 8, .int .i64 0, .string (⟨#[]⟩), .slice ag aa.2.1.length ah, .slice zA4 ((x1113 ++ [x1398]) ++ x1402).length zc4, nl Ent, nl ByteArray] ∧ Own s0.N 5 60 τ ((x1113 ++ [x1398]) ++ x1402) zA4 zc4)) ∧ (D 6 = false → Own s0.N 5 60 τ x1113 cd ce) ∧ (Own s0.N 1006 27 τ ak bw bx) ∧ (D 6 = true → D 11 = false → ∃ zA zc, F 92 = (.slice zA (x1113 ++ [x1398]).length zc) ∧ Own s0.N 5 60 τ (x1113 ++ [x1398]) zA zc) ∧ (D 11 = true → ∃ zA zc, F 97 = (.slice zA ((x1113 ++ [x1398]) ++ x1402).length zc) ∧ Own s0.N 5 60 τ ((x1113 ++ [x1398]) ++ x1402) zA zc)) (by kernel_rfl) rfl (by decide) (by decide) ⟨(no.ext (ext_draw _)), (fun _ => (np.ext (ext_draw _))), (fun h => Bool.noConfusion h), (fun _ => (nq.ext (ext_draw _))), (ns.ext (ext_draw _)), (fun h => Bool.noConfusion h), (fun h => Bool.noConfusion h)⟩ (by decide) (by decide) ⟨?_, ?_, ?_, ?_, ?_, ?_, ?_, ?_, ?_, ?_, ?_, ?_, ?_, ?_, trivial⟩ ?_
     ·intro L0 L1 L2 L3 L4 cg L5 L6 nA nB L7
      obtain ⟨nC, nD, L8, nE, nF, L9, Ma⟩ := nA
      refine r_move (.slice cd x1113.length ce) ((nB 10 rfl).trans (nr rfl)) rfl ?_
      exact d0 ⟨rfl, ⟨nC, (fun y0 => (nD y0)), (fun h => Bool.noConfusion ((cg 13 rfl).symm.trans h)), (fun h => (nE h)), nF, (fun h => Bool.noConfusion ((cg 6 rfl).symm.trans h)), (fun h => Bool.noConfusion ((cg 11 rfl).symm.trans h))⟩⟩
     ·intro Mb Mc Md Me Mf ch Mg Mh nG nH Mi
      obtain ⟨nI, nJ, Mj, nK, nL, Mk, Ml⟩ := nG
      refine r_move (.slice A1 a0.length c2) ((nH 0 rfl).trans nu) rfl ?_
      exact d0 ⟨rfl, ⟨nI, (fun y0 => (nJ y0)), (fun h => Bool.noConfusion ((ch 13 rfl).symm.trans h)), (fun h => (nK h)), nL, (fun h => Bool.noConfusion ((ch 6 rfl).symm.trans h)), (fun h => Bool.noConfusion ((ch 11 rfl).symm.trans h))⟩⟩
     ·intro Mm Mn Mo Mp Mq ci Mr Ms nM nN Mt
      obtain ⟨nO, nP, Mu, nQ, nR, Mv, Mw⟩ := nM
      refine r_move (.int .i64 aa.1) ((nN 8 rfl).trans eo) rfl ?_
      exact d0 ⟨rfl, ⟨nO, (fun y0 => (nP y0)), (fun h => Bool.noConfusion ((ci 13 rfl).symm.trans h)), (fun h => (nQ h)), nR, (fun h => Bool.noConfusion ((ci 6 rfl).symm.trans h)), (fun h => Bool.noConfusion ((ci 11 rfl).symm.trans h))⟩⟩
     ·intro Mx My Mz MA MB cj MC nS nT MD eq
      obtain ⟨nU, nV, ME, nW, nX, MF, MG⟩ := nT
      refine r_indexAddr (T := 23) (E := 60) (((((((((h3.mono k9.wext).mono aL).mono aq.wext).mono ar.wext).mono ao).mono am).mono az).mono a5).mono nS) nw (eq 1 rfl 87 rfl) (eq 2 rfl 88 rfl) rfl rfl Go.Proofs.Try.underlying23 sz60 ?_
      intro MH MI MJ nY nZ
      obtain rfl := Key.cells_iff.1 nY
      exact d0 ⟨⟨_, _, _, rfl, (Key.cells_iff.2 rfl), nZ⟩, ⟨nU, (fun y0 => (nV y0)), (fun h => Bool.noConfusion ((cj 13 rfl).symm.trans h)), (fun h => (nW h)), nX, (fun h => Bool.noConfusion ((cj 6 rfl).symm.trans h)), (fun h => Bool.noConfusion ((cj 11 rfl).symm.trans h))⟩⟩
     ·intro MK n0 n1 ML MM ck MN MO n2 MP n3
      obtain ⟨n4, n5, MQ, n6, n7, MR, MS⟩ := n2
      obtain ⟨n8, n9, MT, oa, ob, oc⟩ : (Fct.elem (x1398 : Key)).p (n0 89) n1 := n3 3 rfl 89 rfl
      obtain rfl := Key.cells_iff.1 ob
      refine r_load n8 n9 (Key.ag x1398) oa rfl (loads_row tr60 oc.2) ?_
      exact d0 ⟨(Key.rpvMk (v := x1398) ), ⟨n4, (fun y0 => (n5 y0)), (fun h => Bool.noConfusion ((ck 13 rfl).symm.trans h)), (fun h => (n6 h)), n7, (fun h => Bool.noConfusion ((ck 6 rfl).symm.trans h)), (fun h => Bool.noConfusion ((ck 11 rfl).symm.trans h))⟩⟩
     ·intro MU od oe MV MW cl og MX oh MY oi
      have er := a6.trans og
      obtain ⟨oj, ol, MZ, on, oo, M0, M1⟩ := oh
      have op : RpV oe (x1398 : Key) (od 90) := oi 4 rfl 90 rfl
      have oq := Key.rpv op
      refine r_buildSlice (B := s0.N) (E := 60) 7 er.size ts23 (xs := [x1398]) [Key.ag x1398] (eps_cons oq eps_nil) rfl rfl rfl (by decide) rfl (by simp [Value.cells, Rp.sz]) ⟨_, _, rfl, (Key.cells_iff.2 rfl), rfl⟩ ?_
      intro M2 M3 M4 aO ot
      refine j0 ?_
      exact ⟨_, _, rfl, rfl, (ExtB.refl _ _).trans (aO.mono er.size), (Wext.refl _).trans aO.wext, (RpV.mkList ot.sl), ⟨(oj.ext aO), (fun y0 => ((ol y0).ext aO)), (fun h => Bool.noConfusion ((cl 13 rfl).symm.trans h)), (fun h => ((on h).ext aO)), (oo.ext aO), (fun h => Bool.noConfusion ((cl 6 rfl).symm.trans h)), (fun h => Bool.noConfusion ((cl 11 rfl).symm.trans h))⟩⟩
     ·intro M5 ou ov ow M6 es ox M7 oy M8 et
      have eu := a6.trans ox
      obtain ⟨oz, oA, M9, oB, oC, Na, Nb⟩ := oy
      have oD : RpV ov ([x1398] : (List Key)) (ou 91) := et 5 rfl 91 rfl
      obtain ⟨Nc, Nd, oE, oF⟩ := RpV.list oD
      refine r_append (B := s0.N) (id := 5) (E := 60) (xs := x1113) (ys := [x1398]) eu.size ((oB ow)) oF ts23 (room_some nx) (et 0 rfl 86 rfl) oE rfl rfl ?_
      intro Ne oG oH a7 ev
      refine j0 ?_
      exact ⟨_, _, rfl, rfl, (ExtB.refl _ _).trans ((ExtB.refl _ _).mod eu.size a7), (Wext.refl _).trans a7.wext, (RpV.mkList ev.sl), ⟨(oz.mod a7 rfl), (fun y0 => ((oA y0).mod a7 rfl)), (fun h => Bool.noConfusion ((es 13 rfl).symm.trans h)), (fun h => Bool.noConfusion h), (oC.mod a7 rfl), (fun _ _ => ⟨oG, oH, rfl, ev⟩), (fun h => Bool.noConfusion ((es 11 rfl).symm.trans h))⟩⟩
     ·intro Nf Ng Nh Ni Nj ew Nk Nl oI oJ Nm
      obtain ⟨oK, oL, Nn, oM, oN, oO, No⟩ := oI
      refine r_fieldAddr ac 0 4 4 ((oJ 7 rfl).trans cf) rfl fo27_4 rfl ?_
      exact d0 ⟨rfl, ⟨oK, (fun y0 => (oL y0)), (fun h => Bool.noConfusion ((ew 13 rfl).symm.trans h)), (fun h => (oM h)), oN, (fun y0 y1 => let ⟨zA, zc, zv, zo⟩ := oO y0 y1; ⟨zA, zc, zv, zo⟩), (fun h => Bool.noConfusion ((ew 11 rfl).symm.trans h))⟩⟩
     ·intro Np Nq Nr Ns Nt cm Nu Nv oP Nw oQ
      obtain ⟨oR, ex, Nx, oS, oT, oU, Ny⟩ := oP
      have oV := ex (cm 13 rfl)
      refine r_load ac 4 (.slice ae aa.2.2.length af) (oQ 7 rfl 93 rfl) rfl (loads_one to23 ((oV.cell 4).trans rfl)) ?_
      exact d0 ⟨rfl, ⟨oR, (fun y0 => (ex y0)), (fun h => Bool.noConfusion ((cm 13 rfl).symm.trans h)), (fun h => (oS h)), oT, (fun y0 y1 => let ⟨zA, zc, zv, zo⟩ := oU y0 y1; ⟨zA, zc, zv, zo⟩), (fun h => Bool.noConfusion ((cm 11 rfl).symm.trans h))⟩⟩
     ·intro Nz NA NB NC ND ey NE NF oW oX NG
      obtain ⟨oY, oZ, NH, o0, o1, o2, NI⟩ := oW
      refine r_move (.int .i64 ab) ((oX 9 rfl).trans ep) rfl ?_
      exact d0 ⟨rfl, ⟨oY, (fun y0 => (oZ y0)), (fun h => Bool.noConfusion ((ey 13 rfl).symm.trans h)), (fun h => (o0 h)), o1, (fun y0 y1 => let ⟨zA, zc, zv, zo⟩ := o2 y0 y1; ⟨zA, zc, zv, zo⟩), (fun h => Bool.noConfusion ((ey 11 rfl).symm.trans h))⟩⟩
     ·intro NJ NK NL NM NN ez NO o3 o4 NP eA
      obtain ⟨o5, o6, NQ, o7, o8, o9, NR⟩ := o4
      obtain ⟨pa, pb, pc, pd⟩ := sl_cut_l (P := Go.Proofs.Try.prog) ((((aw.mono am).mono az).mono a5).mono o3) ny Go.Proofs.Try.underlying23 sz60
      refine r_slice (.slice ae aa.2.2.length af) (.slice pa x1402.length pb) (some (.int .i64 ab)) none none (eA 8 rfl 94 rfl) rfl (om (eA 9 rfl 95 rfl)) rfl rfl rfl (pc) ?_
      exact d0 ⟨(RpV.mkList pd), ⟨o5, (fun y0 => (o6 y0)), (fun h => Bool.noConfusion ((ez 13 rfl).symm.trans h)), (fun h => (o7 h)), o8, (fun y0 y1 => let ⟨zA, zc, zv, zo⟩ := o9 y0 y1; ⟨zA, zc, zv, zo⟩), (fun h => Bool.noConfusion ((ez 11 rfl).symm.trans h))⟩⟩
     ·intro NS pe pf pg eB ph pi NT pj NU pk
      have eC := a6.trans pi
      obtain ⟨pl, pm, NV, NW, pn, po, NX⟩ := pj
      obtain ⟨NY, NZ, pp, pq⟩ := po (eB 6 rfl) pg
      have pr : RpV pf (x1402 : (List Key)) (pe 96) := pk 10 rfl 96 rfl
      obtain ⟨N0, N1, ps, pt⟩ := RpV.list pr
      refine r_append (B := s0.N) (id := 5) (E := 60) (xs := x1113 ++ [x1398]) (ys := x1402) eC.size (pq) pt ts23 (room_some nz) pp ps rfl rfl ?_
      intro N2 pu pv a8 eD
      refine j0 ?_
      exact ⟨_, _, rfl, rfl, (ExtB.refl _ _).trans ((ExtB.refl _ _).mod eC.size a8), (Wext.refl _).trans a8.wext, (RpV.mkList eD.sl), ⟨(pl.mod a8 rfl), (fun y0 => ((pm y0).mod a8 rfl)), (fun h => Bool.noConfusion ((ph 13 rfl).symm.trans h)), (fun h => Bool.noConfusion ((eB 6 rfl).symm.trans h)), (pn.mod a8 rfl), (fun _ h => Bool.noConfusion h), (fun _ => ⟨pu, pv, rfl, eD⟩)⟩⟩
     ·intro N3 N4 N5 N6 pw px N7 N8 py pz N9
      obtain ⟨pA, pB, Oa, Ob, pC, pD, pE⟩ := py
      refine r_fieldAddr ac 0 4 4 ((pz 7 rfl).trans cf) rfl fo27_4 rfl ?_
      exact d0 ⟨rfl, ⟨pA, (fun y0 => (pB y0)), (fun h => Bool.noConfusion ((px 13 rfl).symm.trans h)), (fun h => Bool.noConfusion ((pw 6 rfl).symm.trans h)), pC, (fun y0 y1 => let ⟨zA, zc, zv, zo⟩ := pD y0 y1; ⟨zA, zc, zv, zo⟩), (fun y0 => let ⟨zA, zc, zv, zo⟩ := pE y0; ⟨zA, zc, zv, zo⟩)⟩⟩
     ·intro Oc Od Oe pF eE Of pG Og pH Oh pI
      have pJ := a6.trans pG
      obtain ⟨pK, pL, Oi, Oj, pM, pN, eF⟩ := pH
      have pO := pL pF
      obtain ⟨bz, bA, pP, pQ⟩ := eF (eE 11 rfl)
      refine r_store pO 4 (.slice bz ((x1113 ++ [x1398]) ++ x1402).length bA) [.slice bz ((x1113 ++ [x1398]) ++ x1402).length bA] [.int .i64 8, .int .i64 0, .string (⟨#[]⟩), .slice ag aa.2.1.length ah, .slice bz ((x1113 ++ [x1398]) ++ x1402).length bA, nl Ent, nl ByteArray] (pI 12 rfl 98 rfl) pP rfl rfl rfl sz23 rfl rfl rfl ?_
      intro Ok aB pR
      refine j0 ?_
      exact ⟨_, _, rfl, rfl, (ExtB.refl _ _).trans ((ExtB.refl _ _).mod pJ.size aB), (Wext.refl _).trans aB.wext, trivial, ⟨(pK.mod aB rfl), (fun h => Bool.noConfusion h), (fun _ => ⟨bz, bA, pR, (pQ.mod aB rfl)⟩), (fun h => Bool.noConfusion ((eE 6 rfl).symm.trans h)), (pM.mod aB rfl), (fun y0 y1 => let ⟨zA, zc, zv, zo⟩ := pN y0 y1; ⟨zA, zc, zv, (zo.mod aB rfl)⟩), (fun y0 => let ⟨zA, zc, zv, zo⟩ := eF y0; ⟨zA, zc, zv, (zo.mod aB rfl)⟩)⟩⟩
     intro Ol Om pS cn pT aP On
     have a9 := a6.trans pS
     obtain ⟨pU, Oo, pV, Op, pW, Oq, pX⟩ := pT
     have pY := pU
     obtain ⟨ba, bb, pZ, p0⟩ := pV rfl
     obtain ⟨Os, Ot, Ou, Ov⟩ := pX rfl
     have p1 := (aP 1 rfl).trans nv
     have eG := (aP 7 rfl).trans cf
     have eH := (aP 8 rfl).trans eo
     have p2 := (aP 9 rfl).trans ep
     have p3 := (aP 11 rfl).trans (nt rfl)
     refine j1 ?_
     obtain ⟨x1775, p4, hf⟩ := bind_some hf
     obtain ⟨Ow, p5, hf⟩ := bind_some hf
     obtain ⟨x1779, p6, hf⟩ := bind_some hf
     obtain ⟨Ox, p7, hf⟩ := bind_some hf
     refine wp_draw (B := frExt s0.N) [some 99, some 100, some 101, some 102, some 103, some 104, some 105, some 106, some 107, some 108, some 109, some 110, some 111, none] [[], [], [], [1, 2], [1, 2, 3], [1, 2, 3, 4], [0, 1, 2, 3, 4, 5], [], [7], [], [7, 8, 9], [0, 1, 2, 3, 4, 5, 6, 7, 8, 9, 10], [0, 1, 2, 3, 4, 5, 6, 7, 8, 9, 10, 11], [0, 1, 2, 3, 4, 5, 6, 7, 8, 9, 10, 11, 12]] [Fct.eqv (.slice bw ak.length bx), Fct.eqv (.slice A4 a1.length c5), Fct.eqv (.int .i64 aa.1), Fct.elem (x1775 : Val), Fct.data (x1775 : Val), Fct.data ([x1775] : (List Val)), Fct.data (ak ++ [x1775] : (List Val)), Fct.eqv (.pointer (some ⟨ac, 3, none⟩)), Fct.eqv (.slice ag aa.2.1.length ah), Fct.eqv (.int .i64 ab), Fct.data (x1779 : (List Val)), Fct.data ((ak ++ [x1775]) ++ x1779 : (List Val)), Fct.eqv (.pointer (some ⟨ac, 3, none⟩)), Fct.any] (fun D F τ => (Blk s0.N 1 τ b7 27 [.int .i64 0, .int .i64 0, .string (⟨#[]⟩), nl Val, nl Key, nl Ent, nl ByteArray]) ∧ (D 13 = false → Blk s0.N 2 τ ac 27 [.int .i64 8, .int .i64 0, .string (⟨#[]⟩), .slice ag aa.2.1.length ah, .slice ba ((x1113 ++ [x1398]) ++ x1402).length bb, nl Ent, nl ByteArray]) ∧ (D 13 = true → (∃ (zA3 : Option Addr) (zc3 : Nat), Blk s0.N 2 τ ac 27 [.int .i64 8, .int .i64 0, .string (⟨#[]⟩), .slice zA3 ((ak ++ [x1775]) ++ x1779).length zc3, .slice ba ((x1113 ++ [x1398]) ++ x1402).length bb, nl Ent, nl ByteArray] ∧ Own s0.N 1006 27 τ ((ak ++ [x1775]) ++ x1779) zA3 zc3)) ∧ (D 6 = false → Own s0.N 1006 27 τ ak bw bx) ∧ (Own s0.N 5 60 τ ((x1113 ++ [x1398]) ++ x1402) ba bb) ∧ (D 6 = true → D 11 = false → ∃ zA zc, F 105 = (.slice zA (ak ++ [x1775]).length zc) ∧ Own s0.N 1006 27 τ (ak ++ [x1775]) zA zc) ∧ (D 11 = true → ∃ zA zc, F 110 = (.slice zA ((ak ++ [x1775]) ++ x1779).length zc) ∧ Own s0.N 1006 27 τ ((ak ++ [x1775]) ++ x1779) zA zc)) (by kernel_rfl) rfl (by decide) (by decide) ⟨(pY.ext (ext_draw _)), (fun _ => (pZ.ext (ext_draw _))), (fun h => Bool.noConfusion h), (fun _ => (pW.ext (ext_draw _))), (p0.ext (ext_draw _)), (fun h => Bool.noConfusion h), (fun h => Bool.noConfusion h)⟩ (by decide) (by decide) ⟨?_, ?_, ?_, ?_, ?_, ?_, ?_, ?_, ?_, ?_, ?_, ?_, ?_, ?_, trivial⟩ ?_
     ·intro Oy Oz OA OB OC co OD OE p8 p9 OF
      obtain ⟨qa, qb, OG, qc, qd, OH, OI⟩ := p8
      refine r_move (.slice bw ak.length bx) ((p9 11 rfl).trans p3) rfl ?_
      exact d0 ⟨rfl, ⟨qa, (fun y0 => (qb y0)), (fun h => Bool.noConfusion ((co 13 rfl).symm.trans h)), (fun h => (qc h)), qd, (fun h => Bool.noConfusion ((co 6 rfl).symm.trans h)), (fun h => Bool.noConfusion ((co 11 rfl).symm.trans h))⟩⟩
     ·intro OJ OK OL OM ON cp OO OP qe qf OQ
      obtain ⟨qg, qh, OR, qi, qj, OS, OT⟩ := qe
      refine r_move (.slice A4 a1.length c5) ((qf 1 rfl).trans p1) rfl ?_
      exact d0 ⟨rfl, ⟨qg, (fun y0 => (qh y0)), (fun h => Bool.noConfusion ((cp 13 rfl).symm.trans h)), (fun h => (qi h)), qj, (fun h => Bool.noConfusion ((cp 6 rfl).symm.trans h)), (fun h => Bool.noConfusion ((cp 11 rfl).symm.trans h))⟩⟩
     ·intro OU OV OW OX OY cq OZ O0 qk ql O1
      obtain ⟨qm, qn, O2, qo, qp, O3, O4⟩ := qk
      refine r_move (.int .i64 aa.1) ((ql 8 rfl).trans eH) rfl ?_
      exact d0 ⟨rfl, ⟨qm, (fun y0 => (qn y0)), (fun h => Bool.noConfusion ((cq 13 rfl).symm.trans h)), (fun h => (qo h)), qp, (fun h => Bool.noConfusion ((cq 6 rfl).symm.trans h)), (fun h => Bool.noConfusion ((cq 11 rfl).symm.trans h))⟩⟩
     ·intro O5 O6 O7 O8 O9 cr Pa qq qr Pb eI
      obtain ⟨qs, qt, Pc, qu, qv, Pd, Pe⟩ := qr
      refine r_indexAddr (T := 22) (E := 27) ((((((((((h6.mono k9.wext).mono aL).mono aq.wext).mono ar.wext).mono ao).mono am).mono az).mono a5).mono cn).mono qq) p4 (eI 1 rfl 100 rfl) (eI 2 rfl 101 rfl) rfl rfl Go.Proofs.Try.underlying22 sz27 ?_
      intro Pf Pg Ph qw qx
      obtain ⟨Pi, Pj, Pk, Pl, Pm, Pn, Po, Pp, rfl, qy, qz, qA, qB⟩ := Val.cells_iff.1 qw
      exact d0 ⟨⟨_, _, _, rfl, (Val.cells_iff.2 ⟨_, _, _, _, _, _, _, _, rfl, qy, qz, qA, qB⟩), qx⟩, ⟨qs, (fun y0 => (qt y0)), (fun h => Bool.noConfusion ((cr 13 rfl).symm.trans h)), (fun h => (qu h)), qv, (fun h => Bool.noConfusion ((cr 6 rfl).symm.trans h)), (fun h => Bool.noConfusion ((cr 11 rfl).symm.trans h))⟩⟩
     ·intro Pq qC qD Pr Ps cs Pt Pu qE Pv qF
      obtain ⟨qG, qH, Pw, qI, qJ, Px, Py⟩ := qE
      obtain ⟨qK, qL, Pz, qM, qN, qO⟩ : (Fct.elem (x1775 : Val)).p (qC 102) qD := qF 3 rfl 102 rfl
      obtain ⟨qP, qQ, qR, qS, qT, qU, qV, qW, rfl, qX, qY, qZ, q0⟩ := Val.cells_iff.1 qN
      refine r_load qK qL (Val.ag x1775 qP qQ qR qS qT qU qV qW) qM rfl (loads_row tr27 qO.2) ?_
      exact d0 ⟨(Val.rpvMk (v := x1775) qX qY qZ q0), ⟨qG, (fun y0 => (qH y0)), (fun h => Bool.noConfusion ((cs 13 rfl).symm.trans h)), (fun h => (qI h)), qJ, (fun h => Bool.noConfusion ((cs 6 rfl).symm.trans h)), (fun h => Bool.noConfusion ((cs 11 rfl).symm.trans h))⟩⟩
     ·intro PA q1 q2 PB PC ct q3 PD q4 PE q5
      have eJ := a9.trans q3
      obtain ⟨q6, q7, PF, q8, q9, PG, PH⟩ := q4
      have ra : RpV q2 (x1775 : Val) (q1 103) := q5 4 rfl 103 rfl
      obtain ⟨rb, rc, rd, re, rf, rg, rh, ri, rj, rk, rl, rm, rn⟩ := Val.rpv ra
      refine r_buildSlice (B := s0.N) (E := 27) 8 eJ.size ts22 (xs := [x1775]) [Val.ag x1775 rb rc rd re rf rg rh ri] (eps_cons rj eps_nil) rfl rfl rfl (by decide) rfl (by simp [Value.cells, Rp.sz]) ⟨_, _, rfl, (Val.cells_iff.2 ⟨_, _, _, _, _, _, _, _, rfl, rk, rl, rm, rn⟩), rfl⟩ ?_
      intro PI PJ PK aQ ro
      refine j0 ?_
      exact ⟨_, _, rfl, rfl, (ExtB.refl _ _).trans (aQ.mono eJ.size), (Wext.refl _).trans aQ.wext, (RpV.mkList ro.sl), ⟨(q6.ext aQ), (fun y0 => ((q7 y0).ext aQ)), (fun h => Bool.noConfusion ((ct 13 rfl).symm.trans h)), (fun h => ((q8 h).ext aQ)), (q9.ext aQ), (fun h => Bool.noConfusion ((ct 6 rfl).symm.trans h)), (fun h => Bool.noConfusion ((ct 11 rfl).symm.trans h))⟩⟩
     ·intro PL rq rr rs PM eK rt PN ru PO eL
      have eM := a9.trans rt
      obtain ⟨rv, rw, PP, rx, ry, PQ, PR⟩ := ru
      have rz : RpV rr ([x1775] : (List Val)) (rq 104) := eL 5 rfl 104 rfl
      obtain ⟨PS, PT, rA, rB⟩ := RpV.list rz
      refine r_append (B := s0.N) (id := 1006) (E := 27) (xs := ak) (ys := [x1775]) eM.size ((rx rs)) rB ts22 (room_some p5) (eL 0 rfl 99 rfl) rA rfl rfl ?_
      intro PU rC rD bc eN
      refine j0 ?_
      exact ⟨_, _, rfl, rfl, (ExtB.refl _ _).trans ((ExtB.refl _ _).mod eM.size bc), (Wext.refl _).trans bc.wext, (RpV.mkList eN.sl), ⟨(rv.mod bc rfl), (fun y0 => ((rw y0).mod bc rfl)), (fun h => Bool.noConfusion ((eK 13 rfl).symm.trans h)), (fun h => Bool.noConfusion h), (ry.mod bc rfl), (fun _ _ => ⟨rC, rD, rfl, eN⟩), (fun h => Bool.noConfusion ((eK 11 rfl).symm.trans h))⟩⟩
     ·intro PV PW PX PY PZ eO P0 P1 rE rF P2
      obtain ⟨rG, rH, P3, rI, rJ, rK, P4⟩ := rE
      refine r_fieldAddr ac 0 3 3 ((rF 7 rfl).trans eG) rfl fo27_3 rfl ?_
      exact d0 ⟨rfl, ⟨rG, (fun y0 => (rH y0)), (fun h => Bool.noConfusion ((eO 13 rfl).symm.trans h)), (fun h => (rI h)), rJ, (fun y0 y1 => let ⟨zA, zc, zv, zo⟩ := rK y0 y1; ⟨zA, zc, zv, zo⟩), (fun h => Bool.noConfusion ((eO 11 rfl).symm.trans h))⟩⟩
     ·intro P5 P6 P7 P8 P9 cu Qa Qb rL Qc rM
      obtain ⟨rN, eP, Qd, rO, rP, rQ, Qe⟩ := rL
      have rR := eP (cu 13 rfl)
      refine r_load ac 3 (.slice ag aa.2.1.length ah) (rM 7 rfl 106 rfl) rfl (loads_one to22 ((rR.cell 3).trans rfl)) ?_
      exact d0 ⟨rfl, ⟨rN, (fun y0 => (eP y0)), (fun h => Bool.noConfusion ((cu 13 rfl).symm.trans h)), (fun h => (rO h)), rP, (fun y0 y1 => let ⟨zA, zc, zv, zo⟩ := rQ y0 y1; ⟨zA, zc, zv, zo⟩), (fun h => Bool.noConfusion ((cu 11 rfl).symm.trans h))⟩⟩
     ·intro Qf Qg Qh Qi Qj eQ Qk Ql rS rT Qm
      obtain ⟨rU, rV, Qn, rW, rX, rY, Qo⟩ := rS
      refine r_move (.int .i64 ab) ((rT 9 rfl).trans p2) rfl ?_
      exact d0 ⟨rfl, ⟨rU, (fun y0 => (rV y0)), (fun h => Bool.noConfusion ((eQ 13 rfl).symm.trans h)), (fun h => (rW h)), rX, (fun y0 y1 => let ⟨zA, zc, zv, zo⟩ := rY y0 y1; ⟨zA, zc, zv, zo⟩), (fun h => Bool.noConfusion ((eQ 11 rfl).symm.trans h))⟩⟩
     ·intro Qp Qq Qr Qs Qt eR Qu rZ r0 Qv eS
      obtain ⟨r1, r2, Qw, r3, r4, r5, Qx⟩ := r0
      obtain ⟨r6, r7, r8, r9⟩ := sl_cut_l (P := Go.Proofs.Try.prog) (((((aX.mono am).mono az).mono a5).mono cn).mono rZ) p6 Go.Proofs.Try.underlying22 sz27
      refine r_slice (.slice ag aa.2.1.length ah) (.slice r6 x1779.length r7) (some (.int .i64 ab)) none none (eS 8 rfl 107 rfl) rfl (om (eS 9 rfl 108 rfl)) rfl rfl rfl (r8) ?_
      exact d0 ⟨(RpV.mkList r9), ⟨r1, (fun y0 => (r2 y0)), (fun h => Bool.noConfusion ((eR 13 rfl).symm.trans h)), (fun h => (r3 h)), r4, (fun y0 y1 => let ⟨zA, zc, zv, zo⟩ := r5 y0 y1; ⟨zA, zc, zv, zo⟩), (fun h => Bool.noConfusion ((eR 11 rfl).symm.trans h))⟩⟩
     ·intro Qy sa sb sc eT sd se Qz sf QA sg
      have eU := a9.trans se
      obtain ⟨sh, si, QB, QC, sj, sk, QD⟩ := sf
      obtain ⟨QE, QF, sm, sn⟩ := sk (eT 6 rfl) sc
      have so : RpV sb (x1779 : (List Val)) (sa 109) := sg 10 rfl 109 rfl
      obtain ⟨QG, QH, sp, sq⟩ := RpV.list so
      refine r_append (B := s0.N) (id := 1006) (E := 27) (xs := ak ++ [x1775]) (ys := x1779) eU.size (sn) sq ts22 (room_some p7) sm sp rfl rfl ?_
      intro QI sr ss bd eV
      refine j0 ?_
      exact ⟨_, _, rfl, rfl, (ExtB.refl _ _).trans ((ExtB.refl _ _).mod eU.size bd), (Wext.refl _).trans bd.wext, (RpV.mkList eV.sl), ⟨(sh.mod bd rfl), (fun y0 => ((si y0).mod bd rfl)), (fun h => Bool.noConfusion ((sd 13 rfl).symm.trans h)), (fun h => Bool.noConfusion ((eT 6 rfl).symm.trans h)), (sj.mod bd rfl), (fun _ h => Bool.noConfusion h), (fun _ => ⟨sr, ss, rfl, eV⟩)⟩⟩
     ·intro QJ QK QL QM st su QN QO sv sw QP
      obtain ⟨sx, sy, QQ, QR, sA, sB, sC⟩ := sv
      refine r_fieldAddr ac 0 3 3 ((sw 7 rfl).trans eG) rfl fo27_3 rfl ?_
      exact d0 ⟨rfl, ⟨sx, (fun y0 => (sy y0)), (fun h => Bool.noConfusion ((su 13 rfl).symm.trans h)), (fun h => Bool.noConfusion ((st 6 rfl).symm.trans h)), sA, (fun y0 y1 => let ⟨zA, zc, zv, zo⟩ := sB y0 y1; ⟨zA, zc, zv, zo⟩), (fun y0 => let ⟨zA, zc, zv, zo⟩ := sC y0; ⟨zA, zc, zv, zo⟩)⟩⟩
     ·intro QS QT QU sD eW QV sE QW sF QX sG
      have sH := a9.trans sE
      obtain ⟨sI, sJ, QY, QZ, sK, sL, eX⟩ := sF
      have sM := sJ sD
      obtain ⟨bB, bC, sN, sO⟩ := eX (eW 11 rfl)
      refine r_store sM 3 (.slice bB ((ak ++ [x1775]) ++ x1779).length bC) [.slice bB ((ak ++ [x1775]) ++ x1779).length bC] [.int .i64 8, .int .i64 0, .string (⟨#[]⟩), .slice bB ((ak ++ [x1775]) ++ x1779).length bC, .slice ba ((x1113 ++ [x1398]) ++ x1402).length bb, nl Ent, nl ByteArray] (sG 12 rfl 111 rfl) sN rfl rfl rfl sz22 rfl rfl rfl ?_
      intro Q0 aC sP
      refine j0 ?_
      exact ⟨_, _, rfl, rfl, (ExtB.refl _ _).trans ((ExtB.refl _ _).mod sH.size aC), (Wext.refl _).trans aC.wext, trivial, ⟨(sI.mod aC rfl), (fun h => Bool.noConfusion h), (fun _ => ⟨bB, bC, sP, (sO.mod aC rfl)⟩), (fun h => Bool.noConfusion ((eW 6 rfl).symm.trans h)), (sK.mod aC rfl), (fun y0 y1 => let ⟨zA, zc, zv, zo⟩ := sL y0 y1; ⟨zA, zc, zv, (zo.mod aC rfl)⟩), (fun y0 => let ⟨zA, zc, zv, zo⟩ := eX y0; ⟨zA, zc, zv, (zo.mod aC rfl)⟩)⟩⟩
     intro Q1 Q2 sQ sR sS eY Q3
     have sT := a9.trans sQ
     obtain ⟨sU, Q4, sV, Q5, sW, Q6, sX⟩ := sS
     have sY := sU
     obtain ⟨sZ, s1, s2, s3⟩ := sV rfl
     obtain ⟨Q7, Q8, Q9, Ra⟩ := sX rfl
     have s4 := (eY 8 rfl).trans eH
     refine j5 (j1 (j3 ?_))
     refine r_move (.int .i64 aa.1) s4 rfl ?_
     refine r_bin (.int .i64 aa.1) (.int .i64 1) (.int .i64 (w64 (aa.1 + 1))) rfl rfl rfl rfl (b_add) ?_
     refine r_assign (.int .i64 (w64 (aa.1 + 1))) rfl rfl ?_
     refine j0 ?_
     obtain rfl := Option.some.inj hf
     exact ⟨rfl, _, _, sZ, s1, ba, bb, rfl, rfl, (((((((((((((((av).put rfl).put rfl).put rfl).put rfl).put rfl).gen au).loop ay rfl).draw aA rfl).draw aN rfl).draw aP rfl).draw eY rfl).put rfl).put rfl).put rfl), sT, (((((((Wext.refl _).trans ao).trans am).trans az).trans a5).trans cn).trans sR), rfl, sY, s2, s3.sl, sW.sl⟩
    refine wp_draw (B := frExt s0.N) [some 58, some 59, some 60, some 61, some 62, some 63, some 64, some 65, some 66, some 67, some 68, some 69, some 70, some 71, some 72, some 73, some 74] [[], [], [1], [1, 2], [0, 1, 2, 3], [0, 1, 2, 3, 4], [0, 1, 2, 3, 4, 5], [0, 1, 2, 3, 4, 5, 6], [0, 1, 2, 3, 4, 5], [0, 1, 2, 3, 4, 5, 6, 7, 8], [0, 1, 2, 3, 4, 5, 6, 7, 8, 9], [0, 1, 2, 3, 4, 5], [0, 1, 2, 3, 4, 5], [0, 1, 2, 3, 4, 5, 11, 12], [0, 1, 2, 3, 4, 5, 11, 12, 13], [0, 1, 2, 3, 4, 5, 6, 7, 8, 9, 10, 11, 12, 13, 14], [0, 1, 2, 3, 4, 5, 6, 7, 8, 9, 10, 11, 12, 13, 14, 15]] [Fct.eqv (.int .i64 ab), Fct.eqv (.pointer (some ⟨ac, 4, none⟩)), Fct.eqv (.slice ae aa.2.2.length af), Fct.eqv (.int .i64 (aa.2.2.length : Int)), Fct.eqv (.bool (decide (ab < (aa.2.2.length : Int)))), Fct.eqv (.bool (decide (ab < (aa.2.2.length : Int)))), Fct.eqv undef, Fct.eqv undef, Fct.eqv undef, Fct.eqv undef, Fct.eqv undef, Fct.eqv undef, Fct.eqv undef, Fct.eqv undef, Fct.eqv undef, Fct.eqv undef, Fct.eqv (.bool false)] (fun D F τ => (Blk s0.N 1 τ b7 27 [.int .i64 0, .int .i64 0, .string (⟨#[]⟩), nl Val, nl Key, nl Ent, nl ByteArray]) ∧ (Blk s0.N 2 τ ac 27 [.int .i64 8, .int .i64 0, .string (⟨#[]⟩), .slice ag aa.2.1.length ah, .slice ae aa.2.2.length af, nl Ent, nl ByteArray])) (by kernel_rfl) rfl (by decide) (by decide) ⟨(dO.ext (ext_draw _)), (dP.ext (ext_draw _))⟩ (by decide) (by decide) ⟨?_, ?_, ?_, ?_, ?_, ?_, ?_, ?_, ?_, ?_, ?_, ?_, ?_, ?_, ?_, ?_, ?_, trivial⟩ ?_
    ·intro Rb Rc Rd Re Rf Rg Rh Ri s5 s6 Rj
     obtain ⟨s7, s9⟩ := s5
     refine r_move (.int .i64 ab) ((s6 9 rfl).trans a2) rfl ?_
     exact d0 ⟨rfl, ⟨s7, s9⟩⟩
    ·intro Rk Rl Rm Rn Ro Rq Rr Rs ta tb Rt
     obtain ⟨tc, td⟩ := ta
     refine r_fieldAddr ac 0 4 4 ((tb 7 rfl).trans a3) rfl fo27_4 rfl ?_
     exact d0 ⟨rfl, ⟨tc, td⟩⟩
    ·intro Ru Rv Rw Rx Ry Rz RA RB te RC tf
     obtain ⟨tg, eZ⟩ := te
     have th := eZ
     refine r_load ac 4 (.slice ae aa.2.2.length af) (tf 1 rfl 59 rfl) rfl (loads_one to23 ((th.cell 4).trans rfl)) ?_
     exact d0 ⟨rfl, ⟨tg, eZ⟩⟩
    ·intro RD RE RF RG RH RI RJ RK ti RL tj
     obtain ⟨tk, tl⟩ := ti
     refine r_len ae aa.2.2.length af (tj 2 rfl 60 rfl) rfl Go.Proofs.Try.underlying23 ?_
     exact d0 ⟨rfl, ⟨tk, tl⟩⟩
    ·intro RM RN RO RP RQ RR RS RT tm RU e0
     obtain ⟨tn, tp⟩ := tm
     refine r_bin (.int .i64 ab) (.int .i64 (aa.2.2.length : Int)) (.bool (decide (ab < (aa.2.2.length : Int)))) (e0 0 rfl 58 rfl) (e0 3 rfl 61 rfl) rfl rfl (b_lss) ?_
     exact d0 ⟨rfl, ⟨tn, tp⟩⟩
    ·intro RV RW RX RY RZ R0 R1 R2 tq R3 tr
     obtain ⟨ts, tt⟩ := tq
     refine r_move (.bool (decide (ab < (aa.2.2.length : Int)))) (tr 4 rfl 62 rfl) rfl ?_
     exact d0 ⟨rfl, ⟨ts, tt⟩⟩
    ·intro R4 R5 R6 R7 R8 R9 Sa Sb tu Sc tv
     obtain ⟨tw, tx⟩ := tu
     refine Or.inr ⟨decide (ab < (aa.2.2.length : Int)), (fun d hd => by cases hd; exact (tv 5 rfl 63 rfl)), fun h => Bool.noConfusion (Eq.trans (Eq.symm (aj : (decide (ab < (aa.2.2.length : Int))) = false)) h), fun _ => ⟨rfl, ?_⟩⟩
     exact ⟨tw, tx⟩
    ·intro Sd ty Se Sf Sg Sh Si Sj tz Sk e1
     obtain ⟨tA, tB⟩ := tz
     have Sm : ty 64 = undef := e1 6 rfl 64 rfl
     refine Or.inr ⟨decide (ab < (aa.2.2.length : Int)), (fun d hd => by cases hd; exact (e1 5 rfl 63 rfl)), fun h => Bool.noConfusion (Eq.trans (Eq.symm (aj : (decide (ab < (aa.2.2.length : Int))) = false)) h), fun _ => ⟨rfl, ?_⟩⟩
     exact ⟨tA, tB⟩
    ·intro Sn So Sp Sq Sr Ss St Su tC Sv tD
     obtain ⟨tE, tF⟩ := tC
     refine Or.inr ⟨decide (ab < (aa.2.2.length : Int)), (fun d hd => by cases hd; exact (tD 5 rfl 63 rfl)), fun h => Bool.noConfusion (Eq.trans (Eq.symm (aj : (decide (ab < (aa.2.2.length : Int))) = false)) h), fun _ => ⟨rfl, ?_⟩⟩
     exact ⟨tE, tF⟩
    ·intro Sw e2 Sx Sy Sz SA SB SC tG SD cv
     obtain ⟨tH, tI⟩ := tG
     have SE : e2 65 = undef := cv 7 rfl 65 rfl
     have SF : e2 66 = undef := cv 8 rfl 66 rfl
     refine Or.inr ⟨decide (ab < (aa.2.2.length : Int)), (fun d hd => by cases hd; exact (cv 5 rfl 63 rfl)), fun h => Bool.noConfusion (Eq.trans (Eq.symm (aj : (decide (ab < (aa.2.2.length : Int))) = false)) h), fun _ => ⟨rfl, ?_⟩⟩
     exact ⟨tH, tI⟩
    ·intro SG tJ SH SI SJ SK SL SM tK SN e3
     obtain ⟨tL, tM⟩ := tK
     have SO : tJ 67 = undef := e3 9 rfl 67 rfl
     refine Or.inr ⟨decide (ab < (aa.2.2.length : Int)), (fun d hd => by cases hd; exact (e3 5 rfl 63 rfl)), fun h => Bool.noConfusion (Eq.trans (Eq.symm (aj : (decide (ab < (aa.2.2.length : Int))) = false)) h), fun _ => ⟨rfl, ?_⟩⟩
     exact ⟨tL, tM⟩
    ·intro SP SQ SR SS ST SU SV SW tN SX tO
     obtain ⟨tP, tQ⟩ := tN
     refine Or.inr ⟨decide (ab < (aa.2.2.length : Int)), (fun d hd => by cases hd; exact (tO 5 rfl 63 rfl)), fun h => Bool.noConfusion (Eq.trans (Eq.symm (aj : (decide (ab < (aa.2.2.length : Int))) = false)) h), fun _ => ⟨rfl, ?_⟩⟩
     exact ⟨tP, tQ⟩
    ·intro SY SZ S0 S1 S2 S3 S4 S5 tR S6 tS
     obtain ⟨tT, tU⟩ := tR
     refine Or.inr ⟨decide (ab < (aa.2.2.length : Int)), (fun d hd => by cases hd; exact (tS 5 rfl 63 rfl)), fun h => Bool.noConfusion (Eq.trans (Eq.symm (aj : (decide (ab < (aa.2.2.length : Int))) = false)) h), fun _ => ⟨rfl, ?_⟩⟩
     exact ⟨tT, tU⟩
    ·intro S7 e4 S8 S9 Ta Tb Tc Td tV Te cw
     obtain ⟨tW, tX⟩ := tV
     have Tf : e4 69 = undef := cw 11 rfl 69 rfl
     have Tg : e4 70 = undef := cw 12 rfl 70 rfl
     refine Or.inr ⟨decide (ab < (aa.2.2.length : Int)), (fun d hd => by cases hd; exact (cw 5 rfl 63 rfl)), fun h => Bool.noConfusion (Eq.trans (Eq.symm (aj : (decide (ab < (aa.2.2.length : Int))) = false)) h), fun _ => ⟨rfl, ?_⟩⟩
     exact ⟨tW, tX⟩
    ·intro Th tY Ti Tj Tk Tl Tm Tn tZ To e5
     obtain ⟨t0, t1⟩ := tZ
     have Tp : tY 71 = undef := e5 13 rfl 71 rfl
     refine Or.inr ⟨decide (ab < (aa.2.2.length : Int)), (fun d hd => by cases hd; exact (e5 5 rfl 63 rfl)), fun h => Bool.noConfusion (Eq.trans (Eq.symm (aj : (decide (ab < (aa.2.2.length : Int))) = false)) h), fun _ => ⟨rfl, ?_⟩⟩
     exact ⟨t0, t1⟩
    ·intro Tq e6 Tr Ts Tt Tu Tv Tw t2 Tx cx
     obtain ⟨t3, t4⟩ := t2
     have Ty : e6 68 = undef := cx 10 rfl 68 rfl
     have Tz : e6 72 = undef := cx 14 rfl 72 rfl
     refine Or.inr ⟨decide (ab < (aa.2.2.length : Int)), (fun d hd => by cases hd; exact (cx 5 rfl 63 rfl)), fun h => Bool.noConfusion (Eq.trans (Eq.symm (aj : (decide (ab < (aa.2.2.length : Int))) = false)) h), fun _ => ⟨rfl, ?_⟩⟩
     exact ⟨t3, t4⟩
    ·intro TA t5 TB TC TD TE TF TG t6 TH e7
     obtain ⟨t7, t8⟩ := t6
     have TI : t5 73 = undef := e7 15 rfl 73 rfl
     refine r_pick_f (c := decide (ab < (aa.2.2.length : Int))) (.bool false) (e7 5 rfl 63 rfl) aj rfl rfl rfl rfl ?_
     exact d0 ⟨rfl, ⟨t7, t8⟩⟩
    intro TJ TK t9 aD ua aR ub
    have cy := dN.trans t9
    obtain ⟨uc, ud⟩ := ua
    have ue := uc
    have uf := ud
    have ug := (aR 0 rfl).trans b3
    have uh := (aR 1 rfl).trans dQ
    have cz := (aR 7 rfl).trans a3
    have ui := (aR 8 rfl).trans b4
    have cA := (aR 9 rfl).trans a2
    refine j1 ?_
    refine c_false (ub 16 74 rfl) rfl rfl ?_
    refine ja (j1 (j2 ?_))
    obtain ⟨x2474, uj, hf⟩ := bind_some hf
    obtain ⟨TL, uk, hf⟩ := bind_some hf
    obtain ⟨x2478, ul, hf⟩ := bind_some hf
    obtain ⟨al, um, hf⟩ := bind_some hf
    refine wp_draw (B := frExt s0.N) [some 76, some 77, some 78, some 79, some 80, some 81, some 82, some 83, some 84, some 85, some 10, some 11] [[], [0], [], [0, 1, 2], [0, 1, 2, 3], [], [5], [], [5, 6, 7], [0, 1, 2, 3, 4, 5, 6, 7, 8], [0, 1, 2, 3, 4, 5, 6, 7, 8, 9], [0, 1, 2, 3, 4, 5, 6, 7, 8, 9, 10]] [Fct.eqv (.pointer (some ⟨ac, 4, none⟩)), Fct.eqv (.slice ae aa.2.2.length af), Fct.eqv (.int .i64 ab), Fct.data (x2474 : (List Key)), Fct.data (x2474 : (List Key)), Fct.eqv (.pointer (some ⟨ac, 3, none⟩)), Fct.eqv (.slice ag aa.2.1.length ah), Fct.eqv (.int .i64 ab), Fct.data (x2478 : (List Val)), Fct.data (al : (List Val)), Fct.data (x2474 : (List Key)), Fct.data (al : (List Val))] (fun D F τ => (Blk s0.N 1 τ b7 27 [.int .i64 0, .int .i64 0, .string (⟨#[]⟩), nl Val, nl Key, nl Ent, nl ByteArray]) ∧ (Blk s0.N 2 τ ac 27 [.int .i64 8, .int .i64 0, .string (⟨#[]⟩), .slice ag aa.2.1.length ah, .slice ae aa.2.2.length af, nl Ent, nl ByteArray]) ∧ (D 4 = true → ∃ zA zc, F 80 = (.slice zA x2474.length zc) ∧ Own s0.N 9 60 τ x2474 zA zc ∧ (D 10 = true → F 10 = (.slice zA x2474.length zc))) ∧ (D 9 = true → ∃ zA zc, F 85 = (.slice zA al.length zc) ∧ Own s0.N 1010 27 τ al zA zc ∧ (D 11 = true → F 11 = (.slice zA al.length zc)))) (by kernel_rfl) rfl (by decide) (by decide) ⟨(ue.ext (ext_draw _)), (uf.ext (ext_draw _)), (fun h => Bool.noConfusion h), (fun h => Bool.noConfusion h)⟩ (by decide) (by decide) ⟨?_, ?_, ?_, ?_, ?_, ?_, ?_, ?_, ?_, ?_, ?_, ?_, trivial⟩ ?_
    ·intro TM TN TO TP TQ e8 TR TS un uo TT
     obtain ⟨up, uq, TU, TV⟩ := un
     refine r_fieldAddr ac 0 4 4 ((uo 7 rfl).trans cz) rfl fo27_4 rfl ?_
     exact d0 ⟨rfl, ⟨up, uq, (fun h => Bool.noConfusion ((e8 4 rfl).symm.trans h)), (fun h => Bool.noConfusion ((e8 9 rfl).symm.trans h))⟩⟩
    ·intro TW TX TY TZ T0 e9 T1 T2 ur T3 us
     obtain ⟨ut, fa, T4, T5⟩ := ur
     have uu := fa
     refine r_load ac 4 (.slice ae aa.2.2.length af) (us 0 rfl 76 rfl) rfl (loads_one to23 ((uu.cell 4).trans rfl)) ?_
     exact d0 ⟨rfl, ⟨ut, fa, (fun h => Bool.noConfusion ((e9 4 rfl).symm.trans h)), (fun h => Bool.noConfusion ((e9 9 rfl).symm.trans h))⟩⟩
    ·intro T6 T7 T8 T9 Ua fb Ub Uc uv uw Ud
     obtain ⟨ux, uy, Ue, Uf⟩ := uv
     refine r_move (.int .i64 ab) ((uw 9 rfl).trans cA) rfl ?_
     exact d0 ⟨rfl, ⟨ux, uy, (fun h => Bool.noConfusion ((fb 4 rfl).symm.trans h)), (fun h => Bool.noConfusion ((fb 9 rfl).symm.trans h))⟩⟩
    ·intro Ug Uh Ui Uj Uk fc Ul uz uA Um fd
     obtain ⟨uB, uC, Un, Uo⟩ := uA
     obtain ⟨uD, uE, uF, uG⟩ := sl_cut_h (P := Go.Proofs.Try.prog) (((aw.mono am).mono aD).mono uz) uj Go.Proofs.Try.underlying23 sz60
     refine r_slice (.slice ae aa.2.2.length af) (.slice uD x2474.length uE) none (some (.int .i64 ab)) none (fd 1 rfl 77 rfl) rfl rfl (om (fd 2 rfl 78 rfl)) rfl rfl (uF) ?_
     exact d0 ⟨(RpV.mkList uG), ⟨uB, uC, (fun h => Bool.noConfusion ((fc 4 rfl).symm.trans h)), (fun h => Bool.noConfusion ((fc 9 rfl).symm.trans h))⟩⟩
    ·intro Up uH uI Uq Ur fe uJ Us uK Ut uL
     have ff := cy.trans uJ
     obtain ⟨uM, uN, Uu, Uv⟩ := uK
     have uO : RpV uI (x2474 : (List Key)) (uH 79) := uL 3 rfl 79 rfl
     obtain ⟨Uw, Ux, uP, uQ⟩ := RpV.list uO
     refine r_append (B := s0.N) (id := 9) (E := 60) (xs := ([] : List Key)) (ys := x2474) ff.size (Own.nil_ _) uQ ts23 (room_some uk) rfl uP rfl rfl ?_
     intro Uy uR uS bD fg
     refine j0 ?_
     exact ⟨_, _, rfl, rfl, (ExtB.refl _ _).trans ((ExtB.refl _ _).mod ff.size bD), (Wext.refl _).trans bD.wext, (RpV.mkList fg.sl), ⟨(uM.mod bD rfl), (uN.mod bD rfl), (fun _ => ⟨uR, uS, rfl, fg, (fun h => Bool.noConfusion ((fe 10 rfl).symm.trans h))⟩), (fun h => Bool.noConfusion ((fe 9 rfl).symm.trans h))⟩⟩
    ·intro Uz UA UB UC UD uT UE UF uU uV UG
     obtain ⟨uW, uX, uY, UH⟩ := uU
     refine r_fieldAddr ac 0 3 3 ((uV 7 rfl).trans cz) rfl fo27_3 rfl ?_
     exact d0 ⟨rfl, ⟨uW, uX, (fun y0 => let ⟨zA, zc, zv, zo, zm10⟩ := uY y0; ⟨zA, zc, zv, zo, zm10⟩), (fun h => Bool.noConfusion ((uT 9 rfl).symm.trans h))⟩⟩
    ·intro UI UJ UK UL UM uZ UN UO u0 UP u1
     obtain ⟨u2, fh, u3, UQ⟩ := u0
     have u4 := fh
     refine r_load ac 3 (.slice ag aa.2.1.length ah) (u1 5 rfl 81 rfl) rfl (loads_one to22 ((u4.cell 3).trans rfl)) ?_
     exact d0 ⟨rfl, ⟨u2, fh, (fun y0 => let ⟨zA, zc, zv, zo, zm10⟩ := u3 y0; ⟨zA, zc, zv, zo, zm10⟩), (fun h => Bool.noConfusion ((uZ 9 rfl).symm.trans h))⟩⟩
    ·intro UR US UT UU UV u5 UW UX u6 u7 UY
     obtain ⟨u8, u9, vc, UZ⟩ := u6
     refine r_move (.int .i64 ab) ((u7 9 rfl).trans cA) rfl ?_
     exact d0 ⟨rfl, ⟨u8, u9, (fun y0 => let ⟨zA, zc, zv, zo, zm10⟩ := vc y0; ⟨zA, zc, zv, zo, zm10⟩), (fun h => Bool.noConfusion ((u5 9 rfl).symm.trans h))⟩⟩
    ·intro U0 U1 U2 U3 U4 vd U5 ve vf U6 fj
     obtain ⟨vg, vh, vi, U7⟩ := vf
     obtain ⟨vj, vk, vl, vm⟩ := sl_cut_h (P := Go.Proofs.Try.prog) (((aX.mono am).mono aD).mono ve) ul Go.Proofs.Try.underlying22 sz27
     refine r_slice (.slice ag aa.2.1.length ah) (.slice vj x2478.length vk) none (some (.int .i64 ab)) none (fj 6 rfl 82 rfl) rfl rfl (om (fj 7 rfl 83 rfl)) rfl rfl (vl) ?_
     exact d0 ⟨(RpV.mkList vm), ⟨vg, vh, (fun y0 => let ⟨zA, zc, zv, zo, zm10⟩ := vi y0; ⟨zA, zc, zv, zo, zm10⟩), (fun h => Bool.noConfusion ((vd 9 rfl).symm.trans h))⟩⟩
    ·intro U8 vn vo U9 Va vp vq Vb vr Vc vs
     have cB := cy.trans vq
     obtain ⟨vt, vu, vv, Vd⟩ := vr
     have vw : RpV vo (x2478 : (List Val)) (vn 84) := vs 8 rfl 84 rfl
     obtain ⟨vx, vy, vz, vA⟩ := RpV.list vw
     refine r_call [.slice vx x2478.length vy] (evs1 vz) rfl (ok_semtyperef1_copies _ _ _ _ (RpV.mkList vA) um 1010 (by omega)) ?_
     intro Ve Vf be vB
     obtain ⟨vC, vD, rfl, fk⟩ := vB
     refine j0 ?_
     exact ⟨_, _, rfl, rfl, (ExtB.refl _ _).trans (be.mono cB.size), (Wext.refl _).trans be.wext, (RpV.mkList (fk.base (by have := cB.size; omega)).sl), ⟨(vt.ext be), (vu.ext be), (fun y0 => let ⟨zA, zc, zv, zo, zm10⟩ := vv y0; ⟨zA, zc, zv, (zo.ext be), zm10⟩), (fun _ => ⟨vC, vD, rfl, (fk.base (by have := cB.size; omega)), (fun h => Bool.noConfusion ((vp 11 rfl).symm.trans h))⟩)⟩⟩
    ·intro Vg Vh Vi Vj vE Vk Vl Vm vF Vn Vo
     obtain ⟨vG, vH, vI, vJ⟩ := vF
     obtain ⟨fm, fn, fo, fp, Vp⟩ := vI (vE 4 rfl)
     refine r_assign (.slice fm x2474.length fn) fo rfl ?_
     exact d0 ⟨(RpV.mkList fp.sl), ⟨vG, vH, (fun _ => ⟨fm, fn, fo, fp, (fun _ => rfl)⟩), (fun y0 => let ⟨zA, zc, zv, zo, zm11⟩ := vJ y0; ⟨zA, zc, zv, zo, zm11⟩)⟩⟩
    ·intro Vq Vr Vs Vt vK Vu Vv Vw vL Vx Vy
     obtain ⟨vM, vN, vO, vP⟩ := vL
     obtain ⟨fq, fs, ft, fu, Vz⟩ := vP (vK 9 rfl)
     refine r_assign (.slice fq al.length fs) ft rfl ?_
     exact d0 ⟨(RpV.mkList fu.sl), ⟨vM, vN, (fun y0 => let ⟨zA, zc, zv, zo, zm10⟩ := vO y0; ⟨zA, zc, zv, zo, zm10⟩), (fun _ => ⟨fq, fs, ft, fu, (fun _ => rfl)⟩)⟩⟩
    intro VA VB vQ bf vR aS VC
    have bg := cy.trans vQ
    obtain ⟨vS, vT, vU, vV⟩ := vR
    have vW := vS
    have vX := vT
    obtain ⟨cC, cD, VD, vY, vZ⟩ := vU rfl
    obtain ⟨bE, bF, VE, v0, v1⟩ := vV rfl
    have v2 := (aS 0 rfl).trans ug
    have v3 := (aS 1 rfl).trans uh
    have cE := (aS 7 rfl).trans cz
    have fv := (aS 8 rfl).trans ui
    have fw := (aS 9 rfl).trans cA
    refine j1 (j2 ?_)
    obtain ⟨x2759, v4, hf⟩ := bind_some hf
    obtain ⟨VF, v5, hf⟩ := bind_some hf
    obtain ⟨x2763, v6, hf⟩ := bind_some hf
    obtain ⟨VG, v7, hf⟩ := bind_some hf
    refine wp_draw (B := frExt s0.N) [some 86, some 87, some 88, some 89, some 90, some 91, some 92, some 93, some 94, some 95, some 96, some 97, some 98, none] [[], [], [], [1, 2], [1, 2, 3], [1, 2, 3, 4], [0, 1, 2, 3, 4, 5], [], [7], [], [7, 8, 9], [0, 1, 2, 3, 4, 5, 6, 7, 8, 9, 10], [0, 1, 2, 3, 4, 5, 6, 7, 8, 9, 10, 11], [0, 1, 2, 3, 4, 5, 6, 7, 8, 9, 10, 11, 12]] [Fct.eqv (.slice cC x2474.length cD), Fct.eqv (.slice A1 a0.length c2), Fct.eqv (.int .i64 aa.1), Fct.elem (x2759 : Key), Fct.data (x2759 : Key), Fct.data ([x2759] : (List Key)), Fct.data (x2474 ++ [x2759] : (List Key)), Fct.eqv (.pointer (some ⟨ac, 4, none⟩)), Fct.eqv (.slice ae aa.2.2.length af), Fct.eqv (.int .i64 ab), Fct.data (x2763 : (List Key)), Fct.data ((x2474 ++ [x2759]) ++ x2763 : (List Key)), Fct.eqv (.pointer (some ⟨ac, 4, none⟩)), Fct.any] (fun D F τ => (Blk s0.N 1 τ b7 27 [.int .i64 0, .int .i64 0, .string (⟨#[]⟩), nl Val, nl Key, nl Ent, nl ByteArray]) ∧ (D 13 = false → Blk s0.N 2 τ ac 27 [.int .i64 8, .int .i64 0, .string (⟨#[]⟩), .slice ag aa.2.1.length ah, .slice ae aa.2.2.length af, nl Ent, nl ByteArray]) ∧ (D 13 = true → (∃ (zA4 : Option Addr) (zc4 : Nat), Blk s0.N 2 τ ac 27 [.int .i64 8, .int .i64 0, .string (⟨#[]⟩), .slice ag aa.2.1.length ah, .slice zA4 ((x2474 ++ [x2759]) ++ x2763).length zc4, nl Ent, nl ByteArray] ∧ Own s0.N 9 60 τ ((x2474 ++ [x2759]) ++ x2763) zA4 zc4)) ∧ (D 6 = false → Own s0.N 9 60 τ x2474 cC cD) ∧ (Own s0.N 1010 27 τ al bE bF) ∧ (D 6 = true → D 11 = false → ∃ zA zc, F 92 = (.slice zA (x2474 ++ [x2759]).length zc) ∧ Own s0.N 9 60 τ (x2474 ++ [x2759]) zA zc) ∧ (D 11 = true → ∃ zA zc, F 97 = (.slice zA ((x2474 ++ [x2759]) ++ x2763).length zc) ∧ Own s0.N 9 60 τ ((x2474 ++ [x2759]) ++ x2763) zA zc)) (by kernel_rfl) rfl (by decide) (by decide) ⟨(vW.ext (ext_draw _)), (fun _ => (vX.ext (ext_draw _))), (fun h => Bool.noConfusion h), (fun _ => (vY.ext (ext_draw _))), (v0.ext (ext_draw _)), (fun h => Bool.noConfusion h), (fun h => Bool.noConfusion h)⟩ (by decide) (by decide) ⟨?_, ?_, ?_, ?_, ?_, ?_, ?_, ?_, ?_, ?_, ?_, ?_, ?_, ?_, trivial⟩ ?_
    ·intro VH VI VJ VK VL cF VM VN v8 v9 VO
     obtain ⟨wa, wb, VP, wc, wd, VQ, VR⟩ := v8
     refine r_move (.slice cC x2474.length cD) ((v9 10 rfl).trans (vZ rfl)) rfl ?_
     exact d0 ⟨rfl, ⟨wa, (fun y0 => (wb y0)), (fun h => Bool.noConfusion ((cF 13 rfl).symm.trans h)), (fun h => (wc h)), wd, (fun h => Bool.noConfusion ((cF 6 rfl).symm.trans h)), (fun h => Bool.noConfusion ((cF 11 rfl).symm.trans h))⟩⟩
    ·intro VS VT VU VV VW cG VX VY we wf VZ
     obtain ⟨wg, wh, V0, wi, wj, V1, V2⟩ := we
     refine r_move (.slice A1 a0.length c2) ((wf 0 rfl).trans v2) rfl ?_
     exact d0 ⟨rfl, ⟨wg, (fun y0 => (wh y0)), (fun h => Bool.noConfusion ((cG 13 rfl).symm.trans h)), (fun h => (wi h)), wj, (fun h => Bool.noConfusion ((cG 6 rfl).symm.trans h)), (fun h => Bool.noConfusion ((cG 11 rfl).symm.trans h))⟩⟩
    ·intro V3 V4 V5 V6 V7 cH V8 V9 wk wl Wa
     obtain ⟨wm, wn, Wb, wo, wp, Wc, Wd⟩ := wk
     refine r_move (.int .i64 aa.1) ((wl 8 rfl).trans fv) rfl ?_
     exact d0 ⟨rfl, ⟨wm, (fun y0 => (wn y0)), (fun h => Bool.noConfusion ((cH 13 rfl).symm.trans h)), (fun h => (wo h)), wp, (fun h => Bool.noConfusion ((cH 6 rfl).symm.trans h)), (fun h => Bool.noConfusion ((cH 11 rfl).symm.trans h))⟩⟩
    ·intro We Wf Wg Wh Wi cI Wj wq wr Wk fx
     obtain ⟨ws, wt, Wl, wu, wv, Wm, Wn⟩ := wr
     refine r_indexAddr (T := 23) (E := 60) (((((((((h3.mono k9.wext).mono aL).mono aq.wext).mono ar.wext).mono ao).mono am).mono aD).mono bf).mono wq) v4 (fx 1 rfl 87 rfl) (fx 2 rfl 88 rfl) rfl rfl Go.Proofs.Try.underlying23 sz60 ?_
     intro Wo Wp Wq ww wx
     obtain rfl := Key.cells_iff.1 ww
     exact d0 ⟨⟨_, _, _, rfl, (Key.cells_iff.2 rfl), wx⟩, ⟨ws, (fun y0 => (wt y0)), (fun h => Bool.noConfusion ((cI 13 rfl).symm.trans h)), (fun h => (wu h)), wv, (fun h => Bool.noConfusion ((cI 6 rfl).symm.trans h)), (fun h => Bool.noConfusion ((cI 11 rfl).symm.trans h))⟩⟩
    ·intro Wr wy wz Ws Wt cJ Wu Wv wA Ww wB
     obtain ⟨wC, wD, Wx, wE, wF, Wy, Wz⟩ := wA
     obtain ⟨wG, wH, WA, wI, wJ, wK⟩ : (Fct.elem (x2759 : Key)).p (wy 89) wz := wB 3 rfl 89 rfl
     obtain rfl := Key.cells_iff.1 wJ
     refine r_load wG wH (Key.ag x2759) wI rfl (loads_row tr60 wK.2) ?_
     exact d0 ⟨(Key.rpvMk (v := x2759) ), ⟨wC, (fun y0 => (wD y0)), (fun h => Bool.noConfusion ((cJ 13 rfl).symm.trans h)), (fun h => (wE h)), wF, (fun h => Bool.noConfusion ((cJ 6 rfl).symm.trans h)), (fun h => Bool.noConfusion ((cJ 11 rfl).symm.trans h))⟩⟩
    ·intro WB wL wM WC WD cK wN WE wO WF wP
     have fy := bg.trans wN
     obtain ⟨wQ, wR, WG, wS, wT, WH, WI⟩ := wO
     have wU : RpV wM (x2759 : Key) (wL 90) := wP 4 rfl 90 rfl
     have wV := Key.rpv wU
     refine r_buildSlice (B := s0.N) (E := 60) 11 fy.size ts23 (xs := [x2759]) [Key.ag x2759] (eps_cons wV eps_nil) rfl rfl rfl (by decide) rfl (by simp [Value.cells, Rp.sz]) ⟨_, _, rfl, (Key.cells_iff.2 rfl), rfl⟩ ?_
     intro WJ WK WL aT wW
     refine j0 ?_
     exact ⟨_, _, rfl, rfl, (ExtB.refl _ _).trans (aT.mono fy.size), (Wext.refl _).trans aT.wext, (RpV.mkList wW.sl), ⟨(wQ.ext aT), (fun y0 => ((wR y0).ext aT)), (fun h => Bool.noConfusion ((cK 13 rfl).symm.trans h)), (fun h => ((wS h).ext aT)), (wT.ext aT), (fun h => Bool.noConfusion ((cK 6 rfl).symm.trans h)), (fun h => Bool.noConfusion ((cK 11 rfl).symm.trans h))⟩⟩
    ·intro WM wX wY wZ WN fz w0 WO w1 WP fA
     have fB := bg.trans w0
     obtain ⟨w2, w3, WQ, w4, w5, WR, WS⟩ := w1
     have w6 : RpV wY ([x2759] : (List Key)) (wX 91) := fA 5 rfl 91 rfl
     obtain ⟨WT, WU, w7, w8⟩ := RpV.list w6
     refine r_append (B := s0.N) (id := 9) (E := 60) (xs := x2474) (ys := [x2759]) fB.size ((w4 wZ)) w8 ts23 (room_some v5) (fA 0 rfl 86 rfl) w7 rfl rfl ?_
     intro WV w9 xa bh fC
     refine j0 ?_
     exact ⟨_, _, rfl, rfl, (ExtB.refl _ _).trans ((ExtB.refl _ _).mod fB.size bh), (Wext.refl _).trans bh.wext, (RpV.mkList fC.sl), ⟨(w2.mod bh rfl), (fun y0 => ((w3 y0).mod bh rfl)), (fun h => Bool.noConfusion ((fz 13 rfl).symm.trans h)), (fun h => Bool.noConfusion h), (w5.mod bh rfl), (fun _ _ => ⟨w9, xa, rfl, fC⟩), (fun h => Bool.noConfusion ((fz 11 rfl).symm.trans h))⟩⟩
    ·intro WW WX WY WZ W0 fD W1 W2 xb xc W3
     obtain ⟨xd, xe, W4, xf, xg, xh, W5⟩ := xb
     refine r_fieldAddr ac 0 4 4 ((xc 7 rfl).trans cE) rfl fo27_4 rfl ?_
     exact d0 ⟨rfl, ⟨xd, (fun y0 => (xe y0)), (fun h => Bool.noConfusion ((fD 13 rfl).symm.trans h)), (fun h => (xf h)), xg, (fun y0 y1 => let ⟨zA, zc, zv, zo⟩ := xh y0 y1; ⟨zA, zc, zv, zo⟩), (fun h => Bool.noConfusion ((fD 11 rfl).symm.trans h))⟩⟩
    ·intro W6 W7 W8 W9 Xa cL Xb Xc xi Xd xj
     obtain ⟨xk, fE, Xe, xl, xm, xn, Xf⟩ := xi
     have xo := fE (cL 13 rfl)
     refine r_load ac 4 (.slice ae aa.2.2.length af) (xj 7 rfl 93 rfl) rfl (loads_one to23 ((xo.cell 4).trans rfl)) ?_
     exact d0 ⟨rfl, ⟨xk, (fun y0 => (fE y0)), (fun h => Bool.noConfusion ((cL 13 rfl).symm.trans h)), (fun h => (xl h)), xm, (fun y0 y1 => let ⟨zA, zc, zv, zo⟩ := xn y0 y1; ⟨zA, zc, zv, zo⟩), (fun h => Bool.noConfusion ((cL 11 rfl).symm.trans h))⟩⟩
    ·intro Xg Xh Xi Xj Xk fF Xl Xm xp xq Xn
     obtain ⟨xr, xt, Xo, xu, xv, xw, Xp⟩ := xp
     refine r_move (.int .i64 ab) ((xq 9 rfl).trans fw) rfl ?_
     exact d0 ⟨rfl, ⟨xr, (fun y0 => (xt y0)), (fun h => Bool.noConfusion ((fF 13 rfl).symm.trans h)), (fun h => (xu h)), xv, (fun y0 y1 => let ⟨zA, zc, zv, zo⟩ := xw y0 y1; ⟨zA, zc, zv, zo⟩), (fun h => Bool.noConfusion ((fF 11 rfl).symm.trans h))⟩⟩
    ·intro Xq Xr Xs Xt Xu fG Xv xx xy Xw fH
     obtain ⟨xz, xA, Xx, xB, xC, xD, Xy⟩ := xy
     obtain ⟨xE, xF, xG, xH⟩ := sl_cut_l (P := Go.Proofs.Try.prog) ((((aw.mono am).mono aD).mono bf).mono xx) v6 Go.Proofs.Try.underlying23 sz60
     refine r_slice (.slice ae aa.2.2.length af) (.slice xE x2763.length xF) (some (.int .i64 ab)) none none (fH 8 rfl 94 rfl) rfl (om (fH 9 rfl 95 rfl)) rfl rfl rfl (xG) ?_
     exact d0 ⟨(RpV.mkList xH), ⟨xz, (fun y0 => (xA y0)), (fun h => Bool.noConfusion ((fG 13 rfl).symm.trans h)), (fun h => (xB h)), xC, (fun y0 y1 => let ⟨zA, zc, zv, zo⟩ := xD y0 y1; ⟨zA, zc, zv, zo⟩), (fun h => Bool.noConfusion ((fG 11 rfl).symm.trans h))⟩⟩
    ·intro Xz xI xJ xK fI xL xM XA xN XB xO
     have fJ := bg.trans xM
     obtain ⟨xP, xQ, XC, XD, xR, xS, XE⟩ := xN
     obtain ⟨XF, XG, xT, xU⟩ := xS (fI 6 rfl) xK
     have xV : RpV xJ (x2763 : (List Key)) (xI 96) := xO 10 rfl 96 rfl
     obtain ⟨XH, XI, xW, xX⟩ := RpV.list xV
     refine r_append (B := s0.N) (id := 9) (E := 60) (xs := x2474 ++ [x2759]) (ys := x2763) fJ.size (xU) xX ts23 (room_some v7) xT xW rfl rfl ?_
     intro XJ xY xZ bi fK
     refine j0 ?_
     exact ⟨_, _, rfl, rfl, (ExtB.refl _ _).trans ((ExtB.refl _ _).mod fJ.size bi), (Wext.refl _).trans bi.wext, (RpV.mkList fK.sl), ⟨(xP.mod bi rfl), (fun y0 => ((xQ y0).mod bi rfl)), (fun h => Bool.noConfusion ((xL 13 rfl).symm.trans h)), (fun h => Bool.noConfusion ((fI 6 rfl).symm.trans h)), (xR.mod bi rfl), (fun _ h => Bool.noConfusion h), (fun _ => ⟨xY, xZ, rfl, fK⟩)⟩⟩
    ·intro XK XL XM XN x0 x1 XO XP x2 x3 XQ
     obtain ⟨x4, x5, XR, XS, x6, x7, x8⟩ := x2
     refine r_fieldAddr ac 0 4 4 ((x3 7 rfl).trans cE) rfl fo27_4 rfl ?_
     exact d0 ⟨rfl, ⟨x4, (fun y0 => (x5 y0)), (fun h => Bool.noConfusion ((x1 13 rfl).symm.trans h)), (fun h => Bool.noConfusion ((x0 6 rfl).symm.trans h)), x6, (fun y0 y1 => let ⟨zA, zc, zv, zo⟩ := x7 y0 y1; ⟨zA, zc, zv, zo⟩), (fun y0 => let ⟨zA, zc, zv, zo⟩ := x8 y0; ⟨zA, zc, zv, zo⟩)⟩⟩
    ·intro XT XU XV x9 fL XW ya XX yb XY yc
     have yd := bg.trans ya
     obtain ⟨ye, yf, XZ, X0, yg, yh, fM⟩ := yb
     have yi := yf x9
     obtain ⟨bG, bH, yj, yk⟩ := fM (fL 11 rfl)
     refine r_store yi 4 (.slice bG ((x2474 ++ [x2759]) ++ x2763).length bH) [.slice bG ((x2474 ++ [x2759]) ++ x2763).length bH] [.int .i64 8, .int .i64 0, .string (⟨#[]⟩), .slice ag aa.2.1.length ah, .slice bG ((x2474 ++ [x2759]) ++ x2763).length bH, nl Ent, nl ByteArray] (yc 12 rfl 98 rfl) yj rfl rfl rfl sz23 rfl rfl rfl ?_
     intro X1 aE yl
     refine j0 ?_
     exact ⟨_, _, rfl, rfl, (ExtB.refl _ _).trans ((ExtB.refl _ _).mod yd.size aE), (Wext.refl _).trans aE.wext, trivial, ⟨(ye.mod aE rfl), (fun h => Bool.noConfusion h), (fun _ => ⟨bG, bH, yl, (yk.mod aE rfl)⟩), (fun h => Bool.noConfusion ((fL 6 rfl).symm.trans h)), (yg.mod aE rfl), (fun y0 y1 => let ⟨zA, zc, zv, zo⟩ := yh y0 y1; ⟨zA, zc, zv, (zo.mod aE rfl)⟩), (fun y0 => let ⟨zA, zc, zv, zo⟩ := fM y0; ⟨zA, zc, zv, (zo.mod aE rfl)⟩)⟩⟩
    intro X2 X3 ym cM yn aU X4
    have bj := bg.trans ym
    obtain ⟨yo, X5, yp, X6, yq, X7, yr⟩ := yn
    have yt := yo
    obtain ⟨bk, bl, yu, yv⟩ := yp rfl
    obtain ⟨X8, X9, Ya, Yb⟩ := yr rfl
    have yw := (aU 1 rfl).trans v3
    have fN := (aU 7 rfl).trans cE
    have fO := (aU 8 rfl).trans fv
    have yx := (aU 9 rfl).trans fw
    have yy := (aU 11 rfl).trans (v1 rfl)
    refine j1 ?_
    obtain ⟨x3136, yz, hf⟩ := bind_some hf
    obtain ⟨Yc, yA, hf⟩ := bind_some hf
    obtain ⟨x3140, yB, hf⟩ := bind_some hf
    obtain ⟨Yd, yC, hf⟩ := bind_some hf
    refine wp_draw (B := frExt s0.N) [some 99, some 100, some 101, some 102, some 103, some 104, some 105, some 106, some 107, some 108, some 109, some 110, some 111, none] [[], [], [], [1, 2], [1, 2, 3], [1, 2, 3, 4], [0, 1, 2, 3, 4, 5], [], [7], [], [7, 8, 9], [0, 1, 2, 3, 4, 5, 6, 7, 8, 9, 10], [0, 1, 2, 3, 4, 5, 6, 7, 8, 9, 10, 11], [0, 1, 2, 3, 4, 5, 6, 7, 8, 9, 10, 11, 12]] [Fct.eqv (.slice bE al.length bF), Fct.eqv (.slice A4 a1.length c5), Fct.eqv (.int .i64 aa.1), Fct.elem (x3136 : Val), Fct.data (x3136 : Val), Fct.data ([x3136] : (List Val)), Fct.data (al ++ [x3136] : (List Val)), Fct.eqv (.pointer (some ⟨ac, 3, none⟩)), Fct.eqv (.slice ag aa.2.1.length ah), Fct.eqv (.int .i64 ab), Fct.data (x3140 : (List Val)), Fct.data ((al ++ [x3136]) ++ x3140 : (List Val)), Fct.eqv (.pointer (some ⟨ac, 3, none⟩)), Fct.any] (fun D F τ => (Blk s0.N 1 τ b7 27 [.int .i64 0, .int .i64 0, .string (⟨#[]⟩), nl Val, nl Key, nl Ent, nl ByteArray]) ∧ (D 13 = false → Blk s0.N 2 τ ac 27 [.int .i64 8, .int .i64 0, .string (⟨#[]⟩), .slice ag aa.2.1.length ah, .slice bk ((x2474 ++ [x2759]) ++ x2763).length bl, nl Ent, nl ByteArray]) ∧ (D 13 = true → (∃ (zA3 : Option Addr) (zc3 : Nat), Blk s0.N 2 τ ac 27 [.int .i64 8, .int .i64 0, .string (⟨#[]⟩), .slice zA3 ((al ++ [x3136]) ++ x3140).length zc3, .slice bk ((x2474 ++ [x2759]) ++ x2763).length bl, nl Ent, nl ByteArray] ∧ Own s0.N 1010 27 τ ((al ++ [x3136]) ++ x3140) zA3 zc3)) ∧ (D 6 = false → Own s0.N 1010 27 τ al bE bF) ∧ (Own s0.N 9 60 τ ((x2474 ++ [x2759]) ++ x2763) bk bl) ∧ (D 6 = true → D 11 = false → ∃ zA zc, F 105 = (.slice zA (al ++ [x3136]).length zc) ∧ Own s0.N 1010 27 τ (al ++ [x3136]) zA zc) ∧ (D 11 = true → ∃ zA zc, F 110 = (.slice zA ((al ++ [x3136]) ++ x3140).length zc) ∧ Own s0.N 1010 27 τ ((al ++ [x3136]) ++ x3140) zA zc)) (by kernel_rfl) rfl (by decide) (by decide) ⟨(yt.ext (ext_draw _)), (fun _ => (yu.ext (ext_draw _))), (fun h => Bool.noConfusion h), (fun _ => (yq.ext (ext_draw _))), (yv.ext (ext_draw _)), (fun h => Bool.noConfusion h), (fun h => Bool.noConfusion h)⟩ (by decide) (by decide) ⟨?_, ?_, ?_, ?_, ?_, ?_, ?_, ?_, ?_, ?_, ?_, ?_, ?_, ?_, trivial⟩ ?_
    ·intro Ye Yf Yg Yh Yi cN Yj Yk yD yE Yl
     obtain ⟨yF, yG, Ym, yH, yI, Yn, Yo⟩ := yD
     refine r_move (.slice bE al.length bF) ((yE 11 rfl).trans yy) rfl ?_
     exact d0 ⟨rfl, ⟨yF, (fun y0 => (yG y0)), (fun h => Bool.noConfusion ((cN 13 rfl).symm.trans h)), (fun h => (yH h)), yI, (fun h => Bool.noConfusion ((cN 6 rfl).symm.trans h)), (fun h => Bool.noConfusion ((cN 11 rfl).symm.trans h))⟩⟩
    ·intro Yp Yq Yr Ys Yt cO Yu Yv yJ yK Yw
     obtain ⟨yL, yM, Yx, yN, yO, Yy, Yz⟩ := yJ
     refine r_move (.slice A4 a1.length c5) ((yK 1 rfl).trans yw) rfl ?_
     exact d0 ⟨rfl, ⟨yL, (fun y0 => (yM y0)), (fun h => Bool.noConfusion ((cO 13 rfl).symm.trans h)), (fun h => (yN h)), yO, (fun h => Bool.noConfusion ((cO 6 rfl).symm.trans h)), (fun h => Bool.noConfusion ((cO 11 rfl).symm.trans h))⟩⟩
    ·intro YA YB YC YD YE cP YF YG yP yQ YH
     obtain ⟨yR, yS, YI, yT, yU, YJ, YK⟩ := yP
     refine r_move (.int .i64 aa.1) ((yQ 8 rfl).trans fO) rfl ?_
     exact d0 ⟨rfl, ⟨yR, (fun y0 => (yS y0)), (fun h => Bool.noConfusion ((cP 13 rfl).symm.trans h)), (fun h => (yT h)), yU, (fun h => Bool.noConfusion ((cP 6 rfl).symm.trans h)), (fun h => Bool.noConfusion ((cP 11 rfl).symm.trans h))⟩⟩
    ·intro YL YM YN YO YP cQ YQ yV yW YR fP
     obtain ⟨yX, yY, YS, yZ, y2, YT, YU⟩ := yW
     refine r_indexAddr (T := 22) (E := 27) ((((((((((h6.mono k9.wext).mono aL).mono aq.wext).mono ar.wext).mono ao).mono am).mono aD).mono bf).mono cM).mono yV) yz (fP 1 rfl 100 rfl) (fP 2 rfl 101 rfl) rfl rfl Go.Proofs.Try.underlying22 sz27 ?_
     intro YV YW YX y3 y4
     obtain ⟨YY, YZ, Y0, Y1, Y2, Y3, Y4, Y5, rfl, y5, y6, y7, y8⟩ := Val.cells_iff.1 y3
     exact d0 ⟨⟨_, _, _, rfl, (Val.cells_iff.2 ⟨_, _, _, _, _, _, _, _, rfl, y5, y6, y7, y8⟩), y4⟩, ⟨yX, (fun y0 => (yY y0)), (fun h => Bool.noConfusion ((cQ 13 rfl).symm.trans h)), (fun h => (yZ h)), y2, (fun h => Bool.noConfusion ((cQ 6 rfl).symm.trans h)), (fun h => Bool.noConfusion ((cQ 11 rfl).symm.trans h))⟩⟩
    ·intro Y6 y9 za Y7 Y8 cR Y9 Za zb Zb zd
     obtain ⟨ze, zf, Zc, zg, zh, Zd, Ze⟩ := zb
     obtain ⟨zi, zj, Zf, zk, zl, zm⟩ : (Fct.elem (x3136 : Val)).p (y9 102) za := zd 3 rfl 102 rfl
     obtain ⟨zn, zp, zq, zr, zs, zt, zu, zw, rfl, zx, zy, zz, zB⟩ := Val.cells_iff.1 zl
     refine r_load zi zj (Val.ag x3136 zn zp zq zr zs zt zu zw) zk rfl (loads_row tr27 zm.2) ?_
     exact d0 ⟨(Val.rpvMk (v := x3136) zx zy zz zB), ⟨ze, (fun y0 => (zf y0)), (fun h => Bool.noConfusion ((cR 13 rfl).symm.trans h)), (fun h => (zg h)), zh, (fun h => Bool.noConfusion ((cR 6 rfl).symm.trans h)), (fun h => Bool.noConfusion ((cR 11 rfl).symm.trans h))⟩⟩
    ·intro Zg zC zD Zh Zi cS zE Zj zF Zk zG
     have fQ := bj.trans zE
     obtain ⟨zH, zI, Zl, zJ, zK, Zm, Zn⟩ := zF
     have zL : RpV zD (x3136 : Val) (zC 103) := zG 4 rfl 103 rfl
     obtain ⟨zM, zN, zO, zP, zQ, zR, zS, zT, zU, zV, zW, zX, zY⟩ := Val.rpv zL
     refine r_buildSlice (B := s0.N) (E := 27) 12 fQ.size ts22 (xs := [x3136]) [Val.ag x3136 zM zN zO zP zQ zR zS zT] (eps_cons zU eps_nil) rfl rfl rfl (by decide) rfl (by simp [Value.cells, Rp.sz]) ⟨_, _, rfl, (Val.cells_iff.2 ⟨_, _, _, _, _, _, _, _, rfl, zV, zW, zX, zY⟩), rfl⟩ ?_
     intro Zo Zp Zq aV zZ
     refine j0 ?_
     exact ⟨_, _, rfl, rfl, (ExtB.refl _ _).trans (aV.mono fQ.size), (Wext.refl _).trans aV.wext, (RpV.mkList zZ.sl), ⟨(zH.ext aV), (fun y0 => ((zI y0).ext aV)), (fun h => Bool.noConfusion ((cS 13 rfl).symm.trans h)), (fun h => ((zJ h).ext aV)), (zK.ext aV), (fun h => Bool.noConfusion ((cS 6 rfl).symm.trans h)), (fun h => Bool.noConfusion ((cS 11 rfl).symm.trans h))⟩⟩
    ·intro Zr z0 z1 z2 Zs fR z3 Zt z4 Zu fS
     have fT := bj.trans z3
     obtain ⟨z5, z6, Zv, z7, z8, Zw, Zx⟩ := z4
     have z9 : RpV z1 ([x3136] : (List Val)) (z0 104) := fS 5 rfl 104 rfl
     obtain ⟨Zy, Zz, Aa, Ab⟩ := RpV.list z9
     refine r_append (B := s0.N) (id := 1010) (E := 27) (xs := al) (ys := [x3136]) fT.size ((z7 z2)) Ab ts22 (room_some yA) (fS 0 rfl 99 rfl) Aa rfl rfl ?_
     intro ZA Ac Ad bm fU
     refine j0 ?_
     exact ⟨_, _, rfl, rfl, (ExtB.refl _ _).trans ((ExtB.refl _ _).mod fT.size bm), (Wext.refl _).trans bm.wext, (RpV.mkList fU.sl), ⟨(z5.mod bm rfl), (fun y0 => ((z6 y0).mod bm rfl)), (fun h => Bool.noConfusion ((fR 13 rfl).symm.trans h)), (fun h => Bool.noConfusion h), (z8.mod bm rfl), (fun _ _ => ⟨Ac, Ad, rfl, fU⟩), (fun h => Bool.noConfusion ((fR 11 rfl).symm.trans h))⟩⟩
    ·intro ZB ZC ZD ZE ZF fV ZG ZH Ae Af ZI
     obtain ⟨Ag, Ah, ZJ, Ai, Aj, Ak, ZK⟩ := Ae
     refine r_fieldAddr ac 0 3 3 ((Af 7 rfl).trans fN) rfl fo27_3 rfl ?_
     exact d0 ⟨rfl, ⟨Ag, (fun y0 => (Ah y0)), (fun h => Bool.noConfusion ((fV 13 rfl).symm.trans h)), (fun h => (Ai h)), Aj, (fun y0 y1 => let ⟨zA, zc, zv, zo⟩ := Ak y0 y1; ⟨zA, zc, zv, zo⟩), (fun h => Bool.noConfusion ((fV 11 rfl).symm.trans h))⟩⟩
    ·intro ZL ZM ZN ZO ZP cT ZQ ZR Al ZS Am
     obtain ⟨An, fW, ZT, Ao, Ap, Aq, ZU⟩ := Al
     have Ar := fW (cT 13 rfl)
     refine r_load ac 3 (.slice ag aa.2.1.length ah) (Am 7 rfl 106 rfl) rfl (loads_one to22 ((Ar.cell 3).trans rfl)) ?_
     exact d0 ⟨rfl, ⟨An, (fun y0 => (fW y0)), (fun h => Bool.noConfusion ((cT 13 rfl).symm.trans h)), (fun h => (Ao h)), Ap, (fun y0 y1 => let ⟨zA, zc, zv, zo⟩ := Aq y0 y1; ⟨zA, zc, zv, zo⟩), (fun h => Bool.noConfusion ((cT 11 rfl).symm.trans h))⟩⟩
    ·intro ZV ZW ZX ZY ZZ fX Z0 Z1 As At Z2
     obtain ⟨Au, Av, Z3, Aw, Ax, Ay, Z4⟩ := As
     refine r_move (.int .i64 ab) ((At 9 rfl).trans yx) rfl ?_
     exact d0 ⟨rfl, ⟨Au, (fun y0 => (Av y0)), (fun h => Bool.noConfusion ((fX 13 rfl).symm.trans h)), (fun h => (Aw h)), Ax, (fun y0 y1 => let ⟨zA, zc, zv, zo⟩ := Ay y0 y1; ⟨zA, zc, zv, zo⟩), (fun h => Bool.noConfusion ((fX 11 rfl).symm.trans h))⟩⟩
    ·intro Z5 Z6 Z7 Z8 Z9 fY aaa Az AA aab fZ
     obtain ⟨AB, AC, aac, AD, AE, AF, aad⟩ := AA
     obtain ⟨AG, AH, AI, AJ⟩ := sl_cut_l (P := Go.Proofs.Try.prog) (((((aX.mono am).mono aD).mono bf).mono cM).mono Az) yB Go.Proofs.Try.underlying22 sz27
     refine r_slice (.slice ag aa.2.1.length ah) (.slice AG x3140.length AH) (some (.int .i64 ab)) none none (fZ 8 rfl 107 rfl) rfl (om (fZ 9 rfl 108 rfl)) rfl rfl rfl (AI) ?_
     exact d0 ⟨(RpV.mkList AJ), ⟨AB, (fun y0 => (AC y0)), (fun h => Bool.noConfusion ((fY 13 rfl).symm.trans h)), (fun h => (AD h)), AE, (fun y0 y1 => let ⟨zA, zc, zv, zo⟩ := AF y0 y1; ⟨zA, zc, zv, zo⟩), (fun h => Bool.noConfusion ((fY 11 rfl).symm.trans h))⟩⟩
    ·intro aae AK AL AM f0 AN AO aaf AP aag AQ
     have f1 := bj.trans AO
     obtain ⟨AR, AS, aah, aai, AT, AU, aaj⟩ := AP
     obtain ⟨aak, aal, AV, AW⟩ := AU (f0 6 rfl) AM
     have AX : RpV AL (x3140 : (List Val)) (AK 109) := AQ 10 rfl 109 rfl
     obtain ⟨aam, aan, AY, AZ⟩ := RpV.list AX
     refine r_append (B := s0.N) (id := 1010) (E := 27) (xs := al ++ [x3136]) (ys := x3140) f1.size (AW) AZ ts22 (room_some yC) AV AY rfl rfl ?_
     intro aao A0 A3 bn f2
     refine j0 ?_
     exact ⟨_, _, rfl, rfl, (ExtB.refl _ _).trans ((ExtB.refl _ _).mod f1.size bn), (Wext.refl _).trans bn.wext, (RpV.mkList f2.sl), ⟨(AR.mod bn rfl), (fun y0 => ((AS y0).mod bn rfl)), (fun h => Bool.noConfusion ((AN 13 rfl).symm.trans h)), (fun h => Bool.noConfusion ((f0 6 rfl).symm.trans h)), (AT.mod bn rfl), (fun _ h => Bool.noConfusion h), (fun _ => ⟨A0, A3, rfl, f2⟩)⟩⟩
    ·intro aap aaq aar aas A5 A6 aat aau A7 A8 aav
     obtain ⟨A9, Ba, aaw, aax, Bb, Bc, Bd⟩ := A7
     refine r_fieldAddr ac 0 3 3 ((A8 7 rfl).trans fN) rfl fo27_3 rfl ?_
     exact d0 ⟨rfl, ⟨A9, (fun y0 => (Ba y0)), (fun h => Bool.noConfusion ((A6 13 rfl).symm.trans h)), (fun h => Bool.noConfusion ((A5 6 rfl).symm.trans h)), Bb, (fun y0 y1 => let ⟨zA, zc, zv, zo⟩ := Bc y0 y1; ⟨zA, zc, zv, zo⟩), (fun y0 => let ⟨zA, zc, zv, zo⟩ := Bd y0; ⟨zA, zc, zv, zo⟩)⟩⟩
    ·intro aay aaz aaA Be f3 aaB Bf aaC Bg aaD Bh
     have Bi := bj.trans Bf
     obtain ⟨Bj, Bk, aaE, aaF, Bl, Bm, f4⟩ := Bg
     have Bn := Bk Be
     obtain ⟨bI, bJ, Bo, Bp⟩ := f4 (f3 11 rfl)
     refine r_store Bn 3 (.slice bI ((al ++ [x3136]) ++ x3140).length bJ) [.slice bI ((al ++ [x3136]) ++ x3140).length bJ] [.int .i64 8, .int .i64 0, .string (⟨#[]⟩), .slice bI ((al ++ [x3136]) ++ x3140).length bJ, .slice bk ((x2474 ++ [x2759]) ++ x2763).length bl, nl Ent, nl ByteArray] (Bh 12 rfl 111 rfl) Bo rfl rfl rfl sz22 rfl rfl rfl ?_
     intro aaG aF Bq
     refine j0 ?_
     exact ⟨_, _, rfl, rfl, (ExtB.refl _ _).trans ((ExtB.refl _ _).mod Bi.size aF), (Wext.refl _).trans aF.wext, trivial, ⟨(Bj.mod aF rfl), (fun h => Bool.noConfusion h), (fun _ => ⟨bI, bJ, Bq, (Bp.mod aF rfl)⟩), (fun h => Bool.noConfusion ((f3 6 rfl).symm.trans h)), (Bl.mod aF rfl), (fun y0 y1 => let ⟨zA, zc, zv, zo⟩ := Bm y0 y1; ⟨zA, zc, zv, (zo.mod aF rfl)⟩), (fun y0 => let ⟨zA, zc, zv, zo⟩ := f4 y0; ⟨zA, zc, zv, (zo.mod aF rfl)⟩)⟩⟩
    intro aaH aaI Br Bs Bt f5 aaJ
    have Bu := bj.trans Br
    obtain ⟨Bv, aaK, Bw, aaL, Bx, aaM, By⟩ := Bt
    have Bz := Bv
    obtain ⟨BA, BB, BC, BD⟩ := Bw rfl
    obtain ⟨aaN, aaO, aaP, aaQ⟩ := By rfl
    have BE := (f5 8 rfl).trans fO
    refine j5 (j1 (j3 ?_))
    refine r_move (.int .i64 aa.1) BE rfl ?_
    refine r_bin (.int .i64 aa.1) (.int .i64 1) (.int .i64 (w64 (aa.1 + 1))) rfl rfl rfl rfl (b_add) ?_
    refine r_assign (.int .i64 (w64 (aa.1 + 1))) rfl rfl ?_
    refine j0 ?_
    obtain rfl := Option.some.inj hf
    exact ⟨rfl, _, _, BA, BB, bk, bl, rfl, rfl, (((((((((((((((av).put rfl).put rfl).put rfl).put rfl).put rfl).gen au).loop ay rfl).draw aR rfl).draw aS rfl).draw aU rfl).draw f5 rfl).put rfl).put rfl).put rfl), Bu, (((((((Wext.refl _).trans ao).trans am).trans aD).trans bf).trans cM).trans Bs), rfl, Bz, BC, BD.sl, Bx.sl⟩
   refine c_false rfl bR rfl ?_
   refine jc (j8 ?_)
   obtain rfl := Option.some.inj hf
   exact ⟨rfl, _, _, ag, ah, ae, af, rfl, rfl, (((((av).put rfl).put rfl).put rfl).put rfl), dc, ((Wext.refl _).trans ao), bQ, dd, de, aX, aw⟩
  ·exact ⟨_, _, none, 0, none, 0, rfl, rfl, (Agr.refl _ _), gw, (Wext.refl _), gz, ((gp.ext aq).mod ar rfl), gv, (Sl.nil_ _ _ _ (Nat.zero_le _)), (Sl.nil_ _ _ _ (Nat.zero_le _))⟩
  intro e a w hp
  rcases gA with an | r
  ·replace hf := onEnd_inl hf
   obtain ⟨rfl, aaR, aaS, aG, aH, aI, aJ, rfl, rfl, f6, BF, aaT, aaU, BG, BH, BI, BJ⟩ := hp
   have f7 := (f6 4 rfl).trans c9
   have BK := (f6 7 rfl).trans da
   refine j6 (j1 (j2 (j3 ?_)))
   refine r_load ac 0 (.agg #[.int .i64 8, .int .i64 0, .string (⟨#[]⟩), .slice aG an.2.1.length aH, .slice aI an.2.2.length aJ, nl Ent, nl ByteArray]) BK rfl (loads_row tr27 (Blk.range BH 0 [.int .i64 8, .int .i64 0, .string (⟨#[]⟩), .slice aG an.2.1.length aH, .slice aI an.2.2.length aJ, nl Ent, nl ByteArray] rfl)) ?_
   refine r_store BG 0 (.agg #[.int .i64 8, .int .i64 0, .string (⟨#[]⟩), .slice aG an.2.1.length aH, .slice aI an.2.2.length aJ, nl Ent, nl ByteArray]) [.int .i64 8, .int .i64 0, .string (⟨#[]⟩), .slice aG an.2.1.length aH, .slice aI an.2.2.length aJ, nl Ent, nl ByteArray] [.int .i64 8, .int .i64 0, .string (⟨#[]⟩), .slice aG an.2.1.length aH, .slice aI an.2.2.length aJ, nl Ent, nl ByteArray] f7 rfl rfl rfl rfl sz27 rfl rfl rfl ?_
   intro aaV cU BL
   have BM := BF.y cU
   refine r_assign (.int .i64 0) rfl rfl ?_
   refine j0 (j1 (jb ?_))
   obtain rfl := Option.some.inj hf
   refine ret_two (.agg #[.int .i64 8, .int .i64 0, .string (⟨#[]⟩), .slice aG an.2.1.length aH, .slice aI an.2.2.length aJ, nl Ent, nl ByteArray]) (.int .i64 0) rfl ⟨rfl, _, f7, loads_row tr27 (Blk.range BL 0 [.int .i64 8, .int .i64 0, .string (⟨#[]⟩), .slice aG an.2.1.length aH, .slice aI an.2.2.length aJ, nl Ent, nl ByteArray] rfl)⟩ ⟨rfl, rfl⟩ BM ?_
   exact ⟨_, _, rfl, (Val.rpvMk (v := (Val.mk 8 0 (⟨#[]⟩) an.2.1 an.2.2 ([] : List Ent) ([] : List ByteArray))) (BI.mono cU.wext) (BJ.mono cU.wext) (Sl.nil_ _ _ _ (Nat.zero_le _)) (Sl.nil_ _ _ _ (Nat.zero_le _))), (RpV.mkInt _ _)⟩
  replace hf := onEnd_inr hf
  obtain ⟨rfl, aaW, aaX, BN, BO, rfl, rfl, BP, BQ, BR, BS, BT⟩ := hp
  refine j7 (j9 ?_)
  obtain rfl := Option.some.inj hf
  refine ret_two BN BO rfl BQ BS BP ?_
  exact ⟨_, _, rfl, BR, BT⟩
 replace hf := onEnd_inr hf
 obtain ⟨rfl, aaY, aaZ, BU, BV, rfl, rfl, BW, BX, BY, BZ, B0⟩ := hp
 refine j7 (j9 ?_)
 obtain rfl := Option.some.inj hf
 refine ret_two BU BV rfl BX BZ BW ?_
 exact ⟨_, _, rfl, BY, B0⟩

def S_semtyperef1_count (f : (Int → Int → Option Int)) : Prop := ∀ (s0 : S) (v0 : Value) (v1 : Value) (a0 : Int) (a1 : Int) (r : Int), RpV s0 a0 v0 → RpV s0 a1 v1 → f a0 a1 = some r → Ctr Go.Proofs.Try.prog 46 [v0, v1] s0 (fun v τ => RpV τ r v)

set_option maxHeartbeats 1600000 in
set_option maxRecDepth 100000 in
theorem ok_semtyperef1_count : S_semtyperef1_count semtyperef1_count := by
 intro s0 v0 v1 a0 a1 r h0 h1 hf
 obtain rfl := RpV.int h0
 obtain rfl := RpV.int h1
 unfold semtyperef1_count at hf
 have E0 : ExtB s0.N s0 s0 := ExtB.refl _ _
 refine ctr_of 8 Go.Proofs.Try.func46 rfl rfl rfl rfl ?_
 refine j2 (j3 ?_)
 refine r_assign (.int .i64 0) rfl rfl ?_
 refine j0 (j1 (j2 (j3 ?_)))
 refine r_move (.int .i64 a0) rfl rfl ?_
 refine r_move (.int .i64 a1) rfl rfl ?_
 obtain ⟨r1, e2, hf⟩ := bind_some hf
 refine r_call [.int .i64 a0, .int .i64 a1] (evs2 rfl rfl) rfl (ok_semtyperef1_Order _ _ _ _ _ _ (RpV.mkInt _ _) (RpV.mkInt _ _) e2) ?_
 intro v4 s3 k5 hr6
 have E7 := E0.x k5
 obtain rfl := RpV.int hr6
 refine r_assign (.int .i64 r1) rfl rfl ?_
 refine j0 (j1 (jb ?_))
 obtain rfl := Option.some.inj hf
 refine ret_one (.int .i64 r1) rfl ⟨rfl, rfl⟩ E7 ?_
 exact (RpV.mkInt _ _)

def S_semtyperef1_Compare (f : (Val → Val → Option Int)) : Prop := ∀ (s0 : S) (v0 : Value) (v1 : Value) (a0 : Val) (a1 : Val) (r : Int), RpV s0 a0 v0 → RpV s0 a1 v1 → f a0 a1 = some r → Ctr Go.Proofs.Try.prog 13 [v0, v1] s0 (fun v τ => RpV τ r v)

def S_semtyperef1_values (f : ((List Val) → (List Val) → Option Int)) : Prop := ∀ (s0 : S) (v0 : Value) (v1 : Value) (a0 : (List Val)) (a1 : (List Val)) (r : Int), RpV s0 a0 v0 → RpV s0 a1 v1 → f a0 a1 = some r → Ctr Go.Proofs.Try.prog 50 [v0, v1] s0 (fun v τ => RpV τ r v)

def S_semtyperef1_CompareEntries (f : (Ent → Ent → Option Int)) : Prop := ∀ (s0 : S) (v0 : Value) (v1 : Value) (a0 : Ent) (a1 : Ent) (r : Int), RpV s0 a0 v0 → RpV s0 a1 v1 → f a0 a1 = some r → Ctr Go.Proofs.Try.prog 51 [v0, v1] s0 (fun v τ => RpV τ r v)

set_option maxHeartbeats 1600000 in
set_option maxRecDepth 100000 in
theorem okB_semtyperef1_Compare {rec_semtyperef1_Compare : (Val → Val → Option Int)} {rec_semtyperef1_values : ((List Val) → (List Val) → Option Int)} {rec_semtyperef1_CompareEntries : (Ent → Ent → Option Int)} (_hrec_semtyperef1_Compare : S_semtyperef1_Compare rec_semtyperef1_Compare) (hrec_semtyperef1_values : S_semtyperef1_values rec_semtyperef1_values) (hrec_semtyperef1_CompareEntries : S_semtyperef1_CompareEntries rec_semtyperef1_CompareEntries) : S_semtyperef1_Compare (semtyperef1_Compare_B rec_semtyperef1_Compare rec_semtyperef1_values rec_semtyperef1_CompareEntries) := by
 intro s0 v0 v1 a0 a1 r h0 h1 hf
 obtain ⟨A1, c2, A4, c5, A7, c8, ac, ad, rfl, h3, h6, h9, cf⟩ := Val.rpv h0
 obtain ⟨al, am, af, ag, ah, ai, aj, ak, rfl, cg, ch, ci, cj⟩ := Val.rpv h1
 unfold semtyperef1_Compare_B at hf
 have E0 : ExtB s0.N s0 s0 := ExtB.refl _ _
 refine ctr_of 155 Go.Proofs.Try.func13 rfl rfl rfl rfl ?_
 refine j2 (j3 ?_)
 refine r_box (B := s0.N) 1 E0.size (Val.ag a0 A1 c2 A4 c5 A7 c8 ac ad) (Val.cs a0 A1 c2 A4 c5 A7 c8 ac ad) rfl rfl rfl ?_
 intro iH aa aw ax
 have bo := E0.x aw
 refine r_box (B := s0.N) 2 bo.size (Val.ag a1 al am af ag ah ai aj ak) (Val.cs a1 al am af ag ah ai aj ak) rfl rfl rfl ?_
 intro bp ab ae ay
 have aB := bo.x ae
 refine r_assign (.int .i64 0) rfl rfl ?_
 refine j0 (j1 (j2 (j2 (j3 ?_))))
 refine r_fieldAddr aa 0 0 0 rfl rfl fo27_0 rfl ?_
 refine r_load aa 0 (.int .i64 a0.Kind) rfl rfl (loads_one to3 (((ax.ext ae).cell 0).trans rfl)) ?_
 refine r_fieldAddr ab 0 0 0 rfl rfl fo27_0 rfl ?_
 refine r_load ab 0 (.int .i64 a1.Kind) rfl rfl (loads_one to3 ((ay.cell 0).trans rfl)) ?_
 refine r_bin (.int .i64 a0.Kind) (.int .i64 a1.Kind) (.bool (a0.Kind != a1.Kind)) rfl rfl rfl rfl (b_neq) ?_
 refine j0 (j1 ?_)
 refine if_else hf (fun aT hf => ?_) (fun aT hf => ?_)
 ·refine c_true rfl aT rfl ?_
  refine j2 (j3 ?_)
  refine r_fieldAddr aa 0 0 0 rfl rfl fo27_0 rfl ?_
  refine r_load aa 0 (.int .i64 a0.Kind) rfl rfl (loads_one to3 (((ax.ext ae).cell 0).trans rfl)) ?_
  refine r_fieldAddr ab 0 0 0 rfl rfl fo27_0 rfl ?_
  refine r_load ab 0 (.int .i64 a1.Kind) rfl rfl (loads_one to3 ((ay.cell 0).trans rfl)) ?_
  obtain ⟨bq, ck, hf⟩ := bind_some hf
  refine r_call [.int .i64 a0.Kind, .int .i64 a1.Kind] (evs2 rfl rfl) rfl (ok_semtyperef1_count _ _ _ _ _ _ (RpV.mkInt _ _) (RpV.mkInt _ _) ck) ?_
  intro iI iJ cl cm
  have cn := aB.x cl
  obtain rfl := RpV.int cm
  refine r_assign (.int .i64 bq) rfl rfl ?_
  refine j0 (j1 (jb (j9 ?_)))
  obtain rfl := Option.some.inj hf
  refine ret_one (.int .i64 bq) rfl ⟨rfl, rfl⟩ cn ?_
  exact (RpV.mkInt _ _)
 refine c_false rfl aT rfl ?_
 refine ja (j1 (j2 (j2 (j3 ?_))))
 refine r_fieldAddr aa 0 1 1 rfl rfl fo27_1 rfl ?_
 refine r_load aa 1 (.int .i64 a0.Int_) rfl rfl (loads_one to2 (((ax.ext ae).cell 1).trans rfl)) ?_
 refine r_fieldAddr ab 0 1 1 rfl rfl fo27_1 rfl ?_
 refine r_load ab 1 (.int .i64 a1.Int_) rfl rfl (loads_one to2 ((ay.cell 1).trans rfl)) ?_
 refine r_bin (.int .i64 a0.Int_) (.int .i64 a1.Int_) (.bool (a0.Int_ != a1.Int_)) rfl rfl rfl rfl (b_neq) ?_
 refine j0 (j1 ?_)
 refine if_else hf (fun aU hf => ?_) (fun aU hf => ?_)
 ·refine c_true rfl aU rfl ?_
  refine j2 (j3 ?_)
  refine r_fieldAddr aa 0 1 1 rfl rfl fo27_1 rfl ?_
  refine r_load aa 1 (.int .i64 a0.Int_) rfl rfl (loads_one to2 (((ax.ext ae).cell 1).trans rfl)) ?_
  refine r_fieldAddr ab 0 1 1 rfl rfl fo27_1 rfl ?_
  refine r_load ab 1 (.int .i64 a1.Int_) rfl rfl (loads_one to2 ((ay.cell 1).trans rfl)) ?_
  obtain ⟨br, co, hf⟩ := bind_some hf
  refine r_call [.int .i64 a0.Int_, .int .i64 a1.Int_] (evs2 rfl rfl) rfl (ok_semtyperef1_Order _ _ _ _ _ _ (RpV.mkInt _ _) (RpV.mkInt _ _) co) ?_
  intro iK iL cp cq
  have cr := aB.x cp
  obtain rfl := RpV.int cq
  refine r_assign (.int .i64 br) rfl rfl ?_
  refine j0 (j1 (jb (j9 ?_)))
  obtain rfl := Option.some.inj hf
  refine ret_one (.int .i64 br) rfl ⟨rfl, rfl⟩ cr ?_
  exact (RpV.mkInt _ _)
 refine c_false rfl aU rfl ?_
 refine ja (j1 (j2 (j2 (j3 ?_))))
 refine r_fieldAddr aa 0 2 2 rfl rfl fo27_2 rfl ?_
 refine r_load aa 2 (.string a0.Text) rfl rfl (loads_one to9 (((ax.ext ae).cell 2).trans rfl)) ?_
 refine r_fieldAddr ab 0 2 2 rfl rfl fo27_2 rfl ?_
 refine r_load ab 2 (.string a1.Text) rfl rfl (loads_one to9 ((ay.cell 2).trans rfl)) ?_
 refine r_bin (.string a0.Text) (.string a1.Text) (.bool (!strEq a0.Text a1.Text)) rfl rfl rfl rfl (b_sneq) ?_
 refine j0 (j1 ?_)
 refine if_else hf (fun aV hf => ?_) (fun aV hf => ?_)
 ·refine c_true rfl aV rfl ?_
  refine j2 (j3 ?_)
  refine r_fieldAddr aa 0 2 2 rfl rfl fo27_2 rfl ?_
  refine r_load aa 2 (.string a0.Text) rfl rfl (loads_one to9 (((ax.ext ae).cell 2).trans rfl)) ?_
  refine r_fieldAddr ab 0 2 2 rfl rfl fo27_2 rfl ?_
  refine r_load ab 2 (.string a1.Text) rfl rfl (loads_one to9 ((ay.cell 2).trans rfl)) ?_
  obtain ⟨bs, cs, hf⟩ := bind_some hf
  refine r_call [.string a0.Text, .string a1.Text] (evs2 rfl rfl) rfl (ok_semtyperef1_Text _ _ _ _ _ _ (RpV.mkStr _ _) (RpV.mkStr _ _) cs) ?_
  intro iM iN ct cu
  have cv := aB.x ct
  obtain rfl := RpV.int cu
  refine r_assign (.int .i64 bs) rfl rfl ?_
  refine j0 (j1 (jb (j9 ?_)))
  obtain rfl := Option.some.inj hf
  refine ret_one (.int .i64 bs) rfl ⟨rfl, rfl⟩ cv ?_
  exact (RpV.mkInt _ _)
 refine c_false rfl aV rfl ?_
 refine ja (j1 (j2 (j2 (j3 ?_))))
 refine r_fieldAddr aa 0 4 4 rfl rfl fo27_4 rfl ?_
 refine r_load aa 4 (.slice A4 a0.Keys.length c5) rfl rfl (loads_one to23 (((ax.ext ae).cell 4).trans rfl)) ?_
 refine r_len A4 a0.Keys.length c5 rfl rfl Go.Proofs.Try.underlying23 ?_
 refine r_fieldAddr ab 0 4 4 rfl rfl fo27_4 rfl ?_
 refine r_load ab 4 (.slice af a1.Keys.length ag) rfl rfl (loads_one to23 ((ay.cell 4).trans rfl)) ?_
 refine r_len af a1.Keys.length ag rfl rfl Go.Proofs.Try.underlying23 ?_
 refine r_bin (.int .i64 (a0.Keys.length : Int)) (.int .i64 (a1.Keys.length : Int)) (.bool ((a0.Keys.length : Int) != (a1.Keys.length : Int))) rfl rfl rfl rfl (b_neq) ?_
 refine j0 (j1 ?_)
 refine if_else hf (fun aW hf => ?_) (fun aW hf => ?_)
 ·refine c_true rfl aW rfl ?_
  refine j2 (j3 ?_)
  refine r_fieldAddr aa 0 4 4 rfl rfl fo27_4 rfl ?_
  refine r_load aa 4 (.slice A4 a0.Keys.length c5) rfl rfl (loads_one to23 (((ax.ext ae).cell 4).trans rfl)) ?_
  refine r_len A4 a0.Keys.length c5 rfl rfl Go.Proofs.Try.underlying23 ?_
  refine r_fieldAddr ab 0 4 4 rfl rfl fo27_4 rfl ?_
  refine r_load ab 4 (.slice af a1.Keys.length ag) rfl rfl (loads_one to23 ((ay.cell 4).trans rfl)) ?_
  refine r_len af a1.Keys.length ag rfl rfl Go.Proofs.Try.underlying23 ?_
  obtain ⟨bt, cw, hf⟩ := bind_some hf
  refine r_call [.int .i64 (a0.Keys.length : Int), .int .i64 (a1.Keys.length : Int)] (evs2 rfl rfl) rfl (ok_semtyperef1_count _ _ _ _ _ _ (RpV.mkInt _ _) (RpV.mkInt _ _) cw) ?_
  intro iO iP cx cy
  have cz := aB.x cx
  obtain rfl := RpV.int cy
  refine r_assign (.int .i64 bt) rfl rfl ?_
  refine j0 (j1 (jb (j9 ?_)))
  obtain rfl := Option.some.inj hf
  refine ret_one (.int .i64 bt) rfl ⟨rfl, rfl⟩ cz ?_
  exact (RpV.mkInt _ _)
 refine c_false rfl aW rfl ?_
 refine ja (j1 (j2 (j2 (j3 ?_))))
 refine r_assign (.int .i64 0) rfl rfl ?_
 refine j0 (j1 (j4 ?_))
 refine gen_F fun aC aX => ?_
 have bu : aC 2 = (.pointer (some ⟨aa, 0, none⟩)) := (aX 2).trans rfl
 have bv : aC 3 = (.pointer (some ⟨ab, 0, none⟩)) := (aX 3).trans rfl
 have cA : aC 5 = (.int .i64 0) := (aX 5).trans rfl
 obtain ⟨cB, cC, hf⟩ := bind_some hf
 refine wp_mono (wp_iter (step := semtyperef1_Compare_l1 a0 a1) (fun q a w => ∃ (F : Fr) (τ : S), a = fr 155 F ∧ w = τ.w ∧ Agr [4, 5, 6, 56, 57, 58, 59, 60, 61, 62, 63, 64, 65, 66, 67, 68, 69, 70, 71, 72, 73, 74, 75, 76] F aC ∧ ExtB s0.N s0 τ ∧ Wext bp τ ∧ F 5 = (.int .i64 q) ∧ Blk s0.N 1 τ aa 27 (Val.cs a0 A1 c2 A4 c5 A7 c8 ac ad) ∧ Blk s0.N 2 τ ab 27 (Val.cs a1 al am af ag ah ai aj ak)) (fun o e a w => match o with | .inl q => e = .exit 0 ∧ ∃ (F : Fr) (τ : S), a = fr 155 F ∧ w = τ.w ∧ Agr [4, 5, 6, 56, 57, 58, 59, 60, 61, 62, 63, 64, 65, 66, 67, 68, 69, 70, 71, 72, 73, 74, 75, 76] F aC ∧ ExtB s0.N s0 τ ∧ Wext bp τ ∧ F 5 = (.int .i64 q) ∧ Blk s0.N 1 τ aa 27 (Val.cs a0 A1 c2 A4 c5 A7 c8 ac ad) ∧ Blk s0.N 2 τ ab 27 (Val.cs a1 al am af ag ah ai aj ak) | .inr r => e = .ret ∧ ∃ (F : Fr) (τ : S) (va : Value), a = fr 155 F ∧ w = τ.w ∧ ExtB s0.N s0 τ ∧ ResV Go.Proofs.Try.prog 155 F τ.w (.tmp 4) va ∧ RpV τ r va) (by rintro (_ | _) a w ⟨h, _⟩ <;> cases h) ?_ _ _ _ _ _ cC ?_) ?_
 ·intro an fl a w hf hI
  obtain ⟨iQ, iR, rfl, rfl, aG, aY, aH, aD, aZ, bw⟩ := hI
  unfold semtyperef1_Compare_l1 at hf
  have bx := (aG 2 rfl).trans bu
  have cD := (aG 3 rfl).trans bv
  refine j2 (j2 (j3 ?_))
  refine r_move (.int .i64 an) aD rfl ?_
  refine r_fieldAddr aa 0 4 4 bx rfl fo27_4 rfl ?_
  refine r_load aa 4 (.slice A4 a0.Keys.length c5) rfl rfl (loads_one to23 ((aZ.cell 4).trans rfl)) ?_
  refine r_len A4 a0.Keys.length c5 rfl rfl Go.Proofs.Try.underlying23 ?_
  refine r_bin (.int .i64 an) (.int .i64 (a0.Keys.length : Int)) (.bool (decide (an < (a0.Keys.length : Int)))) rfl rfl rfl rfl (b_lss) ?_
  refine j0 (j1 ?_)
  refine if_else hf (fun a2 hf => ?_) (fun a2 hf => ?_)
  ·refine c_true rfl a2 rfl ?_
   refine ja (j1 (j2 (j4 (j2 ?_))))
   obtain ⟨x85, cE, hf⟩ := bind_some hf
   obtain ⟨x87, cF, hf⟩ := bind_some hf
   obtain ⟨ar, cG, hf⟩ := bind_some hf
   refine wp_draw (B := frExt s0.N) [some 63, some 64, some 65, some 66, some 67, some 68, some 69, some 70, some 71, some 72, some 73, some 6] [[], [0], [], [0, 1, 2], [0, 1, 2, 3], [], [5], [], [5, 6, 7], [5, 6, 7, 8], [0, 1, 2, 3, 4, 5, 6, 7, 8, 9], [0, 1, 2, 3, 4, 5, 6, 7, 8, 9, 10]] [Fct.eqv (.pointer (some ⟨aa, 4, none⟩)), Fct.eqv (.slice A4 a0.Keys.length c5), Fct.eqv (.int .i64 an), Fct.elem (x85 : Key), Fct.data (x85 : Key), Fct.eqv (.pointer (some ⟨ab, 4, none⟩)), Fct.eqv (.slice af a1.Keys.length ag), Fct.eqv (.int .i64 an), Fct.elem (x87 : Key), Fct.data (x87 : Key), Fct.eqv (.int .i64 ar), Fct.eqv (.int .i64 ar)] (fun D F τ => (Blk s0.N 1 τ aa 27 (Val.cs a0 A1 c2 A4 c5 A7 c8 ac ad)) ∧ (Blk s0.N 2 τ ab 27 (Val.cs a1 al am af ag ah ai aj ak))) (by kernel_rfl) rfl (by decide) (by decide) ⟨(aZ.ext (ext_draw _)), (bw.ext (ext_draw _))⟩ (by decide) (by decide) ⟨?_, ?_, ?_, ?_, ?_, ?_, ?_, ?_, ?_, ?_, ?_, ?_, trivial⟩ ?_
   ·intro iS iT iU iV iW iX iY iZ cH cI i0
    obtain ⟨cJ, cK⟩ := cH
    refine r_fieldAddr aa 0 4 4 ((cI 2 rfl).trans bx) rfl fo27_4 rfl ?_
    exact d0 ⟨rfl, ⟨cJ, cK⟩⟩
   ·intro i1 i2 i3 i4 i5 i6 i7 i8 cL i9 cM
    obtain ⟨bz, cN⟩ := cL
    have cO := bz
    refine r_load aa 4 (.slice A4 a0.Keys.length c5) (cM 0 rfl 63 rfl) rfl (loads_one to23 ((cO.cell 4).trans rfl)) ?_
    exact d0 ⟨rfl, ⟨bz, cN⟩⟩
   ·intro jd je jf jg jh ji jj jk cP cQ jl
    obtain ⟨cR, cS⟩ := cP
    refine r_move (.int .i64 an) ((cQ 5 rfl).trans aD) rfl ?_
    exact d0 ⟨rfl, ⟨cR, cS⟩⟩
   ·intro jm jn jo jp jq jr js cT cU jt bA
    obtain ⟨cV, cW⟩ := cU
    refine r_indexAddr (T := 23) (E := 60) ((((h6.mono aw.wext).mono ae.wext).mono aH).mono cT) cE (bA 1 rfl 64 rfl) (bA 2 rfl 65 rfl) rfl rfl Go.Proofs.Try.underlying23 sz60 ?_
    intro ju jv jw cX cY
    obtain rfl := Key.cells_iff.1 cX
    exact d0 ⟨⟨_, _, _, rfl, (Key.cells_iff.2 rfl), cY⟩, ⟨cV, cW⟩⟩
   ·intro jx cZ c0 jy jz jA jB jC c1 jD c3
    obtain ⟨c4, c6⟩ := c1
    obtain ⟨c7, c9, jE, da, db, dc⟩ : (Fct.elem (x85 : Key)).p (cZ 66) c0 := c3 3 rfl 66 rfl
    obtain rfl := Key.cells_iff.1 db
    refine r_load c7 c9 (Key.ag x85) da rfl (loads_row tr60 dc.2) ?_
    exact d0 ⟨(Key.rpvMk (v := x85) ), ⟨c4, c6⟩⟩
   ·intro jF jG jH jI jJ jK jL jM dd de jN
    obtain ⟨df, dg⟩ := dd
    refine r_fieldAddr ab 0 4 4 ((de 3 rfl).trans cD) rfl fo27_4 rfl ?_
    exact d0 ⟨rfl, ⟨df, dg⟩⟩
   ·intro jO jP jQ jR jS jT jU jV dh jW di
    obtain ⟨dj, bB⟩ := dh
    have dk := bB
    refine r_load ab 4 (.slice af a1.Keys.length ag) (di 5 rfl 68 rfl) rfl (loads_one to23 ((dk.cell 4).trans rfl)) ?_
    exact d0 ⟨rfl, ⟨dj, bB⟩⟩
   ·intro jX jY jZ ka kb kc kd ke dl dm kf
    obtain ⟨dn, dp⟩ := dl
    refine r_move (.int .i64 an) ((dm 5 rfl).trans aD) rfl ?_
    exact d0 ⟨rfl, ⟨dn, dp⟩⟩
   ·intro kg kh ki kj kk kl km dq dr kn bC
    obtain ⟨ds, dt⟩ := dr
    refine r_indexAddr (T := 23) (E := 60) ((((ch.mono aw.wext).mono ae.wext).mono aH).mono dq) cF (bC 6 rfl 69 rfl) (bC 7 rfl 70 rfl) rfl rfl Go.Proofs.Try.underlying23 sz60 ?_
    intro ko kp kq du dv
    obtain rfl := Key.cells_iff.1 du
    exact d0 ⟨⟨_, _, _, rfl, (Key.cells_iff.2 rfl), dv⟩, ⟨ds, dt⟩⟩
   ·intro kr dw dx ks kt ku kv kw dy kx dz
    obtain ⟨dA, dB⟩ := dy
    obtain ⟨dC, dD, ky, dE, dF, dG⟩ : (Fct.elem (x87 : Key)).p (dw 71) dx := dz 8 rfl 71 rfl
    obtain rfl := Key.cells_iff.1 dF
    refine r_load dC dD (Key.ag x87) dE rfl (loads_row tr60 dG.2) ?_
    exact d0 ⟨(Key.rpvMk (v := x87) ), ⟨dA, dB⟩⟩
   ·intro kz bD bE kA kB kC dH kD dI kE bF
    have dJ := aY.trans dH
    obtain ⟨dK, dL⟩ := dI
    have dM : RpV bE (x85 : Key) (bD 67) := bF 4 rfl 67 rfl
    have dN := Key.rpv dM
    have dO : RpV bE (x87 : Key) (bD 72) := bF 9 rfl 72 rfl
    have dP := Key.rpv dO
    refine r_call [Key.ag x85, Key.ag x87] (evs2 dN dP) rfl (ok_semtyperef1_CompareKeys _ _ _ _ _ _ (Key.rpvMk (v := x85) ) (Key.rpvMk (v := x87) ) cG) ?_
    intro kF kG aI dQ
    obtain rfl := RpV.int dQ
    refine j0 ?_
    exact ⟨_, _, rfl, rfl, (ExtB.refl _ _).trans (aI.mono dJ.size), (Wext.refl _).trans aI.wext, rfl, ⟨(dK.ext aI), (dL.ext aI)⟩⟩
   ·intro kH kI kJ kK kL kM kN kO dR kP dS
    obtain ⟨dT, dU⟩ := dR
    refine r_assign (.int .i64 ar) (dS 10 rfl 73 rfl) rfl ?_
    exact d0 ⟨rfl, ⟨dT, dU⟩⟩
   intro dV kQ dW dX dY bG dZ
   have bH := aY.trans dW
   obtain ⟨d1, d2⟩ := dY
   have d3 := d1
   have d4 := d2
   have d5 := (bG 5 rfl).trans aD
   have bI : dV 6 = (.int .i64 ar) := dZ 11 6 rfl
   refine j1 (j2 (j3 ?_))
   refine r_move (.int .i64 ar) bI rfl ?_
   refine r_bin (.int .i64 ar) (.int .i64 0) (.bool (ar != 0)) rfl rfl rfl rfl (b_neq) ?_
   refine j0 (j1 ?_)
   refine if_else hf (fun a3 hf => ?_) (fun a3 hf => ?_)
   ·refine c_true rfl a3 rfl ?_
    refine j2 (j3 ?_)
    refine r_move (.int .i64 ar) bI rfl ?_
    refine r_assign (.int .i64 ar) rfl rfl ?_
    refine j0 (j1 (jb (j7 (j9 ?_))))
    obtain rfl := Option.some.inj hf
    exact ⟨rfl, _, _, (.int .i64 ar), rfl, rfl, bH, ⟨rfl, rfl⟩, (RpV.mkInt _ _)⟩
   refine c_false rfl a3 rfl ?_
   refine ja (j5 (j1 (j3 ?_)))
   refine r_move (.int .i64 an) d5 rfl ?_
   refine r_bin (.int .i64 an) (.int .i64 1) (.int .i64 (w64 (an + 1))) rfl rfl rfl rfl (b_add) ?_
   refine r_assign (.int .i64 (w64 (an + 1))) rfl rfl ?_
   refine j0 ?_
   obtain rfl := Option.some.inj hf
   exact ⟨rfl, _, _, rfl, rfl, ((((((((((((aG).put rfl).put rfl).put rfl).put rfl).put rfl).draw bG rfl).put rfl).put rfl).put rfl).put rfl).put rfl), bH, (((Wext.refl _).trans aH).trans dX), rfl, d3, d4⟩
  refine c_false rfl a2 rfl ?_
  refine jc (j8 ?_)
  obtain rfl := Option.some.inj hf
  exact ⟨rfl, _, _, rfl, rfl, ((((((aG).put rfl).put rfl).put rfl).put rfl).put rfl), aY, ((Wext.refl _).trans aH), aD, aZ, bw⟩
 ·exact ⟨_, _, rfl, rfl, (Agr.refl _ _), aB, (Wext.refl _), cA, (ax.ext ae), ay⟩
 intro e a w hp
 rcases cB with kR | r
 ·replace hf := onEnd_inl hf
  obtain ⟨rfl, kS, kT, rfl, rfl, bJ, d6, aA, kU, aJ, aK⟩ := hp
  have aL := (bJ 2 rfl).trans bu
  have aM := (bJ 3 rfl).trans bv
  refine j6 (j1 (j2 (j3 ?_)))
  refine r_fieldAddr aa 0 3 3 aL rfl fo27_3 rfl ?_
  refine r_load aa 3 (.slice A1 a0.Kids.length c2) rfl rfl (loads_one to22 ((aJ.cell 3).trans rfl)) ?_
  refine r_fieldAddr ab 0 3 3 aM rfl fo27_3 rfl ?_
  refine r_load ab 3 (.slice al a1.Kids.length am) rfl rfl (loads_one to22 ((aK.cell 3).trans rfl)) ?_
  obtain ⟨az, d7, hf⟩ := bind_some hf
  refine r_call [.slice A1 a0.Kids.length c2, .slice al a1.Kids.length am] (evs2 rfl rfl) rfl (hrec_semtyperef1_values _ _ _ _ _ _ (RpV.mkList (((h3.mono aw.wext).mono ae.wext).mono aA)) (RpV.mkList (((cg.mono aw.wext).mono ae.wext).mono aA)) d7) ?_
  intro kV bK ao d8
  have a4 := d6.x ao
  obtain rfl := RpV.int d8
  refine r_assign (.int .i64 az) rfl rfl ?_
  refine j0 (j1 (j2 (j2 (j3 ?_))))
  refine r_move (.int .i64 az) rfl rfl ?_
  refine r_bin (.int .i64 az) (.int .i64 0) (.bool (az != 0)) rfl rfl rfl rfl (b_neq) ?_
  refine j0 (j1 ?_)
  refine if_else hf (fun a5 hf => ?_) (fun a5 hf => ?_)
  ·refine c_true rfl a5 rfl ?_
   refine j2 (j3 ?_)
   refine r_move (.int .i64 az) rfl rfl ?_
   refine r_assign (.int .i64 az) rfl rfl ?_
   refine j0 (j1 (jb (j9 ?_)))
   obtain rfl := Option.some.inj hf
   refine ret_one (.int .i64 az) rfl ⟨rfl, rfl⟩ a4 ?_
   exact (RpV.mkInt _ _)
  refine c_false rfl a5 rfl ?_
  refine ja (j1 (j2 (j2 (j3 ?_))))
  refine r_fieldAddr aa 0 5 5 aL rfl fo27_5 rfl ?_
  refine r_load aa 5 (.slice A7 a0.Entries.length c8) rfl rfl (loads_one to24 (((aJ.ext ao).cell 5).trans rfl)) ?_
  refine r_len A7 a0.Entries.length c8 rfl rfl Go.Proofs.Try.underlying24 ?_
  refine r_fieldAddr ab 0 5 5 aM rfl fo27_5 rfl ?_
  refine r_load ab 5 (.slice ah a1.Entries.length ai) rfl rfl (loads_one to24 (((aK.ext ao).cell 5).trans rfl)) ?_
  refine r_len ah a1.Entries.length ai rfl rfl Go.Proofs.Try.underlying24 ?_
  refine r_bin (.int .i64 (a0.Entries.length : Int)) (.int .i64 (a1.Entries.length : Int)) (.bool ((a0.Entries.length : Int) != (a1.Entries.length : Int))) rfl rfl rfl rfl (b_neq) ?_
  refine j0 (j1 ?_)
  refine if_else hf (fun a6 hf => ?_) (fun a6 hf => ?_)
  ·refine c_true rfl a6 rfl ?_
   refine j2 (j3 ?_)
   refine r_fieldAddr aa 0 5 5 aL rfl fo27_5 rfl ?_
   refine r_load aa 5 (.slice A7 a0.Entries.length c8) rfl rfl (loads_one to24 (((aJ.ext ao).cell 5).trans rfl)) ?_
   refine r_len A7 a0.Entries.length c8 rfl rfl Go.Proofs.Try.underlying24 ?_
   refine r_fieldAddr ab 0 5 5 aM rfl fo27_5 rfl ?_
   refine r_load ab 5 (.slice ah a1.Entries.length ai) rfl rfl (loads_one to24 (((aK.ext ao).cell 5).trans rfl)) ?_
   refine r_len ah a1.Entries.length ai rfl rfl Go.Proofs.Try.underlying24 ?_
   obtain ⟨bL, d9, hf⟩ := bind_some hf
   refine r_call [.int .i64 (a0.Entries.length : Int), .int .i64 (a1.Entries.length : Int)] (evs2 rfl rfl) rfl (ok_semtyperef1_count _ _ _ _ _ _ (RpV.mkInt _ _) (RpV.mkInt _ _) d9) ?_
   intro kW kX ea eb
   have ec := a4.x ea
   obtain rfl := RpV.int eb
   refine r_assign (.int .i64 bL) rfl rfl ?_
   refine j0 (j1 (jb (j9 ?_)))
   obtain rfl := Option.some.inj hf
   refine ret_one (.int .i64 bL) rfl ⟨rfl, rfl⟩ ec ?_
   exact (RpV.mkInt _ _)
  refine c_false rfl a6 rfl ?_
  refine ja (j1 (j2 (j2 (j3 ?_))))
  refine r_assign (.int .i64 0) rfl rfl ?_
  refine j0 (j1 (j4 ?_))
  refine gen_F fun a7 a8 => ?_
  have bM := (a8 2).trans aL
  have bN := (a8 3).trans aM
  have ed : a7 8 = (.int .i64 0) := (a8 8).trans rfl
  obtain ⟨ee, ef, hf⟩ := bind_some hf
  refine wp_mono (wp_iter (step := semtyperef1_Compare_l2 rec_semtyperef1_CompareEntries a0 a1) (fun q a w => ∃ (F : Fr) (τ : S), a = fr 155 F ∧ w = τ.w ∧ Agr [4, 8, 9, 99, 100, 101, 102, 103, 104, 105, 106, 107, 108, 109, 110, 111, 112, 113, 114, 115, 116, 117, 118, 119] F a7 ∧ ExtB s0.N s0 τ ∧ Wext bK τ ∧ F 8 = (.int .i64 q) ∧ Blk s0.N 1 τ aa 27 (Val.cs a0 A1 c2 A4 c5 A7 c8 ac ad) ∧ Blk s0.N 2 τ ab 27 (Val.cs a1 al am af ag ah ai aj ak)) (fun o e a w => match o with | .inl q => e = .exit 2 ∧ ∃ (F : Fr) (τ : S), a = fr 155 F ∧ w = τ.w ∧ Agr [4, 8, 9, 99, 100, 101, 102, 103, 104, 105, 106, 107, 108, 109, 110, 111, 112, 113, 114, 115, 116, 117, 118, 119] F a7 ∧ ExtB s0.N s0 τ ∧ Wext bK τ ∧ F 8 = (.int .i64 q) ∧ Blk s0.N 1 τ aa 27 (Val.cs a0 A1 c2 A4 c5 A7 c8 ac ad) ∧ Blk s0.N 2 τ ab 27 (Val.cs a1 al am af ag ah ai aj ak) | .inr r => e = .ret ∧ ∃ (F : Fr) (τ : S) (va : Value), a = fr 155 F ∧ w = τ.w ∧ ExtB s0.N s0 τ ∧ ResV Go.Proofs.Try.prog 155 F τ.w (.tmp 4) va ∧ RpV τ r va) (by rintro (_ | _) a w ⟨h, _⟩ <;> cases h) ?_ _ _ _ _ _ ef ?_) ?_
  ·intro ap fl a w hf hI
   obtain ⟨kY, kZ, rfl, rfl, aN, a9, aO, aE, ba, bO⟩ := hI
   unfold semtyperef1_Compare_l2 at hf
   have bP := (aN 2 rfl).trans bM
   have eg := (aN 3 rfl).trans bN
   refine j2 (j2 (j3 ?_))
   refine r_move (.int .i64 ap) aE rfl ?_
   refine r_fieldAddr aa 0 5 5 bP rfl fo27_5 rfl ?_
   refine r_load aa 5 (.slice A7 a0.Entries.length c8) rfl rfl (loads_one to24 ((ba.cell 5).trans rfl)) ?_
   refine r_len A7 a0.Entries.length c8 rfl rfl Go.Proofs.Try.underlying24 ?_
   refine r_bin (.int .i64 ap) (.int .i64 (a0.Entries.length : Int)) (.bool (decide (ap < (a0.Entries.length : Int)))) rfl rfl rfl rfl (b_lss) ?_
   refine j0 (j1 ?_)
   refine if_else hf (fun bb hf => ?_) (fun bb hf => ?_)
   ·refine c_true rfl bb rfl ?_
    refine ja (j1 (j2 (j4 (j2 ?_))))
    obtain ⟨x369, eh, hf⟩ := bind_some hf
    obtain ⟨x371, ei, hf⟩ := bind_some hf
    obtain ⟨au, ej, hf⟩ := bind_some hf
    refine wp_draw (B := frExt s0.N) [some 106, some 107, some 108, some 109, some 110, some 111, some 112, some 113, some 114, some 115, some 116, some 9] [[], [0], [], [0, 1, 2], [0, 1, 2, 3], [], [5], [], [5, 6, 7], [5, 6, 7, 8], [0, 1, 2, 3, 4, 5, 6, 7, 8, 9], [0, 1, 2, 3, 4, 5, 6, 7, 8, 9, 10]] [Fct.eqv (.pointer (some ⟨aa, 5, none⟩)), Fct.eqv (.slice A7 a0.Entries.length c8), Fct.eqv (.int .i64 ap), Fct.elem (x369 : Ent), Fct.data (x369 : Ent), Fct.eqv (.pointer (some ⟨ab, 5, none⟩)), Fct.eqv (.slice ah a1.Entries.length ai), Fct.eqv (.int .i64 ap), Fct.elem (x371 : Ent), Fct.data (x371 : Ent), Fct.eqv (.int .i64 au), Fct.eqv (.int .i64 au)] (fun D F τ => (Blk s0.N 1 τ aa 27 (Val.cs a0 A1 c2 A4 c5 A7 c8 ac ad)) ∧ (Blk s0.N 2 τ ab 27 (Val.cs a1 al am af ag ah ai aj ak))) (by kernel_rfl) rfl (by decide) (by decide) ⟨(ba.ext (ext_draw _)), (bO.ext (ext_draw _))⟩ (by decide) (by decide) ⟨?_, ?_, ?_, ?_, ?_, ?_, ?_, ?_, ?_, ?_, ?_, ?_, trivial⟩ ?_
    ·intro k0 k1 k2 k3 k4 k5 k6 k7 ek el k8
     obtain ⟨em, en⟩ := ek
     refine r_fieldAddr aa 0 5 5 ((el 2 rfl).trans bP) rfl fo27_5 rfl ?_
     exact d0 ⟨rfl, ⟨em, en⟩⟩
    ·intro k9 la lb lc ld le lf lg eo lh ep
     obtain ⟨bQ, eq⟩ := eo
     have er := bQ
     refine r_load aa 5 (.slice A7 a0.Entries.length c8) (ep 0 rfl 106 rfl) rfl (loads_one to24 ((er.cell 5).trans rfl)) ?_
     exact d0 ⟨rfl, ⟨bQ, eq⟩⟩
    ·intro li lj lk ll lm ln lo lp es et lq
     obtain ⟨eu, ev⟩ := es
     refine r_move (.int .i64 ap) ((et 8 rfl).trans aE) rfl ?_
     exact d0 ⟨rfl, ⟨eu, ev⟩⟩
    ·intro lr ls lt lu lv lw lx ew ex ly bR
     obtain ⟨ey, ez⟩ := ex
     refine r_indexAddr (T := 24) (E := 65) ((((((h9.mono aw.wext).mono ae.wext).mono aA).mono ao.wext).mono aO).mono ew) eh (bR 1 rfl 107 rfl) (bR 2 rfl 108 rfl) rfl rfl Go.Proofs.Try.underlying24 sz65 ?_
     intro lz lA lB eA eB
     obtain ⟨lC, lD, lE, lF, lG, lH, lI, lJ, lK, lL, rfl, eC, eD, eE, eF, eG⟩ := Ent.cells_iff.1 eA
     exact d0 ⟨⟨_, _, _, rfl, (Ent.cells_iff.2 ⟨_, _, _, _, _, _, _, _, _, _, rfl, eC, eD, eE, eF, eG⟩), eB⟩, ⟨ey, ez⟩⟩
    ·intro lM eH eI lN lO lP lQ lR eJ lS eK
     obtain ⟨eL, eM⟩ := eJ
     obtain ⟨eN, eO, lT, eP, eQ, eR⟩ : (Fct.elem (x369 : Ent)).p (eH 109) eI := eK 3 rfl 109 rfl
     obtain ⟨eS, eT, eU, eV, eW, eX, eY, eZ, e0, e1, rfl, e2, e3, e4, e5, e6⟩ := Ent.cells_iff.1 eQ
     refine r_load eN eO (.agg #[.slice eS x369.Args.length eT, .bool x369.Fails, .int .i64 x369.Result.Kind, .int .i64 x369.Result.Int_, .string x369.Result.Text, .slice eU x369.Result.Kids.length eV, .slice eW x369.Result.Keys.length eX, .slice eY x369.Result.Entries.length eZ, .slice e0 x369.Result.Labels.length e1]) eP rfl (loads_row tr65 eR.2) ?_
     exact d0 ⟨(Ent.rpvMk (v := x369) e2 e3 e4 e5 e6), ⟨eL, eM⟩⟩
    ·intro lU lV lW lX lY lZ l0 l1 e7 e8 l2
     obtain ⟨e9, fa⟩ := e7
     refine r_fieldAddr ab 0 5 5 ((e8 3 rfl).trans eg) rfl fo27_5 rfl ?_
     exact d0 ⟨rfl, ⟨e9, fa⟩⟩
    ·intro l3 l4 l5 l6 l7 l8 l9 ma fb mb fc
     obtain ⟨fd, bS⟩ := fb
     have fe := bS
     refine r_load ab 5 (.slice ah a1.Entries.length ai) (fc 5 rfl 111 rfl) rfl (loads_one to24 ((fe.cell 5).trans rfl)) ?_
     exact d0 ⟨rfl, ⟨fd, bS⟩⟩
    ·intro mc md me mf mg mh mi mj ff fg mk
     obtain ⟨fh, fj⟩ := ff
     refine r_move (.int .i64 ap) ((fg 8 rfl).trans aE) rfl ?_
     exact d0 ⟨rfl, ⟨fh, fj⟩⟩
    ·intro ml mm mn mo mp mq mr fk fm ms bT
     obtain ⟨fn, fo⟩ := fm
     refine r_indexAddr (T := 24) (E := 65) ((((((ci.mono aw.wext).mono ae.wext).mono aA).mono ao.wext).mono aO).mono fk) ei (bT 6 rfl 112 rfl) (bT 7 rfl 113 rfl) rfl rfl Go.Proofs.Try.underlying24 sz65 ?_
     intro mt mu mv fp fq
     obtain ⟨mw, mx, my, mz, mA, mB, mC, mD, mE, mF, rfl, fs, ft, fu, fv, fw⟩ := Ent.cells_iff.1 fp
     exact d0 ⟨⟨_, _, _, rfl, (Ent.cells_iff.2 ⟨_, _, _, _, _, _, _, _, _, _, rfl, fs, ft, fu, fv, fw⟩), fq⟩, ⟨fn, fo⟩⟩
    ·intro mG fx fy mH mI mJ mK mL fz mM fA
     obtain ⟨fB, fC⟩ := fz
     obtain ⟨fD, fE, mN, fF, fG, fH⟩ : (Fct.elem (x371 : Ent)).p (fx 114) fy := fA 8 rfl 114 rfl
     obtain ⟨fI, fJ, fK, fL, fM, fN, fO, fP, fQ, fR, rfl, fS, fT, fU, fV, fW⟩ := Ent.cells_iff.1 fG
     refine r_load fD fE (.agg #[.slice fI x371.Args.length fJ, .bool x371.Fails, .int .i64 x371.Result.Kind, .int .i64 x371.Result.Int_, .string x371.Result.Text, .slice fK x371.Result.Kids.length fL, .slice fM x371.Result.Keys.length fN, .slice fO x371.Result.Entries.length fP, .slice fQ x371.Result.Labels.length fR]) fF rfl (loads_row tr65 fH.2) ?_
     exact d0 ⟨(Ent.rpvMk (v := x371) fS fT fU fV fW), ⟨fB, fC⟩⟩
    ·intro mO bU bV mP mQ mR fX mS fY mT bW
     have fZ := a9.trans fX
     obtain ⟨f0, f1⟩ := fY
     have f2 : RpV bV (x369 : Ent) (bU 110) := bW 4 rfl 110 rfl
     obtain ⟨f3, f4, f5, f6, f7, f8, f9, ga, gb, gc, gd, ge, gf, gg, gh, gi⟩ := Ent.rpv f2
     have gj : RpV bV (x371 : Ent) (bU 115) := bW 9 rfl 115 rfl
     obtain ⟨gk, gl, gm, gn, go, gp, gq, gr, gs, gt, gu, gv, gw, gx, gy, gz⟩ := Ent.rpv gj
     refine r_call [.agg #[.slice f3 x369.Args.length f4, .bool x369.Fails, .int .i64 x369.Result.Kind, .int .i64 x369.Result.Int_, .string x369.Result.Text, .slice f5 x369.Result.Kids.length f6, .slice f7 x369.Result.Keys.length f8, .slice f9 x369.Result.Entries.length ga, .slice gb x369.Result.Labels.length gc], .agg #[.slice gk x371.Args.length gl, .bool x371.Fails, .int .i64 x371.Result.Kind, .int .i64 x371.Result.Int_, .string x371.Result.Text, .slice gm x371.Result.Kids.length gn, .slice go x371.Result.Keys.length gp, .slice gq x371.Result.Entries.length gr, .slice gs x371.Result.Labels.length gt]] (evs2 gd gu) rfl (hrec_semtyperef1_CompareEntries _ _ _ _ _ _ (Ent.rpvMk (v := x369) ge gf gg gh gi) (Ent.rpvMk (v := x371) gv gw gx gy gz) ej) ?_
     intro mU mV aP gA
     obtain rfl := RpV.int gA
     refine j0 ?_
     exact ⟨_, _, rfl, rfl, (ExtB.refl _ _).trans (aP.mono fZ.size), (Wext.refl _).trans aP.wext, rfl, ⟨(f0.ext aP), (f1.ext aP)⟩⟩
    ·intro mW mX mY mZ m0 m1 m2 m3 gB m4 gC
     obtain ⟨gD, gE⟩ := gB
     refine r_assign (.int .i64 au) (gC 10 rfl 116 rfl) rfl ?_
     exact d0 ⟨rfl, ⟨gD, gE⟩⟩
    intro gF m5 gG gH gI bX gJ
    have bY := a9.trans gG
    obtain ⟨gK, gL⟩ := gI
    have gM := gK
    have gN := gL
    have gO := (bX 8 rfl).trans aE
    have bZ : gF 9 = (.int .i64 au) := gJ 11 9 rfl
    refine j1 (j2 (j3 ?_))
    refine r_move (.int .i64 au) bZ rfl ?_
    refine r_bin (.int .i64 au) (.int .i64 0) (.bool (au != 0)) rfl rfl rfl rfl (b_neq) ?_
    refine j0 (j1 ?_)
    refine if_else hf (fun bc hf => ?_) (fun bc hf => ?_)
    ·refine c_true rfl bc rfl ?_
     refine j2 (j3 ?_)
     refine r_move (.int .i64 au) bZ rfl ?_
     refine r_assign (.int .i64 au) rfl rfl ?_
     refine j0 (j1 (jb (j7 (j9 ?_))))
     obtain rfl := Option.some.inj hf
     exact ⟨rfl, _, _, (.int .i64 au), rfl, rfl, bY, ⟨rfl, rfl⟩, (RpV.mkInt _ _)⟩
    refine c_false rfl bc rfl ?_
    refine ja (j5 (j1 (j3 ?_)))
    refine r_move (.int .i64 ap) gO rfl ?_
    refine r_bin (.int .i64 ap) (.int .i64 1) (.int .i64 (w64 (ap + 1))) rfl rfl rfl rfl (b_add) ?_
    refine r_assign (.int .i64 (w64 (ap + 1))) rfl rfl ?_
    refine j0 ?_
    obtain rfl := Option.some.inj hf
    exact ⟨rfl, _, _, rfl, rfl, ((((((((((((aN).put rfl).put rfl).put rfl).put rfl).put rfl).draw bX rfl).put rfl).put rfl).put rfl).put rfl).put rfl), bY, (((Wext.refl _).trans aO).trans gH), rfl, gM, gN⟩
   refine c_false rfl bb rfl ?_
   refine jc (j8 ?_)
   obtain rfl := Option.some.inj hf
   exact ⟨rfl, _, _, rfl, rfl, ((((((aN).put rfl).put rfl).put rfl).put rfl).put rfl), a9, ((Wext.refl _).trans aO), aE, ba, bO⟩
  ·exact ⟨_, _, rfl, rfl, (Agr.refl _ _), a4, (Wext.refl _), ed, (aJ.ext ao), (aK.ext ao)⟩
  intro e a w hp
  rcases ee with m6 | r
  ·replace hf := onEnd_inl hf
   obtain ⟨rfl, m7, b0, rfl, rfl, b1, b2, b3, m8, bd, be⟩ := hp
   have bf := (b1 2 rfl).trans bM
   have bg := (b1 3 rfl).trans bN
   refine j6 (j1 (j2 (j2 (j3 ?_))))
   refine r_fieldAddr aa 0 6 6 bf rfl fo27_6 rfl ?_
   refine r_load aa 6 (.slice ac a0.Labels.length ad) rfl rfl (loads_one to25 ((bd.cell 6).trans rfl)) ?_
   refine r_len ac a0.Labels.length ad rfl rfl Go.Proofs.Try.underlying25 ?_
   refine r_fieldAddr ab 0 6 6 bg rfl fo27_6 rfl ?_
   refine r_load ab 6 (.slice aj a1.Labels.length ak) rfl rfl (loads_one to25 ((be.cell 6).trans rfl)) ?_
   refine r_len aj a1.Labels.length ak rfl rfl Go.Proofs.Try.underlying25 ?_
   refine r_bin (.int .i64 (a0.Labels.length : Int)) (.int .i64 (a1.Labels.length : Int)) (.bool ((a0.Labels.length : Int) != (a1.Labels.length : Int))) rfl rfl rfl rfl (b_neq) ?_
   refine j0 (j1 ?_)
   refine if_else hf (fun bh hf => ?_) (fun bh hf => ?_)
   ·refine c_true rfl bh rfl ?_
    refine j2 (j3 ?_)
    refine r_fieldAddr aa 0 6 6 bf rfl fo27_6 rfl ?_
    refine r_load aa 6 (.slice ac a0.Labels.length ad) rfl rfl (loads_one to25 ((bd.cell 6).trans rfl)) ?_
    refine r_len ac a0.Labels.length ad rfl rfl Go.Proofs.Try.underlying25 ?_
    refine r_fieldAddr ab 0 6 6 bg rfl fo27_6 rfl ?_
    refine r_load ab 6 (.slice aj a1.Labels.length ak) rfl rfl (loads_one to25 ((be.cell 6).trans rfl)) ?_
    refine r_len aj a1.Labels.length ak rfl rfl Go.Proofs.Try.underlying25 ?_
    obtain ⟨b4, gP, hf⟩ := bind_some hf
    refine r_call [.int .i64 (a0.Labels.length : Int), .int .i64 (a1.Labels.length : Int)] (evs2 rfl rfl) rfl (ok_semtyperef1_count _ _ _ _ _ _ (RpV.mkInt _ _) (RpV.mkInt _ _) gP) ?_
    intro m9 na gQ gR
    have gS := b2.x gQ
    obtain rfl := RpV.int gR
    refine r_assign (.int .i64 b4) rfl rfl ?_
    refine j0 (j1 (jb (j9 ?_)))
    obtain rfl := Option.some.inj hf
    refine ret_one (.int .i64 b4) rfl ⟨rfl, rfl⟩ gS ?_
    exact (RpV.mkInt _ _)
   refine c_false rfl bh rfl ?_
   refine ja (j1 (j2 (j2 (j3 ?_))))
   refine r_assign (.int .i64 0) rfl rfl ?_
   refine j0 (j1 (j4 ?_))
   refine gen_F fun bi bj => ?_
   have gT := (bj 2).trans bf
   have gU := (bj 3).trans bg
   have gV : bi 10 = (.int .i64 0) := (bj 10).trans rfl
   obtain ⟨gW, gX, hf⟩ := bind_some hf
   refine wp_mono (wp_iter (step := semtyperef1_Compare_l3 a0 a1) (fun q a w => ∃ (F : Fr) (τ : S), a = fr 155 F ∧ w = τ.w ∧ Agr [4, 10, 11, 134, 135, 136, 137, 138, 139, 140, 141, 142, 143, 144, 145, 146, 147, 148, 149, 150, 151, 152, 153, 154] F bi ∧ ExtB s0.N s0 τ ∧ Wext b0 τ ∧ F 10 = (.int .i64 q) ∧ Blk s0.N 1 τ aa 27 (Val.cs a0 A1 c2 A4 c5 A7 c8 ac ad) ∧ Blk s0.N 2 τ ab 27 (Val.cs a1 al am af ag ah ai aj ak)) (fun o e a w => match o with | .inl q => e = .exit 4 ∧ ∃ (F : Fr) (τ : S), a = fr 155 F ∧ w = τ.w ∧ Agr [4, 10, 11, 134, 135, 136, 137, 138, 139, 140, 141, 142, 143, 144, 145, 146, 147, 148, 149, 150, 151, 152, 153, 154] F bi ∧ ExtB s0.N s0 τ ∧ Wext b0 τ ∧ F 10 = (.int .i64 q) ∧ Blk s0.N 1 τ aa 27 (Val.cs a0 A1 c2 A4 c5 A7 c8 ac ad) ∧ Blk s0.N 2 τ ab 27 (Val.cs a1 al am af ag ah ai aj ak) | .inr r => e = .ret ∧ ∃ (F : Fr) (τ : S) (va : Value), a = fr 155 F ∧ w = τ.w ∧ ExtB s0.N s0 τ ∧ ResV Go.Proofs.Try.prog 155 F τ.w (.tmp 4) va ∧ RpV τ r va) (by rintro (_ | _) a w ⟨h, _⟩ <;> cases h) ?_ _ _ _ _ _ gX ?_) ?_
   ·intro aq fl a w hf hI
    obtain ⟨nb, nc, rfl, rfl, aQ, bk, aR, aF, bl, b5⟩ := hI
    unfold semtyperef1_Compare_l3 at hf
    have b6 := (aQ 2 rfl).trans gT
    have gY := (aQ 3 rfl).trans gU
    refine j2 (j2 (j3 ?_))
    refine r_move (.int .i64 aq) aF rfl ?_
    refine r_fieldAddr aa 0 6 6 b6 rfl fo27_6 rfl ?_
    refine r_load aa 6 (.slice ac a0.Labels.length ad) rfl rfl (loads_one to25 ((bl.cell 6).trans rfl)) ?_
    refine r_len ac a0.Labels.length ad rfl rfl Go.Proofs.Try.underlying25 ?_
    refine r_bin (.int .i64 aq) (.int .i64 (a0.Labels.length : Int)) (.bool (decide (aq < (a0.Labels.length : Int)))) rfl rfl rfl rfl (b_lss) ?_
    refine j0 (j1 ?_)
    refine if_else hf (fun bm hf => ?_) (fun bm hf => ?_)
    ·refine c_true rfl bm rfl ?_
     refine ja (j1 (j2 (j4 (j2 ?_))))
     obtain ⟨x735, gZ, hf⟩ := bind_some hf
     obtain ⟨x737, g0, hf⟩ := bind_some hf
     obtain ⟨av, g1, hf⟩ := bind_some hf
     refine wp_draw (B := frExt s0.N) [some 141, some 142, some 143, some 144, some 145, some 146, some 147, some 148, some 149, some 150, some 151, some 11] [[], [0], [], [0, 1, 2], [0, 1, 2, 3], [], [5], [], [5, 6, 7], [5, 6, 7, 8], [0, 1, 2, 3, 4, 5, 6, 7, 8, 9], [0, 1, 2, 3, 4, 5, 6, 7, 8, 9, 10]] [Fct.eqv (.pointer (some ⟨aa, 6, none⟩)), Fct.eqv (.slice ac a0.Labels.length ad), Fct.eqv (.int .i64 aq), Fct.elem (x735 : ByteArray), Fct.eqv (.string x735), Fct.eqv (.pointer (some ⟨ab, 6, none⟩)), Fct.eqv (.slice aj a1.Labels.length ak), Fct.eqv (.int .i64 aq), Fct.elem (x737 : ByteArray), Fct.eqv (.string x737), Fct.eqv (.int .i64 av), Fct.eqv (.int .i64 av)] (fun D F τ => (Blk s0.N 1 τ aa 27 (Val.cs a0 A1 c2 A4 c5 A7 c8 ac ad)) ∧ (Blk s0.N 2 τ ab 27 (Val.cs a1 al am af ag ah ai aj ak))) (by kernel_rfl) rfl (by decide) (by decide) ⟨(bl.ext (ext_draw _)), (b5.ext (ext_draw _))⟩ (by decide) (by decide) ⟨?_, ?_, ?_, ?_, ?_, ?_, ?_, ?_, ?_, ?_, ?_, ?_, trivial⟩ ?_
     ·intro nd ne nf ng nh ni nj nk g2 g3 nl
      obtain ⟨g4, g5⟩ := g2
      refine r_fieldAddr aa 0 6 6 ((g3 2 rfl).trans b6) rfl fo27_6 rfl ?_
      exact d0 ⟨rfl, ⟨g4, g5⟩⟩
     ·intro nm nn no np nq nr ns nt g6 nu g7
      obtain ⟨b7, g8⟩ := g6
      have g9 := b7
      refine r_load aa 6 (.slice ac a0.Labels.length ad) (g7 0 rfl 141 rfl) rfl (loads_one to25 ((g9.cell 6).trans rfl)) ?_
      exact d0 ⟨rfl, ⟨b7, g8⟩⟩
     ·intro nv nw nx ny nz nA nB nC ha hb nD
      obtain ⟨hc, hd⟩ := ha
      refine r_move (.int .i64 aq) ((hb 10 rfl).trans aF) rfl ?_
      exact d0 ⟨rfl, ⟨hc, hd⟩⟩
     ·intro nE nF nG nH nI nJ nK he hg nL b8
      obtain ⟨hh, hi⟩ := hg
      refine r_indexAddr (T := 25) (E := 9) (((((((cf.mono aw.wext).mono ae.wext).mono aA).mono ao.wext).mono b3).mono aR).mono he) gZ (b8 1 rfl 142 rfl) (b8 2 rfl 143 rfl) rfl rfl Go.Proofs.Try.underlying25 sz9 ?_
      intro nM nN nO hj hk
      obtain rfl := hj
      exact d0 ⟨⟨_, _, _, rfl, rfl, hk⟩, ⟨hh, hi⟩⟩
     ·intro nP hl hm nQ nR nS nT nU hn nV ho
      obtain ⟨hq, hr⟩ := hn
      obtain ⟨hs, ht, nW, hu, hv, hw⟩ : (Fct.elem (x735 : ByteArray)).p (hl 144) hm := ho 3 rfl 144 rfl
      obtain rfl := hv
      refine r_load hs ht (.string x735) hu rfl (loads_one to9 (hw.2 0 _ rfl)) ?_
      exact d0 ⟨rfl, ⟨hq, hr⟩⟩
     ·intro nX nY nZ n0 n1 n2 n3 n4 hx hy n5
      obtain ⟨hz, hA⟩ := hx
      refine r_fieldAddr ab 0 6 6 ((hy 3 rfl).trans gY) rfl fo27_6 rfl ?_
      exact d0 ⟨rfl, ⟨hz, hA⟩⟩
     ·intro n6 n7 n8 n9 oa ob oc od hB oe hC
      obtain ⟨hD, b9⟩ := hB
      have hE := b9
      refine r_load ab 6 (.slice aj a1.Labels.length ak) (hC 5 rfl 146 rfl) rfl (loads_one to25 ((hE.cell 6).trans rfl)) ?_
      exact d0 ⟨rfl, ⟨hD, b9⟩⟩
     ·intro og oh oi oj ol om on oo hF hG op
      obtain ⟨hH, hJ⟩ := hF
      refine r_move (.int .i64 aq) ((hG 10 rfl).trans aF) rfl ?_
      exact d0 ⟨rfl, ⟨hH, hJ⟩⟩
     ·intro oq ot ou ov ow ox oy hK hL oz ca
      obtain ⟨hM, hN⟩ := hL
      refine r_indexAddr (T := 25) (E := 9) (((((((cj.mono aw.wext).mono ae.wext).mono aA).mono ao.wext).mono b3).mono aR).mono hK) g0 (ca 6 rfl 147 rfl) (ca 7 rfl 148 rfl) rfl rfl Go.Proofs.Try.underlying25 sz9 ?_
      intro oA oB oC hO hP
      obtain rfl := hO
      exact d0 ⟨⟨_, _, _, rfl, rfl, hP⟩, ⟨hM, hN⟩⟩
     ·intro oD hQ hR oE oF oG oH oI hS oJ hT
      obtain ⟨hU, hV⟩ := hS
      obtain ⟨hW, hX, oK, hY, hZ, h2⟩ : (Fct.elem (x737 : ByteArray)).p (hQ 149) hR := hT 8 rfl 149 rfl
      obtain rfl := hZ
      refine r_load hW hX (.string x737) hY rfl (loads_one to9 (h2.2 0 _ rfl)) ?_
      exact d0 ⟨rfl, ⟨hU, hV⟩⟩
     ·intro oL oM oN oO oP oQ h4 oR h5 oS cb
      have h7 := bk.trans h4
      obtain ⟨h8, ia⟩ := h5
      refine r_call [.string x735, .string x737] (evs2 (cb 4 rfl 145 rfl) (cb 9 rfl 150 rfl)) rfl (ok_semtyperef1_Text _ _ _ _ _ _ (RpV.mkStr _ _) (RpV.mkStr _ _) g1) ?_
      intro oT oU aS ib
      obtain rfl := RpV.int ib
      refine j0 ?_
      exact ⟨_, _, rfl, rfl, (ExtB.refl _ _).trans (aS.mono h7.size), (Wext.refl _).trans aS.wext, rfl, ⟨(h8.ext aS), (ia.ext aS)⟩⟩
     ·intro oV oW oX oY oZ o0 o1 o2 ic o3 ie
      obtain ⟨ig, ih⟩ := ic
      refine r_assign (.int .i64 av) (ie 10 rfl 151 rfl) rfl ?_
      exact d0 ⟨rfl, ⟨ig, ih⟩⟩
     intro ii o4 ij ik il cc im
     have cd := bk.trans ij
     obtain ⟨io, ip⟩ := il
     have iq := io
     have ir := ip
     have it := (cc 10 rfl).trans aF
     have ce : ii 11 = (.int .i64 av) := im 11 11 rfl
     refine j1 (j2 (j3 ?_))
     refine r_move (.int .i64 av) ce rfl ?_
     refine r_bin (.int .i64 av) (.int .i64 0) (.bool (av != 0)) rfl rfl rfl rfl (b_neq) ?_
     refine j0 (j1 ?_)
     refine if_else hf (fun bn hf => ?_) (fun bn hf => ?_)
     ·refine c_true rfl bn rfl ?_
      refine j2 (j3 ?_)
      refine r_move (.int .i64 av) ce rfl ?_
      refine r_assign (.int .i64 av) rfl rfl ?_
      refine j0 (j1 (jb (j7 (j9 ?_))))
      obtain rfl := Option.some.inj hf
      exact ⟨rfl, _, _, (.int .i64 av), rfl, rfl, cd, ⟨rfl, rfl⟩, (RpV.mkInt _ _)⟩
     refine c_false rfl bn rfl ?_
     refine ja (j5 (j1 (j3 ?_)))
     refine r_move (.int .i64 aq) it rfl ?_
     refine r_bin (.int .i64 aq) (.int .i64 1) (.int .i64 (w64 (aq + 1))) rfl rfl rfl rfl (b_add) ?_
     refine r_assign (.int .i64 (w64 (aq + 1))) rfl rfl ?_
     refine j0 ?_
     obtain rfl := Option.some.inj hf
     exact ⟨rfl, _, _, rfl, rfl, ((((((((((((aQ).put rfl).put rfl).put rfl).put rfl).put rfl).draw cc rfl).put rfl).put rfl).put rfl).put rfl).put rfl), cd, (((Wext.refl _).trans aR).trans ik), rfl, iq, ir⟩
    refine c_false rfl bm rfl ?_
    refine jc (j8 ?_)
    obtain rfl := Option.some.inj hf
    exact ⟨rfl, _, _, rfl, rfl, ((((((aQ).put rfl).put rfl).put rfl).put rfl).put rfl), bk, ((Wext.refl _).trans aR), aF, bl, b5⟩
   ·exact ⟨_, _, rfl, rfl, (Agr.refl _ _), b2, (Wext.refl _), gV, bd, be⟩
   intro e a w hp
   rcases gW with o5 | r
   ·replace hf := onEnd_inl hf
    obtain ⟨rfl, o6, o7, rfl, rfl, o8, iu, o9, pa, pb, pc⟩ := hp
    refine j6 (j1 (j2 (j3 ?_)))
    refine r_assign (.int .i64 0) rfl rfl ?_
    refine j0 (j1 (jb ?_))
    obtain rfl := Option.some.inj hf
    refine ret_one (.int .i64 0) rfl ⟨rfl, rfl⟩ iu ?_
    exact (RpV.mkInt _ _)
   replace hf := onEnd_inr hf
   obtain ⟨rfl, pd, pe, iv, rfl, rfl, iw, ix, iy⟩ := hp
   refine j7 (j9 ?_)
   obtain rfl := Option.some.inj hf
   refine ret_one iv rfl ix iw ?_
   exact iy
  replace hf := onEnd_inr hf
  obtain ⟨rfl, pf, pg, iz, rfl, rfl, iA, iB, iC⟩ := hp
  refine j7 (j9 ?_)
  obtain rfl := Option.some.inj hf
  refine ret_one iz rfl iB iA ?_
  exact iC
 replace hf := onEnd_inr hf
 obtain ⟨rfl, ph, pi, iD, rfl, rfl, iE, iF, iG⟩ := hp
 refine j7 (j9 ?_)
 obtain rfl := Option.some.inj hf
 refine ret_one iD rfl iF iE ?_
 exact iG

set_option maxHeartbeats 1600000 in
set_option maxRecDepth 100000 in
theorem okB_semtyperef1_values {rec_semtyperef1_Compare : (Val → Val → Option Int)} {rec_semtyperef1_values : ((List Val) → (List Val) → Option Int)} {rec_semtyperef1_CompareEntries : (Ent → Ent → Option Int)} (hrec_semtyperef1_Compare : S_semtyperef1_Compare rec_semtyperef1_Compare) (_hrec_semtyperef1_values : S_semtyperef1_values rec_semtyperef1_values) (_hrec_semtyperef1_CompareEntries : S_semtyperef1_CompareEntries rec_semtyperef1_CompareEntries) : S_semtyperef1_values (semtyperef1_values_B rec_semtyperef1_Compare rec_semtyperef1_values rec_semtyperef1_CompareEntries) := by
 intro s0 v0 v1 a0 a1 r h0 h1 hf
 obtain ⟨A1, c2, rfl, h3⟩ := RpV.list h0
 obtain ⟨A4, c5, rfl, h6⟩ := RpV.list h1
 unfold semtyperef1_values_B at hf
 have E0 : ExtB s0.N s0 s0 := ExtB.refl _ _
 refine ctr_of 35 Go.Proofs.Try.func50 rfl rfl rfl rfl ?_
 refine j2 (j3 ?_)
 refine r_assign (.int .i64 0) rfl rfl ?_
 refine j0 (j1 (j2 (j2 (j3 ?_))))
 refine r_move (.slice A1 a0.length c2) rfl rfl ?_
 refine r_len A1 a0.length c2 rfl rfl Go.Proofs.Try.underlying22 ?_
 refine r_move (.slice A4 a1.length c5) rfl rfl ?_
 refine r_len A4 a1.length c5 rfl rfl Go.Proofs.Try.underlying22 ?_
 refine r_bin (.int .i64 (a0.length : Int)) (.int .i64 (a1.length : Int)) (.bool ((a0.length : Int) != (a1.length : Int))) rfl rfl rfl rfl (b_neq) ?_
 refine j0 (j1 ?_)
 refine if_else hf (fun hc7 hf => ?_) (fun hc7 hf => ?_)
 ·refine c_true rfl hc7 rfl ?_
  refine j2 (j3 ?_)
  refine r_move (.slice A1 a0.length c2) rfl rfl ?_
  refine r_len A1 a0.length c2 rfl rfl Go.Proofs.Try.underlying22 ?_
  refine r_move (.slice A4 a1.length c5) rfl rfl ?_
  refine r_len A4 a1.length c5 rfl rfl Go.Proofs.Try.underlying22 ?_
  obtain ⟨r8, e9, hf⟩ := bind_some hf
  refine r_call [.int .i64 (a0.length : Int), .int .i64 (a1.length : Int)] (evs2 rfl rfl) rfl (ok_semtyperef1_count _ _ _ _ _ _ (RpV.mkInt _ _) (RpV.mkInt _ _) e9) ?_
  intro cn co aw ax
  have ay := E0.x aw
  obtain rfl := RpV.int ax
  refine r_assign (.int .i64 r8) rfl rfl ?_
  refine j0 (j1 (jb (j9 ?_)))
  obtain rfl := Option.some.inj hf
  refine ret_one (.int .i64 r8) rfl ⟨rfl, rfl⟩ ay ?_
  exact (RpV.mkInt _ _)
 refine c_false rfl hc7 rfl ?_
 refine ja (j1 (j2 (j2 (j3 ?_))))
 refine r_assign (.int .i64 0) rfl rfl ?_
 refine j0 (j1 (j4 ?_))
 refine gen_F fun ac ag => ?_
 have az : ac 0 = (.slice A1 a0.length c2) := (ag 0).trans rfl
 have aA : ac 1 = (.slice A4 a1.length c5) := (ag 1).trans rfl
 have aB : ac 5 = (.int .i64 0) := (ag 5).trans rfl
 obtain ⟨aC, aD, hf⟩ := bind_some hf
 refine wp_mono (wp_iter (step := semtyperef1_values_l1 rec_semtyperef1_Compare a0 a1) (fun q a w => ∃ (F : Fr) (τ : S), a = fr 35 F ∧ w = τ.w ∧ Agr [4, 5, 6, 17, 18, 19, 20, 21, 22, 23, 24, 25, 26, 27, 28, 29, 30, 31, 32, 33, 34] F ac ∧ ExtB s0.N s0 τ ∧ Wext s0 τ ∧ F 5 = (.int .i64 q)) (fun o e a w => match o with | .inl q => e = .exit 0 ∧ ∃ (F : Fr) (τ : S), a = fr 35 F ∧ w = τ.w ∧ Agr [4, 5, 6, 17, 18, 19, 20, 21, 22, 23, 24, 25, 26, 27, 28, 29, 30, 31, 32, 33, 34] F ac ∧ ExtB s0.N s0 τ ∧ Wext s0 τ ∧ F 5 = (.int .i64 q) | .inr r => e = .ret ∧ ∃ (F : Fr) (τ : S) (va : Value), a = fr 35 F ∧ w = τ.w ∧ ExtB s0.N s0 τ ∧ ResV Go.Proofs.Try.prog 35 F τ.w (.tmp 4) va ∧ RpV τ r va) (by rintro (_ | _) a w ⟨h, _⟩ <;> cases h) ?_ _ _ _ _ _ aD ?_) ?_
 ·intro aa fl a w hf hI
  obtain ⟨cp, cq, rfl, rfl, ae, ah, af, ad⟩ := hI
  unfold semtyperef1_values_l1 at hf
  have ak := (ae 0 rfl).trans az
  have aE := (ae 1 rfl).trans aA
  refine j2 (j2 (j3 ?_))
  refine r_move (.int .i64 aa) ad rfl ?_
  refine r_move (.slice A1 a0.length c2) ak rfl ?_
  refine r_len A1 a0.length c2 rfl rfl Go.Proofs.Try.underlying22 ?_
  refine r_bin (.int .i64 aa) (.int .i64 (a0.length : Int)) (.bool (decide (aa < (a0.length : Int)))) rfl rfl rfl rfl (b_lss) ?_
  refine j0 (j1 ?_)
  refine if_else hf (fun ai hf => ?_) (fun ai hf => ?_)
  ·refine c_true rfl ai rfl ?_
   refine ja (j1 (j2 (j4 (j2 ?_))))
   obtain ⟨x31, aF, hf⟩ := bind_some hf
   obtain ⟨x33, aG, hf⟩ := bind_some hf
   obtain ⟨ab, aH, hf⟩ := bind_some hf
   refine wp_draw (B := frExt s0.N) [some 23, some 24, some 25, some 26, some 27, some 28, some 29, some 30, some 31, some 6] [[], [], [0, 1], [0, 1, 2], [], [], [4, 5], [4, 5, 6], [0, 1, 2, 3, 4, 5, 6, 7], [0, 1, 2, 3, 4, 5, 6, 7, 8]] [Fct.eqv (.slice A1 a0.length c2), Fct.eqv (.int .i64 aa), Fct.elem (x31 : Val), Fct.data (x31 : Val), Fct.eqv (.slice A4 a1.length c5), Fct.eqv (.int .i64 aa), Fct.elem (x33 : Val), Fct.data (x33 : Val), Fct.eqv (.int .i64 ab), Fct.eqv (.int .i64 ab)] (fun D F τ => True) (by kernel_rfl) rfl (by decide) (by decide) trivial (by decide) (by decide) ⟨?_, ?_, ?_, ?_, ?_, ?_, ?_, ?_, ?_, ?_, trivial⟩ ?_
   ·intro cr cs ct cu cv cw cx cy cz aI cA
    refine r_move (.slice A1 a0.length c2) ((aI 0 rfl).trans ak) rfl ?_
    exact d0 ⟨rfl, trivial⟩
   ·intro cB cC cD cE cF cG cH cI cJ aJ cK
    refine r_move (.int .i64 aa) ((aJ 5 rfl).trans ad) rfl ?_
    exact d0 ⟨rfl, trivial⟩
   ·intro cL cM cN cO cP cQ cR aK cS cT al
    refine r_indexAddr (T := 22) (E := 27) ((h3.mono af).mono aK) aF (al 0 rfl 23 rfl) (al 1 rfl 24 rfl) rfl rfl Go.Proofs.Try.underlying22 sz27 ?_
    intro cU cV cW aL aM
    obtain ⟨cX, cY, cZ, c0, c1, c3, c4, c6, rfl, aN, aO, aP, aQ⟩ := Val.cells_iff.1 aL
    exact d0 ⟨⟨_, _, _, rfl, (Val.cells_iff.2 ⟨_, _, _, _, _, _, _, _, rfl, aN, aO, aP, aQ⟩), aM⟩, trivial⟩
   ·intro c7 aR aS c8 c9 da db dc dd de aT
    obtain ⟨aU, aV, df, aW, aX, aY⟩ : (Fct.elem (x31 : Val)).p (aR 25) aS := aT 2 rfl 25 rfl
    obtain ⟨aZ, a2, a3, a4, a5, a6, a7, a8, rfl, a9, ba, bb, bc⟩ := Val.cells_iff.1 aX
    refine r_load aU aV (Val.ag x31 aZ a2 a3 a4 a5 a6 a7 a8) aW rfl (loads_row tr27 aY.2) ?_
    exact d0 ⟨(Val.rpvMk (v := x31) a9 ba bb bc), trivial⟩
   ·intro dg dh di dj dk dl dm dn dp bd dq
    refine r_move (.slice A4 a1.length c5) ((bd 1 rfl).trans aE) rfl ?_
    exact d0 ⟨rfl, trivial⟩
   ·intro dr ds dt du dv dw dx dy dz be dA
    refine r_move (.int .i64 aa) ((be 5 rfl).trans ad) rfl ?_
    exact d0 ⟨rfl, trivial⟩
   ·intro dB dC dD dE dF dG dH bf dI dJ am
    refine r_indexAddr (T := 22) (E := 27) ((h6.mono af).mono bf) aG (am 4 rfl 27 rfl) (am 5 rfl 28 rfl) rfl rfl Go.Proofs.Try.underlying22 sz27 ?_
    intro dK dL dM bg bh
    obtain ⟨dN, dO, dP, dQ, dR, dS, dT, dU, rfl, bi, bj, bk, bl⟩ := Val.cells_iff.1 bg
    exact d0 ⟨⟨_, _, _, rfl, (Val.cells_iff.2 ⟨_, _, _, _, _, _, _, _, rfl, bi, bj, bk, bl⟩), bh⟩, trivial⟩
   ·intro dV bm bn dW dX dY dZ d1 d2 d3 bo
    obtain ⟨bp, bq, d4, br, bs, bt⟩ : (Fct.elem (x33 : Val)).p (bm 29) bn := bo 6 rfl 29 rfl
    obtain ⟨bu, bv, bw, bx, bz, bA, bB, bC, rfl, bD, bE, bF, bG⟩ := Val.cells_iff.1 bs
    refine r_load bp bq (Val.ag x33 bu bv bw bx bz bA bB bC) br rfl (loads_row tr27 bt.2) ?_
    exact d0 ⟨(Val.rpvMk (v := x33) bD bE bF bG), trivial⟩
   ·intro d5 an ao d6 d7 d8 bH d9 ea eb ap
    have bI := ah.trans bH
    have bJ : RpV ao (x31 : Val) (an 26) := ap 3 rfl 26 rfl
    obtain ⟨bK, bL, bM, bN, bO, bP, bQ, bR, bS, bT, bU, bV, bW⟩ := Val.rpv bJ
    have bX : RpV ao (x33 : Val) (an 30) := ap 7 rfl 30 rfl
    obtain ⟨bY, bZ, b0, b1, b2, b3, b4, b5, b6, b7, b8, b9, ca⟩ := Val.rpv bX
    refine r_call [Val.ag x31 bK bL bM bN bO bP bQ bR, Val.ag x33 bY bZ b0 b1 b2 b3 b4 b5] (evs2 bS b6) rfl (hrec_semtyperef1_Compare _ _ _ _ _ _ (Val.rpvMk (v := x31) bT bU bV bW) (Val.rpvMk (v := x33) b7 b8 b9 ca) aH) ?_
    intro ec ed aq cb
    obtain rfl := RpV.int cb
    refine j0 ?_
    exact ⟨_, _, rfl, rfl, (ExtB.refl _ _).trans (aq.mono bI.size), (Wext.refl _).trans aq.wext, rfl, trivial⟩
   ·intro ee ef eg eh ei ej ek el em en cc
    refine r_assign (.int .i64 ab) (cc 8 rfl 31 rfl) rfl ?_
    exact d0 ⟨rfl, trivial⟩
   intro cd eo ce cf ep ar cg
   have au := ah.trans ce
   have ch := (ar 5 rfl).trans ad
   have av : cd 6 = (.int .i64 ab) := cg 9 6 rfl
   refine j1 (j2 (j3 ?_))
   refine r_move (.int .i64 ab) av rfl ?_
   refine r_bin (.int .i64 ab) (.int .i64 0) (.bool (ab != 0)) rfl rfl rfl rfl (b_neq) ?_
   refine j0 (j1 ?_)
   refine if_else hf (fun aj hf => ?_) (fun aj hf => ?_)
   ·refine c_true rfl aj rfl ?_
    refine j2 (j3 ?_)
    refine r_move (.int .i64 ab) av rfl ?_
    refine r_assign (.int .i64 ab) rfl rfl ?_
    refine j0 (j1 (jb (j7 (j9 ?_))))
    obtain rfl := Option.some.inj hf
    exact ⟨rfl, _, _, (.int .i64 ab), rfl, rfl, au, ⟨rfl, rfl⟩, (RpV.mkInt _ _)⟩
   refine c_false rfl aj rfl ?_
   refine ja (j5 (j1 (j3 ?_)))
   refine r_move (.int .i64 aa) ch rfl ?_
   refine r_bin (.int .i64 aa) (.int .i64 1) (.int .i64 (w64 (aa + 1))) rfl rfl rfl rfl (b_add) ?_
   refine r_assign (.int .i64 (w64 (aa + 1))) rfl rfl ?_
   refine j0 ?_
   obtain rfl := Option.some.inj hf
   exact ⟨rfl, _, _, rfl, rfl, (((((((((((ae).put rfl).put rfl).put rfl).put rfl).draw ar rfl).put rfl).put rfl).put rfl).put rfl).put rfl), au, (((Wext.refl _).trans af).trans cf), rfl⟩
  refine c_false rfl ai rfl ?_
  refine jc (j8 ?_)
  obtain rfl := Option.some.inj hf
  exact ⟨rfl, _, _, rfl, rfl, (((((ae).put rfl).put rfl).put rfl).put rfl), ah, ((Wext.refl _).trans af), ad⟩
 ·exact ⟨_, _, rfl, rfl, (Agr.refl _ _), E0, (Wext.refl _), aB⟩
 intro e a w hp
 rcases aC with eq | r
 ·replace hf := onEnd_inl hf
  obtain ⟨rfl, er, es, rfl, rfl, et, ci, eu, ev⟩ := hp
  refine j6 (j1 (j2 (j3 ?_)))
  refine r_assign (.int .i64 0) rfl rfl ?_
  refine j0 (j1 (jb ?_))
  obtain rfl := Option.some.inj hf
  refine ret_one (.int .i64 0) rfl ⟨rfl, rfl⟩ ci ?_
  exact (RpV.mkInt _ _)
 replace hf := onEnd_inr hf
 obtain ⟨rfl, ew, ex, cj, rfl, rfl, ck, cl, cm⟩ := hp
 refine j7 (j9 ?_)
 obtain rfl := Option.some.inj hf
 refine ret_one cj rfl cl ck ?_
 exact cm

set_option maxHeartbeats 1600000 in
set_option maxRecDepth 100000 in
theorem okB_semtyperef1_CompareEntries {rec_semtyperef1_Compare : (Val → Val → Option Int)} {rec_semtyperef1_values : ((List Val) → (List Val) → Option Int)} {rec_semtyperef1_CompareEntries : (Ent → Ent → Option Int)} (hrec_semtyperef1_Compare : S_semtyperef1_Compare rec_semtyperef1_Compare) (hrec_semtyperef1_values : S_semtyperef1_values rec_semtyperef1_values) (_hrec_semtyperef1_CompareEntries : S_semtyperef1_CompareEntries rec_semtyperef1_CompareEntries) : S_semtyperef1_CompareEntries (semtyperef1_CompareEntries_B rec_semtyperef1_Compare rec_semtyperef1_values rec_semtyperef1_CompareEntries) := by
 intro s0 v0 v1 a0 a1 r h0 h1 hf
 obtain ⟨A1, c2, A4, c5, A7, c8, ag, ah, ai, aj, rfl, h3, h6, h9, aE, aF⟩ := Ent.rpv h0
 obtain ⟨au, av, ak, al, am, an, ao, ap, aq, ar, rfl, aG, aH, aI, aJ, aK⟩ := Ent.rpv h1
 unfold semtyperef1_CompareEntries_B at hf
 have E0 : ExtB s0.N s0 s0 := ExtB.refl _ _
 refine ctr_of 26 Go.Proofs.Try.func51 rfl rfl rfl rfl ?_
 refine j2 (j3 ?_)
 refine r_box (B := s0.N) 1 E0.size (.agg #[.slice A1 a0.Args.length c2, .bool a0.Fails, .int .i64 a0.Result.Kind, .int .i64 a0.Result.Int_, .string a0.Result.Text, .slice A4 a0.Result.Kids.length c5, .slice A7 a0.Result.Keys.length c8, .slice ag a0.Result.Entries.length ah, .slice ai a0.Result.Labels.length aj]) [.slice A1 a0.Args.length c2, .bool a0.Fails, .int .i64 a0.Result.Kind, .int .i64 a0.Result.Int_, .string a0.Result.Text, .slice A4 a0.Result.Kids.length c5, .slice A7 a0.Result.Keys.length c8, .slice ag a0.Result.Entries.length ah, .slice ai a0.Result.Labels.length aj] rfl rfl rfl ?_
 intro aS ad ac aw
 have aC := E0.x ac
 refine r_box (B := s0.N) 2 aC.size (.agg #[.slice au a1.Args.length av, .bool a1.Fails, .int .i64 a1.Result.Kind, .int .i64 a1.Result.Int_, .string a1.Result.Text, .slice ak a1.Result.Kids.length al, .slice am a1.Result.Keys.length an, .slice ao a1.Result.Entries.length ap, .slice aq a1.Result.Labels.length ar]) [.slice au a1.Args.length av, .bool a1.Fails, .int .i64 a1.Result.Kind, .int .i64 a1.Result.Int_, .string a1.Result.Text, .slice ak a1.Result.Kids.length al, .slice am a1.Result.Keys.length an, .slice ao a1.Result.Entries.length ap, .slice aq a1.Result.Labels.length ar] rfl rfl rfl ?_
 intro aT af aa ay
 have aL := aC.x aa
 refine r_assign (.int .i64 0) rfl rfl ?_
 refine j0 (j1 (j2 (j3 ?_)))
 refine r_fieldAddr ad 0 0 0 rfl rfl fo65_0 rfl ?_
 refine r_load ad 0 (.slice A1 a0.Args.length c2) rfl rfl (loads_one to22 (((aw.ext aa).cell 0).trans rfl)) ?_
 refine r_fieldAddr af 0 0 0 rfl rfl fo65_0 rfl ?_
 refine r_load af 0 (.slice au a1.Args.length av) rfl rfl (loads_one to22 ((ay.cell 0).trans rfl)) ?_
 obtain ⟨ae, aM, hf⟩ := bind_some hf
 refine r_call [.slice A1 a0.Args.length c2, .slice au a1.Args.length av] (evs2 rfl rfl) rfl (hrec_semtyperef1_values _ _ _ _ _ _ (RpV.mkList ((h3.mono ac.wext).mono aa.wext)) (RpV.mkList ((aG.mono ac.wext).mono aa.wext)) aM) ?_
 intro aU aV ab aN
 have ax := aL.x ab
 obtain rfl := RpV.int aN
 refine r_assign (.int .i64 ae) rfl rfl ?_
 refine j0 (j1 (j2 (j2 (j3 ?_))))
 refine r_move (.int .i64 ae) rfl rfl ?_
 refine r_bin (.int .i64 ae) (.int .i64 0) (.bool (ae != 0)) rfl rfl rfl rfl (b_neq) ?_
 refine j0 (j1 ?_)
 refine if_else hf (fun az hf => ?_) (fun az hf => ?_)
 ·refine c_true rfl az rfl ?_
  refine j2 (j3 ?_)
  refine r_move (.int .i64 ae) rfl rfl ?_
  refine r_assign (.int .i64 ae) rfl rfl ?_
  refine j0 (j1 (jb (j9 ?_)))
  obtain rfl := Option.some.inj hf
  refine ret_one (.int .i64 ae) rfl ⟨rfl, rfl⟩ ax ?_
  exact (RpV.mkInt _ _)
 refine c_false rfl az rfl ?_
 refine ja (j1 (j2 (j2 (j3 ?_))))
 refine r_fieldAddr ad 0 1 1 rfl rfl fo65_1 rfl ?_
 refine r_load ad 1 (.bool a0.Fails) rfl rfl (loads_one to4 ((((aw.ext aa).ext ab).cell 1).trans rfl)) ?_
 refine r_fieldAddr af 0 1 1 rfl rfl fo65_1 rfl ?_
 refine r_load af 1 (.bool a1.Fails) rfl rfl (loads_one to4 (((ay.ext ab).cell 1).trans rfl)) ?_
 refine r_bin (.bool a0.Fails) (.bool a1.Fails) (.bool (a0.Fails != a1.Fails)) rfl rfl rfl rfl (b_bneq Go.Proofs.Try.underlying4) ?_
 refine j0 (j1 ?_)
 refine if_else hf (fun aA hf => ?_) (fun aA hf => ?_)
 ·refine c_true rfl aA rfl ?_
  refine j2 (j2 (j3 ?_))
  refine r_fieldAddr ad 0 1 1 rfl rfl fo65_1 rfl ?_
  refine r_load ad 1 (.bool a0.Fails) rfl rfl (loads_one to4 ((((aw.ext aa).ext ab).cell 1).trans rfl)) ?_
  refine j0 (j1 ?_)
  refine if_else hf (fun aB hf => ?_) (fun aB hf => ?_)
  ·refine c_true rfl aB rfl ?_
   refine j2 (j3 ?_)
   refine r_assign (.int .i64 (-1)) rfl rfl ?_
   refine j0 (j1 (jb (j9 (j9 ?_))))
   obtain rfl := Option.some.inj hf
   refine ret_one (.int .i64 (-1)) rfl ⟨rfl, rfl⟩ ax ?_
   exact (RpV.mkInt _ _)
  refine c_false rfl aB rfl ?_
  refine ja (j1 (j2 (j3 ?_)))
  refine r_assign (.int .i64 1) rfl rfl ?_
  refine j0 (j1 (jb (j9 ?_)))
  obtain rfl := Option.some.inj hf
  refine ret_one (.int .i64 1) rfl ⟨rfl, rfl⟩ ax ?_
  exact (RpV.mkInt _ _)
 refine c_false rfl aA rfl ?_
 refine ja (j1 (j2 (j3 ?_)))
 refine r_fieldAddr ad 0 2 2 rfl rfl fo65_2 rfl ?_
 refine r_load ad 2 (Val.ag a0.Result A4 c5 A7 c8 ag ah ai aj) rfl rfl (loads_row tr27 (Blk.range ((aw.ext aa).ext ab) 2 (Val.cs a0.Result A4 c5 A7 c8 ag ah ai aj) rfl)) ?_
 refine r_fieldAddr af 0 2 2 rfl rfl fo65_2 rfl ?_
 refine r_load af 2 (Val.ag a1.Result ak al am an ao ap aq ar) rfl rfl (loads_row tr27 (Blk.range (ay.ext ab) 2 (Val.cs a1.Result ak al am an ao ap aq ar) rfl)) ?_
 obtain ⟨aD, aO, hf⟩ := bind_some hf
 refine r_call [Val.ag a0.Result A4 c5 A7 c8 ag ah ai aj, Val.ag a1.Result ak al am an ao ap aq ar] (evs2 rfl rfl) rfl (hrec_semtyperef1_Compare _ _ _ _ _ _ (Val.rpvMk (v := a0.Result) (((h6.mono ac.wext).mono aa.wext).mono ab.wext) (((h9.mono ac.wext).mono aa.wext).mono ab.wext) (((aE.mono ac.wext).mono aa.wext).mono ab.wext) (((aF.mono ac.wext).mono aa.wext).mono ab.wext)) (Val.rpvMk (v := a1.Result) (((aH.mono ac.wext).mono aa.wext).mono ab.wext) (((aI.mono ac.wext).mono aa.wext).mono ab.wext) (((aJ.mono ac.wext).mono aa.wext).mono ab.wext) (((aK.mono ac.wext).mono aa.wext).mono ab.wext)) aO) ?_
 intro aW aX aP aQ
 have aR := ax.x aP
 obtain rfl := RpV.int aQ
 refine r_assign (.int .i64 aD) rfl rfl ?_
 refine j0 (j1 (jb ?_))
 obtain rfl := Option.some.inj hf
 refine ret_one (.int .i64 aD) rfl ⟨rfl, rfl⟩ aR ?_
 exact (RpV.mkInt _ _)

theorem ok_scc_semtyperef1_Compare : ∀ n : Nat, S_semtyperef1_Compare (scc_semtyperef1_Compare n).1 ∧ S_semtyperef1_values (scc_semtyperef1_Compare n).2.1 ∧ S_semtyperef1_CompareEntries (scc_semtyperef1_Compare n).2.2
  | 0 => ⟨(by intro _ _ _ _ _ _ _ _ h; cases h), (by intro _ _ _ _ _ _ _ _ h; cases h), (by intro _ _ _ _ _ _ _ _ h; cases h)⟩
  | n + 1 => by
    obtain ⟨h0, h1, h2⟩ := ok_scc_semtyperef1_Compare n
    exact ⟨okB_semtyperef1_Compare h0 h1 h2, okB_semtyperef1_values h0 h1 h2, okB_semtyperef1_CompareEntries h0 h1 h2⟩

theorem ok_semtyperef1_Compare (n : Nat) : S_semtyperef1_Compare (semtyperef1_Compare n) := (ok_scc_semtyperef1_Compare n).1

theorem ok_semtyperef1_values (n : Nat) : S_semtyperef1_values (semtyperef1_values n) := (ok_scc_semtyperef1_Compare n).2.1

theorem ok_semtyperef1_CompareEntries (n : Nat) : S_semtyperef1_CompareEntries (semtyperef1_CompareEntries n) := (ok_scc_semtyperef1_Compare n).2.2

def S_semtyperef1_Equal (f : (Val → Val → Option Bool)) : Prop := ∀ (s0 : S) (v0 : Value) (v1 : Value) (a0 : Val) (a1 : Val) (r : Bool), RpV s0 a0 v0 → RpV s0 a1 v1 → f a0 a1 = some r → Ctr Go.Proofs.Try.prog 26 [v0, v1] s0 (fun v τ => RpV τ r v)

set_option maxHeartbeats 1600000 in
set_option maxRecDepth 100000 in
theorem ok_semtyperef1_Equal (fuel : Nat) : S_semtyperef1_Equal (semtyperef1_Equal fuel) := by
 intro s0 v0 v1 a0 a1 r h0 h1 hf
 obtain ⟨A1, c2, A4, c5, A7, c8, ac, ad, rfl, h3, h6, h9, ao⟩ := Val.rpv h0
 obtain ⟨ae, af, ag, ah, ai, aj, ak, al, rfl, ap, aq, ar, au⟩ := Val.rpv h1
 unfold semtyperef1_Equal at hf
 have E0 : ExtB s0.N s0 s0 := ExtB.refl _ _
 refine ctr_of 9 Go.Proofs.Try.func26 rfl rfl rfl rfl ?_
 refine j2 (j3 ?_)
 refine r_box (B := s0.N) 1 E0.size (Val.ag a0 A1 c2 A4 c5 A7 c8 ac ad) (Val.cs a0 A1 c2 A4 c5 A7 c8 ac ad) rfl rfl rfl ?_
 intro aE av ab aw
 have an := E0.x ab
 refine r_box (B := s0.N) 2 an.size (Val.ag a1 ae af ag ah ai aj ak al) (Val.cs a1 ae af ag ah ai aj ak al) rfl rfl rfl ?_
 intro aF ax aa ay
 have az := an.x aa
 refine r_assign (.bool false) rfl rfl ?_
 refine j0 (j1 (j2 (j3 ?_)))
 refine r_load av 0 (Val.ag a0 A1 c2 A4 c5 A7 c8 ac ad) rfl rfl (loads_row tr27 (Blk.range (aw.ext aa) 0 (Val.cs a0 A1 c2 A4 c5 A7 c8 ac ad) rfl)) ?_
 refine r_load ax 0 (Val.ag a1 ae af ag ah ai aj ak al) rfl rfl (loads_row tr27 (Blk.range ay 0 (Val.cs a1 ae af ag ah ai aj ak al) rfl)) ?_
 obtain ⟨am, aA, hf⟩ := bind_some hf
 refine r_call [Val.ag a0 A1 c2 A4 c5 A7 c8 ac ad, Val.ag a1 ae af ag ah ai aj ak al] (evs2 rfl rfl) rfl ((ok_semtyperef1_Compare fuel) _ _ _ _ _ _ (Val.rpvMk (v := a0) ((h3.mono ab.wext).mono aa.wext) ((h6.mono ab.wext).mono aa.wext) ((h9.mono ab.wext).mono aa.wext) ((ao.mono ab.wext).mono aa.wext)) (Val.rpvMk (v := a1) ((ap.mono ab.wext).mono aa.wext) ((aq.mono ab.wext).mono aa.wext) ((ar.mono ab.wext).mono aa.wext) ((au.mono ab.wext).mono aa.wext)) aA) ?_
 intro aG aH aB aC
 have aD := az.x aB
 obtain rfl := RpV.int aC
 refine r_bin (.int .i64 am) (.int .i64 0) (.bool (am == 0)) rfl rfl rfl rfl (b_eql) ?_
 refine r_assign (.bool (am == 0)) rfl rfl ?_
 refine j0 (j1 (jb ?_))
 obtain rfl := Option.some.inj hf
 refine ret_one (.bool (am == 0)) rfl ⟨rfl, rfl⟩ aD ?_
 exact (RpV.mkBool _ _)

def S_semtyperef1_entries (f : ((List Ent) → Option (List Ent))) : Prop := ∀ (s0 : S) (v0 : Value) (a0 : (List Ent)) (r : (List Ent)), RpV s0 a0 v0 → f a0 = some r → Ctr Go.Proofs.Try.prog 94 [v0] s0 (fun v τ => RpV τ r v)

end Go.Sx
