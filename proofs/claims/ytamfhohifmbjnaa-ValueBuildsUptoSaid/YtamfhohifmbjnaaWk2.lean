/- Printed by dec.py. The walks. -/
import Derived.Test.YtamfhohifmbjnaaWk1
namespace Go.Sx
open Go Go.RowKit
attribute [local irreducible] Go.wpList Go.Code.wp Go.Sx.Ctr Go.Sx.CtrE

def S_semtyperef1_Cons (f : (Val → Val → Option Val)) : Prop := ∀ (s0 : S) (v0 : Value) (v1 : Value) (a0 : Val) (a1 : Val) (r : Val), RpV s0 a0 v0 → RpV s0 a1 v1 → f a0 a1 = some r → Ctr Go.Proofs.Try.prog 56 [v0, v1] s0 (fun v τ => RpV τ r v)

set_option maxHeartbeats 1600000 in
set_option maxRecDepth 100000 in
theorem ok_semtyperef1_Cons : S_semtyperef1_Cons semtyperef1_Cons := by
 intro s0 v0 v1 a0 a1 r h0 h1 hf
 obtain ⟨A1, c2, A4, c5, A7, c8, af, ag, rfl, h3, h6, h9, aw⟩ := Val.rpv h0
 obtain ⟨ah, ai, aj, ak, al, am, an, ao, rfl, ax, ay, az, aA⟩ := Val.rpv h1
 unfold semtyperef1_Cons at hf
 have E0 : ExtB s0.N s0 s0 := ExtB.refl _ _
 refine ctr_of 9 Go.Proofs.Try.func56 rfl rfl rfl rfl ?_
 refine j2 (j3 ?_)
 refine r_box (B := s0.N) 1 E0.size (Val.ag a0 A1 c2 A4 c5 A7 c8 af ag) (Val.cs a0 A1 c2 A4 c5 A7 c8 af ag) rfl rfl rfl ?_
 intro aK aB ac aC
 have ap := E0.x ac
 refine r_box (B := s0.N) 2 ap.size (Val.ag a1 ah ai aj ak al am an ao) (Val.cs a1 ah ai aj ak al am an ao) rfl rfl rfl ?_
 intro aL aD ab aE
 have aq := ap.x ab
 refine r_alloc (B := s0.N) 3 aq.size _ [.int .i64 0, .int .i64 0, .string (⟨#[]⟩), nl Val, nl Key, nl Ent, nl ByteArray] ti27 rfl ?_
 intro aM aN aa aF
 have ar := aq.x aa
 refine j0 (j1 (j2 (j3 ?_)))
 refine r_load aB 0 (Val.ag a0 A1 c2 A4 c5 A7 c8 af ag) rfl rfl (loads_row tr27 (Blk.range ((aC.ext ab).ext aa) 0 (Val.cs a0 A1 c2 A4 c5 A7 c8 af ag) rfl)) ?_
 refine r_load aD 0 (Val.ag a1 ah ai aj ak al am an ao) rfl rfl (loads_row tr27 (Blk.range (aE.ext aa) 0 (Val.cs a1 ah ai aj ak al am an ao) rfl)) ?_
 refine r_buildSlice (B := s0.N) (E := 27) 4 ar.size ts22 (xs := [a0, a1]) [Val.ag a0 A1 c2 A4 c5 A7 c8 af ag, Val.ag a1 ah ai aj ak al am an ao] (eps_cons rfl (eps_cons rfl eps_nil)) rfl rfl rfl (by decide) rfl (by simp [Value.cells, Rp.sz]) ⟨_, _, rfl, (Val.cells_iff.2 ⟨_, _, _, _, _, _, _, _, rfl, (((h3.mono ac.wext).mono ab.wext).mono aa.wext), (((h6.mono ac.wext).mono ab.wext).mono aa.wext), (((h9.mono ac.wext).mono ab.wext).mono aa.wext), (((aw.mono ac.wext).mono ab.wext).mono aa.wext)⟩), ⟨_, _, rfl, (Val.cells_iff.2 ⟨_, _, _, _, _, _, _, _, rfl, (((ax.mono ac.wext).mono ab.wext).mono aa.wext), (((ay.mono ac.wext).mono ab.wext).mono aa.wext), (((az.mono ac.wext).mono ab.wext).mono aa.wext), (((aA.mono ac.wext).mono ab.wext).mono aa.wext)⟩), rfl⟩⟩ ?_
 intro aO ad ae au aG
 have aH := ar.x au
 refine r_build tst27 [(0, .int .i64 7), (3, .slice ad [a0, a1].length ae)] [.int .i64 7, .int .i64 0, .string (⟨#[]⟩), .slice ad [a0, a1].length ae, nl Key, nl Ent, nl ByteArray] (eps_cons rfl (eps_cons rfl eps_nil)) rfl rfl ?_
 refine r_store (aF.ext au) 0 (.agg #[.int .i64 7, .int .i64 0, .string (⟨#[]⟩), .slice ad [a0, a1].length ae, nl Key, nl Ent, nl ByteArray]) [.int .i64 7, .int .i64 0, .string (⟨#[]⟩), .slice ad [a0, a1].length ae, nl Key, nl Ent, nl ByteArray] [.int .i64 7, .int .i64 0, .string (⟨#[]⟩), .slice ad [a0, a1].length ae, nl Key, nl Ent, nl ByteArray] rfl rfl rfl rfl rfl sz27 rfl rfl rfl ?_
 intro aP av aI
 have aJ := aH.y av
 refine j0 (j1 (jb ?_))
 obtain rfl := Option.some.inj hf
 refine ret_one (.agg #[.int .i64 7, .int .i64 0, .string (⟨#[]⟩), .slice ad [a0, a1].length ae, nl Key, nl Ent, nl ByteArray]) rfl ⟨rfl, _, rfl, loads_row tr27 (Blk.range aI 0 [.int .i64 7, .int .i64 0, .string (⟨#[]⟩), .slice ad [a0, a1].length ae, nl Key, nl Ent, nl ByteArray] rfl)⟩ aJ ?_
 exact (Val.rpvMk (v := (Val.mk 7 0 (⟨#[]⟩) [a0, a1] ([] : List Key) ([] : List Ent) ([] : List ByteArray))) ((aG.mod av rfl).sl) (Sl.nil_ _ _ _ (Nat.zero_le _)) (Sl.nil_ _ _ _ (Nat.zero_le _)) (Sl.nil_ _ _ _ (Nat.zero_le _)))

def S_semtypebase_Source_Next (f : (Semtypebase_Source → Int → Option (Int × Semtypebase_Source))) : Prop := ∀ (s0 : S) (v1 : Value) (B0 id0 b0 : Nat) (cs0 : List Value) (a0 : Semtypebase_Source) (a1 : Int) (r : (Int × Semtypebase_Source)), Rp.cells s0 a0 cs0 → Blk B0 id0 s0 b0 53 cs0 → 1000000 ≤ id0 → RpV s0 a1 v1 → f a0 a1 = some r → CtrE Go.Proofs.Try.prog 72 [.pointer (some ⟨b0, 0, none⟩), v1] s0 (Mod B0 id0 s0) (fun v τ => RpV τ r.1 v ∧ PtrR B0 id0 53 τ r.2 b0)

set_option maxHeartbeats 1600000 in
set_option maxRecDepth 100000 in
theorem ok_semtypebase_Source_Next : S_semtypebase_Source_Next semtypebase_Source_Next := by
 intro s0 v1 B0 id0 b0 cs0 a0 a1 r hc0 hb0 hid0 h1 hf
 obtain ⟨A1, c2, rfl, h3⟩ := Semtypebase_Source.cells_iff.1 hc0
 obtain rfl := RpV.int h1
 unfold semtypebase_Source_Next at hf
 have E0 : ExtP s0.N B0 id0 s0 s0 := ExtP.refl _ _ _ _
 refine ctr_ofE 46 Go.Proofs.Try.func72 rfl rfl rfl rfl ?_
 refine j2 (j3 ?_)
 refine r_assign (.int .i64 0) rfl rfl ?_
 refine j0 (j1 (j2 (j2 ?_)))
 refine if_else hf (fun hc4 hf => ?_) (fun hc4 hf => ?_)
 ·refine wp_draw (B := frP s0.N B0 id0) [some 6, some 7, some 8, some 9, some 10, some 11, some 12, some 13, some 14, some 15, some 16, some 17, some 18, some 19] [[], [0], [0, 1], [0, 1, 2], [0, 1, 2, 3], [0, 1, 2, 3, 4], [0, 1, 2, 3, 4, 5], [0, 1, 2], [0, 1, 2, 7], [0, 1, 2, 7, 8], [0, 1, 2, 7, 8, 9], [0, 1, 2, 7, 8, 9, 10], [0, 1, 2, 3, 4, 5, 6, 7, 8, 9, 10, 11], [0, 1, 2, 3, 4, 5, 6, 7, 8, 9, 10, 11, 12]] [Fct.eqv (.int .i64 a1), Fct.eqv (.bool (decide (a1 < 1))), Fct.eqv (.bool (decide (a1 < 1))), Fct.eqv undef, Fct.eqv undef, Fct.eqv undef, Fct.eqv undef, Fct.eqv undef, Fct.eqv undef, Fct.eqv undef, Fct.eqv undef, Fct.eqv undef, Fct.eqv undef, Fct.eqv (.bool true)] (fun D F τ => (Blk B0 id0 τ b0 53 [.slice A1 a0.L.length c2, .int .i64 a0.At])) (by kernel_rfl) rfl (by decide) (by decide) (hb0.ext (ext_draw _)) (by decide) (by decide) ⟨?_, ?_, ?_, ?_, ?_, ?_, ?_, ?_, ?_, ?_, ?_, ?_, ?_, ?_, trivial⟩ ?_
  ·intro D8 F9 dh di dj dk dl dm aT aU dn
   have aV := aT
   refine r_move (.int .i64 a1) ((aU 1 rfl).trans rfl) rfl ?_
   exact d0 ⟨rfl, aV⟩
  ·intro dp dq dr ds dt du dv dw aW dx aX
   have aY := aW
   refine r_bin (.int .i64 a1) (.int .i64 1) (.bool (decide (a1 < 1))) (aX 0 rfl 6 rfl) rfl rfl rfl (b_lss) ?_
   exact d0 ⟨rfl, aY⟩
  ·intro dy dz dA dB dC dD dE dF aZ dG a2
   have a3 := aZ
   refine r_move (.bool (decide (a1 < 1))) (a2 1 rfl 7 rfl) rfl ?_
   exact d0 ⟨rfl, a3⟩
  ·intro dH dI dJ dK dL dM dN dO a4 dP a5
   have a6 := a4
   refine Or.inr ⟨decide (a1 < 1), (fun d hd => by cases hd; exact (a5 2 rfl 8 rfl)), fun h => Bool.noConfusion (Eq.trans (Eq.symm (hc4 : (decide (a1 < 1)) = true)) h), fun _ => ⟨rfl, ?_⟩⟩
   exact a6
  ·intro dQ a7 dR dS dT dU dV dW a8 dX aj
   have a9 := a8
   have dY : a7 9 = undef := aj 3 rfl 9 rfl
   refine Or.inr ⟨decide (a1 < 1), (fun d hd => by cases hd; exact (aj 2 rfl 8 rfl)), fun h => Bool.noConfusion (Eq.trans (Eq.symm (hc4 : (decide (a1 < 1)) = true)) h), fun _ => ⟨rfl, ?_⟩⟩
   exact a9
  ·intro dZ ba d1 d2 d3 d4 d5 d6 bb d7 ak
   have bc := bb
   have d8 : ba 10 = undef := ak 4 rfl 10 rfl
   refine Or.inr ⟨decide (a1 < 1), (fun d hd => by cases hd; exact (ak 2 rfl 8 rfl)), fun h => Bool.noConfusion (Eq.trans (Eq.symm (hc4 : (decide (a1 < 1)) = true)) h), fun _ => ⟨rfl, ?_⟩⟩
   exact bc
  ·intro d9 bd ea eb ec ed ee ef be eg al
   have bf := be
   have eh : bd 11 = undef := al 5 rfl 11 rfl
   refine Or.inr ⟨decide (a1 < 1), (fun d hd => by cases hd; exact (al 2 rfl 8 rfl)), fun h => Bool.noConfusion (Eq.trans (Eq.symm (hc4 : (decide (a1 < 1)) = true)) h), fun _ => ⟨rfl, ?_⟩⟩
   exact bf
  ·intro ei ej ek el em en eo ep bg eq bh
   have bi := bg
   refine Or.inr ⟨decide (a1 < 1), (fun d hd => by cases hd; exact (bh 2 rfl 8 rfl)), fun h => Bool.noConfusion (Eq.trans (Eq.symm (hc4 : (decide (a1 < 1)) = true)) h), fun _ => ⟨rfl, ?_⟩⟩
   exact bi
  ·intro er bj es et eu ev ew ex bk ey am
   have bl := bk
   have ez : bj 13 = undef := am 7 rfl 13 rfl
   refine Or.inr ⟨decide (a1 < 1), (fun d hd => by cases hd; exact (am 2 rfl 8 rfl)), fun h => Bool.noConfusion (Eq.trans (Eq.symm (hc4 : (decide (a1 < 1)) = true)) h), fun _ => ⟨rfl, ?_⟩⟩
   exact bl
  ·intro eA bm eB eC eD eE eF eG bn eH an
   have bo := bn
   have eI : bm 14 = undef := an 8 rfl 14 rfl
   refine Or.inr ⟨decide (a1 < 1), (fun d hd => by cases hd; exact (an 2 rfl 8 rfl)), fun h => Bool.noConfusion (Eq.trans (Eq.symm (hc4 : (decide (a1 < 1)) = true)) h), fun _ => ⟨rfl, ?_⟩⟩
   exact bo
  ·intro eJ bp eK eL eM eN eO eP bq eQ ao
   have br := bq
   have eR : bp 15 = undef := ao 9 rfl 15 rfl
   refine Or.inr ⟨decide (a1 < 1), (fun d hd => by cases hd; exact (ao 2 rfl 8 rfl)), fun h => Bool.noConfusion (Eq.trans (Eq.symm (hc4 : (decide (a1 < 1)) = true)) h), fun _ => ⟨rfl, ?_⟩⟩
   exact br
  ·intro eS bs eT eU eV eW eX eY bt eZ ap
   have bu := bt
   have e0 : bs 16 = undef := ap 10 rfl 16 rfl
   refine Or.inr ⟨decide (a1 < 1), (fun d hd => by cases hd; exact (ap 2 rfl 8 rfl)), fun h => Bool.noConfusion (Eq.trans (Eq.symm (hc4 : (decide (a1 < 1)) = true)) h), fun _ => ⟨rfl, ?_⟩⟩
   exact bu
  ·intro e1 aq e2 e3 e4 e5 e6 e7 bv e8 ab
   have bw := bv
   have e9 : aq 12 = undef := ab 6 rfl 12 rfl
   have fa : aq 17 = undef := ab 11 rfl 17 rfl
   refine Or.inr ⟨decide (a1 < 1), (fun d hd => by cases hd; exact (ab 2 rfl 8 rfl)), fun h => Bool.noConfusion (Eq.trans (Eq.symm (hc4 : (decide (a1 < 1)) = true)) h), fun _ => ⟨rfl, ?_⟩⟩
   exact bw
  ·intro fb bx fc fd fe ff fg fh bz fj ar
   have bA := bz
   have fk : bx 18 = undef := ar 12 rfl 18 rfl
   refine r_pick_t (c := decide (a1 < 1)) (.bool true) (ar 2 rfl 8 rfl) hc4 rfl rfl rfl rfl ?_
   exact d0 ⟨rfl, bA⟩
  intro fl fm bB bC bD fn bE
  have bF := E0.trans bB
  have bG := bD
  have bH := bG
  refine j1 ?_
  refine c_true (bE 13 19 rfl) rfl rfl ?_
  refine j2 (j3 ?_)
  refine r_assign (.int .i64 0) rfl rfl ?_
  refine j0 (j1 (jb (j9 ?_)))
  obtain rfl := Option.some.inj hf
  refine ret_oneE (.int .i64 0) rfl ⟨rfl, rfl⟩ bF.mod_ ?_
  exact ⟨(RpV.mkInt _ _), _, (Semtypebase_Source.cells_iff.2 ⟨_, _, rfl, (h3.mono bC)⟩), bH⟩
 refine wp_draw (B := frP s0.N B0 id0) [some 6, some 7, some 8, some 9, some 10, some 11, some 12, some 13, some 14, some 15, some 16, some 17, some 18, some 19] [[], [0], [0, 1], [0, 1, 2], [0, 1, 2, 3], [0, 1, 2, 3, 4], [0, 1, 2, 3, 4, 5], [0, 1, 2], [0, 1, 2, 7], [0, 1, 2, 7, 8], [0, 1, 2, 7, 8, 9], [0, 1, 2, 7, 8, 9, 10], [0, 1, 2, 3, 4, 5, 6, 7, 8, 9, 10, 11], [0, 1, 2, 3, 4, 5, 6, 7, 8, 9, 10, 11, 12]] [Fct.eqv (.int .i64 a1), Fct.eqv (.bool (decide (a1 < 1))), Fct.eqv (.bool (decide (a1 < 1))), Fct.eqv (.pointer (some ⟨b0, 0, none⟩)), Fct.eqv (.pointer (some ⟨b0, 0, none⟩)), Fct.eqv (.pointer (some ⟨b0, 1, none⟩)), Fct.eqv (.int .i64 a0.At), Fct.eqv (.pointer (some ⟨b0, 0, none⟩)), Fct.eqv (.pointer (some ⟨b0, 0, none⟩)), Fct.eqv (.pointer (some ⟨b0, 0, none⟩)), Fct.eqv (.slice A1 a0.L.length c2), Fct.eqv (.int .i64 (a0.L.length : Int)), Fct.eqv (.bool (decide ((a0.L.length : Int) ≤ a0.At))), Fct.eqv (.bool (decide ((a0.L.length : Int) ≤ a0.At)))] (fun D F τ => (Blk B0 id0 τ b0 53 [.slice A1 a0.L.length c2, .int .i64 a0.At])) (by kernel_rfl) rfl (by decide) (by decide) (hb0.ext (ext_draw _)) (by decide) (by decide) ⟨?_, ?_, ?_, ?_, ?_, ?_, ?_, ?_, ?_, ?_, ?_, ?_, ?_, ?_, trivial⟩ ?_
 ·intro fo fp fq fr fs ft fu fv bI bJ fw
  have bK := bI
  refine r_move (.int .i64 a1) ((bJ 1 rfl).trans rfl) rfl ?_
  exact d0 ⟨rfl, bK⟩
 ·intro fx fy fz fA fB fC fD fE bL fF bM
  have bN := bL
  refine r_bin (.int .i64 a1) (.int .i64 1) (.bool (decide (a1 < 1))) (bM 0 rfl 6 rfl) rfl rfl rfl (b_lss) ?_
  exact d0 ⟨rfl, bN⟩
 ·intro fG fH fI fJ fK fL fM fN bO fO bP
  have bQ := bO
  refine r_move (.bool (decide (a1 < 1))) (bP 1 rfl 7 rfl) rfl ?_
  exact d0 ⟨rfl, bQ⟩
 ·intro fP fQ fR fS fT fU fV fW bR bS bT
  have bU := bR
  refine Or.inr ⟨decide (a1 < 1), (fun d hd => by cases hd; exact (bT 2 rfl 8 rfl)), fun _ => ?_, fun h => absurd (hc4 : (decide (a1 < 1)) = false) h⟩
  refine r_move (.pointer (some ⟨b0, 0, none⟩)) ((bS 0 rfl).trans rfl) rfl ?_
  exact d0 ⟨rfl, bU⟩
 ·intro fX fY fZ f0 f1 f2 f3 f4 bV f5 au
  have bW := bV
  refine Or.inr ⟨decide (a1 < 1), (fun d hd => by cases hd; exact (au 2 rfl 8 rfl)), fun _ => ?_, fun h => absurd (hc4 : (decide (a1 < 1)) = false) h⟩
  refine r_nilCheck _ (au 3 rfl 9 rfl) rfl ?_
  exact d0 ⟨rfl, bW⟩
 ·intro f6 f7 f8 f9 ga gb gc gd bX ge av
  have bY := bX
  refine Or.inr ⟨decide (a1 < 1), (fun d hd => by cases hd; exact (av 2 rfl 8 rfl)), fun _ => ?_, fun h => absurd (hc4 : (decide (a1 < 1)) = false) h⟩
  refine r_fieldAddr b0 0 1 1 (av 4 rfl 10 rfl) rfl fo53_1 rfl ?_
  exact d0 ⟨rfl, bY⟩
 ·intro gf gg gh gi gj gk gl gm bZ gn aw
  have ax := bZ
  have b1 := ax
  refine Or.inr ⟨decide (a1 < 1), (fun d hd => by cases hd; exact (aw 2 rfl 8 rfl)), fun _ => ?_, fun h => absurd (hc4 : (decide (a1 < 1)) = false) h⟩
  refine r_load b0 1 (.int .i64 a0.At) (aw 5 rfl 11 rfl) rfl (loads_one to3 ((b1.cell 1).trans rfl)) ?_
  exact d0 ⟨rfl, ax⟩
 ·intro go gp gq gr gs gt gu gv b2 b3 b4
  have b5 := b2
  refine Or.inr ⟨decide (a1 < 1), (fun d hd => by cases hd; exact (b4 2 rfl 8 rfl)), fun _ => ?_, fun h => absurd (hc4 : (decide (a1 < 1)) = false) h⟩
  refine r_move (.pointer (some ⟨b0, 0, none⟩)) ((b3 0 rfl).trans rfl) rfl ?_
  exact d0 ⟨rfl, b5⟩
 ·intro gw gx gy gz gA gB gC gD b6 gE ay
  have b7 := b6
  refine Or.inr ⟨decide (a1 < 1), (fun d hd => by cases hd; exact (ay 2 rfl 8 rfl)), fun _ => ?_, fun h => absurd (hc4 : (decide (a1 < 1)) = false) h⟩
  refine r_nilCheck _ (ay 7 rfl 13 rfl) rfl ?_
  exact d0 ⟨rfl, b7⟩
 ·intro gF gG gH gI gJ gK gL gM b8 gN az
  have b9 := b8
  refine Or.inr ⟨decide (a1 < 1), (fun d hd => by cases hd; exact (az 2 rfl 8 rfl)), fun _ => ?_, fun h => absurd (hc4 : (decide (a1 < 1)) = false) h⟩
  refine r_fieldAddr b0 0 0 0 (az 8 rfl 14 rfl) rfl fo53_0 rfl ?_
  exact d0 ⟨rfl, b9⟩
 ·intro gO gP gQ gR gS gT gU gV ca gW aA
  have aB := ca
  have cb := aB
  refine Or.inr ⟨decide (a1 < 1), (fun d hd => by cases hd; exact (aA 2 rfl 8 rfl)), fun _ => ?_, fun h => absurd (hc4 : (decide (a1 < 1)) = false) h⟩
  refine r_load b0 0 (.slice A1 a0.L.length c2) (aA 9 rfl 15 rfl) rfl (loads_one to28 ((cb.cell 0).trans rfl)) ?_
  exact d0 ⟨rfl, aB⟩
 ·intro gX gY gZ g0 g1 g2 g3 g4 cc g5 aC
  have cd := cc
  refine Or.inr ⟨decide (a1 < 1), (fun d hd => by cases hd; exact (aC 2 rfl 8 rfl)), fun _ => ?_, fun h => absurd (hc4 : (decide (a1 < 1)) = false) h⟩
  refine r_len A1 a0.L.length c2 (aC 10 rfl 16 rfl) rfl Go.Proofs.Try.underlying28 ?_
  exact d0 ⟨rfl, cd⟩
 ·intro g6 g7 g8 g9 ha hb hc he ce hg ac
  have cf := ce
  refine Or.inr ⟨decide (a1 < 1), (fun d hd => by cases hd; exact (ac 2 rfl 8 rfl)), fun _ => ?_, fun h => absurd (hc4 : (decide (a1 < 1)) = false) h⟩
  refine r_bin (.int .i64 a0.At) (.int .i64 (a0.L.length : Int)) (.bool (decide ((a0.L.length : Int) ≤ a0.At))) (ac 6 rfl 12 rfl) (ac 11 rfl 17 rfl) rfl rfl (b_geq) ?_
  exact d0 ⟨rfl, cf⟩
 ·intro hh hi hj hk hl hm hn ho cg hp aD
  have ch := cg
  refine r_pick_f (c := decide (a1 < 1)) (.bool (decide ((a0.L.length : Int) ≤ a0.At))) (aD 2 rfl 8 rfl) hc4 (aD 12 rfl 18 rfl) rfl rfl rfl ?_
  exact d0 ⟨rfl, ch⟩
 intro ad hq ci aa cj aE ck
 have aF := E0.trans ci
 have cl := cj
 have aG := cl
 have ae : ad 0 = (.pointer (some ⟨b0, 0, none⟩)) := (aE 0 rfl).trans rfl
 have aH : ad 1 = (.int .i64 a1) := (aE 1 rfl).trans rfl
 have aI : ad 19 = (.bool (decide ((a0.L.length : Int) ≤ a0.At))) := ck 13 19 rfl
 refine j1 ?_
 refine if_else hf (fun af hf => ?_) (fun af hf => ?_)
 ·refine c_true aI af rfl ?_
  refine j2 (j3 ?_)
  refine r_assign (.int .i64 0) rfl rfl ?_
  refine j0 (j1 (jb (j9 ?_)))
  obtain rfl := Option.some.inj hf
  refine ret_oneE (.int .i64 0) rfl ⟨rfl, rfl⟩ aF.mod_ ?_
  exact ⟨(RpV.mkInt _ _), _, (Semtypebase_Source.cells_iff.2 ⟨_, _, rfl, (h3.mono aa)⟩), aG⟩
 refine c_false aI af rfl ?_
 refine ja (j1 (j2 ?_))
 obtain ⟨x456, cm, hf⟩ := bind_some hf
 obtain ⟨x458, cn, hf⟩ := bind_some hf
 refine wp_draw (B := frP s0.N B0 id0) [some 20, some 21, some 22, some 23, some 24, some 25, some 26, some 27, some 28, some 29, some 30, some 31, some 5] [[], [0], [0, 1], [0, 1, 2], [], [4], [4, 5], [4, 5, 6], [0, 1, 2, 3, 4, 5, 6, 7], [0, 1, 2, 3, 4, 5, 6, 7, 8], [], [0, 1, 2, 3, 4, 5, 6, 7, 8, 9, 10], [0, 1, 2, 3, 4, 5, 6, 7, 8, 9, 10, 11]] [Fct.eqv (.pointer (some ⟨b0, 0, none⟩)), Fct.eqv (.pointer (some ⟨b0, 0, none⟩)), Fct.eqv (.pointer (some ⟨b0, 0, none⟩)), Fct.eqv (.slice A1 a0.L.length c2), Fct.eqv (.pointer (some ⟨b0, 0, none⟩)), Fct.eqv (.pointer (some ⟨b0, 0, none⟩)), Fct.eqv (.pointer (some ⟨b0, 1, none⟩)), Fct.eqv (.int .i64 a0.At), Fct.elem (x456 : Int), Fct.eqv (.int .i64 x456), Fct.eqv (.int .i64 a1), Fct.eqv (.int .i64 x458), Fct.eqv (.int .i64 x458)] (fun D F τ => (Blk B0 id0 τ b0 53 [.slice A1 a0.L.length c2, .int .i64 a0.At])) (by kernel_rfl) rfl (by decide) (by decide) (aG.ext (ext_draw _)) (by decide) (by decide) ⟨?_, ?_, ?_, ?_, ?_, ?_, ?_, ?_, ?_, ?_, ?_, ?_, ?_, trivial⟩ ?_
 ·intro hr hs ht hu hv hw hx hy co cp hz
  have cq := co
  refine r_move (.pointer (some ⟨b0, 0, none⟩)) ((cp 0 rfl).trans ae) rfl ?_
  exact d0 ⟨rfl, cq⟩
 ·intro hA hB hC hD hE hF hG hH cr hI cs
  have ct := cr
  refine r_nilCheck _ (cs 0 rfl 20 rfl) rfl ?_
  exact d0 ⟨rfl, ct⟩
 ·intro hJ hK hL hM hN hO hP hQ cu hR cv
  have cw := cu
  refine r_fieldAddr b0 0 0 0 (cv 1 rfl 21 rfl) rfl fo53_0 rfl ?_
  exact d0 ⟨rfl, cw⟩
 ·intro hS hT hU hV hW hX hY hZ cx h0 cy
  have aJ := cx
  have cz := aJ
  refine r_load b0 0 (.slice A1 a0.L.length c2) (cy 2 rfl 22 rfl) rfl (loads_one to28 ((cz.cell 0).trans rfl)) ?_
  exact d0 ⟨rfl, aJ⟩
 ·intro h2 h4 h5 h6 h7 h8 h9 ia cA cB ib
  have cC := cA
  refine r_move (.pointer (some ⟨b0, 0, none⟩)) ((cB 0 rfl).trans ae) rfl ?_
  exact d0 ⟨rfl, cC⟩
 ·intro ic ie ig ih ii ij ik il cD im cE
  have cF := cD
  refine r_nilCheck _ (cE 4 rfl 24 rfl) rfl ?_
  exact d0 ⟨rfl, cF⟩
 ·intro io ip iq ir it iu iv iw cG ix cH
  have cI := cG
  refine r_fieldAddr b0 0 1 1 (cH 5 rfl 25 rfl) rfl fo53_1 rfl ?_
  exact d0 ⟨rfl, cI⟩
 ·intro iy iz iA iB iC iD iE iF cJ iG cK
  have aK := cJ
  have cL := aK
  refine r_load b0 1 (.int .i64 a0.At) (cK 6 rfl 26 rfl) rfl (loads_one to3 ((cL.cell 1).trans rfl)) ?_
  exact d0 ⟨rfl, aK⟩
 ·intro iH iI iJ iK iL iM iN cM cN iO aL
  have cO := cN
  refine r_indexAddr (T := 28) (E := 3) ((h3.mono aa).mono cM) cm (aL 3 rfl 23 rfl) (aL 7 rfl 27 rfl) rfl rfl Go.Proofs.Try.underlying28 sz3 ?_
  intro iP iQ iR cP cQ
  obtain rfl := cP
  exact d0 ⟨⟨_, _, _, rfl, rfl, cQ⟩, cO⟩
 ·intro iS cR cS iT iU iV iW iX cT iY cU
  have cV := cT
  obtain ⟨cW, cX, iZ, cY, cZ, c0⟩ : (Fct.elem (x456 : Int)).p (cR 28) cS := cU 8 rfl 28 rfl
  obtain rfl := cZ
  refine r_load cW cX (.int .i64 x456) cY rfl (loads_one to3 (c0.2 0 _ rfl)) ?_
  exact d0 ⟨rfl, cV⟩
 ·intro i0 i1 i2 i3 i4 i5 i6 i7 c1 c3 i8
  have c4 := c1
  refine r_move (.int .i64 a1) ((c3 1 rfl).trans aH) rfl ?_
  exact d0 ⟨rfl, c4⟩
 ·intro i9 jc jd je jf jg jh ji c5 jj aM
  have c6 := c5
  refine r_bin (.int .i64 x456) (.int .i64 a1) (.int .i64 x458) (aM 9 rfl 29 rfl) (aM 10 rfl 30 rfl) rfl rfl (b_rem cn) ?_
  exact d0 ⟨rfl, c6⟩
 ·intro jk jl jm jn jo jp jq jr c7 js c8
  have c9 := c7
  refine r_assign (.int .i64 x458) (c8 11 rfl 31 rfl) rfl ?_
  exact d0 ⟨rfl, c9⟩
 intro da jt db aN dc aO dd
 have de := aF.trans db
 have df := dc
 have aP := df
 have aQ := (aO 0 rfl).trans ae
 have dg := (aO 1 rfl).trans aH
 have ag : da 5 = (.int .i64 x458) := dd 12 5 rfl
 refine j1 (j2 (j3 ?_))
 refine r_move (.pointer (some ⟨b0, 0, none⟩)) aQ rfl ?_
 refine r_move (.pointer (some ⟨b0, 0, none⟩)) aQ rfl ?_
 refine r_nilCheck _ rfl rfl ?_
 refine r_fieldAddr b0 0 1 1 rfl rfl fo53_1 rfl ?_
 refine r_load b0 1 (.int .i64 a0.At) rfl rfl (loads_one to3 ((aP.cell 1).trans rfl)) ?_
 refine r_bin (.int .i64 a0.At) (.int .i64 1) (.int .i64 (w64 (a0.At + 1))) rfl rfl rfl rfl (b_add) ?_
 refine r_nilCheck _ rfl rfl ?_
 refine r_fieldAddr b0 0 1 1 rfl rfl fo53_1 rfl ?_
 refine r_store aP 1 (.int .i64 (w64 (a0.At + 1))) [.int .i64 (w64 (a0.At + 1))] [.slice A1 a0.L.length c2, .int .i64 (w64 (a0.At + 1))] rfl rfl rfl rfl rfl sz3 rfl rfl rfl ?_
 intro ju ah aR
 have aS := de.z ah
 refine j0 (j1 (j2 (j2 (j3 ?_))))
 refine r_move (.int .i64 x458) ag rfl ?_
 refine r_bin (.int .i64 x458) (.int .i64 0) (.bool (decide (x458 < 0))) rfl rfl rfl rfl (b_lss) ?_
 refine j0 (j1 ?_)
 refine if_else hf (fun ai hf => ?_) (fun ai hf => ?_)
 ·refine c_true rfl ai rfl ?_
  refine j3 ?_
  refine r_move (.int .i64 x458) ag rfl ?_
  refine r_move (.int .i64 a1) dg rfl ?_
  refine r_bin (.int .i64 x458) (.int .i64 a1) (.int .i64 (w64 (x458 + a1))) rfl rfl rfl rfl (b_add) ?_
  refine r_assign (.int .i64 (w64 (x458 + a1))) rfl rfl ?_
  refine j0 (j1 (j2 (j3 ?_)))
  refine r_move (.int .i64 (w64 (x458 + a1))) rfl rfl ?_
  refine r_assign (.int .i64 (w64 (x458 + a1))) rfl rfl ?_
  refine j0 (j1 (jb ?_))
  obtain rfl := Option.some.inj hf
  refine ret_oneE (.int .i64 (w64 (x458 + a1))) rfl ⟨rfl, rfl⟩ aS.mod_ ?_
  exact ⟨(RpV.mkInt _ _), _, (Semtypebase_Source.cells_iff.2 ⟨_, _, rfl, (((h3.mono aa).mono aN).mono ah.wext)⟩), aR⟩
 refine c_false rfl ai rfl ?_
 refine ja (j1 (j2 (j3 ?_)))
 refine r_move (.int .i64 x458) ag rfl ?_
 refine r_assign (.int .i64 x458) rfl rfl ?_
 refine j0 (j1 (jb ?_))
 obtain rfl := Option.some.inj hf
 refine ret_oneE (.int .i64 x458) rfl ⟨rfl, rfl⟩ aS.mod_ ?_
 exact ⟨(RpV.mkInt _ _), _, (Semtypebase_Source.cells_iff.2 ⟨_, _, rfl, (((h3.mono aa).mono aN).mono ah.wext)⟩), aR⟩

def S_semtypebase_Source_Label (f : (Semtypebase_Source → Option (ByteArray × Semtypebase_Source))) : Prop := ∀ (s0 : S) (B0 id0 b0 : Nat) (cs0 : List Value) (a0 : Semtypebase_Source) (r : (ByteArray × Semtypebase_Source)), Rp.cells s0 a0 cs0 → Blk B0 id0 s0 b0 53 cs0 → 1000000 ≤ id0 → f a0 = some r → CtrE Go.Proofs.Try.prog 78 [.pointer (some ⟨b0, 0, none⟩)] s0 (Mod B0 id0 s0) (fun v τ => RpV τ r.1 v ∧ PtrR B0 id0 53 τ r.2 b0)

set_option maxHeartbeats 1600000 in
set_option maxRecDepth 100000 in
theorem ok_semtypebase_Source_Label : S_semtypebase_Source_Label semtypebase_Source_Label := by
 intro s0 B0 id0 b0 cs0 a0 r hc0 hb0 hid0 hf
 obtain ⟨A1, c2, rfl, h3⟩ := Semtypebase_Source.cells_iff.1 hc0
 unfold semtypebase_Source_Label at hf
 have E0 : ExtP s0.N B0 id0 s0 s0 := ExtP.refl _ _ _ _
 refine ctr_ofE 8 Go.Proofs.Try.func78 rfl rfl rfl rfl ?_
 refine j2 (j3 ?_)
 refine r_assign (.string (⟨#[]⟩)) rfl rfl ?_
 refine j0 (j1 (j2 (j3 ?_)))
 refine r_buildSlice (B := s0.N) (E := 9) 1 E0.size ts25 (xs := ([⟨#[65]⟩, ⟨#[66]⟩, ⟨#[67]⟩] : List ByteArray)) [.string (⟨#[65]⟩), .string (⟨#[66]⟩), .string (⟨#[67]⟩)] (eps_cons rfl (eps_cons rfl (eps_cons rfl eps_nil))) rfl rfl rfl (by decide) rfl (by simp [Value.cells, Rp.sz]) ⟨_, _, rfl, rfl, ⟨_, _, rfl, rfl, ⟨_, _, rfl, rfl, rfl⟩⟩⟩ ?_
 intro s4 A5 c6 k7 ho8
 have E9 := E0.x k7
 refine r_move (.pointer (some ⟨b0, 0, none⟩)) rfl rfl ?_
 obtain ⟨an, ab, hf⟩ := bind_some hf
 refine r_callE [.pointer (some ⟨b0, 0, none⟩), .int .i64 3] (evs2 rfl rfl) rfl (ok_semtypebase_Source_Next _ _ _ _ _ _ _ _ _ (Semtypebase_Source.cells_iff.2 ⟨_, _, rfl, (h3.mono k7.wext)⟩) (hb0.ext k7) hid0 (RpV.mkInt _ _) ab) ?_
 intro ao ap aa ac
 obtain ⟨ad, aq, ae, af⟩ := ac
 have ag := E9.z aa
 obtain ⟨ar, au, rfl, ah⟩ := Semtypebase_Source.cells_iff.1 ae
 obtain rfl := RpV.int ad
 obtain ⟨x24, ai, hf⟩ := bind_some hf
 refine r_indexAddr (T := 25) (E := 9) (ho8.mod aa (beq_false (by omega))).sl ai rfl rfl rfl rfl Go.Proofs.Try.underlying25 sz9 ?_
 intro aj ak av al am
 obtain rfl := al
 refine r_load aj ak (.string x24) rfl rfl (loads_one to9 (am.2 0 _ rfl)) ?_
 refine r_assign (.string x24) rfl rfl ?_
 refine j0 (j1 (jb ?_))
 obtain rfl := Option.some.inj hf
 refine ret_oneE (.string x24) rfl ⟨rfl, rfl⟩ ag.mod_ ?_
 exact ⟨(RpV.mkStr _ _), _, (Semtypebase_Source.cells_iff.2 ⟨_, _, rfl, ah⟩), af⟩

def S_semtyperef1_Sorted (f : ((List ByteArray) → Option (List ByteArray))) : Prop := ∀ (s0 : S) (v0 : Value) (a0 : (List ByteArray)) (r : (List ByteArray)), RpV s0 a0 v0 → f a0 = some r → Ctr Go.Proofs.Try.prog 79 [v0] s0 (fun v τ => RpV τ r v)

set_option maxHeartbeats 1600000 in
set_option maxRecDepth 100000 in
theorem ok_semtyperef1_Sorted : S_semtyperef1_Sorted semtyperef1_Sorted := by
 intro s0 v0 a0 r h0 hf
 obtain ⟨A1, c2, rfl, h3⟩ := RpV.list h0
 unfold semtyperef1_Sorted at hf
 have E0 : ExtB s0.N s0 s0 := ExtB.refl _ _
 refine ctr_of 61 Go.Proofs.Try.func79 rfl rfl rfl rfl ?_
 refine j2 (j3 ?_)
 refine r_assign (nl ByteArray) rfl rfl ?_
 refine j0 (j1 (j2 (j3 ?_)))
 refine r_assign (nl ByteArray) rfl rfl ?_
 refine j0 (j1 (j2 (j2 (j3 ?_))))
 refine r_assign (.int .i64 0) rfl rfl ?_
 refine j0 (j1 (j4 ?_))
 refine gen_F fun F4 hg5 => ?_
 have f6 : F4 0 = (.slice A1 a0.length c2) := (hg5 0).trans rfl
 have f8 : F4 3 = (nl ByteArray) := (hg5 3).trans rfl
 have f9 : F4 4 = (.int .i64 0) := (hg5 4).trans rfl
 obtain ⟨aG, cB, hf⟩ := bind_some hf
 refine wp_mono (wp_iter (step := semtyperef1_Sorted_l1 a0) (fun q a w => ∃ (F : Fr) (τ : S) (A1 : Option Addr) (c1 : Nat), a = fr 61 F ∧ w = τ.w ∧ Agr [3, 4, 5, 6, 7, 8, 9, 10, 11, 12, 13, 14, 15, 16, 17, 18, 19, 20, 21, 22, 23, 24, 25, 26, 27, 28, 29, 30, 31, 32, 33, 34, 35, 36, 37, 38, 39, 40, 41, 42, 43, 44, 45, 46, 47, 48, 49, 50, 51, 52, 53, 54, 55, 56, 57, 58, 59] F F4 ∧ ExtB s0.N s0 τ ∧ Wext s0 τ ∧ F 3 = (.slice A1 q.1.length c1) ∧ Sl τ q.1 A1 c1 ∧ F 4 = (.int .i64 q.2)) (fun q e a w => e = .exit 0 ∧ ∃ (F : Fr) (τ : S) (A1 : Option Addr) (c1 : Nat), a = fr 61 F ∧ w = τ.w ∧ Agr [3, 4, 5, 6, 7, 8, 9, 10, 11, 12, 13, 14, 15, 16, 17, 18, 19, 20, 21, 22, 23, 24, 25, 26, 27, 28, 29, 30, 31, 32, 33, 34, 35, 36, 37, 38, 39, 40, 41, 42, 43, 44, 45, 46, 47, 48, 49, 50, 51, 52, 53, 54, 55, 56, 57, 58, 59] F F4 ∧ ExtB s0.N s0 τ ∧ Wext s0 τ ∧ F 3 = (.slice A1 q.1.length c1) ∧ Sl τ q.1 A1 c1 ∧ F 4 = (.int .i64 q.2)) (by rintro _ a w ⟨h, _⟩; cases h) ?_ _ _ _ _ _ cB ?_) ?_
 ·intro aa fl a w hf hI
  obtain ⟨hP, ba, ad, ae, rfl, rfl, ap, bb, ai, bc, aj, aH⟩ := hI
  unfold semtyperef1_Sorted_l1 at hf
  have bd := (ap 0 rfl).trans f6
  refine j2 (j2 (j3 ?_))
  refine r_move (.int .i64 aa.2) aH rfl ?_
  refine r_move (.slice A1 a0.length c2) bd rfl ?_
  refine r_len A1 a0.length c2 rfl rfl Go.Proofs.Try.underlying25 ?_
  refine r_bin (.int .i64 aa.2) (.int .i64 (a0.length : Int)) (.bool (decide (aa.2 < (a0.length : Int)))) rfl rfl rfl rfl (b_lss) ?_
  refine j0 (j1 ?_)
  refine if_else hf (fun aI hf => ?_) (fun aI hf => ?_)
  ·refine c_true rfl aI rfl ?_
   refine ja (j1 (j2 (j4 (j2 (j3 ?_)))))
   refine r_assign (.int .i64 0) rfl rfl ?_
   refine j0 (j1 (j2 (j4 ?_)))
   refine gen_F fun aJ ak => ?_
   have be := (ak 0).trans bd
   have bf := (ak 3).trans bc
   have bg := (ak 4).trans aH
   have cC : aJ 5 = (.int .i64 0) := (ak 5).trans rfl
   obtain ⟨ab, cD, hf⟩ := bind_some hf
   refine wp_mono (wp_iter (step := semtyperef1_Sorted_l2 a0 aa) (fun q a w => ∃ (F : Fr) (τ : S), a = fr 61 F ∧ w = τ.w ∧ Agr [5, 13, 14, 15, 16, 17, 18, 19, 20, 21, 22, 23, 24, 25, 26, 27, 28, 29] F aJ ∧ ExtB s0.N s0 τ ∧ Wext ba τ ∧ F 5 = (.int .i64 q)) (fun q e a w => e = .exit 2 ∧ ∃ (F : Fr) (τ : S), a = fr 61 F ∧ w = τ.w ∧ Agr [5, 13, 14, 15, 16, 17, 18, 19, 20, 21, 22, 23, 24, 25, 26, 27, 28, 29] F aJ ∧ ExtB s0.N s0 τ ∧ Wext ba τ ∧ F 5 = (.int .i64 q)) (by rintro _ a w ⟨h, _⟩; cases h) ?_ _ _ _ _ _ cD ?_) ?_
   ·intro ac fl a w hf hI
    obtain ⟨hQ, hR, rfl, rfl, al, bh, aq, ar⟩ := hI
    unfold semtyperef1_Sorted_l2 at hf
    have cE := (al 0 rfl).trans be
    have aK := (al 3 rfl).trans bf
    have cF := (al 4 rfl).trans bg
    refine j2 (j2 ?_)
    refine if_else hf (fun af hf => ?_) (fun af hf => ?_)
    ·obtain ⟨x43, cG, hf⟩ := bind_some hf
     obtain ⟨x45, cH, hf⟩ := bind_some hf
     refine wp_draw (B := frExt s0.N) [some 13, some 14, some 15, some 16, some 17, some 18, some 19, some 20, some 21, some 22, some 23, some 24, some 25, some 26, some 27] [[], [], [1], [0, 1, 2], [0, 1, 2, 3], [0, 1, 2, 3, 4], [0, 1, 2, 3, 4], [0, 1, 2, 3, 4, 5, 6], [0, 1, 2, 3, 4, 5, 6, 7], [0, 1, 2, 3, 4], [0, 1, 2, 3, 4], [0, 1, 2, 3, 4, 9, 10], [0, 1, 2, 3, 4, 9, 10, 11], [0, 1, 2, 3, 4, 5, 6, 7, 8, 9, 10, 11, 12], [0, 1, 2, 3, 4, 5, 6, 7, 8, 9, 10, 11, 12, 13]] [Fct.eqv (.int .i64 ac), Fct.eqv (.slice ad aa.1.length ae), Fct.eqv (.int .i64 (aa.1.length : Int)), Fct.eqv (.bool (decide (ac < (aa.1.length : Int)))), Fct.eqv (.bool (decide (ac < (aa.1.length : Int)))), Fct.eqv (.slice ad aa.1.length ae), Fct.eqv (.int .i64 ac), Fct.elem (x43 : ByteArray), Fct.eqv (.string x43), Fct.eqv (.slice A1 a0.length c2), Fct.eqv (.int .i64 aa.2), Fct.elem (x45 : ByteArray), Fct.eqv (.string x45), Fct.eqv (.bool (strLt x43 x45)), Fct.eqv (.bool (strLt x43 x45))] (fun D F τ => True) (by kernel_rfl) rfl (by decide) (by decide) trivial (by decide) (by decide) ⟨?_, ?_, ?_, ?_, ?_, ?_, ?_, ?_, ?_, ?_, ?_, ?_, ?_, ?_, ?_, trivial⟩ ?_
     ·intro hS hT hU hV hW hX hY hZ h1 cI h2
      refine r_move (.int .i64 ac) ((cI 5 rfl).trans ar) rfl ?_
      exact d0 ⟨rfl, trivial⟩
     ·intro h4 h5 h6 h7 h8 h9 ia ib ic cJ ie
      refine r_move (.slice ad aa.1.length ae) ((cJ 3 rfl).trans aK) rfl ?_
      exact d0 ⟨rfl, trivial⟩
     ·intro ig ih ii ij ik il im io ip iq cK
      refine r_len ad aa.1.length ae (cK 1 rfl 14 rfl) rfl Go.Proofs.Try.underlying25 ?_
      exact d0 ⟨rfl, trivial⟩
     ·intro ir it iu iv iw ix iy iz iA iB bi
      refine r_bin (.int .i64 ac) (.int .i64 (aa.1.length : Int)) (.bool (decide (ac < (aa.1.length : Int)))) (bi 0 rfl 13 rfl) (bi 2 rfl 15 rfl) rfl rfl (b_lss) ?_
      exact d0 ⟨rfl, trivial⟩
     ·intro iC iD iE iF iG iH iI iJ iK iL cL
      refine r_move (.bool (decide (ac < (aa.1.length : Int)))) (cL 3 rfl 16 rfl) rfl ?_
      exact d0 ⟨rfl, trivial⟩
     ·intro iM iN iO iP iQ iR iS iT iU cM cN
      refine Or.inr ⟨decide (ac < (aa.1.length : Int)), (fun d hd => by cases hd; exact (cN 4 rfl 17 rfl)), fun _ => ?_, fun h => absurd (af : (decide (ac < (aa.1.length : Int))) = true) h⟩
      refine r_move (.slice ad aa.1.length ae) ((cM 3 rfl).trans aK) rfl ?_
      exact d0 ⟨rfl, trivial⟩
     ·intro iV iW iX iY iZ i0 i1 i2 i3 cO cP
      refine Or.inr ⟨decide (ac < (aa.1.length : Int)), (fun d hd => by cases hd; exact (cP 4 rfl 17 rfl)), fun _ => ?_, fun h => absurd (af : (decide (ac < (aa.1.length : Int))) = true) h⟩
      refine r_move (.int .i64 ac) ((cO 5 rfl).trans ar) rfl ?_
      exact d0 ⟨rfl, trivial⟩
     ·intro i4 i5 i6 i7 i8 i9 jd cQ je jf aL
      refine Or.inr ⟨decide (ac < (aa.1.length : Int)), (fun d hd => by cases hd; exact (aL 4 rfl 17 rfl)), fun _ => ?_, fun h => absurd (af : (decide (ac < (aa.1.length : Int))) = true) h⟩
      refine r_indexAddr (T := 25) (E := 9) ((aj.mono aq).mono cQ) cG (aL 5 rfl 18 rfl) (aL 6 rfl 19 rfl) rfl rfl Go.Proofs.Try.underlying25 sz9 ?_
      intro jg jh ji cR cS
      obtain rfl := cR
      exact d0 ⟨⟨_, _, _, rfl, rfl, cS⟩, trivial⟩
     ·intro jj cT cU jk jl jm jn jo jp jq bj
      obtain ⟨cV, cW, jr, cX, cY, cZ⟩ : (Fct.elem (x43 : ByteArray)).p (cT 20) cU := bj 7 rfl 20 rfl
      obtain rfl := cY
      refine Or.inr ⟨decide (ac < (aa.1.length : Int)), (fun d hd => by cases hd; exact (bj 4 rfl 17 rfl)), fun _ => ?_, fun h => absurd (af : (decide (ac < (aa.1.length : Int))) = true) h⟩
      refine r_load cV cW (.string x43) cX rfl (loads_one to9 (cZ.2 0 _ rfl)) ?_
      exact d0 ⟨rfl, trivial⟩
     ·intro js jt ju jv jw jx jy jz jA c0 c3
      refine Or.inr ⟨decide (ac < (aa.1.length : Int)), (fun d hd => by cases hd; exact (c3 4 rfl 17 rfl)), fun _ => ?_, fun h => absurd (af : (decide (ac < (aa.1.length : Int))) = true) h⟩
      refine r_move (.slice A1 a0.length c2) ((c0 0 rfl).trans cE) rfl ?_
      exact d0 ⟨rfl, trivial⟩
     ·intro jB jC jD jE jF jG jH jI jJ c4 c5
      refine Or.inr ⟨decide (ac < (aa.1.length : Int)), (fun d hd => by cases hd; exact (c5 4 rfl 17 rfl)), fun _ => ?_, fun h => absurd (af : (decide (ac < (aa.1.length : Int))) = true) h⟩
      refine r_move (.int .i64 aa.2) ((c4 4 rfl).trans cF) rfl ?_
      exact d0 ⟨rfl, trivial⟩
     ·intro jK jL jM jN jO jP jQ c6 jR jS aM
      refine Or.inr ⟨decide (ac < (aa.1.length : Int)), (fun d hd => by cases hd; exact (aM 4 rfl 17 rfl)), fun _ => ?_, fun h => absurd (af : (decide (ac < (aa.1.length : Int))) = true) h⟩
      refine r_indexAddr (T := 25) (E := 9) (((h3.mono ai).mono aq).mono c6) cH (aM 9 rfl 22 rfl) (aM 10 rfl 23 rfl) rfl rfl Go.Proofs.Try.underlying25 sz9 ?_
      intro jT jU jV c7 c8
      obtain rfl := c7
      exact d0 ⟨⟨_, _, _, rfl, rfl, c8⟩, trivial⟩
     ·intro jW c9 da jX jY jZ j7 j9 ka kb bk
      obtain ⟨db, dc, kc, dd, de, df⟩ : (Fct.elem (x45 : ByteArray)).p (c9 24) da := bk 11 rfl 24 rfl
      obtain rfl := de
      refine Or.inr ⟨decide (ac < (aa.1.length : Int)), (fun d hd => by cases hd; exact (bk 4 rfl 17 rfl)), fun _ => ?_, fun h => absurd (af : (decide (ac < (aa.1.length : Int))) = true) h⟩
      refine r_load db dc (.string x45) dd rfl (loads_one to9 (df.2 0 _ rfl)) ?_
      exact d0 ⟨rfl, trivial⟩
     ·intro kd ke kf kg kh ki kj kk kl km aN
      refine Or.inr ⟨decide (ac < (aa.1.length : Int)), (fun d hd => by cases hd; exact (aN 4 rfl 17 rfl)), fun _ => ?_, fun h => absurd (af : (decide (ac < (aa.1.length : Int))) = true) h⟩
      refine r_bin (.string x43) (.string x45) (.bool (strLt x43 x45)) (aN 8 rfl 21 rfl) (aN 12 rfl 25 rfl) rfl rfl (b_slss) ?_
      exact d0 ⟨rfl, trivial⟩
     ·intro kn ko kp kq kr ks kt ku kv kw bl
      refine r_pick_t (c := decide (ac < (aa.1.length : Int))) (.bool (strLt x43 x45)) (bl 4 rfl 17 rfl) af (bl 13 rfl 26 rfl) rfl rfl rfl ?_
      exact d0 ⟨rfl, trivial⟩
     intro dg kx dh bm ky aO di
     have bn := bh.trans dh
     have bo := (aO 5 rfl).trans ar
     have bp : dg 27 = (.bool (strLt x43 x45)) := di 14 27 rfl
     refine j1 ?_
     refine if_else hf (fun aP hf => ?_) (fun aP hf => ?_)
     ·refine c_true bp aP rfl ?_
      refine ja (j1 (j4 (j3 ?_)))
      refine r_move (.int .i64 ac) bo rfl ?_
      refine r_bin (.int .i64 ac) (.int .i64 1) (.int .i64 (w64 (ac + 1))) rfl rfl rfl rfl (b_add) ?_
      refine r_assign (.int .i64 (w64 (ac + 1))) rfl rfl ?_
      refine j0 (j5 ?_)
      obtain rfl := Option.some.inj hf
      exact ⟨rfl, _, _, rfl, rfl, (((((al).draw aO rfl).put rfl).put rfl).put rfl), bn, (((Wext.refl _).trans aq).trans bm), rfl⟩
     refine c_false bp aP rfl ?_
     refine jc (j8 ?_)
     obtain rfl := Option.some.inj hf
     exact ⟨rfl, _, _, rfl, rfl, ((al).draw aO rfl), bn, (((Wext.refl _).trans aq).trans bm), bo⟩
    refine wp_draw (B := frExt s0.N) [some 13, some 14, some 15, some 16, some 17, some 18, some 19, some 20, some 21, some 22, some 23, some 24, some 25, some 26, some 27] [[], [], [1], [0, 1, 2], [0, 1, 2, 3], [0, 1, 2, 3, 4], [0, 1, 2, 3, 4], [0, 1, 2, 3, 4, 5, 6], [0, 1, 2, 3, 4, 5, 6, 7], [0, 1, 2, 3, 4], [0, 1, 2, 3, 4], [0, 1, 2, 3, 4, 9, 10], [0, 1, 2, 3, 4, 9, 10, 11], [0, 1, 2, 3, 4, 5, 6, 7, 8, 9, 10, 11, 12], [0, 1, 2, 3, 4, 5, 6, 7, 8, 9, 10, 11, 12, 13]] [Fct.eqv (.int .i64 ac), Fct.eqv (.slice ad aa.1.length ae), Fct.eqv (.int .i64 (aa.1.length : Int)), Fct.eqv (.bool (decide (ac < (aa.1.length : Int)))), Fct.eqv (.bool (decide (ac < (aa.1.length : Int)))), Fct.eqv undef, Fct.eqv undef, Fct.eqv undef, Fct.eqv undef, Fct.eqv undef, Fct.eqv undef, Fct.eqv undef, Fct.eqv undef, Fct.eqv undef, Fct.eqv (.bool false)] (fun D F τ => True) (by kernel_rfl) rfl (by decide) (by decide) trivial (by decide) (by decide) ⟨?_, ?_, ?_, ?_, ?_, ?_, ?_, ?_, ?_, ?_, ?_, ?_, ?_, ?_, ?_, trivial⟩ ?_
    ·intro kz kA kB kC kD kE kF kG kH dj kI
     refine r_move (.int .i64 ac) ((dj 5 rfl).trans ar) rfl ?_
     exact d0 ⟨rfl, trivial⟩
    ·intro kJ kK kL kM kN kO kP kQ kR dk kS
     refine r_move (.slice ad aa.1.length ae) ((dk 3 rfl).trans aK) rfl ?_
     exact d0 ⟨rfl, trivial⟩
    ·intro kT kU kV kW kX kY kZ k0 k1 k2 dl
     refine r_len ad aa.1.length ae (dl 1 rfl 14 rfl) rfl Go.Proofs.Try.underlying25 ?_
     exact d0 ⟨rfl, trivial⟩
    ·intro k3 k4 k5 k6 k7 k8 k9 la lb lc bq
     refine r_bin (.int .i64 ac) (.int .i64 (aa.1.length : Int)) (.bool (decide (ac < (aa.1.length : Int)))) (bq 0 rfl 13 rfl) (bq 2 rfl 15 rfl) rfl rfl (b_lss) ?_
     exact d0 ⟨rfl, trivial⟩
    ·intro ld le lf lg lh li lj lk ll lm dm
     refine r_move (.bool (decide (ac < (aa.1.length : Int)))) (dm 3 rfl 16 rfl) rfl ?_
     exact d0 ⟨rfl, trivial⟩
    ·intro ln lo lp lq lr ls lt lu lv lw dn
     refine Or.inr ⟨decide (ac < (aa.1.length : Int)), (fun d hd => by cases hd; exact (dn 4 rfl 17 rfl)), fun h => Bool.noConfusion (Eq.trans (Eq.symm (af : (decide (ac < (aa.1.length : Int))) = false)) h), fun _ => ⟨rfl, ?_⟩⟩
     exact trivial
    ·intro lx ly lz lA lB lC lD lE lF lG dp
     refine Or.inr ⟨decide (ac < (aa.1.length : Int)), (fun d hd => by cases hd; exact (dp 4 rfl 17 rfl)), fun h => Bool.noConfusion (Eq.trans (Eq.symm (af : (decide (ac < (aa.1.length : Int))) = false)) h), fun _ => ⟨rfl, ?_⟩⟩
     exact trivial
    ·intro lH br lI lJ lK lL lM lN lO lP aQ
     have lQ : br 18 = undef := aQ 5 rfl 18 rfl
     have lR : br 19 = undef := aQ 6 rfl 19 rfl
     refine Or.inr ⟨decide (ac < (aa.1.length : Int)), (fun d hd => by cases hd; exact (aQ 4 rfl 17 rfl)), fun h => Bool.noConfusion (Eq.trans (Eq.symm (af : (decide (ac < (aa.1.length : Int))) = false)) h), fun _ => ⟨rfl, ?_⟩⟩
     exact trivial
    ·intro lS dq lT lU lV lW lX lY lZ l0 bs
     have l1 : dq 20 = undef := bs 7 rfl 20 rfl
     refine Or.inr ⟨decide (ac < (aa.1.length : Int)), (fun d hd => by cases hd; exact (bs 4 rfl 17 rfl)), fun h => Bool.noConfusion (Eq.trans (Eq.symm (af : (decide (ac < (aa.1.length : Int))) = false)) h), fun _ => ⟨rfl, ?_⟩⟩
     exact trivial
    ·intro l2 l3 l4 l5 l6 l7 l8 l9 ma mb dr
     refine Or.inr ⟨decide (ac < (aa.1.length : Int)), (fun d hd => by cases hd; exact (dr 4 rfl 17 rfl)), fun h => Bool.noConfusion (Eq.trans (Eq.symm (af : (decide (ac < (aa.1.length : Int))) = false)) h), fun _ => ⟨rfl, ?_⟩⟩
     exact trivial
    ·intro mc md me mf mg mh mi mj mk ml ds
     refine Or.inr ⟨decide (ac < (aa.1.length : Int)), (fun d hd => by cases hd; exact (ds 4 rfl 17 rfl)), fun h => Bool.noConfusion (Eq.trans (Eq.symm (af : (decide (ac < (aa.1.length : Int))) = false)) h), fun _ => ⟨rfl, ?_⟩⟩
     exact trivial
    ·intro mm bt mn mo mp mq mr ms mt mu aR
     have mv : bt 22 = undef := aR 9 rfl 22 rfl
     have mw : bt 23 = undef := aR 10 rfl 23 rfl
     refine Or.inr ⟨decide (ac < (aa.1.length : Int)), (fun d hd => by cases hd; exact (aR 4 rfl 17 rfl)), fun h => Bool.noConfusion (Eq.trans (Eq.symm (af : (decide (ac < (aa.1.length : Int))) = false)) h), fun _ => ⟨rfl, ?_⟩⟩
     exact trivial
    ·intro mx dt my mz mA mB mC mD mE mF bu
     have mG : dt 24 = undef := bu 11 rfl 24 rfl
     refine Or.inr ⟨decide (ac < (aa.1.length : Int)), (fun d hd => by cases hd; exact (bu 4 rfl 17 rfl)), fun h => Bool.noConfusion (Eq.trans (Eq.symm (af : (decide (ac < (aa.1.length : Int))) = false)) h), fun _ => ⟨rfl, ?_⟩⟩
     exact trivial
    ·intro mH bv mI mJ mK mL mM mN mO mP aS
     have mQ : bv 21 = undef := aS 8 rfl 21 rfl
     have mR : bv 25 = undef := aS 12 rfl 25 rfl
     refine Or.inr ⟨decide (ac < (aa.1.length : Int)), (fun d hd => by cases hd; exact (aS 4 rfl 17 rfl)), fun h => Bool.noConfusion (Eq.trans (Eq.symm (af : (decide (ac < (aa.1.length : Int))) = false)) h), fun _ => ⟨rfl, ?_⟩⟩
     exact trivial
    ·intro mS du mT mU mV mW mX mY mZ m0 bw
     have m1 : du 26 = undef := bw 13 rfl 26 rfl
     refine r_pick_f (c := decide (ac < (aa.1.length : Int))) (.bool false) (bw 4 rfl 17 rfl) af rfl rfl rfl rfl ?_
     exact d0 ⟨rfl, trivial⟩
    intro m2 m3 dv dw m4 bx dx
    have dy := bh.trans dv
    have dz := (bx 5 rfl).trans ar
    refine j1 ?_
    refine c_false (dx 14 27 rfl) rfl rfl ?_
    refine jc (j8 ?_)
    obtain rfl := Option.some.inj hf
    exact ⟨rfl, _, _, rfl, rfl, ((al).draw bx rfl), dy, (((Wext.refl _).trans aq).trans dw), dz⟩
   ·exact ⟨_, _, rfl, rfl, (Agr.refl _ _), bb, (Wext.refl _), cC⟩
   rintro e a w ⟨rfl, m5, m6, rfl, rfl, am, bz, ah, au⟩
   have aT := (am 0 rfl).trans be
   have av := (am 3 rfl).trans bf
   have aU := (am 4 rfl).trans bg
   refine j6 (j1 (j2 (j2 ?_)))
   refine if_else hf (fun ag hf => ?_) (fun ag hf => ?_)
   ·obtain ⟨x524, dA, hf⟩ := bind_some hf
    obtain ⟨x526, dB, hf⟩ := bind_some hf
    refine wp_draw (B := frExt s0.N) [some 30, some 31, some 32, some 33, some 34, some 35, some 36, some 37, some 38, some 39, some 40, some 41, some 42, some 43, some 44] [[], [], [1], [0, 1, 2], [0, 1, 2, 3], [0, 1, 2, 3, 4], [0, 1, 2, 3, 4], [0, 1, 2, 3, 4, 5, 6], [0, 1, 2, 3, 4, 5, 6, 7], [0, 1, 2, 3, 4], [0, 1, 2, 3, 4], [0, 1, 2, 3, 4, 9, 10], [0, 1, 2, 3, 4, 9, 10, 11], [0, 1, 2, 3, 4, 5, 6, 7, 8, 9, 10, 11, 12], [0, 1, 2, 3, 4, 5, 6, 7, 8, 9, 10, 11, 12, 13]] [Fct.eqv (.int .i64 ab), Fct.eqv (.slice ad aa.1.length ae), Fct.eqv (.int .i64 (aa.1.length : Int)), Fct.eqv (.bool (decide (ab < (aa.1.length : Int)))), Fct.eqv (.bool (decide (ab < (aa.1.length : Int)))), Fct.eqv (.slice ad aa.1.length ae), Fct.eqv (.int .i64 ab), Fct.elem (x524 : ByteArray), Fct.eqv (.string x524), Fct.eqv (.slice A1 a0.length c2), Fct.eqv (.int .i64 aa.2), Fct.elem (x526 : ByteArray), Fct.eqv (.string x526), Fct.eqv (.bool (strEq x524 x526)), Fct.eqv (.bool (strEq x524 x526))] (fun D F τ => True) (by kernel_rfl) rfl (by decide) (by decide) trivial (by decide) (by decide) ⟨?_, ?_, ?_, ?_, ?_, ?_, ?_, ?_, ?_, ?_, ?_, ?_, ?_, ?_, ?_, trivial⟩ ?_
    ·intro m7 m8 m9 na nb nc nd ne nf dC ng
     refine r_move (.int .i64 ab) ((dC 5 rfl).trans au) rfl ?_
     exact d0 ⟨rfl, trivial⟩
    ·intro nh ni nj nk nm nn no np nq dD nr
     refine r_move (.slice ad aa.1.length ae) ((dD 3 rfl).trans av) rfl ?_
     exact d0 ⟨rfl, trivial⟩
    ·intro ns nt nu nv nw nx ny nz nA nB dE
     refine r_len ad aa.1.length ae (dE 1 rfl 31 rfl) rfl Go.Proofs.Try.underlying25 ?_
     exact d0 ⟨rfl, trivial⟩
    ·intro nC nD nE nF nG nH nI nJ nK nL bA
     refine r_bin (.int .i64 ab) (.int .i64 (aa.1.length : Int)) (.bool (decide (ab < (aa.1.length : Int)))) (bA 0 rfl 30 rfl) (bA 2 rfl 32 rfl) rfl rfl (b_lss) ?_
     exact d0 ⟨rfl, trivial⟩
    ·intro nM nN nO nP nQ nR nS nT nU nV dF
     refine r_move (.bool (decide (ab < (aa.1.length : Int)))) (dF 3 rfl 33 rfl) rfl ?_
     exact d0 ⟨rfl, trivial⟩
    ·intro nW nX nY nZ n0 n1 n2 n3 n4 dG dH
     refine Or.inr ⟨decide (ab < (aa.1.length : Int)), (fun d hd => by cases hd; exact (dH 4 rfl 34 rfl)), fun _ => ?_, fun h => absurd (ag : (decide (ab < (aa.1.length : Int))) = true) h⟩
     refine r_move (.slice ad aa.1.length ae) ((dG 3 rfl).trans av) rfl ?_
     exact d0 ⟨rfl, trivial⟩
    ·intro n5 n6 n7 n8 n9 oa ob oc od dI dJ
     refine Or.inr ⟨decide (ab < (aa.1.length : Int)), (fun d hd => by cases hd; exact (dJ 4 rfl 34 rfl)), fun _ => ?_, fun h => absurd (ag : (decide (ab < (aa.1.length : Int))) = true) h⟩
     refine r_move (.int .i64 ab) ((dI 5 rfl).trans au) rfl ?_
     exact d0 ⟨rfl, trivial⟩
    ·intro oe og oh oi oj ol on dK oo op aV
     refine Or.inr ⟨decide (ab < (aa.1.length : Int)), (fun d hd => by cases hd; exact (aV 4 rfl 34 rfl)), fun _ => ?_, fun h => absurd (ag : (decide (ab < (aa.1.length : Int))) = true) h⟩
     refine r_indexAddr (T := 25) (E := 9) ((aj.mono ah).mono dK) dA (aV 5 rfl 35 rfl) (aV 6 rfl 36 rfl) rfl rfl Go.Proofs.Try.underlying25 sz9 ?_
     intro oq ot ou dL dM
     obtain rfl := dL
     exact d0 ⟨⟨_, _, _, rfl, rfl, dM⟩, trivial⟩
    ·intro ov dN dO ow ox oy oz oA oB oC bB
     obtain ⟨dP, dQ, oD, dR, dS, dT⟩ : (Fct.elem (x524 : ByteArray)).p (dN 37) dO := bB 7 rfl 37 rfl
     obtain rfl := dS
     refine Or.inr ⟨decide (ab < (aa.1.length : Int)), (fun d hd => by cases hd; exact (bB 4 rfl 34 rfl)), fun _ => ?_, fun h => absurd (ag : (decide (ab < (aa.1.length : Int))) = true) h⟩
     refine r_load dP dQ (.string x524) dR rfl (loads_one to9 (dT.2 0 _ rfl)) ?_
     exact d0 ⟨rfl, trivial⟩
    ·intro oE oF oG oH oI oJ oK oL oM dU dV
     refine Or.inr ⟨decide (ab < (aa.1.length : Int)), (fun d hd => by cases hd; exact (dV 4 rfl 34 rfl)), fun _ => ?_, fun h => absurd (ag : (decide (ab < (aa.1.length : Int))) = true) h⟩
     refine r_move (.slice A1 a0.length c2) ((dU 0 rfl).trans aT) rfl ?_
     exact d0 ⟨rfl, trivial⟩
    ·intro oN oO oP oQ oR oS oT oU oV dW dX
     refine Or.inr ⟨decide (ab < (aa.1.length : Int)), (fun d hd => by cases hd; exact (dX 4 rfl 34 rfl)), fun _ => ?_, fun h => absurd (ag : (decide (ab < (aa.1.length : Int))) = true) h⟩
     refine r_move (.int .i64 aa.2) ((dW 4 rfl).trans aU) rfl ?_
     exact d0 ⟨rfl, trivial⟩
    ·intro oW oX oY oZ o0 o1 o2 dY o3 o4 aW
     refine Or.inr ⟨decide (ab < (aa.1.length : Int)), (fun d hd => by cases hd; exact (aW 4 rfl 34 rfl)), fun _ => ?_, fun h => absurd (ag : (decide (ab < (aa.1.length : Int))) = true) h⟩
     refine r_indexAddr (T := 25) (E := 9) (((h3.mono ai).mono ah).mono dY) dB (aW 9 rfl 39 rfl) (aW 10 rfl 40 rfl) rfl rfl Go.Proofs.Try.underlying25 sz9 ?_
     intro o5 o6 o7 dZ d1
     obtain rfl := dZ
     exact d0 ⟨⟨_, _, _, rfl, rfl, d1⟩, trivial⟩
    ·intro o8 d2 d3 o9 pa pb pc pd pe pf bC
     obtain ⟨d4, d5, pg, d6, d7, d8⟩ : (Fct.elem (x526 : ByteArray)).p (d2 41) d3 := bC 11 rfl 41 rfl
     obtain rfl := d7
     refine Or.inr ⟨decide (ab < (aa.1.length : Int)), (fun d hd => by cases hd; exact (bC 4 rfl 34 rfl)), fun _ => ?_, fun h => absurd (ag : (decide (ab < (aa.1.length : Int))) = true) h⟩
     refine r_load d4 d5 (.string x526) d6 rfl (loads_one to9 (d8.2 0 _ rfl)) ?_
     exact d0 ⟨rfl, trivial⟩
    ·intro ph pi pj pk pl pm pn po pp pq aX
     refine Or.inr ⟨decide (ab < (aa.1.length : Int)), (fun d hd => by cases hd; exact (aX 4 rfl 34 rfl)), fun _ => ?_, fun h => absurd (ag : (decide (ab < (aa.1.length : Int))) = true) h⟩
     refine r_bin (.string x524) (.string x526) (.bool (strEq x524 x526)) (aX 8 rfl 38 rfl) (aX 12 rfl 42 rfl) rfl rfl (b_seql) ?_
     exact d0 ⟨rfl, trivial⟩
    ·intro pr ps pt pu pv pw px py pz pA bD
     refine r_pick_t (c := decide (ab < (aa.1.length : Int))) (.bool (strEq x524 x526)) (bD 4 rfl 34 rfl) ag (bD 13 rfl 43 rfl) rfl rfl rfl ?_
     exact d0 ⟨rfl, trivial⟩
    intro d9 pB ea an pC ao eb
    have aY := bz.trans ea
    have ec := (ao 0 rfl).trans aT
    have aZ := (ao 3 rfl).trans av
    have a1 := (ao 4 rfl).trans aU
    have bE := (ao 5 rfl).trans au
    have bF : d9 44 = (.bool (strEq x524 x526)) := eb 14 44 rfl
    refine j1 ?_
    refine if_else hf (fun a2 hf => ?_) (fun a2 hf => ?_)
    ·refine c_true bF a2 rfl ?_
     refine jc (j8 (j6 (j1 (j3 ?_))))
     refine r_move (.int .i64 aa.2) a1 rfl ?_
     refine r_bin (.int .i64 aa.2) (.int .i64 1) (.int .i64 (w64 (aa.2 + 1))) rfl rfl rfl rfl (b_add) ?_
     refine r_assign (.int .i64 (w64 (aa.2 + 1))) rfl rfl ?_
     refine j0 ?_
     obtain rfl := Option.some.inj hf
     exact ⟨rfl, _, _, ad, ae, rfl, rfl, ((((((((((((ap).put rfl).put rfl).put rfl).put rfl).put rfl).gen ak).loop am rfl).draw ao rfl).put rfl).put rfl).put rfl), aY, ((((Wext.refl _).trans ai).trans ah).trans an), aZ, ((aj.mono ah).mono an), rfl⟩
    refine c_false bF a2 rfl ?_
    refine ja (j1 (j2 (j3 ?_)))
    refine r_move (.slice ad aa.1.length ae) aZ rfl ?_
    refine r_move (.int .i64 ab) bE rfl ?_
    obtain ⟨x771, ed, hf⟩ := bind_some hf
    obtain ⟨ee, ef, eg, eh⟩ := sl_cut_h (P := Go.Proofs.Try.prog) ((aj.mono ah).mono an) ed Go.Proofs.Try.underlying25 sz9
    refine r_slice (.slice ad aa.1.length ae) (.slice ee x771.length ef) none (some (.int .i64 ab)) none rfl rfl rfl (om rfl) rfl rfl (eg) ?_
    obtain ⟨pD, ei, hf⟩ := bind_some hf
    refine r_append (B := s0.N) (id := 2) (E := 9) (xs := ([] : List ByteArray)) (ys := x771) aY.size (Own.nil_ _) eh ts25 (room_some ei) rfl rfl rfl rfl ?_
    intro pE ax ay az ej
    have aA := aY.y az
    refine r_assign (.slice ax x771.length ay) rfl rfl ?_
    refine j0 (j1 ?_)
    obtain ⟨x785, ek, hf⟩ := bind_some hf
    obtain ⟨pF, el, hf⟩ := bind_some hf
    obtain ⟨x789, em, hf⟩ := bind_some hf
    obtain ⟨pG, en, hf⟩ := bind_some hf
    refine wp_draw (B := frExt s0.N) [some 49, some 50, some 51, some 52, some 53, some 54, some 55, some 56, some 57, some 58, some 59, some 3] [[], [], [], [1, 2], [1, 2, 3], [1, 2, 3, 4], [0, 1, 2, 3, 4, 5], [], [], [7, 8], [0, 1, 2, 3, 4, 5, 6, 7, 8, 9], [0, 1, 2, 3, 4, 5, 6, 7, 8, 9, 10]] [Fct.eqv (.slice ax x771.length ay), Fct.eqv (.slice A1 a0.length c2), Fct.eqv (.int .i64 aa.2), Fct.elem (x785 : ByteArray), Fct.eqv (.string x785), Fct.data ([x785] : (List ByteArray)), Fct.data (x771 ++ [x785] : (List ByteArray)), Fct.eqv (.slice ad aa.1.length ae), Fct.eqv (.int .i64 ab), Fct.data (x789 : (List ByteArray)), Fct.data ((x771 ++ [x785]) ++ x789 : (List ByteArray)), Fct.data ((x771 ++ [x785]) ++ x789 : (List ByteArray))] (fun D F τ => (D 6 = false → Own s0.N 2 9 τ x771 ax ay) ∧ (D 6 = true → D 10 = false → ∃ zA zc, F 55 = (.slice zA (x771 ++ [x785]).length zc) ∧ Own s0.N 2 9 τ (x771 ++ [x785]) zA zc) ∧ (D 10 = true → ∃ zA zc, F 59 = (.slice zA ((x771 ++ [x785]) ++ x789).length zc) ∧ Own s0.N 2 9 τ ((x771 ++ [x785]) ++ x789) zA zc ∧ (D 11 = true → F 3 = (.slice zA ((x771 ++ [x785]) ++ x789).length zc)))) (by kernel_rfl) rfl (by decide) (by decide) ⟨(fun _ => (ej.ext (ext_draw _))), (fun h => Bool.noConfusion h), (fun h => Bool.noConfusion h)⟩ (by decide) (by decide) ⟨?_, ?_, ?_, ?_, ?_, ?_, ?_, ?_, ?_, ?_, ?_, ?_, trivial⟩ ?_
    ·intro pH pI pJ pK pL bG pM pN eo ep pO
     obtain ⟨eq, pP, pQ⟩ := eo
     refine r_move (.slice ax x771.length ay) ((ep 6 rfl).trans rfl) rfl ?_
     exact d0 ⟨rfl, ⟨(fun h => (eq h)), (fun h => Bool.noConfusion ((bG 6 rfl).symm.trans h)), (fun h => Bool.noConfusion ((bG 10 rfl).symm.trans h))⟩⟩
    ·intro pR pS pT pU pV bH pW pX er es pY
     obtain ⟨et, pZ, p0⟩ := er
     refine r_move (.slice A1 a0.length c2) ((es 0 rfl).trans ec) rfl ?_
     exact d0 ⟨rfl, ⟨(fun h => (et h)), (fun h => Bool.noConfusion ((bH 6 rfl).symm.trans h)), (fun h => Bool.noConfusion ((bH 10 rfl).symm.trans h))⟩⟩
    ·intro p1 p2 p3 p4 p5 bI p6 p7 eu ev p8
     obtain ⟨ew, p9, qa⟩ := eu
     refine r_move (.int .i64 aa.2) ((ev 4 rfl).trans a1) rfl ?_
     exact d0 ⟨rfl, ⟨(fun h => (ew h)), (fun h => Bool.noConfusion ((bI 6 rfl).symm.trans h)), (fun h => Bool.noConfusion ((bI 10 rfl).symm.trans h))⟩⟩
    ·intro qb qc qd qe qf bJ qg ex ey qh bK
     obtain ⟨ez, qi, qj⟩ := ey
     refine r_indexAddr (T := 25) (E := 9) (((((h3.mono ai).mono ah).mono an).mono az.wext).mono ex) ek (bK 1 rfl 50 rfl) (bK 2 rfl 51 rfl) rfl rfl Go.Proofs.Try.underlying25 sz9 ?_
     intro qk ql qm eA eB
     obtain rfl := eA
     exact d0 ⟨⟨_, _, _, rfl, rfl, eB⟩, ⟨(fun h => (ez h)), (fun h => Bool.noConfusion ((bJ 6 rfl).symm.trans h)), (fun h => Bool.noConfusion ((bJ 10 rfl).symm.trans h))⟩⟩
    ·intro qn eC eD qo qp bL qq qr eE qs eF
     obtain ⟨eG, qt, qu⟩ := eE
     obtain ⟨eH, eI, qv, eJ, eK, eL⟩ : (Fct.elem (x785 : ByteArray)).p (eC 52) eD := eF 3 rfl 52 rfl
     obtain rfl := eK
     refine r_load eH eI (.string x785) eJ rfl (loads_one to9 (eL.2 0 _ rfl)) ?_
     exact d0 ⟨rfl, ⟨(fun h => (eG h)), (fun h => Bool.noConfusion ((bL 6 rfl).symm.trans h)), (fun h => Bool.noConfusion ((bL 10 rfl).symm.trans h))⟩⟩
    ·intro qw qx qy qz qA bM eM qB eN qC eO
     have bN := aA.trans eM
     obtain ⟨eP, qD, qE⟩ := eN
     refine r_buildSlice (B := s0.N) (E := 9) 3 bN.size ts25 (xs := [x785]) [.string x785] (eps_cons (eO 4 rfl 53 rfl) eps_nil) rfl rfl rfl (by decide) rfl (by simp [Value.cells, Rp.sz]) ⟨_, _, rfl, rfl, rfl⟩ ?_
     intro qF qG qH a3 eQ
     refine j0 ?_
     exact ⟨_, _, rfl, rfl, (ExtB.refl _ _).trans (a3.mono bN.size), (Wext.refl _).trans a3.wext, (RpV.mkList eQ.sl), ⟨(fun h => ((eP h).ext a3)), (fun h => Bool.noConfusion ((bM 6 rfl).symm.trans h)), (fun h => Bool.noConfusion ((bM 10 rfl).symm.trans h))⟩⟩
    ·intro qI eR eS eT qJ eU eV qK eW qL bO
     have bP := aA.trans eV
     obtain ⟨eX, qM, qN⟩ := eW
     have eY : RpV eS ([x785] : (List ByteArray)) (eR 54) := bO 5 rfl 54 rfl
     obtain ⟨qO, qP, eZ, e0⟩ := RpV.list eY
     refine r_append (B := s0.N) (id := 2) (E := 9) (xs := x771) (ys := [x785]) bP.size ((eX eT)) e0 ts25 (room_some el) (bO 0 rfl 49 rfl) eZ rfl rfl ?_
     intro qQ e1 e2 bQ bR
     refine j0 ?_
     exact ⟨_, _, rfl, rfl, (ExtB.refl _ _).trans ((ExtB.refl _ _).mod bP.size bQ), (Wext.refl _).trans bQ.wext, (RpV.mkList bR.sl), ⟨(fun h => Bool.noConfusion h), (fun _ _ => ⟨e1, e2, rfl, bR⟩), (fun h => Bool.noConfusion ((eU 10 rfl).symm.trans h))⟩⟩
    ·intro qR qS qT qU qV e3 qW qX e4 e5 qY
     obtain ⟨e6, e7, qZ⟩ := e4
     refine r_move (.slice ad aa.1.length ae) ((e5 3 rfl).trans aZ) rfl ?_
     exact d0 ⟨rfl, ⟨(fun h => (e6 h)), (fun y0 y1 => let ⟨zA, zc, zv, zo⟩ := e7 y0 y1; ⟨zA, zc, zv, zo⟩), (fun h => Bool.noConfusion ((e3 10 rfl).symm.trans h))⟩⟩
    ·intro q0 q1 q2 q3 q4 e8 q5 q6 e9 fa q7
     obtain ⟨fb, fc, q8⟩ := e9
     refine r_move (.int .i64 ab) ((fa 5 rfl).trans bE) rfl ?_
     exact d0 ⟨rfl, ⟨(fun h => (fb h)), (fun y0 y1 => let ⟨zA, zc, zv, zo⟩ := fc y0 y1; ⟨zA, zc, zv, zo⟩), (fun h => Bool.noConfusion ((e8 10 rfl).symm.trans h))⟩⟩
    ·intro q9 ra rb rc rd fd re fe ff rf bS
     obtain ⟨fg, fh, rg⟩ := ff
     obtain ⟨fj, fk, fm, fn⟩ := sl_cut_l (P := Go.Proofs.Try.prog) ((((aj.mono ah).mono an).mono az.wext).mono fe) em Go.Proofs.Try.underlying25 sz9
     refine r_slice (.slice ad aa.1.length ae) (.slice fj x789.length fk) (some (.int .i64 ab)) none none (bS 7 rfl 56 rfl) rfl (om (bS 8 rfl 57 rfl)) rfl rfl rfl (fm) ?_
     exact d0 ⟨(RpV.mkList fn), ⟨(fun h => (fg h)), (fun y0 y1 => let ⟨zA, zc, zv, zo⟩ := fh y0 y1; ⟨zA, zc, zv, zo⟩), (fun h => Bool.noConfusion ((fd 10 rfl).symm.trans h))⟩⟩
    ·intro rh fo fp fq bT fs ft ri fu rj fv
     have bU := aA.trans ft
     obtain ⟨rk, fw, rl⟩ := fu
     obtain ⟨rm, rn, fx, fy⟩ := fw (bT 6 rfl) fq
     have fz : RpV fp (x789 : (List ByteArray)) (fo 58) := fv 9 rfl 58 rfl
     obtain ⟨ro, rq, fA, fB⟩ := RpV.list fz
     refine r_append (B := s0.N) (id := 2) (E := 9) (xs := x771 ++ [x785]) (ys := x789) bU.size (fy) fB ts25 (room_some en) fx fA rfl rfl ?_
     intro rr fC fD bV bW
     refine j0 ?_
     exact ⟨_, _, rfl, rfl, (ExtB.refl _ _).trans ((ExtB.refl _ _).mod bU.size bV), (Wext.refl _).trans bV.wext, (RpV.mkList bW.sl), ⟨(fun h => Bool.noConfusion ((bT 6 rfl).symm.trans h)), (fun _ h => Bool.noConfusion h), (fun _ => ⟨fC, fD, rfl, bW, (fun h => Bool.noConfusion ((fs 11 rfl).symm.trans h))⟩)⟩⟩
    ·intro rs rt ru rv bX rw rx ry fE rz rA
     obtain ⟨rB, fF, fG⟩ := fE
     obtain ⟨bY, bZ, b0, b1, rC⟩ := fG (bX 10 rfl)
     refine r_assign (.slice bY ((x771 ++ [x785]) ++ x789).length bZ) b0 rfl ?_
     exact d0 ⟨(RpV.mkList b1.sl), ⟨(fun h => Bool.noConfusion ((bX 6 rfl).symm.trans h)), (fun y0 y1 => let ⟨zA, zc, zv, zo⟩ := fF y0 y1; ⟨zA, zc, zv, zo⟩), (fun _ => ⟨bY, bZ, b0, b1, (fun _ => rfl)⟩)⟩⟩
    intro rD rE fH fI fJ b2 rF
    have fK := aA.trans fH
    obtain ⟨rG, rH, fL⟩ := fJ
    obtain ⟨fM, fN, rI, fO, fP⟩ := fL rfl
    have fQ := (b2 4 rfl).trans a1
    refine j5 (j1 (j3 ?_))
    refine r_move (.int .i64 aa.2) fQ rfl ?_
    refine r_bin (.int .i64 aa.2) (.int .i64 1) (.int .i64 (w64 (aa.2 + 1))) rfl rfl rfl rfl (b_add) ?_
    refine r_assign (.int .i64 (w64 (aa.2 + 1))) rfl rfl ?_
    refine j0 ?_
    obtain rfl := Option.some.inj hf
    exact ⟨rfl, _, _, fM, fN, rfl, rfl, ((((((((((((((((((ap).put rfl).put rfl).put rfl).put rfl).put rfl).gen ak).loop am rfl).draw ao rfl).put rfl).put rfl).put rfl).put rfl).put rfl).draw b2 rfl).put rfl).put rfl).put rfl), fK, ((((((Wext.refl _).trans ai).trans ah).trans an).trans az.wext).trans fI), (fP rfl), fO.sl, rfl⟩
   refine wp_draw (B := frExt s0.N) [some 30, some 31, some 32, some 33, some 34, some 35, some 36, some 37, some 38, some 39, some 40, some 41, some 42, some 43, some 44] [[], [], [1], [0, 1, 2], [0, 1, 2, 3], [0, 1, 2, 3, 4], [0, 1, 2, 3, 4], [0, 1, 2, 3, 4, 5, 6], [0, 1, 2, 3, 4, 5, 6, 7], [0, 1, 2, 3, 4], [0, 1, 2, 3, 4], [0, 1, 2, 3, 4, 9, 10], [0, 1, 2, 3, 4, 9, 10, 11], [0, 1, 2, 3, 4, 5, 6, 7, 8, 9, 10, 11, 12], [0, 1, 2, 3, 4, 5, 6, 7, 8, 9, 10, 11, 12, 13]] [Fct.eqv (.int .i64 ab), Fct.eqv (.slice ad aa.1.length ae), Fct.eqv (.int .i64 (aa.1.length : Int)), Fct.eqv (.bool (decide (ab < (aa.1.length : Int)))), Fct.eqv (.bool (decide (ab < (aa.1.length : Int)))), Fct.eqv undef, Fct.eqv undef, Fct.eqv undef, Fct.eqv undef, Fct.eqv undef, Fct.eqv undef, Fct.eqv undef, Fct.eqv undef, Fct.eqv undef, Fct.eqv (.bool false)] (fun D F τ => True) (by kernel_rfl) rfl (by decide) (by decide) trivial (by decide) (by decide) ⟨?_, ?_, ?_, ?_, ?_, ?_, ?_, ?_, ?_, ?_, ?_, ?_, ?_, ?_, ?_, trivial⟩ ?_
   ·intro rJ rK rL rM rN rO rP rQ rR fR rS
    refine r_move (.int .i64 ab) ((fR 5 rfl).trans au) rfl ?_
    exact d0 ⟨rfl, trivial⟩
   ·intro rT rU rV rW rX rY rZ r0 r1 fS r2
    refine r_move (.slice ad aa.1.length ae) ((fS 3 rfl).trans av) rfl ?_
    exact d0 ⟨rfl, trivial⟩
   ·intro r3 r4 r5 r6 r7 r8 r9 sa sb sc fT
    refine r_len ad aa.1.length ae (fT 1 rfl 31 rfl) rfl Go.Proofs.Try.underlying25 ?_
    exact d0 ⟨rfl, trivial⟩
   ·intro sd se sf sg sh si sj sk sl sm b3
    refine r_bin (.int .i64 ab) (.int .i64 (aa.1.length : Int)) (.bool (decide (ab < (aa.1.length : Int)))) (b3 0 rfl 30 rfl) (b3 2 rfl 32 rfl) rfl rfl (b_lss) ?_
    exact d0 ⟨rfl, trivial⟩
   ·intro sn so sp sq sr ss st su sv sw fU
    refine r_move (.bool (decide (ab < (aa.1.length : Int)))) (fU 3 rfl 33 rfl) rfl ?_
    exact d0 ⟨rfl, trivial⟩
   ·intro sx sy sA sB sC sD sE sF sG sH fV
    refine Or.inr ⟨decide (ab < (aa.1.length : Int)), (fun d hd => by cases hd; exact (fV 4 rfl 34 rfl)), fun h => Bool.noConfusion (Eq.trans (Eq.symm (ag : (decide (ab < (aa.1.length : Int))) = false)) h), fun _ => ⟨rfl, ?_⟩⟩
    exact trivial
   ·intro sI sJ sK sL sM sN sO sP sQ sR fW
    refine Or.inr ⟨decide (ab < (aa.1.length : Int)), (fun d hd => by cases hd; exact (fW 4 rfl 34 rfl)), fun h => Bool.noConfusion (Eq.trans (Eq.symm (ag : (decide (ab < (aa.1.length : Int))) = false)) h), fun _ => ⟨rfl, ?_⟩⟩
    exact trivial
   ·intro sS b4 sT sU sV sW sX sY sZ s1 a4
    have s2 : b4 35 = undef := a4 5 rfl 35 rfl
    have s3 : b4 36 = undef := a4 6 rfl 36 rfl
    refine Or.inr ⟨decide (ab < (aa.1.length : Int)), (fun d hd => by cases hd; exact (a4 4 rfl 34 rfl)), fun h => Bool.noConfusion (Eq.trans (Eq.symm (ag : (decide (ab < (aa.1.length : Int))) = false)) h), fun _ => ⟨rfl, ?_⟩⟩
    exact trivial
   ·intro s4 fX s5 s6 s7 s8 s9 ta tb tc b5
    have td : fX 37 = undef := b5 7 rfl 37 rfl
    refine Or.inr ⟨decide (ab < (aa.1.length : Int)), (fun d hd => by cases hd; exact (b5 4 rfl 34 rfl)), fun h => Bool.noConfusion (Eq.trans (Eq.symm (ag : (decide (ab < (aa.1.length : Int))) = false)) h), fun _ => ⟨rfl, ?_⟩⟩
    exact trivial
   ·intro te tf tg th ti tj tk tl tm tn fY
    refine Or.inr ⟨decide (ab < (aa.1.length : Int)), (fun d hd => by cases hd; exact (fY 4 rfl 34 rfl)), fun h => Bool.noConfusion (Eq.trans (Eq.symm (ag : (decide (ab < (aa.1.length : Int))) = false)) h), fun _ => ⟨rfl, ?_⟩⟩
    exact trivial
   ·intro tp tq tr ts tt tu tv tw tx ty fZ
    refine Or.inr ⟨decide (ab < (aa.1.length : Int)), (fun d hd => by cases hd; exact (fZ 4 rfl 34 rfl)), fun h => Bool.noConfusion (Eq.trans (Eq.symm (ag : (decide (ab < (aa.1.length : Int))) = false)) h), fun _ => ⟨rfl, ?_⟩⟩
    exact trivial
   ·intro tz b6 tA tB tC tD tE tF tG tH a5
    have tI : b6 39 = undef := a5 9 rfl 39 rfl
    have tJ : b6 40 = undef := a5 10 rfl 40 rfl
    refine Or.inr ⟨decide (ab < (aa.1.length : Int)), (fun d hd => by cases hd; exact (a5 4 rfl 34 rfl)), fun h => Bool.noConfusion (Eq.trans (Eq.symm (ag : (decide (ab < (aa.1.length : Int))) = false)) h), fun _ => ⟨rfl, ?_⟩⟩
    exact trivial
   ·intro tK f0 tL tM tN tO tP tQ tR tS b7
    have tT : f0 41 = undef := b7 11 rfl 41 rfl
    refine Or.inr ⟨decide (ab < (aa.1.length : Int)), (fun d hd => by cases hd; exact (b7 4 rfl 34 rfl)), fun h => Bool.noConfusion (Eq.trans (Eq.symm (ag : (decide (ab < (aa.1.length : Int))) = false)) h), fun _ => ⟨rfl, ?_⟩⟩
    exact trivial
   ·intro tU b8 tV tW tX tY tZ t0 t1 t2 a6
    have t3 : b8 38 = undef := a6 8 rfl 38 rfl
    have t4 : b8 42 = undef := a6 12 rfl 42 rfl
    refine Or.inr ⟨decide (ab < (aa.1.length : Int)), (fun d hd => by cases hd; exact (a6 4 rfl 34 rfl)), fun h => Bool.noConfusion (Eq.trans (Eq.symm (ag : (decide (ab < (aa.1.length : Int))) = false)) h), fun _ => ⟨rfl, ?_⟩⟩
    exact trivial
   ·intro t5 f1 t6 t7 t8 t9 ua ub uc ud b9
    have ue : f1 43 = undef := b9 13 rfl 43 rfl
    refine r_pick_f (c := decide (ab < (aa.1.length : Int))) (.bool false) (b9 4 rfl 34 rfl) ag rfl rfl rfl rfl ?_
    exact d0 ⟨rfl, trivial⟩
   intro uf ug f2 aB uh aw f3
   have ca := bz.trans f2
   have f4 := (aw 0 rfl).trans aT
   have cb := (aw 3 rfl).trans av
   have cc := (aw 4 rfl).trans aU
   have cd := (aw 5 rfl).trans au
   refine j1 ?_
   refine c_false (f3 14 44 rfl) rfl rfl ?_
   refine ja (j1 (j2 (j3 ?_)))
   refine r_move (.slice ad aa.1.length ae) cb rfl ?_
   refine r_move (.int .i64 ab) cd rfl ?_
   obtain ⟨x1274, f5, hf⟩ := bind_some hf
   obtain ⟨f7, ga, gb, gc⟩ := sl_cut_h (P := Go.Proofs.Try.prog) ((aj.mono ah).mono aB) f5 Go.Proofs.Try.underlying25 sz9
   refine r_slice (.slice ad aa.1.length ae) (.slice f7 x1274.length ga) none (some (.int .i64 ab)) none rfl rfl rfl (om rfl) rfl rfl (gb) ?_
   obtain ⟨ui, gd, hf⟩ := bind_some hf
   refine r_append (B := s0.N) (id := 4) (E := 9) (xs := ([] : List ByteArray)) (ys := x1274) ca.size (Own.nil_ _) gc ts25 (room_some gd) rfl rfl rfl rfl ?_
   intro uj aC aD aE ge
   have aF := ca.y aE
   refine r_assign (.slice aC x1274.length aD) rfl rfl ?_
   refine j0 (j1 ?_)
   obtain ⟨x1288, gf, hf⟩ := bind_some hf
   obtain ⟨uk, gg, hf⟩ := bind_some hf
   obtain ⟨x1292, gh, hf⟩ := bind_some hf
   obtain ⟨ul, gi, hf⟩ := bind_some hf
   refine wp_draw (B := frExt s0.N) [some 49, some 50, some 51, some 52, some 53, some 54, some 55, some 56, some 57, some 58, some 59, some 3] [[], [], [], [1, 2], [1, 2, 3], [1, 2, 3, 4], [0, 1, 2, 3, 4, 5], [], [], [7, 8], [0, 1, 2, 3, 4, 5, 6, 7, 8, 9], [0, 1, 2, 3, 4, 5, 6, 7, 8, 9, 10]] [Fct.eqv (.slice aC x1274.length aD), Fct.eqv (.slice A1 a0.length c2), Fct.eqv (.int .i64 aa.2), Fct.elem (x1288 : ByteArray), Fct.eqv (.string x1288), Fct.data ([x1288] : (List ByteArray)), Fct.data (x1274 ++ [x1288] : (List ByteArray)), Fct.eqv (.slice ad aa.1.length ae), Fct.eqv (.int .i64 ab), Fct.data (x1292 : (List ByteArray)), Fct.data ((x1274 ++ [x1288]) ++ x1292 : (List ByteArray)), Fct.data ((x1274 ++ [x1288]) ++ x1292 : (List ByteArray))] (fun D F τ => (D 6 = false → Own s0.N 4 9 τ x1274 aC aD) ∧ (D 6 = true → D 10 = false → ∃ zA zc, F 55 = (.slice zA (x1274 ++ [x1288]).length zc) ∧ Own s0.N 4 9 τ (x1274 ++ [x1288]) zA zc) ∧ (D 10 = true → ∃ zA zc, F 59 = (.slice zA ((x1274 ++ [x1288]) ++ x1292).length zc) ∧ Own s0.N 4 9 τ ((x1274 ++ [x1288]) ++ x1292) zA zc ∧ (D 11 = true → F 3 = (.slice zA ((x1274 ++ [x1288]) ++ x1292).length zc)))) (by kernel_rfl) rfl (by decide) (by decide) ⟨(fun _ => (ge.ext (ext_draw _))), (fun h => Bool.noConfusion h), (fun h => Bool.noConfusion h)⟩ (by decide) (by decide) ⟨?_, ?_, ?_, ?_, ?_, ?_, ?_, ?_, ?_, ?_, ?_, ?_, trivial⟩ ?_
   ·intro um un uo up uq ce ur us gj gk ut
    obtain ⟨gl, uu, uv⟩ := gj
    refine r_move (.slice aC x1274.length aD) ((gk 6 rfl).trans rfl) rfl ?_
    exact d0 ⟨rfl, ⟨(fun h => (gl h)), (fun h => Bool.noConfusion ((ce 6 rfl).symm.trans h)), (fun h => Bool.noConfusion ((ce 10 rfl).symm.trans h))⟩⟩
   ·intro uw ux uy uz uA cf uB uC gm gn uD
    obtain ⟨go, uE, uF⟩ := gm
    refine r_move (.slice A1 a0.length c2) ((gn 0 rfl).trans f4) rfl ?_
    exact d0 ⟨rfl, ⟨(fun h => (go h)), (fun h => Bool.noConfusion ((cf 6 rfl).symm.trans h)), (fun h => Bool.noConfusion ((cf 10 rfl).symm.trans h))⟩⟩
   ·intro uG uH uI uJ uK cg uL uM gp gq uN
    obtain ⟨gr, uO, uP⟩ := gp
    refine r_move (.int .i64 aa.2) ((gq 4 rfl).trans cc) rfl ?_
    exact d0 ⟨rfl, ⟨(fun h => (gr h)), (fun h => Bool.noConfusion ((cg 6 rfl).symm.trans h)), (fun h => Bool.noConfusion ((cg 10 rfl).symm.trans h))⟩⟩
   ·intro uQ uR uS uT uU ch uV gs gt uW ci
    obtain ⟨gu, uX, uY⟩ := gt
    refine r_indexAddr (T := 25) (E := 9) (((((h3.mono ai).mono ah).mono aB).mono aE.wext).mono gs) gf (ci 1 rfl 50 rfl) (ci 2 rfl 51 rfl) rfl rfl Go.Proofs.Try.underlying25 sz9 ?_
    intro uZ u0 u1 gv gw
    obtain rfl := gv
    exact d0 ⟨⟨_, _, _, rfl, rfl, gw⟩, ⟨(fun h => (gu h)), (fun h => Bool.noConfusion ((ch 6 rfl).symm.trans h)), (fun h => Bool.noConfusion ((ch 10 rfl).symm.trans h))⟩⟩
   ·intro u2 gx gy u3 u4 cj u5 u6 gz u7 gA
    obtain ⟨gB, u8, u9⟩ := gz
    obtain ⟨gC, gD, va, gE, gF, gG⟩ : (Fct.elem (x1288 : ByteArray)).p (gx 52) gy := gA 3 rfl 52 rfl
    obtain rfl := gF
    refine r_load gC gD (.string x1288) gE rfl (loads_one to9 (gG.2 0 _ rfl)) ?_
    exact d0 ⟨rfl, ⟨(fun h => (gB h)), (fun h => Bool.noConfusion ((cj 6 rfl).symm.trans h)), (fun h => Bool.noConfusion ((cj 10 rfl).symm.trans h))⟩⟩
   ·intro vb vc vd ve vf ck gH vg gI vh gJ
    have cl := aF.trans gH
    obtain ⟨gK, vi, vj⟩ := gI
    refine r_buildSlice (B := s0.N) (E := 9) 5 cl.size ts25 (xs := [x1288]) [.string x1288] (eps_cons (gJ 4 rfl 53 rfl) eps_nil) rfl rfl rfl (by decide) rfl (by simp [Value.cells, Rp.sz]) ⟨_, _, rfl, rfl, rfl⟩ ?_
    intro vk vl vm a7 gL
    refine j0 ?_
    exact ⟨_, _, rfl, rfl, (ExtB.refl _ _).trans (a7.mono cl.size), (Wext.refl _).trans a7.wext, (RpV.mkList gL.sl), ⟨(fun h => ((gK h).ext a7)), (fun h => Bool.noConfusion ((ck 6 rfl).symm.trans h)), (fun h => Bool.noConfusion ((ck 10 rfl).symm.trans h))⟩⟩
   ·intro vn gM gN gO vo gP gQ vp gR vq cm
    have cn := aF.trans gQ
    obtain ⟨gS, vr, vs⟩ := gR
    have gT : RpV gN ([x1288] : (List ByteArray)) (gM 54) := cm 5 rfl 54 rfl
    obtain ⟨vt, vu, gU, gV⟩ := RpV.list gT
    refine r_append (B := s0.N) (id := 4) (E := 9) (xs := x1274) (ys := [x1288]) cn.size ((gS gO)) gV ts25 (room_some gg) (cm 0 rfl 49 rfl) gU rfl rfl ?_
    intro vv gW gX co cp
    refine j0 ?_
    exact ⟨_, _, rfl, rfl, (ExtB.refl _ _).trans ((ExtB.refl _ _).mod cn.size co), (Wext.refl _).trans co.wext, (RpV.mkList cp.sl), ⟨(fun h => Bool.noConfusion h), (fun _ _ => ⟨gW, gX, rfl, cp⟩), (fun h => Bool.noConfusion ((gP 10 rfl).symm.trans h))⟩⟩
   ·intro vw vx vy vz vA gY vB vC gZ g0 vD
    obtain ⟨g1, g2, vE⟩ := gZ
    refine r_move (.slice ad aa.1.length ae) ((g0 3 rfl).trans cb) rfl ?_
    exact d0 ⟨rfl, ⟨(fun h => (g1 h)), (fun y0 y1 => let ⟨zA, zc, zv, zo⟩ := g2 y0 y1; ⟨zA, zc, zv, zo⟩), (fun h => Bool.noConfusion ((gY 10 rfl).symm.trans h))⟩⟩
   ·intro vF vG vH vI vJ g3 vK vL g4 g5 vM
    obtain ⟨g6, g7, vN⟩ := g4
    refine r_move (.int .i64 ab) ((g5 5 rfl).trans cd) rfl ?_
    exact d0 ⟨rfl, ⟨(fun h => (g6 h)), (fun y0 y1 => let ⟨zA, zc, zv, zo⟩ := g7 y0 y1; ⟨zA, zc, zv, zo⟩), (fun h => Bool.noConfusion ((g3 10 rfl).symm.trans h))⟩⟩
   ·intro vO vP vQ vR vS g8 vT g9 ha vU cq
    obtain ⟨hb, hc, vV⟩ := ha
    obtain ⟨he, hg, hh, hi⟩ := sl_cut_l (P := Go.Proofs.Try.prog) ((((aj.mono ah).mono aB).mono aE.wext).mono g9) gh Go.Proofs.Try.underlying25 sz9
    refine r_slice (.slice ad aa.1.length ae) (.slice he x1292.length hg) (some (.int .i64 ab)) none none (cq 7 rfl 56 rfl) rfl (om (cq 8 rfl 57 rfl)) rfl rfl rfl (hh) ?_
    exact d0 ⟨(RpV.mkList hi), ⟨(fun h => (hb h)), (fun y0 y1 => let ⟨zA, zc, zv, zo⟩ := hc y0 y1; ⟨zA, zc, zv, zo⟩), (fun h => Bool.noConfusion ((g8 10 rfl).symm.trans h))⟩⟩
   ·intro vW hj hk hl cr hm hn vX ho vY hp
    have cs := aF.trans hn
    obtain ⟨vZ, hq, v0⟩ := ho
    obtain ⟨v1, v2, hr, hs⟩ := hq (cr 6 rfl) hl
    have ht : RpV hk (x1292 : (List ByteArray)) (hj 58) := hp 9 rfl 58 rfl
    obtain ⟨v3, v4, hu, hv⟩ := RpV.list ht
    refine r_append (B := s0.N) (id := 4) (E := 9) (xs := x1274 ++ [x1288]) (ys := x1292) cs.size (hs) hv ts25 (room_some gi) hr hu rfl rfl ?_
    intro v5 hw hx ct cu
    refine j0 ?_
    exact ⟨_, _, rfl, rfl, (ExtB.refl _ _).trans ((ExtB.refl _ _).mod cs.size ct), (Wext.refl _).trans ct.wext, (RpV.mkList cu.sl), ⟨(fun h => Bool.noConfusion ((cr 6 rfl).symm.trans h)), (fun _ h => Bool.noConfusion h), (fun _ => ⟨hw, hx, rfl, cu, (fun h => Bool.noConfusion ((hm 11 rfl).symm.trans h))⟩)⟩⟩
   ·intro v6 v7 v8 v9 cv wa wb wc hy wd we
    obtain ⟨wf, hz, hA⟩ := hy
    obtain ⟨cw, cx, cy, cz, wg⟩ := hA (cv 10 rfl)
    refine r_assign (.slice cw ((x1274 ++ [x1288]) ++ x1292).length cx) cy rfl ?_
    exact d0 ⟨(RpV.mkList cz.sl), ⟨(fun h => Bool.noConfusion ((cv 6 rfl).symm.trans h)), (fun y0 y1 => let ⟨zA, zc, zv, zo⟩ := hz y0 y1; ⟨zA, zc, zv, zo⟩), (fun _ => ⟨cw, cx, cy, cz, (fun _ => rfl)⟩)⟩⟩
   intro wh wi hB hC hD cA wj
   have hE := aF.trans hB
   obtain ⟨wk, wl, hF⟩ := hD
   obtain ⟨hG, hH, wm, hJ, hK⟩ := hF rfl
   have hL := (cA 4 rfl).trans cc
   refine j5 (j1 (j3 ?_))
   refine r_move (.int .i64 aa.2) hL rfl ?_
   refine r_bin (.int .i64 aa.2) (.int .i64 1) (.int .i64 (w64 (aa.2 + 1))) rfl rfl rfl rfl (b_add) ?_
   refine r_assign (.int .i64 (w64 (aa.2 + 1))) rfl rfl ?_
   refine j0 ?_
   obtain rfl := Option.some.inj hf
   exact ⟨rfl, _, _, hG, hH, rfl, rfl, ((((((((((((((((((ap).put rfl).put rfl).put rfl).put rfl).put rfl).gen ak).loop am rfl).draw aw rfl).put rfl).put rfl).put rfl).put rfl).put rfl).draw cA rfl).put rfl).put rfl).put rfl), hE, ((((((Wext.refl _).trans ai).trans ah).trans aB).trans aE.wext).trans hC), (hK rfl), hJ.sl, rfl⟩
  refine c_false rfl aI rfl ?_
  refine jc (j8 ?_)
  obtain rfl := Option.some.inj hf
  exact ⟨rfl, _, _, ad, ae, rfl, rfl, (((((ap).put rfl).put rfl).put rfl).put rfl), bb, ((Wext.refl _).trans ai), bc, aj, aH⟩
 ·exact ⟨_, _, none, 0, rfl, rfl, (Agr.refl _ _), E0, (Wext.refl _), f8, (Sl.nil_ _ _ _ (Nat.zero_le _)), f9⟩
 rintro e a w ⟨rfl, wn, wo, a8, a9, rfl, rfl, wp, hM, wq, hN, hO, wr⟩
 refine j6 (j1 (j2 (j3 ?_)))
 refine r_move (.slice a8 aG.1.length a9) hN rfl ?_
 refine r_assign (.slice a8 aG.1.length a9) rfl rfl ?_
 refine j0 (j1 (jb ?_))
 obtain rfl := Option.some.inj hf
 refine ret_one (.slice a8 aG.1.length a9) rfl ⟨rfl, rfl⟩ hM ?_
 exact (RpV.mkList hO)

def S_semtypebase_Source_Labels (f : (Semtypebase_Source → Option ((List ByteArray) × Semtypebase_Source))) : Prop := ∀ (s0 : S) (B0 id0 b0 : Nat) (cs0 : List Value) (a0 : Semtypebase_Source) (r : ((List ByteArray) × Semtypebase_Source)), Rp.cells s0 a0 cs0 → Blk B0 id0 s0 b0 53 cs0 → 1000000 ≤ id0 → f a0 = some r → CtrE Go.Proofs.Try.prog 60 [.pointer (some ⟨b0, 0, none⟩)] s0 (Mod B0 id0 s0) (fun v τ => RpV τ r.1 v ∧ PtrR B0 id0 53 τ r.2 b0)

set_option maxHeartbeats 1600000 in
set_option maxRecDepth 100000 in
theorem ok_semtypebase_Source_Labels : S_semtypebase_Source_Labels semtypebase_Source_Labels := by
 intro s0 B0 id0 b0 cs0 a0 r hc0 hb0 hid0 hf
 obtain ⟨A1, c2, rfl, h3⟩ := Semtypebase_Source.cells_iff.1 hc0
 unfold semtypebase_Source_Labels at hf
 have E0 : ExtP s0.N B0 id0 s0 s0 := ExtP.refl _ _ _ _
 refine ctr_ofE 22 Go.Proofs.Try.func60 rfl rfl rfl rfl ?_
 refine j2 (j3 ?_)
 refine r_assign (nl ByteArray) rfl rfl ?_
 refine j0 (j1 (j2 (j3 ?_)))
 refine r_assign (nl ByteArray) rfl rfl ?_
 refine j0 (j1 (j2 (j2 (j3 ?_))))
 refine r_move (.pointer (some ⟨b0, 0, none⟩)) rfl rfl ?_
 obtain ⟨r4, e5, hf⟩ := bind_some hf
 refine r_callE [.pointer (some ⟨b0, 0, none⟩), .int .i64 3] (evs2 rfl rfl) rfl (ok_semtypebase_Source_Next _ _ _ _ _ _ _ _ _ (Semtypebase_Source.cells_iff.2 ⟨_, _, rfl, h3⟩) hb0 hid0 (RpV.mkInt _ _) e5) ?_
 intro v7 s6 k8 hr9
 obtain ⟨aO, bq, aP, aq⟩ := hr9
 have ar := E0.z k8
 obtain ⟨br, bs, rfl, au⟩ := Semtypebase_Source.cells_iff.1 aP
 obtain rfl := RpV.int aO
 refine r_bin (.int .i64 r4.1) (.int .i64 1) (.bool (r4.1 == 1)) rfl rfl rfl rfl (b_eql) ?_
 refine j0 (j1 ?_)
 refine if_else hf (fun af hf => ?_) (fun af hf => ?_)
 ·refine c_true rfl af rfl ?_
  refine j2 (j3 ?_)
  refine r_move (nl ByteArray) rfl rfl ?_
  refine r_move (.pointer (some ⟨b0, 0, none⟩)) rfl rfl ?_
  obtain ⟨aa, aQ, hf⟩ := bind_some hf
  refine r_callE [.pointer (some ⟨b0, 0, none⟩)] (evs1 rfl) rfl (ok_semtypebase_Source_Label _ _ _ _ _ _ _ (Semtypebase_Source.cells_iff.2 ⟨_, _, rfl, au⟩) aq hid0  aQ) ?_
  intro bt bu aR aS
  obtain ⟨aT, bv, aU, aV⟩ := aS
  have av := ar.z aR
  obtain ⟨bw, bx, rfl, aW⟩ := Semtypebase_Source.cells_iff.1 aU
  obtain rfl := RpV.str aT
  refine r_buildSlice (B := s0.N) (E := 9) 1 av.size ts25 (xs := [aa.1]) [.string aa.1] (eps_cons rfl eps_nil) rfl rfl rfl (by decide) rfl (by simp [Value.cells, Rp.sz]) ⟨_, _, rfl, rfl, rfl⟩ ?_
  intro bz bA bB ag aX
  have aw := av.x ag
  obtain ⟨bC, aY, hf⟩ := bind_some hf
  refine r_append (B := s0.N) (id := 2) (E := 9) (xs := ([] : List ByteArray)) (ys := [aa.1]) aw.size (Own.nil_ _) aX.sl ts25 (room_some aY) rfl rfl rfl rfl ?_
  intro bD ac ad ah ax
  have aZ := aw.y ah
  refine r_assign (.slice ac [aa.1].length ad) rfl rfl ?_
  refine j0 (j1 (j2 (j3 ?_)))
  refine r_move (.pointer (some ⟨b0, 0, none⟩)) rfl rfl ?_
  obtain ⟨ay, a0, hf⟩ := bind_some hf
  refine r_callE [.pointer (some ⟨b0, 0, none⟩), .int .i64 2] (evs2 rfl rfl) rfl (ok_semtypebase_Source_Next _ _ _ _ _ _ _ _ _ (Semtypebase_Source.cells_iff.2 ⟨_, _, rfl, ((aW.mono ag.wext).mono ah.wext)⟩) ((aV.ext ag).mod ah (beq_false (by omega))) hid0 (RpV.mkInt _ _) a0) ?_
  intro bE bF ai a1
  obtain ⟨a2, bG, a3, az⟩ := a1
  have aA := aZ.z ai
  obtain ⟨bH, bI, rfl, aB⟩ := Semtypebase_Source.cells_iff.1 a3
  obtain rfl := RpV.int a2
  refine r_bin (.int .i64 ay.1) (.int .i64 1) (.bool (ay.1 == 1)) rfl rfl rfl rfl (b_eql) ?_
  refine j0 (j1 ?_)
  refine if_else hf (fun aj hf => ?_) (fun aj hf => ?_)
  ·refine c_true rfl aj rfl ?_
   refine j3 ?_
   refine r_move (.slice ac [aa.1].length ad) rfl rfl ?_
   refine r_move (.pointer (some ⟨b0, 0, none⟩)) rfl rfl ?_
   obtain ⟨ab, a4, hf⟩ := bind_some hf
   refine r_callE [.pointer (some ⟨b0, 0, none⟩)] (evs1 rfl) rfl (ok_semtypebase_Source_Label _ _ _ _ _ _ _ (Semtypebase_Source.cells_iff.2 ⟨_, _, rfl, aB⟩) az hid0  a4) ?_
   intro bJ bK aC a5
   obtain ⟨a6, bL, a7, a8⟩ := a5
   have aD := aA.z aC
   obtain ⟨bM, bN, rfl, a9⟩ := Semtypebase_Source.cells_iff.1 a7
   obtain rfl := RpV.str a6
   refine r_buildSlice (B := s0.N) (E := 9) 3 aD.size ts25 (xs := [ab.1]) [.string ab.1] (eps_cons rfl eps_nil) rfl rfl rfl (by decide) rfl (by simp [Value.cells, Rp.sz]) ⟨_, _, rfl, rfl, rfl⟩ ?_
   intro bO bP bQ ae ba
   have aE := aD.x ae
   obtain ⟨bR, bb, hf⟩ := bind_some hf
   refine r_append (B := s0.N) (id := 2) (E := 9) (xs := [aa.1]) (ys := [ab.1]) aE.size ((((ax.mod ai (beq_false (by omega))).mod aC (beq_false (by omega))).ext ae)) ba.sl ts25 (room_some bb) rfl rfl rfl rfl ?_
   intro bS ak al am bc
   have bd := aE.y am
   refine r_assign (.slice ak ([aa.1] ++ [ab.1]).length al) rfl rfl ?_
   refine j0 (j1 (j2 (j3 ?_)))
   refine r_move (.slice ak ([aa.1] ++ [ab.1]).length al) rfl rfl ?_
   obtain ⟨aF, be, hf⟩ := bind_some hf
   refine r_call [.slice ak ([aa.1] ++ [ab.1]).length al] (evs1 rfl) rfl (ok_semtyperef1_Sorted _ _ _ _ (RpV.mkList bc.sl) be) ?_
   intro bT bU an bf
   have bg := bd.x an
   obtain ⟨aG, aH, rfl, bh⟩ := RpV.list bf
   refine r_assign (.slice aG aF.length aH) rfl rfl ?_
   refine j0 (j1 (jb ?_))
   obtain rfl := Option.some.inj hf
   refine ret_oneE (.slice aG aF.length aH) rfl ⟨rfl, rfl⟩ bg.mod_ ?_
   exact ⟨(RpV.mkList bh), _, (Semtypebase_Source.cells_iff.2 ⟨_, _, rfl, (((a9.mono ae.wext).mono am.wext).mono an.wext)⟩), (((a8.ext ae).mod am (beq_false (by omega))).ext an)⟩
  refine c_false rfl aj rfl ?_
  refine ja (j1 (j2 (j3 ?_)))
  refine r_move (.slice ac [aa.1].length ad) rfl rfl ?_
  obtain ⟨aI, bi, hf⟩ := bind_some hf
  refine r_call [.slice ac [aa.1].length ad] (evs1 rfl) rfl (ok_semtyperef1_Sorted _ _ _ _ (RpV.mkList (ax.mod ai (beq_false (by omega))).sl) bi) ?_
  intro bV bW ao bj
  have bk := aA.x ao
  obtain ⟨aJ, aK, rfl, bl⟩ := RpV.list bj
  refine r_assign (.slice aJ aI.length aK) rfl rfl ?_
  refine j0 (j1 (jb ?_))
  obtain rfl := Option.some.inj hf
  refine ret_oneE (.slice aJ aI.length aK) rfl ⟨rfl, rfl⟩ bk.mod_ ?_
  exact ⟨(RpV.mkList bl), _, (Semtypebase_Source.cells_iff.2 ⟨_, _, rfl, (aB.mono ao.wext)⟩), (az.ext ao)⟩
 refine c_false rfl af rfl ?_
 refine ja (j1 (j2 (j3 ?_)))
 refine r_move (nl ByteArray) rfl rfl ?_
 obtain ⟨aL, bm, hf⟩ := bind_some hf
 refine r_call [nl ByteArray] (evs1 rfl) rfl (ok_semtyperef1_Sorted _ _ _ _ (RpV.mkList (Sl.nil_ _ _ _ (Nat.zero_le _))) bm) ?_
 intro bX bY ap bn
 have bo := ar.x ap
 obtain ⟨aM, aN, rfl, bp⟩ := RpV.list bn
 refine r_assign (.slice aM aL.length aN) rfl rfl ?_
 refine j0 (j1 (jb ?_))
 obtain rfl := Option.some.inj hf
 refine ret_oneE (.slice aM aL.length aN) rfl ⟨rfl, rfl⟩ bo.mod_ ?_
 exact ⟨(RpV.mkList bp), _, (Semtypebase_Source.cells_iff.2 ⟨_, _, rfl, (au.mono ap.wext)⟩), (aq.ext ap)⟩

def S_semtyperef1_Int (f : (Int → Option Val)) : Prop := ∀ (s0 : S) (v0 : Value) (a0 : Int) (r : Val), RpV s0 a0 v0 → f a0 = some r → Ctr Go.Proofs.Try.prog 28 [v0] s0 (fun v τ => RpV τ r v)

set_option maxHeartbeats 1600000 in
set_option maxRecDepth 100000 in
theorem ok_semtyperef1_Int : S_semtyperef1_Int semtyperef1_Int := by
 intro s0 v0 a0 r h0 hf
 obtain rfl := RpV.int h0
 unfold semtyperef1_Int at hf
 have E0 : ExtB s0.N s0 s0 := ExtB.refl _ _
 refine ctr_of 5 Go.Proofs.Try.func28 rfl rfl rfl rfl ?_
 refine j2 (j3 ?_)
 refine r_alloc (B := s0.N) 1 E0.size _ [.int .i64 0, .int .i64 0, .string (⟨#[]⟩), nl Val, nl Key, nl Ent, nl ByteArray] ti27 rfl ?_
 intro s2 b1 k3 hb4
 have E5 := E0.x k3
 refine j0 (j1 (j2 (j3 ?_)))
 refine r_move (.int .i64 a0) rfl rfl ?_
 refine r_build tst27 [(0, .int .i64 1), (1, .int .i64 a0)] [.int .i64 1, .int .i64 a0, .string (⟨#[]⟩), nl Val, nl Key, nl Ent, nl ByteArray] (eps_cons rfl (eps_cons rfl eps_nil)) rfl rfl ?_
 refine r_store hb4 0 (.agg #[.int .i64 1, .int .i64 a0, .string (⟨#[]⟩), nl Val, nl Key, nl Ent, nl ByteArray]) [.int .i64 1, .int .i64 a0, .string (⟨#[]⟩), nl Val, nl Key, nl Ent, nl ByteArray] [.int .i64 1, .int .i64 a0, .string (⟨#[]⟩), nl Val, nl Key, nl Ent, nl ByteArray] rfl rfl rfl rfl rfl sz27 rfl rfl rfl ?_
 intro s6 hm7 hb8
 have E9 := E5.y hm7
 refine j0 (j1 (jb ?_))
 obtain rfl := Option.some.inj hf
 refine ret_one (.agg #[.int .i64 1, .int .i64 a0, .string (⟨#[]⟩), nl Val, nl Key, nl Ent, nl ByteArray]) rfl ⟨rfl, _, rfl, loads_row tr27 (Blk.range hb8 0 [.int .i64 1, .int .i64 a0, .string (⟨#[]⟩), nl Val, nl Key, nl Ent, nl ByteArray] rfl)⟩ E9 ?_
 exact (Val.rpvMk (v := (Val.mk 1 a0 (⟨#[]⟩) ([] : List Val) ([] : List Key) ([] : List Ent) ([] : List ByteArray))) (Sl.nil_ _ _ _ (Nat.zero_le _)) (Sl.nil_ _ _ _ (Nat.zero_le _)) (Sl.nil_ _ _ _ (Nat.zero_le _)) (Sl.nil_ _ _ _ (Nat.zero_le _)))

def S_semtyperef1_String (f : (ByteArray → Option Val)) : Prop := ∀ (s0 : S) (v0 : Value) (a0 : ByteArray) (r : Val), RpV s0 a0 v0 → f a0 = some r → Ctr Go.Proofs.Try.prog 29 [v0] s0 (fun v τ => RpV τ r v)

set_option maxHeartbeats 1600000 in
set_option maxRecDepth 100000 in
theorem ok_semtyperef1_String : S_semtyperef1_String semtyperef1_String := by
 intro s0 v0 a0 r h0 hf
 obtain rfl := RpV.str h0
 unfold semtyperef1_String at hf
 have E0 : ExtB s0.N s0 s0 := ExtB.refl _ _
 refine ctr_of 5 Go.Proofs.Try.func29 rfl rfl rfl rfl ?_
 refine j2 (j3 ?_)
 refine r_alloc (B := s0.N) 1 E0.size _ [.int .i64 0, .int .i64 0, .string (⟨#[]⟩), nl Val, nl Key, nl Ent, nl ByteArray] ti27 rfl ?_
 intro s2 b1 k3 hb4
 have E5 := E0.x k3
 refine j0 (j1 (j2 (j3 ?_)))
 refine r_move (.string a0) rfl rfl ?_
 refine r_build tst27 [(0, .int .i64 2), (2, .string a0)] [.int .i64 2, .int .i64 0, .string a0, nl Val, nl Key, nl Ent, nl ByteArray] (eps_cons rfl (eps_cons rfl eps_nil)) rfl rfl ?_
 refine r_store hb4 0 (.agg #[.int .i64 2, .int .i64 0, .string a0, nl Val, nl Key, nl Ent, nl ByteArray]) [.int .i64 2, .int .i64 0, .string a0, nl Val, nl Key, nl Ent, nl ByteArray] [.int .i64 2, .int .i64 0, .string a0, nl Val, nl Key, nl Ent, nl ByteArray] rfl rfl rfl rfl rfl sz27 rfl rfl rfl ?_
 intro s6 hm7 hb8
 have E9 := E5.y hm7
 refine j0 (j1 (jb ?_))
 obtain rfl := Option.some.inj hf
 refine ret_one (.agg #[.int .i64 2, .int .i64 0, .string a0, nl Val, nl Key, nl Ent, nl ByteArray]) rfl ⟨rfl, _, rfl, loads_row tr27 (Blk.range hb8 0 [.int .i64 2, .int .i64 0, .string a0, nl Val, nl Key, nl Ent, nl ByteArray] rfl)⟩ E9 ?_
 exact (Val.rpvMk (v := (Val.mk 2 0 a0 ([] : List Val) ([] : List Key) ([] : List Ent) ([] : List ByteArray))) (Sl.nil_ _ _ _ (Nat.zero_le _)) (Sl.nil_ _ _ _ (Nat.zero_le _)) (Sl.nil_ _ _ _ (Nat.zero_le _)) (Sl.nil_ _ _ _ (Nat.zero_le _)))

def S_semtyperef1_copies (f : ((List Val) → Option (List Val))) : Prop := ∀ (s0 : S) (v0 : Value) (a0 : (List Val)) (r : (List Val)), RpV s0 a0 v0 → f a0 = some r → ∀ id : Nat, 1000 ≤ id → Ctr Go.Proofs.Try.prog 93 [v0] s0 (fun v τ => OwnV s0.N id 27 τ r v)

set_option maxHeartbeats 1600000 in
set_option maxRecDepth 100000 in
theorem ok_semtyperef1_copies : S_semtyperef1_copies semtyperef1_copies := by
 intro s0 v0 a0 r h0 hf id hid
 obtain ⟨A1, c2, rfl, h3⟩ := RpV.list h0
 unfold semtyperef1_copies at hf
 have E0 : ExtB s0.N s0 s0 := ExtB.refl _ _
 refine ctr_of 5 Go.Proofs.Try.func93 rfl rfl rfl rfl ?_
 refine j2 (j3 ?_)
 refine r_assign (nl Val) rfl rfl ?_
 refine j0 (j1 (j2 (j3 ?_)))
 refine r_move (.slice A1 a0.length c2) rfl rfl ?_
 obtain ⟨u4, e5, hf⟩ := bind_some hf
 refine r_append (B := s0.N) (id := id) (E := 27) (xs := ([] : List Val)) (ys := a0) E0.size (Own.nil_ _) h3 ts22 (room_some e5) rfl rfl rfl rfl ?_
 intro s6 A7 c8 hm9 aa
 have ab := E0.y hm9
 refine r_assign (.slice A7 a0.length c8) rfl rfl ?_
 refine j0 (j1 (jb ?_))
 obtain rfl := Option.some.inj hf
 refine ret_one (.slice A7 a0.length c8) rfl ⟨rfl, rfl⟩ ab ?_
 exact ⟨_, _, rfl, aa⟩

def S_semtyperef1_Tuple (f : ((List Val) → Option Val)) : Prop := ∀ (s0 : S) (v0 : Value) (a0 : (List Val)) (r : Val), RpV s0 a0 v0 → f a0 = some r → Ctr Go.Proofs.Try.prog 73 [v0] s0 (fun v τ => RpV τ r v)

set_option maxHeartbeats 1600000 in
set_option maxRecDepth 100000 in
theorem ok_semtyperef1_Tuple : S_semtyperef1_Tuple semtyperef1_Tuple := by
 intro s0 v0 a0 r h0 hf
 obtain ⟨A1, c2, rfl, h3⟩ := RpV.list h0
 unfold semtyperef1_Tuple at hf
 have E0 : ExtB s0.N s0 s0 := ExtB.refl _ _
 refine ctr_of 6 Go.Proofs.Try.func73 rfl rfl rfl rfl ?_
 refine j2 (j3 ?_)
 refine r_alloc (B := s0.N) 1 E0.size _ [.int .i64 0, .int .i64 0, .string (⟨#[]⟩), nl Val, nl Key, nl Ent, nl ByteArray] ti27 rfl ?_
 intro s5 b4 k6 hb7
 have E8 := E0.x k6
 refine j0 (j1 (j2 (j3 ?_)))
 refine r_move (.slice A1 a0.length c2) rfl rfl ?_
 obtain ⟨r9, ae, hf⟩ := bind_some hf
 refine r_call [.slice A1 a0.length c2] (evs1 rfl) rfl (ok_semtyperef1_copies _ _ _ _ (RpV.mkList (h3.mono k6.wext)) ae 1002 (by omega)) ?_
 intro ak al ac af
 have ag := E8.x ac
 obtain ⟨aa, ab, rfl, ah⟩ := af
 refine r_build tst27 [(0, .int .i64 6), (3, .slice aa r9.length ab)] [.int .i64 6, .int .i64 0, .string (⟨#[]⟩), .slice aa r9.length ab, nl Key, nl Ent, nl ByteArray] (eps_cons rfl (eps_cons rfl eps_nil)) rfl rfl ?_
 refine r_store (hb7.ext ac) 0 (.agg #[.int .i64 6, .int .i64 0, .string (⟨#[]⟩), .slice aa r9.length ab, nl Key, nl Ent, nl ByteArray]) [.int .i64 6, .int .i64 0, .string (⟨#[]⟩), .slice aa r9.length ab, nl Key, nl Ent, nl ByteArray] [.int .i64 6, .int .i64 0, .string (⟨#[]⟩), .slice aa r9.length ab, nl Key, nl Ent, nl ByteArray] rfl rfl rfl rfl rfl sz27 rfl rfl rfl ?_
 intro am ad ai
 have aj := ag.y ad
 refine j0 (j1 (jb ?_))
 obtain rfl := Option.some.inj hf
 refine ret_one (.agg #[.int .i64 6, .int .i64 0, .string (⟨#[]⟩), .slice aa r9.length ab, nl Key, nl Ent, nl ByteArray]) rfl ⟨rfl, _, rfl, loads_row tr27 (Blk.range ai 0 [.int .i64 6, .int .i64 0, .string (⟨#[]⟩), .slice aa r9.length ab, nl Key, nl Ent, nl ByteArray] rfl)⟩ aj ?_
 exact (Val.rpvMk (v := (Val.mk 6 0 (⟨#[]⟩) r9 ([] : List Key) ([] : List Ent) ([] : List ByteArray))) (((ah.base (by have := E8.size; omega)).mod ad rfl).sl) (Sl.nil_ _ _ _ (Nat.zero_le _)) (Sl.nil_ _ _ _ (Nat.zero_le _)) (Sl.nil_ _ _ _ (Nat.zero_le _)))

def S_semtypebase_Source_Number (f : (Semtypebase_Source → Option (Int × Semtypebase_Source))) : Prop := ∀ (s0 : S) (B0 id0 b0 : Nat) (cs0 : List Value) (a0 : Semtypebase_Source) (r : (Int × Semtypebase_Source)), Rp.cells s0 a0 cs0 → Blk B0 id0 s0 b0 53 cs0 → 1000000 ≤ id0 → f a0 = some r → CtrE Go.Proofs.Try.prog 88 [.pointer (some ⟨b0, 0, none⟩)] s0 (Mod B0 id0 s0) (fun v τ => RpV τ r.1 v ∧ PtrR B0 id0 53 τ r.2 b0)

set_option maxHeartbeats 1600000 in
set_option maxRecDepth 100000 in
theorem ok_semtypebase_Source_Number : S_semtypebase_Source_Number semtypebase_Source_Number := by
 intro s0 B0 id0 b0 cs0 a0 r hc0 hb0 hid0 hf
 obtain ⟨A1, c2, rfl, h3⟩ := Semtypebase_Source.cells_iff.1 hc0
 unfold semtypebase_Source_Number at hf
 have E0 : ExtP s0.N B0 id0 s0 s0 := ExtP.refl _ _ _ _
 refine ctr_ofE 8 Go.Proofs.Try.func88 rfl rfl rfl rfl ?_
 refine j2 (j3 ?_)
 refine r_assign (.int .i64 0) rfl rfl ?_
 refine j0 (j1 (j2 (j3 ?_)))
 refine r_buildSlice (B := s0.N) (E := 2) 1 E0.size ts98 (xs := ([0, 1, (-1), 2, 3, (-2), 7, (-9223372036854775808), 9223372036854775807, 10] : List Int)) [.int .i64 0, .int .i64 1, .int .i64 (-1), .int .i64 2, .int .i64 3, .int .i64 (-2), .int .i64 7, .int .i64 (-9223372036854775808), .int .i64 9223372036854775807, .int .i64 10] (eps_cons rfl (eps_cons rfl (eps_cons rfl (eps_cons rfl (eps_cons rfl (eps_cons rfl (eps_cons rfl (eps_cons rfl (eps_cons rfl (eps_cons rfl eps_nil)))))))))) rfl rfl rfl (by decide) rfl (by simp [Value.cells, Rp.sz]) ⟨_, _, rfl, rfl, ⟨_, _, rfl, rfl, ⟨_, _, rfl, rfl, ⟨_, _, rfl, rfl, ⟨_, _, rfl, rfl, ⟨_, _, rfl, rfl, ⟨_, _, rfl, rfl, ⟨_, _, rfl, rfl, ⟨_, _, rfl, rfl, ⟨_, _, rfl, rfl, rfl⟩⟩⟩⟩⟩⟩⟩⟩⟩⟩ ?_
 intro s4 A5 c6 k7 ho8
 have E9 := E0.x k7
 refine r_move (.pointer (some ⟨b0, 0, none⟩)) rfl rfl ?_
 obtain ⟨an, ab, hf⟩ := bind_some hf
 refine r_callE [.pointer (some ⟨b0, 0, none⟩), .int .i64 10] (evs2 rfl rfl) rfl (ok_semtypebase_Source_Next _ _ _ _ _ _ _ _ _ (Semtypebase_Source.cells_iff.2 ⟨_, _, rfl, (h3.mono k7.wext)⟩) (hb0.ext k7) hid0 (RpV.mkInt _ _) ab) ?_
 intro ao ap aa ac
 obtain ⟨ad, aq, ae, af⟩ := ac
 have ag := E9.z aa
 obtain ⟨ar, au, rfl, ah⟩ := Semtypebase_Source.cells_iff.1 ae
 obtain rfl := RpV.int ad
 obtain ⟨x24, ai, hf⟩ := bind_some hf
 refine r_indexAddr (T := 98) (E := 2) (ho8.mod aa (beq_false (by omega))).sl ai rfl rfl rfl rfl Go.Proofs.Try.underlying98 sz2 ?_
 intro aj ak av al am
 obtain rfl := al
 refine r_load aj ak (.int .i64 x24) rfl rfl (loads_one to2 (am.2 0 _ rfl)) ?_
 refine r_assign (.int .i64 x24) rfl rfl ?_
 refine j0 (j1 (jb ?_))
 obtain rfl := Option.some.inj hf
 refine ret_oneE (.int .i64 x24) rfl ⟨rfl, rfl⟩ ag.mod_ ?_
 exact ⟨(RpV.mkInt _ _), _, (Semtypebase_Source.cells_iff.2 ⟨_, _, rfl, ah⟩), af⟩

def S_semtyperef1_Atom (f : (ByteArray → Option Val)) : Prop := ∀ (s0 : S) (v0 : Value) (a0 : ByteArray) (r : Val), RpV s0 a0 v0 → f a0 = some r → Ctr Go.Proofs.Try.prog 89 [v0] s0 (fun v τ => RpV τ r v)

set_option maxHeartbeats 1600000 in
set_option maxRecDepth 100000 in
theorem ok_semtyperef1_Atom : S_semtyperef1_Atom semtyperef1_Atom := by
 intro s0 v0 a0 r h0 hf
 obtain rfl := RpV.str h0
 unfold semtyperef1_Atom at hf
 have E0 : ExtB s0.N s0 s0 := ExtB.refl _ _
 refine ctr_of 5 Go.Proofs.Try.func89 rfl rfl rfl rfl ?_
 refine j2 (j3 ?_)
 refine r_alloc (B := s0.N) 1 E0.size _ [.int .i64 0, .int .i64 0, .string (⟨#[]⟩), nl Val, nl Key, nl Ent, nl ByteArray] ti27 rfl ?_
 intro s2 b1 k3 hb4
 have E5 := E0.x k3
 refine j0 (j1 (j2 (j3 ?_)))
 refine r_move (.string a0) rfl rfl ?_
 refine r_build tst27 [(0, .int .i64 3), (2, .string a0)] [.int .i64 3, .int .i64 0, .string a0, nl Val, nl Key, nl Ent, nl ByteArray] (eps_cons rfl (eps_cons rfl eps_nil)) rfl rfl ?_
 refine r_store hb4 0 (.agg #[.int .i64 3, .int .i64 0, .string a0, nl Val, nl Key, nl Ent, nl ByteArray]) [.int .i64 3, .int .i64 0, .string a0, nl Val, nl Key, nl Ent, nl ByteArray] [.int .i64 3, .int .i64 0, .string a0, nl Val, nl Key, nl Ent, nl ByteArray] rfl rfl rfl rfl rfl sz27 rfl rfl rfl ?_
 intro s6 hm7 hb8
 have E9 := E5.y hm7
 refine j0 (j1 (jb ?_))
 obtain rfl := Option.some.inj hf
 refine ret_one (.agg #[.int .i64 3, .int .i64 0, .string a0, nl Val, nl Key, nl Ent, nl ByteArray]) rfl ⟨rfl, _, rfl, loads_row tr27 (Blk.range hb8 0 [.int .i64 3, .int .i64 0, .string a0, nl Val, nl Key, nl Ent, nl ByteArray] rfl)⟩ E9 ?_
 exact (Val.rpvMk (v := (Val.mk 3 0 a0 ([] : List Val) ([] : List Key) ([] : List Ent) ([] : List ByteArray))) (Sl.nil_ _ _ _ (Nat.zero_le _)) (Sl.nil_ _ _ _ (Nat.zero_le _)) (Sl.nil_ _ _ _ (Nat.zero_le _)) (Sl.nil_ _ _ _ (Nat.zero_le _)))

def S_semtypebase_Source_AtomName (f : (Semtypebase_Source → Option (ByteArray × Semtypebase_Source))) : Prop := ∀ (s0 : S) (B0 id0 b0 : Nat) (cs0 : List Value) (a0 : Semtypebase_Source) (r : (ByteArray × Semtypebase_Source)), Rp.cells s0 a0 cs0 → Blk B0 id0 s0 b0 53 cs0 → 1000000 ≤ id0 → f a0 = some r → CtrE Go.Proofs.Try.prog 90 [.pointer (some ⟨b0, 0, none⟩)] s0 (Mod B0 id0 s0) (fun v τ => RpV τ r.1 v ∧ PtrR B0 id0 53 τ r.2 b0)

set_option maxHeartbeats 1600000 in
set_option maxRecDepth 100000 in
theorem ok_semtypebase_Source_AtomName : S_semtypebase_Source_AtomName semtypebase_Source_AtomName := by
 intro s0 B0 id0 b0 cs0 a0 r hc0 hb0 hid0 hf
 obtain ⟨A1, c2, rfl, h3⟩ := Semtypebase_Source.cells_iff.1 hc0
 unfold semtypebase_Source_AtomName at hf
 have E0 : ExtP s0.N B0 id0 s0 s0 := ExtP.refl _ _ _ _
 refine ctr_ofE 8 Go.Proofs.Try.func90 rfl rfl rfl rfl ?_
 refine j2 (j3 ?_)
 refine r_assign (.string (⟨#[]⟩)) rfl rfl ?_
 refine j0 (j1 (j2 (j3 ?_)))
 refine r_buildSlice (B := s0.N) (E := 9) 1 E0.size ts25 (xs := ([⟨#[97]⟩, ⟨#[98]⟩, ⟨#[111, 107]⟩, ⟨#[101, 114, 114, 111, 114]⟩] : List ByteArray)) [.string (⟨#[97]⟩), .string (⟨#[98]⟩), .string (⟨#[111, 107]⟩), .string (⟨#[101, 114, 114, 111, 114]⟩)] (eps_cons rfl (eps_cons rfl (eps_cons rfl (eps_cons rfl eps_nil)))) rfl rfl rfl (by decide) rfl (by simp [Value.cells, Rp.sz]) ⟨_, _, rfl, rfl, ⟨_, _, rfl, rfl, ⟨_, _, rfl, rfl, ⟨_, _, rfl, rfl, rfl⟩⟩⟩⟩ ?_
 intro s4 A5 c6 k7 ho8
 have E9 := E0.x k7
 refine r_move (.pointer (some ⟨b0, 0, none⟩)) rfl rfl ?_
 obtain ⟨an, ab, hf⟩ := bind_some hf
 refine r_callE [.pointer (some ⟨b0, 0, none⟩), .int .i64 4] (evs2 rfl rfl) rfl (ok_semtypebase_Source_Next _ _ _ _ _ _ _ _ _ (Semtypebase_Source.cells_iff.2 ⟨_, _, rfl, (h3.mono k7.wext)⟩) (hb0.ext k7) hid0 (RpV.mkInt _ _) ab) ?_
 intro ao ap aa ac
 obtain ⟨ad, aq, ae, af⟩ := ac
 have ag := E9.z aa
 obtain ⟨ar, au, rfl, ah⟩ := Semtypebase_Source.cells_iff.1 ae
 obtain rfl := RpV.int ad
 obtain ⟨x24, ai, hf⟩ := bind_some hf
 refine r_indexAddr (T := 25) (E := 9) (ho8.mod aa (beq_false (by omega))).sl ai rfl rfl rfl rfl Go.Proofs.Try.underlying25 sz9 ?_
 intro aj ak av al am
 obtain rfl := al
 refine r_load aj ak (.string x24) rfl rfl (loads_one to9 (am.2 0 _ rfl)) ?_
 refine r_assign (.string x24) rfl rfl ?_
 refine j0 (j1 (jb ?_))
 obtain rfl := Option.some.inj hf
 refine ret_oneE (.string x24) rfl ⟨rfl, rfl⟩ ag.mod_ ?_
 exact ⟨(RpV.mkStr _ _), _, (Semtypebase_Source.cells_iff.2 ⟨_, _, rfl, ah⟩), af⟩

def S_semtypebase_Source_Word (f : (Semtypebase_Source → Option (ByteArray × Semtypebase_Source))) : Prop := ∀ (s0 : S) (B0 id0 b0 : Nat) (cs0 : List Value) (a0 : Semtypebase_Source) (r : (ByteArray × Semtypebase_Source)), Rp.cells s0 a0 cs0 → Blk B0 id0 s0 b0 53 cs0 → 1000000 ≤ id0 → f a0 = some r → CtrE Go.Proofs.Try.prog 91 [.pointer (some ⟨b0, 0, none⟩)] s0 (Mod B0 id0 s0) (fun v τ => RpV τ r.1 v ∧ PtrR B0 id0 53 τ r.2 b0)

set_option maxHeartbeats 1600000 in
set_option maxRecDepth 100000 in
theorem ok_semtypebase_Source_Word : S_semtypebase_Source_Word semtypebase_Source_Word := by
 intro s0 B0 id0 b0 cs0 a0 r hc0 hb0 hid0 hf
 obtain ⟨A1, c2, rfl, h3⟩ := Semtypebase_Source.cells_iff.1 hc0
 unfold semtypebase_Source_Word at hf
 have E0 : ExtP s0.N B0 id0 s0 s0 := ExtP.refl _ _ _ _
 refine ctr_ofE 8 Go.Proofs.Try.func91 rfl rfl rfl rfl ?_
 refine j2 (j3 ?_)
 refine r_assign (.string (⟨#[]⟩)) rfl rfl ?_
 refine j0 (j1 (j2 (j3 ?_)))
 refine r_buildSlice (B := s0.N) (E := 9) 1 E0.size ts25 (xs := ([⟨#[]⟩, ⟨#[115]⟩, ⟨#[120, 32, 121]⟩, ⟨#[97]⟩] : List ByteArray)) [.string (⟨#[]⟩), .string (⟨#[115]⟩), .string (⟨#[120, 32, 121]⟩), .string (⟨#[97]⟩)] (eps_cons rfl (eps_cons rfl (eps_cons rfl (eps_cons rfl eps_nil)))) rfl rfl rfl (by decide) rfl (by simp [Value.cells, Rp.sz]) ⟨_, _, rfl, rfl, ⟨_, _, rfl, rfl, ⟨_, _, rfl, rfl, ⟨_, _, rfl, rfl, rfl⟩⟩⟩⟩ ?_
 intro s4 A5 c6 k7 ho8
 have E9 := E0.x k7
 refine r_move (.pointer (some ⟨b0, 0, none⟩)) rfl rfl ?_
 obtain ⟨an, ab, hf⟩ := bind_some hf
 refine r_callE [.pointer (some ⟨b0, 0, none⟩), .int .i64 4] (evs2 rfl rfl) rfl (ok_semtypebase_Source_Next _ _ _ _ _ _ _ _ _ (Semtypebase_Source.cells_iff.2 ⟨_, _, rfl, (h3.mono k7.wext)⟩) (hb0.ext k7) hid0 (RpV.mkInt _ _) ab) ?_
 intro ao ap aa ac
 obtain ⟨ad, aq, ae, af⟩ := ac
 have ag := E9.z aa
 obtain ⟨ar, au, rfl, ah⟩ := Semtypebase_Source.cells_iff.1 ae
 obtain rfl := RpV.int ad
 obtain ⟨x24, ai, hf⟩ := bind_some hf
 refine r_indexAddr (T := 25) (E := 9) (ho8.mod aa (beq_false (by omega))).sl ai rfl rfl rfl rfl Go.Proofs.Try.underlying25 sz9 ?_
 intro aj ak av al am
 obtain rfl := al
 refine r_load aj ak (.string x24) rfl rfl (loads_one to9 (am.2 0 _ rfl)) ?_
 refine r_assign (.string x24) rfl rfl ?_
 refine j0 (j1 (jb ?_))
 obtain rfl := Option.some.inj hf
 refine ret_oneE (.string x24) rfl ⟨rfl, rfl⟩ ag.mod_ ?_
 exact ⟨(RpV.mkStr _ _), _, (Semtypebase_Source.cells_iff.2 ⟨_, _, rfl, ah⟩), af⟩

def S_semtyperef1_Pid (f : (Int → Option Val)) : Prop := ∀ (s0 : S) (v0 : Value) (a0 : Int) (r : Val), RpV s0 a0 v0 → f a0 = some r → Ctr Go.Proofs.Try.prog 92 [v0] s0 (fun v τ => RpV τ r v)

set_option maxHeartbeats 1600000 in
set_option maxRecDepth 100000 in
theorem ok_semtyperef1_Pid : S_semtyperef1_Pid semtyperef1_Pid := by
 intro s0 v0 a0 r h0 hf
 obtain rfl := RpV.int h0
 unfold semtyperef1_Pid at hf
 have E0 : ExtB s0.N s0 s0 := ExtB.refl _ _
 refine ctr_of 5 Go.Proofs.Try.func92 rfl rfl rfl rfl ?_
 refine j2 (j3 ?_)
 refine r_alloc (B := s0.N) 1 E0.size _ [.int .i64 0, .int .i64 0, .string (⟨#[]⟩), nl Val, nl Key, nl Ent, nl ByteArray] ti27 rfl ?_
 intro s2 b1 k3 hb4
 have E5 := E0.x k3
 refine j0 (j1 (j2 (j3 ?_)))
 refine r_move (.int .i64 a0) rfl rfl ?_
 refine r_build tst27 [(0, .int .i64 4), (1, .int .i64 a0)] [.int .i64 4, .int .i64 a0, .string (⟨#[]⟩), nl Val, nl Key, nl Ent, nl ByteArray] (eps_cons rfl (eps_cons rfl eps_nil)) rfl rfl ?_
 refine r_store hb4 0 (.agg #[.int .i64 4, .int .i64 a0, .string (⟨#[]⟩), nl Val, nl Key, nl Ent, nl ByteArray]) [.int .i64 4, .int .i64 a0, .string (⟨#[]⟩), nl Val, nl Key, nl Ent, nl ByteArray] [.int .i64 4, .int .i64 a0, .string (⟨#[]⟩), nl Val, nl Key, nl Ent, nl ByteArray] rfl rfl rfl rfl rfl sz27 rfl rfl rfl ?_
 intro s6 hm7 hb8
 have E9 := E5.y hm7
 refine j0 (j1 (jb ?_))
 obtain rfl := Option.some.inj hf
 refine ret_one (.agg #[.int .i64 4, .int .i64 a0, .string (⟨#[]⟩), nl Val, nl Key, nl Ent, nl ByteArray]) rfl ⟨rfl, _, rfl, loads_row tr27 (Blk.range hb8 0 [.int .i64 4, .int .i64 a0, .string (⟨#[]⟩), nl Val, nl Key, nl Ent, nl ByteArray] rfl)⟩ E9 ?_
 exact (Val.rpvMk (v := (Val.mk 4 a0 (⟨#[]⟩) ([] : List Val) ([] : List Key) ([] : List Ent) ([] : List ByteArray))) (Sl.nil_ _ _ _ (Nat.zero_le _)) (Sl.nil_ _ _ _ (Nat.zero_le _)) (Sl.nil_ _ _ _ (Nat.zero_le _)) (Sl.nil_ _ _ _ (Nat.zero_le _)))

def S_semtypebase_Source_leaf (f : (Semtypebase_Source → Option (Val × Semtypebase_Source))) : Prop := ∀ (s0 : S) (B0 id0 b0 : Nat) (cs0 : List Value) (a0 : Semtypebase_Source) (r : (Val × Semtypebase_Source)), Rp.cells s0 a0 cs0 → Blk B0 id0 s0 b0 53 cs0 → 1000000 ≤ id0 → f a0 = some r → CtrE Go.Proofs.Try.prog 71 [.pointer (some ⟨b0, 0, none⟩)] s0 (Mod B0 id0 s0) (fun v τ => RpV τ r.1 v ∧ PtrR B0 id0 53 τ r.2 b0)

set_option maxHeartbeats 1600000 in
set_option maxRecDepth 100000 in
theorem ok_semtypebase_Source_leaf : S_semtypebase_Source_leaf semtypebase_Source_leaf := by
 intro s0 B0 id0 b0 cs0 a0 r hc0 hb0 hid0 hf
 obtain ⟨A1, c2, rfl, h3⟩ := Semtypebase_Source.cells_iff.1 hc0
 unfold semtypebase_Source_leaf at hf
 have E0 : ExtP s0.N B0 id0 s0 s0 := ExtP.refl _ _ _ _
 refine ctr_ofE 29 Go.Proofs.Try.func71 rfl rfl rfl rfl ?_
 refine j2 (j3 ?_)
 refine r_alloc (B := s0.N) 1 E0.size _ [.int .i64 0, .int .i64 0, .string (⟨#[]⟩), nl Val, nl Key, nl Ent, nl ByteArray] ti27 rfl ?_
 intro s5 b4 k6 hb7
 have E8 := E0.x k6
 refine j0 (j1 (j2 (j2 (j3 ?_))))
 refine r_move (.pointer (some ⟨b0, 0, none⟩)) rfl rfl ?_
 obtain ⟨r9, bt, hf⟩ := bind_some hf
 refine r_callE [.pointer (some ⟨b0, 0, none⟩), .int .i64 6] (evs2 rfl rfl) rfl (ok_semtypebase_Source_Next _ _ _ _ _ _ _ _ _ (Semtypebase_Source.cells_iff.2 ⟨_, _, rfl, (h3.mono k6.wext)⟩) (hb0.ext k6) hid0 (RpV.mkInt _ _) bt) ?_
 intro cY cZ aa bu
 obtain ⟨bv, c0, bw, ah⟩ := bu
 have ai := E8.z aa
 obtain ⟨c1, c3, rfl, aj⟩ := Semtypebase_Source.cells_iff.1 bw
 obtain rfl := RpV.int bv
 refine j0 (j1 (j4 (j2 (j3 ?_))))
 refine r_bin (.int .i64 r9.1) (.int .i64 0) (.bool (r9.1 == 0)) rfl rfl rfl rfl (b_eql) ?_
 refine r_assign (.bool (r9.1 == 0)) rfl rfl ?_
 refine j0 (j1 ?_)
 refine if_else hf (fun bk hf => ?_) (fun bk hf => ?_)
 ·refine c_true rfl bk rfl ?_
  refine j2 (j3 ?_)
  refine r_move (.pointer (some ⟨b0, 0, none⟩)) rfl rfl ?_
  obtain ⟨bx, bz, hf⟩ := bind_some hf
  refine r_callE [.pointer (some ⟨b0, 0, none⟩)] (evs1 rfl) rfl (ok_semtypebase_Source_Number _ _ _ _ _ _ _ (Semtypebase_Source.cells_iff.2 ⟨_, _, rfl, aj⟩) ah hid0  bz) ?_
  intro c4 c5 bp bA
  obtain ⟨bB, c6, bC, bD⟩ := bA
  have bE := ai.z bp
  obtain ⟨c7, c8, rfl, bF⟩ := Semtypebase_Source.cells_iff.1 bC
  obtain rfl := RpV.int bB
  obtain ⟨ak, bG, hf⟩ := bind_some hf
  refine r_call [.int .i64 bx.1] (evs1 rfl) rfl (ok_semtyperef1_Int _ _ _ _ (RpV.mkInt _ _) bG) ?_
  intro c9 da be bH
  have bI := bE.x be
  obtain ⟨aq, ar, au, av, aw, ax, ay, az, rfl, bJ, bK, bL, bM⟩ := Val.rpv bH
  refine r_store (((hb7.mod aa (beq_false (by omega))).mod bp (beq_false (by omega))).ext be) 0 (Val.ag ak aq ar au av aw ax ay az) (Val.cs ak aq ar au av aw ax ay az) (Val.cs ak aq ar au av aw ax ay az) rfl rfl rfl rfl rfl sz27 rfl rfl rfl ?_
  intro db ab bN
  have bO := bI.y ab
  refine j0 (j1 (jb (j7 (j9 ?_))))
  obtain rfl := Option.some.inj hf
  refine ret_oneE (Val.ag ak aq ar au av aw ax ay az) rfl ⟨rfl, _, rfl, loads_row tr27 (Blk.range bN 0 (Val.cs ak aq ar au av aw ax ay az) rfl)⟩ bO.mod_ ?_
  exact ⟨(Val.rpvMk (v := ak) (bJ.mono ab.wext) (bK.mono ab.wext) (bL.mono ab.wext) (bM.mono ab.wext)), _, (Semtypebase_Source.cells_iff.2 ⟨_, _, rfl, ((bF.mono be.wext).mono ab.wext)⟩), ((bD.ext be).mod ab (beq_false (by omega)))⟩
 refine c_false rfl bk rfl ?_
 refine j2 (j3 ?_)
 refine r_bin (.int .i64 r9.1) (.int .i64 1) (.bool (r9.1 == 1)) rfl rfl rfl rfl (b_eql) ?_
 refine r_assign (.bool (r9.1 == 1)) rfl rfl ?_
 refine j0 (j1 ?_)
 refine if_else hf (fun bl hf => ?_) (fun bl hf => ?_)
 ·refine c_true rfl bl rfl ?_
  refine j2 (j3 ?_)
  refine r_move (.pointer (some ⟨b0, 0, none⟩)) rfl rfl ?_
  obtain ⟨bP, bQ, hf⟩ := bind_some hf
  refine r_callE [.pointer (some ⟨b0, 0, none⟩)] (evs1 rfl) rfl (ok_semtypebase_Source_AtomName _ _ _ _ _ _ _ (Semtypebase_Source.cells_iff.2 ⟨_, _, rfl, aj⟩) ah hid0  bQ) ?_
  intro dc dd bq bR
  obtain ⟨bS, de, bT, bU⟩ := bR
  have bV := ai.z bq
  obtain ⟨df, dg, rfl, bW⟩ := Semtypebase_Source.cells_iff.1 bT
  obtain rfl := RpV.str bS
  obtain ⟨al, bX, hf⟩ := bind_some hf
  refine r_call [.string bP.1] (evs1 rfl) rfl (ok_semtyperef1_Atom _ _ _ _ (RpV.mkStr _ _) bX) ?_
  intro dh di bf bY
  have bZ := bV.x bf
  obtain ⟨aA, aB, aC, aD, aE, aF, aG, aH, rfl, b1, b2, b3, b5⟩ := Val.rpv bY
  refine r_store (((hb7.mod aa (beq_false (by omega))).mod bq (beq_false (by omega))).ext bf) 0 (Val.ag al aA aB aC aD aE aF aG aH) (Val.cs al aA aB aC aD aE aF aG aH) (Val.cs al aA aB aC aD aE aF aG aH) rfl rfl rfl rfl rfl sz27 rfl rfl rfl ?_
  intro dj ac b6
  have b7 := bZ.y ac
  refine j0 (j1 (jb (j7 (j9 ?_))))
  obtain rfl := Option.some.inj hf
  refine ret_oneE (Val.ag al aA aB aC aD aE aF aG aH) rfl ⟨rfl, _, rfl, loads_row tr27 (Blk.range b6 0 (Val.cs al aA aB aC aD aE aF aG aH) rfl)⟩ b7.mod_ ?_
  exact ⟨(Val.rpvMk (v := al) (b1.mono ac.wext) (b2.mono ac.wext) (b3.mono ac.wext) (b5.mono ac.wext)), _, (Semtypebase_Source.cells_iff.2 ⟨_, _, rfl, ((bW.mono bf.wext).mono ac.wext)⟩), ((bU.ext bf).mod ac (beq_false (by omega)))⟩
 refine c_false rfl bl rfl ?_
 refine j2 (j3 ?_)
 refine r_bin (.int .i64 r9.1) (.int .i64 2) (.bool (r9.1 == 2)) rfl rfl rfl rfl (b_eql) ?_
 refine r_assign (.bool (r9.1 == 2)) rfl rfl ?_
 refine j0 (j1 ?_)
 refine if_else hf (fun bm hf => ?_) (fun bm hf => ?_)
 ·refine c_true rfl bm rfl ?_
  refine j2 (j3 ?_)
  refine r_move (.pointer (some ⟨b0, 0, none⟩)) rfl rfl ?_
  obtain ⟨b8, b9, hf⟩ := bind_some hf
  refine r_callE [.pointer (some ⟨b0, 0, none⟩)] (evs1 rfl) rfl (ok_semtypebase_Source_Word _ _ _ _ _ _ _ (Semtypebase_Source.cells_iff.2 ⟨_, _, rfl, aj⟩) ah hid0  b9) ?_
  intro dk dl br ca
  obtain ⟨cb, dm, cc, cd⟩ := ca
  have ce := ai.z br
  obtain ⟨dn, dp, rfl, cf⟩ := Semtypebase_Source.cells_iff.1 cc
  obtain rfl := RpV.str cb
  obtain ⟨am, cg, hf⟩ := bind_some hf
  refine r_call [.string b8.1] (evs1 rfl) rfl (ok_semtyperef1_String _ _ _ _ (RpV.mkStr _ _) cg) ?_
  intro dq dr bg ch
  have ci := ce.x bg
  obtain ⟨aI, aJ, aK, aL, aM, aN, aO, aP, rfl, cj, ck, cl, cm⟩ := Val.rpv ch
  refine r_store (((hb7.mod aa (beq_false (by omega))).mod br (beq_false (by omega))).ext bg) 0 (Val.ag am aI aJ aK aL aM aN aO aP) (Val.cs am aI aJ aK aL aM aN aO aP) (Val.cs am aI aJ aK aL aM aN aO aP) rfl rfl rfl rfl rfl sz27 rfl rfl rfl ?_
  intro ds ad cn
  have co := ci.y ad
  refine j0 (j1 (jb (j7 (j9 ?_))))
  obtain rfl := Option.some.inj hf
  refine ret_oneE (Val.ag am aI aJ aK aL aM aN aO aP) rfl ⟨rfl, _, rfl, loads_row tr27 (Blk.range cn 0 (Val.cs am aI aJ aK aL aM aN aO aP) rfl)⟩ co.mod_ ?_
  exact ⟨(Val.rpvMk (v := am) (cj.mono ad.wext) (ck.mono ad.wext) (cl.mono ad.wext) (cm.mono ad.wext)), _, (Semtypebase_Source.cells_iff.2 ⟨_, _, rfl, ((cf.mono bg.wext).mono ad.wext)⟩), ((cd.ext bg).mod ad (beq_false (by omega)))⟩
 refine c_false rfl bm rfl ?_
 refine j2 (j3 ?_)
 refine r_bin (.int .i64 r9.1) (.int .i64 3) (.bool (r9.1 == 3)) rfl rfl rfl rfl (b_eql) ?_
 refine r_assign (.bool (r9.1 == 3)) rfl rfl ?_
 refine j0 (j1 ?_)
 refine if_else hf (fun bn hf => ?_) (fun bn hf => ?_)
 ·refine c_true rfl bn rfl ?_
  refine j2 (j3 ?_)
  refine r_move (.pointer (some ⟨b0, 0, none⟩)) rfl rfl ?_
  obtain ⟨cp, cq, hf⟩ := bind_some hf
  refine r_callE [.pointer (some ⟨b0, 0, none⟩), .int .i64 3] (evs2 rfl rfl) rfl (ok_semtypebase_Source_Next _ _ _ _ _ _ _ _ _ (Semtypebase_Source.cells_iff.2 ⟨_, _, rfl, aj⟩) ah hid0 (RpV.mkInt _ _) cq) ?_
  intro dt du bs cr
  obtain ⟨cs, dv, ct, cu⟩ := cr
  have cv := ai.z bs
  obtain ⟨dw, dx, rfl, cw⟩ := Semtypebase_Source.cells_iff.1 ct
  obtain rfl := RpV.int cs
  obtain ⟨an, cx, hf⟩ := bind_some hf
  refine r_call [.int .i64 cp.1] (evs1 rfl) rfl (ok_semtyperef1_Pid _ _ _ _ (RpV.mkInt _ _) cx) ?_
  intro dy dz bh cy
  have cz := cv.x bh
  obtain ⟨aQ, aR, aS, aT, aU, aV, aW, aX, rfl, cA, cB, cC, cD⟩ := Val.rpv cy
  refine r_store (((hb7.mod aa (beq_false (by omega))).mod bs (beq_false (by omega))).ext bh) 0 (Val.ag an aQ aR aS aT aU aV aW aX) (Val.cs an aQ aR aS aT aU aV aW aX) (Val.cs an aQ aR aS aT aU aV aW aX) rfl rfl rfl rfl rfl sz27 rfl rfl rfl ?_
  intro dA ae cE
  have cF := cz.y ae
  refine j0 (j1 (jb (j7 (j9 ?_))))
  obtain rfl := Option.some.inj hf
  refine ret_oneE (Val.ag an aQ aR aS aT aU aV aW aX) rfl ⟨rfl, _, rfl, loads_row tr27 (Blk.range cE 0 (Val.cs an aQ aR aS aT aU aV aW aX) rfl)⟩ cF.mod_ ?_
  exact ⟨(Val.rpvMk (v := an) (cA.mono ae.wext) (cB.mono ae.wext) (cC.mono ae.wext) (cD.mono ae.wext)), _, (Semtypebase_Source.cells_iff.2 ⟨_, _, rfl, ((cw.mono bh.wext).mono ae.wext)⟩), ((cu.ext bh).mod ae (beq_false (by omega)))⟩
 refine c_false rfl bn rfl ?_
 refine j2 (j3 ?_)
 refine r_bin (.int .i64 r9.1) (.int .i64 4) (.bool (r9.1 == 4)) rfl rfl rfl rfl (b_eql) ?_
 refine r_assign (.bool (r9.1 == 4)) rfl rfl ?_
 refine j0 (j1 ?_)
 refine if_else hf (fun bo hf => ?_) (fun bo hf => ?_)
 ·refine c_true rfl bo rfl ?_
  refine j2 (j3 ?_)
  obtain ⟨ao, cG, hf⟩ := bind_some hf
  refine r_call [] evs0 rfl (ok_semtyperef1_Nil _ _  cG) ?_
  intro dB dC bi cH
  have cI := ai.x bi
  obtain ⟨aY, aZ, a0, a1, a2, a3, a4, a5, rfl, cJ, cK, cL, cM⟩ := Val.rpv cH
  refine r_store ((hb7.mod aa (beq_false (by omega))).ext bi) 0 (Val.ag ao aY aZ a0 a1 a2 a3 a4 a5) (Val.cs ao aY aZ a0 a1 a2 a3 a4 a5) (Val.cs ao aY aZ a0 a1 a2 a3 a4 a5) rfl rfl rfl rfl rfl sz27 rfl rfl rfl ?_
  intro dD af cN
  have cO := cI.y af
  refine j0 (j1 (jb (j7 (j9 ?_))))
  obtain rfl := Option.some.inj hf
  refine ret_oneE (Val.ag ao aY aZ a0 a1 a2 a3 a4 a5) rfl ⟨rfl, _, rfl, loads_row tr27 (Blk.range cN 0 (Val.cs ao aY aZ a0 a1 a2 a3 a4 a5) rfl)⟩ cO.mod_ ?_
  exact ⟨(Val.rpvMk (v := ao) (cJ.mono af.wext) (cK.mono af.wext) (cL.mono af.wext) (cM.mono af.wext)), _, (Semtypebase_Source.cells_iff.2 ⟨_, _, rfl, ((aj.mono bi.wext).mono af.wext)⟩), ((ah.ext bi).mod af (beq_false (by omega)))⟩
 refine c_false rfl bo rfl ?_
 refine ja (j5 (j1 (j2 (j3 ?_))))
 obtain ⟨ap, cP, hf⟩ := bind_some hf
 refine r_call [nl Val] (evs1 rfl) rfl (ok_semtyperef1_Tuple _ _ _ _ (RpV.mkList (Sl.nil_ _ _ _ (Nat.zero_le _))) cP) ?_
 intro dE dF bj cQ
 have cR := ai.x bj
 obtain ⟨a6, a7, a8, a9, ba, bb, bc, bd, rfl, cS, cT, cU, cV⟩ := Val.rpv cQ
 refine r_store ((hb7.mod aa (beq_false (by omega))).ext bj) 0 (Val.ag ap a6 a7 a8 a9 ba bb bc bd) (Val.cs ap a6 a7 a8 a9 ba bb bc bd) (Val.cs ap a6 a7 a8 a9 ba bb bc bd) rfl rfl rfl rfl rfl sz27 rfl rfl rfl ?_
 intro dG ag cW
 have cX := cR.y ag
 refine j0 (j1 (jb ?_))
 obtain rfl := Option.some.inj hf
 refine ret_oneE (Val.ag ap a6 a7 a8 a9 ba bb bc bd) rfl ⟨rfl, _, rfl, loads_row tr27 (Blk.range cW 0 (Val.cs ap a6 a7 a8 a9 ba bb bc bd) rfl)⟩ cX.mod_ ?_
 exact ⟨(Val.rpvMk (v := ap) (cS.mono ag.wext) (cT.mono ag.wext) (cU.mono ag.wext) (cV.mono ag.wext)), _, (Semtypebase_Source.cells_iff.2 ⟨_, _, rfl, ((aj.mono bj.wext).mono ag.wext)⟩), ((ah.ext bj).mod ag (beq_false (by omega)))⟩

def S_semtypebase_Source_Key (f : (Semtypebase_Source → Option (Key × Semtypebase_Source))) : Prop := ∀ (s0 : S) (B0 id0 b0 : Nat) (cs0 : List Value) (a0 : Semtypebase_Source) (r : (Key × Semtypebase_Source)), Rp.cells s0 a0 cs0 → Blk B0 id0 s0 b0 53 cs0 → 1000000 ≤ id0 → f a0 = some r → CtrE Go.Proofs.Try.prog 74 [.pointer (some ⟨b0, 0, none⟩)] s0 (Mod B0 id0 s0) (fun v τ => RpV τ r.1 v ∧ PtrR B0 id0 53 τ r.2 b0)

set_option maxHeartbeats 1600000 in
set_option maxRecDepth 100000 in
theorem ok_semtypebase_Source_Key : S_semtypebase_Source_Key semtypebase_Source_Key := by
 intro s0 B0 id0 b0 cs0 a0 r hc0 hb0 hid0 hf
 obtain ⟨A1, c2, rfl, h3⟩ := Semtypebase_Source.cells_iff.1 hc0
 unfold semtypebase_Source_Key at hf
 have E0 : ExtP s0.N B0 id0 s0 s0 := ExtP.refl _ _ _ _
 refine ctr_ofE 12 Go.Proofs.Try.func74 rfl rfl rfl rfl ?_
 refine j2 (j3 ?_)
 refine r_alloc (B := s0.N) 1 E0.size _ [.int .i64 0, .string (⟨#[]⟩)] ti60 rfl ?_
 intro s5 b4 k6 hb7
 have E8 := E0.x k6
 refine j0 (j1 (j2 (j2 (j3 ?_))))
 refine r_move (.pointer (some ⟨b0, 0, none⟩)) rfl rfl ?_
 obtain ⟨r9, al, hf⟩ := bind_some hf
 refine r_callE [.pointer (some ⟨b0, 0, none⟩), .int .i64 2] (evs2 rfl rfl) rfl (ok_semtypebase_Source_Next _ _ _ _ _ _ _ _ _ (Semtypebase_Source.cells_iff.2 ⟨_, _, rfl, (h3.mono k6.wext)⟩) (hb0.ext k6) hid0 (RpV.mkInt _ _) al) ?_
 intro aJ aK ac am
 obtain ⟨an, aL, ao, ag⟩ := am
 have ah := E8.z ac
 obtain ⟨aM, aN, rfl, ai⟩ := Semtypebase_Source.cells_iff.1 ao
 obtain rfl := RpV.int an
 refine r_bin (.int .i64 r9.1) (.int .i64 0) (.bool (r9.1 == 0)) rfl rfl rfl rfl (b_eql) ?_
 refine j0 (j1 ?_)
 refine if_else hf (fun ad hf => ?_) (fun ad hf => ?_)
 ·refine c_true rfl ad rfl ?_
  refine j2 (j3 ?_)
  refine r_move (.pointer (some ⟨b0, 0, none⟩)) rfl rfl ?_
  obtain ⟨aa, ap, hf⟩ := bind_some hf
  refine r_callE [.pointer (some ⟨b0, 0, none⟩)] (evs1 rfl) rfl (ok_semtypebase_Source_AtomName _ _ _ _ _ _ _ (Semtypebase_Source.cells_iff.2 ⟨_, _, rfl, ai⟩) ag hid0  ap) ?_
  intro aO aP aj aq
  obtain ⟨ar, aQ, au, av⟩ := aq
  have aw := ah.z aj
  obtain ⟨aR, aS, rfl, ax⟩ := Semtypebase_Source.cells_iff.1 au
  obtain rfl := RpV.str ar
  refine r_build tst60 [(0, .int .i64 0), (1, .string aa.1)] [.int .i64 0, .string aa.1] (eps_cons rfl (eps_cons rfl eps_nil)) rfl rfl ?_
  refine r_store ((hb7.mod ac (beq_false (by omega))).mod aj (beq_false (by omega))) 0 (.agg #[.int .i64 0, .string aa.1]) [.int .i64 0, .string aa.1] [.int .i64 0, .string aa.1] rfl rfl rfl rfl rfl sz60 rfl rfl rfl ?_
  intro aT ae ay
  have az := aw.y ae
  refine j0 (j1 (jb (j9 ?_)))
  obtain rfl := Option.some.inj hf
  refine ret_oneE (.agg #[.int .i64 0, .string aa.1]) rfl ⟨rfl, _, rfl, loads_row tr60 (Blk.range ay 0 [.int .i64 0, .string aa.1] rfl)⟩ az.mod_ ?_
  exact ⟨(Key.rpvMk (v := (Key.mk 0 aa.1)) ), _, (Semtypebase_Source.cells_iff.2 ⟨_, _, rfl, (ax.mono ae.wext)⟩), (av.mod ae (beq_false (by omega)))⟩
 refine c_false rfl ad rfl ?_
 refine ja (j1 (j2 (j3 ?_)))
 refine r_move (.pointer (some ⟨b0, 0, none⟩)) rfl rfl ?_
 obtain ⟨ab, aA, hf⟩ := bind_some hf
 refine r_callE [.pointer (some ⟨b0, 0, none⟩)] (evs1 rfl) rfl (ok_semtypebase_Source_Word _ _ _ _ _ _ _ (Semtypebase_Source.cells_iff.2 ⟨_, _, rfl, ai⟩) ag hid0  aA) ?_
 intro aU aV ak aB
 obtain ⟨aC, aW, aD, aE⟩ := aB
 have aF := ah.z ak
 obtain ⟨aX, aY, rfl, aG⟩ := Semtypebase_Source.cells_iff.1 aD
 obtain rfl := RpV.str aC
 refine r_build tst60 [(0, .int .i64 1), (1, .string ab.1)] [.int .i64 1, .string ab.1] (eps_cons rfl (eps_cons rfl eps_nil)) rfl rfl ?_
 refine r_store ((hb7.mod ac (beq_false (by omega))).mod ak (beq_false (by omega))) 0 (.agg #[.int .i64 1, .string ab.1]) [.int .i64 1, .string ab.1] [.int .i64 1, .string ab.1] rfl rfl rfl rfl rfl sz60 rfl rfl rfl ?_
 intro aZ af aH
 have aI := aF.y af
 refine j0 (j1 (jb ?_))
 obtain rfl := Option.some.inj hf
 refine ret_oneE (.agg #[.int .i64 1, .string ab.1]) rfl ⟨rfl, _, rfl, loads_row tr60 (Blk.range aH 0 [.int .i64 1, .string ab.1] rfl)⟩ aI.mod_ ?_
 exact ⟨(Key.rpvMk (v := (Key.mk 1 ab.1)) ), _, (Semtypebase_Source.cells_iff.2 ⟨_, _, rfl, (aG.mono af.wext)⟩), (aE.mod af (beq_false (by omega)))⟩

def S_semtyperef1_Order (f : (Int → Int → Option Int)) : Prop := ∀ (s0 : S) (v0 : Value) (v1 : Value) (a0 : Int) (a1 : Int) (r : Int), RpV s0 a0 v0 → RpV s0 a1 v1 → f a0 a1 = some r → Ctr Go.Proofs.Try.prog 47 [v0, v1] s0 (fun v τ => RpV τ r v)

set_option maxHeartbeats 1600000 in
set_option maxRecDepth 100000 in
theorem ok_semtyperef1_Order : S_semtyperef1_Order semtyperef1_Order := by
 intro s0 v0 v1 a0 a1 r h0 h1 hf
 obtain rfl := RpV.int h0
 obtain rfl := RpV.int h1
 unfold semtyperef1_Order at hf
 have E0 : ExtB s0.N s0 s0 := ExtB.refl _ _
 refine ctr_of 11 Go.Proofs.Try.func47 rfl rfl rfl rfl ?_
 refine j2 (j3 ?_)
 refine r_assign (.int .i64 0) rfl rfl ?_
 refine j0 (j1 (j2 (j2 (j3 ?_))))
 refine r_move (.int .i64 a0) rfl rfl ?_
 refine r_move (.int .i64 a1) rfl rfl ?_
 refine r_bin (.int .i64 a0) (.int .i64 a1) (.bool (decide (a0 < a1))) rfl rfl rfl rfl (b_lss) ?_
 refine j0 (j1 ?_)
 refine if_else hf (fun hc1 hf => ?_) (fun hc1 hf => ?_)
 ·refine c_true rfl hc1 rfl ?_
  refine j2 (j3 ?_)
  refine r_assign (.int .i64 (-1)) rfl rfl ?_
  refine j0 (j1 (jb (j9 ?_)))
  obtain rfl := Option.some.inj hf
  refine ret_one (.int .i64 (-1)) rfl ⟨rfl, rfl⟩ E0 ?_
  exact (RpV.mkInt _ _)
 refine c_false rfl hc1 rfl ?_
 refine ja (j1 (j2 (j2 (j3 ?_))))
 refine r_move (.int .i64 a0) rfl rfl ?_
 refine r_move (.int .i64 a1) rfl rfl ?_
 refine r_bin (.int .i64 a0) (.int .i64 a1) (.bool (decide (a1 < a0))) rfl rfl rfl rfl (b_gtr) ?_
 refine j0 (j1 ?_)
 refine if_else hf (fun hc2 hf => ?_) (fun hc2 hf => ?_)
 ·refine c_true rfl hc2 rfl ?_
  refine j2 (j3 ?_)
  refine r_assign (.int .i64 1) rfl rfl ?_
  refine j0 (j1 (jb (j9 ?_)))
  obtain rfl := Option.some.inj hf
  refine ret_one (.int .i64 1) rfl ⟨rfl, rfl⟩ E0 ?_
  exact (RpV.mkInt _ _)
 refine c_false rfl hc2 rfl ?_
 refine ja (j1 (j2 (j3 ?_)))
 refine r_assign (.int .i64 0) rfl rfl ?_
 refine j0 (j1 (jb ?_))
 obtain rfl := Option.some.inj hf
 refine ret_one (.int .i64 0) rfl ⟨rfl, rfl⟩ E0 ?_
 exact (RpV.mkInt _ _)

def S_semtyperef1_Text (f : (ByteArray → ByteArray → Option Int)) : Prop := ∀ (s0 : S) (v0 : Value) (v1 : Value) (a0 : ByteArray) (a1 : ByteArray) (r : Int), RpV s0 a0 v0 → RpV s0 a1 v1 → f a0 a1 = some r → Ctr Go.Proofs.Try.prog 48 [v0, v1] s0 (fun v τ => RpV τ r v)

set_option maxHeartbeats 1600000 in
set_option maxRecDepth 100000 in
theorem ok_semtyperef1_Text : S_semtyperef1_Text semtyperef1_Text := by
 intro s0 v0 v1 a0 a1 r h0 h1 hf
 obtain rfl := RpV.str h0
 obtain rfl := RpV.str h1
 unfold semtyperef1_Text at hf
 have E0 : ExtB s0.N s0 s0 := ExtB.refl _ _
 refine ctr_of 11 Go.Proofs.Try.func48 rfl rfl rfl rfl ?_
 refine j2 (j3 ?_)
 refine r_assign (.int .i64 0) rfl rfl ?_
 refine j0 (j1 (j2 (j2 (j3 ?_))))
 refine r_move (.string a0) rfl rfl ?_
 refine r_move (.string a1) rfl rfl ?_
 refine r_bin (.string a0) (.string a1) (.bool (strLt a0 a1)) rfl rfl rfl rfl (b_slss) ?_
 refine j0 (j1 ?_)
 refine if_else hf (fun hc1 hf => ?_) (fun hc1 hf => ?_)
 ·refine c_true rfl hc1 rfl ?_
  refine j2 (j3 ?_)
  refine r_assign (.int .i64 (-1)) rfl rfl ?_
  refine j0 (j1 (jb (j9 ?_)))
  obtain rfl := Option.some.inj hf
  refine ret_one (.int .i64 (-1)) rfl ⟨rfl, rfl⟩ E0 ?_
  exact (RpV.mkInt _ _)
 refine c_false rfl hc1 rfl ?_
 refine ja (j1 (j2 (j2 (j3 ?_))))
 refine r_move (.string a0) rfl rfl ?_
 refine r_move (.string a1) rfl rfl ?_
 refine r_bin (.string a0) (.string a1) (.bool (!(strLt a0 a1 || strEq a0 a1))) rfl rfl rfl rfl (b_sgtr) ?_
 refine j0 (j1 ?_)
 refine if_else hf (fun hc2 hf => ?_) (fun hc2 hf => ?_)
 ·refine c_true rfl hc2 rfl ?_
  refine j2 (j3 ?_)
  refine r_assign (.int .i64 1) rfl rfl ?_
  refine j0 (j1 (jb (j9 ?_)))
  obtain rfl := Option.some.inj hf
  refine ret_one (.int .i64 1) rfl ⟨rfl, rfl⟩ E0 ?_
  exact (RpV.mkInt _ _)
 refine c_false rfl hc2 rfl ?_
 refine ja (j1 (j2 (j3 ?_)))
 refine r_assign (.int .i64 0) rfl rfl ?_
 refine j0 (j1 (jb ?_))
 obtain rfl := Option.some.inj hf
 refine ret_one (.int .i64 0) rfl ⟨rfl, rfl⟩ E0 ?_
 exact (RpV.mkInt _ _)

def S_semtyperef1_CompareKeys (f : (Key → Key → Option Int)) : Prop := ∀ (s0 : S) (v0 : Value) (v1 : Value) (a0 : Key) (a1 : Key) (r : Int), RpV s0 a0 v0 → RpV s0 a1 v1 → f a0 a1 = some r → Ctr Go.Proofs.Try.prog 49 [v0, v1] s0 (fun v τ => RpV τ r v)

set_option maxHeartbeats 1600000 in
set_option maxRecDepth 100000 in
theorem ok_semtyperef1_CompareKeys : S_semtyperef1_CompareKeys semtyperef1_CompareKeys := by
 intro s0 v0 v1 a0 a1 r h0 h1 hf
 obtain rfl := Key.rpv h0
 obtain rfl := Key.rpv h1
 unfold semtyperef1_CompareKeys at hf
 have E0 : ExtB s0.N s0 s0 := ExtB.refl _ _
 refine ctr_of 20 Go.Proofs.Try.func49 rfl rfl rfl rfl ?_
 refine j2 (j3 ?_)
 refine r_box (B := s0.N) 1 E0.size (Key.ag a0) (Key.cs a0) rfl rfl rfl ?_
 intro s2 b1 k3 hb4
 have E5 := E0.x k3
 refine r_box (B := s0.N) 2 E5.size (Key.ag a1) (Key.cs a1) rfl rfl rfl ?_
 intro s7 b6 k8 hb9
 have ab := E5.x k8
 refine r_assign (.int .i64 0) rfl rfl ?_
 refine j0 (j1 (j2 (j2 (j3 ?_))))
 refine r_fieldAddr b1 0 0 0 rfl rfl fo60_0 rfl ?_
 refine r_load b1 0 (.int .i64 a0.Kind) rfl rfl (loads_one to3 (((hb4.ext k8).cell 0).trans rfl)) ?_
 refine r_fieldAddr b6 0 0 0 rfl rfl fo60_0 rfl ?_
 refine r_load b6 0 (.int .i64 a1.Kind) rfl rfl (loads_one to3 ((hb9.cell 0).trans rfl)) ?_
 refine r_bin (.int .i64 a0.Kind) (.int .i64 a1.Kind) (.bool (a0.Kind != a1.Kind)) rfl rfl rfl rfl (b_neq) ?_
 refine j0 (j1 ?_)
 refine if_else hf (fun aa hf => ?_) (fun aa hf => ?_)
 ·refine c_true rfl aa rfl ?_
  refine j2 (j3 ?_)
  refine r_fieldAddr b1 0 0 0 rfl rfl fo60_0 rfl ?_
  refine r_load b1 0 (.int .i64 a0.Kind) rfl rfl (loads_one to3 (((hb4.ext k8).cell 0).trans rfl)) ?_
  refine r_fieldAddr b6 0 0 0 rfl rfl fo60_0 rfl ?_
  refine r_load b6 0 (.int .i64 a1.Kind) rfl rfl (loads_one to3 ((hb9.cell 0).trans rfl)) ?_
  obtain ⟨ac, ae, hf⟩ := bind_some hf
  refine r_call [.int .i64 a0.Kind, .int .i64 a1.Kind] (evs2 rfl rfl) rfl (ok_semtyperef1_Order _ _ _ _ _ _ (RpV.mkInt _ _) (RpV.mkInt _ _) ae) ?_
  intro am an af ag
  have ah := ab.x af
  obtain rfl := RpV.int ag
  refine r_assign (.int .i64 ac) rfl rfl ?_
  refine j0 (j1 (jb (j9 ?_)))
  obtain rfl := Option.some.inj hf
  refine ret_one (.int .i64 ac) rfl ⟨rfl, rfl⟩ ah ?_
  exact (RpV.mkInt _ _)
 refine c_false rfl aa rfl ?_
 refine ja (j1 (j2 (j3 ?_)))
 refine r_fieldAddr b1 0 1 1 rfl rfl fo60_1 rfl ?_
 refine r_load b1 1 (.string a0.Text) rfl rfl (loads_one to9 (((hb4.ext k8).cell 1).trans rfl)) ?_
 refine r_fieldAddr b6 0 1 1 rfl rfl fo60_1 rfl ?_
 refine r_load b6 1 (.string a1.Text) rfl rfl (loads_one to9 ((hb9.cell 1).trans rfl)) ?_
 obtain ⟨ad, ai, hf⟩ := bind_some hf
 refine r_call [.string a0.Text, .string a1.Text] (evs2 rfl rfl) rfl (ok_semtyperef1_Text _ _ _ _ _ _ (RpV.mkStr _ _) (RpV.mkStr _ _) ai) ?_
 intro ao ap aj ak
 have al := ab.x aj
 obtain rfl := RpV.int ak
 refine r_assign (.int .i64 ad) rfl rfl ?_
 refine j0 (j1 (jb ?_))
 obtain rfl := Option.some.inj hf
 refine ret_one (.int .i64 ad) rfl ⟨rfl, rfl⟩ al ?_
 exact (RpV.mkInt _ _)

def S_semtyperef1_lower (f : (UInt8 → Option Bool)) : Prop := ∀ (s0 : S) (v0 : Value) (a0 : UInt8) (r : Bool), RpV s0 a0 v0 → f a0 = some r → Ctr Go.Proofs.Try.prog 57 [v0] s0 (fun v τ => RpV τ r v)

set_option maxHeartbeats 1600000 in
set_option maxRecDepth 100000 in
theorem ok_semtyperef1_lower : S_semtyperef1_lower semtyperef1_lower := by
 intro s0 v0 a0 r h0 hf
 obtain rfl := RpV.u8 h0
 unfold semtyperef1_lower at hf
 have E0 : ExtB s0.N s0 s0 := ExtB.refl _ _
 refine ctr_of 9 Go.Proofs.Try.func57 rfl rfl rfl rfl ?_
 refine j2 (j3 ?_)
 refine r_assign (.bool false) rfl rfl ?_
 refine j0 (j1 (j2 (j3 ?_)))
 refine r_move (.int .u8 (a0.toNat : Int)) rfl rfl ?_
 refine r_bin (.int .u8 (a0.toNat : Int)) (.int .u8 97) (.bool (decide (97 ≤ (a0.toNat : Int)))) rfl rfl rfl rfl (b_geq) ?_
 refine r_move (.bool (decide (97 ≤ (a0.toNat : Int)))) rfl rfl ?_
 refine if_else hf (fun hc1 hf => ?_) (fun hc1 hf => ?_)
 ·refine r_guard (j := 2) (want := true) (d := 5) (c := decide (97 ≤ (a0.toNat : Int))) (v := true) rfl rfl hc1 rfl rfl ?_
  refine r_move (.int .u8 (a0.toNat : Int)) rfl rfl ?_
  refine r_guard (j := 2) (want := true) (d := 5) (c := decide (97 ≤ (a0.toNat : Int))) (v := true) rfl rfl hc1 rfl rfl ?_
  refine r_bin (.int .u8 (a0.toNat : Int)) (.int .u8 122) (.bool (decide ((a0.toNat : Int) ≤ 122))) rfl rfl rfl rfl (b_leq) ?_
  refine r_pick_t (c := decide (97 ≤ (a0.toNat : Int))) (.bool (decide ((a0.toNat : Int) ≤ 122))) rfl hc1 rfl rfl rfl rfl ?_
  refine r_assign (.bool (decide ((a0.toNat : Int) ≤ 122))) rfl rfl ?_
  refine j0 (j1 (jb ?_))
  obtain rfl := Option.some.inj hf
  refine ret_one (.bool (decide ((a0.toNat : Int) ≤ 122))) rfl ⟨rfl, rfl⟩ E0 ?_
  exact (RpV.mkBool _ _)
 refine r_skip (j := 2) (want := true) (d := 5) (c := decide (97 ≤ (a0.toNat : Int))) (v := false) rfl rfl hc1 rfl rfl ?_
 refine r_skip (j := 2) (want := true) (d := 5) (c := decide (97 ≤ (a0.toNat : Int))) (v := false) rfl rfl hc1 rfl rfl ?_
 refine r_pick_f (c := decide (97 ≤ (a0.toNat : Int))) (.bool false) rfl hc1 rfl rfl rfl rfl ?_
 refine r_assign (.bool false) rfl rfl ?_
 refine j0 (j1 (jb ?_))
 obtain rfl := Option.some.inj hf
 refine ret_one (.bool false) rfl ⟨rfl, rfl⟩ E0 ?_
 exact (RpV.mkBool _ _)

def S_semtyperef1_digit (f : (UInt8 → Option Bool)) : Prop := ∀ (s0 : S) (v0 : Value) (a0 : UInt8) (r : Bool), RpV s0 a0 v0 → f a0 = some r → Ctr Go.Proofs.Try.prog 58 [v0] s0 (fun v τ => RpV τ r v)

set_option maxHeartbeats 1600000 in
set_option maxRecDepth 100000 in
theorem ok_semtyperef1_digit : S_semtyperef1_digit semtyperef1_digit := by
 intro s0 v0 a0 r h0 hf
 obtain rfl := RpV.u8 h0
 unfold semtyperef1_digit at hf
 have E0 : ExtB s0.N s0 s0 := ExtB.refl _ _
 refine ctr_of 9 Go.Proofs.Try.func58 rfl rfl rfl rfl ?_
 refine j2 (j3 ?_)
 refine r_assign (.bool false) rfl rfl ?_
 refine j0 (j1 (j2 (j3 ?_)))
 refine r_move (.int .u8 (a0.toNat : Int)) rfl rfl ?_
 refine r_bin (.int .u8 (a0.toNat : Int)) (.int .u8 48) (.bool (decide (48 ≤ (a0.toNat : Int)))) rfl rfl rfl rfl (b_geq) ?_
 refine r_move (.bool (decide (48 ≤ (a0.toNat : Int)))) rfl rfl ?_
 refine if_else hf (fun hc1 hf => ?_) (fun hc1 hf => ?_)
 ·refine r_guard (j := 2) (want := true) (d := 5) (c := decide (48 ≤ (a0.toNat : Int))) (v := true) rfl rfl hc1 rfl rfl ?_
  refine r_move (.int .u8 (a0.toNat : Int)) rfl rfl ?_
  refine r_guard (j := 2) (want := true) (d := 5) (c := decide (48 ≤ (a0.toNat : Int))) (v := true) rfl rfl hc1 rfl rfl ?_
  refine r_bin (.int .u8 (a0.toNat : Int)) (.int .u8 57) (.bool (decide ((a0.toNat : Int) ≤ 57))) rfl rfl rfl rfl (b_leq) ?_
  refine r_pick_t (c := decide (48 ≤ (a0.toNat : Int))) (.bool (decide ((a0.toNat : Int) ≤ 57))) rfl hc1 rfl rfl rfl rfl ?_
  refine r_assign (.bool (decide ((a0.toNat : Int) ≤ 57))) rfl rfl ?_
  refine j0 (j1 (jb ?_))
  obtain rfl := Option.some.inj hf
  refine ret_one (.bool (decide ((a0.toNat : Int) ≤ 57))) rfl ⟨rfl, rfl⟩ E0 ?_
  exact (RpV.mkBool _ _)
 refine r_skip (j := 2) (want := true) (d := 5) (c := decide (48 ≤ (a0.toNat : Int))) (v := false) rfl rfl hc1 rfl rfl ?_
 refine r_skip (j := 2) (want := true) (d := 5) (c := decide (48 ≤ (a0.toNat : Int))) (v := false) rfl rfl hc1 rfl rfl ?_
 refine r_pick_f (c := decide (48 ≤ (a0.toNat : Int))) (.bool false) rfl hc1 rfl rfl rfl rfl ?_
 refine r_assign (.bool false) rfl rfl ?_
 refine j0 (j1 (jb ?_))
 obtain rfl := Option.some.inj hf
 refine ret_one (.bool false) rfl ⟨rfl, rfl⟩ E0 ?_
 exact (RpV.mkBool _ _)

def S_semtyperef1_IsAtom (f : (ByteArray → Option Bool)) : Prop := ∀ (s0 : S) (v0 : Value) (a0 : ByteArray) (r : Bool), RpV s0 a0 v0 → f a0 = some r → Ctr Go.Proofs.Try.prog 31 [v0] s0 (fun v τ => RpV τ r v)

set_option maxHeartbeats 1600000 in
set_option maxRecDepth 100000 in
theorem ok_semtyperef1_IsAtom : S_semtyperef1_IsAtom semtyperef1_IsAtom := by
 intro s0 v0 a0 r h0 hf
 obtain rfl := RpV.str h0
 unfold semtyperef1_IsAtom at hf
 have E0 : ExtB s0.N s0 s0 := ExtB.refl _ _
 refine ctr_of 42 Go.Proofs.Try.func31 rfl rfl rfl rfl ?_
 refine j2 (j3 ?_)
 refine r_assign (.bool false) rfl rfl ?_
 refine j0 (j1 (j2 (j2 (j3 ?_))))
 refine r_move (.string a0) rfl rfl ?_
 refine r_lenStr a0 rfl rfl Go.Proofs.Try.underlying9 ?_
 refine r_bin (.int .i64 (a0.size : Int)) (.int .i64 1) (.bool (decide ((a0.size : Int) < 1))) rfl rfl rfl rfl (b_lss) ?_
 refine r_move (.bool (decide ((a0.size : Int) < 1))) rfl rfl ?_
 refine gen_FL fun F1 hg2 => ?_
 have f3 : F1 0 = (.string a0) := (hg2 0).trans rfl
 have f5 : F1 7 = (.bool (decide ((a0.size : Int) < 1))) := (hg2 7).trans rfl
 obtain ⟨q6, hq7, hf⟩ := bind_some hf
 refine wpl_take 4 (J := fun a w => ∃ (F : Fr) (τ : S), a = fr 42 F ∧ w = τ.w ∧ Agr [8, 9, 10, 11] F F1 ∧ ExtB s0.N s0 τ ∧ Wext s0 τ ∧ F 11 = (.bool q6)) ?_ ?_
 ·have hf := hq7
  refine if_else hf (fun hc8 hf => ?_) (fun hc8 hf => ?_)
  ·refine r_skip (j := 3) (want := false) (d := 7) (c := decide ((a0.size : Int) < 1)) (v := true) rfl f5 hc8 rfl rfl ?_
   refine r_skip (j := 3) (want := false) (d := 7) (c := decide ((a0.size : Int) < 1)) (v := true) rfl f5 hc8 rfl rfl ?_
   refine r_skip (j := 3) (want := false) (d := 7) (c := decide ((a0.size : Int) < 1)) (v := true) rfl f5 hc8 rfl rfl ?_
   refine r_pick_t (c := decide ((a0.size : Int) < 1)) (.bool true) f5 hc8 rfl rfl rfl rfl ?_
   refine j0 ?_
   obtain rfl := Option.some.inj hf
   exact ⟨rfl, _, _, rfl, rfl, (((((Agr.refl _ _).put rfl).put rfl).put rfl).put rfl), E0, (Wext.refl _), rfl⟩
  refine r_guard (j := 3) (want := false) (d := 7) (c := decide ((a0.size : Int) < 1)) (v := false) rfl f5 hc8 rfl rfl ?_
  refine r_move (.string a0) f3 rfl ?_
  refine r_guard (j := 3) (want := false) (d := 7) (c := decide ((a0.size : Int) < 1)) (v := false) rfl f5 hc8 rfl rfl ?_
  refine r_lenStr a0 rfl rfl Go.Proofs.Try.underlying9 ?_
  refine r_guard (j := 3) (want := false) (d := 7) (c := decide ((a0.size : Int) < 1)) (v := false) rfl f5 hc8 rfl rfl ?_
  refine r_bin (.int .i64 (a0.size : Int)) (.int .i64 16) (.bool (decide (16 < (a0.size : Int)))) rfl rfl rfl rfl (b_gtr) ?_
  refine r_pick_f (c := decide ((a0.size : Int) < 1)) (.bool (decide (16 < (a0.size : Int)))) f5 hc8 rfl rfl rfl rfl ?_
  refine j0 ?_
  obtain rfl := Option.some.inj hf
  exact ⟨rfl, _, _, rfl, rfl, (((((Agr.refl _ _).put rfl).put rfl).put rfl).put rfl), E0, (Wext.refl _), rfl⟩
 rintro a w ⟨F9, bb, rfl, rfl, aK, ay, bc, aL⟩
 have az := (aK 0 rfl).trans f3
 refine r_move (.bool q6) aL rfl ?_
 refine if_else hf (fun af hf => ?_) (fun af hf => ?_)
 ·refine r_skip (j := 8) (want := false) (d := 12) (c := q6) (v := true) rfl rfl af rfl rfl ?_
  refine r_skip (j := 8) (want := false) (d := 12) (c := q6) (v := true) rfl rfl af rfl rfl ?_
  refine r_skip (j := 8) (want := false) (d := 12) (c := q6) (v := true) rfl rfl af rfl rfl ?_
  refine r_skip (j := 8) (want := false) (d := 12) (c := q6) (v := true) rfl rfl af rfl rfl ?_
  refine r_pick_t (c := q6) (.bool true) rfl af rfl rfl rfl rfl ?_
  refine j0 (j1 ?_)
  refine c_true rfl rfl rfl ?_
  refine j2 (j3 ?_)
  refine r_assign (.bool false) rfl rfl ?_
  refine j0 (j1 (jb (j9 ?_)))
  obtain rfl := Option.some.inj hf
  refine ret_one (.bool false) rfl ⟨rfl, rfl⟩ ay ?_
  exact (RpV.mkBool _ _)
 refine r_guard (j := 8) (want := false) (d := 12) (c := q6) (v := false) rfl rfl af rfl rfl ?_
 refine r_move (.string a0) az rfl ?_
 refine r_guard (j := 8) (want := false) (d := 12) (c := q6) (v := false) rfl rfl af rfl rfl ?_
 obtain ⟨x18, aM, hf⟩ := bind_some hf
 refine r_index (.string a0) (.int .i64 0) (.int .u8 (x18.toNat : Int)) rfl rfl rfl rfl (ix_str Go.Proofs.Try.underlying9 aM) ?_
 refine r_guard (j := 8) (want := false) (d := 12) (c := q6) (v := false) rfl rfl af rfl rfl ?_
 obtain ⟨al, aN, hf⟩ := bind_some hf
 refine r_call [.int .u8 (x18.toNat : Int)] (evs1 rfl) rfl (ok_semtyperef1_lower _ _ _ _ (RpV.mkU8 _ _) aN) ?_
 intro bd aA aO aP
 have aB := ay.x aO
 obtain rfl := RpV.bool aP
 refine r_guard (j := 8) (want := false) (d := 12) (c := q6) (v := false) rfl rfl af rfl rfl ?_
 refine r_un (.bool al) (.bool (!al)) rfl rfl u_not ?_
 refine r_pick_f (c := q6) (.bool (!al)) rfl af rfl rfl rfl rfl ?_
 refine j0 (j1 ?_)
 refine if_else hf (fun am hf => ?_) (fun am hf => ?_)
 ·refine c_true rfl am rfl ?_
  refine j2 (j3 ?_)
  refine r_assign (.bool false) rfl rfl ?_
  refine j0 (j1 (jb (j9 ?_)))
  obtain rfl := Option.some.inj hf
  refine ret_one (.bool false) rfl ⟨rfl, rfl⟩ aB ?_
  exact (RpV.mkBool _ _)
 refine c_false rfl am rfl ?_
 refine ja (j1 (j2 (j2 (j3 ?_))))
 refine r_assign (.int .i64 1) rfl rfl ?_
 refine j0 (j1 (j4 ?_))
 refine gen_F fun an aC => ?_
 have aQ := (aC 0).trans az
 have aR : an 3 = (.int .i64 1) := (aC 3).trans rfl
 obtain ⟨aS, aT, hf⟩ := bind_some hf
 refine wp_mono (wp_iter (step := semtyperef1_IsAtom_l1 a0) (fun q a w => ∃ (F : Fr) (τ : S), a = fr 42 F ∧ w = τ.w ∧ Agr [2, 3, 18, 19, 20, 21, 22, 23, 24, 25, 26, 27, 28, 29, 30, 31, 32, 33, 34, 35, 36, 37, 38, 39, 40, 41] F an ∧ ExtB s0.N s0 τ ∧ Wext aA τ ∧ F 3 = (.int .i64 q)) (fun o e a w => match o with | .inl q => e = .exit 0 ∧ ∃ (F : Fr) (τ : S), a = fr 42 F ∧ w = τ.w ∧ Agr [2, 3, 18, 19, 20, 21, 22, 23, 24, 25, 26, 27, 28, 29, 30, 31, 32, 33, 34, 35, 36, 37, 38, 39, 40, 41] F an ∧ ExtB s0.N s0 τ ∧ Wext aA τ ∧ F 3 = (.int .i64 q) | .inr r => e = .ret ∧ ∃ (F : Fr) (τ : S) (va : Value), a = fr 42 F ∧ w = τ.w ∧ ExtB s0.N s0 τ ∧ ResV Go.Proofs.Try.prog 42 F τ.w (.tmp 2) va ∧ RpV τ r va) (by rintro (_ | _) a w ⟨h, _⟩ <;> cases h) ?_ _ _ _ _ _ aT ?_) ?_
 ·intro aa fl a w hf hI
  obtain ⟨be, bf, rfl, rfl, ai, aD, ao, aj⟩ := hI
  unfold semtyperef1_IsAtom_l1 at hf
  have ap := (ai 0 rfl).trans aQ
  refine j2 (j2 (j3 ?_))
  refine r_move (.int .i64 aa) aj rfl ?_
  refine r_move (.string a0) ap rfl ?_
  refine r_lenStr a0 rfl rfl Go.Proofs.Try.underlying9 ?_
  refine r_bin (.int .i64 aa) (.int .i64 (a0.size : Int)) (.bool (decide (aa < (a0.size : Int)))) rfl rfl rfl rfl (b_lss) ?_
  refine j0 (j1 ?_)
  refine if_else hf (fun aq hf => ?_) (fun aq hf => ?_)
  ·refine c_true rfl aq rfl ?_
   refine ja (j1 (j2 (j4 (j2 (j3 ?_)))))
   refine r_move (.string a0) ap rfl ?_
   refine r_move (.int .i64 aa) aj rfl ?_
   obtain ⟨x42, aU, hf⟩ := bind_some hf
   refine r_index (.string a0) (.int .i64 aa) (.int .u8 (x42.toNat : Int)) rfl rfl rfl rfl (ix_str Go.Proofs.Try.underlying9 aU) ?_
   obtain ⟨ab, aV, hf⟩ := bind_some hf
   refine r_call [.int .u8 (x42.toNat : Int)] (evs1 rfl) rfl (ok_semtyperef1_lower _ _ _ _ (RpV.mkU8 _ _) aV) ?_
   intro bg aW ar aX
   have aE := aD.x ar
   obtain rfl := RpV.bool aX
   refine r_un (.bool ab) (.bool (!ab)) rfl rfl u_not ?_
   refine r_move (.bool (!ab)) rfl rfl ?_
   refine gen_FL fun aF ah => ?_
   have aG := (ah 0).trans ap
   have aH := (ah 3).trans aj
   have ad : aF 29 = (.bool (!ab)) := (ah 29).trans rfl
   obtain ⟨ae, hq57, hf⟩ := bind_some hf
   refine wpl_take 6 (J := fun a w => ∃ (F : Fr) (τ : S), a = fr 42 F ∧ w = τ.w ∧ Agr [30, 31, 32, 33, 34, 35] F aF ∧ ExtB s0.N s0 τ ∧ Wext aW τ ∧ F 35 = (.bool ae)) ?_ ?_
   ·have hf := hq57
    refine if_else hf (fun ac hf => ?_) (fun ac hf => ?_)
    ·refine r_guard (j := 5) (want := true) (d := 29) (c := !ab) (v := true) rfl ad ac rfl rfl ?_
     refine r_move (.string a0) aG rfl ?_
     refine r_guard (j := 5) (want := true) (d := 29) (c := !ab) (v := true) rfl ad ac rfl rfl ?_
     refine r_move (.int .i64 aa) aH rfl ?_
     refine r_guard (j := 5) (want := true) (d := 29) (c := !ab) (v := true) rfl ad ac rfl rfl ?_
     obtain ⟨x59, aY, hf⟩ := bind_some hf
     refine r_index (.string a0) (.int .i64 aa) (.int .u8 (x59.toNat : Int)) rfl rfl rfl rfl (ix_str Go.Proofs.Try.underlying9 aY) ?_
     refine r_guard (j := 5) (want := true) (d := 29) (c := !ab) (v := true) rfl ad ac rfl rfl ?_
     obtain ⟨au, aZ, hf⟩ := bind_some hf
     refine r_call [.int .u8 (x59.toNat : Int)] (evs1 rfl) rfl (ok_semtyperef1_digit _ _ _ _ (RpV.mkU8 _ _) aZ) ?_
     intro bh bi aI a1
     have a2 := aE.x aI
     obtain rfl := RpV.bool a1
     refine r_guard (j := 5) (want := true) (d := 29) (c := !ab) (v := true) rfl ad ac rfl rfl ?_
     refine r_un (.bool au) (.bool (!au)) rfl rfl u_not ?_
     refine r_pick_t (c := !ab) (.bool (!au)) ad ac rfl rfl rfl rfl ?_
     refine j0 ?_
     obtain rfl := Option.some.inj hf
     exact ⟨rfl, _, _, rfl, rfl, (((((((Agr.refl _ _).put rfl).put rfl).put rfl).put rfl).put rfl).put rfl), a2, ((Wext.refl _).trans aI.wext), rfl⟩
    refine r_skip (j := 5) (want := true) (d := 29) (c := !ab) (v := false) rfl ad ac rfl rfl ?_
    refine r_skip (j := 5) (want := true) (d := 29) (c := !ab) (v := false) rfl ad ac rfl rfl ?_
    refine r_skip (j := 5) (want := true) (d := 29) (c := !ab) (v := false) rfl ad ac rfl rfl ?_
    refine r_skip (j := 5) (want := true) (d := 29) (c := !ab) (v := false) rfl ad ac rfl rfl ?_
    refine r_skip (j := 5) (want := true) (d := 29) (c := !ab) (v := false) rfl ad ac rfl rfl ?_
    refine r_pick_f (c := !ab) (.bool false) ad ac rfl rfl rfl rfl ?_
    refine j0 ?_
    obtain rfl := Option.some.inj hf
    exact ⟨rfl, _, _, rfl, rfl, (((((((Agr.refl _ _).put rfl).put rfl).put rfl).put rfl).put rfl).put rfl), aE, (Wext.refl _), rfl⟩
   rintro a w ⟨bj, bk, rfl, rfl, ak, av, aJ, a3⟩
   have a4 := (ak 0 rfl).trans aG
   have aw := (ak 3 rfl).trans aH
   refine r_move (.bool ae) a3 rfl ?_
   refine if_else hf (fun ag hf => ?_) (fun ag hf => ?_)
   ·refine r_guard (j := 12) (want := true) (d := 36) (c := ae) (v := true) rfl rfl ag rfl rfl ?_
    refine r_move (.string a0) a4 rfl ?_
    refine r_guard (j := 12) (want := true) (d := 36) (c := ae) (v := true) rfl rfl ag rfl rfl ?_
    refine r_move (.int .i64 aa) aw rfl ?_
    refine r_guard (j := 12) (want := true) (d := 36) (c := ae) (v := true) rfl rfl ag rfl rfl ?_
    obtain ⟨x77, a5, hf⟩ := bind_some hf
    refine r_index (.string a0) (.int .i64 aa) (.int .u8 (x77.toNat : Int)) rfl rfl rfl rfl (ix_str Go.Proofs.Try.underlying9 a5) ?_
    refine r_guard (j := 12) (want := true) (d := 36) (c := ae) (v := true) rfl rfl ag rfl rfl ?_
    refine r_bin (.int .u8 (x77.toNat : Int)) (.int .u8 95) (.bool ((x77.toNat : Int) != 95)) rfl rfl rfl rfl (b_neq) ?_
    refine r_pick_t (c := ae) (.bool ((x77.toNat : Int) != 95)) rfl ag rfl rfl rfl rfl ?_
    refine j0 (j1 ?_)
    refine if_else hf (fun ax hf => ?_) (fun ax hf => ?_)
    ·refine c_true rfl ax rfl ?_
     refine j2 (j3 ?_)
     refine r_assign (.bool false) rfl rfl ?_
     refine j0 (j1 (jb (j7 (j9 ?_))))
     obtain rfl := Option.some.inj hf
     exact ⟨rfl, _, _, (.bool false), rfl, rfl, av, ⟨rfl, rfl⟩, (RpV.mkBool _ _)⟩
    refine c_false rfl ax rfl ?_
    refine ja (j5 (j1 (j3 ?_)))
    refine r_move (.int .i64 aa) aw rfl ?_
    refine r_bin (.int .i64 aa) (.int .i64 1) (.int .i64 (w64 (aa + 1))) rfl rfl rfl rfl (b_add) ?_
    refine r_assign (.int .i64 (w64 (aa + 1))) rfl rfl ?_
    refine j0 ?_
    obtain rfl := Option.some.inj hf
    exact ⟨rfl, _, _, rfl, rfl, ((((((((((((((((((((((ai).put rfl).put rfl).put rfl).put rfl).put rfl).put rfl).put rfl).put rfl).put rfl).put rfl).gen ah).loop ak rfl).put rfl).put rfl).put rfl).put rfl).put rfl).put rfl).put rfl).put rfl).put rfl), av, ((((Wext.refl _).trans ao).trans ar.wext).trans aJ), rfl⟩
   refine r_skip (j := 12) (want := true) (d := 36) (c := ae) (v := false) rfl rfl ag rfl rfl ?_
   refine r_skip (j := 12) (want := true) (d := 36) (c := ae) (v := false) rfl rfl ag rfl rfl ?_
   refine r_skip (j := 12) (want := true) (d := 36) (c := ae) (v := false) rfl rfl ag rfl rfl ?_
   refine r_skip (j := 12) (want := true) (d := 36) (c := ae) (v := false) rfl rfl ag rfl rfl ?_
   refine r_pick_f (c := ae) (.bool false) rfl ag rfl rfl rfl rfl ?_
   refine j0 (j1 ?_)
   refine c_false rfl rfl rfl ?_
   refine ja (j5 (j1 (j3 ?_)))
   refine r_move (.int .i64 aa) aw rfl ?_
   refine r_bin (.int .i64 aa) (.int .i64 1) (.int .i64 (w64 (aa + 1))) rfl rfl rfl rfl (b_add) ?_
   refine r_assign (.int .i64 (w64 (aa + 1))) rfl rfl ?_
   refine j0 ?_
   obtain rfl := Option.some.inj hf
   exact ⟨rfl, _, _, rfl, rfl, ((((((((((((((((((((((ai).put rfl).put rfl).put rfl).put rfl).put rfl).put rfl).put rfl).put rfl).put rfl).put rfl).gen ah).loop ak rfl).put rfl).put rfl).put rfl).put rfl).put rfl).put rfl).put rfl).put rfl).put rfl), av, ((((Wext.refl _).trans ao).trans ar.wext).trans aJ), rfl⟩
  refine c_false rfl aq rfl ?_
  refine jc (j8 ?_)
  obtain rfl := Option.some.inj hf
  exact ⟨rfl, _, _, rfl, rfl, (((((ai).put rfl).put rfl).put rfl).put rfl), aD, ((Wext.refl _).trans ao), aj⟩
 ·exact ⟨_, _, rfl, rfl, (Agr.refl _ _), aB, (Wext.refl _), aR⟩
 intro e a w hp
 rcases aS with bl | r
 ·replace hf := onEnd_inl hf
  obtain ⟨rfl, bm, bn, rfl, rfl, bo, a6, bp, bq⟩ := hp
  refine j6 (j1 (j2 (j3 ?_)))
  refine r_assign (.bool true) rfl rfl ?_
  refine j0 (j1 (jb ?_))
  obtain rfl := Option.some.inj hf
  refine ret_one (.bool true) rfl ⟨rfl, rfl⟩ a6 ?_
  exact (RpV.mkBool _ _)
 replace hf := onEnd_inr hf
 obtain ⟨rfl, br, bs, a7, rfl, rfl, a8, a9, ba⟩ := hp
 refine j7 (j9 ?_)
 obtain rfl := Option.some.inj hf
 refine ret_one a7 rfl a9 a8 ?_
 exact ba

def S_semtyperef1_ValidKey (f : (Key → Option Bool)) : Prop := ∀ (s0 : S) (v0 : Value) (a0 : Key) (r : Bool), RpV s0 a0 v0 → f a0 = some r → Ctr Go.Proofs.Try.prog 86 [v0] s0 (fun v τ => RpV τ r v)

set_option maxHeartbeats 1600000 in
set_option maxRecDepth 100000 in
theorem ok_semtyperef1_ValidKey : S_semtyperef1_ValidKey semtyperef1_ValidKey := by
 intro s0 v0 a0 r h0 hf
 obtain rfl := Key.rpv h0
 unfold semtyperef1_ValidKey at hf
 have E0 : ExtB s0.N s0 s0 := ExtB.refl _ _
 refine ctr_of 22 Go.Proofs.Try.func86 rfl rfl rfl rfl ?_
 refine j2 (j3 ?_)
 refine r_box (B := s0.N) 1 E0.size (Key.ag a0) (Key.cs a0) rfl rfl rfl ?_
 intro s2 b1 k3 hb4
 have E5 := E0.x k3
 refine r_assign (.bool false) rfl rfl ?_
 refine j0 (j1 (j2 (j3 ?_)))
 refine r_fieldAddr b1 0 0 0 rfl rfl fo60_0 rfl ?_
 refine r_load b1 0 (.int .i64 a0.Kind) rfl rfl (loads_one to3 ((hb4.cell 0).trans rfl)) ?_
 refine r_bin (.int .i64 a0.Kind) (.int .i64 0) (.bool (a0.Kind == 0)) rfl rfl rfl rfl (b_eql) ?_
 refine r_move (.bool (a0.Kind == 0)) rfl rfl ?_
 refine gen_FL fun F6 hg7 => ?_
 have f8 : F6 1 = (.pointer (some ⟨b1, 0, none⟩)) := (hg7 1).trans rfl
 have af : F6 6 = (.bool (a0.Kind == 0)) := (hg7 6).trans rfl
 obtain ⟨aa, hq12, hf⟩ := bind_some hf
 refine wpl_take 4 (J := fun a w => ∃ (F : Fr) (τ : S), a = fr 22 F ∧ w = τ.w ∧ Agr [7, 8, 9, 10] F F6 ∧ ExtB s0.N s0 τ ∧ Wext s2 τ ∧ F 10 = (.bool aa) ∧ Blk s0.N 1 τ b1 60 (Key.cs a0)) ?_ ?_
 ·have hf := hq12
  refine if_else hf (fun ae hf => ?_) (fun ae hf => ?_)
  ·refine r_guard (j := 3) (want := true) (d := 6) (c := (a0.Kind == 0)) (v := true) rfl af ae rfl rfl ?_
   refine r_fieldAddr b1 0 1 1 f8 rfl fo60_1 rfl ?_
   refine r_guard (j := 3) (want := true) (d := 6) (c := (a0.Kind == 0)) (v := true) rfl af ae rfl rfl ?_
   refine r_load b1 1 (.string a0.Text) rfl rfl (loads_one to9 ((hb4.cell 1).trans rfl)) ?_
   refine r_guard (j := 3) (want := true) (d := 6) (c := (a0.Kind == 0)) (v := true) rfl af ae rfl rfl ?_
   obtain ⟨ao, ap, hf⟩ := bind_some hf
   refine r_call [.string a0.Text] (evs1 rfl) rfl (ok_semtyperef1_IsAtom _ _ _ _ (RpV.mkStr _ _) ap) ?_
   intro aC aD ah aq
   have ar := E5.x ah
   obtain rfl := RpV.bool aq
   refine r_pick_t (c := (a0.Kind == 0)) (.bool ao) af ae rfl rfl rfl rfl ?_
   refine j0 ?_
   obtain rfl := Option.some.inj hf
   exact ⟨rfl, _, _, rfl, rfl, (((((Agr.refl _ _).put rfl).put rfl).put rfl).put rfl), ar, ((Wext.refl _).trans ah.wext), rfl, (hb4.ext ah)⟩
  refine r_skip (j := 3) (want := true) (d := 6) (c := (a0.Kind == 0)) (v := false) rfl af ae rfl rfl ?_
  refine r_skip (j := 3) (want := true) (d := 6) (c := (a0.Kind == 0)) (v := false) rfl af ae rfl rfl ?_
  refine r_skip (j := 3) (want := true) (d := 6) (c := (a0.Kind == 0)) (v := false) rfl af ae rfl rfl ?_
  refine r_pick_f (c := (a0.Kind == 0)) (.bool false) af ae rfl rfl rfl rfl ?_
  refine j0 ?_
  obtain rfl := Option.some.inj hf
  exact ⟨rfl, _, _, rfl, rfl, (((((Agr.refl _ _).put rfl).put rfl).put rfl).put rfl), E5, (Wext.refl _), rfl, hb4⟩
 rintro a w ⟨aE, au, rfl, rfl, av, ai, aF, aw, am⟩
 have an := (av 1 rfl).trans f8
 refine r_move (.bool aa) aw rfl ?_
 refine if_else hf (fun ab hf => ?_) (fun ab hf => ?_)
 ·refine r_skip (j := 8) (want := false) (d := 11) (c := aa) (v := true) rfl rfl ab rfl rfl ?_
  refine r_skip (j := 8) (want := false) (d := 11) (c := aa) (v := true) rfl rfl ab rfl rfl ?_
  refine r_skip (j := 8) (want := false) (d := 11) (c := aa) (v := true) rfl rfl ab rfl rfl ?_
  refine r_skip (j := 8) (want := false) (d := 11) (c := aa) (v := true) rfl rfl ab rfl rfl ?_
  refine r_skipu (j := 12) (d := 15) rfl rfl rfl ?_
  refine r_skipu (j := 12) (d := 15) rfl rfl rfl ?_
  refine r_skipu (j := 12) (d := 15) rfl rfl rfl ?_
  refine r_skipu (j := 12) (d := 15) rfl rfl rfl ?_
  refine r_skip (j := 8) (want := false) (d := 11) (c := aa) (v := true) rfl rfl ab rfl rfl ?_
  refine r_pick_t (c := aa) (.bool true) rfl ab rfl rfl rfl rfl ?_
  refine r_assign (.bool true) rfl rfl ?_
  refine j0 (j1 (jb ?_))
  obtain rfl := Option.some.inj hf
  refine ret_one (.bool true) rfl ⟨rfl, rfl⟩ ai ?_
  exact (RpV.mkBool _ _)
 refine r_guard (j := 8) (want := false) (d := 11) (c := aa) (v := false) rfl rfl ab rfl rfl ?_
 refine r_fieldAddr b1 0 0 0 an rfl fo60_0 rfl ?_
 refine r_guard (j := 8) (want := false) (d := 11) (c := aa) (v := false) rfl rfl ab rfl rfl ?_
 refine r_load b1 0 (.int .i64 a0.Kind) rfl rfl (loads_one to3 ((am.cell 0).trans rfl)) ?_
 refine r_guard (j := 8) (want := false) (d := 11) (c := aa) (v := false) rfl rfl ab rfl rfl ?_
 refine r_bin (.int .i64 a0.Kind) (.int .i64 1) (.bool (a0.Kind == 1)) rfl rfl rfl rfl (b_eql) ?_
 refine r_guard (j := 8) (want := false) (d := 11) (c := aa) (v := false) rfl rfl ab rfl rfl ?_
 refine r_move (.bool (a0.Kind == 1)) rfl rfl ?_
 refine gen_FL fun aj ak => ?_
 have ax := (ak 1).trans an
 have al : aj 11 = (.bool aa) := (ak 11).trans rfl
 have ad : aj 15 = (.bool (a0.Kind == 1)) := (ak 15).trans rfl
 obtain ⟨ag, hq38, hf⟩ := bind_some hf
 refine wpl_take 5 (J := fun a w => ∃ (F : Fr) (τ : S), a = fr 22 F ∧ w = τ.w ∧ Agr [16, 17, 18, 19, 20] F aj ∧ ExtB s0.N s0 τ ∧ Wext au τ ∧ F 20 = (.bool ag)) ?_ ?_
 ·have hf := hq38
  refine if_else hf (fun ac hf => ?_) (fun ac hf => ?_)
  ·refine r_guard (j := 12) (want := true) (d := 15) (c := (a0.Kind == 1)) (v := true) rfl ad ac rfl rfl ?_
   refine r_fieldAddr b1 0 1 1 ax rfl fo60_1 rfl ?_
   refine r_guard (j := 12) (want := true) (d := 15) (c := (a0.Kind == 1)) (v := true) rfl ad ac rfl rfl ?_
   refine r_load b1 1 (.string a0.Text) rfl rfl (loads_one to9 ((am.cell 1).trans rfl)) ?_
   refine r_guard (j := 12) (want := true) (d := 15) (c := (a0.Kind == 1)) (v := true) rfl ad ac rfl rfl ?_
   refine r_lenStr a0.Text rfl rfl Go.Proofs.Try.underlying9 ?_
   refine r_guard (j := 12) (want := true) (d := 15) (c := (a0.Kind == 1)) (v := true) rfl ad ac rfl rfl ?_
   refine r_bin (.int .i64 (a0.Text.size : Int)) (.int .i64 64) (.bool (decide ((a0.Text.size : Int) ≤ 64))) rfl rfl rfl rfl (b_leq) ?_
   refine r_guard (j := 8) (want := false) (d := 11) (c := aa) (v := false) rfl al ab rfl rfl ?_
   refine r_pick_t (c := (a0.Kind == 1)) (.bool (decide ((a0.Text.size : Int) ≤ 64))) ad ac rfl rfl rfl rfl ?_
   refine j0 ?_
   obtain rfl := Option.some.inj hf
   exact ⟨rfl, _, _, rfl, rfl, ((((((Agr.refl _ _).put rfl).put rfl).put rfl).put rfl).put rfl), ai, (Wext.refl _), rfl⟩
  refine r_skip (j := 12) (want := true) (d := 15) (c := (a0.Kind == 1)) (v := false) rfl ad ac rfl rfl ?_
  refine r_skip (j := 12) (want := true) (d := 15) (c := (a0.Kind == 1)) (v := false) rfl ad ac rfl rfl ?_
  refine r_skip (j := 12) (want := true) (d := 15) (c := (a0.Kind == 1)) (v := false) rfl ad ac rfl rfl ?_
  refine r_skip (j := 12) (want := true) (d := 15) (c := (a0.Kind == 1)) (v := false) rfl ad ac rfl rfl ?_
  refine r_guard (j := 8) (want := false) (d := 11) (c := aa) (v := false) rfl al ab rfl rfl ?_
  refine r_pick_f (c := (a0.Kind == 1)) (.bool false) ad ac rfl rfl rfl rfl ?_
  refine j0 ?_
  obtain rfl := Option.some.inj hf
  exact ⟨rfl, _, _, rfl, rfl, ((((((Agr.refl _ _).put rfl).put rfl).put rfl).put rfl).put rfl), ai, (Wext.refl _), rfl⟩
 rintro a w ⟨aG, aH, rfl, rfl, ay, az, aI, aA⟩
 have aB := (ay 11 rfl).trans al
 refine r_pick_f (c := aa) (.bool ag) aB ab aA rfl rfl rfl ?_
 refine r_assign (.bool ag) rfl rfl ?_
 refine j0 (j1 (jb ?_))
 obtain rfl := Option.some.inj hf
 refine ret_one (.bool ag) rfl ⟨rfl, rfl⟩ az ?_
 exact (RpV.mkBool _ _)

def S_semtyperef1_Map (f : ((List Key) → (List Val) → Option (Val × Int))) : Prop := ∀ (s0 : S) (v0 : Value) (v1 : Value) (a0 : (List Key)) (a1 : (List Val)) (r : (Val × Int)), RpV s0 a0 v0 → RpV s0 a1 v1 → f a0 a1 = some r → Ctr Go.Proofs.Try.prog 75 [v0, v1] s0 (fun v τ => ∃ v1 v2, v = .tuple #[v1, v2] ∧ RpV τ r.1 v1 ∧ RpV τ r.2 v2)

end Go.Sx
