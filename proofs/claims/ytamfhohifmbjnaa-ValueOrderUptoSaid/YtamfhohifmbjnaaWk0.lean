/- Printed by dec.py. The walks. -/
import Derived.Test.YtamfhohifmbjnaaTy
namespace Go.Sx
open Go Go.RowKit
attribute [local irreducible] Go.wpList Go.Code.wp Go.Sx.Ctr

def S_semtyperef1_Nodes (f : (Val → Option Int)) : Prop := ∀ (s0 : S) (v0 : Value) (a0 : Val) (r : Int), RpV s0 a0 v0 → f a0 = some r → Ctr Go.Proofs.Try.prog 17 [v0] s0 (fun v τ => RpV τ r v)

set_option maxHeartbeats 1600000 in
set_option maxRecDepth 100000 in
theorem okB_semtyperef1_Nodes {rec_semtyperef1_Nodes : (Val → Option Int)} (hrec_semtyperef1_Nodes : S_semtyperef1_Nodes rec_semtyperef1_Nodes) : S_semtyperef1_Nodes (semtyperef1_Nodes_B rec_semtyperef1_Nodes) := by
  intro s0 v0 a0 r h0 hf
  obtain ⟨A1, c2, A4, c5, A7, c8, A10, c11, rfl, h3, h6, h9, h12⟩ := Val.rpv h0
  unfold semtyperef1_Nodes_B at hf
  have hE0 : ExtB s0.N s0 s0 := ExtB.refl _ _
  refine ctr_of 59 Go.Proofs.Try.func17 rfl rfl rfl rfl ?_
  refine wp_seq ?_
  refine wp_region_lit ?_
  refine r_box (B := s0.N) 1 hE0.size (.agg #[.int .i64 a0.Kind, .int .i64 a0.Int_, .string a0.Text, .slice A1 a0.Kids.length c2, .slice A4 a0.Keys.length c5, .slice A7 a0.Entries.length c8, .slice A10 a0.Labels.length c11]) [.int .i64 a0.Kind, .int .i64 a0.Int_, .string a0.Text, .slice A1 a0.Kids.length c2, .slice A4 a0.Keys.length c5, .slice A7 a0.Entries.length c8, .slice A10 a0.Labels.length c11] rfl rfl rfl ?_
  intro s14 b13 hx15 hb16
  have hE17 := hE0.ext hE0.size hx15
  refine r_assign (.int .i64 0) rfl rfl ?_
  refine wpList_nil ?_
  refine p_then ?_
  refine wp_seq ?_
  refine wp_region_lit ?_
  refine r_assign (.int .i64 1) rfl rfl ?_
  refine wpList_nil ?_
  refine p_then ?_
  refine wp_seq ?_
  refine wp_seq ?_
  refine wp_region_lit ?_
  refine r_assign (.int .i64 0) rfl rfl ?_
  refine wpList_nil ?_
  refine p_then ?_
  refine wp_block ?_
  refine gen_F fun F18 hg19 => ?_
  have hF20 : F18 1 = (.pointer (some ⟨b13, 0, none⟩)) := (hg19 1).trans rfl
  have hF21 : F18 2 = (.int .i64 0) := (hg19 2).trans rfl
  have hF22 : F18 3 = (.int .i64 1) := (hg19 3).trans rfl
  have hF23 : F18 4 = (.int .i64 0) := (hg19 4).trans rfl
  obtain ⟨o62, ho63, hf⟩ := bind_some hf
  refine wp_mono (wp_iter (step := semtyperef1_Nodes_l1 rec_semtyperef1_Nodes a0) (fun q a w => ∃ (F : Fr) (τ : S), a = fr 59 F ∧ w = τ.w ∧ Agr [3, 4, 8, 9, 10, 11, 12, 13, 14, 15, 16, 17, 18, 19, 20, 21, 22] F F18 ∧ ExtB s0.N s0 τ ∧ Wext s14 τ ∧ F 3 = (.int .i64 q.1) ∧ F 4 = (.int .i64 q.2) ∧ Blk s0.N 1 τ b13 27 [.int .i64 a0.Kind, .int .i64 a0.Int_, .string a0.Text, .slice A1 a0.Kids.length c2, .slice A4 a0.Keys.length c5, .slice A7 a0.Entries.length c8, .slice A10 a0.Labels.length c11]) (fun q e a w => e = .exit 0 ∧ ∃ (F : Fr) (τ : S), a = fr 59 F ∧ w = τ.w ∧ Agr [3, 4, 8, 9, 10, 11, 12, 13, 14, 15, 16, 17, 18, 19, 20, 21, 22] F F18 ∧ ExtB s0.N s0 τ ∧ Wext s14 τ ∧ F 3 = (.int .i64 q.1) ∧ F 4 = (.int .i64 q.2) ∧ Blk s0.N 1 τ b13 27 [.int .i64 a0.Kind, .int .i64 a0.Int_, .string a0.Text, .slice A1 a0.Kids.length c2, .slice A4 a0.Keys.length c5, .slice A7 a0.Entries.length c8, .slice A10 a0.Labels.length c11]) (by rintro _ a w ⟨h, _⟩; cases h) ?_ _ _ _ _ _ ho63 ?_) ?_
  · intro q24 fl a w hf hI
    obtain ⟨F25, s26, rfl, rfl, hag27, hE28, hW29, h30, h31, h32⟩ := hI
    unfold semtyperef1_Nodes_l1 at hf
    have hF33 : F25 1 = (.pointer (some ⟨b13, 0, none⟩)) := (hag27 1 rfl).trans hF20
    have hF34 : F25 2 = (.int .i64 0) := (hag27 2 rfl).trans hF21
    refine wp_seq ?_
    refine wp_seq ?_
    refine wp_region_lit ?_
    refine r_move (.int .i64 q24.2) h31 rfl ?_
    refine r_fieldAddr b13 0 3 3 hF33 rfl fo27_3 rfl ?_
    refine r_load b13 3 (.slice A1 a0.Kids.length c2) rfl rfl (loads_one to22 ((h32.cell 3).trans rfl)) ?_
    refine r_len A1 a0.Kids.length c2 rfl rfl Go.Proofs.Try.underlying22 ?_
    refine r_bin (.int .i64 q24.2) (.int .i64 (a0.Kids.length : Int)) (.bool (decide (q24.2 < (a0.Kids.length : Int)))) rfl rfl rfl rfl (b_lss) ?_
    refine wpList_nil ?_
    refine p_then ?_
    refine if_else hf (fun hc35 hf => ?_) (fun hc35 hf => ?_)
    · refine c_true rfl hc35 rfl ?_
      refine wp_skip ?_
      refine p_then ?_
      refine wp_seq ?_
      refine wp_block ?_
      refine wp_region_lit ?_
      refine r_move (.int .i64 q24.1) h30 rfl ?_
      refine r_fieldAddr b13 0 3 3 hF33 rfl fo27_3 rfl ?_
      refine r_load b13 3 (.slice A1 a0.Kids.length c2) rfl rfl (loads_one to22 ((h32.cell 3).trans rfl)) ?_
      refine r_move (.int .i64 q24.2) h31 rfl ?_
      obtain ⟨x36, e37, hf⟩ := bind_some hf
      refine r_indexAddr (T := 22) (E := 27) ((h3.mono hx15.wext).mono hW29) e37 rfl rfl rfl rfl Go.Proofs.Try.underlying22 sz27 ?_
      intro b38 o39 cs40 hc41 hs42
      obtain ⟨A43, c44, A46, c47, A49, c50, A52, c53, rfl, h45, h48, h51, h54⟩ := Val.cells_iff.1 hc41
      refine r_load b38 o39 (.agg #[.int .i64 x36.Kind, .int .i64 x36.Int_, .string x36.Text, .slice A43 x36.Kids.length c44, .slice A46 x36.Keys.length c47, .slice A49 x36.Entries.length c50, .slice A52 x36.Labels.length c53]) rfl rfl (loads_row tr27 hs42.2) ?_
      obtain ⟨r55, e56, hf⟩ := bind_some hf
      refine r_call [.agg #[.int .i64 x36.Kind, .int .i64 x36.Int_, .string x36.Text, .slice A43 x36.Kids.length c44, .slice A46 x36.Keys.length c47, .slice A49 x36.Entries.length c50, .slice A52 x36.Labels.length c53]] (evs1 rfl) rfl (hrec_semtyperef1_Nodes _ _ _ _ (Val.rpvMk (v := x36) h45 h48 h51 h54) e56) ?_
      intro v58 s57 hx59 hr60
      have hE61 := hE28.ext hE28.size hx59
      obtain rfl := RpV.int hr60
      refine r_bin (.int .i64 q24.1) (.int .i64 r55) (.int .i64 (w64 (q24.1 + r55))) rfl rfl rfl rfl (b_add) ?_
      refine r_assign (.int .i64 (w64 (q24.1 + r55))) rfl rfl ?_
      refine wpList_nil ?_
      refine p_bn ?_
      refine p_then ?_
      refine wp_region_lit ?_
      refine r_move (.int .i64 q24.2) h31 rfl ?_
      refine r_bin (.int .i64 q24.2) (.int .i64 1) (.int .i64 (w64 (q24.2 + 1))) rfl rfl rfl rfl (b_add) ?_
      refine r_assign (.int .i64 (w64 (q24.2 + 1))) rfl rfl ?_
      refine wpList_nil ?_
      obtain rfl := Option.some.inj hf
      exact ⟨rfl, _, _, rfl, rfl, ((((((((((((((((((hag27).put rfl).put rfl).put rfl).put rfl).put rfl).put rfl).put rfl).put rfl).put rfl).put rfl).put rfl).put rfl).put rfl).put rfl).put rfl).put rfl).put rfl), hE61, (((Wext.refl _).trans hW29).trans hx59.wext), rfl, rfl, (h32.ext hx59)⟩
    · refine c_false rfl hc35 rfl ?_
      refine wp_exit ?_
      refine p_thenx ?_
      obtain rfl := Option.some.inj hf
      exact ⟨rfl, _, _, rfl, rfl, ((((((hag27).put rfl).put rfl).put rfl).put rfl).put rfl), hE28, ((Wext.refl _).trans hW29), h30, h31, h32⟩
  · exact ⟨_, _, rfl, rfl, (Agr.refl _ _), hE17, (Wext.refl _), hF22, hF23, hb16⟩
  · rintro e a w ⟨rfl, F65, s66, rfl, rfl, hag67, hE68, hW69, h70, h71, h72⟩
    have hF73 : F65 1 = (.pointer (some ⟨b13, 0, none⟩)) := (hag67 1 rfl).trans hF20
    have hF74 : F65 2 = (.int .i64 0) := (hag67 2 rfl).trans hF21
    refine p_bx ?_
    refine p_then ?_
    refine wp_seq ?_
    refine wp_seq ?_
    refine wp_region_lit ?_
    refine r_assign (.int .i64 0) rfl rfl ?_
    refine wpList_nil ?_
    refine p_then ?_
    refine wp_block ?_
    refine gen_F fun F75 hg76 => ?_
    have hF77 : F75 1 = (.pointer (some ⟨b13, 0, none⟩)) := (hg76 1).trans hF73
    have hF78 : F75 2 = (.int .i64 0) := (hg76 2).trans hF74
    have hF79 : F75 3 = (.int .i64 o62.1) := (hg76 3).trans h70
    have hF80 : F75 5 = (.int .i64 0) := (hg76 5).trans rfl
    obtain ⟨o197, ho198, hf⟩ := bind_some hf
    refine wp_mono (wp_iter (step := semtyperef1_Nodes_l2 rec_semtyperef1_Nodes a0) (fun q a w => ∃ (F : Fr) (τ : S), a = fr 59 F ∧ w = τ.w ∧ Agr [3, 5, 6, 7, 23, 24, 25, 26, 27, 28, 29, 30, 31, 32, 33, 34, 35, 36, 37, 38, 39, 40, 41, 42, 43, 44, 45, 46, 47, 48, 49, 50, 51, 52, 53, 54, 55, 56, 57] F F75 ∧ ExtB s0.N s0 τ ∧ Wext s66 τ ∧ F 3 = (.int .i64 q.1) ∧ F 5 = (.int .i64 q.2) ∧ Blk s0.N 1 τ b13 27 [.int .i64 a0.Kind, .int .i64 a0.Int_, .string a0.Text, .slice A1 a0.Kids.length c2, .slice A4 a0.Keys.length c5, .slice A7 a0.Entries.length c8, .slice A10 a0.Labels.length c11]) (fun q e a w => e = .exit 2 ∧ ∃ (F : Fr) (τ : S), a = fr 59 F ∧ w = τ.w ∧ Agr [3, 5, 6, 7, 23, 24, 25, 26, 27, 28, 29, 30, 31, 32, 33, 34, 35, 36, 37, 38, 39, 40, 41, 42, 43, 44, 45, 46, 47, 48, 49, 50, 51, 52, 53, 54, 55, 56, 57] F F75 ∧ ExtB s0.N s0 τ ∧ Wext s66 τ ∧ F 3 = (.int .i64 q.1) ∧ F 5 = (.int .i64 q.2) ∧ Blk s0.N 1 τ b13 27 [.int .i64 a0.Kind, .int .i64 a0.Int_, .string a0.Text, .slice A1 a0.Kids.length c2, .slice A4 a0.Keys.length c5, .slice A7 a0.Entries.length c8, .slice A10 a0.Labels.length c11]) (by rintro _ a w ⟨h, _⟩; cases h) ?_ _ _ _ _ _ ho198 ?_) ?_
    · intro q81 fl a w hf hI
      obtain ⟨F82, s83, rfl, rfl, hag84, hE85, hW86, h87, h88, h89⟩ := hI
      unfold semtyperef1_Nodes_l2 at hf
      have hF90 : F82 1 = (.pointer (some ⟨b13, 0, none⟩)) := (hag84 1 rfl).trans hF77
      have hF91 : F82 2 = (.int .i64 0) := (hag84 2 rfl).trans hF78
      refine wp_seq ?_
      refine wp_seq ?_
      refine wp_region_lit ?_
      refine r_move (.int .i64 q81.2) h88 rfl ?_
      refine r_fieldAddr b13 0 5 5 hF90 rfl fo27_5 rfl ?_
      refine r_load b13 5 (.slice A7 a0.Entries.length c8) rfl rfl (loads_one to24 ((h89.cell 5).trans rfl)) ?_
      refine r_len A7 a0.Entries.length c8 rfl rfl Go.Proofs.Try.underlying24 ?_
      refine r_bin (.int .i64 q81.2) (.int .i64 (a0.Entries.length : Int)) (.bool (decide (q81.2 < (a0.Entries.length : Int)))) rfl rfl rfl rfl (b_lss) ?_
      refine wpList_nil ?_
      refine p_then ?_
      refine if_else hf (fun hc92 hf => ?_) (fun hc92 hf => ?_)
      · refine c_true rfl hc92 rfl ?_
        refine wp_skip ?_
        refine p_then ?_
        refine wp_seq ?_
        refine wp_block ?_
        refine wp_seq ?_
        refine wp_region_lit ?_
        refine r_fieldAddr b13 0 5 5 hF90 rfl fo27_5 rfl ?_
        refine r_load b13 5 (.slice A7 a0.Entries.length c8) rfl rfl (loads_one to24 ((h89.cell 5).trans rfl)) ?_
        refine r_move (.int .i64 q81.2) h88 rfl ?_
        obtain ⟨x93, e94, hf⟩ := bind_some hf
        refine r_indexAddr (T := 24) (E := 65) (((h9.mono hx15.wext).mono hW69).mono hW86) e94 rfl rfl rfl rfl Go.Proofs.Try.underlying24 sz65 ?_
        intro b95 o96 cs97 hc98 hs99
        obtain ⟨A100, c101, A103, c104, A106, c107, A109, c110, A112, c113, rfl, h102, h105, h108, h111, h114⟩ := Ent.cells_iff.1 hc98
        refine r_load b95 o96 (.agg #[.slice A100 x93.Args.length c101, .bool x93.Fails, .int .i64 x93.Result.Kind, .int .i64 x93.Result.Int_, .string x93.Result.Text, .slice A103 x93.Result.Kids.length c104, .slice A106 x93.Result.Keys.length c107, .slice A109 x93.Result.Entries.length c110, .slice A112 x93.Result.Labels.length c113]) rfl rfl (loads_row tr65 hs99.2) ?_
        refine r_alloc (B := s0.N) 2 hE85.size _ [.slice none ([] : List Val).length 0, .bool false, .int .i64 0, .int .i64 0, .string (⟨#[]⟩), .slice none ([] : List Val).length 0, .slice none ([] : List Key).length 0, .slice none ([] : List Ent).length 0, .slice none ([] : List ByteArray).length 0] ti65 rfl ?_
        intro s116 b115 hx117 hb118
        have hE119 := hE85.ext hE85.size hx117
        refine r_store hb118 0 (.agg #[.slice A100 x93.Args.length c101, .bool x93.Fails, .int .i64 x93.Result.Kind, .int .i64 x93.Result.Int_, .string x93.Result.Text, .slice A103 x93.Result.Kids.length c104, .slice A106 x93.Result.Keys.length c107, .slice A109 x93.Result.Entries.length c110, .slice A112 x93.Result.Labels.length c113]) [.slice A100 x93.Args.length c101, .bool x93.Fails, .int .i64 x93.Result.Kind, .int .i64 x93.Result.Int_, .string x93.Result.Text, .slice A103 x93.Result.Kids.length c104, .slice A106 x93.Result.Keys.length c107, .slice A109 x93.Result.Entries.length c110, .slice A112 x93.Result.Labels.length c113] [.slice A100 x93.Args.length c101, .bool x93.Fails, .int .i64 x93.Result.Kind, .int .i64 x93.Result.Int_, .string x93.Result.Text, .slice A103 x93.Result.Kids.length c104, .slice A106 x93.Result.Keys.length c107, .slice A109 x93.Result.Entries.length c110, .slice A112 x93.Result.Labels.length c113] rfl rfl rfl rfl rfl sz65 rfl rfl rfl ?_
        intro s120 hm121 hb122
        have hE123 := hE119.mod hE119.size hm121
        refine wpList_nil ?_
        refine p_then ?_
        refine wp_seq ?_
        refine wp_seq ?_
        refine wp_region_lit ?_
        refine r_assign (.int .i64 0) rfl rfl ?_
        refine wpList_nil ?_
        refine p_then ?_
        refine wp_block ?_
        refine gen_F fun F124 hg125 => ?_
        have hF126 : F124 1 = (.pointer (some ⟨b13, 0, none⟩)) := (hg125 1).trans hF90
        have hF127 : F124 2 = (.int .i64 0) := (hg125 2).trans hF91
        have hF128 : F124 3 = (.int .i64 q81.1) := (hg125 3).trans h87
        have hF129 : F124 5 = (.int .i64 q81.2) := (hg125 5).trans h88
        have hF130 : F124 6 = (.pointer (some ⟨b115, 0, none⟩)) := (hg125 6).trans rfl
        have hF131 : F124 7 = (.int .i64 0) := (hg125 7).trans rfl
        obtain ⟨o173, ho174, hf⟩ := bind_some hf
        refine wp_mono (wp_iter (step := semtyperef1_Nodes_l3 rec_semtyperef1_Nodes x93) (fun q a w => ∃ (F : Fr) (τ : S), a = fr 59 F ∧ w = τ.w ∧ Agr [3, 7, 35, 36, 37, 38, 39, 40, 41, 42, 43, 44, 45, 46, 47, 48, 49] F F124 ∧ ExtB s0.N s0 τ ∧ Wext s120 τ ∧ F 3 = (.int .i64 q.1) ∧ F 7 = (.int .i64 q.2) ∧ Blk s0.N 1 τ b13 27 [.int .i64 a0.Kind, .int .i64 a0.Int_, .string a0.Text, .slice A1 a0.Kids.length c2, .slice A4 a0.Keys.length c5, .slice A7 a0.Entries.length c8, .slice A10 a0.Labels.length c11] ∧ Blk s0.N 2 τ b115 65 [.slice A100 x93.Args.length c101, .bool x93.Fails, .int .i64 x93.Result.Kind, .int .i64 x93.Result.Int_, .string x93.Result.Text, .slice A103 x93.Result.Kids.length c104, .slice A106 x93.Result.Keys.length c107, .slice A109 x93.Result.Entries.length c110, .slice A112 x93.Result.Labels.length c113]) (fun q e a w => e = .exit 4 ∧ ∃ (F : Fr) (τ : S), a = fr 59 F ∧ w = τ.w ∧ Agr [3, 7, 35, 36, 37, 38, 39, 40, 41, 42, 43, 44, 45, 46, 47, 48, 49] F F124 ∧ ExtB s0.N s0 τ ∧ Wext s120 τ ∧ F 3 = (.int .i64 q.1) ∧ F 7 = (.int .i64 q.2) ∧ Blk s0.N 1 τ b13 27 [.int .i64 a0.Kind, .int .i64 a0.Int_, .string a0.Text, .slice A1 a0.Kids.length c2, .slice A4 a0.Keys.length c5, .slice A7 a0.Entries.length c8, .slice A10 a0.Labels.length c11] ∧ Blk s0.N 2 τ b115 65 [.slice A100 x93.Args.length c101, .bool x93.Fails, .int .i64 x93.Result.Kind, .int .i64 x93.Result.Int_, .string x93.Result.Text, .slice A103 x93.Result.Kids.length c104, .slice A106 x93.Result.Keys.length c107, .slice A109 x93.Result.Entries.length c110, .slice A112 x93.Result.Labels.length c113]) (by rintro _ a w ⟨h, _⟩; cases h) ?_ _ _ _ _ _ ho174 ?_) ?_
        · intro q132 fl a w hf hI
          obtain ⟨F133, s134, rfl, rfl, hag135, hE136, hW137, h138, h139, h140, h141⟩ := hI
          unfold semtyperef1_Nodes_l3 at hf
          have hF142 : F133 1 = (.pointer (some ⟨b13, 0, none⟩)) := (hag135 1 rfl).trans hF126
          have hF143 : F133 2 = (.int .i64 0) := (hag135 2 rfl).trans hF127
          have hF144 : F133 5 = (.int .i64 q81.2) := (hag135 5 rfl).trans hF129
          have hF145 : F133 6 = (.pointer (some ⟨b115, 0, none⟩)) := (hag135 6 rfl).trans hF130
          refine wp_seq ?_
          refine wp_seq ?_
          refine wp_region_lit ?_
          refine r_move (.int .i64 q132.2) h139 rfl ?_
          refine r_fieldAddr b115 0 0 0 hF145 rfl fo65_0 rfl ?_
          refine r_load b115 0 (.slice A100 x93.Args.length c101) rfl rfl (loads_one to22 ((h141.cell 0).trans rfl)) ?_
          refine r_len A100 x93.Args.length c101 rfl rfl Go.Proofs.Try.underlying22 ?_
          refine r_bin (.int .i64 q132.2) (.int .i64 (x93.Args.length : Int)) (.bool (decide (q132.2 < (x93.Args.length : Int)))) rfl rfl rfl rfl (b_lss) ?_
          refine wpList_nil ?_
          refine p_then ?_
          refine if_else hf (fun hc146 hf => ?_) (fun hc146 hf => ?_)
          · refine c_true rfl hc146 rfl ?_
            refine wp_skip ?_
            refine p_then ?_
            refine wp_seq ?_
            refine wp_block ?_
            refine wp_region_lit ?_
            refine r_move (.int .i64 q132.1) h138 rfl ?_
            refine r_fieldAddr b115 0 0 0 hF145 rfl fo65_0 rfl ?_
            refine r_load b115 0 (.slice A100 x93.Args.length c101) rfl rfl (loads_one to22 ((h141.cell 0).trans rfl)) ?_
            refine r_move (.int .i64 q132.2) h139 rfl ?_
            obtain ⟨x147, e148, hf⟩ := bind_some hf
            refine r_indexAddr (T := 22) (E := 27) (((h102.mono hx117.wext).mono hm121.wext).mono hW137) e148 rfl rfl rfl rfl Go.Proofs.Try.underlying22 sz27 ?_
            intro b149 o150 cs151 hc152 hs153
            obtain ⟨A154, c155, A157, c158, A160, c161, A163, c164, rfl, h156, h159, h162, h165⟩ := Val.cells_iff.1 hc152
            refine r_load b149 o150 (.agg #[.int .i64 x147.Kind, .int .i64 x147.Int_, .string x147.Text, .slice A154 x147.Kids.length c155, .slice A157 x147.Keys.length c158, .slice A160 x147.Entries.length c161, .slice A163 x147.Labels.length c164]) rfl rfl (loads_row tr27 hs153.2) ?_
            obtain ⟨r166, e167, hf⟩ := bind_some hf
            refine r_call [.agg #[.int .i64 x147.Kind, .int .i64 x147.Int_, .string x147.Text, .slice A154 x147.Kids.length c155, .slice A157 x147.Keys.length c158, .slice A160 x147.Entries.length c161, .slice A163 x147.Labels.length c164]] (evs1 rfl) rfl (hrec_semtyperef1_Nodes _ _ _ _ (Val.rpvMk (v := x147) h156 h159 h162 h165) e167) ?_
            intro v169 s168 hx170 hr171
            have hE172 := hE136.ext hE136.size hx170
            obtain rfl := RpV.int hr171
            refine r_bin (.int .i64 q132.1) (.int .i64 r166) (.int .i64 (w64 (q132.1 + r166))) rfl rfl rfl rfl (b_add) ?_
            refine r_assign (.int .i64 (w64 (q132.1 + r166))) rfl rfl ?_
            refine wpList_nil ?_
            refine p_bn ?_
            refine p_then ?_
            refine wp_region_lit ?_
            refine r_move (.int .i64 q132.2) h139 rfl ?_
            refine r_bin (.int .i64 q132.2) (.int .i64 1) (.int .i64 (w64 (q132.2 + 1))) rfl rfl rfl rfl (b_add) ?_
            refine r_assign (.int .i64 (w64 (q132.2 + 1))) rfl rfl ?_
            refine wpList_nil ?_
            obtain rfl := Option.some.inj hf
            exact ⟨rfl, _, _, rfl, rfl, ((((((((((((((((((hag135).put rfl).put rfl).put rfl).put rfl).put rfl).put rfl).put rfl).put rfl).put rfl).put rfl).put rfl).put rfl).put rfl).put rfl).put rfl).put rfl).put rfl), hE172, (((Wext.refl _).trans hW137).trans hx170.wext), rfl, rfl, (h140.ext hx170), (h141.ext hx170)⟩
          · refine c_false rfl hc146 rfl ?_
            refine wp_exit ?_
            refine p_thenx ?_
            obtain rfl := Option.some.inj hf
            exact ⟨rfl, _, _, rfl, rfl, ((((((hag135).put rfl).put rfl).put rfl).put rfl).put rfl), hE136, ((Wext.refl _).trans hW137), h138, h139, h140, h141⟩
        · exact ⟨_, _, rfl, rfl, (Agr.refl _ _), hE123, (Wext.refl _), hF128, hF131, ((h89.ext hx117).mod hm121 rfl), hb122⟩
        · rintro e a w ⟨rfl, F176, s177, rfl, rfl, hag178, hE179, hW180, h181, h182, h183, h184⟩
          have hF185 : F176 1 = (.pointer (some ⟨b13, 0, none⟩)) := (hag178 1 rfl).trans hF126
          have hF186 : F176 2 = (.int .i64 0) := (hag178 2 rfl).trans hF127
          have hF187 : F176 5 = (.int .i64 q81.2) := (hag178 5 rfl).trans hF129
          have hF188 : F176 6 = (.pointer (some ⟨b115, 0, none⟩)) := (hag178 6 rfl).trans hF130
          refine p_bx ?_
          refine p_then ?_
          refine wp_seq ?_
          refine wp_region_lit ?_
          refine r_fieldAddr b115 0 1 1 hF188 rfl fo65_1 rfl ?_
          refine r_load b115 1 (.bool x93.Fails) rfl rfl (loads_one to4 ((h184.cell 1).trans rfl)) ?_
          refine r_un (.bool x93.Fails) (.bool (!x93.Fails)) rfl rfl u_not ?_
          refine wpList_nil ?_
          refine p_then ?_
          refine if_else hf (fun hc189 hf => ?_) (fun hc189 hf => ?_)
          · refine c_true rfl hc189 rfl ?_
            refine wp_region_lit ?_
            refine r_move (.int .i64 o173.1) h181 rfl ?_
            refine r_fieldAddr b115 0 2 2 hF188 rfl fo65_2 rfl ?_
            refine r_load b115 2 (.agg #[.int .i64 x93.Result.Kind, .int .i64 x93.Result.Int_, .string x93.Result.Text, .slice A103 x93.Result.Kids.length c104, .slice A106 x93.Result.Keys.length c107, .slice A109 x93.Result.Entries.length c110, .slice A112 x93.Result.Labels.length c113]) rfl rfl (loads_row tr27 (Blk.range h184 2 [.int .i64 x93.Result.Kind, .int .i64 x93.Result.Int_, .string x93.Result.Text, .slice A103 x93.Result.Kids.length c104, .slice A106 x93.Result.Keys.length c107, .slice A109 x93.Result.Entries.length c110, .slice A112 x93.Result.Labels.length c113] rfl)) ?_
            obtain ⟨r190, e191, hf⟩ := bind_some hf
            refine r_call [.agg #[.int .i64 x93.Result.Kind, .int .i64 x93.Result.Int_, .string x93.Result.Text, .slice A103 x93.Result.Kids.length c104, .slice A106 x93.Result.Keys.length c107, .slice A109 x93.Result.Entries.length c110, .slice A112 x93.Result.Labels.length c113]] (evs1 rfl) rfl (hrec_semtyperef1_Nodes _ _ _ _ (Val.rpvMk (v := x93.Result) (((h105.mono hx117.wext).mono hm121.wext).mono hW180) (((h108.mono hx117.wext).mono hm121.wext).mono hW180) (((h111.mono hx117.wext).mono hm121.wext).mono hW180) (((h114.mono hx117.wext).mono hm121.wext).mono hW180)) e191) ?_
            intro v193 s192 hx194 hr195
            have hE196 := hE179.ext hE179.size hx194
            obtain rfl := RpV.int hr195
            refine r_bin (.int .i64 o173.1) (.int .i64 r190) (.int .i64 (w64 (o173.1 + r190))) rfl rfl rfl rfl (b_add) ?_
            refine r_assign (.int .i64 (w64 (o173.1 + r190))) rfl rfl ?_
            refine wpList_nil ?_
            refine p_bn ?_
            refine p_then ?_
            refine wp_region_lit ?_
            refine r_move (.int .i64 q81.2) hF187 rfl ?_
            refine r_bin (.int .i64 q81.2) (.int .i64 1) (.int .i64 (w64 (q81.2 + 1))) rfl rfl rfl rfl (b_add) ?_
            refine r_assign (.int .i64 (w64 (q81.2 + 1))) rfl rfl ?_
            refine wpList_nil ?_
            obtain rfl := Option.some.inj hf
            exact ⟨rfl, _, _, rfl, rfl, ((((((((((((((((((((((((((((hag84).put rfl).put rfl).put rfl).put rfl).put rfl).put rfl).put rfl).put rfl).put rfl).put rfl).put rfl).put0).put rfl).gen hg125).loop hag178 rfl).put rfl).put rfl).put rfl).put rfl).put rfl).put rfl).put rfl).put rfl).put rfl).put rfl).put rfl).put rfl), hE196, ((((((Wext.refl _).trans hW86).trans hx117.wext).trans hm121.wext).trans hW180).trans hx194.wext), rfl, rfl, (h183.ext hx194)⟩
          · refine c_false rfl hc189 rfl ?_
            refine wp_skip ?_
            refine p_bn ?_
            refine p_then ?_
            refine wp_region_lit ?_
            refine r_move (.int .i64 q81.2) hF187 rfl ?_
            refine r_bin (.int .i64 q81.2) (.int .i64 1) (.int .i64 (w64 (q81.2 + 1))) rfl rfl rfl rfl (b_add) ?_
            refine r_assign (.int .i64 (w64 (q81.2 + 1))) rfl rfl ?_
            refine wpList_nil ?_
            obtain rfl := Option.some.inj hf
            exact ⟨rfl, _, _, rfl, rfl, ((((((((((((((((((((((hag84).put rfl).put rfl).put rfl).put rfl).put rfl).put rfl).put rfl).put rfl).put rfl).put rfl).put rfl).put0).put rfl).gen hg125).loop hag178 rfl).put rfl).put rfl).put rfl).put rfl).put rfl).put rfl), hE179, (((((Wext.refl _).trans hW86).trans hx117.wext).trans hm121.wext).trans hW180), h181, rfl, h183⟩
      · refine c_false rfl hc92 rfl ?_
        refine wp_exit ?_
        refine p_thenx ?_
        obtain rfl := Option.some.inj hf
        exact ⟨rfl, _, _, rfl, rfl, ((((((hag84).put rfl).put rfl).put rfl).put rfl).put rfl), hE85, ((Wext.refl _).trans hW86), h87, h88, h89⟩
    · exact ⟨_, _, rfl, rfl, (Agr.refl _ _), hE68, (Wext.refl _), hF79, hF80, h72⟩
    · rintro e a w ⟨rfl, F200, s201, rfl, rfl, hag202, hE203, hW204, h205, h206, h207⟩
      have hF208 : F200 1 = (.pointer (some ⟨b13, 0, none⟩)) := (hag202 1 rfl).trans hF77
      have hF209 : F200 2 = (.int .i64 0) := (hag202 2 rfl).trans hF78
      refine p_bx ?_
      refine p_then ?_
      refine wp_seq ?_
      refine wp_region_lit ?_
      refine r_move (.int .i64 o197.1) h205 rfl ?_
      refine r_assign (.int .i64 o197.1) rfl rfl ?_
      refine wpList_nil ?_
      refine p_then ?_
      refine wp_ret ?_
      obtain rfl := Option.some.inj hf
      refine ret_one (.int .i64 o197.1) rfl ⟨rfl, rfl⟩ hE203 ?_
      exact (RpV.mkInt _ _)

theorem ok_semtyperef1_Nodes : ∀ n : Nat, S_semtyperef1_Nodes (semtyperef1_Nodes n)
  | 0 => by intro _ _ _ _ _ h; cases h
  | n + 1 => okB_semtyperef1_Nodes (ok_semtyperef1_Nodes n)

def S_semtypelaw4_small (f : (Val → Option Bool)) : Prop := ∀ (s0 : S) (v0 : Value) (a0 : Val) (r : Bool), RpV s0 a0 v0 → f a0 = some r → Ctr Go.Proofs.Try.prog 7 [v0] s0 (fun v τ => RpV τ r v)

set_option maxHeartbeats 1600000 in
set_option maxRecDepth 100000 in
theorem ok_semtypelaw4_small (fuel : Nat) : S_semtypelaw4_small (semtypelaw4_small fuel) := by
  intro s0 v0 a0 r h0 hf
  obtain ⟨A1, c2, A4, c5, A7, c8, A10, c11, rfl, h3, h6, h9, h12⟩ := Val.rpv h0
  unfold semtypelaw4_small at hf
  have hE0 : ExtB s0.N s0 s0 := ExtB.refl _ _
  refine ctr_of 6 Go.Proofs.Try.func7 rfl rfl rfl rfl ?_
  refine wp_seq ?_
  refine wp_region_lit ?_
  refine r_box (B := s0.N) 1 hE0.size (.agg #[.int .i64 a0.Kind, .int .i64 a0.Int_, .string a0.Text, .slice A1 a0.Kids.length c2, .slice A4 a0.Keys.length c5, .slice A7 a0.Entries.length c8, .slice A10 a0.Labels.length c11]) [.int .i64 a0.Kind, .int .i64 a0.Int_, .string a0.Text, .slice A1 a0.Kids.length c2, .slice A4 a0.Keys.length c5, .slice A7 a0.Entries.length c8, .slice A10 a0.Labels.length c11] rfl rfl rfl ?_
  intro s14 b13 hx15 hb16
  have hE17 := hE0.ext hE0.size hx15
  refine r_assign (.bool false) rfl rfl ?_
  refine wpList_nil ?_
  refine p_then ?_
  refine wp_seq ?_
  refine wp_region_lit ?_
  refine r_load b13 0 (.agg #[.int .i64 a0.Kind, .int .i64 a0.Int_, .string a0.Text, .slice A1 a0.Kids.length c2, .slice A4 a0.Keys.length c5, .slice A7 a0.Entries.length c8, .slice A10 a0.Labels.length c11]) rfl rfl (loads_row tr27 (Blk.range hb16 0 [.int .i64 a0.Kind, .int .i64 a0.Int_, .string a0.Text, .slice A1 a0.Kids.length c2, .slice A4 a0.Keys.length c5, .slice A7 a0.Entries.length c8, .slice A10 a0.Labels.length c11] rfl)) ?_
  obtain ⟨r18, e19, hf⟩ := bind_some hf
  refine r_call [.agg #[.int .i64 a0.Kind, .int .i64 a0.Int_, .string a0.Text, .slice A1 a0.Kids.length c2, .slice A4 a0.Keys.length c5, .slice A7 a0.Entries.length c8, .slice A10 a0.Labels.length c11]] (evs1 rfl) rfl ((ok_semtyperef1_Nodes fuel) _ _ _ _ (Val.rpvMk (v := a0) (h3.mono hx15.wext) (h6.mono hx15.wext) (h9.mono hx15.wext) (h12.mono hx15.wext)) e19) ?_
  intro v21 s20 hx22 hr23
  have hE24 := hE17.ext hE17.size hx22
  obtain rfl := RpV.int hr23
  refine r_bin (.int .i64 r18) (.int .i64 60) (.bool (decide (r18 ≤ 60))) rfl rfl rfl rfl (b_leq) ?_
  refine r_assign (.bool (decide (r18 ≤ 60))) rfl rfl ?_
  refine wpList_nil ?_
  refine p_then ?_
  refine wp_ret ?_
  obtain rfl := Option.some.inj hf
  refine ret_one (.bool (decide (r18 ≤ 60))) rfl ⟨rfl, rfl⟩ hE24 ?_
  exact (RpV.mkBool _ _)

def S_slices_Clone_api_Value_api_Value (f : ((List Val) → Option (List Val))) : Prop := ∀ (s0 : S) (v0 : Value) (a0 : (List Val)) (r : (List Val)), RpV s0 a0 v0 → f a0 = some r → ∀ id : Nat, 1000 ≤ id → Ctr Go.Proofs.Try.prog 67 [v0] s0 (fun v τ => OwnV s0.N id 27 τ r v)

set_option maxHeartbeats 1600000 in
set_option maxRecDepth 100000 in
theorem ok_slices_Clone_api_Value_api_Value : S_slices_Clone_api_Value_api_Value slices_Clone_api_Value_api_Value := by
  intro s0 v0 a0 r h0 hf id hid
  obtain ⟨A1, c2, rfl, h3⟩ := RpV.list h0
  unfold slices_Clone_api_Value_api_Value at hf
  have hE0 : ExtB s0.N s0 s0 := ExtB.refl _ _
  refine ctr_of 8 Go.Proofs.Try.func67 rfl rfl rfl rfl ?_
  refine wp_seq ?_
  refine wp_region_lit ?_
  refine r_assign (.slice none ([] : List Val).length 0) rfl rfl ?_
  refine wpList_nil ?_
  refine p_then ?_
  refine wp_seq ?_
  refine wp_seq ?_
  refine wp_region_lit ?_
  refine r_move (.slice A1 a0.length c2) rfl rfl ?_
  refine r_bin (.slice A1 a0.length c2) (.slice none ([] : List Val).length 0) (.bool A1.isNone) rfl rfl rfl rfl (b_nil Go.Proofs.Try.underlying22) ?_
  refine wpList_nil ?_
  refine p_then ?_
  refine (Bool.eq_false_or_eq_true A1.isNone).elim (fun hn4 => ?_) (fun hn4 => ?_)
  · have hx5 := h3.nil_of hn4
    replace hf : some ([] : List Val) = some r := by simpa [hx5, room] using hf
    refine c_true rfl hn4 rfl ?_
    refine wp_seq ?_
    refine wp_region_lit ?_
    refine r_assign (.slice none ([] : List Val).length 0) rfl rfl ?_
    refine wpList_nil ?_
    refine p_then ?_
    refine wp_ret ?_
    refine p_thenr ?_
    obtain rfl := Option.some.inj hf
    refine ret_one (.slice none ([] : List Val).length 0) rfl ⟨rfl, rfl⟩ hE0 ?_
    exact ⟨_, _, rfl, Own.nil_ _⟩
  · refine c_false rfl hn4 rfl ?_
    refine wp_skip ?_
    refine p_then ?_
    refine wp_seq ?_
    refine wp_region_lit ?_
    refine r_buildSlice0 ts22 ?_
    intro s7 A6 hx8
    have hE9 := hE0.ext hE0.size hx8
    refine r_move (.slice A1 a0.length c2) rfl rfl ?_
    obtain ⟨u10, e11, hf⟩ := bind_some hf
    refine r_append (B := s0.N) (id := id) (E := 27) (xs := ([] : List Val)) (ys := a0) hE9.size (Own.nil_ _) (h3.mono hx8.wext) ts22 (room_some e11) rfl rfl rfl rfl ?_
    intro s12 A13 c14 hm15 ho16
    have hE17 := hE9.mod hE9.size hm15
    refine r_assign (.slice A13 a0.length c14) rfl rfl ?_
    refine wpList_nil ?_
    refine p_then ?_
    refine wp_ret ?_
    obtain rfl := Option.some.inj hf
    refine ret_one (.slice A13 a0.length c14) rfl ⟨rfl, rfl⟩ hE17 ?_
    exact ⟨_, _, rfl, ho16⟩

def S_value_parts (f : (Val → Option (List Val))) : Prop := ∀ (s0 : S) (v0 : Value) (a0 : Val) (r : (List Val)), RpV s0 a0 v0 → f a0 = some r → ∀ id : Nat, 1000 ≤ id → Ctr Go.Proofs.Try.prog 53 [v0] s0 (fun v τ => OwnV s0.N id 27 τ r v)

set_option maxHeartbeats 1600000 in
set_option maxRecDepth 100000 in
theorem ok_value_parts : S_value_parts value_parts := by
  intro s0 v0 a0 r h0 hf id hid
  obtain ⟨A1, c2, A4, c5, A7, c8, A10, c11, rfl, h3, h6, h9, h12⟩ := Val.rpv h0
  unfold value_parts at hf
  have hE0 : ExtB s0.N s0 s0 := ExtB.refl _ _
  refine ctr_of 30 Go.Proofs.Try.func53 rfl rfl rfl rfl ?_
  refine wp_seq ?_
  refine wp_region_lit ?_
  refine r_box (B := s0.N) 1 hE0.size (.agg #[.int .i64 a0.Kind, .int .i64 a0.Int_, .string a0.Text, .slice A1 a0.Kids.length c2, .slice A4 a0.Keys.length c5, .slice A7 a0.Entries.length c8, .slice A10 a0.Labels.length c11]) [.int .i64 a0.Kind, .int .i64 a0.Int_, .string a0.Text, .slice A1 a0.Kids.length c2, .slice A4 a0.Keys.length c5, .slice A7 a0.Entries.length c8, .slice A10 a0.Labels.length c11] rfl rfl rfl ?_
  intro s14 b13 hx15 hb16
  have hE17 := hE0.ext hE0.size hx15
  refine r_assign (.slice none ([] : List Val).length 0) rfl rfl ?_
  refine wpList_nil ?_
  refine p_then ?_
  refine wp_seq ?_
  refine wp_region_lit ?_
  refine r_fieldAddr b13 0 3 3 rfl rfl fo27_3 rfl ?_
  refine r_load b13 3 (.slice A1 a0.Kids.length c2) rfl rfl (loads_one to22 ((hb16.cell 3).trans rfl)) ?_
  obtain ⟨r18, e19, hf⟩ := bind_some hf
  refine r_call [.slice A1 a0.Kids.length c2] (evs1 rfl) rfl (ok_slices_Clone_api_Value_api_Value _ _ _ _ (RpV.mkList (h3.mono hx15.wext)) e19 id (by omega)) ?_
  intro v21 s20 hx22 hr23
  have hE24 := hE17.ext hE17.size hx22
  obtain ⟨A25, c26, rfl, ho27⟩ := hr23
  refine r_assign (.slice A25 r18.length c26) rfl rfl ?_
  refine wpList_nil ?_
  refine p_then ?_
  refine wp_seq ?_
  refine wp_seq ?_
  refine wp_region_lit ?_
  refine r_fieldAddr b13 0 5 5 rfl rfl fo27_5 rfl ?_
  refine r_load b13 5 (.slice A7 a0.Entries.length c8) rfl rfl (loads_one to24 (((hb16.ext hx22).cell 5).trans rfl)) ?_
  refine r_len A7 a0.Entries.length c8 rfl rfl Go.Proofs.Try.underlying24 ?_
  refine r_move (.int .i64 0) rfl rfl ?_
  refine wpList_nil ?_
  refine p_then ?_
  refine wp_block ?_
  refine gen_F fun F28 hg29 => ?_
  have hF30 : F28 2 = (.slice none ([] : List Val).length 0) := (hg29 2).trans rfl
  have hF31 : F28 3 = (.slice A25 r18.length c26) := (hg29 3).trans rfl
  have hF32 : F28 10 = (.slice A7 a0.Entries.length c8) := (hg29 10).trans rfl
  have hF33 : F28 11 = (.int .i64 (a0.Entries.length : Int)) := (hg29 11).trans rfl
  have hF34 : F28 12 = (.int .i64 0) := (hg29 12).trans rfl
  obtain ⟨o104, ho105, hf⟩ := bind_some hf
  refine wp_mono (wp_iter (step := value_parts_l1 a0) (fun q a w => ∃ (F : Fr) (τ : S) (A1 : Option Addr) (c1 : Nat), a = fr 30 F ∧ w = τ.w ∧ Agr [3, 5, 12, 13, 14, 15, 16, 17, 18, 19, 20, 21, 22, 23, 24, 25, 26, 27, 28] F F28 ∧ ExtB s0.N s0 τ ∧ Wext s20 τ ∧ F 3 = (.slice A1 q.1.length c1) ∧ Own s0.N id 27 τ q.1 A1 c1 ∧ F 12 = (.int .i64 q.2)) (fun q e a w => e = .exit 0 ∧ ∃ (F : Fr) (τ : S) (A1 : Option Addr) (c1 : Nat), a = fr 30 F ∧ w = τ.w ∧ Agr [3, 5, 12, 13, 14, 15, 16, 17, 18, 19, 20, 21, 22, 23, 24, 25, 26, 27, 28] F F28 ∧ ExtB s0.N s0 τ ∧ Wext s20 τ ∧ F 3 = (.slice A1 q.1.length c1) ∧ Own s0.N id 27 τ q.1 A1 c1 ∧ F 12 = (.int .i64 q.2)) (by rintro _ a w ⟨h, _⟩; cases h) ?_ _ _ _ _ _ ho105 ?_) ?_
  · intro q35 fl a w hf hI
    obtain ⟨F36, s37, A41, c42, rfl, rfl, hag38, hE39, hW40, h43, h44, h45⟩ := hI
    unfold value_parts_l1 at hf
    have hF46 : F36 2 = (.slice none ([] : List Val).length 0) := (hag38 2 rfl).trans hF30
    have hF47 : F36 10 = (.slice A7 a0.Entries.length c8) := (hag38 10 rfl).trans hF32
    have hF48 : F36 11 = (.int .i64 (a0.Entries.length : Int)) := (hag38 11 rfl).trans hF33
    refine wp_seq ?_
    refine wp_region_lit ?_
    refine r_bin (.int .i64 q35.2) (.int .i64 (a0.Entries.length : Int)) (.bool (decide (q35.2 < (a0.Entries.length : Int)))) h45 hF48 rfl rfl (b_lss) ?_
    refine wpList_nil ?_
    refine p_then ?_
    refine wp_seq ?_
    refine if_else hf (fun hc49 hf => ?_) (fun hc49 hf => ?_)
    · refine c_true rfl hc49 rfl ?_
      refine wp_skip ?_
      refine p_then ?_
      refine wp_seq ?_
      refine wp_block ?_
      refine wp_seq ?_
      refine wp_region_lit ?_
      obtain ⟨x50, e51, hf⟩ := bind_some hf
      refine r_indexAddr (T := 24) (E := 65) (((h9.mono hx15.wext).mono hx22.wext).mono hW40) e51 hF47 h45 rfl rfl Go.Proofs.Try.underlying24 sz65 ?_
      intro b52 o53 cs54 hc55 hs56
      obtain ⟨A57, c58, A60, c61, A63, c64, A66, c67, A69, c70, rfl, h59, h62, h65, h68, h71⟩ := Ent.cells_iff.1 hc55
      refine r_load b52 o53 (.agg #[.slice A57 x50.Args.length c58, .bool x50.Fails, .int .i64 x50.Result.Kind, .int .i64 x50.Result.Int_, .string x50.Result.Text, .slice A60 x50.Result.Kids.length c61, .slice A63 x50.Result.Keys.length c64, .slice A66 x50.Result.Entries.length c67, .slice A69 x50.Result.Labels.length c70]) rfl rfl (loads_row tr65 hs56.2) ?_
      refine r_alloc (B := s0.N) 3 hE39.size _ [.slice none ([] : List Val).length 0, .bool false, .int .i64 0, .int .i64 0, .string (⟨#[]⟩), .slice none ([] : List Val).length 0, .slice none ([] : List Key).length 0, .slice none ([] : List Ent).length 0, .slice none ([] : List ByteArray).length 0] ti65 rfl ?_
      intro s73 b72 hx74 hb75
      have hE76 := hE39.ext hE39.size hx74
      refine r_store hb75 0 (.agg #[.slice A57 x50.Args.length c58, .bool x50.Fails, .int .i64 x50.Result.Kind, .int .i64 x50.Result.Int_, .string x50.Result.Text, .slice A60 x50.Result.Kids.length c61, .slice A63 x50.Result.Keys.length c64, .slice A66 x50.Result.Entries.length c67, .slice A69 x50.Result.Labels.length c70]) [.slice A57 x50.Args.length c58, .bool x50.Fails, .int .i64 x50.Result.Kind, .int .i64 x50.Result.Int_, .string x50.Result.Text, .slice A60 x50.Result.Kids.length c61, .slice A63 x50.Result.Keys.length c64, .slice A66 x50.Result.Entries.length c67, .slice A69 x50.Result.Labels.length c70] [.slice A57 x50.Args.length c58, .bool x50.Fails, .int .i64 x50.Result.Kind, .int .i64 x50.Result.Int_, .string x50.Result.Text, .slice A60 x50.Result.Kids.length c61, .slice A63 x50.Result.Keys.length c64, .slice A66 x50.Result.Entries.length c67, .slice A69 x50.Result.Labels.length c70] rfl rfl rfl rfl rfl sz65 rfl rfl rfl ?_
      intro s77 hm78 hb79
      have hE80 := hE76.mod hE76.size hm78
      refine wpList_nil ?_
      refine p_then ?_
      refine wp_seq ?_
      refine wp_region_lit ?_
      refine r_move (.slice A41 q35.1.length c42) h43 rfl ?_
      refine r_fieldAddr b72 0 0 0 rfl rfl fo65_0 rfl ?_
      refine r_load b72 0 (.slice A57 x50.Args.length c58) rfl rfl (loads_one to22 ((hb79.cell 0).trans rfl)) ?_
      obtain ⟨u81, e82, hf⟩ := bind_some hf
      refine r_append (B := s0.N) (id := id) (E := 27) (xs := q35.1) (ys := x50.Args) hE80.size (((h44.ext hx74).mod hm78 (beq_false (by omega)))) ((h59.mono hx74.wext).mono hm78.wext) ts22 (room_some e82) rfl rfl rfl rfl ?_
      intro s83 A84 c85 hm86 ho87
      have hE88 := hE80.mod hE80.size hm86
      refine r_assign (.slice A84 (q35.1 ++ x50.Args).length c85) rfl rfl ?_
      refine wpList_nil ?_
      refine p_then ?_
      refine wp_seq ?_
      refine wp_region_lit ?_
      refine r_fieldAddr b72 0 1 1 rfl rfl fo65_1 rfl ?_
      refine r_load b72 1 (.bool x50.Fails) rfl rfl (loads_one to4 (((hb79.mod hm86 (beq_false (by omega))).cell 1).trans rfl)) ?_
      refine r_un (.bool x50.Fails) (.bool (!x50.Fails)) rfl rfl u_not ?_
      refine wpList_nil ?_
      refine p_then ?_
      refine if_else hf (fun hc89 hf => ?_) (fun hc89 hf => ?_)
      · refine c_true rfl hc89 rfl ?_
        refine wp_region_lit ?_
        refine r_move (.slice A84 (q35.1 ++ x50.Args).length c85) rfl rfl ?_
        refine r_fieldAddr b72 0 2 2 rfl rfl fo65_2 rfl ?_
        refine r_load b72 2 (.agg #[.int .i64 x50.Result.Kind, .int .i64 x50.Result.Int_, .string x50.Result.Text, .slice A60 x50.Result.Kids.length c61, .slice A63 x50.Result.Keys.length c64, .slice A66 x50.Result.Entries.length c67, .slice A69 x50.Result.Labels.length c70]) rfl rfl (loads_row tr27 (Blk.range (hb79.mod hm86 (beq_false (by omega))) 2 [.int .i64 x50.Result.Kind, .int .i64 x50.Result.Int_, .string x50.Result.Text, .slice A60 x50.Result.Kids.length c61, .slice A63 x50.Result.Keys.length c64, .slice A66 x50.Result.Entries.length c67, .slice A69 x50.Result.Labels.length c70] rfl)) ?_
        refine r_buildSlice (B := s0.N) (E := 27) 4 hE88.size ts22 (xs := [x50.Result]) [.agg #[.int .i64 x50.Result.Kind, .int .i64 x50.Result.Int_, .string x50.Result.Text, .slice A60 x50.Result.Kids.length c61, .slice A63 x50.Result.Keys.length c64, .slice A66 x50.Result.Entries.length c67, .slice A69 x50.Result.Labels.length c70]] (eps_cons rfl eps_nil) rfl rfl rfl (by decide) rfl (by simp [Value.cells, Rp.sz]) ⟨_, _, rfl, (Val.cells_iff.2 ⟨_, _, _, _, _, _, _, _, rfl, (((h62.mono hx74.wext).mono hm78.wext).mono hm86.wext), (((h65.mono hx74.wext).mono hm78.wext).mono hm86.wext), (((h68.mono hx74.wext).mono hm78.wext).mono hm86.wext), (((h71.mono hx74.wext).mono hm78.wext).mono hm86.wext)⟩), rfl⟩ ?_
        intro s90 A91 c92 hx93 ho94
        have hE95 := hE88.ext hE88.size hx93
        obtain ⟨u96, e97, hf⟩ := bind_some hf
        refine r_append (B := s0.N) (id := id) (E := 27) (xs := q35.1 ++ x50.Args) (ys := [x50.Result]) hE95.size ((ho87.ext hx93)) ho94.sl ts22 (room_some e97) rfl rfl rfl rfl ?_
        intro s98 A99 c100 hm101 ho102
        have hE103 := hE95.mod hE95.size hm101
        refine r_assign (.slice A99 ((q35.1 ++ x50.Args) ++ [x50.Result]).length c100) rfl rfl ?_
        refine wpList_nil ?_
        refine p_bn ?_
        refine p_then ?_
        refine wp_region_lit ?_
        refine r_bin (.int .i64 q35.2) (.int .i64 1) (.int .i64 (w64 (q35.2 + 1))) h45 rfl rfl rfl (b_add) ?_
        refine r_move (.int .i64 (w64 (q35.2 + 1))) rfl rfl ?_
        refine wpList_nil ?_
        obtain rfl := Option.some.inj hf
        exact ⟨rfl, _, _, A99, c100, rfl, rfl, ((((((((((((((((((((((hag38).put rfl).put rfl).put rfl).put rfl).put0).put rfl).put rfl).put rfl).put rfl).put rfl).put rfl).put rfl).put rfl).put rfl).put rfl).put rfl).put rfl).put rfl).put rfl).put rfl).put rfl), hE103, (((((((Wext.refl _).trans hW40).trans hx74.wext).trans hm78.wext).trans hm86.wext).trans hx93.wext).trans hm101.wext), rfl, (ho102), rfl⟩
      · refine c_false rfl hc89 rfl ?_
        refine wp_skip ?_
        refine p_bn ?_
        refine p_then ?_
        refine wp_region_lit ?_
        refine r_bin (.int .i64 q35.2) (.int .i64 1) (.int .i64 (w64 (q35.2 + 1))) h45 rfl rfl rfl (b_add) ?_
        refine r_move (.int .i64 (w64 (q35.2 + 1))) rfl rfl ?_
        refine wpList_nil ?_
        obtain rfl := Option.some.inj hf
        exact ⟨rfl, _, _, A84, c85, rfl, rfl, ((((((((((((((((hag38).put rfl).put rfl).put rfl).put rfl).put0).put rfl).put rfl).put rfl).put rfl).put rfl).put rfl).put rfl).put rfl).put rfl).put rfl), hE88, (((((Wext.refl _).trans hW40).trans hx74.wext).trans hm78.wext).trans hm86.wext), rfl, (ho87), rfl⟩
    · refine c_false rfl hc49 rfl ?_
      refine wp_exit ?_
      refine p_thenx ?_
      obtain rfl := Option.some.inj hf
      exact ⟨rfl, _, _, A41, c42, rfl, rfl, ((hag38).put rfl), hE39, ((Wext.refl _).trans hW40), h43, (h44), h45⟩
  · exact ⟨_, _, A25, c26, rfl, rfl, (Agr.refl _ _), hE24, (Wext.refl _), hF31, ((ho27.base (by have := hE17.size; omega))), hF34⟩
  · rintro e a w ⟨rfl, F107, s108, A112, c113, rfl, rfl, hag109, hE110, hW111, h114, h115, h116⟩
    have hF117 : F107 2 = (.slice none ([] : List Val).length 0) := (hag109 2 rfl).trans hF30
    have hF118 : F107 10 = (.slice A7 a0.Entries.length c8) := (hag109 10 rfl).trans hF32
    have hF119 : F107 11 = (.int .i64 (a0.Entries.length : Int)) := (hag109 11 rfl).trans hF33
    refine p_bx ?_
    refine p_then ?_
    refine wp_seq ?_
    refine wp_region_lit ?_
    refine r_move (.slice A112 o104.1.length c113) h114 rfl ?_
    refine r_assign (.slice A112 o104.1.length c113) rfl rfl ?_
    refine wpList_nil ?_
    refine p_then ?_
    refine wp_ret ?_
    obtain rfl := Option.some.inj hf
    refine ret_one (.slice A112 o104.1.length c113) rfl ⟨rfl, rfl⟩ hE110 ?_
    exact ⟨_, _, rfl, h115⟩

def S_value_uses (f : (Int → Option (Value_used × Bool))) : Prop := ∀ (s0 : S) (v0 : Value) (a0 : Int) (r : (Value_used × Bool)), RpV s0 a0 v0 → f a0 = some r → Ctr Go.Proofs.Try.prog 80 [v0] s0 (fun v τ => ∃ v1 v2, v = .tuple #[v1, v2] ∧ RpV τ r.1 v1 ∧ RpV τ r.2 v2)

set_option maxHeartbeats 1600000 in
set_option maxRecDepth 100000 in
theorem ok_value_uses : S_value_uses value_uses := by
  intro s0 v0 a0 r h0 hf
  obtain rfl := RpV.int h0
  unfold value_uses at hf
  have hE0 : ExtB s0.N s0 s0 := ExtB.refl _ _
  refine ctr_of 27 Go.Proofs.Try.func80 rfl rfl rfl rfl ?_
  refine wp_seq ?_
  refine wp_region_lit ?_
  refine r_alloc (B := s0.N) 1 hE0.size _ [.bool false, .bool false, .bool false, .bool false, .bool false] ti87 rfl ?_
  intro s2 b1 hx3 hb4
  have hE5 := hE0.ext hE0.size hx3
  refine r_assign (.bool false) rfl rfl ?_
  refine wpList_nil ?_
  refine p_then ?_
  refine wp_seq ?_
  refine wp_seq ?_
  refine wp_region_lit ?_
  refine r_move (.int .i64 a0) rfl rfl ?_
  refine wpList_nil ?_
  refine p_then ?_
  refine wp_block ?_
  refine wp_seq ?_
  refine wp_seq ?_
  refine wp_region_lit ?_
  refine r_bin (.int .i64 a0) (.int .i64 1) (.bool (a0 == 1)) rfl rfl rfl rfl (b_eql) ?_
  refine r_assign (.bool (a0 == 1)) rfl rfl ?_
  refine wpList_nil ?_
  refine p_then ?_
  refine if_else hf (fun hc6 hf => ?_) (fun hc6 hf => ?_)
  · refine c_true rfl hc6 rfl ?_
    refine wp_skip ?_
    refine p_then ?_
    refine c_true rfl hc6 rfl ?_
    refine wp_seq ?_
    refine wp_region_lit ?_
    refine r_build tst87 [(0, .bool true)] [.bool true, .bool false, .bool false, .bool false, .bool false] (eps_cons rfl eps_nil) rfl rfl ?_
    refine r_store hb4 0 (.agg #[.bool true, .bool false, .bool false, .bool false, .bool false]) [.bool true, .bool false, .bool false, .bool false, .bool false] [.bool true, .bool false, .bool false, .bool false, .bool false] rfl rfl rfl rfl rfl sz87 rfl rfl rfl ?_
    intro s7 hm8 hb9
    have hE10 := hE5.mod hE5.size hm8
    refine r_assign (.bool true) rfl rfl ?_
    refine wpList_nil ?_
    refine p_then ?_
    refine wp_ret ?_
    refine p_br ?_
    refine p_thenr ?_
    obtain rfl := Option.some.inj hf
    refine ret_two (.agg #[.bool true, .bool false, .bool false, .bool false, .bool false]) (.bool true) rfl ⟨rfl, _, rfl, loads_row tr87 (Blk.range hb9 0 [.bool true, .bool false, .bool false, .bool false, .bool false] rfl)⟩ ⟨rfl, rfl⟩ hE10 ?_
    exact ⟨_, _, rfl, (Value_used.rpvMk (v := (Value_used.mk true false false false false)) ), (RpV.mkBool _ _)⟩
  · refine c_false rfl hc6 rfl ?_
    refine wp_region_lit ?_
    refine r_bin (.int .i64 a0) (.int .i64 4) (.bool (a0 == 4)) rfl rfl rfl rfl (b_eql) ?_
    refine r_assign (.bool (a0 == 4)) rfl rfl ?_
    refine wpList_nil ?_
    refine p_then ?_
    refine if_else hf (fun hc11 hf => ?_) (fun hc11 hf => ?_)
    · refine c_true rfl hc11 rfl ?_
      refine wp_seq ?_
      refine wp_region_lit ?_
      refine r_build tst87 [(0, .bool true)] [.bool true, .bool false, .bool false, .bool false, .bool false] (eps_cons rfl eps_nil) rfl rfl ?_
      refine r_store hb4 0 (.agg #[.bool true, .bool false, .bool false, .bool false, .bool false]) [.bool true, .bool false, .bool false, .bool false, .bool false] [.bool true, .bool false, .bool false, .bool false, .bool false] rfl rfl rfl rfl rfl sz87 rfl rfl rfl ?_
      intro s12 hm13 hb14
      have hE15 := hE5.mod hE5.size hm13
      refine r_assign (.bool true) rfl rfl ?_
      refine wpList_nil ?_
      refine p_then ?_
      refine wp_ret ?_
      refine p_br ?_
      refine p_thenr ?_
      obtain rfl := Option.some.inj hf
      refine ret_two (.agg #[.bool true, .bool false, .bool false, .bool false, .bool false]) (.bool true) rfl ⟨rfl, _, rfl, loads_row tr87 (Blk.range hb14 0 [.bool true, .bool false, .bool false, .bool false, .bool false] rfl)⟩ ⟨rfl, rfl⟩ hE15 ?_
      exact ⟨_, _, rfl, (Value_used.rpvMk (v := (Value_used.mk true false false false false)) ), (RpV.mkBool _ _)⟩
    · refine c_false rfl hc11 rfl ?_
      refine wp_seq ?_
      refine wp_seq ?_
      refine wp_region_lit ?_
      refine r_bin (.int .i64 a0) (.int .i64 2) (.bool (a0 == 2)) rfl rfl rfl rfl (b_eql) ?_
      refine r_assign (.bool (a0 == 2)) rfl rfl ?_
      refine wpList_nil ?_
      refine p_then ?_
      refine if_else hf (fun hc16 hf => ?_) (fun hc16 hf => ?_)
      · refine c_true rfl hc16 rfl ?_
        refine wp_skip ?_
        refine p_then ?_
        refine c_true rfl hc16 rfl ?_
        refine wp_seq ?_
        refine wp_region_lit ?_
        refine r_build tst87 [(1, .bool true)] [.bool false, .bool true, .bool false, .bool false, .bool false] (eps_cons rfl eps_nil) rfl rfl ?_
        refine r_store hb4 0 (.agg #[.bool false, .bool true, .bool false, .bool false, .bool false]) [.bool false, .bool true, .bool false, .bool false, .bool false] [.bool false, .bool true, .bool false, .bool false, .bool false] rfl rfl rfl rfl rfl sz87 rfl rfl rfl ?_
        intro s17 hm18 hb19
        have hE20 := hE5.mod hE5.size hm18
        refine r_assign (.bool true) rfl rfl ?_
        refine wpList_nil ?_
        refine p_then ?_
        refine wp_ret ?_
        refine p_br ?_
        refine p_thenr ?_
        obtain rfl := Option.some.inj hf
        refine ret_two (.agg #[.bool false, .bool true, .bool false, .bool false, .bool false]) (.bool true) rfl ⟨rfl, _, rfl, loads_row tr87 (Blk.range hb19 0 [.bool false, .bool true, .bool false, .bool false, .bool false] rfl)⟩ ⟨rfl, rfl⟩ hE20 ?_
        exact ⟨_, _, rfl, (Value_used.rpvMk (v := (Value_used.mk false true false false false)) ), (RpV.mkBool _ _)⟩
      · refine c_false rfl hc16 rfl ?_
        refine wp_region_lit ?_
        refine r_bin (.int .i64 a0) (.int .i64 3) (.bool (a0 == 3)) rfl rfl rfl rfl (b_eql) ?_
        refine r_assign (.bool (a0 == 3)) rfl rfl ?_
        refine wpList_nil ?_
        refine p_then ?_
        refine if_else hf (fun hc21 hf => ?_) (fun hc21 hf => ?_)
        · refine c_true rfl hc21 rfl ?_
          refine wp_seq ?_
          refine wp_region_lit ?_
          refine r_build tst87 [(1, .bool true)] [.bool false, .bool true, .bool false, .bool false, .bool false] (eps_cons rfl eps_nil) rfl rfl ?_
          refine r_store hb4 0 (.agg #[.bool false, .bool true, .bool false, .bool false, .bool false]) [.bool false, .bool true, .bool false, .bool false, .bool false] [.bool false, .bool true, .bool false, .bool false, .bool false] rfl rfl rfl rfl rfl sz87 rfl rfl rfl ?_
          intro s22 hm23 hb24
          have hE25 := hE5.mod hE5.size hm23
          refine r_assign (.bool true) rfl rfl ?_
          refine wpList_nil ?_
          refine p_then ?_
          refine wp_ret ?_
          refine p_br ?_
          refine p_thenr ?_
          obtain rfl := Option.some.inj hf
          refine ret_two (.agg #[.bool false, .bool true, .bool false, .bool false, .bool false]) (.bool true) rfl ⟨rfl, _, rfl, loads_row tr87 (Blk.range hb24 0 [.bool false, .bool true, .bool false, .bool false, .bool false] rfl)⟩ ⟨rfl, rfl⟩ hE25 ?_
          exact ⟨_, _, rfl, (Value_used.rpvMk (v := (Value_used.mk false true false false false)) ), (RpV.mkBool _ _)⟩
        · refine c_false rfl hc21 rfl ?_
          refine wp_seq ?_
          refine wp_region_lit ?_
          refine r_bin (.int .i64 a0) (.int .i64 5) (.bool (a0 == 5)) rfl rfl rfl rfl (b_eql) ?_
          refine r_assign (.bool (a0 == 5)) rfl rfl ?_
          refine wpList_nil ?_
          refine p_then ?_
          refine if_else hf (fun hc26 hf => ?_) (fun hc26 hf => ?_)
          · refine c_true rfl hc26 rfl ?_
            refine wp_seq ?_
            refine wp_region_lit ?_
            refine r_build tst87 [] [.bool false, .bool false, .bool false, .bool false, .bool false] eps_nil rfl rfl ?_
            refine r_store hb4 0 (.agg #[.bool false, .bool false, .bool false, .bool false, .bool false]) [.bool false, .bool false, .bool false, .bool false, .bool false] [.bool false, .bool false, .bool false, .bool false, .bool false] rfl rfl rfl rfl rfl sz87 rfl rfl rfl ?_
            intro s27 hm28 hb29
            have hE30 := hE5.mod hE5.size hm28
            refine r_assign (.bool true) rfl rfl ?_
            refine wpList_nil ?_
            refine p_then ?_
            refine wp_ret ?_
            refine p_br ?_
            refine p_thenr ?_
            obtain rfl := Option.some.inj hf
            refine ret_two (.agg #[.bool false, .bool false, .bool false, .bool false, .bool false]) (.bool true) rfl ⟨rfl, _, rfl, loads_row tr87 (Blk.range hb29 0 [.bool false, .bool false, .bool false, .bool false, .bool false] rfl)⟩ ⟨rfl, rfl⟩ hE30 ?_
            exact ⟨_, _, rfl, (Value_used.rpvMk (v := (Value_used.mk false false false false false)) ), (RpV.mkBool _ _)⟩
          · refine c_false rfl hc26 rfl ?_
            refine wp_seq ?_
            refine wp_seq ?_
            refine wp_region_lit ?_
            refine r_bin (.int .i64 a0) (.int .i64 6) (.bool (a0 == 6)) rfl rfl rfl rfl (b_eql) ?_
            refine r_assign (.bool (a0 == 6)) rfl rfl ?_
            refine wpList_nil ?_
            refine p_then ?_
            refine if_else hf (fun hc31 hf => ?_) (fun hc31 hf => ?_)
            · refine c_true rfl hc31 rfl ?_
              refine wp_skip ?_
              refine p_then ?_
              refine c_true rfl hc31 rfl ?_
              refine wp_seq ?_
              refine wp_region_lit ?_
              refine r_build tst87 [(2, .bool true)] [.bool false, .bool false, .bool true, .bool false, .bool false] (eps_cons rfl eps_nil) rfl rfl ?_
              refine r_store hb4 0 (.agg #[.bool false, .bool false, .bool true, .bool false, .bool false]) [.bool false, .bool false, .bool true, .bool false, .bool false] [.bool false, .bool false, .bool true, .bool false, .bool false] rfl rfl rfl rfl rfl sz87 rfl rfl rfl ?_
              intro s32 hm33 hb34
              have hE35 := hE5.mod hE5.size hm33
              refine r_assign (.bool true) rfl rfl ?_
              refine wpList_nil ?_
              refine p_then ?_
              refine wp_ret ?_
              refine p_br ?_
              refine p_thenr ?_
              obtain rfl := Option.some.inj hf
              refine ret_two (.agg #[.bool false, .bool false, .bool true, .bool false, .bool false]) (.bool true) rfl ⟨rfl, _, rfl, loads_row tr87 (Blk.range hb34 0 [.bool false, .bool false, .bool true, .bool false, .bool false] rfl)⟩ ⟨rfl, rfl⟩ hE35 ?_
              exact ⟨_, _, rfl, (Value_used.rpvMk (v := (Value_used.mk false false true false false)) ), (RpV.mkBool _ _)⟩
            · refine c_false rfl hc31 rfl ?_
              refine wp_region_lit ?_
              refine r_bin (.int .i64 a0) (.int .i64 7) (.bool (a0 == 7)) rfl rfl rfl rfl (b_eql) ?_
              refine r_assign (.bool (a0 == 7)) rfl rfl ?_
              refine wpList_nil ?_
              refine p_then ?_
              refine if_else hf (fun hc36 hf => ?_) (fun hc36 hf => ?_)
              · refine c_true rfl hc36 rfl ?_
                refine wp_seq ?_
                refine wp_region_lit ?_
                refine r_build tst87 [(2, .bool true)] [.bool false, .bool false, .bool true, .bool false, .bool false] (eps_cons rfl eps_nil) rfl rfl ?_
                refine r_store hb4 0 (.agg #[.bool false, .bool false, .bool true, .bool false, .bool false]) [.bool false, .bool false, .bool true, .bool false, .bool false] [.bool false, .bool false, .bool true, .bool false, .bool false] rfl rfl rfl rfl rfl sz87 rfl rfl rfl ?_
                intro s37 hm38 hb39
                have hE40 := hE5.mod hE5.size hm38
                refine r_assign (.bool true) rfl rfl ?_
                refine wpList_nil ?_
                refine p_then ?_
                refine wp_ret ?_
                refine p_br ?_
                refine p_thenr ?_
                obtain rfl := Option.some.inj hf
                refine ret_two (.agg #[.bool false, .bool false, .bool true, .bool false, .bool false]) (.bool true) rfl ⟨rfl, _, rfl, loads_row tr87 (Blk.range hb39 0 [.bool false, .bool false, .bool true, .bool false, .bool false] rfl)⟩ ⟨rfl, rfl⟩ hE40 ?_
                exact ⟨_, _, rfl, (Value_used.rpvMk (v := (Value_used.mk false false true false false)) ), (RpV.mkBool _ _)⟩
              · refine c_false rfl hc36 rfl ?_
                refine wp_seq ?_
                refine wp_region_lit ?_
                refine r_bin (.int .i64 a0) (.int .i64 8) (.bool (a0 == 8)) rfl rfl rfl rfl (b_eql) ?_
                refine r_assign (.bool (a0 == 8)) rfl rfl ?_
                refine wpList_nil ?_
                refine p_then ?_
                refine if_else hf (fun hc41 hf => ?_) (fun hc41 hf => ?_)
                · refine c_true rfl hc41 rfl ?_
                  refine wp_seq ?_
                  refine wp_region_lit ?_
                  refine r_build tst87 [(2, .bool true), (3, .bool true)] [.bool false, .bool false, .bool true, .bool true, .bool false] (eps_cons rfl (eps_cons rfl eps_nil)) rfl rfl ?_
                  refine r_store hb4 0 (.agg #[.bool false, .bool false, .bool true, .bool true, .bool false]) [.bool false, .bool false, .bool true, .bool true, .bool false] [.bool false, .bool false, .bool true, .bool true, .bool false] rfl rfl rfl rfl rfl sz87 rfl rfl rfl ?_
                  intro s42 hm43 hb44
                  have hE45 := hE5.mod hE5.size hm43
                  refine r_assign (.bool true) rfl rfl ?_
                  refine wpList_nil ?_
                  refine p_then ?_
                  refine wp_ret ?_
                  refine p_br ?_
                  refine p_thenr ?_
                  obtain rfl := Option.some.inj hf
                  refine ret_two (.agg #[.bool false, .bool false, .bool true, .bool true, .bool false]) (.bool true) rfl ⟨rfl, _, rfl, loads_row tr87 (Blk.range hb44 0 [.bool false, .bool false, .bool true, .bool true, .bool false] rfl)⟩ ⟨rfl, rfl⟩ hE45 ?_
                  exact ⟨_, _, rfl, (Value_used.rpvMk (v := (Value_used.mk false false true true false)) ), (RpV.mkBool _ _)⟩
                · refine c_false rfl hc41 rfl ?_
                  refine wp_seq ?_
                  refine wp_region_lit ?_
                  refine r_bin (.int .i64 a0) (.int .i64 9) (.bool (a0 == 9)) rfl rfl rfl rfl (b_eql) ?_
                  refine r_assign (.bool (a0 == 9)) rfl rfl ?_
                  refine wpList_nil ?_
                  refine p_then ?_
                  refine if_else hf (fun hc46 hf => ?_) (fun hc46 hf => ?_)
                  · refine c_true rfl hc46 rfl ?_
                    refine wp_seq ?_
                    refine wp_region_lit ?_
                    refine r_build tst87 [(0, .bool true), (4, .bool true)] [.bool true, .bool false, .bool false, .bool false, .bool true] (eps_cons rfl (eps_cons rfl eps_nil)) rfl rfl ?_
                    refine r_store hb4 0 (.agg #[.bool true, .bool false, .bool false, .bool false, .bool true]) [.bool true, .bool false, .bool false, .bool false, .bool true] [.bool true, .bool false, .bool false, .bool false, .bool true] rfl rfl rfl rfl rfl sz87 rfl rfl rfl ?_
                    intro s47 hm48 hb49
                    have hE50 := hE5.mod hE5.size hm48
                    refine r_assign (.bool true) rfl rfl ?_
                    refine wpList_nil ?_
                    refine p_then ?_
                    refine wp_ret ?_
                    refine p_br ?_
                    refine p_thenr ?_
                    obtain rfl := Option.some.inj hf
                    refine ret_two (.agg #[.bool true, .bool false, .bool false, .bool false, .bool true]) (.bool true) rfl ⟨rfl, _, rfl, loads_row tr87 (Blk.range hb49 0 [.bool true, .bool false, .bool false, .bool false, .bool true] rfl)⟩ ⟨rfl, rfl⟩ hE50 ?_
                    exact ⟨_, _, rfl, (Value_used.rpvMk (v := (Value_used.mk true false false false true)) ), (RpV.mkBool _ _)⟩
                  · refine c_false rfl hc46 rfl ?_
                    refine wp_skip ?_
                    refine p_bn ?_
                    refine p_then ?_
                    refine wp_seq ?_
                    refine wp_region_lit ?_
                    refine r_build tst87 [] [.bool false, .bool false, .bool false, .bool false, .bool false] eps_nil rfl rfl ?_
                    refine r_store hb4 0 (.agg #[.bool false, .bool false, .bool false, .bool false, .bool false]) [.bool false, .bool false, .bool false, .bool false, .bool false] [.bool false, .bool false, .bool false, .bool false, .bool false] rfl rfl rfl rfl rfl sz87 rfl rfl rfl ?_
                    intro s51 hm52 hb53
                    have hE54 := hE5.mod hE5.size hm52
                    refine r_assign (.bool false) rfl rfl ?_
                    refine wpList_nil ?_
                    refine p_then ?_
                    refine wp_ret ?_
                    obtain rfl := Option.some.inj hf
                    refine ret_two (.agg #[.bool false, .bool false, .bool false, .bool false, .bool false]) (.bool false) rfl ⟨rfl, _, rfl, loads_row tr87 (Blk.range hb53 0 [.bool false, .bool false, .bool false, .bool false, .bool false] rfl)⟩ ⟨rfl, rfl⟩ hE54 ?_
                    exact ⟨_, _, rfl, (Value_used.rpvMk (v := (Value_used.mk false false false false false)) ), (RpV.mkBool _ _)⟩

def S_internal_bytealg_CompareString (f : (ByteArray → ByteArray → Option Int)) : Prop := ∀ (s0 : S) (v0 : Value) (v1 : Value) (a0 : ByteArray) (a1 : ByteArray) (r : Int), RpV s0 a0 v0 → RpV s0 a1 v1 → f a0 a1 = some r → Ctr Go.Proofs.Try.prog 65 [v0, v1] s0 (fun v τ => RpV τ r v)

set_option maxHeartbeats 1600000 in
set_option maxRecDepth 100000 in
theorem ok_internal_bytealg_CompareString : S_internal_bytealg_CompareString internal_bytealg_CompareString := by
  intro s0 v0 v1 a0 a1 r h0 h1 hf
  obtain rfl := RpV.str h0
  obtain rfl := RpV.str h1
  unfold internal_bytealg_CompareString at hf
  have hE0 : ExtB s0.N s0 s0 := ExtB.refl _ _
  refine ctr_of 8 Go.Proofs.Try.func65 rfl rfl rfl rfl ?_
  refine wp_seq ?_
  refine wp_region_lit ?_
  refine r_assign (.int .i64 0) rfl rfl ?_
  refine wpList_nil ?_
  refine p_then ?_
  refine wp_seq ?_
  refine wp_region_lit ?_
  refine r_move (.string a0) rfl rfl ?_
  refine r_move (.string a1) rfl rfl ?_
  refine r_callx [.string a0, .string a1] (.int .i64 (strCmp a0 a1)) (evs2 rfl rfl) rfl (x87 _ _ _) ?_
  refine r_assign (.int .i64 (strCmp a0 a1)) rfl rfl ?_
  refine wpList_nil ?_
  refine p_then ?_
  refine wp_ret ?_
  obtain rfl := Option.some.inj hf
  refine ret_one (.int .i64 (strCmp a0 a1)) rfl ⟨rfl, rfl⟩ hE0 ?_
  exact (RpV.mkInt _ _)

def S_strings_Compare (f : (ByteArray → ByteArray → Option Int)) : Prop := ∀ (s0 : S) (v0 : Value) (v1 : Value) (a0 : ByteArray) (a1 : ByteArray) (r : Int), RpV s0 a0 v0 → RpV s0 a1 v1 → f a0 a1 = some r → Ctr Go.Proofs.Try.prog 39 [v0, v1] s0 (fun v τ => RpV τ r v)

set_option maxHeartbeats 1600000 in
set_option maxRecDepth 100000 in
theorem ok_strings_Compare : S_strings_Compare strings_Compare := by
  intro s0 v0 v1 a0 a1 r h0 h1 hf
  obtain rfl := RpV.str h0
  obtain rfl := RpV.str h1
  unfold strings_Compare at hf
  have hE0 : ExtB s0.N s0 s0 := ExtB.refl _ _
  refine ctr_of 8 Go.Proofs.Try.func39 rfl rfl rfl rfl ?_
  refine wp_seq ?_
  refine wp_region_lit ?_
  refine r_assign (.int .i64 0) rfl rfl ?_
  refine wpList_nil ?_
  refine p_then ?_
  refine wp_seq ?_
  refine wp_region_lit ?_
  refine r_move (.string a0) rfl rfl ?_
  refine r_move (.string a1) rfl rfl ?_
  obtain ⟨r1, e2, hf⟩ := bind_some hf
  refine r_call [.string a0, .string a1] (evs2 rfl rfl) rfl (ok_internal_bytealg_CompareString _ _ _ _ _ _ (RpV.mkStr _ _) (RpV.mkStr _ _) e2) ?_
  intro v4 s3 hx5 hr6
  have hE7 := hE0.ext hE0.size hx5
  obtain rfl := RpV.int hr6
  refine r_assign (.int .i64 r1) rfl rfl ?_
  refine wpList_nil ?_
  refine p_then ?_
  refine wp_ret ?_
  obtain rfl := Option.some.inj hf
  refine ret_one (.int .i64 r1) rfl ⟨rfl, rfl⟩ hE7 ?_
  exact (RpV.mkInt _ _)

def S_value_ascending_string (f : ((List ByteArray) → (ByteArray → ByteArray → Option Int) → Option Bool)) : Prop := ∀ (s0 : S) (v0 : Value) (v1 : Value) (a0 : (List ByteArray)) (a1 : (ByteArray → ByteArray → Option Int)) (r : Bool), RpV s0 a0 v0 → Fn2 Go.Proofs.Try.prog s0 v1 a1 → f a0 a1 = some r → Ctr Go.Proofs.Try.prog 95 [v0, v1] s0 (fun v τ => RpV τ r v)

set_option maxHeartbeats 1600000 in
set_option maxRecDepth 100000 in
theorem ok_value_ascending_string : S_value_ascending_string value_ascending_string := by
  intro s0 v0 v1 a0 a1 r h0 h1 hf
  obtain ⟨A1, c2, rfl, h3⟩ := RpV.list h0
  have hg1 := h1
  obtain ⟨kk1, fi1, ca1, rfl, hk1⟩ := h1
  unfold value_ascending_string at hf
  have hE0 : ExtB s0.N s0 s0 := ExtB.refl _ _
  refine ctr_of 24 Go.Proofs.Try.func95 rfl rfl rfl rfl ?_
  refine wp_seq ?_
  refine wp_region_lit ?_
  refine r_assign (.bool false) rfl rfl ?_
  refine wpList_nil ?_
  refine p_then ?_
  refine wp_seq ?_
  refine wp_seq ?_
  refine wp_region_lit ?_
  refine r_assign (.int .i64 1) rfl rfl ?_
  refine wpList_nil ?_
  refine p_then ?_
  refine wp_block ?_
  refine gen_F fun F4 hg5 => ?_
  have hF6 : F4 0 = (.slice A1 a0.length c2) := (hg5 0).trans rfl
  have hF7 : F4 1 = (.func (.func kk1) (List.toArray fi1) (List.toArray ca1)) := (hg5 1).trans rfl
  have hF8 : F4 4 = (.bool false) := (hg5 4).trans rfl
  have hF9 : F4 5 = (.int .i64 1) := (hg5 5).trans rfl
  obtain ⟨o224, ho225, hf⟩ := bind_some hf
  refine wp_mono (wp_iter (step := value_ascending_string_l1 a0 a1) (fun q a w => ∃ (F : Fr) (τ : S), a = fr 24 F ∧ w = τ.w ∧ Agr [4, 5, 6, 7, 8, 9, 10, 11, 12, 13, 14, 15, 16, 17, 18, 19, 20, 21, 22, 23] F F4 ∧ ExtB s0.N s0 τ ∧ Wext s0 τ ∧ F 5 = (.int .i64 q)) (fun o e a w => match o with | .inl q => e = .exit 0 ∧ ∃ (F : Fr) (τ : S), a = fr 24 F ∧ w = τ.w ∧ Agr [4, 5, 6, 7, 8, 9, 10, 11, 12, 13, 14, 15, 16, 17, 18, 19, 20, 21, 22, 23] F F4 ∧ ExtB s0.N s0 τ ∧ Wext s0 τ ∧ F 5 = (.int .i64 q) | .inr r => e = .ret ∧ ∃ (F : Fr) (τ : S) (va : Value), a = fr 24 F ∧ w = τ.w ∧ ExtB s0.N s0 τ ∧ ResV Go.Proofs.Try.prog 24 F τ.w (.tmp 4) va ∧ RpV τ r va) (by rintro (_ | _) a w ⟨h, _⟩ <;> cases h) ?_ _ _ _ _ _ ho225 ?_) ?_
  · intro q10 fl a w hf hI
    obtain ⟨F11, s12, rfl, rfl, hag13, hE14, hW15, h16⟩ := hI
    unfold value_ascending_string_l1 at hf
    have hF17 : F11 0 = (.slice A1 a0.length c2) := (hag13 0 rfl).trans hF6
    have hF18 : F11 1 = (.func (.func kk1) (List.toArray fi1) (List.toArray ca1)) := (hag13 1 rfl).trans hF7
    refine wp_seq ?_
    refine wp_seq ?_
    refine wp_region_lit ?_
    refine r_move (.int .i64 q10) h16 rfl ?_
    refine r_move (.slice A1 a0.length c2) hF17 rfl ?_
    refine r_len A1 a0.length c2 rfl rfl Go.Proofs.Try.underlying25 ?_
    refine r_bin (.int .i64 q10) (.int .i64 (a0.length : Int)) (.bool (decide (q10 < (a0.length : Int)))) rfl rfl rfl rfl (b_lss) ?_
    refine wpList_nil ?_
    refine p_then ?_
    refine if_else hf (fun hc19 hf => ?_) (fun hc19 hf => ?_)
    · refine c_true rfl hc19 rfl ?_
      refine wp_skip ?_
      refine p_then ?_
      refine wp_seq ?_
      refine wp_block ?_
      refine wp_seq ?_
      obtain ⟨x20, e21, hf⟩ := bind_some hf
      obtain ⟨x22, e23, hf⟩ := bind_some hf
      obtain ⟨r24, e25, hf⟩ := bind_some hf
      refine wp_draw (B := s0.N) [some 12, some 13, some 14, some 15, some 16, some 17, some 18, some 19, some 20, some 21, some 22, some 23] [[], [], [], [2], [1, 2, 3], [1, 2, 3, 4], [], [], [6, 7], [6, 7, 8], [0, 1, 2, 3, 4, 5, 6, 7, 8, 9], [0, 1, 2, 3, 4, 5, 6, 7, 8, 9, 10]] [Fct.eqv (.func (.func kk1) (List.toArray fi1) (List.toArray ca1)), Fct.eqv (.slice A1 a0.length c2), Fct.eqv (.int .i64 q10), Fct.eqv (.int .i64 (w64 (q10 - 1))), Fct.elem (x20 : ByteArray), Fct.eqv (.string x20), Fct.eqv (.slice A1 a0.length c2), Fct.eqv (.int .i64 q10), Fct.elem (x22 : ByteArray), Fct.eqv (.string x22), Fct.eqv (.int .i64 r24), Fct.eqv (.bool (decide (0 ≤ r24)))] (fun D F τ => True) (by kernel_rfl) rfl (by decide) (by decide) trivial (by decide) (by decide) ⟨?_, ?_, ?_, ?_, ?_, ?_, ?_, ?_, ?_, ?_, ?_, ?_, trivial⟩ ?_
      · intro D29 F30 s31 d32 d33 d34 hE35 hW36 hG37 hfr38 hR39
        have hE40 := hE14.trans hE35
        refine r_move (.func (.func kk1) (List.toArray fi1) (List.toArray ca1)) ((hfr38 1 rfl).trans hF18) rfl ?_
        refine wpList_nil ?_
        exact ⟨_, _, rfl, rfl, ExtB.refl _ _, Wext.refl _, rfl, trivial⟩
      · intro D41 F42 s43 d44 d45 d46 hE47 hW48 hG49 hfr50 hR51
        have hE52 := hE14.trans hE47
        refine r_move (.slice A1 a0.length c2) ((hfr50 0 rfl).trans hF17) rfl ?_
        refine wpList_nil ?_
        exact ⟨_, _, rfl, rfl, ExtB.refl _ _, Wext.refl _, rfl, trivial⟩
      · intro D53 F54 s55 d56 d57 d58 hE59 hW60 hG61 hfr62 hR63
        have hE64 := hE14.trans hE59
        refine r_move (.int .i64 q10) ((hfr62 5 rfl).trans h16) rfl ?_
        refine wpList_nil ?_
        exact ⟨_, _, rfl, rfl, ExtB.refl _ _, Wext.refl _, rfl, trivial⟩
      · intro D65 F66 s67 d68 d69 d70 hE71 hW72 hG73 hfr74 hR75
        have hE76 := hE14.trans hE71
        have q77 : F66 14 = (.int .i64 q10) := hR75 2 rfl 14 rfl
        refine r_bin (.int .i64 q10) (.int .i64 1) (.int .i64 (w64 (q10 - 1))) q77 rfl rfl rfl (b_sub) ?_
        refine wpList_nil ?_
        exact ⟨_, _, rfl, rfl, ExtB.refl _ _, Wext.refl _, rfl, trivial⟩
      · intro D78 F79 s80 d81 d82 d83 hE84 hW85 hG86 hfr87 hR88
        have hE89 := hE14.trans hE84
        have q90 : F79 13 = (.slice A1 a0.length c2) := hR88 1 rfl 13 rfl
        have q91 : F79 15 = (.int .i64 (w64 (q10 - 1))) := hR88 3 rfl 15 rfl
        refine r_indexAddr (T := 25) (E := 9) ((h3.mono hW15).mono hW85) e21 q90 q91 rfl rfl Go.Proofs.Try.underlying25 sz9 ?_
        intro b92 o93 cs94 hc95 hs96
        obtain rfl := hc95
        refine wpList_nil ?_
        exact ⟨_, _, rfl, rfl, ExtB.refl _ _, Wext.refl _, ⟨_, _, _, rfl, rfl, hs96⟩, trivial⟩
      · intro D97 F98 s99 d100 d101 d102 hE103 hW104 hG105 hfr106 hR107
        have hE108 := hE14.trans hE103
        obtain ⟨b110, o111, cs112, hv113, hc114, hs115⟩ : (Fct.elem (x20 : ByteArray)).p (F98 16) s99 := hR107 4 rfl 16 rfl
        obtain rfl := hc114
        refine r_load b110 o111 (.string x20) hv113 rfl (loads_one to9 (hs115.2 0 _ rfl)) ?_
        refine wpList_nil ?_
        exact ⟨_, _, rfl, rfl, ExtB.refl _ _, Wext.refl _, rfl, trivial⟩
      · intro D116 F117 s118 d119 d120 d121 hE122 hW123 hG124 hfr125 hR126
        have hE127 := hE14.trans hE122
        refine r_move (.slice A1 a0.length c2) ((hfr125 0 rfl).trans hF17) rfl ?_
        refine wpList_nil ?_
        exact ⟨_, _, rfl, rfl, ExtB.refl _ _, Wext.refl _, rfl, trivial⟩
      · intro D128 F129 s130 d131 d132 d133 hE134 hW135 hG136 hfr137 hR138
        have hE139 := hE14.trans hE134
        refine r_move (.int .i64 q10) ((hfr137 5 rfl).trans h16) rfl ?_
        refine wpList_nil ?_
        exact ⟨_, _, rfl, rfl, ExtB.refl _ _, Wext.refl _, rfl, trivial⟩
      · intro D140 F141 s142 d143 d144 d145 hE146 hW147 hG148 hfr149 hR150
        have hE151 := hE14.trans hE146
        have q152 : F141 18 = (.slice A1 a0.length c2) := hR150 6 rfl 18 rfl
        have q153 : F141 19 = (.int .i64 q10) := hR150 7 rfl 19 rfl
        refine r_indexAddr (T := 25) (E := 9) ((h3.mono hW15).mono hW147) e23 q152 q153 rfl rfl Go.Proofs.Try.underlying25 sz9 ?_
        intro b154 o155 cs156 hc157 hs158
        obtain rfl := hc157
        refine wpList_nil ?_
        exact ⟨_, _, rfl, rfl, ExtB.refl _ _, Wext.refl _, ⟨_, _, _, rfl, rfl, hs158⟩, trivial⟩
      · intro D159 F160 s161 d162 d163 d164 hE165 hW166 hG167 hfr168 hR169
        have hE170 := hE14.trans hE165
        obtain ⟨b172, o173, cs174, hv175, hc176, hs177⟩ : (Fct.elem (x22 : ByteArray)).p (F160 20) s161 := hR169 8 rfl 20 rfl
        obtain rfl := hc176
        refine r_load b172 o173 (.string x22) hv175 rfl (loads_one to9 (hs177.2 0 _ rfl)) ?_
        refine wpList_nil ?_
        exact ⟨_, _, rfl, rfl, ExtB.refl _ _, Wext.refl _, rfl, trivial⟩
      · intro D178 F179 s180 d181 d182 d183 hE184 hW185 hG186 hfr187 hR188
        have hE189 := hE14.trans hE184
        have q190 : F179 12 = (.func (.func kk1) (List.toArray fi1) (List.toArray ca1)) := hR188 0 rfl 12 rfl
        have q191 : F179 17 = (.string x20) := hR188 5 rfl 17 rfl
        have q192 : F179 21 = (.string x22) := hR188 9 rfl 21 rfl
        refine r_callv [.string x20, .string x22] q190 rfl (evs2 q191 q192) rfl (hk1 s180 hE189 _ _ _ _ _ (RpV.mkStr _ _) (RpV.mkStr _ _) e25) ?_
        intro v194 s193 hx195 hr196
        have hE197 := hE189.ext hE189.size hx195
        obtain rfl := RpV.int hr196
        refine wpList_nil ?_
        exact ⟨_, _, rfl, rfl, (ExtB.refl _ _).trans (hx195.mono hE189.size), (Wext.refl _).trans hx195.wext, rfl, trivial⟩
      · intro D198 F199 s200 d201 d202 d203 hE204 hW205 hG206 hfr207 hR208
        have hE209 := hE14.trans hE204
        have q210 : F199 22 = (.int .i64 r24) := hR208 10 rfl 22 rfl
        refine r_bin (.int .i64 r24) (.int .i64 0) (.bool (decide (0 ≤ r24))) q210 rfl rfl rfl (b_geq) ?_
        refine wpList_nil ?_
        exact ⟨_, _, rfl, rfl, ExtB.refl _ _, Wext.refl _, rfl, trivial⟩
      · intro F211 s212 hE213 hW214 hG215 hfr216 hR217
        have hE218 := hE14.trans hE213
        have hF219 : F211 0 = (.slice A1 a0.length c2) := (hfr216 0 rfl).trans hF17
        have hF220 : F211 1 = (.func (.func kk1) (List.toArray fi1) (List.toArray ca1)) := (hfr216 1 rfl).trans hF18
        have hF221 : F211 5 = (.int .i64 q10) := (hfr216 5 rfl).trans h16
        have q222 : F211 23 = (.bool (decide (0 ≤ r24))) := hR217 11 23 rfl
        refine p_then ?_
        refine if_else hf (fun hc223 hf => ?_) (fun hc223 hf => ?_)
        · refine c_true q222 hc223 rfl ?_
          refine wp_seq ?_
          refine wp_region_lit ?_
          refine r_assign (.bool false) rfl rfl ?_
          refine wpList_nil ?_
          refine p_then ?_
          refine wp_ret ?_
          refine p_br ?_
          refine p_thenr ?_
          obtain rfl := Option.some.inj hf
          exact ⟨rfl, _, _, (.bool false), rfl, rfl, hE218, ⟨rfl, rfl⟩, (RpV.mkBool _ _)⟩
        · refine c_false q222 hc223 rfl ?_
          refine wp_skip ?_
          refine p_bn ?_
          refine p_then ?_
          refine wp_region_lit ?_
          refine r_move (.int .i64 q10) hF221 rfl ?_
          refine r_bin (.int .i64 q10) (.int .i64 1) (.int .i64 (w64 (q10 + 1))) rfl rfl rfl rfl (b_add) ?_
          refine r_assign (.int .i64 (w64 (q10 + 1))) rfl rfl ?_
          refine wpList_nil ?_
          obtain rfl := Option.some.inj hf
          exact ⟨rfl, _, _, rfl, rfl, (((((((((hag13).put rfl).put rfl).put rfl).put rfl).draw hfr216 rfl).put rfl).put rfl).put rfl), hE218, (((Wext.refl _).trans hW15).trans hW214), rfl⟩
    · refine c_false rfl hc19 rfl ?_
      refine wp_exit ?_
      refine p_thenx ?_
      obtain rfl := Option.some.inj hf
      exact ⟨rfl, _, _, rfl, rfl, (((((hag13).put rfl).put rfl).put rfl).put rfl), hE14, ((Wext.refl _).trans hW15), h16⟩
  · exact ⟨_, _, rfl, rfl, (Agr.refl _ _), hE0, (Wext.refl _), hF9⟩
  · intro e a w hp
    rcases o224 with q226 | r
    · replace hf := onEnd_inl hf
      obtain ⟨rfl, F227, s228, rfl, rfl, hag229, hE230, hW231, h232⟩ := hp
      have hF233 : F227 0 = (.slice A1 a0.length c2) := (hag229 0 rfl).trans hF6
      have hF234 : F227 1 = (.func (.func kk1) (List.toArray fi1) (List.toArray ca1)) := (hag229 1 rfl).trans hF7
      refine p_bx ?_
      refine p_then ?_
      refine wp_seq ?_
      refine wp_region_lit ?_
      refine r_assign (.bool true) rfl rfl ?_
      refine wpList_nil ?_
      refine p_then ?_
      refine wp_ret ?_
      obtain rfl := Option.some.inj hf
      refine ret_one (.bool true) rfl ⟨rfl, rfl⟩ hE230 ?_
      exact (RpV.mkBool _ _)
    · replace hf := onEnd_inr hf
      obtain ⟨rfl, F238, s239, v235, rfl, rfl, hE240, h236, h237⟩ := hp
      refine p_br ?_
      refine p_thenr ?_
      obtain rfl := Option.some.inj hf
      refine ret_one v235 rfl h236 hE240 ?_
      exact h237

def S_ident_isName (f : (ByteArray → (UInt8 → Option Bool) → (UInt8 → Option Bool) → Option Bool)) : Prop := ∀ (s0 : S) (v0 : Value) (v1 : Value) (v2 : Value) (a0 : ByteArray) (a1 : (UInt8 → Option Bool)) (a2 : (UInt8 → Option Bool)) (r : Bool), RpV s0 a0 v0 → Fn1 Go.Proofs.Try.prog s0 v1 a1 → Fn1 Go.Proofs.Try.prog s0 v2 a2 → f a0 a1 a2 = some r → Ctr Go.Proofs.Try.prog 97 [v0, v1, v2] s0 (fun v τ => RpV τ r v)

set_option maxHeartbeats 1600000 in
set_option maxRecDepth 100000 in
theorem ok_ident_isName : S_ident_isName ident_isName := by
  intro s0 v0 v1 v2 a0 a1 a2 r h0 h1 h2 hf
  obtain rfl := RpV.str h0
  have hg1 := h1
  obtain ⟨kk1, fi1, ca1, rfl, hk1⟩ := h1
  have hg2 := h2
  obtain ⟨kk2, fi2, ca2, rfl, hk2⟩ := h2
  unfold ident_isName at hf
  have hE0 : ExtB s0.N s0 s0 := ExtB.refl _ _
  refine ctr_of 35 Go.Proofs.Try.func97 rfl rfl rfl rfl ?_
  refine wp_seq ?_
  refine wp_region_lit ?_
  refine r_assign (.bool false) rfl rfl ?_
  refine wpList_nil ?_
  refine p_then ?_
  refine wp_seq ?_
  refine wp_seq ?_
  refine wp_region_lit ?_
  refine r_move (.string a0) rfl rfl ?_
  refine r_lenStr a0 rfl rfl Go.Proofs.Try.underlying9 ?_
  refine r_bin (.int .i64 (a0.size : Int)) (.int .i64 1) (.bool (decide ((a0.size : Int) < 1))) rfl rfl rfl rfl (b_lss) ?_
  refine r_move (.bool (decide ((a0.size : Int) < 1))) rfl rfl ?_
  refine gen_FL fun F1 hg2 => ?_
  have hF3 : F1 0 = (.string a0) := (hg2 0).trans rfl
  have hF4 : F1 1 = (.func (.func kk1) (List.toArray fi1) (List.toArray ca1)) := (hg2 1).trans rfl
  have hF5 : F1 2 = (.func (.func kk2) (List.toArray fi2) (List.toArray ca2)) := (hg2 2).trans rfl
  have hF6 : F1 6 = (.bool false) := (hg2 6).trans rfl
  have hF7 : F1 11 = (.bool (decide ((a0.size : Int) < 1))) := (hg2 11).trans rfl
  obtain ⟨q8, hq9, hf⟩ := bind_some hf
  refine wpl_take 4 (J := fun a w => ∃ (F : Fr) (τ : S), a = fr 35 F ∧ w = τ.w ∧ Agr [12, 13, 14, 15] F F1 ∧ ExtB s0.N s0 τ ∧ Wext s0 τ ∧ F 15 = (.bool q8)) ?_ ?_
  · have hf := hq9
    refine if_else hf (fun hc10 hf => ?_) (fun hc10 hf => ?_)
    · refine r_skip (j := 3) (want := false) (d := 11) (c := decide ((a0.size : Int) < 1)) (v := true) rfl hF7 hc10 rfl rfl ?_
      refine r_skip (j := 3) (want := false) (d := 11) (c := decide ((a0.size : Int) < 1)) (v := true) rfl hF7 hc10 rfl rfl ?_
      refine r_skip (j := 3) (want := false) (d := 11) (c := decide ((a0.size : Int) < 1)) (v := true) rfl hF7 hc10 rfl rfl ?_
      refine r_pick_t (c := decide ((a0.size : Int) < 1)) (.bool true) hF7 hc10 rfl rfl rfl rfl ?_
      refine wpList_nil ?_
      obtain rfl := Option.some.inj hf
      exact ⟨rfl, _, _, rfl, rfl, (((((Agr.refl _ _).put rfl).put rfl).put rfl).put rfl), hE0, (Wext.refl _), rfl⟩
    · refine r_guard (j := 3) (want := false) (d := 11) (c := decide ((a0.size : Int) < 1)) (v := false) rfl hF7 hc10 rfl rfl ?_
      refine r_move (.string a0) hF3 rfl ?_
      refine r_guard (j := 3) (want := false) (d := 11) (c := decide ((a0.size : Int) < 1)) (v := false) rfl hF7 hc10 rfl rfl ?_
      refine r_lenStr a0 rfl rfl Go.Proofs.Try.underlying9 ?_
      refine r_guard (j := 3) (want := false) (d := 11) (c := decide ((a0.size : Int) < 1)) (v := false) rfl hF7 hc10 rfl rfl ?_
      refine r_bin (.int .i64 (a0.size : Int)) (.int .i64 16) (.bool (decide (16 < (a0.size : Int)))) rfl rfl rfl rfl (b_gtr) ?_
      refine r_pick_f (c := decide ((a0.size : Int) < 1)) (.bool (decide (16 < (a0.size : Int)))) hF7 hc10 rfl rfl rfl rfl ?_
      refine wpList_nil ?_
      obtain rfl := Option.some.inj hf
      exact ⟨rfl, _, _, rfl, rfl, (((((Agr.refl _ _).put rfl).put rfl).put rfl).put rfl), hE0, (Wext.refl _), rfl⟩
  · rintro a w ⟨F11, s12, rfl, rfl, hag13, hE14, hW15, h16⟩
    have hF17 : F11 0 = (.string a0) := (hag13 0 rfl).trans hF3
    have hF18 : F11 1 = (.func (.func kk1) (List.toArray fi1) (List.toArray ca1)) := (hag13 1 rfl).trans hF4
    have hF19 : F11 2 = (.func (.func kk2) (List.toArray fi2) (List.toArray ca2)) := (hag13 2 rfl).trans hF5
    have hF20 : F11 6 = (.bool false) := (hag13 6 rfl).trans hF6
    refine r_move (.bool q8) h16 rfl ?_
    refine if_else hf (fun hc21 hf => ?_) (fun hc21 hf => ?_)
    · refine r_skip (j := 8) (want := false) (d := 16) (c := q8) (v := true) rfl rfl hc21 rfl rfl ?_
      refine r_skip (j := 8) (want := false) (d := 16) (c := q8) (v := true) rfl rfl hc21 rfl rfl ?_
      refine r_skip (j := 8) (want := false) (d := 16) (c := q8) (v := true) rfl rfl hc21 rfl rfl ?_
      refine r_skip (j := 8) (want := false) (d := 16) (c := q8) (v := true) rfl rfl hc21 rfl rfl ?_
      refine r_skip (j := 8) (want := false) (d := 16) (c := q8) (v := true) rfl rfl hc21 rfl rfl ?_
      refine r_pick_t (c := q8) (.bool true) rfl hc21 rfl rfl rfl rfl ?_
      refine wpList_nil ?_
      refine p_then ?_
      refine c_true rfl rfl rfl ?_
      refine wp_seq ?_
      refine wp_region_lit ?_
      refine r_assign (.bool false) rfl rfl ?_
      refine wpList_nil ?_
      refine p_then ?_
      refine wp_ret ?_
      refine p_thenr ?_
      obtain rfl := Option.some.inj hf
      refine ret_one (.bool false) rfl ⟨rfl, rfl⟩ hE14 ?_
      exact (RpV.mkBool _ _)
    · refine r_guard (j := 8) (want := false) (d := 16) (c := q8) (v := false) rfl rfl hc21 rfl rfl ?_
      refine r_move (.func (.func kk1) (List.toArray fi1) (List.toArray ca1)) hF18 rfl ?_
      refine r_guard (j := 8) (want := false) (d := 16) (c := q8) (v := false) rfl rfl hc21 rfl rfl ?_
      refine r_move (.string a0) hF17 rfl ?_
      refine r_guard (j := 8) (want := false) (d := 16) (c := q8) (v := false) rfl rfl hc21 rfl rfl ?_
      obtain ⟨x22, e23, hf⟩ := bind_some hf
      refine r_index (.string a0) (.int .i64 0) (.int .u8 (x22.toNat : Int)) rfl rfl rfl rfl (ix_str Go.Proofs.Try.underlying9 e23) ?_
      refine r_guard (j := 8) (want := false) (d := 16) (c := q8) (v := false) rfl rfl hc21 rfl rfl ?_
      obtain ⟨r24, e25, hf⟩ := bind_some hf
      refine r_callv [.int .u8 (x22.toNat : Int)] rfl rfl (evs1 rfl) rfl (hk1 s12 hE14 _ _ _ (RpV.mkU8 _ _) e25) ?_
      intro v27 s26 hx28 hr29
      have hE30 := hE14.ext hE14.size hx28
      obtain rfl := RpV.bool hr29
      refine r_guard (j := 8) (want := false) (d := 16) (c := q8) (v := false) rfl rfl hc21 rfl rfl ?_
      refine r_un (.bool r24) (.bool (!r24)) rfl rfl u_not ?_
      refine r_pick_f (c := q8) (.bool (!r24)) rfl hc21 rfl rfl rfl rfl ?_
      refine wpList_nil ?_
      refine p_then ?_
      refine if_else hf (fun hc31 hf => ?_) (fun hc31 hf => ?_)
      · refine c_true rfl hc31 rfl ?_
        refine wp_seq ?_
        refine wp_region_lit ?_
        refine r_assign (.bool false) rfl rfl ?_
        refine wpList_nil ?_
        refine p_then ?_
        refine wp_ret ?_
        refine p_thenr ?_
        obtain rfl := Option.some.inj hf
        refine ret_one (.bool false) rfl ⟨rfl, rfl⟩ hE30 ?_
        exact (RpV.mkBool _ _)
      · refine c_false rfl hc31 rfl ?_
        refine wp_skip ?_
        refine p_then ?_
        refine wp_seq ?_
        refine wp_seq ?_
        refine wp_region_lit ?_
        refine r_assign (.int .i64 1) rfl rfl ?_
        refine wpList_nil ?_
        refine p_then ?_
        refine wp_block ?_
        refine gen_F fun F32 hg33 => ?_
        have hF34 : F32 0 = (.string a0) := (hg33 0).trans hF17
        have hF35 : F32 2 = (.func (.func kk2) (List.toArray fi2) (List.toArray ca2)) := (hg33 2).trans hF19
        have hF36 : F32 6 = (.bool false) := (hg33 6).trans hF20
        have hF37 : F32 7 = (.int .i64 1) := (hg33 7).trans rfl
        obtain ⟨o58, ho59, hf⟩ := bind_some hf
        refine wp_mono (wp_iter (step := ident_isName_l1 a0 a2) (fun q a w => ∃ (F : Fr) (τ : S), a = fr 35 F ∧ w = τ.w ∧ Agr [6, 7, 23, 24, 25, 26, 27, 28, 29, 30, 31, 32, 33, 34] F F32 ∧ ExtB s0.N s0 τ ∧ Wext s26 τ ∧ F 7 = (.int .i64 q)) (fun o e a w => match o with | .inl q => e = .exit 0 ∧ ∃ (F : Fr) (τ : S), a = fr 35 F ∧ w = τ.w ∧ Agr [6, 7, 23, 24, 25, 26, 27, 28, 29, 30, 31, 32, 33, 34] F F32 ∧ ExtB s0.N s0 τ ∧ Wext s26 τ ∧ F 7 = (.int .i64 q) | .inr r => e = .ret ∧ ∃ (F : Fr) (τ : S) (va : Value), a = fr 35 F ∧ w = τ.w ∧ ExtB s0.N s0 τ ∧ ResV Go.Proofs.Try.prog 35 F τ.w (.tmp 6) va ∧ RpV τ r va) (by rintro (_ | _) a w ⟨h, _⟩ <;> cases h) ?_ _ _ _ _ _ ho59 ?_) ?_
        · intro q38 fl a w hf hI
          obtain ⟨F39, s40, rfl, rfl, hag41, hE42, hW43, h44⟩ := hI
          unfold ident_isName_l1 at hf
          have hF45 : F39 0 = (.string a0) := (hag41 0 rfl).trans hF34
          have hF46 : F39 2 = (.func (.func kk2) (List.toArray fi2) (List.toArray ca2)) := (hag41 2 rfl).trans hF35
          refine wp_seq ?_
          refine wp_seq ?_
          refine wp_region_lit ?_
          refine r_move (.int .i64 q38) h44 rfl ?_
          refine r_move (.string a0) hF45 rfl ?_
          refine r_lenStr a0 rfl rfl Go.Proofs.Try.underlying9 ?_
          refine r_bin (.int .i64 q38) (.int .i64 (a0.size : Int)) (.bool (decide (q38 < (a0.size : Int)))) rfl rfl rfl rfl (b_lss) ?_
          refine wpList_nil ?_
          refine p_then ?_
          refine if_else hf (fun hc47 hf => ?_) (fun hc47 hf => ?_)
          · refine c_true rfl hc47 rfl ?_
            refine wp_skip ?_
            refine p_then ?_
            refine wp_seq ?_
            refine wp_block ?_
            refine wp_seq ?_
            refine wp_region_lit ?_
            refine r_move (.func (.func kk2) (List.toArray fi2) (List.toArray ca2)) hF46 rfl ?_
            refine r_move (.string a0) hF45 rfl ?_
            refine r_move (.int .i64 q38) h44 rfl ?_
            obtain ⟨x48, e49, hf⟩ := bind_some hf
            refine r_index (.string a0) (.int .i64 q38) (.int .u8 (x48.toNat : Int)) rfl rfl rfl rfl (ix_str Go.Proofs.Try.underlying9 e49) ?_
            obtain ⟨r50, e51, hf⟩ := bind_some hf
            refine r_callv [.int .u8 (x48.toNat : Int)] rfl rfl (evs1 rfl) rfl (hk2 s40 hE42 _ _ _ (RpV.mkU8 _ _) e51) ?_
            intro v53 s52 hx54 hr55
            have hE56 := hE42.ext hE42.size hx54
            obtain rfl := RpV.bool hr55
            refine r_un (.bool r50) (.bool (!r50)) rfl rfl u_not ?_
            refine wpList_nil ?_
            refine p_then ?_
            refine if_else hf (fun hc57 hf => ?_) (fun hc57 hf => ?_)
            · refine c_true rfl hc57 rfl ?_
              refine wp_seq ?_
              refine wp_region_lit ?_
              refine r_assign (.bool false) rfl rfl ?_
              refine wpList_nil ?_
              refine p_then ?_
              refine wp_ret ?_
              refine p_br ?_
              refine p_thenr ?_
              obtain rfl := Option.some.inj hf
              exact ⟨rfl, _, _, (.bool false), rfl, rfl, hE56, ⟨rfl, rfl⟩, (RpV.mkBool _ _)⟩
            · refine c_false rfl hc57 rfl ?_
              refine wp_skip ?_
              refine p_bn ?_
              refine p_then ?_
              refine wp_region_lit ?_
              refine r_move (.int .i64 q38) h44 rfl ?_
              refine r_bin (.int .i64 q38) (.int .i64 1) (.int .i64 (w64 (q38 + 1))) rfl rfl rfl rfl (b_add) ?_
              refine r_assign (.int .i64 (w64 (q38 + 1))) rfl rfl ?_
              refine wpList_nil ?_
              obtain rfl := Option.some.inj hf
              exact ⟨rfl, _, _, rfl, rfl, ((((((((((((((hag41).put rfl).put rfl).put rfl).put rfl).put rfl).put rfl).put rfl).put rfl).put rfl).put rfl).put rfl).put rfl).put rfl), hE56, (((Wext.refl _).trans hW43).trans hx54.wext), rfl⟩
          · refine c_false rfl hc47 rfl ?_
            refine wp_exit ?_
            refine p_thenx ?_
            obtain rfl := Option.some.inj hf
            exact ⟨rfl, _, _, rfl, rfl, (((((hag41).put rfl).put rfl).put rfl).put rfl), hE42, ((Wext.refl _).trans hW43), h44⟩
        · exact ⟨_, _, rfl, rfl, (Agr.refl _ _), hE30, (Wext.refl _), hF37⟩
        · intro e a w hp
          rcases o58 with q60 | r
          · replace hf := onEnd_inl hf
            obtain ⟨rfl, F61, s62, rfl, rfl, hag63, hE64, hW65, h66⟩ := hp
            have hF67 : F61 0 = (.string a0) := (hag63 0 rfl).trans hF34
            have hF68 : F61 2 = (.func (.func kk2) (List.toArray fi2) (List.toArray ca2)) := (hag63 2 rfl).trans hF35
            refine p_bx ?_
            refine p_then ?_
            refine wp_seq ?_
            refine wp_region_lit ?_
            refine r_assign (.bool true) rfl rfl ?_
            refine wpList_nil ?_
            refine p_then ?_
            refine wp_ret ?_
            obtain rfl := Option.some.inj hf
            refine ret_one (.bool true) rfl ⟨rfl, rfl⟩ hE64 ?_
            exact (RpV.mkBool _ _)
          · replace hf := onEnd_inr hf
            obtain ⟨rfl, F72, s73, v69, rfl, rfl, hE74, h70, h71⟩ := hp
            refine p_br ?_
            refine p_thenr ?_
            obtain rfl := Option.some.inj hf
            refine ret_one v69 rfl h70 hE74 ?_
            exact h71

def S_ident_isUpper (f : (UInt8 → Option Bool)) : Prop := ∀ (s0 : S) (v0 : Value) (a0 : UInt8) (r : Bool), RpV s0 a0 v0 → f a0 = some r → Ctr Go.Proofs.Try.prog 106 [v0] s0 (fun v τ => RpV τ r v)

set_option maxHeartbeats 1600000 in
set_option maxRecDepth 100000 in
theorem ok_ident_isUpper : S_ident_isUpper ident_isUpper := by
  intro s0 v0 a0 r h0 hf
  obtain rfl := RpV.u8 h0
  unfold ident_isUpper at hf
  have hE0 : ExtB s0.N s0 s0 := ExtB.refl _ _
  refine ctr_of 9 Go.Proofs.Try.func106 rfl rfl rfl rfl ?_
  refine wp_seq ?_
  refine wp_region_lit ?_
  refine r_assign (.bool false) rfl rfl ?_
  refine wpList_nil ?_
  refine p_then ?_
  refine wp_seq ?_
  refine wp_region_lit ?_
  refine r_move (.int .u8 (a0.toNat : Int)) rfl rfl ?_
  refine r_bin (.int .u8 (a0.toNat : Int)) (.int .u8 65) (.bool (decide (65 ≤ (a0.toNat : Int)))) rfl rfl rfl rfl (b_geq) ?_
  refine r_move (.bool (decide (65 ≤ (a0.toNat : Int)))) rfl rfl ?_
  refine if_else hf (fun hc1 hf => ?_) (fun hc1 hf => ?_)
  · refine r_guard (j := 2) (want := true) (d := 5) (c := decide (65 ≤ (a0.toNat : Int))) (v := true) rfl rfl hc1 rfl rfl ?_
    refine r_move (.int .u8 (a0.toNat : Int)) rfl rfl ?_
    refine r_guard (j := 2) (want := true) (d := 5) (c := decide (65 ≤ (a0.toNat : Int))) (v := true) rfl rfl hc1 rfl rfl ?_
    refine r_bin (.int .u8 (a0.toNat : Int)) (.int .u8 90) (.bool (decide ((a0.toNat : Int) ≤ 90))) rfl rfl rfl rfl (b_leq) ?_
    refine r_pick_t (c := decide (65 ≤ (a0.toNat : Int))) (.bool (decide ((a0.toNat : Int) ≤ 90))) rfl hc1 rfl rfl rfl rfl ?_
    refine r_assign (.bool (decide ((a0.toNat : Int) ≤ 90))) rfl rfl ?_
    refine wpList_nil ?_
    refine p_then ?_
    refine wp_ret ?_
    obtain rfl := Option.some.inj hf
    refine ret_one (.bool (decide ((a0.toNat : Int) ≤ 90))) rfl ⟨rfl, rfl⟩ hE0 ?_
    exact (RpV.mkBool _ _)
  · refine r_skip (j := 2) (want := true) (d := 5) (c := decide (65 ≤ (a0.toNat : Int))) (v := false) rfl rfl hc1 rfl rfl ?_
    refine r_skip (j := 2) (want := true) (d := 5) (c := decide (65 ≤ (a0.toNat : Int))) (v := false) rfl rfl hc1 rfl rfl ?_
    refine r_pick_f (c := decide (65 ≤ (a0.toNat : Int))) (.bool false) rfl hc1 rfl rfl rfl rfl ?_
    refine r_assign (.bool false) rfl rfl ?_
    refine wpList_nil ?_
    refine p_then ?_
    refine wp_ret ?_
    obtain rfl := Option.some.inj hf
    refine ret_one (.bool false) rfl ⟨rfl, rfl⟩ hE0 ?_
    exact (RpV.mkBool _ _)

def S_ident_isLower (f : (UInt8 → Option Bool)) : Prop := ∀ (s0 : S) (v0 : Value) (a0 : UInt8) (r : Bool), RpV s0 a0 v0 → f a0 = some r → Ctr Go.Proofs.Try.prog 98 [v0] s0 (fun v τ => RpV τ r v)

set_option maxHeartbeats 1600000 in
set_option maxRecDepth 100000 in
theorem ok_ident_isLower : S_ident_isLower ident_isLower := by
  intro s0 v0 a0 r h0 hf
  obtain rfl := RpV.u8 h0
  unfold ident_isLower at hf
  have hE0 : ExtB s0.N s0 s0 := ExtB.refl _ _
  refine ctr_of 9 Go.Proofs.Try.func98 rfl rfl rfl rfl ?_
  refine wp_seq ?_
  refine wp_region_lit ?_
  refine r_assign (.bool false) rfl rfl ?_
  refine wpList_nil ?_
  refine p_then ?_
  refine wp_seq ?_
  refine wp_region_lit ?_
  refine r_move (.int .u8 (a0.toNat : Int)) rfl rfl ?_
  refine r_bin (.int .u8 (a0.toNat : Int)) (.int .u8 97) (.bool (decide (97 ≤ (a0.toNat : Int)))) rfl rfl rfl rfl (b_geq) ?_
  refine r_move (.bool (decide (97 ≤ (a0.toNat : Int)))) rfl rfl ?_
  refine if_else hf (fun hc1 hf => ?_) (fun hc1 hf => ?_)
  · refine r_guard (j := 2) (want := true) (d := 5) (c := decide (97 ≤ (a0.toNat : Int))) (v := true) rfl rfl hc1 rfl rfl ?_
    refine r_move (.int .u8 (a0.toNat : Int)) rfl rfl ?_
    refine r_guard (j := 2) (want := true) (d := 5) (c := decide (97 ≤ (a0.toNat : Int))) (v := true) rfl rfl hc1 rfl rfl ?_
    refine r_bin (.int .u8 (a0.toNat : Int)) (.int .u8 122) (.bool (decide ((a0.toNat : Int) ≤ 122))) rfl rfl rfl rfl (b_leq) ?_
    refine r_pick_t (c := decide (97 ≤ (a0.toNat : Int))) (.bool (decide ((a0.toNat : Int) ≤ 122))) rfl hc1 rfl rfl rfl rfl ?_
    refine r_assign (.bool (decide ((a0.toNat : Int) ≤ 122))) rfl rfl ?_
    refine wpList_nil ?_
    refine p_then ?_
    refine wp_ret ?_
    obtain rfl := Option.some.inj hf
    refine ret_one (.bool (decide ((a0.toNat : Int) ≤ 122))) rfl ⟨rfl, rfl⟩ hE0 ?_
    exact (RpV.mkBool _ _)
  · refine r_skip (j := 2) (want := true) (d := 5) (c := decide (97 ≤ (a0.toNat : Int))) (v := false) rfl rfl hc1 rfl rfl ?_
    refine r_skip (j := 2) (want := true) (d := 5) (c := decide (97 ≤ (a0.toNat : Int))) (v := false) rfl rfl hc1 rfl rfl ?_
    refine r_pick_f (c := decide (97 ≤ (a0.toNat : Int))) (.bool false) rfl hc1 rfl rfl rfl rfl ?_
    refine r_assign (.bool false) rfl rfl ?_
    refine wpList_nil ?_
    refine p_then ?_
    refine wp_ret ?_
    obtain rfl := Option.some.inj hf
    refine ret_one (.bool false) rfl ⟨rfl, rfl⟩ hE0 ?_
    exact (RpV.mkBool _ _)

def S_ident_isDigit (f : (UInt8 → Option Bool)) : Prop := ∀ (s0 : S) (v0 : Value) (a0 : UInt8) (r : Bool), RpV s0 a0 v0 → f a0 = some r → Ctr Go.Proofs.Try.prog 100 [v0] s0 (fun v τ => RpV τ r v)

set_option maxHeartbeats 1600000 in
set_option maxRecDepth 100000 in
theorem ok_ident_isDigit : S_ident_isDigit ident_isDigit := by
  intro s0 v0 a0 r h0 hf
  obtain rfl := RpV.u8 h0
  unfold ident_isDigit at hf
  have hE0 : ExtB s0.N s0 s0 := ExtB.refl _ _
  refine ctr_of 9 Go.Proofs.Try.func100 rfl rfl rfl rfl ?_
  refine wp_seq ?_
  refine wp_region_lit ?_
  refine r_assign (.bool false) rfl rfl ?_
  refine wpList_nil ?_
  refine p_then ?_
  refine wp_seq ?_
  refine wp_region_lit ?_
  refine r_move (.int .u8 (a0.toNat : Int)) rfl rfl ?_
  refine r_bin (.int .u8 (a0.toNat : Int)) (.int .u8 48) (.bool (decide (48 ≤ (a0.toNat : Int)))) rfl rfl rfl rfl (b_geq) ?_
  refine r_move (.bool (decide (48 ≤ (a0.toNat : Int)))) rfl rfl ?_
  refine if_else hf (fun hc1 hf => ?_) (fun hc1 hf => ?_)
  · refine r_guard (j := 2) (want := true) (d := 5) (c := decide (48 ≤ (a0.toNat : Int))) (v := true) rfl rfl hc1 rfl rfl ?_
    refine r_move (.int .u8 (a0.toNat : Int)) rfl rfl ?_
    refine r_guard (j := 2) (want := true) (d := 5) (c := decide (48 ≤ (a0.toNat : Int))) (v := true) rfl rfl hc1 rfl rfl ?_
    refine r_bin (.int .u8 (a0.toNat : Int)) (.int .u8 57) (.bool (decide ((a0.toNat : Int) ≤ 57))) rfl rfl rfl rfl (b_leq) ?_
    refine r_pick_t (c := decide (48 ≤ (a0.toNat : Int))) (.bool (decide ((a0.toNat : Int) ≤ 57))) rfl hc1 rfl rfl rfl rfl ?_
    refine r_assign (.bool (decide ((a0.toNat : Int) ≤ 57))) rfl rfl ?_
    refine wpList_nil ?_
    refine p_then ?_
    refine wp_ret ?_
    obtain rfl := Option.some.inj hf
    refine ret_one (.bool (decide ((a0.toNat : Int) ≤ 57))) rfl ⟨rfl, rfl⟩ hE0 ?_
    exact (RpV.mkBool _ _)
  · refine r_skip (j := 2) (want := true) (d := 5) (c := decide (48 ≤ (a0.toNat : Int))) (v := false) rfl rfl hc1 rfl rfl ?_
    refine r_skip (j := 2) (want := true) (d := 5) (c := decide (48 ≤ (a0.toNat : Int))) (v := false) rfl rfl hc1 rfl rfl ?_
    refine r_pick_f (c := decide (48 ≤ (a0.toNat : Int))) (.bool false) rfl hc1 rfl rfl rfl rfl ?_
    refine r_assign (.bool false) rfl rfl ?_
    refine wpList_nil ?_
    refine p_then ?_
    refine wp_ret ?_
    obtain rfl := Option.some.inj hf
    refine ret_one (.bool false) rfl ⟨rfl, rfl⟩ hE0 ?_
    exact (RpV.mkBool _ _)

def S_ident_IsVariable_1 (f : (UInt8 → Option Bool)) : Prop := ∀ (s0 : S) (v0 : Value) (a0 : UInt8) (r : Bool), RpV s0 a0 v0 → f a0 = some r → Ctr Go.Proofs.Try.prog 107 [v0] s0 (fun v τ => RpV τ r v)

set_option maxHeartbeats 1600000 in
set_option maxRecDepth 100000 in
theorem ok_ident_IsVariable_1 : S_ident_IsVariable_1 ident_IsVariable_1 := by
  intro s0 v0 a0 r h0 hf
  obtain rfl := RpV.u8 h0
  unfold ident_IsVariable_1 at hf
  have hE0 : ExtB s0.N s0 s0 := ExtB.refl _ _
  refine ctr_of 17 Go.Proofs.Try.func107 rfl rfl rfl rfl ?_
  refine wp_seq ?_
  refine wp_region_lit ?_
  refine r_assign (.bool false) rfl rfl ?_
  refine wpList_nil ?_
  refine p_then ?_
  refine wp_seq ?_
  refine wp_region_lit ?_
  refine r_move (.int .u8 (a0.toNat : Int)) rfl rfl ?_
  obtain ⟨r1, e2, hf⟩ := bind_some hf
  refine r_call [.int .u8 (a0.toNat : Int)] (evs1 rfl) rfl (ok_ident_isLower _ _ _ _ (RpV.mkU8 _ _) e2) ?_
  intro v4 s3 hx5 hr6
  have hE7 := hE0.ext hE0.size hx5
  obtain rfl := RpV.bool hr6
  refine r_move (.bool r1) rfl rfl ?_
  refine gen_FL fun F8 hg9 => ?_
  have hF10 : F8 0 = (.int .u8 (a0.toNat : Int)) := (hg9 0).trans rfl
  have hF11 : F8 2 = (.bool false) := (hg9 2).trans rfl
  have hF12 : F8 5 = (.bool r1) := (hg9 5).trans rfl
  obtain ⟨q13, hq14, hf⟩ := bind_some hf
  refine wpl_take 3 (J := fun a w => ∃ (F : Fr) (τ : S), a = fr 17 F ∧ w = τ.w ∧ Agr [6, 7, 8] F F8 ∧ ExtB s0.N s0 τ ∧ Wext s3 τ ∧ F 8 = (.bool q13)) ?_ ?_
  · have hf := hq14
    refine if_else hf (fun hc15 hf => ?_) (fun hc15 hf => ?_)
    · refine r_skip (j := 2) (want := false) (d := 5) (c := r1) (v := true) rfl hF12 hc15 rfl rfl ?_
      refine r_skip (j := 2) (want := false) (d := 5) (c := r1) (v := true) rfl hF12 hc15 rfl rfl ?_
      refine r_pick_t (c := r1) (.bool true) hF12 hc15 rfl rfl rfl rfl ?_
      refine wpList_nil ?_
      obtain rfl := Option.some.inj hf
      exact ⟨rfl, _, _, rfl, rfl, ((((Agr.refl _ _).put rfl).put rfl).put rfl), hE7, (Wext.refl _), rfl⟩
    · refine r_guard (j := 2) (want := false) (d := 5) (c := r1) (v := false) rfl hF12 hc15 rfl rfl ?_
      refine r_move (.int .u8 (a0.toNat : Int)) hF10 rfl ?_
      refine r_guard (j := 2) (want := false) (d := 5) (c := r1) (v := false) rfl hF12 hc15 rfl rfl ?_
      obtain ⟨r16, e17, hf⟩ := bind_some hf
      refine r_call [.int .u8 (a0.toNat : Int)] (evs1 rfl) rfl (ok_ident_isUpper _ _ _ _ (RpV.mkU8 _ _) e17) ?_
      intro v19 s18 hx20 hr21
      have hE22 := hE7.ext hE7.size hx20
      obtain rfl := RpV.bool hr21
      refine r_pick_f (c := r1) (.bool r16) hF12 hc15 rfl rfl rfl rfl ?_
      refine wpList_nil ?_
      obtain rfl := Option.some.inj hf
      exact ⟨rfl, _, _, rfl, rfl, ((((Agr.refl _ _).put rfl).put rfl).put rfl), hE22, ((Wext.refl _).trans hx20.wext), rfl⟩
  · rintro a w ⟨F23, s24, rfl, rfl, hag25, hE26, hW27, h28⟩
    have hF29 : F23 0 = (.int .u8 (a0.toNat : Int)) := (hag25 0 rfl).trans hF10
    have hF30 : F23 2 = (.bool false) := (hag25 2 rfl).trans hF11
    refine r_move (.bool q13) h28 rfl ?_
    refine gen_FL fun F31 hg32 => ?_
    have hF33 : F31 0 = (.int .u8 (a0.toNat : Int)) := (hg32 0).trans hF29
    have hF34 : F31 2 = (.bool false) := (hg32 2).trans hF30
    have hF35 : F31 9 = (.bool q13) := (hg32 9).trans rfl
    obtain ⟨q36, hq37, hf⟩ := bind_some hf
    refine wpl_take 3 (J := fun a w => ∃ (F : Fr) (τ : S), a = fr 17 F ∧ w = τ.w ∧ Agr [10, 11, 12] F F31 ∧ ExtB s0.N s0 τ ∧ Wext s24 τ ∧ F 12 = (.bool q36)) ?_ ?_
    · have hf := hq37
      refine if_else hf (fun hc38 hf => ?_) (fun hc38 hf => ?_)
      · refine r_skip (j := 6) (want := false) (d := 9) (c := q13) (v := true) rfl hF35 hc38 rfl rfl ?_
        refine r_skip (j := 6) (want := false) (d := 9) (c := q13) (v := true) rfl hF35 hc38 rfl rfl ?_
        refine r_pick_t (c := q13) (.bool true) hF35 hc38 rfl rfl rfl rfl ?_
        refine wpList_nil ?_
        obtain rfl := Option.some.inj hf
        exact ⟨rfl, _, _, rfl, rfl, ((((Agr.refl _ _).put rfl).put rfl).put rfl), hE26, (Wext.refl _), rfl⟩
      · refine r_guard (j := 6) (want := false) (d := 9) (c := q13) (v := false) rfl hF35 hc38 rfl rfl ?_
        refine r_move (.int .u8 (a0.toNat : Int)) hF33 rfl ?_
        refine r_guard (j := 6) (want := false) (d := 9) (c := q13) (v := false) rfl hF35 hc38 rfl rfl ?_
        obtain ⟨r39, e40, hf⟩ := bind_some hf
        refine r_call [.int .u8 (a0.toNat : Int)] (evs1 rfl) rfl (ok_ident_isDigit _ _ _ _ (RpV.mkU8 _ _) e40) ?_
        intro v42 s41 hx43 hr44
        have hE45 := hE26.ext hE26.size hx43
        obtain rfl := RpV.bool hr44
        refine r_pick_f (c := q13) (.bool r39) hF35 hc38 rfl rfl rfl rfl ?_
        refine wpList_nil ?_
        obtain rfl := Option.some.inj hf
        exact ⟨rfl, _, _, rfl, rfl, ((((Agr.refl _ _).put rfl).put rfl).put rfl), hE45, ((Wext.refl _).trans hx43.wext), rfl⟩
    · rintro a w ⟨F46, s47, rfl, rfl, hag48, hE49, hW50, h51⟩
      have hF52 : F46 0 = (.int .u8 (a0.toNat : Int)) := (hag48 0 rfl).trans hF33
      have hF53 : F46 2 = (.bool false) := (hag48 2 rfl).trans hF34
      refine r_move (.bool q36) h51 rfl ?_
      refine if_else hf (fun hc54 hf => ?_) (fun hc54 hf => ?_)
      · refine r_skip (j := 10) (want := false) (d := 13) (c := q36) (v := true) rfl rfl hc54 rfl rfl ?_
        refine r_skip (j := 10) (want := false) (d := 13) (c := q36) (v := true) rfl rfl hc54 rfl rfl ?_
        refine r_pick_t (c := q36) (.bool true) rfl hc54 rfl rfl rfl rfl ?_
        refine r_assign (.bool true) rfl rfl ?_
        refine wpList_nil ?_
        refine p_then ?_
        refine wp_ret ?_
        obtain rfl := Option.some.inj hf
        refine ret_one (.bool true) rfl ⟨rfl, rfl⟩ hE49 ?_
        exact (RpV.mkBool _ _)
      · refine r_guard (j := 10) (want := false) (d := 13) (c := q36) (v := false) rfl rfl hc54 rfl rfl ?_
        refine r_move (.int .u8 (a0.toNat : Int)) hF52 rfl ?_
        refine r_guard (j := 10) (want := false) (d := 13) (c := q36) (v := false) rfl rfl hc54 rfl rfl ?_
        refine r_bin (.int .u8 (a0.toNat : Int)) (.int .u8 95) (.bool ((a0.toNat : Int) == 95)) rfl rfl rfl rfl (b_eql) ?_
        refine r_pick_f (c := q36) (.bool ((a0.toNat : Int) == 95)) rfl hc54 rfl rfl rfl rfl ?_
        refine r_assign (.bool ((a0.toNat : Int) == 95)) rfl rfl ?_
        refine wpList_nil ?_
        refine p_then ?_
        refine wp_ret ?_
        obtain rfl := Option.some.inj hf
        refine ret_one (.bool ((a0.toNat : Int) == 95)) rfl ⟨rfl, rfl⟩ hE49 ?_
        exact (RpV.mkBool _ _)

def S_ident_IsVariable (f : (ByteArray → Option Bool)) : Prop := ∀ (s0 : S) (v0 : Value) (a0 : ByteArray) (r : Bool), RpV s0 a0 v0 → f a0 = some r → Ctr Go.Proofs.Try.prog 96 [v0] s0 (fun v τ => RpV τ r v)

set_option maxHeartbeats 1600000 in
set_option maxRecDepth 100000 in
theorem ok_ident_IsVariable : S_ident_IsVariable ident_IsVariable := by
  intro s0 v0 a0 r h0 hf
  obtain rfl := RpV.str h0
  unfold ident_IsVariable at hf
  have hE0 : ExtB s0.N s0 s0 := ExtB.refl _ _
  refine ctr_of 5 Go.Proofs.Try.func96 rfl rfl rfl rfl ?_
  refine wp_seq ?_
  refine wp_region_lit ?_
  refine r_assign (.bool false) rfl rfl ?_
  refine wpList_nil ?_
  refine p_then ?_
  refine wp_seq ?_
  refine wp_region_lit ?_
  refine r_move (.string a0) rfl rfl ?_
  obtain ⟨r1, e2, hf⟩ := bind_some hf
  refine r_call [.string a0, .func (.func 106) #[] #[], .func (.func 107) #[] #[]] (evs3 rfl rfl rfl) rfl (ok_ident_isName _ _ _ _ _ _ _ _ (RpV.mkStr _ _) ⟨106, [], [], rfl, fun _ _ _ _ _ h1 h => (ok_ident_isUpper _ _ _ _ h1 h)⟩ ⟨107, [], [], rfl, fun _ _ _ _ _ h1 h => (ok_ident_IsVariable_1 _ _ _ _ h1 h)⟩ e2) ?_
  intro v4 s3 hx5 hr6
  have hE7 := hE0.ext hE0.size hx5
  obtain rfl := RpV.bool hr6
  refine r_assign (.bool r1) rfl rfl ?_
  refine wpList_nil ?_
  refine p_then ?_
  refine wp_ret ?_
  obtain rfl := Option.some.inj hf
  refine ret_one (.bool r1) rfl ⟨rfl, rfl⟩ hE7 ?_
  exact (RpV.mkBool _ _)

def S_value_validLabels (f : ((List ByteArray) → Option Bool)) : Prop := ∀ (s0 : S) (v0 : Value) (a0 : (List ByteArray)) (r : Bool), RpV s0 a0 v0 → f a0 = some r → Ctr Go.Proofs.Try.prog 81 [v0] s0 (fun v τ => RpV τ r v)

set_option maxHeartbeats 1600000 in
set_option maxRecDepth 100000 in
theorem ok_value_validLabels : S_value_validLabels value_validLabels := by
  intro s0 v0 a0 r h0 hf
  obtain ⟨A1, c2, rfl, h3⟩ := RpV.list h0
  unfold value_validLabels at hf
  have hE0 : ExtB s0.N s0 s0 := ExtB.refl _ _
  refine ctr_of 18 Go.Proofs.Try.func81 rfl rfl rfl rfl ?_
  refine wp_seq ?_
  refine wp_region_lit ?_
  refine r_assign (.bool false) rfl rfl ?_
  refine wpList_nil ?_
  refine p_then ?_
  refine wp_seq ?_
  refine wp_seq ?_
  refine wp_region_lit ?_
  refine r_move (.slice A1 a0.length c2) rfl rfl ?_
  obtain ⟨r4, e5, hf⟩ := bind_some hf
  refine r_call [.slice A1 a0.length c2, .func (.func 39) #[] #[]] (evs2 rfl rfl) rfl (ok_value_ascending_string _ _ _ _ _ _ (RpV.mkList h3) ⟨39, [], [], rfl, fun _ _ _ _ _ _ _ h1 h2 h => (ok_strings_Compare _ _ _ _ _ _ h1 h2 h)⟩ e5) ?_
  intro v7 s6 hx8 hr9
  have hE10 := hE0.ext hE0.size hx8
  obtain rfl := RpV.bool hr9
  refine r_un (.bool r4) (.bool (!r4)) rfl rfl u_not ?_
  refine wpList_nil ?_
  refine p_then ?_
  refine if_else hf (fun hc11 hf => ?_) (fun hc11 hf => ?_)
  · refine c_true rfl hc11 rfl ?_
    refine wp_seq ?_
    refine wp_region_lit ?_
    refine r_assign (.bool false) rfl rfl ?_
    refine wpList_nil ?_
    refine p_then ?_
    refine wp_ret ?_
    refine p_thenr ?_
    obtain rfl := Option.some.inj hf
    refine ret_one (.bool false) rfl ⟨rfl, rfl⟩ hE10 ?_
    exact (RpV.mkBool _ _)
  · refine c_false rfl hc11 rfl ?_
    refine wp_skip ?_
    refine p_then ?_
    refine wp_seq ?_
    refine wp_seq ?_
    refine wp_region_lit ?_
    refine r_move (.slice A1 a0.length c2) rfl rfl ?_
    refine r_len A1 a0.length c2 rfl rfl Go.Proofs.Try.underlying25 ?_
    refine r_move (.int .i64 0) rfl rfl ?_
    refine wpList_nil ?_
    refine p_then ?_
    refine wp_block ?_
    refine gen_F fun F12 hg13 => ?_
    have hF14 : F12 2 = (.bool false) := (hg13 2).trans rfl
    have hF15 : F12 8 = (.slice A1 a0.length c2) := (hg13 8).trans rfl
    have hF16 : F12 9 = (.int .i64 (a0.length : Int)) := (hg13 9).trans rfl
    have hF17 : F12 10 = (.int .i64 0) := (hg13 10).trans rfl
    obtain ⟨o43, ho44, hf⟩ := bind_some hf
    refine wp_mono (wp_iter (step := value_validLabels_l1 a0) (fun q a w => ∃ (F : Fr) (τ : S), a = fr 18 F ∧ w = τ.w ∧ Agr [2, 4, 10, 11, 12, 13, 14, 15, 16, 17] F F12 ∧ ExtB s0.N s0 τ ∧ Wext s6 τ ∧ F 10 = (.int .i64 q)) (fun o e a w => match o with | .inl q => e = .exit 0 ∧ ∃ (F : Fr) (τ : S), a = fr 18 F ∧ w = τ.w ∧ Agr [2, 4, 10, 11, 12, 13, 14, 15, 16, 17] F F12 ∧ ExtB s0.N s0 τ ∧ Wext s6 τ ∧ F 10 = (.int .i64 q) | .inr r => e = .ret ∧ ∃ (F : Fr) (τ : S) (va : Value), a = fr 18 F ∧ w = τ.w ∧ ExtB s0.N s0 τ ∧ ResV Go.Proofs.Try.prog 18 F τ.w (.tmp 2) va ∧ RpV τ r va) (by rintro (_ | _) a w ⟨h, _⟩ <;> cases h) ?_ _ _ _ _ _ ho44 ?_) ?_
    · intro q18 fl a w hf hI
      obtain ⟨F19, s20, rfl, rfl, hag21, hE22, hW23, h24⟩ := hI
      unfold value_validLabels_l1 at hf
      have hF25 : F19 8 = (.slice A1 a0.length c2) := (hag21 8 rfl).trans hF15
      have hF26 : F19 9 = (.int .i64 (a0.length : Int)) := (hag21 9 rfl).trans hF16
      refine wp_seq ?_
      refine wp_region_lit ?_
      refine r_bin (.int .i64 q18) (.int .i64 (a0.length : Int)) (.bool (decide (q18 < (a0.length : Int)))) h24 hF26 rfl rfl (b_lss) ?_
      refine wpList_nil ?_
      refine p_then ?_
      refine wp_seq ?_
      refine if_else hf (fun hc27 hf => ?_) (fun hc27 hf => ?_)
      · refine c_true rfl hc27 rfl ?_
        refine wp_skip ?_
        refine p_then ?_
        refine wp_seq ?_
        refine wp_block ?_
        refine wp_seq ?_
        refine wp_region_lit ?_
        obtain ⟨x28, e29, hf⟩ := bind_some hf
        refine r_indexAddr (T := 25) (E := 9) ((h3.mono hx8.wext).mono hW23) e29 hF25 h24 rfl rfl Go.Proofs.Try.underlying25 sz9 ?_
        intro b30 o31 cs32 hc33 hs34
        obtain rfl := hc33
        refine r_load b30 o31 (.string x28) rfl rfl (loads_one to9 (hs34.2 0 _ rfl)) ?_
        refine r_assign (.string x28) rfl rfl ?_
        refine wpList_nil ?_
        refine p_then ?_
        refine wp_seq ?_
        refine wp_region_lit ?_
        refine r_move (.string x28) rfl rfl ?_
        obtain ⟨r35, e36, hf⟩ := bind_some hf
        refine r_call [.string x28] (evs1 rfl) rfl (ok_ident_IsVariable _ _ _ _ (RpV.mkStr _ _) e36) ?_
        intro v38 s37 hx39 hr40
        have hE41 := hE22.ext hE22.size hx39
        obtain rfl := RpV.bool hr40
        refine r_un (.bool r35) (.bool (!r35)) rfl rfl u_not ?_
        refine wpList_nil ?_
        refine p_then ?_
        refine if_else hf (fun hc42 hf => ?_) (fun hc42 hf => ?_)
        · refine c_true rfl hc42 rfl ?_
          refine wp_seq ?_
          refine wp_region_lit ?_
          refine r_assign (.bool false) rfl rfl ?_
          refine wpList_nil ?_
          refine p_then ?_
          refine wp_ret ?_
          refine p_br ?_
          refine p_thenr ?_
          obtain rfl := Option.some.inj hf
          exact ⟨rfl, _, _, (.bool false), rfl, rfl, hE41, ⟨rfl, rfl⟩, (RpV.mkBool _ _)⟩
        · refine c_false rfl hc42 rfl ?_
          refine wp_skip ?_
          refine p_bn ?_
          refine p_then ?_
          refine wp_region_lit ?_
          refine r_bin (.int .i64 q18) (.int .i64 1) (.int .i64 (w64 (q18 + 1))) h24 rfl rfl rfl (b_add) ?_
          refine r_move (.int .i64 (w64 (q18 + 1))) rfl rfl ?_
          refine wpList_nil ?_
          obtain rfl := Option.some.inj hf
          exact ⟨rfl, _, _, rfl, rfl, ((((((((((hag21).put rfl).put rfl).put rfl).put rfl).put rfl).put rfl).put rfl).put rfl).put rfl), hE41, (((Wext.refl _).trans hW23).trans hx39.wext), rfl⟩
      · refine c_false rfl hc27 rfl ?_
        refine wp_exit ?_
        refine p_thenx ?_
        obtain rfl := Option.some.inj hf
        exact ⟨rfl, _, _, rfl, rfl, ((hag21).put rfl), hE22, ((Wext.refl _).trans hW23), h24⟩
    · exact ⟨_, _, rfl, rfl, (Agr.refl _ _), hE10, (Wext.refl _), hF17⟩
    · intro e a w hp
      rcases o43 with q45 | r
      · replace hf := onEnd_inl hf
        obtain ⟨rfl, F46, s47, rfl, rfl, hag48, hE49, hW50, h51⟩ := hp
        have hF52 : F46 8 = (.slice A1 a0.length c2) := (hag48 8 rfl).trans hF15
        have hF53 : F46 9 = (.int .i64 (a0.length : Int)) := (hag48 9 rfl).trans hF16
        refine p_bx ?_
        refine p_then ?_
        refine wp_seq ?_
        refine wp_region_lit ?_
        refine r_assign (.bool true) rfl rfl ?_
        refine wpList_nil ?_
        refine p_then ?_
        refine wp_ret ?_
        obtain rfl := Option.some.inj hf
        refine ret_one (.bool true) rfl ⟨rfl, rfl⟩ hE49 ?_
        exact (RpV.mkBool _ _)
      · replace hf := onEnd_inr hf
        obtain ⟨rfl, F57, s58, v54, rfl, rfl, hE59, h55, h56⟩ := hp
        refine p_br ?_
        refine p_thenr ?_
        obtain rfl := Option.some.inj hf
        refine ret_one v54 rfl h55 hE59 ?_
        exact h56

def S_ident_IsAtom_1 (f : (UInt8 → Option Bool)) : Prop := ∀ (s0 : S) (v0 : Value) (a0 : UInt8) (r : Bool), RpV s0 a0 v0 → f a0 = some r → Ctr Go.Proofs.Try.prog 99 [v0] s0 (fun v τ => RpV τ r v)

set_option maxHeartbeats 1600000 in
set_option maxRecDepth 100000 in
theorem ok_ident_IsAtom_1 : S_ident_IsAtom_1 ident_IsAtom_1 := by
  intro s0 v0 a0 r h0 hf
  obtain rfl := RpV.u8 h0
  unfold ident_IsAtom_1 at hf
  have hE0 : ExtB s0.N s0 s0 := ExtB.refl _ _
  refine ctr_of 13 Go.Proofs.Try.func99 rfl rfl rfl rfl ?_
  refine wp_seq ?_
  refine wp_region_lit ?_
  refine r_assign (.bool false) rfl rfl ?_
  refine wpList_nil ?_
  refine p_then ?_
  refine wp_seq ?_
  refine wp_region_lit ?_
  refine r_move (.int .u8 (a0.toNat : Int)) rfl rfl ?_
  obtain ⟨r1, e2, hf⟩ := bind_some hf
  refine r_call [.int .u8 (a0.toNat : Int)] (evs1 rfl) rfl (ok_ident_isLower _ _ _ _ (RpV.mkU8 _ _) e2) ?_
  intro v4 s3 hx5 hr6
  have hE7 := hE0.ext hE0.size hx5
  obtain rfl := RpV.bool hr6
  refine r_move (.bool r1) rfl rfl ?_
  refine gen_FL fun F8 hg9 => ?_
  have hF10 : F8 0 = (.int .u8 (a0.toNat : Int)) := (hg9 0).trans rfl
  have hF11 : F8 2 = (.bool false) := (hg9 2).trans rfl
  have hF12 : F8 5 = (.bool r1) := (hg9 5).trans rfl
  obtain ⟨q13, hq14, hf⟩ := bind_some hf
  refine wpl_take 3 (J := fun a w => ∃ (F : Fr) (τ : S), a = fr 13 F ∧ w = τ.w ∧ Agr [6, 7, 8] F F8 ∧ ExtB s0.N s0 τ ∧ Wext s3 τ ∧ F 8 = (.bool q13)) ?_ ?_
  · have hf := hq14
    refine if_else hf (fun hc15 hf => ?_) (fun hc15 hf => ?_)
    · refine r_skip (j := 2) (want := false) (d := 5) (c := r1) (v := true) rfl hF12 hc15 rfl rfl ?_
      refine r_skip (j := 2) (want := false) (d := 5) (c := r1) (v := true) rfl hF12 hc15 rfl rfl ?_
      refine r_pick_t (c := r1) (.bool true) hF12 hc15 rfl rfl rfl rfl ?_
      refine wpList_nil ?_
      obtain rfl := Option.some.inj hf
      exact ⟨rfl, _, _, rfl, rfl, ((((Agr.refl _ _).put rfl).put rfl).put rfl), hE7, (Wext.refl _), rfl⟩
    · refine r_guard (j := 2) (want := false) (d := 5) (c := r1) (v := false) rfl hF12 hc15 rfl rfl ?_
      refine r_move (.int .u8 (a0.toNat : Int)) hF10 rfl ?_
      refine r_guard (j := 2) (want := false) (d := 5) (c := r1) (v := false) rfl hF12 hc15 rfl rfl ?_
      obtain ⟨r16, e17, hf⟩ := bind_some hf
      refine r_call [.int .u8 (a0.toNat : Int)] (evs1 rfl) rfl (ok_ident_isDigit _ _ _ _ (RpV.mkU8 _ _) e17) ?_
      intro v19 s18 hx20 hr21
      have hE22 := hE7.ext hE7.size hx20
      obtain rfl := RpV.bool hr21
      refine r_pick_f (c := r1) (.bool r16) hF12 hc15 rfl rfl rfl rfl ?_
      refine wpList_nil ?_
      obtain rfl := Option.some.inj hf
      exact ⟨rfl, _, _, rfl, rfl, ((((Agr.refl _ _).put rfl).put rfl).put rfl), hE22, ((Wext.refl _).trans hx20.wext), rfl⟩
  · rintro a w ⟨F23, s24, rfl, rfl, hag25, hE26, hW27, h28⟩
    have hF29 : F23 0 = (.int .u8 (a0.toNat : Int)) := (hag25 0 rfl).trans hF10
    have hF30 : F23 2 = (.bool false) := (hag25 2 rfl).trans hF11
    refine r_move (.bool q13) h28 rfl ?_
    refine if_else hf (fun hc31 hf => ?_) (fun hc31 hf => ?_)
    · refine r_skip (j := 6) (want := false) (d := 9) (c := q13) (v := true) rfl rfl hc31 rfl rfl ?_
      refine r_skip (j := 6) (want := false) (d := 9) (c := q13) (v := true) rfl rfl hc31 rfl rfl ?_
      refine r_pick_t (c := q13) (.bool true) rfl hc31 rfl rfl rfl rfl ?_
      refine r_assign (.bool true) rfl rfl ?_
      refine wpList_nil ?_
      refine p_then ?_
      refine wp_ret ?_
      obtain rfl := Option.some.inj hf
      refine ret_one (.bool true) rfl ⟨rfl, rfl⟩ hE26 ?_
      exact (RpV.mkBool _ _)
    · refine r_guard (j := 6) (want := false) (d := 9) (c := q13) (v := false) rfl rfl hc31 rfl rfl ?_
      refine r_move (.int .u8 (a0.toNat : Int)) hF29 rfl ?_
      refine r_guard (j := 6) (want := false) (d := 9) (c := q13) (v := false) rfl rfl hc31 rfl rfl ?_
      refine r_bin (.int .u8 (a0.toNat : Int)) (.int .u8 95) (.bool ((a0.toNat : Int) == 95)) rfl rfl rfl rfl (b_eql) ?_
      refine r_pick_f (c := q13) (.bool ((a0.toNat : Int) == 95)) rfl hc31 rfl rfl rfl rfl ?_
      refine r_assign (.bool ((a0.toNat : Int) == 95)) rfl rfl ?_
      refine wpList_nil ?_
      refine p_then ?_
      refine wp_ret ?_
      obtain rfl := Option.some.inj hf
      refine ret_one (.bool ((a0.toNat : Int) == 95)) rfl ⟨rfl, rfl⟩ hE26 ?_
      exact (RpV.mkBool _ _)

def S_ident_IsAtom (f : (ByteArray → Option Bool)) : Prop := ∀ (s0 : S) (v0 : Value) (a0 : ByteArray) (r : Bool), RpV s0 a0 v0 → f a0 = some r → Ctr Go.Proofs.Try.prog 82 [v0] s0 (fun v τ => RpV τ r v)

set_option maxHeartbeats 1600000 in
set_option maxRecDepth 100000 in
theorem ok_ident_IsAtom : S_ident_IsAtom ident_IsAtom := by
  intro s0 v0 a0 r h0 hf
  obtain rfl := RpV.str h0
  unfold ident_IsAtom at hf
  have hE0 : ExtB s0.N s0 s0 := ExtB.refl _ _
  refine ctr_of 5 Go.Proofs.Try.func82 rfl rfl rfl rfl ?_
  refine wp_seq ?_
  refine wp_region_lit ?_
  refine r_assign (.bool false) rfl rfl ?_
  refine wpList_nil ?_
  refine p_then ?_
  refine wp_seq ?_
  refine wp_region_lit ?_
  refine r_move (.string a0) rfl rfl ?_
  obtain ⟨r1, e2, hf⟩ := bind_some hf
  refine r_call [.string a0, .func (.func 98) #[] #[], .func (.func 99) #[] #[]] (evs3 rfl rfl rfl) rfl (ok_ident_isName _ _ _ _ _ _ _ _ (RpV.mkStr _ _) ⟨98, [], [], rfl, fun _ _ _ _ _ h1 h => (ok_ident_isLower _ _ _ _ h1 h)⟩ ⟨99, [], [], rfl, fun _ _ _ _ _ h1 h => (ok_ident_IsAtom_1 _ _ _ _ h1 h)⟩ e2) ?_
  intro v4 s3 hx5 hr6
  have hE7 := hE0.ext hE0.size hx5
  obtain rfl := RpV.bool hr6
  refine r_assign (.bool r1) rfl rfl ?_
  refine wpList_nil ?_
  refine p_then ?_
  refine wp_ret ?_
  obtain rfl := Option.some.inj hf
  refine ret_one (.bool r1) rfl ⟨rfl, rfl⟩ hE7 ?_
  exact (RpV.mkBool _ _)

def S_cmp_isNaN_int (f : (Int → Option Bool)) : Prop := ∀ (s0 : S) (v0 : Value) (a0 : Int) (r : Bool), RpV s0 a0 v0 → f a0 = some r → Ctr Go.Proofs.Try.prog 63 [v0] s0 (fun v τ => RpV τ r v)

set_option maxHeartbeats 1600000 in
set_option maxRecDepth 100000 in
theorem ok_cmp_isNaN_int : S_cmp_isNaN_int cmp_isNaN_int := by
  intro s0 v0 a0 r h0 hf
  obtain rfl := RpV.int h0
  unfold cmp_isNaN_int at hf
  have hE0 : ExtB s0.N s0 s0 := ExtB.refl _ _
  refine ctr_of 6 Go.Proofs.Try.func63 rfl rfl rfl rfl ?_
  refine wp_seq ?_
  refine wp_region_lit ?_
  refine r_assign (.bool false) rfl rfl ?_
  refine wpList_nil ?_
  refine p_then ?_
  refine wp_seq ?_
  refine wp_region_lit ?_
  refine r_move (.int .i64 a0) rfl rfl ?_
  refine r_move (.int .i64 a0) rfl rfl ?_
  refine r_bin (.int .i64 a0) (.int .i64 a0) (.bool (a0 != a0)) rfl rfl rfl rfl (b_neq) ?_
  refine r_assign (.bool (a0 != a0)) rfl rfl ?_
  refine wpList_nil ?_
  refine p_then ?_
  refine wp_ret ?_
  obtain rfl := Option.some.inj hf
  refine ret_one (.bool (a0 != a0)) rfl ⟨rfl, rfl⟩ hE0 ?_
  exact (RpV.mkBool _ _)

def S_cmp_Compare_int (f : (Int → Int → Option Int)) : Prop := ∀ (s0 : S) (v0 : Value) (v1 : Value) (a0 : Int) (a1 : Int) (r : Int), RpV s0 a0 v0 → RpV s0 a1 v1 → f a0 a1 = some r → Ctr Go.Proofs.Try.prog 37 [v0, v1] s0 (fun v τ => RpV τ r v)

set_option maxHeartbeats 1600000 in
set_option maxRecDepth 100000 in
theorem ok_cmp_Compare_int : S_cmp_Compare_int cmp_Compare_int := by
  intro s0 v0 v1 a0 a1 r h0 h1 hf
  obtain rfl := RpV.int h0
  obtain rfl := RpV.int h1
  unfold cmp_Compare_int at hf
  have hE0 : ExtB s0.N s0 s0 := ExtB.refl _ _
  refine ctr_of 20 Go.Proofs.Try.func37 rfl rfl rfl rfl ?_
  refine wp_seq ?_
  refine wp_region_lit ?_
  refine r_assign (.int .i64 0) rfl rfl ?_
  refine wpList_nil ?_
  refine p_then ?_
  refine wp_seq ?_
  refine wp_region_lit ?_
  refine r_move (.int .i64 a0) rfl rfl ?_
  obtain ⟨r1, e2, hf⟩ := bind_some hf
  refine r_call [.int .i64 a0] (evs1 rfl) rfl (ok_cmp_isNaN_int _ _ _ _ (RpV.mkInt _ _) e2) ?_
  intro v4 s3 hx5 hr6
  have hE7 := hE0.ext hE0.size hx5
  obtain rfl := RpV.bool hr6
  refine r_assign (.bool r1) rfl rfl ?_
  refine wpList_nil ?_
  refine p_then ?_
  refine wp_seq ?_
  refine wp_region_lit ?_
  refine r_move (.int .i64 a1) rfl rfl ?_
  obtain ⟨r8, e9, hf⟩ := bind_some hf
  refine r_call [.int .i64 a1] (evs1 rfl) rfl (ok_cmp_isNaN_int _ _ _ _ (RpV.mkInt _ _) e9) ?_
  intro v11 s10 hx12 hr13
  have hE14 := hE7.ext hE7.size hx12
  obtain rfl := RpV.bool hr13
  refine r_assign (.bool r8) rfl rfl ?_
  refine wpList_nil ?_
  refine p_then ?_
  refine wp_seq ?_
  refine wp_seq ?_
  refine wp_region_lit ?_
  refine r_move (.bool r1) rfl rfl ?_
  refine wpList_nil ?_
  refine p_then ?_
  refine if_else hf (fun hc15 hf => ?_) (fun hc15 hf => ?_)
  · refine c_true rfl hc15 rfl ?_
    refine wp_seq ?_
    refine wp_seq ?_
    refine wp_region_lit ?_
    refine r_move (.bool r8) rfl rfl ?_
    refine wpList_nil ?_
    refine p_then ?_
    refine if_else hf (fun hc16 hf => ?_) (fun hc16 hf => ?_)
    · refine c_true rfl hc16 rfl ?_
      refine wp_seq ?_
      refine wp_region_lit ?_
      refine r_assign (.int .i64 0) rfl rfl ?_
      refine wpList_nil ?_
      refine p_then ?_
      refine wp_ret ?_
      refine p_thenr ?_
      refine p_thenr ?_
      obtain rfl := Option.some.inj hf
      refine ret_one (.int .i64 0) rfl ⟨rfl, rfl⟩ hE14 ?_
      exact (RpV.mkInt _ _)
    · refine c_false rfl hc16 rfl ?_
      refine wp_skip ?_
      refine p_then ?_
      refine wp_seq ?_
      refine wp_region_lit ?_
      refine r_assign (.int .i64 (-1)) rfl rfl ?_
      refine wpList_nil ?_
      refine p_then ?_
      refine wp_ret ?_
      refine p_thenr ?_
      obtain rfl := Option.some.inj hf
      refine ret_one (.int .i64 (-1)) rfl ⟨rfl, rfl⟩ hE14 ?_
      exact (RpV.mkInt _ _)
  · refine c_false rfl hc15 rfl ?_
    refine wp_skip ?_
    refine p_then ?_
    refine wp_seq ?_
    refine wp_seq ?_
    refine wp_region_lit ?_
    refine r_move (.bool r8) rfl rfl ?_
    refine wpList_nil ?_
    refine p_then ?_
    refine if_else hf (fun hc17 hf => ?_) (fun hc17 hf => ?_)
    · refine c_true rfl hc17 rfl ?_
      refine wp_seq ?_
      refine wp_region_lit ?_
      refine r_assign (.int .i64 1) rfl rfl ?_
      refine wpList_nil ?_
      refine p_then ?_
      refine wp_ret ?_
      refine p_thenr ?_
      obtain rfl := Option.some.inj hf
      refine ret_one (.int .i64 1) rfl ⟨rfl, rfl⟩ hE14 ?_
      exact (RpV.mkInt _ _)
    · refine c_false rfl hc17 rfl ?_
      refine wp_skip ?_
      refine p_then ?_
      refine wp_seq ?_
      refine wp_seq ?_
      refine wp_region_lit ?_
      refine r_move (.int .i64 a0) rfl rfl ?_
      refine r_move (.int .i64 a1) rfl rfl ?_
      refine r_bin (.int .i64 a0) (.int .i64 a1) (.bool (decide (a0 < a1))) rfl rfl rfl rfl (b_lss) ?_
      refine wpList_nil ?_
      refine p_then ?_
      refine if_else hf (fun hc18 hf => ?_) (fun hc18 hf => ?_)
      · refine c_true rfl hc18 rfl ?_
        refine wp_seq ?_
        refine wp_region_lit ?_
        refine r_assign (.int .i64 (-1)) rfl rfl ?_
        refine wpList_nil ?_
        refine p_then ?_
        refine wp_ret ?_
        refine p_thenr ?_
        obtain rfl := Option.some.inj hf
        refine ret_one (.int .i64 (-1)) rfl ⟨rfl, rfl⟩ hE14 ?_
        exact (RpV.mkInt _ _)
      · refine c_false rfl hc18 rfl ?_
        refine wp_skip ?_
        refine p_then ?_
        refine wp_seq ?_
        refine wp_seq ?_
        refine wp_region_lit ?_
        refine r_move (.int .i64 a0) rfl rfl ?_
        refine r_move (.int .i64 a1) rfl rfl ?_
        refine r_bin (.int .i64 a0) (.int .i64 a1) (.bool (decide (a1 < a0))) rfl rfl rfl rfl (b_gtr) ?_
        refine wpList_nil ?_
        refine p_then ?_
        refine if_else hf (fun hc19 hf => ?_) (fun hc19 hf => ?_)
        · refine c_true rfl hc19 rfl ?_
          refine wp_seq ?_
          refine wp_region_lit ?_
          refine r_assign (.int .i64 1) rfl rfl ?_
          refine wpList_nil ?_
          refine p_then ?_
          refine wp_ret ?_
          refine p_thenr ?_
          obtain rfl := Option.some.inj hf
          refine ret_one (.int .i64 1) rfl ⟨rfl, rfl⟩ hE14 ?_
          exact (RpV.mkInt _ _)
        · refine c_false rfl hc19 rfl ?_
          refine wp_skip ?_
          refine p_then ?_
          refine wp_seq ?_
          refine wp_region_lit ?_
          refine r_assign (.int .i64 0) rfl rfl ?_
          refine wpList_nil ?_
          refine p_then ?_
          refine wp_ret ?_
          obtain rfl := Option.some.inj hf
          refine ret_one (.int .i64 0) rfl ⟨rfl, rfl⟩ hE14 ?_
          exact (RpV.mkInt _ _)

def S_ident_CompareKeys (f : (Key → Key → Option Int)) : Prop := ∀ (s0 : S) (v0 : Value) (v1 : Value) (a0 : Key) (a1 : Key) (r : Int), RpV s0 a0 v0 → RpV s0 a1 v1 → f a0 a1 = some r → Ctr Go.Proofs.Try.prog 41 [v0, v1] s0 (fun v τ => RpV τ r v)

set_option maxHeartbeats 1600000 in
set_option maxRecDepth 100000 in
theorem ok_ident_CompareKeys : S_ident_CompareKeys ident_CompareKeys := by
  intro s0 v0 v1 a0 a1 r h0 h1 hf
  obtain rfl := Key.rpv h0
  obtain rfl := Key.rpv h1
  unfold ident_CompareKeys at hf
  have hE0 : ExtB s0.N s0 s0 := ExtB.refl _ _
  refine ctr_of 19 Go.Proofs.Try.func41 rfl rfl rfl rfl ?_
  refine wp_seq ?_
  refine wp_region_lit ?_
  refine r_box (B := s0.N) 1 hE0.size (.agg #[.int .i64 a0.Kind, .string a0.Text]) [.int .i64 a0.Kind, .string a0.Text] rfl rfl rfl ?_
  intro s2 b1 hx3 hb4
  have hE5 := hE0.ext hE0.size hx3
  refine r_box (B := s0.N) 2 hE5.size (.agg #[.int .i64 a1.Kind, .string a1.Text]) [.int .i64 a1.Kind, .string a1.Text] rfl rfl rfl ?_
  intro s7 b6 hx8 hb9
  have hE10 := hE5.ext hE5.size hx8
  refine r_assign (.int .i64 0) rfl rfl ?_
  refine wpList_nil ?_
  refine p_then ?_
  refine wp_seq ?_
  refine wp_seq ?_
  refine wp_region_lit ?_
  refine r_fieldAddr b1 0 0 0 rfl rfl fo60_0 rfl ?_
  refine r_load b1 0 (.int .i64 a0.Kind) rfl rfl (loads_one to3 (((hb4.ext hx8).cell 0).trans rfl)) ?_
  refine r_fieldAddr b6 0 0 0 rfl rfl fo60_0 rfl ?_
  refine r_load b6 0 (.int .i64 a1.Kind) rfl rfl (loads_one to3 ((hb9.cell 0).trans rfl)) ?_
  obtain ⟨r11, e12, hf⟩ := bind_some hf
  refine r_call [.int .i64 a0.Kind, .int .i64 a1.Kind] (evs2 rfl rfl) rfl (ok_cmp_Compare_int _ _ _ _ _ _ (RpV.mkInt _ _) (RpV.mkInt _ _) e12) ?_
  intro v14 s13 hx15 hr16
  have hE17 := hE10.ext hE10.size hx15
  obtain rfl := RpV.int hr16
  refine r_assign (.int .i64 r11) rfl rfl ?_
  refine wpList_nil ?_
  refine p_then ?_
  refine wp_seq ?_
  refine wp_region_lit ?_
  refine r_move (.int .i64 r11) rfl rfl ?_
  refine r_bin (.int .i64 r11) (.int .i64 0) (.bool (r11 != 0)) rfl rfl rfl rfl (b_neq) ?_
  refine wpList_nil ?_
  refine p_then ?_
  refine if_else hf (fun hc18 hf => ?_) (fun hc18 hf => ?_)
  · refine c_true rfl hc18 rfl ?_
    refine wp_seq ?_
    refine wp_region_lit ?_
    refine r_move (.int .i64 r11) rfl rfl ?_
    refine r_assign (.int .i64 r11) rfl rfl ?_
    refine wpList_nil ?_
    refine p_then ?_
    refine wp_ret ?_
    refine p_thenr ?_
    obtain rfl := Option.some.inj hf
    refine ret_one (.int .i64 r11) rfl ⟨rfl, rfl⟩ hE17 ?_
    exact (RpV.mkInt _ _)
  · refine c_false rfl hc18 rfl ?_
    refine wp_skip ?_
    refine p_then ?_
    refine wp_seq ?_
    refine wp_region_lit ?_
    refine r_fieldAddr b1 0 1 1 rfl rfl fo60_1 rfl ?_
    refine r_load b1 1 (.string a0.Text) rfl rfl (loads_one to9 ((((hb4.ext hx8).ext hx15).cell 1).trans rfl)) ?_
    refine r_fieldAddr b6 0 1 1 rfl rfl fo60_1 rfl ?_
    refine r_load b6 1 (.string a1.Text) rfl rfl (loads_one to9 (((hb9.ext hx15).cell 1).trans rfl)) ?_
    obtain ⟨r19, e20, hf⟩ := bind_some hf
    refine r_call [.string a0.Text, .string a1.Text] (evs2 rfl rfl) rfl (ok_strings_Compare _ _ _ _ _ _ (RpV.mkStr _ _) (RpV.mkStr _ _) e20) ?_
    intro v22 s21 hx23 hr24
    have hE25 := hE17.ext hE17.size hx23
    obtain rfl := RpV.int hr24
    refine r_assign (.int .i64 r19) rfl rfl ?_
    refine wpList_nil ?_
    refine p_then ?_
    refine wp_ret ?_
    obtain rfl := Option.some.inj hf
    refine ret_one (.int .i64 r19) rfl ⟨rfl, rfl⟩ hE25 ?_
    exact (RpV.mkInt _ _)

def S_value_ascending_api_Key (f : ((List Key) → (Key → Key → Option Int) → Option Bool)) : Prop := ∀ (s0 : S) (v0 : Value) (v1 : Value) (a0 : (List Key)) (a1 : (Key → Key → Option Int)) (r : Bool), RpV s0 a0 v0 → Fn2 Go.Proofs.Try.prog s0 v1 a1 → f a0 a1 = some r → Ctr Go.Proofs.Try.prog 101 [v0, v1] s0 (fun v τ => RpV τ r v)

set_option maxHeartbeats 1600000 in
set_option maxRecDepth 100000 in
theorem ok_value_ascending_api_Key : S_value_ascending_api_Key value_ascending_api_Key := by
  intro s0 v0 v1 a0 a1 r h0 h1 hf
  obtain ⟨A1, c2, rfl, h3⟩ := RpV.list h0
  have hg1 := h1
  obtain ⟨kk1, fi1, ca1, rfl, hk1⟩ := h1
  unfold value_ascending_api_Key at hf
  have hE0 : ExtB s0.N s0 s0 := ExtB.refl _ _
  refine ctr_of 24 Go.Proofs.Try.func101 rfl rfl rfl rfl ?_
  refine wp_seq ?_
  refine wp_region_lit ?_
  refine r_assign (.bool false) rfl rfl ?_
  refine wpList_nil ?_
  refine p_then ?_
  refine wp_seq ?_
  refine wp_seq ?_
  refine wp_region_lit ?_
  refine r_assign (.int .i64 1) rfl rfl ?_
  refine wpList_nil ?_
  refine p_then ?_
  refine wp_block ?_
  refine gen_F fun F4 hg5 => ?_
  have hF6 : F4 0 = (.slice A1 a0.length c2) := (hg5 0).trans rfl
  have hF7 : F4 1 = (.func (.func kk1) (List.toArray fi1) (List.toArray ca1)) := (hg5 1).trans rfl
  have hF8 : F4 4 = (.bool false) := (hg5 4).trans rfl
  have hF9 : F4 5 = (.int .i64 1) := (hg5 5).trans rfl
  obtain ⟨o226, ho227, hf⟩ := bind_some hf
  refine wp_mono (wp_iter (step := value_ascending_api_Key_l1 a0 a1) (fun q a w => ∃ (F : Fr) (τ : S), a = fr 24 F ∧ w = τ.w ∧ Agr [4, 5, 6, 7, 8, 9, 10, 11, 12, 13, 14, 15, 16, 17, 18, 19, 20, 21, 22, 23] F F4 ∧ ExtB s0.N s0 τ ∧ Wext s0 τ ∧ F 5 = (.int .i64 q)) (fun o e a w => match o with | .inl q => e = .exit 0 ∧ ∃ (F : Fr) (τ : S), a = fr 24 F ∧ w = τ.w ∧ Agr [4, 5, 6, 7, 8, 9, 10, 11, 12, 13, 14, 15, 16, 17, 18, 19, 20, 21, 22, 23] F F4 ∧ ExtB s0.N s0 τ ∧ Wext s0 τ ∧ F 5 = (.int .i64 q) | .inr r => e = .ret ∧ ∃ (F : Fr) (τ : S) (va : Value), a = fr 24 F ∧ w = τ.w ∧ ExtB s0.N s0 τ ∧ ResV Go.Proofs.Try.prog 24 F τ.w (.tmp 4) va ∧ RpV τ r va) (by rintro (_ | _) a w ⟨h, _⟩ <;> cases h) ?_ _ _ _ _ _ ho227 ?_) ?_
  · intro q10 fl a w hf hI
    obtain ⟨F11, s12, rfl, rfl, hag13, hE14, hW15, h16⟩ := hI
    unfold value_ascending_api_Key_l1 at hf
    have hF17 : F11 0 = (.slice A1 a0.length c2) := (hag13 0 rfl).trans hF6
    have hF18 : F11 1 = (.func (.func kk1) (List.toArray fi1) (List.toArray ca1)) := (hag13 1 rfl).trans hF7
    refine wp_seq ?_
    refine wp_seq ?_
    refine wp_region_lit ?_
    refine r_move (.int .i64 q10) h16 rfl ?_
    refine r_move (.slice A1 a0.length c2) hF17 rfl ?_
    refine r_len A1 a0.length c2 rfl rfl Go.Proofs.Try.underlying23 ?_
    refine r_bin (.int .i64 q10) (.int .i64 (a0.length : Int)) (.bool (decide (q10 < (a0.length : Int)))) rfl rfl rfl rfl (b_lss) ?_
    refine wpList_nil ?_
    refine p_then ?_
    refine if_else hf (fun hc19 hf => ?_) (fun hc19 hf => ?_)
    · refine c_true rfl hc19 rfl ?_
      refine wp_skip ?_
      refine p_then ?_
      refine wp_seq ?_
      refine wp_block ?_
      refine wp_seq ?_
      obtain ⟨x20, e21, hf⟩ := bind_some hf
      obtain ⟨x22, e23, hf⟩ := bind_some hf
      obtain ⟨r24, e25, hf⟩ := bind_some hf
      refine wp_draw (B := s0.N) [some 12, some 13, some 14, some 15, some 16, some 17, some 18, some 19, some 20, some 21, some 22, some 23] [[], [], [], [2], [1, 2, 3], [1, 2, 3, 4], [], [], [6, 7], [6, 7, 8], [0, 1, 2, 3, 4, 5, 6, 7, 8, 9], [0, 1, 2, 3, 4, 5, 6, 7, 8, 9, 10]] [Fct.eqv (.func (.func kk1) (List.toArray fi1) (List.toArray ca1)), Fct.eqv (.slice A1 a0.length c2), Fct.eqv (.int .i64 q10), Fct.eqv (.int .i64 (w64 (q10 - 1))), Fct.elem (x20 : Key), Fct.data (x20 : Key), Fct.eqv (.slice A1 a0.length c2), Fct.eqv (.int .i64 q10), Fct.elem (x22 : Key), Fct.data (x22 : Key), Fct.eqv (.int .i64 r24), Fct.eqv (.bool (decide (0 ≤ r24)))] (fun D F τ => True) (by kernel_rfl) rfl (by decide) (by decide) trivial (by decide) (by decide) ⟨?_, ?_, ?_, ?_, ?_, ?_, ?_, ?_, ?_, ?_, ?_, ?_, trivial⟩ ?_
      · intro D29 F30 s31 d32 d33 d34 hE35 hW36 hG37 hfr38 hR39
        have hE40 := hE14.trans hE35
        refine r_move (.func (.func kk1) (List.toArray fi1) (List.toArray ca1)) ((hfr38 1 rfl).trans hF18) rfl ?_
        refine wpList_nil ?_
        exact ⟨_, _, rfl, rfl, ExtB.refl _ _, Wext.refl _, rfl, trivial⟩
      · intro D41 F42 s43 d44 d45 d46 hE47 hW48 hG49 hfr50 hR51
        have hE52 := hE14.trans hE47
        refine r_move (.slice A1 a0.length c2) ((hfr50 0 rfl).trans hF17) rfl ?_
        refine wpList_nil ?_
        exact ⟨_, _, rfl, rfl, ExtB.refl _ _, Wext.refl _, rfl, trivial⟩
      · intro D53 F54 s55 d56 d57 d58 hE59 hW60 hG61 hfr62 hR63
        have hE64 := hE14.trans hE59
        refine r_move (.int .i64 q10) ((hfr62 5 rfl).trans h16) rfl ?_
        refine wpList_nil ?_
        exact ⟨_, _, rfl, rfl, ExtB.refl _ _, Wext.refl _, rfl, trivial⟩
      · intro D65 F66 s67 d68 d69 d70 hE71 hW72 hG73 hfr74 hR75
        have hE76 := hE14.trans hE71
        have q77 : F66 14 = (.int .i64 q10) := hR75 2 rfl 14 rfl
        refine r_bin (.int .i64 q10) (.int .i64 1) (.int .i64 (w64 (q10 - 1))) q77 rfl rfl rfl (b_sub) ?_
        refine wpList_nil ?_
        exact ⟨_, _, rfl, rfl, ExtB.refl _ _, Wext.refl _, rfl, trivial⟩
      · intro D78 F79 s80 d81 d82 d83 hE84 hW85 hG86 hfr87 hR88
        have hE89 := hE14.trans hE84
        have q90 : F79 13 = (.slice A1 a0.length c2) := hR88 1 rfl 13 rfl
        have q91 : F79 15 = (.int .i64 (w64 (q10 - 1))) := hR88 3 rfl 15 rfl
        refine r_indexAddr (T := 23) (E := 60) ((h3.mono hW15).mono hW85) e21 q90 q91 rfl rfl Go.Proofs.Try.underlying23 sz60 ?_
        intro b92 o93 cs94 hc95 hs96
        obtain rfl := Key.cells_iff.1 hc95
        refine wpList_nil ?_
        exact ⟨_, _, rfl, rfl, ExtB.refl _ _, Wext.refl _, ⟨_, _, _, rfl, (Key.cells_iff.2 rfl), hs96⟩, trivial⟩
      · intro D97 F98 s99 d100 d101 d102 hE103 hW104 hG105 hfr106 hR107
        have hE108 := hE14.trans hE103
        obtain ⟨b110, o111, cs112, hv113, hc114, hs115⟩ : (Fct.elem (x20 : Key)).p (F98 16) s99 := hR107 4 rfl 16 rfl
        obtain rfl := Key.cells_iff.1 hc114
        refine r_load b110 o111 (.agg #[.int .i64 x20.Kind, .string x20.Text]) hv113 rfl (loads_row tr60 hs115.2) ?_
        refine wpList_nil ?_
        exact ⟨_, _, rfl, rfl, ExtB.refl _ _, Wext.refl _, (Key.rpvMk (v := x20) ), trivial⟩
      · intro D116 F117 s118 d119 d120 d121 hE122 hW123 hG124 hfr125 hR126
        have hE127 := hE14.trans hE122
        refine r_move (.slice A1 a0.length c2) ((hfr125 0 rfl).trans hF17) rfl ?_
        refine wpList_nil ?_
        exact ⟨_, _, rfl, rfl, ExtB.refl _ _, Wext.refl _, rfl, trivial⟩
      · intro D128 F129 s130 d131 d132 d133 hE134 hW135 hG136 hfr137 hR138
        have hE139 := hE14.trans hE134
        refine r_move (.int .i64 q10) ((hfr137 5 rfl).trans h16) rfl ?_
        refine wpList_nil ?_
        exact ⟨_, _, rfl, rfl, ExtB.refl _ _, Wext.refl _, rfl, trivial⟩
      · intro D140 F141 s142 d143 d144 d145 hE146 hW147 hG148 hfr149 hR150
        have hE151 := hE14.trans hE146
        have q152 : F141 18 = (.slice A1 a0.length c2) := hR150 6 rfl 18 rfl
        have q153 : F141 19 = (.int .i64 q10) := hR150 7 rfl 19 rfl
        refine r_indexAddr (T := 23) (E := 60) ((h3.mono hW15).mono hW147) e23 q152 q153 rfl rfl Go.Proofs.Try.underlying23 sz60 ?_
        intro b154 o155 cs156 hc157 hs158
        obtain rfl := Key.cells_iff.1 hc157
        refine wpList_nil ?_
        exact ⟨_, _, rfl, rfl, ExtB.refl _ _, Wext.refl _, ⟨_, _, _, rfl, (Key.cells_iff.2 rfl), hs158⟩, trivial⟩
      · intro D159 F160 s161 d162 d163 d164 hE165 hW166 hG167 hfr168 hR169
        have hE170 := hE14.trans hE165
        obtain ⟨b172, o173, cs174, hv175, hc176, hs177⟩ : (Fct.elem (x22 : Key)).p (F160 20) s161 := hR169 8 rfl 20 rfl
        obtain rfl := Key.cells_iff.1 hc176
        refine r_load b172 o173 (.agg #[.int .i64 x22.Kind, .string x22.Text]) hv175 rfl (loads_row tr60 hs177.2) ?_
        refine wpList_nil ?_
        exact ⟨_, _, rfl, rfl, ExtB.refl _ _, Wext.refl _, (Key.rpvMk (v := x22) ), trivial⟩
      · intro D178 F179 s180 d181 d182 d183 hE184 hW185 hG186 hfr187 hR188
        have hE189 := hE14.trans hE184
        have q190 : F179 12 = (.func (.func kk1) (List.toArray fi1) (List.toArray ca1)) := hR188 0 rfl 12 rfl
        have q191 : RpV s180 (x20 : Key) (F179 17) := hR188 5 rfl 17 rfl
        have hv192 := Key.rpv q191
        have q193 : RpV s180 (x22 : Key) (F179 21) := hR188 9 rfl 21 rfl
        have hv194 := Key.rpv q193
        refine r_callv [.agg #[.int .i64 x20.Kind, .string x20.Text], .agg #[.int .i64 x22.Kind, .string x22.Text]] q190 rfl (evs2 hv192 hv194) rfl (hk1 s180 hE189 _ _ _ _ _ (Key.rpvMk (v := x20) ) (Key.rpvMk (v := x22) ) e25) ?_
        intro v196 s195 hx197 hr198
        have hE199 := hE189.ext hE189.size hx197
        obtain rfl := RpV.int hr198
        refine wpList_nil ?_
        exact ⟨_, _, rfl, rfl, (ExtB.refl _ _).trans (hx197.mono hE189.size), (Wext.refl _).trans hx197.wext, rfl, trivial⟩
      · intro D200 F201 s202 d203 d204 d205 hE206 hW207 hG208 hfr209 hR210
        have hE211 := hE14.trans hE206
        have q212 : F201 22 = (.int .i64 r24) := hR210 10 rfl 22 rfl
        refine r_bin (.int .i64 r24) (.int .i64 0) (.bool (decide (0 ≤ r24))) q212 rfl rfl rfl (b_geq) ?_
        refine wpList_nil ?_
        exact ⟨_, _, rfl, rfl, ExtB.refl _ _, Wext.refl _, rfl, trivial⟩
      · intro F213 s214 hE215 hW216 hG217 hfr218 hR219
        have hE220 := hE14.trans hE215
        have hF221 : F213 0 = (.slice A1 a0.length c2) := (hfr218 0 rfl).trans hF17
        have hF222 : F213 1 = (.func (.func kk1) (List.toArray fi1) (List.toArray ca1)) := (hfr218 1 rfl).trans hF18
        have hF223 : F213 5 = (.int .i64 q10) := (hfr218 5 rfl).trans h16
        have q224 : F213 23 = (.bool (decide (0 ≤ r24))) := hR219 11 23 rfl
        refine p_then ?_
        refine if_else hf (fun hc225 hf => ?_) (fun hc225 hf => ?_)
        · refine c_true q224 hc225 rfl ?_
          refine wp_seq ?_
          refine wp_region_lit ?_
          refine r_assign (.bool false) rfl rfl ?_
          refine wpList_nil ?_
          refine p_then ?_
          refine wp_ret ?_
          refine p_br ?_
          refine p_thenr ?_
          obtain rfl := Option.some.inj hf
          exact ⟨rfl, _, _, (.bool false), rfl, rfl, hE220, ⟨rfl, rfl⟩, (RpV.mkBool _ _)⟩
        · refine c_false q224 hc225 rfl ?_
          refine wp_skip ?_
          refine p_bn ?_
          refine p_then ?_
          refine wp_region_lit ?_
          refine r_move (.int .i64 q10) hF223 rfl ?_
          refine r_bin (.int .i64 q10) (.int .i64 1) (.int .i64 (w64 (q10 + 1))) rfl rfl rfl rfl (b_add) ?_
          refine r_assign (.int .i64 (w64 (q10 + 1))) rfl rfl ?_
          refine wpList_nil ?_
          obtain rfl := Option.some.inj hf
          exact ⟨rfl, _, _, rfl, rfl, (((((((((hag13).put rfl).put rfl).put rfl).put rfl).draw hfr218 rfl).put rfl).put rfl).put rfl), hE220, (((Wext.refl _).trans hW15).trans hW216), rfl⟩
    · refine c_false rfl hc19 rfl ?_
      refine wp_exit ?_
      refine p_thenx ?_
      obtain rfl := Option.some.inj hf
      exact ⟨rfl, _, _, rfl, rfl, (((((hag13).put rfl).put rfl).put rfl).put rfl), hE14, ((Wext.refl _).trans hW15), h16⟩
  · exact ⟨_, _, rfl, rfl, (Agr.refl _ _), hE0, (Wext.refl _), hF9⟩
  · intro e a w hp
    rcases o226 with q228 | r
    · replace hf := onEnd_inl hf
      obtain ⟨rfl, F229, s230, rfl, rfl, hag231, hE232, hW233, h234⟩ := hp
      have hF235 : F229 0 = (.slice A1 a0.length c2) := (hag231 0 rfl).trans hF6
      have hF236 : F229 1 = (.func (.func kk1) (List.toArray fi1) (List.toArray ca1)) := (hag231 1 rfl).trans hF7
      refine p_bx ?_
      refine p_then ?_
      refine wp_seq ?_
      refine wp_region_lit ?_
      refine r_assign (.bool true) rfl rfl ?_
      refine wpList_nil ?_
      refine p_then ?_
      refine wp_ret ?_
      obtain rfl := Option.some.inj hf
      refine ret_one (.bool true) rfl ⟨rfl, rfl⟩ hE232 ?_
      exact (RpV.mkBool _ _)
    · replace hf := onEnd_inr hf
      obtain ⟨rfl, F240, s241, v237, rfl, rfl, hE242, h238, h239⟩ := hp
      refine p_br ?_
      refine p_thenr ?_
      obtain rfl := Option.some.inj hf
      refine ret_one v237 rfl h238 hE242 ?_
      exact h239

def S_ident_ValidKey (f : (Key → Option Bool)) : Prop := ∀ (s0 : S) (v0 : Value) (a0 : Key) (r : Bool), RpV s0 a0 v0 → f a0 = some r → Ctr Go.Proofs.Try.prog 102 [v0] s0 (fun v τ => RpV τ r v)

set_option maxHeartbeats 1600000 in
set_option maxRecDepth 100000 in
theorem ok_ident_ValidKey : S_ident_ValidKey ident_ValidKey := by
  intro s0 v0 a0 r h0 hf
  obtain rfl := Key.rpv h0
  unfold ident_ValidKey at hf
  have hE0 : ExtB s0.N s0 s0 := ExtB.refl _ _
  refine ctr_of 16 Go.Proofs.Try.func102 rfl rfl rfl rfl ?_
  refine wp_seq ?_
  refine wp_region_lit ?_
  refine r_box (B := s0.N) 1 hE0.size (.agg #[.int .i64 a0.Kind, .string a0.Text]) [.int .i64 a0.Kind, .string a0.Text] rfl rfl rfl ?_
  intro s2 b1 hx3 hb4
  have hE5 := hE0.ext hE0.size hx3
  refine r_assign (.bool false) rfl rfl ?_
  refine wpList_nil ?_
  refine p_then ?_
  refine wp_seq ?_
  refine wp_seq ?_
  refine wp_region_lit ?_
  refine r_fieldAddr b1 0 0 0 rfl rfl fo60_0 rfl ?_
  refine r_load b1 0 (.int .i64 a0.Kind) rfl rfl (loads_one to3 ((hb4.cell 0).trans rfl)) ?_
  refine wpList_nil ?_
  refine p_then ?_
  refine wp_block ?_
  refine wp_seq ?_
  refine wp_region_lit ?_
  refine r_bin (.int .i64 a0.Kind) (.int .i64 0) (.bool (a0.Kind == 0)) rfl rfl rfl rfl (b_eql) ?_
  refine r_assign (.bool (a0.Kind == 0)) rfl rfl ?_
  refine wpList_nil ?_
  refine p_then ?_
  refine if_else hf (fun hc6 hf => ?_) (fun hc6 hf => ?_)
  · refine c_true rfl hc6 rfl ?_
    refine wp_seq ?_
    refine wp_region_lit ?_
    refine r_fieldAddr b1 0 1 1 rfl rfl fo60_1 rfl ?_
    refine r_load b1 1 (.string a0.Text) rfl rfl (loads_one to9 ((hb4.cell 1).trans rfl)) ?_
    obtain ⟨r7, e8, hf⟩ := bind_some hf
    refine r_call [.string a0.Text] (evs1 rfl) rfl (ok_ident_IsAtom _ _ _ _ (RpV.mkStr _ _) e8) ?_
    intro v10 s9 hx11 hr12
    have hE13 := hE5.ext hE5.size hx11
    obtain rfl := RpV.bool hr12
    refine r_assign (.bool r7) rfl rfl ?_
    refine wpList_nil ?_
    refine p_then ?_
    refine wp_ret ?_
    refine p_br ?_
    refine p_thenr ?_
    obtain rfl := Option.some.inj hf
    refine ret_one (.bool r7) rfl ⟨rfl, rfl⟩ hE13 ?_
    exact (RpV.mkBool _ _)
  · refine c_false rfl hc6 rfl ?_
    refine wp_seq ?_
    refine wp_region_lit ?_
    refine r_bin (.int .i64 a0.Kind) (.int .i64 1) (.bool (a0.Kind == 1)) rfl rfl rfl rfl (b_eql) ?_
    refine r_assign (.bool (a0.Kind == 1)) rfl rfl ?_
    refine wpList_nil ?_
    refine p_then ?_
    refine if_else hf (fun hc14 hf => ?_) (fun hc14 hf => ?_)
    · refine c_true rfl hc14 rfl ?_
      refine wp_seq ?_
      refine wp_region_lit ?_
      refine r_fieldAddr b1 0 1 1 rfl rfl fo60_1 rfl ?_
      refine r_load b1 1 (.string a0.Text) rfl rfl (loads_one to9 ((hb4.cell 1).trans rfl)) ?_
      refine r_lenStr a0.Text rfl rfl Go.Proofs.Try.underlying9 ?_
      refine r_bin (.int .i64 (a0.Text.size : Int)) (.int .i64 64) (.bool (decide ((a0.Text.size : Int) ≤ 64))) rfl rfl rfl rfl (b_leq) ?_
      refine r_assign (.bool (decide ((a0.Text.size : Int) ≤ 64))) rfl rfl ?_
      refine wpList_nil ?_
      refine p_then ?_
      refine wp_ret ?_
      refine p_br ?_
      refine p_thenr ?_
      obtain rfl := Option.some.inj hf
      refine ret_one (.bool (decide ((a0.Text.size : Int) ≤ 64))) rfl ⟨rfl, rfl⟩ hE5 ?_
      exact (RpV.mkBool _ _)
    · refine c_false rfl hc14 rfl ?_
      refine wp_skip ?_
      refine p_bn ?_
      refine p_then ?_
      refine wp_seq ?_
      refine wp_region_lit ?_
      refine r_assign (.bool false) rfl rfl ?_
      refine wpList_nil ?_
      refine p_then ?_
      refine wp_ret ?_
      obtain rfl := Option.some.inj hf
      refine ret_one (.bool false) rfl ⟨rfl, rfl⟩ hE5 ?_
      exact (RpV.mkBool _ _)

def S_value_validMap (f : (Val → Option Bool)) : Prop := ∀ (s0 : S) (v0 : Value) (a0 : Val) (r : Bool), RpV s0 a0 v0 → f a0 = some r → Ctr Go.Proofs.Try.prog 83 [v0] s0 (fun v τ => RpV τ r v)

set_option maxHeartbeats 1600000 in
set_option maxRecDepth 100000 in
theorem ok_value_validMap : S_value_validMap value_validMap := by
  intro s0 v0 a0 r h0 hf
  obtain ⟨A1, c2, A4, c5, A7, c8, A10, c11, rfl, h3, h6, h9, h12⟩ := Val.rpv h0
  unfold value_validMap at hf
  have hE0 : ExtB s0.N s0 s0 := ExtB.refl _ _
  refine ctr_of 29 Go.Proofs.Try.func83 rfl rfl rfl rfl ?_
  refine wp_seq ?_
  refine wp_region_lit ?_
  refine r_box (B := s0.N) 1 hE0.size (.agg #[.int .i64 a0.Kind, .int .i64 a0.Int_, .string a0.Text, .slice A1 a0.Kids.length c2, .slice A4 a0.Keys.length c5, .slice A7 a0.Entries.length c8, .slice A10 a0.Labels.length c11]) [.int .i64 a0.Kind, .int .i64 a0.Int_, .string a0.Text, .slice A1 a0.Kids.length c2, .slice A4 a0.Keys.length c5, .slice A7 a0.Entries.length c8, .slice A10 a0.Labels.length c11] rfl rfl rfl ?_
  intro s14 b13 hx15 hb16
  have hE17 := hE0.ext hE0.size hx15
  refine r_assign (.bool false) rfl rfl ?_
  refine wpList_nil ?_
  refine p_then ?_
  refine wp_seq ?_
  refine wp_seq ?_
  refine wp_region_lit ?_
  refine r_fieldAddr b13 0 4 4 rfl rfl fo27_4 rfl ?_
  refine r_load b13 4 (.slice A4 a0.Keys.length c5) rfl rfl (loads_one to23 ((hb16.cell 4).trans rfl)) ?_
  refine r_len A4 a0.Keys.length c5 rfl rfl Go.Proofs.Try.underlying23 ?_
  refine r_fieldAddr b13 0 3 3 rfl rfl fo27_3 rfl ?_
  refine r_load b13 3 (.slice A1 a0.Kids.length c2) rfl rfl (loads_one to22 ((hb16.cell 3).trans rfl)) ?_
  refine r_len A1 a0.Kids.length c2 rfl rfl Go.Proofs.Try.underlying22 ?_
  refine r_bin (.int .i64 (a0.Keys.length : Int)) (.int .i64 (a0.Kids.length : Int)) (.bool ((a0.Keys.length : Int) != (a0.Kids.length : Int))) rfl rfl rfl rfl (b_neq) ?_
  refine r_move (.bool ((a0.Keys.length : Int) != (a0.Kids.length : Int))) rfl rfl ?_
  refine if_else hf (fun hc18 hf => ?_) (fun hc18 hf => ?_)
  · refine r_skip (j := 7) (want := false) (d := 12) (c := ((a0.Keys.length : Int) != (a0.Kids.length : Int))) (v := true) rfl rfl hc18 rfl rfl ?_
    refine r_skip (j := 7) (want := false) (d := 12) (c := ((a0.Keys.length : Int) != (a0.Kids.length : Int))) (v := true) rfl rfl hc18 rfl rfl ?_
    refine r_skip (j := 7) (want := false) (d := 12) (c := ((a0.Keys.length : Int) != (a0.Kids.length : Int))) (v := true) rfl rfl hc18 rfl rfl ?_
    refine r_skip (j := 7) (want := false) (d := 12) (c := ((a0.Keys.length : Int) != (a0.Kids.length : Int))) (v := true) rfl rfl hc18 rfl rfl ?_
    refine r_pick_t (c := ((a0.Keys.length : Int) != (a0.Kids.length : Int))) (.bool true) rfl hc18 rfl rfl rfl rfl ?_
    refine wpList_nil ?_
    refine p_then ?_
    refine c_true rfl rfl rfl ?_
    refine wp_seq ?_
    refine wp_region_lit ?_
    refine r_assign (.bool false) rfl rfl ?_
    refine wpList_nil ?_
    refine p_then ?_
    refine wp_ret ?_
    refine p_thenr ?_
    obtain rfl := Option.some.inj hf
    refine ret_one (.bool false) rfl ⟨rfl, rfl⟩ hE17 ?_
    exact (RpV.mkBool _ _)
  · refine r_guard (j := 7) (want := false) (d := 12) (c := ((a0.Keys.length : Int) != (a0.Kids.length : Int))) (v := false) rfl rfl hc18 rfl rfl ?_
    refine r_fieldAddr b13 0 4 4 rfl rfl fo27_4 rfl ?_
    refine r_guard (j := 7) (want := false) (d := 12) (c := ((a0.Keys.length : Int) != (a0.Kids.length : Int))) (v := false) rfl rfl hc18 rfl rfl ?_
    refine r_load b13 4 (.slice A4 a0.Keys.length c5) rfl rfl (loads_one to23 ((hb16.cell 4).trans rfl)) ?_
    refine r_guard (j := 7) (want := false) (d := 12) (c := ((a0.Keys.length : Int) != (a0.Kids.length : Int))) (v := false) rfl rfl hc18 rfl rfl ?_
    obtain ⟨r19, e20, hf⟩ := bind_some hf
    refine r_call [.slice A4 a0.Keys.length c5, .func (.func 41) #[] #[]] (evs2 rfl rfl) rfl (ok_value_ascending_api_Key _ _ _ _ _ _ (RpV.mkList (h6.mono hx15.wext)) ⟨41, [], [], rfl, fun _ _ _ _ _ _ _ h1 h2 h => (ok_ident_CompareKeys _ _ _ _ _ _ h1 h2 h)⟩ e20) ?_
    intro v22 s21 hx23 hr24
    have hE25 := hE17.ext hE17.size hx23
    obtain rfl := RpV.bool hr24
    refine r_guard (j := 7) (want := false) (d := 12) (c := ((a0.Keys.length : Int) != (a0.Kids.length : Int))) (v := false) rfl rfl hc18 rfl rfl ?_
    refine r_un (.bool r19) (.bool (!r19)) rfl rfl u_not ?_
    refine r_pick_f (c := ((a0.Keys.length : Int) != (a0.Kids.length : Int))) (.bool (!r19)) rfl hc18 rfl rfl rfl rfl ?_
    refine wpList_nil ?_
    refine p_then ?_
    refine if_else hf (fun hc26 hf => ?_) (fun hc26 hf => ?_)
    · refine c_true rfl hc26 rfl ?_
      refine wp_seq ?_
      refine wp_region_lit ?_
      refine r_assign (.bool false) rfl rfl ?_
      refine wpList_nil ?_
      refine p_then ?_
      refine wp_ret ?_
      refine p_thenr ?_
      obtain rfl := Option.some.inj hf
      refine ret_one (.bool false) rfl ⟨rfl, rfl⟩ hE25 ?_
      exact (RpV.mkBool _ _)
    · refine c_false rfl hc26 rfl ?_
      refine wp_skip ?_
      refine p_then ?_
      refine wp_seq ?_
      refine wp_seq ?_
      refine wp_region_lit ?_
      refine r_fieldAddr b13 0 4 4 rfl rfl fo27_4 rfl ?_
      refine r_load b13 4 (.slice A4 a0.Keys.length c5) rfl rfl (loads_one to23 (((hb16.ext hx23).cell 4).trans rfl)) ?_
      refine r_len A4 a0.Keys.length c5 rfl rfl Go.Proofs.Try.underlying23 ?_
      refine r_move (.int .i64 0) rfl rfl ?_
      refine wpList_nil ?_
      refine p_then ?_
      refine wp_block ?_
      refine gen_F fun F27 hg28 => ?_
      have hF29 : F27 2 = (.bool false) := (hg28 2).trans rfl
      have hF30 : F27 19 = (.slice A4 a0.Keys.length c5) := (hg28 19).trans rfl
      have hF31 : F27 20 = (.int .i64 (a0.Keys.length : Int)) := (hg28 20).trans rfl
      have hF32 : F27 21 = (.int .i64 0) := (hg28 21).trans rfl
      obtain ⟨o67, ho68, hf⟩ := bind_some hf
      refine wp_mono (wp_iter (step := value_validMap_l1 a0) (fun q a w => ∃ (F : Fr) (τ : S), a = fr 29 F ∧ w = τ.w ∧ Agr [2, 4, 21, 22, 23, 24, 25, 26, 27, 28] F F27 ∧ ExtB s0.N s0 τ ∧ Wext s21 τ ∧ F 21 = (.int .i64 q)) (fun o e a w => match o with | .inl q => e = .exit 0 ∧ ∃ (F : Fr) (τ : S), a = fr 29 F ∧ w = τ.w ∧ Agr [2, 4, 21, 22, 23, 24, 25, 26, 27, 28] F F27 ∧ ExtB s0.N s0 τ ∧ Wext s21 τ ∧ F 21 = (.int .i64 q) | .inr r => e = .ret ∧ ∃ (F : Fr) (τ : S) (va : Value), a = fr 29 F ∧ w = τ.w ∧ ExtB s0.N s0 τ ∧ ResV Go.Proofs.Try.prog 29 F τ.w (.tmp 2) va ∧ RpV τ r va) (by rintro (_ | _) a w ⟨h, _⟩ <;> cases h) ?_ _ _ _ _ _ ho68 ?_) ?_
      · intro q33 fl a w hf hI
        obtain ⟨F34, s35, rfl, rfl, hag36, hE37, hW38, h39⟩ := hI
        unfold value_validMap_l1 at hf
        have hF40 : F34 19 = (.slice A4 a0.Keys.length c5) := (hag36 19 rfl).trans hF30
        have hF41 : F34 20 = (.int .i64 (a0.Keys.length : Int)) := (hag36 20 rfl).trans hF31
        refine wp_seq ?_
        refine wp_region_lit ?_
        refine r_bin (.int .i64 q33) (.int .i64 (a0.Keys.length : Int)) (.bool (decide (q33 < (a0.Keys.length : Int)))) h39 hF41 rfl rfl (b_lss) ?_
        refine wpList_nil ?_
        refine p_then ?_
        refine wp_seq ?_
        refine if_else hf (fun hc42 hf => ?_) (fun hc42 hf => ?_)
        · refine c_true rfl hc42 rfl ?_
          refine wp_skip ?_
          refine p_then ?_
          refine wp_seq ?_
          refine wp_block ?_
          refine wp_seq ?_
          refine wp_region_lit ?_
          obtain ⟨x43, e44, hf⟩ := bind_some hf
          refine r_indexAddr (T := 23) (E := 60) (((h6.mono hx15.wext).mono hx23.wext).mono hW38) e44 hF40 h39 rfl rfl Go.Proofs.Try.underlying23 sz60 ?_
          intro b45 o46 cs47 hc48 hs49
          obtain rfl := Key.cells_iff.1 hc48
          refine r_load b45 o46 (.agg #[.int .i64 x43.Kind, .string x43.Text]) rfl rfl (loads_row tr60 hs49.2) ?_
          refine r_alloc (B := s0.N) 2 hE37.size _ [.int .i64 0, .string (⟨#[]⟩)] ti60 rfl ?_
          intro s51 b50 hx52 hb53
          have hE54 := hE37.ext hE37.size hx52
          refine r_store hb53 0 (.agg #[.int .i64 x43.Kind, .string x43.Text]) [.int .i64 x43.Kind, .string x43.Text] [.int .i64 x43.Kind, .string x43.Text] rfl rfl rfl rfl rfl sz60 rfl rfl rfl ?_
          intro s55 hm56 hb57
          have hE58 := hE54.mod hE54.size hm56
          refine wpList_nil ?_
          refine p_then ?_
          refine wp_seq ?_
          refine wp_region_lit ?_
          refine r_load b50 0 (.agg #[.int .i64 x43.Kind, .string x43.Text]) rfl rfl (loads_row tr60 (Blk.range hb57 0 [.int .i64 x43.Kind, .string x43.Text] rfl)) ?_
          obtain ⟨r59, e60, hf⟩ := bind_some hf
          refine r_call [.agg #[.int .i64 x43.Kind, .string x43.Text]] (evs1 rfl) rfl (ok_ident_ValidKey _ _ _ _ (Key.rpvMk (v := x43) ) e60) ?_
          intro v62 s61 hx63 hr64
          have hE65 := hE58.ext hE58.size hx63
          obtain rfl := RpV.bool hr64
          refine r_un (.bool r59) (.bool (!r59)) rfl rfl u_not ?_
          refine wpList_nil ?_
          refine p_then ?_
          refine if_else hf (fun hc66 hf => ?_) (fun hc66 hf => ?_)
          · refine c_true rfl hc66 rfl ?_
            refine wp_seq ?_
            refine wp_region_lit ?_
            refine r_assign (.bool false) rfl rfl ?_
            refine wpList_nil ?_
            refine p_then ?_
            refine wp_ret ?_
            refine p_br ?_
            refine p_thenr ?_
            obtain rfl := Option.some.inj hf
            exact ⟨rfl, _, _, (.bool false), rfl, rfl, hE65, ⟨rfl, rfl⟩, (RpV.mkBool _ _)⟩
          · refine c_false rfl hc66 rfl ?_
            refine wp_skip ?_
            refine p_bn ?_
            refine p_then ?_
            refine wp_region_lit ?_
            refine r_bin (.int .i64 q33) (.int .i64 1) (.int .i64 (w64 (q33 + 1))) h39 rfl rfl rfl (b_add) ?_
            refine r_move (.int .i64 (w64 (q33 + 1))) rfl rfl ?_
            refine wpList_nil ?_
            obtain rfl := Option.some.inj hf
            exact ⟨rfl, _, _, rfl, rfl, (((((((((((hag36).put rfl).put rfl).put rfl).put rfl).put0).put rfl).put rfl).put rfl).put rfl).put rfl), hE65, (((((Wext.refl _).trans hW38).trans hx52.wext).trans hm56.wext).trans hx63.wext), rfl⟩
        · refine c_false rfl hc42 rfl ?_
          refine wp_exit ?_
          refine p_thenx ?_
          obtain rfl := Option.some.inj hf
          exact ⟨rfl, _, _, rfl, rfl, ((hag36).put rfl), hE37, ((Wext.refl _).trans hW38), h39⟩
      · exact ⟨_, _, rfl, rfl, (Agr.refl _ _), hE25, (Wext.refl _), hF32⟩
      · intro e a w hp
        rcases o67 with q69 | r
        · replace hf := onEnd_inl hf
          obtain ⟨rfl, F70, s71, rfl, rfl, hag72, hE73, hW74, h75⟩ := hp
          have hF76 : F70 19 = (.slice A4 a0.Keys.length c5) := (hag72 19 rfl).trans hF30
          have hF77 : F70 20 = (.int .i64 (a0.Keys.length : Int)) := (hag72 20 rfl).trans hF31
          refine p_bx ?_
          refine p_then ?_
          refine wp_seq ?_
          refine wp_region_lit ?_
          refine r_assign (.bool true) rfl rfl ?_
          refine wpList_nil ?_
          refine p_then ?_
          refine wp_ret ?_
          obtain rfl := Option.some.inj hf
          refine ret_one (.bool true) rfl ⟨rfl, rfl⟩ hE73 ?_
          exact (RpV.mkBool _ _)
        · replace hf := onEnd_inr hf
          obtain ⟨rfl, F81, s82, v78, rfl, rfl, hE83, h79, h80⟩ := hp
          refine p_br ?_
          refine p_thenr ?_
          obtain rfl := Option.some.inj hf
          refine ret_one v78 rfl h79 hE83 ?_
          exact h80

def S_cmp_isNaN_int64 (f : (Int → Option Bool)) : Prop := ∀ (s0 : S) (v0 : Value) (a0 : Int) (r : Bool), RpV s0 a0 v0 → f a0 = some r → Ctr Go.Proofs.Try.prog 64 [v0] s0 (fun v τ => RpV τ r v)

set_option maxHeartbeats 1600000 in
set_option maxRecDepth 100000 in
theorem ok_cmp_isNaN_int64 : S_cmp_isNaN_int64 cmp_isNaN_int64 := by
  intro s0 v0 a0 r h0 hf
  obtain rfl := RpV.int h0
  unfold cmp_isNaN_int64 at hf
  have hE0 : ExtB s0.N s0 s0 := ExtB.refl _ _
  refine ctr_of 6 Go.Proofs.Try.func64 rfl rfl rfl rfl ?_
  refine wp_seq ?_
  refine wp_region_lit ?_
  refine r_assign (.bool false) rfl rfl ?_
  refine wpList_nil ?_
  refine p_then ?_
  refine wp_seq ?_
  refine wp_region_lit ?_
  refine r_move (.int .i64 a0) rfl rfl ?_
  refine r_move (.int .i64 a0) rfl rfl ?_
  refine r_bin (.int .i64 a0) (.int .i64 a0) (.bool (a0 != a0)) rfl rfl rfl rfl (b_neq) ?_
  refine r_assign (.bool (a0 != a0)) rfl rfl ?_
  refine wpList_nil ?_
  refine p_then ?_
  refine wp_ret ?_
  obtain rfl := Option.some.inj hf
  refine ret_one (.bool (a0 != a0)) rfl ⟨rfl, rfl⟩ hE0 ?_
  exact (RpV.mkBool _ _)

def S_cmp_Compare_int64 (f : (Int → Int → Option Int)) : Prop := ∀ (s0 : S) (v0 : Value) (v1 : Value) (a0 : Int) (a1 : Int) (r : Int), RpV s0 a0 v0 → RpV s0 a1 v1 → f a0 a1 = some r → Ctr Go.Proofs.Try.prog 38 [v0, v1] s0 (fun v τ => RpV τ r v)

set_option maxHeartbeats 1600000 in
set_option maxRecDepth 100000 in
theorem ok_cmp_Compare_int64 : S_cmp_Compare_int64 cmp_Compare_int64 := by
  intro s0 v0 v1 a0 a1 r h0 h1 hf
  obtain rfl := RpV.int h0
  obtain rfl := RpV.int h1
  unfold cmp_Compare_int64 at hf
  have hE0 : ExtB s0.N s0 s0 := ExtB.refl _ _
  refine ctr_of 20 Go.Proofs.Try.func38 rfl rfl rfl rfl ?_
  refine wp_seq ?_
  refine wp_region_lit ?_
  refine r_assign (.int .i64 0) rfl rfl ?_
  refine wpList_nil ?_
  refine p_then ?_
  refine wp_seq ?_
  refine wp_region_lit ?_
  refine r_move (.int .i64 a0) rfl rfl ?_
  obtain ⟨r1, e2, hf⟩ := bind_some hf
  refine r_call [.int .i64 a0] (evs1 rfl) rfl (ok_cmp_isNaN_int64 _ _ _ _ (RpV.mkInt _ _) e2) ?_
  intro v4 s3 hx5 hr6
  have hE7 := hE0.ext hE0.size hx5
  obtain rfl := RpV.bool hr6
  refine r_assign (.bool r1) rfl rfl ?_
  refine wpList_nil ?_
  refine p_then ?_
  refine wp_seq ?_
  refine wp_region_lit ?_
  refine r_move (.int .i64 a1) rfl rfl ?_
  obtain ⟨r8, e9, hf⟩ := bind_some hf
  refine r_call [.int .i64 a1] (evs1 rfl) rfl (ok_cmp_isNaN_int64 _ _ _ _ (RpV.mkInt _ _) e9) ?_
  intro v11 s10 hx12 hr13
  have hE14 := hE7.ext hE7.size hx12
  obtain rfl := RpV.bool hr13
  refine r_assign (.bool r8) rfl rfl ?_
  refine wpList_nil ?_
  refine p_then ?_
  refine wp_seq ?_
  refine wp_seq ?_
  refine wp_region_lit ?_
  refine r_move (.bool r1) rfl rfl ?_
  refine wpList_nil ?_
  refine p_then ?_
  refine if_else hf (fun hc15 hf => ?_) (fun hc15 hf => ?_)
  · refine c_true rfl hc15 rfl ?_
    refine wp_seq ?_
    refine wp_seq ?_
    refine wp_region_lit ?_
    refine r_move (.bool r8) rfl rfl ?_
    refine wpList_nil ?_
    refine p_then ?_
    refine if_else hf (fun hc16 hf => ?_) (fun hc16 hf => ?_)
    · refine c_true rfl hc16 rfl ?_
      refine wp_seq ?_
      refine wp_region_lit ?_
      refine r_assign (.int .i64 0) rfl rfl ?_
      refine wpList_nil ?_
      refine p_then ?_
      refine wp_ret ?_
      refine p_thenr ?_
      refine p_thenr ?_
      obtain rfl := Option.some.inj hf
      refine ret_one (.int .i64 0) rfl ⟨rfl, rfl⟩ hE14 ?_
      exact (RpV.mkInt _ _)
    · refine c_false rfl hc16 rfl ?_
      refine wp_skip ?_
      refine p_then ?_
      refine wp_seq ?_
      refine wp_region_lit ?_
      refine r_assign (.int .i64 (-1)) rfl rfl ?_
      refine wpList_nil ?_
      refine p_then ?_
      refine wp_ret ?_
      refine p_thenr ?_
      obtain rfl := Option.some.inj hf
      refine ret_one (.int .i64 (-1)) rfl ⟨rfl, rfl⟩ hE14 ?_
      exact (RpV.mkInt _ _)
  · refine c_false rfl hc15 rfl ?_
    refine wp_skip ?_
    refine p_then ?_
    refine wp_seq ?_
    refine wp_seq ?_
    refine wp_region_lit ?_
    refine r_move (.bool r8) rfl rfl ?_
    refine wpList_nil ?_
    refine p_then ?_
    refine if_else hf (fun hc17 hf => ?_) (fun hc17 hf => ?_)
    · refine c_true rfl hc17 rfl ?_
      refine wp_seq ?_
      refine wp_region_lit ?_
      refine r_assign (.int .i64 1) rfl rfl ?_
      refine wpList_nil ?_
      refine p_then ?_
      refine wp_ret ?_
      refine p_thenr ?_
      obtain rfl := Option.some.inj hf
      refine ret_one (.int .i64 1) rfl ⟨rfl, rfl⟩ hE14 ?_
      exact (RpV.mkInt _ _)
    · refine c_false rfl hc17 rfl ?_
      refine wp_skip ?_
      refine p_then ?_
      refine wp_seq ?_
      refine wp_seq ?_
      refine wp_region_lit ?_
      refine r_move (.int .i64 a0) rfl rfl ?_
      refine r_move (.int .i64 a1) rfl rfl ?_
      refine r_bin (.int .i64 a0) (.int .i64 a1) (.bool (decide (a0 < a1))) rfl rfl rfl rfl (b_lss) ?_
      refine wpList_nil ?_
      refine p_then ?_
      refine if_else hf (fun hc18 hf => ?_) (fun hc18 hf => ?_)
      · refine c_true rfl hc18 rfl ?_
        refine wp_seq ?_
        refine wp_region_lit ?_
        refine r_assign (.int .i64 (-1)) rfl rfl ?_
        refine wpList_nil ?_
        refine p_then ?_
        refine wp_ret ?_
        refine p_thenr ?_
        obtain rfl := Option.some.inj hf
        refine ret_one (.int .i64 (-1)) rfl ⟨rfl, rfl⟩ hE14 ?_
        exact (RpV.mkInt _ _)
      · refine c_false rfl hc18 rfl ?_
        refine wp_skip ?_
        refine p_then ?_
        refine wp_seq ?_
        refine wp_seq ?_
        refine wp_region_lit ?_
        refine r_move (.int .i64 a0) rfl rfl ?_
        refine r_move (.int .i64 a1) rfl rfl ?_
        refine r_bin (.int .i64 a0) (.int .i64 a1) (.bool (decide (a1 < a0))) rfl rfl rfl rfl (b_gtr) ?_
        refine wpList_nil ?_
        refine p_then ?_
        refine if_else hf (fun hc19 hf => ?_) (fun hc19 hf => ?_)
        · refine c_true rfl hc19 rfl ?_
          refine wp_seq ?_
          refine wp_region_lit ?_
          refine r_assign (.int .i64 1) rfl rfl ?_
          refine wpList_nil ?_
          refine p_then ?_
          refine wp_ret ?_
          refine p_thenr ?_
          obtain rfl := Option.some.inj hf
          refine ret_one (.int .i64 1) rfl ⟨rfl, rfl⟩ hE14 ?_
          exact (RpV.mkInt _ _)
        · refine c_false rfl hc19 rfl ?_
          refine wp_skip ?_
          refine p_then ?_
          refine wp_seq ?_
          refine wp_region_lit ?_
          refine r_assign (.int .i64 0) rfl rfl ?_
          refine wpList_nil ?_
          refine p_then ?_
          refine wp_ret ?_
          obtain rfl := Option.some.inj hf
          refine ret_one (.int .i64 0) rfl ⟨rfl, rfl⟩ hE14 ?_
          exact (RpV.mkInt _ _)

def S_value_compareLists_api_Key (f : ((List Key) → (List Key) → (Key → Key → Option Int) → Option Int)) : Prop := ∀ (s0 : S) (v0 : Value) (v1 : Value) (v2 : Value) (a0 : (List Key)) (a1 : (List Key)) (a2 : (Key → Key → Option Int)) (r : Int), RpV s0 a0 v0 → RpV s0 a1 v1 → Fn2 Go.Proofs.Try.prog s0 v2 a2 → f a0 a1 a2 = some r → Ctr Go.Proofs.Try.prog 40 [v0, v1, v2] s0 (fun v τ => RpV τ r v)

set_option maxHeartbeats 1600000 in
set_option maxRecDepth 100000 in
theorem ok_value_compareLists_api_Key : S_value_compareLists_api_Key value_compareLists_api_Key := by
  intro s0 v0 v1 v2 a0 a1 a2 r h0 h1 h2 hf
  obtain ⟨A1, c2, rfl, h3⟩ := RpV.list h0
  obtain ⟨A4, c5, rfl, h6⟩ := RpV.list h1
  have hg2 := h2
  obtain ⟨kk2, fi2, ca2, rfl, hk2⟩ := h2
  unfold value_compareLists_api_Key at hf
  have hE0 : ExtB s0.N s0 s0 := ExtB.refl _ _
  refine ctr_of 37 Go.Proofs.Try.func40 rfl rfl rfl rfl ?_
  refine wp_seq ?_
  refine wp_region_lit ?_
  refine r_assign (.int .i64 0) rfl rfl ?_
  refine wpList_nil ?_
  refine p_then ?_
  refine wp_seq ?_
  refine wp_seq ?_
  refine wp_region_lit ?_
  refine r_move (.slice A1 a0.length c2) rfl rfl ?_
  refine r_len A1 a0.length c2 rfl rfl Go.Proofs.Try.underlying23 ?_
  refine r_move (.slice A4 a1.length c5) rfl rfl ?_
  refine r_len A4 a1.length c5 rfl rfl Go.Proofs.Try.underlying23 ?_
  obtain ⟨r7, e8, hf⟩ := bind_some hf
  refine r_call [.int .i64 (a0.length : Int), .int .i64 (a1.length : Int)] (evs2 rfl rfl) rfl (ok_cmp_Compare_int _ _ _ _ _ _ (RpV.mkInt _ _) (RpV.mkInt _ _) e8) ?_
  intro v10 s9 hx11 hr12
  have hE13 := hE0.ext hE0.size hx11
  obtain rfl := RpV.int hr12
  refine r_assign (.int .i64 r7) rfl rfl ?_
  refine wpList_nil ?_
  refine p_then ?_
  refine wp_seq ?_
  refine wp_region_lit ?_
  refine r_move (.int .i64 r7) rfl rfl ?_
  refine r_bin (.int .i64 r7) (.int .i64 0) (.bool (r7 != 0)) rfl rfl rfl rfl (b_neq) ?_
  refine wpList_nil ?_
  refine p_then ?_
  refine if_else hf (fun hc14 hf => ?_) (fun hc14 hf => ?_)
  · refine c_true rfl hc14 rfl ?_
    refine wp_seq ?_
    refine wp_region_lit ?_
    refine r_move (.int .i64 r7) rfl rfl ?_
    refine r_assign (.int .i64 r7) rfl rfl ?_
    refine wpList_nil ?_
    refine p_then ?_
    refine wp_ret ?_
    refine p_thenr ?_
    obtain rfl := Option.some.inj hf
    refine ret_one (.int .i64 r7) rfl ⟨rfl, rfl⟩ hE13 ?_
    exact (RpV.mkInt _ _)
  · refine c_false rfl hc14 rfl ?_
    refine wp_skip ?_
    refine p_then ?_
    refine wp_seq ?_
    refine wp_seq ?_
    refine wp_region_lit ?_
    refine r_move (.slice A1 a0.length c2) rfl rfl ?_
    refine r_len A1 a0.length c2 rfl rfl Go.Proofs.Try.underlying23 ?_
    refine r_move (.int .i64 0) rfl rfl ?_
    refine wpList_nil ?_
    refine p_then ?_
    refine wp_block ?_
    refine gen_F fun F15 hg16 => ?_
    have hF17 : F15 0 = (.slice A1 a0.length c2) := (hg16 0).trans rfl
    have hF18 : F15 1 = (.slice A4 a1.length c5) := (hg16 1).trans rfl
    have hF19 : F15 2 = (.func (.func kk2) (List.toArray fi2) (List.toArray ca2)) := (hg16 2).trans rfl
    have hF20 : F15 6 = (.int .i64 0) := (hg16 6).trans rfl
    have hF21 : F15 19 = (.int .i64 (a0.length : Int)) := (hg16 19).trans rfl
    have hF22 : F15 20 = (.int .i64 0) := (hg16 20).trans rfl
    obtain ⟨o230, ho231, hf⟩ := bind_some hf
    refine wp_mono (wp_iter (step := value_compareLists_api_Key_l1 a0 a1 a2) (fun q a w => ∃ (F : Fr) (τ : S), a = fr 37 F ∧ w = τ.w ∧ Agr [6, 8, 9, 20, 21, 22, 23, 24, 25, 26, 27, 28, 29, 30, 31, 32, 33, 34, 35, 36] F F15 ∧ ExtB s0.N s0 τ ∧ Wext s9 τ ∧ F 20 = (.int .i64 q)) (fun o e a w => match o with | .inl q => e = .exit 0 ∧ ∃ (F : Fr) (τ : S), a = fr 37 F ∧ w = τ.w ∧ Agr [6, 8, 9, 20, 21, 22, 23, 24, 25, 26, 27, 28, 29, 30, 31, 32, 33, 34, 35, 36] F F15 ∧ ExtB s0.N s0 τ ∧ Wext s9 τ ∧ F 20 = (.int .i64 q) | .inr r => e = .ret ∧ ∃ (F : Fr) (τ : S) (va : Value), a = fr 37 F ∧ w = τ.w ∧ ExtB s0.N s0 τ ∧ ResV Go.Proofs.Try.prog 37 F τ.w (.tmp 6) va ∧ RpV τ r va) (by rintro (_ | _) a w ⟨h, _⟩ <;> cases h) ?_ _ _ _ _ _ ho231 ?_) ?_
    · intro q23 fl a w hf hI
      obtain ⟨F24, s25, rfl, rfl, hag26, hE27, hW28, h29⟩ := hI
      unfold value_compareLists_api_Key_l1 at hf
      have hF30 : F24 0 = (.slice A1 a0.length c2) := (hag26 0 rfl).trans hF17
      have hF31 : F24 1 = (.slice A4 a1.length c5) := (hag26 1 rfl).trans hF18
      have hF32 : F24 2 = (.func (.func kk2) (List.toArray fi2) (List.toArray ca2)) := (hag26 2 rfl).trans hF19
      have hF33 : F24 19 = (.int .i64 (a0.length : Int)) := (hag26 19 rfl).trans hF21
      refine wp_seq ?_
      refine wp_region_lit ?_
      refine r_bin (.int .i64 q23) (.int .i64 (a0.length : Int)) (.bool (decide (q23 < (a0.length : Int)))) h29 hF33 rfl rfl (b_lss) ?_
      refine wpList_nil ?_
      refine p_then ?_
      refine wp_seq ?_
      refine if_else hf (fun hc34 hf => ?_) (fun hc34 hf => ?_)
      · refine c_true rfl hc34 rfl ?_
        refine wp_skip ?_
        refine p_then ?_
        refine wp_seq ?_
        refine wp_block ?_
        refine wp_seq ?_
        refine wp_region_lit ?_
        refine r_move (.int .i64 q23) h29 rfl ?_
        refine r_assign (.int .i64 q23) rfl rfl ?_
        refine wpList_nil ?_
        refine p_then ?_
        refine wp_seq ?_
        obtain ⟨x35, e36, hf⟩ := bind_some hf
        obtain ⟨x37, e38, hf⟩ := bind_some hf
        obtain ⟨r39, e40, hf⟩ := bind_some hf
        refine wp_draw (B := s0.N) [some 23, some 24, some 25, some 26, some 27, some 28, some 29, some 30, some 31, some 32, some 9] [[], [], [], [1, 2], [1, 2, 3], [], [], [5, 6], [5, 6, 7], [0, 1, 2, 3, 4, 5, 6, 7, 8], [0, 1, 2, 3, 4, 5, 6, 7, 8, 9]] [Fct.eqv (.func (.func kk2) (List.toArray fi2) (List.toArray ca2)), Fct.eqv (.slice A1 a0.length c2), Fct.eqv (.int .i64 q23), Fct.elem (x35 : Key), Fct.data (x35 : Key), Fct.eqv (.slice A4 a1.length c5), Fct.eqv (.int .i64 q23), Fct.elem (x37 : Key), Fct.data (x37 : Key), Fct.eqv (.int .i64 r39), Fct.eqv (.int .i64 r39)] (fun D F τ => True) (by kernel_rfl) rfl (by decide) (by decide) trivial (by decide) (by decide) ⟨?_, ?_, ?_, ?_, ?_, ?_, ?_, ?_, ?_, ?_, ?_, trivial⟩ ?_
        · intro D44 F45 s46 d47 d48 d49 hE50 hW51 hG52 hfr53 hR54
          have hE55 := hE27.trans hE50
          refine r_move (.func (.func kk2) (List.toArray fi2) (List.toArray ca2)) ((hfr53 2 rfl).trans hF32) rfl ?_
          refine wpList_nil ?_
          exact ⟨_, _, rfl, rfl, ExtB.refl _ _, Wext.refl _, rfl, trivial⟩
        · intro D56 F57 s58 d59 d60 d61 hE62 hW63 hG64 hfr65 hR66
          have hE67 := hE27.trans hE62
          refine r_move (.slice A1 a0.length c2) ((hfr65 0 rfl).trans hF30) rfl ?_
          refine wpList_nil ?_
          exact ⟨_, _, rfl, rfl, ExtB.refl _ _, Wext.refl _, rfl, trivial⟩
        · intro D68 F69 s70 d71 d72 d73 hE74 hW75 hG76 hfr77 hR78
          have hE79 := hE27.trans hE74
          refine r_move (.int .i64 q23) ((hfr77 8 rfl).trans rfl) rfl ?_
          refine wpList_nil ?_
          exact ⟨_, _, rfl, rfl, ExtB.refl _ _, Wext.refl _, rfl, trivial⟩
        · intro D80 F81 s82 d83 d84 d85 hE86 hW87 hG88 hfr89 hR90
          have hE91 := hE27.trans hE86
          have q92 : F81 24 = (.slice A1 a0.length c2) := hR90 1 rfl 24 rfl
          have q93 : F81 25 = (.int .i64 q23) := hR90 2 rfl 25 rfl
          refine r_indexAddr (T := 23) (E := 60) (((h3.mono hx11.wext).mono hW28).mono hW87) e36 q92 q93 rfl rfl Go.Proofs.Try.underlying23 sz60 ?_
          intro b94 o95 cs96 hc97 hs98
          obtain rfl := Key.cells_iff.1 hc97
          refine wpList_nil ?_
          exact ⟨_, _, rfl, rfl, ExtB.refl _ _, Wext.refl _, ⟨_, _, _, rfl, (Key.cells_iff.2 rfl), hs98⟩, trivial⟩
        · intro D99 F100 s101 d102 d103 d104 hE105 hW106 hG107 hfr108 hR109
          have hE110 := hE27.trans hE105
          obtain ⟨b112, o113, cs114, hv115, hc116, hs117⟩ : (Fct.elem (x35 : Key)).p (F100 26) s101 := hR109 3 rfl 26 rfl
          obtain rfl := Key.cells_iff.1 hc116
          refine r_load b112 o113 (.agg #[.int .i64 x35.Kind, .string x35.Text]) hv115 rfl (loads_row tr60 hs117.2) ?_
          refine wpList_nil ?_
          exact ⟨_, _, rfl, rfl, ExtB.refl _ _, Wext.refl _, (Key.rpvMk (v := x35) ), trivial⟩
        · intro D118 F119 s120 d121 d122 d123 hE124 hW125 hG126 hfr127 hR128
          have hE129 := hE27.trans hE124
          refine r_move (.slice A4 a1.length c5) ((hfr127 1 rfl).trans hF31) rfl ?_
          refine wpList_nil ?_
          exact ⟨_, _, rfl, rfl, ExtB.refl _ _, Wext.refl _, rfl, trivial⟩
        · intro D130 F131 s132 d133 d134 d135 hE136 hW137 hG138 hfr139 hR140
          have hE141 := hE27.trans hE136
          refine r_move (.int .i64 q23) ((hfr139 8 rfl).trans rfl) rfl ?_
          refine wpList_nil ?_
          exact ⟨_, _, rfl, rfl, ExtB.refl _ _, Wext.refl _, rfl, trivial⟩
        · intro D142 F143 s144 d145 d146 d147 hE148 hW149 hG150 hfr151 hR152
          have hE153 := hE27.trans hE148
          have q154 : F143 28 = (.slice A4 a1.length c5) := hR152 5 rfl 28 rfl
          have q155 : F143 29 = (.int .i64 q23) := hR152 6 rfl 29 rfl
          refine r_indexAddr (T := 23) (E := 60) (((h6.mono hx11.wext).mono hW28).mono hW149) e38 q154 q155 rfl rfl Go.Proofs.Try.underlying23 sz60 ?_
          intro b156 o157 cs158 hc159 hs160
          obtain rfl := Key.cells_iff.1 hc159
          refine wpList_nil ?_
          exact ⟨_, _, rfl, rfl, ExtB.refl _ _, Wext.refl _, ⟨_, _, _, rfl, (Key.cells_iff.2 rfl), hs160⟩, trivial⟩
        · intro D161 F162 s163 d164 d165 d166 hE167 hW168 hG169 hfr170 hR171
          have hE172 := hE27.trans hE167
          obtain ⟨b174, o175, cs176, hv177, hc178, hs179⟩ : (Fct.elem (x37 : Key)).p (F162 30) s163 := hR171 7 rfl 30 rfl
          obtain rfl := Key.cells_iff.1 hc178
          refine r_load b174 o175 (.agg #[.int .i64 x37.Kind, .string x37.Text]) hv177 rfl (loads_row tr60 hs179.2) ?_
          refine wpList_nil ?_
          exact ⟨_, _, rfl, rfl, ExtB.refl _ _, Wext.refl _, (Key.rpvMk (v := x37) ), trivial⟩
        · intro D180 F181 s182 d183 d184 d185 hE186 hW187 hG188 hfr189 hR190
          have hE191 := hE27.trans hE186
          have q192 : F181 23 = (.func (.func kk2) (List.toArray fi2) (List.toArray ca2)) := hR190 0 rfl 23 rfl
          have q193 : RpV s182 (x35 : Key) (F181 27) := hR190 4 rfl 27 rfl
          have hv194 := Key.rpv q193
          have q195 : RpV s182 (x37 : Key) (F181 31) := hR190 8 rfl 31 rfl
          have hv196 := Key.rpv q195
          refine r_callv [.agg #[.int .i64 x35.Kind, .string x35.Text], .agg #[.int .i64 x37.Kind, .string x37.Text]] q192 rfl (evs2 hv194 hv196) rfl (hk2 s182 hE191 _ _ _ _ _ (Key.rpvMk (v := x35) ) (Key.rpvMk (v := x37) ) e40) ?_
          intro v198 s197 hx199 hr200
          have hE201 := hE191.ext hE191.size hx199
          obtain rfl := RpV.int hr200
          refine wpList_nil ?_
          exact ⟨_, _, rfl, rfl, (ExtB.refl _ _).trans (hx199.mono hE191.size), (Wext.refl _).trans hx199.wext, rfl, trivial⟩
        · intro D202 F203 s204 d205 d206 d207 hE208 hW209 hG210 hfr211 hR212
          have hE213 := hE27.trans hE208
          have q214 : F203 32 = (.int .i64 r39) := hR212 9 rfl 32 rfl
          refine r_assign (.int .i64 r39) q214 rfl ?_
          refine wpList_nil ?_
          exact ⟨_, _, rfl, rfl, ExtB.refl _ _, Wext.refl _, rfl, trivial⟩
        · intro F215 s216 hE217 hW218 hG219 hfr220 hR221
          have hE222 := hE27.trans hE217
          have hF223 : F215 0 = (.slice A1 a0.length c2) := (hfr220 0 rfl).trans hF30
          have hF224 : F215 1 = (.slice A4 a1.length c5) := (hfr220 1 rfl).trans hF31
          have hF225 : F215 2 = (.func (.func kk2) (List.toArray fi2) (List.toArray ca2)) := (hfr220 2 rfl).trans hF32
          have hF226 : F215 19 = (.int .i64 (a0.length : Int)) := (hfr220 19 rfl).trans hF33
          have hF227 : F215 20 = (.int .i64 q23) := (hfr220 20 rfl).trans h29
          have q228 : F215 9 = (.int .i64 r39) := hR221 10 9 rfl
          refine p_then ?_
          refine wp_seq ?_
          refine wp_region_lit ?_
          refine r_move (.int .i64 r39) q228 rfl ?_
          refine r_bin (.int .i64 r39) (.int .i64 0) (.bool (r39 != 0)) rfl rfl rfl rfl (b_neq) ?_
          refine wpList_nil ?_
          refine p_then ?_
          refine if_else hf (fun hc229 hf => ?_) (fun hc229 hf => ?_)
          · refine c_true rfl hc229 rfl ?_
            refine wp_seq ?_
            refine wp_region_lit ?_
            refine r_move (.int .i64 r39) q228 rfl ?_
            refine r_assign (.int .i64 r39) rfl rfl ?_
            refine wpList_nil ?_
            refine p_then ?_
            refine wp_ret ?_
            refine p_br ?_
            refine p_thenr ?_
            obtain rfl := Option.some.inj hf
            exact ⟨rfl, _, _, (.int .i64 r39), rfl, rfl, hE222, ⟨rfl, rfl⟩, (RpV.mkInt _ _)⟩
          · refine c_false rfl hc229 rfl ?_
            refine wp_skip ?_
            refine p_bn ?_
            refine p_then ?_
            refine wp_region_lit ?_
            refine r_bin (.int .i64 q23) (.int .i64 1) (.int .i64 (w64 (q23 + 1))) hF227 rfl rfl rfl (b_add) ?_
            refine r_move (.int .i64 (w64 (q23 + 1))) rfl rfl ?_
            refine wpList_nil ?_
            obtain rfl := Option.some.inj hf
            exact ⟨rfl, _, _, rfl, rfl, (((((((((hag26).put rfl).put rfl).put rfl).draw hfr220 rfl).put rfl).put rfl).put rfl).put rfl), hE222, (((Wext.refl _).trans hW28).trans hW218), rfl⟩
      · refine c_false rfl hc34 rfl ?_
        refine wp_exit ?_
        refine p_thenx ?_
        obtain rfl := Option.some.inj hf
        exact ⟨rfl, _, _, rfl, rfl, ((hag26).put rfl), hE27, ((Wext.refl _).trans hW28), h29⟩
    · exact ⟨_, _, rfl, rfl, (Agr.refl _ _), hE13, (Wext.refl _), hF22⟩
    · intro e a w hp
      rcases o230 with q232 | r
      · replace hf := onEnd_inl hf
        obtain ⟨rfl, F233, s234, rfl, rfl, hag235, hE236, hW237, h238⟩ := hp
        have hF239 : F233 0 = (.slice A1 a0.length c2) := (hag235 0 rfl).trans hF17
        have hF240 : F233 1 = (.slice A4 a1.length c5) := (hag235 1 rfl).trans hF18
        have hF241 : F233 2 = (.func (.func kk2) (List.toArray fi2) (List.toArray ca2)) := (hag235 2 rfl).trans hF19
        have hF242 : F233 19 = (.int .i64 (a0.length : Int)) := (hag235 19 rfl).trans hF21
        refine p_bx ?_
        refine p_then ?_
        refine wp_seq ?_
        refine wp_region_lit ?_
        refine r_assign (.int .i64 0) rfl rfl ?_
        refine wpList_nil ?_
        refine p_then ?_
        refine wp_ret ?_
        obtain rfl := Option.some.inj hf
        refine ret_one (.int .i64 0) rfl ⟨rfl, rfl⟩ hE236 ?_
        exact (RpV.mkInt _ _)
      · replace hf := onEnd_inr hf
        obtain ⟨rfl, F246, s247, v243, rfl, rfl, hE248, h244, h245⟩ := hp
        refine p_br ?_
        refine p_thenr ?_
        obtain rfl := Option.some.inj hf
        refine ret_one v243 rfl h244 hE248 ?_
        exact h245

def S_value_compareLists_api_Value (f : ((List Val) → (List Val) → (Val → Val → Option Int) → Option Int)) : Prop := ∀ (s0 : S) (v0 : Value) (v1 : Value) (v2 : Value) (a0 : (List Val)) (a1 : (List Val)) (a2 : (Val → Val → Option Int)) (r : Int), RpV s0 a0 v0 → RpV s0 a1 v1 → Fn2 Go.Proofs.Try.prog s0 v2 a2 → f a0 a1 a2 = some r → Ctr Go.Proofs.Try.prog 66 [v0, v1, v2] s0 (fun v τ => RpV τ r v)

set_option maxHeartbeats 1600000 in
set_option maxRecDepth 100000 in
theorem ok_value_compareLists_api_Value : S_value_compareLists_api_Value value_compareLists_api_Value := by
  intro s0 v0 v1 v2 a0 a1 a2 r h0 h1 h2 hf
  obtain ⟨A1, c2, rfl, h3⟩ := RpV.list h0
  obtain ⟨A4, c5, rfl, h6⟩ := RpV.list h1
  have hg2 := h2
  obtain ⟨kk2, fi2, ca2, rfl, hk2⟩ := h2
  unfold value_compareLists_api_Value at hf
  have hE0 : ExtB s0.N s0 s0 := ExtB.refl _ _
  refine ctr_of 37 Go.Proofs.Try.func66 rfl rfl rfl rfl ?_
  refine wp_seq ?_
  refine wp_region_lit ?_
  refine r_assign (.int .i64 0) rfl rfl ?_
  refine wpList_nil ?_
  refine p_then ?_
  refine wp_seq ?_
  refine wp_seq ?_
  refine wp_region_lit ?_
  refine r_move (.slice A1 a0.length c2) rfl rfl ?_
  refine r_len A1 a0.length c2 rfl rfl Go.Proofs.Try.underlying22 ?_
  refine r_move (.slice A4 a1.length c5) rfl rfl ?_
  refine r_len A4 a1.length c5 rfl rfl Go.Proofs.Try.underlying22 ?_
  obtain ⟨r7, e8, hf⟩ := bind_some hf
  refine r_call [.int .i64 (a0.length : Int), .int .i64 (a1.length : Int)] (evs2 rfl rfl) rfl (ok_cmp_Compare_int _ _ _ _ _ _ (RpV.mkInt _ _) (RpV.mkInt _ _) e8) ?_
  intro v10 s9 hx11 hr12
  have hE13 := hE0.ext hE0.size hx11
  obtain rfl := RpV.int hr12
  refine r_assign (.int .i64 r7) rfl rfl ?_
  refine wpList_nil ?_
  refine p_then ?_
  refine wp_seq ?_
  refine wp_region_lit ?_
  refine r_move (.int .i64 r7) rfl rfl ?_
  refine r_bin (.int .i64 r7) (.int .i64 0) (.bool (r7 != 0)) rfl rfl rfl rfl (b_neq) ?_
  refine wpList_nil ?_
  refine p_then ?_
  refine if_else hf (fun hc14 hf => ?_) (fun hc14 hf => ?_)
  · refine c_true rfl hc14 rfl ?_
    refine wp_seq ?_
    refine wp_region_lit ?_
    refine r_move (.int .i64 r7) rfl rfl ?_
    refine r_assign (.int .i64 r7) rfl rfl ?_
    refine wpList_nil ?_
    refine p_then ?_
    refine wp_ret ?_
    refine p_thenr ?_
    obtain rfl := Option.some.inj hf
    refine ret_one (.int .i64 r7) rfl ⟨rfl, rfl⟩ hE13 ?_
    exact (RpV.mkInt _ _)
  · refine c_false rfl hc14 rfl ?_
    refine wp_skip ?_
    refine p_then ?_
    refine wp_seq ?_
    refine wp_seq ?_
    refine wp_region_lit ?_
    refine r_move (.slice A1 a0.length c2) rfl rfl ?_
    refine r_len A1 a0.length c2 rfl rfl Go.Proofs.Try.underlying22 ?_
    refine r_move (.int .i64 0) rfl rfl ?_
    refine wpList_nil ?_
    refine p_then ?_
    refine wp_block ?_
    refine gen_F fun F15 hg16 => ?_
    have hF17 : F15 0 = (.slice A1 a0.length c2) := (hg16 0).trans rfl
    have hF18 : F15 1 = (.slice A4 a1.length c5) := (hg16 1).trans rfl
    have hF19 : F15 2 = (.func (.func kk2) (List.toArray fi2) (List.toArray ca2)) := (hg16 2).trans rfl
    have hF20 : F15 6 = (.int .i64 0) := (hg16 6).trans rfl
    have hF21 : F15 19 = (.int .i64 (a0.length : Int)) := (hg16 19).trans rfl
    have hF22 : F15 20 = (.int .i64 0) := (hg16 20).trans rfl
    obtain ⟨o302, ho303, hf⟩ := bind_some hf
    refine wp_mono (wp_iter (step := value_compareLists_api_Value_l1 a0 a1 a2) (fun q a w => ∃ (F : Fr) (τ : S), a = fr 37 F ∧ w = τ.w ∧ Agr [6, 8, 9, 20, 21, 22, 23, 24, 25, 26, 27, 28, 29, 30, 31, 32, 33, 34, 35, 36] F F15 ∧ ExtB s0.N s0 τ ∧ Wext s9 τ ∧ F 20 = (.int .i64 q)) (fun o e a w => match o with | .inl q => e = .exit 0 ∧ ∃ (F : Fr) (τ : S), a = fr 37 F ∧ w = τ.w ∧ Agr [6, 8, 9, 20, 21, 22, 23, 24, 25, 26, 27, 28, 29, 30, 31, 32, 33, 34, 35, 36] F F15 ∧ ExtB s0.N s0 τ ∧ Wext s9 τ ∧ F 20 = (.int .i64 q) | .inr r => e = .ret ∧ ∃ (F : Fr) (τ : S) (va : Value), a = fr 37 F ∧ w = τ.w ∧ ExtB s0.N s0 τ ∧ ResV Go.Proofs.Try.prog 37 F τ.w (.tmp 6) va ∧ RpV τ r va) (by rintro (_ | _) a w ⟨h, _⟩ <;> cases h) ?_ _ _ _ _ _ ho303 ?_) ?_
    · intro q23 fl a w hf hI
      obtain ⟨F24, s25, rfl, rfl, hag26, hE27, hW28, h29⟩ := hI
      unfold value_compareLists_api_Value_l1 at hf
      have hF30 : F24 0 = (.slice A1 a0.length c2) := (hag26 0 rfl).trans hF17
      have hF31 : F24 1 = (.slice A4 a1.length c5) := (hag26 1 rfl).trans hF18
      have hF32 : F24 2 = (.func (.func kk2) (List.toArray fi2) (List.toArray ca2)) := (hag26 2 rfl).trans hF19
      have hF33 : F24 19 = (.int .i64 (a0.length : Int)) := (hag26 19 rfl).trans hF21
      refine wp_seq ?_
      refine wp_region_lit ?_
      refine r_bin (.int .i64 q23) (.int .i64 (a0.length : Int)) (.bool (decide (q23 < (a0.length : Int)))) h29 hF33 rfl rfl (b_lss) ?_
      refine wpList_nil ?_
      refine p_then ?_
      refine wp_seq ?_
      refine if_else hf (fun hc34 hf => ?_) (fun hc34 hf => ?_)
      · refine c_true rfl hc34 rfl ?_
        refine wp_skip ?_
        refine p_then ?_
        refine wp_seq ?_
        refine wp_block ?_
        refine wp_seq ?_
        refine wp_region_lit ?_
        refine r_move (.int .i64 q23) h29 rfl ?_
        refine r_assign (.int .i64 q23) rfl rfl ?_
        refine wpList_nil ?_
        refine p_then ?_
        refine wp_seq ?_
        obtain ⟨x35, e36, hf⟩ := bind_some hf
        obtain ⟨x37, e38, hf⟩ := bind_some hf
        obtain ⟨r39, e40, hf⟩ := bind_some hf
        refine wp_draw (B := s0.N) [some 23, some 24, some 25, some 26, some 27, some 28, some 29, some 30, some 31, some 32, some 9] [[], [], [], [1, 2], [1, 2, 3], [], [], [5, 6], [5, 6, 7], [0, 1, 2, 3, 4, 5, 6, 7, 8], [0, 1, 2, 3, 4, 5, 6, 7, 8, 9]] [Fct.eqv (.func (.func kk2) (List.toArray fi2) (List.toArray ca2)), Fct.eqv (.slice A1 a0.length c2), Fct.eqv (.int .i64 q23), Fct.elem (x35 : Val), Fct.data (x35 : Val), Fct.eqv (.slice A4 a1.length c5), Fct.eqv (.int .i64 q23), Fct.elem (x37 : Val), Fct.data (x37 : Val), Fct.eqv (.int .i64 r39), Fct.eqv (.int .i64 r39)] (fun D F τ => True) (by kernel_rfl) rfl (by decide) (by decide) trivial (by decide) (by decide) ⟨?_, ?_, ?_, ?_, ?_, ?_, ?_, ?_, ?_, ?_, ?_, trivial⟩ ?_
        · intro D44 F45 s46 d47 d48 d49 hE50 hW51 hG52 hfr53 hR54
          have hE55 := hE27.trans hE50
          refine r_move (.func (.func kk2) (List.toArray fi2) (List.toArray ca2)) ((hfr53 2 rfl).trans hF32) rfl ?_
          refine wpList_nil ?_
          exact ⟨_, _, rfl, rfl, ExtB.refl _ _, Wext.refl _, rfl, trivial⟩
        · intro D56 F57 s58 d59 d60 d61 hE62 hW63 hG64 hfr65 hR66
          have hE67 := hE27.trans hE62
          refine r_move (.slice A1 a0.length c2) ((hfr65 0 rfl).trans hF30) rfl ?_
          refine wpList_nil ?_
          exact ⟨_, _, rfl, rfl, ExtB.refl _ _, Wext.refl _, rfl, trivial⟩
        · intro D68 F69 s70 d71 d72 d73 hE74 hW75 hG76 hfr77 hR78
          have hE79 := hE27.trans hE74
          refine r_move (.int .i64 q23) ((hfr77 8 rfl).trans rfl) rfl ?_
          refine wpList_nil ?_
          exact ⟨_, _, rfl, rfl, ExtB.refl _ _, Wext.refl _, rfl, trivial⟩
        · intro D80 F81 s82 d83 d84 d85 hE86 hW87 hG88 hfr89 hR90
          have hE91 := hE27.trans hE86
          have q92 : F81 24 = (.slice A1 a0.length c2) := hR90 1 rfl 24 rfl
          have q93 : F81 25 = (.int .i64 q23) := hR90 2 rfl 25 rfl
          refine r_indexAddr (T := 22) (E := 27) (((h3.mono hx11.wext).mono hW28).mono hW87) e36 q92 q93 rfl rfl Go.Proofs.Try.underlying22 sz27 ?_
          intro b94 o95 cs96 hc97 hs98
          obtain ⟨A99, c100, A102, c103, A105, c106, A108, c109, rfl, h101, h104, h107, h110⟩ := Val.cells_iff.1 hc97
          refine wpList_nil ?_
          exact ⟨_, _, rfl, rfl, ExtB.refl _ _, Wext.refl _, ⟨_, _, _, rfl, (Val.cells_iff.2 ⟨_, _, _, _, _, _, _, _, rfl, h101, h104, h107, h110⟩), hs98⟩, trivial⟩
        · intro D111 F112 s113 d114 d115 d116 hE117 hW118 hG119 hfr120 hR121
          have hE122 := hE27.trans hE117
          obtain ⟨b124, o125, cs126, hv127, hc128, hs129⟩ : (Fct.elem (x35 : Val)).p (F112 26) s113 := hR121 3 rfl 26 rfl
          obtain ⟨A130, c131, A133, c134, A136, c137, A139, c140, rfl, h132, h135, h138, h141⟩ := Val.cells_iff.1 hc128
          refine r_load b124 o125 (.agg #[.int .i64 x35.Kind, .int .i64 x35.Int_, .string x35.Text, .slice A130 x35.Kids.length c131, .slice A133 x35.Keys.length c134, .slice A136 x35.Entries.length c137, .slice A139 x35.Labels.length c140]) hv127 rfl (loads_row tr27 hs129.2) ?_
          refine wpList_nil ?_
          exact ⟨_, _, rfl, rfl, ExtB.refl _ _, Wext.refl _, (Val.rpvMk (v := x35) h132 h135 h138 h141), trivial⟩
        · intro D142 F143 s144 d145 d146 d147 hE148 hW149 hG150 hfr151 hR152
          have hE153 := hE27.trans hE148
          refine r_move (.slice A4 a1.length c5) ((hfr151 1 rfl).trans hF31) rfl ?_
          refine wpList_nil ?_
          exact ⟨_, _, rfl, rfl, ExtB.refl _ _, Wext.refl _, rfl, trivial⟩
        · intro D154 F155 s156 d157 d158 d159 hE160 hW161 hG162 hfr163 hR164
          have hE165 := hE27.trans hE160
          refine r_move (.int .i64 q23) ((hfr163 8 rfl).trans rfl) rfl ?_
          refine wpList_nil ?_
          exact ⟨_, _, rfl, rfl, ExtB.refl _ _, Wext.refl _, rfl, trivial⟩
        · intro D166 F167 s168 d169 d170 d171 hE172 hW173 hG174 hfr175 hR176
          have hE177 := hE27.trans hE172
          have q178 : F167 28 = (.slice A4 a1.length c5) := hR176 5 rfl 28 rfl
          have q179 : F167 29 = (.int .i64 q23) := hR176 6 rfl 29 rfl
          refine r_indexAddr (T := 22) (E := 27) (((h6.mono hx11.wext).mono hW28).mono hW173) e38 q178 q179 rfl rfl Go.Proofs.Try.underlying22 sz27 ?_
          intro b180 o181 cs182 hc183 hs184
          obtain ⟨A185, c186, A188, c189, A191, c192, A194, c195, rfl, h187, h190, h193, h196⟩ := Val.cells_iff.1 hc183
          refine wpList_nil ?_
          exact ⟨_, _, rfl, rfl, ExtB.refl _ _, Wext.refl _, ⟨_, _, _, rfl, (Val.cells_iff.2 ⟨_, _, _, _, _, _, _, _, rfl, h187, h190, h193, h196⟩), hs184⟩, trivial⟩
        · intro D197 F198 s199 d200 d201 d202 hE203 hW204 hG205 hfr206 hR207
          have hE208 := hE27.trans hE203
          obtain ⟨b210, o211, cs212, hv213, hc214, hs215⟩ : (Fct.elem (x37 : Val)).p (F198 30) s199 := hR207 7 rfl 30 rfl
          obtain ⟨A216, c217, A219, c220, A222, c223, A225, c226, rfl, h218, h221, h224, h227⟩ := Val.cells_iff.1 hc214
          refine r_load b210 o211 (.agg #[.int .i64 x37.Kind, .int .i64 x37.Int_, .string x37.Text, .slice A216 x37.Kids.length c217, .slice A219 x37.Keys.length c220, .slice A222 x37.Entries.length c223, .slice A225 x37.Labels.length c226]) hv213 rfl (loads_row tr27 hs215.2) ?_
          refine wpList_nil ?_
          exact ⟨_, _, rfl, rfl, ExtB.refl _ _, Wext.refl _, (Val.rpvMk (v := x37) h218 h221 h224 h227), trivial⟩
        · intro D228 F229 s230 d231 d232 d233 hE234 hW235 hG236 hfr237 hR238
          have hE239 := hE27.trans hE234
          have q240 : F229 23 = (.func (.func kk2) (List.toArray fi2) (List.toArray ca2)) := hR238 0 rfl 23 rfl
          have q241 : RpV s230 (x35 : Val) (F229 27) := hR238 4 rfl 27 rfl
          obtain ⟨A242, c243, A245, c246, A248, c249, A251, c252, hv254, h244, h247, h250, h253⟩ := Val.rpv q241
          have q255 : RpV s230 (x37 : Val) (F229 31) := hR238 8 rfl 31 rfl
          obtain ⟨A256, c257, A259, c260, A262, c263, A265, c266, hv268, h258, h261, h264, h267⟩ := Val.rpv q255
          refine r_callv [.agg #[.int .i64 x35.Kind, .int .i64 x35.Int_, .string x35.Text, .slice A242 x35.Kids.length c243, .slice A245 x35.Keys.length c246, .slice A248 x35.Entries.length c249, .slice A251 x35.Labels.length c252], .agg #[.int .i64 x37.Kind, .int .i64 x37.Int_, .string x37.Text, .slice A256 x37.Kids.length c257, .slice A259 x37.Keys.length c260, .slice A262 x37.Entries.length c263, .slice A265 x37.Labels.length c266]] q240 rfl (evs2 hv254 hv268) rfl (hk2 s230 hE239 _ _ _ _ _ (Val.rpvMk (v := x35) h244 h247 h250 h253) (Val.rpvMk (v := x37) h258 h261 h264 h267) e40) ?_
          intro v270 s269 hx271 hr272
          have hE273 := hE239.ext hE239.size hx271
          obtain rfl := RpV.int hr272
          refine wpList_nil ?_
          exact ⟨_, _, rfl, rfl, (ExtB.refl _ _).trans (hx271.mono hE239.size), (Wext.refl _).trans hx271.wext, rfl, trivial⟩
        · intro D274 F275 s276 d277 d278 d279 hE280 hW281 hG282 hfr283 hR284
          have hE285 := hE27.trans hE280
          have q286 : F275 32 = (.int .i64 r39) := hR284 9 rfl 32 rfl
          refine r_assign (.int .i64 r39) q286 rfl ?_
          refine wpList_nil ?_
          exact ⟨_, _, rfl, rfl, ExtB.refl _ _, Wext.refl _, rfl, trivial⟩
        · intro F287 s288 hE289 hW290 hG291 hfr292 hR293
          have hE294 := hE27.trans hE289
          have hF295 : F287 0 = (.slice A1 a0.length c2) := (hfr292 0 rfl).trans hF30
          have hF296 : F287 1 = (.slice A4 a1.length c5) := (hfr292 1 rfl).trans hF31
          have hF297 : F287 2 = (.func (.func kk2) (List.toArray fi2) (List.toArray ca2)) := (hfr292 2 rfl).trans hF32
          have hF298 : F287 19 = (.int .i64 (a0.length : Int)) := (hfr292 19 rfl).trans hF33
          have hF299 : F287 20 = (.int .i64 q23) := (hfr292 20 rfl).trans h29
          have q300 : F287 9 = (.int .i64 r39) := hR293 10 9 rfl
          refine p_then ?_
          refine wp_seq ?_
          refine wp_region_lit ?_
          refine r_move (.int .i64 r39) q300 rfl ?_
          refine r_bin (.int .i64 r39) (.int .i64 0) (.bool (r39 != 0)) rfl rfl rfl rfl (b_neq) ?_
          refine wpList_nil ?_
          refine p_then ?_
          refine if_else hf (fun hc301 hf => ?_) (fun hc301 hf => ?_)
          · refine c_true rfl hc301 rfl ?_
            refine wp_seq ?_
            refine wp_region_lit ?_
            refine r_move (.int .i64 r39) q300 rfl ?_
            refine r_assign (.int .i64 r39) rfl rfl ?_
            refine wpList_nil ?_
            refine p_then ?_
            refine wp_ret ?_
            refine p_br ?_
            refine p_thenr ?_
            obtain rfl := Option.some.inj hf
            exact ⟨rfl, _, _, (.int .i64 r39), rfl, rfl, hE294, ⟨rfl, rfl⟩, (RpV.mkInt _ _)⟩
          · refine c_false rfl hc301 rfl ?_
            refine wp_skip ?_
            refine p_bn ?_
            refine p_then ?_
            refine wp_region_lit ?_
            refine r_bin (.int .i64 q23) (.int .i64 1) (.int .i64 (w64 (q23 + 1))) hF299 rfl rfl rfl (b_add) ?_
            refine r_move (.int .i64 (w64 (q23 + 1))) rfl rfl ?_
            refine wpList_nil ?_
            obtain rfl := Option.some.inj hf
            exact ⟨rfl, _, _, rfl, rfl, (((((((((hag26).put rfl).put rfl).put rfl).draw hfr292 rfl).put rfl).put rfl).put rfl).put rfl), hE294, (((Wext.refl _).trans hW28).trans hW290), rfl⟩
      · refine c_false rfl hc34 rfl ?_
        refine wp_exit ?_
        refine p_thenx ?_
        obtain rfl := Option.some.inj hf
        exact ⟨rfl, _, _, rfl, rfl, ((hag26).put rfl), hE27, ((Wext.refl _).trans hW28), h29⟩
    · exact ⟨_, _, rfl, rfl, (Agr.refl _ _), hE13, (Wext.refl _), hF22⟩
    · intro e a w hp
      rcases o302 with q304 | r
      · replace hf := onEnd_inl hf
        obtain ⟨rfl, F305, s306, rfl, rfl, hag307, hE308, hW309, h310⟩ := hp
        have hF311 : F305 0 = (.slice A1 a0.length c2) := (hag307 0 rfl).trans hF17
        have hF312 : F305 1 = (.slice A4 a1.length c5) := (hag307 1 rfl).trans hF18
        have hF313 : F305 2 = (.func (.func kk2) (List.toArray fi2) (List.toArray ca2)) := (hag307 2 rfl).trans hF19
        have hF314 : F305 19 = (.int .i64 (a0.length : Int)) := (hag307 19 rfl).trans hF21
        refine p_bx ?_
        refine p_then ?_
        refine wp_seq ?_
        refine wp_region_lit ?_
        refine r_assign (.int .i64 0) rfl rfl ?_
        refine wpList_nil ?_
        refine p_then ?_
        refine wp_ret ?_
        obtain rfl := Option.some.inj hf
        refine ret_one (.int .i64 0) rfl ⟨rfl, rfl⟩ hE308 ?_
        exact (RpV.mkInt _ _)
      · replace hf := onEnd_inr hf
        obtain ⟨rfl, F318, s319, v315, rfl, rfl, hE320, h316, h317⟩ := hp
        refine p_br ?_
        refine p_thenr ?_
        obtain rfl := Option.some.inj hf
        refine ret_one v315 rfl h316 hE320 ?_
        exact h317

def S_value_compareLists_api_Entry (f : ((List Ent) → (List Ent) → (Ent → Ent → Option Int) → Option Int)) : Prop := ∀ (s0 : S) (v0 : Value) (v1 : Value) (v2 : Value) (a0 : (List Ent)) (a1 : (List Ent)) (a2 : (Ent → Ent → Option Int)) (r : Int), RpV s0 a0 v0 → RpV s0 a1 v1 → Fn2 Go.Proofs.Try.prog s0 v2 a2 → f a0 a1 a2 = some r → Ctr Go.Proofs.Try.prog 43 [v0, v1, v2] s0 (fun v τ => RpV τ r v)

end Go.Sx
