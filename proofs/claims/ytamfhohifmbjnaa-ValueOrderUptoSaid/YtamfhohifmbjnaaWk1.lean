/- Printed by dec.py. The walks. -/
import Derived.Test.YtamfhohifmbjnaaWk0
namespace Go.Sx
open Go Go.RowKit
attribute [local irreducible] Go.wpList Go.Code.wp Go.Sx.Ctr

set_option maxHeartbeats 1600000 in
set_option maxRecDepth 100000 in
theorem ok_value_compareLists_api_Entry : S_value_compareLists_api_Entry value_compareLists_api_Entry := by
  intro s0 v0 v1 v2 a0 a1 a2 r h0 h1 h2 hf
  obtain ⟨A1, c2, rfl, h3⟩ := RpV.list h0
  obtain ⟨A4, c5, rfl, h6⟩ := RpV.list h1
  have hg2 := h2
  obtain ⟨kk2, fi2, ca2, rfl, hk2⟩ := h2
  unfold value_compareLists_api_Entry at hf
  have hE0 : ExtB s0.N s0 s0 := ExtB.refl _ _
  refine ctr_of 37 Go.Proofs.Try.func43 rfl rfl rfl rfl ?_
  refine wp_seq ?_
  refine wp_region_lit ?_
  refine r_assign (.int .i64 0) rfl rfl ?_
  refine wpList_nil ?_
  refine p_then ?_
  refine wp_seq ?_
  refine wp_seq ?_
  refine wp_region_lit ?_
  refine r_move (.slice A1 a0.length c2) rfl rfl ?_
  refine r_len A1 a0.length c2 rfl rfl Go.Proofs.Try.underlying24 ?_
  refine r_move (.slice A4 a1.length c5) rfl rfl ?_
  refine r_len A4 a1.length c5 rfl rfl Go.Proofs.Try.underlying24 ?_
  obtain ⟨r7, e8, hf⟩ := bind_some hf
  refine r_call [.int .i64 (a0.length : Int), .int .i64 (a1.length : Int)] (evs2 rfl rfl) rfl (ok_cmp_Compare_int _ _ _ _ _ _ (RpV.mkInt _ _) (RpV.mkInt _ _) e8) ?_
  intro v10 s9 hx11 hr12
  have hE13 := hE0.ext hE0.size hx11
  obtain rfl := RpV.int hr12
  refine r_assign (.int .i64 r7) rfl rfl ?_
  refine wpList_nil ?_
  refine p_then ?_
  refine wp_seq ?_
  refine wp_region_lit ?_
  refine r_move (.int .i64 r7) rfl rfl ?_
  refine r_bin (.int .i64 r7) (.int .i64 0) (.bool (r7 != 0)) rfl rfl rfl rfl (b_neq) ?_
  refine wpList_nil ?_
  refine p_then ?_
  refine if_else hf (fun hc14 hf => ?_) (fun hc14 hf => ?_)
  · refine c_true rfl hc14 rfl ?_
    refine wp_seq ?_
    refine wp_region_lit ?_
    refine r_move (.int .i64 r7) rfl rfl ?_
    refine r_assign (.int .i64 r7) rfl rfl ?_
    refine wpList_nil ?_
    refine p_then ?_
    refine wp_ret ?_
    refine p_thenr ?_
    obtain rfl := Option.some.inj hf
    refine ret_one (.int .i64 r7) rfl ⟨rfl, rfl⟩ hE13 ?_
    exact (RpV.mkInt _ _)
  · refine c_false rfl hc14 rfl ?_
    refine wp_skip ?_
    refine p_then ?_
    refine wp_seq ?_
    refine wp_seq ?_
    refine wp_region_lit ?_
    refine r_move (.slice A1 a0.length c2) rfl rfl ?_
    refine r_len A1 a0.length c2 rfl rfl Go.Proofs.Try.underlying24 ?_
    refine r_move (.int .i64 0) rfl rfl ?_
    refine wpList_nil ?_
    refine p_then ?_
    refine wp_block ?_
    refine gen_F fun F15 hg16 => ?_
    have hF17 : F15 0 = (.slice A1 a0.length c2) := (hg16 0).trans rfl
    have hF18 : F15 1 = (.slice A4 a1.length c5) := (hg16 1).trans rfl
    have hF19 : F15 2 = (.func (.func kk2) (List.toArray fi2) (List.toArray ca2)) := (hg16 2).trans rfl
    have hF20 : F15 6 = (.int .i64 0) := (hg16 6).trans rfl
    have hF21 : F15 19 = (.int .i64 (a0.length : Int)) := (hg16 19).trans rfl
    have hF22 : F15 20 = (.int .i64 0) := (hg16 20).trans rfl
    obtain ⟨o320, ho321, hf⟩ := bind_some hf
    refine wp_mono (wp_iter (step := value_compareLists_api_Entry_l1 a0 a1 a2) (fun q a w => ∃ (F : Fr) (τ : S), a = fr 37 F ∧ w = τ.w ∧ Agr [6, 8, 9, 20, 21, 22, 23, 24, 25, 26, 27, 28, 29, 30, 31, 32, 33, 34, 35, 36] F F15 ∧ ExtB s0.N s0 τ ∧ Wext s9 τ ∧ F 20 = (.int .i64 q)) (fun o e a w => match o with | .inl q => e = .exit 0 ∧ ∃ (F : Fr) (τ : S), a = fr 37 F ∧ w = τ.w ∧ Agr [6, 8, 9, 20, 21, 22, 23, 24, 25, 26, 27, 28, 29, 30, 31, 32, 33, 34, 35, 36] F F15 ∧ ExtB s0.N s0 τ ∧ Wext s9 τ ∧ F 20 = (.int .i64 q) | .inr r => e = .ret ∧ ∃ (F : Fr) (τ : S) (va : Value), a = fr 37 F ∧ w = τ.w ∧ ExtB s0.N s0 τ ∧ ResV Go.Proofs.Try.prog 37 F τ.w (.tmp 6) va ∧ RpV τ r va) (by rintro (_ | _) a w ⟨h, _⟩ <;> cases h) ?_ _ _ _ _ _ ho321 ?_) ?_
    · intro q23 fl a w hf hI
      obtain ⟨F24, s25, rfl, rfl, hag26, hE27, hW28, h29⟩ := hI
      unfold value_compareLists_api_Entry_l1 at hf
      have hF30 : F24 0 = (.slice A1 a0.length c2) := (hag26 0 rfl).trans hF17
      have hF31 : F24 1 = (.slice A4 a1.length c5) := (hag26 1 rfl).trans hF18
      have hF32 : F24 2 = (.func (.func kk2) (List.toArray fi2) (List.toArray ca2)) := (hag26 2 rfl).trans hF19
      have hF33 : F24 19 = (.int .i64 (a0.length : Int)) := (hag26 19 rfl).trans hF21
      refine wp_seq ?_
      refine wp_region_lit ?_
      refine r_bin (.int .i64 q23) (.int .i64 (a0.length : Int)) (.bool (decide (q23 < (a0.length : Int)))) h29 hF33 rfl rfl (b_lss) ?_
      refine wpList_nil ?_
      refine p_then ?_
      refine wp_seq ?_
      refine if_else hf (fun hc34 hf => ?_) (fun hc34 hf => ?_)
      · refine c_true rfl hc34 rfl ?_
        refine wp_skip ?_
        refine p_then ?_
        refine wp_seq ?_
        refine wp_block ?_
        refine wp_seq ?_
        refine wp_region_lit ?_
        refine r_move (.int .i64 q23) h29 rfl ?_
        refine r_assign (.int .i64 q23) rfl rfl ?_
        refine wpList_nil ?_
        refine p_then ?_
        refine wp_seq ?_
        obtain ⟨x35, e36, hf⟩ := bind_some hf
        obtain ⟨x37, e38, hf⟩ := bind_some hf
        obtain ⟨r39, e40, hf⟩ := bind_some hf
        refine wp_draw (B := s0.N) [some 23, some 24, some 25, some 26, some 27, some 28, some 29, some 30, some 31, some 32, some 9] [[], [], [], [1, 2], [1, 2, 3], [], [], [5, 6], [5, 6, 7], [0, 1, 2, 3, 4, 5, 6, 7, 8], [0, 1, 2, 3, 4, 5, 6, 7, 8, 9]] [Fct.eqv (.func (.func kk2) (List.toArray fi2) (List.toArray ca2)), Fct.eqv (.slice A1 a0.length c2), Fct.eqv (.int .i64 q23), Fct.elem (x35 : Ent), Fct.data (x35 : Ent), Fct.eqv (.slice A4 a1.length c5), Fct.eqv (.int .i64 q23), Fct.elem (x37 : Ent), Fct.data (x37 : Ent), Fct.eqv (.int .i64 r39), Fct.eqv (.int .i64 r39)] (fun D F τ => True) (by kernel_rfl) rfl (by decide) (by decide) trivial (by decide) (by decide) ⟨?_, ?_, ?_, ?_, ?_, ?_, ?_, ?_, ?_, ?_, ?_, trivial⟩ ?_
        · intro D44 F45 s46 d47 d48 d49 hE50 hW51 hG52 hfr53 hR54
          have hE55 := hE27.trans hE50
          refine r_move (.func (.func kk2) (List.toArray fi2) (List.toArray ca2)) ((hfr53 2 rfl).trans hF32) rfl ?_
          refine wpList_nil ?_
          exact ⟨_, _, rfl, rfl, ExtB.refl _ _, Wext.refl _, rfl, trivial⟩
        · intro D56 F57 s58 d59 d60 d61 hE62 hW63 hG64 hfr65 hR66
          have hE67 := hE27.trans hE62
          refine r_move (.slice A1 a0.length c2) ((hfr65 0 rfl).trans hF30) rfl ?_
          refine wpList_nil ?_
          exact ⟨_, _, rfl, rfl, ExtB.refl _ _, Wext.refl _, rfl, trivial⟩
        · intro D68 F69 s70 d71 d72 d73 hE74 hW75 hG76 hfr77 hR78
          have hE79 := hE27.trans hE74
          refine r_move (.int .i64 q23) ((hfr77 8 rfl).trans rfl) rfl ?_
          refine wpList_nil ?_
          exact ⟨_, _, rfl, rfl, ExtB.refl _ _, Wext.refl _, rfl, trivial⟩
        · intro D80 F81 s82 d83 d84 d85 hE86 hW87 hG88 hfr89 hR90
          have hE91 := hE27.trans hE86
          have q92 : F81 24 = (.slice A1 a0.length c2) := hR90 1 rfl 24 rfl
          have q93 : F81 25 = (.int .i64 q23) := hR90 2 rfl 25 rfl
          refine r_indexAddr (T := 24) (E := 65) (((h3.mono hx11.wext).mono hW28).mono hW87) e36 q92 q93 rfl rfl Go.Proofs.Try.underlying24 sz65 ?_
          intro b94 o95 cs96 hc97 hs98
          obtain ⟨A99, c100, A102, c103, A105, c106, A108, c109, A111, c112, rfl, h101, h104, h107, h110, h113⟩ := Ent.cells_iff.1 hc97
          refine wpList_nil ?_
          exact ⟨_, _, rfl, rfl, ExtB.refl _ _, Wext.refl _, ⟨_, _, _, rfl, (Ent.cells_iff.2 ⟨_, _, _, _, _, _, _, _, _, _, rfl, h101, h104, h107, h110, h113⟩), hs98⟩, trivial⟩
        · intro D114 F115 s116 d117 d118 d119 hE120 hW121 hG122 hfr123 hR124
          have hE125 := hE27.trans hE120
          obtain ⟨b127, o128, cs129, hv130, hc131, hs132⟩ : (Fct.elem (x35 : Ent)).p (F115 26) s116 := hR124 3 rfl 26 rfl
          obtain ⟨A133, c134, A136, c137, A139, c140, A142, c143, A145, c146, rfl, h135, h138, h141, h144, h147⟩ := Ent.cells_iff.1 hc131
          refine r_load b127 o128 (.agg #[.slice A133 x35.Args.length c134, .bool x35.Fails, .int .i64 x35.Result.Kind, .int .i64 x35.Result.Int_, .string x35.Result.Text, .slice A136 x35.Result.Kids.length c137, .slice A139 x35.Result.Keys.length c140, .slice A142 x35.Result.Entries.length c143, .slice A145 x35.Result.Labels.length c146]) hv130 rfl (loads_row tr65 hs132.2) ?_
          refine wpList_nil ?_
          exact ⟨_, _, rfl, rfl, ExtB.refl _ _, Wext.refl _, (Ent.rpvMk (v := x35) h135 h138 h141 h144 h147), trivial⟩
        · intro D148 F149 s150 d151 d152 d153 hE154 hW155 hG156 hfr157 hR158
          have hE159 := hE27.trans hE154
          refine r_move (.slice A4 a1.length c5) ((hfr157 1 rfl).trans hF31) rfl ?_
          refine wpList_nil ?_
          exact ⟨_, _, rfl, rfl, ExtB.refl _ _, Wext.refl _, rfl, trivial⟩
        · intro D160 F161 s162 d163 d164 d165 hE166 hW167 hG168 hfr169 hR170
          have hE171 := hE27.trans hE166
          refine r_move (.int .i64 q23) ((hfr169 8 rfl).trans rfl) rfl ?_
          refine wpList_nil ?_
          exact ⟨_, _, rfl, rfl, ExtB.refl _ _, Wext.refl _, rfl, trivial⟩
        · intro D172 F173 s174 d175 d176 d177 hE178 hW179 hG180 hfr181 hR182
          have hE183 := hE27.trans hE178
          have q184 : F173 28 = (.slice A4 a1.length c5) := hR182 5 rfl 28 rfl
          have q185 : F173 29 = (.int .i64 q23) := hR182 6 rfl 29 rfl
          refine r_indexAddr (T := 24) (E := 65) (((h6.mono hx11.wext).mono hW28).mono hW179) e38 q184 q185 rfl rfl Go.Proofs.Try.underlying24 sz65 ?_
          intro b186 o187 cs188 hc189 hs190
          obtain ⟨A191, c192, A194, c195, A197, c198, A200, c201, A203, c204, rfl, h193, h196, h199, h202, h205⟩ := Ent.cells_iff.1 hc189
          refine wpList_nil ?_
          exact ⟨_, _, rfl, rfl, ExtB.refl _ _, Wext.refl _, ⟨_, _, _, rfl, (Ent.cells_iff.2 ⟨_, _, _, _, _, _, _, _, _, _, rfl, h193, h196, h199, h202, h205⟩), hs190⟩, trivial⟩
        · intro D206 F207 s208 d209 d210 d211 hE212 hW213 hG214 hfr215 hR216
          have hE217 := hE27.trans hE212
          obtain ⟨b219, o220, cs221, hv222, hc223, hs224⟩ : (Fct.elem (x37 : Ent)).p (F207 30) s208 := hR216 7 rfl 30 rfl
          obtain ⟨A225, c226, A228, c229, A231, c232, A234, c235, A237, c238, rfl, h227, h230, h233, h236, h239⟩ := Ent.cells_iff.1 hc223
          refine r_load b219 o220 (.agg #[.slice A225 x37.Args.length c226, .bool x37.Fails, .int .i64 x37.Result.Kind, .int .i64 x37.Result.Int_, .string x37.Result.Text, .slice A228 x37.Result.Kids.length c229, .slice A231 x37.Result.Keys.length c232, .slice A234 x37.Result.Entries.length c235, .slice A237 x37.Result.Labels.length c238]) hv222 rfl (loads_row tr65 hs224.2) ?_
          refine wpList_nil ?_
          exact ⟨_, _, rfl, rfl, ExtB.refl _ _, Wext.refl _, (Ent.rpvMk (v := x37) h227 h230 h233 h236 h239), trivial⟩
        · intro D240 F241 s242 d243 d244 d245 hE246 hW247 hG248 hfr249 hR250
          have hE251 := hE27.trans hE246
          have q252 : F241 23 = (.func (.func kk2) (List.toArray fi2) (List.toArray ca2)) := hR250 0 rfl 23 rfl
          have q253 : RpV s242 (x35 : Ent) (F241 27) := hR250 4 rfl 27 rfl
          obtain ⟨A254, c255, A257, c258, A260, c261, A263, c264, A266, c267, hv269, h256, h259, h262, h265, h268⟩ := Ent.rpv q253
          have q270 : RpV s242 (x37 : Ent) (F241 31) := hR250 8 rfl 31 rfl
          obtain ⟨A271, c272, A274, c275, A277, c278, A280, c281, A283, c284, hv286, h273, h276, h279, h282, h285⟩ := Ent.rpv q270
          refine r_callv [.agg #[.slice A254 x35.Args.length c255, .bool x35.Fails, .int .i64 x35.Result.Kind, .int .i64 x35.Result.Int_, .string x35.Result.Text, .slice A257 x35.Result.Kids.length c258, .slice A260 x35.Result.Keys.length c261, .slice A263 x35.Result.Entries.length c264, .slice A266 x35.Result.Labels.length c267], .agg #[.slice A271 x37.Args.length c272, .bool x37.Fails, .int .i64 x37.Result.Kind, .int .i64 x37.Result.Int_, .string x37.Result.Text, .slice A274 x37.Result.Kids.length c275, .slice A277 x37.Result.Keys.length c278, .slice A280 x37.Result.Entries.length c281, .slice A283 x37.Result.Labels.length c284]] q252 rfl (evs2 hv269 hv286) rfl (hk2 s242 hE251 _ _ _ _ _ (Ent.rpvMk (v := x35) h256 h259 h262 h265 h268) (Ent.rpvMk (v := x37) h273 h276 h279 h282 h285) e40) ?_
          intro v288 s287 hx289 hr290
          have hE291 := hE251.ext hE251.size hx289
          obtain rfl := RpV.int hr290
          refine wpList_nil ?_
          exact ⟨_, _, rfl, rfl, (ExtB.refl _ _).trans (hx289.mono hE251.size), (Wext.refl _).trans hx289.wext, rfl, trivial⟩
        · intro D292 F293 s294 d295 d296 d297 hE298 hW299 hG300 hfr301 hR302
          have hE303 := hE27.trans hE298
          have q304 : F293 32 = (.int .i64 r39) := hR302 9 rfl 32 rfl
          refine r_assign (.int .i64 r39) q304 rfl ?_
          refine wpList_nil ?_
          exact ⟨_, _, rfl, rfl, ExtB.refl _ _, Wext.refl _, rfl, trivial⟩
        · intro F305 s306 hE307 hW308 hG309 hfr310 hR311
          have hE312 := hE27.trans hE307
          have hF313 : F305 0 = (.slice A1 a0.length c2) := (hfr310 0 rfl).trans hF30
          have hF314 : F305 1 = (.slice A4 a1.length c5) := (hfr310 1 rfl).trans hF31
          have hF315 : F305 2 = (.func (.func kk2) (List.toArray fi2) (List.toArray ca2)) := (hfr310 2 rfl).trans hF32
          have hF316 : F305 19 = (.int .i64 (a0.length : Int)) := (hfr310 19 rfl).trans hF33
          have hF317 : F305 20 = (.int .i64 q23) := (hfr310 20 rfl).trans h29
          have q318 : F305 9 = (.int .i64 r39) := hR311 10 9 rfl
          refine p_then ?_
          refine wp_seq ?_
          refine wp_region_lit ?_
          refine r_move (.int .i64 r39) q318 rfl ?_
          refine r_bin (.int .i64 r39) (.int .i64 0) (.bool (r39 != 0)) rfl rfl rfl rfl (b_neq) ?_
          refine wpList_nil ?_
          refine p_then ?_
          refine if_else hf (fun hc319 hf => ?_) (fun hc319 hf => ?_)
          · refine c_true rfl hc319 rfl ?_
            refine wp_seq ?_
            refine wp_region_lit ?_
            refine r_move (.int .i64 r39) q318 rfl ?_
            refine r_assign (.int .i64 r39) rfl rfl ?_
            refine wpList_nil ?_
            refine p_then ?_
            refine wp_ret ?_
            refine p_br ?_
            refine p_thenr ?_
            obtain rfl := Option.some.inj hf
            exact ⟨rfl, _, _, (.int .i64 r39), rfl, rfl, hE312, ⟨rfl, rfl⟩, (RpV.mkInt _ _)⟩
          · refine c_false rfl hc319 rfl ?_
            refine wp_skip ?_
            refine p_bn ?_
            refine p_then ?_
            refine wp_region_lit ?_
            refine r_bin (.int .i64 q23) (.int .i64 1) (.int .i64 (w64 (q23 + 1))) hF317 rfl rfl rfl (b_add) ?_
            refine r_move (.int .i64 (w64 (q23 + 1))) rfl rfl ?_
            refine wpList_nil ?_
            obtain rfl := Option.some.inj hf
            exact ⟨rfl, _, _, rfl, rfl, (((((((((hag26).put rfl).put rfl).put rfl).draw hfr310 rfl).put rfl).put rfl).put rfl).put rfl), hE312, (((Wext.refl _).trans hW28).trans hW308), rfl⟩
      · refine c_false rfl hc34 rfl ?_
        refine wp_exit ?_
        refine p_thenx ?_
        obtain rfl := Option.some.inj hf
        exact ⟨rfl, _, _, rfl, rfl, ((hag26).put rfl), hE27, ((Wext.refl _).trans hW28), h29⟩
    · exact ⟨_, _, rfl, rfl, (Agr.refl _ _), hE13, (Wext.refl _), hF22⟩
    · intro e a w hp
      rcases o320 with q322 | r
      · replace hf := onEnd_inl hf
        obtain ⟨rfl, F323, s324, rfl, rfl, hag325, hE326, hW327, h328⟩ := hp
        have hF329 : F323 0 = (.slice A1 a0.length c2) := (hag325 0 rfl).trans hF17
        have hF330 : F323 1 = (.slice A4 a1.length c5) := (hag325 1 rfl).trans hF18
        have hF331 : F323 2 = (.func (.func kk2) (List.toArray fi2) (List.toArray ca2)) := (hag325 2 rfl).trans hF19
        have hF332 : F323 19 = (.int .i64 (a0.length : Int)) := (hag325 19 rfl).trans hF21
        refine p_bx ?_
        refine p_then ?_
        refine wp_seq ?_
        refine wp_region_lit ?_
        refine r_assign (.int .i64 0) rfl rfl ?_
        refine wpList_nil ?_
        refine p_then ?_
        refine wp_ret ?_
        obtain rfl := Option.some.inj hf
        refine ret_one (.int .i64 0) rfl ⟨rfl, rfl⟩ hE326 ?_
        exact (RpV.mkInt _ _)
      · replace hf := onEnd_inr hf
        obtain ⟨rfl, F336, s337, v333, rfl, rfl, hE338, h334, h335⟩ := hp
        refine p_br ?_
        refine p_thenr ?_
        obtain rfl := Option.some.inj hf
        refine ret_one v333 rfl h334 hE338 ?_
        exact h335

def S_value_compareLists_string (f : ((List ByteArray) → (List ByteArray) → (ByteArray → ByteArray → Option Int) → Option Int)) : Prop := ∀ (s0 : S) (v0 : Value) (v1 : Value) (v2 : Value) (a0 : (List ByteArray)) (a1 : (List ByteArray)) (a2 : (ByteArray → ByteArray → Option Int)) (r : Int), RpV s0 a0 v0 → RpV s0 a1 v1 → Fn2 Go.Proofs.Try.prog s0 v2 a2 → f a0 a1 a2 = some r → Ctr Go.Proofs.Try.prog 45 [v0, v1, v2] s0 (fun v τ => RpV τ r v)

set_option maxHeartbeats 1600000 in
set_option maxRecDepth 100000 in
theorem ok_value_compareLists_string : S_value_compareLists_string value_compareLists_string := by
  intro s0 v0 v1 v2 a0 a1 a2 r h0 h1 h2 hf
  obtain ⟨A1, c2, rfl, h3⟩ := RpV.list h0
  obtain ⟨A4, c5, rfl, h6⟩ := RpV.list h1
  have hg2 := h2
  obtain ⟨kk2, fi2, ca2, rfl, hk2⟩ := h2
  unfold value_compareLists_string at hf
  have hE0 : ExtB s0.N s0 s0 := ExtB.refl _ _
  refine ctr_of 37 Go.Proofs.Try.func45 rfl rfl rfl rfl ?_
  refine wp_seq ?_
  refine wp_region_lit ?_
  refine r_assign (.int .i64 0) rfl rfl ?_
  refine wpList_nil ?_
  refine p_then ?_
  refine wp_seq ?_
  refine wp_seq ?_
  refine wp_region_lit ?_
  refine r_move (.slice A1 a0.length c2) rfl rfl ?_
  refine r_len A1 a0.length c2 rfl rfl Go.Proofs.Try.underlying25 ?_
  refine r_move (.slice A4 a1.length c5) rfl rfl ?_
  refine r_len A4 a1.length c5 rfl rfl Go.Proofs.Try.underlying25 ?_
  obtain ⟨r7, e8, hf⟩ := bind_some hf
  refine r_call [.int .i64 (a0.length : Int), .int .i64 (a1.length : Int)] (evs2 rfl rfl) rfl (ok_cmp_Compare_int _ _ _ _ _ _ (RpV.mkInt _ _) (RpV.mkInt _ _) e8) ?_
  intro v10 s9 hx11 hr12
  have hE13 := hE0.ext hE0.size hx11
  obtain rfl := RpV.int hr12
  refine r_assign (.int .i64 r7) rfl rfl ?_
  refine wpList_nil ?_
  refine p_then ?_
  refine wp_seq ?_
  refine wp_region_lit ?_
  refine r_move (.int .i64 r7) rfl rfl ?_
  refine r_bin (.int .i64 r7) (.int .i64 0) (.bool (r7 != 0)) rfl rfl rfl rfl (b_neq) ?_
  refine wpList_nil ?_
  refine p_then ?_
  refine if_else hf (fun hc14 hf => ?_) (fun hc14 hf => ?_)
  · refine c_true rfl hc14 rfl ?_
    refine wp_seq ?_
    refine wp_region_lit ?_
    refine r_move (.int .i64 r7) rfl rfl ?_
    refine r_assign (.int .i64 r7) rfl rfl ?_
    refine wpList_nil ?_
    refine p_then ?_
    refine wp_ret ?_
    refine p_thenr ?_
    obtain rfl := Option.some.inj hf
    refine ret_one (.int .i64 r7) rfl ⟨rfl, rfl⟩ hE13 ?_
    exact (RpV.mkInt _ _)
  · refine c_false rfl hc14 rfl ?_
    refine wp_skip ?_
    refine p_then ?_
    refine wp_seq ?_
    refine wp_seq ?_
    refine wp_region_lit ?_
    refine r_move (.slice A1 a0.length c2) rfl rfl ?_
    refine r_len A1 a0.length c2 rfl rfl Go.Proofs.Try.underlying25 ?_
    refine r_move (.int .i64 0) rfl rfl ?_
    refine wpList_nil ?_
    refine p_then ?_
    refine wp_block ?_
    refine gen_F fun F15 hg16 => ?_
    have hF17 : F15 0 = (.slice A1 a0.length c2) := (hg16 0).trans rfl
    have hF18 : F15 1 = (.slice A4 a1.length c5) := (hg16 1).trans rfl
    have hF19 : F15 2 = (.func (.func kk2) (List.toArray fi2) (List.toArray ca2)) := (hg16 2).trans rfl
    have hF20 : F15 6 = (.int .i64 0) := (hg16 6).trans rfl
    have hF21 : F15 19 = (.int .i64 (a0.length : Int)) := (hg16 19).trans rfl
    have hF22 : F15 20 = (.int .i64 0) := (hg16 20).trans rfl
    obtain ⟨o228, ho229, hf⟩ := bind_some hf
    refine wp_mono (wp_iter (step := value_compareLists_string_l1 a0 a1 a2) (fun q a w => ∃ (F : Fr) (τ : S), a = fr 37 F ∧ w = τ.w ∧ Agr [6, 8, 9, 20, 21, 22, 23, 24, 25, 26, 27, 28, 29, 30, 31, 32, 33, 34, 35, 36] F F15 ∧ ExtB s0.N s0 τ ∧ Wext s9 τ ∧ F 20 = (.int .i64 q)) (fun o e a w => match o with | .inl q => e = .exit 0 ∧ ∃ (F : Fr) (τ : S), a = fr 37 F ∧ w = τ.w ∧ Agr [6, 8, 9, 20, 21, 22, 23, 24, 25, 26, 27, 28, 29, 30, 31, 32, 33, 34, 35, 36] F F15 ∧ ExtB s0.N s0 τ ∧ Wext s9 τ ∧ F 20 = (.int .i64 q) | .inr r => e = .ret ∧ ∃ (F : Fr) (τ : S) (va : Value), a = fr 37 F ∧ w = τ.w ∧ ExtB s0.N s0 τ ∧ ResV Go.Proofs.Try.prog 37 F τ.w (.tmp 6) va ∧ RpV τ r va) (by rintro (_ | _) a w ⟨h, _⟩ <;> cases h) ?_ _ _ _ _ _ ho229 ?_) ?_
    · intro q23 fl a w hf hI
      obtain ⟨F24, s25, rfl, rfl, hag26, hE27, hW28, h29⟩ := hI
      unfold value_compareLists_string_l1 at hf
      have hF30 : F24 0 = (.slice A1 a0.length c2) := (hag26 0 rfl).trans hF17
      have hF31 : F24 1 = (.slice A4 a1.length c5) := (hag26 1 rfl).trans hF18
      have hF32 : F24 2 = (.func (.func kk2) (List.toArray fi2) (List.toArray ca2)) := (hag26 2 rfl).trans hF19
      have hF33 : F24 19 = (.int .i64 (a0.length : Int)) := (hag26 19 rfl).trans hF21
      refine wp_seq ?_
      refine wp_region_lit ?_
      refine r_bin (.int .i64 q23) (.int .i64 (a0.length : Int)) (.bool (decide (q23 < (a0.length : Int)))) h29 hF33 rfl rfl (b_lss) ?_
      refine wpList_nil ?_
      refine p_then ?_
      refine wp_seq ?_
      refine if_else hf (fun hc34 hf => ?_) (fun hc34 hf => ?_)
      · refine c_true rfl hc34 rfl ?_
        refine wp_skip ?_
        refine p_then ?_
        refine wp_seq ?_
        refine wp_block ?_
        refine wp_seq ?_
        refine wp_region_lit ?_
        refine r_move (.int .i64 q23) h29 rfl ?_
        refine r_assign (.int .i64 q23) rfl rfl ?_
        refine wpList_nil ?_
        refine p_then ?_
        refine wp_seq ?_
        obtain ⟨x35, e36, hf⟩ := bind_some hf
        obtain ⟨x37, e38, hf⟩ := bind_some hf
        obtain ⟨r39, e40, hf⟩ := bind_some hf
        refine wp_draw (B := s0.N) [some 23, some 24, some 25, some 26, some 27, some 28, some 29, some 30, some 31, some 32, some 9] [[], [], [], [1, 2], [1, 2, 3], [], [], [5, 6], [5, 6, 7], [0, 1, 2, 3, 4, 5, 6, 7, 8], [0, 1, 2, 3, 4, 5, 6, 7, 8, 9]] [Fct.eqv (.func (.func kk2) (List.toArray fi2) (List.toArray ca2)), Fct.eqv (.slice A1 a0.length c2), Fct.eqv (.int .i64 q23), Fct.elem (x35 : ByteArray), Fct.eqv (.string x35), Fct.eqv (.slice A4 a1.length c5), Fct.eqv (.int .i64 q23), Fct.elem (x37 : ByteArray), Fct.eqv (.string x37), Fct.eqv (.int .i64 r39), Fct.eqv (.int .i64 r39)] (fun D F τ => True) (by kernel_rfl) rfl (by decide) (by decide) trivial (by decide) (by decide) ⟨?_, ?_, ?_, ?_, ?_, ?_, ?_, ?_, ?_, ?_, ?_, trivial⟩ ?_
        · intro D44 F45 s46 d47 d48 d49 hE50 hW51 hG52 hfr53 hR54
          have hE55 := hE27.trans hE50
          refine r_move (.func (.func kk2) (List.toArray fi2) (List.toArray ca2)) ((hfr53 2 rfl).trans hF32) rfl ?_
          refine wpList_nil ?_
          exact ⟨_, _, rfl, rfl, ExtB.refl _ _, Wext.refl _, rfl, trivial⟩
        · intro D56 F57 s58 d59 d60 d61 hE62 hW63 hG64 hfr65 hR66
          have hE67 := hE27.trans hE62
          refine r_move (.slice A1 a0.length c2) ((hfr65 0 rfl).trans hF30) rfl ?_
          refine wpList_nil ?_
          exact ⟨_, _, rfl, rfl, ExtB.refl _ _, Wext.refl _, rfl, trivial⟩
        · intro D68 F69 s70 d71 d72 d73 hE74 hW75 hG76 hfr77 hR78
          have hE79 := hE27.trans hE74
          refine r_move (.int .i64 q23) ((hfr77 8 rfl).trans rfl) rfl ?_
          refine wpList_nil ?_
          exact ⟨_, _, rfl, rfl, ExtB.refl _ _, Wext.refl _, rfl, trivial⟩
        · intro D80 F81 s82 d83 d84 d85 hE86 hW87 hG88 hfr89 hR90
          have hE91 := hE27.trans hE86
          have q92 : F81 24 = (.slice A1 a0.length c2) := hR90 1 rfl 24 rfl
          have q93 : F81 25 = (.int .i64 q23) := hR90 2 rfl 25 rfl
          refine r_indexAddr (T := 25) (E := 9) (((h3.mono hx11.wext).mono hW28).mono hW87) e36 q92 q93 rfl rfl Go.Proofs.Try.underlying25 sz9 ?_
          intro b94 o95 cs96 hc97 hs98
          obtain rfl := hc97
          refine wpList_nil ?_
          exact ⟨_, _, rfl, rfl, ExtB.refl _ _, Wext.refl _, ⟨_, _, _, rfl, rfl, hs98⟩, trivial⟩
        · intro D99 F100 s101 d102 d103 d104 hE105 hW106 hG107 hfr108 hR109
          have hE110 := hE27.trans hE105
          obtain ⟨b112, o113, cs114, hv115, hc116, hs117⟩ : (Fct.elem (x35 : ByteArray)).p (F100 26) s101 := hR109 3 rfl 26 rfl
          obtain rfl := hc116
          refine r_load b112 o113 (.string x35) hv115 rfl (loads_one to9 (hs117.2 0 _ rfl)) ?_
          refine wpList_nil ?_
          exact ⟨_, _, rfl, rfl, ExtB.refl _ _, Wext.refl _, rfl, trivial⟩
        · intro D118 F119 s120 d121 d122 d123 hE124 hW125 hG126 hfr127 hR128
          have hE129 := hE27.trans hE124
          refine r_move (.slice A4 a1.length c5) ((hfr127 1 rfl).trans hF31) rfl ?_
          refine wpList_nil ?_
          exact ⟨_, _, rfl, rfl, ExtB.refl _ _, Wext.refl _, rfl, trivial⟩
        · intro D130 F131 s132 d133 d134 d135 hE136 hW137 hG138 hfr139 hR140
          have hE141 := hE27.trans hE136
          refine r_move (.int .i64 q23) ((hfr139 8 rfl).trans rfl) rfl ?_
          refine wpList_nil ?_
          exact ⟨_, _, rfl, rfl, ExtB.refl _ _, Wext.refl _, rfl, trivial⟩
        · intro D142 F143 s144 d145 d146 d147 hE148 hW149 hG150 hfr151 hR152
          have hE153 := hE27.trans hE148
          have q154 : F143 28 = (.slice A4 a1.length c5) := hR152 5 rfl 28 rfl
          have q155 : F143 29 = (.int .i64 q23) := hR152 6 rfl 29 rfl
          refine r_indexAddr (T := 25) (E := 9) (((h6.mono hx11.wext).mono hW28).mono hW149) e38 q154 q155 rfl rfl Go.Proofs.Try.underlying25 sz9 ?_
          intro b156 o157 cs158 hc159 hs160
          obtain rfl := hc159
          refine wpList_nil ?_
          exact ⟨_, _, rfl, rfl, ExtB.refl _ _, Wext.refl _, ⟨_, _, _, rfl, rfl, hs160⟩, trivial⟩
        · intro D161 F162 s163 d164 d165 d166 hE167 hW168 hG169 hfr170 hR171
          have hE172 := hE27.trans hE167
          obtain ⟨b174, o175, cs176, hv177, hc178, hs179⟩ : (Fct.elem (x37 : ByteArray)).p (F162 30) s163 := hR171 7 rfl 30 rfl
          obtain rfl := hc178
          refine r_load b174 o175 (.string x37) hv177 rfl (loads_one to9 (hs179.2 0 _ rfl)) ?_
          refine wpList_nil ?_
          exact ⟨_, _, rfl, rfl, ExtB.refl _ _, Wext.refl _, rfl, trivial⟩
        · intro D180 F181 s182 d183 d184 d185 hE186 hW187 hG188 hfr189 hR190
          have hE191 := hE27.trans hE186
          have q192 : F181 23 = (.func (.func kk2) (List.toArray fi2) (List.toArray ca2)) := hR190 0 rfl 23 rfl
          have q193 : F181 27 = (.string x35) := hR190 4 rfl 27 rfl
          have q194 : F181 31 = (.string x37) := hR190 8 rfl 31 rfl
          refine r_callv [.string x35, .string x37] q192 rfl (evs2 q193 q194) rfl (hk2 s182 hE191 _ _ _ _ _ (RpV.mkStr _ _) (RpV.mkStr _ _) e40) ?_
          intro v196 s195 hx197 hr198
          have hE199 := hE191.ext hE191.size hx197
          obtain rfl := RpV.int hr198
          refine wpList_nil ?_
          exact ⟨_, _, rfl, rfl, (ExtB.refl _ _).trans (hx197.mono hE191.size), (Wext.refl _).trans hx197.wext, rfl, trivial⟩
        · intro D200 F201 s202 d203 d204 d205 hE206 hW207 hG208 hfr209 hR210
          have hE211 := hE27.trans hE206
          have q212 : F201 32 = (.int .i64 r39) := hR210 9 rfl 32 rfl
          refine r_assign (.int .i64 r39) q212 rfl ?_
          refine wpList_nil ?_
          exact ⟨_, _, rfl, rfl, ExtB.refl _ _, Wext.refl _, rfl, trivial⟩
        · intro F213 s214 hE215 hW216 hG217 hfr218 hR219
          have hE220 := hE27.trans hE215
          have hF221 : F213 0 = (.slice A1 a0.length c2) := (hfr218 0 rfl).trans hF30
          have hF222 : F213 1 = (.slice A4 a1.length c5) := (hfr218 1 rfl).trans hF31
          have hF223 : F213 2 = (.func (.func kk2) (List.toArray fi2) (List.toArray ca2)) := (hfr218 2 rfl).trans hF32
          have hF224 : F213 19 = (.int .i64 (a0.length : Int)) := (hfr218 19 rfl).trans hF33
          have hF225 : F213 20 = (.int .i64 q23) := (hfr218 20 rfl).trans h29
          have q226 : F213 9 = (.int .i64 r39) := hR219 10 9 rfl
          refine p_then ?_
          refine wp_seq ?_
          refine wp_region_lit ?_
          refine r_move (.int .i64 r39) q226 rfl ?_
          refine r_bin (.int .i64 r39) (.int .i64 0) (.bool (r39 != 0)) rfl rfl rfl rfl (b_neq) ?_
          refine wpList_nil ?_
          refine p_then ?_
          refine if_else hf (fun hc227 hf => ?_) (fun hc227 hf => ?_)
          · refine c_true rfl hc227 rfl ?_
            refine wp_seq ?_
            refine wp_region_lit ?_
            refine r_move (.int .i64 r39) q226 rfl ?_
            refine r_assign (.int .i64 r39) rfl rfl ?_
            refine wpList_nil ?_
            refine p_then ?_
            refine wp_ret ?_
            refine p_br ?_
            refine p_thenr ?_
            obtain rfl := Option.some.inj hf
            exact ⟨rfl, _, _, (.int .i64 r39), rfl, rfl, hE220, ⟨rfl, rfl⟩, (RpV.mkInt _ _)⟩
          · refine c_false rfl hc227 rfl ?_
            refine wp_skip ?_
            refine p_bn ?_
            refine p_then ?_
            refine wp_region_lit ?_
            refine r_bin (.int .i64 q23) (.int .i64 1) (.int .i64 (w64 (q23 + 1))) hF225 rfl rfl rfl (b_add) ?_
            refine r_move (.int .i64 (w64 (q23 + 1))) rfl rfl ?_
            refine wpList_nil ?_
            obtain rfl := Option.some.inj hf
            exact ⟨rfl, _, _, rfl, rfl, (((((((((hag26).put rfl).put rfl).put rfl).draw hfr218 rfl).put rfl).put rfl).put rfl).put rfl), hE220, (((Wext.refl _).trans hW28).trans hW216), rfl⟩
      · refine c_false rfl hc34 rfl ?_
        refine wp_exit ?_
        refine p_thenx ?_
        obtain rfl := Option.some.inj hf
        exact ⟨rfl, _, _, rfl, rfl, ((hag26).put rfl), hE27, ((Wext.refl _).trans hW28), h29⟩
    · exact ⟨_, _, rfl, rfl, (Agr.refl _ _), hE13, (Wext.refl _), hF22⟩
    · intro e a w hp
      rcases o228 with q230 | r
      · replace hf := onEnd_inl hf
        obtain ⟨rfl, F231, s232, rfl, rfl, hag233, hE234, hW235, h236⟩ := hp
        have hF237 : F231 0 = (.slice A1 a0.length c2) := (hag233 0 rfl).trans hF17
        have hF238 : F231 1 = (.slice A4 a1.length c5) := (hag233 1 rfl).trans hF18
        have hF239 : F231 2 = (.func (.func kk2) (List.toArray fi2) (List.toArray ca2)) := (hag233 2 rfl).trans hF19
        have hF240 : F231 19 = (.int .i64 (a0.length : Int)) := (hag233 19 rfl).trans hF21
        refine p_bx ?_
        refine p_then ?_
        refine wp_seq ?_
        refine wp_region_lit ?_
        refine r_assign (.int .i64 0) rfl rfl ?_
        refine wpList_nil ?_
        refine p_then ?_
        refine wp_ret ?_
        obtain rfl := Option.some.inj hf
        refine ret_one (.int .i64 0) rfl ⟨rfl, rfl⟩ hE234 ?_
        exact (RpV.mkInt _ _)
      · replace hf := onEnd_inr hf
        obtain ⟨rfl, F244, s245, v241, rfl, rfl, hE246, h242, h243⟩ := hp
        refine p_br ?_
        refine p_thenr ?_
        obtain rfl := Option.some.inj hf
        refine ret_one v241 rfl h242 hE246 ?_
        exact h243

def S_value_Compare (f : (Val → Val → Option Int)) : Prop := ∀ (s0 : S) (v0 : Value) (v1 : Value) (a0 : Val) (a1 : Val) (r : Int), RpV s0 a0 v0 → RpV s0 a1 v1 → f a0 a1 = some r → Ctr Go.Proofs.Try.prog 12 [v0, v1] s0 (fun v τ => RpV τ r v)

def S_value_compareValues (f : ((List Val) → (List Val) → Option Int)) : Prop := ∀ (s0 : S) (v0 : Value) (v1 : Value) (a0 : (List Val)) (a1 : (List Val)) (r : Int), RpV s0 a0 v0 → RpV s0 a1 v1 → f a0 a1 = some r → Ctr Go.Proofs.Try.prog 42 [v0, v1] s0 (fun v τ => RpV τ r v)

def S_value_compareEntries (f : (Ent → Ent → Option Int)) : Prop := ∀ (s0 : S) (v0 : Value) (v1 : Value) (a0 : Ent) (a1 : Ent) (r : Int), RpV s0 a0 v0 → RpV s0 a1 v1 → f a0 a1 = some r → Ctr Go.Proofs.Try.prog 44 [v0, v1] s0 (fun v τ => RpV τ r v)

set_option maxHeartbeats 1600000 in
set_option maxRecDepth 100000 in
theorem okB_value_Compare {rec_value_Compare : (Val → Val → Option Int)} {rec_value_compareValues : ((List Val) → (List Val) → Option Int)} {rec_value_compareEntries : (Ent → Ent → Option Int)} (hrec_value_Compare : S_value_Compare rec_value_Compare) (hrec_value_compareValues : S_value_compareValues rec_value_compareValues) (hrec_value_compareEntries : S_value_compareEntries rec_value_compareEntries) : S_value_Compare (value_Compare_B rec_value_Compare rec_value_compareValues rec_value_compareEntries) := by
  intro s0 v0 v1 a0 a1 r h0 h1 hf
  obtain ⟨A1, c2, A4, c5, A7, c8, A10, c11, rfl, h3, h6, h9, h12⟩ := Val.rpv h0
  obtain ⟨A13, c14, A16, c17, A19, c20, A22, c23, rfl, h15, h18, h21, h24⟩ := Val.rpv h1
  unfold value_Compare_B at hf
  have hE0 : ExtB s0.N s0 s0 := ExtB.refl _ _
  refine ctr_of 64 Go.Proofs.Try.func12 rfl rfl rfl rfl ?_
  refine wp_seq ?_
  refine wp_region_lit ?_
  refine r_box (B := s0.N) 1 hE0.size (.agg #[.int .i64 a0.Kind, .int .i64 a0.Int_, .string a0.Text, .slice A1 a0.Kids.length c2, .slice A4 a0.Keys.length c5, .slice A7 a0.Entries.length c8, .slice A10 a0.Labels.length c11]) [.int .i64 a0.Kind, .int .i64 a0.Int_, .string a0.Text, .slice A1 a0.Kids.length c2, .slice A4 a0.Keys.length c5, .slice A7 a0.Entries.length c8, .slice A10 a0.Labels.length c11] rfl rfl rfl ?_
  intro s26 b25 hx27 hb28
  have hE29 := hE0.ext hE0.size hx27
  refine r_box (B := s0.N) 2 hE29.size (.agg #[.int .i64 a1.Kind, .int .i64 a1.Int_, .string a1.Text, .slice A13 a1.Kids.length c14, .slice A16 a1.Keys.length c17, .slice A19 a1.Entries.length c20, .slice A22 a1.Labels.length c23]) [.int .i64 a1.Kind, .int .i64 a1.Int_, .string a1.Text, .slice A13 a1.Kids.length c14, .slice A16 a1.Keys.length c17, .slice A19 a1.Entries.length c20, .slice A22 a1.Labels.length c23] rfl rfl rfl ?_
  intro s31 b30 hx32 hb33
  have hE34 := hE29.ext hE29.size hx32
  refine r_assign (.int .i64 0) rfl rfl ?_
  refine wpList_nil ?_
  refine p_then ?_
  refine wp_seq ?_
  refine wp_seq ?_
  refine wp_region_lit ?_
  refine r_fieldAddr b25 0 0 0 rfl rfl fo27_0 rfl ?_
  refine r_load b25 0 (.int .i64 a0.Kind) rfl rfl (loads_one to3 (((hb28.ext hx32).cell 0).trans rfl)) ?_
  refine r_fieldAddr b30 0 0 0 rfl rfl fo27_0 rfl ?_
  refine r_load b30 0 (.int .i64 a1.Kind) rfl rfl (loads_one to3 ((hb33.cell 0).trans rfl)) ?_
  obtain ⟨r35, e36, hf⟩ := bind_some hf
  refine r_call [.int .i64 a0.Kind, .int .i64 a1.Kind] (evs2 rfl rfl) rfl (ok_cmp_Compare_int _ _ _ _ _ _ (RpV.mkInt _ _) (RpV.mkInt _ _) e36) ?_
  intro v38 s37 hx39 hr40
  have hE41 := hE34.ext hE34.size hx39
  obtain rfl := RpV.int hr40
  refine r_assign (.int .i64 r35) rfl rfl ?_
  refine wpList_nil ?_
  refine p_then ?_
  refine wp_seq ?_
  refine wp_region_lit ?_
  refine r_move (.int .i64 r35) rfl rfl ?_
  refine r_bin (.int .i64 r35) (.int .i64 0) (.bool (r35 != 0)) rfl rfl rfl rfl (b_neq) ?_
  refine wpList_nil ?_
  refine p_then ?_
  refine if_else hf (fun hc42 hf => ?_) (fun hc42 hf => ?_)
  · refine c_true rfl hc42 rfl ?_
    refine wp_seq ?_
    refine wp_region_lit ?_
    refine r_move (.int .i64 r35) rfl rfl ?_
    refine r_assign (.int .i64 r35) rfl rfl ?_
    refine wpList_nil ?_
    refine p_then ?_
    refine wp_ret ?_
    refine p_thenr ?_
    obtain rfl := Option.some.inj hf
    refine ret_one (.int .i64 r35) rfl ⟨rfl, rfl⟩ hE41 ?_
    exact (RpV.mkInt _ _)
  · refine c_false rfl hc42 rfl ?_
    refine wp_skip ?_
    refine p_then ?_
    refine wp_seq ?_
    refine wp_seq ?_
    refine wp_region_lit ?_
    refine r_fieldAddr b25 0 1 1 rfl rfl fo27_1 rfl ?_
    refine r_load b25 1 (.int .i64 a0.Int_) rfl rfl (loads_one to2 ((((hb28.ext hx32).ext hx39).cell 1).trans rfl)) ?_
    refine r_fieldAddr b30 0 1 1 rfl rfl fo27_1 rfl ?_
    refine r_load b30 1 (.int .i64 a1.Int_) rfl rfl (loads_one to2 (((hb33.ext hx39).cell 1).trans rfl)) ?_
    obtain ⟨r43, e44, hf⟩ := bind_some hf
    refine r_call [.int .i64 a0.Int_, .int .i64 a1.Int_] (evs2 rfl rfl) rfl (ok_cmp_Compare_int64 _ _ _ _ _ _ (RpV.mkInt _ _) (RpV.mkInt _ _) e44) ?_
    intro v46 s45 hx47 hr48
    have hE49 := hE41.ext hE41.size hx47
    obtain rfl := RpV.int hr48
    refine r_assign (.int .i64 r43) rfl rfl ?_
    refine wpList_nil ?_
    refine p_then ?_
    refine wp_seq ?_
    refine wp_region_lit ?_
    refine r_move (.int .i64 r43) rfl rfl ?_
    refine r_bin (.int .i64 r43) (.int .i64 0) (.bool (r43 != 0)) rfl rfl rfl rfl (b_neq) ?_
    refine wpList_nil ?_
    refine p_then ?_
    refine if_else hf (fun hc50 hf => ?_) (fun hc50 hf => ?_)
    · refine c_true rfl hc50 rfl ?_
      refine wp_seq ?_
      refine wp_region_lit ?_
      refine r_move (.int .i64 r43) rfl rfl ?_
      refine r_assign (.int .i64 r43) rfl rfl ?_
      refine wpList_nil ?_
      refine p_then ?_
      refine wp_ret ?_
      refine p_thenr ?_
      obtain rfl := Option.some.inj hf
      refine ret_one (.int .i64 r43) rfl ⟨rfl, rfl⟩ hE49 ?_
      exact (RpV.mkInt _ _)
    · refine c_false rfl hc50 rfl ?_
      refine wp_skip ?_
      refine p_then ?_
      refine wp_seq ?_
      refine wp_seq ?_
      refine wp_region_lit ?_
      refine r_fieldAddr b25 0 2 2 rfl rfl fo27_2 rfl ?_
      refine r_load b25 2 (.string a0.Text) rfl rfl (loads_one to9 (((((hb28.ext hx32).ext hx39).ext hx47).cell 2).trans rfl)) ?_
      refine r_fieldAddr b30 0 2 2 rfl rfl fo27_2 rfl ?_
      refine r_load b30 2 (.string a1.Text) rfl rfl (loads_one to9 ((((hb33.ext hx39).ext hx47).cell 2).trans rfl)) ?_
      obtain ⟨r51, e52, hf⟩ := bind_some hf
      refine r_call [.string a0.Text, .string a1.Text] (evs2 rfl rfl) rfl (ok_strings_Compare _ _ _ _ _ _ (RpV.mkStr _ _) (RpV.mkStr _ _) e52) ?_
      intro v54 s53 hx55 hr56
      have hE57 := hE49.ext hE49.size hx55
      obtain rfl := RpV.int hr56
      refine r_assign (.int .i64 r51) rfl rfl ?_
      refine wpList_nil ?_
      refine p_then ?_
      refine wp_seq ?_
      refine wp_region_lit ?_
      refine r_move (.int .i64 r51) rfl rfl ?_
      refine r_bin (.int .i64 r51) (.int .i64 0) (.bool (r51 != 0)) rfl rfl rfl rfl (b_neq) ?_
      refine wpList_nil ?_
      refine p_then ?_
      refine if_else hf (fun hc58 hf => ?_) (fun hc58 hf => ?_)
      · refine c_true rfl hc58 rfl ?_
        refine wp_seq ?_
        refine wp_region_lit ?_
        refine r_move (.int .i64 r51) rfl rfl ?_
        refine r_assign (.int .i64 r51) rfl rfl ?_
        refine wpList_nil ?_
        refine p_then ?_
        refine wp_ret ?_
        refine p_thenr ?_
        obtain rfl := Option.some.inj hf
        refine ret_one (.int .i64 r51) rfl ⟨rfl, rfl⟩ hE57 ?_
        exact (RpV.mkInt _ _)
      · refine c_false rfl hc58 rfl ?_
        refine wp_skip ?_
        refine p_then ?_
        refine wp_seq ?_
        refine wp_seq ?_
        refine wp_region_lit ?_
        refine r_fieldAddr b25 0 4 4 rfl rfl fo27_4 rfl ?_
        refine r_load b25 4 (.slice A4 a0.Keys.length c5) rfl rfl (loads_one to23 ((((((hb28.ext hx32).ext hx39).ext hx47).ext hx55).cell 4).trans rfl)) ?_
        refine r_fieldAddr b30 0 4 4 rfl rfl fo27_4 rfl ?_
        refine r_load b30 4 (.slice A16 a1.Keys.length c17) rfl rfl (loads_one to23 (((((hb33.ext hx39).ext hx47).ext hx55).cell 4).trans rfl)) ?_
        obtain ⟨r59, e60, hf⟩ := bind_some hf
        refine r_call [.slice A4 a0.Keys.length c5, .slice A16 a1.Keys.length c17, .func (.func 41) #[] #[]] (evs3 rfl rfl rfl) rfl (ok_value_compareLists_api_Key _ _ _ _ _ _ _ _ (RpV.mkList (((((h6.mono hx27.wext).mono hx32.wext).mono hx39.wext).mono hx47.wext).mono hx55.wext)) (RpV.mkList (((((h18.mono hx27.wext).mono hx32.wext).mono hx39.wext).mono hx47.wext).mono hx55.wext)) ⟨41, [], [], rfl, fun _ _ _ _ _ _ _ h1 h2 h => (ok_ident_CompareKeys _ _ _ _ _ _ h1 h2 h)⟩ e60) ?_
        intro v62 s61 hx63 hr64
        have hE65 := hE57.ext hE57.size hx63
        obtain rfl := RpV.int hr64
        refine r_assign (.int .i64 r59) rfl rfl ?_
        refine wpList_nil ?_
        refine p_then ?_
        refine wp_seq ?_
        refine wp_region_lit ?_
        refine r_move (.int .i64 r59) rfl rfl ?_
        refine r_bin (.int .i64 r59) (.int .i64 0) (.bool (r59 != 0)) rfl rfl rfl rfl (b_neq) ?_
        refine wpList_nil ?_
        refine p_then ?_
        refine if_else hf (fun hc66 hf => ?_) (fun hc66 hf => ?_)
        · refine c_true rfl hc66 rfl ?_
          refine wp_seq ?_
          refine wp_region_lit ?_
          refine r_move (.int .i64 r59) rfl rfl ?_
          refine r_assign (.int .i64 r59) rfl rfl ?_
          refine wpList_nil ?_
          refine p_then ?_
          refine wp_ret ?_
          refine p_thenr ?_
          obtain rfl := Option.some.inj hf
          refine ret_one (.int .i64 r59) rfl ⟨rfl, rfl⟩ hE65 ?_
          exact (RpV.mkInt _ _)
        · refine c_false rfl hc66 rfl ?_
          refine wp_skip ?_
          refine p_then ?_
          refine wp_seq ?_
          refine wp_seq ?_
          refine wp_region_lit ?_
          refine r_fieldAddr b25 0 3 3 rfl rfl fo27_3 rfl ?_
          refine r_load b25 3 (.slice A1 a0.Kids.length c2) rfl rfl (loads_one to22 (((((((hb28.ext hx32).ext hx39).ext hx47).ext hx55).ext hx63).cell 3).trans rfl)) ?_
          refine r_fieldAddr b30 0 3 3 rfl rfl fo27_3 rfl ?_
          refine r_load b30 3 (.slice A13 a1.Kids.length c14) rfl rfl (loads_one to22 ((((((hb33.ext hx39).ext hx47).ext hx55).ext hx63).cell 3).trans rfl)) ?_
          obtain ⟨r67, e68, hf⟩ := bind_some hf
          refine r_call [.slice A1 a0.Kids.length c2, .slice A13 a1.Kids.length c14] (evs2 rfl rfl) rfl (hrec_value_compareValues _ _ _ _ _ _ (RpV.mkList ((((((h3.mono hx27.wext).mono hx32.wext).mono hx39.wext).mono hx47.wext).mono hx55.wext).mono hx63.wext)) (RpV.mkList ((((((h15.mono hx27.wext).mono hx32.wext).mono hx39.wext).mono hx47.wext).mono hx55.wext).mono hx63.wext)) e68) ?_
          intro v70 s69 hx71 hr72
          have hE73 := hE65.ext hE65.size hx71
          obtain rfl := RpV.int hr72
          refine r_assign (.int .i64 r67) rfl rfl ?_
          refine wpList_nil ?_
          refine p_then ?_
          refine wp_seq ?_
          refine wp_region_lit ?_
          refine r_move (.int .i64 r67) rfl rfl ?_
          refine r_bin (.int .i64 r67) (.int .i64 0) (.bool (r67 != 0)) rfl rfl rfl rfl (b_neq) ?_
          refine wpList_nil ?_
          refine p_then ?_
          refine if_else hf (fun hc74 hf => ?_) (fun hc74 hf => ?_)
          · refine c_true rfl hc74 rfl ?_
            refine wp_seq ?_
            refine wp_region_lit ?_
            refine r_move (.int .i64 r67) rfl rfl ?_
            refine r_assign (.int .i64 r67) rfl rfl ?_
            refine wpList_nil ?_
            refine p_then ?_
            refine wp_ret ?_
            refine p_thenr ?_
            obtain rfl := Option.some.inj hf
            refine ret_one (.int .i64 r67) rfl ⟨rfl, rfl⟩ hE73 ?_
            exact (RpV.mkInt _ _)
          · refine c_false rfl hc74 rfl ?_
            refine wp_skip ?_
            refine p_then ?_
            refine wp_seq ?_
            refine wp_seq ?_
            refine wp_region_lit ?_
            refine r_fieldAddr b25 0 5 5 rfl rfl fo27_5 rfl ?_
            refine r_load b25 5 (.slice A7 a0.Entries.length c8) rfl rfl (loads_one to24 ((((((((hb28.ext hx32).ext hx39).ext hx47).ext hx55).ext hx63).ext hx71).cell 5).trans rfl)) ?_
            refine r_fieldAddr b30 0 5 5 rfl rfl fo27_5 rfl ?_
            refine r_load b30 5 (.slice A19 a1.Entries.length c20) rfl rfl (loads_one to24 (((((((hb33.ext hx39).ext hx47).ext hx55).ext hx63).ext hx71).cell 5).trans rfl)) ?_
            obtain ⟨r75, e76, hf⟩ := bind_some hf
            refine r_call [.slice A7 a0.Entries.length c8, .slice A19 a1.Entries.length c20, .func (.func 44) #[] #[]] (evs3 rfl rfl rfl) rfl (ok_value_compareLists_api_Entry _ _ _ _ _ _ _ _ (RpV.mkList (((((((h9.mono hx27.wext).mono hx32.wext).mono hx39.wext).mono hx47.wext).mono hx55.wext).mono hx63.wext).mono hx71.wext)) (RpV.mkList (((((((h21.mono hx27.wext).mono hx32.wext).mono hx39.wext).mono hx47.wext).mono hx55.wext).mono hx63.wext).mono hx71.wext)) ⟨44, [], [], rfl, fun _ _ _ _ _ _ _ h1 h2 h => (hrec_value_compareEntries _ _ _ _ _ _ h1 h2 h)⟩ e76) ?_
            intro v78 s77 hx79 hr80
            have hE81 := hE73.ext hE73.size hx79
            obtain rfl := RpV.int hr80
            refine r_assign (.int .i64 r75) rfl rfl ?_
            refine wpList_nil ?_
            refine p_then ?_
            refine wp_seq ?_
            refine wp_region_lit ?_
            refine r_move (.int .i64 r75) rfl rfl ?_
            refine r_bin (.int .i64 r75) (.int .i64 0) (.bool (r75 != 0)) rfl rfl rfl rfl (b_neq) ?_
            refine wpList_nil ?_
            refine p_then ?_
            refine if_else hf (fun hc82 hf => ?_) (fun hc82 hf => ?_)
            · refine c_true rfl hc82 rfl ?_
              refine wp_seq ?_
              refine wp_region_lit ?_
              refine r_move (.int .i64 r75) rfl rfl ?_
              refine r_assign (.int .i64 r75) rfl rfl ?_
              refine wpList_nil ?_
              refine p_then ?_
              refine wp_ret ?_
              refine p_thenr ?_
              obtain rfl := Option.some.inj hf
              refine ret_one (.int .i64 r75) rfl ⟨rfl, rfl⟩ hE81 ?_
              exact (RpV.mkInt _ _)
            · refine c_false rfl hc82 rfl ?_
              refine wp_skip ?_
              refine p_then ?_
              refine wp_seq ?_
              refine wp_region_lit ?_
              refine r_fieldAddr b25 0 6 6 rfl rfl fo27_6 rfl ?_
              refine r_load b25 6 (.slice A10 a0.Labels.length c11) rfl rfl (loads_one to25 (((((((((hb28.ext hx32).ext hx39).ext hx47).ext hx55).ext hx63).ext hx71).ext hx79).cell 6).trans rfl)) ?_
              refine r_fieldAddr b30 0 6 6 rfl rfl fo27_6 rfl ?_
              refine r_load b30 6 (.slice A22 a1.Labels.length c23) rfl rfl (loads_one to25 ((((((((hb33.ext hx39).ext hx47).ext hx55).ext hx63).ext hx71).ext hx79).cell 6).trans rfl)) ?_
              obtain ⟨r83, e84, hf⟩ := bind_some hf
              refine r_call [.slice A10 a0.Labels.length c11, .slice A22 a1.Labels.length c23, .func (.func 39) #[] #[]] (evs3 rfl rfl rfl) rfl (ok_value_compareLists_string _ _ _ _ _ _ _ _ (RpV.mkList ((((((((h12.mono hx27.wext).mono hx32.wext).mono hx39.wext).mono hx47.wext).mono hx55.wext).mono hx63.wext).mono hx71.wext).mono hx79.wext)) (RpV.mkList ((((((((h24.mono hx27.wext).mono hx32.wext).mono hx39.wext).mono hx47.wext).mono hx55.wext).mono hx63.wext).mono hx71.wext).mono hx79.wext)) ⟨39, [], [], rfl, fun _ _ _ _ _ _ _ h1 h2 h => (ok_strings_Compare _ _ _ _ _ _ h1 h2 h)⟩ e84) ?_
              intro v86 s85 hx87 hr88
              have hE89 := hE81.ext hE81.size hx87
              obtain rfl := RpV.int hr88
              refine r_assign (.int .i64 r83) rfl rfl ?_
              refine wpList_nil ?_
              refine p_then ?_
              refine wp_ret ?_
              obtain rfl := Option.some.inj hf
              refine ret_one (.int .i64 r83) rfl ⟨rfl, rfl⟩ hE89 ?_
              exact (RpV.mkInt _ _)

set_option maxHeartbeats 1600000 in
set_option maxRecDepth 100000 in
theorem okB_value_compareValues {rec_value_Compare : (Val → Val → Option Int)} {rec_value_compareValues : ((List Val) → (List Val) → Option Int)} {rec_value_compareEntries : (Ent → Ent → Option Int)} (hrec_value_Compare : S_value_Compare rec_value_Compare) (hrec_value_compareValues : S_value_compareValues rec_value_compareValues) (hrec_value_compareEntries : S_value_compareEntries rec_value_compareEntries) : S_value_compareValues (value_compareValues_B rec_value_Compare rec_value_compareValues rec_value_compareEntries) := by
  intro s0 v0 v1 a0 a1 r h0 h1 hf
  obtain ⟨A1, c2, rfl, h3⟩ := RpV.list h0
  obtain ⟨A4, c5, rfl, h6⟩ := RpV.list h1
  unfold value_compareValues_B at hf
  have hE0 : ExtB s0.N s0 s0 := ExtB.refl _ _
  refine ctr_of 8 Go.Proofs.Try.func42 rfl rfl rfl rfl ?_
  refine wp_seq ?_
  refine wp_region_lit ?_
  refine r_assign (.int .i64 0) rfl rfl ?_
  refine wpList_nil ?_
  refine p_then ?_
  refine wp_seq ?_
  refine wp_region_lit ?_
  refine r_move (.slice A1 a0.length c2) rfl rfl ?_
  refine r_move (.slice A4 a1.length c5) rfl rfl ?_
  obtain ⟨r7, e8, hf⟩ := bind_some hf
  refine r_call [.slice A1 a0.length c2, .slice A4 a1.length c5, .func (.func 12) #[] #[]] (evs3 rfl rfl rfl) rfl (ok_value_compareLists_api_Value _ _ _ _ _ _ _ _ (RpV.mkList h3) (RpV.mkList h6) ⟨12, [], [], rfl, fun _ _ _ _ _ _ _ h1 h2 h => (hrec_value_Compare _ _ _ _ _ _ h1 h2 h)⟩ e8) ?_
  intro v10 s9 hx11 hr12
  have hE13 := hE0.ext hE0.size hx11
  obtain rfl := RpV.int hr12
  refine r_assign (.int .i64 r7) rfl rfl ?_
  refine wpList_nil ?_
  refine p_then ?_
  refine wp_ret ?_
  obtain rfl := Option.some.inj hf
  refine ret_one (.int .i64 r7) rfl ⟨rfl, rfl⟩ hE13 ?_
  exact (RpV.mkInt _ _)

set_option maxHeartbeats 1600000 in
set_option maxRecDepth 100000 in
theorem okB_value_compareEntries {rec_value_Compare : (Val → Val → Option Int)} {rec_value_compareValues : ((List Val) → (List Val) → Option Int)} {rec_value_compareEntries : (Ent → Ent → Option Int)} (hrec_value_Compare : S_value_Compare rec_value_Compare) (hrec_value_compareValues : S_value_compareValues rec_value_compareValues) (hrec_value_compareEntries : S_value_compareEntries rec_value_compareEntries) : S_value_compareEntries (value_compareEntries_B rec_value_Compare rec_value_compareValues rec_value_compareEntries) := by
  intro s0 v0 v1 a0 a1 r h0 h1 hf
  obtain ⟨A1, c2, A4, c5, A7, c8, A10, c11, A13, c14, rfl, h3, h6, h9, h12, h15⟩ := Ent.rpv h0
  obtain ⟨A16, c17, A19, c20, A22, c23, A25, c26, A28, c29, rfl, h18, h21, h24, h27, h30⟩ := Ent.rpv h1
  unfold value_compareEntries_B at hf
  have hE0 : ExtB s0.N s0 s0 := ExtB.refl _ _
  refine ctr_of 26 Go.Proofs.Try.func44 rfl rfl rfl rfl ?_
  refine wp_seq ?_
  refine wp_region_lit ?_
  refine r_box (B := s0.N) 1 hE0.size (.agg #[.slice A1 a0.Args.length c2, .bool a0.Fails, .int .i64 a0.Result.Kind, .int .i64 a0.Result.Int_, .string a0.Result.Text, .slice A4 a0.Result.Kids.length c5, .slice A7 a0.Result.Keys.length c8, .slice A10 a0.Result.Entries.length c11, .slice A13 a0.Result.Labels.length c14]) [.slice A1 a0.Args.length c2, .bool a0.Fails, .int .i64 a0.Result.Kind, .int .i64 a0.Result.Int_, .string a0.Result.Text, .slice A4 a0.Result.Kids.length c5, .slice A7 a0.Result.Keys.length c8, .slice A10 a0.Result.Entries.length c11, .slice A13 a0.Result.Labels.length c14] rfl rfl rfl ?_
  intro s32 b31 hx33 hb34
  have hE35 := hE0.ext hE0.size hx33
  refine r_box (B := s0.N) 2 hE35.size (.agg #[.slice A16 a1.Args.length c17, .bool a1.Fails, .int .i64 a1.Result.Kind, .int .i64 a1.Result.Int_, .string a1.Result.Text, .slice A19 a1.Result.Kids.length c20, .slice A22 a1.Result.Keys.length c23, .slice A25 a1.Result.Entries.length c26, .slice A28 a1.Result.Labels.length c29]) [.slice A16 a1.Args.length c17, .bool a1.Fails, .int .i64 a1.Result.Kind, .int .i64 a1.Result.Int_, .string a1.Result.Text, .slice A19 a1.Result.Kids.length c20, .slice A22 a1.Result.Keys.length c23, .slice A25 a1.Result.Entries.length c26, .slice A28 a1.Result.Labels.length c29] rfl rfl rfl ?_
  intro s37 b36 hx38 hb39
  have hE40 := hE35.ext hE35.size hx38
  refine r_assign (.int .i64 0) rfl rfl ?_
  refine wpList_nil ?_
  refine p_then ?_
  refine wp_seq ?_
  refine wp_seq ?_
  refine wp_region_lit ?_
  refine r_fieldAddr b31 0 0 0 rfl rfl fo65_0 rfl ?_
  refine r_load b31 0 (.slice A1 a0.Args.length c2) rfl rfl (loads_one to22 (((hb34.ext hx38).cell 0).trans rfl)) ?_
  refine r_fieldAddr b36 0 0 0 rfl rfl fo65_0 rfl ?_
  refine r_load b36 0 (.slice A16 a1.Args.length c17) rfl rfl (loads_one to22 ((hb39.cell 0).trans rfl)) ?_
  obtain ⟨r41, e42, hf⟩ := bind_some hf
  refine r_call [.slice A1 a0.Args.length c2, .slice A16 a1.Args.length c17] (evs2 rfl rfl) rfl (hrec_value_compareValues _ _ _ _ _ _ (RpV.mkList ((h3.mono hx33.wext).mono hx38.wext)) (RpV.mkList ((h18.mono hx33.wext).mono hx38.wext)) e42) ?_
  intro v44 s43 hx45 hr46
  have hE47 := hE40.ext hE40.size hx45
  obtain rfl := RpV.int hr46
  refine r_assign (.int .i64 r41) rfl rfl ?_
  refine wpList_nil ?_
  refine p_then ?_
  refine wp_seq ?_
  refine wp_region_lit ?_
  refine r_move (.int .i64 r41) rfl rfl ?_
  refine r_bin (.int .i64 r41) (.int .i64 0) (.bool (r41 != 0)) rfl rfl rfl rfl (b_neq) ?_
  refine wpList_nil ?_
  refine p_then ?_
  refine if_else hf (fun hc48 hf => ?_) (fun hc48 hf => ?_)
  · refine c_true rfl hc48 rfl ?_
    refine wp_seq ?_
    refine wp_region_lit ?_
    refine r_move (.int .i64 r41) rfl rfl ?_
    refine r_assign (.int .i64 r41) rfl rfl ?_
    refine wpList_nil ?_
    refine p_then ?_
    refine wp_ret ?_
    refine p_thenr ?_
    obtain rfl := Option.some.inj hf
    refine ret_one (.int .i64 r41) rfl ⟨rfl, rfl⟩ hE47 ?_
    exact (RpV.mkInt _ _)
  · refine c_false rfl hc48 rfl ?_
    refine wp_skip ?_
    refine p_then ?_
    refine wp_seq ?_
    refine wp_seq ?_
    refine wp_region_lit ?_
    refine r_fieldAddr b31 0 1 1 rfl rfl fo65_1 rfl ?_
    refine r_load b31 1 (.bool a0.Fails) rfl rfl (loads_one to4 ((((hb34.ext hx38).ext hx45).cell 1).trans rfl)) ?_
    refine r_fieldAddr b36 0 1 1 rfl rfl fo65_1 rfl ?_
    refine r_load b36 1 (.bool a1.Fails) rfl rfl (loads_one to4 (((hb39.ext hx45).cell 1).trans rfl)) ?_
    refine r_bin (.bool a0.Fails) (.bool a1.Fails) (.bool (a0.Fails != a1.Fails)) rfl rfl rfl rfl (b_bneq Go.Proofs.Try.underlying4) ?_
    refine wpList_nil ?_
    refine p_then ?_
    refine if_else hf (fun hc49 hf => ?_) (fun hc49 hf => ?_)
    · refine c_true rfl hc49 rfl ?_
      refine wp_seq ?_
      refine wp_seq ?_
      refine wp_region_lit ?_
      refine r_fieldAddr b31 0 1 1 rfl rfl fo65_1 rfl ?_
      refine r_load b31 1 (.bool a0.Fails) rfl rfl (loads_one to4 ((((hb34.ext hx38).ext hx45).cell 1).trans rfl)) ?_
      refine wpList_nil ?_
      refine p_then ?_
      refine if_else hf (fun hc50 hf => ?_) (fun hc50 hf => ?_)
      · refine c_true rfl hc50 rfl ?_
        refine wp_seq ?_
        refine wp_region_lit ?_
        refine r_assign (.int .i64 (-1)) rfl rfl ?_
        refine wpList_nil ?_
        refine p_then ?_
        refine wp_ret ?_
        refine p_thenr ?_
        refine p_thenr ?_
        obtain rfl := Option.some.inj hf
        refine ret_one (.int .i64 (-1)) rfl ⟨rfl, rfl⟩ hE47 ?_
        exact (RpV.mkInt _ _)
      · refine c_false rfl hc50 rfl ?_
        refine wp_skip ?_
        refine p_then ?_
        refine wp_seq ?_
        refine wp_region_lit ?_
        refine r_assign (.int .i64 1) rfl rfl ?_
        refine wpList_nil ?_
        refine p_then ?_
        refine wp_ret ?_
        refine p_thenr ?_
        obtain rfl := Option.some.inj hf
        refine ret_one (.int .i64 1) rfl ⟨rfl, rfl⟩ hE47 ?_
        exact (RpV.mkInt _ _)
    · refine c_false rfl hc49 rfl ?_
      refine wp_skip ?_
      refine p_then ?_
      refine wp_seq ?_
      refine wp_region_lit ?_
      refine r_fieldAddr b31 0 2 2 rfl rfl fo65_2 rfl ?_
      refine r_load b31 2 (.agg #[.int .i64 a0.Result.Kind, .int .i64 a0.Result.Int_, .string a0.Result.Text, .slice A4 a0.Result.Kids.length c5, .slice A7 a0.Result.Keys.length c8, .slice A10 a0.Result.Entries.length c11, .slice A13 a0.Result.Labels.length c14]) rfl rfl (loads_row tr27 (Blk.range ((hb34.ext hx38).ext hx45) 2 [.int .i64 a0.Result.Kind, .int .i64 a0.Result.Int_, .string a0.Result.Text, .slice A4 a0.Result.Kids.length c5, .slice A7 a0.Result.Keys.length c8, .slice A10 a0.Result.Entries.length c11, .slice A13 a0.Result.Labels.length c14] rfl)) ?_
      refine r_fieldAddr b36 0 2 2 rfl rfl fo65_2 rfl ?_
      refine r_load b36 2 (.agg #[.int .i64 a1.Result.Kind, .int .i64 a1.Result.Int_, .string a1.Result.Text, .slice A19 a1.Result.Kids.length c20, .slice A22 a1.Result.Keys.length c23, .slice A25 a1.Result.Entries.length c26, .slice A28 a1.Result.Labels.length c29]) rfl rfl (loads_row tr27 (Blk.range (hb39.ext hx45) 2 [.int .i64 a1.Result.Kind, .int .i64 a1.Result.Int_, .string a1.Result.Text, .slice A19 a1.Result.Kids.length c20, .slice A22 a1.Result.Keys.length c23, .slice A25 a1.Result.Entries.length c26, .slice A28 a1.Result.Labels.length c29] rfl)) ?_
      obtain ⟨r51, e52, hf⟩ := bind_some hf
      refine r_call [.agg #[.int .i64 a0.Result.Kind, .int .i64 a0.Result.Int_, .string a0.Result.Text, .slice A4 a0.Result.Kids.length c5, .slice A7 a0.Result.Keys.length c8, .slice A10 a0.Result.Entries.length c11, .slice A13 a0.Result.Labels.length c14], .agg #[.int .i64 a1.Result.Kind, .int .i64 a1.Result.Int_, .string a1.Result.Text, .slice A19 a1.Result.Kids.length c20, .slice A22 a1.Result.Keys.length c23, .slice A25 a1.Result.Entries.length c26, .slice A28 a1.Result.Labels.length c29]] (evs2 rfl rfl) rfl (hrec_value_Compare _ _ _ _ _ _ (Val.rpvMk (v := a0.Result) (((h6.mono hx33.wext).mono hx38.wext).mono hx45.wext) (((h9.mono hx33.wext).mono hx38.wext).mono hx45.wext) (((h12.mono hx33.wext).mono hx38.wext).mono hx45.wext) (((h15.mono hx33.wext).mono hx38.wext).mono hx45.wext)) (Val.rpvMk (v := a1.Result) (((h21.mono hx33.wext).mono hx38.wext).mono hx45.wext) (((h24.mono hx33.wext).mono hx38.wext).mono hx45.wext) (((h27.mono hx33.wext).mono hx38.wext).mono hx45.wext) (((h30.mono hx33.wext).mono hx38.wext).mono hx45.wext)) e52) ?_
      intro v54 s53 hx55 hr56
      have hE57 := hE47.ext hE47.size hx55
      obtain rfl := RpV.int hr56
      refine r_assign (.int .i64 r51) rfl rfl ?_
      refine wpList_nil ?_
      refine p_then ?_
      refine wp_ret ?_
      obtain rfl := Option.some.inj hf
      refine ret_one (.int .i64 r51) rfl ⟨rfl, rfl⟩ hE57 ?_
      exact (RpV.mkInt _ _)

theorem ok_scc_value_Compare : ∀ n : Nat, S_value_Compare (scc_value_Compare n).1 ∧ S_value_compareValues (scc_value_Compare n).2.1 ∧ S_value_compareEntries (scc_value_Compare n).2.2
  | 0 => ⟨(by intro _ _ _ _ _ _ _ _ h; cases h), (by intro _ _ _ _ _ _ _ _ h; cases h), (by intro _ _ _ _ _ _ _ _ h; cases h)⟩
  | n + 1 => by
    obtain ⟨h0, h1, h2⟩ := ok_scc_value_Compare n
    exact ⟨okB_value_Compare h0 h1 h2, okB_value_compareValues h0 h1 h2, okB_value_compareEntries h0 h1 h2⟩

theorem ok_value_Compare (n : Nat) : S_value_Compare (value_Compare n) := (ok_scc_value_Compare n).1

theorem ok_value_compareValues (n : Nat) : S_value_compareValues (value_compareValues n) := (ok_scc_value_Compare n).2.1

theorem ok_value_compareEntries (n : Nat) : S_value_compareEntries (value_compareEntries n) := (ok_scc_value_Compare n).2.2

def S_value_ascending_api_Entry (f : ((List Ent) → (Ent → Ent → Option Int) → Option Bool)) : Prop := ∀ (s0 : S) (v0 : Value) (v1 : Value) (a0 : (List Ent)) (a1 : (Ent → Ent → Option Int)) (r : Bool), RpV s0 a0 v0 → Fn2 Go.Proofs.Try.prog s0 v1 a1 → f a0 a1 = some r → Ctr Go.Proofs.Try.prog 103 [v0, v1] s0 (fun v τ => RpV τ r v)

set_option maxHeartbeats 1600000 in
set_option maxRecDepth 100000 in
theorem ok_value_ascending_api_Entry : S_value_ascending_api_Entry value_ascending_api_Entry := by
  intro s0 v0 v1 a0 a1 r h0 h1 hf
  obtain ⟨A1, c2, rfl, h3⟩ := RpV.list h0
  have hg1 := h1
  obtain ⟨kk1, fi1, ca1, rfl, hk1⟩ := h1
  unfold value_ascending_api_Entry at hf
  have hE0 : ExtB s0.N s0 s0 := ExtB.refl _ _
  refine ctr_of 24 Go.Proofs.Try.func103 rfl rfl rfl rfl ?_
  refine wp_seq ?_
  refine wp_region_lit ?_
  refine r_assign (.bool false) rfl rfl ?_
  refine wpList_nil ?_
  refine p_then ?_
  refine wp_seq ?_
  refine wp_seq ?_
  refine wp_region_lit ?_
  refine r_assign (.int .i64 1) rfl rfl ?_
  refine wpList_nil ?_
  refine p_then ?_
  refine wp_block ?_
  refine gen_F fun F4 hg5 => ?_
  have hF6 : F4 0 = (.slice A1 a0.length c2) := (hg5 0).trans rfl
  have hF7 : F4 1 = (.func (.func kk1) (List.toArray fi1) (List.toArray ca1)) := (hg5 1).trans rfl
  have hF8 : F4 4 = (.bool false) := (hg5 4).trans rfl
  have hF9 : F4 5 = (.int .i64 1) := (hg5 5).trans rfl
  obtain ⟨o316, ho317, hf⟩ := bind_some hf
  refine wp_mono (wp_iter (step := value_ascending_api_Entry_l1 a0 a1) (fun q a w => ∃ (F : Fr) (τ : S), a = fr 24 F ∧ w = τ.w ∧ Agr [4, 5, 6, 7, 8, 9, 10, 11, 12, 13, 14, 15, 16, 17, 18, 19, 20, 21, 22, 23] F F4 ∧ ExtB s0.N s0 τ ∧ Wext s0 τ ∧ F 5 = (.int .i64 q)) (fun o e a w => match o with | .inl q => e = .exit 0 ∧ ∃ (F : Fr) (τ : S), a = fr 24 F ∧ w = τ.w ∧ Agr [4, 5, 6, 7, 8, 9, 10, 11, 12, 13, 14, 15, 16, 17, 18, 19, 20, 21, 22, 23] F F4 ∧ ExtB s0.N s0 τ ∧ Wext s0 τ ∧ F 5 = (.int .i64 q) | .inr r => e = .ret ∧ ∃ (F : Fr) (τ : S) (va : Value), a = fr 24 F ∧ w = τ.w ∧ ExtB s0.N s0 τ ∧ ResV Go.Proofs.Try.prog 24 F τ.w (.tmp 4) va ∧ RpV τ r va) (by rintro (_ | _) a w ⟨h, _⟩ <;> cases h) ?_ _ _ _ _ _ ho317 ?_) ?_
  · intro q10 fl a w hf hI
    obtain ⟨F11, s12, rfl, rfl, hag13, hE14, hW15, h16⟩ := hI
    unfold value_ascending_api_Entry_l1 at hf
    have hF17 : F11 0 = (.slice A1 a0.length c2) := (hag13 0 rfl).trans hF6
    have hF18 : F11 1 = (.func (.func kk1) (List.toArray fi1) (List.toArray ca1)) := (hag13 1 rfl).trans hF7
    refine wp_seq ?_
    refine wp_seq ?_
    refine wp_region_lit ?_
    refine r_move (.int .i64 q10) h16 rfl ?_
    refine r_move (.slice A1 a0.length c2) hF17 rfl ?_
    refine r_len A1 a0.length c2 rfl rfl Go.Proofs.Try.underlying24 ?_
    refine r_bin (.int .i64 q10) (.int .i64 (a0.length : Int)) (.bool (decide (q10 < (a0.length : Int)))) rfl rfl rfl rfl (b_lss) ?_
    refine wpList_nil ?_
    refine p_then ?_
    refine if_else hf (fun hc19 hf => ?_) (fun hc19 hf => ?_)
    · refine c_true rfl hc19 rfl ?_
      refine wp_skip ?_
      refine p_then ?_
      refine wp_seq ?_
      refine wp_block ?_
      refine wp_seq ?_
      obtain ⟨x20, e21, hf⟩ := bind_some hf
      obtain ⟨x22, e23, hf⟩ := bind_some hf
      obtain ⟨r24, e25, hf⟩ := bind_some hf
      refine wp_draw (B := s0.N) [some 12, some 13, some 14, some 15, some 16, some 17, some 18, some 19, some 20, some 21, some 22, some 23] [[], [], [], [2], [1, 2, 3], [1, 2, 3, 4], [], [], [6, 7], [6, 7, 8], [0, 1, 2, 3, 4, 5, 6, 7, 8, 9], [0, 1, 2, 3, 4, 5, 6, 7, 8, 9, 10]] [Fct.eqv (.func (.func kk1) (List.toArray fi1) (List.toArray ca1)), Fct.eqv (.slice A1 a0.length c2), Fct.eqv (.int .i64 q10), Fct.eqv (.int .i64 (w64 (q10 - 1))), Fct.elem (x20 : Ent), Fct.data (x20 : Ent), Fct.eqv (.slice A1 a0.length c2), Fct.eqv (.int .i64 q10), Fct.elem (x22 : Ent), Fct.data (x22 : Ent), Fct.eqv (.int .i64 r24), Fct.eqv (.bool (decide (0 ≤ r24)))] (fun D F τ => True) (by kernel_rfl) rfl (by decide) (by decide) trivial (by decide) (by decide) ⟨?_, ?_, ?_, ?_, ?_, ?_, ?_, ?_, ?_, ?_, ?_, ?_, trivial⟩ ?_
      · intro D29 F30 s31 d32 d33 d34 hE35 hW36 hG37 hfr38 hR39
        have hE40 := hE14.trans hE35
        refine r_move (.func (.func kk1) (List.toArray fi1) (List.toArray ca1)) ((hfr38 1 rfl).trans hF18) rfl ?_
        refine wpList_nil ?_
        exact ⟨_, _, rfl, rfl, ExtB.refl _ _, Wext.refl _, rfl, trivial⟩
      · intro D41 F42 s43 d44 d45 d46 hE47 hW48 hG49 hfr50 hR51
        have hE52 := hE14.trans hE47
        refine r_move (.slice A1 a0.length c2) ((hfr50 0 rfl).trans hF17) rfl ?_
        refine wpList_nil ?_
        exact ⟨_, _, rfl, rfl, ExtB.refl _ _, Wext.refl _, rfl, trivial⟩
      · intro D53 F54 s55 d56 d57 d58 hE59 hW60 hG61 hfr62 hR63
        have hE64 := hE14.trans hE59
        refine r_move (.int .i64 q10) ((hfr62 5 rfl).trans h16) rfl ?_
        refine wpList_nil ?_
        exact ⟨_, _, rfl, rfl, ExtB.refl _ _, Wext.refl _, rfl, trivial⟩
      · intro D65 F66 s67 d68 d69 d70 hE71 hW72 hG73 hfr74 hR75
        have hE76 := hE14.trans hE71
        have q77 : F66 14 = (.int .i64 q10) := hR75 2 rfl 14 rfl
        refine r_bin (.int .i64 q10) (.int .i64 1) (.int .i64 (w64 (q10 - 1))) q77 rfl rfl rfl (b_sub) ?_
        refine wpList_nil ?_
        exact ⟨_, _, rfl, rfl, ExtB.refl _ _, Wext.refl _, rfl, trivial⟩
      · intro D78 F79 s80 d81 d82 d83 hE84 hW85 hG86 hfr87 hR88
        have hE89 := hE14.trans hE84
        have q90 : F79 13 = (.slice A1 a0.length c2) := hR88 1 rfl 13 rfl
        have q91 : F79 15 = (.int .i64 (w64 (q10 - 1))) := hR88 3 rfl 15 rfl
        refine r_indexAddr (T := 24) (E := 65) ((h3.mono hW15).mono hW85) e21 q90 q91 rfl rfl Go.Proofs.Try.underlying24 sz65 ?_
        intro b92 o93 cs94 hc95 hs96
        obtain ⟨A97, c98, A100, c101, A103, c104, A106, c107, A109, c110, rfl, h99, h102, h105, h108, h111⟩ := Ent.cells_iff.1 hc95
        refine wpList_nil ?_
        exact ⟨_, _, rfl, rfl, ExtB.refl _ _, Wext.refl _, ⟨_, _, _, rfl, (Ent.cells_iff.2 ⟨_, _, _, _, _, _, _, _, _, _, rfl, h99, h102, h105, h108, h111⟩), hs96⟩, trivial⟩
      · intro D112 F113 s114 d115 d116 d117 hE118 hW119 hG120 hfr121 hR122
        have hE123 := hE14.trans hE118
        obtain ⟨b125, o126, cs127, hv128, hc129, hs130⟩ : (Fct.elem (x20 : Ent)).p (F113 16) s114 := hR122 4 rfl 16 rfl
        obtain ⟨A131, c132, A134, c135, A137, c138, A140, c141, A143, c144, rfl, h133, h136, h139, h142, h145⟩ := Ent.cells_iff.1 hc129
        refine r_load b125 o126 (.agg #[.slice A131 x20.Args.length c132, .bool x20.Fails, .int .i64 x20.Result.Kind, .int .i64 x20.Result.Int_, .string x20.Result.Text, .slice A134 x20.Result.Kids.length c135, .slice A137 x20.Result.Keys.length c138, .slice A140 x20.Result.Entries.length c141, .slice A143 x20.Result.Labels.length c144]) hv128 rfl (loads_row tr65 hs130.2) ?_
        refine wpList_nil ?_
        exact ⟨_, _, rfl, rfl, ExtB.refl _ _, Wext.refl _, (Ent.rpvMk (v := x20) h133 h136 h139 h142 h145), trivial⟩
      · intro D146 F147 s148 d149 d150 d151 hE152 hW153 hG154 hfr155 hR156
        have hE157 := hE14.trans hE152
        refine r_move (.slice A1 a0.length c2) ((hfr155 0 rfl).trans hF17) rfl ?_
        refine wpList_nil ?_
        exact ⟨_, _, rfl, rfl, ExtB.refl _ _, Wext.refl _, rfl, trivial⟩
      · intro D158 F159 s160 d161 d162 d163 hE164 hW165 hG166 hfr167 hR168
        have hE169 := hE14.trans hE164
        refine r_move (.int .i64 q10) ((hfr167 5 rfl).trans h16) rfl ?_
        refine wpList_nil ?_
        exact ⟨_, _, rfl, rfl, ExtB.refl _ _, Wext.refl _, rfl, trivial⟩
      · intro D170 F171 s172 d173 d174 d175 hE176 hW177 hG178 hfr179 hR180
        have hE181 := hE14.trans hE176
        have q182 : F171 18 = (.slice A1 a0.length c2) := hR180 6 rfl 18 rfl
        have q183 : F171 19 = (.int .i64 q10) := hR180 7 rfl 19 rfl
        refine r_indexAddr (T := 24) (E := 65) ((h3.mono hW15).mono hW177) e23 q182 q183 rfl rfl Go.Proofs.Try.underlying24 sz65 ?_
        intro b184 o185 cs186 hc187 hs188
        obtain ⟨A189, c190, A192, c193, A195, c196, A198, c199, A201, c202, rfl, h191, h194, h197, h200, h203⟩ := Ent.cells_iff.1 hc187
        refine wpList_nil ?_
        exact ⟨_, _, rfl, rfl, ExtB.refl _ _, Wext.refl _, ⟨_, _, _, rfl, (Ent.cells_iff.2 ⟨_, _, _, _, _, _, _, _, _, _, rfl, h191, h194, h197, h200, h203⟩), hs188⟩, trivial⟩
      · intro D204 F205 s206 d207 d208 d209 hE210 hW211 hG212 hfr213 hR214
        have hE215 := hE14.trans hE210
        obtain ⟨b217, o218, cs219, hv220, hc221, hs222⟩ : (Fct.elem (x22 : Ent)).p (F205 20) s206 := hR214 8 rfl 20 rfl
        obtain ⟨A223, c224, A226, c227, A229, c230, A232, c233, A235, c236, rfl, h225, h228, h231, h234, h237⟩ := Ent.cells_iff.1 hc221
        refine r_load b217 o218 (.agg #[.slice A223 x22.Args.length c224, .bool x22.Fails, .int .i64 x22.Result.Kind, .int .i64 x22.Result.Int_, .string x22.Result.Text, .slice A226 x22.Result.Kids.length c227, .slice A229 x22.Result.Keys.length c230, .slice A232 x22.Result.Entries.length c233, .slice A235 x22.Result.Labels.length c236]) hv220 rfl (loads_row tr65 hs222.2) ?_
        refine wpList_nil ?_
        exact ⟨_, _, rfl, rfl, ExtB.refl _ _, Wext.refl _, (Ent.rpvMk (v := x22) h225 h228 h231 h234 h237), trivial⟩
      · intro D238 F239 s240 d241 d242 d243 hE244 hW245 hG246 hfr247 hR248
        have hE249 := hE14.trans hE244
        have q250 : F239 12 = (.func (.func kk1) (List.toArray fi1) (List.toArray ca1)) := hR248 0 rfl 12 rfl
        have q251 : RpV s240 (x20 : Ent) (F239 17) := hR248 5 rfl 17 rfl
        obtain ⟨A252, c253, A255, c256, A258, c259, A261, c262, A264, c265, hv267, h254, h257, h260, h263, h266⟩ := Ent.rpv q251
        have q268 : RpV s240 (x22 : Ent) (F239 21) := hR248 9 rfl 21 rfl
        obtain ⟨A269, c270, A272, c273, A275, c276, A278, c279, A281, c282, hv284, h271, h274, h277, h280, h283⟩ := Ent.rpv q268
        refine r_callv [.agg #[.slice A252 x20.Args.length c253, .bool x20.Fails, .int .i64 x20.Result.Kind, .int .i64 x20.Result.Int_, .string x20.Result.Text, .slice A255 x20.Result.Kids.length c256, .slice A258 x20.Result.Keys.length c259, .slice A261 x20.Result.Entries.length c262, .slice A264 x20.Result.Labels.length c265], .agg #[.slice A269 x22.Args.length c270, .bool x22.Fails, .int .i64 x22.Result.Kind, .int .i64 x22.Result.Int_, .string x22.Result.Text, .slice A272 x22.Result.Kids.length c273, .slice A275 x22.Result.Keys.length c276, .slice A278 x22.Result.Entries.length c279, .slice A281 x22.Result.Labels.length c282]] q250 rfl (evs2 hv267 hv284) rfl (hk1 s240 hE249 _ _ _ _ _ (Ent.rpvMk (v := x20) h254 h257 h260 h263 h266) (Ent.rpvMk (v := x22) h271 h274 h277 h280 h283) e25) ?_
        intro v286 s285 hx287 hr288
        have hE289 := hE249.ext hE249.size hx287
        obtain rfl := RpV.int hr288
        refine wpList_nil ?_
        exact ⟨_, _, rfl, rfl, (ExtB.refl _ _).trans (hx287.mono hE249.size), (Wext.refl _).trans hx287.wext, rfl, trivial⟩
      · intro D290 F291 s292 d293 d294 d295 hE296 hW297 hG298 hfr299 hR300
        have hE301 := hE14.trans hE296
        have q302 : F291 22 = (.int .i64 r24) := hR300 10 rfl 22 rfl
        refine r_bin (.int .i64 r24) (.int .i64 0) (.bool (decide (0 ≤ r24))) q302 rfl rfl rfl (b_geq) ?_
        refine wpList_nil ?_
        exact ⟨_, _, rfl, rfl, ExtB.refl _ _, Wext.refl _, rfl, trivial⟩
      · intro F303 s304 hE305 hW306 hG307 hfr308 hR309
        have hE310 := hE14.trans hE305
        have hF311 : F303 0 = (.slice A1 a0.length c2) := (hfr308 0 rfl).trans hF17
        have hF312 : F303 1 = (.func (.func kk1) (List.toArray fi1) (List.toArray ca1)) := (hfr308 1 rfl).trans hF18
        have hF313 : F303 5 = (.int .i64 q10) := (hfr308 5 rfl).trans h16
        have q314 : F303 23 = (.bool (decide (0 ≤ r24))) := hR309 11 23 rfl
        refine p_then ?_
        refine if_else hf (fun hc315 hf => ?_) (fun hc315 hf => ?_)
        · refine c_true q314 hc315 rfl ?_
          refine wp_seq ?_
          refine wp_region_lit ?_
          refine r_assign (.bool false) rfl rfl ?_
          refine wpList_nil ?_
          refine p_then ?_
          refine wp_ret ?_
          refine p_br ?_
          refine p_thenr ?_
          obtain rfl := Option.some.inj hf
          exact ⟨rfl, _, _, (.bool false), rfl, rfl, hE310, ⟨rfl, rfl⟩, (RpV.mkBool _ _)⟩
        · refine c_false q314 hc315 rfl ?_
          refine wp_skip ?_
          refine p_bn ?_
          refine p_then ?_
          refine wp_region_lit ?_
          refine r_move (.int .i64 q10) hF313 rfl ?_
          refine r_bin (.int .i64 q10) (.int .i64 1) (.int .i64 (w64 (q10 + 1))) rfl rfl rfl rfl (b_add) ?_
          refine r_assign (.int .i64 (w64 (q10 + 1))) rfl rfl ?_
          refine wpList_nil ?_
          obtain rfl := Option.some.inj hf
          exact ⟨rfl, _, _, rfl, rfl, (((((((((hag13).put rfl).put rfl).put rfl).put rfl).draw hfr308 rfl).put rfl).put rfl).put rfl), hE310, (((Wext.refl _).trans hW15).trans hW306), rfl⟩
    · refine c_false rfl hc19 rfl ?_
      refine wp_exit ?_
      refine p_thenx ?_
      obtain rfl := Option.some.inj hf
      exact ⟨rfl, _, _, rfl, rfl, (((((hag13).put rfl).put rfl).put rfl).put rfl), hE14, ((Wext.refl _).trans hW15), h16⟩
  · exact ⟨_, _, rfl, rfl, (Agr.refl _ _), hE0, (Wext.refl _), hF9⟩
  · intro e a w hp
    rcases o316 with q318 | r
    · replace hf := onEnd_inl hf
      obtain ⟨rfl, F319, s320, rfl, rfl, hag321, hE322, hW323, h324⟩ := hp
      have hF325 : F319 0 = (.slice A1 a0.length c2) := (hag321 0 rfl).trans hF6
      have hF326 : F319 1 = (.func (.func kk1) (List.toArray fi1) (List.toArray ca1)) := (hag321 1 rfl).trans hF7
      refine p_bx ?_
      refine p_then ?_
      refine wp_seq ?_
      refine wp_region_lit ?_
      refine r_assign (.bool true) rfl rfl ?_
      refine wpList_nil ?_
      refine p_then ?_
      refine wp_ret ?_
      obtain rfl := Option.some.inj hf
      refine ret_one (.bool true) rfl ⟨rfl, rfl⟩ hE322 ?_
      exact (RpV.mkBool _ _)
    · replace hf := onEnd_inr hf
      obtain ⟨rfl, F330, s331, v327, rfl, rfl, hE332, h328, h329⟩ := hp
      refine p_br ?_
      refine p_thenr ?_
      obtain rfl := Option.some.inj hf
      refine ret_one v327 rfl h328 hE332 ?_
      exact h329

def S_value_Equal (f : (Val → Val → Option Bool)) : Prop := ∀ (s0 : S) (v0 : Value) (v1 : Value) (a0 : Val) (a1 : Val) (r : Bool), RpV s0 a0 v0 → RpV s0 a1 v1 → f a0 a1 = some r → Ctr Go.Proofs.Try.prog 14 [v0, v1] s0 (fun v τ => RpV τ r v)

set_option maxHeartbeats 1600000 in
set_option maxRecDepth 100000 in
theorem ok_value_Equal (fuel : Nat) : S_value_Equal (value_Equal fuel) := by
  intro s0 v0 v1 a0 a1 r h0 h1 hf
  obtain ⟨A1, c2, A4, c5, A7, c8, A10, c11, rfl, h3, h6, h9, h12⟩ := Val.rpv h0
  obtain ⟨A13, c14, A16, c17, A19, c20, A22, c23, rfl, h15, h18, h21, h24⟩ := Val.rpv h1
  unfold value_Equal at hf
  have hE0 : ExtB s0.N s0 s0 := ExtB.refl _ _
  refine ctr_of 9 Go.Proofs.Try.func14 rfl rfl rfl rfl ?_
  refine wp_seq ?_
  refine wp_region_lit ?_
  refine r_box (B := s0.N) 1 hE0.size (.agg #[.int .i64 a0.Kind, .int .i64 a0.Int_, .string a0.Text, .slice A1 a0.Kids.length c2, .slice A4 a0.Keys.length c5, .slice A7 a0.Entries.length c8, .slice A10 a0.Labels.length c11]) [.int .i64 a0.Kind, .int .i64 a0.Int_, .string a0.Text, .slice A1 a0.Kids.length c2, .slice A4 a0.Keys.length c5, .slice A7 a0.Entries.length c8, .slice A10 a0.Labels.length c11] rfl rfl rfl ?_
  intro s26 b25 hx27 hb28
  have hE29 := hE0.ext hE0.size hx27
  refine r_box (B := s0.N) 2 hE29.size (.agg #[.int .i64 a1.Kind, .int .i64 a1.Int_, .string a1.Text, .slice A13 a1.Kids.length c14, .slice A16 a1.Keys.length c17, .slice A19 a1.Entries.length c20, .slice A22 a1.Labels.length c23]) [.int .i64 a1.Kind, .int .i64 a1.Int_, .string a1.Text, .slice A13 a1.Kids.length c14, .slice A16 a1.Keys.length c17, .slice A19 a1.Entries.length c20, .slice A22 a1.Labels.length c23] rfl rfl rfl ?_
  intro s31 b30 hx32 hb33
  have hE34 := hE29.ext hE29.size hx32
  refine r_assign (.bool false) rfl rfl ?_
  refine wpList_nil ?_
  refine p_then ?_
  refine wp_seq ?_
  refine wp_region_lit ?_
  refine r_load b25 0 (.agg #[.int .i64 a0.Kind, .int .i64 a0.Int_, .string a0.Text, .slice A1 a0.Kids.length c2, .slice A4 a0.Keys.length c5, .slice A7 a0.Entries.length c8, .slice A10 a0.Labels.length c11]) rfl rfl (loads_row tr27 (Blk.range (hb28.ext hx32) 0 [.int .i64 a0.Kind, .int .i64 a0.Int_, .string a0.Text, .slice A1 a0.Kids.length c2, .slice A4 a0.Keys.length c5, .slice A7 a0.Entries.length c8, .slice A10 a0.Labels.length c11] rfl)) ?_
  refine r_load b30 0 (.agg #[.int .i64 a1.Kind, .int .i64 a1.Int_, .string a1.Text, .slice A13 a1.Kids.length c14, .slice A16 a1.Keys.length c17, .slice A19 a1.Entries.length c20, .slice A22 a1.Labels.length c23]) rfl rfl (loads_row tr27 (Blk.range hb33 0 [.int .i64 a1.Kind, .int .i64 a1.Int_, .string a1.Text, .slice A13 a1.Kids.length c14, .slice A16 a1.Keys.length c17, .slice A19 a1.Entries.length c20, .slice A22 a1.Labels.length c23] rfl)) ?_
  obtain ⟨r35, e36, hf⟩ := bind_some hf
  refine r_call [.agg #[.int .i64 a0.Kind, .int .i64 a0.Int_, .string a0.Text, .slice A1 a0.Kids.length c2, .slice A4 a0.Keys.length c5, .slice A7 a0.Entries.length c8, .slice A10 a0.Labels.length c11], .agg #[.int .i64 a1.Kind, .int .i64 a1.Int_, .string a1.Text, .slice A13 a1.Kids.length c14, .slice A16 a1.Keys.length c17, .slice A19 a1.Entries.length c20, .slice A22 a1.Labels.length c23]] (evs2 rfl rfl) rfl ((ok_value_Compare fuel) _ _ _ _ _ _ (Val.rpvMk (v := a0) ((h3.mono hx27.wext).mono hx32.wext) ((h6.mono hx27.wext).mono hx32.wext) ((h9.mono hx27.wext).mono hx32.wext) ((h12.mono hx27.wext).mono hx32.wext)) (Val.rpvMk (v := a1) ((h15.mono hx27.wext).mono hx32.wext) ((h18.mono hx27.wext).mono hx32.wext) ((h21.mono hx27.wext).mono hx32.wext) ((h24.mono hx27.wext).mono hx32.wext)) e36) ?_
  intro v38 s37 hx39 hr40
  have hE41 := hE34.ext hE34.size hx39
  obtain rfl := RpV.int hr40
  refine r_bin (.int .i64 r35) (.int .i64 0) (.bool (r35 == 0)) rfl rfl rfl rfl (b_eql) ?_
  refine r_assign (.bool (r35 == 0)) rfl rfl ?_
  refine wpList_nil ?_
  refine p_then ?_
  refine wp_ret ?_
  obtain rfl := Option.some.inj hf
  refine ret_one (.bool (r35 == 0)) rfl ⟨rfl, rfl⟩ hE41 ?_
  exact (RpV.mkBool _ _)

def S_value_isZero (f : (Val → Option Bool)) : Prop := ∀ (s0 : S) (v0 : Value) (a0 : Val) (r : Bool), RpV s0 a0 v0 → f a0 = some r → Ctr Go.Proofs.Try.prog 108 [v0] s0 (fun v τ => RpV τ r v)

set_option maxHeartbeats 1600000 in
set_option maxRecDepth 100000 in
theorem ok_value_isZero (fuel : Nat) : S_value_isZero (value_isZero fuel) := by
  intro s0 v0 a0 r h0 hf
  obtain ⟨A1, c2, A4, c5, A7, c8, A10, c11, rfl, h3, h6, h9, h12⟩ := Val.rpv h0
  unfold value_isZero at hf
  have hE0 : ExtB s0.N s0 s0 := ExtB.refl _ _
  refine ctr_of 6 Go.Proofs.Try.func108 rfl rfl rfl rfl ?_
  refine wp_seq ?_
  refine wp_region_lit ?_
  refine r_box (B := s0.N) 1 hE0.size (.agg #[.int .i64 a0.Kind, .int .i64 a0.Int_, .string a0.Text, .slice A1 a0.Kids.length c2, .slice A4 a0.Keys.length c5, .slice A7 a0.Entries.length c8, .slice A10 a0.Labels.length c11]) [.int .i64 a0.Kind, .int .i64 a0.Int_, .string a0.Text, .slice A1 a0.Kids.length c2, .slice A4 a0.Keys.length c5, .slice A7 a0.Entries.length c8, .slice A10 a0.Labels.length c11] rfl rfl rfl ?_
  intro s14 b13 hx15 hb16
  have hE17 := hE0.ext hE0.size hx15
  refine r_assign (.bool false) rfl rfl ?_
  refine wpList_nil ?_
  refine p_then ?_
  refine wp_seq ?_
  refine wp_region_lit ?_
  refine r_load b13 0 (.agg #[.int .i64 a0.Kind, .int .i64 a0.Int_, .string a0.Text, .slice A1 a0.Kids.length c2, .slice A4 a0.Keys.length c5, .slice A7 a0.Entries.length c8, .slice A10 a0.Labels.length c11]) rfl rfl (loads_row tr27 (Blk.range hb16 0 [.int .i64 a0.Kind, .int .i64 a0.Int_, .string a0.Text, .slice A1 a0.Kids.length c2, .slice A4 a0.Keys.length c5, .slice A7 a0.Entries.length c8, .slice A10 a0.Labels.length c11] rfl)) ?_
  refine r_build tst27 [] [.int .i64 0, .int .i64 0, .string (⟨#[]⟩), .slice none ([] : List Val).length 0, .slice none ([] : List Key).length 0, .slice none ([] : List Ent).length 0, .slice none ([] : List ByteArray).length 0] eps_nil rfl rfl ?_
  obtain ⟨r18, e19, hf⟩ := bind_some hf
  refine r_call [.agg #[.int .i64 a0.Kind, .int .i64 a0.Int_, .string a0.Text, .slice A1 a0.Kids.length c2, .slice A4 a0.Keys.length c5, .slice A7 a0.Entries.length c8, .slice A10 a0.Labels.length c11], .agg #[.int .i64 0, .int .i64 0, .string (⟨#[]⟩), .slice none ([] : List Val).length 0, .slice none ([] : List Key).length 0, .slice none ([] : List Ent).length 0, .slice none ([] : List ByteArray).length 0]] (evs2 rfl rfl) rfl ((ok_value_Equal fuel) _ _ _ _ _ _ (Val.rpvMk (v := a0) (h3.mono hx15.wext) (h6.mono hx15.wext) (h9.mono hx15.wext) (h12.mono hx15.wext)) (Val.rpvMk (v := (Val.mk 0 0 (⟨#[]⟩) ([] : List Val) ([] : List Key) ([] : List Ent) ([] : List ByteArray))) (Sl.nil_ _ _ _ (Nat.zero_le _)) (Sl.nil_ _ _ _ (Nat.zero_le _)) (Sl.nil_ _ _ _ (Nat.zero_le _)) (Sl.nil_ _ _ _ (Nat.zero_le _))) e19) ?_
  intro v21 s20 hx22 hr23
  have hE24 := hE17.ext hE17.size hx22
  obtain rfl := RpV.bool hr23
  refine r_assign (.bool r18) rfl rfl ?_
  refine wpList_nil ?_
  refine p_then ?_
  refine wp_ret ?_
  obtain rfl := Option.some.inj hf
  refine ret_one (.bool r18) rfl ⟨rfl, rfl⟩ hE24 ?_
  exact (RpV.mkBool _ _)

def S_value_validEntry (f : (Ent → Int → Option Bool)) : Prop := ∀ (s0 : S) (v0 : Value) (v1 : Value) (a0 : Ent) (a1 : Int) (r : Bool), RpV s0 a0 v0 → RpV s0 a1 v1 → f a0 a1 = some r → Ctr Go.Proofs.Try.prog 104 [v0, v1] s0 (fun v τ => RpV τ r v)

set_option maxHeartbeats 1600000 in
set_option maxRecDepth 100000 in
theorem ok_value_validEntry (fuel : Nat) : S_value_validEntry (value_validEntry fuel) := by
  intro s0 v0 v1 a0 a1 r h0 h1 hf
  obtain ⟨A1, c2, A4, c5, A7, c8, A10, c11, A13, c14, rfl, h3, h6, h9, h12, h15⟩ := Ent.rpv h0
  obtain rfl := RpV.int h1
  unfold value_validEntry at hf
  have hE0 : ExtB s0.N s0 s0 := ExtB.refl _ _
  refine ctr_of 20 Go.Proofs.Try.func104 rfl rfl rfl rfl ?_
  refine wp_seq ?_
  refine wp_region_lit ?_
  refine r_box (B := s0.N) 1 hE0.size (.agg #[.slice A1 a0.Args.length c2, .bool a0.Fails, .int .i64 a0.Result.Kind, .int .i64 a0.Result.Int_, .string a0.Result.Text, .slice A4 a0.Result.Kids.length c5, .slice A7 a0.Result.Keys.length c8, .slice A10 a0.Result.Entries.length c11, .slice A13 a0.Result.Labels.length c14]) [.slice A1 a0.Args.length c2, .bool a0.Fails, .int .i64 a0.Result.Kind, .int .i64 a0.Result.Int_, .string a0.Result.Text, .slice A4 a0.Result.Kids.length c5, .slice A7 a0.Result.Keys.length c8, .slice A10 a0.Result.Entries.length c11, .slice A13 a0.Result.Labels.length c14] rfl rfl rfl ?_
  intro s17 b16 hx18 hb19
  have hE20 := hE0.ext hE0.size hx18
  refine r_assign (.bool false) rfl rfl ?_
  refine wpList_nil ?_
  refine p_then ?_
  refine wp_seq ?_
  refine wp_region_lit ?_
  refine r_fieldAddr b16 0 0 0 rfl rfl fo65_0 rfl ?_
  refine r_load b16 0 (.slice A1 a0.Args.length c2) rfl rfl (loads_one to22 ((hb19.cell 0).trans rfl)) ?_
  refine r_len A1 a0.Args.length c2 rfl rfl Go.Proofs.Try.underlying22 ?_
  refine r_move (.int .i64 a1) rfl rfl ?_
  refine r_bin (.int .i64 (a0.Args.length : Int)) (.int .i64 a1) (.bool ((a0.Args.length : Int) == a1)) rfl rfl rfl rfl (b_eql) ?_
  refine r_move (.bool ((a0.Args.length : Int) == a1)) rfl rfl ?_
  refine if_else hf (fun hc21 hf => ?_) (fun hc21 hf => ?_)
  · refine r_guard (j := 5) (want := true) (d := 10) (c := ((a0.Args.length : Int) == a1)) (v := true) rfl rfl hc21 rfl rfl ?_
    refine r_fieldAddr b16 0 1 1 rfl rfl fo65_1 rfl ?_
    refine r_guard (j := 5) (want := true) (d := 10) (c := ((a0.Args.length : Int) == a1)) (v := true) rfl rfl hc21 rfl rfl ?_
    refine r_load b16 1 (.bool a0.Fails) rfl rfl (loads_one to4 ((hb19.cell 1).trans rfl)) ?_
    refine r_guard (j := 5) (want := true) (d := 10) (c := ((a0.Args.length : Int) == a1)) (v := true) rfl rfl hc21 rfl rfl ?_
    refine r_un (.bool a0.Fails) (.bool (!a0.Fails)) rfl rfl u_not ?_
    refine r_guard (j := 5) (want := true) (d := 10) (c := ((a0.Args.length : Int) == a1)) (v := true) rfl rfl hc21 rfl rfl ?_
    refine r_move (.bool (!a0.Fails)) rfl rfl ?_
    refine gen_FL fun F22 hg23 => ?_
    have hF24 : F22 2 = (.pointer (some ⟨b16, 0, none⟩)) := (hg23 2).trans rfl
    have hF25 : F22 4 = (.bool false) := (hg23 4).trans rfl
    have hF26 : F22 10 = (.bool ((a0.Args.length : Int) == a1)) := (hg23 10).trans rfl
    have hF27 : F22 14 = (.bool (!a0.Fails)) := (hg23 14).trans rfl
    obtain ⟨q28, hq29, hf⟩ := bind_some hf
    refine wpl_take 4 (J := fun a w => ∃ (F : Fr) (τ : S), a = fr 20 F ∧ w = τ.w ∧ Agr [15, 16, 17, 18] F F22 ∧ ExtB s0.N s0 τ ∧ Wext s17 τ ∧ F 18 = (.bool q28)) ?_ ?_
    · have hf := hq29
      refine if_else hf (fun hc30 hf => ?_) (fun hc30 hf => ?_)
      · refine r_skip (j := 9) (want := false) (d := 14) (c := !a0.Fails) (v := true) rfl hF27 hc30 rfl rfl ?_
        refine r_skip (j := 9) (want := false) (d := 14) (c := !a0.Fails) (v := true) rfl hF27 hc30 rfl rfl ?_
        refine r_skip (j := 9) (want := false) (d := 14) (c := !a0.Fails) (v := true) rfl hF27 hc30 rfl rfl ?_
        refine r_guard (j := 5) (want := true) (d := 10) (c := ((a0.Args.length : Int) == a1)) (v := true) rfl hF26 hc21 rfl rfl ?_
        refine r_pick_t (c := !a0.Fails) (.bool true) hF27 hc30 rfl rfl rfl rfl ?_
        refine wpList_nil ?_
        obtain rfl := Option.some.inj hf
        exact ⟨rfl, _, _, rfl, rfl, (((((Agr.refl _ _).put rfl).put rfl).put rfl).put rfl), hE20, (Wext.refl _), rfl⟩
      · refine r_guard (j := 9) (want := false) (d := 14) (c := !a0.Fails) (v := false) rfl hF27 hc30 rfl rfl ?_
        refine r_fieldAddr b16 0 2 2 hF24 rfl fo65_2 rfl ?_
        refine r_guard (j := 9) (want := false) (d := 14) (c := !a0.Fails) (v := false) rfl hF27 hc30 rfl rfl ?_
        refine r_load b16 2 (.agg #[.int .i64 a0.Result.Kind, .int .i64 a0.Result.Int_, .string a0.Result.Text, .slice A4 a0.Result.Kids.length c5, .slice A7 a0.Result.Keys.length c8, .slice A10 a0.Result.Entries.length c11, .slice A13 a0.Result.Labels.length c14]) rfl rfl (loads_row tr27 (Blk.range hb19 2 [.int .i64 a0.Result.Kind, .int .i64 a0.Result.Int_, .string a0.Result.Text, .slice A4 a0.Result.Kids.length c5, .slice A7 a0.Result.Keys.length c8, .slice A10 a0.Result.Entries.length c11, .slice A13 a0.Result.Labels.length c14] rfl)) ?_
        refine r_guard (j := 9) (want := false) (d := 14) (c := !a0.Fails) (v := false) rfl hF27 hc30 rfl rfl ?_
        obtain ⟨r31, e32, hf⟩ := bind_some hf
        refine r_call [.agg #[.int .i64 a0.Result.Kind, .int .i64 a0.Result.Int_, .string a0.Result.Text, .slice A4 a0.Result.Kids.length c5, .slice A7 a0.Result.Keys.length c8, .slice A10 a0.Result.Entries.length c11, .slice A13 a0.Result.Labels.length c14]] (evs1 rfl) rfl ((ok_value_isZero fuel) _ _ _ _ (Val.rpvMk (v := a0.Result) (h6.mono hx18.wext) (h9.mono hx18.wext) (h12.mono hx18.wext) (h15.mono hx18.wext)) e32) ?_
        intro v34 s33 hx35 hr36
        have hE37 := hE20.ext hE20.size hx35
        obtain rfl := RpV.bool hr36
        refine r_guard (j := 5) (want := true) (d := 10) (c := ((a0.Args.length : Int) == a1)) (v := true) rfl hF26 hc21 rfl rfl ?_
        refine r_pick_f (c := !a0.Fails) (.bool r31) hF27 hc30 rfl rfl rfl rfl ?_
        refine wpList_nil ?_
        obtain rfl := Option.some.inj hf
        exact ⟨rfl, _, _, rfl, rfl, (((((Agr.refl _ _).put rfl).put rfl).put rfl).put rfl), hE37, ((Wext.refl _).trans hx35.wext), rfl⟩
    · rintro a w ⟨F38, s39, rfl, rfl, hag40, hE41, hW42, h43⟩
      have hF44 : F38 4 = (.bool false) := (hag40 4 rfl).trans hF25
      have hF45 : F38 10 = (.bool ((a0.Args.length : Int) == a1)) := (hag40 10 rfl).trans hF26
      refine r_pick_t (c := ((a0.Args.length : Int) == a1)) (.bool q28) hF45 hc21 h43 rfl rfl rfl ?_
      refine r_assign (.bool q28) rfl rfl ?_
      refine wpList_nil ?_
      refine p_then ?_
      refine wp_ret ?_
      obtain rfl := Option.some.inj hf
      refine ret_one (.bool q28) rfl ⟨rfl, rfl⟩ hE41 ?_
      exact (RpV.mkBool _ _)
  · refine r_skip (j := 5) (want := true) (d := 10) (c := ((a0.Args.length : Int) == a1)) (v := false) rfl rfl hc21 rfl rfl ?_
    refine r_skip (j := 5) (want := true) (d := 10) (c := ((a0.Args.length : Int) == a1)) (v := false) rfl rfl hc21 rfl rfl ?_
    refine r_skip (j := 5) (want := true) (d := 10) (c := ((a0.Args.length : Int) == a1)) (v := false) rfl rfl hc21 rfl rfl ?_
    refine r_skip (j := 5) (want := true) (d := 10) (c := ((a0.Args.length : Int) == a1)) (v := false) rfl rfl hc21 rfl rfl ?_
    refine r_skipu (j := 9) (d := 14) rfl rfl rfl ?_
    refine r_skipu (j := 9) (d := 14) rfl rfl rfl ?_
    refine r_skipu (j := 9) (d := 14) rfl rfl rfl ?_
    refine r_skip (j := 5) (want := true) (d := 10) (c := ((a0.Args.length : Int) == a1)) (v := false) rfl rfl hc21 rfl rfl ?_
    refine r_pick_f (c := ((a0.Args.length : Int) == a1)) (.bool false) rfl hc21 rfl rfl rfl rfl ?_
    refine r_assign (.bool false) rfl rfl ?_
    refine wpList_nil ?_
    refine p_then ?_
    refine wp_ret ?_
    obtain rfl := Option.some.inj hf
    refine ret_one (.bool false) rfl ⟨rfl, rfl⟩ hE20 ?_
    exact (RpV.mkBool _ _)

def S_value_validFunction (f : (Val → Option Bool)) : Prop := ∀ (s0 : S) (v0 : Value) (a0 : Val) (r : Bool), RpV s0 a0 v0 → f a0 = some r → Ctr Go.Proofs.Try.prog 84 [v0] s0 (fun v τ => RpV τ r v)

set_option maxHeartbeats 1600000 in
set_option maxRecDepth 100000 in
theorem ok_value_validFunction (fuel : Nat) : S_value_validFunction (value_validFunction fuel) := by
  intro s0 v0 a0 r h0 hf
  obtain ⟨A1, c2, A4, c5, A7, c8, A10, c11, rfl, h3, h6, h9, h12⟩ := Val.rpv h0
  unfold value_validFunction at hf
  have hE0 : ExtB s0.N s0 s0 := ExtB.refl _ _
  refine ctr_of 32 Go.Proofs.Try.func84 rfl rfl rfl rfl ?_
  refine wp_seq ?_
  refine wp_region_lit ?_
  refine r_box (B := s0.N) 1 hE0.size (.agg #[.int .i64 a0.Kind, .int .i64 a0.Int_, .string a0.Text, .slice A1 a0.Kids.length c2, .slice A4 a0.Keys.length c5, .slice A7 a0.Entries.length c8, .slice A10 a0.Labels.length c11]) [.int .i64 a0.Kind, .int .i64 a0.Int_, .string a0.Text, .slice A1 a0.Kids.length c2, .slice A4 a0.Keys.length c5, .slice A7 a0.Entries.length c8, .slice A10 a0.Labels.length c11] rfl rfl rfl ?_
  intro s14 b13 hx15 hb16
  have hE17 := hE0.ext hE0.size hx15
  refine r_assign (.bool false) rfl rfl ?_
  refine wpList_nil ?_
  refine p_then ?_
  refine wp_seq ?_
  refine wp_seq ?_
  refine wp_region_lit ?_
  refine r_fieldAddr b13 0 1 1 rfl rfl fo27_1 rfl ?_
  refine r_load b13 1 (.int .i64 a0.Int_) rfl rfl (loads_one to2 ((hb16.cell 1).trans rfl)) ?_
  refine r_bin (.int .i64 a0.Int_) (.int .i64 0) (.bool (decide (a0.Int_ < 0))) rfl rfl rfl rfl (b_lss) ?_
  refine r_move (.bool (decide (a0.Int_ < 0))) rfl rfl ?_
  refine gen_FL fun F18 hg19 => ?_
  have hF20 : F18 1 = (.pointer (some ⟨b13, 0, none⟩)) := (hg19 1).trans rfl
  have hF21 : F18 2 = (.bool false) := (hg19 2).trans rfl
  have hF22 : F18 8 = (.bool (decide (a0.Int_ < 0))) := (hg19 8).trans rfl
  obtain ⟨q23, hq24, hf⟩ := bind_some hf
  refine wpl_take 4 (J := fun a w => ∃ (F : Fr) (τ : S), a = fr 32 F ∧ w = τ.w ∧ Agr [9, 10, 11, 12] F F18 ∧ ExtB s0.N s0 τ ∧ Wext s14 τ ∧ F 12 = (.bool q23) ∧ Blk s0.N 1 τ b13 27 [.int .i64 a0.Kind, .int .i64 a0.Int_, .string a0.Text, .slice A1 a0.Kids.length c2, .slice A4 a0.Keys.length c5, .slice A7 a0.Entries.length c8, .slice A10 a0.Labels.length c11]) ?_ ?_
  · have hf := hq24
    refine if_else hf (fun hc25 hf => ?_) (fun hc25 hf => ?_)
    · refine r_skip (j := 3) (want := false) (d := 8) (c := decide (a0.Int_ < 0)) (v := true) rfl hF22 hc25 rfl rfl ?_
      refine r_skip (j := 3) (want := false) (d := 8) (c := decide (a0.Int_ < 0)) (v := true) rfl hF22 hc25 rfl rfl ?_
      refine r_skip (j := 3) (want := false) (d := 8) (c := decide (a0.Int_ < 0)) (v := true) rfl hF22 hc25 rfl rfl ?_
      refine r_pick_t (c := decide (a0.Int_ < 0)) (.bool true) hF22 hc25 rfl rfl rfl rfl ?_
      refine wpList_nil ?_
      obtain rfl := Option.some.inj hf
      exact ⟨rfl, _, _, rfl, rfl, (((((Agr.refl _ _).put rfl).put rfl).put rfl).put rfl), hE17, (Wext.refl _), rfl, hb16⟩
    · refine r_guard (j := 3) (want := false) (d := 8) (c := decide (a0.Int_ < 0)) (v := false) rfl hF22 hc25 rfl rfl ?_
      refine r_fieldAddr b13 0 1 1 hF20 rfl fo27_1 rfl ?_
      refine r_guard (j := 3) (want := false) (d := 8) (c := decide (a0.Int_ < 0)) (v := false) rfl hF22 hc25 rfl rfl ?_
      refine r_load b13 1 (.int .i64 a0.Int_) rfl rfl (loads_one to2 ((hb16.cell 1).trans rfl)) ?_
      refine r_guard (j := 3) (want := false) (d := 8) (c := decide (a0.Int_ < 0)) (v := false) rfl hF22 hc25 rfl rfl ?_
      refine r_bin (.int .i64 a0.Int_) (.int .i64 4) (.bool (decide (4 < a0.Int_))) rfl rfl rfl rfl (b_gtr) ?_
      refine r_pick_f (c := decide (a0.Int_ < 0)) (.bool (decide (4 < a0.Int_))) hF22 hc25 rfl rfl rfl rfl ?_
      refine wpList_nil ?_
      obtain rfl := Option.some.inj hf
      exact ⟨rfl, _, _, rfl, rfl, (((((Agr.refl _ _).put rfl).put rfl).put rfl).put rfl), hE17, (Wext.refl _), rfl, hb16⟩
  · rintro a w ⟨F26, s27, rfl, rfl, hag28, hE29, hW30, h31, h32⟩
    have hF33 : F26 1 = (.pointer (some ⟨b13, 0, none⟩)) := (hag28 1 rfl).trans hF20
    have hF34 : F26 2 = (.bool false) := (hag28 2 rfl).trans hF21
    refine r_move (.bool q23) h31 rfl ?_
    refine if_else hf (fun hc35 hf => ?_) (fun hc35 hf => ?_)
    · refine r_skip (j := 8) (want := false) (d := 13) (c := q23) (v := true) rfl rfl hc35 rfl rfl ?_
      refine r_skip (j := 8) (want := false) (d := 13) (c := q23) (v := true) rfl rfl hc35 rfl rfl ?_
      refine r_skip (j := 8) (want := false) (d := 13) (c := q23) (v := true) rfl rfl hc35 rfl rfl ?_
      refine r_skip (j := 8) (want := false) (d := 13) (c := q23) (v := true) rfl rfl hc35 rfl rfl ?_
      refine r_pick_t (c := q23) (.bool true) rfl hc35 rfl rfl rfl rfl ?_
      refine wpList_nil ?_
      refine p_then ?_
      refine c_true rfl rfl rfl ?_
      refine wp_seq ?_
      refine wp_region_lit ?_
      refine r_assign (.bool false) rfl rfl ?_
      refine wpList_nil ?_
      refine p_then ?_
      refine wp_ret ?_
      refine p_thenr ?_
      obtain rfl := Option.some.inj hf
      refine ret_one (.bool false) rfl ⟨rfl, rfl⟩ hE29 ?_
      exact (RpV.mkBool _ _)
    · refine r_guard (j := 8) (want := false) (d := 13) (c := q23) (v := false) rfl rfl hc35 rfl rfl ?_
      refine r_fieldAddr b13 0 5 5 hF33 rfl fo27_5 rfl ?_
      refine r_guard (j := 8) (want := false) (d := 13) (c := q23) (v := false) rfl rfl hc35 rfl rfl ?_
      refine r_load b13 5 (.slice A7 a0.Entries.length c8) rfl rfl (loads_one to24 ((h32.cell 5).trans rfl)) ?_
      refine r_guard (j := 8) (want := false) (d := 13) (c := q23) (v := false) rfl rfl hc35 rfl rfl ?_
      obtain ⟨r36, e37, hf⟩ := bind_some hf
      refine r_call [.slice A7 a0.Entries.length c8, .func (.func 44) #[] #[]] (evs2 rfl rfl) rfl (ok_value_ascending_api_Entry _ _ _ _ _ _ (RpV.mkList ((h9.mono hx15.wext).mono hW30)) ⟨44, [], [], rfl, fun _ _ _ _ _ _ _ h1 h2 h => ((ok_value_compareEntries fuel) _ _ _ _ _ _ h1 h2 h)⟩ e37) ?_
      intro v39 s38 hx40 hr41
      have hE42 := hE29.ext hE29.size hx40
      obtain rfl := RpV.bool hr41
      refine r_guard (j := 8) (want := false) (d := 13) (c := q23) (v := false) rfl rfl hc35 rfl rfl ?_
      refine r_un (.bool r36) (.bool (!r36)) rfl rfl u_not ?_
      refine r_pick_f (c := q23) (.bool (!r36)) rfl hc35 rfl rfl rfl rfl ?_
      refine wpList_nil ?_
      refine p_then ?_
      refine if_else hf (fun hc43 hf => ?_) (fun hc43 hf => ?_)
      · refine c_true rfl hc43 rfl ?_
        refine wp_seq ?_
        refine wp_region_lit ?_
        refine r_assign (.bool false) rfl rfl ?_
        refine wpList_nil ?_
        refine p_then ?_
        refine wp_ret ?_
        refine p_thenr ?_
        obtain rfl := Option.some.inj hf
        refine ret_one (.bool false) rfl ⟨rfl, rfl⟩ hE42 ?_
        exact (RpV.mkBool _ _)
      · refine c_false rfl hc43 rfl ?_
        refine wp_skip ?_
        refine p_then ?_
        refine wp_seq ?_
        refine wp_seq ?_
        refine wp_region_lit ?_
        refine r_fieldAddr b13 0 5 5 hF33 rfl fo27_5 rfl ?_
        refine r_load b13 5 (.slice A7 a0.Entries.length c8) rfl rfl (loads_one to24 (((h32.ext hx40).cell 5).trans rfl)) ?_
        refine r_len A7 a0.Entries.length c8 rfl rfl Go.Proofs.Try.underlying24 ?_
        refine r_move (.int .i64 0) rfl rfl ?_
        refine wpList_nil ?_
        refine p_then ?_
        refine wp_block ?_
        refine gen_F fun F44 hg45 => ?_
        have hF46 : F44 1 = (.pointer (some ⟨b13, 0, none⟩)) := (hg45 1).trans hF33
        have hF47 : F44 2 = (.bool false) := (hg45 2).trans hF34
        have hF48 : F44 20 = (.slice A7 a0.Entries.length c8) := (hg45 20).trans rfl
        have hF49 : F44 21 = (.int .i64 (a0.Entries.length : Int)) := (hg45 21).trans rfl
        have hF50 : F44 22 = (.int .i64 0) := (hg45 22).trans rfl
        obtain ⟨o102, ho103, hf⟩ := bind_some hf
        refine wp_mono (wp_iter (step := value_validFunction_l1 fuel a0) (fun q a w => ∃ (F : Fr) (τ : S), a = fr 32 F ∧ w = τ.w ∧ Agr [2, 4, 22, 23, 24, 25, 26, 27, 28, 29, 30, 31] F F44 ∧ ExtB s0.N s0 τ ∧ Wext s38 τ ∧ F 22 = (.int .i64 q) ∧ Blk s0.N 1 τ b13 27 [.int .i64 a0.Kind, .int .i64 a0.Int_, .string a0.Text, .slice A1 a0.Kids.length c2, .slice A4 a0.Keys.length c5, .slice A7 a0.Entries.length c8, .slice A10 a0.Labels.length c11]) (fun o e a w => match o with | .inl q => e = .exit 0 ∧ ∃ (F : Fr) (τ : S), a = fr 32 F ∧ w = τ.w ∧ Agr [2, 4, 22, 23, 24, 25, 26, 27, 28, 29, 30, 31] F F44 ∧ ExtB s0.N s0 τ ∧ Wext s38 τ ∧ F 22 = (.int .i64 q) ∧ Blk s0.N 1 τ b13 27 [.int .i64 a0.Kind, .int .i64 a0.Int_, .string a0.Text, .slice A1 a0.Kids.length c2, .slice A4 a0.Keys.length c5, .slice A7 a0.Entries.length c8, .slice A10 a0.Labels.length c11] | .inr r => e = .ret ∧ ∃ (F : Fr) (τ : S) (va : Value), a = fr 32 F ∧ w = τ.w ∧ ExtB s0.N s0 τ ∧ ResV Go.Proofs.Try.prog 32 F τ.w (.tmp 2) va ∧ RpV τ r va) (by rintro (_ | _) a w ⟨h, _⟩ <;> cases h) ?_ _ _ _ _ _ ho103 ?_) ?_
        · intro q51 fl a w hf hI
          obtain ⟨F52, s53, rfl, rfl, hag54, hE55, hW56, h57, h58⟩ := hI
          unfold value_validFunction_l1 at hf
          have hF59 : F52 1 = (.pointer (some ⟨b13, 0, none⟩)) := (hag54 1 rfl).trans hF46
          have hF60 : F52 20 = (.slice A7 a0.Entries.length c8) := (hag54 20 rfl).trans hF48
          have hF61 : F52 21 = (.int .i64 (a0.Entries.length : Int)) := (hag54 21 rfl).trans hF49
          refine wp_seq ?_
          refine wp_region_lit ?_
          refine r_bin (.int .i64 q51) (.int .i64 (a0.Entries.length : Int)) (.bool (decide (q51 < (a0.Entries.length : Int)))) h57 hF61 rfl rfl (b_lss) ?_
          refine wpList_nil ?_
          refine p_then ?_
          refine wp_seq ?_
          refine if_else hf (fun hc62 hf => ?_) (fun hc62 hf => ?_)
          · refine c_true rfl hc62 rfl ?_
            refine wp_skip ?_
            refine p_then ?_
            refine wp_seq ?_
            refine wp_block ?_
            refine wp_seq ?_
            refine wp_region_lit ?_
            obtain ⟨x63, e64, hf⟩ := bind_some hf
            refine r_indexAddr (T := 24) (E := 65) ((((h9.mono hx15.wext).mono hW30).mono hx40.wext).mono hW56) e64 hF60 h57 rfl rfl Go.Proofs.Try.underlying24 sz65 ?_
            intro b65 o66 cs67 hc68 hs69
            obtain ⟨A70, c71, A73, c74, A76, c77, A79, c80, A82, c83, rfl, h72, h75, h78, h81, h84⟩ := Ent.cells_iff.1 hc68
            refine r_load b65 o66 (.agg #[.slice A70 x63.Args.length c71, .bool x63.Fails, .int .i64 x63.Result.Kind, .int .i64 x63.Result.Int_, .string x63.Result.Text, .slice A73 x63.Result.Kids.length c74, .slice A76 x63.Result.Keys.length c77, .slice A79 x63.Result.Entries.length c80, .slice A82 x63.Result.Labels.length c83]) rfl rfl (loads_row tr65 hs69.2) ?_
            refine r_alloc (B := s0.N) 2 hE55.size _ [.slice none ([] : List Val).length 0, .bool false, .int .i64 0, .int .i64 0, .string (⟨#[]⟩), .slice none ([] : List Val).length 0, .slice none ([] : List Key).length 0, .slice none ([] : List Ent).length 0, .slice none ([] : List ByteArray).length 0] ti65 rfl ?_
            intro s86 b85 hx87 hb88
            have hE89 := hE55.ext hE55.size hx87
            refine r_store hb88 0 (.agg #[.slice A70 x63.Args.length c71, .bool x63.Fails, .int .i64 x63.Result.Kind, .int .i64 x63.Result.Int_, .string x63.Result.Text, .slice A73 x63.Result.Kids.length c74, .slice A76 x63.Result.Keys.length c77, .slice A79 x63.Result.Entries.length c80, .slice A82 x63.Result.Labels.length c83]) [.slice A70 x63.Args.length c71, .bool x63.Fails, .int .i64 x63.Result.Kind, .int .i64 x63.Result.Int_, .string x63.Result.Text, .slice A73 x63.Result.Kids.length c74, .slice A76 x63.Result.Keys.length c77, .slice A79 x63.Result.Entries.length c80, .slice A82 x63.Result.Labels.length c83] [.slice A70 x63.Args.length c71, .bool x63.Fails, .int .i64 x63.Result.Kind, .int .i64 x63.Result.Int_, .string x63.Result.Text, .slice A73 x63.Result.Kids.length c74, .slice A76 x63.Result.Keys.length c77, .slice A79 x63.Result.Entries.length c80, .slice A82 x63.Result.Labels.length c83] rfl rfl rfl rfl rfl sz65 rfl rfl rfl ?_
            intro s90 hm91 hb92
            have hE93 := hE89.mod hE89.size hm91
            refine wpList_nil ?_
            refine p_then ?_
            refine wp_seq ?_
            refine wp_region_lit ?_
            refine r_load b85 0 (.agg #[.slice A70 x63.Args.length c71, .bool x63.Fails, .int .i64 x63.Result.Kind, .int .i64 x63.Result.Int_, .string x63.Result.Text, .slice A73 x63.Result.Kids.length c74, .slice A76 x63.Result.Keys.length c77, .slice A79 x63.Result.Entries.length c80, .slice A82 x63.Result.Labels.length c83]) rfl rfl (loads_row tr65 (Blk.range hb92 0 [.slice A70 x63.Args.length c71, .bool x63.Fails, .int .i64 x63.Result.Kind, .int .i64 x63.Result.Int_, .string x63.Result.Text, .slice A73 x63.Result.Kids.length c74, .slice A76 x63.Result.Keys.length c77, .slice A79 x63.Result.Entries.length c80, .slice A82 x63.Result.Labels.length c83] rfl)) ?_
            refine r_fieldAddr b13 0 1 1 hF59 rfl fo27_1 rfl ?_
            refine r_load b13 1 (.int .i64 a0.Int_) rfl rfl (loads_one to2 ((((h58.ext hx87).mod hm91 rfl).cell 1).trans rfl)) ?_
            obtain ⟨r94, e95, hf⟩ := bind_some hf
            refine r_call [.agg #[.slice A70 x63.Args.length c71, .bool x63.Fails, .int .i64 x63.Result.Kind, .int .i64 x63.Result.Int_, .string x63.Result.Text, .slice A73 x63.Result.Kids.length c74, .slice A76 x63.Result.Keys.length c77, .slice A79 x63.Result.Entries.length c80, .slice A82 x63.Result.Labels.length c83], .int .i64 a0.Int_] (evs2 rfl rfl) rfl ((ok_value_validEntry fuel) _ _ _ _ _ _ (Ent.rpvMk (v := x63) ((h72.mono hx87.wext).mono hm91.wext) ((h75.mono hx87.wext).mono hm91.wext) ((h78.mono hx87.wext).mono hm91.wext) ((h81.mono hx87.wext).mono hm91.wext) ((h84.mono hx87.wext).mono hm91.wext)) (RpV.mkInt _ _) e95) ?_
            intro v97 s96 hx98 hr99
            have hE100 := hE93.ext hE93.size hx98
            obtain rfl := RpV.bool hr99
            refine r_un (.bool r94) (.bool (!r94)) rfl rfl u_not ?_
            refine wpList_nil ?_
            refine p_then ?_
            refine if_else hf (fun hc101 hf => ?_) (fun hc101 hf => ?_)
            · refine c_true rfl hc101 rfl ?_
              refine wp_seq ?_
              refine wp_region_lit ?_
              refine r_assign (.bool false) rfl rfl ?_
              refine wpList_nil ?_
              refine p_then ?_
              refine wp_ret ?_
              refine p_br ?_
              refine p_thenr ?_
              obtain rfl := Option.some.inj hf
              exact ⟨rfl, _, _, (.bool false), rfl, rfl, hE100, ⟨rfl, rfl⟩, (RpV.mkBool _ _)⟩
            · refine c_false rfl hc101 rfl ?_
              refine wp_skip ?_
              refine p_bn ?_
              refine p_then ?_
              refine wp_region_lit ?_
              refine r_bin (.int .i64 q51) (.int .i64 1) (.int .i64 (w64 (q51 + 1))) h57 rfl rfl rfl (b_add) ?_
              refine r_move (.int .i64 (w64 (q51 + 1))) rfl rfl ?_
              refine wpList_nil ?_
              obtain rfl := Option.some.inj hf
              exact ⟨rfl, _, _, rfl, rfl, (((((((((((((hag54).put rfl).put rfl).put rfl).put rfl).put0).put rfl).put rfl).put rfl).put rfl).put rfl).put rfl).put rfl), hE100, (((((Wext.refl _).trans hW56).trans hx87.wext).trans hm91.wext).trans hx98.wext), rfl, (((h58.ext hx87).mod hm91 rfl).ext hx98)⟩
          · refine c_false rfl hc62 rfl ?_
            refine wp_exit ?_
            refine p_thenx ?_
            obtain rfl := Option.some.inj hf
            exact ⟨rfl, _, _, rfl, rfl, ((hag54).put rfl), hE55, ((Wext.refl _).trans hW56), h57, h58⟩
        · exact ⟨_, _, rfl, rfl, (Agr.refl _ _), hE42, (Wext.refl _), hF50, (h32.ext hx40)⟩
        · intro e a w hp
          rcases o102 with q104 | r
          · replace hf := onEnd_inl hf
            obtain ⟨rfl, F105, s106, rfl, rfl, hag107, hE108, hW109, h110, h111⟩ := hp
            have hF112 : F105 1 = (.pointer (some ⟨b13, 0, none⟩)) := (hag107 1 rfl).trans hF46
            have hF113 : F105 20 = (.slice A7 a0.Entries.length c8) := (hag107 20 rfl).trans hF48
            have hF114 : F105 21 = (.int .i64 (a0.Entries.length : Int)) := (hag107 21 rfl).trans hF49
            refine p_bx ?_
            refine p_then ?_
            refine wp_seq ?_
            refine wp_region_lit ?_
            refine r_assign (.bool true) rfl rfl ?_
            refine wpList_nil ?_
            refine p_then ?_
            refine wp_ret ?_
            obtain rfl := Option.some.inj hf
            refine ret_one (.bool true) rfl ⟨rfl, rfl⟩ hE108 ?_
            exact (RpV.mkBool _ _)
          · replace hf := onEnd_inr hf
            obtain ⟨rfl, F118, s119, v115, rfl, rfl, hE120, h116, h117⟩ := hp
            refine p_br ?_
            refine p_thenr ?_
            obtain rfl := Option.some.inj hf
            refine ret_one v115 rfl h116 hE120 ?_
            exact h117

def S_value_validNode (f : (Val → Option Bool)) : Prop := ∀ (s0 : S) (v0 : Value) (a0 : Val) (r : Bool), RpV s0 a0 v0 → f a0 = some r → Ctr Go.Proofs.Try.prog 61 [v0] s0 (fun v τ => RpV τ r v)

set_option maxHeartbeats 1600000 in
set_option maxRecDepth 100000 in
theorem ok_value_validNode (fuel : Nat) : S_value_validNode (value_validNode fuel) := by
  intro s0 v0 a0 r h0 hf
  obtain ⟨A1, c2, A4, c5, A7, c8, A10, c11, rfl, h3, h6, h9, h12⟩ := Val.rpv h0
  unfold value_validNode at hf
  have hE0 : ExtB s0.N s0 s0 := ExtB.refl _ _
  refine ctr_of 124 Go.Proofs.Try.func61 rfl rfl rfl rfl ?_
  refine wp_seq ?_
  refine wp_region_lit ?_
  refine r_box (B := s0.N) 1 hE0.size (.agg #[.int .i64 a0.Kind, .int .i64 a0.Int_, .string a0.Text, .slice A1 a0.Kids.length c2, .slice A4 a0.Keys.length c5, .slice A7 a0.Entries.length c8, .slice A10 a0.Labels.length c11]) [.int .i64 a0.Kind, .int .i64 a0.Int_, .string a0.Text, .slice A1 a0.Kids.length c2, .slice A4 a0.Keys.length c5, .slice A7 a0.Entries.length c8, .slice A10 a0.Labels.length c11] rfl rfl rfl ?_
  intro s14 b13 hx15 hb16
  have hE17 := hE0.ext hE0.size hx15
  refine r_assign (.bool false) rfl rfl ?_
  refine wpList_nil ?_
  refine p_then ?_
  refine wp_seq ?_
  refine wp_region_lit ?_
  refine r_fieldAddr b13 0 0 0 rfl rfl fo27_0 rfl ?_
  refine r_load b13 0 (.int .i64 a0.Kind) rfl rfl (loads_one to3 ((hb16.cell 0).trans rfl)) ?_
  obtain ⟨r18, e19, hf⟩ := bind_some hf
  refine r_call [.int .i64 a0.Kind] (evs1 rfl) rfl (ok_value_uses _ _ _ _ (RpV.mkInt _ _) e19) ?_
  intro v21 s20 hx22 hr23
  have hE24 := hE17.ext hE17.size hx22
  obtain ⟨v25, v26, rfl, hr27, hr28⟩ := hr23
  obtain rfl := Value_used.rpv hr27
  obtain rfl := RpV.bool hr28
  refine r_move (.tuple #[.agg #[.bool r18.1.number, .bool r18.1.text_, .bool r18.1.kids, .bool r18.1.keys, .bool r18.1.entries], .bool r18.2]) rfl rfl ?_
  refine r_extract [.agg #[.bool r18.1.number, .bool r18.1.text_, .bool r18.1.kids, .bool r18.1.keys, .bool r18.1.entries], .bool r18.2] (.agg #[.bool r18.1.number, .bool r18.1.text_, .bool r18.1.kids, .bool r18.1.keys, .bool r18.1.entries]) rfl rfl rfl ?_
  refine r_extract [.agg #[.bool r18.1.number, .bool r18.1.text_, .bool r18.1.kids, .bool r18.1.keys, .bool r18.1.entries], .bool r18.2] (.bool r18.2) rfl rfl rfl ?_
  refine r_alloc (B := s0.N) 2 hE24.size _ [.bool false, .bool false, .bool false, .bool false, .bool false] ti87 rfl ?_
  intro s30 b29 hx31 hb32
  have hE33 := hE24.ext hE24.size hx31
  refine r_store hb32 0 (.agg #[.bool r18.1.number, .bool r18.1.text_, .bool r18.1.kids, .bool r18.1.keys, .bool r18.1.entries]) [.bool r18.1.number, .bool r18.1.text_, .bool r18.1.kids, .bool r18.1.keys, .bool r18.1.entries] [.bool r18.1.number, .bool r18.1.text_, .bool r18.1.kids, .bool r18.1.keys, .bool r18.1.entries] rfl rfl rfl rfl rfl sz87 rfl rfl rfl ?_
  intro s34 hm35 hb36
  have hE37 := hE33.mod hE33.size hm35
  refine r_assign (.bool r18.2) rfl rfl ?_
  refine wpList_nil ?_
  refine p_then ?_
  refine wp_seq ?_
  refine wp_seq ?_
  refine wp_region_lit ?_
  refine r_move (.bool r18.2) rfl rfl ?_
  refine r_un (.bool r18.2) (.bool (!r18.2)) rfl rfl u_not ?_
  refine r_move (.bool (!r18.2)) rfl rfl ?_
  refine if_else hf (fun hc38 hf => ?_) (fun hc38 hf => ?_)
  · refine r_skip (j := 2) (want := false) (d := 13) (c := !r18.2) (v := true) rfl rfl hc38 rfl rfl ?_
    refine r_skip (j := 2) (want := false) (d := 13) (c := !r18.2) (v := true) rfl rfl hc38 rfl rfl ?_
    refine r_skip (j := 2) (want := false) (d := 13) (c := !r18.2) (v := true) rfl rfl hc38 rfl rfl ?_
    refine r_skip (j := 2) (want := false) (d := 13) (c := !r18.2) (v := true) rfl rfl hc38 rfl rfl ?_
    refine r_pick_t (c := !r18.2) (.bool true) rfl hc38 rfl rfl rfl rfl ?_
    refine wpList_nil ?_
    refine p_then ?_
    refine c_true rfl rfl rfl ?_
    refine wp_seq ?_
    refine wp_region_lit ?_
    refine r_assign (.bool false) rfl rfl ?_
    refine wpList_nil ?_
    refine p_then ?_
    refine wp_ret ?_
    refine p_thenr ?_
    obtain rfl := Option.some.inj hf
    refine ret_one (.bool false) rfl ⟨rfl, rfl⟩ hE37 ?_
    exact (RpV.mkBool _ _)
  · refine r_guard (j := 2) (want := false) (d := 13) (c := !r18.2) (v := false) rfl rfl hc38 rfl rfl ?_
    refine r_fieldAddr b13 0 6 6 rfl rfl fo27_6 rfl ?_
    refine r_guard (j := 2) (want := false) (d := 13) (c := !r18.2) (v := false) rfl rfl hc38 rfl rfl ?_
    refine r_load b13 6 (.slice A10 a0.Labels.length c11) rfl rfl (loads_one to25 (((((hb16.ext hx22).ext hx31).mod hm35 rfl).cell 6).trans rfl)) ?_
    refine r_guard (j := 2) (want := false) (d := 13) (c := !r18.2) (v := false) rfl rfl hc38 rfl rfl ?_
    obtain ⟨r39, e40, hf⟩ := bind_some hf
    refine r_call [.slice A10 a0.Labels.length c11] (evs1 rfl) rfl (ok_value_validLabels _ _ _ _ (RpV.mkList ((((h12.mono hx15.wext).mono hx22.wext).mono hx31.wext).mono hm35.wext)) e40) ?_
    intro v42 s41 hx43 hr44
    have hE45 := hE37.ext hE37.size hx43
    obtain rfl := RpV.bool hr44
    refine r_guard (j := 2) (want := false) (d := 13) (c := !r18.2) (v := false) rfl rfl hc38 rfl rfl ?_
    refine r_un (.bool r39) (.bool (!r39)) rfl rfl u_not ?_
    refine r_pick_f (c := !r18.2) (.bool (!r39)) rfl hc38 rfl rfl rfl rfl ?_
    refine wpList_nil ?_
    refine p_then ?_
    refine if_else hf (fun hc46 hf => ?_) (fun hc46 hf => ?_)
    · refine c_true rfl hc46 rfl ?_
      refine wp_seq ?_
      refine wp_region_lit ?_
      refine r_assign (.bool false) rfl rfl ?_
      refine wpList_nil ?_
      refine p_then ?_
      refine wp_ret ?_
      refine p_thenr ?_
      obtain rfl := Option.some.inj hf
      refine ret_one (.bool false) rfl ⟨rfl, rfl⟩ hE45 ?_
      exact (RpV.mkBool _ _)
    · refine c_false rfl hc46 rfl ?_
      refine wp_skip ?_
      refine p_then ?_
      refine wp_seq ?_
      refine wp_seq ?_
      refine wp_region_lit ?_
      refine r_fieldAddr b29 0 0 0 rfl rfl fo87_0 rfl ?_
      refine r_load b29 0 (.bool r18.1.number) rfl rfl (loads_one to4 (((hb36.ext hx43).cell 0).trans rfl)) ?_
      refine r_un (.bool r18.1.number) (.bool (!r18.1.number)) rfl rfl u_not ?_
      refine r_move (.bool (!r18.1.number)) rfl rfl ?_
      refine gen_FL fun F47 hg48 => ?_
      have hF49 : F47 1 = (.pointer (some ⟨b13, 0, none⟩)) := (hg48 1).trans rfl
      have hF50 : F47 2 = (.bool false) := (hg48 2).trans rfl
      have hF51 : F47 3 = (.pointer (some ⟨b29, 0, none⟩)) := (hg48 3).trans rfl
      have hF52 : F47 22 = (.bool (!r18.1.number)) := (hg48 22).trans rfl
      obtain ⟨q53, hq54, hf⟩ := bind_some hf
      refine wpl_take 4 (J := fun a w => ∃ (F : Fr) (τ : S), a = fr 124 F ∧ w = τ.w ∧ Agr [23, 24, 25, 26] F F47 ∧ ExtB s0.N s0 τ ∧ Wext s41 τ ∧ F 26 = (.bool q53) ∧ Blk s0.N 1 τ b13 27 [.int .i64 a0.Kind, .int .i64 a0.Int_, .string a0.Text, .slice A1 a0.Kids.length c2, .slice A4 a0.Keys.length c5, .slice A7 a0.Entries.length c8, .slice A10 a0.Labels.length c11] ∧ Blk s0.N 2 τ b29 87 [.bool r18.1.number, .bool r18.1.text_, .bool r18.1.kids, .bool r18.1.keys, .bool r18.1.entries]) ?_ ?_
      · have hf := hq54
        refine if_else hf (fun hc55 hf => ?_) (fun hc55 hf => ?_)
        · refine r_guard (j := 3) (want := true) (d := 22) (c := !r18.1.number) (v := true) rfl hF52 hc55 rfl rfl ?_
          refine r_fieldAddr b13 0 1 1 hF49 rfl fo27_1 rfl ?_
          refine r_guard (j := 3) (want := true) (d := 22) (c := !r18.1.number) (v := true) rfl hF52 hc55 rfl rfl ?_
          refine r_load b13 1 (.int .i64 a0.Int_) rfl rfl (loads_one to2 ((((((hb16.ext hx22).ext hx31).mod hm35 rfl).ext hx43).cell 1).trans rfl)) ?_
          refine r_guard (j := 3) (want := true) (d := 22) (c := !r18.1.number) (v := true) rfl hF52 hc55 rfl rfl ?_
          refine r_bin (.int .i64 a0.Int_) (.int .i64 0) (.bool (a0.Int_ != 0)) rfl rfl rfl rfl (b_neq) ?_
          refine r_pick_t (c := !r18.1.number) (.bool (a0.Int_ != 0)) hF52 hc55 rfl rfl rfl rfl ?_
          refine wpList_nil ?_
          obtain rfl := Option.some.inj hf
          exact ⟨rfl, _, _, rfl, rfl, (((((Agr.refl _ _).put rfl).put rfl).put rfl).put rfl), hE45, (Wext.refl _), rfl, ((((hb16.ext hx22).ext hx31).mod hm35 rfl).ext hx43), (hb36.ext hx43)⟩
        · refine r_skip (j := 3) (want := true) (d := 22) (c := !r18.1.number) (v := false) rfl hF52 hc55 rfl rfl ?_
          refine r_skip (j := 3) (want := true) (d := 22) (c := !r18.1.number) (v := false) rfl hF52 hc55 rfl rfl ?_
          refine r_skip (j := 3) (want := true) (d := 22) (c := !r18.1.number) (v := false) rfl hF52 hc55 rfl rfl ?_
          refine r_pick_f (c := !r18.1.number) (.bool false) hF52 hc55 rfl rfl rfl rfl ?_
          refine wpList_nil ?_
          obtain rfl := Option.some.inj hf
          exact ⟨rfl, _, _, rfl, rfl, (((((Agr.refl _ _).put rfl).put rfl).put rfl).put rfl), hE45, (Wext.refl _), rfl, ((((hb16.ext hx22).ext hx31).mod hm35 rfl).ext hx43), (hb36.ext hx43)⟩
      · rintro a w ⟨F56, s57, rfl, rfl, hag58, hE59, hW60, h61, h62, h63⟩
        have hF64 : F56 1 = (.pointer (some ⟨b13, 0, none⟩)) := (hag58 1 rfl).trans hF49
        have hF65 : F56 2 = (.bool false) := (hag58 2 rfl).trans hF50
        have hF66 : F56 3 = (.pointer (some ⟨b29, 0, none⟩)) := (hag58 3 rfl).trans hF51
        refine r_move (.bool q53) h61 rfl ?_
        refine gen_FL fun F67 hg68 => ?_
        have hF69 : F67 1 = (.pointer (some ⟨b13, 0, none⟩)) := (hg68 1).trans hF64
        have hF70 : F67 2 = (.bool false) := (hg68 2).trans hF65
        have hF71 : F67 3 = (.pointer (some ⟨b29, 0, none⟩)) := (hg68 3).trans hF66
        have hF72 : F67 27 = (.bool q53) := (hg68 27).trans rfl
        obtain ⟨q73, hq74, hf⟩ := bind_some hf
        refine wpl_take 9 (J := fun a w => ∃ (F : Fr) (τ : S), a = fr 124 F ∧ w = τ.w ∧ Agr [28, 29, 30, 31, 32, 33, 34, 35, 36] F F67 ∧ ExtB s0.N s0 τ ∧ Wext s57 τ ∧ F 36 = (.bool q73) ∧ Blk s0.N 1 τ b13 27 [.int .i64 a0.Kind, .int .i64 a0.Int_, .string a0.Text, .slice A1 a0.Kids.length c2, .slice A4 a0.Keys.length c5, .slice A7 a0.Entries.length c8, .slice A10 a0.Labels.length c11] ∧ Blk s0.N 2 τ b29 87 [.bool r18.1.number, .bool r18.1.text_, .bool r18.1.kids, .bool r18.1.keys, .bool r18.1.entries]) ?_ ?_
        · have hf := hq74
          refine if_else hf (fun hc75 hf => ?_) (fun hc75 hf => ?_)
          · refine r_skip (j := 8) (want := false) (d := 27) (c := q53) (v := true) rfl hF72 hc75 rfl rfl ?_
            refine r_skip (j := 8) (want := false) (d := 27) (c := q53) (v := true) rfl hF72 hc75 rfl rfl ?_
            refine r_skip (j := 8) (want := false) (d := 27) (c := q53) (v := true) rfl hF72 hc75 rfl rfl ?_
            refine r_skip (j := 8) (want := false) (d := 27) (c := q53) (v := true) rfl hF72 hc75 rfl rfl ?_
            refine r_skipu (j := 12) (d := 31) rfl rfl rfl ?_
            refine r_skipu (j := 12) (d := 31) rfl rfl rfl ?_
            refine r_skipu (j := 12) (d := 31) rfl rfl rfl ?_
            refine r_skip (j := 8) (want := false) (d := 27) (c := q53) (v := true) rfl hF72 hc75 rfl rfl ?_
            refine r_pick_t (c := q53) (.bool true) hF72 hc75 rfl rfl rfl rfl ?_
            refine wpList_nil ?_
            obtain rfl := Option.some.inj hf
            exact ⟨rfl, _, _, rfl, rfl, ((((((((((Agr.refl _ _).put rfl).put rfl).put rfl).put rfl).put rfl).put rfl).put rfl).put rfl).put rfl), hE59, (Wext.refl _), rfl, h62, h63⟩
          · refine r_guard (j := 8) (want := false) (d := 27) (c := q53) (v := false) rfl hF72 hc75 rfl rfl ?_
            refine r_fieldAddr b29 0 1 1 hF71 rfl fo87_1 rfl ?_
            refine r_guard (j := 8) (want := false) (d := 27) (c := q53) (v := false) rfl hF72 hc75 rfl rfl ?_
            refine r_load b29 1 (.bool r18.1.text_) rfl rfl (loads_one to4 ((h63.cell 1).trans rfl)) ?_
            refine r_guard (j := 8) (want := false) (d := 27) (c := q53) (v := false) rfl hF72 hc75 rfl rfl ?_
            refine r_un (.bool r18.1.text_) (.bool (!r18.1.text_)) rfl rfl u_not ?_
            refine r_guard (j := 8) (want := false) (d := 27) (c := q53) (v := false) rfl hF72 hc75 rfl rfl ?_
            refine r_move (.bool (!r18.1.text_)) rfl rfl ?_
            refine gen_FL fun F76 hg77 => ?_
            have hF78 : F76 1 = (.pointer (some ⟨b13, 0, none⟩)) := (hg77 1).trans hF69
            have hF79 : F76 2 = (.bool false) := (hg77 2).trans hF70
            have hF80 : F76 3 = (.pointer (some ⟨b29, 0, none⟩)) := (hg77 3).trans hF71
            have hF81 : F76 27 = (.bool q53) := (hg77 27).trans hF72
            have hF82 : F76 31 = (.bool (!r18.1.text_)) := (hg77 31).trans rfl
            obtain ⟨q83, hq84, hf⟩ := bind_some hf
            refine wpl_take 4 (J := fun a w => ∃ (F : Fr) (τ : S), a = fr 124 F ∧ w = τ.w ∧ Agr [32, 33, 34, 35] F F76 ∧ ExtB s0.N s0 τ ∧ Wext s57 τ ∧ F 35 = (.bool q83) ∧ Blk s0.N 1 τ b13 27 [.int .i64 a0.Kind, .int .i64 a0.Int_, .string a0.Text, .slice A1 a0.Kids.length c2, .slice A4 a0.Keys.length c5, .slice A7 a0.Entries.length c8, .slice A10 a0.Labels.length c11] ∧ Blk s0.N 2 τ b29 87 [.bool r18.1.number, .bool r18.1.text_, .bool r18.1.kids, .bool r18.1.keys, .bool r18.1.entries]) ?_ ?_
            · have hf := hq84
              refine if_else hf (fun hc85 hf => ?_) (fun hc85 hf => ?_)
              · refine r_guard (j := 12) (want := true) (d := 31) (c := !r18.1.text_) (v := true) rfl hF82 hc85 rfl rfl ?_
                refine r_fieldAddr b13 0 2 2 hF78 rfl fo27_2 rfl ?_
                refine r_guard (j := 12) (want := true) (d := 31) (c := !r18.1.text_) (v := true) rfl hF82 hc85 rfl rfl ?_
                refine r_load b13 2 (.string a0.Text) rfl rfl (loads_one to9 ((h62.cell 2).trans rfl)) ?_
                refine r_guard (j := 12) (want := true) (d := 31) (c := !r18.1.text_) (v := true) rfl hF82 hc85 rfl rfl ?_
                refine r_bin (.string a0.Text) (.string (⟨#[]⟩)) (.bool (!strEq a0.Text (⟨#[]⟩))) rfl rfl rfl rfl (b_sneq) ?_
                refine r_guard (j := 8) (want := false) (d := 27) (c := q53) (v := false) rfl hF81 hc75 rfl rfl ?_
                refine r_pick_t (c := !r18.1.text_) (.bool (!strEq a0.Text (⟨#[]⟩))) hF82 hc85 rfl rfl rfl rfl ?_
                refine wpList_nil ?_
                obtain rfl := Option.some.inj hf
                exact ⟨rfl, _, _, rfl, rfl, (((((Agr.refl _ _).put rfl).put rfl).put rfl).put rfl), hE59, (Wext.refl _), rfl, h62, h63⟩
              · refine r_skip (j := 12) (want := true) (d := 31) (c := !r18.1.text_) (v := false) rfl hF82 hc85 rfl rfl ?_
                refine r_skip (j := 12) (want := true) (d := 31) (c := !r18.1.text_) (v := false) rfl hF82 hc85 rfl rfl ?_
                refine r_skip (j := 12) (want := true) (d := 31) (c := !r18.1.text_) (v := false) rfl hF82 hc85 rfl rfl ?_
                refine r_guard (j := 8) (want := false) (d := 27) (c := q53) (v := false) rfl hF81 hc75 rfl rfl ?_
                refine r_pick_f (c := !r18.1.text_) (.bool false) hF82 hc85 rfl rfl rfl rfl ?_
                refine wpList_nil ?_
                obtain rfl := Option.some.inj hf
                exact ⟨rfl, _, _, rfl, rfl, (((((Agr.refl _ _).put rfl).put rfl).put rfl).put rfl), hE59, (Wext.refl _), rfl, h62, h63⟩
            · rintro a w ⟨F86, s87, rfl, rfl, hag88, hE89, hW90, h91, h92, h93⟩
              have hF94 : F86 1 = (.pointer (some ⟨b13, 0, none⟩)) := (hag88 1 rfl).trans hF78
              have hF95 : F86 2 = (.bool false) := (hag88 2 rfl).trans hF79
              have hF96 : F86 3 = (.pointer (some ⟨b29, 0, none⟩)) := (hag88 3 rfl).trans hF80
              have hF97 : F86 27 = (.bool q53) := (hag88 27 rfl).trans hF81
              refine r_pick_f (c := q53) (.bool q83) hF97 hc75 h91 rfl rfl rfl ?_
              refine wpList_nil ?_
              obtain rfl := Option.some.inj hf
              exact ⟨rfl, _, _, rfl, rfl, ((((((((Agr.refl _ _).put rfl).put rfl).put rfl).put rfl).gen hg77).loop hag88 rfl).put rfl), hE89, ((Wext.refl _).trans hW90), rfl, h92, h93⟩
        · rintro a w ⟨F98, s99, rfl, rfl, hag100, hE101, hW102, h103, h104, h105⟩
          have hF106 : F98 1 = (.pointer (some ⟨b13, 0, none⟩)) := (hag100 1 rfl).trans hF69
          have hF107 : F98 2 = (.bool false) := (hag100 2 rfl).trans hF70
          have hF108 : F98 3 = (.pointer (some ⟨b29, 0, none⟩)) := (hag100 3 rfl).trans hF71
          refine r_move (.bool q73) h103 rfl ?_
          refine gen_FL fun F109 hg110 => ?_
          have hF111 : F109 1 = (.pointer (some ⟨b13, 0, none⟩)) := (hg110 1).trans hF106
          have hF112 : F109 2 = (.bool false) := (hg110 2).trans hF107
          have hF113 : F109 3 = (.pointer (some ⟨b29, 0, none⟩)) := (hg110 3).trans hF108
          have hF114 : F109 37 = (.bool q73) := (hg110 37).trans rfl
          obtain ⟨q115, hq116, hf⟩ := bind_some hf
          refine wpl_take 10 (J := fun a w => ∃ (F : Fr) (τ : S), a = fr 124 F ∧ w = τ.w ∧ Agr [38, 39, 40, 41, 42, 43, 44, 45, 46, 47] F F109 ∧ ExtB s0.N s0 τ ∧ Wext s99 τ ∧ F 47 = (.bool q115) ∧ Blk s0.N 1 τ b13 27 [.int .i64 a0.Kind, .int .i64 a0.Int_, .string a0.Text, .slice A1 a0.Kids.length c2, .slice A4 a0.Keys.length c5, .slice A7 a0.Entries.length c8, .slice A10 a0.Labels.length c11] ∧ Blk s0.N 2 τ b29 87 [.bool r18.1.number, .bool r18.1.text_, .bool r18.1.kids, .bool r18.1.keys, .bool r18.1.entries]) ?_ ?_
          · have hf := hq116
            refine if_else hf (fun hc117 hf => ?_) (fun hc117 hf => ?_)
            · refine r_skip (j := 18) (want := false) (d := 37) (c := q73) (v := true) rfl hF114 hc117 rfl rfl ?_
              refine r_skip (j := 18) (want := false) (d := 37) (c := q73) (v := true) rfl hF114 hc117 rfl rfl ?_
              refine r_skip (j := 18) (want := false) (d := 37) (c := q73) (v := true) rfl hF114 hc117 rfl rfl ?_
              refine r_skip (j := 18) (want := false) (d := 37) (c := q73) (v := true) rfl hF114 hc117 rfl rfl ?_
              refine r_skipu (j := 22) (d := 41) rfl rfl rfl ?_
              refine r_skipu (j := 22) (d := 41) rfl rfl rfl ?_
              refine r_skipu (j := 22) (d := 41) rfl rfl rfl ?_
              refine r_skipu (j := 22) (d := 41) rfl rfl rfl ?_
              refine r_skip (j := 18) (want := false) (d := 37) (c := q73) (v := true) rfl hF114 hc117 rfl rfl ?_
              refine r_pick_t (c := q73) (.bool true) hF114 hc117 rfl rfl rfl rfl ?_
              refine wpList_nil ?_
              obtain rfl := Option.some.inj hf
              exact ⟨rfl, _, _, rfl, rfl, (((((((((((Agr.refl _ _).put rfl).put rfl).put rfl).put rfl).put rfl).put rfl).put rfl).put rfl).put rfl).put rfl), hE101, (Wext.refl _), rfl, h104, h105⟩
            · refine r_guard (j := 18) (want := false) (d := 37) (c := q73) (v := false) rfl hF114 hc117 rfl rfl ?_
              refine r_fieldAddr b29 0 2 2 hF113 rfl fo87_2 rfl ?_
              refine r_guard (j := 18) (want := false) (d := 37) (c := q73) (v := false) rfl hF114 hc117 rfl rfl ?_
              refine r_load b29 2 (.bool r18.1.kids) rfl rfl (loads_one to4 ((h105.cell 2).trans rfl)) ?_
              refine r_guard (j := 18) (want := false) (d := 37) (c := q73) (v := false) rfl hF114 hc117 rfl rfl ?_
              refine r_un (.bool r18.1.kids) (.bool (!r18.1.kids)) rfl rfl u_not ?_
              refine r_guard (j := 18) (want := false) (d := 37) (c := q73) (v := false) rfl hF114 hc117 rfl rfl ?_
              refine r_move (.bool (!r18.1.kids)) rfl rfl ?_
              refine gen_FL fun F118 hg119 => ?_
              have hF120 : F118 1 = (.pointer (some ⟨b13, 0, none⟩)) := (hg119 1).trans hF111
              have hF121 : F118 2 = (.bool false) := (hg119 2).trans hF112
              have hF122 : F118 3 = (.pointer (some ⟨b29, 0, none⟩)) := (hg119 3).trans hF113
              have hF123 : F118 37 = (.bool q73) := (hg119 37).trans hF114
              have hF124 : F118 41 = (.bool (!r18.1.kids)) := (hg119 41).trans rfl
              obtain ⟨q125, hq126, hf⟩ := bind_some hf
              refine wpl_take 5 (J := fun a w => ∃ (F : Fr) (τ : S), a = fr 124 F ∧ w = τ.w ∧ Agr [42, 43, 44, 45, 46] F F118 ∧ ExtB s0.N s0 τ ∧ Wext s99 τ ∧ F 46 = (.bool q125) ∧ Blk s0.N 1 τ b13 27 [.int .i64 a0.Kind, .int .i64 a0.Int_, .string a0.Text, .slice A1 a0.Kids.length c2, .slice A4 a0.Keys.length c5, .slice A7 a0.Entries.length c8, .slice A10 a0.Labels.length c11] ∧ Blk s0.N 2 τ b29 87 [.bool r18.1.number, .bool r18.1.text_, .bool r18.1.kids, .bool r18.1.keys, .bool r18.1.entries]) ?_ ?_
              · have hf := hq126
                refine if_else hf (fun hc127 hf => ?_) (fun hc127 hf => ?_)
                · refine r_guard (j := 22) (want := true) (d := 41) (c := !r18.1.kids) (v := true) rfl hF124 hc127 rfl rfl ?_
                  refine r_fieldAddr b13 0 3 3 hF120 rfl fo27_3 rfl ?_
                  refine r_guard (j := 22) (want := true) (d := 41) (c := !r18.1.kids) (v := true) rfl hF124 hc127 rfl rfl ?_
                  refine r_load b13 3 (.slice A1 a0.Kids.length c2) rfl rfl (loads_one to22 ((h104.cell 3).trans rfl)) ?_
                  refine r_guard (j := 22) (want := true) (d := 41) (c := !r18.1.kids) (v := true) rfl hF124 hc127 rfl rfl ?_
                  refine r_len A1 a0.Kids.length c2 rfl rfl Go.Proofs.Try.underlying22 ?_
                  refine r_guard (j := 22) (want := true) (d := 41) (c := !r18.1.kids) (v := true) rfl hF124 hc127 rfl rfl ?_
                  refine r_bin (.int .i64 (a0.Kids.length : Int)) (.int .i64 0) (.bool (decide (0 < (a0.Kids.length : Int)))) rfl rfl rfl rfl (b_gtr) ?_
                  refine r_guard (j := 18) (want := false) (d := 37) (c := q73) (v := false) rfl hF123 hc117 rfl rfl ?_
                  refine r_pick_t (c := !r18.1.kids) (.bool (decide (0 < (a0.Kids.length : Int)))) hF124 hc127 rfl rfl rfl rfl ?_
                  refine wpList_nil ?_
                  obtain rfl := Option.some.inj hf
                  exact ⟨rfl, _, _, rfl, rfl, ((((((Agr.refl _ _).put rfl).put rfl).put rfl).put rfl).put rfl), hE101, (Wext.refl _), rfl, h104, h105⟩
                · refine r_skip (j := 22) (want := true) (d := 41) (c := !r18.1.kids) (v := false) rfl hF124 hc127 rfl rfl ?_
                  refine r_skip (j := 22) (want := true) (d := 41) (c := !r18.1.kids) (v := false) rfl hF124 hc127 rfl rfl ?_
                  refine r_skip (j := 22) (want := true) (d := 41) (c := !r18.1.kids) (v := false) rfl hF124 hc127 rfl rfl ?_
                  refine r_skip (j := 22) (want := true) (d := 41) (c := !r18.1.kids) (v := false) rfl hF124 hc127 rfl rfl ?_
                  refine r_guard (j := 18) (want := false) (d := 37) (c := q73) (v := false) rfl hF123 hc117 rfl rfl ?_
                  refine r_pick_f (c := !r18.1.kids) (.bool false) hF124 hc127 rfl rfl rfl rfl ?_
                  refine wpList_nil ?_
                  obtain rfl := Option.some.inj hf
                  exact ⟨rfl, _, _, rfl, rfl, ((((((Agr.refl _ _).put rfl).put rfl).put rfl).put rfl).put rfl), hE101, (Wext.refl _), rfl, h104, h105⟩
              · rintro a w ⟨F128, s129, rfl, rfl, hag130, hE131, hW132, h133, h134, h135⟩
                have hF136 : F128 1 = (.pointer (some ⟨b13, 0, none⟩)) := (hag130 1 rfl).trans hF120
                have hF137 : F128 2 = (.bool false) := (hag130 2 rfl).trans hF121
                have hF138 : F128 3 = (.pointer (some ⟨b29, 0, none⟩)) := (hag130 3 rfl).trans hF122
                have hF139 : F128 37 = (.bool q73) := (hag130 37 rfl).trans hF123
                refine r_pick_f (c := q73) (.bool q125) hF139 hc117 h133 rfl rfl rfl ?_
                refine wpList_nil ?_
                obtain rfl := Option.some.inj hf
                exact ⟨rfl, _, _, rfl, rfl, ((((((((Agr.refl _ _).put rfl).put rfl).put rfl).put rfl).gen hg119).loop hag130 rfl).put rfl), hE131, ((Wext.refl _).trans hW132), rfl, h134, h135⟩
          · rintro a w ⟨F140, s141, rfl, rfl, hag142, hE143, hW144, h145, h146, h147⟩
            have hF148 : F140 1 = (.pointer (some ⟨b13, 0, none⟩)) := (hag142 1 rfl).trans hF111
            have hF149 : F140 2 = (.bool false) := (hag142 2 rfl).trans hF112
            have hF150 : F140 3 = (.pointer (some ⟨b29, 0, none⟩)) := (hag142 3 rfl).trans hF113
            refine r_move (.bool q115) h145 rfl ?_
            refine gen_FL fun F151 hg152 => ?_
            have hF153 : F151 1 = (.pointer (some ⟨b13, 0, none⟩)) := (hg152 1).trans hF148
            have hF154 : F151 2 = (.bool false) := (hg152 2).trans hF149
            have hF155 : F151 3 = (.pointer (some ⟨b29, 0, none⟩)) := (hg152 3).trans hF150
            have hF156 : F151 48 = (.bool q115) := (hg152 48).trans rfl
            obtain ⟨q157, hq158, hf⟩ := bind_some hf
            refine wpl_take 10 (J := fun a w => ∃ (F : Fr) (τ : S), a = fr 124 F ∧ w = τ.w ∧ Agr [49, 50, 51, 52, 53, 54, 55, 56, 57, 58] F F151 ∧ ExtB s0.N s0 τ ∧ Wext s141 τ ∧ F 58 = (.bool q157) ∧ Blk s0.N 1 τ b13 27 [.int .i64 a0.Kind, .int .i64 a0.Int_, .string a0.Text, .slice A1 a0.Kids.length c2, .slice A4 a0.Keys.length c5, .slice A7 a0.Entries.length c8, .slice A10 a0.Labels.length c11] ∧ Blk s0.N 2 τ b29 87 [.bool r18.1.number, .bool r18.1.text_, .bool r18.1.kids, .bool r18.1.keys, .bool r18.1.entries]) ?_ ?_
            · have hf := hq158
              refine if_else hf (fun hc159 hf => ?_) (fun hc159 hf => ?_)
              · refine r_skip (j := 29) (want := false) (d := 48) (c := q115) (v := true) rfl hF156 hc159 rfl rfl ?_
                refine r_skip (j := 29) (want := false) (d := 48) (c := q115) (v := true) rfl hF156 hc159 rfl rfl ?_
                refine r_skip (j := 29) (want := false) (d := 48) (c := q115) (v := true) rfl hF156 hc159 rfl rfl ?_
                refine r_skip (j := 29) (want := false) (d := 48) (c := q115) (v := true) rfl hF156 hc159 rfl rfl ?_
                refine r_skipu (j := 33) (d := 52) rfl rfl rfl ?_
                refine r_skipu (j := 33) (d := 52) rfl rfl rfl ?_
                refine r_skipu (j := 33) (d := 52) rfl rfl rfl ?_
                refine r_skipu (j := 33) (d := 52) rfl rfl rfl ?_
                refine r_skip (j := 29) (want := false) (d := 48) (c := q115) (v := true) rfl hF156 hc159 rfl rfl ?_
                refine r_pick_t (c := q115) (.bool true) hF156 hc159 rfl rfl rfl rfl ?_
                refine wpList_nil ?_
                obtain rfl := Option.some.inj hf
                exact ⟨rfl, _, _, rfl, rfl, (((((((((((Agr.refl _ _).put rfl).put rfl).put rfl).put rfl).put rfl).put rfl).put rfl).put rfl).put rfl).put rfl), hE143, (Wext.refl _), rfl, h146, h147⟩
              · refine r_guard (j := 29) (want := false) (d := 48) (c := q115) (v := false) rfl hF156 hc159 rfl rfl ?_
                refine r_fieldAddr b29 0 3 3 hF155 rfl fo87_3 rfl ?_
                refine r_guard (j := 29) (want := false) (d := 48) (c := q115) (v := false) rfl hF156 hc159 rfl rfl ?_
                refine r_load b29 3 (.bool r18.1.keys) rfl rfl (loads_one to4 ((h147.cell 3).trans rfl)) ?_
                refine r_guard (j := 29) (want := false) (d := 48) (c := q115) (v := false) rfl hF156 hc159 rfl rfl ?_
                refine r_un (.bool r18.1.keys) (.bool (!r18.1.keys)) rfl rfl u_not ?_
                refine r_guard (j := 29) (want := false) (d := 48) (c := q115) (v := false) rfl hF156 hc159 rfl rfl ?_
                refine r_move (.bool (!r18.1.keys)) rfl rfl ?_
                refine gen_FL fun F160 hg161 => ?_
                have hF162 : F160 1 = (.pointer (some ⟨b13, 0, none⟩)) := (hg161 1).trans hF153
                have hF163 : F160 2 = (.bool false) := (hg161 2).trans hF154
                have hF164 : F160 3 = (.pointer (some ⟨b29, 0, none⟩)) := (hg161 3).trans hF155
                have hF165 : F160 48 = (.bool q115) := (hg161 48).trans hF156
                have hF166 : F160 52 = (.bool (!r18.1.keys)) := (hg161 52).trans rfl
                obtain ⟨q167, hq168, hf⟩ := bind_some hf
                refine wpl_take 5 (J := fun a w => ∃ (F : Fr) (τ : S), a = fr 124 F ∧ w = τ.w ∧ Agr [53, 54, 55, 56, 57] F F160 ∧ ExtB s0.N s0 τ ∧ Wext s141 τ ∧ F 57 = (.bool q167) ∧ Blk s0.N 1 τ b13 27 [.int .i64 a0.Kind, .int .i64 a0.Int_, .string a0.Text, .slice A1 a0.Kids.length c2, .slice A4 a0.Keys.length c5, .slice A7 a0.Entries.length c8, .slice A10 a0.Labels.length c11] ∧ Blk s0.N 2 τ b29 87 [.bool r18.1.number, .bool r18.1.text_, .bool r18.1.kids, .bool r18.1.keys, .bool r18.1.entries]) ?_ ?_
                · have hf := hq168
                  refine if_else hf (fun hc169 hf => ?_) (fun hc169 hf => ?_)
                  · refine r_guard (j := 33) (want := true) (d := 52) (c := !r18.1.keys) (v := true) rfl hF166 hc169 rfl rfl ?_
                    refine r_fieldAddr b13 0 4 4 hF162 rfl fo27_4 rfl ?_
                    refine r_guard (j := 33) (want := true) (d := 52) (c := !r18.1.keys) (v := true) rfl hF166 hc169 rfl rfl ?_
                    refine r_load b13 4 (.slice A4 a0.Keys.length c5) rfl rfl (loads_one to23 ((h146.cell 4).trans rfl)) ?_
                    refine r_guard (j := 33) (want := true) (d := 52) (c := !r18.1.keys) (v := true) rfl hF166 hc169 rfl rfl ?_
                    refine r_len A4 a0.Keys.length c5 rfl rfl Go.Proofs.Try.underlying23 ?_
                    refine r_guard (j := 33) (want := true) (d := 52) (c := !r18.1.keys) (v := true) rfl hF166 hc169 rfl rfl ?_
                    refine r_bin (.int .i64 (a0.Keys.length : Int)) (.int .i64 0) (.bool (decide (0 < (a0.Keys.length : Int)))) rfl rfl rfl rfl (b_gtr) ?_
                    refine r_guard (j := 29) (want := false) (d := 48) (c := q115) (v := false) rfl hF165 hc159 rfl rfl ?_
                    refine r_pick_t (c := !r18.1.keys) (.bool (decide (0 < (a0.Keys.length : Int)))) hF166 hc169 rfl rfl rfl rfl ?_
                    refine wpList_nil ?_
                    obtain rfl := Option.some.inj hf
                    exact ⟨rfl, _, _, rfl, rfl, ((((((Agr.refl _ _).put rfl).put rfl).put rfl).put rfl).put rfl), hE143, (Wext.refl _), rfl, h146, h147⟩
                  · refine r_skip (j := 33) (want := true) (d := 52) (c := !r18.1.keys) (v := false) rfl hF166 hc169 rfl rfl ?_
                    refine r_skip (j := 33) (want := true) (d := 52) (c := !r18.1.keys) (v := false) rfl hF166 hc169 rfl rfl ?_
                    refine r_skip (j := 33) (want := true) (d := 52) (c := !r18.1.keys) (v := false) rfl hF166 hc169 rfl rfl ?_
                    refine r_skip (j := 33) (want := true) (d := 52) (c := !r18.1.keys) (v := false) rfl hF166 hc169 rfl rfl ?_
                    refine r_guard (j := 29) (want := false) (d := 48) (c := q115) (v := false) rfl hF165 hc159 rfl rfl ?_
                    refine r_pick_f (c := !r18.1.keys) (.bool false) hF166 hc169 rfl rfl rfl rfl ?_
                    refine wpList_nil ?_
                    obtain rfl := Option.some.inj hf
                    exact ⟨rfl, _, _, rfl, rfl, ((((((Agr.refl _ _).put rfl).put rfl).put rfl).put rfl).put rfl), hE143, (Wext.refl _), rfl, h146, h147⟩
                · rintro a w ⟨F170, s171, rfl, rfl, hag172, hE173, hW174, h175, h176, h177⟩
                  have hF178 : F170 1 = (.pointer (some ⟨b13, 0, none⟩)) := (hag172 1 rfl).trans hF162
                  have hF179 : F170 2 = (.bool false) := (hag172 2 rfl).trans hF163
                  have hF180 : F170 3 = (.pointer (some ⟨b29, 0, none⟩)) := (hag172 3 rfl).trans hF164
                  have hF181 : F170 48 = (.bool q115) := (hag172 48 rfl).trans hF165
                  refine r_pick_f (c := q115) (.bool q167) hF181 hc159 h175 rfl rfl rfl ?_
                  refine wpList_nil ?_
                  obtain rfl := Option.some.inj hf
                  exact ⟨rfl, _, _, rfl, rfl, ((((((((Agr.refl _ _).put rfl).put rfl).put rfl).put rfl).gen hg161).loop hag172 rfl).put rfl), hE173, ((Wext.refl _).trans hW174), rfl, h176, h177⟩
            · rintro a w ⟨F182, s183, rfl, rfl, hag184, hE185, hW186, h187, h188, h189⟩
              have hF190 : F182 1 = (.pointer (some ⟨b13, 0, none⟩)) := (hag184 1 rfl).trans hF153
              have hF191 : F182 2 = (.bool false) := (hag184 2 rfl).trans hF154
              have hF192 : F182 3 = (.pointer (some ⟨b29, 0, none⟩)) := (hag184 3 rfl).trans hF155
              refine r_move (.bool q157) h187 rfl ?_
              refine if_else hf (fun hc193 hf => ?_) (fun hc193 hf => ?_)
              · refine r_skip (j := 40) (want := false) (d := 59) (c := q157) (v := true) rfl rfl hc193 rfl rfl ?_
                refine r_skip (j := 40) (want := false) (d := 59) (c := q157) (v := true) rfl rfl hc193 rfl rfl ?_
                refine r_skip (j := 40) (want := false) (d := 59) (c := q157) (v := true) rfl rfl hc193 rfl rfl ?_
                refine r_skip (j := 40) (want := false) (d := 59) (c := q157) (v := true) rfl rfl hc193 rfl rfl ?_
                refine r_skipu (j := 44) (d := 63) rfl rfl rfl ?_
                refine r_skipu (j := 44) (d := 63) rfl rfl rfl ?_
                refine r_skipu (j := 44) (d := 63) rfl rfl rfl ?_
                refine r_skipu (j := 44) (d := 63) rfl rfl rfl ?_
                refine r_skip (j := 40) (want := false) (d := 59) (c := q157) (v := true) rfl rfl hc193 rfl rfl ?_
                refine r_pick_t (c := q157) (.bool true) rfl hc193 rfl rfl rfl rfl ?_
                refine wpList_nil ?_
                refine p_then ?_
                refine c_true rfl rfl rfl ?_
                refine wp_seq ?_
                refine wp_region_lit ?_
                refine r_assign (.bool false) rfl rfl ?_
                refine wpList_nil ?_
                refine p_then ?_
                refine wp_ret ?_
                refine p_thenr ?_
                obtain rfl := Option.some.inj hf
                refine ret_one (.bool false) rfl ⟨rfl, rfl⟩ hE185 ?_
                exact (RpV.mkBool _ _)
              · refine r_guard (j := 40) (want := false) (d := 59) (c := q157) (v := false) rfl rfl hc193 rfl rfl ?_
                refine r_fieldAddr b29 0 4 4 hF192 rfl fo87_4 rfl ?_
                refine r_guard (j := 40) (want := false) (d := 59) (c := q157) (v := false) rfl rfl hc193 rfl rfl ?_
                refine r_load b29 4 (.bool r18.1.entries) rfl rfl (loads_one to4 ((h189.cell 4).trans rfl)) ?_
                refine r_guard (j := 40) (want := false) (d := 59) (c := q157) (v := false) rfl rfl hc193 rfl rfl ?_
                refine r_un (.bool r18.1.entries) (.bool (!r18.1.entries)) rfl rfl u_not ?_
                refine r_guard (j := 40) (want := false) (d := 59) (c := q157) (v := false) rfl rfl hc193 rfl rfl ?_
                refine r_move (.bool (!r18.1.entries)) rfl rfl ?_
                refine gen_FL fun F194 hg195 => ?_
                have hF196 : F194 1 = (.pointer (some ⟨b13, 0, none⟩)) := (hg195 1).trans hF190
                have hF197 : F194 2 = (.bool false) := (hg195 2).trans hF191
                have hF198 : F194 59 = (.bool q157) := (hg195 59).trans rfl
                have hF199 : F194 63 = (.bool (!r18.1.entries)) := (hg195 63).trans rfl
                obtain ⟨q200, hq201, hf⟩ := bind_some hf
                refine wpl_take 5 (J := fun a w => ∃ (F : Fr) (τ : S), a = fr 124 F ∧ w = τ.w ∧ Agr [64, 65, 66, 67, 68] F F194 ∧ ExtB s0.N s0 τ ∧ Wext s183 τ ∧ F 68 = (.bool q200) ∧ Blk s0.N 1 τ b13 27 [.int .i64 a0.Kind, .int .i64 a0.Int_, .string a0.Text, .slice A1 a0.Kids.length c2, .slice A4 a0.Keys.length c5, .slice A7 a0.Entries.length c8, .slice A10 a0.Labels.length c11]) ?_ ?_
                · have hf := hq201
                  refine if_else hf (fun hc202 hf => ?_) (fun hc202 hf => ?_)
                  · refine r_guard (j := 44) (want := true) (d := 63) (c := !r18.1.entries) (v := true) rfl hF199 hc202 rfl rfl ?_
                    refine r_fieldAddr b13 0 5 5 hF196 rfl fo27_5 rfl ?_
                    refine r_guard (j := 44) (want := true) (d := 63) (c := !r18.1.entries) (v := true) rfl hF199 hc202 rfl rfl ?_
                    refine r_load b13 5 (.slice A7 a0.Entries.length c8) rfl rfl (loads_one to24 ((h188.cell 5).trans rfl)) ?_
                    refine r_guard (j := 44) (want := true) (d := 63) (c := !r18.1.entries) (v := true) rfl hF199 hc202 rfl rfl ?_
                    refine r_len A7 a0.Entries.length c8 rfl rfl Go.Proofs.Try.underlying24 ?_
                    refine r_guard (j := 44) (want := true) (d := 63) (c := !r18.1.entries) (v := true) rfl hF199 hc202 rfl rfl ?_
                    refine r_bin (.int .i64 (a0.Entries.length : Int)) (.int .i64 0) (.bool (decide (0 < (a0.Entries.length : Int)))) rfl rfl rfl rfl (b_gtr) ?_
                    refine r_guard (j := 40) (want := false) (d := 59) (c := q157) (v := false) rfl hF198 hc193 rfl rfl ?_
                    refine r_pick_t (c := !r18.1.entries) (.bool (decide (0 < (a0.Entries.length : Int)))) hF199 hc202 rfl rfl rfl rfl ?_
                    refine wpList_nil ?_
                    obtain rfl := Option.some.inj hf
                    exact ⟨rfl, _, _, rfl, rfl, ((((((Agr.refl _ _).put rfl).put rfl).put rfl).put rfl).put rfl), hE185, (Wext.refl _), rfl, h188⟩
                  · refine r_skip (j := 44) (want := true) (d := 63) (c := !r18.1.entries) (v := false) rfl hF199 hc202 rfl rfl ?_
                    refine r_skip (j := 44) (want := true) (d := 63) (c := !r18.1.entries) (v := false) rfl hF199 hc202 rfl rfl ?_
                    refine r_skip (j := 44) (want := true) (d := 63) (c := !r18.1.entries) (v := false) rfl hF199 hc202 rfl rfl ?_
                    refine r_skip (j := 44) (want := true) (d := 63) (c := !r18.1.entries) (v := false) rfl hF199 hc202 rfl rfl ?_
                    refine r_guard (j := 40) (want := false) (d := 59) (c := q157) (v := false) rfl hF198 hc193 rfl rfl ?_
                    refine r_pick_f (c := !r18.1.entries) (.bool false) hF199 hc202 rfl rfl rfl rfl ?_
                    refine wpList_nil ?_
                    obtain rfl := Option.some.inj hf
                    exact ⟨rfl, _, _, rfl, rfl, ((((((Agr.refl _ _).put rfl).put rfl).put rfl).put rfl).put rfl), hE185, (Wext.refl _), rfl, h188⟩
                · rintro a w ⟨F203, s204, rfl, rfl, hag205, hE206, hW207, h208, h209⟩
                  have hF210 : F203 1 = (.pointer (some ⟨b13, 0, none⟩)) := (hag205 1 rfl).trans hF196
                  have hF211 : F203 2 = (.bool false) := (hag205 2 rfl).trans hF197
                  have hF212 : F203 59 = (.bool q157) := (hag205 59 rfl).trans hF198
                  refine r_pick_f (c := q157) (.bool q200) hF212 hc193 h208 rfl rfl rfl ?_
                  refine wpList_nil ?_
                  refine p_then ?_
                  refine if_else hf (fun hc213 hf => ?_) (fun hc213 hf => ?_)
                  · refine c_true rfl hc213 rfl ?_
                    refine wp_seq ?_
                    refine wp_region_lit ?_
                    refine r_assign (.bool false) rfl rfl ?_
                    refine wpList_nil ?_
                    refine p_then ?_
                    refine wp_ret ?_
                    refine p_thenr ?_
                    obtain rfl := Option.some.inj hf
                    refine ret_one (.bool false) rfl ⟨rfl, rfl⟩ hE206 ?_
                    exact (RpV.mkBool _ _)
                  · refine c_false rfl hc213 rfl ?_
                    refine wp_skip ?_
                    refine p_then ?_
                    refine wp_seq ?_
                    refine wp_seq ?_
                    refine wp_region_lit ?_
                    refine r_fieldAddr b13 0 0 0 hF210 rfl fo27_0 rfl ?_
                    refine r_load b13 0 (.int .i64 a0.Kind) rfl rfl (loads_one to3 ((h209.cell 0).trans rfl)) ?_
                    refine wpList_nil ?_
                    refine p_then ?_
                    refine wp_block ?_
                    refine wp_seq ?_
                    refine wp_region_lit ?_
                    refine r_bin (.int .i64 a0.Kind) (.int .i64 2) (.bool (a0.Kind == 2)) rfl rfl rfl rfl (b_eql) ?_
                    refine r_assign (.bool (a0.Kind == 2)) rfl rfl ?_
                    refine wpList_nil ?_
                    refine p_then ?_
                    refine if_else hf (fun hc214 hf => ?_) (fun hc214 hf => ?_)
                    · refine c_true rfl hc214 rfl ?_
                      refine wp_seq ?_
                      refine wp_region_lit ?_
                      refine r_fieldAddr b13 0 2 2 hF210 rfl fo27_2 rfl ?_
                      refine r_load b13 2 (.string a0.Text) rfl rfl (loads_one to9 ((h209.cell 2).trans rfl)) ?_
                      refine r_lenStr a0.Text rfl rfl Go.Proofs.Try.underlying9 ?_
                      refine r_bin (.int .i64 (a0.Text.size : Int)) (.int .i64 64) (.bool (decide ((a0.Text.size : Int) ≤ 64))) rfl rfl rfl rfl (b_leq) ?_
                      refine r_assign (.bool (decide ((a0.Text.size : Int) ≤ 64))) rfl rfl ?_
                      refine wpList_nil ?_
                      refine p_then ?_
                      refine wp_ret ?_
                      refine p_br ?_
                      refine p_thenr ?_
                      obtain rfl := Option.some.inj hf
                      refine ret_one (.bool (decide ((a0.Text.size : Int) ≤ 64))) rfl ⟨rfl, rfl⟩ hE206 ?_
                      exact (RpV.mkBool _ _)
                    · refine c_false rfl hc214 rfl ?_
                      refine wp_seq ?_
                      refine wp_region_lit ?_
                      refine r_bin (.int .i64 a0.Kind) (.int .i64 3) (.bool (a0.Kind == 3)) rfl rfl rfl rfl (b_eql) ?_
                      refine r_assign (.bool (a0.Kind == 3)) rfl rfl ?_
                      refine wpList_nil ?_
                      refine p_then ?_
                      refine if_else hf (fun hc215 hf => ?_) (fun hc215 hf => ?_)
                      · refine c_true rfl hc215 rfl ?_
                        refine wp_seq ?_
                        refine wp_region_lit ?_
                        refine r_fieldAddr b13 0 2 2 hF210 rfl fo27_2 rfl ?_
                        refine r_load b13 2 (.string a0.Text) rfl rfl (loads_one to9 ((h209.cell 2).trans rfl)) ?_
                        obtain ⟨r216, e217, hf⟩ := bind_some hf
                        refine r_call [.string a0.Text] (evs1 rfl) rfl (ok_ident_IsAtom _ _ _ _ (RpV.mkStr _ _) e217) ?_
                        intro v219 s218 hx220 hr221
                        have hE222 := hE206.ext hE206.size hx220
                        obtain rfl := RpV.bool hr221
                        refine r_assign (.bool r216) rfl rfl ?_
                        refine wpList_nil ?_
                        refine p_then ?_
                        refine wp_ret ?_
                        refine p_br ?_
                        refine p_thenr ?_
                        obtain rfl := Option.some.inj hf
                        refine ret_one (.bool r216) rfl ⟨rfl, rfl⟩ hE222 ?_
                        exact (RpV.mkBool _ _)
                      · refine c_false rfl hc215 rfl ?_
                        refine wp_seq ?_
                        refine wp_region_lit ?_
                        refine r_bin (.int .i64 a0.Kind) (.int .i64 4) (.bool (a0.Kind == 4)) rfl rfl rfl rfl (b_eql) ?_
                        refine r_assign (.bool (a0.Kind == 4)) rfl rfl ?_
                        refine wpList_nil ?_
                        refine p_then ?_
                        refine if_else hf (fun hc223 hf => ?_) (fun hc223 hf => ?_)
                        · refine c_true rfl hc223 rfl ?_
                          refine wp_seq ?_
                          refine wp_region_lit ?_
                          refine r_fieldAddr b13 0 1 1 hF210 rfl fo27_1 rfl ?_
                          refine r_load b13 1 (.int .i64 a0.Int_) rfl rfl (loads_one to2 ((h209.cell 1).trans rfl)) ?_
                          refine r_bin (.int .i64 a0.Int_) (.int .i64 0) (.bool (decide (0 ≤ a0.Int_))) rfl rfl rfl rfl (b_geq) ?_
                          refine r_assign (.bool (decide (0 ≤ a0.Int_))) rfl rfl ?_
                          refine wpList_nil ?_
                          refine p_then ?_
                          refine wp_ret ?_
                          refine p_br ?_
                          refine p_thenr ?_
                          obtain rfl := Option.some.inj hf
                          refine ret_one (.bool (decide (0 ≤ a0.Int_))) rfl ⟨rfl, rfl⟩ hE206 ?_
                          exact (RpV.mkBool _ _)
                        · refine c_false rfl hc223 rfl ?_
                          refine wp_seq ?_
                          refine wp_region_lit ?_
                          refine r_bin (.int .i64 a0.Kind) (.int .i64 6) (.bool (a0.Kind == 6)) rfl rfl rfl rfl (b_eql) ?_
                          refine r_assign (.bool (a0.Kind == 6)) rfl rfl ?_
                          refine wpList_nil ?_
                          refine p_then ?_
                          refine if_else hf (fun hc224 hf => ?_) (fun hc224 hf => ?_)
                          · refine c_true rfl hc224 rfl ?_
                            refine wp_seq ?_
                            refine wp_region_lit ?_
                            refine r_fieldAddr b13 0 3 3 hF210 rfl fo27_3 rfl ?_
                            refine r_load b13 3 (.slice A1 a0.Kids.length c2) rfl rfl (loads_one to22 ((h209.cell 3).trans rfl)) ?_
                            refine r_len A1 a0.Kids.length c2 rfl rfl Go.Proofs.Try.underlying22 ?_
                            refine r_bin (.int .i64 (a0.Kids.length : Int)) (.int .i64 4) (.bool (decide ((a0.Kids.length : Int) ≤ 4))) rfl rfl rfl rfl (b_leq) ?_
                            refine r_assign (.bool (decide ((a0.Kids.length : Int) ≤ 4))) rfl rfl ?_
                            refine wpList_nil ?_
                            refine p_then ?_
                            refine wp_ret ?_
                            refine p_br ?_
                            refine p_thenr ?_
                            obtain rfl := Option.some.inj hf
                            refine ret_one (.bool (decide ((a0.Kids.length : Int) ≤ 4))) rfl ⟨rfl, rfl⟩ hE206 ?_
                            exact (RpV.mkBool _ _)
                          · refine c_false rfl hc224 rfl ?_
                            refine wp_seq ?_
                            refine wp_region_lit ?_
                            refine r_bin (.int .i64 a0.Kind) (.int .i64 7) (.bool (a0.Kind == 7)) rfl rfl rfl rfl (b_eql) ?_
                            refine r_assign (.bool (a0.Kind == 7)) rfl rfl ?_
                            refine wpList_nil ?_
                            refine p_then ?_
                            refine if_else hf (fun hc225 hf => ?_) (fun hc225 hf => ?_)
                            · refine c_true rfl hc225 rfl ?_
                              refine wp_seq ?_
                              refine wp_region_lit ?_
                              refine r_fieldAddr b13 0 3 3 hF210 rfl fo27_3 rfl ?_
                              refine r_load b13 3 (.slice A1 a0.Kids.length c2) rfl rfl (loads_one to22 ((h209.cell 3).trans rfl)) ?_
                              refine r_len A1 a0.Kids.length c2 rfl rfl Go.Proofs.Try.underlying22 ?_
                              refine r_bin (.int .i64 (a0.Kids.length : Int)) (.int .i64 2) (.bool ((a0.Kids.length : Int) == 2)) rfl rfl rfl rfl (b_eql) ?_
                              refine r_move (.bool ((a0.Kids.length : Int) == 2)) rfl rfl ?_
                              refine if_else hf (fun hc226 hf => ?_) (fun hc226 hf => ?_)
                              · refine r_guard (j := 4) (want := true) (d := 100) (c := ((a0.Kids.length : Int) == 2)) (v := true) rfl rfl hc226 rfl rfl ?_
                                refine r_fieldAddr b13 0 3 3 hF210 rfl fo27_3 rfl ?_
                                refine r_guard (j := 4) (want := true) (d := 100) (c := ((a0.Kids.length : Int) == 2)) (v := true) rfl rfl hc226 rfl rfl ?_
                                refine r_load b13 3 (.slice A1 a0.Kids.length c2) rfl rfl (loads_one to22 ((h209.cell 3).trans rfl)) ?_
                                refine r_guard (j := 4) (want := true) (d := 100) (c := ((a0.Kids.length : Int) == 2)) (v := true) rfl rfl hc226 rfl rfl ?_
                                obtain ⟨x227, e228, hf⟩ := bind_some hf
                                refine r_indexAddr (T := 22) (E := 27) ((((((((((h3.mono hx15.wext).mono hx22.wext).mono hx31.wext).mono hm35.wext).mono hx43.wext).mono hW60).mono hW102).mono hW144).mono hW186).mono hW207) e228 rfl rfl rfl rfl Go.Proofs.Try.underlying22 sz27 ?_
                                intro b229 o230 cs231 hc232 hs233
                                obtain ⟨A234, c235, A237, c238, A240, c241, A243, c244, rfl, h236, h239, h242, h245⟩ := Val.cells_iff.1 hc232
                                refine r_guard (j := 4) (want := true) (d := 100) (c := ((a0.Kids.length : Int) == 2)) (v := true) rfl rfl hc226 rfl rfl ?_
                                refine r_fieldAddr b229 o230 0 (o230) rfl rfl fo27_0 rfl ?_
                                refine r_guard (j := 4) (want := true) (d := 100) (c := ((a0.Kids.length : Int) == 2)) (v := true) rfl rfl hc226 rfl rfl ?_
                                refine r_load b229 o230 (.int .i64 x227.Kind) rfl rfl (loads_one to3 (hs233.2 0 _ rfl)) ?_
                                refine r_guard (j := 4) (want := true) (d := 100) (c := ((a0.Kids.length : Int) == 2)) (v := true) rfl rfl hc226 rfl rfl ?_
                                refine r_bin (.int .i64 x227.Kind) (.int .i64 5) (.bool (x227.Kind == 5)) rfl rfl rfl rfl (b_eql) ?_
                                refine r_guard (j := 4) (want := true) (d := 100) (c := ((a0.Kids.length : Int) == 2)) (v := true) rfl rfl hc226 rfl rfl ?_
                                refine r_move (.bool (x227.Kind == 5)) rfl rfl ?_
                                refine gen_FL fun F246 hg247 => ?_
                                have hF248 : F246 1 = (.pointer (some ⟨b13, 0, none⟩)) := (hg247 1).trans hF210
                                have hF249 : F246 2 = (.bool false) := (hg247 2).trans hF211
                                have hF250 : F246 100 = (.bool ((a0.Kids.length : Int) == 2)) := (hg247 100).trans rfl
                                have hF251 : F246 107 = (.bool (x227.Kind == 5)) := (hg247 107).trans rfl
                                obtain ⟨q252, hq253, hf⟩ := bind_some hf
                                refine wpl_take 7 (J := fun a w => ∃ (F : Fr) (τ : S), a = fr 124 F ∧ w = τ.w ∧ Agr [108, 109, 110, 111, 112, 113, 114] F F246 ∧ ExtB s0.N s0 τ ∧ Wext s204 τ ∧ F 114 = (.bool q252)) ?_ ?_
                                · have hf := hq253
                                  refine if_else hf (fun hc254 hf => ?_) (fun hc254 hf => ?_)
                                  · refine r_skip (j := 11) (want := false) (d := 107) (c := (x227.Kind == 5)) (v := true) rfl hF251 hc254 rfl rfl ?_
                                    refine r_skip (j := 11) (want := false) (d := 107) (c := (x227.Kind == 5)) (v := true) rfl hF251 hc254 rfl rfl ?_
                                    refine r_skip (j := 11) (want := false) (d := 107) (c := (x227.Kind == 5)) (v := true) rfl hF251 hc254 rfl rfl ?_
                                    refine r_skip (j := 11) (want := false) (d := 107) (c := (x227.Kind == 5)) (v := true) rfl hF251 hc254 rfl rfl ?_
                                    refine r_skip (j := 11) (want := false) (d := 107) (c := (x227.Kind == 5)) (v := true) rfl hF251 hc254 rfl rfl ?_
                                    refine r_skip (j := 11) (want := false) (d := 107) (c := (x227.Kind == 5)) (v := true) rfl hF251 hc254 rfl rfl ?_
                                    refine r_guard (j := 4) (want := true) (d := 100) (c := ((a0.Kids.length : Int) == 2)) (v := true) rfl hF250 hc226 rfl rfl ?_
                                    refine r_pick_t (c := (x227.Kind == 5)) (.bool true) hF251 hc254 rfl rfl rfl rfl ?_
                                    refine wpList_nil ?_
                                    obtain rfl := Option.some.inj hf
                                    exact ⟨rfl, _, _, rfl, rfl, ((((((((Agr.refl _ _).put rfl).put rfl).put rfl).put rfl).put rfl).put rfl).put rfl), hE206, (Wext.refl _), rfl⟩
                                  · refine r_guard (j := 11) (want := false) (d := 107) (c := (x227.Kind == 5)) (v := false) rfl hF251 hc254 rfl rfl ?_
                                    refine r_fieldAddr b13 0 3 3 hF248 rfl fo27_3 rfl ?_
                                    refine r_guard (j := 11) (want := false) (d := 107) (c := (x227.Kind == 5)) (v := false) rfl hF251 hc254 rfl rfl ?_
                                    refine r_load b13 3 (.slice A1 a0.Kids.length c2) rfl rfl (loads_one to22 ((h209.cell 3).trans rfl)) ?_
                                    refine r_guard (j := 11) (want := false) (d := 107) (c := (x227.Kind == 5)) (v := false) rfl hF251 hc254 rfl rfl ?_
                                    obtain ⟨x255, e256, hf⟩ := bind_some hf
                                    refine r_indexAddr (T := 22) (E := 27) ((((((((((h3.mono hx15.wext).mono hx22.wext).mono hx31.wext).mono hm35.wext).mono hx43.wext).mono hW60).mono hW102).mono hW144).mono hW186).mono hW207) e256 rfl rfl rfl rfl Go.Proofs.Try.underlying22 sz27 ?_
                                    intro b257 o258 cs259 hc260 hs261
                                    obtain ⟨A262, c263, A265, c266, A268, c269, A271, c272, rfl, h264, h267, h270, h273⟩ := Val.cells_iff.1 hc260
                                    refine r_guard (j := 11) (want := false) (d := 107) (c := (x227.Kind == 5)) (v := false) rfl hF251 hc254 rfl rfl ?_
                                    refine r_fieldAddr b257 o258 0 (o258) rfl rfl fo27_0 rfl ?_
                                    refine r_guard (j := 11) (want := false) (d := 107) (c := (x227.Kind == 5)) (v := false) rfl hF251 hc254 rfl rfl ?_
                                    refine r_load b257 o258 (.int .i64 x255.Kind) rfl rfl (loads_one to3 (hs261.2 0 _ rfl)) ?_
                                    refine r_guard (j := 11) (want := false) (d := 107) (c := (x227.Kind == 5)) (v := false) rfl hF251 hc254 rfl rfl ?_
                                    refine r_bin (.int .i64 x255.Kind) (.int .i64 7) (.bool (x255.Kind == 7)) rfl rfl rfl rfl (b_eql) ?_
                                    refine r_guard (j := 4) (want := true) (d := 100) (c := ((a0.Kids.length : Int) == 2)) (v := true) rfl hF250 hc226 rfl rfl ?_
                                    refine r_pick_f (c := (x227.Kind == 5)) (.bool (x255.Kind == 7)) hF251 hc254 rfl rfl rfl rfl ?_
                                    refine wpList_nil ?_
                                    obtain rfl := Option.some.inj hf
                                    exact ⟨rfl, _, _, rfl, rfl, ((((((((Agr.refl _ _).put rfl).put rfl).put rfl).put rfl).put rfl).put rfl).put rfl), hE206, (Wext.refl _), rfl⟩
                                · rintro a w ⟨F274, s275, rfl, rfl, hag276, hE277, hW278, h279⟩
                                  have hF280 : F274 2 = (.bool false) := (hag276 2 rfl).trans hF249
                                  have hF281 : F274 100 = (.bool ((a0.Kids.length : Int) == 2)) := (hag276 100 rfl).trans hF250
                                  refine r_pick_t (c := ((a0.Kids.length : Int) == 2)) (.bool q252) hF281 hc226 h279 rfl rfl rfl ?_
                                  refine r_assign (.bool q252) rfl rfl ?_
                                  refine wpList_nil ?_
                                  refine p_then ?_
                                  refine wp_ret ?_
                                  refine p_br ?_
                                  refine p_thenr ?_
                                  obtain rfl := Option.some.inj hf
                                  refine ret_one (.bool q252) rfl ⟨rfl, rfl⟩ hE277 ?_
                                  exact (RpV.mkBool _ _)
                              · refine r_skip (j := 4) (want := true) (d := 100) (c := ((a0.Kids.length : Int) == 2)) (v := false) rfl rfl hc226 rfl rfl ?_
                                refine r_skip (j := 4) (want := true) (d := 100) (c := ((a0.Kids.length : Int) == 2)) (v := false) rfl rfl hc226 rfl rfl ?_
                                refine r_skip (j := 4) (want := true) (d := 100) (c := ((a0.Kids.length : Int) == 2)) (v := false) rfl rfl hc226 rfl rfl ?_
                                refine r_skip (j := 4) (want := true) (d := 100) (c := ((a0.Kids.length : Int) == 2)) (v := false) rfl rfl hc226 rfl rfl ?_
                                refine r_skip (j := 4) (want := true) (d := 100) (c := ((a0.Kids.length : Int) == 2)) (v := false) rfl rfl hc226 rfl rfl ?_
                                refine r_skip (j := 4) (want := true) (d := 100) (c := ((a0.Kids.length : Int) == 2)) (v := false) rfl rfl hc226 rfl rfl ?_
                                refine r_skip (j := 4) (want := true) (d := 100) (c := ((a0.Kids.length : Int) == 2)) (v := false) rfl rfl hc226 rfl rfl ?_
                                refine r_skipu (j := 11) (d := 107) rfl rfl rfl ?_
                                refine r_skipu (j := 11) (d := 107) rfl rfl rfl ?_
                                refine r_skipu (j := 11) (d := 107) rfl rfl rfl ?_
                                refine r_skipu (j := 11) (d := 107) rfl rfl rfl ?_
                                refine r_skipu (j := 11) (d := 107) rfl rfl rfl ?_
                                refine r_skipu (j := 11) (d := 107) rfl rfl rfl ?_
                                refine r_skip (j := 4) (want := true) (d := 100) (c := ((a0.Kids.length : Int) == 2)) (v := false) rfl rfl hc226 rfl rfl ?_
                                refine r_pick_f (c := ((a0.Kids.length : Int) == 2)) (.bool false) rfl hc226 rfl rfl rfl rfl ?_
                                refine r_assign (.bool false) rfl rfl ?_
                                refine wpList_nil ?_
                                refine p_then ?_
                                refine wp_ret ?_
                                refine p_br ?_
                                refine p_thenr ?_
                                obtain rfl := Option.some.inj hf
                                refine ret_one (.bool false) rfl ⟨rfl, rfl⟩ hE206 ?_
                                exact (RpV.mkBool _ _)
                            · refine c_false rfl hc225 rfl ?_
                              refine wp_seq ?_
                              refine wp_region_lit ?_
                              refine r_bin (.int .i64 a0.Kind) (.int .i64 8) (.bool (a0.Kind == 8)) rfl rfl rfl rfl (b_eql) ?_
                              refine r_assign (.bool (a0.Kind == 8)) rfl rfl ?_
                              refine wpList_nil ?_
                              refine p_then ?_
                              refine if_else hf (fun hc282 hf => ?_) (fun hc282 hf => ?_)
                              · refine c_true rfl hc282 rfl ?_
                                refine wp_seq ?_
                                refine wp_region_lit ?_
                                refine r_load b13 0 (.agg #[.int .i64 a0.Kind, .int .i64 a0.Int_, .string a0.Text, .slice A1 a0.Kids.length c2, .slice A4 a0.Keys.length c5, .slice A7 a0.Entries.length c8, .slice A10 a0.Labels.length c11]) hF210 rfl (loads_row tr27 (Blk.range h209 0 [.int .i64 a0.Kind, .int .i64 a0.Int_, .string a0.Text, .slice A1 a0.Kids.length c2, .slice A4 a0.Keys.length c5, .slice A7 a0.Entries.length c8, .slice A10 a0.Labels.length c11] rfl)) ?_
                                obtain ⟨r283, e284, hf⟩ := bind_some hf
                                refine r_call [.agg #[.int .i64 a0.Kind, .int .i64 a0.Int_, .string a0.Text, .slice A1 a0.Kids.length c2, .slice A4 a0.Keys.length c5, .slice A7 a0.Entries.length c8, .slice A10 a0.Labels.length c11]] (evs1 rfl) rfl (ok_value_validMap _ _ _ _ (Val.rpvMk (v := a0) ((((((((((h3.mono hx15.wext).mono hx22.wext).mono hx31.wext).mono hm35.wext).mono hx43.wext).mono hW60).mono hW102).mono hW144).mono hW186).mono hW207) ((((((((((h6.mono hx15.wext).mono hx22.wext).mono hx31.wext).mono hm35.wext).mono hx43.wext).mono hW60).mono hW102).mono hW144).mono hW186).mono hW207) ((((((((((h9.mono hx15.wext).mono hx22.wext).mono hx31.wext).mono hm35.wext).mono hx43.wext).mono hW60).mono hW102).mono hW144).mono hW186).mono hW207) ((((((((((h12.mono hx15.wext).mono hx22.wext).mono hx31.wext).mono hm35.wext).mono hx43.wext).mono hW60).mono hW102).mono hW144).mono hW186).mono hW207)) e284) ?_
                                intro v286 s285 hx287 hr288
                                have hE289 := hE206.ext hE206.size hx287
                                obtain rfl := RpV.bool hr288
                                refine r_assign (.bool r283) rfl rfl ?_
                                refine wpList_nil ?_
                                refine p_then ?_
                                refine wp_ret ?_
                                refine p_br ?_
                                refine p_thenr ?_
                                obtain rfl := Option.some.inj hf
                                refine ret_one (.bool r283) rfl ⟨rfl, rfl⟩ hE289 ?_
                                exact (RpV.mkBool _ _)
                              · refine c_false rfl hc282 rfl ?_
                                refine wp_seq ?_
                                refine wp_region_lit ?_
                                refine r_bin (.int .i64 a0.Kind) (.int .i64 9) (.bool (a0.Kind == 9)) rfl rfl rfl rfl (b_eql) ?_
                                refine r_assign (.bool (a0.Kind == 9)) rfl rfl ?_
                                refine wpList_nil ?_
                                refine p_then ?_
                                refine if_else hf (fun hc290 hf => ?_) (fun hc290 hf => ?_)
                                · refine c_true rfl hc290 rfl ?_
                                  refine wp_seq ?_
                                  refine wp_region_lit ?_
                                  refine r_load b13 0 (.agg #[.int .i64 a0.Kind, .int .i64 a0.Int_, .string a0.Text, .slice A1 a0.Kids.length c2, .slice A4 a0.Keys.length c5, .slice A7 a0.Entries.length c8, .slice A10 a0.Labels.length c11]) hF210 rfl (loads_row tr27 (Blk.range h209 0 [.int .i64 a0.Kind, .int .i64 a0.Int_, .string a0.Text, .slice A1 a0.Kids.length c2, .slice A4 a0.Keys.length c5, .slice A7 a0.Entries.length c8, .slice A10 a0.Labels.length c11] rfl)) ?_
                                  obtain ⟨r291, e292, hf⟩ := bind_some hf
                                  refine r_call [.agg #[.int .i64 a0.Kind, .int .i64 a0.Int_, .string a0.Text, .slice A1 a0.Kids.length c2, .slice A4 a0.Keys.length c5, .slice A7 a0.Entries.length c8, .slice A10 a0.Labels.length c11]] (evs1 rfl) rfl ((ok_value_validFunction fuel) _ _ _ _ (Val.rpvMk (v := a0) ((((((((((h3.mono hx15.wext).mono hx22.wext).mono hx31.wext).mono hm35.wext).mono hx43.wext).mono hW60).mono hW102).mono hW144).mono hW186).mono hW207) ((((((((((h6.mono hx15.wext).mono hx22.wext).mono hx31.wext).mono hm35.wext).mono hx43.wext).mono hW60).mono hW102).mono hW144).mono hW186).mono hW207) ((((((((((h9.mono hx15.wext).mono hx22.wext).mono hx31.wext).mono hm35.wext).mono hx43.wext).mono hW60).mono hW102).mono hW144).mono hW186).mono hW207) ((((((((((h12.mono hx15.wext).mono hx22.wext).mono hx31.wext).mono hm35.wext).mono hx43.wext).mono hW60).mono hW102).mono hW144).mono hW186).mono hW207)) e292) ?_
                                  intro v294 s293 hx295 hr296
                                  have hE297 := hE206.ext hE206.size hx295
                                  obtain rfl := RpV.bool hr296
                                  refine r_assign (.bool r291) rfl rfl ?_
                                  refine wpList_nil ?_
                                  refine p_then ?_
                                  refine wp_ret ?_
                                  refine p_br ?_
                                  refine p_thenr ?_
                                  obtain rfl := Option.some.inj hf
                                  refine ret_one (.bool r291) rfl ⟨rfl, rfl⟩ hE297 ?_
                                  exact (RpV.mkBool _ _)
                                · refine c_false rfl hc290 rfl ?_
                                  refine wp_skip ?_
                                  refine p_bn ?_
                                  refine p_then ?_
                                  refine wp_seq ?_
                                  refine wp_region_lit ?_
                                  refine r_assign (.bool true) rfl rfl ?_
                                  refine wpList_nil ?_
                                  refine p_then ?_
                                  refine wp_ret ?_
                                  obtain rfl := Option.some.inj hf
                                  refine ret_one (.bool true) rfl ⟨rfl, rfl⟩ hE206 ?_
                                  exact (RpV.mkBool _ _)

def S_value_validTree (f : (Val → Option Bool)) : Prop := ∀ (s0 : S) (v0 : Value) (a0 : Val) (r : Bool), RpV s0 a0 v0 → f a0 = some r → Ctr Go.Proofs.Try.prog 35 [v0] s0 (fun v τ => RpV τ r v)

set_option maxHeartbeats 1600000 in
set_option maxRecDepth 100000 in
theorem okB_value_validTree {rec_value_validTree : (Val → Option Bool)} (fuel : Nat) (hrec_value_validTree : S_value_validTree rec_value_validTree) : S_value_validTree (value_validTree_B rec_value_validTree fuel) := by
  intro s0 v0 a0 r h0 hf
  obtain ⟨A1, c2, A4, c5, A7, c8, A10, c11, rfl, h3, h6, h9, h12⟩ := Val.rpv h0
  unfold value_validTree_B at hf
  have hE0 : ExtB s0.N s0 s0 := ExtB.refl _ _
  refine ctr_of 19 Go.Proofs.Try.func35 rfl rfl rfl rfl ?_
  refine wp_seq ?_
  refine wp_region_lit ?_
  refine r_box (B := s0.N) 1 hE0.size (.agg #[.int .i64 a0.Kind, .int .i64 a0.Int_, .string a0.Text, .slice A1 a0.Kids.length c2, .slice A4 a0.Keys.length c5, .slice A7 a0.Entries.length c8, .slice A10 a0.Labels.length c11]) [.int .i64 a0.Kind, .int .i64 a0.Int_, .string a0.Text, .slice A1 a0.Kids.length c2, .slice A4 a0.Keys.length c5, .slice A7 a0.Entries.length c8, .slice A10 a0.Labels.length c11] rfl rfl rfl ?_
  intro s14 b13 hx15 hb16
  have hE17 := hE0.ext hE0.size hx15
  refine r_assign (.bool false) rfl rfl ?_
  refine wpList_nil ?_
  refine p_then ?_
  refine wp_seq ?_
  refine wp_seq ?_
  refine wp_region_lit ?_
  refine r_load b13 0 (.agg #[.int .i64 a0.Kind, .int .i64 a0.Int_, .string a0.Text, .slice A1 a0.Kids.length c2, .slice A4 a0.Keys.length c5, .slice A7 a0.Entries.length c8, .slice A10 a0.Labels.length c11]) rfl rfl (loads_row tr27 (Blk.range hb16 0 [.int .i64 a0.Kind, .int .i64 a0.Int_, .string a0.Text, .slice A1 a0.Kids.length c2, .slice A4 a0.Keys.length c5, .slice A7 a0.Entries.length c8, .slice A10 a0.Labels.length c11] rfl)) ?_
  obtain ⟨r18, e19, hf⟩ := bind_some hf
  refine r_call [.agg #[.int .i64 a0.Kind, .int .i64 a0.Int_, .string a0.Text, .slice A1 a0.Kids.length c2, .slice A4 a0.Keys.length c5, .slice A7 a0.Entries.length c8, .slice A10 a0.Labels.length c11]] (evs1 rfl) rfl ((ok_value_validNode fuel) _ _ _ _ (Val.rpvMk (v := a0) (h3.mono hx15.wext) (h6.mono hx15.wext) (h9.mono hx15.wext) (h12.mono hx15.wext)) e19) ?_
  intro v21 s20 hx22 hr23
  have hE24 := hE17.ext hE17.size hx22
  obtain rfl := RpV.bool hr23
  refine r_un (.bool r18) (.bool (!r18)) rfl rfl u_not ?_
  refine wpList_nil ?_
  refine p_then ?_
  refine if_else hf (fun hc25 hf => ?_) (fun hc25 hf => ?_)
  · refine c_true rfl hc25 rfl ?_
    refine wp_seq ?_
    refine wp_region_lit ?_
    refine r_assign (.bool false) rfl rfl ?_
    refine wpList_nil ?_
    refine p_then ?_
    refine wp_ret ?_
    refine p_thenr ?_
    obtain rfl := Option.some.inj hf
    refine ret_one (.bool false) rfl ⟨rfl, rfl⟩ hE24 ?_
    exact (RpV.mkBool _ _)
  · refine c_false rfl hc25 rfl ?_
    refine wp_skip ?_
    refine p_then ?_
    refine wp_seq ?_
    refine wp_seq ?_
    refine wp_region_lit ?_
    refine r_load b13 0 (.agg #[.int .i64 a0.Kind, .int .i64 a0.Int_, .string a0.Text, .slice A1 a0.Kids.length c2, .slice A4 a0.Keys.length c5, .slice A7 a0.Entries.length c8, .slice A10 a0.Labels.length c11]) rfl rfl (loads_row tr27 (Blk.range (hb16.ext hx22) 0 [.int .i64 a0.Kind, .int .i64 a0.Int_, .string a0.Text, .slice A1 a0.Kids.length c2, .slice A4 a0.Keys.length c5, .slice A7 a0.Entries.length c8, .slice A10 a0.Labels.length c11] rfl)) ?_
    obtain ⟨r26, e27, hf⟩ := bind_some hf
    refine r_call [.agg #[.int .i64 a0.Kind, .int .i64 a0.Int_, .string a0.Text, .slice A1 a0.Kids.length c2, .slice A4 a0.Keys.length c5, .slice A7 a0.Entries.length c8, .slice A10 a0.Labels.length c11]] (evs1 rfl) rfl (ok_value_parts _ _ _ _ (Val.rpvMk (v := a0) ((h3.mono hx15.wext).mono hx22.wext) ((h6.mono hx15.wext).mono hx22.wext) ((h9.mono hx15.wext).mono hx22.wext) ((h12.mono hx15.wext).mono hx22.wext)) e27 1002 (by omega)) ?_
    intro v29 s28 hx30 hr31
    have hE32 := hE24.ext hE24.size hx30
    obtain ⟨A33, c34, rfl, ho35⟩ := hr31
    refine r_len A33 r26.length c34 rfl rfl Go.Proofs.Try.underlying22 ?_
    refine r_move (.int .i64 0) rfl rfl ?_
    refine wpList_nil ?_
    refine p_then ?_
    refine wp_block ?_
    refine gen_F fun F36 hg37 => ?_
    have hF38 : F36 2 = (.bool false) := (hg37 2).trans rfl
    have hF39 : F36 9 = (.slice A33 r26.length c34) := (hg37 9).trans rfl
    have hF40 : F36 10 = (.int .i64 (r26.length : Int)) := (hg37 10).trans rfl
    have hF41 : F36 11 = (.int .i64 0) := (hg37 11).trans rfl
    obtain ⟨o89, ho90, hf⟩ := bind_some hf
    refine wp_mono (wp_iter (step := value_validTree_l1 rec_value_validTree r26) (fun q a w => ∃ (F : Fr) (τ : S), a = fr 19 F ∧ w = τ.w ∧ Agr [2, 4, 11, 12, 13, 14, 15, 16, 17, 18] F F36 ∧ ExtB s0.N s0 τ ∧ Wext s28 τ ∧ F 11 = (.int .i64 q) ∧ Own s0.N 1002 27 τ r26 A33 c34) (fun o e a w => match o with | .inl q => e = .exit 0 ∧ ∃ (F : Fr) (τ : S), a = fr 19 F ∧ w = τ.w ∧ Agr [2, 4, 11, 12, 13, 14, 15, 16, 17, 18] F F36 ∧ ExtB s0.N s0 τ ∧ Wext s28 τ ∧ F 11 = (.int .i64 q) ∧ Own s0.N 1002 27 τ r26 A33 c34 | .inr r => e = .ret ∧ ∃ (F : Fr) (τ : S) (va : Value), a = fr 19 F ∧ w = τ.w ∧ ExtB s0.N s0 τ ∧ ResV Go.Proofs.Try.prog 19 F τ.w (.tmp 2) va ∧ RpV τ r va) (by rintro (_ | _) a w ⟨h, _⟩ <;> cases h) ?_ _ _ _ _ _ ho90 ?_) ?_
    · intro q42 fl a w hf hI
      obtain ⟨F43, s44, rfl, rfl, hag45, hE46, hW47, h48, h49⟩ := hI
      unfold value_validTree_l1 at hf
      have hF50 : F43 9 = (.slice A33 r26.length c34) := (hag45 9 rfl).trans hF39
      have hF51 : F43 10 = (.int .i64 (r26.length : Int)) := (hag45 10 rfl).trans hF40
      refine wp_seq ?_
      refine wp_region_lit ?_
      refine r_bin (.int .i64 q42) (.int .i64 (r26.length : Int)) (.bool (decide (q42 < (r26.length : Int)))) h48 hF51 rfl rfl (b_lss) ?_
      refine wpList_nil ?_
      refine p_then ?_
      refine wp_seq ?_
      refine if_else hf (fun hc52 hf => ?_) (fun hc52 hf => ?_)
      · refine c_true rfl hc52 rfl ?_
        refine wp_skip ?_
        refine p_then ?_
        refine wp_seq ?_
        refine wp_block ?_
        refine wp_seq ?_
        refine wp_region_lit ?_
        obtain ⟨x53, e54, hf⟩ := bind_some hf
        refine r_indexAddr (T := 22) (E := 27) h49.sl e54 hF50 h48 rfl rfl Go.Proofs.Try.underlying22 sz27 ?_
        intro b55 o56 cs57 hc58 hs59
        obtain ⟨A60, c61, A63, c64, A66, c67, A69, c70, rfl, h62, h65, h68, h71⟩ := Val.cells_iff.1 hc58
        refine r_load b55 o56 (.agg #[.int .i64 x53.Kind, .int .i64 x53.Int_, .string x53.Text, .slice A60 x53.Kids.length c61, .slice A63 x53.Keys.length c64, .slice A66 x53.Entries.length c67, .slice A69 x53.Labels.length c70]) rfl rfl (loads_row tr27 hs59.2) ?_
        refine r_alloc (B := s0.N) 3 hE46.size _ [.int .i64 0, .int .i64 0, .string (⟨#[]⟩), .slice none ([] : List Val).length 0, .slice none ([] : List Key).length 0, .slice none ([] : List Ent).length 0, .slice none ([] : List ByteArray).length 0] ti27 rfl ?_
        intro s73 b72 hx74 hb75
        have hE76 := hE46.ext hE46.size hx74
        refine r_store hb75 0 (.agg #[.int .i64 x53.Kind, .int .i64 x53.Int_, .string x53.Text, .slice A60 x53.Kids.length c61, .slice A63 x53.Keys.length c64, .slice A66 x53.Entries.length c67, .slice A69 x53.Labels.length c70]) [.int .i64 x53.Kind, .int .i64 x53.Int_, .string x53.Text, .slice A60 x53.Kids.length c61, .slice A63 x53.Keys.length c64, .slice A66 x53.Entries.length c67, .slice A69 x53.Labels.length c70] [.int .i64 x53.Kind, .int .i64 x53.Int_, .string x53.Text, .slice A60 x53.Kids.length c61, .slice A63 x53.Keys.length c64, .slice A66 x53.Entries.length c67, .slice A69 x53.Labels.length c70] rfl rfl rfl rfl rfl sz27 rfl rfl rfl ?_
        intro s77 hm78 hb79
        have hE80 := hE76.mod hE76.size hm78
        refine wpList_nil ?_
        refine p_then ?_
        refine wp_seq ?_
        refine wp_region_lit ?_
        refine r_load b72 0 (.agg #[.int .i64 x53.Kind, .int .i64 x53.Int_, .string x53.Text, .slice A60 x53.Kids.length c61, .slice A63 x53.Keys.length c64, .slice A66 x53.Entries.length c67, .slice A69 x53.Labels.length c70]) rfl rfl (loads_row tr27 (Blk.range hb79 0 [.int .i64 x53.Kind, .int .i64 x53.Int_, .string x53.Text, .slice A60 x53.Kids.length c61, .slice A63 x53.Keys.length c64, .slice A66 x53.Entries.length c67, .slice A69 x53.Labels.length c70] rfl)) ?_
        obtain ⟨r81, e82, hf⟩ := bind_some hf
        refine r_call [.agg #[.int .i64 x53.Kind, .int .i64 x53.Int_, .string x53.Text, .slice A60 x53.Kids.length c61, .slice A63 x53.Keys.length c64, .slice A66 x53.Entries.length c67, .slice A69 x53.Labels.length c70]] (evs1 rfl) rfl (hrec_value_validTree _ _ _ _ (Val.rpvMk (v := x53) ((h62.mono hx74.wext).mono hm78.wext) ((h65.mono hx74.wext).mono hm78.wext) ((h68.mono hx74.wext).mono hm78.wext) ((h71.mono hx74.wext).mono hm78.wext)) e82) ?_
        intro v84 s83 hx85 hr86
        have hE87 := hE80.ext hE80.size hx85
        obtain rfl := RpV.bool hr86
        refine r_un (.bool r81) (.bool (!r81)) rfl rfl u_not ?_
        refine wpList_nil ?_
        refine p_then ?_
        refine if_else hf (fun hc88 hf => ?_) (fun hc88 hf => ?_)
        · refine c_true rfl hc88 rfl ?_
          refine wp_seq ?_
          refine wp_region_lit ?_
          refine r_assign (.bool false) rfl rfl ?_
          refine wpList_nil ?_
          refine p_then ?_
          refine wp_ret ?_
          refine p_br ?_
          refine p_thenr ?_
          obtain rfl := Option.some.inj hf
          exact ⟨rfl, _, _, (.bool false), rfl, rfl, hE87, ⟨rfl, rfl⟩, (RpV.mkBool _ _)⟩
        · refine c_false rfl hc88 rfl ?_
          refine wp_skip ?_
          refine p_bn ?_
          refine p_then ?_
          refine wp_region_lit ?_
          refine r_bin (.int .i64 q42) (.int .i64 1) (.int .i64 (w64 (q42 + 1))) h48 rfl rfl rfl (b_add) ?_
          refine r_move (.int .i64 (w64 (q42 + 1))) rfl rfl ?_
          refine wpList_nil ?_
          obtain rfl := Option.some.inj hf
          exact ⟨rfl, _, _, rfl, rfl, (((((((((((hag45).put rfl).put rfl).put rfl).put rfl).put0).put rfl).put rfl).put rfl).put rfl).put rfl), hE87, (((((Wext.refl _).trans hW47).trans hx74.wext).trans hm78.wext).trans hx85.wext), rfl, (((h49.ext hx74).mod hm78 rfl).ext hx85)⟩
      · refine c_false rfl hc52 rfl ?_
        refine wp_exit ?_
        refine p_thenx ?_
        obtain rfl := Option.some.inj hf
        exact ⟨rfl, _, _, rfl, rfl, ((hag45).put rfl), hE46, ((Wext.refl _).trans hW47), h48, h49⟩
    · exact ⟨_, _, rfl, rfl, (Agr.refl _ _), hE32, (Wext.refl _), hF41, (ho35.base (by have := hE24.size; omega))⟩
    · intro e a w hp
      rcases o89 with q91 | r
      · replace hf := onEnd_inl hf
        obtain ⟨rfl, F92, s93, rfl, rfl, hag94, hE95, hW96, h97, h98⟩ := hp
        have hF99 : F92 9 = (.slice A33 r26.length c34) := (hag94 9 rfl).trans hF39
        have hF100 : F92 10 = (.int .i64 (r26.length : Int)) := (hag94 10 rfl).trans hF40
        refine p_bx ?_
        refine p_then ?_
        refine wp_seq ?_
        refine wp_region_lit ?_
        refine r_assign (.bool true) rfl rfl ?_
        refine wpList_nil ?_
        refine p_then ?_
        refine wp_ret ?_
        obtain rfl := Option.some.inj hf
        refine ret_one (.bool true) rfl ⟨rfl, rfl⟩ hE95 ?_
        exact (RpV.mkBool _ _)
      · replace hf := onEnd_inr hf
        obtain ⟨rfl, F104, s105, v101, rfl, rfl, hE106, h102, h103⟩ := hp
        refine p_br ?_
        refine p_thenr ?_
        obtain rfl := Option.some.inj hf
        refine ret_one v101 rfl h102 hE106 ?_
        exact h103

theorem ok_value_validTree : ∀ n : Nat, S_value_validTree (value_validTree n)
  | 0 => by intro _ _ _ _ _ h; cases h
  | n + 1 => okB_value_validTree n (ok_value_validTree n)

def S_value_Validate (f : (Val → Option Int)) : Prop := ∀ (s0 : S) (v0 : Value) (a0 : Val) (r : Int), RpV s0 a0 v0 → f a0 = some r → Ctr Go.Proofs.Try.prog 10 [v0] s0 (fun v τ => RpV τ r v)

set_option maxHeartbeats 1600000 in
set_option maxRecDepth 100000 in
theorem ok_value_Validate (fuel : Nat) : S_value_Validate (value_Validate fuel) := by
  intro s0 v0 a0 r h0 hf
  obtain ⟨A1, c2, A4, c5, A7, c8, A10, c11, rfl, h3, h6, h9, h12⟩ := Val.rpv h0
  unfold value_Validate at hf
  have hE0 : ExtB s0.N s0 s0 := ExtB.refl _ _
  refine ctr_of 6 Go.Proofs.Try.func10 rfl rfl rfl rfl ?_
  refine wp_seq ?_
  refine wp_region_lit ?_
  refine r_box (B := s0.N) 1 hE0.size (.agg #[.int .i64 a0.Kind, .int .i64 a0.Int_, .string a0.Text, .slice A1 a0.Kids.length c2, .slice A4 a0.Keys.length c5, .slice A7 a0.Entries.length c8, .slice A10 a0.Labels.length c11]) [.int .i64 a0.Kind, .int .i64 a0.Int_, .string a0.Text, .slice A1 a0.Kids.length c2, .slice A4 a0.Keys.length c5, .slice A7 a0.Entries.length c8, .slice A10 a0.Labels.length c11] rfl rfl rfl ?_
  intro s14 b13 hx15 hb16
  have hE17 := hE0.ext hE0.size hx15
  refine r_assign (.int .i64 0) rfl rfl ?_
  refine wpList_nil ?_
  refine p_then ?_
  refine wp_seq ?_
  refine wp_seq ?_
  refine wp_region_lit ?_
  refine r_load b13 0 (.agg #[.int .i64 a0.Kind, .int .i64 a0.Int_, .string a0.Text, .slice A1 a0.Kids.length c2, .slice A4 a0.Keys.length c5, .slice A7 a0.Entries.length c8, .slice A10 a0.Labels.length c11]) rfl rfl (loads_row tr27 (Blk.range hb16 0 [.int .i64 a0.Kind, .int .i64 a0.Int_, .string a0.Text, .slice A1 a0.Kids.length c2, .slice A4 a0.Keys.length c5, .slice A7 a0.Entries.length c8, .slice A10 a0.Labels.length c11] rfl)) ?_
  obtain ⟨r18, e19, hf⟩ := bind_some hf
  refine r_call [.agg #[.int .i64 a0.Kind, .int .i64 a0.Int_, .string a0.Text, .slice A1 a0.Kids.length c2, .slice A4 a0.Keys.length c5, .slice A7 a0.Entries.length c8, .slice A10 a0.Labels.length c11]] (evs1 rfl) rfl ((ok_value_validTree fuel) _ _ _ _ (Val.rpvMk (v := a0) (h3.mono hx15.wext) (h6.mono hx15.wext) (h9.mono hx15.wext) (h12.mono hx15.wext)) e19) ?_
  intro v21 s20 hx22 hr23
  have hE24 := hE17.ext hE17.size hx22
  obtain rfl := RpV.bool hr23
  refine r_un (.bool r18) (.bool (!r18)) rfl rfl u_not ?_
  refine wpList_nil ?_
  refine p_then ?_
  refine if_else hf (fun hc25 hf => ?_) (fun hc25 hf => ?_)
  · refine c_true rfl hc25 rfl ?_
    refine wp_seq ?_
    refine wp_region_lit ?_
    refine r_assign (.int .i64 1) rfl rfl ?_
    refine wpList_nil ?_
    refine p_then ?_
    refine wp_ret ?_
    refine p_thenr ?_
    obtain rfl := Option.some.inj hf
    refine ret_one (.int .i64 1) rfl ⟨rfl, rfl⟩ hE24 ?_
    exact (RpV.mkInt _ _)
  · refine c_false rfl hc25 rfl ?_
    refine wp_skip ?_
    refine p_then ?_
    refine wp_seq ?_
    refine wp_region_lit ?_
    refine r_assign (.int .i64 0) rfl rfl ?_
    refine wpList_nil ?_
    refine p_then ?_
    refine wp_ret ?_
    obtain rfl := Option.some.inj hf
    refine ret_one (.int .i64 0) rfl ⟨rfl, rfl⟩ hE24 ?_
    exact (RpV.mkInt _ _)

def S_value_Nodes (f : (Val → Option Int)) : Prop := ∀ (s0 : S) (v0 : Value) (a0 : Val) (r : Int), RpV s0 a0 v0 → f a0 = some r → Ctr Go.Proofs.Try.prog 16 [v0] s0 (fun v τ => RpV τ r v)

set_option maxHeartbeats 1600000 in
set_option maxRecDepth 100000 in
theorem okB_value_Nodes {rec_value_Nodes : (Val → Option Int)} (hrec_value_Nodes : S_value_Nodes rec_value_Nodes) : S_value_Nodes (value_Nodes_B rec_value_Nodes) := by
  intro s0 v0 a0 r h0 hf
  obtain ⟨A1, c2, A4, c5, A7, c8, A10, c11, rfl, h3, h6, h9, h12⟩ := Val.rpv h0
  unfold value_Nodes_B at hf
  have hE0 : ExtB s0.N s0 s0 := ExtB.refl _ _
  refine ctr_of 19 Go.Proofs.Try.func16 rfl rfl rfl rfl ?_
  refine wp_seq ?_
  refine wp_region_lit ?_
  refine r_box (B := s0.N) 1 hE0.size (.agg #[.int .i64 a0.Kind, .int .i64 a0.Int_, .string a0.Text, .slice A1 a0.Kids.length c2, .slice A4 a0.Keys.length c5, .slice A7 a0.Entries.length c8, .slice A10 a0.Labels.length c11]) [.int .i64 a0.Kind, .int .i64 a0.Int_, .string a0.Text, .slice A1 a0.Kids.length c2, .slice A4 a0.Keys.length c5, .slice A7 a0.Entries.length c8, .slice A10 a0.Labels.length c11] rfl rfl rfl ?_
  intro s14 b13 hx15 hb16
  have hE17 := hE0.ext hE0.size hx15
  refine r_assign (.int .i64 0) rfl rfl ?_
  refine wpList_nil ?_
  refine p_then ?_
  refine wp_seq ?_
  refine wp_region_lit ?_
  refine r_assign (.int .i64 1) rfl rfl ?_
  refine wpList_nil ?_
  refine p_then ?_
  refine wp_seq ?_
  refine wp_seq ?_
  refine wp_region_lit ?_
  refine r_load b13 0 (.agg #[.int .i64 a0.Kind, .int .i64 a0.Int_, .string a0.Text, .slice A1 a0.Kids.length c2, .slice A4 a0.Keys.length c5, .slice A7 a0.Entries.length c8, .slice A10 a0.Labels.length c11]) rfl rfl (loads_row tr27 (Blk.range hb16 0 [.int .i64 a0.Kind, .int .i64 a0.Int_, .string a0.Text, .slice A1 a0.Kids.length c2, .slice A4 a0.Keys.length c5, .slice A7 a0.Entries.length c8, .slice A10 a0.Labels.length c11] rfl)) ?_
  obtain ⟨r18, e19, hf⟩ := bind_some hf
  refine r_call [.agg #[.int .i64 a0.Kind, .int .i64 a0.Int_, .string a0.Text, .slice A1 a0.Kids.length c2, .slice A4 a0.Keys.length c5, .slice A7 a0.Entries.length c8, .slice A10 a0.Labels.length c11]] (evs1 rfl) rfl (ok_value_parts _ _ _ _ (Val.rpvMk (v := a0) (h3.mono hx15.wext) (h6.mono hx15.wext) (h9.mono hx15.wext) (h12.mono hx15.wext)) e19 1002 (by omega)) ?_
  intro v21 s20 hx22 hr23
  have hE24 := hE17.ext hE17.size hx22
  obtain ⟨A25, c26, rfl, ho27⟩ := hr23
  refine r_len A25 r18.length c26 rfl rfl Go.Proofs.Try.underlying22 ?_
  refine r_move (.int .i64 0) rfl rfl ?_
  refine wpList_nil ?_
  refine p_then ?_
  refine wp_block ?_
  refine gen_F fun F28 hg29 => ?_
  have hF30 : F28 2 = (.int .i64 0) := (hg29 2).trans rfl
  have hF31 : F28 3 = (.int .i64 1) := (hg29 3).trans rfl
  have hF32 : F28 7 = (.slice A25 r18.length c26) := (hg29 7).trans rfl
  have hF33 : F28 8 = (.int .i64 (r18.length : Int)) := (hg29 8).trans rfl
  have hF34 : F28 9 = (.int .i64 0) := (hg29 9).trans rfl
  obtain ⟨o83, ho84, hf⟩ := bind_some hf
  refine wp_mono (wp_iter (step := value_Nodes_l1 rec_value_Nodes r18) (fun q a w => ∃ (F : Fr) (τ : S), a = fr 19 F ∧ w = τ.w ∧ Agr [3, 5, 9, 10, 11, 12, 13, 14, 15, 16, 17] F F28 ∧ ExtB s0.N s0 τ ∧ Wext s20 τ ∧ F 3 = (.int .i64 q.1) ∧ F 9 = (.int .i64 q.2) ∧ Own s0.N 1002 27 τ r18 A25 c26) (fun q e a w => e = .exit 0 ∧ ∃ (F : Fr) (τ : S), a = fr 19 F ∧ w = τ.w ∧ Agr [3, 5, 9, 10, 11, 12, 13, 14, 15, 16, 17] F F28 ∧ ExtB s0.N s0 τ ∧ Wext s20 τ ∧ F 3 = (.int .i64 q.1) ∧ F 9 = (.int .i64 q.2) ∧ Own s0.N 1002 27 τ r18 A25 c26) (by rintro _ a w ⟨h, _⟩; cases h) ?_ _ _ _ _ _ ho84 ?_) ?_
  · intro q35 fl a w hf hI
    obtain ⟨F36, s37, rfl, rfl, hag38, hE39, hW40, h41, h42, h43⟩ := hI
    unfold value_Nodes_l1 at hf
    have hF44 : F36 2 = (.int .i64 0) := (hag38 2 rfl).trans hF30
    have hF45 : F36 7 = (.slice A25 r18.length c26) := (hag38 7 rfl).trans hF32
    have hF46 : F36 8 = (.int .i64 (r18.length : Int)) := (hag38 8 rfl).trans hF33
    refine wp_seq ?_
    refine wp_region_lit ?_
    refine r_bin (.int .i64 q35.2) (.int .i64 (r18.length : Int)) (.bool (decide (q35.2 < (r18.length : Int)))) h42 hF46 rfl rfl (b_lss) ?_
    refine wpList_nil ?_
    refine p_then ?_
    refine wp_seq ?_
    refine if_else hf (fun hc47 hf => ?_) (fun hc47 hf => ?_)
    · refine c_true rfl hc47 rfl ?_
      refine wp_skip ?_
      refine p_then ?_
      refine wp_seq ?_
      refine wp_block ?_
      refine wp_seq ?_
      refine wp_region_lit ?_
      obtain ⟨x48, e49, hf⟩ := bind_some hf
      refine r_indexAddr (T := 22) (E := 27) h43.sl e49 hF45 h42 rfl rfl Go.Proofs.Try.underlying22 sz27 ?_
      intro b50 o51 cs52 hc53 hs54
      obtain ⟨A55, c56, A58, c59, A61, c62, A64, c65, rfl, h57, h60, h63, h66⟩ := Val.cells_iff.1 hc53
      refine r_load b50 o51 (.agg #[.int .i64 x48.Kind, .int .i64 x48.Int_, .string x48.Text, .slice A55 x48.Kids.length c56, .slice A58 x48.Keys.length c59, .slice A61 x48.Entries.length c62, .slice A64 x48.Labels.length c65]) rfl rfl (loads_row tr27 hs54.2) ?_
      refine r_alloc (B := s0.N) 3 hE39.size _ [.int .i64 0, .int .i64 0, .string (⟨#[]⟩), .slice none ([] : List Val).length 0, .slice none ([] : List Key).length 0, .slice none ([] : List Ent).length 0, .slice none ([] : List ByteArray).length 0] ti27 rfl ?_
      intro s68 b67 hx69 hb70
      have hE71 := hE39.ext hE39.size hx69
      refine r_store hb70 0 (.agg #[.int .i64 x48.Kind, .int .i64 x48.Int_, .string x48.Text, .slice A55 x48.Kids.length c56, .slice A58 x48.Keys.length c59, .slice A61 x48.Entries.length c62, .slice A64 x48.Labels.length c65]) [.int .i64 x48.Kind, .int .i64 x48.Int_, .string x48.Text, .slice A55 x48.Kids.length c56, .slice A58 x48.Keys.length c59, .slice A61 x48.Entries.length c62, .slice A64 x48.Labels.length c65] [.int .i64 x48.Kind, .int .i64 x48.Int_, .string x48.Text, .slice A55 x48.Kids.length c56, .slice A58 x48.Keys.length c59, .slice A61 x48.Entries.length c62, .slice A64 x48.Labels.length c65] rfl rfl rfl rfl rfl sz27 rfl rfl rfl ?_
      intro s72 hm73 hb74
      have hE75 := hE71.mod hE71.size hm73
      refine wpList_nil ?_
      refine p_then ?_
      refine wp_region_lit ?_
      refine r_move (.int .i64 q35.1) h41 rfl ?_
      refine r_load b67 0 (.agg #[.int .i64 x48.Kind, .int .i64 x48.Int_, .string x48.Text, .slice A55 x48.Kids.length c56, .slice A58 x48.Keys.length c59, .slice A61 x48.Entries.length c62, .slice A64 x48.Labels.length c65]) rfl rfl (loads_row tr27 (Blk.range hb74 0 [.int .i64 x48.Kind, .int .i64 x48.Int_, .string x48.Text, .slice A55 x48.Kids.length c56, .slice A58 x48.Keys.length c59, .slice A61 x48.Entries.length c62, .slice A64 x48.Labels.length c65] rfl)) ?_
      obtain ⟨r76, e77, hf⟩ := bind_some hf
      refine r_call [.agg #[.int .i64 x48.Kind, .int .i64 x48.Int_, .string x48.Text, .slice A55 x48.Kids.length c56, .slice A58 x48.Keys.length c59, .slice A61 x48.Entries.length c62, .slice A64 x48.Labels.length c65]] (evs1 rfl) rfl (hrec_value_Nodes _ _ _ _ (Val.rpvMk (v := x48) ((h57.mono hx69.wext).mono hm73.wext) ((h60.mono hx69.wext).mono hm73.wext) ((h63.mono hx69.wext).mono hm73.wext) ((h66.mono hx69.wext).mono hm73.wext)) e77) ?_
      intro v79 s78 hx80 hr81
      have hE82 := hE75.ext hE75.size hx80
      obtain rfl := RpV.int hr81
      refine r_bin (.int .i64 q35.1) (.int .i64 r76) (.int .i64 (w64 (q35.1 + r76))) rfl rfl rfl rfl (b_add) ?_
      refine r_assign (.int .i64 (w64 (q35.1 + r76))) rfl rfl ?_
      refine wpList_nil ?_
      refine p_bn ?_
      refine p_then ?_
      refine wp_region_lit ?_
      refine r_bin (.int .i64 q35.2) (.int .i64 1) (.int .i64 (w64 (q35.2 + 1))) h42 rfl rfl rfl (b_add) ?_
      refine r_move (.int .i64 (w64 (q35.2 + 1))) rfl rfl ?_
      refine wpList_nil ?_
      obtain rfl := Option.some.inj hf
      exact ⟨rfl, _, _, rfl, rfl, (((((((((((((hag38).put rfl).put rfl).put rfl).put rfl).put0).put rfl).put rfl).put rfl).put rfl).put rfl).put rfl).put rfl), hE82, (((((Wext.refl _).trans hW40).trans hx69.wext).trans hm73.wext).trans hx80.wext), rfl, rfl, (((h43.ext hx69).mod hm73 rfl).ext hx80)⟩
    · refine c_false rfl hc47 rfl ?_
      refine wp_exit ?_
      refine p_thenx ?_
      obtain rfl := Option.some.inj hf
      exact ⟨rfl, _, _, rfl, rfl, ((hag38).put rfl), hE39, ((Wext.refl _).trans hW40), h41, h42, h43⟩
  · exact ⟨_, _, rfl, rfl, (Agr.refl _ _), hE24, (Wext.refl _), hF31, hF34, (ho27.base (by have := hE17.size; omega))⟩
  · rintro e a w ⟨rfl, F86, s87, rfl, rfl, hag88, hE89, hW90, h91, h92, h93⟩
    have hF94 : F86 2 = (.int .i64 0) := (hag88 2 rfl).trans hF30
    have hF95 : F86 7 = (.slice A25 r18.length c26) := (hag88 7 rfl).trans hF32
    have hF96 : F86 8 = (.int .i64 (r18.length : Int)) := (hag88 8 rfl).trans hF33
    refine p_bx ?_
    refine p_then ?_
    refine wp_seq ?_
    refine wp_region_lit ?_
    refine r_move (.int .i64 o83.1) h91 rfl ?_
    refine r_assign (.int .i64 o83.1) rfl rfl ?_
    refine wpList_nil ?_
    refine p_then ?_
    refine wp_ret ?_
    obtain rfl := Option.some.inj hf
    refine ret_one (.int .i64 o83.1) rfl ⟨rfl, rfl⟩ hE89 ?_
    exact (RpV.mkInt _ _)

theorem ok_value_Nodes : ∀ n : Nat, S_value_Nodes (value_Nodes n)
  | 0 => by intro _ _ _ _ _ h; cases h
  | n + 1 => okB_value_Nodes (ok_value_Nodes n)

def S_value_Height (f : (Val → Option Int)) : Prop := ∀ (s0 : S) (v0 : Value) (a0 : Val) (r : Int), RpV s0 a0 v0 → f a0 = some r → Ctr Go.Proofs.Try.prog 18 [v0] s0 (fun v τ => RpV τ r v)

end Go.Sx
