/- Printed by dec.py. The walks. -/
import Derived.Test.YtamfhohifmbjnaaWk2
namespace Go.Sx
open Go Go.RowKit
attribute [local irreducible] Go.wpList Go.Code.wp Go.Sx.Ctr

set_option maxHeartbeats 1600000 in
set_option maxRecDepth 100000 in
theorem ok_semtypelaw4_awake (fuel : Nat) : S_semtypelaw4_awake (semtypelaw4_awake fuel) := by
  intro s0 r hf
  unfold semtypelaw4_awake at hf
  have hE0 : ExtB s0.N s0 s0 := ExtB.refl _ _
  refine ctr_of 33 Go.Proofs.Try.func8 rfl rfl rfl rfl ?_
  refine wp_seq ?_
  refine wp_region_lit ?_
  refine r_assign (.bool false) rfl rfl ?_
  refine wpList_nil ?_
  refine p_then ?_
  refine wp_seq ?_
  refine wp_region_lit ?_
  obtain ⟨r1, e2, hf⟩ := bind_some hf
  refine r_call [.int .i64 1] (evs1 rfl) rfl (ok_value_Int _ _ _ _ (RpV.mkInt _ _) e2) ?_
  intro v4 s3 hx5 hr6
  have hE7 := hE0.ext hE0.size hx5
  obtain ⟨A8, c9, A11, c12, A14, c15, A17, c18, rfl, h10, h13, h16, h19⟩ := Val.rpv hr6
  obtain ⟨r20, e21, hf⟩ := bind_some hf
  refine r_call [.int .i64 2] (evs1 rfl) rfl (ok_value_Int _ _ _ _ (RpV.mkInt _ _) e21) ?_
  intro v23 s22 hx24 hr25
  have hE26 := hE7.ext hE7.size hx24
  obtain ⟨A27, c28, A30, c31, A33, c34, A36, c37, rfl, h29, h32, h35, h38⟩ := Val.rpv hr25
  refine r_buildSlice (B := s0.N) (E := 27) 1 hE26.size ts22 (xs := [r1, r20]) [.agg #[.int .i64 r1.Kind, .int .i64 r1.Int_, .string r1.Text, .slice A8 r1.Kids.length c9, .slice A11 r1.Keys.length c12, .slice A14 r1.Entries.length c15, .slice A17 r1.Labels.length c18], .agg #[.int .i64 r20.Kind, .int .i64 r20.Int_, .string r20.Text, .slice A27 r20.Kids.length c28, .slice A30 r20.Keys.length c31, .slice A33 r20.Entries.length c34, .slice A36 r20.Labels.length c37]] (eps_cons rfl (eps_cons rfl eps_nil)) rfl rfl rfl (by decide) rfl (by simp [Value.cells, Rp.sz]) ⟨_, _, rfl, (Val.cells_iff.2 ⟨_, _, _, _, _, _, _, _, rfl, (h10.mono hx24.wext), (h13.mono hx24.wext), (h16.mono hx24.wext), (h19.mono hx24.wext)⟩), ⟨_, _, rfl, (Val.cells_iff.2 ⟨_, _, _, _, _, _, _, _, rfl, h29, h32, h35, h38⟩), rfl⟩⟩ ?_
  intro s39 A40 c41 hx42 ho43
  have hE44 := hE26.ext hE26.size hx42
  obtain ⟨r45, e46, hf⟩ := bind_some hf
  refine r_call [.slice A40 [r1, r20].length c41] (evs1 rfl) rfl ((ok_value_List fuel) _ _ _ _ (RpV.mkList ho43.sl) e46) ?_
  intro v48 s47 hx49 hr50
  have hE51 := hE44.ext hE44.size hx49
  obtain ⟨A52, c53, A55, c56, A58, c59, A61, c62, rfl, h54, h57, h60, h63⟩ := Val.rpv hr50
  refine r_alloc (B := s0.N) 2 hE51.size _ [.int .i64 0, .int .i64 0, .string (⟨#[]⟩), .slice none ([] : List Val).length 0, .slice none ([] : List Key).length 0, .slice none ([] : List Ent).length 0, .slice none ([] : List ByteArray).length 0] ti27 rfl ?_
  intro s65 b64 hx66 hb67
  have hE68 := hE51.ext hE51.size hx66
  refine r_store hb67 0 (.agg #[.int .i64 r45.Kind, .int .i64 r45.Int_, .string r45.Text, .slice A52 r45.Kids.length c53, .slice A55 r45.Keys.length c56, .slice A58 r45.Entries.length c59, .slice A61 r45.Labels.length c62]) [.int .i64 r45.Kind, .int .i64 r45.Int_, .string r45.Text, .slice A52 r45.Kids.length c53, .slice A55 r45.Keys.length c56, .slice A58 r45.Entries.length c59, .slice A61 r45.Labels.length c62] [.int .i64 r45.Kind, .int .i64 r45.Int_, .string r45.Text, .slice A52 r45.Kids.length c53, .slice A55 r45.Keys.length c56, .slice A58 r45.Entries.length c59, .slice A61 r45.Labels.length c62] rfl rfl rfl rfl rfl sz27 rfl rfl rfl ?_
  intro s69 hm70 hb71
  have hE72 := hE68.mod hE68.size hm70
  refine wpList_nil ?_
  refine p_then ?_
  refine wp_seq ?_
  obtain ⟨r73, e74, hf⟩ := bind_some hf
  refine if_else hf (fun hc75 hf => ?_) (fun hc75 hf => ?_)
  · obtain ⟨r76, e77, hf⟩ := bind_some hf
    refine if_else hf (fun hc78 hf => ?_) (fun hc78 hf => ?_)
    · obtain ⟨r79, e80, hf⟩ := bind_some hf
      refine if_else hf (fun hc81 hf => ?_) (fun hc81 hf => ?_)
      · obtain ⟨r82, e83, hf⟩ := bind_some hf
        refine if_else hf (fun hc84 hf => ?_) (fun hc84 hf => ?_)
        · obtain ⟨r85, e86, hf⟩ := bind_some hf
          obtain ⟨r87, e88, hf⟩ := bind_some hf
          obtain ⟨r89, e90, hf⟩ := bind_some hf
          obtain ⟨r91, e92, hf⟩ := bind_some hf
          obtain ⟨r93, e94, hf⟩ := bind_some hf
          obtain ⟨r95, e96, hf⟩ := bind_some hf
          refine wp_draw (B := s0.N) [some 6, some 7, some 8, some 9, some 10, some 11, some 12, some 13, some 14, some 15, some 16, some 17, some 18, some 19, some 20, some 21, some 22, some 23, some 24, some 25, some 26, some 27, some 28, some 29, some 30, some 31, some 32, some 0] [[], [0], [0, 1], [0, 1, 2], [0, 1, 2, 3], [0, 1, 2, 3, 4], [0, 1, 2, 3, 4, 5], [0, 1, 2, 3, 4, 5, 6], [0, 1, 2, 3, 4, 5, 6, 7], [0, 1, 2, 3, 4, 5, 6, 7, 8], [0, 1, 2, 3, 4, 5, 6, 7, 8, 9], [0, 1, 2, 3, 4, 5, 6, 7, 8, 9, 10], [0, 1, 2, 3, 4, 5, 6, 7, 8, 9, 10, 11], [0, 1, 2, 3, 4, 5, 6, 7, 8, 9, 10, 11, 12], [0, 1, 2, 3, 4, 5, 6, 7, 8, 9, 10, 11, 12, 13], [0, 1, 2, 3, 4, 5, 6, 7, 8, 9, 10, 11, 12, 13, 14], [0, 1, 2, 3, 4, 5, 6, 7, 8, 9, 10, 11, 12, 13, 14, 15], [0, 1, 2, 3, 4, 5, 6, 7, 8, 9, 10, 11, 12, 13, 14, 15, 16], [0, 1, 2, 3, 4, 5, 6, 7, 8, 9, 10, 11, 12, 13, 14, 15, 16, 17], [0, 1, 2, 3, 4, 5, 6, 7, 8, 9, 10, 11, 12, 13, 14, 15, 16, 17, 18], [0, 1, 2, 3, 4, 5, 6, 7, 8, 9, 10, 11, 12, 13, 14, 15, 16, 17, 18], [0, 1, 2, 3, 4, 5, 6, 7, 8, 9, 10, 11, 12, 13, 14, 15, 16, 17, 18, 20], [0, 1, 2, 3, 4, 5, 6, 7, 8, 9, 10, 11, 12, 13, 14, 15, 16, 17, 18, 20, 21], [0, 1, 2, 3, 4, 5, 6, 7, 8, 9, 10, 11, 12, 13, 14, 15, 16, 17, 18, 20, 21, 22], [0, 1, 2, 3, 4, 5, 6, 7, 8, 9, 10, 11, 12, 13, 14, 15, 16, 17, 18, 20, 21, 22, 23], [0, 1, 2, 3, 4, 5, 6, 7, 8, 9, 10, 11, 12, 13, 14, 15, 16, 17, 18, 19, 20, 21, 22, 23, 24], [0, 1, 2, 3, 4, 5, 6, 7, 8, 9, 10, 11, 12, 13, 14, 15, 16, 17, 18, 19, 20, 21, 22, 23, 24, 25], [0, 1, 2, 3, 4, 5, 6, 7, 8, 9, 10, 11, 12, 13, 14, 15, 16, 17, 18, 19, 20, 21, 22, 23, 24, 25, 26]] [Fct.data (r45 : Val), Fct.eqv (.int .i64 r73), Fct.eqv (.bool (r73 == 5)), Fct.eqv (.bool (r73 == 5)), Fct.data (r45 : Val), Fct.eqv (.int .i64 r76), Fct.eqv (.bool (r76 == 3)), Fct.eqv (.bool (r76 == 3)), Fct.eqv (.bool (r76 == 3)), Fct.data (r45 : Val), Fct.eqv (.int .i64 r79), Fct.eqv (.bool (r79 == 0)), Fct.eqv (.bool (r79 == 0)), Fct.eqv (.bool (r79 == 0)), Fct.data ((Val.mk 0 0 (⟨#[]⟩) ([] : List Val) ([] : List Key) ([] : List Ent) ([] : List ByteArray)) : Val), Fct.eqv (.int .i64 r82), Fct.eqv (.bool (r82 == 1)), Fct.eqv (.bool (r82 == 1)), Fct.eqv (.bool (r82 == 1)), Fct.data (r45 : Val), Fct.data (r85 : Val), Fct.data (r87 : Val), Fct.data (r89 : Val), Fct.data (r91 : Val), Fct.data (r93 : Val), Fct.eqv (.bool r95), Fct.eqv (.bool r95), Fct.eqv (.bool r95)] (fun D F τ => (Blk s0.N 2 τ b64 27 [.int .i64 r45.Kind, .int .i64 r45.Int_, .string r45.Text, .slice A52 r45.Kids.length c53, .slice A55 r45.Keys.length c56, .slice A58 r45.Entries.length c59, .slice A61 r45.Labels.length c62]) ∧ (Own s0.N 1 27 τ [r1, r20] A40 c41)) (by kernel_rfl) rfl (by decide) (by decide) ⟨(hb71.ext (ext_draw _)), ((((ho43.ext hx49).ext hx66).mod hm70 rfl).ext (ext_draw _))⟩ (by decide) (by decide) ⟨?_, ?_, ?_, ?_, ?_, ?_, ?_, ?_, ?_, ?_, ?_, ?_, ?_, ?_, ?_, ?_, ?_, ?_, ?_, ?_, ?_, ?_, ?_, ?_, ?_, ?_, ?_, ?_, trivial⟩ ?_
          · intro D100 F101 s102 d103 d104 d105 hE106 hW107 hG108 hfr109 hR110
            have hE111 := hE72.trans hE106
            obtain ⟨g112, g113⟩ := hG108
            have hb114 := g112
            refine r_load b64 0 (.agg #[.int .i64 r45.Kind, .int .i64 r45.Int_, .string r45.Text, .slice A52 r45.Kids.length c53, .slice A55 r45.Keys.length c56, .slice A58 r45.Entries.length c59, .slice A61 r45.Labels.length c62]) ((hfr109 1 rfl).trans rfl) rfl (loads_row tr27 (Blk.range hb114 0 [.int .i64 r45.Kind, .int .i64 r45.Int_, .string r45.Text, .slice A52 r45.Kids.length c53, .slice A55 r45.Keys.length c56, .slice A58 r45.Entries.length c59, .slice A61 r45.Labels.length c62] rfl)) ?_
            refine wpList_nil ?_
            exact ⟨_, _, rfl, rfl, ExtB.refl _ _, Wext.refl _, (Val.rpvMk (v := r45) (((h54.mono hx66.wext).mono hm70.wext).mono hW107) (((h57.mono hx66.wext).mono hm70.wext).mono hW107) (((h60.mono hx66.wext).mono hm70.wext).mono hW107) (((h63.mono hx66.wext).mono hm70.wext).mono hW107)), ⟨g112, g113⟩⟩
          · intro D115 F116 s117 d118 d119 d120 hE121 hW122 hG123 hfr124 hR125
            have hE126 := hE72.trans hE121
            obtain ⟨g127, g128⟩ := hG123
            have q129 : RpV s117 (r45 : Val) (F116 6) := hR125 0 rfl 6 rfl
            obtain ⟨A130, c131, A133, c134, A136, c137, A139, c140, hv142, h132, h135, h138, h141⟩ := Val.rpv q129
            refine r_call [.agg #[.int .i64 r45.Kind, .int .i64 r45.Int_, .string r45.Text, .slice A130 r45.Kids.length c131, .slice A133 r45.Keys.length c134, .slice A136 r45.Entries.length c137, .slice A139 r45.Labels.length c140]] (evs1 hv142) rfl ((ok_value_Nodes fuel) _ _ _ _ (Val.rpvMk (v := r45) h132 h135 h138 h141) e74) ?_
            intro v144 s143 hx145 hr146
            have hE147 := hE126.ext hE126.size hx145
            obtain rfl := RpV.int hr146
            refine wpList_nil ?_
            exact ⟨_, _, rfl, rfl, (ExtB.refl _ _).trans (hx145.mono hE126.size), (Wext.refl _).trans hx145.wext, rfl, ⟨(g127.ext hx145), (g128.ext hx145)⟩⟩
          · intro D148 F149 s150 d151 d152 d153 hE154 hW155 hG156 hfr157 hR158
            have hE159 := hE72.trans hE154
            obtain ⟨g160, g161⟩ := hG156
            have q162 : F149 7 = (.int .i64 r73) := hR158 1 rfl 7 rfl
            refine r_bin (.int .i64 r73) (.int .i64 5) (.bool (r73 == 5)) q162 rfl rfl rfl (b_eql) ?_
            refine wpList_nil ?_
            exact ⟨_, _, rfl, rfl, ExtB.refl _ _, Wext.refl _, rfl, ⟨g160, g161⟩⟩
          · intro D163 F164 s165 d166 d167 d168 hE169 hW170 hG171 hfr172 hR173
            have hE174 := hE72.trans hE169
            obtain ⟨g175, g176⟩ := hG171
            have q177 : F164 8 = (.bool (r73 == 5)) := hR173 2 rfl 8 rfl
            refine r_move (.bool (r73 == 5)) q177 rfl ?_
            refine wpList_nil ?_
            exact ⟨_, _, rfl, rfl, ExtB.refl _ _, Wext.refl _, rfl, ⟨g175, g176⟩⟩
          · intro D178 F179 s180 d181 d182 d183 hE184 hW185 hG186 hfr187 hR188
            have hE189 := hE72.trans hE184
            obtain ⟨g190, g191⟩ := hG186
            have hb192 := g190
            have q193 : F179 9 = (.bool (r73 == 5)) := hR188 3 rfl 9 rfl
            refine Or.inr ⟨(r73 == 5), (fun d hd => by cases hd; exact q193), fun _ => ?_, fun h => absurd (hc75 : (r73 == 5) = true) h⟩
            refine r_load b64 0 (.agg #[.int .i64 r45.Kind, .int .i64 r45.Int_, .string r45.Text, .slice A52 r45.Kids.length c53, .slice A55 r45.Keys.length c56, .slice A58 r45.Entries.length c59, .slice A61 r45.Labels.length c62]) ((hfr187 1 rfl).trans rfl) rfl (loads_row tr27 (Blk.range hb192 0 [.int .i64 r45.Kind, .int .i64 r45.Int_, .string r45.Text, .slice A52 r45.Kids.length c53, .slice A55 r45.Keys.length c56, .slice A58 r45.Entries.length c59, .slice A61 r45.Labels.length c62] rfl)) ?_
            refine wpList_nil ?_
            exact ⟨_, _, rfl, rfl, ExtB.refl _ _, Wext.refl _, (Val.rpvMk (v := r45) (((h54.mono hx66.wext).mono hm70.wext).mono hW185) (((h57.mono hx66.wext).mono hm70.wext).mono hW185) (((h60.mono hx66.wext).mono hm70.wext).mono hW185) (((h63.mono hx66.wext).mono hm70.wext).mono hW185)), ⟨g190, g191⟩⟩
          · intro D194 F195 s196 d197 d198 d199 hE200 hW201 hG202 hfr203 hR204
            have hE205 := hE72.trans hE200
            obtain ⟨g206, g207⟩ := hG202
            have q208 : F195 9 = (.bool (r73 == 5)) := hR204 3 rfl 9 rfl
            have q209 : RpV s196 (r45 : Val) (F195 10) := hR204 4 rfl 10 rfl
            obtain ⟨A210, c211, A213, c214, A216, c217, A219, c220, hv222, h212, h215, h218, h221⟩ := Val.rpv q209
            refine Or.inr ⟨(r73 == 5), (fun d hd => by cases hd; exact q208), fun _ => ?_, fun h => absurd (hc75 : (r73 == 5) = true) h⟩
            refine r_call [.agg #[.int .i64 r45.Kind, .int .i64 r45.Int_, .string r45.Text, .slice A210 r45.Kids.length c211, .slice A213 r45.Keys.length c214, .slice A216 r45.Entries.length c217, .slice A219 r45.Labels.length c220]] (evs1 hv222) rfl ((ok_value_Height fuel) _ _ _ _ (Val.rpvMk (v := r45) h212 h215 h218 h221) e77) ?_
            intro v224 s223 hx225 hr226
            have hE227 := hE205.ext hE205.size hx225
            obtain rfl := RpV.int hr226
            refine wpList_nil ?_
            exact ⟨_, _, rfl, rfl, (ExtB.refl _ _).trans (hx225.mono hE205.size), (Wext.refl _).trans hx225.wext, rfl, ⟨(g206.ext hx225), (g207.ext hx225)⟩⟩
          · intro D228 F229 s230 d231 d232 d233 hE234 hW235 hG236 hfr237 hR238
            have hE239 := hE72.trans hE234
            obtain ⟨g240, g241⟩ := hG236
            have q242 : F229 9 = (.bool (r73 == 5)) := hR238 3 rfl 9 rfl
            have q243 : F229 11 = (.int .i64 r76) := hR238 5 rfl 11 rfl
            refine Or.inr ⟨(r73 == 5), (fun d hd => by cases hd; exact q242), fun _ => ?_, fun h => absurd (hc75 : (r73 == 5) = true) h⟩
            refine r_bin (.int .i64 r76) (.int .i64 3) (.bool (r76 == 3)) q243 rfl rfl rfl (b_eql) ?_
            refine wpList_nil ?_
            exact ⟨_, _, rfl, rfl, ExtB.refl _ _, Wext.refl _, rfl, ⟨g240, g241⟩⟩
          · intro D244 F245 s246 d247 d248 d249 hE250 hW251 hG252 hfr253 hR254
            have hE255 := hE72.trans hE250
            obtain ⟨g256, g257⟩ := hG252
            have q258 : F245 9 = (.bool (r73 == 5)) := hR254 3 rfl 9 rfl
            have q259 : F245 12 = (.bool (r76 == 3)) := hR254 6 rfl 12 rfl
            refine r_pick_t (c := (r73 == 5)) (.bool (r76 == 3)) q258 hc75 q259 rfl rfl rfl ?_
            refine wpList_nil ?_
            exact ⟨_, _, rfl, rfl, ExtB.refl _ _, Wext.refl _, rfl, ⟨g256, g257⟩⟩
          · intro D260 F261 s262 d263 d264 d265 hE266 hW267 hG268 hfr269 hR270
            have hE271 := hE72.trans hE266
            obtain ⟨g272, g273⟩ := hG268
            have q274 : F261 13 = (.bool (r76 == 3)) := hR270 7 rfl 13 rfl
            refine r_move (.bool (r76 == 3)) q274 rfl ?_
            refine wpList_nil ?_
            exact ⟨_, _, rfl, rfl, ExtB.refl _ _, Wext.refl _, rfl, ⟨g272, g273⟩⟩
          · intro D275 F276 s277 d278 d279 d280 hE281 hW282 hG283 hfr284 hR285
            have hE286 := hE72.trans hE281
            obtain ⟨g287, g288⟩ := hG283
            have hb289 := g287
            have q290 : F276 14 = (.bool (r76 == 3)) := hR285 8 rfl 14 rfl
            refine Or.inr ⟨(r76 == 3), (fun d hd => by cases hd; exact q290), fun _ => ?_, fun h => absurd (hc78 : (r76 == 3) = true) h⟩
            refine r_load b64 0 (.agg #[.int .i64 r45.Kind, .int .i64 r45.Int_, .string r45.Text, .slice A52 r45.Kids.length c53, .slice A55 r45.Keys.length c56, .slice A58 r45.Entries.length c59, .slice A61 r45.Labels.length c62]) ((hfr284 1 rfl).trans rfl) rfl (loads_row tr27 (Blk.range hb289 0 [.int .i64 r45.Kind, .int .i64 r45.Int_, .string r45.Text, .slice A52 r45.Kids.length c53, .slice A55 r45.Keys.length c56, .slice A58 r45.Entries.length c59, .slice A61 r45.Labels.length c62] rfl)) ?_
            refine wpList_nil ?_
            exact ⟨_, _, rfl, rfl, ExtB.refl _ _, Wext.refl _, (Val.rpvMk (v := r45) (((h54.mono hx66.wext).mono hm70.wext).mono hW282) (((h57.mono hx66.wext).mono hm70.wext).mono hW282) (((h60.mono hx66.wext).mono hm70.wext).mono hW282) (((h63.mono hx66.wext).mono hm70.wext).mono hW282)), ⟨g287, g288⟩⟩
          · intro D291 F292 s293 d294 d295 d296 hE297 hW298 hG299 hfr300 hR301
            have hE302 := hE72.trans hE297
            obtain ⟨g303, g304⟩ := hG299
            have q305 : F292 14 = (.bool (r76 == 3)) := hR301 8 rfl 14 rfl
            have q306 : RpV s293 (r45 : Val) (F292 15) := hR301 9 rfl 15 rfl
            obtain ⟨A307, c308, A310, c311, A313, c314, A316, c317, hv319, h309, h312, h315, h318⟩ := Val.rpv q306
            refine Or.inr ⟨(r76 == 3), (fun d hd => by cases hd; exact q305), fun _ => ?_, fun h => absurd (hc78 : (r76 == 3) = true) h⟩
            refine r_call [.agg #[.int .i64 r45.Kind, .int .i64 r45.Int_, .string r45.Text, .slice A307 r45.Kids.length c308, .slice A310 r45.Keys.length c311, .slice A313 r45.Entries.length c314, .slice A316 r45.Labels.length c317]] (evs1 hv319) rfl ((ok_value_Validate fuel) _ _ _ _ (Val.rpvMk (v := r45) h309 h312 h315 h318) e80) ?_
            intro v321 s320 hx322 hr323
            have hE324 := hE302.ext hE302.size hx322
            obtain rfl := RpV.int hr323
            refine wpList_nil ?_
            exact ⟨_, _, rfl, rfl, (ExtB.refl _ _).trans (hx322.mono hE302.size), (Wext.refl _).trans hx322.wext, rfl, ⟨(g303.ext hx322), (g304.ext hx322)⟩⟩
          · intro D325 F326 s327 d328 d329 d330 hE331 hW332 hG333 hfr334 hR335
            have hE336 := hE72.trans hE331
            obtain ⟨g337, g338⟩ := hG333
            have q339 : F326 14 = (.bool (r76 == 3)) := hR335 8 rfl 14 rfl
            have q340 : F326 16 = (.int .i64 r79) := hR335 10 rfl 16 rfl
            refine Or.inr ⟨(r76 == 3), (fun d hd => by cases hd; exact q339), fun _ => ?_, fun h => absurd (hc78 : (r76 == 3) = true) h⟩
            refine r_bin (.int .i64 r79) (.int .i64 0) (.bool (r79 == 0)) q340 rfl rfl rfl (b_eql) ?_
            refine wpList_nil ?_
            exact ⟨_, _, rfl, rfl, ExtB.refl _ _, Wext.refl _, rfl, ⟨g337, g338⟩⟩
          · intro D341 F342 s343 d344 d345 d346 hE347 hW348 hG349 hfr350 hR351
            have hE352 := hE72.trans hE347
            obtain ⟨g353, g354⟩ := hG349
            have q355 : F342 14 = (.bool (r76 == 3)) := hR351 8 rfl 14 rfl
            have q356 : F342 17 = (.bool (r79 == 0)) := hR351 11 rfl 17 rfl
            refine r_pick_t (c := (r76 == 3)) (.bool (r79 == 0)) q355 hc78 q356 rfl rfl rfl ?_
            refine wpList_nil ?_
            exact ⟨_, _, rfl, rfl, ExtB.refl _ _, Wext.refl _, rfl, ⟨g353, g354⟩⟩
          · intro D357 F358 s359 d360 d361 d362 hE363 hW364 hG365 hfr366 hR367
            have hE368 := hE72.trans hE363
            obtain ⟨g369, g370⟩ := hG365
            have q371 : F358 18 = (.bool (r79 == 0)) := hR367 12 rfl 18 rfl
            refine r_move (.bool (r79 == 0)) q371 rfl ?_
            refine wpList_nil ?_
            exact ⟨_, _, rfl, rfl, ExtB.refl _ _, Wext.refl _, rfl, ⟨g369, g370⟩⟩
          · intro D372 F373 s374 d375 d376 d377 hE378 hW379 hG380 hfr381 hR382
            have hE383 := hE72.trans hE378
            obtain ⟨g384, g385⟩ := hG380
            have q386 : F373 19 = (.bool (r79 == 0)) := hR382 13 rfl 19 rfl
            refine Or.inr ⟨(r79 == 0), (fun d hd => by cases hd; exact q386), fun _ => ?_, fun h => absurd (hc81 : (r79 == 0) = true) h⟩
            refine r_build tst27 [] [.int .i64 0, .int .i64 0, .string (⟨#[]⟩), .slice none ([] : List Val).length 0, .slice none ([] : List Key).length 0, .slice none ([] : List Ent).length 0, .slice none ([] : List ByteArray).length 0] eps_nil rfl rfl ?_
            refine wpList_nil ?_
            exact ⟨_, _, rfl, rfl, ExtB.refl _ _, Wext.refl _, (Val.rpvMk (v := (Val.mk 0 0 (⟨#[]⟩) ([] : List Val) ([] : List Key) ([] : List Ent) ([] : List ByteArray))) (Sl.nil_ _ _ _ (Nat.zero_le _)) (Sl.nil_ _ _ _ (Nat.zero_le _)) (Sl.nil_ _ _ _ (Nat.zero_le _)) (Sl.nil_ _ _ _ (Nat.zero_le _))), ⟨g384, g385⟩⟩
          · intro D387 F388 s389 d390 d391 d392 hE393 hW394 hG395 hfr396 hR397
            have hE398 := hE72.trans hE393
            obtain ⟨g399, g400⟩ := hG395
            have q401 : F388 19 = (.bool (r79 == 0)) := hR397 13 rfl 19 rfl
            have q402 : RpV s389 ((Val.mk 0 0 (⟨#[]⟩) ([] : List Val) ([] : List Key) ([] : List Ent) ([] : List ByteArray)) : Val) (F388 20) := hR397 14 rfl 20 rfl
            obtain ⟨A403, c404, A406, c407, A409, c410, A412, c413, hv415, h405, h408, h411, h414⟩ := Val.rpv q402
            refine Or.inr ⟨(r79 == 0), (fun d hd => by cases hd; exact q401), fun _ => ?_, fun h => absurd (hc81 : (r79 == 0) = true) h⟩
            refine r_call [.agg #[.int .i64 0, .int .i64 0, .string (⟨#[]⟩), .slice A403 ((Val.mk 0 0 (⟨#[]⟩) ([] : List Val) ([] : List Key) ([] : List Ent) ([] : List ByteArray)).Kids).length c404, .slice A406 ((Val.mk 0 0 (⟨#[]⟩) ([] : List Val) ([] : List Key) ([] : List Ent) ([] : List ByteArray)).Keys).length c407, .slice A409 ((Val.mk 0 0 (⟨#[]⟩) ([] : List Val) ([] : List Key) ([] : List Ent) ([] : List ByteArray)).Entries).length c410, .slice A412 ((Val.mk 0 0 (⟨#[]⟩) ([] : List Val) ([] : List Key) ([] : List Ent) ([] : List ByteArray)).Labels).length c413]] (evs1 hv415) rfl ((ok_value_Validate fuel) _ _ _ _ (Val.rpvMk (v := (Val.mk 0 0 (⟨#[]⟩) ([] : List Val) ([] : List Key) ([] : List Ent) ([] : List ByteArray))) h405 h408 h411 h414) e83) ?_
            intro v417 s416 hx418 hr419
            have hE420 := hE398.ext hE398.size hx418
            obtain rfl := RpV.int hr419
            refine wpList_nil ?_
            exact ⟨_, _, rfl, rfl, (ExtB.refl _ _).trans (hx418.mono hE398.size), (Wext.refl _).trans hx418.wext, rfl, ⟨(g399.ext hx418), (g400.ext hx418)⟩⟩
          · intro D421 F422 s423 d424 d425 d426 hE427 hW428 hG429 hfr430 hR431
            have hE432 := hE72.trans hE427
            obtain ⟨g433, g434⟩ := hG429
            have q435 : F422 19 = (.bool (r79 == 0)) := hR431 13 rfl 19 rfl
            have q436 : F422 21 = (.int .i64 r82) := hR431 15 rfl 21 rfl
            refine Or.inr ⟨(r79 == 0), (fun d hd => by cases hd; exact q435), fun _ => ?_, fun h => absurd (hc81 : (r79 == 0) = true) h⟩
            refine r_bin (.int .i64 r82) (.int .i64 1) (.bool (r82 == 1)) q436 rfl rfl rfl (b_eql) ?_
            refine wpList_nil ?_
            exact ⟨_, _, rfl, rfl, ExtB.refl _ _, Wext.refl _, rfl, ⟨g433, g434⟩⟩
          · intro D437 F438 s439 d440 d441 d442 hE443 hW444 hG445 hfr446 hR447
            have hE448 := hE72.trans hE443
            obtain ⟨g449, g450⟩ := hG445
            have q451 : F438 19 = (.bool (r79 == 0)) := hR447 13 rfl 19 rfl
            have q452 : F438 22 = (.bool (r82 == 1)) := hR447 16 rfl 22 rfl
            refine r_pick_t (c := (r79 == 0)) (.bool (r82 == 1)) q451 hc81 q452 rfl rfl rfl ?_
            refine wpList_nil ?_
            exact ⟨_, _, rfl, rfl, ExtB.refl _ _, Wext.refl _, rfl, ⟨g449, g450⟩⟩
          · intro D453 F454 s455 d456 d457 d458 hE459 hW460 hG461 hfr462 hR463
            have hE464 := hE72.trans hE459
            obtain ⟨g465, g466⟩ := hG461
            have q467 : F454 23 = (.bool (r82 == 1)) := hR463 17 rfl 23 rfl
            refine r_move (.bool (r82 == 1)) q467 rfl ?_
            refine wpList_nil ?_
            exact ⟨_, _, rfl, rfl, ExtB.refl _ _, Wext.refl _, rfl, ⟨g465, g466⟩⟩
          · intro D468 F469 s470 d471 d472 d473 hE474 hW475 hG476 hfr477 hR478
            have hE479 := hE72.trans hE474
            obtain ⟨g480, g481⟩ := hG476
            have hb482 := g480
            have q483 : F469 24 = (.bool (r82 == 1)) := hR478 18 rfl 24 rfl
            refine Or.inr ⟨(r82 == 1), (fun d hd => by cases hd; exact q483), fun _ => ?_, fun h => absurd (hc84 : (r82 == 1) = true) h⟩
            refine r_load b64 0 (.agg #[.int .i64 r45.Kind, .int .i64 r45.Int_, .string r45.Text, .slice A52 r45.Kids.length c53, .slice A55 r45.Keys.length c56, .slice A58 r45.Entries.length c59, .slice A61 r45.Labels.length c62]) ((hfr477 1 rfl).trans rfl) rfl (loads_row tr27 (Blk.range hb482 0 [.int .i64 r45.Kind, .int .i64 r45.Int_, .string r45.Text, .slice A52 r45.Kids.length c53, .slice A55 r45.Keys.length c56, .slice A58 r45.Entries.length c59, .slice A61 r45.Labels.length c62] rfl)) ?_
            refine wpList_nil ?_
            exact ⟨_, _, rfl, rfl, ExtB.refl _ _, Wext.refl _, (Val.rpvMk (v := r45) (((h54.mono hx66.wext).mono hm70.wext).mono hW475) (((h57.mono hx66.wext).mono hm70.wext).mono hW475) (((h60.mono hx66.wext).mono hm70.wext).mono hW475) (((h63.mono hx66.wext).mono hm70.wext).mono hW475)), ⟨g480, g481⟩⟩
          · intro D484 F485 s486 d487 d488 d489 hE490 hW491 hG492 hfr493 hR494
            have hE495 := hE72.trans hE490
            obtain ⟨g496, g497⟩ := hG492
            have q498 : F485 24 = (.bool (r82 == 1)) := hR494 18 rfl 24 rfl
            refine Or.inr ⟨(r82 == 1), (fun d hd => by cases hd; exact q498), fun _ => ?_, fun h => absurd (hc84 : (r82 == 1) = true) h⟩
            refine r_call [.int .i64 1] (evs1 rfl) rfl (ok_value_Int _ _ _ _ (RpV.mkInt _ _) e86) ?_
            intro v500 s499 hx501 hr502
            have hE503 := hE495.ext hE495.size hx501
            obtain ⟨A504, c505, A507, c508, A510, c511, A513, c514, rfl, h506, h509, h512, h515⟩ := Val.rpv hr502
            refine wpList_nil ?_
            exact ⟨_, _, rfl, rfl, (ExtB.refl _ _).trans (hx501.mono hE495.size), (Wext.refl _).trans hx501.wext, (Val.rpvMk (v := r85) h506 h509 h512 h515), ⟨(g496.ext hx501), (g497.ext hx501)⟩⟩
          · intro D516 F517 s518 d519 d520 d521 hE522 hW523 hG524 hfr525 hR526
            have hE527 := hE72.trans hE522
            obtain ⟨g528, g529⟩ := hG524
            have q530 : F517 24 = (.bool (r82 == 1)) := hR526 18 rfl 24 rfl
            refine Or.inr ⟨(r82 == 1), (fun d hd => by cases hd; exact q530), fun _ => ?_, fun h => absurd (hc84 : (r82 == 1) = true) h⟩
            refine r_call [.int .i64 2] (evs1 rfl) rfl (ok_value_Int _ _ _ _ (RpV.mkInt _ _) e88) ?_
            intro v532 s531 hx533 hr534
            have hE535 := hE527.ext hE527.size hx533
            obtain ⟨A536, c537, A539, c540, A542, c543, A545, c546, rfl, h538, h541, h544, h547⟩ := Val.rpv hr534
            refine wpList_nil ?_
            exact ⟨_, _, rfl, rfl, (ExtB.refl _ _).trans (hx533.mono hE527.size), (Wext.refl _).trans hx533.wext, (Val.rpvMk (v := r87) h538 h541 h544 h547), ⟨(g528.ext hx533), (g529.ext hx533)⟩⟩
          · intro D548 F549 s550 d551 d552 d553 hE554 hW555 hG556 hfr557 hR558
            have hE559 := hE72.trans hE554
            obtain ⟨g560, g561⟩ := hG556
            have q562 : F549 24 = (.bool (r82 == 1)) := hR558 18 rfl 24 rfl
            refine Or.inr ⟨(r82 == 1), (fun d hd => by cases hd; exact q562), fun _ => ?_, fun h => absurd (hc84 : (r82 == 1) = true) h⟩
            refine r_call [] evs0 rfl (ok_value_Nil _ _  e90) ?_
            intro v564 s563 hx565 hr566
            have hE567 := hE559.ext hE559.size hx565
            obtain ⟨A568, c569, A571, c572, A574, c575, A577, c578, rfl, h570, h573, h576, h579⟩ := Val.rpv hr566
            refine wpList_nil ?_
            exact ⟨_, _, rfl, rfl, (ExtB.refl _ _).trans (hx565.mono hE559.size), (Wext.refl _).trans hx565.wext, (Val.rpvMk (v := r89) h570 h573 h576 h579), ⟨(g560.ext hx565), (g561.ext hx565)⟩⟩
          · intro D580 F581 s582 d583 d584 d585 hE586 hW587 hG588 hfr589 hR590
            have hE591 := hE72.trans hE586
            obtain ⟨g592, g593⟩ := hG588
            have q594 : F581 24 = (.bool (r82 == 1)) := hR590 18 rfl 24 rfl
            have q595 : RpV s582 (r87 : Val) (F581 27) := hR590 21 rfl 27 rfl
            obtain ⟨A596, c597, A599, c600, A602, c603, A605, c606, hv608, h598, h601, h604, h607⟩ := Val.rpv q595
            have q609 : RpV s582 (r89 : Val) (F581 28) := hR590 22 rfl 28 rfl
            obtain ⟨A610, c611, A613, c614, A616, c617, A619, c620, hv622, h612, h615, h618, h621⟩ := Val.rpv q609
            refine Or.inr ⟨(r82 == 1), (fun d hd => by cases hd; exact q594), fun _ => ?_, fun h => absurd (hc84 : (r82 == 1) = true) h⟩
            refine r_call [.agg #[.int .i64 r87.Kind, .int .i64 r87.Int_, .string r87.Text, .slice A596 r87.Kids.length c597, .slice A599 r87.Keys.length c600, .slice A602 r87.Entries.length c603, .slice A605 r87.Labels.length c606], .agg #[.int .i64 r89.Kind, .int .i64 r89.Int_, .string r89.Text, .slice A610 r89.Kids.length c611, .slice A613 r89.Keys.length c614, .slice A616 r89.Entries.length c617, .slice A619 r89.Labels.length c620]] (evs2 hv608 hv622) rfl ((ok_value_Cons fuel) _ _ _ _ _ _ (Val.rpvMk (v := r87) h598 h601 h604 h607) (Val.rpvMk (v := r89) h612 h615 h618 h621) e92) ?_
            intro v624 s623 hx625 hr626
            have hE627 := hE591.ext hE591.size hx625
            obtain ⟨A628, c629, A631, c632, A634, c635, A637, c638, rfl, h630, h633, h636, h639⟩ := Val.rpv hr626
            refine wpList_nil ?_
            exact ⟨_, _, rfl, rfl, (ExtB.refl _ _).trans (hx625.mono hE591.size), (Wext.refl _).trans hx625.wext, (Val.rpvMk (v := r91) h630 h633 h636 h639), ⟨(g592.ext hx625), (g593.ext hx625)⟩⟩
          · intro D640 F641 s642 d643 d644 d645 hE646 hW647 hG648 hfr649 hR650
            have hE651 := hE72.trans hE646
            obtain ⟨g652, g653⟩ := hG648
            have q654 : F641 24 = (.bool (r82 == 1)) := hR650 18 rfl 24 rfl
            have q655 : RpV s642 (r85 : Val) (F641 26) := hR650 20 rfl 26 rfl
            obtain ⟨A656, c657, A659, c660, A662, c663, A665, c666, hv668, h658, h661, h664, h667⟩ := Val.rpv q655
            have q669 : RpV s642 (r91 : Val) (F641 29) := hR650 23 rfl 29 rfl
            obtain ⟨A670, c671, A673, c674, A676, c677, A679, c680, hv682, h672, h675, h678, h681⟩ := Val.rpv q669
            refine Or.inr ⟨(r82 == 1), (fun d hd => by cases hd; exact q654), fun _ => ?_, fun h => absurd (hc84 : (r82 == 1) = true) h⟩
            refine r_call [.agg #[.int .i64 r85.Kind, .int .i64 r85.Int_, .string r85.Text, .slice A656 r85.Kids.length c657, .slice A659 r85.Keys.length c660, .slice A662 r85.Entries.length c663, .slice A665 r85.Labels.length c666], .agg #[.int .i64 r91.Kind, .int .i64 r91.Int_, .string r91.Text, .slice A670 r91.Kids.length c671, .slice A673 r91.Keys.length c674, .slice A676 r91.Entries.length c677, .slice A679 r91.Labels.length c680]] (evs2 hv668 hv682) rfl ((ok_value_Cons fuel) _ _ _ _ _ _ (Val.rpvMk (v := r85) h658 h661 h664 h667) (Val.rpvMk (v := r91) h672 h675 h678 h681) e94) ?_
            intro v684 s683 hx685 hr686
            have hE687 := hE651.ext hE651.size hx685
            obtain ⟨A688, c689, A691, c692, A694, c695, A697, c698, rfl, h690, h693, h696, h699⟩ := Val.rpv hr686
            refine wpList_nil ?_
            exact ⟨_, _, rfl, rfl, (ExtB.refl _ _).trans (hx685.mono hE651.size), (Wext.refl _).trans hx685.wext, (Val.rpvMk (v := r93) h690 h693 h696 h699), ⟨(g652.ext hx685), (g653.ext hx685)⟩⟩
          · intro D700 F701 s702 d703 d704 d705 hE706 hW707 hG708 hfr709 hR710
            have hE711 := hE72.trans hE706
            obtain ⟨g712, g713⟩ := hG708
            have q714 : F701 24 = (.bool (r82 == 1)) := hR710 18 rfl 24 rfl
            have q715 : RpV s702 (r45 : Val) (F701 25) := hR710 19 rfl 25 rfl
            obtain ⟨A716, c717, A719, c720, A722, c723, A725, c726, hv728, h718, h721, h724, h727⟩ := Val.rpv q715
            have q729 : RpV s702 (r93 : Val) (F701 30) := hR710 24 rfl 30 rfl
            obtain ⟨A730, c731, A733, c734, A736, c737, A739, c740, hv742, h732, h735, h738, h741⟩ := Val.rpv q729
            refine Or.inr ⟨(r82 == 1), (fun d hd => by cases hd; exact q714), fun _ => ?_, fun h => absurd (hc84 : (r82 == 1) = true) h⟩
            refine r_call [.agg #[.int .i64 r45.Kind, .int .i64 r45.Int_, .string r45.Text, .slice A716 r45.Kids.length c717, .slice A719 r45.Keys.length c720, .slice A722 r45.Entries.length c723, .slice A725 r45.Labels.length c726], .agg #[.int .i64 r93.Kind, .int .i64 r93.Int_, .string r93.Text, .slice A730 r93.Kids.length c731, .slice A733 r93.Keys.length c734, .slice A736 r93.Entries.length c737, .slice A739 r93.Labels.length c740]] (evs2 hv728 hv742) rfl ((ok_value_Equal fuel) _ _ _ _ _ _ (Val.rpvMk (v := r45) h718 h721 h724 h727) (Val.rpvMk (v := r93) h732 h735 h738 h741) e96) ?_
            intro v744 s743 hx745 hr746
            have hE747 := hE711.ext hE711.size hx745
            obtain rfl := RpV.bool hr746
            refine wpList_nil ?_
            exact ⟨_, _, rfl, rfl, (ExtB.refl _ _).trans (hx745.mono hE711.size), (Wext.refl _).trans hx745.wext, rfl, ⟨(g712.ext hx745), (g713.ext hx745)⟩⟩
          · intro D748 F749 s750 d751 d752 d753 hE754 hW755 hG756 hfr757 hR758
            have hE759 := hE72.trans hE754
            obtain ⟨g760, g761⟩ := hG756
            have q762 : F749 24 = (.bool (r82 == 1)) := hR758 18 rfl 24 rfl
            have q763 : F749 31 = (.bool r95) := hR758 25 rfl 31 rfl
            refine r_pick_t (c := (r82 == 1)) (.bool r95) q762 hc84 q763 rfl rfl rfl ?_
            refine wpList_nil ?_
            exact ⟨_, _, rfl, rfl, ExtB.refl _ _, Wext.refl _, rfl, ⟨g760, g761⟩⟩
          · intro D764 F765 s766 d767 d768 d769 hE770 hW771 hG772 hfr773 hR774
            have hE775 := hE72.trans hE770
            obtain ⟨g776, g777⟩ := hG772
            have q778 : F765 32 = (.bool r95) := hR774 26 rfl 32 rfl
            refine r_assign (.bool r95) q778 rfl ?_
            refine wpList_nil ?_
            exact ⟨_, _, rfl, rfl, ExtB.refl _ _, Wext.refl _, rfl, ⟨g776, g777⟩⟩
          · intro F779 s780 hE781 hW782 hG783 hfr784 hR785
            have hE786 := hE72.trans hE781
            obtain ⟨g787, g788⟩ := hG783
            have hb789 := g787
            have q790 : F779 0 = (.bool r95) := hR785 27 0 rfl
            refine p_then ?_
            refine wp_ret ?_
            obtain rfl := Option.some.inj hf
            refine ret_one (.bool r95) rfl ⟨rfl, q790⟩ hE786 ?_
            exact (RpV.mkBool _ _)
        · refine wp_draw (B := s0.N) [some 6, some 7, some 8, some 9, some 10, some 11, some 12, some 13, some 14, some 15, some 16, some 17, some 18, some 19, some 20, some 21, some 22, some 23, some 24, some 25, some 26, some 27, some 28, some 29, some 30, some 31, some 32, some 0] [[], [0], [0, 1], [0, 1, 2], [0, 1, 2, 3], [0, 1, 2, 3, 4], [0, 1, 2, 3, 4, 5], [0, 1, 2, 3, 4, 5, 6], [0, 1, 2, 3, 4, 5, 6, 7], [0, 1, 2, 3, 4, 5, 6, 7, 8], [0, 1, 2, 3, 4, 5, 6, 7, 8, 9], [0, 1, 2, 3, 4, 5, 6, 7, 8, 9, 10], [0, 1, 2, 3, 4, 5, 6, 7, 8, 9, 10, 11], [0, 1, 2, 3, 4, 5, 6, 7, 8, 9, 10, 11, 12], [0, 1, 2, 3, 4, 5, 6, 7, 8, 9, 10, 11, 12, 13], [0, 1, 2, 3, 4, 5, 6, 7, 8, 9, 10, 11, 12, 13, 14], [0, 1, 2, 3, 4, 5, 6, 7, 8, 9, 10, 11, 12, 13, 14, 15], [0, 1, 2, 3, 4, 5, 6, 7, 8, 9, 10, 11, 12, 13, 14, 15, 16], [0, 1, 2, 3, 4, 5, 6, 7, 8, 9, 10, 11, 12, 13, 14, 15, 16, 17], [0, 1, 2, 3, 4, 5, 6, 7, 8, 9, 10, 11, 12, 13, 14, 15, 16, 17, 18], [0, 1, 2, 3, 4, 5, 6, 7, 8, 9, 10, 11, 12, 13, 14, 15, 16, 17, 18], [0, 1, 2, 3, 4, 5, 6, 7, 8, 9, 10, 11, 12, 13, 14, 15, 16, 17, 18, 20], [0, 1, 2, 3, 4, 5, 6, 7, 8, 9, 10, 11, 12, 13, 14, 15, 16, 17, 18, 20, 21], [0, 1, 2, 3, 4, 5, 6, 7, 8, 9, 10, 11, 12, 13, 14, 15, 16, 17, 18, 20, 21, 22], [0, 1, 2, 3, 4, 5, 6, 7, 8, 9, 10, 11, 12, 13, 14, 15, 16, 17, 18, 20, 21, 22, 23], [0, 1, 2, 3, 4, 5, 6, 7, 8, 9, 10, 11, 12, 13, 14, 15, 16, 17, 18, 19, 20, 21, 22, 23, 24], [0, 1, 2, 3, 4, 5, 6, 7, 8, 9, 10, 11, 12, 13, 14, 15, 16, 17, 18, 19, 20, 21, 22, 23, 24, 25], [0, 1, 2, 3, 4, 5, 6, 7, 8, 9, 10, 11, 12, 13, 14, 15, 16, 17, 18, 19, 20, 21, 22, 23, 24, 25, 26]] [Fct.data (r45 : Val), Fct.eqv (.int .i64 r73), Fct.eqv (.bool (r73 == 5)), Fct.eqv (.bool (r73 == 5)), Fct.data (r45 : Val), Fct.eqv (.int .i64 r76), Fct.eqv (.bool (r76 == 3)), Fct.eqv (.bool (r76 == 3)), Fct.eqv (.bool (r76 == 3)), Fct.data (r45 : Val), Fct.eqv (.int .i64 r79), Fct.eqv (.bool (r79 == 0)), Fct.eqv (.bool (r79 == 0)), Fct.eqv (.bool (r79 == 0)), Fct.data ((Val.mk 0 0 (⟨#[]⟩) ([] : List Val) ([] : List Key) ([] : List Ent) ([] : List ByteArray)) : Val), Fct.eqv (.int .i64 r82), Fct.eqv (.bool (r82 == 1)), Fct.eqv (.bool (r82 == 1)), Fct.eqv (.bool (r82 == 1)), Fct.eqv undef, Fct.eqv undef, Fct.eqv undef, Fct.eqv undef, Fct.eqv undef, Fct.eqv undef, Fct.eqv undef, Fct.eqv (.bool false), Fct.eqv (.bool false)] (fun D F τ => (Blk s0.N 2 τ b64 27 [.int .i64 r45.Kind, .int .i64 r45.Int_, .string r45.Text, .slice A52 r45.Kids.length c53, .slice A55 r45.Keys.length c56, .slice A58 r45.Entries.length c59, .slice A61 r45.Labels.length c62]) ∧ (Own s0.N 1 27 τ [r1, r20] A40 c41)) (by kernel_rfl) rfl (by decide) (by decide) ⟨(hb71.ext (ext_draw _)), ((((ho43.ext hx49).ext hx66).mod hm70 rfl).ext (ext_draw _))⟩ (by decide) (by decide) ⟨?_, ?_, ?_, ?_, ?_, ?_, ?_, ?_, ?_, ?_, ?_, ?_, ?_, ?_, ?_, ?_, ?_, ?_, ?_, ?_, ?_, ?_, ?_, ?_, ?_, ?_, ?_, ?_, trivial⟩ ?_
          · intro D794 F795 s796 d797 d798 d799 hE800 hW801 hG802 hfr803 hR804
            have hE805 := hE72.trans hE800
            obtain ⟨g806, g807⟩ := hG802
            have hb808 := g806
            refine r_load b64 0 (.agg #[.int .i64 r45.Kind, .int .i64 r45.Int_, .string r45.Text, .slice A52 r45.Kids.length c53, .slice A55 r45.Keys.length c56, .slice A58 r45.Entries.length c59, .slice A61 r45.Labels.length c62]) ((hfr803 1 rfl).trans rfl) rfl (loads_row tr27 (Blk.range hb808 0 [.int .i64 r45.Kind, .int .i64 r45.Int_, .string r45.Text, .slice A52 r45.Kids.length c53, .slice A55 r45.Keys.length c56, .slice A58 r45.Entries.length c59, .slice A61 r45.Labels.length c62] rfl)) ?_
            refine wpList_nil ?_
            exact ⟨_, _, rfl, rfl, ExtB.refl _ _, Wext.refl _, (Val.rpvMk (v := r45) (((h54.mono hx66.wext).mono hm70.wext).mono hW801) (((h57.mono hx66.wext).mono hm70.wext).mono hW801) (((h60.mono hx66.wext).mono hm70.wext).mono hW801) (((h63.mono hx66.wext).mono hm70.wext).mono hW801)), ⟨g806, g807⟩⟩
          · intro D809 F810 s811 d812 d813 d814 hE815 hW816 hG817 hfr818 hR819
            have hE820 := hE72.trans hE815
            obtain ⟨g821, g822⟩ := hG817
            have q823 : RpV s811 (r45 : Val) (F810 6) := hR819 0 rfl 6 rfl
            obtain ⟨A824, c825, A827, c828, A830, c831, A833, c834, hv836, h826, h829, h832, h835⟩ := Val.rpv q823
            refine r_call [.agg #[.int .i64 r45.Kind, .int .i64 r45.Int_, .string r45.Text, .slice A824 r45.Kids.length c825, .slice A827 r45.Keys.length c828, .slice A830 r45.Entries.length c831, .slice A833 r45.Labels.length c834]] (evs1 hv836) rfl ((ok_value_Nodes fuel) _ _ _ _ (Val.rpvMk (v := r45) h826 h829 h832 h835) e74) ?_
            intro v838 s837 hx839 hr840
            have hE841 := hE820.ext hE820.size hx839
            obtain rfl := RpV.int hr840
            refine wpList_nil ?_
            exact ⟨_, _, rfl, rfl, (ExtB.refl _ _).trans (hx839.mono hE820.size), (Wext.refl _).trans hx839.wext, rfl, ⟨(g821.ext hx839), (g822.ext hx839)⟩⟩
          · intro D842 F843 s844 d845 d846 d847 hE848 hW849 hG850 hfr851 hR852
            have hE853 := hE72.trans hE848
            obtain ⟨g854, g855⟩ := hG850
            have q856 : F843 7 = (.int .i64 r73) := hR852 1 rfl 7 rfl
            refine r_bin (.int .i64 r73) (.int .i64 5) (.bool (r73 == 5)) q856 rfl rfl rfl (b_eql) ?_
            refine wpList_nil ?_
            exact ⟨_, _, rfl, rfl, ExtB.refl _ _, Wext.refl _, rfl, ⟨g854, g855⟩⟩
          · intro D857 F858 s859 d860 d861 d862 hE863 hW864 hG865 hfr866 hR867
            have hE868 := hE72.trans hE863
            obtain ⟨g869, g870⟩ := hG865
            have q871 : F858 8 = (.bool (r73 == 5)) := hR867 2 rfl 8 rfl
            refine r_move (.bool (r73 == 5)) q871 rfl ?_
            refine wpList_nil ?_
            exact ⟨_, _, rfl, rfl, ExtB.refl _ _, Wext.refl _, rfl, ⟨g869, g870⟩⟩
          · intro D872 F873 s874 d875 d876 d877 hE878 hW879 hG880 hfr881 hR882
            have hE883 := hE72.trans hE878
            obtain ⟨g884, g885⟩ := hG880
            have hb886 := g884
            have q887 : F873 9 = (.bool (r73 == 5)) := hR882 3 rfl 9 rfl
            refine Or.inr ⟨(r73 == 5), (fun d hd => by cases hd; exact q887), fun _ => ?_, fun h => absurd (hc75 : (r73 == 5) = true) h⟩
            refine r_load b64 0 (.agg #[.int .i64 r45.Kind, .int .i64 r45.Int_, .string r45.Text, .slice A52 r45.Kids.length c53, .slice A55 r45.Keys.length c56, .slice A58 r45.Entries.length c59, .slice A61 r45.Labels.length c62]) ((hfr881 1 rfl).trans rfl) rfl (loads_row tr27 (Blk.range hb886 0 [.int .i64 r45.Kind, .int .i64 r45.Int_, .string r45.Text, .slice A52 r45.Kids.length c53, .slice A55 r45.Keys.length c56, .slice A58 r45.Entries.length c59, .slice A61 r45.Labels.length c62] rfl)) ?_
            refine wpList_nil ?_
            exact ⟨_, _, rfl, rfl, ExtB.refl _ _, Wext.refl _, (Val.rpvMk (v := r45) (((h54.mono hx66.wext).mono hm70.wext).mono hW879) (((h57.mono hx66.wext).mono hm70.wext).mono hW879) (((h60.mono hx66.wext).mono hm70.wext).mono hW879) (((h63.mono hx66.wext).mono hm70.wext).mono hW879)), ⟨g884, g885⟩⟩
          · intro D888 F889 s890 d891 d892 d893 hE894 hW895 hG896 hfr897 hR898
            have hE899 := hE72.trans hE894
            obtain ⟨g900, g901⟩ := hG896
            have q902 : F889 9 = (.bool (r73 == 5)) := hR898 3 rfl 9 rfl
            have q903 : RpV s890 (r45 : Val) (F889 10) := hR898 4 rfl 10 rfl
            obtain ⟨A904, c905, A907, c908, A910, c911, A913, c914, hv916, h906, h909, h912, h915⟩ := Val.rpv q903
            refine Or.inr ⟨(r73 == 5), (fun d hd => by cases hd; exact q902), fun _ => ?_, fun h => absurd (hc75 : (r73 == 5) = true) h⟩
            refine r_call [.agg #[.int .i64 r45.Kind, .int .i64 r45.Int_, .string r45.Text, .slice A904 r45.Kids.length c905, .slice A907 r45.Keys.length c908, .slice A910 r45.Entries.length c911, .slice A913 r45.Labels.length c914]] (evs1 hv916) rfl ((ok_value_Height fuel) _ _ _ _ (Val.rpvMk (v := r45) h906 h909 h912 h915) e77) ?_
            intro v918 s917 hx919 hr920
            have hE921 := hE899.ext hE899.size hx919
            obtain rfl := RpV.int hr920
            refine wpList_nil ?_
            exact ⟨_, _, rfl, rfl, (ExtB.refl _ _).trans (hx919.mono hE899.size), (Wext.refl _).trans hx919.wext, rfl, ⟨(g900.ext hx919), (g901.ext hx919)⟩⟩
          · intro D922 F923 s924 d925 d926 d927 hE928 hW929 hG930 hfr931 hR932
            have hE933 := hE72.trans hE928
            obtain ⟨g934, g935⟩ := hG930
            have q936 : F923 9 = (.bool (r73 == 5)) := hR932 3 rfl 9 rfl
            have q937 : F923 11 = (.int .i64 r76) := hR932 5 rfl 11 rfl
            refine Or.inr ⟨(r73 == 5), (fun d hd => by cases hd; exact q936), fun _ => ?_, fun h => absurd (hc75 : (r73 == 5) = true) h⟩
            refine r_bin (.int .i64 r76) (.int .i64 3) (.bool (r76 == 3)) q937 rfl rfl rfl (b_eql) ?_
            refine wpList_nil ?_
            exact ⟨_, _, rfl, rfl, ExtB.refl _ _, Wext.refl _, rfl, ⟨g934, g935⟩⟩
          · intro D938 F939 s940 d941 d942 d943 hE944 hW945 hG946 hfr947 hR948
            have hE949 := hE72.trans hE944
            obtain ⟨g950, g951⟩ := hG946
            have q952 : F939 9 = (.bool (r73 == 5)) := hR948 3 rfl 9 rfl
            have q953 : F939 12 = (.bool (r76 == 3)) := hR948 6 rfl 12 rfl
            refine r_pick_t (c := (r73 == 5)) (.bool (r76 == 3)) q952 hc75 q953 rfl rfl rfl ?_
            refine wpList_nil ?_
            exact ⟨_, _, rfl, rfl, ExtB.refl _ _, Wext.refl _, rfl, ⟨g950, g951⟩⟩
          · intro D954 F955 s956 d957 d958 d959 hE960 hW961 hG962 hfr963 hR964
            have hE965 := hE72.trans hE960
            obtain ⟨g966, g967⟩ := hG962
            have q968 : F955 13 = (.bool (r76 == 3)) := hR964 7 rfl 13 rfl
            refine r_move (.bool (r76 == 3)) q968 rfl ?_
            refine wpList_nil ?_
            exact ⟨_, _, rfl, rfl, ExtB.refl _ _, Wext.refl _, rfl, ⟨g966, g967⟩⟩
          · intro D969 F970 s971 d972 d973 d974 hE975 hW976 hG977 hfr978 hR979
            have hE980 := hE72.trans hE975
            obtain ⟨g981, g982⟩ := hG977
            have hb983 := g981
            have q984 : F970 14 = (.bool (r76 == 3)) := hR979 8 rfl 14 rfl
            refine Or.inr ⟨(r76 == 3), (fun d hd => by cases hd; exact q984), fun _ => ?_, fun h => absurd (hc78 : (r76 == 3) = true) h⟩
            refine r_load b64 0 (.agg #[.int .i64 r45.Kind, .int .i64 r45.Int_, .string r45.Text, .slice A52 r45.Kids.length c53, .slice A55 r45.Keys.length c56, .slice A58 r45.Entries.length c59, .slice A61 r45.Labels.length c62]) ((hfr978 1 rfl).trans rfl) rfl (loads_row tr27 (Blk.range hb983 0 [.int .i64 r45.Kind, .int .i64 r45.Int_, .string r45.Text, .slice A52 r45.Kids.length c53, .slice A55 r45.Keys.length c56, .slice A58 r45.Entries.length c59, .slice A61 r45.Labels.length c62] rfl)) ?_
            refine wpList_nil ?_
            exact ⟨_, _, rfl, rfl, ExtB.refl _ _, Wext.refl _, (Val.rpvMk (v := r45) (((h54.mono hx66.wext).mono hm70.wext).mono hW976) (((h57.mono hx66.wext).mono hm70.wext).mono hW976) (((h60.mono hx66.wext).mono hm70.wext).mono hW976) (((h63.mono hx66.wext).mono hm70.wext).mono hW976)), ⟨g981, g982⟩⟩
          · intro D985 F986 s987 d988 d989 d990 hE991 hW992 hG993 hfr994 hR995
            have hE996 := hE72.trans hE991
            obtain ⟨g997, g998⟩ := hG993
            have q999 : F986 14 = (.bool (r76 == 3)) := hR995 8 rfl 14 rfl
            have q1000 : RpV s987 (r45 : Val) (F986 15) := hR995 9 rfl 15 rfl
            obtain ⟨A1001, c1002, A1004, c1005, A1007, c1008, A1010, c1011, hv1013, h1003, h1006, h1009, h1012⟩ := Val.rpv q1000
            refine Or.inr ⟨(r76 == 3), (fun d hd => by cases hd; exact q999), fun _ => ?_, fun h => absurd (hc78 : (r76 == 3) = true) h⟩
            refine r_call [.agg #[.int .i64 r45.Kind, .int .i64 r45.Int_, .string r45.Text, .slice A1001 r45.Kids.length c1002, .slice A1004 r45.Keys.length c1005, .slice A1007 r45.Entries.length c1008, .slice A1010 r45.Labels.length c1011]] (evs1 hv1013) rfl ((ok_value_Validate fuel) _ _ _ _ (Val.rpvMk (v := r45) h1003 h1006 h1009 h1012) e80) ?_
            intro v1015 s1014 hx1016 hr1017
            have hE1018 := hE996.ext hE996.size hx1016
            obtain rfl := RpV.int hr1017
            refine wpList_nil ?_
            exact ⟨_, _, rfl, rfl, (ExtB.refl _ _).trans (hx1016.mono hE996.size), (Wext.refl _).trans hx1016.wext, rfl, ⟨(g997.ext hx1016), (g998.ext hx1016)⟩⟩
          · intro D1019 F1020 s1021 d1022 d1023 d1024 hE1025 hW1026 hG1027 hfr1028 hR1029
            have hE1030 := hE72.trans hE1025
            obtain ⟨g1031, g1032⟩ := hG1027
            have q1033 : F1020 14 = (.bool (r76 == 3)) := hR1029 8 rfl 14 rfl
            have q1034 : F1020 16 = (.int .i64 r79) := hR1029 10 rfl 16 rfl
            refine Or.inr ⟨(r76 == 3), (fun d hd => by cases hd; exact q1033), fun _ => ?_, fun h => absurd (hc78 : (r76 == 3) = true) h⟩
            refine r_bin (.int .i64 r79) (.int .i64 0) (.bool (r79 == 0)) q1034 rfl rfl rfl (b_eql) ?_
            refine wpList_nil ?_
            exact ⟨_, _, rfl, rfl, ExtB.refl _ _, Wext.refl _, rfl, ⟨g1031, g1032⟩⟩
          · intro D1035 F1036 s1037 d1038 d1039 d1040 hE1041 hW1042 hG1043 hfr1044 hR1045
            have hE1046 := hE72.trans hE1041
            obtain ⟨g1047, g1048⟩ := hG1043
            have q1049 : F1036 14 = (.bool (r76 == 3)) := hR1045 8 rfl 14 rfl
            have q1050 : F1036 17 = (.bool (r79 == 0)) := hR1045 11 rfl 17 rfl
            refine r_pick_t (c := (r76 == 3)) (.bool (r79 == 0)) q1049 hc78 q1050 rfl rfl rfl ?_
            refine wpList_nil ?_
            exact ⟨_, _, rfl, rfl, ExtB.refl _ _, Wext.refl _, rfl, ⟨g1047, g1048⟩⟩
          · intro D1051 F1052 s1053 d1054 d1055 d1056 hE1057 hW1058 hG1059 hfr1060 hR1061
            have hE1062 := hE72.trans hE1057
            obtain ⟨g1063, g1064⟩ := hG1059
            have q1065 : F1052 18 = (.bool (r79 == 0)) := hR1061 12 rfl 18 rfl
            refine r_move (.bool (r79 == 0)) q1065 rfl ?_
            refine wpList_nil ?_
            exact ⟨_, _, rfl, rfl, ExtB.refl _ _, Wext.refl _, rfl, ⟨g1063, g1064⟩⟩
          · intro D1066 F1067 s1068 d1069 d1070 d1071 hE1072 hW1073 hG1074 hfr1075 hR1076
            have hE1077 := hE72.trans hE1072
            obtain ⟨g1078, g1079⟩ := hG1074
            have q1080 : F1067 19 = (.bool (r79 == 0)) := hR1076 13 rfl 19 rfl
            refine Or.inr ⟨(r79 == 0), (fun d hd => by cases hd; exact q1080), fun _ => ?_, fun h => absurd (hc81 : (r79 == 0) = true) h⟩
            refine r_build tst27 [] [.int .i64 0, .int .i64 0, .string (⟨#[]⟩), .slice none ([] : List Val).length 0, .slice none ([] : List Key).length 0, .slice none ([] : List Ent).length 0, .slice none ([] : List ByteArray).length 0] eps_nil rfl rfl ?_
            refine wpList_nil ?_
            exact ⟨_, _, rfl, rfl, ExtB.refl _ _, Wext.refl _, (Val.rpvMk (v := (Val.mk 0 0 (⟨#[]⟩) ([] : List Val) ([] : List Key) ([] : List Ent) ([] : List ByteArray))) (Sl.nil_ _ _ _ (Nat.zero_le _)) (Sl.nil_ _ _ _ (Nat.zero_le _)) (Sl.nil_ _ _ _ (Nat.zero_le _)) (Sl.nil_ _ _ _ (Nat.zero_le _))), ⟨g1078, g1079⟩⟩
          · intro D1081 F1082 s1083 d1084 d1085 d1086 hE1087 hW1088 hG1089 hfr1090 hR1091
            have hE1092 := hE72.trans hE1087
            obtain ⟨g1093, g1094⟩ := hG1089
            have q1095 : F1082 19 = (.bool (r79 == 0)) := hR1091 13 rfl 19 rfl
            have q1096 : RpV s1083 ((Val.mk 0 0 (⟨#[]⟩) ([] : List Val) ([] : List Key) ([] : List Ent) ([] : List ByteArray)) : Val) (F1082 20) := hR1091 14 rfl 20 rfl
            obtain ⟨A1097, c1098, A1100, c1101, A1103, c1104, A1106, c1107, hv1109, h1099, h1102, h1105, h1108⟩ := Val.rpv q1096
            refine Or.inr ⟨(r79 == 0), (fun d hd => by cases hd; exact q1095), fun _ => ?_, fun h => absurd (hc81 : (r79 == 0) = true) h⟩
            refine r_call [.agg #[.int .i64 0, .int .i64 0, .string (⟨#[]⟩), .slice A1097 ((Val.mk 0 0 (⟨#[]⟩) ([] : List Val) ([] : List Key) ([] : List Ent) ([] : List ByteArray)).Kids).length c1098, .slice A1100 ((Val.mk 0 0 (⟨#[]⟩) ([] : List Val) ([] : List Key) ([] : List Ent) ([] : List ByteArray)).Keys).length c1101, .slice A1103 ((Val.mk 0 0 (⟨#[]⟩) ([] : List Val) ([] : List Key) ([] : List Ent) ([] : List ByteArray)).Entries).length c1104, .slice A1106 ((Val.mk 0 0 (⟨#[]⟩) ([] : List Val) ([] : List Key) ([] : List Ent) ([] : List ByteArray)).Labels).length c1107]] (evs1 hv1109) rfl ((ok_value_Validate fuel) _ _ _ _ (Val.rpvMk (v := (Val.mk 0 0 (⟨#[]⟩) ([] : List Val) ([] : List Key) ([] : List Ent) ([] : List ByteArray))) h1099 h1102 h1105 h1108) e83) ?_
            intro v1111 s1110 hx1112 hr1113
            have hE1114 := hE1092.ext hE1092.size hx1112
            obtain rfl := RpV.int hr1113
            refine wpList_nil ?_
            exact ⟨_, _, rfl, rfl, (ExtB.refl _ _).trans (hx1112.mono hE1092.size), (Wext.refl _).trans hx1112.wext, rfl, ⟨(g1093.ext hx1112), (g1094.ext hx1112)⟩⟩
          · intro D1115 F1116 s1117 d1118 d1119 d1120 hE1121 hW1122 hG1123 hfr1124 hR1125
            have hE1126 := hE72.trans hE1121
            obtain ⟨g1127, g1128⟩ := hG1123
            have q1129 : F1116 19 = (.bool (r79 == 0)) := hR1125 13 rfl 19 rfl
            have q1130 : F1116 21 = (.int .i64 r82) := hR1125 15 rfl 21 rfl
            refine Or.inr ⟨(r79 == 0), (fun d hd => by cases hd; exact q1129), fun _ => ?_, fun h => absurd (hc81 : (r79 == 0) = true) h⟩
            refine r_bin (.int .i64 r82) (.int .i64 1) (.bool (r82 == 1)) q1130 rfl rfl rfl (b_eql) ?_
            refine wpList_nil ?_
            exact ⟨_, _, rfl, rfl, ExtB.refl _ _, Wext.refl _, rfl, ⟨g1127, g1128⟩⟩
          · intro D1131 F1132 s1133 d1134 d1135 d1136 hE1137 hW1138 hG1139 hfr1140 hR1141
            have hE1142 := hE72.trans hE1137
            obtain ⟨g1143, g1144⟩ := hG1139
            have q1145 : F1132 19 = (.bool (r79 == 0)) := hR1141 13 rfl 19 rfl
            have q1146 : F1132 22 = (.bool (r82 == 1)) := hR1141 16 rfl 22 rfl
            refine r_pick_t (c := (r79 == 0)) (.bool (r82 == 1)) q1145 hc81 q1146 rfl rfl rfl ?_
            refine wpList_nil ?_
            exact ⟨_, _, rfl, rfl, ExtB.refl _ _, Wext.refl _, rfl, ⟨g1143, g1144⟩⟩
          · intro D1147 F1148 s1149 d1150 d1151 d1152 hE1153 hW1154 hG1155 hfr1156 hR1157
            have hE1158 := hE72.trans hE1153
            obtain ⟨g1159, g1160⟩ := hG1155
            have q1161 : F1148 23 = (.bool (r82 == 1)) := hR1157 17 rfl 23 rfl
            refine r_move (.bool (r82 == 1)) q1161 rfl ?_
            refine wpList_nil ?_
            exact ⟨_, _, rfl, rfl, ExtB.refl _ _, Wext.refl _, rfl, ⟨g1159, g1160⟩⟩
          · intro D1162 F1163 s1164 d1165 d1166 d1167 hE1168 hW1169 hG1170 hfr1171 hR1172
            obtain ⟨g1174, g1175⟩ := hG1170
            have q1176 : F1163 24 = (.bool (r82 == 1)) := hR1172 18 rfl 24 rfl
            refine Or.inr ⟨(r82 == 1), (fun d hd => by cases hd; exact q1176), fun h => Bool.noConfusion (Eq.trans (Eq.symm (hc84 : (r82 == 1) = false)) h), fun _ => ⟨rfl, ?_⟩⟩
            exact ⟨g1174, g1175⟩
          · intro D1177 F1178 s1179 d1180 d1181 d1182 hE1183 hW1184 hG1185 hfr1186 hR1187
            obtain ⟨g1189, g1190⟩ := hG1185
            have q1191 : F1178 24 = (.bool (r82 == 1)) := hR1187 18 rfl 24 rfl
            refine Or.inr ⟨(r82 == 1), (fun d hd => by cases hd; exact q1191), fun h => Bool.noConfusion (Eq.trans (Eq.symm (hc84 : (r82 == 1) = false)) h), fun _ => ⟨rfl, ?_⟩⟩
            exact ⟨g1189, g1190⟩
          · intro D1192 F1193 s1194 d1195 d1196 d1197 hE1198 hW1199 hG1200 hfr1201 hR1202
            obtain ⟨g1204, g1205⟩ := hG1200
            have q1206 : F1193 24 = (.bool (r82 == 1)) := hR1202 18 rfl 24 rfl
            refine Or.inr ⟨(r82 == 1), (fun d hd => by cases hd; exact q1206), fun h => Bool.noConfusion (Eq.trans (Eq.symm (hc84 : (r82 == 1) = false)) h), fun _ => ⟨rfl, ?_⟩⟩
            exact ⟨g1204, g1205⟩
          · intro D1207 F1208 s1209 d1210 d1211 d1212 hE1213 hW1214 hG1215 hfr1216 hR1217
            obtain ⟨g1219, g1220⟩ := hG1215
            have q1221 : F1208 24 = (.bool (r82 == 1)) := hR1217 18 rfl 24 rfl
            refine Or.inr ⟨(r82 == 1), (fun d hd => by cases hd; exact q1221), fun h => Bool.noConfusion (Eq.trans (Eq.symm (hc84 : (r82 == 1) = false)) h), fun _ => ⟨rfl, ?_⟩⟩
            exact ⟨g1219, g1220⟩
          · intro D1222 F1223 s1224 d1225 d1226 d1227 hE1228 hW1229 hG1230 hfr1231 hR1232
            obtain ⟨g1234, g1235⟩ := hG1230
            have q1236 : F1223 24 = (.bool (r82 == 1)) := hR1232 18 rfl 24 rfl
            have q1237 : F1223 27 = undef := hR1232 21 rfl 27 rfl
            have q1238 : F1223 28 = undef := hR1232 22 rfl 28 rfl
            refine Or.inr ⟨(r82 == 1), (fun d hd => by cases hd; exact q1236), fun h => Bool.noConfusion (Eq.trans (Eq.symm (hc84 : (r82 == 1) = false)) h), fun _ => ⟨rfl, ?_⟩⟩
            exact ⟨g1234, g1235⟩
          · intro D1239 F1240 s1241 d1242 d1243 d1244 hE1245 hW1246 hG1247 hfr1248 hR1249
            obtain ⟨g1251, g1252⟩ := hG1247
            have q1253 : F1240 24 = (.bool (r82 == 1)) := hR1249 18 rfl 24 rfl
            have q1254 : F1240 26 = undef := hR1249 20 rfl 26 rfl
            have q1255 : F1240 29 = undef := hR1249 23 rfl 29 rfl
            refine Or.inr ⟨(r82 == 1), (fun d hd => by cases hd; exact q1253), fun h => Bool.noConfusion (Eq.trans (Eq.symm (hc84 : (r82 == 1) = false)) h), fun _ => ⟨rfl, ?_⟩⟩
            exact ⟨g1251, g1252⟩
          · intro D1256 F1257 s1258 d1259 d1260 d1261 hE1262 hW1263 hG1264 hfr1265 hR1266
            obtain ⟨g1268, g1269⟩ := hG1264
            have q1270 : F1257 24 = (.bool (r82 == 1)) := hR1266 18 rfl 24 rfl
            have q1271 : F1257 25 = undef := hR1266 19 rfl 25 rfl
            have q1272 : F1257 30 = undef := hR1266 24 rfl 30 rfl
            refine Or.inr ⟨(r82 == 1), (fun d hd => by cases hd; exact q1270), fun h => Bool.noConfusion (Eq.trans (Eq.symm (hc84 : (r82 == 1) = false)) h), fun _ => ⟨rfl, ?_⟩⟩
            exact ⟨g1268, g1269⟩
          · intro D1273 F1274 s1275 d1276 d1277 d1278 hE1279 hW1280 hG1281 hfr1282 hR1283
            have hE1284 := hE72.trans hE1279
            obtain ⟨g1285, g1286⟩ := hG1281
            have q1287 : F1274 24 = (.bool (r82 == 1)) := hR1283 18 rfl 24 rfl
            have q1288 : F1274 31 = undef := hR1283 25 rfl 31 rfl
            refine r_pick_f (c := (r82 == 1)) (.bool false) q1287 hc84 rfl rfl rfl rfl ?_
            refine wpList_nil ?_
            exact ⟨_, _, rfl, rfl, ExtB.refl _ _, Wext.refl _, rfl, ⟨g1285, g1286⟩⟩
          · intro D1289 F1290 s1291 d1292 d1293 d1294 hE1295 hW1296 hG1297 hfr1298 hR1299
            have hE1300 := hE72.trans hE1295
            obtain ⟨g1301, g1302⟩ := hG1297
            have q1303 : F1290 32 = (.bool false) := hR1299 26 rfl 32 rfl
            refine r_assign (.bool false) q1303 rfl ?_
            refine wpList_nil ?_
            exact ⟨_, _, rfl, rfl, ExtB.refl _ _, Wext.refl _, rfl, ⟨g1301, g1302⟩⟩
          · intro F1304 s1305 hE1306 hW1307 hG1308 hfr1309 hR1310
            have hE1311 := hE72.trans hE1306
            obtain ⟨g1312, g1313⟩ := hG1308
            have hb1314 := g1312
            have q1315 : F1304 0 = (.bool false) := hR1310 27 0 rfl
            refine p_then ?_
            refine wp_ret ?_
            obtain rfl := Option.some.inj hf
            refine ret_one (.bool false) rfl ⟨rfl, q1315⟩ hE1311 ?_
            exact (RpV.mkBool _ _)
      · refine wp_draw (B := s0.N) [some 6, some 7, some 8, some 9, some 10, some 11, some 12, some 13, some 14, some 15, some 16, some 17, some 18, some 19, some 20, some 21, some 22, some 23, some 24, some 25, some 26, some 27, some 28, some 29, some 30, some 31, some 32, some 0] [[], [0], [0, 1], [0, 1, 2], [0, 1, 2, 3], [0, 1, 2, 3, 4], [0, 1, 2, 3, 4, 5], [0, 1, 2, 3, 4, 5, 6], [0, 1, 2, 3, 4, 5, 6, 7], [0, 1, 2, 3, 4, 5, 6, 7, 8], [0, 1, 2, 3, 4, 5, 6, 7, 8, 9], [0, 1, 2, 3, 4, 5, 6, 7, 8, 9, 10], [0, 1, 2, 3, 4, 5, 6, 7, 8, 9, 10, 11], [0, 1, 2, 3, 4, 5, 6, 7, 8, 9, 10, 11, 12], [0, 1, 2, 3, 4, 5, 6, 7, 8, 9, 10, 11, 12, 13], [0, 1, 2, 3, 4, 5, 6, 7, 8, 9, 10, 11, 12, 13, 14], [0, 1, 2, 3, 4, 5, 6, 7, 8, 9, 10, 11, 12, 13, 14, 15], [0, 1, 2, 3, 4, 5, 6, 7, 8, 9, 10, 11, 12, 13, 14, 15, 16], [0, 1, 2, 3, 4, 5, 6, 7, 8, 9, 10, 11, 12, 13, 14, 15, 16, 17], [0, 1, 2, 3, 4, 5, 6, 7, 8, 9, 10, 11, 12, 13, 14, 15, 16, 17, 18], [0, 1, 2, 3, 4, 5, 6, 7, 8, 9, 10, 11, 12, 13, 14, 15, 16, 17, 18], [0, 1, 2, 3, 4, 5, 6, 7, 8, 9, 10, 11, 12, 13, 14, 15, 16, 17, 18, 20], [0, 1, 2, 3, 4, 5, 6, 7, 8, 9, 10, 11, 12, 13, 14, 15, 16, 17, 18, 20, 21], [0, 1, 2, 3, 4, 5, 6, 7, 8, 9, 10, 11, 12, 13, 14, 15, 16, 17, 18, 20, 21, 22], [0, 1, 2, 3, 4, 5, 6, 7, 8, 9, 10, 11, 12, 13, 14, 15, 16, 17, 18, 20, 21, 22, 23], [0, 1, 2, 3, 4, 5, 6, 7, 8, 9, 10, 11, 12, 13, 14, 15, 16, 17, 18, 19, 20, 21, 22, 23, 24], [0, 1, 2, 3, 4, 5, 6, 7, 8, 9, 10, 11, 12, 13, 14, 15, 16, 17, 18, 19, 20, 21, 22, 23, 24, 25], [0, 1, 2, 3, 4, 5, 6, 7, 8, 9, 10, 11, 12, 13, 14, 15, 16, 17, 18, 19, 20, 21, 22, 23, 24, 25, 26]] [Fct.data (r45 : Val), Fct.eqv (.int .i64 r73), Fct.eqv (.bool (r73 == 5)), Fct.eqv (.bool (r73 == 5)), Fct.data (r45 : Val), Fct.eqv (.int .i64 r76), Fct.eqv (.bool (r76 == 3)), Fct.eqv (.bool (r76 == 3)), Fct.eqv (.bool (r76 == 3)), Fct.data (r45 : Val), Fct.eqv (.int .i64 r79), Fct.eqv (.bool (r79 == 0)), Fct.eqv (.bool (r79 == 0)), Fct.eqv (.bool (r79 == 0)), Fct.eqv undef, Fct.eqv undef, Fct.eqv undef, Fct.eqv (.bool false), Fct.eqv (.bool false), Fct.eqv undef, Fct.eqv undef, Fct.eqv undef, Fct.eqv undef, Fct.eqv undef, Fct.eqv undef, Fct.eqv undef, Fct.eqv (.bool false), Fct.eqv (.bool false)] (fun D F τ => (Blk s0.N 2 τ b64 27 [.int .i64 r45.Kind, .int .i64 r45.Int_, .string r45.Text, .slice A52 r45.Kids.length c53, .slice A55 r45.Keys.length c56, .slice A58 r45.Entries.length c59, .slice A61 r45.Labels.length c62]) ∧ (Own s0.N 1 27 τ [r1, r20] A40 c41)) (by kernel_rfl) rfl (by decide) (by decide) ⟨(hb71.ext (ext_draw _)), ((((ho43.ext hx49).ext hx66).mod hm70 rfl).ext (ext_draw _))⟩ (by decide) (by decide) ⟨?_, ?_, ?_, ?_, ?_, ?_, ?_, ?_, ?_, ?_, ?_, ?_, ?_, ?_, ?_, ?_, ?_, ?_, ?_, ?_, ?_, ?_, ?_, ?_, ?_, ?_, ?_, ?_, trivial⟩ ?_
        · intro D1319 F1320 s1321 d1322 d1323 d1324 hE1325 hW1326 hG1327 hfr1328 hR1329
          have hE1330 := hE72.trans hE1325
          obtain ⟨g1331, g1332⟩ := hG1327
          have hb1333 := g1331
          refine r_load b64 0 (.agg #[.int .i64 r45.Kind, .int .i64 r45.Int_, .string r45.Text, .slice A52 r45.Kids.length c53, .slice A55 r45.Keys.length c56, .slice A58 r45.Entries.length c59, .slice A61 r45.Labels.length c62]) ((hfr1328 1 rfl).trans rfl) rfl (loads_row tr27 (Blk.range hb1333 0 [.int .i64 r45.Kind, .int .i64 r45.Int_, .string r45.Text, .slice A52 r45.Kids.length c53, .slice A55 r45.Keys.length c56, .slice A58 r45.Entries.length c59, .slice A61 r45.Labels.length c62] rfl)) ?_
          refine wpList_nil ?_
          exact ⟨_, _, rfl, rfl, ExtB.refl _ _, Wext.refl _, (Val.rpvMk (v := r45) (((h54.mono hx66.wext).mono hm70.wext).mono hW1326) (((h57.mono hx66.wext).mono hm70.wext).mono hW1326) (((h60.mono hx66.wext).mono hm70.wext).mono hW1326) (((h63.mono hx66.wext).mono hm70.wext).mono hW1326)), ⟨g1331, g1332⟩⟩
        · intro D1334 F1335 s1336 d1337 d1338 d1339 hE1340 hW1341 hG1342 hfr1343 hR1344
          have hE1345 := hE72.trans hE1340
          obtain ⟨g1346, g1347⟩ := hG1342
          have q1348 : RpV s1336 (r45 : Val) (F1335 6) := hR1344 0 rfl 6 rfl
          obtain ⟨A1349, c1350, A1352, c1353, A1355, c1356, A1358, c1359, hv1361, h1351, h1354, h1357, h1360⟩ := Val.rpv q1348
          refine r_call [.agg #[.int .i64 r45.Kind, .int .i64 r45.Int_, .string r45.Text, .slice A1349 r45.Kids.length c1350, .slice A1352 r45.Keys.length c1353, .slice A1355 r45.Entries.length c1356, .slice A1358 r45.Labels.length c1359]] (evs1 hv1361) rfl ((ok_value_Nodes fuel) _ _ _ _ (Val.rpvMk (v := r45) h1351 h1354 h1357 h1360) e74) ?_
          intro v1363 s1362 hx1364 hr1365
          have hE1366 := hE1345.ext hE1345.size hx1364
          obtain rfl := RpV.int hr1365
          refine wpList_nil ?_
          exact ⟨_, _, rfl, rfl, (ExtB.refl _ _).trans (hx1364.mono hE1345.size), (Wext.refl _).trans hx1364.wext, rfl, ⟨(g1346.ext hx1364), (g1347.ext hx1364)⟩⟩
        · intro D1367 F1368 s1369 d1370 d1371 d1372 hE1373 hW1374 hG1375 hfr1376 hR1377
          have hE1378 := hE72.trans hE1373
          obtain ⟨g1379, g1380⟩ := hG1375
          have q1381 : F1368 7 = (.int .i64 r73) := hR1377 1 rfl 7 rfl
          refine r_bin (.int .i64 r73) (.int .i64 5) (.bool (r73 == 5)) q1381 rfl rfl rfl (b_eql) ?_
          refine wpList_nil ?_
          exact ⟨_, _, rfl, rfl, ExtB.refl _ _, Wext.refl _, rfl, ⟨g1379, g1380⟩⟩
        · intro D1382 F1383 s1384 d1385 d1386 d1387 hE1388 hW1389 hG1390 hfr1391 hR1392
          have hE1393 := hE72.trans hE1388
          obtain ⟨g1394, g1395⟩ := hG1390
          have q1396 : F1383 8 = (.bool (r73 == 5)) := hR1392 2 rfl 8 rfl
          refine r_move (.bool (r73 == 5)) q1396 rfl ?_
          refine wpList_nil ?_
          exact ⟨_, _, rfl, rfl, ExtB.refl _ _, Wext.refl _, rfl, ⟨g1394, g1395⟩⟩
        · intro D1397 F1398 s1399 d1400 d1401 d1402 hE1403 hW1404 hG1405 hfr1406 hR1407
          have hE1408 := hE72.trans hE1403
          obtain ⟨g1409, g1410⟩ := hG1405
          have hb1411 := g1409
          have q1412 : F1398 9 = (.bool (r73 == 5)) := hR1407 3 rfl 9 rfl
          refine Or.inr ⟨(r73 == 5), (fun d hd => by cases hd; exact q1412), fun _ => ?_, fun h => absurd (hc75 : (r73 == 5) = true) h⟩
          refine r_load b64 0 (.agg #[.int .i64 r45.Kind, .int .i64 r45.Int_, .string r45.Text, .slice A52 r45.Kids.length c53, .slice A55 r45.Keys.length c56, .slice A58 r45.Entries.length c59, .slice A61 r45.Labels.length c62]) ((hfr1406 1 rfl).trans rfl) rfl (loads_row tr27 (Blk.range hb1411 0 [.int .i64 r45.Kind, .int .i64 r45.Int_, .string r45.Text, .slice A52 r45.Kids.length c53, .slice A55 r45.Keys.length c56, .slice A58 r45.Entries.length c59, .slice A61 r45.Labels.length c62] rfl)) ?_
          refine wpList_nil ?_
          exact ⟨_, _, rfl, rfl, ExtB.refl _ _, Wext.refl _, (Val.rpvMk (v := r45) (((h54.mono hx66.wext).mono hm70.wext).mono hW1404) (((h57.mono hx66.wext).mono hm70.wext).mono hW1404) (((h60.mono hx66.wext).mono hm70.wext).mono hW1404) (((h63.mono hx66.wext).mono hm70.wext).mono hW1404)), ⟨g1409, g1410⟩⟩
        · intro D1413 F1414 s1415 d1416 d1417 d1418 hE1419 hW1420 hG1421 hfr1422 hR1423
          have hE1424 := hE72.trans hE1419
          obtain ⟨g1425, g1426⟩ := hG1421
          have q1427 : F1414 9 = (.bool (r73 == 5)) := hR1423 3 rfl 9 rfl
          have q1428 : RpV s1415 (r45 : Val) (F1414 10) := hR1423 4 rfl 10 rfl
          obtain ⟨A1429, c1430, A1432, c1433, A1435, c1436, A1438, c1439, hv1441, h1431, h1434, h1437, h1440⟩ := Val.rpv q1428
          refine Or.inr ⟨(r73 == 5), (fun d hd => by cases hd; exact q1427), fun _ => ?_, fun h => absurd (hc75 : (r73 == 5) = true) h⟩
          refine r_call [.agg #[.int .i64 r45.Kind, .int .i64 r45.Int_, .string r45.Text, .slice A1429 r45.Kids.length c1430, .slice A1432 r45.Keys.length c1433, .slice A1435 r45.Entries.length c1436, .slice A1438 r45.Labels.length c1439]] (evs1 hv1441) rfl ((ok_value_Height fuel) _ _ _ _ (Val.rpvMk (v := r45) h1431 h1434 h1437 h1440) e77) ?_
          intro v1443 s1442 hx1444 hr1445
          have hE1446 := hE1424.ext hE1424.size hx1444
          obtain rfl := RpV.int hr1445
          refine wpList_nil ?_
          exact ⟨_, _, rfl, rfl, (ExtB.refl _ _).trans (hx1444.mono hE1424.size), (Wext.refl _).trans hx1444.wext, rfl, ⟨(g1425.ext hx1444), (g1426.ext hx1444)⟩⟩
        · intro D1447 F1448 s1449 d1450 d1451 d1452 hE1453 hW1454 hG1455 hfr1456 hR1457
          have hE1458 := hE72.trans hE1453
          obtain ⟨g1459, g1460⟩ := hG1455
          have q1461 : F1448 9 = (.bool (r73 == 5)) := hR1457 3 rfl 9 rfl
          have q1462 : F1448 11 = (.int .i64 r76) := hR1457 5 rfl 11 rfl
          refine Or.inr ⟨(r73 == 5), (fun d hd => by cases hd; exact q1461), fun _ => ?_, fun h => absurd (hc75 : (r73 == 5) = true) h⟩
          refine r_bin (.int .i64 r76) (.int .i64 3) (.bool (r76 == 3)) q1462 rfl rfl rfl (b_eql) ?_
          refine wpList_nil ?_
          exact ⟨_, _, rfl, rfl, ExtB.refl _ _, Wext.refl _, rfl, ⟨g1459, g1460⟩⟩
        · intro D1463 F1464 s1465 d1466 d1467 d1468 hE1469 hW1470 hG1471 hfr1472 hR1473
          have hE1474 := hE72.trans hE1469
          obtain ⟨g1475, g1476⟩ := hG1471
          have q1477 : F1464 9 = (.bool (r73 == 5)) := hR1473 3 rfl 9 rfl
          have q1478 : F1464 12 = (.bool (r76 == 3)) := hR1473 6 rfl 12 rfl
          refine r_pick_t (c := (r73 == 5)) (.bool (r76 == 3)) q1477 hc75 q1478 rfl rfl rfl ?_
          refine wpList_nil ?_
          exact ⟨_, _, rfl, rfl, ExtB.refl _ _, Wext.refl _, rfl, ⟨g1475, g1476⟩⟩
        · intro D1479 F1480 s1481 d1482 d1483 d1484 hE1485 hW1486 hG1487 hfr1488 hR1489
          have hE1490 := hE72.trans hE1485
          obtain ⟨g1491, g1492⟩ := hG1487
          have q1493 : F1480 13 = (.bool (r76 == 3)) := hR1489 7 rfl 13 rfl
          refine r_move (.bool (r76 == 3)) q1493 rfl ?_
          refine wpList_nil ?_
          exact ⟨_, _, rfl, rfl, ExtB.refl _ _, Wext.refl _, rfl, ⟨g1491, g1492⟩⟩
        · intro D1494 F1495 s1496 d1497 d1498 d1499 hE1500 hW1501 hG1502 hfr1503 hR1504
          have hE1505 := hE72.trans hE1500
          obtain ⟨g1506, g1507⟩ := hG1502
          have hb1508 := g1506
          have q1509 : F1495 14 = (.bool (r76 == 3)) := hR1504 8 rfl 14 rfl
          refine Or.inr ⟨(r76 == 3), (fun d hd => by cases hd; exact q1509), fun _ => ?_, fun h => absurd (hc78 : (r76 == 3) = true) h⟩
          refine r_load b64 0 (.agg #[.int .i64 r45.Kind, .int .i64 r45.Int_, .string r45.Text, .slice A52 r45.Kids.length c53, .slice A55 r45.Keys.length c56, .slice A58 r45.Entries.length c59, .slice A61 r45.Labels.length c62]) ((hfr1503 1 rfl).trans rfl) rfl (loads_row tr27 (Blk.range hb1508 0 [.int .i64 r45.Kind, .int .i64 r45.Int_, .string r45.Text, .slice A52 r45.Kids.length c53, .slice A55 r45.Keys.length c56, .slice A58 r45.Entries.length c59, .slice A61 r45.Labels.length c62] rfl)) ?_
          refine wpList_nil ?_
          exact ⟨_, _, rfl, rfl, ExtB.refl _ _, Wext.refl _, (Val.rpvMk (v := r45) (((h54.mono hx66.wext).mono hm70.wext).mono hW1501) (((h57.mono hx66.wext).mono hm70.wext).mono hW1501) (((h60.mono hx66.wext).mono hm70.wext).mono hW1501) (((h63.mono hx66.wext).mono hm70.wext).mono hW1501)), ⟨g1506, g1507⟩⟩
        · intro D1510 F1511 s1512 d1513 d1514 d1515 hE1516 hW1517 hG1518 hfr1519 hR1520
          have hE1521 := hE72.trans hE1516
          obtain ⟨g1522, g1523⟩ := hG1518
          have q1524 : F1511 14 = (.bool (r76 == 3)) := hR1520 8 rfl 14 rfl
          have q1525 : RpV s1512 (r45 : Val) (F1511 15) := hR1520 9 rfl 15 rfl
          obtain ⟨A1526, c1527, A1529, c1530, A1532, c1533, A1535, c1536, hv1538, h1528, h1531, h1534, h1537⟩ := Val.rpv q1525
          refine Or.inr ⟨(r76 == 3), (fun d hd => by cases hd; exact q1524), fun _ => ?_, fun h => absurd (hc78 : (r76 == 3) = true) h⟩
          refine r_call [.agg #[.int .i64 r45.Kind, .int .i64 r45.Int_, .string r45.Text, .slice A1526 r45.Kids.length c1527, .slice A1529 r45.Keys.length c1530, .slice A1532 r45.Entries.length c1533, .slice A1535 r45.Labels.length c1536]] (evs1 hv1538) rfl ((ok_value_Validate fuel) _ _ _ _ (Val.rpvMk (v := r45) h1528 h1531 h1534 h1537) e80) ?_
          intro v1540 s1539 hx1541 hr1542
          have hE1543 := hE1521.ext hE1521.size hx1541
          obtain rfl := RpV.int hr1542
          refine wpList_nil ?_
          exact ⟨_, _, rfl, rfl, (ExtB.refl _ _).trans (hx1541.mono hE1521.size), (Wext.refl _).trans hx1541.wext, rfl, ⟨(g1522.ext hx1541), (g1523.ext hx1541)⟩⟩
        · intro D1544 F1545 s1546 d1547 d1548 d1549 hE1550 hW1551 hG1552 hfr1553 hR1554
          have hE1555 := hE72.trans hE1550
          obtain ⟨g1556, g1557⟩ := hG1552
          have q1558 : F1545 14 = (.bool (r76 == 3)) := hR1554 8 rfl 14 rfl
          have q1559 : F1545 16 = (.int .i64 r79) := hR1554 10 rfl 16 rfl
          refine Or.inr ⟨(r76 == 3), (fun d hd => by cases hd; exact q1558), fun _ => ?_, fun h => absurd (hc78 : (r76 == 3) = true) h⟩
          refine r_bin (.int .i64 r79) (.int .i64 0) (.bool (r79 == 0)) q1559 rfl rfl rfl (b_eql) ?_
          refine wpList_nil ?_
          exact ⟨_, _, rfl, rfl, ExtB.refl _ _, Wext.refl _, rfl, ⟨g1556, g1557⟩⟩
        · intro D1560 F1561 s1562 d1563 d1564 d1565 hE1566 hW1567 hG1568 hfr1569 hR1570
          have hE1571 := hE72.trans hE1566
          obtain ⟨g1572, g1573⟩ := hG1568
          have q1574 : F1561 14 = (.bool (r76 == 3)) := hR1570 8 rfl 14 rfl
          have q1575 : F1561 17 = (.bool (r79 == 0)) := hR1570 11 rfl 17 rfl
          refine r_pick_t (c := (r76 == 3)) (.bool (r79 == 0)) q1574 hc78 q1575 rfl rfl rfl ?_
          refine wpList_nil ?_
          exact ⟨_, _, rfl, rfl, ExtB.refl _ _, Wext.refl _, rfl, ⟨g1572, g1573⟩⟩
        · intro D1576 F1577 s1578 d1579 d1580 d1581 hE1582 hW1583 hG1584 hfr1585 hR1586
          have hE1587 := hE72.trans hE1582
          obtain ⟨g1588, g1589⟩ := hG1584
          have q1590 : F1577 18 = (.bool (r79 == 0)) := hR1586 12 rfl 18 rfl
          refine r_move (.bool (r79 == 0)) q1590 rfl ?_
          refine wpList_nil ?_
          exact ⟨_, _, rfl, rfl, ExtB.refl _ _, Wext.refl _, rfl, ⟨g1588, g1589⟩⟩
        · intro D1591 F1592 s1593 d1594 d1595 d1596 hE1597 hW1598 hG1599 hfr1600 hR1601
          obtain ⟨g1603, g1604⟩ := hG1599
          have q1605 : F1592 19 = (.bool (r79 == 0)) := hR1601 13 rfl 19 rfl
          refine Or.inr ⟨(r79 == 0), (fun d hd => by cases hd; exact q1605), fun h => Bool.noConfusion (Eq.trans (Eq.symm (hc81 : (r79 == 0) = false)) h), fun _ => ⟨rfl, ?_⟩⟩
          exact ⟨g1603, g1604⟩
        · intro D1606 F1607 s1608 d1609 d1610 d1611 hE1612 hW1613 hG1614 hfr1615 hR1616
          obtain ⟨g1618, g1619⟩ := hG1614
          have q1620 : F1607 19 = (.bool (r79 == 0)) := hR1616 13 rfl 19 rfl
          have q1621 : F1607 20 = undef := hR1616 14 rfl 20 rfl
          refine Or.inr ⟨(r79 == 0), (fun d hd => by cases hd; exact q1620), fun h => Bool.noConfusion (Eq.trans (Eq.symm (hc81 : (r79 == 0) = false)) h), fun _ => ⟨rfl, ?_⟩⟩
          exact ⟨g1618, g1619⟩
        · intro D1622 F1623 s1624 d1625 d1626 d1627 hE1628 hW1629 hG1630 hfr1631 hR1632
          obtain ⟨g1634, g1635⟩ := hG1630
          have q1636 : F1623 19 = (.bool (r79 == 0)) := hR1632 13 rfl 19 rfl
          have q1637 : F1623 21 = undef := hR1632 15 rfl 21 rfl
          refine Or.inr ⟨(r79 == 0), (fun d hd => by cases hd; exact q1636), fun h => Bool.noConfusion (Eq.trans (Eq.symm (hc81 : (r79 == 0) = false)) h), fun _ => ⟨rfl, ?_⟩⟩
          exact ⟨g1634, g1635⟩
        · intro D1638 F1639 s1640 d1641 d1642 d1643 hE1644 hW1645 hG1646 hfr1647 hR1648
          have hE1649 := hE72.trans hE1644
          obtain ⟨g1650, g1651⟩ := hG1646
          have q1652 : F1639 19 = (.bool (r79 == 0)) := hR1648 13 rfl 19 rfl
          have q1653 : F1639 22 = undef := hR1648 16 rfl 22 rfl
          refine r_pick_f (c := (r79 == 0)) (.bool false) q1652 hc81 rfl rfl rfl rfl ?_
          refine wpList_nil ?_
          exact ⟨_, _, rfl, rfl, ExtB.refl _ _, Wext.refl _, rfl, ⟨g1650, g1651⟩⟩
        · intro D1654 F1655 s1656 d1657 d1658 d1659 hE1660 hW1661 hG1662 hfr1663 hR1664
          have hE1665 := hE72.trans hE1660
          obtain ⟨g1666, g1667⟩ := hG1662
          have q1668 : F1655 23 = (.bool false) := hR1664 17 rfl 23 rfl
          refine r_move (.bool false) q1668 rfl ?_
          refine wpList_nil ?_
          exact ⟨_, _, rfl, rfl, ExtB.refl _ _, Wext.refl _, rfl, ⟨g1666, g1667⟩⟩
        · intro D1669 F1670 s1671 d1672 d1673 d1674 hE1675 hW1676 hG1677 hfr1678 hR1679
          obtain ⟨g1681, g1682⟩ := hG1677
          have q1683 : F1670 24 = (.bool false) := hR1679 18 rfl 24 rfl
          refine Or.inr ⟨false, (fun d hd => by cases hd; exact q1683), fun h => Bool.noConfusion (Eq.trans (Eq.symm (rfl : false = false)) h), fun _ => ⟨rfl, ?_⟩⟩
          exact ⟨g1681, g1682⟩
        · intro D1684 F1685 s1686 d1687 d1688 d1689 hE1690 hW1691 hG1692 hfr1693 hR1694
          obtain ⟨g1696, g1697⟩ := hG1692
          have q1698 : F1685 24 = (.bool false) := hR1694 18 rfl 24 rfl
          refine Or.inr ⟨false, (fun d hd => by cases hd; exact q1698), fun h => Bool.noConfusion (Eq.trans (Eq.symm (rfl : false = false)) h), fun _ => ⟨rfl, ?_⟩⟩
          exact ⟨g1696, g1697⟩
        · intro D1699 F1700 s1701 d1702 d1703 d1704 hE1705 hW1706 hG1707 hfr1708 hR1709
          obtain ⟨g1711, g1712⟩ := hG1707
          have q1713 : F1700 24 = (.bool false) := hR1709 18 rfl 24 rfl
          refine Or.inr ⟨false, (fun d hd => by cases hd; exact q1713), fun h => Bool.noConfusion (Eq.trans (Eq.symm (rfl : false = false)) h), fun _ => ⟨rfl, ?_⟩⟩
          exact ⟨g1711, g1712⟩
        · intro D1714 F1715 s1716 d1717 d1718 d1719 hE1720 hW1721 hG1722 hfr1723 hR1724
          obtain ⟨g1726, g1727⟩ := hG1722
          have q1728 : F1715 24 = (.bool false) := hR1724 18 rfl 24 rfl
          refine Or.inr ⟨false, (fun d hd => by cases hd; exact q1728), fun h => Bool.noConfusion (Eq.trans (Eq.symm (rfl : false = false)) h), fun _ => ⟨rfl, ?_⟩⟩
          exact ⟨g1726, g1727⟩
        · intro D1729 F1730 s1731 d1732 d1733 d1734 hE1735 hW1736 hG1737 hfr1738 hR1739
          obtain ⟨g1741, g1742⟩ := hG1737
          have q1743 : F1730 24 = (.bool false) := hR1739 18 rfl 24 rfl
          have q1744 : F1730 27 = undef := hR1739 21 rfl 27 rfl
          have q1745 : F1730 28 = undef := hR1739 22 rfl 28 rfl
          refine Or.inr ⟨false, (fun d hd => by cases hd; exact q1743), fun h => Bool.noConfusion (Eq.trans (Eq.symm (rfl : false = false)) h), fun _ => ⟨rfl, ?_⟩⟩
          exact ⟨g1741, g1742⟩
        · intro D1746 F1747 s1748 d1749 d1750 d1751 hE1752 hW1753 hG1754 hfr1755 hR1756
          obtain ⟨g1758, g1759⟩ := hG1754
          have q1760 : F1747 24 = (.bool false) := hR1756 18 rfl 24 rfl
          have q1761 : F1747 26 = undef := hR1756 20 rfl 26 rfl
          have q1762 : F1747 29 = undef := hR1756 23 rfl 29 rfl
          refine Or.inr ⟨false, (fun d hd => by cases hd; exact q1760), fun h => Bool.noConfusion (Eq.trans (Eq.symm (rfl : false = false)) h), fun _ => ⟨rfl, ?_⟩⟩
          exact ⟨g1758, g1759⟩
        · intro D1763 F1764 s1765 d1766 d1767 d1768 hE1769 hW1770 hG1771 hfr1772 hR1773
          obtain ⟨g1775, g1776⟩ := hG1771
          have q1777 : F1764 24 = (.bool false) := hR1773 18 rfl 24 rfl
          have q1778 : F1764 25 = undef := hR1773 19 rfl 25 rfl
          have q1779 : F1764 30 = undef := hR1773 24 rfl 30 rfl
          refine Or.inr ⟨false, (fun d hd => by cases hd; exact q1777), fun h => Bool.noConfusion (Eq.trans (Eq.symm (rfl : false = false)) h), fun _ => ⟨rfl, ?_⟩⟩
          exact ⟨g1775, g1776⟩
        · intro D1780 F1781 s1782 d1783 d1784 d1785 hE1786 hW1787 hG1788 hfr1789 hR1790
          have hE1791 := hE72.trans hE1786
          obtain ⟨g1792, g1793⟩ := hG1788
          have q1794 : F1781 24 = (.bool false) := hR1790 18 rfl 24 rfl
          have q1795 : F1781 31 = undef := hR1790 25 rfl 31 rfl
          refine r_pick_f (c := false) (.bool false) q1794 rfl rfl rfl rfl rfl ?_
          refine wpList_nil ?_
          exact ⟨_, _, rfl, rfl, ExtB.refl _ _, Wext.refl _, rfl, ⟨g1792, g1793⟩⟩
        · intro D1796 F1797 s1798 d1799 d1800 d1801 hE1802 hW1803 hG1804 hfr1805 hR1806
          have hE1807 := hE72.trans hE1802
          obtain ⟨g1808, g1809⟩ := hG1804
          have q1810 : F1797 32 = (.bool false) := hR1806 26 rfl 32 rfl
          refine r_assign (.bool false) q1810 rfl ?_
          refine wpList_nil ?_
          exact ⟨_, _, rfl, rfl, ExtB.refl _ _, Wext.refl _, rfl, ⟨g1808, g1809⟩⟩
        · intro F1811 s1812 hE1813 hW1814 hG1815 hfr1816 hR1817
          have hE1818 := hE72.trans hE1813
          obtain ⟨g1819, g1820⟩ := hG1815
          have hb1821 := g1819
          have q1822 : F1811 0 = (.bool false) := hR1817 27 0 rfl
          refine p_then ?_
          refine wp_ret ?_
          obtain rfl := Option.some.inj hf
          refine ret_one (.bool false) rfl ⟨rfl, q1822⟩ hE1818 ?_
          exact (RpV.mkBool _ _)
    · refine wp_draw (B := s0.N) [some 6, some 7, some 8, some 9, some 10, some 11, some 12, some 13, some 14, some 15, some 16, some 17, some 18, some 19, some 20, some 21, some 22, some 23, some 24, some 25, some 26, some 27, some 28, some 29, some 30, some 31, some 32, some 0] [[], [0], [0, 1], [0, 1, 2], [0, 1, 2, 3], [0, 1, 2, 3, 4], [0, 1, 2, 3, 4, 5], [0, 1, 2, 3, 4, 5, 6], [0, 1, 2, 3, 4, 5, 6, 7], [0, 1, 2, 3, 4, 5, 6, 7, 8], [0, 1, 2, 3, 4, 5, 6, 7, 8, 9], [0, 1, 2, 3, 4, 5, 6, 7, 8, 9, 10], [0, 1, 2, 3, 4, 5, 6, 7, 8, 9, 10, 11], [0, 1, 2, 3, 4, 5, 6, 7, 8, 9, 10, 11, 12], [0, 1, 2, 3, 4, 5, 6, 7, 8, 9, 10, 11, 12, 13], [0, 1, 2, 3, 4, 5, 6, 7, 8, 9, 10, 11, 12, 13, 14], [0, 1, 2, 3, 4, 5, 6, 7, 8, 9, 10, 11, 12, 13, 14, 15], [0, 1, 2, 3, 4, 5, 6, 7, 8, 9, 10, 11, 12, 13, 14, 15, 16], [0, 1, 2, 3, 4, 5, 6, 7, 8, 9, 10, 11, 12, 13, 14, 15, 16, 17], [0, 1, 2, 3, 4, 5, 6, 7, 8, 9, 10, 11, 12, 13, 14, 15, 16, 17, 18], [0, 1, 2, 3, 4, 5, 6, 7, 8, 9, 10, 11, 12, 13, 14, 15, 16, 17, 18], [0, 1, 2, 3, 4, 5, 6, 7, 8, 9, 10, 11, 12, 13, 14, 15, 16, 17, 18, 20], [0, 1, 2, 3, 4, 5, 6, 7, 8, 9, 10, 11, 12, 13, 14, 15, 16, 17, 18, 20, 21], [0, 1, 2, 3, 4, 5, 6, 7, 8, 9, 10, 11, 12, 13, 14, 15, 16, 17, 18, 20, 21, 22], [0, 1, 2, 3, 4, 5, 6, 7, 8, 9, 10, 11, 12, 13, 14, 15, 16, 17, 18, 20, 21, 22, 23], [0, 1, 2, 3, 4, 5, 6, 7, 8, 9, 10, 11, 12, 13, 14, 15, 16, 17, 18, 19, 20, 21, 22, 23, 24], [0, 1, 2, 3, 4, 5, 6, 7, 8, 9, 10, 11, 12, 13, 14, 15, 16, 17, 18, 19, 20, 21, 22, 23, 24, 25], [0, 1, 2, 3, 4, 5, 6, 7, 8, 9, 10, 11, 12, 13, 14, 15, 16, 17, 18, 19, 20, 21, 22, 23, 24, 25, 26]] [Fct.data (r45 : Val), Fct.eqv (.int .i64 r73), Fct.eqv (.bool (r73 == 5)), Fct.eqv (.bool (r73 == 5)), Fct.data (r45 : Val), Fct.eqv (.int .i64 r76), Fct.eqv (.bool (r76 == 3)), Fct.eqv (.bool (r76 == 3)), Fct.eqv (.bool (r76 == 3)), Fct.eqv undef, Fct.eqv undef, Fct.eqv undef, Fct.eqv (.bool false), Fct.eqv (.bool false), Fct.eqv undef, Fct.eqv undef, Fct.eqv undef, Fct.eqv (.bool false), Fct.eqv (.bool false), Fct.eqv undef, Fct.eqv undef, Fct.eqv undef, Fct.eqv undef, Fct.eqv undef, Fct.eqv undef, Fct.eqv undef, Fct.eqv (.bool false), Fct.eqv (.bool false)] (fun D F τ => (Blk s0.N 2 τ b64 27 [.int .i64 r45.Kind, .int .i64 r45.Int_, .string r45.Text, .slice A52 r45.Kids.length c53, .slice A55 r45.Keys.length c56, .slice A58 r45.Entries.length c59, .slice A61 r45.Labels.length c62]) ∧ (Own s0.N 1 27 τ [r1, r20] A40 c41)) (by kernel_rfl) rfl (by decide) (by decide) ⟨(hb71.ext (ext_draw _)), ((((ho43.ext hx49).ext hx66).mod hm70 rfl).ext (ext_draw _))⟩ (by decide) (by decide) ⟨?_, ?_, ?_, ?_, ?_, ?_, ?_, ?_, ?_, ?_, ?_, ?_, ?_, ?_, ?_, ?_, ?_, ?_, ?_, ?_, ?_, ?_, ?_, ?_, ?_, ?_, ?_, ?_, trivial⟩ ?_
      · intro D1826 F1827 s1828 d1829 d1830 d1831 hE1832 hW1833 hG1834 hfr1835 hR1836
        have hE1837 := hE72.trans hE1832
        obtain ⟨g1838, g1839⟩ := hG1834
        have hb1840 := g1838
        refine r_load b64 0 (.agg #[.int .i64 r45.Kind, .int .i64 r45.Int_, .string r45.Text, .slice A52 r45.Kids.length c53, .slice A55 r45.Keys.length c56, .slice A58 r45.Entries.length c59, .slice A61 r45.Labels.length c62]) ((hfr1835 1 rfl).trans rfl) rfl (loads_row tr27 (Blk.range hb1840 0 [.int .i64 r45.Kind, .int .i64 r45.Int_, .string r45.Text, .slice A52 r45.Kids.length c53, .slice A55 r45.Keys.length c56, .slice A58 r45.Entries.length c59, .slice A61 r45.Labels.length c62] rfl)) ?_
        refine wpList_nil ?_
        exact ⟨_, _, rfl, rfl, ExtB.refl _ _, Wext.refl _, (Val.rpvMk (v := r45) (((h54.mono hx66.wext).mono hm70.wext).mono hW1833) (((h57.mono hx66.wext).mono hm70.wext).mono hW1833) (((h60.mono hx66.wext).mono hm70.wext).mono hW1833) (((h63.mono hx66.wext).mono hm70.wext).mono hW1833)), ⟨g1838, g1839⟩⟩
      · intro D1841 F1842 s1843 d1844 d1845 d1846 hE1847 hW1848 hG1849 hfr1850 hR1851
        have hE1852 := hE72.trans hE1847
        obtain ⟨g1853, g1854⟩ := hG1849
        have q1855 : RpV s1843 (r45 : Val) (F1842 6) := hR1851 0 rfl 6 rfl
        obtain ⟨A1856, c1857, A1859, c1860, A1862, c1863, A1865, c1866, hv1868, h1858, h1861, h1864, h1867⟩ := Val.rpv q1855
        refine r_call [.agg #[.int .i64 r45.Kind, .int .i64 r45.Int_, .string r45.Text, .slice A1856 r45.Kids.length c1857, .slice A1859 r45.Keys.length c1860, .slice A1862 r45.Entries.length c1863, .slice A1865 r45.Labels.length c1866]] (evs1 hv1868) rfl ((ok_value_Nodes fuel) _ _ _ _ (Val.rpvMk (v := r45) h1858 h1861 h1864 h1867) e74) ?_
        intro v1870 s1869 hx1871 hr1872
        have hE1873 := hE1852.ext hE1852.size hx1871
        obtain rfl := RpV.int hr1872
        refine wpList_nil ?_
        exact ⟨_, _, rfl, rfl, (ExtB.refl _ _).trans (hx1871.mono hE1852.size), (Wext.refl _).trans hx1871.wext, rfl, ⟨(g1853.ext hx1871), (g1854.ext hx1871)⟩⟩
      · intro D1874 F1875 s1876 d1877 d1878 d1879 hE1880 hW1881 hG1882 hfr1883 hR1884
        have hE1885 := hE72.trans hE1880
        obtain ⟨g1886, g1887⟩ := hG1882
        have q1888 : F1875 7 = (.int .i64 r73) := hR1884 1 rfl 7 rfl
        refine r_bin (.int .i64 r73) (.int .i64 5) (.bool (r73 == 5)) q1888 rfl rfl rfl (b_eql) ?_
        refine wpList_nil ?_
        exact ⟨_, _, rfl, rfl, ExtB.refl _ _, Wext.refl _, rfl, ⟨g1886, g1887⟩⟩
      · intro D1889 F1890 s1891 d1892 d1893 d1894 hE1895 hW1896 hG1897 hfr1898 hR1899
        have hE1900 := hE72.trans hE1895
        obtain ⟨g1901, g1902⟩ := hG1897
        have q1903 : F1890 8 = (.bool (r73 == 5)) := hR1899 2 rfl 8 rfl
        refine r_move (.bool (r73 == 5)) q1903 rfl ?_
        refine wpList_nil ?_
        exact ⟨_, _, rfl, rfl, ExtB.refl _ _, Wext.refl _, rfl, ⟨g1901, g1902⟩⟩
      · intro D1904 F1905 s1906 d1907 d1908 d1909 hE1910 hW1911 hG1912 hfr1913 hR1914
        have hE1915 := hE72.trans hE1910
        obtain ⟨g1916, g1917⟩ := hG1912
        have hb1918 := g1916
        have q1919 : F1905 9 = (.bool (r73 == 5)) := hR1914 3 rfl 9 rfl
        refine Or.inr ⟨(r73 == 5), (fun d hd => by cases hd; exact q1919), fun _ => ?_, fun h => absurd (hc75 : (r73 == 5) = true) h⟩
        refine r_load b64 0 (.agg #[.int .i64 r45.Kind, .int .i64 r45.Int_, .string r45.Text, .slice A52 r45.Kids.length c53, .slice A55 r45.Keys.length c56, .slice A58 r45.Entries.length c59, .slice A61 r45.Labels.length c62]) ((hfr1913 1 rfl).trans rfl) rfl (loads_row tr27 (Blk.range hb1918 0 [.int .i64 r45.Kind, .int .i64 r45.Int_, .string r45.Text, .slice A52 r45.Kids.length c53, .slice A55 r45.Keys.length c56, .slice A58 r45.Entries.length c59, .slice A61 r45.Labels.length c62] rfl)) ?_
        refine wpList_nil ?_
        exact ⟨_, _, rfl, rfl, ExtB.refl _ _, Wext.refl _, (Val.rpvMk (v := r45) (((h54.mono hx66.wext).mono hm70.wext).mono hW1911) (((h57.mono hx66.wext).mono hm70.wext).mono hW1911) (((h60.mono hx66.wext).mono hm70.wext).mono hW1911) (((h63.mono hx66.wext).mono hm70.wext).mono hW1911)), ⟨g1916, g1917⟩⟩
      · intro D1920 F1921 s1922 d1923 d1924 d1925 hE1926 hW1927 hG1928 hfr1929 hR1930
        have hE1931 := hE72.trans hE1926
        obtain ⟨g1932, g1933⟩ := hG1928
        have q1934 : F1921 9 = (.bool (r73 == 5)) := hR1930 3 rfl 9 rfl
        have q1935 : RpV s1922 (r45 : Val) (F1921 10) := hR1930 4 rfl 10 rfl
        obtain ⟨A1936, c1937, A1939, c1940, A1942, c1943, A1945, c1946, hv1948, h1938, h1941, h1944, h1947⟩ := Val.rpv q1935
        refine Or.inr ⟨(r73 == 5), (fun d hd => by cases hd; exact q1934), fun _ => ?_, fun h => absurd (hc75 : (r73 == 5) = true) h⟩
        refine r_call [.agg #[.int .i64 r45.Kind, .int .i64 r45.Int_, .string r45.Text, .slice A1936 r45.Kids.length c1937, .slice A1939 r45.Keys.length c1940, .slice A1942 r45.Entries.length c1943, .slice A1945 r45.Labels.length c1946]] (evs1 hv1948) rfl ((ok_value_Height fuel) _ _ _ _ (Val.rpvMk (v := r45) h1938 h1941 h1944 h1947) e77) ?_
        intro v1950 s1949 hx1951 hr1952
        have hE1953 := hE1931.ext hE1931.size hx1951
        obtain rfl := RpV.int hr1952
        refine wpList_nil ?_
        exact ⟨_, _, rfl, rfl, (ExtB.refl _ _).trans (hx1951.mono hE1931.size), (Wext.refl _).trans hx1951.wext, rfl, ⟨(g1932.ext hx1951), (g1933.ext hx1951)⟩⟩
      · intro D1954 F1955 s1956 d1957 d1958 d1959 hE1960 hW1961 hG1962 hfr1963 hR1964
        have hE1965 := hE72.trans hE1960
        obtain ⟨g1966, g1967⟩ := hG1962
        have q1968 : F1955 9 = (.bool (r73 == 5)) := hR1964 3 rfl 9 rfl
        have q1969 : F1955 11 = (.int .i64 r76) := hR1964 5 rfl 11 rfl
        refine Or.inr ⟨(r73 == 5), (fun d hd => by cases hd; exact q1968), fun _ => ?_, fun h => absurd (hc75 : (r73 == 5) = true) h⟩
        refine r_bin (.int .i64 r76) (.int .i64 3) (.bool (r76 == 3)) q1969 rfl rfl rfl (b_eql) ?_
        refine wpList_nil ?_
        exact ⟨_, _, rfl, rfl, ExtB.refl _ _, Wext.refl _, rfl, ⟨g1966, g1967⟩⟩
      · intro D1970 F1971 s1972 d1973 d1974 d1975 hE1976 hW1977 hG1978 hfr1979 hR1980
        have hE1981 := hE72.trans hE1976
        obtain ⟨g1982, g1983⟩ := hG1978
        have q1984 : F1971 9 = (.bool (r73 == 5)) := hR1980 3 rfl 9 rfl
        have q1985 : F1971 12 = (.bool (r76 == 3)) := hR1980 6 rfl 12 rfl
        refine r_pick_t (c := (r73 == 5)) (.bool (r76 == 3)) q1984 hc75 q1985 rfl rfl rfl ?_
        refine wpList_nil ?_
        exact ⟨_, _, rfl, rfl, ExtB.refl _ _, Wext.refl _, rfl, ⟨g1982, g1983⟩⟩
      · intro D1986 F1987 s1988 d1989 d1990 d1991 hE1992 hW1993 hG1994 hfr1995 hR1996
        have hE1997 := hE72.trans hE1992
        obtain ⟨g1998, g1999⟩ := hG1994
        have q2000 : F1987 13 = (.bool (r76 == 3)) := hR1996 7 rfl 13 rfl
        refine r_move (.bool (r76 == 3)) q2000 rfl ?_
        refine wpList_nil ?_
        exact ⟨_, _, rfl, rfl, ExtB.refl _ _, Wext.refl _, rfl, ⟨g1998, g1999⟩⟩
      · intro D2001 F2002 s2003 d2004 d2005 d2006 hE2007 hW2008 hG2009 hfr2010 hR2011
        obtain ⟨g2013, g2014⟩ := hG2009
        have q2015 : F2002 14 = (.bool (r76 == 3)) := hR2011 8 rfl 14 rfl
        refine Or.inr ⟨(r76 == 3), (fun d hd => by cases hd; exact q2015), fun h => Bool.noConfusion (Eq.trans (Eq.symm (hc78 : (r76 == 3) = false)) h), fun _ => ⟨rfl, ?_⟩⟩
        exact ⟨g2013, g2014⟩
      · intro D2016 F2017 s2018 d2019 d2020 d2021 hE2022 hW2023 hG2024 hfr2025 hR2026
        obtain ⟨g2028, g2029⟩ := hG2024
        have q2030 : F2017 14 = (.bool (r76 == 3)) := hR2026 8 rfl 14 rfl
        have q2031 : F2017 15 = undef := hR2026 9 rfl 15 rfl
        refine Or.inr ⟨(r76 == 3), (fun d hd => by cases hd; exact q2030), fun h => Bool.noConfusion (Eq.trans (Eq.symm (hc78 : (r76 == 3) = false)) h), fun _ => ⟨rfl, ?_⟩⟩
        exact ⟨g2028, g2029⟩
      · intro D2032 F2033 s2034 d2035 d2036 d2037 hE2038 hW2039 hG2040 hfr2041 hR2042
        obtain ⟨g2044, g2045⟩ := hG2040
        have q2046 : F2033 14 = (.bool (r76 == 3)) := hR2042 8 rfl 14 rfl
        have q2047 : F2033 16 = undef := hR2042 10 rfl 16 rfl
        refine Or.inr ⟨(r76 == 3), (fun d hd => by cases hd; exact q2046), fun h => Bool.noConfusion (Eq.trans (Eq.symm (hc78 : (r76 == 3) = false)) h), fun _ => ⟨rfl, ?_⟩⟩
        exact ⟨g2044, g2045⟩
      · intro D2048 F2049 s2050 d2051 d2052 d2053 hE2054 hW2055 hG2056 hfr2057 hR2058
        have hE2059 := hE72.trans hE2054
        obtain ⟨g2060, g2061⟩ := hG2056
        have q2062 : F2049 14 = (.bool (r76 == 3)) := hR2058 8 rfl 14 rfl
        have q2063 : F2049 17 = undef := hR2058 11 rfl 17 rfl
        refine r_pick_f (c := (r76 == 3)) (.bool false) q2062 hc78 rfl rfl rfl rfl ?_
        refine wpList_nil ?_
        exact ⟨_, _, rfl, rfl, ExtB.refl _ _, Wext.refl _, rfl, ⟨g2060, g2061⟩⟩
      · intro D2064 F2065 s2066 d2067 d2068 d2069 hE2070 hW2071 hG2072 hfr2073 hR2074
        have hE2075 := hE72.trans hE2070
        obtain ⟨g2076, g2077⟩ := hG2072
        have q2078 : F2065 18 = (.bool false) := hR2074 12 rfl 18 rfl
        refine r_move (.bool false) q2078 rfl ?_
        refine wpList_nil ?_
        exact ⟨_, _, rfl, rfl, ExtB.refl _ _, Wext.refl _, rfl, ⟨g2076, g2077⟩⟩
      · intro D2079 F2080 s2081 d2082 d2083 d2084 hE2085 hW2086 hG2087 hfr2088 hR2089
        obtain ⟨g2091, g2092⟩ := hG2087
        have q2093 : F2080 19 = (.bool false) := hR2089 13 rfl 19 rfl
        refine Or.inr ⟨false, (fun d hd => by cases hd; exact q2093), fun h => Bool.noConfusion (Eq.trans (Eq.symm (rfl : false = false)) h), fun _ => ⟨rfl, ?_⟩⟩
        exact ⟨g2091, g2092⟩
      · intro D2094 F2095 s2096 d2097 d2098 d2099 hE2100 hW2101 hG2102 hfr2103 hR2104
        obtain ⟨g2106, g2107⟩ := hG2102
        have q2108 : F2095 19 = (.bool false) := hR2104 13 rfl 19 rfl
        have q2109 : F2095 20 = undef := hR2104 14 rfl 20 rfl
        refine Or.inr ⟨false, (fun d hd => by cases hd; exact q2108), fun h => Bool.noConfusion (Eq.trans (Eq.symm (rfl : false = false)) h), fun _ => ⟨rfl, ?_⟩⟩
        exact ⟨g2106, g2107⟩
      · intro D2110 F2111 s2112 d2113 d2114 d2115 hE2116 hW2117 hG2118 hfr2119 hR2120
        obtain ⟨g2122, g2123⟩ := hG2118
        have q2124 : F2111 19 = (.bool false) := hR2120 13 rfl 19 rfl
        have q2125 : F2111 21 = undef := hR2120 15 rfl 21 rfl
        refine Or.inr ⟨false, (fun d hd => by cases hd; exact q2124), fun h => Bool.noConfusion (Eq.trans (Eq.symm (rfl : false = false)) h), fun _ => ⟨rfl, ?_⟩⟩
        exact ⟨g2122, g2123⟩
      · intro D2126 F2127 s2128 d2129 d2130 d2131 hE2132 hW2133 hG2134 hfr2135 hR2136
        have hE2137 := hE72.trans hE2132
        obtain ⟨g2138, g2139⟩ := hG2134
        have q2140 : F2127 19 = (.bool false) := hR2136 13 rfl 19 rfl
        have q2141 : F2127 22 = undef := hR2136 16 rfl 22 rfl
        refine r_pick_f (c := false) (.bool false) q2140 rfl rfl rfl rfl rfl ?_
        refine wpList_nil ?_
        exact ⟨_, _, rfl, rfl, ExtB.refl _ _, Wext.refl _, rfl, ⟨g2138, g2139⟩⟩
      · intro D2142 F2143 s2144 d2145 d2146 d2147 hE2148 hW2149 hG2150 hfr2151 hR2152
        have hE2153 := hE72.trans hE2148
        obtain ⟨g2154, g2155⟩ := hG2150
        have q2156 : F2143 23 = (.bool false) := hR2152 17 rfl 23 rfl
        refine r_move (.bool false) q2156 rfl ?_
        refine wpList_nil ?_
        exact ⟨_, _, rfl, rfl, ExtB.refl _ _, Wext.refl _, rfl, ⟨g2154, g2155⟩⟩
      · intro D2157 F2158 s2159 d2160 d2161 d2162 hE2163 hW2164 hG2165 hfr2166 hR2167
        obtain ⟨g2169, g2170⟩ := hG2165
        have q2171 : F2158 24 = (.bool false) := hR2167 18 rfl 24 rfl
        refine Or.inr ⟨false, (fun d hd => by cases hd; exact q2171), fun h => Bool.noConfusion (Eq.trans (Eq.symm (rfl : false = false)) h), fun _ => ⟨rfl, ?_⟩⟩
        exact ⟨g2169, g2170⟩
      · intro D2172 F2173 s2174 d2175 d2176 d2177 hE2178 hW2179 hG2180 hfr2181 hR2182
        obtain ⟨g2184, g2185⟩ := hG2180
        have q2186 : F2173 24 = (.bool false) := hR2182 18 rfl 24 rfl
        refine Or.inr ⟨false, (fun d hd => by cases hd; exact q2186), fun h => Bool.noConfusion (Eq.trans (Eq.symm (rfl : false = false)) h), fun _ => ⟨rfl, ?_⟩⟩
        exact ⟨g2184, g2185⟩
      · intro D2187 F2188 s2189 d2190 d2191 d2192 hE2193 hW2194 hG2195 hfr2196 hR2197
        obtain ⟨g2199, g2200⟩ := hG2195
        have q2201 : F2188 24 = (.bool false) := hR2197 18 rfl 24 rfl
        refine Or.inr ⟨false, (fun d hd => by cases hd; exact q2201), fun h => Bool.noConfusion (Eq.trans (Eq.symm (rfl : false = false)) h), fun _ => ⟨rfl, ?_⟩⟩
        exact ⟨g2199, g2200⟩
      · intro D2202 F2203 s2204 d2205 d2206 d2207 hE2208 hW2209 hG2210 hfr2211 hR2212
        obtain ⟨g2214, g2215⟩ := hG2210
        have q2216 : F2203 24 = (.bool false) := hR2212 18 rfl 24 rfl
        refine Or.inr ⟨false, (fun d hd => by cases hd; exact q2216), fun h => Bool.noConfusion (Eq.trans (Eq.symm (rfl : false = false)) h), fun _ => ⟨rfl, ?_⟩⟩
        exact ⟨g2214, g2215⟩
      · intro D2217 F2218 s2219 d2220 d2221 d2222 hE2223 hW2224 hG2225 hfr2226 hR2227
        obtain ⟨g2229, g2230⟩ := hG2225
        have q2231 : F2218 24 = (.bool false) := hR2227 18 rfl 24 rfl
        have q2232 : F2218 27 = undef := hR2227 21 rfl 27 rfl
        have q2233 : F2218 28 = undef := hR2227 22 rfl 28 rfl
        refine Or.inr ⟨false, (fun d hd => by cases hd; exact q2231), fun h => Bool.noConfusion (Eq.trans (Eq.symm (rfl : false = false)) h), fun _ => ⟨rfl, ?_⟩⟩
        exact ⟨g2229, g2230⟩
      · intro D2234 F2235 s2236 d2237 d2238 d2239 hE2240 hW2241 hG2242 hfr2243 hR2244
        obtain ⟨g2246, g2247⟩ := hG2242
        have q2248 : F2235 24 = (.bool false) := hR2244 18 rfl 24 rfl
        have q2249 : F2235 26 = undef := hR2244 20 rfl 26 rfl
        have q2250 : F2235 29 = undef := hR2244 23 rfl 29 rfl
        refine Or.inr ⟨false, (fun d hd => by cases hd; exact q2248), fun h => Bool.noConfusion (Eq.trans (Eq.symm (rfl : false = false)) h), fun _ => ⟨rfl, ?_⟩⟩
        exact ⟨g2246, g2247⟩
      · intro D2251 F2252 s2253 d2254 d2255 d2256 hE2257 hW2258 hG2259 hfr2260 hR2261
        obtain ⟨g2263, g2264⟩ := hG2259
        have q2265 : F2252 24 = (.bool false) := hR2261 18 rfl 24 rfl
        have q2266 : F2252 25 = undef := hR2261 19 rfl 25 rfl
        have q2267 : F2252 30 = undef := hR2261 24 rfl 30 rfl
        refine Or.inr ⟨false, (fun d hd => by cases hd; exact q2265), fun h => Bool.noConfusion (Eq.trans (Eq.symm (rfl : false = false)) h), fun _ => ⟨rfl, ?_⟩⟩
        exact ⟨g2263, g2264⟩
      · intro D2268 F2269 s2270 d2271 d2272 d2273 hE2274 hW2275 hG2276 hfr2277 hR2278
        have hE2279 := hE72.trans hE2274
        obtain ⟨g2280, g2281⟩ := hG2276
        have q2282 : F2269 24 = (.bool false) := hR2278 18 rfl 24 rfl
        have q2283 : F2269 31 = undef := hR2278 25 rfl 31 rfl
        refine r_pick_f (c := false) (.bool false) q2282 rfl rfl rfl rfl rfl ?_
        refine wpList_nil ?_
        exact ⟨_, _, rfl, rfl, ExtB.refl _ _, Wext.refl _, rfl, ⟨g2280, g2281⟩⟩
      · intro D2284 F2285 s2286 d2287 d2288 d2289 hE2290 hW2291 hG2292 hfr2293 hR2294
        have hE2295 := hE72.trans hE2290
        obtain ⟨g2296, g2297⟩ := hG2292
        have q2298 : F2285 32 = (.bool false) := hR2294 26 rfl 32 rfl
        refine r_assign (.bool false) q2298 rfl ?_
        refine wpList_nil ?_
        exact ⟨_, _, rfl, rfl, ExtB.refl _ _, Wext.refl _, rfl, ⟨g2296, g2297⟩⟩
      · intro F2299 s2300 hE2301 hW2302 hG2303 hfr2304 hR2305
        have hE2306 := hE72.trans hE2301
        obtain ⟨g2307, g2308⟩ := hG2303
        have hb2309 := g2307
        have q2310 : F2299 0 = (.bool false) := hR2305 27 0 rfl
        refine p_then ?_
        refine wp_ret ?_
        obtain rfl := Option.some.inj hf
        refine ret_one (.bool false) rfl ⟨rfl, q2310⟩ hE2306 ?_
        exact (RpV.mkBool _ _)
  · refine wp_draw (B := s0.N) [some 6, some 7, some 8, some 9, some 10, some 11, some 12, some 13, some 14, some 15, some 16, some 17, some 18, some 19, some 20, some 21, some 22, some 23, some 24, some 25, some 26, some 27, some 28, some 29, some 30, some 31, some 32, some 0] [[], [0], [0, 1], [0, 1, 2], [0, 1, 2, 3], [0, 1, 2, 3, 4], [0, 1, 2, 3, 4, 5], [0, 1, 2, 3, 4, 5, 6], [0, 1, 2, 3, 4, 5, 6, 7], [0, 1, 2, 3, 4, 5, 6, 7, 8], [0, 1, 2, 3, 4, 5, 6, 7, 8, 9], [0, 1, 2, 3, 4, 5, 6, 7, 8, 9, 10], [0, 1, 2, 3, 4, 5, 6, 7, 8, 9, 10, 11], [0, 1, 2, 3, 4, 5, 6, 7, 8, 9, 10, 11, 12], [0, 1, 2, 3, 4, 5, 6, 7, 8, 9, 10, 11, 12, 13], [0, 1, 2, 3, 4, 5, 6, 7, 8, 9, 10, 11, 12, 13, 14], [0, 1, 2, 3, 4, 5, 6, 7, 8, 9, 10, 11, 12, 13, 14, 15], [0, 1, 2, 3, 4, 5, 6, 7, 8, 9, 10, 11, 12, 13, 14, 15, 16], [0, 1, 2, 3, 4, 5, 6, 7, 8, 9, 10, 11, 12, 13, 14, 15, 16, 17], [0, 1, 2, 3, 4, 5, 6, 7, 8, 9, 10, 11, 12, 13, 14, 15, 16, 17, 18], [0, 1, 2, 3, 4, 5, 6, 7, 8, 9, 10, 11, 12, 13, 14, 15, 16, 17, 18], [0, 1, 2, 3, 4, 5, 6, 7, 8, 9, 10, 11, 12, 13, 14, 15, 16, 17, 18, 20], [0, 1, 2, 3, 4, 5, 6, 7, 8, 9, 10, 11, 12, 13, 14, 15, 16, 17, 18, 20, 21], [0, 1, 2, 3, 4, 5, 6, 7, 8, 9, 10, 11, 12, 13, 14, 15, 16, 17, 18, 20, 21, 22], [0, 1, 2, 3, 4, 5, 6, 7, 8, 9, 10, 11, 12, 13, 14, 15, 16, 17, 18, 20, 21, 22, 23], [0, 1, 2, 3, 4, 5, 6, 7, 8, 9, 10, 11, 12, 13, 14, 15, 16, 17, 18, 19, 20, 21, 22, 23, 24], [0, 1, 2, 3, 4, 5, 6, 7, 8, 9, 10, 11, 12, 13, 14, 15, 16, 17, 18, 19, 20, 21, 22, 23, 24, 25], [0, 1, 2, 3, 4, 5, 6, 7, 8, 9, 10, 11, 12, 13, 14, 15, 16, 17, 18, 19, 20, 21, 22, 23, 24, 25, 26]] [Fct.data (r45 : Val), Fct.eqv (.int .i64 r73), Fct.eqv (.bool (r73 == 5)), Fct.eqv (.bool (r73 == 5)), Fct.eqv undef, Fct.eqv undef, Fct.eqv undef, Fct.eqv (.bool false), Fct.eqv (.bool false), Fct.eqv undef, Fct.eqv undef, Fct.eqv undef, Fct.eqv (.bool false), Fct.eqv (.bool false), Fct.eqv undef, Fct.eqv undef, Fct.eqv undef, Fct.eqv (.bool false), Fct.eqv (.bool false), Fct.eqv undef, Fct.eqv undef, Fct.eqv undef, Fct.eqv undef, Fct.eqv undef, Fct.eqv undef, Fct.eqv undef, Fct.eqv (.bool false), Fct.eqv (.bool false)] (fun D F τ => (Blk s0.N 2 τ b64 27 [.int .i64 r45.Kind, .int .i64 r45.Int_, .string r45.Text, .slice A52 r45.Kids.length c53, .slice A55 r45.Keys.length c56, .slice A58 r45.Entries.length c59, .slice A61 r45.Labels.length c62]) ∧ (Own s0.N 1 27 τ [r1, r20] A40 c41)) (by kernel_rfl) rfl (by decide) (by decide) ⟨(hb71.ext (ext_draw _)), ((((ho43.ext hx49).ext hx66).mod hm70 rfl).ext (ext_draw _))⟩ (by decide) (by decide) ⟨?_, ?_, ?_, ?_, ?_, ?_, ?_, ?_, ?_, ?_, ?_, ?_, ?_, ?_, ?_, ?_, ?_, ?_, ?_, ?_, ?_, ?_, ?_, ?_, ?_, ?_, ?_, ?_, trivial⟩ ?_
    · intro D2314 F2315 s2316 d2317 d2318 d2319 hE2320 hW2321 hG2322 hfr2323 hR2324
      have hE2325 := hE72.trans hE2320
      obtain ⟨g2326, g2327⟩ := hG2322
      have hb2328 := g2326
      refine r_load b64 0 (.agg #[.int .i64 r45.Kind, .int .i64 r45.Int_, .string r45.Text, .slice A52 r45.Kids.length c53, .slice A55 r45.Keys.length c56, .slice A58 r45.Entries.length c59, .slice A61 r45.Labels.length c62]) ((hfr2323 1 rfl).trans rfl) rfl (loads_row tr27 (Blk.range hb2328 0 [.int .i64 r45.Kind, .int .i64 r45.Int_, .string r45.Text, .slice A52 r45.Kids.length c53, .slice A55 r45.Keys.length c56, .slice A58 r45.Entries.length c59, .slice A61 r45.Labels.length c62] rfl)) ?_
      refine wpList_nil ?_
      exact ⟨_, _, rfl, rfl, ExtB.refl _ _, Wext.refl _, (Val.rpvMk (v := r45) (((h54.mono hx66.wext).mono hm70.wext).mono hW2321) (((h57.mono hx66.wext).mono hm70.wext).mono hW2321) (((h60.mono hx66.wext).mono hm70.wext).mono hW2321) (((h63.mono hx66.wext).mono hm70.wext).mono hW2321)), ⟨g2326, g2327⟩⟩
    · intro D2329 F2330 s2331 d2332 d2333 d2334 hE2335 hW2336 hG2337 hfr2338 hR2339
      have hE2340 := hE72.trans hE2335
      obtain ⟨g2341, g2342⟩ := hG2337
      have q2343 : RpV s2331 (r45 : Val) (F2330 6) := hR2339 0 rfl 6 rfl
      obtain ⟨A2344, c2345, A2347, c2348, A2350, c2351, A2353, c2354, hv2356, h2346, h2349, h2352, h2355⟩ := Val.rpv q2343
      refine r_call [.agg #[.int .i64 r45.Kind, .int .i64 r45.Int_, .string r45.Text, .slice A2344 r45.Kids.length c2345, .slice A2347 r45.Keys.length c2348, .slice A2350 r45.Entries.length c2351, .slice A2353 r45.Labels.length c2354]] (evs1 hv2356) rfl ((ok_value_Nodes fuel) _ _ _ _ (Val.rpvMk (v := r45) h2346 h2349 h2352 h2355) e74) ?_
      intro v2358 s2357 hx2359 hr2360
      have hE2361 := hE2340.ext hE2340.size hx2359
      obtain rfl := RpV.int hr2360
      refine wpList_nil ?_
      exact ⟨_, _, rfl, rfl, (ExtB.refl _ _).trans (hx2359.mono hE2340.size), (Wext.refl _).trans hx2359.wext, rfl, ⟨(g2341.ext hx2359), (g2342.ext hx2359)⟩⟩
    · intro D2362 F2363 s2364 d2365 d2366 d2367 hE2368 hW2369 hG2370 hfr2371 hR2372
      have hE2373 := hE72.trans hE2368
      obtain ⟨g2374, g2375⟩ := hG2370
      have q2376 : F2363 7 = (.int .i64 r73) := hR2372 1 rfl 7 rfl
      refine r_bin (.int .i64 r73) (.int .i64 5) (.bool (r73 == 5)) q2376 rfl rfl rfl (b_eql) ?_
      refine wpList_nil ?_
      exact ⟨_, _, rfl, rfl, ExtB.refl _ _, Wext.refl _, rfl, ⟨g2374, g2375⟩⟩
    · intro D2377 F2378 s2379 d2380 d2381 d2382 hE2383 hW2384 hG2385 hfr2386 hR2387
      have hE2388 := hE72.trans hE2383
      obtain ⟨g2389, g2390⟩ := hG2385
      have q2391 : F2378 8 = (.bool (r73 == 5)) := hR2387 2 rfl 8 rfl
      refine r_move (.bool (r73 == 5)) q2391 rfl ?_
      refine wpList_nil ?_
      exact ⟨_, _, rfl, rfl, ExtB.refl _ _, Wext.refl _, rfl, ⟨g2389, g2390⟩⟩
    · intro D2392 F2393 s2394 d2395 d2396 d2397 hE2398 hW2399 hG2400 hfr2401 hR2402
      obtain ⟨g2404, g2405⟩ := hG2400
      have q2406 : F2393 9 = (.bool (r73 == 5)) := hR2402 3 rfl 9 rfl
      refine Or.inr ⟨(r73 == 5), (fun d hd => by cases hd; exact q2406), fun h => Bool.noConfusion (Eq.trans (Eq.symm (hc75 : (r73 == 5) = false)) h), fun _ => ⟨rfl, ?_⟩⟩
      exact ⟨g2404, g2405⟩
    · intro D2407 F2408 s2409 d2410 d2411 d2412 hE2413 hW2414 hG2415 hfr2416 hR2417
      obtain ⟨g2419, g2420⟩ := hG2415
      have q2421 : F2408 9 = (.bool (r73 == 5)) := hR2417 3 rfl 9 rfl
      have q2422 : F2408 10 = undef := hR2417 4 rfl 10 rfl
      refine Or.inr ⟨(r73 == 5), (fun d hd => by cases hd; exact q2421), fun h => Bool.noConfusion (Eq.trans (Eq.symm (hc75 : (r73 == 5) = false)) h), fun _ => ⟨rfl, ?_⟩⟩
      exact ⟨g2419, g2420⟩
    · intro D2423 F2424 s2425 d2426 d2427 d2428 hE2429 hW2430 hG2431 hfr2432 hR2433
      obtain ⟨g2435, g2436⟩ := hG2431
      have q2437 : F2424 9 = (.bool (r73 == 5)) := hR2433 3 rfl 9 rfl
      have q2438 : F2424 11 = undef := hR2433 5 rfl 11 rfl
      refine Or.inr ⟨(r73 == 5), (fun d hd => by cases hd; exact q2437), fun h => Bool.noConfusion (Eq.trans (Eq.symm (hc75 : (r73 == 5) = false)) h), fun _ => ⟨rfl, ?_⟩⟩
      exact ⟨g2435, g2436⟩
    · intro D2439 F2440 s2441 d2442 d2443 d2444 hE2445 hW2446 hG2447 hfr2448 hR2449
      have hE2450 := hE72.trans hE2445
      obtain ⟨g2451, g2452⟩ := hG2447
      have q2453 : F2440 9 = (.bool (r73 == 5)) := hR2449 3 rfl 9 rfl
      have q2454 : F2440 12 = undef := hR2449 6 rfl 12 rfl
      refine r_pick_f (c := (r73 == 5)) (.bool false) q2453 hc75 rfl rfl rfl rfl ?_
      refine wpList_nil ?_
      exact ⟨_, _, rfl, rfl, ExtB.refl _ _, Wext.refl _, rfl, ⟨g2451, g2452⟩⟩
    · intro D2455 F2456 s2457 d2458 d2459 d2460 hE2461 hW2462 hG2463 hfr2464 hR2465
      have hE2466 := hE72.trans hE2461
      obtain ⟨g2467, g2468⟩ := hG2463
      have q2469 : F2456 13 = (.bool false) := hR2465 7 rfl 13 rfl
      refine r_move (.bool false) q2469 rfl ?_
      refine wpList_nil ?_
      exact ⟨_, _, rfl, rfl, ExtB.refl _ _, Wext.refl _, rfl, ⟨g2467, g2468⟩⟩
    · intro D2470 F2471 s2472 d2473 d2474 d2475 hE2476 hW2477 hG2478 hfr2479 hR2480
      obtain ⟨g2482, g2483⟩ := hG2478
      have q2484 : F2471 14 = (.bool false) := hR2480 8 rfl 14 rfl
      refine Or.inr ⟨false, (fun d hd => by cases hd; exact q2484), fun h => Bool.noConfusion (Eq.trans (Eq.symm (rfl : false = false)) h), fun _ => ⟨rfl, ?_⟩⟩
      exact ⟨g2482, g2483⟩
    · intro D2485 F2486 s2487 d2488 d2489 d2490 hE2491 hW2492 hG2493 hfr2494 hR2495
      obtain ⟨g2497, g2498⟩ := hG2493
      have q2499 : F2486 14 = (.bool false) := hR2495 8 rfl 14 rfl
      have q2500 : F2486 15 = undef := hR2495 9 rfl 15 rfl
      refine Or.inr ⟨false, (fun d hd => by cases hd; exact q2499), fun h => Bool.noConfusion (Eq.trans (Eq.symm (rfl : false = false)) h), fun _ => ⟨rfl, ?_⟩⟩
      exact ⟨g2497, g2498⟩
    · intro D2501 F2502 s2503 d2504 d2505 d2506 hE2507 hW2508 hG2509 hfr2510 hR2511
      obtain ⟨g2513, g2514⟩ := hG2509
      have q2515 : F2502 14 = (.bool false) := hR2511 8 rfl 14 rfl
      have q2516 : F2502 16 = undef := hR2511 10 rfl 16 rfl
      refine Or.inr ⟨false, (fun d hd => by cases hd; exact q2515), fun h => Bool.noConfusion (Eq.trans (Eq.symm (rfl : false = false)) h), fun _ => ⟨rfl, ?_⟩⟩
      exact ⟨g2513, g2514⟩
    · intro D2517 F2518 s2519 d2520 d2521 d2522 hE2523 hW2524 hG2525 hfr2526 hR2527
      have hE2528 := hE72.trans hE2523
      obtain ⟨g2529, g2530⟩ := hG2525
      have q2531 : F2518 14 = (.bool false) := hR2527 8 rfl 14 rfl
      have q2532 : F2518 17 = undef := hR2527 11 rfl 17 rfl
      refine r_pick_f (c := false) (.bool false) q2531 rfl rfl rfl rfl rfl ?_
      refine wpList_nil ?_
      exact ⟨_, _, rfl, rfl, ExtB.refl _ _, Wext.refl _, rfl, ⟨g2529, g2530⟩⟩
    · intro D2533 F2534 s2535 d2536 d2537 d2538 hE2539 hW2540 hG2541 hfr2542 hR2543
      have hE2544 := hE72.trans hE2539
      obtain ⟨g2545, g2546⟩ := hG2541
      have q2547 : F2534 18 = (.bool false) := hR2543 12 rfl 18 rfl
      refine r_move (.bool false) q2547 rfl ?_
      refine wpList_nil ?_
      exact ⟨_, _, rfl, rfl, ExtB.refl _ _, Wext.refl _, rfl, ⟨g2545, g2546⟩⟩
    · intro D2548 F2549 s2550 d2551 d2552 d2553 hE2554 hW2555 hG2556 hfr2557 hR2558
      obtain ⟨g2560, g2561⟩ := hG2556
      have q2562 : F2549 19 = (.bool false) := hR2558 13 rfl 19 rfl
      refine Or.inr ⟨false, (fun d hd => by cases hd; exact q2562), fun h => Bool.noConfusion (Eq.trans (Eq.symm (rfl : false = false)) h), fun _ => ⟨rfl, ?_⟩⟩
      exact ⟨g2560, g2561⟩
    · intro D2563 F2564 s2565 d2566 d2567 d2568 hE2569 hW2570 hG2571 hfr2572 hR2573
      obtain ⟨g2575, g2576⟩ := hG2571
      have q2577 : F2564 19 = (.bool false) := hR2573 13 rfl 19 rfl
      have q2578 : F2564 20 = undef := hR2573 14 rfl 20 rfl
      refine Or.inr ⟨false, (fun d hd => by cases hd; exact q2577), fun h => Bool.noConfusion (Eq.trans (Eq.symm (rfl : false = false)) h), fun _ => ⟨rfl, ?_⟩⟩
      exact ⟨g2575, g2576⟩
    · intro D2579 F2580 s2581 d2582 d2583 d2584 hE2585 hW2586 hG2587 hfr2588 hR2589
      obtain ⟨g2591, g2592⟩ := hG2587
      have q2593 : F2580 19 = (.bool false) := hR2589 13 rfl 19 rfl
      have q2594 : F2580 21 = undef := hR2589 15 rfl 21 rfl
      refine Or.inr ⟨false, (fun d hd => by cases hd; exact q2593), fun h => Bool.noConfusion (Eq.trans (Eq.symm (rfl : false = false)) h), fun _ => ⟨rfl, ?_⟩⟩
      exact ⟨g2591, g2592⟩
    · intro D2595 F2596 s2597 d2598 d2599 d2600 hE2601 hW2602 hG2603 hfr2604 hR2605
      have hE2606 := hE72.trans hE2601
      obtain ⟨g2607, g2608⟩ := hG2603
      have q2609 : F2596 19 = (.bool false) := hR2605 13 rfl 19 rfl
      have q2610 : F2596 22 = undef := hR2605 16 rfl 22 rfl
      refine r_pick_f (c := false) (.bool false) q2609 rfl rfl rfl rfl rfl ?_
      refine wpList_nil ?_
      exact ⟨_, _, rfl, rfl, ExtB.refl _ _, Wext.refl _, rfl, ⟨g2607, g2608⟩⟩
    · intro D2611 F2612 s2613 d2614 d2615 d2616 hE2617 hW2618 hG2619 hfr2620 hR2621
      have hE2622 := hE72.trans hE2617
      obtain ⟨g2623, g2624⟩ := hG2619
      have q2625 : F2612 23 = (.bool false) := hR2621 17 rfl 23 rfl
      refine r_move (.bool false) q2625 rfl ?_
      refine wpList_nil ?_
      exact ⟨_, _, rfl, rfl, ExtB.refl _ _, Wext.refl _, rfl, ⟨g2623, g2624⟩⟩
    · intro D2626 F2627 s2628 d2629 d2630 d2631 hE2632 hW2633 hG2634 hfr2635 hR2636
      obtain ⟨g2638, g2639⟩ := hG2634
      have q2640 : F2627 24 = (.bool false) := hR2636 18 rfl 24 rfl
      refine Or.inr ⟨false, (fun d hd => by cases hd; exact q2640), fun h => Bool.noConfusion (Eq.trans (Eq.symm (rfl : false = false)) h), fun _ => ⟨rfl, ?_⟩⟩
      exact ⟨g2638, g2639⟩
    · intro D2641 F2642 s2643 d2644 d2645 d2646 hE2647 hW2648 hG2649 hfr2650 hR2651
      obtain ⟨g2653, g2654⟩ := hG2649
      have q2655 : F2642 24 = (.bool false) := hR2651 18 rfl 24 rfl
      refine Or.inr ⟨false, (fun d hd => by cases hd; exact q2655), fun h => Bool.noConfusion (Eq.trans (Eq.symm (rfl : false = false)) h), fun _ => ⟨rfl, ?_⟩⟩
      exact ⟨g2653, g2654⟩
    · intro D2656 F2657 s2658 d2659 d2660 d2661 hE2662 hW2663 hG2664 hfr2665 hR2666
      obtain ⟨g2668, g2669⟩ := hG2664
      have q2670 : F2657 24 = (.bool false) := hR2666 18 rfl 24 rfl
      refine Or.inr ⟨false, (fun d hd => by cases hd; exact q2670), fun h => Bool.noConfusion (Eq.trans (Eq.symm (rfl : false = false)) h), fun _ => ⟨rfl, ?_⟩⟩
      exact ⟨g2668, g2669⟩
    · intro D2671 F2672 s2673 d2674 d2675 d2676 hE2677 hW2678 hG2679 hfr2680 hR2681
      obtain ⟨g2683, g2684⟩ := hG2679
      have q2685 : F2672 24 = (.bool false) := hR2681 18 rfl 24 rfl
      refine Or.inr ⟨false, (fun d hd => by cases hd; exact q2685), fun h => Bool.noConfusion (Eq.trans (Eq.symm (rfl : false = false)) h), fun _ => ⟨rfl, ?_⟩⟩
      exact ⟨g2683, g2684⟩
    · intro D2686 F2687 s2688 d2689 d2690 d2691 hE2692 hW2693 hG2694 hfr2695 hR2696
      obtain ⟨g2698, g2699⟩ := hG2694
      have q2700 : F2687 24 = (.bool false) := hR2696 18 rfl 24 rfl
      have q2701 : F2687 27 = undef := hR2696 21 rfl 27 rfl
      have q2702 : F2687 28 = undef := hR2696 22 rfl 28 rfl
      refine Or.inr ⟨false, (fun d hd => by cases hd; exact q2700), fun h => Bool.noConfusion (Eq.trans (Eq.symm (rfl : false = false)) h), fun _ => ⟨rfl, ?_⟩⟩
      exact ⟨g2698, g2699⟩
    · intro D2703 F2704 s2705 d2706 d2707 d2708 hE2709 hW2710 hG2711 hfr2712 hR2713
      obtain ⟨g2715, g2716⟩ := hG2711
      have q2717 : F2704 24 = (.bool false) := hR2713 18 rfl 24 rfl
      have q2718 : F2704 26 = undef := hR2713 20 rfl 26 rfl
      have q2719 : F2704 29 = undef := hR2713 23 rfl 29 rfl
      refine Or.inr ⟨false, (fun d hd => by cases hd; exact q2717), fun h => Bool.noConfusion (Eq.trans (Eq.symm (rfl : false = false)) h), fun _ => ⟨rfl, ?_⟩⟩
      exact ⟨g2715, g2716⟩
    · intro D2720 F2721 s2722 d2723 d2724 d2725 hE2726 hW2727 hG2728 hfr2729 hR2730
      obtain ⟨g2732, g2733⟩ := hG2728
      have q2734 : F2721 24 = (.bool false) := hR2730 18 rfl 24 rfl
      have q2735 : F2721 25 = undef := hR2730 19 rfl 25 rfl
      have q2736 : F2721 30 = undef := hR2730 24 rfl 30 rfl
      refine Or.inr ⟨false, (fun d hd => by cases hd; exact q2734), fun h => Bool.noConfusion (Eq.trans (Eq.symm (rfl : false = false)) h), fun _ => ⟨rfl, ?_⟩⟩
      exact ⟨g2732, g2733⟩
    · intro D2737 F2738 s2739 d2740 d2741 d2742 hE2743 hW2744 hG2745 hfr2746 hR2747
      have hE2748 := hE72.trans hE2743
      obtain ⟨g2749, g2750⟩ := hG2745
      have q2751 : F2738 24 = (.bool false) := hR2747 18 rfl 24 rfl
      have q2752 : F2738 31 = undef := hR2747 25 rfl 31 rfl
      refine r_pick_f (c := false) (.bool false) q2751 rfl rfl rfl rfl rfl ?_
      refine wpList_nil ?_
      exact ⟨_, _, rfl, rfl, ExtB.refl _ _, Wext.refl _, rfl, ⟨g2749, g2750⟩⟩
    · intro D2753 F2754 s2755 d2756 d2757 d2758 hE2759 hW2760 hG2761 hfr2762 hR2763
      have hE2764 := hE72.trans hE2759
      obtain ⟨g2765, g2766⟩ := hG2761
      have q2767 : F2754 32 = (.bool false) := hR2763 26 rfl 32 rfl
      refine r_assign (.bool false) q2767 rfl ?_
      refine wpList_nil ?_
      exact ⟨_, _, rfl, rfl, ExtB.refl _ _, Wext.refl _, rfl, ⟨g2765, g2766⟩⟩
    · intro F2768 s2769 hE2770 hW2771 hG2772 hfr2773 hR2774
      have hE2775 := hE72.trans hE2770
      obtain ⟨g2776, g2777⟩ := hG2772
      have hb2778 := g2776
      have q2779 : F2768 0 = (.bool false) := hR2774 27 0 rfl
      refine p_then ?_
      refine wp_ret ?_
      obtain rfl := Option.some.inj hf
      refine ret_one (.bool false) rfl ⟨rfl, q2779⟩ hE2775 ?_
      exact (RpV.mkBool _ _)

def S_value_Tuple (f : ((List Val) → Option Val)) : Prop := ∀ (s0 : S) (v0 : Value) (a0 : (List Val)) (r : Val), RpV s0 a0 v0 → f a0 = some r → Ctr Go.Proofs.Try.prog 15 [v0] s0 (fun v τ => RpV τ r v)

set_option maxHeartbeats 1600000 in
set_option maxRecDepth 100000 in
theorem ok_value_Tuple (fuel : Nat) : S_value_Tuple (value_Tuple fuel) := by
  intro s0 v0 a0 r h0 hf
  obtain ⟨A1, c2, rfl, h3⟩ := RpV.list h0
  unfold value_Tuple at hf
  have hE0 : ExtB s0.N s0 s0 := ExtB.refl _ _
  refine ctr_of 6 Go.Proofs.Try.func15 rfl rfl rfl rfl ?_
  refine wp_seq ?_
  refine wp_region_lit ?_
  refine r_alloc (B := s0.N) 1 hE0.size _ [.int .i64 0, .int .i64 0, .string (⟨#[]⟩), .slice none ([] : List Val).length 0, .slice none ([] : List Key).length 0, .slice none ([] : List Ent).length 0, .slice none ([] : List ByteArray).length 0] ti27 rfl ?_
  intro s5 b4 hx6 hb7
  have hE8 := hE0.ext hE0.size hx6
  refine wpList_nil ?_
  refine p_then ?_
  refine wp_seq ?_
  refine wp_region_lit ?_
  refine r_move (.slice A1 a0.length c2) rfl rfl ?_
  obtain ⟨r9, e10, hf⟩ := bind_some hf
  refine r_call [.slice A1 a0.length c2] (evs1 rfl) rfl ((ok_value_cloneAll fuel) _ _ _ _ (RpV.mkList (h3.mono hx6.wext)) e10) ?_
  intro v12 s11 hx13 hr14
  have hE15 := hE8.ext hE8.size hx13
  obtain ⟨A16, c17, rfl, h18⟩ := RpV.list hr14
  refine r_build tst27 [(0, .int .i64 6), (3, .slice A16 r9.length c17)] [.int .i64 6, .int .i64 0, .string (⟨#[]⟩), .slice A16 r9.length c17, .slice none ([] : List Key).length 0, .slice none ([] : List Ent).length 0, .slice none ([] : List ByteArray).length 0] (eps_cons rfl (eps_cons rfl eps_nil)) rfl rfl ?_
  refine r_store (hb7.ext hx13) 0 (.agg #[.int .i64 6, .int .i64 0, .string (⟨#[]⟩), .slice A16 r9.length c17, .slice none ([] : List Key).length 0, .slice none ([] : List Ent).length 0, .slice none ([] : List ByteArray).length 0]) [.int .i64 6, .int .i64 0, .string (⟨#[]⟩), .slice A16 r9.length c17, .slice none ([] : List Key).length 0, .slice none ([] : List Ent).length 0, .slice none ([] : List ByteArray).length 0] [.int .i64 6, .int .i64 0, .string (⟨#[]⟩), .slice A16 r9.length c17, .slice none ([] : List Key).length 0, .slice none ([] : List Ent).length 0, .slice none ([] : List ByteArray).length 0] rfl rfl rfl rfl rfl sz27 rfl rfl rfl ?_
  intro s19 hm20 hb21
  have hE22 := hE15.mod hE15.size hm20
  refine wpList_nil ?_
  refine p_then ?_
  refine wp_ret ?_
  obtain rfl := Option.some.inj hf
  refine ret_one (.agg #[.int .i64 6, .int .i64 0, .string (⟨#[]⟩), .slice A16 r9.length c17, .slice none ([] : List Key).length 0, .slice none ([] : List Ent).length 0, .slice none ([] : List ByteArray).length 0]) rfl ⟨rfl, _, rfl, loads_row tr27 (Blk.range hb21 0 [.int .i64 6, .int .i64 0, .string (⟨#[]⟩), .slice A16 r9.length c17, .slice none ([] : List Key).length 0, .slice none ([] : List Ent).length 0, .slice none ([] : List ByteArray).length 0] rfl)⟩ hE22 ?_
  exact (Val.rpvMk (v := (Val.mk 6 0 (⟨#[]⟩) r9 ([] : List Key) ([] : List Ent) ([] : List ByteArray))) (h18.mono hm20.wext) (Sl.nil_ _ _ _ (Nat.zero_le _)) (Sl.nil_ _ _ _ (Nat.zero_le _)) (Sl.nil_ _ _ _ (Nat.zero_le _)))

def S_semtyperef1_Height (f : (Val → Option Int)) : Prop := ∀ (s0 : S) (v0 : Value) (a0 : Val) (r : Int), RpV s0 a0 v0 → f a0 = some r → Ctr Go.Proofs.Try.prog 19 [v0] s0 (fun v τ => RpV τ r v)

set_option maxHeartbeats 1600000 in
set_option maxRecDepth 100000 in
theorem okB_semtyperef1_Height {rec_semtyperef1_Height : (Val → Option Int)} (hrec_semtyperef1_Height : S_semtyperef1_Height rec_semtyperef1_Height) : S_semtyperef1_Height (semtyperef1_Height_B rec_semtyperef1_Height) := by
  intro s0 v0 a0 r h0 hf
  obtain ⟨A1, c2, A4, c5, A7, c8, A10, c11, rfl, h3, h6, h9, h12⟩ := Val.rpv h0
  unfold semtyperef1_Height_B at hf
  have hE0 : ExtB s0.N s0 s0 := ExtB.refl _ _
  refine ctr_of 60 Go.Proofs.Try.func19 rfl rfl rfl rfl ?_
  refine wp_seq ?_
  refine wp_region_lit ?_
  refine r_box (B := s0.N) 1 hE0.size (.agg #[.int .i64 a0.Kind, .int .i64 a0.Int_, .string a0.Text, .slice A1 a0.Kids.length c2, .slice A4 a0.Keys.length c5, .slice A7 a0.Entries.length c8, .slice A10 a0.Labels.length c11]) [.int .i64 a0.Kind, .int .i64 a0.Int_, .string a0.Text, .slice A1 a0.Kids.length c2, .slice A4 a0.Keys.length c5, .slice A7 a0.Entries.length c8, .slice A10 a0.Labels.length c11] rfl rfl rfl ?_
  intro s14 b13 hx15 hb16
  have hE17 := hE0.ext hE0.size hx15
  refine r_assign (.int .i64 0) rfl rfl ?_
  refine wpList_nil ?_
  refine p_then ?_
  refine wp_seq ?_
  refine wp_region_lit ?_
  refine r_assign (.int .i64 0) rfl rfl ?_
  refine wpList_nil ?_
  refine p_then ?_
  refine wp_seq ?_
  refine wp_seq ?_
  refine wp_region_lit ?_
  refine r_assign (.int .i64 0) rfl rfl ?_
  refine wpList_nil ?_
  refine p_then ?_
  refine wp_block ?_
  refine gen_F fun F18 hg19 => ?_
  have hF20 : F18 1 = (.pointer (some ⟨b13, 0, none⟩)) := (hg19 1).trans rfl
  have hF21 : F18 2 = (.int .i64 0) := (hg19 2).trans rfl
  have hF22 : F18 3 = (.int .i64 0) := (hg19 3).trans rfl
  have hF23 : F18 4 = (.int .i64 0) := (hg19 4).trans rfl
  obtain ⟨o62, ho63, hf⟩ := bind_some hf
  refine wp_mono (wp_iter (step := semtyperef1_Height_l1 rec_semtyperef1_Height a0) (fun q a w => ∃ (F : Fr) (τ : S), a = fr 60 F ∧ w = τ.w ∧ Agr [3, 4, 8, 9, 10, 11, 12, 13, 14, 15, 16, 17, 18, 19, 20, 21, 22] F F18 ∧ ExtB s0.N s0 τ ∧ Wext s14 τ ∧ F 3 = (.int .i64 q.1) ∧ F 4 = (.int .i64 q.2) ∧ Blk s0.N 1 τ b13 27 [.int .i64 a0.Kind, .int .i64 a0.Int_, .string a0.Text, .slice A1 a0.Kids.length c2, .slice A4 a0.Keys.length c5, .slice A7 a0.Entries.length c8, .slice A10 a0.Labels.length c11]) (fun q e a w => e = .exit 0 ∧ ∃ (F : Fr) (τ : S), a = fr 60 F ∧ w = τ.w ∧ Agr [3, 4, 8, 9, 10, 11, 12, 13, 14, 15, 16, 17, 18, 19, 20, 21, 22] F F18 ∧ ExtB s0.N s0 τ ∧ Wext s14 τ ∧ F 3 = (.int .i64 q.1) ∧ F 4 = (.int .i64 q.2) ∧ Blk s0.N 1 τ b13 27 [.int .i64 a0.Kind, .int .i64 a0.Int_, .string a0.Text, .slice A1 a0.Kids.length c2, .slice A4 a0.Keys.length c5, .slice A7 a0.Entries.length c8, .slice A10 a0.Labels.length c11]) (by rintro _ a w ⟨h, _⟩; cases h) ?_ _ _ _ _ _ ho63 ?_) ?_
  · intro q24 fl a w hf hI
    obtain ⟨F25, s26, rfl, rfl, hag27, hE28, hW29, h30, h31, h32⟩ := hI
    unfold semtyperef1_Height_l1 at hf
    have hF33 : F25 1 = (.pointer (some ⟨b13, 0, none⟩)) := (hag27 1 rfl).trans hF20
    have hF34 : F25 2 = (.int .i64 0) := (hag27 2 rfl).trans hF21
    refine wp_seq ?_
    refine wp_seq ?_
    refine wp_region_lit ?_
    refine r_move (.int .i64 q24.2) h31 rfl ?_
    refine r_fieldAddr b13 0 3 3 hF33 rfl fo27_3 rfl ?_
    refine r_load b13 3 (.slice A1 a0.Kids.length c2) rfl rfl (loads_one to22 ((h32.cell 3).trans rfl)) ?_
    refine r_len A1 a0.Kids.length c2 rfl rfl Go.Proofs.Try.underlying22 ?_
    refine r_bin (.int .i64 q24.2) (.int .i64 (a0.Kids.length : Int)) (.bool (decide (q24.2 < (a0.Kids.length : Int)))) rfl rfl rfl rfl (b_lss) ?_
    refine wpList_nil ?_
    refine p_then ?_
    refine if_else hf (fun hc35 hf => ?_) (fun hc35 hf => ?_)
    · refine c_true rfl hc35 rfl ?_
      refine wp_skip ?_
      refine p_then ?_
      refine wp_seq ?_
      refine wp_block ?_
      refine wp_region_lit ?_
      refine r_move (.int .i64 q24.1) h30 rfl ?_
      refine r_fieldAddr b13 0 3 3 hF33 rfl fo27_3 rfl ?_
      refine r_load b13 3 (.slice A1 a0.Kids.length c2) rfl rfl (loads_one to22 ((h32.cell 3).trans rfl)) ?_
      refine r_move (.int .i64 q24.2) h31 rfl ?_
      obtain ⟨x36, e37, hf⟩ := bind_some hf
      refine r_indexAddr (T := 22) (E := 27) ((h3.mono hx15.wext).mono hW29) e37 rfl rfl rfl rfl Go.Proofs.Try.underlying22 sz27 ?_
      intro b38 o39 cs40 hc41 hs42
      obtain ⟨A43, c44, A46, c47, A49, c50, A52, c53, rfl, h45, h48, h51, h54⟩ := Val.cells_iff.1 hc41
      refine r_load b38 o39 (.agg #[.int .i64 x36.Kind, .int .i64 x36.Int_, .string x36.Text, .slice A43 x36.Kids.length c44, .slice A46 x36.Keys.length c47, .slice A49 x36.Entries.length c50, .slice A52 x36.Labels.length c53]) rfl rfl (loads_row tr27 hs42.2) ?_
      obtain ⟨r55, e56, hf⟩ := bind_some hf
      refine r_call [.agg #[.int .i64 x36.Kind, .int .i64 x36.Int_, .string x36.Text, .slice A43 x36.Kids.length c44, .slice A46 x36.Keys.length c47, .slice A49 x36.Entries.length c50, .slice A52 x36.Labels.length c53]] (evs1 rfl) rfl (hrec_semtyperef1_Height _ _ _ _ (Val.rpvMk (v := x36) h45 h48 h51 h54) e56) ?_
      intro v58 s57 hx59 hr60
      have hE61 := hE28.ext hE28.size hx59
      obtain rfl := RpV.int hr60
      refine r_max .i64 q24.1 r55 rfl rfl rfl rfl ?_
      refine r_assign (.int .i64 (max q24.1 r55)) rfl rfl ?_
      refine wpList_nil ?_
      refine p_bn ?_
      refine p_then ?_
      refine wp_region_lit ?_
      refine r_move (.int .i64 q24.2) h31 rfl ?_
      refine r_bin (.int .i64 q24.2) (.int .i64 1) (.int .i64 (w64 (q24.2 + 1))) rfl rfl rfl rfl (b_add) ?_
      refine r_assign (.int .i64 (w64 (q24.2 + 1))) rfl rfl ?_
      refine wpList_nil ?_
      obtain rfl := Option.some.inj hf
      exact ⟨rfl, _, _, rfl, rfl, ((((((((((((((((((hag27).put rfl).put rfl).put rfl).put rfl).put rfl).put rfl).put rfl).put rfl).put rfl).put rfl).put rfl).put rfl).put rfl).put rfl).put rfl).put rfl).put rfl), hE61, (((Wext.refl _).trans hW29).trans hx59.wext), rfl, rfl, (h32.ext hx59)⟩
    · refine c_false rfl hc35 rfl ?_
      refine wp_exit ?_
      refine p_thenx ?_
      obtain rfl := Option.some.inj hf
      exact ⟨rfl, _, _, rfl, rfl, ((((((hag27).put rfl).put rfl).put rfl).put rfl).put rfl), hE28, ((Wext.refl _).trans hW29), h30, h31, h32⟩
  · exact ⟨_, _, rfl, rfl, (Agr.refl _ _), hE17, (Wext.refl _), hF22, hF23, hb16⟩
  · rintro e a w ⟨rfl, F65, s66, rfl, rfl, hag67, hE68, hW69, h70, h71, h72⟩
    have hF73 : F65 1 = (.pointer (some ⟨b13, 0, none⟩)) := (hag67 1 rfl).trans hF20
    have hF74 : F65 2 = (.int .i64 0) := (hag67 2 rfl).trans hF21
    refine p_bx ?_
    refine p_then ?_
    refine wp_seq ?_
    refine wp_seq ?_
    refine wp_region_lit ?_
    refine r_assign (.int .i64 0) rfl rfl ?_
    refine wpList_nil ?_
    refine p_then ?_
    refine wp_block ?_
    refine gen_F fun F75 hg76 => ?_
    have hF77 : F75 1 = (.pointer (some ⟨b13, 0, none⟩)) := (hg76 1).trans hF73
    have hF78 : F75 2 = (.int .i64 0) := (hg76 2).trans hF74
    have hF79 : F75 3 = (.int .i64 o62.1) := (hg76 3).trans h70
    have hF80 : F75 5 = (.int .i64 0) := (hg76 5).trans rfl
    obtain ⟨o197, ho198, hf⟩ := bind_some hf
    refine wp_mono (wp_iter (step := semtyperef1_Height_l2 rec_semtyperef1_Height a0) (fun q a w => ∃ (F : Fr) (τ : S), a = fr 60 F ∧ w = τ.w ∧ Agr [3, 5, 6, 7, 23, 24, 25, 26, 27, 28, 29, 30, 31, 32, 33, 34, 35, 36, 37, 38, 39, 40, 41, 42, 43, 44, 45, 46, 47, 48, 49, 50, 51, 52, 53, 54, 55, 56, 57] F F75 ∧ ExtB s0.N s0 τ ∧ Wext s66 τ ∧ F 3 = (.int .i64 q.1) ∧ F 5 = (.int .i64 q.2) ∧ Blk s0.N 1 τ b13 27 [.int .i64 a0.Kind, .int .i64 a0.Int_, .string a0.Text, .slice A1 a0.Kids.length c2, .slice A4 a0.Keys.length c5, .slice A7 a0.Entries.length c8, .slice A10 a0.Labels.length c11]) (fun q e a w => e = .exit 2 ∧ ∃ (F : Fr) (τ : S), a = fr 60 F ∧ w = τ.w ∧ Agr [3, 5, 6, 7, 23, 24, 25, 26, 27, 28, 29, 30, 31, 32, 33, 34, 35, 36, 37, 38, 39, 40, 41, 42, 43, 44, 45, 46, 47, 48, 49, 50, 51, 52, 53, 54, 55, 56, 57] F F75 ∧ ExtB s0.N s0 τ ∧ Wext s66 τ ∧ F 3 = (.int .i64 q.1) ∧ F 5 = (.int .i64 q.2) ∧ Blk s0.N 1 τ b13 27 [.int .i64 a0.Kind, .int .i64 a0.Int_, .string a0.Text, .slice A1 a0.Kids.length c2, .slice A4 a0.Keys.length c5, .slice A7 a0.Entries.length c8, .slice A10 a0.Labels.length c11]) (by rintro _ a w ⟨h, _⟩; cases h) ?_ _ _ _ _ _ ho198 ?_) ?_
    · intro q81 fl a w hf hI
      obtain ⟨F82, s83, rfl, rfl, hag84, hE85, hW86, h87, h88, h89⟩ := hI
      unfold semtyperef1_Height_l2 at hf
      have hF90 : F82 1 = (.pointer (some ⟨b13, 0, none⟩)) := (hag84 1 rfl).trans hF77
      have hF91 : F82 2 = (.int .i64 0) := (hag84 2 rfl).trans hF78
      refine wp_seq ?_
      refine wp_seq ?_
      refine wp_region_lit ?_
      refine r_move (.int .i64 q81.2) h88 rfl ?_
      refine r_fieldAddr b13 0 5 5 hF90 rfl fo27_5 rfl ?_
      refine r_load b13 5 (.slice A7 a0.Entries.length c8) rfl rfl (loads_one to24 ((h89.cell 5).trans rfl)) ?_
      refine r_len A7 a0.Entries.length c8 rfl rfl Go.Proofs.Try.underlying24 ?_
      refine r_bin (.int .i64 q81.2) (.int .i64 (a0.Entries.length : Int)) (.bool (decide (q81.2 < (a0.Entries.length : Int)))) rfl rfl rfl rfl (b_lss) ?_
      refine wpList_nil ?_
      refine p_then ?_
      refine if_else hf (fun hc92 hf => ?_) (fun hc92 hf => ?_)
      · refine c_true rfl hc92 rfl ?_
        refine wp_skip ?_
        refine p_then ?_
        refine wp_seq ?_
        refine wp_block ?_
        refine wp_seq ?_
        refine wp_region_lit ?_
        refine r_fieldAddr b13 0 5 5 hF90 rfl fo27_5 rfl ?_
        refine r_load b13 5 (.slice A7 a0.Entries.length c8) rfl rfl (loads_one to24 ((h89.cell 5).trans rfl)) ?_
        refine r_move (.int .i64 q81.2) h88 rfl ?_
        obtain ⟨x93, e94, hf⟩ := bind_some hf
        refine r_indexAddr (T := 24) (E := 65) (((h9.mono hx15.wext).mono hW69).mono hW86) e94 rfl rfl rfl rfl Go.Proofs.Try.underlying24 sz65 ?_
        intro b95 o96 cs97 hc98 hs99
        obtain ⟨A100, c101, A103, c104, A106, c107, A109, c110, A112, c113, rfl, h102, h105, h108, h111, h114⟩ := Ent.cells_iff.1 hc98
        refine r_load b95 o96 (.agg #[.slice A100 x93.Args.length c101, .bool x93.Fails, .int .i64 x93.Result.Kind, .int .i64 x93.Result.Int_, .string x93.Result.Text, .slice A103 x93.Result.Kids.length c104, .slice A106 x93.Result.Keys.length c107, .slice A109 x93.Result.Entries.length c110, .slice A112 x93.Result.Labels.length c113]) rfl rfl (loads_row tr65 hs99.2) ?_
        refine r_alloc (B := s0.N) 2 hE85.size _ [.slice none ([] : List Val).length 0, .bool false, .int .i64 0, .int .i64 0, .string (⟨#[]⟩), .slice none ([] : List Val).length 0, .slice none ([] : List Key).length 0, .slice none ([] : List Ent).length 0, .slice none ([] : List ByteArray).length 0] ti65 rfl ?_
        intro s116 b115 hx117 hb118
        have hE119 := hE85.ext hE85.size hx117
        refine r_store hb118 0 (.agg #[.slice A100 x93.Args.length c101, .bool x93.Fails, .int .i64 x93.Result.Kind, .int .i64 x93.Result.Int_, .string x93.Result.Text, .slice A103 x93.Result.Kids.length c104, .slice A106 x93.Result.Keys.length c107, .slice A109 x93.Result.Entries.length c110, .slice A112 x93.Result.Labels.length c113]) [.slice A100 x93.Args.length c101, .bool x93.Fails, .int .i64 x93.Result.Kind, .int .i64 x93.Result.Int_, .string x93.Result.Text, .slice A103 x93.Result.Kids.length c104, .slice A106 x93.Result.Keys.length c107, .slice A109 x93.Result.Entries.length c110, .slice A112 x93.Result.Labels.length c113] [.slice A100 x93.Args.length c101, .bool x93.Fails, .int .i64 x93.Result.Kind, .int .i64 x93.Result.Int_, .string x93.Result.Text, .slice A103 x93.Result.Kids.length c104, .slice A106 x93.Result.Keys.length c107, .slice A109 x93.Result.Entries.length c110, .slice A112 x93.Result.Labels.length c113] rfl rfl rfl rfl rfl sz65 rfl rfl rfl ?_
        intro s120 hm121 hb122
        have hE123 := hE119.mod hE119.size hm121
        refine wpList_nil ?_
        refine p_then ?_
        refine wp_seq ?_
        refine wp_seq ?_
        refine wp_region_lit ?_
        refine r_assign (.int .i64 0) rfl rfl ?_
        refine wpList_nil ?_
        refine p_then ?_
        refine wp_block ?_
        refine gen_F fun F124 hg125 => ?_
        have hF126 : F124 1 = (.pointer (some ⟨b13, 0, none⟩)) := (hg125 1).trans hF90
        have hF127 : F124 2 = (.int .i64 0) := (hg125 2).trans hF91
        have hF128 : F124 3 = (.int .i64 q81.1) := (hg125 3).trans h87
        have hF129 : F124 5 = (.int .i64 q81.2) := (hg125 5).trans h88
        have hF130 : F124 6 = (.pointer (some ⟨b115, 0, none⟩)) := (hg125 6).trans rfl
        have hF131 : F124 7 = (.int .i64 0) := (hg125 7).trans rfl
        obtain ⟨o173, ho174, hf⟩ := bind_some hf
        refine wp_mono (wp_iter (step := semtyperef1_Height_l3 rec_semtyperef1_Height x93) (fun q a w => ∃ (F : Fr) (τ : S), a = fr 60 F ∧ w = τ.w ∧ Agr [3, 7, 35, 36, 37, 38, 39, 40, 41, 42, 43, 44, 45, 46, 47, 48, 49] F F124 ∧ ExtB s0.N s0 τ ∧ Wext s120 τ ∧ F 3 = (.int .i64 q.1) ∧ F 7 = (.int .i64 q.2) ∧ Blk s0.N 1 τ b13 27 [.int .i64 a0.Kind, .int .i64 a0.Int_, .string a0.Text, .slice A1 a0.Kids.length c2, .slice A4 a0.Keys.length c5, .slice A7 a0.Entries.length c8, .slice A10 a0.Labels.length c11] ∧ Blk s0.N 2 τ b115 65 [.slice A100 x93.Args.length c101, .bool x93.Fails, .int .i64 x93.Result.Kind, .int .i64 x93.Result.Int_, .string x93.Result.Text, .slice A103 x93.Result.Kids.length c104, .slice A106 x93.Result.Keys.length c107, .slice A109 x93.Result.Entries.length c110, .slice A112 x93.Result.Labels.length c113]) (fun q e a w => e = .exit 4 ∧ ∃ (F : Fr) (τ : S), a = fr 60 F ∧ w = τ.w ∧ Agr [3, 7, 35, 36, 37, 38, 39, 40, 41, 42, 43, 44, 45, 46, 47, 48, 49] F F124 ∧ ExtB s0.N s0 τ ∧ Wext s120 τ ∧ F 3 = (.int .i64 q.1) ∧ F 7 = (.int .i64 q.2) ∧ Blk s0.N 1 τ b13 27 [.int .i64 a0.Kind, .int .i64 a0.Int_, .string a0.Text, .slice A1 a0.Kids.length c2, .slice A4 a0.Keys.length c5, .slice A7 a0.Entries.length c8, .slice A10 a0.Labels.length c11] ∧ Blk s0.N 2 τ b115 65 [.slice A100 x93.Args.length c101, .bool x93.Fails, .int .i64 x93.Result.Kind, .int .i64 x93.Result.Int_, .string x93.Result.Text, .slice A103 x93.Result.Kids.length c104, .slice A106 x93.Result.Keys.length c107, .slice A109 x93.Result.Entries.length c110, .slice A112 x93.Result.Labels.length c113]) (by rintro _ a w ⟨h, _⟩; cases h) ?_ _ _ _ _ _ ho174 ?_) ?_
        · intro q132 fl a w hf hI
          obtain ⟨F133, s134, rfl, rfl, hag135, hE136, hW137, h138, h139, h140, h141⟩ := hI
          unfold semtyperef1_Height_l3 at hf
          have hF142 : F133 1 = (.pointer (some ⟨b13, 0, none⟩)) := (hag135 1 rfl).trans hF126
          have hF143 : F133 2 = (.int .i64 0) := (hag135 2 rfl).trans hF127
          have hF144 : F133 5 = (.int .i64 q81.2) := (hag135 5 rfl).trans hF129
          have hF145 : F133 6 = (.pointer (some ⟨b115, 0, none⟩)) := (hag135 6 rfl).trans hF130
          refine wp_seq ?_
          refine wp_seq ?_
          refine wp_region_lit ?_
          refine r_move (.int .i64 q132.2) h139 rfl ?_
          refine r_fieldAddr b115 0 0 0 hF145 rfl fo65_0 rfl ?_
          refine r_load b115 0 (.slice A100 x93.Args.length c101) rfl rfl (loads_one to22 ((h141.cell 0).trans rfl)) ?_
          refine r_len A100 x93.Args.length c101 rfl rfl Go.Proofs.Try.underlying22 ?_
          refine r_bin (.int .i64 q132.2) (.int .i64 (x93.Args.length : Int)) (.bool (decide (q132.2 < (x93.Args.length : Int)))) rfl rfl rfl rfl (b_lss) ?_
          refine wpList_nil ?_
          refine p_then ?_
          refine if_else hf (fun hc146 hf => ?_) (fun hc146 hf => ?_)
          · refine c_true rfl hc146 rfl ?_
            refine wp_skip ?_
            refine p_then ?_
            refine wp_seq ?_
            refine wp_block ?_
            refine wp_region_lit ?_
            refine r_move (.int .i64 q132.1) h138 rfl ?_
            refine r_fieldAddr b115 0 0 0 hF145 rfl fo65_0 rfl ?_
            refine r_load b115 0 (.slice A100 x93.Args.length c101) rfl rfl (loads_one to22 ((h141.cell 0).trans rfl)) ?_
            refine r_move (.int .i64 q132.2) h139 rfl ?_
            obtain ⟨x147, e148, hf⟩ := bind_some hf
            refine r_indexAddr (T := 22) (E := 27) (((h102.mono hx117.wext).mono hm121.wext).mono hW137) e148 rfl rfl rfl rfl Go.Proofs.Try.underlying22 sz27 ?_
            intro b149 o150 cs151 hc152 hs153
            obtain ⟨A154, c155, A157, c158, A160, c161, A163, c164, rfl, h156, h159, h162, h165⟩ := Val.cells_iff.1 hc152
            refine r_load b149 o150 (.agg #[.int .i64 x147.Kind, .int .i64 x147.Int_, .string x147.Text, .slice A154 x147.Kids.length c155, .slice A157 x147.Keys.length c158, .slice A160 x147.Entries.length c161, .slice A163 x147.Labels.length c164]) rfl rfl (loads_row tr27 hs153.2) ?_
            obtain ⟨r166, e167, hf⟩ := bind_some hf
            refine r_call [.agg #[.int .i64 x147.Kind, .int .i64 x147.Int_, .string x147.Text, .slice A154 x147.Kids.length c155, .slice A157 x147.Keys.length c158, .slice A160 x147.Entries.length c161, .slice A163 x147.Labels.length c164]] (evs1 rfl) rfl (hrec_semtyperef1_Height _ _ _ _ (Val.rpvMk (v := x147) h156 h159 h162 h165) e167) ?_
            intro v169 s168 hx170 hr171
            have hE172 := hE136.ext hE136.size hx170
            obtain rfl := RpV.int hr171
            refine r_max .i64 q132.1 r166 rfl rfl rfl rfl ?_
            refine r_assign (.int .i64 (max q132.1 r166)) rfl rfl ?_
            refine wpList_nil ?_
            refine p_bn ?_
            refine p_then ?_
            refine wp_region_lit ?_
            refine r_move (.int .i64 q132.2) h139 rfl ?_
            refine r_bin (.int .i64 q132.2) (.int .i64 1) (.int .i64 (w64 (q132.2 + 1))) rfl rfl rfl rfl (b_add) ?_
            refine r_assign (.int .i64 (w64 (q132.2 + 1))) rfl rfl ?_
            refine wpList_nil ?_
            obtain rfl := Option.some.inj hf
            exact ⟨rfl, _, _, rfl, rfl, ((((((((((((((((((hag135).put rfl).put rfl).put rfl).put rfl).put rfl).put rfl).put rfl).put rfl).put rfl).put rfl).put rfl).put rfl).put rfl).put rfl).put rfl).put rfl).put rfl), hE172, (((Wext.refl _).trans hW137).trans hx170.wext), rfl, rfl, (h140.ext hx170), (h141.ext hx170)⟩
          · refine c_false rfl hc146 rfl ?_
            refine wp_exit ?_
            refine p_thenx ?_
            obtain rfl := Option.some.inj hf
            exact ⟨rfl, _, _, rfl, rfl, ((((((hag135).put rfl).put rfl).put rfl).put rfl).put rfl), hE136, ((Wext.refl _).trans hW137), h138, h139, h140, h141⟩
        · exact ⟨_, _, rfl, rfl, (Agr.refl _ _), hE123, (Wext.refl _), hF128, hF131, ((h89.ext hx117).mod hm121 rfl), hb122⟩
        · rintro e a w ⟨rfl, F176, s177, rfl, rfl, hag178, hE179, hW180, h181, h182, h183, h184⟩
          have hF185 : F176 1 = (.pointer (some ⟨b13, 0, none⟩)) := (hag178 1 rfl).trans hF126
          have hF186 : F176 2 = (.int .i64 0) := (hag178 2 rfl).trans hF127
          have hF187 : F176 5 = (.int .i64 q81.2) := (hag178 5 rfl).trans hF129
          have hF188 : F176 6 = (.pointer (some ⟨b115, 0, none⟩)) := (hag178 6 rfl).trans hF130
          refine p_bx ?_
          refine p_then ?_
          refine wp_seq ?_
          refine wp_region_lit ?_
          refine r_fieldAddr b115 0 1 1 hF188 rfl fo65_1 rfl ?_
          refine r_load b115 1 (.bool x93.Fails) rfl rfl (loads_one to4 ((h184.cell 1).trans rfl)) ?_
          refine r_un (.bool x93.Fails) (.bool (!x93.Fails)) rfl rfl u_not ?_
          refine wpList_nil ?_
          refine p_then ?_
          refine if_else hf (fun hc189 hf => ?_) (fun hc189 hf => ?_)
          · refine c_true rfl hc189 rfl ?_
            refine wp_region_lit ?_
            refine r_move (.int .i64 o173.1) h181 rfl ?_
            refine r_fieldAddr b115 0 2 2 hF188 rfl fo65_2 rfl ?_
            refine r_load b115 2 (.agg #[.int .i64 x93.Result.Kind, .int .i64 x93.Result.Int_, .string x93.Result.Text, .slice A103 x93.Result.Kids.length c104, .slice A106 x93.Result.Keys.length c107, .slice A109 x93.Result.Entries.length c110, .slice A112 x93.Result.Labels.length c113]) rfl rfl (loads_row tr27 (Blk.range h184 2 [.int .i64 x93.Result.Kind, .int .i64 x93.Result.Int_, .string x93.Result.Text, .slice A103 x93.Result.Kids.length c104, .slice A106 x93.Result.Keys.length c107, .slice A109 x93.Result.Entries.length c110, .slice A112 x93.Result.Labels.length c113] rfl)) ?_
            obtain ⟨r190, e191, hf⟩ := bind_some hf
            refine r_call [.agg #[.int .i64 x93.Result.Kind, .int .i64 x93.Result.Int_, .string x93.Result.Text, .slice A103 x93.Result.Kids.length c104, .slice A106 x93.Result.Keys.length c107, .slice A109 x93.Result.Entries.length c110, .slice A112 x93.Result.Labels.length c113]] (evs1 rfl) rfl (hrec_semtyperef1_Height _ _ _ _ (Val.rpvMk (v := x93.Result) (((h105.mono hx117.wext).mono hm121.wext).mono hW180) (((h108.mono hx117.wext).mono hm121.wext).mono hW180) (((h111.mono hx117.wext).mono hm121.wext).mono hW180) (((h114.mono hx117.wext).mono hm121.wext).mono hW180)) e191) ?_
            intro v193 s192 hx194 hr195
            have hE196 := hE179.ext hE179.size hx194
            obtain rfl := RpV.int hr195
            refine r_max .i64 o173.1 r190 rfl rfl rfl rfl ?_
            refine r_assign (.int .i64 (max o173.1 r190)) rfl rfl ?_
            refine wpList_nil ?_
            refine p_bn ?_
            refine p_then ?_
            refine wp_region_lit ?_
            refine r_move (.int .i64 q81.2) hF187 rfl ?_
            refine r_bin (.int .i64 q81.2) (.int .i64 1) (.int .i64 (w64 (q81.2 + 1))) rfl rfl rfl rfl (b_add) ?_
            refine r_assign (.int .i64 (w64 (q81.2 + 1))) rfl rfl ?_
            refine wpList_nil ?_
            obtain rfl := Option.some.inj hf
            exact ⟨rfl, _, _, rfl, rfl, ((((((((((((((((((((((((((((hag84).put rfl).put rfl).put rfl).put rfl).put rfl).put rfl).put rfl).put rfl).put rfl).put rfl).put rfl).put0).put rfl).gen hg125).loop hag178 rfl).put rfl).put rfl).put rfl).put rfl).put rfl).put rfl).put rfl).put rfl).put rfl).put rfl).put rfl).put rfl), hE196, ((((((Wext.refl _).trans hW86).trans hx117.wext).trans hm121.wext).trans hW180).trans hx194.wext), rfl, rfl, (h183.ext hx194)⟩
          · refine c_false rfl hc189 rfl ?_
            refine wp_skip ?_
            refine p_bn ?_
            refine p_then ?_
            refine wp_region_lit ?_
            refine r_move (.int .i64 q81.2) hF187 rfl ?_
            refine r_bin (.int .i64 q81.2) (.int .i64 1) (.int .i64 (w64 (q81.2 + 1))) rfl rfl rfl rfl (b_add) ?_
            refine r_assign (.int .i64 (w64 (q81.2 + 1))) rfl rfl ?_
            refine wpList_nil ?_
            obtain rfl := Option.some.inj hf
            exact ⟨rfl, _, _, rfl, rfl, ((((((((((((((((((((((hag84).put rfl).put rfl).put rfl).put rfl).put rfl).put rfl).put rfl).put rfl).put rfl).put rfl).put rfl).put0).put rfl).gen hg125).loop hag178 rfl).put rfl).put rfl).put rfl).put rfl).put rfl).put rfl), hE179, (((((Wext.refl _).trans hW86).trans hx117.wext).trans hm121.wext).trans hW180), h181, rfl, h183⟩
      · refine c_false rfl hc92 rfl ?_
        refine wp_exit ?_
        refine p_thenx ?_
        obtain rfl := Option.some.inj hf
        exact ⟨rfl, _, _, rfl, rfl, ((((((hag84).put rfl).put rfl).put rfl).put rfl).put rfl), hE85, ((Wext.refl _).trans hW86), h87, h88, h89⟩
    · exact ⟨_, _, rfl, rfl, (Agr.refl _ _), hE68, (Wext.refl _), hF79, hF80, h72⟩
    · rintro e a w ⟨rfl, F200, s201, rfl, rfl, hag202, hE203, hW204, h205, h206, h207⟩
      have hF208 : F200 1 = (.pointer (some ⟨b13, 0, none⟩)) := (hag202 1 rfl).trans hF77
      have hF209 : F200 2 = (.int .i64 0) := (hag202 2 rfl).trans hF78
      refine p_bx ?_
      refine p_then ?_
      refine wp_seq ?_
      refine wp_region_lit ?_
      refine r_move (.int .i64 o197.1) h205 rfl ?_
      refine r_bin (.int .i64 o197.1) (.int .i64 1) (.int .i64 (w64 (o197.1 + 1))) rfl rfl rfl rfl (b_add) ?_
      refine r_assign (.int .i64 (w64 (o197.1 + 1))) rfl rfl ?_
      refine wpList_nil ?_
      refine p_then ?_
      refine wp_ret ?_
      obtain rfl := Option.some.inj hf
      refine ret_one (.int .i64 (w64 (o197.1 + 1))) rfl ⟨rfl, rfl⟩ hE203 ?_
      exact (RpV.mkInt _ _)

theorem ok_semtyperef1_Height : ∀ n : Nat, S_semtyperef1_Height (semtyperef1_Height n)
  | 0 => by intro _ _ _ _ _ h; cases h
  | n + 1 => okB_semtyperef1_Height (ok_semtyperef1_Height n)

def S_semtypelaw4_ValueMeasures (f : (Val → Val → Option Bool)) : Prop := ∀ (s0 : S) (v0 : Value) (v1 : Value) (a0 : Val) (a1 : Val) (r : Bool), RpV s0 a0 v0 → RpV s0 a1 v1 → f a0 a1 = some r → Ctr Go.Proofs.Try.prog 5 [v0, v1] s0 (fun v τ => RpV τ r v)

end Go.Sx
