/- Printed by dec.py. The walks. -/
import Derived.Test.YtamfhohifmbjnaaWk3
namespace Go.Sx
open Go Go.RowKit
attribute [local irreducible] Go.wpList Go.Code.wp Go.Sx.Ctr

set_option maxHeartbeats 1600000 in
set_option maxRecDepth 100000 in
theorem ok_semtypelaw4_ValueMeasures (fuel : Nat) : S_semtypelaw4_ValueMeasures (semtypelaw4_ValueMeasures fuel) := by
  intro s0 v0 v1 a0 a1 r h0 h1 hf
  obtain ⟨A1, c2, A4, c5, A7, c8, A10, c11, rfl, h3, h6, h9, h12⟩ := Val.rpv h0
  obtain ⟨A13, c14, A16, c17, A19, c20, A22, c23, rfl, h15, h18, h21, h24⟩ := Val.rpv h1
  unfold semtypelaw4_ValueMeasures at hf
  have hE0 : ExtB s0.N s0 s0 := ExtB.refl _ _
  refine ctr_of 56 Go.Proofs.Try.func5 rfl rfl rfl rfl ?_
  refine wp_seq ?_
  refine wp_region_lit ?_
  refine r_box (B := s0.N) 1 hE0.size (.agg #[.int .i64 a0.Kind, .int .i64 a0.Int_, .string a0.Text, .slice A1 a0.Kids.length c2, .slice A4 a0.Keys.length c5, .slice A7 a0.Entries.length c8, .slice A10 a0.Labels.length c11]) [.int .i64 a0.Kind, .int .i64 a0.Int_, .string a0.Text, .slice A1 a0.Kids.length c2, .slice A4 a0.Keys.length c5, .slice A7 a0.Entries.length c8, .slice A10 a0.Labels.length c11] rfl rfl rfl ?_
  intro s26 b25 hx27 hb28
  have hE29 := hE0.ext hE0.size hx27
  refine r_box (B := s0.N) 2 hE29.size (.agg #[.int .i64 a1.Kind, .int .i64 a1.Int_, .string a1.Text, .slice A13 a1.Kids.length c14, .slice A16 a1.Keys.length c17, .slice A19 a1.Entries.length c20, .slice A22 a1.Labels.length c23]) [.int .i64 a1.Kind, .int .i64 a1.Int_, .string a1.Text, .slice A13 a1.Kids.length c14, .slice A16 a1.Keys.length c17, .slice A19 a1.Entries.length c20, .slice A22 a1.Labels.length c23] rfl rfl rfl ?_
  intro s31 b30 hx32 hb33
  have hE34 := hE29.ext hE29.size hx32
  refine r_assign (.bool false) rfl rfl ?_
  refine wpList_nil ?_
  refine p_then ?_
  refine wp_seq ?_
  refine wp_seq ?_
  refine wp_region_lit ?_
  refine r_load b25 0 (.agg #[.int .i64 a0.Kind, .int .i64 a0.Int_, .string a0.Text, .slice A1 a0.Kids.length c2, .slice A4 a0.Keys.length c5, .slice A7 a0.Entries.length c8, .slice A10 a0.Labels.length c11]) rfl rfl (loads_row tr27 (Blk.range (hb28.ext hx32) 0 [.int .i64 a0.Kind, .int .i64 a0.Int_, .string a0.Text, .slice A1 a0.Kids.length c2, .slice A4 a0.Keys.length c5, .slice A7 a0.Entries.length c8, .slice A10 a0.Labels.length c11] rfl)) ?_
  obtain ⟨r35, e36, hf⟩ := bind_some hf
  refine r_call [.agg #[.int .i64 a0.Kind, .int .i64 a0.Int_, .string a0.Text, .slice A1 a0.Kids.length c2, .slice A4 a0.Keys.length c5, .slice A7 a0.Entries.length c8, .slice A10 a0.Labels.length c11]] (evs1 rfl) rfl ((ok_semtypelaw4_small fuel) _ _ _ _ (Val.rpvMk (v := a0) ((h3.mono hx27.wext).mono hx32.wext) ((h6.mono hx27.wext).mono hx32.wext) ((h9.mono hx27.wext).mono hx32.wext) ((h12.mono hx27.wext).mono hx32.wext)) e36) ?_
  intro v38 s37 hx39 hr40
  have hE41 := hE34.ext hE34.size hx39
  obtain rfl := RpV.bool hr40
  refine r_un (.bool r35) (.bool (!r35)) rfl rfl u_not ?_
  refine r_move (.bool (!r35)) rfl rfl ?_
  refine if_else hf (fun hc42 hf => ?_) (fun hc42 hf => ?_)
  · refine r_skip (j := 3) (want := false) (d := 9) (c := !r35) (v := true) rfl rfl hc42 rfl rfl ?_
    refine r_skip (j := 3) (want := false) (d := 9) (c := !r35) (v := true) rfl rfl hc42 rfl rfl ?_
    refine r_skip (j := 3) (want := false) (d := 9) (c := !r35) (v := true) rfl rfl hc42 rfl rfl ?_
    refine r_pick_t (c := !r35) (.bool true) rfl hc42 rfl rfl rfl rfl ?_
    refine wpList_nil ?_
    refine p_then ?_
    refine c_true rfl rfl rfl ?_
    refine wp_seq ?_
    refine wp_region_lit ?_
    obtain ⟨r43, e44, hf⟩ := bind_some hf
    refine r_call [] evs0 rfl ((ok_semtypelaw4_awake fuel) _ _  e44) ?_
    intro v46 s45 hx47 hr48
    have hE49 := hE41.ext hE41.size hx47
    obtain rfl := RpV.bool hr48
    refine r_assign (.bool r43) rfl rfl ?_
    refine wpList_nil ?_
    refine p_then ?_
    refine wp_ret ?_
    refine p_thenr ?_
    obtain rfl := Option.some.inj hf
    refine ret_one (.bool r43) rfl ⟨rfl, rfl⟩ hE49 ?_
    exact (RpV.mkBool _ _)
  · refine r_guard (j := 3) (want := false) (d := 9) (c := !r35) (v := false) rfl rfl hc42 rfl rfl ?_
    refine r_load b30 0 (.agg #[.int .i64 a1.Kind, .int .i64 a1.Int_, .string a1.Text, .slice A13 a1.Kids.length c14, .slice A16 a1.Keys.length c17, .slice A19 a1.Entries.length c20, .slice A22 a1.Labels.length c23]) rfl rfl (loads_row tr27 (Blk.range (hb33.ext hx39) 0 [.int .i64 a1.Kind, .int .i64 a1.Int_, .string a1.Text, .slice A13 a1.Kids.length c14, .slice A16 a1.Keys.length c17, .slice A19 a1.Entries.length c20, .slice A22 a1.Labels.length c23] rfl)) ?_
    refine r_guard (j := 3) (want := false) (d := 9) (c := !r35) (v := false) rfl rfl hc42 rfl rfl ?_
    obtain ⟨r50, e51, hf⟩ := bind_some hf
    refine r_call [.agg #[.int .i64 a1.Kind, .int .i64 a1.Int_, .string a1.Text, .slice A13 a1.Kids.length c14, .slice A16 a1.Keys.length c17, .slice A19 a1.Entries.length c20, .slice A22 a1.Labels.length c23]] (evs1 rfl) rfl ((ok_semtypelaw4_small fuel) _ _ _ _ (Val.rpvMk (v := a1) (((h15.mono hx27.wext).mono hx32.wext).mono hx39.wext) (((h18.mono hx27.wext).mono hx32.wext).mono hx39.wext) (((h21.mono hx27.wext).mono hx32.wext).mono hx39.wext) (((h24.mono hx27.wext).mono hx32.wext).mono hx39.wext)) e51) ?_
    intro v53 s52 hx54 hr55
    have hE56 := hE41.ext hE41.size hx54
    obtain rfl := RpV.bool hr55
    refine r_guard (j := 3) (want := false) (d := 9) (c := !r35) (v := false) rfl rfl hc42 rfl rfl ?_
    refine r_un (.bool r50) (.bool (!r50)) rfl rfl u_not ?_
    refine r_pick_f (c := !r35) (.bool (!r50)) rfl hc42 rfl rfl rfl rfl ?_
    refine wpList_nil ?_
    refine p_then ?_
    refine if_else hf (fun hc57 hf => ?_) (fun hc57 hf => ?_)
    · refine c_true rfl hc57 rfl ?_
      refine wp_seq ?_
      refine wp_region_lit ?_
      obtain ⟨r58, e59, hf⟩ := bind_some hf
      refine r_call [] evs0 rfl ((ok_semtypelaw4_awake fuel) _ _  e59) ?_
      intro v61 s60 hx62 hr63
      have hE64 := hE56.ext hE56.size hx62
      obtain rfl := RpV.bool hr63
      refine r_assign (.bool r58) rfl rfl ?_
      refine wpList_nil ?_
      refine p_then ?_
      refine wp_ret ?_
      refine p_thenr ?_
      obtain rfl := Option.some.inj hf
      refine ret_one (.bool r58) rfl ⟨rfl, rfl⟩ hE64 ?_
      exact (RpV.mkBool _ _)
    · refine c_false rfl hc57 rfl ?_
      refine wp_skip ?_
      refine p_then ?_
      refine wp_seq ?_
      refine wp_region_lit ?_
      refine r_load b25 0 (.agg #[.int .i64 a0.Kind, .int .i64 a0.Int_, .string a0.Text, .slice A1 a0.Kids.length c2, .slice A4 a0.Keys.length c5, .slice A7 a0.Entries.length c8, .slice A10 a0.Labels.length c11]) rfl rfl (loads_row tr27 (Blk.range (((hb28.ext hx32).ext hx39).ext hx54) 0 [.int .i64 a0.Kind, .int .i64 a0.Int_, .string a0.Text, .slice A1 a0.Kids.length c2, .slice A4 a0.Keys.length c5, .slice A7 a0.Entries.length c8, .slice A10 a0.Labels.length c11] rfl)) ?_
      refine r_load b30 0 (.agg #[.int .i64 a1.Kind, .int .i64 a1.Int_, .string a1.Text, .slice A13 a1.Kids.length c14, .slice A16 a1.Keys.length c17, .slice A19 a1.Entries.length c20, .slice A22 a1.Labels.length c23]) rfl rfl (loads_row tr27 (Blk.range ((hb33.ext hx39).ext hx54) 0 [.int .i64 a1.Kind, .int .i64 a1.Int_, .string a1.Text, .slice A13 a1.Kids.length c14, .slice A16 a1.Keys.length c17, .slice A19 a1.Entries.length c20, .slice A22 a1.Labels.length c23] rfl)) ?_
      refine r_buildSlice (B := s0.N) (E := 27) 3 hE56.size ts22 (xs := [a0, a1]) [.agg #[.int .i64 a0.Kind, .int .i64 a0.Int_, .string a0.Text, .slice A1 a0.Kids.length c2, .slice A4 a0.Keys.length c5, .slice A7 a0.Entries.length c8, .slice A10 a0.Labels.length c11], .agg #[.int .i64 a1.Kind, .int .i64 a1.Int_, .string a1.Text, .slice A13 a1.Kids.length c14, .slice A16 a1.Keys.length c17, .slice A19 a1.Entries.length c20, .slice A22 a1.Labels.length c23]] (eps_cons rfl (eps_cons rfl eps_nil)) rfl rfl rfl (by decide) rfl (by simp [Value.cells, Rp.sz]) ⟨_, _, rfl, (Val.cells_iff.2 ⟨_, _, _, _, _, _, _, _, rfl, ((((h3.mono hx27.wext).mono hx32.wext).mono hx39.wext).mono hx54.wext), ((((h6.mono hx27.wext).mono hx32.wext).mono hx39.wext).mono hx54.wext), ((((h9.mono hx27.wext).mono hx32.wext).mono hx39.wext).mono hx54.wext), ((((h12.mono hx27.wext).mono hx32.wext).mono hx39.wext).mono hx54.wext)⟩), ⟨_, _, rfl, (Val.cells_iff.2 ⟨_, _, _, _, _, _, _, _, rfl, ((((h15.mono hx27.wext).mono hx32.wext).mono hx39.wext).mono hx54.wext), ((((h18.mono hx27.wext).mono hx32.wext).mono hx39.wext).mono hx54.wext), ((((h21.mono hx27.wext).mono hx32.wext).mono hx39.wext).mono hx54.wext), ((((h24.mono hx27.wext).mono hx32.wext).mono hx39.wext).mono hx54.wext)⟩), rfl⟩⟩ ?_
      intro s65 A66 c67 hx68 ho69
      have hE70 := hE56.ext hE56.size hx68
      obtain ⟨r71, e72, hf⟩ := bind_some hf
      refine r_call [.slice A66 [a0, a1].length c67] (evs1 rfl) rfl ((ok_value_Tuple fuel) _ _ _ _ (RpV.mkList ho69.sl) e72) ?_
      intro v74 s73 hx75 hr76
      have hE77 := hE70.ext hE70.size hx75
      obtain ⟨A78, c79, A81, c82, A84, c85, A87, c88, rfl, h80, h83, h86, h89⟩ := Val.rpv hr76
      refine r_alloc (B := s0.N) 4 hE77.size _ [.int .i64 0, .int .i64 0, .string (⟨#[]⟩), .slice none ([] : List Val).length 0, .slice none ([] : List Key).length 0, .slice none ([] : List Ent).length 0, .slice none ([] : List ByteArray).length 0] ti27 rfl ?_
      intro s91 b90 hx92 hb93
      have hE94 := hE77.ext hE77.size hx92
      refine r_store hb93 0 (.agg #[.int .i64 r71.Kind, .int .i64 r71.Int_, .string r71.Text, .slice A78 r71.Kids.length c79, .slice A81 r71.Keys.length c82, .slice A84 r71.Entries.length c85, .slice A87 r71.Labels.length c88]) [.int .i64 r71.Kind, .int .i64 r71.Int_, .string r71.Text, .slice A78 r71.Kids.length c79, .slice A81 r71.Keys.length c82, .slice A84 r71.Entries.length c85, .slice A87 r71.Labels.length c88] [.int .i64 r71.Kind, .int .i64 r71.Int_, .string r71.Text, .slice A78 r71.Kids.length c79, .slice A81 r71.Keys.length c82, .slice A84 r71.Entries.length c85, .slice A87 r71.Labels.length c88] rfl rfl rfl rfl rfl sz27 rfl rfl rfl ?_
      intro s95 hm96 hb97
      have hE98 := hE94.mod hE94.size hm96
      refine wpList_nil ?_
      refine p_then ?_
      refine wp_seq ?_
      obtain ⟨r99, e100, hf⟩ := bind_some hf
      obtain ⟨r101, e102, hf⟩ := bind_some hf
      refine if_else hf (fun hc103 hf => ?_) (fun hc103 hf => ?_)
      · obtain ⟨r104, e105, hf⟩ := bind_some hf
        obtain ⟨r106, e107, hf⟩ := bind_some hf
        refine if_else hf (fun hc108 hf => ?_) (fun hc108 hf => ?_)
        · obtain ⟨r109, e110, hf⟩ := bind_some hf
          obtain ⟨r111, e112, hf⟩ := bind_some hf
          obtain ⟨r113, e114, hf⟩ := bind_some hf
          refine if_else hf (fun hc115 hf => ?_) (fun hc115 hf => ?_)
          · obtain ⟨r116, e117, hf⟩ := bind_some hf
            obtain ⟨r118, e119, hf⟩ := bind_some hf
            obtain ⟨r120, e121, hf⟩ := bind_some hf
            refine if_else hf (fun hc122 hf => ?_) (fun hc122 hf => ?_)
            · obtain ⟨r123, e124, hf⟩ := bind_some hf
              refine wp_draw (B := s0.N) [some 19, some 20, some 21, some 22, some 23, some 24, some 25, some 26, some 27, some 28, some 29, some 30, some 31, some 32, some 33, some 34, some 35, some 36, some 37, some 38, some 39, some 40, some 41, some 42, some 43, some 44, some 45, some 46, some 47, some 48, some 49, some 50, some 51, some 52, some 53, some 54, some 55, some 4] [[], [0], [], [0, 1, 2], [0, 1, 2, 3], [0, 1, 2, 3, 4], [0, 1, 2, 3, 4, 5], [0, 1, 2, 3, 4, 5, 6], [0, 1, 2, 3, 4, 5], [0, 1, 2, 3, 4, 5, 6, 7, 8], [0, 1, 2, 3, 4, 5, 6, 7, 8, 9], [0, 1, 2, 3, 4, 5, 6, 7, 8, 9, 10], [0, 1, 2, 3, 4, 5, 6, 7, 8, 9, 10, 11], [0, 1, 2, 3, 4, 5, 6, 7, 8, 9, 10, 11, 12], [0, 1, 2, 3, 4, 5, 6, 7, 8, 9, 10, 11, 12, 13], [0, 1, 2, 3, 4, 5, 6, 7, 8, 9, 10, 11, 12], [0, 1, 2, 3, 4, 5, 6, 7, 8, 9, 10, 11, 12, 13, 14, 15], [0, 1, 2, 3, 4, 5, 6, 7, 8, 9, 10, 11, 12, 13, 14, 15, 16], [0, 1, 2, 3, 4, 5, 6, 7, 8, 9, 10, 11, 12], [0, 1, 2, 3, 4, 5, 6, 7, 8, 9, 10, 11, 12, 13, 14, 15, 16, 18], [0, 1, 2, 3, 4, 5, 6, 7, 8, 9, 10, 11, 12, 13, 14, 15, 16, 17, 18, 19], [0, 1, 2, 3, 4, 5, 6, 7, 8, 9, 10, 11, 12, 13, 14, 15, 16, 17, 18, 19, 20], [0, 1, 2, 3, 4, 5, 6, 7, 8, 9, 10, 11, 12, 13, 14, 15, 16, 17, 18, 19, 20, 21], [0, 1, 2, 3, 4, 5, 6, 7, 8, 9, 10, 11, 12, 13, 14, 15, 16, 17, 18, 19, 20, 21, 22], [0, 1, 2, 3, 4, 5, 6, 7, 8, 9, 10, 11, 12, 13, 14, 15, 16, 17, 18, 19, 20, 21, 22, 23], [0, 1, 2, 3, 4, 5, 6, 7, 8, 9, 10, 11, 12, 13, 14, 15, 16, 17, 18, 19, 20, 21, 22, 23, 24], [0, 1, 2, 3, 4, 5, 6, 7, 8, 9, 10, 11, 12, 13, 14, 15, 16, 17, 18, 19, 20, 21, 22, 23], [0, 1, 2, 3, 4, 5, 6, 7, 8, 9, 10, 11, 12, 13, 14, 15, 16, 17, 18, 19, 20, 21, 22, 23, 24, 25, 26], [0, 1, 2, 3, 4, 5, 6, 7, 8, 9, 10, 11, 12, 13, 14, 15, 16, 17, 18, 19, 20, 21, 22, 23], [0, 1, 2, 3, 4, 5, 6, 7, 8, 9, 10, 11, 12, 13, 14, 15, 16, 17, 18, 19, 20, 21, 22, 23, 24, 25, 26, 27, 28], [0, 1, 2, 3, 4, 5, 6, 7, 8, 9, 10, 11, 12, 13, 14, 15, 16, 17, 18, 19, 20, 21, 22, 23, 24, 25, 26, 27, 28, 29], [0, 1, 2, 3, 4, 5, 6, 7, 8, 9, 10, 11, 12, 13, 14, 15, 16, 17, 18, 19, 20, 21, 22, 23, 24, 25, 26, 27, 28, 29, 30], [0, 1, 2, 3, 4, 5, 6, 7, 8, 9, 10, 11, 12, 13, 14, 15, 16, 17, 18, 19, 20, 21, 22, 23, 24, 25, 26, 27, 28, 29, 30, 31], [0, 1, 2, 3, 4, 5, 6, 7, 8, 9, 10, 11, 12, 13, 14, 15, 16, 17, 18, 19, 20, 21, 22, 23, 24, 25, 26, 27, 28, 29, 30, 31, 32], [0, 1, 2, 3, 4, 5, 6, 7, 8, 9, 10, 11, 12, 13, 14, 15, 16, 17, 18, 19, 20, 21, 22, 23, 24, 25, 26, 27, 28, 29, 30, 31, 32, 33], [0, 1, 2, 3, 4, 5, 6, 7, 8, 9, 10, 11, 12, 13, 14, 15, 16, 17, 18, 19, 20, 21, 22, 23, 24, 25, 26, 27, 28, 29, 30, 31, 32, 33, 34], [0, 1, 2, 3, 4, 5, 6, 7, 8, 9, 10, 11, 12, 13, 14, 15, 16, 17, 18, 19, 20, 21, 22, 23, 24, 25, 26, 27, 28, 29, 30, 31, 32, 33, 34, 35], [0, 1, 2, 3, 4, 5, 6, 7, 8, 9, 10, 11, 12, 13, 14, 15, 16, 17, 18, 19, 20, 21, 22, 23, 24, 25, 26, 27, 28, 29, 30, 31, 32, 33, 34, 35, 36]] [Fct.data (a0 : Val), Fct.eqv (.int .i64 r99), Fct.data (a0 : Val), Fct.eqv (.int .i64 r101), Fct.eqv (.bool (r99 == r101)), Fct.eqv (.bool (r99 == r101)), Fct.data (a0 : Val), Fct.eqv (.int .i64 r104), Fct.data (a0 : Val), Fct.eqv (.int .i64 r106), Fct.eqv (.bool (r104 == r106)), Fct.eqv (.bool (r104 == r106)), Fct.eqv (.bool (r104 == r106)), Fct.data (r71 : Val), Fct.eqv (.int .i64 r109), Fct.data (a0 : Val), Fct.eqv (.int .i64 r111), Fct.eqv (.int .i64 (w64 (1 + r111))), Fct.data (a1 : Val), Fct.eqv (.int .i64 r113), Fct.eqv (.int .i64 (w64 ((w64 (1 + r111)) + r113))), Fct.eqv (.bool (r109 == (w64 ((w64 (1 + r111)) + r113)))), Fct.eqv (.bool (r109 == (w64 ((w64 (1 + r111)) + r113)))), Fct.eqv (.bool (r109 == (w64 ((w64 (1 + r111)) + r113)))), Fct.data (r71 : Val), Fct.eqv (.int .i64 r116), Fct.data (a0 : Val), Fct.eqv (.int .i64 r118), Fct.data (a1 : Val), Fct.eqv (.int .i64 r120), Fct.eqv (.int .i64 (max r118 r120)), Fct.eqv (.int .i64 (w64 (1 + (max r118 r120)))), Fct.eqv (.bool (r116 == (w64 (1 + (max r118 r120))))), Fct.eqv (.bool (r116 == (w64 (1 + (max r118 r120))))), Fct.eqv (.bool (r116 == (w64 (1 + (max r118 r120))))), Fct.eqv (.bool r123), Fct.eqv (.bool r123), Fct.eqv (.bool r123)] (fun D F τ => (Blk s0.N 1 τ b25 27 [.int .i64 a0.Kind, .int .i64 a0.Int_, .string a0.Text, .slice A1 a0.Kids.length c2, .slice A4 a0.Keys.length c5, .slice A7 a0.Entries.length c8, .slice A10 a0.Labels.length c11]) ∧ (Blk s0.N 2 τ b30 27 [.int .i64 a1.Kind, .int .i64 a1.Int_, .string a1.Text, .slice A13 a1.Kids.length c14, .slice A16 a1.Keys.length c17, .slice A19 a1.Entries.length c20, .slice A22 a1.Labels.length c23]) ∧ (Blk s0.N 4 τ b90 27 [.int .i64 r71.Kind, .int .i64 r71.Int_, .string r71.Text, .slice A78 r71.Kids.length c79, .slice A81 r71.Keys.length c82, .slice A84 r71.Entries.length c85, .slice A87 r71.Labels.length c88]) ∧ (Own s0.N 3 27 τ [a0, a1] A66 c67)) (by kernel_rfl) rfl (by decide) (by decide) ⟨((((((((hb28.ext hx32).ext hx39).ext hx54).ext hx68).ext hx75).ext hx92).mod hm96 rfl).ext (ext_draw _)), (((((((hb33.ext hx39).ext hx54).ext hx68).ext hx75).ext hx92).mod hm96 rfl).ext (ext_draw _)), (hb97.ext (ext_draw _)), ((((ho69.ext hx75).ext hx92).mod hm96 rfl).ext (ext_draw _))⟩ (by decide) (by decide) ⟨?_, ?_, ?_, ?_, ?_, ?_, ?_, ?_, ?_, ?_, ?_, ?_, ?_, ?_, ?_, ?_, ?_, ?_, ?_, ?_, ?_, ?_, ?_, ?_, ?_, ?_, ?_, ?_, ?_, ?_, ?_, ?_, ?_, ?_, ?_, ?_, ?_, ?_, trivial⟩ ?_
              · intro D128 F129 s130 d131 d132 d133 hE134 hW135 hG136 hfr137 hR138
                have hE139 := hE98.trans hE134
                obtain ⟨g140, g141, g142, g143⟩ := hG136
                have hb144 := g140
                refine r_load b25 0 (.agg #[.int .i64 a0.Kind, .int .i64 a0.Int_, .string a0.Text, .slice A1 a0.Kids.length c2, .slice A4 a0.Keys.length c5, .slice A7 a0.Entries.length c8, .slice A10 a0.Labels.length c11]) ((hfr137 2 rfl).trans rfl) rfl (loads_row tr27 (Blk.range hb144 0 [.int .i64 a0.Kind, .int .i64 a0.Int_, .string a0.Text, .slice A1 a0.Kids.length c2, .slice A4 a0.Keys.length c5, .slice A7 a0.Entries.length c8, .slice A10 a0.Labels.length c11] rfl)) ?_
                refine wpList_nil ?_
                exact ⟨_, _, rfl, rfl, ExtB.refl _ _, Wext.refl _, (Val.rpvMk (v := a0) (((((((((h3.mono hx27.wext).mono hx32.wext).mono hx39.wext).mono hx54.wext).mono hx68.wext).mono hx75.wext).mono hx92.wext).mono hm96.wext).mono hW135) (((((((((h6.mono hx27.wext).mono hx32.wext).mono hx39.wext).mono hx54.wext).mono hx68.wext).mono hx75.wext).mono hx92.wext).mono hm96.wext).mono hW135) (((((((((h9.mono hx27.wext).mono hx32.wext).mono hx39.wext).mono hx54.wext).mono hx68.wext).mono hx75.wext).mono hx92.wext).mono hm96.wext).mono hW135) (((((((((h12.mono hx27.wext).mono hx32.wext).mono hx39.wext).mono hx54.wext).mono hx68.wext).mono hx75.wext).mono hx92.wext).mono hm96.wext).mono hW135)), ⟨g140, g141, g142, g143⟩⟩
              · intro D145 F146 s147 d148 d149 d150 hE151 hW152 hG153 hfr154 hR155
                have hE156 := hE98.trans hE151
                obtain ⟨g157, g158, g159, g160⟩ := hG153
                have q161 : RpV s147 (a0 : Val) (F146 19) := hR155 0 rfl 19 rfl
                obtain ⟨A162, c163, A165, c166, A168, c169, A171, c172, hv174, h164, h167, h170, h173⟩ := Val.rpv q161
                refine r_call [.agg #[.int .i64 a0.Kind, .int .i64 a0.Int_, .string a0.Text, .slice A162 a0.Kids.length c163, .slice A165 a0.Keys.length c166, .slice A168 a0.Entries.length c169, .slice A171 a0.Labels.length c172]] (evs1 hv174) rfl ((ok_value_Nodes fuel) _ _ _ _ (Val.rpvMk (v := a0) h164 h167 h170 h173) e100) ?_
                intro v176 s175 hx177 hr178
                have hE179 := hE156.ext hE156.size hx177
                obtain rfl := RpV.int hr178
                refine wpList_nil ?_
                exact ⟨_, _, rfl, rfl, (ExtB.refl _ _).trans (hx177.mono hE156.size), (Wext.refl _).trans hx177.wext, rfl, ⟨(g157.ext hx177), (g158.ext hx177), (g159.ext hx177), (g160.ext hx177)⟩⟩
              · intro D180 F181 s182 d183 d184 d185 hE186 hW187 hG188 hfr189 hR190
                have hE191 := hE98.trans hE186
                obtain ⟨g192, g193, g194, g195⟩ := hG188
                have hb196 := g192
                refine r_load b25 0 (.agg #[.int .i64 a0.Kind, .int .i64 a0.Int_, .string a0.Text, .slice A1 a0.Kids.length c2, .slice A4 a0.Keys.length c5, .slice A7 a0.Entries.length c8, .slice A10 a0.Labels.length c11]) ((hfr189 2 rfl).trans rfl) rfl (loads_row tr27 (Blk.range hb196 0 [.int .i64 a0.Kind, .int .i64 a0.Int_, .string a0.Text, .slice A1 a0.Kids.length c2, .slice A4 a0.Keys.length c5, .slice A7 a0.Entries.length c8, .slice A10 a0.Labels.length c11] rfl)) ?_
                refine wpList_nil ?_
                exact ⟨_, _, rfl, rfl, ExtB.refl _ _, Wext.refl _, (Val.rpvMk (v := a0) (((((((((h3.mono hx27.wext).mono hx32.wext).mono hx39.wext).mono hx54.wext).mono hx68.wext).mono hx75.wext).mono hx92.wext).mono hm96.wext).mono hW187) (((((((((h6.mono hx27.wext).mono hx32.wext).mono hx39.wext).mono hx54.wext).mono hx68.wext).mono hx75.wext).mono hx92.wext).mono hm96.wext).mono hW187) (((((((((h9.mono hx27.wext).mono hx32.wext).mono hx39.wext).mono hx54.wext).mono hx68.wext).mono hx75.wext).mono hx92.wext).mono hm96.wext).mono hW187) (((((((((h12.mono hx27.wext).mono hx32.wext).mono hx39.wext).mono hx54.wext).mono hx68.wext).mono hx75.wext).mono hx92.wext).mono hm96.wext).mono hW187)), ⟨g192, g193, g194, g195⟩⟩
              · intro D197 F198 s199 d200 d201 d202 hE203 hW204 hG205 hfr206 hR207
                have hE208 := hE98.trans hE203
                obtain ⟨g209, g210, g211, g212⟩ := hG205
                have q213 : RpV s199 (a0 : Val) (F198 21) := hR207 2 rfl 21 rfl
                obtain ⟨A214, c215, A217, c218, A220, c221, A223, c224, hv226, h216, h219, h222, h225⟩ := Val.rpv q213
                refine r_call [.agg #[.int .i64 a0.Kind, .int .i64 a0.Int_, .string a0.Text, .slice A214 a0.Kids.length c215, .slice A217 a0.Keys.length c218, .slice A220 a0.Entries.length c221, .slice A223 a0.Labels.length c224]] (evs1 hv226) rfl ((ok_semtyperef1_Nodes fuel) _ _ _ _ (Val.rpvMk (v := a0) h216 h219 h222 h225) e102) ?_
                intro v228 s227 hx229 hr230
                have hE231 := hE208.ext hE208.size hx229
                obtain rfl := RpV.int hr230
                refine wpList_nil ?_
                exact ⟨_, _, rfl, rfl, (ExtB.refl _ _).trans (hx229.mono hE208.size), (Wext.refl _).trans hx229.wext, rfl, ⟨(g209.ext hx229), (g210.ext hx229), (g211.ext hx229), (g212.ext hx229)⟩⟩
              · intro D232 F233 s234 d235 d236 d237 hE238 hW239 hG240 hfr241 hR242
                have hE243 := hE98.trans hE238
                obtain ⟨g244, g245, g246, g247⟩ := hG240
                have q248 : F233 20 = (.int .i64 r99) := hR242 1 rfl 20 rfl
                have q249 : F233 22 = (.int .i64 r101) := hR242 3 rfl 22 rfl
                refine r_bin (.int .i64 r99) (.int .i64 r101) (.bool (r99 == r101)) q248 q249 rfl rfl (b_eql) ?_
                refine wpList_nil ?_
                exact ⟨_, _, rfl, rfl, ExtB.refl _ _, Wext.refl _, rfl, ⟨g244, g245, g246, g247⟩⟩
              · intro D250 F251 s252 d253 d254 d255 hE256 hW257 hG258 hfr259 hR260
                have hE261 := hE98.trans hE256
                obtain ⟨g262, g263, g264, g265⟩ := hG258
                have q266 : F251 23 = (.bool (r99 == r101)) := hR260 4 rfl 23 rfl
                refine r_move (.bool (r99 == r101)) q266 rfl ?_
                refine wpList_nil ?_
                exact ⟨_, _, rfl, rfl, ExtB.refl _ _, Wext.refl _, rfl, ⟨g262, g263, g264, g265⟩⟩
              · intro D267 F268 s269 d270 d271 d272 hE273 hW274 hG275 hfr276 hR277
                have hE278 := hE98.trans hE273
                obtain ⟨g279, g280, g281, g282⟩ := hG275
                have hb283 := g279
                have q284 : F268 24 = (.bool (r99 == r101)) := hR277 5 rfl 24 rfl
                refine Or.inr ⟨(r99 == r101), (fun d hd => by cases hd; exact q284), fun _ => ?_, fun h => absurd (hc103 : (r99 == r101) = true) h⟩
                refine r_load b25 0 (.agg #[.int .i64 a0.Kind, .int .i64 a0.Int_, .string a0.Text, .slice A1 a0.Kids.length c2, .slice A4 a0.Keys.length c5, .slice A7 a0.Entries.length c8, .slice A10 a0.Labels.length c11]) ((hfr276 2 rfl).trans rfl) rfl (loads_row tr27 (Blk.range hb283 0 [.int .i64 a0.Kind, .int .i64 a0.Int_, .string a0.Text, .slice A1 a0.Kids.length c2, .slice A4 a0.Keys.length c5, .slice A7 a0.Entries.length c8, .slice A10 a0.Labels.length c11] rfl)) ?_
                refine wpList_nil ?_
                exact ⟨_, _, rfl, rfl, ExtB.refl _ _, Wext.refl _, (Val.rpvMk (v := a0) (((((((((h3.mono hx27.wext).mono hx32.wext).mono hx39.wext).mono hx54.wext).mono hx68.wext).mono hx75.wext).mono hx92.wext).mono hm96.wext).mono hW274) (((((((((h6.mono hx27.wext).mono hx32.wext).mono hx39.wext).mono hx54.wext).mono hx68.wext).mono hx75.wext).mono hx92.wext).mono hm96.wext).mono hW274) (((((((((h9.mono hx27.wext).mono hx32.wext).mono hx39.wext).mono hx54.wext).mono hx68.wext).mono hx75.wext).mono hx92.wext).mono hm96.wext).mono hW274) (((((((((h12.mono hx27.wext).mono hx32.wext).mono hx39.wext).mono hx54.wext).mono hx68.wext).mono hx75.wext).mono hx92.wext).mono hm96.wext).mono hW274)), ⟨g279, g280, g281, g282⟩⟩
              · intro D285 F286 s287 d288 d289 d290 hE291 hW292 hG293 hfr294 hR295
                have hE296 := hE98.trans hE291
                obtain ⟨g297, g298, g299, g300⟩ := hG293
                have q301 : F286 24 = (.bool (r99 == r101)) := hR295 5 rfl 24 rfl
                have q302 : RpV s287 (a0 : Val) (F286 25) := hR295 6 rfl 25 rfl
                obtain ⟨A303, c304, A306, c307, A309, c310, A312, c313, hv315, h305, h308, h311, h314⟩ := Val.rpv q302
                refine Or.inr ⟨(r99 == r101), (fun d hd => by cases hd; exact q301), fun _ => ?_, fun h => absurd (hc103 : (r99 == r101) = true) h⟩
                refine r_call [.agg #[.int .i64 a0.Kind, .int .i64 a0.Int_, .string a0.Text, .slice A303 a0.Kids.length c304, .slice A306 a0.Keys.length c307, .slice A309 a0.Entries.length c310, .slice A312 a0.Labels.length c313]] (evs1 hv315) rfl ((ok_value_Height fuel) _ _ _ _ (Val.rpvMk (v := a0) h305 h308 h311 h314) e105) ?_
                intro v317 s316 hx318 hr319
                have hE320 := hE296.ext hE296.size hx318
                obtain rfl := RpV.int hr319
                refine wpList_nil ?_
                exact ⟨_, _, rfl, rfl, (ExtB.refl _ _).trans (hx318.mono hE296.size), (Wext.refl _).trans hx318.wext, rfl, ⟨(g297.ext hx318), (g298.ext hx318), (g299.ext hx318), (g300.ext hx318)⟩⟩
              · intro D321 F322 s323 d324 d325 d326 hE327 hW328 hG329 hfr330 hR331
                have hE332 := hE98.trans hE327
                obtain ⟨g333, g334, g335, g336⟩ := hG329
                have hb337 := g333
                have q338 : F322 24 = (.bool (r99 == r101)) := hR331 5 rfl 24 rfl
                refine Or.inr ⟨(r99 == r101), (fun d hd => by cases hd; exact q338), fun _ => ?_, fun h => absurd (hc103 : (r99 == r101) = true) h⟩
                refine r_load b25 0 (.agg #[.int .i64 a0.Kind, .int .i64 a0.Int_, .string a0.Text, .slice A1 a0.Kids.length c2, .slice A4 a0.Keys.length c5, .slice A7 a0.Entries.length c8, .slice A10 a0.Labels.length c11]) ((hfr330 2 rfl).trans rfl) rfl (loads_row tr27 (Blk.range hb337 0 [.int .i64 a0.Kind, .int .i64 a0.Int_, .string a0.Text, .slice A1 a0.Kids.length c2, .slice A4 a0.Keys.length c5, .slice A7 a0.Entries.length c8, .slice A10 a0.Labels.length c11] rfl)) ?_
                refine wpList_nil ?_
                exact ⟨_, _, rfl, rfl, ExtB.refl _ _, Wext.refl _, (Val.rpvMk (v := a0) (((((((((h3.mono hx27.wext).mono hx32.wext).mono hx39.wext).mono hx54.wext).mono hx68.wext).mono hx75.wext).mono hx92.wext).mono hm96.wext).mono hW328) (((((((((h6.mono hx27.wext).mono hx32.wext).mono hx39.wext).mono hx54.wext).mono hx68.wext).mono hx75.wext).mono hx92.wext).mono hm96.wext).mono hW328) (((((((((h9.mono hx27.wext).mono hx32.wext).mono hx39.wext).mono hx54.wext).mono hx68.wext).mono hx75.wext).mono hx92.wext).mono hm96.wext).mono hW328) (((((((((h12.mono hx27.wext).mono hx32.wext).mono hx39.wext).mono hx54.wext).mono hx68.wext).mono hx75.wext).mono hx92.wext).mono hm96.wext).mono hW328)), ⟨g333, g334, g335, g336⟩⟩
              · intro D339 F340 s341 d342 d343 d344 hE345 hW346 hG347 hfr348 hR349
                have hE350 := hE98.trans hE345
                obtain ⟨g351, g352, g353, g354⟩ := hG347
                have q355 : F340 24 = (.bool (r99 == r101)) := hR349 5 rfl 24 rfl
                have q356 : RpV s341 (a0 : Val) (F340 27) := hR349 8 rfl 27 rfl
                obtain ⟨A357, c358, A360, c361, A363, c364, A366, c367, hv369, h359, h362, h365, h368⟩ := Val.rpv q356
                refine Or.inr ⟨(r99 == r101), (fun d hd => by cases hd; exact q355), fun _ => ?_, fun h => absurd (hc103 : (r99 == r101) = true) h⟩
                refine r_call [.agg #[.int .i64 a0.Kind, .int .i64 a0.Int_, .string a0.Text, .slice A357 a0.Kids.length c358, .slice A360 a0.Keys.length c361, .slice A363 a0.Entries.length c364, .slice A366 a0.Labels.length c367]] (evs1 hv369) rfl ((ok_semtyperef1_Height fuel) _ _ _ _ (Val.rpvMk (v := a0) h359 h362 h365 h368) e107) ?_
                intro v371 s370 hx372 hr373
                have hE374 := hE350.ext hE350.size hx372
                obtain rfl := RpV.int hr373
                refine wpList_nil ?_
                exact ⟨_, _, rfl, rfl, (ExtB.refl _ _).trans (hx372.mono hE350.size), (Wext.refl _).trans hx372.wext, rfl, ⟨(g351.ext hx372), (g352.ext hx372), (g353.ext hx372), (g354.ext hx372)⟩⟩
              · intro D375 F376 s377 d378 d379 d380 hE381 hW382 hG383 hfr384 hR385
                have hE386 := hE98.trans hE381
                obtain ⟨g387, g388, g389, g390⟩ := hG383
                have q391 : F376 24 = (.bool (r99 == r101)) := hR385 5 rfl 24 rfl
                have q392 : F376 26 = (.int .i64 r104) := hR385 7 rfl 26 rfl
                have q393 : F376 28 = (.int .i64 r106) := hR385 9 rfl 28 rfl
                refine Or.inr ⟨(r99 == r101), (fun d hd => by cases hd; exact q391), fun _ => ?_, fun h => absurd (hc103 : (r99 == r101) = true) h⟩
                refine r_bin (.int .i64 r104) (.int .i64 r106) (.bool (r104 == r106)) q392 q393 rfl rfl (b_eql) ?_
                refine wpList_nil ?_
                exact ⟨_, _, rfl, rfl, ExtB.refl _ _, Wext.refl _, rfl, ⟨g387, g388, g389, g390⟩⟩
              · intro D394 F395 s396 d397 d398 d399 hE400 hW401 hG402 hfr403 hR404
                have hE405 := hE98.trans hE400
                obtain ⟨g406, g407, g408, g409⟩ := hG402
                have q410 : F395 24 = (.bool (r99 == r101)) := hR404 5 rfl 24 rfl
                have q411 : F395 29 = (.bool (r104 == r106)) := hR404 10 rfl 29 rfl
                refine r_pick_t (c := (r99 == r101)) (.bool (r104 == r106)) q410 hc103 q411 rfl rfl rfl ?_
                refine wpList_nil ?_
                exact ⟨_, _, rfl, rfl, ExtB.refl _ _, Wext.refl _, rfl, ⟨g406, g407, g408, g409⟩⟩
              · intro D412 F413 s414 d415 d416 d417 hE418 hW419 hG420 hfr421 hR422
                have hE423 := hE98.trans hE418
                obtain ⟨g424, g425, g426, g427⟩ := hG420
                have q428 : F413 30 = (.bool (r104 == r106)) := hR422 11 rfl 30 rfl
                refine r_move (.bool (r104 == r106)) q428 rfl ?_
                refine wpList_nil ?_
                exact ⟨_, _, rfl, rfl, ExtB.refl _ _, Wext.refl _, rfl, ⟨g424, g425, g426, g427⟩⟩
              · intro D429 F430 s431 d432 d433 d434 hE435 hW436 hG437 hfr438 hR439
                have hE440 := hE98.trans hE435
                obtain ⟨g441, g442, g443, g444⟩ := hG437
                have hb445 := g443
                have q446 : F430 31 = (.bool (r104 == r106)) := hR439 12 rfl 31 rfl
                refine Or.inr ⟨(r104 == r106), (fun d hd => by cases hd; exact q446), fun _ => ?_, fun h => absurd (hc108 : (r104 == r106) = true) h⟩
                refine r_load b90 0 (.agg #[.int .i64 r71.Kind, .int .i64 r71.Int_, .string r71.Text, .slice A78 r71.Kids.length c79, .slice A81 r71.Keys.length c82, .slice A84 r71.Entries.length c85, .slice A87 r71.Labels.length c88]) ((hfr438 5 rfl).trans rfl) rfl (loads_row tr27 (Blk.range hb445 0 [.int .i64 r71.Kind, .int .i64 r71.Int_, .string r71.Text, .slice A78 r71.Kids.length c79, .slice A81 r71.Keys.length c82, .slice A84 r71.Entries.length c85, .slice A87 r71.Labels.length c88] rfl)) ?_
                refine wpList_nil ?_
                exact ⟨_, _, rfl, rfl, ExtB.refl _ _, Wext.refl _, (Val.rpvMk (v := r71) (((h80.mono hx92.wext).mono hm96.wext).mono hW436) (((h83.mono hx92.wext).mono hm96.wext).mono hW436) (((h86.mono hx92.wext).mono hm96.wext).mono hW436) (((h89.mono hx92.wext).mono hm96.wext).mono hW436)), ⟨g441, g442, g443, g444⟩⟩
              · intro D447 F448 s449 d450 d451 d452 hE453 hW454 hG455 hfr456 hR457
                have hE458 := hE98.trans hE453
                obtain ⟨g459, g460, g461, g462⟩ := hG455
                have q463 : F448 31 = (.bool (r104 == r106)) := hR457 12 rfl 31 rfl
                have q464 : RpV s449 (r71 : Val) (F448 32) := hR457 13 rfl 32 rfl
                obtain ⟨A465, c466, A468, c469, A471, c472, A474, c475, hv477, h467, h470, h473, h476⟩ := Val.rpv q464
                refine Or.inr ⟨(r104 == r106), (fun d hd => by cases hd; exact q463), fun _ => ?_, fun h => absurd (hc108 : (r104 == r106) = true) h⟩
                refine r_call [.agg #[.int .i64 r71.Kind, .int .i64 r71.Int_, .string r71.Text, .slice A465 r71.Kids.length c466, .slice A468 r71.Keys.length c469, .slice A471 r71.Entries.length c472, .slice A474 r71.Labels.length c475]] (evs1 hv477) rfl ((ok_value_Nodes fuel) _ _ _ _ (Val.rpvMk (v := r71) h467 h470 h473 h476) e110) ?_
                intro v479 s478 hx480 hr481
                have hE482 := hE458.ext hE458.size hx480
                obtain rfl := RpV.int hr481
                refine wpList_nil ?_
                exact ⟨_, _, rfl, rfl, (ExtB.refl _ _).trans (hx480.mono hE458.size), (Wext.refl _).trans hx480.wext, rfl, ⟨(g459.ext hx480), (g460.ext hx480), (g461.ext hx480), (g462.ext hx480)⟩⟩
              · intro D483 F484 s485 d486 d487 d488 hE489 hW490 hG491 hfr492 hR493
                have hE494 := hE98.trans hE489
                obtain ⟨g495, g496, g497, g498⟩ := hG491
                have hb499 := g495
                have q500 : F484 31 = (.bool (r104 == r106)) := hR493 12 rfl 31 rfl
                refine Or.inr ⟨(r104 == r106), (fun d hd => by cases hd; exact q500), fun _ => ?_, fun h => absurd (hc108 : (r104 == r106) = true) h⟩
                refine r_load b25 0 (.agg #[.int .i64 a0.Kind, .int .i64 a0.Int_, .string a0.Text, .slice A1 a0.Kids.length c2, .slice A4 a0.Keys.length c5, .slice A7 a0.Entries.length c8, .slice A10 a0.Labels.length c11]) ((hfr492 2 rfl).trans rfl) rfl (loads_row tr27 (Blk.range hb499 0 [.int .i64 a0.Kind, .int .i64 a0.Int_, .string a0.Text, .slice A1 a0.Kids.length c2, .slice A4 a0.Keys.length c5, .slice A7 a0.Entries.length c8, .slice A10 a0.Labels.length c11] rfl)) ?_
                refine wpList_nil ?_
                exact ⟨_, _, rfl, rfl, ExtB.refl _ _, Wext.refl _, (Val.rpvMk (v := a0) (((((((((h3.mono hx27.wext).mono hx32.wext).mono hx39.wext).mono hx54.wext).mono hx68.wext).mono hx75.wext).mono hx92.wext).mono hm96.wext).mono hW490) (((((((((h6.mono hx27.wext).mono hx32.wext).mono hx39.wext).mono hx54.wext).mono hx68.wext).mono hx75.wext).mono hx92.wext).mono hm96.wext).mono hW490) (((((((((h9.mono hx27.wext).mono hx32.wext).mono hx39.wext).mono hx54.wext).mono hx68.wext).mono hx75.wext).mono hx92.wext).mono hm96.wext).mono hW490) (((((((((h12.mono hx27.wext).mono hx32.wext).mono hx39.wext).mono hx54.wext).mono hx68.wext).mono hx75.wext).mono hx92.wext).mono hm96.wext).mono hW490)), ⟨g495, g496, g497, g498⟩⟩
              · intro D501 F502 s503 d504 d505 d506 hE507 hW508 hG509 hfr510 hR511
                have hE512 := hE98.trans hE507
                obtain ⟨g513, g514, g515, g516⟩ := hG509
                have q517 : F502 31 = (.bool (r104 == r106)) := hR511 12 rfl 31 rfl
                have q518 : RpV s503 (a0 : Val) (F502 34) := hR511 15 rfl 34 rfl
                obtain ⟨A519, c520, A522, c523, A525, c526, A528, c529, hv531, h521, h524, h527, h530⟩ := Val.rpv q518
                refine Or.inr ⟨(r104 == r106), (fun d hd => by cases hd; exact q517), fun _ => ?_, fun h => absurd (hc108 : (r104 == r106) = true) h⟩
                refine r_call [.agg #[.int .i64 a0.Kind, .int .i64 a0.Int_, .string a0.Text, .slice A519 a0.Kids.length c520, .slice A522 a0.Keys.length c523, .slice A525 a0.Entries.length c526, .slice A528 a0.Labels.length c529]] (evs1 hv531) rfl ((ok_value_Nodes fuel) _ _ _ _ (Val.rpvMk (v := a0) h521 h524 h527 h530) e112) ?_
                intro v533 s532 hx534 hr535
                have hE536 := hE512.ext hE512.size hx534
                obtain rfl := RpV.int hr535
                refine wpList_nil ?_
                exact ⟨_, _, rfl, rfl, (ExtB.refl _ _).trans (hx534.mono hE512.size), (Wext.refl _).trans hx534.wext, rfl, ⟨(g513.ext hx534), (g514.ext hx534), (g515.ext hx534), (g516.ext hx534)⟩⟩
              · intro D537 F538 s539 d540 d541 d542 hE543 hW544 hG545 hfr546 hR547
                have hE548 := hE98.trans hE543
                obtain ⟨g549, g550, g551, g552⟩ := hG545
                have q553 : F538 31 = (.bool (r104 == r106)) := hR547 12 rfl 31 rfl
                have q554 : F538 35 = (.int .i64 r111) := hR547 16 rfl 35 rfl
                refine Or.inr ⟨(r104 == r106), (fun d hd => by cases hd; exact q553), fun _ => ?_, fun h => absurd (hc108 : (r104 == r106) = true) h⟩
                refine r_bin (.int .i64 1) (.int .i64 r111) (.int .i64 (w64 (1 + r111))) rfl q554 rfl rfl (b_add) ?_
                refine wpList_nil ?_
                exact ⟨_, _, rfl, rfl, ExtB.refl _ _, Wext.refl _, rfl, ⟨g549, g550, g551, g552⟩⟩
              · intro D555 F556 s557 d558 d559 d560 hE561 hW562 hG563 hfr564 hR565
                have hE566 := hE98.trans hE561
                obtain ⟨g567, g568, g569, g570⟩ := hG563
                have hb571 := g568
                have q572 : F556 31 = (.bool (r104 == r106)) := hR565 12 rfl 31 rfl
                refine Or.inr ⟨(r104 == r106), (fun d hd => by cases hd; exact q572), fun _ => ?_, fun h => absurd (hc108 : (r104 == r106) = true) h⟩
                refine r_load b30 0 (.agg #[.int .i64 a1.Kind, .int .i64 a1.Int_, .string a1.Text, .slice A13 a1.Kids.length c14, .slice A16 a1.Keys.length c17, .slice A19 a1.Entries.length c20, .slice A22 a1.Labels.length c23]) ((hfr564 3 rfl).trans rfl) rfl (loads_row tr27 (Blk.range hb571 0 [.int .i64 a1.Kind, .int .i64 a1.Int_, .string a1.Text, .slice A13 a1.Kids.length c14, .slice A16 a1.Keys.length c17, .slice A19 a1.Entries.length c20, .slice A22 a1.Labels.length c23] rfl)) ?_
                refine wpList_nil ?_
                exact ⟨_, _, rfl, rfl, ExtB.refl _ _, Wext.refl _, (Val.rpvMk (v := a1) (((((((((h15.mono hx27.wext).mono hx32.wext).mono hx39.wext).mono hx54.wext).mono hx68.wext).mono hx75.wext).mono hx92.wext).mono hm96.wext).mono hW562) (((((((((h18.mono hx27.wext).mono hx32.wext).mono hx39.wext).mono hx54.wext).mono hx68.wext).mono hx75.wext).mono hx92.wext).mono hm96.wext).mono hW562) (((((((((h21.mono hx27.wext).mono hx32.wext).mono hx39.wext).mono hx54.wext).mono hx68.wext).mono hx75.wext).mono hx92.wext).mono hm96.wext).mono hW562) (((((((((h24.mono hx27.wext).mono hx32.wext).mono hx39.wext).mono hx54.wext).mono hx68.wext).mono hx75.wext).mono hx92.wext).mono hm96.wext).mono hW562)), ⟨g567, g568, g569, g570⟩⟩
              · intro D573 F574 s575 d576 d577 d578 hE579 hW580 hG581 hfr582 hR583
                have hE584 := hE98.trans hE579
                obtain ⟨g585, g586, g587, g588⟩ := hG581
                have q589 : F574 31 = (.bool (r104 == r106)) := hR583 12 rfl 31 rfl
                have q590 : RpV s575 (a1 : Val) (F574 37) := hR583 18 rfl 37 rfl
                obtain ⟨A591, c592, A594, c595, A597, c598, A600, c601, hv603, h593, h596, h599, h602⟩ := Val.rpv q590
                refine Or.inr ⟨(r104 == r106), (fun d hd => by cases hd; exact q589), fun _ => ?_, fun h => absurd (hc108 : (r104 == r106) = true) h⟩
                refine r_call [.agg #[.int .i64 a1.Kind, .int .i64 a1.Int_, .string a1.Text, .slice A591 a1.Kids.length c592, .slice A594 a1.Keys.length c595, .slice A597 a1.Entries.length c598, .slice A600 a1.Labels.length c601]] (evs1 hv603) rfl ((ok_value_Nodes fuel) _ _ _ _ (Val.rpvMk (v := a1) h593 h596 h599 h602) e114) ?_
                intro v605 s604 hx606 hr607
                have hE608 := hE584.ext hE584.size hx606
                obtain rfl := RpV.int hr607
                refine wpList_nil ?_
                exact ⟨_, _, rfl, rfl, (ExtB.refl _ _).trans (hx606.mono hE584.size), (Wext.refl _).trans hx606.wext, rfl, ⟨(g585.ext hx606), (g586.ext hx606), (g587.ext hx606), (g588.ext hx606)⟩⟩
              · intro D609 F610 s611 d612 d613 d614 hE615 hW616 hG617 hfr618 hR619
                have hE620 := hE98.trans hE615
                obtain ⟨g621, g622, g623, g624⟩ := hG617
                have q625 : F610 31 = (.bool (r104 == r106)) := hR619 12 rfl 31 rfl
                have q626 : F610 36 = (.int .i64 (w64 (1 + r111))) := hR619 17 rfl 36 rfl
                have q627 : F610 38 = (.int .i64 r113) := hR619 19 rfl 38 rfl
                refine Or.inr ⟨(r104 == r106), (fun d hd => by cases hd; exact q625), fun _ => ?_, fun h => absurd (hc108 : (r104 == r106) = true) h⟩
                refine r_bin (.int .i64 (w64 (1 + r111))) (.int .i64 r113) (.int .i64 (w64 ((w64 (1 + r111)) + r113))) q626 q627 rfl rfl (b_add) ?_
                refine wpList_nil ?_
                exact ⟨_, _, rfl, rfl, ExtB.refl _ _, Wext.refl _, rfl, ⟨g621, g622, g623, g624⟩⟩
              · intro D628 F629 s630 d631 d632 d633 hE634 hW635 hG636 hfr637 hR638
                have hE639 := hE98.trans hE634
                obtain ⟨g640, g641, g642, g643⟩ := hG636
                have q644 : F629 31 = (.bool (r104 == r106)) := hR638 12 rfl 31 rfl
                have q645 : F629 33 = (.int .i64 r109) := hR638 14 rfl 33 rfl
                have q646 : F629 39 = (.int .i64 (w64 ((w64 (1 + r111)) + r113))) := hR638 20 rfl 39 rfl
                refine Or.inr ⟨(r104 == r106), (fun d hd => by cases hd; exact q644), fun _ => ?_, fun h => absurd (hc108 : (r104 == r106) = true) h⟩
                refine r_bin (.int .i64 r109) (.int .i64 (w64 ((w64 (1 + r111)) + r113))) (.bool (r109 == (w64 ((w64 (1 + r111)) + r113)))) q645 q646 rfl rfl (b_eql) ?_
                refine wpList_nil ?_
                exact ⟨_, _, rfl, rfl, ExtB.refl _ _, Wext.refl _, rfl, ⟨g640, g641, g642, g643⟩⟩
              · intro D647 F648 s649 d650 d651 d652 hE653 hW654 hG655 hfr656 hR657
                have hE658 := hE98.trans hE653
                obtain ⟨g659, g660, g661, g662⟩ := hG655
                have q663 : F648 31 = (.bool (r104 == r106)) := hR657 12 rfl 31 rfl
                have q664 : F648 40 = (.bool (r109 == (w64 ((w64 (1 + r111)) + r113)))) := hR657 21 rfl 40 rfl
                refine r_pick_t (c := (r104 == r106)) (.bool (r109 == (w64 ((w64 (1 + r111)) + r113)))) q663 hc108 q664 rfl rfl rfl ?_
                refine wpList_nil ?_
                exact ⟨_, _, rfl, rfl, ExtB.refl _ _, Wext.refl _, rfl, ⟨g659, g660, g661, g662⟩⟩
              · intro D665 F666 s667 d668 d669 d670 hE671 hW672 hG673 hfr674 hR675
                have hE676 := hE98.trans hE671
                obtain ⟨g677, g678, g679, g680⟩ := hG673
                have q681 : F666 41 = (.bool (r109 == (w64 ((w64 (1 + r111)) + r113)))) := hR675 22 rfl 41 rfl
                refine r_move (.bool (r109 == (w64 ((w64 (1 + r111)) + r113)))) q681 rfl ?_
                refine wpList_nil ?_
                exact ⟨_, _, rfl, rfl, ExtB.refl _ _, Wext.refl _, rfl, ⟨g677, g678, g679, g680⟩⟩
              · intro D682 F683 s684 d685 d686 d687 hE688 hW689 hG690 hfr691 hR692
                have hE693 := hE98.trans hE688
                obtain ⟨g694, g695, g696, g697⟩ := hG690
                have hb698 := g696
                have q699 : F683 42 = (.bool (r109 == (w64 ((w64 (1 + r111)) + r113)))) := hR692 23 rfl 42 rfl
                refine Or.inr ⟨(r109 == (w64 ((w64 (1 + r111)) + r113))), (fun d hd => by cases hd; exact q699), fun _ => ?_, fun h => absurd (hc115 : (r109 == (w64 ((w64 (1 + r111)) + r113))) = true) h⟩
                refine r_load b90 0 (.agg #[.int .i64 r71.Kind, .int .i64 r71.Int_, .string r71.Text, .slice A78 r71.Kids.length c79, .slice A81 r71.Keys.length c82, .slice A84 r71.Entries.length c85, .slice A87 r71.Labels.length c88]) ((hfr691 5 rfl).trans rfl) rfl (loads_row tr27 (Blk.range hb698 0 [.int .i64 r71.Kind, .int .i64 r71.Int_, .string r71.Text, .slice A78 r71.Kids.length c79, .slice A81 r71.Keys.length c82, .slice A84 r71.Entries.length c85, .slice A87 r71.Labels.length c88] rfl)) ?_
                refine wpList_nil ?_
                exact ⟨_, _, rfl, rfl, ExtB.refl _ _, Wext.refl _, (Val.rpvMk (v := r71) (((h80.mono hx92.wext).mono hm96.wext).mono hW689) (((h83.mono hx92.wext).mono hm96.wext).mono hW689) (((h86.mono hx92.wext).mono hm96.wext).mono hW689) (((h89.mono hx92.wext).mono hm96.wext).mono hW689)), ⟨g694, g695, g696, g697⟩⟩
              · intro D700 F701 s702 d703 d704 d705 hE706 hW707 hG708 hfr709 hR710
                have hE711 := hE98.trans hE706
                obtain ⟨g712, g713, g714, g715⟩ := hG708
                have q716 : F701 42 = (.bool (r109 == (w64 ((w64 (1 + r111)) + r113)))) := hR710 23 rfl 42 rfl
                have q717 : RpV s702 (r71 : Val) (F701 43) := hR710 24 rfl 43 rfl
                obtain ⟨A718, c719, A721, c722, A724, c725, A727, c728, hv730, h720, h723, h726, h729⟩ := Val.rpv q717
                refine Or.inr ⟨(r109 == (w64 ((w64 (1 + r111)) + r113))), (fun d hd => by cases hd; exact q716), fun _ => ?_, fun h => absurd (hc115 : (r109 == (w64 ((w64 (1 + r111)) + r113))) = true) h⟩
                refine r_call [.agg #[.int .i64 r71.Kind, .int .i64 r71.Int_, .string r71.Text, .slice A718 r71.Kids.length c719, .slice A721 r71.Keys.length c722, .slice A724 r71.Entries.length c725, .slice A727 r71.Labels.length c728]] (evs1 hv730) rfl ((ok_value_Height fuel) _ _ _ _ (Val.rpvMk (v := r71) h720 h723 h726 h729) e117) ?_
                intro v732 s731 hx733 hr734
                have hE735 := hE711.ext hE711.size hx733
                obtain rfl := RpV.int hr734
                refine wpList_nil ?_
                exact ⟨_, _, rfl, rfl, (ExtB.refl _ _).trans (hx733.mono hE711.size), (Wext.refl _).trans hx733.wext, rfl, ⟨(g712.ext hx733), (g713.ext hx733), (g714.ext hx733), (g715.ext hx733)⟩⟩
              · intro D736 F737 s738 d739 d740 d741 hE742 hW743 hG744 hfr745 hR746
                have hE747 := hE98.trans hE742
                obtain ⟨g748, g749, g750, g751⟩ := hG744
                have hb752 := g748
                have q753 : F737 42 = (.bool (r109 == (w64 ((w64 (1 + r111)) + r113)))) := hR746 23 rfl 42 rfl
                refine Or.inr ⟨(r109 == (w64 ((w64 (1 + r111)) + r113))), (fun d hd => by cases hd; exact q753), fun _ => ?_, fun h => absurd (hc115 : (r109 == (w64 ((w64 (1 + r111)) + r113))) = true) h⟩
                refine r_load b25 0 (.agg #[.int .i64 a0.Kind, .int .i64 a0.Int_, .string a0.Text, .slice A1 a0.Kids.length c2, .slice A4 a0.Keys.length c5, .slice A7 a0.Entries.length c8, .slice A10 a0.Labels.length c11]) ((hfr745 2 rfl).trans rfl) rfl (loads_row tr27 (Blk.range hb752 0 [.int .i64 a0.Kind, .int .i64 a0.Int_, .string a0.Text, .slice A1 a0.Kids.length c2, .slice A4 a0.Keys.length c5, .slice A7 a0.Entries.length c8, .slice A10 a0.Labels.length c11] rfl)) ?_
                refine wpList_nil ?_
                exact ⟨_, _, rfl, rfl, ExtB.refl _ _, Wext.refl _, (Val.rpvMk (v := a0) (((((((((h3.mono hx27.wext).mono hx32.wext).mono hx39.wext).mono hx54.wext).mono hx68.wext).mono hx75.wext).mono hx92.wext).mono hm96.wext).mono hW743) (((((((((h6.mono hx27.wext).mono hx32.wext).mono hx39.wext).mono hx54.wext).mono hx68.wext).mono hx75.wext).mono hx92.wext).mono hm96.wext).mono hW743) (((((((((h9.mono hx27.wext).mono hx32.wext).mono hx39.wext).mono hx54.wext).mono hx68.wext).mono hx75.wext).mono hx92.wext).mono hm96.wext).mono hW743) (((((((((h12.mono hx27.wext).mono hx32.wext).mono hx39.wext).mono hx54.wext).mono hx68.wext).mono hx75.wext).mono hx92.wext).mono hm96.wext).mono hW743)), ⟨g748, g749, g750, g751⟩⟩
              · intro D754 F755 s756 d757 d758 d759 hE760 hW761 hG762 hfr763 hR764
                have hE765 := hE98.trans hE760
                obtain ⟨g766, g767, g768, g769⟩ := hG762
                have q770 : F755 42 = (.bool (r109 == (w64 ((w64 (1 + r111)) + r113)))) := hR764 23 rfl 42 rfl
                have q771 : RpV s756 (a0 : Val) (F755 45) := hR764 26 rfl 45 rfl
                obtain ⟨A772, c773, A775, c776, A778, c779, A781, c782, hv784, h774, h777, h780, h783⟩ := Val.rpv q771
                refine Or.inr ⟨(r109 == (w64 ((w64 (1 + r111)) + r113))), (fun d hd => by cases hd; exact q770), fun _ => ?_, fun h => absurd (hc115 : (r109 == (w64 ((w64 (1 + r111)) + r113))) = true) h⟩
                refine r_call [.agg #[.int .i64 a0.Kind, .int .i64 a0.Int_, .string a0.Text, .slice A772 a0.Kids.length c773, .slice A775 a0.Keys.length c776, .slice A778 a0.Entries.length c779, .slice A781 a0.Labels.length c782]] (evs1 hv784) rfl ((ok_value_Height fuel) _ _ _ _ (Val.rpvMk (v := a0) h774 h777 h780 h783) e119) ?_
                intro v786 s785 hx787 hr788
                have hE789 := hE765.ext hE765.size hx787
                obtain rfl := RpV.int hr788
                refine wpList_nil ?_
                exact ⟨_, _, rfl, rfl, (ExtB.refl _ _).trans (hx787.mono hE765.size), (Wext.refl _).trans hx787.wext, rfl, ⟨(g766.ext hx787), (g767.ext hx787), (g768.ext hx787), (g769.ext hx787)⟩⟩
              · intro D790 F791 s792 d793 d794 d795 hE796 hW797 hG798 hfr799 hR800
                have hE801 := hE98.trans hE796
                obtain ⟨g802, g803, g804, g805⟩ := hG798
                have hb806 := g803
                have q807 : F791 42 = (.bool (r109 == (w64 ((w64 (1 + r111)) + r113)))) := hR800 23 rfl 42 rfl
                refine Or.inr ⟨(r109 == (w64 ((w64 (1 + r111)) + r113))), (fun d hd => by cases hd; exact q807), fun _ => ?_, fun h => absurd (hc115 : (r109 == (w64 ((w64 (1 + r111)) + r113))) = true) h⟩
                refine r_load b30 0 (.agg #[.int .i64 a1.Kind, .int .i64 a1.Int_, .string a1.Text, .slice A13 a1.Kids.length c14, .slice A16 a1.Keys.length c17, .slice A19 a1.Entries.length c20, .slice A22 a1.Labels.length c23]) ((hfr799 3 rfl).trans rfl) rfl (loads_row tr27 (Blk.range hb806 0 [.int .i64 a1.Kind, .int .i64 a1.Int_, .string a1.Text, .slice A13 a1.Kids.length c14, .slice A16 a1.Keys.length c17, .slice A19 a1.Entries.length c20, .slice A22 a1.Labels.length c23] rfl)) ?_
                refine wpList_nil ?_
                exact ⟨_, _, rfl, rfl, ExtB.refl _ _, Wext.refl _, (Val.rpvMk (v := a1) (((((((((h15.mono hx27.wext).mono hx32.wext).mono hx39.wext).mono hx54.wext).mono hx68.wext).mono hx75.wext).mono hx92.wext).mono hm96.wext).mono hW797) (((((((((h18.mono hx27.wext).mono hx32.wext).mono hx39.wext).mono hx54.wext).mono hx68.wext).mono hx75.wext).mono hx92.wext).mono hm96.wext).mono hW797) (((((((((h21.mono hx27.wext).mono hx32.wext).mono hx39.wext).mono hx54.wext).mono hx68.wext).mono hx75.wext).mono hx92.wext).mono hm96.wext).mono hW797) (((((((((h24.mono hx27.wext).mono hx32.wext).mono hx39.wext).mono hx54.wext).mono hx68.wext).mono hx75.wext).mono hx92.wext).mono hm96.wext).mono hW797)), ⟨g802, g803, g804, g805⟩⟩
              · intro D808 F809 s810 d811 d812 d813 hE814 hW815 hG816 hfr817 hR818
                have hE819 := hE98.trans hE814
                obtain ⟨g820, g821, g822, g823⟩ := hG816
                have q824 : F809 42 = (.bool (r109 == (w64 ((w64 (1 + r111)) + r113)))) := hR818 23 rfl 42 rfl
                have q825 : RpV s810 (a1 : Val) (F809 47) := hR818 28 rfl 47 rfl
                obtain ⟨A826, c827, A829, c830, A832, c833, A835, c836, hv838, h828, h831, h834, h837⟩ := Val.rpv q825
                refine Or.inr ⟨(r109 == (w64 ((w64 (1 + r111)) + r113))), (fun d hd => by cases hd; exact q824), fun _ => ?_, fun h => absurd (hc115 : (r109 == (w64 ((w64 (1 + r111)) + r113))) = true) h⟩
                refine r_call [.agg #[.int .i64 a1.Kind, .int .i64 a1.Int_, .string a1.Text, .slice A826 a1.Kids.length c827, .slice A829 a1.Keys.length c830, .slice A832 a1.Entries.length c833, .slice A835 a1.Labels.length c836]] (evs1 hv838) rfl ((ok_value_Height fuel) _ _ _ _ (Val.rpvMk (v := a1) h828 h831 h834 h837) e121) ?_
                intro v840 s839 hx841 hr842
                have hE843 := hE819.ext hE819.size hx841
                obtain rfl := RpV.int hr842
                refine wpList_nil ?_
                exact ⟨_, _, rfl, rfl, (ExtB.refl _ _).trans (hx841.mono hE819.size), (Wext.refl _).trans hx841.wext, rfl, ⟨(g820.ext hx841), (g821.ext hx841), (g822.ext hx841), (g823.ext hx841)⟩⟩
              · intro D844 F845 s846 d847 d848 d849 hE850 hW851 hG852 hfr853 hR854
                have hE855 := hE98.trans hE850
                obtain ⟨g856, g857, g858, g859⟩ := hG852
                have q860 : F845 42 = (.bool (r109 == (w64 ((w64 (1 + r111)) + r113)))) := hR854 23 rfl 42 rfl
                have q861 : F845 46 = (.int .i64 r118) := hR854 27 rfl 46 rfl
                have q862 : F845 48 = (.int .i64 r120) := hR854 29 rfl 48 rfl
                refine Or.inr ⟨(r109 == (w64 ((w64 (1 + r111)) + r113))), (fun d hd => by cases hd; exact q860), fun _ => ?_, fun h => absurd (hc115 : (r109 == (w64 ((w64 (1 + r111)) + r113))) = true) h⟩
                refine r_max .i64 r118 r120 q861 q862 rfl rfl ?_
                refine wpList_nil ?_
                exact ⟨_, _, rfl, rfl, ExtB.refl _ _, Wext.refl _, rfl, ⟨g856, g857, g858, g859⟩⟩
              · intro D863 F864 s865 d866 d867 d868 hE869 hW870 hG871 hfr872 hR873
                have hE874 := hE98.trans hE869
                obtain ⟨g875, g876, g877, g878⟩ := hG871
                have q879 : F864 42 = (.bool (r109 == (w64 ((w64 (1 + r111)) + r113)))) := hR873 23 rfl 42 rfl
                have q880 : F864 49 = (.int .i64 (max r118 r120)) := hR873 30 rfl 49 rfl
                refine Or.inr ⟨(r109 == (w64 ((w64 (1 + r111)) + r113))), (fun d hd => by cases hd; exact q879), fun _ => ?_, fun h => absurd (hc115 : (r109 == (w64 ((w64 (1 + r111)) + r113))) = true) h⟩
                refine r_bin (.int .i64 1) (.int .i64 (max r118 r120)) (.int .i64 (w64 (1 + (max r118 r120)))) rfl q880 rfl rfl (b_add) ?_
                refine wpList_nil ?_
                exact ⟨_, _, rfl, rfl, ExtB.refl _ _, Wext.refl _, rfl, ⟨g875, g876, g877, g878⟩⟩
              · intro D881 F882 s883 d884 d885 d886 hE887 hW888 hG889 hfr890 hR891
                have hE892 := hE98.trans hE887
                obtain ⟨g893, g894, g895, g896⟩ := hG889
                have q897 : F882 42 = (.bool (r109 == (w64 ((w64 (1 + r111)) + r113)))) := hR891 23 rfl 42 rfl
                have q898 : F882 44 = (.int .i64 r116) := hR891 25 rfl 44 rfl
                have q899 : F882 50 = (.int .i64 (w64 (1 + (max r118 r120)))) := hR891 31 rfl 50 rfl
                refine Or.inr ⟨(r109 == (w64 ((w64 (1 + r111)) + r113))), (fun d hd => by cases hd; exact q897), fun _ => ?_, fun h => absurd (hc115 : (r109 == (w64 ((w64 (1 + r111)) + r113))) = true) h⟩
                refine r_bin (.int .i64 r116) (.int .i64 (w64 (1 + (max r118 r120)))) (.bool (r116 == (w64 (1 + (max r118 r120))))) q898 q899 rfl rfl (b_eql) ?_
                refine wpList_nil ?_
                exact ⟨_, _, rfl, rfl, ExtB.refl _ _, Wext.refl _, rfl, ⟨g893, g894, g895, g896⟩⟩
              · intro D900 F901 s902 d903 d904 d905 hE906 hW907 hG908 hfr909 hR910
                have hE911 := hE98.trans hE906
                obtain ⟨g912, g913, g914, g915⟩ := hG908
                have q916 : F901 42 = (.bool (r109 == (w64 ((w64 (1 + r111)) + r113)))) := hR910 23 rfl 42 rfl
                have q917 : F901 51 = (.bool (r116 == (w64 (1 + (max r118 r120))))) := hR910 32 rfl 51 rfl
                refine r_pick_t (c := (r109 == (w64 ((w64 (1 + r111)) + r113)))) (.bool (r116 == (w64 (1 + (max r118 r120))))) q916 hc115 q917 rfl rfl rfl ?_
                refine wpList_nil ?_
                exact ⟨_, _, rfl, rfl, ExtB.refl _ _, Wext.refl _, rfl, ⟨g912, g913, g914, g915⟩⟩
              · intro D918 F919 s920 d921 d922 d923 hE924 hW925 hG926 hfr927 hR928
                have hE929 := hE98.trans hE924
                obtain ⟨g930, g931, g932, g933⟩ := hG926
                have q934 : F919 52 = (.bool (r116 == (w64 (1 + (max r118 r120))))) := hR928 33 rfl 52 rfl
                refine r_move (.bool (r116 == (w64 (1 + (max r118 r120))))) q934 rfl ?_
                refine wpList_nil ?_
                exact ⟨_, _, rfl, rfl, ExtB.refl _ _, Wext.refl _, rfl, ⟨g930, g931, g932, g933⟩⟩
              · intro D935 F936 s937 d938 d939 d940 hE941 hW942 hG943 hfr944 hR945
                have hE946 := hE98.trans hE941
                obtain ⟨g947, g948, g949, g950⟩ := hG943
                have q951 : F936 53 = (.bool (r116 == (w64 (1 + (max r118 r120))))) := hR945 34 rfl 53 rfl
                refine Or.inr ⟨(r116 == (w64 (1 + (max r118 r120)))), (fun d hd => by cases hd; exact q951), fun _ => ?_, fun h => absurd (hc122 : (r116 == (w64 (1 + (max r118 r120)))) = true) h⟩
                refine r_call [] evs0 rfl ((ok_semtypelaw4_awake fuel) _ _  e124) ?_
                intro v953 s952 hx954 hr955
                have hE956 := hE946.ext hE946.size hx954
                obtain rfl := RpV.bool hr955
                refine wpList_nil ?_
                exact ⟨_, _, rfl, rfl, (ExtB.refl _ _).trans (hx954.mono hE946.size), (Wext.refl _).trans hx954.wext, rfl, ⟨(g947.ext hx954), (g948.ext hx954), (g949.ext hx954), (g950.ext hx954)⟩⟩
              · intro D957 F958 s959 d960 d961 d962 hE963 hW964 hG965 hfr966 hR967
                have hE968 := hE98.trans hE963
                obtain ⟨g969, g970, g971, g972⟩ := hG965
                have q973 : F958 53 = (.bool (r116 == (w64 (1 + (max r118 r120))))) := hR967 34 rfl 53 rfl
                have q974 : F958 54 = (.bool r123) := hR967 35 rfl 54 rfl
                refine r_pick_t (c := (r116 == (w64 (1 + (max r118 r120))))) (.bool r123) q973 hc122 q974 rfl rfl rfl ?_
                refine wpList_nil ?_
                exact ⟨_, _, rfl, rfl, ExtB.refl _ _, Wext.refl _, rfl, ⟨g969, g970, g971, g972⟩⟩
              · intro D975 F976 s977 d978 d979 d980 hE981 hW982 hG983 hfr984 hR985
                have hE986 := hE98.trans hE981
                obtain ⟨g987, g988, g989, g990⟩ := hG983
                have q991 : F976 55 = (.bool r123) := hR985 36 rfl 55 rfl
                refine r_assign (.bool r123) q991 rfl ?_
                refine wpList_nil ?_
                exact ⟨_, _, rfl, rfl, ExtB.refl _ _, Wext.refl _, rfl, ⟨g987, g988, g989, g990⟩⟩
              · intro F992 s993 hE994 hW995 hG996 hfr997 hR998
                have hE999 := hE98.trans hE994
                obtain ⟨g1000, g1001, g1002, g1003⟩ := hG996
                have hb1004 := g1000
                have hb1005 := g1001
                have hb1006 := g1002
                have q1007 : F992 4 = (.bool r123) := hR998 37 4 rfl
                refine p_then ?_
                refine wp_ret ?_
                obtain rfl := Option.some.inj hf
                refine ret_one (.bool r123) rfl ⟨rfl, q1007⟩ hE999 ?_
                exact (RpV.mkBool _ _)
            · refine wp_draw (B := s0.N) [some 19, some 20, some 21, some 22, some 23, some 24, some 25, some 26, some 27, some 28, some 29, some 30, some 31, some 32, some 33, some 34, some 35, some 36, some 37, some 38, some 39, some 40, some 41, some 42, some 43, some 44, some 45, some 46, some 47, some 48, some 49, some 50, some 51, some 52, some 53, some 54, some 55, some 4] [[], [0], [], [0, 1, 2], [0, 1, 2, 3], [0, 1, 2, 3, 4], [0, 1, 2, 3, 4, 5], [0, 1, 2, 3, 4, 5, 6], [0, 1, 2, 3, 4, 5], [0, 1, 2, 3, 4, 5, 6, 7, 8], [0, 1, 2, 3, 4, 5, 6, 7, 8, 9], [0, 1, 2, 3, 4, 5, 6, 7, 8, 9, 10], [0, 1, 2, 3, 4, 5, 6, 7, 8, 9, 10, 11], [0, 1, 2, 3, 4, 5, 6, 7, 8, 9, 10, 11, 12], [0, 1, 2, 3, 4, 5, 6, 7, 8, 9, 10, 11, 12, 13], [0, 1, 2, 3, 4, 5, 6, 7, 8, 9, 10, 11, 12], [0, 1, 2, 3, 4, 5, 6, 7, 8, 9, 10, 11, 12, 13, 14, 15], [0, 1, 2, 3, 4, 5, 6, 7, 8, 9, 10, 11, 12, 13, 14, 15, 16], [0, 1, 2, 3, 4, 5, 6, 7, 8, 9, 10, 11, 12], [0, 1, 2, 3, 4, 5, 6, 7, 8, 9, 10, 11, 12, 13, 14, 15, 16, 18], [0, 1, 2, 3, 4, 5, 6, 7, 8, 9, 10, 11, 12, 13, 14, 15, 16, 17, 18, 19], [0, 1, 2, 3, 4, 5, 6, 7, 8, 9, 10, 11, 12, 13, 14, 15, 16, 17, 18, 19, 20], [0, 1, 2, 3, 4, 5, 6, 7, 8, 9, 10, 11, 12, 13, 14, 15, 16, 17, 18, 19, 20, 21], [0, 1, 2, 3, 4, 5, 6, 7, 8, 9, 10, 11, 12, 13, 14, 15, 16, 17, 18, 19, 20, 21, 22], [0, 1, 2, 3, 4, 5, 6, 7, 8, 9, 10, 11, 12, 13, 14, 15, 16, 17, 18, 19, 20, 21, 22, 23], [0, 1, 2, 3, 4, 5, 6, 7, 8, 9, 10, 11, 12, 13, 14, 15, 16, 17, 18, 19, 20, 21, 22, 23, 24], [0, 1, 2, 3, 4, 5, 6, 7, 8, 9, 10, 11, 12, 13, 14, 15, 16, 17, 18, 19, 20, 21, 22, 23], [0, 1, 2, 3, 4, 5, 6, 7, 8, 9, 10, 11, 12, 13, 14, 15, 16, 17, 18, 19, 20, 21, 22, 23, 24, 25, 26], [0, 1, 2, 3, 4, 5, 6, 7, 8, 9, 10, 11, 12, 13, 14, 15, 16, 17, 18, 19, 20, 21, 22, 23], [0, 1, 2, 3, 4, 5, 6, 7, 8, 9, 10, 11, 12, 13, 14, 15, 16, 17, 18, 19, 20, 21, 22, 23, 24, 25, 26, 27, 28], [0, 1, 2, 3, 4, 5, 6, 7, 8, 9, 10, 11, 12, 13, 14, 15, 16, 17, 18, 19, 20, 21, 22, 23, 24, 25, 26, 27, 28, 29], [0, 1, 2, 3, 4, 5, 6, 7, 8, 9, 10, 11, 12, 13, 14, 15, 16, 17, 18, 19, 20, 21, 22, 23, 24, 25, 26, 27, 28, 29, 30], [0, 1, 2, 3, 4, 5, 6, 7, 8, 9, 10, 11, 12, 13, 14, 15, 16, 17, 18, 19, 20, 21, 22, 23, 24, 25, 26, 27, 28, 29, 30, 31], [0, 1, 2, 3, 4, 5, 6, 7, 8, 9, 10, 11, 12, 13, 14, 15, 16, 17, 18, 19, 20, 21, 22, 23, 24, 25, 26, 27, 28, 29, 30, 31, 32], [0, 1, 2, 3, 4, 5, 6, 7, 8, 9, 10, 11, 12, 13, 14, 15, 16, 17, 18, 19, 20, 21, 22, 23, 24, 25, 26, 27, 28, 29, 30, 31, 32, 33], [0, 1, 2, 3, 4, 5, 6, 7, 8, 9, 10, 11, 12, 13, 14, 15, 16, 17, 18, 19, 20, 21, 22, 23, 24, 25, 26, 27, 28, 29, 30, 31, 32, 33, 34], [0, 1, 2, 3, 4, 5, 6, 7, 8, 9, 10, 11, 12, 13, 14, 15, 16, 17, 18, 19, 20, 21, 22, 23, 24, 25, 26, 27, 28, 29, 30, 31, 32, 33, 34, 35], [0, 1, 2, 3, 4, 5, 6, 7, 8, 9, 10, 11, 12, 13, 14, 15, 16, 17, 18, 19, 20, 21, 22, 23, 24, 25, 26, 27, 28, 29, 30, 31, 32, 33, 34, 35, 36]] [Fct.data (a0 : Val), Fct.eqv (.int .i64 r99), Fct.data (a0 : Val), Fct.eqv (.int .i64 r101), Fct.eqv (.bool (r99 == r101)), Fct.eqv (.bool (r99 == r101)), Fct.data (a0 : Val), Fct.eqv (.int .i64 r104), Fct.data (a0 : Val), Fct.eqv (.int .i64 r106), Fct.eqv (.bool (r104 == r106)), Fct.eqv (.bool (r104 == r106)), Fct.eqv (.bool (r104 == r106)), Fct.data (r71 : Val), Fct.eqv (.int .i64 r109), Fct.data (a0 : Val), Fct.eqv (.int .i64 r111), Fct.eqv (.int .i64 (w64 (1 + r111))), Fct.data (a1 : Val), Fct.eqv (.int .i64 r113), Fct.eqv (.int .i64 (w64 ((w64 (1 + r111)) + r113))), Fct.eqv (.bool (r109 == (w64 ((w64 (1 + r111)) + r113)))), Fct.eqv (.bool (r109 == (w64 ((w64 (1 + r111)) + r113)))), Fct.eqv (.bool (r109 == (w64 ((w64 (1 + r111)) + r113)))), Fct.data (r71 : Val), Fct.eqv (.int .i64 r116), Fct.data (a0 : Val), Fct.eqv (.int .i64 r118), Fct.data (a1 : Val), Fct.eqv (.int .i64 r120), Fct.eqv (.int .i64 (max r118 r120)), Fct.eqv (.int .i64 (w64 (1 + (max r118 r120)))), Fct.eqv (.bool (r116 == (w64 (1 + (max r118 r120))))), Fct.eqv (.bool (r116 == (w64 (1 + (max r118 r120))))), Fct.eqv (.bool (r116 == (w64 (1 + (max r118 r120))))), Fct.eqv undef, Fct.eqv (.bool false), Fct.eqv (.bool false)] (fun D F τ => (Blk s0.N 1 τ b25 27 [.int .i64 a0.Kind, .int .i64 a0.Int_, .string a0.Text, .slice A1 a0.Kids.length c2, .slice A4 a0.Keys.length c5, .slice A7 a0.Entries.length c8, .slice A10 a0.Labels.length c11]) ∧ (Blk s0.N 2 τ b30 27 [.int .i64 a1.Kind, .int .i64 a1.Int_, .string a1.Text, .slice A13 a1.Kids.length c14, .slice A16 a1.Keys.length c17, .slice A19 a1.Entries.length c20, .slice A22 a1.Labels.length c23]) ∧ (Blk s0.N 4 τ b90 27 [.int .i64 r71.Kind, .int .i64 r71.Int_, .string r71.Text, .slice A78 r71.Kids.length c79, .slice A81 r71.Keys.length c82, .slice A84 r71.Entries.length c85, .slice A87 r71.Labels.length c88]) ∧ (Own s0.N 3 27 τ [a0, a1] A66 c67)) (by kernel_rfl) rfl (by decide) (by decide) ⟨((((((((hb28.ext hx32).ext hx39).ext hx54).ext hx68).ext hx75).ext hx92).mod hm96 rfl).ext (ext_draw _)), (((((((hb33.ext hx39).ext hx54).ext hx68).ext hx75).ext hx92).mod hm96 rfl).ext (ext_draw _)), (hb97.ext (ext_draw _)), ((((ho69.ext hx75).ext hx92).mod hm96 rfl).ext (ext_draw _))⟩ (by decide) (by decide) ⟨?_, ?_, ?_, ?_, ?_, ?_, ?_, ?_, ?_, ?_, ?_, ?_, ?_, ?_, ?_, ?_, ?_, ?_, ?_, ?_, ?_, ?_, ?_, ?_, ?_, ?_, ?_, ?_, ?_, ?_, ?_, ?_, ?_, ?_, ?_, ?_, ?_, ?_, trivial⟩ ?_
              · intro D1011 F1012 s1013 d1014 d1015 d1016 hE1017 hW1018 hG1019 hfr1020 hR1021
                have hE1022 := hE98.trans hE1017
                obtain ⟨g1023, g1024, g1025, g1026⟩ := hG1019
                have hb1027 := g1023
                refine r_load b25 0 (.agg #[.int .i64 a0.Kind, .int .i64 a0.Int_, .string a0.Text, .slice A1 a0.Kids.length c2, .slice A4 a0.Keys.length c5, .slice A7 a0.Entries.length c8, .slice A10 a0.Labels.length c11]) ((hfr1020 2 rfl).trans rfl) rfl (loads_row tr27 (Blk.range hb1027 0 [.int .i64 a0.Kind, .int .i64 a0.Int_, .string a0.Text, .slice A1 a0.Kids.length c2, .slice A4 a0.Keys.length c5, .slice A7 a0.Entries.length c8, .slice A10 a0.Labels.length c11] rfl)) ?_
                refine wpList_nil ?_
                exact ⟨_, _, rfl, rfl, ExtB.refl _ _, Wext.refl _, (Val.rpvMk (v := a0) (((((((((h3.mono hx27.wext).mono hx32.wext).mono hx39.wext).mono hx54.wext).mono hx68.wext).mono hx75.wext).mono hx92.wext).mono hm96.wext).mono hW1018) (((((((((h6.mono hx27.wext).mono hx32.wext).mono hx39.wext).mono hx54.wext).mono hx68.wext).mono hx75.wext).mono hx92.wext).mono hm96.wext).mono hW1018) (((((((((h9.mono hx27.wext).mono hx32.wext).mono hx39.wext).mono hx54.wext).mono hx68.wext).mono hx75.wext).mono hx92.wext).mono hm96.wext).mono hW1018) (((((((((h12.mono hx27.wext).mono hx32.wext).mono hx39.wext).mono hx54.wext).mono hx68.wext).mono hx75.wext).mono hx92.wext).mono hm96.wext).mono hW1018)), ⟨g1023, g1024, g1025, g1026⟩⟩
              · intro D1028 F1029 s1030 d1031 d1032 d1033 hE1034 hW1035 hG1036 hfr1037 hR1038
                have hE1039 := hE98.trans hE1034
                obtain ⟨g1040, g1041, g1042, g1043⟩ := hG1036
                have q1044 : RpV s1030 (a0 : Val) (F1029 19) := hR1038 0 rfl 19 rfl
                obtain ⟨A1045, c1046, A1048, c1049, A1051, c1052, A1054, c1055, hv1057, h1047, h1050, h1053, h1056⟩ := Val.rpv q1044
                refine r_call [.agg #[.int .i64 a0.Kind, .int .i64 a0.Int_, .string a0.Text, .slice A1045 a0.Kids.length c1046, .slice A1048 a0.Keys.length c1049, .slice A1051 a0.Entries.length c1052, .slice A1054 a0.Labels.length c1055]] (evs1 hv1057) rfl ((ok_value_Nodes fuel) _ _ _ _ (Val.rpvMk (v := a0) h1047 h1050 h1053 h1056) e100) ?_
                intro v1059 s1058 hx1060 hr1061
                have hE1062 := hE1039.ext hE1039.size hx1060
                obtain rfl := RpV.int hr1061
                refine wpList_nil ?_
                exact ⟨_, _, rfl, rfl, (ExtB.refl _ _).trans (hx1060.mono hE1039.size), (Wext.refl _).trans hx1060.wext, rfl, ⟨(g1040.ext hx1060), (g1041.ext hx1060), (g1042.ext hx1060), (g1043.ext hx1060)⟩⟩
              · intro D1063 F1064 s1065 d1066 d1067 d1068 hE1069 hW1070 hG1071 hfr1072 hR1073
                have hE1074 := hE98.trans hE1069
                obtain ⟨g1075, g1076, g1077, g1078⟩ := hG1071
                have hb1079 := g1075
                refine r_load b25 0 (.agg #[.int .i64 a0.Kind, .int .i64 a0.Int_, .string a0.Text, .slice A1 a0.Kids.length c2, .slice A4 a0.Keys.length c5, .slice A7 a0.Entries.length c8, .slice A10 a0.Labels.length c11]) ((hfr1072 2 rfl).trans rfl) rfl (loads_row tr27 (Blk.range hb1079 0 [.int .i64 a0.Kind, .int .i64 a0.Int_, .string a0.Text, .slice A1 a0.Kids.length c2, .slice A4 a0.Keys.length c5, .slice A7 a0.Entries.length c8, .slice A10 a0.Labels.length c11] rfl)) ?_
                refine wpList_nil ?_
                exact ⟨_, _, rfl, rfl, ExtB.refl _ _, Wext.refl _, (Val.rpvMk (v := a0) (((((((((h3.mono hx27.wext).mono hx32.wext).mono hx39.wext).mono hx54.wext).mono hx68.wext).mono hx75.wext).mono hx92.wext).mono hm96.wext).mono hW1070) (((((((((h6.mono hx27.wext).mono hx32.wext).mono hx39.wext).mono hx54.wext).mono hx68.wext).mono hx75.wext).mono hx92.wext).mono hm96.wext).mono hW1070) (((((((((h9.mono hx27.wext).mono hx32.wext).mono hx39.wext).mono hx54.wext).mono hx68.wext).mono hx75.wext).mono hx92.wext).mono hm96.wext).mono hW1070) (((((((((h12.mono hx27.wext).mono hx32.wext).mono hx39.wext).mono hx54.wext).mono hx68.wext).mono hx75.wext).mono hx92.wext).mono hm96.wext).mono hW1070)), ⟨g1075, g1076, g1077, g1078⟩⟩
              · intro D1080 F1081 s1082 d1083 d1084 d1085 hE1086 hW1087 hG1088 hfr1089 hR1090
                have hE1091 := hE98.trans hE1086
                obtain ⟨g1092, g1093, g1094, g1095⟩ := hG1088
                have q1096 : RpV s1082 (a0 : Val) (F1081 21) := hR1090 2 rfl 21 rfl
                obtain ⟨A1097, c1098, A1100, c1101, A1103, c1104, A1106, c1107, hv1109, h1099, h1102, h1105, h1108⟩ := Val.rpv q1096
                refine r_call [.agg #[.int .i64 a0.Kind, .int .i64 a0.Int_, .string a0.Text, .slice A1097 a0.Kids.length c1098, .slice A1100 a0.Keys.length c1101, .slice A1103 a0.Entries.length c1104, .slice A1106 a0.Labels.length c1107]] (evs1 hv1109) rfl ((ok_semtyperef1_Nodes fuel) _ _ _ _ (Val.rpvMk (v := a0) h1099 h1102 h1105 h1108) e102) ?_
                intro v1111 s1110 hx1112 hr1113
                have hE1114 := hE1091.ext hE1091.size hx1112
                obtain rfl := RpV.int hr1113
                refine wpList_nil ?_
                exact ⟨_, _, rfl, rfl, (ExtB.refl _ _).trans (hx1112.mono hE1091.size), (Wext.refl _).trans hx1112.wext, rfl, ⟨(g1092.ext hx1112), (g1093.ext hx1112), (g1094.ext hx1112), (g1095.ext hx1112)⟩⟩
              · intro D1115 F1116 s1117 d1118 d1119 d1120 hE1121 hW1122 hG1123 hfr1124 hR1125
                have hE1126 := hE98.trans hE1121
                obtain ⟨g1127, g1128, g1129, g1130⟩ := hG1123
                have q1131 : F1116 20 = (.int .i64 r99) := hR1125 1 rfl 20 rfl
                have q1132 : F1116 22 = (.int .i64 r101) := hR1125 3 rfl 22 rfl
                refine r_bin (.int .i64 r99) (.int .i64 r101) (.bool (r99 == r101)) q1131 q1132 rfl rfl (b_eql) ?_
                refine wpList_nil ?_
                exact ⟨_, _, rfl, rfl, ExtB.refl _ _, Wext.refl _, rfl, ⟨g1127, g1128, g1129, g1130⟩⟩
              · intro D1133 F1134 s1135 d1136 d1137 d1138 hE1139 hW1140 hG1141 hfr1142 hR1143
                have hE1144 := hE98.trans hE1139
                obtain ⟨g1145, g1146, g1147, g1148⟩ := hG1141
                have q1149 : F1134 23 = (.bool (r99 == r101)) := hR1143 4 rfl 23 rfl
                refine r_move (.bool (r99 == r101)) q1149 rfl ?_
                refine wpList_nil ?_
                exact ⟨_, _, rfl, rfl, ExtB.refl _ _, Wext.refl _, rfl, ⟨g1145, g1146, g1147, g1148⟩⟩
              · intro D1150 F1151 s1152 d1153 d1154 d1155 hE1156 hW1157 hG1158 hfr1159 hR1160
                have hE1161 := hE98.trans hE1156
                obtain ⟨g1162, g1163, g1164, g1165⟩ := hG1158
                have hb1166 := g1162
                have q1167 : F1151 24 = (.bool (r99 == r101)) := hR1160 5 rfl 24 rfl
                refine Or.inr ⟨(r99 == r101), (fun d hd => by cases hd; exact q1167), fun _ => ?_, fun h => absurd (hc103 : (r99 == r101) = true) h⟩
                refine r_load b25 0 (.agg #[.int .i64 a0.Kind, .int .i64 a0.Int_, .string a0.Text, .slice A1 a0.Kids.length c2, .slice A4 a0.Keys.length c5, .slice A7 a0.Entries.length c8, .slice A10 a0.Labels.length c11]) ((hfr1159 2 rfl).trans rfl) rfl (loads_row tr27 (Blk.range hb1166 0 [.int .i64 a0.Kind, .int .i64 a0.Int_, .string a0.Text, .slice A1 a0.Kids.length c2, .slice A4 a0.Keys.length c5, .slice A7 a0.Entries.length c8, .slice A10 a0.Labels.length c11] rfl)) ?_
                refine wpList_nil ?_
                exact ⟨_, _, rfl, rfl, ExtB.refl _ _, Wext.refl _, (Val.rpvMk (v := a0) (((((((((h3.mono hx27.wext).mono hx32.wext).mono hx39.wext).mono hx54.wext).mono hx68.wext).mono hx75.wext).mono hx92.wext).mono hm96.wext).mono hW1157) (((((((((h6.mono hx27.wext).mono hx32.wext).mono hx39.wext).mono hx54.wext).mono hx68.wext).mono hx75.wext).mono hx92.wext).mono hm96.wext).mono hW1157) (((((((((h9.mono hx27.wext).mono hx32.wext).mono hx39.wext).mono hx54.wext).mono hx68.wext).mono hx75.wext).mono hx92.wext).mono hm96.wext).mono hW1157) (((((((((h12.mono hx27.wext).mono hx32.wext).mono hx39.wext).mono hx54.wext).mono hx68.wext).mono hx75.wext).mono hx92.wext).mono hm96.wext).mono hW1157)), ⟨g1162, g1163, g1164, g1165⟩⟩
              · intro D1168 F1169 s1170 d1171 d1172 d1173 hE1174 hW1175 hG1176 hfr1177 hR1178
                have hE1179 := hE98.trans hE1174
                obtain ⟨g1180, g1181, g1182, g1183⟩ := hG1176
                have q1184 : F1169 24 = (.bool (r99 == r101)) := hR1178 5 rfl 24 rfl
                have q1185 : RpV s1170 (a0 : Val) (F1169 25) := hR1178 6 rfl 25 rfl
                obtain ⟨A1186, c1187, A1189, c1190, A1192, c1193, A1195, c1196, hv1198, h1188, h1191, h1194, h1197⟩ := Val.rpv q1185
                refine Or.inr ⟨(r99 == r101), (fun d hd => by cases hd; exact q1184), fun _ => ?_, fun h => absurd (hc103 : (r99 == r101) = true) h⟩
                refine r_call [.agg #[.int .i64 a0.Kind, .int .i64 a0.Int_, .string a0.Text, .slice A1186 a0.Kids.length c1187, .slice A1189 a0.Keys.length c1190, .slice A1192 a0.Entries.length c1193, .slice A1195 a0.Labels.length c1196]] (evs1 hv1198) rfl ((ok_value_Height fuel) _ _ _ _ (Val.rpvMk (v := a0) h1188 h1191 h1194 h1197) e105) ?_
                intro v1200 s1199 hx1201 hr1202
                have hE1203 := hE1179.ext hE1179.size hx1201
                obtain rfl := RpV.int hr1202
                refine wpList_nil ?_
                exact ⟨_, _, rfl, rfl, (ExtB.refl _ _).trans (hx1201.mono hE1179.size), (Wext.refl _).trans hx1201.wext, rfl, ⟨(g1180.ext hx1201), (g1181.ext hx1201), (g1182.ext hx1201), (g1183.ext hx1201)⟩⟩
              · intro D1204 F1205 s1206 d1207 d1208 d1209 hE1210 hW1211 hG1212 hfr1213 hR1214
                have hE1215 := hE98.trans hE1210
                obtain ⟨g1216, g1217, g1218, g1219⟩ := hG1212
                have hb1220 := g1216
                have q1221 : F1205 24 = (.bool (r99 == r101)) := hR1214 5 rfl 24 rfl
                refine Or.inr ⟨(r99 == r101), (fun d hd => by cases hd; exact q1221), fun _ => ?_, fun h => absurd (hc103 : (r99 == r101) = true) h⟩
                refine r_load b25 0 (.agg #[.int .i64 a0.Kind, .int .i64 a0.Int_, .string a0.Text, .slice A1 a0.Kids.length c2, .slice A4 a0.Keys.length c5, .slice A7 a0.Entries.length c8, .slice A10 a0.Labels.length c11]) ((hfr1213 2 rfl).trans rfl) rfl (loads_row tr27 (Blk.range hb1220 0 [.int .i64 a0.Kind, .int .i64 a0.Int_, .string a0.Text, .slice A1 a0.Kids.length c2, .slice A4 a0.Keys.length c5, .slice A7 a0.Entries.length c8, .slice A10 a0.Labels.length c11] rfl)) ?_
                refine wpList_nil ?_
                exact ⟨_, _, rfl, rfl, ExtB.refl _ _, Wext.refl _, (Val.rpvMk (v := a0) (((((((((h3.mono hx27.wext).mono hx32.wext).mono hx39.wext).mono hx54.wext).mono hx68.wext).mono hx75.wext).mono hx92.wext).mono hm96.wext).mono hW1211) (((((((((h6.mono hx27.wext).mono hx32.wext).mono hx39.wext).mono hx54.wext).mono hx68.wext).mono hx75.wext).mono hx92.wext).mono hm96.wext).mono hW1211) (((((((((h9.mono hx27.wext).mono hx32.wext).mono hx39.wext).mono hx54.wext).mono hx68.wext).mono hx75.wext).mono hx92.wext).mono hm96.wext).mono hW1211) (((((((((h12.mono hx27.wext).mono hx32.wext).mono hx39.wext).mono hx54.wext).mono hx68.wext).mono hx75.wext).mono hx92.wext).mono hm96.wext).mono hW1211)), ⟨g1216, g1217, g1218, g1219⟩⟩
              · intro D1222 F1223 s1224 d1225 d1226 d1227 hE1228 hW1229 hG1230 hfr1231 hR1232
                have hE1233 := hE98.trans hE1228
                obtain ⟨g1234, g1235, g1236, g1237⟩ := hG1230
                have q1238 : F1223 24 = (.bool (r99 == r101)) := hR1232 5 rfl 24 rfl
                have q1239 : RpV s1224 (a0 : Val) (F1223 27) := hR1232 8 rfl 27 rfl
                obtain ⟨A1240, c1241, A1243, c1244, A1246, c1247, A1249, c1250, hv1252, h1242, h1245, h1248, h1251⟩ := Val.rpv q1239
                refine Or.inr ⟨(r99 == r101), (fun d hd => by cases hd; exact q1238), fun _ => ?_, fun h => absurd (hc103 : (r99 == r101) = true) h⟩
                refine r_call [.agg #[.int .i64 a0.Kind, .int .i64 a0.Int_, .string a0.Text, .slice A1240 a0.Kids.length c1241, .slice A1243 a0.Keys.length c1244, .slice A1246 a0.Entries.length c1247, .slice A1249 a0.Labels.length c1250]] (evs1 hv1252) rfl ((ok_semtyperef1_Height fuel) _ _ _ _ (Val.rpvMk (v := a0) h1242 h1245 h1248 h1251) e107) ?_
                intro v1254 s1253 hx1255 hr1256
                have hE1257 := hE1233.ext hE1233.size hx1255
                obtain rfl := RpV.int hr1256
                refine wpList_nil ?_
                exact ⟨_, _, rfl, rfl, (ExtB.refl _ _).trans (hx1255.mono hE1233.size), (Wext.refl _).trans hx1255.wext, rfl, ⟨(g1234.ext hx1255), (g1235.ext hx1255), (g1236.ext hx1255), (g1237.ext hx1255)⟩⟩
              · intro D1258 F1259 s1260 d1261 d1262 d1263 hE1264 hW1265 hG1266 hfr1267 hR1268
                have hE1269 := hE98.trans hE1264
                obtain ⟨g1270, g1271, g1272, g1273⟩ := hG1266
                have q1274 : F1259 24 = (.bool (r99 == r101)) := hR1268 5 rfl 24 rfl
                have q1275 : F1259 26 = (.int .i64 r104) := hR1268 7 rfl 26 rfl
                have q1276 : F1259 28 = (.int .i64 r106) := hR1268 9 rfl 28 rfl
                refine Or.inr ⟨(r99 == r101), (fun d hd => by cases hd; exact q1274), fun _ => ?_, fun h => absurd (hc103 : (r99 == r101) = true) h⟩
                refine r_bin (.int .i64 r104) (.int .i64 r106) (.bool (r104 == r106)) q1275 q1276 rfl rfl (b_eql) ?_
                refine wpList_nil ?_
                exact ⟨_, _, rfl, rfl, ExtB.refl _ _, Wext.refl _, rfl, ⟨g1270, g1271, g1272, g1273⟩⟩
              · intro D1277 F1278 s1279 d1280 d1281 d1282 hE1283 hW1284 hG1285 hfr1286 hR1287
                have hE1288 := hE98.trans hE1283
                obtain ⟨g1289, g1290, g1291, g1292⟩ := hG1285
                have q1293 : F1278 24 = (.bool (r99 == r101)) := hR1287 5 rfl 24 rfl
                have q1294 : F1278 29 = (.bool (r104 == r106)) := hR1287 10 rfl 29 rfl
                refine r_pick_t (c := (r99 == r101)) (.bool (r104 == r106)) q1293 hc103 q1294 rfl rfl rfl ?_
                refine wpList_nil ?_
                exact ⟨_, _, rfl, rfl, ExtB.refl _ _, Wext.refl _, rfl, ⟨g1289, g1290, g1291, g1292⟩⟩
              · intro D1295 F1296 s1297 d1298 d1299 d1300 hE1301 hW1302 hG1303 hfr1304 hR1305
                have hE1306 := hE98.trans hE1301
                obtain ⟨g1307, g1308, g1309, g1310⟩ := hG1303
                have q1311 : F1296 30 = (.bool (r104 == r106)) := hR1305 11 rfl 30 rfl
                refine r_move (.bool (r104 == r106)) q1311 rfl ?_
                refine wpList_nil ?_
                exact ⟨_, _, rfl, rfl, ExtB.refl _ _, Wext.refl _, rfl, ⟨g1307, g1308, g1309, g1310⟩⟩
              · intro D1312 F1313 s1314 d1315 d1316 d1317 hE1318 hW1319 hG1320 hfr1321 hR1322
                have hE1323 := hE98.trans hE1318
                obtain ⟨g1324, g1325, g1326, g1327⟩ := hG1320
                have hb1328 := g1326
                have q1329 : F1313 31 = (.bool (r104 == r106)) := hR1322 12 rfl 31 rfl
                refine Or.inr ⟨(r104 == r106), (fun d hd => by cases hd; exact q1329), fun _ => ?_, fun h => absurd (hc108 : (r104 == r106) = true) h⟩
                refine r_load b90 0 (.agg #[.int .i64 r71.Kind, .int .i64 r71.Int_, .string r71.Text, .slice A78 r71.Kids.length c79, .slice A81 r71.Keys.length c82, .slice A84 r71.Entries.length c85, .slice A87 r71.Labels.length c88]) ((hfr1321 5 rfl).trans rfl) rfl (loads_row tr27 (Blk.range hb1328 0 [.int .i64 r71.Kind, .int .i64 r71.Int_, .string r71.Text, .slice A78 r71.Kids.length c79, .slice A81 r71.Keys.length c82, .slice A84 r71.Entries.length c85, .slice A87 r71.Labels.length c88] rfl)) ?_
                refine wpList_nil ?_
                exact ⟨_, _, rfl, rfl, ExtB.refl _ _, Wext.refl _, (Val.rpvMk (v := r71) (((h80.mono hx92.wext).mono hm96.wext).mono hW1319) (((h83.mono hx92.wext).mono hm96.wext).mono hW1319) (((h86.mono hx92.wext).mono hm96.wext).mono hW1319) (((h89.mono hx92.wext).mono hm96.wext).mono hW1319)), ⟨g1324, g1325, g1326, g1327⟩⟩
              · intro D1330 F1331 s1332 d1333 d1334 d1335 hE1336 hW1337 hG1338 hfr1339 hR1340
                have hE1341 := hE98.trans hE1336
                obtain ⟨g1342, g1343, g1344, g1345⟩ := hG1338
                have q1346 : F1331 31 = (.bool (r104 == r106)) := hR1340 12 rfl 31 rfl
                have q1347 : RpV s1332 (r71 : Val) (F1331 32) := hR1340 13 rfl 32 rfl
                obtain ⟨A1348, c1349, A1351, c1352, A1354, c1355, A1357, c1358, hv1360, h1350, h1353, h1356, h1359⟩ := Val.rpv q1347
                refine Or.inr ⟨(r104 == r106), (fun d hd => by cases hd; exact q1346), fun _ => ?_, fun h => absurd (hc108 : (r104 == r106) = true) h⟩
                refine r_call [.agg #[.int .i64 r71.Kind, .int .i64 r71.Int_, .string r71.Text, .slice A1348 r71.Kids.length c1349, .slice A1351 r71.Keys.length c1352, .slice A1354 r71.Entries.length c1355, .slice A1357 r71.Labels.length c1358]] (evs1 hv1360) rfl ((ok_value_Nodes fuel) _ _ _ _ (Val.rpvMk (v := r71) h1350 h1353 h1356 h1359) e110) ?_
                intro v1362 s1361 hx1363 hr1364
                have hE1365 := hE1341.ext hE1341.size hx1363
                obtain rfl := RpV.int hr1364
                refine wpList_nil ?_
                exact ⟨_, _, rfl, rfl, (ExtB.refl _ _).trans (hx1363.mono hE1341.size), (Wext.refl _).trans hx1363.wext, rfl, ⟨(g1342.ext hx1363), (g1343.ext hx1363), (g1344.ext hx1363), (g1345.ext hx1363)⟩⟩
              · intro D1366 F1367 s1368 d1369 d1370 d1371 hE1372 hW1373 hG1374 hfr1375 hR1376
                have hE1377 := hE98.trans hE1372
                obtain ⟨g1378, g1379, g1380, g1381⟩ := hG1374
                have hb1382 := g1378
                have q1383 : F1367 31 = (.bool (r104 == r106)) := hR1376 12 rfl 31 rfl
                refine Or.inr ⟨(r104 == r106), (fun d hd => by cases hd; exact q1383), fun _ => ?_, fun h => absurd (hc108 : (r104 == r106) = true) h⟩
                refine r_load b25 0 (.agg #[.int .i64 a0.Kind, .int .i64 a0.Int_, .string a0.Text, .slice A1 a0.Kids.length c2, .slice A4 a0.Keys.length c5, .slice A7 a0.Entries.length c8, .slice A10 a0.Labels.length c11]) ((hfr1375 2 rfl).trans rfl) rfl (loads_row tr27 (Blk.range hb1382 0 [.int .i64 a0.Kind, .int .i64 a0.Int_, .string a0.Text, .slice A1 a0.Kids.length c2, .slice A4 a0.Keys.length c5, .slice A7 a0.Entries.length c8, .slice A10 a0.Labels.length c11] rfl)) ?_
                refine wpList_nil ?_
                exact ⟨_, _, rfl, rfl, ExtB.refl _ _, Wext.refl _, (Val.rpvMk (v := a0) (((((((((h3.mono hx27.wext).mono hx32.wext).mono hx39.wext).mono hx54.wext).mono hx68.wext).mono hx75.wext).mono hx92.wext).mono hm96.wext).mono hW1373) (((((((((h6.mono hx27.wext).mono hx32.wext).mono hx39.wext).mono hx54.wext).mono hx68.wext).mono hx75.wext).mono hx92.wext).mono hm96.wext).mono hW1373) (((((((((h9.mono hx27.wext).mono hx32.wext).mono hx39.wext).mono hx54.wext).mono hx68.wext).mono hx75.wext).mono hx92.wext).mono hm96.wext).mono hW1373) (((((((((h12.mono hx27.wext).mono hx32.wext).mono hx39.wext).mono hx54.wext).mono hx68.wext).mono hx75.wext).mono hx92.wext).mono hm96.wext).mono hW1373)), ⟨g1378, g1379, g1380, g1381⟩⟩
              · intro D1384 F1385 s1386 d1387 d1388 d1389 hE1390 hW1391 hG1392 hfr1393 hR1394
                have hE1395 := hE98.trans hE1390
                obtain ⟨g1396, g1397, g1398, g1399⟩ := hG1392
                have q1400 : F1385 31 = (.bool (r104 == r106)) := hR1394 12 rfl 31 rfl
                have q1401 : RpV s1386 (a0 : Val) (F1385 34) := hR1394 15 rfl 34 rfl
                obtain ⟨A1402, c1403, A1405, c1406, A1408, c1409, A1411, c1412, hv1414, h1404, h1407, h1410, h1413⟩ := Val.rpv q1401
                refine Or.inr ⟨(r104 == r106), (fun d hd => by cases hd; exact q1400), fun _ => ?_, fun h => absurd (hc108 : (r104 == r106) = true) h⟩
                refine r_call [.agg #[.int .i64 a0.Kind, .int .i64 a0.Int_, .string a0.Text, .slice A1402 a0.Kids.length c1403, .slice A1405 a0.Keys.length c1406, .slice A1408 a0.Entries.length c1409, .slice A1411 a0.Labels.length c1412]] (evs1 hv1414) rfl ((ok_value_Nodes fuel) _ _ _ _ (Val.rpvMk (v := a0) h1404 h1407 h1410 h1413) e112) ?_
                intro v1416 s1415 hx1417 hr1418
                have hE1419 := hE1395.ext hE1395.size hx1417
                obtain rfl := RpV.int hr1418
                refine wpList_nil ?_
                exact ⟨_, _, rfl, rfl, (ExtB.refl _ _).trans (hx1417.mono hE1395.size), (Wext.refl _).trans hx1417.wext, rfl, ⟨(g1396.ext hx1417), (g1397.ext hx1417), (g1398.ext hx1417), (g1399.ext hx1417)⟩⟩
              · intro D1420 F1421 s1422 d1423 d1424 d1425 hE1426 hW1427 hG1428 hfr1429 hR1430
                have hE1431 := hE98.trans hE1426
                obtain ⟨g1432, g1433, g1434, g1435⟩ := hG1428
                have q1436 : F1421 31 = (.bool (r104 == r106)) := hR1430 12 rfl 31 rfl
                have q1437 : F1421 35 = (.int .i64 r111) := hR1430 16 rfl 35 rfl
                refine Or.inr ⟨(r104 == r106), (fun d hd => by cases hd; exact q1436), fun _ => ?_, fun h => absurd (hc108 : (r104 == r106) = true) h⟩
                refine r_bin (.int .i64 1) (.int .i64 r111) (.int .i64 (w64 (1 + r111))) rfl q1437 rfl rfl (b_add) ?_
                refine wpList_nil ?_
                exact ⟨_, _, rfl, rfl, ExtB.refl _ _, Wext.refl _, rfl, ⟨g1432, g1433, g1434, g1435⟩⟩
              · intro D1438 F1439 s1440 d1441 d1442 d1443 hE1444 hW1445 hG1446 hfr1447 hR1448
                have hE1449 := hE98.trans hE1444
                obtain ⟨g1450, g1451, g1452, g1453⟩ := hG1446
                have hb1454 := g1451
                have q1455 : F1439 31 = (.bool (r104 == r106)) := hR1448 12 rfl 31 rfl
                refine Or.inr ⟨(r104 == r106), (fun d hd => by cases hd; exact q1455), fun _ => ?_, fun h => absurd (hc108 : (r104 == r106) = true) h⟩
                refine r_load b30 0 (.agg #[.int .i64 a1.Kind, .int .i64 a1.Int_, .string a1.Text, .slice A13 a1.Kids.length c14, .slice A16 a1.Keys.length c17, .slice A19 a1.Entries.length c20, .slice A22 a1.Labels.length c23]) ((hfr1447 3 rfl).trans rfl) rfl (loads_row tr27 (Blk.range hb1454 0 [.int .i64 a1.Kind, .int .i64 a1.Int_, .string a1.Text, .slice A13 a1.Kids.length c14, .slice A16 a1.Keys.length c17, .slice A19 a1.Entries.length c20, .slice A22 a1.Labels.length c23] rfl)) ?_
                refine wpList_nil ?_
                exact ⟨_, _, rfl, rfl, ExtB.refl _ _, Wext.refl _, (Val.rpvMk (v := a1) (((((((((h15.mono hx27.wext).mono hx32.wext).mono hx39.wext).mono hx54.wext).mono hx68.wext).mono hx75.wext).mono hx92.wext).mono hm96.wext).mono hW1445) (((((((((h18.mono hx27.wext).mono hx32.wext).mono hx39.wext).mono hx54.wext).mono hx68.wext).mono hx75.wext).mono hx92.wext).mono hm96.wext).mono hW1445) (((((((((h21.mono hx27.wext).mono hx32.wext).mono hx39.wext).mono hx54.wext).mono hx68.wext).mono hx75.wext).mono hx92.wext).mono hm96.wext).mono hW1445) (((((((((h24.mono hx27.wext).mono hx32.wext).mono hx39.wext).mono hx54.wext).mono hx68.wext).mono hx75.wext).mono hx92.wext).mono hm96.wext).mono hW1445)), ⟨g1450, g1451, g1452, g1453⟩⟩
              · intro D1456 F1457 s1458 d1459 d1460 d1461 hE1462 hW1463 hG1464 hfr1465 hR1466
                have hE1467 := hE98.trans hE1462
                obtain ⟨g1468, g1469, g1470, g1471⟩ := hG1464
                have q1472 : F1457 31 = (.bool (r104 == r106)) := hR1466 12 rfl 31 rfl
                have q1473 : RpV s1458 (a1 : Val) (F1457 37) := hR1466 18 rfl 37 rfl
                obtain ⟨A1474, c1475, A1477, c1478, A1480, c1481, A1483, c1484, hv1486, h1476, h1479, h1482, h1485⟩ := Val.rpv q1473
                refine Or.inr ⟨(r104 == r106), (fun d hd => by cases hd; exact q1472), fun _ => ?_, fun h => absurd (hc108 : (r104 == r106) = true) h⟩
                refine r_call [.agg #[.int .i64 a1.Kind, .int .i64 a1.Int_, .string a1.Text, .slice A1474 a1.Kids.length c1475, .slice A1477 a1.Keys.length c1478, .slice A1480 a1.Entries.length c1481, .slice A1483 a1.Labels.length c1484]] (evs1 hv1486) rfl ((ok_value_Nodes fuel) _ _ _ _ (Val.rpvMk (v := a1) h1476 h1479 h1482 h1485) e114) ?_
                intro v1488 s1487 hx1489 hr1490
                have hE1491 := hE1467.ext hE1467.size hx1489
                obtain rfl := RpV.int hr1490
                refine wpList_nil ?_
                exact ⟨_, _, rfl, rfl, (ExtB.refl _ _).trans (hx1489.mono hE1467.size), (Wext.refl _).trans hx1489.wext, rfl, ⟨(g1468.ext hx1489), (g1469.ext hx1489), (g1470.ext hx1489), (g1471.ext hx1489)⟩⟩
              · intro D1492 F1493 s1494 d1495 d1496 d1497 hE1498 hW1499 hG1500 hfr1501 hR1502
                have hE1503 := hE98.trans hE1498
                obtain ⟨g1504, g1505, g1506, g1507⟩ := hG1500
                have q1508 : F1493 31 = (.bool (r104 == r106)) := hR1502 12 rfl 31 rfl
                have q1509 : F1493 36 = (.int .i64 (w64 (1 + r111))) := hR1502 17 rfl 36 rfl
                have q1510 : F1493 38 = (.int .i64 r113) := hR1502 19 rfl 38 rfl
                refine Or.inr ⟨(r104 == r106), (fun d hd => by cases hd; exact q1508), fun _ => ?_, fun h => absurd (hc108 : (r104 == r106) = true) h⟩
                refine r_bin (.int .i64 (w64 (1 + r111))) (.int .i64 r113) (.int .i64 (w64 ((w64 (1 + r111)) + r113))) q1509 q1510 rfl rfl (b_add) ?_
                refine wpList_nil ?_
                exact ⟨_, _, rfl, rfl, ExtB.refl _ _, Wext.refl _, rfl, ⟨g1504, g1505, g1506, g1507⟩⟩
              · intro D1511 F1512 s1513 d1514 d1515 d1516 hE1517 hW1518 hG1519 hfr1520 hR1521
                have hE1522 := hE98.trans hE1517
                obtain ⟨g1523, g1524, g1525, g1526⟩ := hG1519
                have q1527 : F1512 31 = (.bool (r104 == r106)) := hR1521 12 rfl 31 rfl
                have q1528 : F1512 33 = (.int .i64 r109) := hR1521 14 rfl 33 rfl
                have q1529 : F1512 39 = (.int .i64 (w64 ((w64 (1 + r111)) + r113))) := hR1521 20 rfl 39 rfl
                refine Or.inr ⟨(r104 == r106), (fun d hd => by cases hd; exact q1527), fun _ => ?_, fun h => absurd (hc108 : (r104 == r106) = true) h⟩
                refine r_bin (.int .i64 r109) (.int .i64 (w64 ((w64 (1 + r111)) + r113))) (.bool (r109 == (w64 ((w64 (1 + r111)) + r113)))) q1528 q1529 rfl rfl (b_eql) ?_
                refine wpList_nil ?_
                exact ⟨_, _, rfl, rfl, ExtB.refl _ _, Wext.refl _, rfl, ⟨g1523, g1524, g1525, g1526⟩⟩
              · intro D1530 F1531 s1532 d1533 d1534 d1535 hE1536 hW1537 hG1538 hfr1539 hR1540
                have hE1541 := hE98.trans hE1536
                obtain ⟨g1542, g1543, g1544, g1545⟩ := hG1538
                have q1546 : F1531 31 = (.bool (r104 == r106)) := hR1540 12 rfl 31 rfl
                have q1547 : F1531 40 = (.bool (r109 == (w64 ((w64 (1 + r111)) + r113)))) := hR1540 21 rfl 40 rfl
                refine r_pick_t (c := (r104 == r106)) (.bool (r109 == (w64 ((w64 (1 + r111)) + r113)))) q1546 hc108 q1547 rfl rfl rfl ?_
                refine wpList_nil ?_
                exact ⟨_, _, rfl, rfl, ExtB.refl _ _, Wext.refl _, rfl, ⟨g1542, g1543, g1544, g1545⟩⟩
              · intro D1548 F1549 s1550 d1551 d1552 d1553 hE1554 hW1555 hG1556 hfr1557 hR1558
                have hE1559 := hE98.trans hE1554
                obtain ⟨g1560, g1561, g1562, g1563⟩ := hG1556
                have q1564 : F1549 41 = (.bool (r109 == (w64 ((w64 (1 + r111)) + r113)))) := hR1558 22 rfl 41 rfl
                refine r_move (.bool (r109 == (w64 ((w64 (1 + r111)) + r113)))) q1564 rfl ?_
                refine wpList_nil ?_
                exact ⟨_, _, rfl, rfl, ExtB.refl _ _, Wext.refl _, rfl, ⟨g1560, g1561, g1562, g1563⟩⟩
              · intro D1565 F1566 s1567 d1568 d1569 d1570 hE1571 hW1572 hG1573 hfr1574 hR1575
                have hE1576 := hE98.trans hE1571
                obtain ⟨g1577, g1578, g1579, g1580⟩ := hG1573
                have hb1581 := g1579
                have q1582 : F1566 42 = (.bool (r109 == (w64 ((w64 (1 + r111)) + r113)))) := hR1575 23 rfl 42 rfl
                refine Or.inr ⟨(r109 == (w64 ((w64 (1 + r111)) + r113))), (fun d hd => by cases hd; exact q1582), fun _ => ?_, fun h => absurd (hc115 : (r109 == (w64 ((w64 (1 + r111)) + r113))) = true) h⟩
                refine r_load b90 0 (.agg #[.int .i64 r71.Kind, .int .i64 r71.Int_, .string r71.Text, .slice A78 r71.Kids.length c79, .slice A81 r71.Keys.length c82, .slice A84 r71.Entries.length c85, .slice A87 r71.Labels.length c88]) ((hfr1574 5 rfl).trans rfl) rfl (loads_row tr27 (Blk.range hb1581 0 [.int .i64 r71.Kind, .int .i64 r71.Int_, .string r71.Text, .slice A78 r71.Kids.length c79, .slice A81 r71.Keys.length c82, .slice A84 r71.Entries.length c85, .slice A87 r71.Labels.length c88] rfl)) ?_
                refine wpList_nil ?_
                exact ⟨_, _, rfl, rfl, ExtB.refl _ _, Wext.refl _, (Val.rpvMk (v := r71) (((h80.mono hx92.wext).mono hm96.wext).mono hW1572) (((h83.mono hx92.wext).mono hm96.wext).mono hW1572) (((h86.mono hx92.wext).mono hm96.wext).mono hW1572) (((h89.mono hx92.wext).mono hm96.wext).mono hW1572)), ⟨g1577, g1578, g1579, g1580⟩⟩
              · intro D1583 F1584 s1585 d1586 d1587 d1588 hE1589 hW1590 hG1591 hfr1592 hR1593
                have hE1594 := hE98.trans hE1589
                obtain ⟨g1595, g1596, g1597, g1598⟩ := hG1591
                have q1599 : F1584 42 = (.bool (r109 == (w64 ((w64 (1 + r111)) + r113)))) := hR1593 23 rfl 42 rfl
                have q1600 : RpV s1585 (r71 : Val) (F1584 43) := hR1593 24 rfl 43 rfl
                obtain ⟨A1601, c1602, A1604, c1605, A1607, c1608, A1610, c1611, hv1613, h1603, h1606, h1609, h1612⟩ := Val.rpv q1600
                refine Or.inr ⟨(r109 == (w64 ((w64 (1 + r111)) + r113))), (fun d hd => by cases hd; exact q1599), fun _ => ?_, fun h => absurd (hc115 : (r109 == (w64 ((w64 (1 + r111)) + r113))) = true) h⟩
                refine r_call [.agg #[.int .i64 r71.Kind, .int .i64 r71.Int_, .string r71.Text, .slice A1601 r71.Kids.length c1602, .slice A1604 r71.Keys.length c1605, .slice A1607 r71.Entries.length c1608, .slice A1610 r71.Labels.length c1611]] (evs1 hv1613) rfl ((ok_value_Height fuel) _ _ _ _ (Val.rpvMk (v := r71) h1603 h1606 h1609 h1612) e117) ?_
                intro v1615 s1614 hx1616 hr1617
                have hE1618 := hE1594.ext hE1594.size hx1616
                obtain rfl := RpV.int hr1617
                refine wpList_nil ?_
                exact ⟨_, _, rfl, rfl, (ExtB.refl _ _).trans (hx1616.mono hE1594.size), (Wext.refl _).trans hx1616.wext, rfl, ⟨(g1595.ext hx1616), (g1596.ext hx1616), (g1597.ext hx1616), (g1598.ext hx1616)⟩⟩
              · intro D1619 F1620 s1621 d1622 d1623 d1624 hE1625 hW1626 hG1627 hfr1628 hR1629
                have hE1630 := hE98.trans hE1625
                obtain ⟨g1631, g1632, g1633, g1634⟩ := hG1627
                have hb1635 := g1631
                have q1636 : F1620 42 = (.bool (r109 == (w64 ((w64 (1 + r111)) + r113)))) := hR1629 23 rfl 42 rfl
                refine Or.inr ⟨(r109 == (w64 ((w64 (1 + r111)) + r113))), (fun d hd => by cases hd; exact q1636), fun _ => ?_, fun h => absurd (hc115 : (r109 == (w64 ((w64 (1 + r111)) + r113))) = true) h⟩
                refine r_load b25 0 (.agg #[.int .i64 a0.Kind, .int .i64 a0.Int_, .string a0.Text, .slice A1 a0.Kids.length c2, .slice A4 a0.Keys.length c5, .slice A7 a0.Entries.length c8, .slice A10 a0.Labels.length c11]) ((hfr1628 2 rfl).trans rfl) rfl (loads_row tr27 (Blk.range hb1635 0 [.int .i64 a0.Kind, .int .i64 a0.Int_, .string a0.Text, .slice A1 a0.Kids.length c2, .slice A4 a0.Keys.length c5, .slice A7 a0.Entries.length c8, .slice A10 a0.Labels.length c11] rfl)) ?_
                refine wpList_nil ?_
                exact ⟨_, _, rfl, rfl, ExtB.refl _ _, Wext.refl _, (Val.rpvMk (v := a0) (((((((((h3.mono hx27.wext).mono hx32.wext).mono hx39.wext).mono hx54.wext).mono hx68.wext).mono hx75.wext).mono hx92.wext).mono hm96.wext).mono hW1626) (((((((((h6.mono hx27.wext).mono hx32.wext).mono hx39.wext).mono hx54.wext).mono hx68.wext).mono hx75.wext).mono hx92.wext).mono hm96.wext).mono hW1626) (((((((((h9.mono hx27.wext).mono hx32.wext).mono hx39.wext).mono hx54.wext).mono hx68.wext).mono hx75.wext).mono hx92.wext).mono hm96.wext).mono hW1626) (((((((((h12.mono hx27.wext).mono hx32.wext).mono hx39.wext).mono hx54.wext).mono hx68.wext).mono hx75.wext).mono hx92.wext).mono hm96.wext).mono hW1626)), ⟨g1631, g1632, g1633, g1634⟩⟩
              · intro D1637 F1638 s1639 d1640 d1641 d1642 hE1643 hW1644 hG1645 hfr1646 hR1647
                have hE1648 := hE98.trans hE1643
                obtain ⟨g1649, g1650, g1651, g1652⟩ := hG1645
                have q1653 : F1638 42 = (.bool (r109 == (w64 ((w64 (1 + r111)) + r113)))) := hR1647 23 rfl 42 rfl
                have q1654 : RpV s1639 (a0 : Val) (F1638 45) := hR1647 26 rfl 45 rfl
                obtain ⟨A1655, c1656, A1658, c1659, A1661, c1662, A1664, c1665, hv1667, h1657, h1660, h1663, h1666⟩ := Val.rpv q1654
                refine Or.inr ⟨(r109 == (w64 ((w64 (1 + r111)) + r113))), (fun d hd => by cases hd; exact q1653), fun _ => ?_, fun h => absurd (hc115 : (r109 == (w64 ((w64 (1 + r111)) + r113))) = true) h⟩
                refine r_call [.agg #[.int .i64 a0.Kind, .int .i64 a0.Int_, .string a0.Text, .slice A1655 a0.Kids.length c1656, .slice A1658 a0.Keys.length c1659, .slice A1661 a0.Entries.length c1662, .slice A1664 a0.Labels.length c1665]] (evs1 hv1667) rfl ((ok_value_Height fuel) _ _ _ _ (Val.rpvMk (v := a0) h1657 h1660 h1663 h1666) e119) ?_
                intro v1669 s1668 hx1670 hr1671
                have hE1672 := hE1648.ext hE1648.size hx1670
                obtain rfl := RpV.int hr1671
                refine wpList_nil ?_
                exact ⟨_, _, rfl, rfl, (ExtB.refl _ _).trans (hx1670.mono hE1648.size), (Wext.refl _).trans hx1670.wext, rfl, ⟨(g1649.ext hx1670), (g1650.ext hx1670), (g1651.ext hx1670), (g1652.ext hx1670)⟩⟩
              · intro D1673 F1674 s1675 d1676 d1677 d1678 hE1679 hW1680 hG1681 hfr1682 hR1683
                have hE1684 := hE98.trans hE1679
                obtain ⟨g1685, g1686, g1687, g1688⟩ := hG1681
                have hb1689 := g1686
                have q1690 : F1674 42 = (.bool (r109 == (w64 ((w64 (1 + r111)) + r113)))) := hR1683 23 rfl 42 rfl
                refine Or.inr ⟨(r109 == (w64 ((w64 (1 + r111)) + r113))), (fun d hd => by cases hd; exact q1690), fun _ => ?_, fun h => absurd (hc115 : (r109 == (w64 ((w64 (1 + r111)) + r113))) = true) h⟩
                refine r_load b30 0 (.agg #[.int .i64 a1.Kind, .int .i64 a1.Int_, .string a1.Text, .slice A13 a1.Kids.length c14, .slice A16 a1.Keys.length c17, .slice A19 a1.Entries.length c20, .slice A22 a1.Labels.length c23]) ((hfr1682 3 rfl).trans rfl) rfl (loads_row tr27 (Blk.range hb1689 0 [.int .i64 a1.Kind, .int .i64 a1.Int_, .string a1.Text, .slice A13 a1.Kids.length c14, .slice A16 a1.Keys.length c17, .slice A19 a1.Entries.length c20, .slice A22 a1.Labels.length c23] rfl)) ?_
                refine wpList_nil ?_
                exact ⟨_, _, rfl, rfl, ExtB.refl _ _, Wext.refl _, (Val.rpvMk (v := a1) (((((((((h15.mono hx27.wext).mono hx32.wext).mono hx39.wext).mono hx54.wext).mono hx68.wext).mono hx75.wext).mono hx92.wext).mono hm96.wext).mono hW1680) (((((((((h18.mono hx27.wext).mono hx32.wext).mono hx39.wext).mono hx54.wext).mono hx68.wext).mono hx75.wext).mono hx92.wext).mono hm96.wext).mono hW1680) (((((((((h21.mono hx27.wext).mono hx32.wext).mono hx39.wext).mono hx54.wext).mono hx68.wext).mono hx75.wext).mono hx92.wext).mono hm96.wext).mono hW1680) (((((((((h24.mono hx27.wext).mono hx32.wext).mono hx39.wext).mono hx54.wext).mono hx68.wext).mono hx75.wext).mono hx92.wext).mono hm96.wext).mono hW1680)), ⟨g1685, g1686, g1687, g1688⟩⟩
              · intro D1691 F1692 s1693 d1694 d1695 d1696 hE1697 hW1698 hG1699 hfr1700 hR1701
                have hE1702 := hE98.trans hE1697
                obtain ⟨g1703, g1704, g1705, g1706⟩ := hG1699
                have q1707 : F1692 42 = (.bool (r109 == (w64 ((w64 (1 + r111)) + r113)))) := hR1701 23 rfl 42 rfl
                have q1708 : RpV s1693 (a1 : Val) (F1692 47) := hR1701 28 rfl 47 rfl
                obtain ⟨A1709, c1710, A1712, c1713, A1715, c1716, A1718, c1719, hv1721, h1711, h1714, h1717, h1720⟩ := Val.rpv q1708
                refine Or.inr ⟨(r109 == (w64 ((w64 (1 + r111)) + r113))), (fun d hd => by cases hd; exact q1707), fun _ => ?_, fun h => absurd (hc115 : (r109 == (w64 ((w64 (1 + r111)) + r113))) = true) h⟩
                refine r_call [.agg #[.int .i64 a1.Kind, .int .i64 a1.Int_, .string a1.Text, .slice A1709 a1.Kids.length c1710, .slice A1712 a1.Keys.length c1713, .slice A1715 a1.Entries.length c1716, .slice A1718 a1.Labels.length c1719]] (evs1 hv1721) rfl ((ok_value_Height fuel) _ _ _ _ (Val.rpvMk (v := a1) h1711 h1714 h1717 h1720) e121) ?_
                intro v1723 s1722 hx1724 hr1725
                have hE1726 := hE1702.ext hE1702.size hx1724
                obtain rfl := RpV.int hr1725
                refine wpList_nil ?_
                exact ⟨_, _, rfl, rfl, (ExtB.refl _ _).trans (hx1724.mono hE1702.size), (Wext.refl _).trans hx1724.wext, rfl, ⟨(g1703.ext hx1724), (g1704.ext hx1724), (g1705.ext hx1724), (g1706.ext hx1724)⟩⟩
              · intro D1727 F1728 s1729 d1730 d1731 d1732 hE1733 hW1734 hG1735 hfr1736 hR1737
                have hE1738 := hE98.trans hE1733
                obtain ⟨g1739, g1740, g1741, g1742⟩ := hG1735
                have q1743 : F1728 42 = (.bool (r109 == (w64 ((w64 (1 + r111)) + r113)))) := hR1737 23 rfl 42 rfl
                have q1744 : F1728 46 = (.int .i64 r118) := hR1737 27 rfl 46 rfl
                have q1745 : F1728 48 = (.int .i64 r120) := hR1737 29 rfl 48 rfl
                refine Or.inr ⟨(r109 == (w64 ((w64 (1 + r111)) + r113))), (fun d hd => by cases hd; exact q1743), fun _ => ?_, fun h => absurd (hc115 : (r109 == (w64 ((w64 (1 + r111)) + r113))) = true) h⟩
                refine r_max .i64 r118 r120 q1744 q1745 rfl rfl ?_
                refine wpList_nil ?_
                exact ⟨_, _, rfl, rfl, ExtB.refl _ _, Wext.refl _, rfl, ⟨g1739, g1740, g1741, g1742⟩⟩
              · intro D1746 F1747 s1748 d1749 d1750 d1751 hE1752 hW1753 hG1754 hfr1755 hR1756
                have hE1757 := hE98.trans hE1752
                obtain ⟨g1758, g1759, g1760, g1761⟩ := hG1754
                have q1762 : F1747 42 = (.bool (r109 == (w64 ((w64 (1 + r111)) + r113)))) := hR1756 23 rfl 42 rfl
                have q1763 : F1747 49 = (.int .i64 (max r118 r120)) := hR1756 30 rfl 49 rfl
                refine Or.inr ⟨(r109 == (w64 ((w64 (1 + r111)) + r113))), (fun d hd => by cases hd; exact q1762), fun _ => ?_, fun h => absurd (hc115 : (r109 == (w64 ((w64 (1 + r111)) + r113))) = true) h⟩
                refine r_bin (.int .i64 1) (.int .i64 (max r118 r120)) (.int .i64 (w64 (1 + (max r118 r120)))) rfl q1763 rfl rfl (b_add) ?_
                refine wpList_nil ?_
                exact ⟨_, _, rfl, rfl, ExtB.refl _ _, Wext.refl _, rfl, ⟨g1758, g1759, g1760, g1761⟩⟩
              · intro D1764 F1765 s1766 d1767 d1768 d1769 hE1770 hW1771 hG1772 hfr1773 hR1774
                have hE1775 := hE98.trans hE1770
                obtain ⟨g1776, g1777, g1778, g1779⟩ := hG1772
                have q1780 : F1765 42 = (.bool (r109 == (w64 ((w64 (1 + r111)) + r113)))) := hR1774 23 rfl 42 rfl
                have q1781 : F1765 44 = (.int .i64 r116) := hR1774 25 rfl 44 rfl
                have q1782 : F1765 50 = (.int .i64 (w64 (1 + (max r118 r120)))) := hR1774 31 rfl 50 rfl
                refine Or.inr ⟨(r109 == (w64 ((w64 (1 + r111)) + r113))), (fun d hd => by cases hd; exact q1780), fun _ => ?_, fun h => absurd (hc115 : (r109 == (w64 ((w64 (1 + r111)) + r113))) = true) h⟩
                refine r_bin (.int .i64 r116) (.int .i64 (w64 (1 + (max r118 r120)))) (.bool (r116 == (w64 (1 + (max r118 r120))))) q1781 q1782 rfl rfl (b_eql) ?_
                refine wpList_nil ?_
                exact ⟨_, _, rfl, rfl, ExtB.refl _ _, Wext.refl _, rfl, ⟨g1776, g1777, g1778, g1779⟩⟩
              · intro D1783 F1784 s1785 d1786 d1787 d1788 hE1789 hW1790 hG1791 hfr1792 hR1793
                have hE1794 := hE98.trans hE1789
                obtain ⟨g1795, g1796, g1797, g1798⟩ := hG1791
                have q1799 : F1784 42 = (.bool (r109 == (w64 ((w64 (1 + r111)) + r113)))) := hR1793 23 rfl 42 rfl
                have q1800 : F1784 51 = (.bool (r116 == (w64 (1 + (max r118 r120))))) := hR1793 32 rfl 51 rfl
                refine r_pick_t (c := (r109 == (w64 ((w64 (1 + r111)) + r113)))) (.bool (r116 == (w64 (1 + (max r118 r120))))) q1799 hc115 q1800 rfl rfl rfl ?_
                refine wpList_nil ?_
                exact ⟨_, _, rfl, rfl, ExtB.refl _ _, Wext.refl _, rfl, ⟨g1795, g1796, g1797, g1798⟩⟩
              · intro D1801 F1802 s1803 d1804 d1805 d1806 hE1807 hW1808 hG1809 hfr1810 hR1811
                have hE1812 := hE98.trans hE1807
                obtain ⟨g1813, g1814, g1815, g1816⟩ := hG1809
                have q1817 : F1802 52 = (.bool (r116 == (w64 (1 + (max r118 r120))))) := hR1811 33 rfl 52 rfl
                refine r_move (.bool (r116 == (w64 (1 + (max r118 r120))))) q1817 rfl ?_
                refine wpList_nil ?_
                exact ⟨_, _, rfl, rfl, ExtB.refl _ _, Wext.refl _, rfl, ⟨g1813, g1814, g1815, g1816⟩⟩
              · intro D1818 F1819 s1820 d1821 d1822 d1823 hE1824 hW1825 hG1826 hfr1827 hR1828
                obtain ⟨g1830, g1831, g1832, g1833⟩ := hG1826
                have q1834 : F1819 53 = (.bool (r116 == (w64 (1 + (max r118 r120))))) := hR1828 34 rfl 53 rfl
                refine Or.inr ⟨(r116 == (w64 (1 + (max r118 r120)))), (fun d hd => by cases hd; exact q1834), fun h => Bool.noConfusion (Eq.trans (Eq.symm (hc122 : (r116 == (w64 (1 + (max r118 r120)))) = false)) h), fun _ => ⟨rfl, ?_⟩⟩
                exact ⟨g1830, g1831, g1832, g1833⟩
              · intro D1835 F1836 s1837 d1838 d1839 d1840 hE1841 hW1842 hG1843 hfr1844 hR1845
                have hE1846 := hE98.trans hE1841
                obtain ⟨g1847, g1848, g1849, g1850⟩ := hG1843
                have q1851 : F1836 53 = (.bool (r116 == (w64 (1 + (max r118 r120))))) := hR1845 34 rfl 53 rfl
                have q1852 : F1836 54 = undef := hR1845 35 rfl 54 rfl
                refine r_pick_f (c := (r116 == (w64 (1 + (max r118 r120))))) (.bool false) q1851 hc122 rfl rfl rfl rfl ?_
                refine wpList_nil ?_
                exact ⟨_, _, rfl, rfl, ExtB.refl _ _, Wext.refl _, rfl, ⟨g1847, g1848, g1849, g1850⟩⟩
              · intro D1853 F1854 s1855 d1856 d1857 d1858 hE1859 hW1860 hG1861 hfr1862 hR1863
                have hE1864 := hE98.trans hE1859
                obtain ⟨g1865, g1866, g1867, g1868⟩ := hG1861
                have q1869 : F1854 55 = (.bool false) := hR1863 36 rfl 55 rfl
                refine r_assign (.bool false) q1869 rfl ?_
                refine wpList_nil ?_
                exact ⟨_, _, rfl, rfl, ExtB.refl _ _, Wext.refl _, rfl, ⟨g1865, g1866, g1867, g1868⟩⟩
              · intro F1870 s1871 hE1872 hW1873 hG1874 hfr1875 hR1876
                have hE1877 := hE98.trans hE1872
                obtain ⟨g1878, g1879, g1880, g1881⟩ := hG1874
                have hb1882 := g1878
                have hb1883 := g1879
                have hb1884 := g1880
                have q1885 : F1870 4 = (.bool false) := hR1876 37 4 rfl
                refine p_then ?_
                refine wp_ret ?_
                obtain rfl := Option.some.inj hf
                refine ret_one (.bool false) rfl ⟨rfl, q1885⟩ hE1877 ?_
                exact (RpV.mkBool _ _)
          · refine wp_draw (B := s0.N) [some 19, some 20, some 21, some 22, some 23, some 24, some 25, some 26, some 27, some 28, some 29, some 30, some 31, some 32, some 33, some 34, some 35, some 36, some 37, some 38, some 39, some 40, some 41, some 42, some 43, some 44, some 45, some 46, some 47, some 48, some 49, some 50, some 51, some 52, some 53, some 54, some 55, some 4] [[], [0], [], [0, 1, 2], [0, 1, 2, 3], [0, 1, 2, 3, 4], [0, 1, 2, 3, 4, 5], [0, 1, 2, 3, 4, 5, 6], [0, 1, 2, 3, 4, 5], [0, 1, 2, 3, 4, 5, 6, 7, 8], [0, 1, 2, 3, 4, 5, 6, 7, 8, 9], [0, 1, 2, 3, 4, 5, 6, 7, 8, 9, 10], [0, 1, 2, 3, 4, 5, 6, 7, 8, 9, 10, 11], [0, 1, 2, 3, 4, 5, 6, 7, 8, 9, 10, 11, 12], [0, 1, 2, 3, 4, 5, 6, 7, 8, 9, 10, 11, 12, 13], [0, 1, 2, 3, 4, 5, 6, 7, 8, 9, 10, 11, 12], [0, 1, 2, 3, 4, 5, 6, 7, 8, 9, 10, 11, 12, 13, 14, 15], [0, 1, 2, 3, 4, 5, 6, 7, 8, 9, 10, 11, 12, 13, 14, 15, 16], [0, 1, 2, 3, 4, 5, 6, 7, 8, 9, 10, 11, 12], [0, 1, 2, 3, 4, 5, 6, 7, 8, 9, 10, 11, 12, 13, 14, 15, 16, 18], [0, 1, 2, 3, 4, 5, 6, 7, 8, 9, 10, 11, 12, 13, 14, 15, 16, 17, 18, 19], [0, 1, 2, 3, 4, 5, 6, 7, 8, 9, 10, 11, 12, 13, 14, 15, 16, 17, 18, 19, 20], [0, 1, 2, 3, 4, 5, 6, 7, 8, 9, 10, 11, 12, 13, 14, 15, 16, 17, 18, 19, 20, 21], [0, 1, 2, 3, 4, 5, 6, 7, 8, 9, 10, 11, 12, 13, 14, 15, 16, 17, 18, 19, 20, 21, 22], [0, 1, 2, 3, 4, 5, 6, 7, 8, 9, 10, 11, 12, 13, 14, 15, 16, 17, 18, 19, 20, 21, 22, 23], [0, 1, 2, 3, 4, 5, 6, 7, 8, 9, 10, 11, 12, 13, 14, 15, 16, 17, 18, 19, 20, 21, 22, 23, 24], [0, 1, 2, 3, 4, 5, 6, 7, 8, 9, 10, 11, 12, 13, 14, 15, 16, 17, 18, 19, 20, 21, 22, 23], [0, 1, 2, 3, 4, 5, 6, 7, 8, 9, 10, 11, 12, 13, 14, 15, 16, 17, 18, 19, 20, 21, 22, 23, 24, 25, 26], [0, 1, 2, 3, 4, 5, 6, 7, 8, 9, 10, 11, 12, 13, 14, 15, 16, 17, 18, 19, 20, 21, 22, 23], [0, 1, 2, 3, 4, 5, 6, 7, 8, 9, 10, 11, 12, 13, 14, 15, 16, 17, 18, 19, 20, 21, 22, 23, 24, 25, 26, 27, 28], [0, 1, 2, 3, 4, 5, 6, 7, 8, 9, 10, 11, 12, 13, 14, 15, 16, 17, 18, 19, 20, 21, 22, 23, 24, 25, 26, 27, 28, 29], [0, 1, 2, 3, 4, 5, 6, 7, 8, 9, 10, 11, 12, 13, 14, 15, 16, 17, 18, 19, 20, 21, 22, 23, 24, 25, 26, 27, 28, 29, 30], [0, 1, 2, 3, 4, 5, 6, 7, 8, 9, 10, 11, 12, 13, 14, 15, 16, 17, 18, 19, 20, 21, 22, 23, 24, 25, 26, 27, 28, 29, 30, 31], [0, 1, 2, 3, 4, 5, 6, 7, 8, 9, 10, 11, 12, 13, 14, 15, 16, 17, 18, 19, 20, 21, 22, 23, 24, 25, 26, 27, 28, 29, 30, 31, 32], [0, 1, 2, 3, 4, 5, 6, 7, 8, 9, 10, 11, 12, 13, 14, 15, 16, 17, 18, 19, 20, 21, 22, 23, 24, 25, 26, 27, 28, 29, 30, 31, 32, 33], [0, 1, 2, 3, 4, 5, 6, 7, 8, 9, 10, 11, 12, 13, 14, 15, 16, 17, 18, 19, 20, 21, 22, 23, 24, 25, 26, 27, 28, 29, 30, 31, 32, 33, 34], [0, 1, 2, 3, 4, 5, 6, 7, 8, 9, 10, 11, 12, 13, 14, 15, 16, 17, 18, 19, 20, 21, 22, 23, 24, 25, 26, 27, 28, 29, 30, 31, 32, 33, 34, 35], [0, 1, 2, 3, 4, 5, 6, 7, 8, 9, 10, 11, 12, 13, 14, 15, 16, 17, 18, 19, 20, 21, 22, 23, 24, 25, 26, 27, 28, 29, 30, 31, 32, 33, 34, 35, 36]] [Fct.data (a0 : Val), Fct.eqv (.int .i64 r99), Fct.data (a0 : Val), Fct.eqv (.int .i64 r101), Fct.eqv (.bool (r99 == r101)), Fct.eqv (.bool (r99 == r101)), Fct.data (a0 : Val), Fct.eqv (.int .i64 r104), Fct.data (a0 : Val), Fct.eqv (.int .i64 r106), Fct.eqv (.bool (r104 == r106)), Fct.eqv (.bool (r104 == r106)), Fct.eqv (.bool (r104 == r106)), Fct.data (r71 : Val), Fct.eqv (.int .i64 r109), Fct.data (a0 : Val), Fct.eqv (.int .i64 r111), Fct.eqv (.int .i64 (w64 (1 + r111))), Fct.data (a1 : Val), Fct.eqv (.int .i64 r113), Fct.eqv (.int .i64 (w64 ((w64 (1 + r111)) + r113))), Fct.eqv (.bool (r109 == (w64 ((w64 (1 + r111)) + r113)))), Fct.eqv (.bool (r109 == (w64 ((w64 (1 + r111)) + r113)))), Fct.eqv (.bool (r109 == (w64 ((w64 (1 + r111)) + r113)))), Fct.eqv undef, Fct.eqv undef, Fct.eqv undef, Fct.eqv undef, Fct.eqv undef, Fct.eqv undef, Fct.eqv undef, Fct.eqv undef, Fct.eqv undef, Fct.eqv (.bool false), Fct.eqv (.bool false), Fct.eqv undef, Fct.eqv (.bool false), Fct.eqv (.bool false)] (fun D F τ => (Blk s0.N 1 τ b25 27 [.int .i64 a0.Kind, .int .i64 a0.Int_, .string a0.Text, .slice A1 a0.Kids.length c2, .slice A4 a0.Keys.length c5, .slice A7 a0.Entries.length c8, .slice A10 a0.Labels.length c11]) ∧ (Blk s0.N 2 τ b30 27 [.int .i64 a1.Kind, .int .i64 a1.Int_, .string a1.Text, .slice A13 a1.Kids.length c14, .slice A16 a1.Keys.length c17, .slice A19 a1.Entries.length c20, .slice A22 a1.Labels.length c23]) ∧ (Blk s0.N 4 τ b90 27 [.int .i64 r71.Kind, .int .i64 r71.Int_, .string r71.Text, .slice A78 r71.Kids.length c79, .slice A81 r71.Keys.length c82, .slice A84 r71.Entries.length c85, .slice A87 r71.Labels.length c88]) ∧ (Own s0.N 3 27 τ [a0, a1] A66 c67)) (by kernel_rfl) rfl (by decide) (by decide) ⟨((((((((hb28.ext hx32).ext hx39).ext hx54).ext hx68).ext hx75).ext hx92).mod hm96 rfl).ext (ext_draw _)), (((((((hb33.ext hx39).ext hx54).ext hx68).ext hx75).ext hx92).mod hm96 rfl).ext (ext_draw _)), (hb97.ext (ext_draw _)), ((((ho69.ext hx75).ext hx92).mod hm96 rfl).ext (ext_draw _))⟩ (by decide) (by decide) ⟨?_, ?_, ?_, ?_, ?_, ?_, ?_, ?_, ?_, ?_, ?_, ?_, ?_, ?_, ?_, ?_, ?_, ?_, ?_, ?_, ?_, ?_, ?_, ?_, ?_, ?_, ?_, ?_, ?_, ?_, ?_, ?_, ?_, ?_, ?_, ?_, ?_, ?_, trivial⟩ ?_
            · intro D1889 F1890 s1891 d1892 d1893 d1894 hE1895 hW1896 hG1897 hfr1898 hR1899
              have hE1900 := hE98.trans hE1895
              obtain ⟨g1901, g1902, g1903, g1904⟩ := hG1897
              have hb1905 := g1901
              refine r_load b25 0 (.agg #[.int .i64 a0.Kind, .int .i64 a0.Int_, .string a0.Text, .slice A1 a0.Kids.length c2, .slice A4 a0.Keys.length c5, .slice A7 a0.Entries.length c8, .slice A10 a0.Labels.length c11]) ((hfr1898 2 rfl).trans rfl) rfl (loads_row tr27 (Blk.range hb1905 0 [.int .i64 a0.Kind, .int .i64 a0.Int_, .string a0.Text, .slice A1 a0.Kids.length c2, .slice A4 a0.Keys.length c5, .slice A7 a0.Entries.length c8, .slice A10 a0.Labels.length c11] rfl)) ?_
              refine wpList_nil ?_
              exact ⟨_, _, rfl, rfl, ExtB.refl _ _, Wext.refl _, (Val.rpvMk (v := a0) (((((((((h3.mono hx27.wext).mono hx32.wext).mono hx39.wext).mono hx54.wext).mono hx68.wext).mono hx75.wext).mono hx92.wext).mono hm96.wext).mono hW1896) (((((((((h6.mono hx27.wext).mono hx32.wext).mono hx39.wext).mono hx54.wext).mono hx68.wext).mono hx75.wext).mono hx92.wext).mono hm96.wext).mono hW1896) (((((((((h9.mono hx27.wext).mono hx32.wext).mono hx39.wext).mono hx54.wext).mono hx68.wext).mono hx75.wext).mono hx92.wext).mono hm96.wext).mono hW1896) (((((((((h12.mono hx27.wext).mono hx32.wext).mono hx39.wext).mono hx54.wext).mono hx68.wext).mono hx75.wext).mono hx92.wext).mono hm96.wext).mono hW1896)), ⟨g1901, g1902, g1903, g1904⟩⟩
            · intro D1906 F1907 s1908 d1909 d1910 d1911 hE1912 hW1913 hG1914 hfr1915 hR1916
              have hE1917 := hE98.trans hE1912
              obtain ⟨g1918, g1919, g1920, g1921⟩ := hG1914
              have q1922 : RpV s1908 (a0 : Val) (F1907 19) := hR1916 0 rfl 19 rfl
              obtain ⟨A1923, c1924, A1926, c1927, A1929, c1930, A1932, c1933, hv1935, h1925, h1928, h1931, h1934⟩ := Val.rpv q1922
              refine r_call [.agg #[.int .i64 a0.Kind, .int .i64 a0.Int_, .string a0.Text, .slice A1923 a0.Kids.length c1924, .slice A1926 a0.Keys.length c1927, .slice A1929 a0.Entries.length c1930, .slice A1932 a0.Labels.length c1933]] (evs1 hv1935) rfl ((ok_value_Nodes fuel) _ _ _ _ (Val.rpvMk (v := a0) h1925 h1928 h1931 h1934) e100) ?_
              intro v1937 s1936 hx1938 hr1939
              have hE1940 := hE1917.ext hE1917.size hx1938
              obtain rfl := RpV.int hr1939
              refine wpList_nil ?_
              exact ⟨_, _, rfl, rfl, (ExtB.refl _ _).trans (hx1938.mono hE1917.size), (Wext.refl _).trans hx1938.wext, rfl, ⟨(g1918.ext hx1938), (g1919.ext hx1938), (g1920.ext hx1938), (g1921.ext hx1938)⟩⟩
            · intro D1941 F1942 s1943 d1944 d1945 d1946 hE1947 hW1948 hG1949 hfr1950 hR1951
              have hE1952 := hE98.trans hE1947
              obtain ⟨g1953, g1954, g1955, g1956⟩ := hG1949
              have hb1957 := g1953
              refine r_load b25 0 (.agg #[.int .i64 a0.Kind, .int .i64 a0.Int_, .string a0.Text, .slice A1 a0.Kids.length c2, .slice A4 a0.Keys.length c5, .slice A7 a0.Entries.length c8, .slice A10 a0.Labels.length c11]) ((hfr1950 2 rfl).trans rfl) rfl (loads_row tr27 (Blk.range hb1957 0 [.int .i64 a0.Kind, .int .i64 a0.Int_, .string a0.Text, .slice A1 a0.Kids.length c2, .slice A4 a0.Keys.length c5, .slice A7 a0.Entries.length c8, .slice A10 a0.Labels.length c11] rfl)) ?_
              refine wpList_nil ?_
              exact ⟨_, _, rfl, rfl, ExtB.refl _ _, Wext.refl _, (Val.rpvMk (v := a0) (((((((((h3.mono hx27.wext).mono hx32.wext).mono hx39.wext).mono hx54.wext).mono hx68.wext).mono hx75.wext).mono hx92.wext).mono hm96.wext).mono hW1948) (((((((((h6.mono hx27.wext).mono hx32.wext).mono hx39.wext).mono hx54.wext).mono hx68.wext).mono hx75.wext).mono hx92.wext).mono hm96.wext).mono hW1948) (((((((((h9.mono hx27.wext).mono hx32.wext).mono hx39.wext).mono hx54.wext).mono hx68.wext).mono hx75.wext).mono hx92.wext).mono hm96.wext).mono hW1948) (((((((((h12.mono hx27.wext).mono hx32.wext).mono hx39.wext).mono hx54.wext).mono hx68.wext).mono hx75.wext).mono hx92.wext).mono hm96.wext).mono hW1948)), ⟨g1953, g1954, g1955, g1956⟩⟩
            · intro D1958 F1959 s1960 d1961 d1962 d1963 hE1964 hW1965 hG1966 hfr1967 hR1968
              have hE1969 := hE98.trans hE1964
              obtain ⟨g1970, g1971, g1972, g1973⟩ := hG1966
              have q1974 : RpV s1960 (a0 : Val) (F1959 21) := hR1968 2 rfl 21 rfl
              obtain ⟨A1975, c1976, A1978, c1979, A1981, c1982, A1984, c1985, hv1987, h1977, h1980, h1983, h1986⟩ := Val.rpv q1974
              refine r_call [.agg #[.int .i64 a0.Kind, .int .i64 a0.Int_, .string a0.Text, .slice A1975 a0.Kids.length c1976, .slice A1978 a0.Keys.length c1979, .slice A1981 a0.Entries.length c1982, .slice A1984 a0.Labels.length c1985]] (evs1 hv1987) rfl ((ok_semtyperef1_Nodes fuel) _ _ _ _ (Val.rpvMk (v := a0) h1977 h1980 h1983 h1986) e102) ?_
              intro v1989 s1988 hx1990 hr1991
              have hE1992 := hE1969.ext hE1969.size hx1990
              obtain rfl := RpV.int hr1991
              refine wpList_nil ?_
              exact ⟨_, _, rfl, rfl, (ExtB.refl _ _).trans (hx1990.mono hE1969.size), (Wext.refl _).trans hx1990.wext, rfl, ⟨(g1970.ext hx1990), (g1971.ext hx1990), (g1972.ext hx1990), (g1973.ext hx1990)⟩⟩
            · intro D1993 F1994 s1995 d1996 d1997 d1998 hE1999 hW2000 hG2001 hfr2002 hR2003
              have hE2004 := hE98.trans hE1999
              obtain ⟨g2005, g2006, g2007, g2008⟩ := hG2001
              have q2009 : F1994 20 = (.int .i64 r99) := hR2003 1 rfl 20 rfl
              have q2010 : F1994 22 = (.int .i64 r101) := hR2003 3 rfl 22 rfl
              refine r_bin (.int .i64 r99) (.int .i64 r101) (.bool (r99 == r101)) q2009 q2010 rfl rfl (b_eql) ?_
              refine wpList_nil ?_
              exact ⟨_, _, rfl, rfl, ExtB.refl _ _, Wext.refl _, rfl, ⟨g2005, g2006, g2007, g2008⟩⟩
            · intro D2011 F2012 s2013 d2014 d2015 d2016 hE2017 hW2018 hG2019 hfr2020 hR2021
              have hE2022 := hE98.trans hE2017
              obtain ⟨g2023, g2024, g2025, g2026⟩ := hG2019
              have q2027 : F2012 23 = (.bool (r99 == r101)) := hR2021 4 rfl 23 rfl
              refine r_move (.bool (r99 == r101)) q2027 rfl ?_
              refine wpList_nil ?_
              exact ⟨_, _, rfl, rfl, ExtB.refl _ _, Wext.refl _, rfl, ⟨g2023, g2024, g2025, g2026⟩⟩
            · intro D2028 F2029 s2030 d2031 d2032 d2033 hE2034 hW2035 hG2036 hfr2037 hR2038
              have hE2039 := hE98.trans hE2034
              obtain ⟨g2040, g2041, g2042, g2043⟩ := hG2036
              have hb2044 := g2040
              have q2045 : F2029 24 = (.bool (r99 == r101)) := hR2038 5 rfl 24 rfl
              refine Or.inr ⟨(r99 == r101), (fun d hd => by cases hd; exact q2045), fun _ => ?_, fun h => absurd (hc103 : (r99 == r101) = true) h⟩
              refine r_load b25 0 (.agg #[.int .i64 a0.Kind, .int .i64 a0.Int_, .string a0.Text, .slice A1 a0.Kids.length c2, .slice A4 a0.Keys.length c5, .slice A7 a0.Entries.length c8, .slice A10 a0.Labels.length c11]) ((hfr2037 2 rfl).trans rfl) rfl (loads_row tr27 (Blk.range hb2044 0 [.int .i64 a0.Kind, .int .i64 a0.Int_, .string a0.Text, .slice A1 a0.Kids.length c2, .slice A4 a0.Keys.length c5, .slice A7 a0.Entries.length c8, .slice A10 a0.Labels.length c11] rfl)) ?_
              refine wpList_nil ?_
              exact ⟨_, _, rfl, rfl, ExtB.refl _ _, Wext.refl _, (Val.rpvMk (v := a0) (((((((((h3.mono hx27.wext).mono hx32.wext).mono hx39.wext).mono hx54.wext).mono hx68.wext).mono hx75.wext).mono hx92.wext).mono hm96.wext).mono hW2035) (((((((((h6.mono hx27.wext).mono hx32.wext).mono hx39.wext).mono hx54.wext).mono hx68.wext).mono hx75.wext).mono hx92.wext).mono hm96.wext).mono hW2035) (((((((((h9.mono hx27.wext).mono hx32.wext).mono hx39.wext).mono hx54.wext).mono hx68.wext).mono hx75.wext).mono hx92.wext).mono hm96.wext).mono hW2035) (((((((((h12.mono hx27.wext).mono hx32.wext).mono hx39.wext).mono hx54.wext).mono hx68.wext).mono hx75.wext).mono hx92.wext).mono hm96.wext).mono hW2035)), ⟨g2040, g2041, g2042, g2043⟩⟩
            · intro D2046 F2047 s2048 d2049 d2050 d2051 hE2052 hW2053 hG2054 hfr2055 hR2056
              have hE2057 := hE98.trans hE2052
              obtain ⟨g2058, g2059, g2060, g2061⟩ := hG2054
              have q2062 : F2047 24 = (.bool (r99 == r101)) := hR2056 5 rfl 24 rfl
              have q2063 : RpV s2048 (a0 : Val) (F2047 25) := hR2056 6 rfl 25 rfl
              obtain ⟨A2064, c2065, A2067, c2068, A2070, c2071, A2073, c2074, hv2076, h2066, h2069, h2072, h2075⟩ := Val.rpv q2063
              refine Or.inr ⟨(r99 == r101), (fun d hd => by cases hd; exact q2062), fun _ => ?_, fun h => absurd (hc103 : (r99 == r101) = true) h⟩
              refine r_call [.agg #[.int .i64 a0.Kind, .int .i64 a0.Int_, .string a0.Text, .slice A2064 a0.Kids.length c2065, .slice A2067 a0.Keys.length c2068, .slice A2070 a0.Entries.length c2071, .slice A2073 a0.Labels.length c2074]] (evs1 hv2076) rfl ((ok_value_Height fuel) _ _ _ _ (Val.rpvMk (v := a0) h2066 h2069 h2072 h2075) e105) ?_
              intro v2078 s2077 hx2079 hr2080
              have hE2081 := hE2057.ext hE2057.size hx2079
              obtain rfl := RpV.int hr2080
              refine wpList_nil ?_
              exact ⟨_, _, rfl, rfl, (ExtB.refl _ _).trans (hx2079.mono hE2057.size), (Wext.refl _).trans hx2079.wext, rfl, ⟨(g2058.ext hx2079), (g2059.ext hx2079), (g2060.ext hx2079), (g2061.ext hx2079)⟩⟩
            · intro D2082 F2083 s2084 d2085 d2086 d2087 hE2088 hW2089 hG2090 hfr2091 hR2092
              have hE2093 := hE98.trans hE2088
              obtain ⟨g2094, g2095, g2096, g2097⟩ := hG2090
              have hb2098 := g2094
              have q2099 : F2083 24 = (.bool (r99 == r101)) := hR2092 5 rfl 24 rfl
              refine Or.inr ⟨(r99 == r101), (fun d hd => by cases hd; exact q2099), fun _ => ?_, fun h => absurd (hc103 : (r99 == r101) = true) h⟩
              refine r_load b25 0 (.agg #[.int .i64 a0.Kind, .int .i64 a0.Int_, .string a0.Text, .slice A1 a0.Kids.length c2, .slice A4 a0.Keys.length c5, .slice A7 a0.Entries.length c8, .slice A10 a0.Labels.length c11]) ((hfr2091 2 rfl).trans rfl) rfl (loads_row tr27 (Blk.range hb2098 0 [.int .i64 a0.Kind, .int .i64 a0.Int_, .string a0.Text, .slice A1 a0.Kids.length c2, .slice A4 a0.Keys.length c5, .slice A7 a0.Entries.length c8, .slice A10 a0.Labels.length c11] rfl)) ?_
              refine wpList_nil ?_
              exact ⟨_, _, rfl, rfl, ExtB.refl _ _, Wext.refl _, (Val.rpvMk (v := a0) (((((((((h3.mono hx27.wext).mono hx32.wext).mono hx39.wext).mono hx54.wext).mono hx68.wext).mono hx75.wext).mono hx92.wext).mono hm96.wext).mono hW2089) (((((((((h6.mono hx27.wext).mono hx32.wext).mono hx39.wext).mono hx54.wext).mono hx68.wext).mono hx75.wext).mono hx92.wext).mono hm96.wext).mono hW2089) (((((((((h9.mono hx27.wext).mono hx32.wext).mono hx39.wext).mono hx54.wext).mono hx68.wext).mono hx75.wext).mono hx92.wext).mono hm96.wext).mono hW2089) (((((((((h12.mono hx27.wext).mono hx32.wext).mono hx39.wext).mono hx54.wext).mono hx68.wext).mono hx75.wext).mono hx92.wext).mono hm96.wext).mono hW2089)), ⟨g2094, g2095, g2096, g2097⟩⟩
            · intro D2100 F2101 s2102 d2103 d2104 d2105 hE2106 hW2107 hG2108 hfr2109 hR2110
              have hE2111 := hE98.trans hE2106
              obtain ⟨g2112, g2113, g2114, g2115⟩ := hG2108
              have q2116 : F2101 24 = (.bool (r99 == r101)) := hR2110 5 rfl 24 rfl
              have q2117 : RpV s2102 (a0 : Val) (F2101 27) := hR2110 8 rfl 27 rfl
              obtain ⟨A2118, c2119, A2121, c2122, A2124, c2125, A2127, c2128, hv2130, h2120, h2123, h2126, h2129⟩ := Val.rpv q2117
              refine Or.inr ⟨(r99 == r101), (fun d hd => by cases hd; exact q2116), fun _ => ?_, fun h => absurd (hc103 : (r99 == r101) = true) h⟩
              refine r_call [.agg #[.int .i64 a0.Kind, .int .i64 a0.Int_, .string a0.Text, .slice A2118 a0.Kids.length c2119, .slice A2121 a0.Keys.length c2122, .slice A2124 a0.Entries.length c2125, .slice A2127 a0.Labels.length c2128]] (evs1 hv2130) rfl ((ok_semtyperef1_Height fuel) _ _ _ _ (Val.rpvMk (v := a0) h2120 h2123 h2126 h2129) e107) ?_
              intro v2132 s2131 hx2133 hr2134
              have hE2135 := hE2111.ext hE2111.size hx2133
              obtain rfl := RpV.int hr2134
              refine wpList_nil ?_
              exact ⟨_, _, rfl, rfl, (ExtB.refl _ _).trans (hx2133.mono hE2111.size), (Wext.refl _).trans hx2133.wext, rfl, ⟨(g2112.ext hx2133), (g2113.ext hx2133), (g2114.ext hx2133), (g2115.ext hx2133)⟩⟩
            · intro D2136 F2137 s2138 d2139 d2140 d2141 hE2142 hW2143 hG2144 hfr2145 hR2146
              have hE2147 := hE98.trans hE2142
              obtain ⟨g2148, g2149, g2150, g2151⟩ := hG2144
              have q2152 : F2137 24 = (.bool (r99 == r101)) := hR2146 5 rfl 24 rfl
              have q2153 : F2137 26 = (.int .i64 r104) := hR2146 7 rfl 26 rfl
              have q2154 : F2137 28 = (.int .i64 r106) := hR2146 9 rfl 28 rfl
              refine Or.inr ⟨(r99 == r101), (fun d hd => by cases hd; exact q2152), fun _ => ?_, fun h => absurd (hc103 : (r99 == r101) = true) h⟩
              refine r_bin (.int .i64 r104) (.int .i64 r106) (.bool (r104 == r106)) q2153 q2154 rfl rfl (b_eql) ?_
              refine wpList_nil ?_
              exact ⟨_, _, rfl, rfl, ExtB.refl _ _, Wext.refl _, rfl, ⟨g2148, g2149, g2150, g2151⟩⟩
            · intro D2155 F2156 s2157 d2158 d2159 d2160 hE2161 hW2162 hG2163 hfr2164 hR2165
              have hE2166 := hE98.trans hE2161
              obtain ⟨g2167, g2168, g2169, g2170⟩ := hG2163
              have q2171 : F2156 24 = (.bool (r99 == r101)) := hR2165 5 rfl 24 rfl
              have q2172 : F2156 29 = (.bool (r104 == r106)) := hR2165 10 rfl 29 rfl
              refine r_pick_t (c := (r99 == r101)) (.bool (r104 == r106)) q2171 hc103 q2172 rfl rfl rfl ?_
              refine wpList_nil ?_
              exact ⟨_, _, rfl, rfl, ExtB.refl _ _, Wext.refl _, rfl, ⟨g2167, g2168, g2169, g2170⟩⟩
            · intro D2173 F2174 s2175 d2176 d2177 d2178 hE2179 hW2180 hG2181 hfr2182 hR2183
              have hE2184 := hE98.trans hE2179
              obtain ⟨g2185, g2186, g2187, g2188⟩ := hG2181
              have q2189 : F2174 30 = (.bool (r104 == r106)) := hR2183 11 rfl 30 rfl
              refine r_move (.bool (r104 == r106)) q2189 rfl ?_
              refine wpList_nil ?_
              exact ⟨_, _, rfl, rfl, ExtB.refl _ _, Wext.refl _, rfl, ⟨g2185, g2186, g2187, g2188⟩⟩
            · intro D2190 F2191 s2192 d2193 d2194 d2195 hE2196 hW2197 hG2198 hfr2199 hR2200
              have hE2201 := hE98.trans hE2196
              obtain ⟨g2202, g2203, g2204, g2205⟩ := hG2198
              have hb2206 := g2204
              have q2207 : F2191 31 = (.bool (r104 == r106)) := hR2200 12 rfl 31 rfl
              refine Or.inr ⟨(r104 == r106), (fun d hd => by cases hd; exact q2207), fun _ => ?_, fun h => absurd (hc108 : (r104 == r106) = true) h⟩
              refine r_load b90 0 (.agg #[.int .i64 r71.Kind, .int .i64 r71.Int_, .string r71.Text, .slice A78 r71.Kids.length c79, .slice A81 r71.Keys.length c82, .slice A84 r71.Entries.length c85, .slice A87 r71.Labels.length c88]) ((hfr2199 5 rfl).trans rfl) rfl (loads_row tr27 (Blk.range hb2206 0 [.int .i64 r71.Kind, .int .i64 r71.Int_, .string r71.Text, .slice A78 r71.Kids.length c79, .slice A81 r71.Keys.length c82, .slice A84 r71.Entries.length c85, .slice A87 r71.Labels.length c88] rfl)) ?_
              refine wpList_nil ?_
              exact ⟨_, _, rfl, rfl, ExtB.refl _ _, Wext.refl _, (Val.rpvMk (v := r71) (((h80.mono hx92.wext).mono hm96.wext).mono hW2197) (((h83.mono hx92.wext).mono hm96.wext).mono hW2197) (((h86.mono hx92.wext).mono hm96.wext).mono hW2197) (((h89.mono hx92.wext).mono hm96.wext).mono hW2197)), ⟨g2202, g2203, g2204, g2205⟩⟩
            · intro D2208 F2209 s2210 d2211 d2212 d2213 hE2214 hW2215 hG2216 hfr2217 hR2218
              have hE2219 := hE98.trans hE2214
              obtain ⟨g2220, g2221, g2222, g2223⟩ := hG2216
              have q2224 : F2209 31 = (.bool (r104 == r106)) := hR2218 12 rfl 31 rfl
              have q2225 : RpV s2210 (r71 : Val) (F2209 32) := hR2218 13 rfl 32 rfl
              obtain ⟨A2226, c2227, A2229, c2230, A2232, c2233, A2235, c2236, hv2238, h2228, h2231, h2234, h2237⟩ := Val.rpv q2225
              refine Or.inr ⟨(r104 == r106), (fun d hd => by cases hd; exact q2224), fun _ => ?_, fun h => absurd (hc108 : (r104 == r106) = true) h⟩
              refine r_call [.agg #[.int .i64 r71.Kind, .int .i64 r71.Int_, .string r71.Text, .slice A2226 r71.Kids.length c2227, .slice A2229 r71.Keys.length c2230, .slice A2232 r71.Entries.length c2233, .slice A2235 r71.Labels.length c2236]] (evs1 hv2238) rfl ((ok_value_Nodes fuel) _ _ _ _ (Val.rpvMk (v := r71) h2228 h2231 h2234 h2237) e110) ?_
              intro v2240 s2239 hx2241 hr2242
              have hE2243 := hE2219.ext hE2219.size hx2241
              obtain rfl := RpV.int hr2242
              refine wpList_nil ?_
              exact ⟨_, _, rfl, rfl, (ExtB.refl _ _).trans (hx2241.mono hE2219.size), (Wext.refl _).trans hx2241.wext, rfl, ⟨(g2220.ext hx2241), (g2221.ext hx2241), (g2222.ext hx2241), (g2223.ext hx2241)⟩⟩
            · intro D2244 F2245 s2246 d2247 d2248 d2249 hE2250 hW2251 hG2252 hfr2253 hR2254
              have hE2255 := hE98.trans hE2250
              obtain ⟨g2256, g2257, g2258, g2259⟩ := hG2252
              have hb2260 := g2256
              have q2261 : F2245 31 = (.bool (r104 == r106)) := hR2254 12 rfl 31 rfl
              refine Or.inr ⟨(r104 == r106), (fun d hd => by cases hd; exact q2261), fun _ => ?_, fun h => absurd (hc108 : (r104 == r106) = true) h⟩
              refine r_load b25 0 (.agg #[.int .i64 a0.Kind, .int .i64 a0.Int_, .string a0.Text, .slice A1 a0.Kids.length c2, .slice A4 a0.Keys.length c5, .slice A7 a0.Entries.length c8, .slice A10 a0.Labels.length c11]) ((hfr2253 2 rfl).trans rfl) rfl (loads_row tr27 (Blk.range hb2260 0 [.int .i64 a0.Kind, .int .i64 a0.Int_, .string a0.Text, .slice A1 a0.Kids.length c2, .slice A4 a0.Keys.length c5, .slice A7 a0.Entries.length c8, .slice A10 a0.Labels.length c11] rfl)) ?_
              refine wpList_nil ?_
              exact ⟨_, _, rfl, rfl, ExtB.refl _ _, Wext.refl _, (Val.rpvMk (v := a0) (((((((((h3.mono hx27.wext).mono hx32.wext).mono hx39.wext).mono hx54.wext).mono hx68.wext).mono hx75.wext).mono hx92.wext).mono hm96.wext).mono hW2251) (((((((((h6.mono hx27.wext).mono hx32.wext).mono hx39.wext).mono hx54.wext).mono hx68.wext).mono hx75.wext).mono hx92.wext).mono hm96.wext).mono hW2251) (((((((((h9.mono hx27.wext).mono hx32.wext).mono hx39.wext).mono hx54.wext).mono hx68.wext).mono hx75.wext).mono hx92.wext).mono hm96.wext).mono hW2251) (((((((((h12.mono hx27.wext).mono hx32.wext).mono hx39.wext).mono hx54.wext).mono hx68.wext).mono hx75.wext).mono hx92.wext).mono hm96.wext).mono hW2251)), ⟨g2256, g2257, g2258, g2259⟩⟩
            · intro D2262 F2263 s2264 d2265 d2266 d2267 hE2268 hW2269 hG2270 hfr2271 hR2272
              have hE2273 := hE98.trans hE2268
              obtain ⟨g2274, g2275, g2276, g2277⟩ := hG2270
              have q2278 : F2263 31 = (.bool (r104 == r106)) := hR2272 12 rfl 31 rfl
              have q2279 : RpV s2264 (a0 : Val) (F2263 34) := hR2272 15 rfl 34 rfl
              obtain ⟨A2280, c2281, A2283, c2284, A2286, c2287, A2289, c2290, hv2292, h2282, h2285, h2288, h2291⟩ := Val.rpv q2279
              refine Or.inr ⟨(r104 == r106), (fun d hd => by cases hd; exact q2278), fun _ => ?_, fun h => absurd (hc108 : (r104 == r106) = true) h⟩
              refine r_call [.agg #[.int .i64 a0.Kind, .int .i64 a0.Int_, .string a0.Text, .slice A2280 a0.Kids.length c2281, .slice A2283 a0.Keys.length c2284, .slice A2286 a0.Entries.length c2287, .slice A2289 a0.Labels.length c2290]] (evs1 hv2292) rfl ((ok_value_Nodes fuel) _ _ _ _ (Val.rpvMk (v := a0) h2282 h2285 h2288 h2291) e112) ?_
              intro v2294 s2293 hx2295 hr2296
              have hE2297 := hE2273.ext hE2273.size hx2295
              obtain rfl := RpV.int hr2296
              refine wpList_nil ?_
              exact ⟨_, _, rfl, rfl, (ExtB.refl _ _).trans (hx2295.mono hE2273.size), (Wext.refl _).trans hx2295.wext, rfl, ⟨(g2274.ext hx2295), (g2275.ext hx2295), (g2276.ext hx2295), (g2277.ext hx2295)⟩⟩
            · intro D2298 F2299 s2300 d2301 d2302 d2303 hE2304 hW2305 hG2306 hfr2307 hR2308
              have hE2309 := hE98.trans hE2304
              obtain ⟨g2310, g2311, g2312, g2313⟩ := hG2306
              have q2314 : F2299 31 = (.bool (r104 == r106)) := hR2308 12 rfl 31 rfl
              have q2315 : F2299 35 = (.int .i64 r111) := hR2308 16 rfl 35 rfl
              refine Or.inr ⟨(r104 == r106), (fun d hd => by cases hd; exact q2314), fun _ => ?_, fun h => absurd (hc108 : (r104 == r106) = true) h⟩
              refine r_bin (.int .i64 1) (.int .i64 r111) (.int .i64 (w64 (1 + r111))) rfl q2315 rfl rfl (b_add) ?_
              refine wpList_nil ?_
              exact ⟨_, _, rfl, rfl, ExtB.refl _ _, Wext.refl _, rfl, ⟨g2310, g2311, g2312, g2313⟩⟩
            · intro D2316 F2317 s2318 d2319 d2320 d2321 hE2322 hW2323 hG2324 hfr2325 hR2326
              have hE2327 := hE98.trans hE2322
              obtain ⟨g2328, g2329, g2330, g2331⟩ := hG2324
              have hb2332 := g2329
              have q2333 : F2317 31 = (.bool (r104 == r106)) := hR2326 12 rfl 31 rfl
              refine Or.inr ⟨(r104 == r106), (fun d hd => by cases hd; exact q2333), fun _ => ?_, fun h => absurd (hc108 : (r104 == r106) = true) h⟩
              refine r_load b30 0 (.agg #[.int .i64 a1.Kind, .int .i64 a1.Int_, .string a1.Text, .slice A13 a1.Kids.length c14, .slice A16 a1.Keys.length c17, .slice A19 a1.Entries.length c20, .slice A22 a1.Labels.length c23]) ((hfr2325 3 rfl).trans rfl) rfl (loads_row tr27 (Blk.range hb2332 0 [.int .i64 a1.Kind, .int .i64 a1.Int_, .string a1.Text, .slice A13 a1.Kids.length c14, .slice A16 a1.Keys.length c17, .slice A19 a1.Entries.length c20, .slice A22 a1.Labels.length c23] rfl)) ?_
              refine wpList_nil ?_
              exact ⟨_, _, rfl, rfl, ExtB.refl _ _, Wext.refl _, (Val.rpvMk (v := a1) (((((((((h15.mono hx27.wext).mono hx32.wext).mono hx39.wext).mono hx54.wext).mono hx68.wext).mono hx75.wext).mono hx92.wext).mono hm96.wext).mono hW2323) (((((((((h18.mono hx27.wext).mono hx32.wext).mono hx39.wext).mono hx54.wext).mono hx68.wext).mono hx75.wext).mono hx92.wext).mono hm96.wext).mono hW2323) (((((((((h21.mono hx27.wext).mono hx32.wext).mono hx39.wext).mono hx54.wext).mono hx68.wext).mono hx75.wext).mono hx92.wext).mono hm96.wext).mono hW2323) (((((((((h24.mono hx27.wext).mono hx32.wext).mono hx39.wext).mono hx54.wext).mono hx68.wext).mono hx75.wext).mono hx92.wext).mono hm96.wext).mono hW2323)), ⟨g2328, g2329, g2330, g2331⟩⟩
            · intro D2334 F2335 s2336 d2337 d2338 d2339 hE2340 hW2341 hG2342 hfr2343 hR2344
              have hE2345 := hE98.trans hE2340
              obtain ⟨g2346, g2347, g2348, g2349⟩ := hG2342
              have q2350 : F2335 31 = (.bool (r104 == r106)) := hR2344 12 rfl 31 rfl
              have q2351 : RpV s2336 (a1 : Val) (F2335 37) := hR2344 18 rfl 37 rfl
              obtain ⟨A2352, c2353, A2355, c2356, A2358, c2359, A2361, c2362, hv2364, h2354, h2357, h2360, h2363⟩ := Val.rpv q2351
              refine Or.inr ⟨(r104 == r106), (fun d hd => by cases hd; exact q2350), fun _ => ?_, fun h => absurd (hc108 : (r104 == r106) = true) h⟩
              refine r_call [.agg #[.int .i64 a1.Kind, .int .i64 a1.Int_, .string a1.Text, .slice A2352 a1.Kids.length c2353, .slice A2355 a1.Keys.length c2356, .slice A2358 a1.Entries.length c2359, .slice A2361 a1.Labels.length c2362]] (evs1 hv2364) rfl ((ok_value_Nodes fuel) _ _ _ _ (Val.rpvMk (v := a1) h2354 h2357 h2360 h2363) e114) ?_
              intro v2366 s2365 hx2367 hr2368
              have hE2369 := hE2345.ext hE2345.size hx2367
              obtain rfl := RpV.int hr2368
              refine wpList_nil ?_
              exact ⟨_, _, rfl, rfl, (ExtB.refl _ _).trans (hx2367.mono hE2345.size), (Wext.refl _).trans hx2367.wext, rfl, ⟨(g2346.ext hx2367), (g2347.ext hx2367), (g2348.ext hx2367), (g2349.ext hx2367)⟩⟩
            · intro D2370 F2371 s2372 d2373 d2374 d2375 hE2376 hW2377 hG2378 hfr2379 hR2380
              have hE2381 := hE98.trans hE2376
              obtain ⟨g2382, g2383, g2384, g2385⟩ := hG2378
              have q2386 : F2371 31 = (.bool (r104 == r106)) := hR2380 12 rfl 31 rfl
              have q2387 : F2371 36 = (.int .i64 (w64 (1 + r111))) := hR2380 17 rfl 36 rfl
              have q2388 : F2371 38 = (.int .i64 r113) := hR2380 19 rfl 38 rfl
              refine Or.inr ⟨(r104 == r106), (fun d hd => by cases hd; exact q2386), fun _ => ?_, fun h => absurd (hc108 : (r104 == r106) = true) h⟩
              refine r_bin (.int .i64 (w64 (1 + r111))) (.int .i64 r113) (.int .i64 (w64 ((w64 (1 + r111)) + r113))) q2387 q2388 rfl rfl (b_add) ?_
              refine wpList_nil ?_
              exact ⟨_, _, rfl, rfl, ExtB.refl _ _, Wext.refl _, rfl, ⟨g2382, g2383, g2384, g2385⟩⟩
            · intro D2389 F2390 s2391 d2392 d2393 d2394 hE2395 hW2396 hG2397 hfr2398 hR2399
              have hE2400 := hE98.trans hE2395
              obtain ⟨g2401, g2402, g2403, g2404⟩ := hG2397
              have q2405 : F2390 31 = (.bool (r104 == r106)) := hR2399 12 rfl 31 rfl
              have q2406 : F2390 33 = (.int .i64 r109) := hR2399 14 rfl 33 rfl
              have q2407 : F2390 39 = (.int .i64 (w64 ((w64 (1 + r111)) + r113))) := hR2399 20 rfl 39 rfl
              refine Or.inr ⟨(r104 == r106), (fun d hd => by cases hd; exact q2405), fun _ => ?_, fun h => absurd (hc108 : (r104 == r106) = true) h⟩
              refine r_bin (.int .i64 r109) (.int .i64 (w64 ((w64 (1 + r111)) + r113))) (.bool (r109 == (w64 ((w64 (1 + r111)) + r113)))) q2406 q2407 rfl rfl (b_eql) ?_
              refine wpList_nil ?_
              exact ⟨_, _, rfl, rfl, ExtB.refl _ _, Wext.refl _, rfl, ⟨g2401, g2402, g2403, g2404⟩⟩
            · intro D2408 F2409 s2410 d2411 d2412 d2413 hE2414 hW2415 hG2416 hfr2417 hR2418
              have hE2419 := hE98.trans hE2414
              obtain ⟨g2420, g2421, g2422, g2423⟩ := hG2416
              have q2424 : F2409 31 = (.bool (r104 == r106)) := hR2418 12 rfl 31 rfl
              have q2425 : F2409 40 = (.bool (r109 == (w64 ((w64 (1 + r111)) + r113)))) := hR2418 21 rfl 40 rfl
              refine r_pick_t (c := (r104 == r106)) (.bool (r109 == (w64 ((w64 (1 + r111)) + r113)))) q2424 hc108 q2425 rfl rfl rfl ?_
              refine wpList_nil ?_
              exact ⟨_, _, rfl, rfl, ExtB.refl _ _, Wext.refl _, rfl, ⟨g2420, g2421, g2422, g2423⟩⟩
            · intro D2426 F2427 s2428 d2429 d2430 d2431 hE2432 hW2433 hG2434 hfr2435 hR2436
              have hE2437 := hE98.trans hE2432
              obtain ⟨g2438, g2439, g2440, g2441⟩ := hG2434
              have q2442 : F2427 41 = (.bool (r109 == (w64 ((w64 (1 + r111)) + r113)))) := hR2436 22 rfl 41 rfl
              refine r_move (.bool (r109 == (w64 ((w64 (1 + r111)) + r113)))) q2442 rfl ?_
              refine wpList_nil ?_
              exact ⟨_, _, rfl, rfl, ExtB.refl _ _, Wext.refl _, rfl, ⟨g2438, g2439, g2440, g2441⟩⟩
            · intro D2443 F2444 s2445 d2446 d2447 d2448 hE2449 hW2450 hG2451 hfr2452 hR2453
              obtain ⟨g2455, g2456, g2457, g2458⟩ := hG2451
              have q2459 : F2444 42 = (.bool (r109 == (w64 ((w64 (1 + r111)) + r113)))) := hR2453 23 rfl 42 rfl
              refine Or.inr ⟨(r109 == (w64 ((w64 (1 + r111)) + r113))), (fun d hd => by cases hd; exact q2459), fun h => Bool.noConfusion (Eq.trans (Eq.symm (hc115 : (r109 == (w64 ((w64 (1 + r111)) + r113))) = false)) h), fun _ => ⟨rfl, ?_⟩⟩
              exact ⟨g2455, g2456, g2457, g2458⟩
            · intro D2460 F2461 s2462 d2463 d2464 d2465 hE2466 hW2467 hG2468 hfr2469 hR2470
              obtain ⟨g2472, g2473, g2474, g2475⟩ := hG2468
              have q2476 : F2461 42 = (.bool (r109 == (w64 ((w64 (1 + r111)) + r113)))) := hR2470 23 rfl 42 rfl
              have q2477 : F2461 43 = undef := hR2470 24 rfl 43 rfl
              refine Or.inr ⟨(r109 == (w64 ((w64 (1 + r111)) + r113))), (fun d hd => by cases hd; exact q2476), fun h => Bool.noConfusion (Eq.trans (Eq.symm (hc115 : (r109 == (w64 ((w64 (1 + r111)) + r113))) = false)) h), fun _ => ⟨rfl, ?_⟩⟩
              exact ⟨g2472, g2473, g2474, g2475⟩
            · intro D2478 F2479 s2480 d2481 d2482 d2483 hE2484 hW2485 hG2486 hfr2487 hR2488
              obtain ⟨g2490, g2491, g2492, g2493⟩ := hG2486
              have q2494 : F2479 42 = (.bool (r109 == (w64 ((w64 (1 + r111)) + r113)))) := hR2488 23 rfl 42 rfl
              refine Or.inr ⟨(r109 == (w64 ((w64 (1 + r111)) + r113))), (fun d hd => by cases hd; exact q2494), fun h => Bool.noConfusion (Eq.trans (Eq.symm (hc115 : (r109 == (w64 ((w64 (1 + r111)) + r113))) = false)) h), fun _ => ⟨rfl, ?_⟩⟩
              exact ⟨g2490, g2491, g2492, g2493⟩
            · intro D2495 F2496 s2497 d2498 d2499 d2500 hE2501 hW2502 hG2503 hfr2504 hR2505
              obtain ⟨g2507, g2508, g2509, g2510⟩ := hG2503
              have q2511 : F2496 42 = (.bool (r109 == (w64 ((w64 (1 + r111)) + r113)))) := hR2505 23 rfl 42 rfl
              have q2512 : F2496 45 = undef := hR2505 26 rfl 45 rfl
              refine Or.inr ⟨(r109 == (w64 ((w64 (1 + r111)) + r113))), (fun d hd => by cases hd; exact q2511), fun h => Bool.noConfusion (Eq.trans (Eq.symm (hc115 : (r109 == (w64 ((w64 (1 + r111)) + r113))) = false)) h), fun _ => ⟨rfl, ?_⟩⟩
              exact ⟨g2507, g2508, g2509, g2510⟩
            · intro D2513 F2514 s2515 d2516 d2517 d2518 hE2519 hW2520 hG2521 hfr2522 hR2523
              obtain ⟨g2525, g2526, g2527, g2528⟩ := hG2521
              have q2529 : F2514 42 = (.bool (r109 == (w64 ((w64 (1 + r111)) + r113)))) := hR2523 23 rfl 42 rfl
              refine Or.inr ⟨(r109 == (w64 ((w64 (1 + r111)) + r113))), (fun d hd => by cases hd; exact q2529), fun h => Bool.noConfusion (Eq.trans (Eq.symm (hc115 : (r109 == (w64 ((w64 (1 + r111)) + r113))) = false)) h), fun _ => ⟨rfl, ?_⟩⟩
              exact ⟨g2525, g2526, g2527, g2528⟩
            · intro D2530 F2531 s2532 d2533 d2534 d2535 hE2536 hW2537 hG2538 hfr2539 hR2540
              obtain ⟨g2542, g2543, g2544, g2545⟩ := hG2538
              have q2546 : F2531 42 = (.bool (r109 == (w64 ((w64 (1 + r111)) + r113)))) := hR2540 23 rfl 42 rfl
              have q2547 : F2531 47 = undef := hR2540 28 rfl 47 rfl
              refine Or.inr ⟨(r109 == (w64 ((w64 (1 + r111)) + r113))), (fun d hd => by cases hd; exact q2546), fun h => Bool.noConfusion (Eq.trans (Eq.symm (hc115 : (r109 == (w64 ((w64 (1 + r111)) + r113))) = false)) h), fun _ => ⟨rfl, ?_⟩⟩
              exact ⟨g2542, g2543, g2544, g2545⟩
            · intro D2548 F2549 s2550 d2551 d2552 d2553 hE2554 hW2555 hG2556 hfr2557 hR2558
              obtain ⟨g2560, g2561, g2562, g2563⟩ := hG2556
              have q2564 : F2549 42 = (.bool (r109 == (w64 ((w64 (1 + r111)) + r113)))) := hR2558 23 rfl 42 rfl
              have q2565 : F2549 46 = undef := hR2558 27 rfl 46 rfl
              have q2566 : F2549 48 = undef := hR2558 29 rfl 48 rfl
              refine Or.inr ⟨(r109 == (w64 ((w64 (1 + r111)) + r113))), (fun d hd => by cases hd; exact q2564), fun h => Bool.noConfusion (Eq.trans (Eq.symm (hc115 : (r109 == (w64 ((w64 (1 + r111)) + r113))) = false)) h), fun _ => ⟨rfl, ?_⟩⟩
              exact ⟨g2560, g2561, g2562, g2563⟩
            · intro D2567 F2568 s2569 d2570 d2571 d2572 hE2573 hW2574 hG2575 hfr2576 hR2577
              obtain ⟨g2579, g2580, g2581, g2582⟩ := hG2575
              have q2583 : F2568 42 = (.bool (r109 == (w64 ((w64 (1 + r111)) + r113)))) := hR2577 23 rfl 42 rfl
              have q2584 : F2568 49 = undef := hR2577 30 rfl 49 rfl
              refine Or.inr ⟨(r109 == (w64 ((w64 (1 + r111)) + r113))), (fun d hd => by cases hd; exact q2583), fun h => Bool.noConfusion (Eq.trans (Eq.symm (hc115 : (r109 == (w64 ((w64 (1 + r111)) + r113))) = false)) h), fun _ => ⟨rfl, ?_⟩⟩
              exact ⟨g2579, g2580, g2581, g2582⟩
            · intro D2585 F2586 s2587 d2588 d2589 d2590 hE2591 hW2592 hG2593 hfr2594 hR2595
              obtain ⟨g2597, g2598, g2599, g2600⟩ := hG2593
              have q2601 : F2586 42 = (.bool (r109 == (w64 ((w64 (1 + r111)) + r113)))) := hR2595 23 rfl 42 rfl
              have q2602 : F2586 44 = undef := hR2595 25 rfl 44 rfl
              have q2603 : F2586 50 = undef := hR2595 31 rfl 50 rfl
              refine Or.inr ⟨(r109 == (w64 ((w64 (1 + r111)) + r113))), (fun d hd => by cases hd; exact q2601), fun h => Bool.noConfusion (Eq.trans (Eq.symm (hc115 : (r109 == (w64 ((w64 (1 + r111)) + r113))) = false)) h), fun _ => ⟨rfl, ?_⟩⟩
              exact ⟨g2597, g2598, g2599, g2600⟩
            · intro D2604 F2605 s2606 d2607 d2608 d2609 hE2610 hW2611 hG2612 hfr2613 hR2614
              have hE2615 := hE98.trans hE2610
              obtain ⟨g2616, g2617, g2618, g2619⟩ := hG2612
              have q2620 : F2605 42 = (.bool (r109 == (w64 ((w64 (1 + r111)) + r113)))) := hR2614 23 rfl 42 rfl
              have q2621 : F2605 51 = undef := hR2614 32 rfl 51 rfl
              refine r_pick_f (c := (r109 == (w64 ((w64 (1 + r111)) + r113)))) (.bool false) q2620 hc115 rfl rfl rfl rfl ?_
              refine wpList_nil ?_
              exact ⟨_, _, rfl, rfl, ExtB.refl _ _, Wext.refl _, rfl, ⟨g2616, g2617, g2618, g2619⟩⟩
            · intro D2622 F2623 s2624 d2625 d2626 d2627 hE2628 hW2629 hG2630 hfr2631 hR2632
              have hE2633 := hE98.trans hE2628
              obtain ⟨g2634, g2635, g2636, g2637⟩ := hG2630
              have q2638 : F2623 52 = (.bool false) := hR2632 33 rfl 52 rfl
              refine r_move (.bool false) q2638 rfl ?_
              refine wpList_nil ?_
              exact ⟨_, _, rfl, rfl, ExtB.refl _ _, Wext.refl _, rfl, ⟨g2634, g2635, g2636, g2637⟩⟩
            · intro D2639 F2640 s2641 d2642 d2643 d2644 hE2645 hW2646 hG2647 hfr2648 hR2649
              obtain ⟨g2651, g2652, g2653, g2654⟩ := hG2647
              have q2655 : F2640 53 = (.bool false) := hR2649 34 rfl 53 rfl
              refine Or.inr ⟨false, (fun d hd => by cases hd; exact q2655), fun h => Bool.noConfusion (Eq.trans (Eq.symm (rfl : false = false)) h), fun _ => ⟨rfl, ?_⟩⟩
              exact ⟨g2651, g2652, g2653, g2654⟩
            · intro D2656 F2657 s2658 d2659 d2660 d2661 hE2662 hW2663 hG2664 hfr2665 hR2666
              have hE2667 := hE98.trans hE2662
              obtain ⟨g2668, g2669, g2670, g2671⟩ := hG2664
              have q2672 : F2657 53 = (.bool false) := hR2666 34 rfl 53 rfl
              have q2673 : F2657 54 = undef := hR2666 35 rfl 54 rfl
              refine r_pick_f (c := false) (.bool false) q2672 rfl rfl rfl rfl rfl ?_
              refine wpList_nil ?_
              exact ⟨_, _, rfl, rfl, ExtB.refl _ _, Wext.refl _, rfl, ⟨g2668, g2669, g2670, g2671⟩⟩
            · intro D2674 F2675 s2676 d2677 d2678 d2679 hE2680 hW2681 hG2682 hfr2683 hR2684
              have hE2685 := hE98.trans hE2680
              obtain ⟨g2686, g2687, g2688, g2689⟩ := hG2682
              have q2690 : F2675 55 = (.bool false) := hR2684 36 rfl 55 rfl
              refine r_assign (.bool false) q2690 rfl ?_
              refine wpList_nil ?_
              exact ⟨_, _, rfl, rfl, ExtB.refl _ _, Wext.refl _, rfl, ⟨g2686, g2687, g2688, g2689⟩⟩
            · intro F2691 s2692 hE2693 hW2694 hG2695 hfr2696 hR2697
              have hE2698 := hE98.trans hE2693
              obtain ⟨g2699, g2700, g2701, g2702⟩ := hG2695
              have hb2703 := g2699
              have hb2704 := g2700
              have hb2705 := g2701
              have q2706 : F2691 4 = (.bool false) := hR2697 37 4 rfl
              refine p_then ?_
              refine wp_ret ?_
              obtain rfl := Option.some.inj hf
              refine ret_one (.bool false) rfl ⟨rfl, q2706⟩ hE2698 ?_
              exact (RpV.mkBool _ _)
        · refine wp_draw (B := s0.N) [some 19, some 20, some 21, some 22, some 23, some 24, some 25, some 26, some 27, some 28, some 29, some 30, some 31, some 32, some 33, some 34, some 35, some 36, some 37, some 38, some 39, some 40, some 41, some 42, some 43, some 44, some 45, some 46, some 47, some 48, some 49, some 50, some 51, some 52, some 53, some 54, some 55, some 4] [[], [0], [], [0, 1, 2], [0, 1, 2, 3], [0, 1, 2, 3, 4], [0, 1, 2, 3, 4, 5], [0, 1, 2, 3, 4, 5, 6], [0, 1, 2, 3, 4, 5], [0, 1, 2, 3, 4, 5, 6, 7, 8], [0, 1, 2, 3, 4, 5, 6, 7, 8, 9], [0, 1, 2, 3, 4, 5, 6, 7, 8, 9, 10], [0, 1, 2, 3, 4, 5, 6, 7, 8, 9, 10, 11], [0, 1, 2, 3, 4, 5, 6, 7, 8, 9, 10, 11, 12], [0, 1, 2, 3, 4, 5, 6, 7, 8, 9, 10, 11, 12, 13], [0, 1, 2, 3, 4, 5, 6, 7, 8, 9, 10, 11, 12], [0, 1, 2, 3, 4, 5, 6, 7, 8, 9, 10, 11, 12, 13, 14, 15], [0, 1, 2, 3, 4, 5, 6, 7, 8, 9, 10, 11, 12, 13, 14, 15, 16], [0, 1, 2, 3, 4, 5, 6, 7, 8, 9, 10, 11, 12], [0, 1, 2, 3, 4, 5, 6, 7, 8, 9, 10, 11, 12, 13, 14, 15, 16, 18], [0, 1, 2, 3, 4, 5, 6, 7, 8, 9, 10, 11, 12, 13, 14, 15, 16, 17, 18, 19], [0, 1, 2, 3, 4, 5, 6, 7, 8, 9, 10, 11, 12, 13, 14, 15, 16, 17, 18, 19, 20], [0, 1, 2, 3, 4, 5, 6, 7, 8, 9, 10, 11, 12, 13, 14, 15, 16, 17, 18, 19, 20, 21], [0, 1, 2, 3, 4, 5, 6, 7, 8, 9, 10, 11, 12, 13, 14, 15, 16, 17, 18, 19, 20, 21, 22], [0, 1, 2, 3, 4, 5, 6, 7, 8, 9, 10, 11, 12, 13, 14, 15, 16, 17, 18, 19, 20, 21, 22, 23], [0, 1, 2, 3, 4, 5, 6, 7, 8, 9, 10, 11, 12, 13, 14, 15, 16, 17, 18, 19, 20, 21, 22, 23, 24], [0, 1, 2, 3, 4, 5, 6, 7, 8, 9, 10, 11, 12, 13, 14, 15, 16, 17, 18, 19, 20, 21, 22, 23], [0, 1, 2, 3, 4, 5, 6, 7, 8, 9, 10, 11, 12, 13, 14, 15, 16, 17, 18, 19, 20, 21, 22, 23, 24, 25, 26], [0, 1, 2, 3, 4, 5, 6, 7, 8, 9, 10, 11, 12, 13, 14, 15, 16, 17, 18, 19, 20, 21, 22, 23], [0, 1, 2, 3, 4, 5, 6, 7, 8, 9, 10, 11, 12, 13, 14, 15, 16, 17, 18, 19, 20, 21, 22, 23, 24, 25, 26, 27, 28], [0, 1, 2, 3, 4, 5, 6, 7, 8, 9, 10, 11, 12, 13, 14, 15, 16, 17, 18, 19, 20, 21, 22, 23, 24, 25, 26, 27, 28, 29], [0, 1, 2, 3, 4, 5, 6, 7, 8, 9, 10, 11, 12, 13, 14, 15, 16, 17, 18, 19, 20, 21, 22, 23, 24, 25, 26, 27, 28, 29, 30], [0, 1, 2, 3, 4, 5, 6, 7, 8, 9, 10, 11, 12, 13, 14, 15, 16, 17, 18, 19, 20, 21, 22, 23, 24, 25, 26, 27, 28, 29, 30, 31], [0, 1, 2, 3, 4, 5, 6, 7, 8, 9, 10, 11, 12, 13, 14, 15, 16, 17, 18, 19, 20, 21, 22, 23, 24, 25, 26, 27, 28, 29, 30, 31, 32], [0, 1, 2, 3, 4, 5, 6, 7, 8, 9, 10, 11, 12, 13, 14, 15, 16, 17, 18, 19, 20, 21, 22, 23, 24, 25, 26, 27, 28, 29, 30, 31, 32, 33], [0, 1, 2, 3, 4, 5, 6, 7, 8, 9, 10, 11, 12, 13, 14, 15, 16, 17, 18, 19, 20, 21, 22, 23, 24, 25, 26, 27, 28, 29, 30, 31, 32, 33, 34], [0, 1, 2, 3, 4, 5, 6, 7, 8, 9, 10, 11, 12, 13, 14, 15, 16, 17, 18, 19, 20, 21, 22, 23, 24, 25, 26, 27, 28, 29, 30, 31, 32, 33, 34, 35], [0, 1, 2, 3, 4, 5, 6, 7, 8, 9, 10, 11, 12, 13, 14, 15, 16, 17, 18, 19, 20, 21, 22, 23, 24, 25, 26, 27, 28, 29, 30, 31, 32, 33, 34, 35, 36]] [Fct.data (a0 : Val), Fct.eqv (.int .i64 r99), Fct.data (a0 : Val), Fct.eqv (.int .i64 r101), Fct.eqv (.bool (r99 == r101)), Fct.eqv (.bool (r99 == r101)), Fct.data (a0 : Val), Fct.eqv (.int .i64 r104), Fct.data (a0 : Val), Fct.eqv (.int .i64 r106), Fct.eqv (.bool (r104 == r106)), Fct.eqv (.bool (r104 == r106)), Fct.eqv (.bool (r104 == r106)), Fct.eqv undef, Fct.eqv undef, Fct.eqv undef, Fct.eqv undef, Fct.eqv undef, Fct.eqv undef, Fct.eqv undef, Fct.eqv undef, Fct.eqv undef, Fct.eqv (.bool false), Fct.eqv (.bool false), Fct.eqv undef, Fct.eqv undef, Fct.eqv undef, Fct.eqv undef, Fct.eqv undef, Fct.eqv undef, Fct.eqv undef, Fct.eqv undef, Fct.eqv undef, Fct.eqv (.bool false), Fct.eqv (.bool false), Fct.eqv undef, Fct.eqv (.bool false), Fct.eqv (.bool false)] (fun D F τ => (Blk s0.N 1 τ b25 27 [.int .i64 a0.Kind, .int .i64 a0.Int_, .string a0.Text, .slice A1 a0.Kids.length c2, .slice A4 a0.Keys.length c5, .slice A7 a0.Entries.length c8, .slice A10 a0.Labels.length c11]) ∧ (Blk s0.N 2 τ b30 27 [.int .i64 a1.Kind, .int .i64 a1.Int_, .string a1.Text, .slice A13 a1.Kids.length c14, .slice A16 a1.Keys.length c17, .slice A19 a1.Entries.length c20, .slice A22 a1.Labels.length c23]) ∧ (Blk s0.N 4 τ b90 27 [.int .i64 r71.Kind, .int .i64 r71.Int_, .string r71.Text, .slice A78 r71.Kids.length c79, .slice A81 r71.Keys.length c82, .slice A84 r71.Entries.length c85, .slice A87 r71.Labels.length c88]) ∧ (Own s0.N 3 27 τ [a0, a1] A66 c67)) (by kernel_rfl) rfl (by decide) (by decide) ⟨((((((((hb28.ext hx32).ext hx39).ext hx54).ext hx68).ext hx75).ext hx92).mod hm96 rfl).ext (ext_draw _)), (((((((hb33.ext hx39).ext hx54).ext hx68).ext hx75).ext hx92).mod hm96 rfl).ext (ext_draw _)), (hb97.ext (ext_draw _)), ((((ho69.ext hx75).ext hx92).mod hm96 rfl).ext (ext_draw _))⟩ (by decide) (by decide) ⟨?_, ?_, ?_, ?_, ?_, ?_, ?_, ?_, ?_, ?_, ?_, ?_, ?_, ?_, ?_, ?_, ?_, ?_, ?_, ?_, ?_, ?_, ?_, ?_, ?_, ?_, ?_, ?_, ?_, ?_, ?_, ?_, ?_, ?_, ?_, ?_, ?_, ?_, trivial⟩ ?_
          · intro D2710 F2711 s2712 d2713 d2714 d2715 hE2716 hW2717 hG2718 hfr2719 hR2720
            have hE2721 := hE98.trans hE2716
            obtain ⟨g2722, g2723, g2724, g2725⟩ := hG2718
            have hb2726 := g2722
            refine r_load b25 0 (.agg #[.int .i64 a0.Kind, .int .i64 a0.Int_, .string a0.Text, .slice A1 a0.Kids.length c2, .slice A4 a0.Keys.length c5, .slice A7 a0.Entries.length c8, .slice A10 a0.Labels.length c11]) ((hfr2719 2 rfl).trans rfl) rfl (loads_row tr27 (Blk.range hb2726 0 [.int .i64 a0.Kind, .int .i64 a0.Int_, .string a0.Text, .slice A1 a0.Kids.length c2, .slice A4 a0.Keys.length c5, .slice A7 a0.Entries.length c8, .slice A10 a0.Labels.length c11] rfl)) ?_
            refine wpList_nil ?_
            exact ⟨_, _, rfl, rfl, ExtB.refl _ _, Wext.refl _, (Val.rpvMk (v := a0) (((((((((h3.mono hx27.wext).mono hx32.wext).mono hx39.wext).mono hx54.wext).mono hx68.wext).mono hx75.wext).mono hx92.wext).mono hm96.wext).mono hW2717) (((((((((h6.mono hx27.wext).mono hx32.wext).mono hx39.wext).mono hx54.wext).mono hx68.wext).mono hx75.wext).mono hx92.wext).mono hm96.wext).mono hW2717) (((((((((h9.mono hx27.wext).mono hx32.wext).mono hx39.wext).mono hx54.wext).mono hx68.wext).mono hx75.wext).mono hx92.wext).mono hm96.wext).mono hW2717) (((((((((h12.mono hx27.wext).mono hx32.wext).mono hx39.wext).mono hx54.wext).mono hx68.wext).mono hx75.wext).mono hx92.wext).mono hm96.wext).mono hW2717)), ⟨g2722, g2723, g2724, g2725⟩⟩
          · intro D2727 F2728 s2729 d2730 d2731 d2732 hE2733 hW2734 hG2735 hfr2736 hR2737
            have hE2738 := hE98.trans hE2733
            obtain ⟨g2739, g2740, g2741, g2742⟩ := hG2735
            have q2743 : RpV s2729 (a0 : Val) (F2728 19) := hR2737 0 rfl 19 rfl
            obtain ⟨A2744, c2745, A2747, c2748, A2750, c2751, A2753, c2754, hv2756, h2746, h2749, h2752, h2755⟩ := Val.rpv q2743
            refine r_call [.agg #[.int .i64 a0.Kind, .int .i64 a0.Int_, .string a0.Text, .slice A2744 a0.Kids.length c2745, .slice A2747 a0.Keys.length c2748, .slice A2750 a0.Entries.length c2751, .slice A2753 a0.Labels.length c2754]] (evs1 hv2756) rfl ((ok_value_Nodes fuel) _ _ _ _ (Val.rpvMk (v := a0) h2746 h2749 h2752 h2755) e100) ?_
            intro v2758 s2757 hx2759 hr2760
            have hE2761 := hE2738.ext hE2738.size hx2759
            obtain rfl := RpV.int hr2760
            refine wpList_nil ?_
            exact ⟨_, _, rfl, rfl, (ExtB.refl _ _).trans (hx2759.mono hE2738.size), (Wext.refl _).trans hx2759.wext, rfl, ⟨(g2739.ext hx2759), (g2740.ext hx2759), (g2741.ext hx2759), (g2742.ext hx2759)⟩⟩
          · intro D2762 F2763 s2764 d2765 d2766 d2767 hE2768 hW2769 hG2770 hfr2771 hR2772
            have hE2773 := hE98.trans hE2768
            obtain ⟨g2774, g2775, g2776, g2777⟩ := hG2770
            have hb2778 := g2774
            refine r_load b25 0 (.agg #[.int .i64 a0.Kind, .int .i64 a0.Int_, .string a0.Text, .slice A1 a0.Kids.length c2, .slice A4 a0.Keys.length c5, .slice A7 a0.Entries.length c8, .slice A10 a0.Labels.length c11]) ((hfr2771 2 rfl).trans rfl) rfl (loads_row tr27 (Blk.range hb2778 0 [.int .i64 a0.Kind, .int .i64 a0.Int_, .string a0.Text, .slice A1 a0.Kids.length c2, .slice A4 a0.Keys.length c5, .slice A7 a0.Entries.length c8, .slice A10 a0.Labels.length c11] rfl)) ?_
            refine wpList_nil ?_
            exact ⟨_, _, rfl, rfl, ExtB.refl _ _, Wext.refl _, (Val.rpvMk (v := a0) (((((((((h3.mono hx27.wext).mono hx32.wext).mono hx39.wext).mono hx54.wext).mono hx68.wext).mono hx75.wext).mono hx92.wext).mono hm96.wext).mono hW2769) (((((((((h6.mono hx27.wext).mono hx32.wext).mono hx39.wext).mono hx54.wext).mono hx68.wext).mono hx75.wext).mono hx92.wext).mono hm96.wext).mono hW2769) (((((((((h9.mono hx27.wext).mono hx32.wext).mono hx39.wext).mono hx54.wext).mono hx68.wext).mono hx75.wext).mono hx92.wext).mono hm96.wext).mono hW2769) (((((((((h12.mono hx27.wext).mono hx32.wext).mono hx39.wext).mono hx54.wext).mono hx68.wext).mono hx75.wext).mono hx92.wext).mono hm96.wext).mono hW2769)), ⟨g2774, g2775, g2776, g2777⟩⟩
          · intro D2779 F2780 s2781 d2782 d2783 d2784 hE2785 hW2786 hG2787 hfr2788 hR2789
            have hE2790 := hE98.trans hE2785
            obtain ⟨g2791, g2792, g2793, g2794⟩ := hG2787
            have q2795 : RpV s2781 (a0 : Val) (F2780 21) := hR2789 2 rfl 21 rfl
            obtain ⟨A2796, c2797, A2799, c2800, A2802, c2803, A2805, c2806, hv2808, h2798, h2801, h2804, h2807⟩ := Val.rpv q2795
            refine r_call [.agg #[.int .i64 a0.Kind, .int .i64 a0.Int_, .string a0.Text, .slice A2796 a0.Kids.length c2797, .slice A2799 a0.Keys.length c2800, .slice A2802 a0.Entries.length c2803, .slice A2805 a0.Labels.length c2806]] (evs1 hv2808) rfl ((ok_semtyperef1_Nodes fuel) _ _ _ _ (Val.rpvMk (v := a0) h2798 h2801 h2804 h2807) e102) ?_
            intro v2810 s2809 hx2811 hr2812
            have hE2813 := hE2790.ext hE2790.size hx2811
            obtain rfl := RpV.int hr2812
            refine wpList_nil ?_
            exact ⟨_, _, rfl, rfl, (ExtB.refl _ _).trans (hx2811.mono hE2790.size), (Wext.refl _).trans hx2811.wext, rfl, ⟨(g2791.ext hx2811), (g2792.ext hx2811), (g2793.ext hx2811), (g2794.ext hx2811)⟩⟩
          · intro D2814 F2815 s2816 d2817 d2818 d2819 hE2820 hW2821 hG2822 hfr2823 hR2824
            have hE2825 := hE98.trans hE2820
            obtain ⟨g2826, g2827, g2828, g2829⟩ := hG2822
            have q2830 : F2815 20 = (.int .i64 r99) := hR2824 1 rfl 20 rfl
            have q2831 : F2815 22 = (.int .i64 r101) := hR2824 3 rfl 22 rfl
            refine r_bin (.int .i64 r99) (.int .i64 r101) (.bool (r99 == r101)) q2830 q2831 rfl rfl (b_eql) ?_
            refine wpList_nil ?_
            exact ⟨_, _, rfl, rfl, ExtB.refl _ _, Wext.refl _, rfl, ⟨g2826, g2827, g2828, g2829⟩⟩
          · intro D2832 F2833 s2834 d2835 d2836 d2837 hE2838 hW2839 hG2840 hfr2841 hR2842
            have hE2843 := hE98.trans hE2838
            obtain ⟨g2844, g2845, g2846, g2847⟩ := hG2840
            have q2848 : F2833 23 = (.bool (r99 == r101)) := hR2842 4 rfl 23 rfl
            refine r_move (.bool (r99 == r101)) q2848 rfl ?_
            refine wpList_nil ?_
            exact ⟨_, _, rfl, rfl, ExtB.refl _ _, Wext.refl _, rfl, ⟨g2844, g2845, g2846, g2847⟩⟩
          · intro D2849 F2850 s2851 d2852 d2853 d2854 hE2855 hW2856 hG2857 hfr2858 hR2859
            have hE2860 := hE98.trans hE2855
            obtain ⟨g2861, g2862, g2863, g2864⟩ := hG2857
            have hb2865 := g2861
            have q2866 : F2850 24 = (.bool (r99 == r101)) := hR2859 5 rfl 24 rfl
            refine Or.inr ⟨(r99 == r101), (fun d hd => by cases hd; exact q2866), fun _ => ?_, fun h => absurd (hc103 : (r99 == r101) = true) h⟩
            refine r_load b25 0 (.agg #[.int .i64 a0.Kind, .int .i64 a0.Int_, .string a0.Text, .slice A1 a0.Kids.length c2, .slice A4 a0.Keys.length c5, .slice A7 a0.Entries.length c8, .slice A10 a0.Labels.length c11]) ((hfr2858 2 rfl).trans rfl) rfl (loads_row tr27 (Blk.range hb2865 0 [.int .i64 a0.Kind, .int .i64 a0.Int_, .string a0.Text, .slice A1 a0.Kids.length c2, .slice A4 a0.Keys.length c5, .slice A7 a0.Entries.length c8, .slice A10 a0.Labels.length c11] rfl)) ?_
            refine wpList_nil ?_
            exact ⟨_, _, rfl, rfl, ExtB.refl _ _, Wext.refl _, (Val.rpvMk (v := a0) (((((((((h3.mono hx27.wext).mono hx32.wext).mono hx39.wext).mono hx54.wext).mono hx68.wext).mono hx75.wext).mono hx92.wext).mono hm96.wext).mono hW2856) (((((((((h6.mono hx27.wext).mono hx32.wext).mono hx39.wext).mono hx54.wext).mono hx68.wext).mono hx75.wext).mono hx92.wext).mono hm96.wext).mono hW2856) (((((((((h9.mono hx27.wext).mono hx32.wext).mono hx39.wext).mono hx54.wext).mono hx68.wext).mono hx75.wext).mono hx92.wext).mono hm96.wext).mono hW2856) (((((((((h12.mono hx27.wext).mono hx32.wext).mono hx39.wext).mono hx54.wext).mono hx68.wext).mono hx75.wext).mono hx92.wext).mono hm96.wext).mono hW2856)), ⟨g2861, g2862, g2863, g2864⟩⟩
          · intro D2867 F2868 s2869 d2870 d2871 d2872 hE2873 hW2874 hG2875 hfr2876 hR2877
            have hE2878 := hE98.trans hE2873
            obtain ⟨g2879, g2880, g2881, g2882⟩ := hG2875
            have q2883 : F2868 24 = (.bool (r99 == r101)) := hR2877 5 rfl 24 rfl
            have q2884 : RpV s2869 (a0 : Val) (F2868 25) := hR2877 6 rfl 25 rfl
            obtain ⟨A2885, c2886, A2888, c2889, A2891, c2892, A2894, c2895, hv2897, h2887, h2890, h2893, h2896⟩ := Val.rpv q2884
            refine Or.inr ⟨(r99 == r101), (fun d hd => by cases hd; exact q2883), fun _ => ?_, fun h => absurd (hc103 : (r99 == r101) = true) h⟩
            refine r_call [.agg #[.int .i64 a0.Kind, .int .i64 a0.Int_, .string a0.Text, .slice A2885 a0.Kids.length c2886, .slice A2888 a0.Keys.length c2889, .slice A2891 a0.Entries.length c2892, .slice A2894 a0.Labels.length c2895]] (evs1 hv2897) rfl ((ok_value_Height fuel) _ _ _ _ (Val.rpvMk (v := a0) h2887 h2890 h2893 h2896) e105) ?_
            intro v2899 s2898 hx2900 hr2901
            have hE2902 := hE2878.ext hE2878.size hx2900
            obtain rfl := RpV.int hr2901
            refine wpList_nil ?_
            exact ⟨_, _, rfl, rfl, (ExtB.refl _ _).trans (hx2900.mono hE2878.size), (Wext.refl _).trans hx2900.wext, rfl, ⟨(g2879.ext hx2900), (g2880.ext hx2900), (g2881.ext hx2900), (g2882.ext hx2900)⟩⟩
          · intro D2903 F2904 s2905 d2906 d2907 d2908 hE2909 hW2910 hG2911 hfr2912 hR2913
            have hE2914 := hE98.trans hE2909
            obtain ⟨g2915, g2916, g2917, g2918⟩ := hG2911
            have hb2919 := g2915
            have q2920 : F2904 24 = (.bool (r99 == r101)) := hR2913 5 rfl 24 rfl
            refine Or.inr ⟨(r99 == r101), (fun d hd => by cases hd; exact q2920), fun _ => ?_, fun h => absurd (hc103 : (r99 == r101) = true) h⟩
            refine r_load b25 0 (.agg #[.int .i64 a0.Kind, .int .i64 a0.Int_, .string a0.Text, .slice A1 a0.Kids.length c2, .slice A4 a0.Keys.length c5, .slice A7 a0.Entries.length c8, .slice A10 a0.Labels.length c11]) ((hfr2912 2 rfl).trans rfl) rfl (loads_row tr27 (Blk.range hb2919 0 [.int .i64 a0.Kind, .int .i64 a0.Int_, .string a0.Text, .slice A1 a0.Kids.length c2, .slice A4 a0.Keys.length c5, .slice A7 a0.Entries.length c8, .slice A10 a0.Labels.length c11] rfl)) ?_
            refine wpList_nil ?_
            exact ⟨_, _, rfl, rfl, ExtB.refl _ _, Wext.refl _, (Val.rpvMk (v := a0) (((((((((h3.mono hx27.wext).mono hx32.wext).mono hx39.wext).mono hx54.wext).mono hx68.wext).mono hx75.wext).mono hx92.wext).mono hm96.wext).mono hW2910) (((((((((h6.mono hx27.wext).mono hx32.wext).mono hx39.wext).mono hx54.wext).mono hx68.wext).mono hx75.wext).mono hx92.wext).mono hm96.wext).mono hW2910) (((((((((h9.mono hx27.wext).mono hx32.wext).mono hx39.wext).mono hx54.wext).mono hx68.wext).mono hx75.wext).mono hx92.wext).mono hm96.wext).mono hW2910) (((((((((h12.mono hx27.wext).mono hx32.wext).mono hx39.wext).mono hx54.wext).mono hx68.wext).mono hx75.wext).mono hx92.wext).mono hm96.wext).mono hW2910)), ⟨g2915, g2916, g2917, g2918⟩⟩
          · intro D2921 F2922 s2923 d2924 d2925 d2926 hE2927 hW2928 hG2929 hfr2930 hR2931
            have hE2932 := hE98.trans hE2927
            obtain ⟨g2933, g2934, g2935, g2936⟩ := hG2929
            have q2937 : F2922 24 = (.bool (r99 == r101)) := hR2931 5 rfl 24 rfl
            have q2938 : RpV s2923 (a0 : Val) (F2922 27) := hR2931 8 rfl 27 rfl
            obtain ⟨A2939, c2940, A2942, c2943, A2945, c2946, A2948, c2949, hv2951, h2941, h2944, h2947, h2950⟩ := Val.rpv q2938
            refine Or.inr ⟨(r99 == r101), (fun d hd => by cases hd; exact q2937), fun _ => ?_, fun h => absurd (hc103 : (r99 == r101) = true) h⟩
            refine r_call [.agg #[.int .i64 a0.Kind, .int .i64 a0.Int_, .string a0.Text, .slice A2939 a0.Kids.length c2940, .slice A2942 a0.Keys.length c2943, .slice A2945 a0.Entries.length c2946, .slice A2948 a0.Labels.length c2949]] (evs1 hv2951) rfl ((ok_semtyperef1_Height fuel) _ _ _ _ (Val.rpvMk (v := a0) h2941 h2944 h2947 h2950) e107) ?_
            intro v2953 s2952 hx2954 hr2955
            have hE2956 := hE2932.ext hE2932.size hx2954
            obtain rfl := RpV.int hr2955
            refine wpList_nil ?_
            exact ⟨_, _, rfl, rfl, (ExtB.refl _ _).trans (hx2954.mono hE2932.size), (Wext.refl _).trans hx2954.wext, rfl, ⟨(g2933.ext hx2954), (g2934.ext hx2954), (g2935.ext hx2954), (g2936.ext hx2954)⟩⟩
          · intro D2957 F2958 s2959 d2960 d2961 d2962 hE2963 hW2964 hG2965 hfr2966 hR2967
            have hE2968 := hE98.trans hE2963
            obtain ⟨g2969, g2970, g2971, g2972⟩ := hG2965
            have q2973 : F2958 24 = (.bool (r99 == r101)) := hR2967 5 rfl 24 rfl
            have q2974 : F2958 26 = (.int .i64 r104) := hR2967 7 rfl 26 rfl
            have q2975 : F2958 28 = (.int .i64 r106) := hR2967 9 rfl 28 rfl
            refine Or.inr ⟨(r99 == r101), (fun d hd => by cases hd; exact q2973), fun _ => ?_, fun h => absurd (hc103 : (r99 == r101) = true) h⟩
            refine r_bin (.int .i64 r104) (.int .i64 r106) (.bool (r104 == r106)) q2974 q2975 rfl rfl (b_eql) ?_
            refine wpList_nil ?_
            exact ⟨_, _, rfl, rfl, ExtB.refl _ _, Wext.refl _, rfl, ⟨g2969, g2970, g2971, g2972⟩⟩
          · intro D2976 F2977 s2978 d2979 d2980 d2981 hE2982 hW2983 hG2984 hfr2985 hR2986
            have hE2987 := hE98.trans hE2982
            obtain ⟨g2988, g2989, g2990, g2991⟩ := hG2984
            have q2992 : F2977 24 = (.bool (r99 == r101)) := hR2986 5 rfl 24 rfl
            have q2993 : F2977 29 = (.bool (r104 == r106)) := hR2986 10 rfl 29 rfl
            refine r_pick_t (c := (r99 == r101)) (.bool (r104 == r106)) q2992 hc103 q2993 rfl rfl rfl ?_
            refine wpList_nil ?_
            exact ⟨_, _, rfl, rfl, ExtB.refl _ _, Wext.refl _, rfl, ⟨g2988, g2989, g2990, g2991⟩⟩
          · intro D2994 F2995 s2996 d2997 d2998 d2999 hE3000 hW3001 hG3002 hfr3003 hR3004
            have hE3005 := hE98.trans hE3000
            obtain ⟨g3006, g3007, g3008, g3009⟩ := hG3002
            have q3010 : F2995 30 = (.bool (r104 == r106)) := hR3004 11 rfl 30 rfl
            refine r_move (.bool (r104 == r106)) q3010 rfl ?_
            refine wpList_nil ?_
            exact ⟨_, _, rfl, rfl, ExtB.refl _ _, Wext.refl _, rfl, ⟨g3006, g3007, g3008, g3009⟩⟩
          · intro D3011 F3012 s3013 d3014 d3015 d3016 hE3017 hW3018 hG3019 hfr3020 hR3021
            obtain ⟨g3023, g3024, g3025, g3026⟩ := hG3019
            have q3027 : F3012 31 = (.bool (r104 == r106)) := hR3021 12 rfl 31 rfl
            refine Or.inr ⟨(r104 == r106), (fun d hd => by cases hd; exact q3027), fun h => Bool.noConfusion (Eq.trans (Eq.symm (hc108 : (r104 == r106) = false)) h), fun _ => ⟨rfl, ?_⟩⟩
            exact ⟨g3023, g3024, g3025, g3026⟩
          · intro D3028 F3029 s3030 d3031 d3032 d3033 hE3034 hW3035 hG3036 hfr3037 hR3038
            obtain ⟨g3040, g3041, g3042, g3043⟩ := hG3036
            have q3044 : F3029 31 = (.bool (r104 == r106)) := hR3038 12 rfl 31 rfl
            have q3045 : F3029 32 = undef := hR3038 13 rfl 32 rfl
            refine Or.inr ⟨(r104 == r106), (fun d hd => by cases hd; exact q3044), fun h => Bool.noConfusion (Eq.trans (Eq.symm (hc108 : (r104 == r106) = false)) h), fun _ => ⟨rfl, ?_⟩⟩
            exact ⟨g3040, g3041, g3042, g3043⟩
          · intro D3046 F3047 s3048 d3049 d3050 d3051 hE3052 hW3053 hG3054 hfr3055 hR3056
            obtain ⟨g3058, g3059, g3060, g3061⟩ := hG3054
            have q3062 : F3047 31 = (.bool (r104 == r106)) := hR3056 12 rfl 31 rfl
            refine Or.inr ⟨(r104 == r106), (fun d hd => by cases hd; exact q3062), fun h => Bool.noConfusion (Eq.trans (Eq.symm (hc108 : (r104 == r106) = false)) h), fun _ => ⟨rfl, ?_⟩⟩
            exact ⟨g3058, g3059, g3060, g3061⟩
          · intro D3063 F3064 s3065 d3066 d3067 d3068 hE3069 hW3070 hG3071 hfr3072 hR3073
            obtain ⟨g3075, g3076, g3077, g3078⟩ := hG3071
            have q3079 : F3064 31 = (.bool (r104 == r106)) := hR3073 12 rfl 31 rfl
            have q3080 : F3064 34 = undef := hR3073 15 rfl 34 rfl
            refine Or.inr ⟨(r104 == r106), (fun d hd => by cases hd; exact q3079), fun h => Bool.noConfusion (Eq.trans (Eq.symm (hc108 : (r104 == r106) = false)) h), fun _ => ⟨rfl, ?_⟩⟩
            exact ⟨g3075, g3076, g3077, g3078⟩
          · intro D3081 F3082 s3083 d3084 d3085 d3086 hE3087 hW3088 hG3089 hfr3090 hR3091
            obtain ⟨g3093, g3094, g3095, g3096⟩ := hG3089
            have q3097 : F3082 31 = (.bool (r104 == r106)) := hR3091 12 rfl 31 rfl
            have q3098 : F3082 35 = undef := hR3091 16 rfl 35 rfl
            refine Or.inr ⟨(r104 == r106), (fun d hd => by cases hd; exact q3097), fun h => Bool.noConfusion (Eq.trans (Eq.symm (hc108 : (r104 == r106) = false)) h), fun _ => ⟨rfl, ?_⟩⟩
            exact ⟨g3093, g3094, g3095, g3096⟩
          · intro D3099 F3100 s3101 d3102 d3103 d3104 hE3105 hW3106 hG3107 hfr3108 hR3109
            obtain ⟨g3111, g3112, g3113, g3114⟩ := hG3107
            have q3115 : F3100 31 = (.bool (r104 == r106)) := hR3109 12 rfl 31 rfl
            refine Or.inr ⟨(r104 == r106), (fun d hd => by cases hd; exact q3115), fun h => Bool.noConfusion (Eq.trans (Eq.symm (hc108 : (r104 == r106) = false)) h), fun _ => ⟨rfl, ?_⟩⟩
            exact ⟨g3111, g3112, g3113, g3114⟩
          · intro D3116 F3117 s3118 d3119 d3120 d3121 hE3122 hW3123 hG3124 hfr3125 hR3126
            obtain ⟨g3128, g3129, g3130, g3131⟩ := hG3124
            have q3132 : F3117 31 = (.bool (r104 == r106)) := hR3126 12 rfl 31 rfl
            have q3133 : F3117 37 = undef := hR3126 18 rfl 37 rfl
            refine Or.inr ⟨(r104 == r106), (fun d hd => by cases hd; exact q3132), fun h => Bool.noConfusion (Eq.trans (Eq.symm (hc108 : (r104 == r106) = false)) h), fun _ => ⟨rfl, ?_⟩⟩
            exact ⟨g3128, g3129, g3130, g3131⟩
          · intro D3134 F3135 s3136 d3137 d3138 d3139 hE3140 hW3141 hG3142 hfr3143 hR3144
            obtain ⟨g3146, g3147, g3148, g3149⟩ := hG3142
            have q3150 : F3135 31 = (.bool (r104 == r106)) := hR3144 12 rfl 31 rfl
            have q3151 : F3135 36 = undef := hR3144 17 rfl 36 rfl
            have q3152 : F3135 38 = undef := hR3144 19 rfl 38 rfl
            refine Or.inr ⟨(r104 == r106), (fun d hd => by cases hd; exact q3150), fun h => Bool.noConfusion (Eq.trans (Eq.symm (hc108 : (r104 == r106) = false)) h), fun _ => ⟨rfl, ?_⟩⟩
            exact ⟨g3146, g3147, g3148, g3149⟩
          · intro D3153 F3154 s3155 d3156 d3157 d3158 hE3159 hW3160 hG3161 hfr3162 hR3163
            obtain ⟨g3165, g3166, g3167, g3168⟩ := hG3161
            have q3169 : F3154 31 = (.bool (r104 == r106)) := hR3163 12 rfl 31 rfl
            have q3170 : F3154 33 = undef := hR3163 14 rfl 33 rfl
            have q3171 : F3154 39 = undef := hR3163 20 rfl 39 rfl
            refine Or.inr ⟨(r104 == r106), (fun d hd => by cases hd; exact q3169), fun h => Bool.noConfusion (Eq.trans (Eq.symm (hc108 : (r104 == r106) = false)) h), fun _ => ⟨rfl, ?_⟩⟩
            exact ⟨g3165, g3166, g3167, g3168⟩
          · intro D3172 F3173 s3174 d3175 d3176 d3177 hE3178 hW3179 hG3180 hfr3181 hR3182
            have hE3183 := hE98.trans hE3178
            obtain ⟨g3184, g3185, g3186, g3187⟩ := hG3180
            have q3188 : F3173 31 = (.bool (r104 == r106)) := hR3182 12 rfl 31 rfl
            have q3189 : F3173 40 = undef := hR3182 21 rfl 40 rfl
            refine r_pick_f (c := (r104 == r106)) (.bool false) q3188 hc108 rfl rfl rfl rfl ?_
            refine wpList_nil ?_
            exact ⟨_, _, rfl, rfl, ExtB.refl _ _, Wext.refl _, rfl, ⟨g3184, g3185, g3186, g3187⟩⟩
          · intro D3190 F3191 s3192 d3193 d3194 d3195 hE3196 hW3197 hG3198 hfr3199 hR3200
            have hE3201 := hE98.trans hE3196
            obtain ⟨g3202, g3203, g3204, g3205⟩ := hG3198
            have q3206 : F3191 41 = (.bool false) := hR3200 22 rfl 41 rfl
            refine r_move (.bool false) q3206 rfl ?_
            refine wpList_nil ?_
            exact ⟨_, _, rfl, rfl, ExtB.refl _ _, Wext.refl _, rfl, ⟨g3202, g3203, g3204, g3205⟩⟩
          · intro D3207 F3208 s3209 d3210 d3211 d3212 hE3213 hW3214 hG3215 hfr3216 hR3217
            obtain ⟨g3219, g3220, g3221, g3222⟩ := hG3215
            have q3223 : F3208 42 = (.bool false) := hR3217 23 rfl 42 rfl
            refine Or.inr ⟨false, (fun d hd => by cases hd; exact q3223), fun h => Bool.noConfusion (Eq.trans (Eq.symm (rfl : false = false)) h), fun _ => ⟨rfl, ?_⟩⟩
            exact ⟨g3219, g3220, g3221, g3222⟩
          · intro D3224 F3225 s3226 d3227 d3228 d3229 hE3230 hW3231 hG3232 hfr3233 hR3234
            obtain ⟨g3236, g3237, g3238, g3239⟩ := hG3232
            have q3240 : F3225 42 = (.bool false) := hR3234 23 rfl 42 rfl
            have q3241 : F3225 43 = undef := hR3234 24 rfl 43 rfl
            refine Or.inr ⟨false, (fun d hd => by cases hd; exact q3240), fun h => Bool.noConfusion (Eq.trans (Eq.symm (rfl : false = false)) h), fun _ => ⟨rfl, ?_⟩⟩
            exact ⟨g3236, g3237, g3238, g3239⟩
          · intro D3242 F3243 s3244 d3245 d3246 d3247 hE3248 hW3249 hG3250 hfr3251 hR3252
            obtain ⟨g3254, g3255, g3256, g3257⟩ := hG3250
            have q3258 : F3243 42 = (.bool false) := hR3252 23 rfl 42 rfl
            refine Or.inr ⟨false, (fun d hd => by cases hd; exact q3258), fun h => Bool.noConfusion (Eq.trans (Eq.symm (rfl : false = false)) h), fun _ => ⟨rfl, ?_⟩⟩
            exact ⟨g3254, g3255, g3256, g3257⟩
          · intro D3259 F3260 s3261 d3262 d3263 d3264 hE3265 hW3266 hG3267 hfr3268 hR3269
            obtain ⟨g3271, g3272, g3273, g3274⟩ := hG3267
            have q3275 : F3260 42 = (.bool false) := hR3269 23 rfl 42 rfl
            have q3276 : F3260 45 = undef := hR3269 26 rfl 45 rfl
            refine Or.inr ⟨false, (fun d hd => by cases hd; exact q3275), fun h => Bool.noConfusion (Eq.trans (Eq.symm (rfl : false = false)) h), fun _ => ⟨rfl, ?_⟩⟩
            exact ⟨g3271, g3272, g3273, g3274⟩
          · intro D3277 F3278 s3279 d3280 d3281 d3282 hE3283 hW3284 hG3285 hfr3286 hR3287
            obtain ⟨g3289, g3290, g3291, g3292⟩ := hG3285
            have q3293 : F3278 42 = (.bool false) := hR3287 23 rfl 42 rfl
            refine Or.inr ⟨false, (fun d hd => by cases hd; exact q3293), fun h => Bool.noConfusion (Eq.trans (Eq.symm (rfl : false = false)) h), fun _ => ⟨rfl, ?_⟩⟩
            exact ⟨g3289, g3290, g3291, g3292⟩
          · intro D3294 F3295 s3296 d3297 d3298 d3299 hE3300 hW3301 hG3302 hfr3303 hR3304
            obtain ⟨g3306, g3307, g3308, g3309⟩ := hG3302
            have q3310 : F3295 42 = (.bool false) := hR3304 23 rfl 42 rfl
            have q3311 : F3295 47 = undef := hR3304 28 rfl 47 rfl
            refine Or.inr ⟨false, (fun d hd => by cases hd; exact q3310), fun h => Bool.noConfusion (Eq.trans (Eq.symm (rfl : false = false)) h), fun _ => ⟨rfl, ?_⟩⟩
            exact ⟨g3306, g3307, g3308, g3309⟩
          · intro D3312 F3313 s3314 d3315 d3316 d3317 hE3318 hW3319 hG3320 hfr3321 hR3322
            obtain ⟨g3324, g3325, g3326, g3327⟩ := hG3320
            have q3328 : F3313 42 = (.bool false) := hR3322 23 rfl 42 rfl
            have q3329 : F3313 46 = undef := hR3322 27 rfl 46 rfl
            have q3330 : F3313 48 = undef := hR3322 29 rfl 48 rfl
            refine Or.inr ⟨false, (fun d hd => by cases hd; exact q3328), fun h => Bool.noConfusion (Eq.trans (Eq.symm (rfl : false = false)) h), fun _ => ⟨rfl, ?_⟩⟩
            exact ⟨g3324, g3325, g3326, g3327⟩
          · intro D3331 F3332 s3333 d3334 d3335 d3336 hE3337 hW3338 hG3339 hfr3340 hR3341
            obtain ⟨g3343, g3344, g3345, g3346⟩ := hG3339
            have q3347 : F3332 42 = (.bool false) := hR3341 23 rfl 42 rfl
            have q3348 : F3332 49 = undef := hR3341 30 rfl 49 rfl
            refine Or.inr ⟨false, (fun d hd => by cases hd; exact q3347), fun h => Bool.noConfusion (Eq.trans (Eq.symm (rfl : false = false)) h), fun _ => ⟨rfl, ?_⟩⟩
            exact ⟨g3343, g3344, g3345, g3346⟩
          · intro D3349 F3350 s3351 d3352 d3353 d3354 hE3355 hW3356 hG3357 hfr3358 hR3359
            obtain ⟨g3361, g3362, g3363, g3364⟩ := hG3357
            have q3365 : F3350 42 = (.bool false) := hR3359 23 rfl 42 rfl
            have q3366 : F3350 44 = undef := hR3359 25 rfl 44 rfl
            have q3367 : F3350 50 = undef := hR3359 31 rfl 50 rfl
            refine Or.inr ⟨false, (fun d hd => by cases hd; exact q3365), fun h => Bool.noConfusion (Eq.trans (Eq.symm (rfl : false = false)) h), fun _ => ⟨rfl, ?_⟩⟩
            exact ⟨g3361, g3362, g3363, g3364⟩
          · intro D3368 F3369 s3370 d3371 d3372 d3373 hE3374 hW3375 hG3376 hfr3377 hR3378
            have hE3379 := hE98.trans hE3374
            obtain ⟨g3380, g3381, g3382, g3383⟩ := hG3376
            have q3384 : F3369 42 = (.bool false) := hR3378 23 rfl 42 rfl
            have q3385 : F3369 51 = undef := hR3378 32 rfl 51 rfl
            refine r_pick_f (c := false) (.bool false) q3384 rfl rfl rfl rfl rfl ?_
            refine wpList_nil ?_
            exact ⟨_, _, rfl, rfl, ExtB.refl _ _, Wext.refl _, rfl, ⟨g3380, g3381, g3382, g3383⟩⟩
          · intro D3386 F3387 s3388 d3389 d3390 d3391 hE3392 hW3393 hG3394 hfr3395 hR3396
            have hE3397 := hE98.trans hE3392
            obtain ⟨g3398, g3399, g3400, g3401⟩ := hG3394
            have q3402 : F3387 52 = (.bool false) := hR3396 33 rfl 52 rfl
            refine r_move (.bool false) q3402 rfl ?_
            refine wpList_nil ?_
            exact ⟨_, _, rfl, rfl, ExtB.refl _ _, Wext.refl _, rfl, ⟨g3398, g3399, g3400, g3401⟩⟩
          · intro D3403 F3404 s3405 d3406 d3407 d3408 hE3409 hW3410 hG3411 hfr3412 hR3413
            obtain ⟨g3415, g3416, g3417, g3418⟩ := hG3411
            have q3419 : F3404 53 = (.bool false) := hR3413 34 rfl 53 rfl
            refine Or.inr ⟨false, (fun d hd => by cases hd; exact q3419), fun h => Bool.noConfusion (Eq.trans (Eq.symm (rfl : false = false)) h), fun _ => ⟨rfl, ?_⟩⟩
            exact ⟨g3415, g3416, g3417, g3418⟩
          · intro D3420 F3421 s3422 d3423 d3424 d3425 hE3426 hW3427 hG3428 hfr3429 hR3430
            have hE3431 := hE98.trans hE3426
            obtain ⟨g3432, g3433, g3434, g3435⟩ := hG3428
            have q3436 : F3421 53 = (.bool false) := hR3430 34 rfl 53 rfl
            have q3437 : F3421 54 = undef := hR3430 35 rfl 54 rfl
            refine r_pick_f (c := false) (.bool false) q3436 rfl rfl rfl rfl rfl ?_
            refine wpList_nil ?_
            exact ⟨_, _, rfl, rfl, ExtB.refl _ _, Wext.refl _, rfl, ⟨g3432, g3433, g3434, g3435⟩⟩
          · intro D3438 F3439 s3440 d3441 d3442 d3443 hE3444 hW3445 hG3446 hfr3447 hR3448
            have hE3449 := hE98.trans hE3444
            obtain ⟨g3450, g3451, g3452, g3453⟩ := hG3446
            have q3454 : F3439 55 = (.bool false) := hR3448 36 rfl 55 rfl
            refine r_assign (.bool false) q3454 rfl ?_
            refine wpList_nil ?_
            exact ⟨_, _, rfl, rfl, ExtB.refl _ _, Wext.refl _, rfl, ⟨g3450, g3451, g3452, g3453⟩⟩
          · intro F3455 s3456 hE3457 hW3458 hG3459 hfr3460 hR3461
            have hE3462 := hE98.trans hE3457
            obtain ⟨g3463, g3464, g3465, g3466⟩ := hG3459
            have hb3467 := g3463
            have hb3468 := g3464
            have hb3469 := g3465
            have q3470 : F3455 4 = (.bool false) := hR3461 37 4 rfl
            refine p_then ?_
            refine wp_ret ?_
            obtain rfl := Option.some.inj hf
            refine ret_one (.bool false) rfl ⟨rfl, q3470⟩ hE3462 ?_
            exact (RpV.mkBool _ _)
      · refine wp_draw (B := s0.N) [some 19, some 20, some 21, some 22, some 23, some 24, some 25, some 26, some 27, some 28, some 29, some 30, some 31, some 32, some 33, some 34, some 35, some 36, some 37, some 38, some 39, some 40, some 41, some 42, some 43, some 44, some 45, some 46, some 47, some 48, some 49, some 50, some 51, some 52, some 53, some 54, some 55, some 4] [[], [0], [], [0, 1, 2], [0, 1, 2, 3], [0, 1, 2, 3, 4], [0, 1, 2, 3, 4, 5], [0, 1, 2, 3, 4, 5, 6], [0, 1, 2, 3, 4, 5], [0, 1, 2, 3, 4, 5, 6, 7, 8], [0, 1, 2, 3, 4, 5, 6, 7, 8, 9], [0, 1, 2, 3, 4, 5, 6, 7, 8, 9, 10], [0, 1, 2, 3, 4, 5, 6, 7, 8, 9, 10, 11], [0, 1, 2, 3, 4, 5, 6, 7, 8, 9, 10, 11, 12], [0, 1, 2, 3, 4, 5, 6, 7, 8, 9, 10, 11, 12, 13], [0, 1, 2, 3, 4, 5, 6, 7, 8, 9, 10, 11, 12], [0, 1, 2, 3, 4, 5, 6, 7, 8, 9, 10, 11, 12, 13, 14, 15], [0, 1, 2, 3, 4, 5, 6, 7, 8, 9, 10, 11, 12, 13, 14, 15, 16], [0, 1, 2, 3, 4, 5, 6, 7, 8, 9, 10, 11, 12], [0, 1, 2, 3, 4, 5, 6, 7, 8, 9, 10, 11, 12, 13, 14, 15, 16, 18], [0, 1, 2, 3, 4, 5, 6, 7, 8, 9, 10, 11, 12, 13, 14, 15, 16, 17, 18, 19], [0, 1, 2, 3, 4, 5, 6, 7, 8, 9, 10, 11, 12, 13, 14, 15, 16, 17, 18, 19, 20], [0, 1, 2, 3, 4, 5, 6, 7, 8, 9, 10, 11, 12, 13, 14, 15, 16, 17, 18, 19, 20, 21], [0, 1, 2, 3, 4, 5, 6, 7, 8, 9, 10, 11, 12, 13, 14, 15, 16, 17, 18, 19, 20, 21, 22], [0, 1, 2, 3, 4, 5, 6, 7, 8, 9, 10, 11, 12, 13, 14, 15, 16, 17, 18, 19, 20, 21, 22, 23], [0, 1, 2, 3, 4, 5, 6, 7, 8, 9, 10, 11, 12, 13, 14, 15, 16, 17, 18, 19, 20, 21, 22, 23, 24], [0, 1, 2, 3, 4, 5, 6, 7, 8, 9, 10, 11, 12, 13, 14, 15, 16, 17, 18, 19, 20, 21, 22, 23], [0, 1, 2, 3, 4, 5, 6, 7, 8, 9, 10, 11, 12, 13, 14, 15, 16, 17, 18, 19, 20, 21, 22, 23, 24, 25, 26], [0, 1, 2, 3, 4, 5, 6, 7, 8, 9, 10, 11, 12, 13, 14, 15, 16, 17, 18, 19, 20, 21, 22, 23], [0, 1, 2, 3, 4, 5, 6, 7, 8, 9, 10, 11, 12, 13, 14, 15, 16, 17, 18, 19, 20, 21, 22, 23, 24, 25, 26, 27, 28], [0, 1, 2, 3, 4, 5, 6, 7, 8, 9, 10, 11, 12, 13, 14, 15, 16, 17, 18, 19, 20, 21, 22, 23, 24, 25, 26, 27, 28, 29], [0, 1, 2, 3, 4, 5, 6, 7, 8, 9, 10, 11, 12, 13, 14, 15, 16, 17, 18, 19, 20, 21, 22, 23, 24, 25, 26, 27, 28, 29, 30], [0, 1, 2, 3, 4, 5, 6, 7, 8, 9, 10, 11, 12, 13, 14, 15, 16, 17, 18, 19, 20, 21, 22, 23, 24, 25, 26, 27, 28, 29, 30, 31], [0, 1, 2, 3, 4, 5, 6, 7, 8, 9, 10, 11, 12, 13, 14, 15, 16, 17, 18, 19, 20, 21, 22, 23, 24, 25, 26, 27, 28, 29, 30, 31, 32], [0, 1, 2, 3, 4, 5, 6, 7, 8, 9, 10, 11, 12, 13, 14, 15, 16, 17, 18, 19, 20, 21, 22, 23, 24, 25, 26, 27, 28, 29, 30, 31, 32, 33], [0, 1, 2, 3, 4, 5, 6, 7, 8, 9, 10, 11, 12, 13, 14, 15, 16, 17, 18, 19, 20, 21, 22, 23, 24, 25, 26, 27, 28, 29, 30, 31, 32, 33, 34], [0, 1, 2, 3, 4, 5, 6, 7, 8, 9, 10, 11, 12, 13, 14, 15, 16, 17, 18, 19, 20, 21, 22, 23, 24, 25, 26, 27, 28, 29, 30, 31, 32, 33, 34, 35], [0, 1, 2, 3, 4, 5, 6, 7, 8, 9, 10, 11, 12, 13, 14, 15, 16, 17, 18, 19, 20, 21, 22, 23, 24, 25, 26, 27, 28, 29, 30, 31, 32, 33, 34, 35, 36]] [Fct.data (a0 : Val), Fct.eqv (.int .i64 r99), Fct.data (a0 : Val), Fct.eqv (.int .i64 r101), Fct.eqv (.bool (r99 == r101)), Fct.eqv (.bool (r99 == r101)), Fct.eqv undef, Fct.eqv undef, Fct.eqv undef, Fct.eqv undef, Fct.eqv undef, Fct.eqv (.bool false), Fct.eqv (.bool false), Fct.eqv undef, Fct.eqv undef, Fct.eqv undef, Fct.eqv undef, Fct.eqv undef, Fct.eqv undef, Fct.eqv undef, Fct.eqv undef, Fct.eqv undef, Fct.eqv (.bool false), Fct.eqv (.bool false), Fct.eqv undef, Fct.eqv undef, Fct.eqv undef, Fct.eqv undef, Fct.eqv undef, Fct.eqv undef, Fct.eqv undef, Fct.eqv undef, Fct.eqv undef, Fct.eqv (.bool false), Fct.eqv (.bool false), Fct.eqv undef, Fct.eqv (.bool false), Fct.eqv (.bool false)] (fun D F τ => (Blk s0.N 1 τ b25 27 [.int .i64 a0.Kind, .int .i64 a0.Int_, .string a0.Text, .slice A1 a0.Kids.length c2, .slice A4 a0.Keys.length c5, .slice A7 a0.Entries.length c8, .slice A10 a0.Labels.length c11]) ∧ (Blk s0.N 2 τ b30 27 [.int .i64 a1.Kind, .int .i64 a1.Int_, .string a1.Text, .slice A13 a1.Kids.length c14, .slice A16 a1.Keys.length c17, .slice A19 a1.Entries.length c20, .slice A22 a1.Labels.length c23]) ∧ (Blk s0.N 4 τ b90 27 [.int .i64 r71.Kind, .int .i64 r71.Int_, .string r71.Text, .slice A78 r71.Kids.length c79, .slice A81 r71.Keys.length c82, .slice A84 r71.Entries.length c85, .slice A87 r71.Labels.length c88]) ∧ (Own s0.N 3 27 τ [a0, a1] A66 c67)) (by kernel_rfl) rfl (by decide) (by decide) ⟨((((((((hb28.ext hx32).ext hx39).ext hx54).ext hx68).ext hx75).ext hx92).mod hm96 rfl).ext (ext_draw _)), (((((((hb33.ext hx39).ext hx54).ext hx68).ext hx75).ext hx92).mod hm96 rfl).ext (ext_draw _)), (hb97.ext (ext_draw _)), ((((ho69.ext hx75).ext hx92).mod hm96 rfl).ext (ext_draw _))⟩ (by decide) (by decide) ⟨?_, ?_, ?_, ?_, ?_, ?_, ?_, ?_, ?_, ?_, ?_, ?_, ?_, ?_, ?_, ?_, ?_, ?_, ?_, ?_, ?_, ?_, ?_, ?_, ?_, ?_, ?_, ?_, ?_, ?_, ?_, ?_, ?_, ?_, ?_, ?_, ?_, ?_, trivial⟩ ?_
        · intro D3474 F3475 s3476 d3477 d3478 d3479 hE3480 hW3481 hG3482 hfr3483 hR3484
          have hE3485 := hE98.trans hE3480
          obtain ⟨g3486, g3487, g3488, g3489⟩ := hG3482
          have hb3490 := g3486
          refine r_load b25 0 (.agg #[.int .i64 a0.Kind, .int .i64 a0.Int_, .string a0.Text, .slice A1 a0.Kids.length c2, .slice A4 a0.Keys.length c5, .slice A7 a0.Entries.length c8, .slice A10 a0.Labels.length c11]) ((hfr3483 2 rfl).trans rfl) rfl (loads_row tr27 (Blk.range hb3490 0 [.int .i64 a0.Kind, .int .i64 a0.Int_, .string a0.Text, .slice A1 a0.Kids.length c2, .slice A4 a0.Keys.length c5, .slice A7 a0.Entries.length c8, .slice A10 a0.Labels.length c11] rfl)) ?_
          refine wpList_nil ?_
          exact ⟨_, _, rfl, rfl, ExtB.refl _ _, Wext.refl _, (Val.rpvMk (v := a0) (((((((((h3.mono hx27.wext).mono hx32.wext).mono hx39.wext).mono hx54.wext).mono hx68.wext).mono hx75.wext).mono hx92.wext).mono hm96.wext).mono hW3481) (((((((((h6.mono hx27.wext).mono hx32.wext).mono hx39.wext).mono hx54.wext).mono hx68.wext).mono hx75.wext).mono hx92.wext).mono hm96.wext).mono hW3481) (((((((((h9.mono hx27.wext).mono hx32.wext).mono hx39.wext).mono hx54.wext).mono hx68.wext).mono hx75.wext).mono hx92.wext).mono hm96.wext).mono hW3481) (((((((((h12.mono hx27.wext).mono hx32.wext).mono hx39.wext).mono hx54.wext).mono hx68.wext).mono hx75.wext).mono hx92.wext).mono hm96.wext).mono hW3481)), ⟨g3486, g3487, g3488, g3489⟩⟩
        · intro D3491 F3492 s3493 d3494 d3495 d3496 hE3497 hW3498 hG3499 hfr3500 hR3501
          have hE3502 := hE98.trans hE3497
          obtain ⟨g3503, g3504, g3505, g3506⟩ := hG3499
          have q3507 : RpV s3493 (a0 : Val) (F3492 19) := hR3501 0 rfl 19 rfl
          obtain ⟨A3508, c3509, A3511, c3512, A3514, c3515, A3517, c3518, hv3520, h3510, h3513, h3516, h3519⟩ := Val.rpv q3507
          refine r_call [.agg #[.int .i64 a0.Kind, .int .i64 a0.Int_, .string a0.Text, .slice A3508 a0.Kids.length c3509, .slice A3511 a0.Keys.length c3512, .slice A3514 a0.Entries.length c3515, .slice A3517 a0.Labels.length c3518]] (evs1 hv3520) rfl ((ok_value_Nodes fuel) _ _ _ _ (Val.rpvMk (v := a0) h3510 h3513 h3516 h3519) e100) ?_
          intro v3522 s3521 hx3523 hr3524
          have hE3525 := hE3502.ext hE3502.size hx3523
          obtain rfl := RpV.int hr3524
          refine wpList_nil ?_
          exact ⟨_, _, rfl, rfl, (ExtB.refl _ _).trans (hx3523.mono hE3502.size), (Wext.refl _).trans hx3523.wext, rfl, ⟨(g3503.ext hx3523), (g3504.ext hx3523), (g3505.ext hx3523), (g3506.ext hx3523)⟩⟩
        · intro D3526 F3527 s3528 d3529 d3530 d3531 hE3532 hW3533 hG3534 hfr3535 hR3536
          have hE3537 := hE98.trans hE3532
          obtain ⟨g3538, g3539, g3540, g3541⟩ := hG3534
          have hb3542 := g3538
          refine r_load b25 0 (.agg #[.int .i64 a0.Kind, .int .i64 a0.Int_, .string a0.Text, .slice A1 a0.Kids.length c2, .slice A4 a0.Keys.length c5, .slice A7 a0.Entries.length c8, .slice A10 a0.Labels.length c11]) ((hfr3535 2 rfl).trans rfl) rfl (loads_row tr27 (Blk.range hb3542 0 [.int .i64 a0.Kind, .int .i64 a0.Int_, .string a0.Text, .slice A1 a0.Kids.length c2, .slice A4 a0.Keys.length c5, .slice A7 a0.Entries.length c8, .slice A10 a0.Labels.length c11] rfl)) ?_
          refine wpList_nil ?_
          exact ⟨_, _, rfl, rfl, ExtB.refl _ _, Wext.refl _, (Val.rpvMk (v := a0) (((((((((h3.mono hx27.wext).mono hx32.wext).mono hx39.wext).mono hx54.wext).mono hx68.wext).mono hx75.wext).mono hx92.wext).mono hm96.wext).mono hW3533) (((((((((h6.mono hx27.wext).mono hx32.wext).mono hx39.wext).mono hx54.wext).mono hx68.wext).mono hx75.wext).mono hx92.wext).mono hm96.wext).mono hW3533) (((((((((h9.mono hx27.wext).mono hx32.wext).mono hx39.wext).mono hx54.wext).mono hx68.wext).mono hx75.wext).mono hx92.wext).mono hm96.wext).mono hW3533) (((((((((h12.mono hx27.wext).mono hx32.wext).mono hx39.wext).mono hx54.wext).mono hx68.wext).mono hx75.wext).mono hx92.wext).mono hm96.wext).mono hW3533)), ⟨g3538, g3539, g3540, g3541⟩⟩
        · intro D3543 F3544 s3545 d3546 d3547 d3548 hE3549 hW3550 hG3551 hfr3552 hR3553
          have hE3554 := hE98.trans hE3549
          obtain ⟨g3555, g3556, g3557, g3558⟩ := hG3551
          have q3559 : RpV s3545 (a0 : Val) (F3544 21) := hR3553 2 rfl 21 rfl
          obtain ⟨A3560, c3561, A3563, c3564, A3566, c3567, A3569, c3570, hv3572, h3562, h3565, h3568, h3571⟩ := Val.rpv q3559
          refine r_call [.agg #[.int .i64 a0.Kind, .int .i64 a0.Int_, .string a0.Text, .slice A3560 a0.Kids.length c3561, .slice A3563 a0.Keys.length c3564, .slice A3566 a0.Entries.length c3567, .slice A3569 a0.Labels.length c3570]] (evs1 hv3572) rfl ((ok_semtyperef1_Nodes fuel) _ _ _ _ (Val.rpvMk (v := a0) h3562 h3565 h3568 h3571) e102) ?_
          intro v3574 s3573 hx3575 hr3576
          have hE3577 := hE3554.ext hE3554.size hx3575
          obtain rfl := RpV.int hr3576
          refine wpList_nil ?_
          exact ⟨_, _, rfl, rfl, (ExtB.refl _ _).trans (hx3575.mono hE3554.size), (Wext.refl _).trans hx3575.wext, rfl, ⟨(g3555.ext hx3575), (g3556.ext hx3575), (g3557.ext hx3575), (g3558.ext hx3575)⟩⟩
        · intro D3578 F3579 s3580 d3581 d3582 d3583 hE3584 hW3585 hG3586 hfr3587 hR3588
          have hE3589 := hE98.trans hE3584
          obtain ⟨g3590, g3591, g3592, g3593⟩ := hG3586
          have q3594 : F3579 20 = (.int .i64 r99) := hR3588 1 rfl 20 rfl
          have q3595 : F3579 22 = (.int .i64 r101) := hR3588 3 rfl 22 rfl
          refine r_bin (.int .i64 r99) (.int .i64 r101) (.bool (r99 == r101)) q3594 q3595 rfl rfl (b_eql) ?_
          refine wpList_nil ?_
          exact ⟨_, _, rfl, rfl, ExtB.refl _ _, Wext.refl _, rfl, ⟨g3590, g3591, g3592, g3593⟩⟩
        · intro D3596 F3597 s3598 d3599 d3600 d3601 hE3602 hW3603 hG3604 hfr3605 hR3606
          have hE3607 := hE98.trans hE3602
          obtain ⟨g3608, g3609, g3610, g3611⟩ := hG3604
          have q3612 : F3597 23 = (.bool (r99 == r101)) := hR3606 4 rfl 23 rfl
          refine r_move (.bool (r99 == r101)) q3612 rfl ?_
          refine wpList_nil ?_
          exact ⟨_, _, rfl, rfl, ExtB.refl _ _, Wext.refl _, rfl, ⟨g3608, g3609, g3610, g3611⟩⟩
        · intro D3613 F3614 s3615 d3616 d3617 d3618 hE3619 hW3620 hG3621 hfr3622 hR3623
          obtain ⟨g3625, g3626, g3627, g3628⟩ := hG3621
          have q3629 : F3614 24 = (.bool (r99 == r101)) := hR3623 5 rfl 24 rfl
          refine Or.inr ⟨(r99 == r101), (fun d hd => by cases hd; exact q3629), fun h => Bool.noConfusion (Eq.trans (Eq.symm (hc103 : (r99 == r101) = false)) h), fun _ => ⟨rfl, ?_⟩⟩
          exact ⟨g3625, g3626, g3627, g3628⟩
        · intro D3630 F3631 s3632 d3633 d3634 d3635 hE3636 hW3637 hG3638 hfr3639 hR3640
          obtain ⟨g3642, g3643, g3644, g3645⟩ := hG3638
          have q3646 : F3631 24 = (.bool (r99 == r101)) := hR3640 5 rfl 24 rfl
          have q3647 : F3631 25 = undef := hR3640 6 rfl 25 rfl
          refine Or.inr ⟨(r99 == r101), (fun d hd => by cases hd; exact q3646), fun h => Bool.noConfusion (Eq.trans (Eq.symm (hc103 : (r99 == r101) = false)) h), fun _ => ⟨rfl, ?_⟩⟩
          exact ⟨g3642, g3643, g3644, g3645⟩
        · intro D3648 F3649 s3650 d3651 d3652 d3653 hE3654 hW3655 hG3656 hfr3657 hR3658
          obtain ⟨g3660, g3661, g3662, g3663⟩ := hG3656
          have q3664 : F3649 24 = (.bool (r99 == r101)) := hR3658 5 rfl 24 rfl
          refine Or.inr ⟨(r99 == r101), (fun d hd => by cases hd; exact q3664), fun h => Bool.noConfusion (Eq.trans (Eq.symm (hc103 : (r99 == r101) = false)) h), fun _ => ⟨rfl, ?_⟩⟩
          exact ⟨g3660, g3661, g3662, g3663⟩
        · intro D3665 F3666 s3667 d3668 d3669 d3670 hE3671 hW3672 hG3673 hfr3674 hR3675
          obtain ⟨g3677, g3678, g3679, g3680⟩ := hG3673
          have q3681 : F3666 24 = (.bool (r99 == r101)) := hR3675 5 rfl 24 rfl
          have q3682 : F3666 27 = undef := hR3675 8 rfl 27 rfl
          refine Or.inr ⟨(r99 == r101), (fun d hd => by cases hd; exact q3681), fun h => Bool.noConfusion (Eq.trans (Eq.symm (hc103 : (r99 == r101) = false)) h), fun _ => ⟨rfl, ?_⟩⟩
          exact ⟨g3677, g3678, g3679, g3680⟩
        · intro D3683 F3684 s3685 d3686 d3687 d3688 hE3689 hW3690 hG3691 hfr3692 hR3693
          obtain ⟨g3695, g3696, g3697, g3698⟩ := hG3691
          have q3699 : F3684 24 = (.bool (r99 == r101)) := hR3693 5 rfl 24 rfl
          have q3700 : F3684 26 = undef := hR3693 7 rfl 26 rfl
          have q3701 : F3684 28 = undef := hR3693 9 rfl 28 rfl
          refine Or.inr ⟨(r99 == r101), (fun d hd => by cases hd; exact q3699), fun h => Bool.noConfusion (Eq.trans (Eq.symm (hc103 : (r99 == r101) = false)) h), fun _ => ⟨rfl, ?_⟩⟩
          exact ⟨g3695, g3696, g3697, g3698⟩
        · intro D3702 F3703 s3704 d3705 d3706 d3707 hE3708 hW3709 hG3710 hfr3711 hR3712
          have hE3713 := hE98.trans hE3708
          obtain ⟨g3714, g3715, g3716, g3717⟩ := hG3710
          have q3718 : F3703 24 = (.bool (r99 == r101)) := hR3712 5 rfl 24 rfl
          have q3719 : F3703 29 = undef := hR3712 10 rfl 29 rfl
          refine r_pick_f (c := (r99 == r101)) (.bool false) q3718 hc103 rfl rfl rfl rfl ?_
          refine wpList_nil ?_
          exact ⟨_, _, rfl, rfl, ExtB.refl _ _, Wext.refl _, rfl, ⟨g3714, g3715, g3716, g3717⟩⟩
        · intro D3720 F3721 s3722 d3723 d3724 d3725 hE3726 hW3727 hG3728 hfr3729 hR3730
          have hE3731 := hE98.trans hE3726
          obtain ⟨g3732, g3733, g3734, g3735⟩ := hG3728
          have q3736 : F3721 30 = (.bool false) := hR3730 11 rfl 30 rfl
          refine r_move (.bool false) q3736 rfl ?_
          refine wpList_nil ?_
          exact ⟨_, _, rfl, rfl, ExtB.refl _ _, Wext.refl _, rfl, ⟨g3732, g3733, g3734, g3735⟩⟩
        · intro D3737 F3738 s3739 d3740 d3741 d3742 hE3743 hW3744 hG3745 hfr3746 hR3747
          obtain ⟨g3749, g3750, g3751, g3752⟩ := hG3745
          have q3753 : F3738 31 = (.bool false) := hR3747 12 rfl 31 rfl
          refine Or.inr ⟨false, (fun d hd => by cases hd; exact q3753), fun h => Bool.noConfusion (Eq.trans (Eq.symm (rfl : false = false)) h), fun _ => ⟨rfl, ?_⟩⟩
          exact ⟨g3749, g3750, g3751, g3752⟩
        · intro D3754 F3755 s3756 d3757 d3758 d3759 hE3760 hW3761 hG3762 hfr3763 hR3764
          obtain ⟨g3766, g3767, g3768, g3769⟩ := hG3762
          have q3770 : F3755 31 = (.bool false) := hR3764 12 rfl 31 rfl
          have q3771 : F3755 32 = undef := hR3764 13 rfl 32 rfl
          refine Or.inr ⟨false, (fun d hd => by cases hd; exact q3770), fun h => Bool.noConfusion (Eq.trans (Eq.symm (rfl : false = false)) h), fun _ => ⟨rfl, ?_⟩⟩
          exact ⟨g3766, g3767, g3768, g3769⟩
        · intro D3772 F3773 s3774 d3775 d3776 d3777 hE3778 hW3779 hG3780 hfr3781 hR3782
          obtain ⟨g3784, g3785, g3786, g3787⟩ := hG3780
          have q3788 : F3773 31 = (.bool false) := hR3782 12 rfl 31 rfl
          refine Or.inr ⟨false, (fun d hd => by cases hd; exact q3788), fun h => Bool.noConfusion (Eq.trans (Eq.symm (rfl : false = false)) h), fun _ => ⟨rfl, ?_⟩⟩
          exact ⟨g3784, g3785, g3786, g3787⟩
        · intro D3789 F3790 s3791 d3792 d3793 d3794 hE3795 hW3796 hG3797 hfr3798 hR3799
          obtain ⟨g3801, g3802, g3803, g3804⟩ := hG3797
          have q3805 : F3790 31 = (.bool false) := hR3799 12 rfl 31 rfl
          have q3806 : F3790 34 = undef := hR3799 15 rfl 34 rfl
          refine Or.inr ⟨false, (fun d hd => by cases hd; exact q3805), fun h => Bool.noConfusion (Eq.trans (Eq.symm (rfl : false = false)) h), fun _ => ⟨rfl, ?_⟩⟩
          exact ⟨g3801, g3802, g3803, g3804⟩
        · intro D3807 F3808 s3809 d3810 d3811 d3812 hE3813 hW3814 hG3815 hfr3816 hR3817
          obtain ⟨g3819, g3820, g3821, g3822⟩ := hG3815
          have q3823 : F3808 31 = (.bool false) := hR3817 12 rfl 31 rfl
          have q3824 : F3808 35 = undef := hR3817 16 rfl 35 rfl
          refine Or.inr ⟨false, (fun d hd => by cases hd; exact q3823), fun h => Bool.noConfusion (Eq.trans (Eq.symm (rfl : false = false)) h), fun _ => ⟨rfl, ?_⟩⟩
          exact ⟨g3819, g3820, g3821, g3822⟩
        · intro D3825 F3826 s3827 d3828 d3829 d3830 hE3831 hW3832 hG3833 hfr3834 hR3835
          obtain ⟨g3837, g3838, g3839, g3840⟩ := hG3833
          have q3841 : F3826 31 = (.bool false) := hR3835 12 rfl 31 rfl
          refine Or.inr ⟨false, (fun d hd => by cases hd; exact q3841), fun h => Bool.noConfusion (Eq.trans (Eq.symm (rfl : false = false)) h), fun _ => ⟨rfl, ?_⟩⟩
          exact ⟨g3837, g3838, g3839, g3840⟩
        · intro D3842 F3843 s3844 d3845 d3846 d3847 hE3848 hW3849 hG3850 hfr3851 hR3852
          obtain ⟨g3854, g3855, g3856, g3857⟩ := hG3850
          have q3858 : F3843 31 = (.bool false) := hR3852 12 rfl 31 rfl
          have q3859 : F3843 37 = undef := hR3852 18 rfl 37 rfl
          refine Or.inr ⟨false, (fun d hd => by cases hd; exact q3858), fun h => Bool.noConfusion (Eq.trans (Eq.symm (rfl : false = false)) h), fun _ => ⟨rfl, ?_⟩⟩
          exact ⟨g3854, g3855, g3856, g3857⟩
        · intro D3860 F3861 s3862 d3863 d3864 d3865 hE3866 hW3867 hG3868 hfr3869 hR3870
          obtain ⟨g3872, g3873, g3874, g3875⟩ := hG3868
          have q3876 : F3861 31 = (.bool false) := hR3870 12 rfl 31 rfl
          have q3877 : F3861 36 = undef := hR3870 17 rfl 36 rfl
          have q3878 : F3861 38 = undef := hR3870 19 rfl 38 rfl
          refine Or.inr ⟨false, (fun d hd => by cases hd; exact q3876), fun h => Bool.noConfusion (Eq.trans (Eq.symm (rfl : false = false)) h), fun _ => ⟨rfl, ?_⟩⟩
          exact ⟨g3872, g3873, g3874, g3875⟩
        · intro D3879 F3880 s3881 d3882 d3883 d3884 hE3885 hW3886 hG3887 hfr3888 hR3889
          obtain ⟨g3891, g3892, g3893, g3894⟩ := hG3887
          have q3895 : F3880 31 = (.bool false) := hR3889 12 rfl 31 rfl
          have q3896 : F3880 33 = undef := hR3889 14 rfl 33 rfl
          have q3897 : F3880 39 = undef := hR3889 20 rfl 39 rfl
          refine Or.inr ⟨false, (fun d hd => by cases hd; exact q3895), fun h => Bool.noConfusion (Eq.trans (Eq.symm (rfl : false = false)) h), fun _ => ⟨rfl, ?_⟩⟩
          exact ⟨g3891, g3892, g3893, g3894⟩
        · intro D3898 F3899 s3900 d3901 d3902 d3903 hE3904 hW3905 hG3906 hfr3907 hR3908
          have hE3909 := hE98.trans hE3904
          obtain ⟨g3910, g3911, g3912, g3913⟩ := hG3906
          have q3914 : F3899 31 = (.bool false) := hR3908 12 rfl 31 rfl
          have q3915 : F3899 40 = undef := hR3908 21 rfl 40 rfl
          refine r_pick_f (c := false) (.bool false) q3914 rfl rfl rfl rfl rfl ?_
          refine wpList_nil ?_
          exact ⟨_, _, rfl, rfl, ExtB.refl _ _, Wext.refl _, rfl, ⟨g3910, g3911, g3912, g3913⟩⟩
        · intro D3916 F3917 s3918 d3919 d3920 d3921 hE3922 hW3923 hG3924 hfr3925 hR3926
          have hE3927 := hE98.trans hE3922
          obtain ⟨g3928, g3929, g3930, g3931⟩ := hG3924
          have q3932 : F3917 41 = (.bool false) := hR3926 22 rfl 41 rfl
          refine r_move (.bool false) q3932 rfl ?_
          refine wpList_nil ?_
          exact ⟨_, _, rfl, rfl, ExtB.refl _ _, Wext.refl _, rfl, ⟨g3928, g3929, g3930, g3931⟩⟩
        · intro D3933 F3934 s3935 d3936 d3937 d3938 hE3939 hW3940 hG3941 hfr3942 hR3943
          obtain ⟨g3945, g3946, g3947, g3948⟩ := hG3941
          have q3949 : F3934 42 = (.bool false) := hR3943 23 rfl 42 rfl
          refine Or.inr ⟨false, (fun d hd => by cases hd; exact q3949), fun h => Bool.noConfusion (Eq.trans (Eq.symm (rfl : false = false)) h), fun _ => ⟨rfl, ?_⟩⟩
          exact ⟨g3945, g3946, g3947, g3948⟩
        · intro D3950 F3951 s3952 d3953 d3954 d3955 hE3956 hW3957 hG3958 hfr3959 hR3960
          obtain ⟨g3962, g3963, g3964, g3965⟩ := hG3958
          have q3966 : F3951 42 = (.bool false) := hR3960 23 rfl 42 rfl
          have q3967 : F3951 43 = undef := hR3960 24 rfl 43 rfl
          refine Or.inr ⟨false, (fun d hd => by cases hd; exact q3966), fun h => Bool.noConfusion (Eq.trans (Eq.symm (rfl : false = false)) h), fun _ => ⟨rfl, ?_⟩⟩
          exact ⟨g3962, g3963, g3964, g3965⟩
        · intro D3968 F3969 s3970 d3971 d3972 d3973 hE3974 hW3975 hG3976 hfr3977 hR3978
          obtain ⟨g3980, g3981, g3982, g3983⟩ := hG3976
          have q3984 : F3969 42 = (.bool false) := hR3978 23 rfl 42 rfl
          refine Or.inr ⟨false, (fun d hd => by cases hd; exact q3984), fun h => Bool.noConfusion (Eq.trans (Eq.symm (rfl : false = false)) h), fun _ => ⟨rfl, ?_⟩⟩
          exact ⟨g3980, g3981, g3982, g3983⟩
        · intro D3985 F3986 s3987 d3988 d3989 d3990 hE3991 hW3992 hG3993 hfr3994 hR3995
          obtain ⟨g3997, g3998, g3999, g4000⟩ := hG3993
          have q4001 : F3986 42 = (.bool false) := hR3995 23 rfl 42 rfl
          have q4002 : F3986 45 = undef := hR3995 26 rfl 45 rfl
          refine Or.inr ⟨false, (fun d hd => by cases hd; exact q4001), fun h => Bool.noConfusion (Eq.trans (Eq.symm (rfl : false = false)) h), fun _ => ⟨rfl, ?_⟩⟩
          exact ⟨g3997, g3998, g3999, g4000⟩
        · intro D4003 F4004 s4005 d4006 d4007 d4008 hE4009 hW4010 hG4011 hfr4012 hR4013
          obtain ⟨g4015, g4016, g4017, g4018⟩ := hG4011
          have q4019 : F4004 42 = (.bool false) := hR4013 23 rfl 42 rfl
          refine Or.inr ⟨false, (fun d hd => by cases hd; exact q4019), fun h => Bool.noConfusion (Eq.trans (Eq.symm (rfl : false = false)) h), fun _ => ⟨rfl, ?_⟩⟩
          exact ⟨g4015, g4016, g4017, g4018⟩
        · intro D4020 F4021 s4022 d4023 d4024 d4025 hE4026 hW4027 hG4028 hfr4029 hR4030
          obtain ⟨g4032, g4033, g4034, g4035⟩ := hG4028
          have q4036 : F4021 42 = (.bool false) := hR4030 23 rfl 42 rfl
          have q4037 : F4021 47 = undef := hR4030 28 rfl 47 rfl
          refine Or.inr ⟨false, (fun d hd => by cases hd; exact q4036), fun h => Bool.noConfusion (Eq.trans (Eq.symm (rfl : false = false)) h), fun _ => ⟨rfl, ?_⟩⟩
          exact ⟨g4032, g4033, g4034, g4035⟩
        · intro D4038 F4039 s4040 d4041 d4042 d4043 hE4044 hW4045 hG4046 hfr4047 hR4048
          obtain ⟨g4050, g4051, g4052, g4053⟩ := hG4046
          have q4054 : F4039 42 = (.bool false) := hR4048 23 rfl 42 rfl
          have q4055 : F4039 46 = undef := hR4048 27 rfl 46 rfl
          have q4056 : F4039 48 = undef := hR4048 29 rfl 48 rfl
          refine Or.inr ⟨false, (fun d hd => by cases hd; exact q4054), fun h => Bool.noConfusion (Eq.trans (Eq.symm (rfl : false = false)) h), fun _ => ⟨rfl, ?_⟩⟩
          exact ⟨g4050, g4051, g4052, g4053⟩
        · intro D4057 F4058 s4059 d4060 d4061 d4062 hE4063 hW4064 hG4065 hfr4066 hR4067
          obtain ⟨g4069, g4070, g4071, g4072⟩ := hG4065
          have q4073 : F4058 42 = (.bool false) := hR4067 23 rfl 42 rfl
          have q4074 : F4058 49 = undef := hR4067 30 rfl 49 rfl
          refine Or.inr ⟨false, (fun d hd => by cases hd; exact q4073), fun h => Bool.noConfusion (Eq.trans (Eq.symm (rfl : false = false)) h), fun _ => ⟨rfl, ?_⟩⟩
          exact ⟨g4069, g4070, g4071, g4072⟩
        · intro D4075 F4076 s4077 d4078 d4079 d4080 hE4081 hW4082 hG4083 hfr4084 hR4085
          obtain ⟨g4087, g4088, g4089, g4090⟩ := hG4083
          have q4091 : F4076 42 = (.bool false) := hR4085 23 rfl 42 rfl
          have q4092 : F4076 44 = undef := hR4085 25 rfl 44 rfl
          have q4093 : F4076 50 = undef := hR4085 31 rfl 50 rfl
          refine Or.inr ⟨false, (fun d hd => by cases hd; exact q4091), fun h => Bool.noConfusion (Eq.trans (Eq.symm (rfl : false = false)) h), fun _ => ⟨rfl, ?_⟩⟩
          exact ⟨g4087, g4088, g4089, g4090⟩
        · intro D4094 F4095 s4096 d4097 d4098 d4099 hE4100 hW4101 hG4102 hfr4103 hR4104
          have hE4105 := hE98.trans hE4100
          obtain ⟨g4106, g4107, g4108, g4109⟩ := hG4102
          have q4110 : F4095 42 = (.bool false) := hR4104 23 rfl 42 rfl
          have q4111 : F4095 51 = undef := hR4104 32 rfl 51 rfl
          refine r_pick_f (c := false) (.bool false) q4110 rfl rfl rfl rfl rfl ?_
          refine wpList_nil ?_
          exact ⟨_, _, rfl, rfl, ExtB.refl _ _, Wext.refl _, rfl, ⟨g4106, g4107, g4108, g4109⟩⟩
        · intro D4112 F4113 s4114 d4115 d4116 d4117 hE4118 hW4119 hG4120 hfr4121 hR4122
          have hE4123 := hE98.trans hE4118
          obtain ⟨g4124, g4125, g4126, g4127⟩ := hG4120
          have q4128 : F4113 52 = (.bool false) := hR4122 33 rfl 52 rfl
          refine r_move (.bool false) q4128 rfl ?_
          refine wpList_nil ?_
          exact ⟨_, _, rfl, rfl, ExtB.refl _ _, Wext.refl _, rfl, ⟨g4124, g4125, g4126, g4127⟩⟩
        · intro D4129 F4130 s4131 d4132 d4133 d4134 hE4135 hW4136 hG4137 hfr4138 hR4139
          obtain ⟨g4141, g4142, g4143, g4144⟩ := hG4137
          have q4145 : F4130 53 = (.bool false) := hR4139 34 rfl 53 rfl
          refine Or.inr ⟨false, (fun d hd => by cases hd; exact q4145), fun h => Bool.noConfusion (Eq.trans (Eq.symm (rfl : false = false)) h), fun _ => ⟨rfl, ?_⟩⟩
          exact ⟨g4141, g4142, g4143, g4144⟩
        · intro D4146 F4147 s4148 d4149 d4150 d4151 hE4152 hW4153 hG4154 hfr4155 hR4156
          have hE4157 := hE98.trans hE4152
          obtain ⟨g4158, g4159, g4160, g4161⟩ := hG4154
          have q4162 : F4147 53 = (.bool false) := hR4156 34 rfl 53 rfl
          have q4163 : F4147 54 = undef := hR4156 35 rfl 54 rfl
          refine r_pick_f (c := false) (.bool false) q4162 rfl rfl rfl rfl rfl ?_
          refine wpList_nil ?_
          exact ⟨_, _, rfl, rfl, ExtB.refl _ _, Wext.refl _, rfl, ⟨g4158, g4159, g4160, g4161⟩⟩
        · intro D4164 F4165 s4166 d4167 d4168 d4169 hE4170 hW4171 hG4172 hfr4173 hR4174
          have hE4175 := hE98.trans hE4170
          obtain ⟨g4176, g4177, g4178, g4179⟩ := hG4172
          have q4180 : F4165 55 = (.bool false) := hR4174 36 rfl 55 rfl
          refine r_assign (.bool false) q4180 rfl ?_
          refine wpList_nil ?_
          exact ⟨_, _, rfl, rfl, ExtB.refl _ _, Wext.refl _, rfl, ⟨g4176, g4177, g4178, g4179⟩⟩
        · intro F4181 s4182 hE4183 hW4184 hG4185 hfr4186 hR4187
          have hE4188 := hE98.trans hE4183
          obtain ⟨g4189, g4190, g4191, g4192⟩ := hG4185
          have hb4193 := g4189
          have hb4194 := g4190
          have hb4195 := g4191
          have q4196 : F4181 4 = (.bool false) := hR4187 37 4 rfl
          refine p_then ?_
          refine wp_ret ?_
          obtain rfl := Option.some.inj hf
          refine ret_one (.bool false) rfl ⟨rfl, q4196⟩ hE4188 ?_
          exact (RpV.mkBool _ _)

end Go.Sx
