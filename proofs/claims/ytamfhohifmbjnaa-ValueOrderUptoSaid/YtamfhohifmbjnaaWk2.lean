/- Printed by dec.py. The walks. -/
import Derived.Test.YtamfhohifmbjnaaWk1
namespace Go.Sx
open Go Go.RowKit
attribute [local irreducible] Go.wpList Go.Code.wp Go.Sx.Ctr

set_option maxHeartbeats 1600000 in
set_option maxRecDepth 100000 in
theorem okB_value_Height {rec_value_Height : (Val → Option Int)} (hrec_value_Height : S_value_Height rec_value_Height) : S_value_Height (value_Height_B rec_value_Height) := by
  intro s0 v0 a0 r h0 hf
  obtain ⟨A1, c2, A4, c5, A7, c8, A10, c11, rfl, h3, h6, h9, h12⟩ := Val.rpv h0
  unfold value_Height_B at hf
  have hE0 : ExtB s0.N s0 s0 := ExtB.refl _ _
  refine ctr_of 20 Go.Proofs.Try.func18 rfl rfl rfl rfl ?_
  refine wp_seq ?_
  refine wp_region_lit ?_
  refine r_box (B := s0.N) 1 hE0.size (.agg #[.int .i64 a0.Kind, .int .i64 a0.Int_, .string a0.Text, .slice A1 a0.Kids.length c2, .slice A4 a0.Keys.length c5, .slice A7 a0.Entries.length c8, .slice A10 a0.Labels.length c11]) [.int .i64 a0.Kind, .int .i64 a0.Int_, .string a0.Text, .slice A1 a0.Kids.length c2, .slice A4 a0.Keys.length c5, .slice A7 a0.Entries.length c8, .slice A10 a0.Labels.length c11] rfl rfl rfl ?_
  intro s14 b13 hx15 hb16
  have hE17 := hE0.ext hE0.size hx15
  refine r_assign (.int .i64 0) rfl rfl ?_
  refine wpList_nil ?_
  refine p_then ?_
  refine wp_seq ?_
  refine wp_region_lit ?_
  refine r_assign (.int .i64 0) rfl rfl ?_
  refine wpList_nil ?_
  refine p_then ?_
  refine wp_seq ?_
  refine wp_seq ?_
  refine wp_region_lit ?_
  refine r_load b13 0 (.agg #[.int .i64 a0.Kind, .int .i64 a0.Int_, .string a0.Text, .slice A1 a0.Kids.length c2, .slice A4 a0.Keys.length c5, .slice A7 a0.Entries.length c8, .slice A10 a0.Labels.length c11]) rfl rfl (loads_row tr27 (Blk.range hb16 0 [.int .i64 a0.Kind, .int .i64 a0.Int_, .string a0.Text, .slice A1 a0.Kids.length c2, .slice A4 a0.Keys.length c5, .slice A7 a0.Entries.length c8, .slice A10 a0.Labels.length c11] rfl)) ?_
  obtain ⟨r18, e19, hf⟩ := bind_some hf
  refine r_call [.agg #[.int .i64 a0.Kind, .int .i64 a0.Int_, .string a0.Text, .slice A1 a0.Kids.length c2, .slice A4 a0.Keys.length c5, .slice A7 a0.Entries.length c8, .slice A10 a0.Labels.length c11]] (evs1 rfl) rfl (ok_value_parts _ _ _ _ (Val.rpvMk (v := a0) (h3.mono hx15.wext) (h6.mono hx15.wext) (h9.mono hx15.wext) (h12.mono hx15.wext)) e19 1002 (by omega)) ?_
  intro v21 s20 hx22 hr23
  have hE24 := hE17.ext hE17.size hx22
  obtain ⟨A25, c26, rfl, ho27⟩ := hr23
  refine r_len A25 r18.length c26 rfl rfl Go.Proofs.Try.underlying22 ?_
  refine r_move (.int .i64 0) rfl rfl ?_
  refine wpList_nil ?_
  refine p_then ?_
  refine wp_block ?_
  refine gen_F fun F28 hg29 => ?_
  have hF30 : F28 2 = (.int .i64 0) := (hg29 2).trans rfl
  have hF31 : F28 3 = (.int .i64 0) := (hg29 3).trans rfl
  have hF32 : F28 7 = (.slice A25 r18.length c26) := (hg29 7).trans rfl
  have hF33 : F28 8 = (.int .i64 (r18.length : Int)) := (hg29 8).trans rfl
  have hF34 : F28 9 = (.int .i64 0) := (hg29 9).trans rfl
  obtain ⟨o83, ho84, hf⟩ := bind_some hf
  refine wp_mono (wp_iter (step := value_Height_l1 rec_value_Height r18) (fun q a w => ∃ (F : Fr) (τ : S), a = fr 20 F ∧ w = τ.w ∧ Agr [3, 5, 9, 10, 11, 12, 13, 14, 15, 16, 17] F F28 ∧ ExtB s0.N s0 τ ∧ Wext s20 τ ∧ F 3 = (.int .i64 q.1) ∧ F 9 = (.int .i64 q.2) ∧ Own s0.N 1002 27 τ r18 A25 c26) (fun q e a w => e = .exit 0 ∧ ∃ (F : Fr) (τ : S), a = fr 20 F ∧ w = τ.w ∧ Agr [3, 5, 9, 10, 11, 12, 13, 14, 15, 16, 17] F F28 ∧ ExtB s0.N s0 τ ∧ Wext s20 τ ∧ F 3 = (.int .i64 q.1) ∧ F 9 = (.int .i64 q.2) ∧ Own s0.N 1002 27 τ r18 A25 c26) (by rintro _ a w ⟨h, _⟩; cases h) ?_ _ _ _ _ _ ho84 ?_) ?_
  · intro q35 fl a w hf hI
    obtain ⟨F36, s37, rfl, rfl, hag38, hE39, hW40, h41, h42, h43⟩ := hI
    unfold value_Height_l1 at hf
    have hF44 : F36 2 = (.int .i64 0) := (hag38 2 rfl).trans hF30
    have hF45 : F36 7 = (.slice A25 r18.length c26) := (hag38 7 rfl).trans hF32
    have hF46 : F36 8 = (.int .i64 (r18.length : Int)) := (hag38 8 rfl).trans hF33
    refine wp_seq ?_
    refine wp_region_lit ?_
    refine r_bin (.int .i64 q35.2) (.int .i64 (r18.length : Int)) (.bool (decide (q35.2 < (r18.length : Int)))) h42 hF46 rfl rfl (b_lss) ?_
    refine wpList_nil ?_
    refine p_then ?_
    refine wp_seq ?_
    refine if_else hf (fun hc47 hf => ?_) (fun hc47 hf => ?_)
    · refine c_true rfl hc47 rfl ?_
      refine wp_skip ?_
      refine p_then ?_
      refine wp_seq ?_
      refine wp_block ?_
      refine wp_seq ?_
      refine wp_region_lit ?_
      obtain ⟨x48, e49, hf⟩ := bind_some hf
      refine r_indexAddr (T := 22) (E := 27) h43.sl e49 hF45 h42 rfl rfl Go.Proofs.Try.underlying22 sz27 ?_
      intro b50 o51 cs52 hc53 hs54
      obtain ⟨A55, c56, A58, c59, A61, c62, A64, c65, rfl, h57, h60, h63, h66⟩ := Val.cells_iff.1 hc53
      refine r_load b50 o51 (.agg #[.int .i64 x48.Kind, .int .i64 x48.Int_, .string x48.Text, .slice A55 x48.Kids.length c56, .slice A58 x48.Keys.length c59, .slice A61 x48.Entries.length c62, .slice A64 x48.Labels.length c65]) rfl rfl (loads_row tr27 hs54.2) ?_
      refine r_alloc (B := s0.N) 3 hE39.size _ [.int .i64 0, .int .i64 0, .string (⟨#[]⟩), .slice none ([] : List Val).length 0, .slice none ([] : List Key).length 0, .slice none ([] : List Ent).length 0, .slice none ([] : List ByteArray).length 0] ti27 rfl ?_
      intro s68 b67 hx69 hb70
      have hE71 := hE39.ext hE39.size hx69
      refine r_store hb70 0 (.agg #[.int .i64 x48.Kind, .int .i64 x48.Int_, .string x48.Text, .slice A55 x48.Kids.length c56, .slice A58 x48.Keys.length c59, .slice A61 x48.Entries.length c62, .slice A64 x48.Labels.length c65]) [.int .i64 x48.Kind, .int .i64 x48.Int_, .string x48.Text, .slice A55 x48.Kids.length c56, .slice A58 x48.Keys.length c59, .slice A61 x48.Entries.length c62, .slice A64 x48.Labels.length c65] [.int .i64 x48.Kind, .int .i64 x48.Int_, .string x48.Text, .slice A55 x48.Kids.length c56, .slice A58 x48.Keys.length c59, .slice A61 x48.Entries.length c62, .slice A64 x48.Labels.length c65] rfl rfl rfl rfl rfl sz27 rfl rfl rfl ?_
      intro s72 hm73 hb74
      have hE75 := hE71.mod hE71.size hm73
      refine wpList_nil ?_
      refine p_then ?_
      refine wp_region_lit ?_
      refine r_move (.int .i64 q35.1) h41 rfl ?_
      refine r_load b67 0 (.agg #[.int .i64 x48.Kind, .int .i64 x48.Int_, .string x48.Text, .slice A55 x48.Kids.length c56, .slice A58 x48.Keys.length c59, .slice A61 x48.Entries.length c62, .slice A64 x48.Labels.length c65]) rfl rfl (loads_row tr27 (Blk.range hb74 0 [.int .i64 x48.Kind, .int .i64 x48.Int_, .string x48.Text, .slice A55 x48.Kids.length c56, .slice A58 x48.Keys.length c59, .slice A61 x48.Entries.length c62, .slice A64 x48.Labels.length c65] rfl)) ?_
      obtain ⟨r76, e77, hf⟩ := bind_some hf
      refine r_call [.agg #[.int .i64 x48.Kind, .int .i64 x48.Int_, .string x48.Text, .slice A55 x48.Kids.length c56, .slice A58 x48.Keys.length c59, .slice A61 x48.Entries.length c62, .slice A64 x48.Labels.length c65]] (evs1 rfl) rfl (hrec_value_Height _ _ _ _ (Val.rpvMk (v := x48) ((h57.mono hx69.wext).mono hm73.wext) ((h60.mono hx69.wext).mono hm73.wext) ((h63.mono hx69.wext).mono hm73.wext) ((h66.mono hx69.wext).mono hm73.wext)) e77) ?_
      intro v79 s78 hx80 hr81
      have hE82 := hE75.ext hE75.size hx80
      obtain rfl := RpV.int hr81
      refine r_max .i64 q35.1 r76 rfl rfl rfl rfl ?_
      refine r_assign (.int .i64 (max q35.1 r76)) rfl rfl ?_
      refine wpList_nil ?_
      refine p_bn ?_
      refine p_then ?_
      refine wp_region_lit ?_
      refine r_bin (.int .i64 q35.2) (.int .i64 1) (.int .i64 (w64 (q35.2 + 1))) h42 rfl rfl rfl (b_add) ?_
      refine r_move (.int .i64 (w64 (q35.2 + 1))) rfl rfl ?_
      refine wpList_nil ?_
      obtain rfl := Option.some.inj hf
      exact ⟨rfl, _, _, rfl, rfl, (((((((((((((hag38).put rfl).put rfl).put rfl).put rfl).put0).put rfl).put rfl).put rfl).put rfl).put rfl).put rfl).put rfl), hE82, (((((Wext.refl _).trans hW40).trans hx69.wext).trans hm73.wext).trans hx80.wext), rfl, rfl, (((h43.ext hx69).mod hm73 rfl).ext hx80)⟩
    · refine c_false rfl hc47 rfl ?_
      refine wp_exit ?_
      refine p_thenx ?_
      obtain rfl := Option.some.inj hf
      exact ⟨rfl, _, _, rfl, rfl, ((hag38).put rfl), hE39, ((Wext.refl _).trans hW40), h41, h42, h43⟩
  · exact ⟨_, _, rfl, rfl, (Agr.refl _ _), hE24, (Wext.refl _), hF31, hF34, (ho27.base (by have := hE17.size; omega))⟩
  · rintro e a w ⟨rfl, F86, s87, rfl, rfl, hag88, hE89, hW90, h91, h92, h93⟩
    have hF94 : F86 2 = (.int .i64 0) := (hag88 2 rfl).trans hF30
    have hF95 : F86 7 = (.slice A25 r18.length c26) := (hag88 7 rfl).trans hF32
    have hF96 : F86 8 = (.int .i64 (r18.length : Int)) := (hag88 8 rfl).trans hF33
    refine p_bx ?_
    refine p_then ?_
    refine wp_seq ?_
    refine wp_region_lit ?_
    refine r_move (.int .i64 o83.1) h91 rfl ?_
    refine r_bin (.int .i64 o83.1) (.int .i64 1) (.int .i64 (w64 (o83.1 + 1))) rfl rfl rfl rfl (b_add) ?_
    refine r_assign (.int .i64 (w64 (o83.1 + 1))) rfl rfl ?_
    refine wpList_nil ?_
    refine p_then ?_
    refine wp_ret ?_
    obtain rfl := Option.some.inj hf
    refine ret_one (.int .i64 (w64 (o83.1 + 1))) rfl ⟨rfl, rfl⟩ hE89 ?_
    exact (RpV.mkInt _ _)

theorem ok_value_Height : ∀ n : Nat, S_value_Height (value_Height n)
  | 0 => by intro _ _ _ _ _ h; cases h
  | n + 1 => okB_value_Height (ok_value_Height n)

def S_value_Nil (f : (Option Val)) : Prop := ∀ (s0 : S) (r : Val), f = some r → Ctr Go.Proofs.Try.prog 33 [] s0 (fun v τ => RpV τ r v)

set_option maxHeartbeats 1600000 in
set_option maxRecDepth 100000 in
theorem ok_value_Nil : S_value_Nil value_Nil := by
  intro s0 r hf
  unfold value_Nil at hf
  have hE0 : ExtB s0.N s0 s0 := ExtB.refl _ _
  refine ctr_of 2 Go.Proofs.Try.func33 rfl rfl rfl rfl ?_
  refine wp_seq ?_
  refine wp_region_lit ?_
  refine r_alloc (B := s0.N) 1 hE0.size _ [.int .i64 0, .int .i64 0, .string (⟨#[]⟩), .slice none ([] : List Val).length 0, .slice none ([] : List Key).length 0, .slice none ([] : List Ent).length 0, .slice none ([] : List ByteArray).length 0] ti27 rfl ?_
  intro s2 b1 hx3 hb4
  have hE5 := hE0.ext hE0.size hx3
  refine wpList_nil ?_
  refine p_then ?_
  refine wp_seq ?_
  refine wp_region_lit ?_
  refine r_build tst27 [(0, .int .i64 5)] [.int .i64 5, .int .i64 0, .string (⟨#[]⟩), .slice none ([] : List Val).length 0, .slice none ([] : List Key).length 0, .slice none ([] : List Ent).length 0, .slice none ([] : List ByteArray).length 0] (eps_cons rfl eps_nil) rfl rfl ?_
  refine r_store hb4 0 (.agg #[.int .i64 5, .int .i64 0, .string (⟨#[]⟩), .slice none ([] : List Val).length 0, .slice none ([] : List Key).length 0, .slice none ([] : List Ent).length 0, .slice none ([] : List ByteArray).length 0]) [.int .i64 5, .int .i64 0, .string (⟨#[]⟩), .slice none ([] : List Val).length 0, .slice none ([] : List Key).length 0, .slice none ([] : List Ent).length 0, .slice none ([] : List ByteArray).length 0] [.int .i64 5, .int .i64 0, .string (⟨#[]⟩), .slice none ([] : List Val).length 0, .slice none ([] : List Key).length 0, .slice none ([] : List Ent).length 0, .slice none ([] : List ByteArray).length 0] rfl rfl rfl rfl rfl sz27 rfl rfl rfl ?_
  intro s6 hm7 hb8
  have hE9 := hE5.mod hE5.size hm7
  refine wpList_nil ?_
  refine p_then ?_
  refine wp_ret ?_
  obtain rfl := Option.some.inj hf
  refine ret_one (.agg #[.int .i64 5, .int .i64 0, .string (⟨#[]⟩), .slice none ([] : List Val).length 0, .slice none ([] : List Key).length 0, .slice none ([] : List Ent).length 0, .slice none ([] : List ByteArray).length 0]) rfl ⟨rfl, _, rfl, loads_row tr27 (Blk.range hb8 0 [.int .i64 5, .int .i64 0, .string (⟨#[]⟩), .slice none ([] : List Val).length 0, .slice none ([] : List Key).length 0, .slice none ([] : List Ent).length 0, .slice none ([] : List ByteArray).length 0] rfl)⟩ hE9 ?_
  exact (Val.rpvMk (v := (Val.mk 5 0 (⟨#[]⟩) ([] : List Val) ([] : List Key) ([] : List Ent) ([] : List ByteArray))) (Sl.nil_ _ _ _ (Nat.zero_le _)) (Sl.nil_ _ _ _ (Nat.zero_le _)) (Sl.nil_ _ _ _ (Nat.zero_le _)) (Sl.nil_ _ _ _ (Nat.zero_le _)))

def S_slices_Clone_api_Key_api_Key (f : ((List Key) → Option (List Key))) : Prop := ∀ (s0 : S) (v0 : Value) (a0 : (List Key)) (r : (List Key)), RpV s0 a0 v0 → f a0 = some r → ∀ id : Nat, 1000 ≤ id → Ctr Go.Proofs.Try.prog 68 [v0] s0 (fun v τ => OwnV s0.N id 60 τ r v)

set_option maxHeartbeats 1600000 in
set_option maxRecDepth 100000 in
theorem ok_slices_Clone_api_Key_api_Key : S_slices_Clone_api_Key_api_Key slices_Clone_api_Key_api_Key := by
  intro s0 v0 a0 r h0 hf id hid
  obtain ⟨A1, c2, rfl, h3⟩ := RpV.list h0
  unfold slices_Clone_api_Key_api_Key at hf
  have hE0 : ExtB s0.N s0 s0 := ExtB.refl _ _
  refine ctr_of 8 Go.Proofs.Try.func68 rfl rfl rfl rfl ?_
  refine wp_seq ?_
  refine wp_region_lit ?_
  refine r_assign (.slice none ([] : List Key).length 0) rfl rfl ?_
  refine wpList_nil ?_
  refine p_then ?_
  refine wp_seq ?_
  refine wp_seq ?_
  refine wp_region_lit ?_
  refine r_move (.slice A1 a0.length c2) rfl rfl ?_
  refine r_bin (.slice A1 a0.length c2) (.slice none ([] : List Key).length 0) (.bool A1.isNone) rfl rfl rfl rfl (b_nil Go.Proofs.Try.underlying23) ?_
  refine wpList_nil ?_
  refine p_then ?_
  refine (Bool.eq_false_or_eq_true A1.isNone).elim (fun hn4 => ?_) (fun hn4 => ?_)
  · have hx5 := h3.nil_of hn4
    replace hf : some ([] : List Key) = some r := by simpa [hx5, room] using hf
    refine c_true rfl hn4 rfl ?_
    refine wp_seq ?_
    refine wp_region_lit ?_
    refine r_assign (.slice none ([] : List Key).length 0) rfl rfl ?_
    refine wpList_nil ?_
    refine p_then ?_
    refine wp_ret ?_
    refine p_thenr ?_
    obtain rfl := Option.some.inj hf
    refine ret_one (.slice none ([] : List Key).length 0) rfl ⟨rfl, rfl⟩ hE0 ?_
    exact ⟨_, _, rfl, Own.nil_ _⟩
  · refine c_false rfl hn4 rfl ?_
    refine wp_skip ?_
    refine p_then ?_
    refine wp_seq ?_
    refine wp_region_lit ?_
    refine r_buildSlice0 ts23 ?_
    intro s7 A6 hx8
    have hE9 := hE0.ext hE0.size hx8
    refine r_move (.slice A1 a0.length c2) rfl rfl ?_
    obtain ⟨u10, e11, hf⟩ := bind_some hf
    refine r_append (B := s0.N) (id := id) (E := 60) (xs := ([] : List Key)) (ys := a0) hE9.size (Own.nil_ _) (h3.mono hx8.wext) ts23 (room_some e11) rfl rfl rfl rfl ?_
    intro s12 A13 c14 hm15 ho16
    have hE17 := hE9.mod hE9.size hm15
    refine r_assign (.slice A13 a0.length c14) rfl rfl ?_
    refine wpList_nil ?_
    refine p_then ?_
    refine wp_ret ?_
    obtain rfl := Option.some.inj hf
    refine ret_one (.slice A13 a0.length c14) rfl ⟨rfl, rfl⟩ hE17 ?_
    exact ⟨_, _, rfl, ho16⟩

def S_slices_Clone_string_string (f : ((List ByteArray) → Option (List ByteArray))) : Prop := ∀ (s0 : S) (v0 : Value) (a0 : (List ByteArray)) (r : (List ByteArray)), RpV s0 a0 v0 → f a0 = some r → ∀ id : Nat, 1000 ≤ id → Ctr Go.Proofs.Try.prog 69 [v0] s0 (fun v τ => OwnV s0.N id 9 τ r v)

set_option maxHeartbeats 1600000 in
set_option maxRecDepth 100000 in
theorem ok_slices_Clone_string_string : S_slices_Clone_string_string slices_Clone_string_string := by
  intro s0 v0 a0 r h0 hf id hid
  obtain ⟨A1, c2, rfl, h3⟩ := RpV.list h0
  unfold slices_Clone_string_string at hf
  have hE0 : ExtB s0.N s0 s0 := ExtB.refl _ _
  refine ctr_of 8 Go.Proofs.Try.func69 rfl rfl rfl rfl ?_
  refine wp_seq ?_
  refine wp_region_lit ?_
  refine r_assign (.slice none ([] : List ByteArray).length 0) rfl rfl ?_
  refine wpList_nil ?_
  refine p_then ?_
  refine wp_seq ?_
  refine wp_seq ?_
  refine wp_region_lit ?_
  refine r_move (.slice A1 a0.length c2) rfl rfl ?_
  refine r_bin (.slice A1 a0.length c2) (.slice none ([] : List ByteArray).length 0) (.bool A1.isNone) rfl rfl rfl rfl (b_nil Go.Proofs.Try.underlying25) ?_
  refine wpList_nil ?_
  refine p_then ?_
  refine (Bool.eq_false_or_eq_true A1.isNone).elim (fun hn4 => ?_) (fun hn4 => ?_)
  · have hx5 := h3.nil_of hn4
    replace hf : some ([] : List ByteArray) = some r := by simpa [hx5, room] using hf
    refine c_true rfl hn4 rfl ?_
    refine wp_seq ?_
    refine wp_region_lit ?_
    refine r_assign (.slice none ([] : List ByteArray).length 0) rfl rfl ?_
    refine wpList_nil ?_
    refine p_then ?_
    refine wp_ret ?_
    refine p_thenr ?_
    obtain rfl := Option.some.inj hf
    refine ret_one (.slice none ([] : List ByteArray).length 0) rfl ⟨rfl, rfl⟩ hE0 ?_
    exact ⟨_, _, rfl, Own.nil_ _⟩
  · refine c_false rfl hn4 rfl ?_
    refine wp_skip ?_
    refine p_then ?_
    refine wp_seq ?_
    refine wp_region_lit ?_
    refine r_buildSlice0 ts25 ?_
    intro s7 A6 hx8
    have hE9 := hE0.ext hE0.size hx8
    refine r_move (.slice A1 a0.length c2) rfl rfl ?_
    obtain ⟨u10, e11, hf⟩ := bind_some hf
    refine r_append (B := s0.N) (id := id) (E := 9) (xs := ([] : List ByteArray)) (ys := a0) hE9.size (Own.nil_ _) (h3.mono hx8.wext) ts25 (room_some e11) rfl rfl rfl rfl ?_
    intro s12 A13 c14 hm15 ho16
    have hE17 := hE9.mod hE9.size hm15
    refine r_assign (.slice A13 a0.length c14) rfl rfl ?_
    refine wpList_nil ?_
    refine p_then ?_
    refine wp_ret ?_
    obtain rfl := Option.some.inj hf
    refine ret_one (.slice A13 a0.length c14) rfl ⟨rfl, rfl⟩ hE17 ?_
    exact ⟨_, _, rfl, ho16⟩

def S_value_cloneAll (f : ((List Val) → Option (List Val))) : Prop := ∀ (s0 : S) (v0 : Value) (a0 : (List Val)) (r : (List Val)), RpV s0 a0 v0 → f a0 = some r → Ctr Go.Proofs.Try.prog 52 [v0] s0 (fun v τ => RpV τ r v)

def S_value_clone (f : (Val → Option Val)) : Prop := ∀ (s0 : S) (v0 : Value) (a0 : Val) (r : Val), RpV s0 a0 v0 → f a0 = some r → Ctr Go.Proofs.Try.prog 54 [v0] s0 (fun v τ => RpV τ r v)

def S_value_cloneEntries (f : ((List Ent) → Option (List Ent))) : Prop := ∀ (s0 : S) (v0 : Value) (a0 : (List Ent)) (r : (List Ent)), RpV s0 a0 v0 → f a0 = some r → Ctr Go.Proofs.Try.prog 70 [v0] s0 (fun v τ => RpV τ r v)

set_option maxHeartbeats 1600000 in
set_option maxRecDepth 100000 in
theorem okB_value_cloneAll {rec_value_cloneAll : ((List Val) → Option (List Val))} {rec_value_clone : (Val → Option Val)} {rec_value_cloneEntries : ((List Ent) → Option (List Ent))} (hrec_value_cloneAll : S_value_cloneAll rec_value_cloneAll) (hrec_value_clone : S_value_clone rec_value_clone) (hrec_value_cloneEntries : S_value_cloneEntries rec_value_cloneEntries) : S_value_cloneAll (value_cloneAll_B rec_value_cloneAll rec_value_clone rec_value_cloneEntries) := by
  intro s0 v0 a0 r h0 hf
  obtain ⟨A1, c2, rfl, h3⟩ := RpV.list h0
  unfold value_cloneAll_B at hf
  have hE0 : ExtB s0.N s0 s0 := ExtB.refl _ _
  refine ctr_of 19 Go.Proofs.Try.func52 rfl rfl rfl rfl ?_
  refine wp_seq ?_
  refine wp_region_lit ?_
  refine r_assign (.slice none ([] : List Val).length 0) rfl rfl ?_
  refine wpList_nil ?_
  refine p_then ?_
  refine wp_seq ?_
  refine wp_region_lit ?_
  refine r_assign (.slice none ([] : List Val).length 0) rfl rfl ?_
  refine wpList_nil ?_
  refine p_then ?_
  refine wp_seq ?_
  refine wp_seq ?_
  refine wp_region_lit ?_
  refine r_move (.slice A1 a0.length c2) rfl rfl ?_
  refine r_len A1 a0.length c2 rfl rfl Go.Proofs.Try.underlying22 ?_
  refine r_move (.int .i64 0) rfl rfl ?_
  refine wpList_nil ?_
  refine p_then ?_
  refine wp_block ?_
  refine gen_F fun F4 hg5 => ?_
  have hF6 : F4 2 = (.slice none ([] : List Val).length 0) := (hg5 2).trans rfl
  have hF7 : F4 3 = (.slice none ([] : List Val).length 0) := (hg5 3).trans rfl
  have hF8 : F4 6 = (.slice A1 a0.length c2) := (hg5 6).trans rfl
  have hF9 : F4 7 = (.int .i64 (a0.length : Int)) := (hg5 7).trans rfl
  have hF10 : F4 8 = (.int .i64 0) := (hg5 8).trans rfl
  obtain ⟨o87, ho88, hf⟩ := bind_some hf
  refine wp_mono (wp_iter (step := value_cloneAll_l1 rec_value_clone a0) (fun q a w => ∃ (F : Fr) (τ : S) (A1 : Option Addr) (c1 : Nat), a = fr 19 F ∧ w = τ.w ∧ Agr [3, 5, 8, 9, 10, 11, 12, 13, 14, 15, 16, 17] F F4 ∧ ExtB s0.N s0 τ ∧ Wext s0 τ ∧ F 3 = (.slice A1 q.1.length c1) ∧ Own s0.N 1 27 τ q.1 A1 c1 ∧ F 8 = (.int .i64 q.2)) (fun q e a w => e = .exit 0 ∧ ∃ (F : Fr) (τ : S) (A1 : Option Addr) (c1 : Nat), a = fr 19 F ∧ w = τ.w ∧ Agr [3, 5, 8, 9, 10, 11, 12, 13, 14, 15, 16, 17] F F4 ∧ ExtB s0.N s0 τ ∧ Wext s0 τ ∧ F 3 = (.slice A1 q.1.length c1) ∧ Own s0.N 1 27 τ q.1 A1 c1 ∧ F 8 = (.int .i64 q.2)) (by rintro _ a w ⟨h, _⟩; cases h) ?_ _ _ _ _ _ ho88 ?_) ?_
  · intro q11 fl a w hf hI
    obtain ⟨F12, s13, A17, c18, rfl, rfl, hag14, hE15, hW16, h19, h20, h21⟩ := hI
    unfold value_cloneAll_l1 at hf
    have hF22 : F12 2 = (.slice none ([] : List Val).length 0) := (hag14 2 rfl).trans hF6
    have hF23 : F12 6 = (.slice A1 a0.length c2) := (hag14 6 rfl).trans hF8
    have hF24 : F12 7 = (.int .i64 (a0.length : Int)) := (hag14 7 rfl).trans hF9
    refine wp_seq ?_
    refine wp_region_lit ?_
    refine r_bin (.int .i64 q11.2) (.int .i64 (a0.length : Int)) (.bool (decide (q11.2 < (a0.length : Int)))) h21 hF24 rfl rfl (b_lss) ?_
    refine wpList_nil ?_
    refine p_then ?_
    refine wp_seq ?_
    refine if_else hf (fun hc25 hf => ?_) (fun hc25 hf => ?_)
    · refine c_true rfl hc25 rfl ?_
      refine wp_skip ?_
      refine p_then ?_
      refine wp_seq ?_
      refine wp_block ?_
      refine wp_seq ?_
      refine wp_region_lit ?_
      obtain ⟨x26, e27, hf⟩ := bind_some hf
      refine r_indexAddr (T := 22) (E := 27) (h3.mono hW16) e27 hF23 h21 rfl rfl Go.Proofs.Try.underlying22 sz27 ?_
      intro b28 o29 cs30 hc31 hs32
      obtain ⟨A33, c34, A36, c37, A39, c40, A42, c43, rfl, h35, h38, h41, h44⟩ := Val.cells_iff.1 hc31
      refine r_load b28 o29 (.agg #[.int .i64 x26.Kind, .int .i64 x26.Int_, .string x26.Text, .slice A33 x26.Kids.length c34, .slice A36 x26.Keys.length c37, .slice A39 x26.Entries.length c40, .slice A42 x26.Labels.length c43]) rfl rfl (loads_row tr27 hs32.2) ?_
      refine r_alloc (B := s0.N) 2 hE15.size _ [.int .i64 0, .int .i64 0, .string (⟨#[]⟩), .slice none ([] : List Val).length 0, .slice none ([] : List Key).length 0, .slice none ([] : List Ent).length 0, .slice none ([] : List ByteArray).length 0] ti27 rfl ?_
      intro s46 b45 hx47 hb48
      have hE49 := hE15.ext hE15.size hx47
      refine r_store hb48 0 (.agg #[.int .i64 x26.Kind, .int .i64 x26.Int_, .string x26.Text, .slice A33 x26.Kids.length c34, .slice A36 x26.Keys.length c37, .slice A39 x26.Entries.length c40, .slice A42 x26.Labels.length c43]) [.int .i64 x26.Kind, .int .i64 x26.Int_, .string x26.Text, .slice A33 x26.Kids.length c34, .slice A36 x26.Keys.length c37, .slice A39 x26.Entries.length c40, .slice A42 x26.Labels.length c43] [.int .i64 x26.Kind, .int .i64 x26.Int_, .string x26.Text, .slice A33 x26.Kids.length c34, .slice A36 x26.Keys.length c37, .slice A39 x26.Entries.length c40, .slice A42 x26.Labels.length c43] rfl rfl rfl rfl rfl sz27 rfl rfl rfl ?_
      intro s50 hm51 hb52
      have hE53 := hE49.mod hE49.size hm51
      refine wpList_nil ?_
      refine p_then ?_
      refine wp_region_lit ?_
      refine r_move (.slice A17 q11.1.length c18) h19 rfl ?_
      refine r_load b45 0 (.agg #[.int .i64 x26.Kind, .int .i64 x26.Int_, .string x26.Text, .slice A33 x26.Kids.length c34, .slice A36 x26.Keys.length c37, .slice A39 x26.Entries.length c40, .slice A42 x26.Labels.length c43]) rfl rfl (loads_row tr27 (Blk.range hb52 0 [.int .i64 x26.Kind, .int .i64 x26.Int_, .string x26.Text, .slice A33 x26.Kids.length c34, .slice A36 x26.Keys.length c37, .slice A39 x26.Entries.length c40, .slice A42 x26.Labels.length c43] rfl)) ?_
      obtain ⟨r54, e55, hf⟩ := bind_some hf
      refine r_call [.agg #[.int .i64 x26.Kind, .int .i64 x26.Int_, .string x26.Text, .slice A33 x26.Kids.length c34, .slice A36 x26.Keys.length c37, .slice A39 x26.Entries.length c40, .slice A42 x26.Labels.length c43]] (evs1 rfl) rfl (hrec_value_clone _ _ _ _ (Val.rpvMk (v := x26) ((h35.mono hx47.wext).mono hm51.wext) ((h38.mono hx47.wext).mono hm51.wext) ((h41.mono hx47.wext).mono hm51.wext) ((h44.mono hx47.wext).mono hm51.wext)) e55) ?_
      intro v57 s56 hx58 hr59
      have hE60 := hE53.ext hE53.size hx58
      obtain ⟨A61, c62, A64, c65, A67, c68, A70, c71, rfl, h63, h66, h69, h72⟩ := Val.rpv hr59
      refine r_buildSlice (B := s0.N) (E := 27) 3 hE60.size ts22 (xs := [r54]) [.agg #[.int .i64 r54.Kind, .int .i64 r54.Int_, .string r54.Text, .slice A61 r54.Kids.length c62, .slice A64 r54.Keys.length c65, .slice A67 r54.Entries.length c68, .slice A70 r54.Labels.length c71]] (eps_cons rfl eps_nil) rfl rfl rfl (by decide) rfl (by simp [Value.cells, Rp.sz]) ⟨_, _, rfl, (Val.cells_iff.2 ⟨_, _, _, _, _, _, _, _, rfl, h63, h66, h69, h72⟩), rfl⟩ ?_
      intro s73 A74 c75 hx76 ho77
      have hE78 := hE60.ext hE60.size hx76
      obtain ⟨u79, e80, hf⟩ := bind_some hf
      refine r_append (B := s0.N) (id := 1) (E := 27) (xs := q11.1) (ys := [r54]) hE78.size (((((h20.ext hx47).mod hm51 rfl).ext hx58).ext hx76)) ho77.sl ts22 (room_some e80) rfl rfl rfl rfl ?_
      intro s81 A82 c83 hm84 ho85
      have hE86 := hE78.mod hE78.size hm84
      refine r_assign (.slice A82 (q11.1 ++ [r54]).length c83) rfl rfl ?_
      refine wpList_nil ?_
      refine p_bn ?_
      refine p_then ?_
      refine wp_region_lit ?_
      refine r_bin (.int .i64 q11.2) (.int .i64 1) (.int .i64 (w64 (q11.2 + 1))) h21 rfl rfl rfl (b_add) ?_
      refine r_move (.int .i64 (w64 (q11.2 + 1))) rfl rfl ?_
      refine wpList_nil ?_
      obtain rfl := Option.some.inj hf
      exact ⟨rfl, _, _, A82, c83, rfl, rfl, ((((((((((((((hag14).put rfl).put rfl).put rfl).put rfl).put0).put rfl).put rfl).put rfl).put rfl).put rfl).put rfl).put rfl).put rfl), hE86, (((((((Wext.refl _).trans hW16).trans hx47.wext).trans hm51.wext).trans hx58.wext).trans hx76.wext).trans hm84.wext), rfl, (ho85), rfl⟩
    · refine c_false rfl hc25 rfl ?_
      refine wp_exit ?_
      refine p_thenx ?_
      obtain rfl := Option.some.inj hf
      exact ⟨rfl, _, _, A17, c18, rfl, rfl, ((hag14).put rfl), hE15, ((Wext.refl _).trans hW16), h19, (h20), h21⟩
  · exact ⟨_, _, none, 0, rfl, rfl, (Agr.refl _ _), hE0, (Wext.refl _), hF7, (Own.nil_ _), hF10⟩
  · rintro e a w ⟨rfl, F90, s91, A95, c96, rfl, rfl, hag92, hE93, hW94, h97, h98, h99⟩
    have hF100 : F90 2 = (.slice none ([] : List Val).length 0) := (hag92 2 rfl).trans hF6
    have hF101 : F90 6 = (.slice A1 a0.length c2) := (hag92 6 rfl).trans hF8
    have hF102 : F90 7 = (.int .i64 (a0.length : Int)) := (hag92 7 rfl).trans hF9
    refine p_bx ?_
    refine p_then ?_
    refine wp_seq ?_
    refine wp_region_lit ?_
    refine r_move (.slice A95 o87.1.length c96) h97 rfl ?_
    refine r_assign (.slice A95 o87.1.length c96) rfl rfl ?_
    refine wpList_nil ?_
    refine p_then ?_
    refine wp_ret ?_
    obtain rfl := Option.some.inj hf
    refine ret_one (.slice A95 o87.1.length c96) rfl ⟨rfl, rfl⟩ hE93 ?_
    exact (RpV.mkList h98.sl)

set_option maxHeartbeats 1600000 in
set_option maxRecDepth 100000 in
theorem okB_value_clone {rec_value_cloneAll : ((List Val) → Option (List Val))} {rec_value_clone : (Val → Option Val)} {rec_value_cloneEntries : ((List Ent) → Option (List Ent))} (hrec_value_cloneAll : S_value_cloneAll rec_value_cloneAll) (hrec_value_clone : S_value_clone rec_value_clone) (hrec_value_cloneEntries : S_value_cloneEntries rec_value_cloneEntries) : S_value_clone (value_clone_B rec_value_cloneAll rec_value_clone rec_value_cloneEntries) := by
  intro s0 v0 a0 r h0 hf
  obtain ⟨A1, c2, A4, c5, A7, c8, A10, c11, rfl, h3, h6, h9, h12⟩ := Val.rpv h0
  unfold value_clone_B at hf
  have hE0 : ExtB s0.N s0 s0 := ExtB.refl _ _
  refine ctr_of 20 Go.Proofs.Try.func54 rfl rfl rfl rfl ?_
  refine wp_seq ?_
  refine wp_region_lit ?_
  refine r_box (B := s0.N) 1 hE0.size (.agg #[.int .i64 a0.Kind, .int .i64 a0.Int_, .string a0.Text, .slice A1 a0.Kids.length c2, .slice A4 a0.Keys.length c5, .slice A7 a0.Entries.length c8, .slice A10 a0.Labels.length c11]) [.int .i64 a0.Kind, .int .i64 a0.Int_, .string a0.Text, .slice A1 a0.Kids.length c2, .slice A4 a0.Keys.length c5, .slice A7 a0.Entries.length c8, .slice A10 a0.Labels.length c11] rfl rfl rfl ?_
  intro s14 b13 hx15 hb16
  have hE17 := hE0.ext hE0.size hx15
  refine r_alloc (B := s0.N) 2 hE17.size _ [.int .i64 0, .int .i64 0, .string (⟨#[]⟩), .slice none ([] : List Val).length 0, .slice none ([] : List Key).length 0, .slice none ([] : List Ent).length 0, .slice none ([] : List ByteArray).length 0] ti27 rfl ?_
  intro s19 b18 hx20 hb21
  have hE22 := hE17.ext hE17.size hx20
  refine wpList_nil ?_
  refine p_then ?_
  refine wp_seq ?_
  refine wp_region_lit ?_
  refine r_fieldAddr b13 0 3 3 rfl rfl fo27_3 rfl ?_
  refine r_load b13 3 (.slice A1 a0.Kids.length c2) rfl rfl (loads_one to22 (((hb16.ext hx20).cell 3).trans rfl)) ?_
  obtain ⟨r23, e24, hf⟩ := bind_some hf
  refine r_call [.slice A1 a0.Kids.length c2] (evs1 rfl) rfl (hrec_value_cloneAll _ _ _ _ (RpV.mkList ((h3.mono hx15.wext).mono hx20.wext)) e24) ?_
  intro v26 s25 hx27 hr28
  have hE29 := hE22.ext hE22.size hx27
  obtain ⟨A30, c31, rfl, h32⟩ := RpV.list hr28
  refine r_fieldAddr b13 0 3 3 rfl rfl fo27_3 rfl ?_
  refine r_store ((hb16.ext hx20).ext hx27) 3 (.slice A30 r23.length c31) [.slice A30 r23.length c31] [.int .i64 a0.Kind, .int .i64 a0.Int_, .string a0.Text, .slice A30 r23.length c31, .slice A4 a0.Keys.length c5, .slice A7 a0.Entries.length c8, .slice A10 a0.Labels.length c11] rfl rfl rfl rfl rfl sz22 rfl rfl rfl ?_
  intro s33 hm34 hb35
  have hE36 := hE29.mod hE29.size hm34
  refine wpList_nil ?_
  refine p_then ?_
  refine wp_seq ?_
  refine wp_region_lit ?_
  refine r_fieldAddr b13 0 4 4 rfl rfl fo27_4 rfl ?_
  refine r_load b13 4 (.slice A4 a0.Keys.length c5) rfl rfl (loads_one to23 ((hb35.cell 4).trans rfl)) ?_
  obtain ⟨r37, e38, hf⟩ := bind_some hf
  refine r_call [.slice A4 a0.Keys.length c5] (evs1 rfl) rfl (ok_slices_Clone_api_Key_api_Key _ _ _ _ (RpV.mkList ((((h6.mono hx15.wext).mono hx20.wext).mono hx27.wext).mono hm34.wext)) e38 1003 (by omega)) ?_
  intro v40 s39 hx41 hr42
  have hE43 := hE36.ext hE36.size hx41
  obtain ⟨A44, c45, rfl, ho46⟩ := hr42
  refine r_fieldAddr b13 0 4 4 rfl rfl fo27_4 rfl ?_
  refine r_store (hb35.ext hx41) 4 (.slice A44 r37.length c45) [.slice A44 r37.length c45] [.int .i64 a0.Kind, .int .i64 a0.Int_, .string a0.Text, .slice A30 r23.length c31, .slice A44 r37.length c45, .slice A7 a0.Entries.length c8, .slice A10 a0.Labels.length c11] rfl rfl rfl rfl rfl sz23 rfl rfl rfl ?_
  intro s47 hm48 hb49
  have hE50 := hE43.mod hE43.size hm48
  refine wpList_nil ?_
  refine p_then ?_
  refine wp_seq ?_
  refine wp_region_lit ?_
  refine r_fieldAddr b13 0 6 6 rfl rfl fo27_6 rfl ?_
  refine r_load b13 6 (.slice A10 a0.Labels.length c11) rfl rfl (loads_one to25 ((hb49.cell 6).trans rfl)) ?_
  obtain ⟨r51, e52, hf⟩ := bind_some hf
  refine r_call [.slice A10 a0.Labels.length c11] (evs1 rfl) rfl (ok_slices_Clone_string_string _ _ _ _ (RpV.mkList ((((((h12.mono hx15.wext).mono hx20.wext).mono hx27.wext).mono hm34.wext).mono hx41.wext).mono hm48.wext)) e52 1004 (by omega)) ?_
  intro v54 s53 hx55 hr56
  have hE57 := hE50.ext hE50.size hx55
  obtain ⟨A58, c59, rfl, ho60⟩ := hr56
  refine r_fieldAddr b13 0 6 6 rfl rfl fo27_6 rfl ?_
  refine r_store (hb49.ext hx55) 6 (.slice A58 r51.length c59) [.slice A58 r51.length c59] [.int .i64 a0.Kind, .int .i64 a0.Int_, .string a0.Text, .slice A30 r23.length c31, .slice A44 r37.length c45, .slice A7 a0.Entries.length c8, .slice A58 r51.length c59] rfl rfl rfl rfl rfl sz25 rfl rfl rfl ?_
  intro s61 hm62 hb63
  have hE64 := hE57.mod hE57.size hm62
  refine wpList_nil ?_
  refine p_then ?_
  refine wp_seq ?_
  refine wp_region_lit ?_
  refine r_fieldAddr b13 0 5 5 rfl rfl fo27_5 rfl ?_
  refine r_load b13 5 (.slice A7 a0.Entries.length c8) rfl rfl (loads_one to24 ((hb63.cell 5).trans rfl)) ?_
  obtain ⟨r65, e66, hf⟩ := bind_some hf
  refine r_call [.slice A7 a0.Entries.length c8] (evs1 rfl) rfl (hrec_value_cloneEntries _ _ _ _ (RpV.mkList ((((((((h9.mono hx15.wext).mono hx20.wext).mono hx27.wext).mono hm34.wext).mono hx41.wext).mono hm48.wext).mono hx55.wext).mono hm62.wext)) e66) ?_
  intro v68 s67 hx69 hr70
  have hE71 := hE64.ext hE64.size hx69
  obtain ⟨A72, c73, rfl, h74⟩ := RpV.list hr70
  refine r_fieldAddr b13 0 5 5 rfl rfl fo27_5 rfl ?_
  refine r_store (hb63.ext hx69) 5 (.slice A72 r65.length c73) [.slice A72 r65.length c73] [.int .i64 a0.Kind, .int .i64 a0.Int_, .string a0.Text, .slice A30 r23.length c31, .slice A44 r37.length c45, .slice A72 r65.length c73, .slice A58 r51.length c59] rfl rfl rfl rfl rfl sz24 rfl rfl rfl ?_
  intro s75 hm76 hb77
  have hE78 := hE71.mod hE71.size hm76
  refine wpList_nil ?_
  refine p_then ?_
  refine wp_seq ?_
  refine wp_region_lit ?_
  refine r_load b13 0 (.agg #[.int .i64 a0.Kind, .int .i64 a0.Int_, .string a0.Text, .slice A30 r23.length c31, .slice A44 r37.length c45, .slice A72 r65.length c73, .slice A58 r51.length c59]) rfl rfl (loads_row tr27 (Blk.range hb77 0 [.int .i64 a0.Kind, .int .i64 a0.Int_, .string a0.Text, .slice A30 r23.length c31, .slice A44 r37.length c45, .slice A72 r65.length c73, .slice A58 r51.length c59] rfl)) ?_
  refine r_store ((((((((hb21.ext hx27).mod hm34 rfl).ext hx41).mod hm48 rfl).ext hx55).mod hm62 rfl).ext hx69).mod hm76 rfl) 0 (.agg #[.int .i64 a0.Kind, .int .i64 a0.Int_, .string a0.Text, .slice A30 r23.length c31, .slice A44 r37.length c45, .slice A72 r65.length c73, .slice A58 r51.length c59]) [.int .i64 a0.Kind, .int .i64 a0.Int_, .string a0.Text, .slice A30 r23.length c31, .slice A44 r37.length c45, .slice A72 r65.length c73, .slice A58 r51.length c59] [.int .i64 a0.Kind, .int .i64 a0.Int_, .string a0.Text, .slice A30 r23.length c31, .slice A44 r37.length c45, .slice A72 r65.length c73, .slice A58 r51.length c59] rfl rfl rfl rfl rfl sz27 rfl rfl rfl ?_
  intro s79 hm80 hb81
  have hE82 := hE78.mod hE78.size hm80
  refine wpList_nil ?_
  refine p_then ?_
  refine wp_ret ?_
  obtain rfl := Option.some.inj hf
  refine ret_one (.agg #[.int .i64 a0.Kind, .int .i64 a0.Int_, .string a0.Text, .slice A30 r23.length c31, .slice A44 r37.length c45, .slice A72 r65.length c73, .slice A58 r51.length c59]) rfl ⟨rfl, _, rfl, loads_row tr27 (Blk.range hb81 0 [.int .i64 a0.Kind, .int .i64 a0.Int_, .string a0.Text, .slice A30 r23.length c31, .slice A44 r37.length c45, .slice A72 r65.length c73, .slice A58 r51.length c59] rfl)⟩ hE82 ?_
  exact (Val.rpvMk (v := (Val.mk a0.Kind a0.Int_ a0.Text r23 r37 r65 r51)) ((((((((h32.mono hm34.wext).mono hx41.wext).mono hm48.wext).mono hx55.wext).mono hm62.wext).mono hx69.wext).mono hm76.wext).mono hm80.wext) ((((((((ho46.base (by have := hE36.size; omega)).mod hm48 rfl).ext hx55).mod hm62 rfl).ext hx69).mod hm76 rfl).mod hm80 rfl).sl) ((h74.mono hm76.wext).mono hm80.wext) ((((((ho60.base (by have := hE50.size; omega)).mod hm62 rfl).ext hx69).mod hm76 rfl).mod hm80 rfl).sl))

set_option maxHeartbeats 1600000 in
set_option maxRecDepth 100000 in
theorem okB_value_cloneEntries {rec_value_cloneAll : ((List Val) → Option (List Val))} {rec_value_clone : (Val → Option Val)} {rec_value_cloneEntries : ((List Ent) → Option (List Ent))} (hrec_value_cloneAll : S_value_cloneAll rec_value_cloneAll) (hrec_value_clone : S_value_clone rec_value_clone) (hrec_value_cloneEntries : S_value_cloneEntries rec_value_cloneEntries) : S_value_cloneEntries (value_cloneEntries_B rec_value_cloneAll rec_value_clone rec_value_cloneEntries) := by
  intro s0 v0 a0 r h0 hf
  obtain ⟨A1, c2, rfl, h3⟩ := RpV.list h0
  unfold value_cloneEntries_B at hf
  have hE0 : ExtB s0.N s0 s0 := ExtB.refl _ _
  refine ctr_of 26 Go.Proofs.Try.func70 rfl rfl rfl rfl ?_
  refine wp_seq ?_
  refine wp_region_lit ?_
  refine r_assign (.slice none ([] : List Ent).length 0) rfl rfl ?_
  refine wpList_nil ?_
  refine p_then ?_
  refine wp_seq ?_
  refine wp_region_lit ?_
  refine r_assign (.slice none ([] : List Ent).length 0) rfl rfl ?_
  refine wpList_nil ?_
  refine p_then ?_
  refine wp_seq ?_
  refine wp_seq ?_
  refine wp_region_lit ?_
  refine r_move (.slice A1 a0.length c2) rfl rfl ?_
  refine r_len A1 a0.length c2 rfl rfl Go.Proofs.Try.underlying24 ?_
  refine r_move (.int .i64 0) rfl rfl ?_
  refine wpList_nil ?_
  refine p_then ?_
  refine wp_block ?_
  refine gen_F fun F4 hg5 => ?_
  have hF6 : F4 2 = (.slice none ([] : List Ent).length 0) := (hg5 2).trans rfl
  have hF7 : F4 3 = (.slice none ([] : List Ent).length 0) := (hg5 3).trans rfl
  have hF8 : F4 6 = (.slice A1 a0.length c2) := (hg5 6).trans rfl
  have hF9 : F4 7 = (.int .i64 (a0.length : Int)) := (hg5 7).trans rfl
  have hF10 : F4 8 = (.int .i64 0) := (hg5 8).trans rfl
  obtain ⟨o395, ho396, hf⟩ := bind_some hf
  refine wp_mono (wp_iter (step := value_cloneEntries_l1 rec_value_cloneAll rec_value_clone a0) (fun q a w => ∃ (F : Fr) (τ : S) (A1 : Option Addr) (c1 : Nat), a = fr 26 F ∧ w = τ.w ∧ Agr [3, 5, 8, 9, 10, 11, 12, 13, 14, 15, 16, 17, 18, 19, 20, 21, 22, 23, 24] F F4 ∧ ExtB s0.N s0 τ ∧ Wext s0 τ ∧ F 3 = (.slice A1 q.1.length c1) ∧ Own s0.N 1 65 τ q.1 A1 c1 ∧ F 8 = (.int .i64 q.2)) (fun q e a w => e = .exit 0 ∧ ∃ (F : Fr) (τ : S) (A1 : Option Addr) (c1 : Nat), a = fr 26 F ∧ w = τ.w ∧ Agr [3, 5, 8, 9, 10, 11, 12, 13, 14, 15, 16, 17, 18, 19, 20, 21, 22, 23, 24] F F4 ∧ ExtB s0.N s0 τ ∧ Wext s0 τ ∧ F 3 = (.slice A1 q.1.length c1) ∧ Own s0.N 1 65 τ q.1 A1 c1 ∧ F 8 = (.int .i64 q.2)) (by rintro _ a w ⟨h, _⟩; cases h) ?_ _ _ _ _ _ ho396 ?_) ?_
  · intro q11 fl a w hf hI
    obtain ⟨F12, s13, A17, c18, rfl, rfl, hag14, hE15, hW16, h19, h20, h21⟩ := hI
    unfold value_cloneEntries_l1 at hf
    have hF22 : F12 2 = (.slice none ([] : List Ent).length 0) := (hag14 2 rfl).trans hF6
    have hF23 : F12 6 = (.slice A1 a0.length c2) := (hag14 6 rfl).trans hF8
    have hF24 : F12 7 = (.int .i64 (a0.length : Int)) := (hag14 7 rfl).trans hF9
    refine wp_seq ?_
    refine wp_region_lit ?_
    refine r_bin (.int .i64 q11.2) (.int .i64 (a0.length : Int)) (.bool (decide (q11.2 < (a0.length : Int)))) h21 hF24 rfl rfl (b_lss) ?_
    refine wpList_nil ?_
    refine p_then ?_
    refine wp_seq ?_
    refine if_else hf (fun hc25 hf => ?_) (fun hc25 hf => ?_)
    · refine c_true rfl hc25 rfl ?_
      refine wp_skip ?_
      refine p_then ?_
      refine wp_seq ?_
      refine wp_block ?_
      refine wp_seq ?_
      refine wp_region_lit ?_
      obtain ⟨x26, e27, hf⟩ := bind_some hf
      refine r_indexAddr (T := 24) (E := 65) (h3.mono hW16) e27 hF23 h21 rfl rfl Go.Proofs.Try.underlying24 sz65 ?_
      intro b28 o29 cs30 hc31 hs32
      obtain ⟨A33, c34, A36, c37, A39, c40, A42, c43, A45, c46, rfl, h35, h38, h41, h44, h47⟩ := Ent.cells_iff.1 hc31
      refine r_load b28 o29 (.agg #[.slice A33 x26.Args.length c34, .bool x26.Fails, .int .i64 x26.Result.Kind, .int .i64 x26.Result.Int_, .string x26.Result.Text, .slice A36 x26.Result.Kids.length c37, .slice A39 x26.Result.Keys.length c40, .slice A42 x26.Result.Entries.length c43, .slice A45 x26.Result.Labels.length c46]) rfl rfl (loads_row tr65 hs32.2) ?_
      refine r_alloc (B := s0.N) 2 hE15.size _ [.slice none ([] : List Val).length 0, .bool false, .int .i64 0, .int .i64 0, .string (⟨#[]⟩), .slice none ([] : List Val).length 0, .slice none ([] : List Key).length 0, .slice none ([] : List Ent).length 0, .slice none ([] : List ByteArray).length 0] ti65 rfl ?_
      intro s49 b48 hx50 hb51
      have hE52 := hE15.ext hE15.size hx50
      refine r_store hb51 0 (.agg #[.slice A33 x26.Args.length c34, .bool x26.Fails, .int .i64 x26.Result.Kind, .int .i64 x26.Result.Int_, .string x26.Result.Text, .slice A36 x26.Result.Kids.length c37, .slice A39 x26.Result.Keys.length c40, .slice A42 x26.Result.Entries.length c43, .slice A45 x26.Result.Labels.length c46]) [.slice A33 x26.Args.length c34, .bool x26.Fails, .int .i64 x26.Result.Kind, .int .i64 x26.Result.Int_, .string x26.Result.Text, .slice A36 x26.Result.Kids.length c37, .slice A39 x26.Result.Keys.length c40, .slice A42 x26.Result.Entries.length c43, .slice A45 x26.Result.Labels.length c46] [.slice A33 x26.Args.length c34, .bool x26.Fails, .int .i64 x26.Result.Kind, .int .i64 x26.Result.Int_, .string x26.Result.Text, .slice A36 x26.Result.Kids.length c37, .slice A39 x26.Result.Keys.length c40, .slice A42 x26.Result.Entries.length c43, .slice A45 x26.Result.Labels.length c46] rfl rfl rfl rfl rfl sz65 rfl rfl rfl ?_
      intro s53 hm54 hb55
      have hE56 := hE52.mod hE52.size hm54
      refine wpList_nil ?_
      refine p_then ?_
      obtain ⟨r57, e58, hf⟩ := bind_some hf
      obtain ⟨r59, e60, hf⟩ := bind_some hf
      obtain ⟨u61, e62, hf⟩ := bind_some hf
      refine wp_draw (B := s0.N) [some 12, some 13, some 14, some 15, some 16, some 17, some 18, some 19, some 20, some 21, some 22, some 23, some 3] [[], [], [1], [1, 2], [], [4], [], [6], [1, 2, 3, 6, 7], [1, 2, 3, 4, 5, 6, 7, 8], [1, 2, 3, 4, 5, 6, 7, 8, 9], [0, 1, 2, 3, 4, 5, 6, 7, 8, 9, 10], [0, 1, 2, 3, 4, 5, 6, 7, 8, 9, 10, 11]] [Fct.eqv (.slice A17 q11.1.length c18), Fct.eqv (.pointer (some ⟨b48, 0, none⟩)), Fct.data (x26.Args : (List Val)), Fct.data (r57 : (List Val)), Fct.eqv (.pointer (some ⟨b48, 1, none⟩)), Fct.eqv (.bool x26.Fails), Fct.eqv (.pointer (some ⟨b48, 2, none⟩)), Fct.data (x26.Result : Val), Fct.data (r59 : Val), Fct.data ((Ent.mk r57 x26.Fails r59) : Ent), Fct.data ([(Ent.mk r57 x26.Fails r59)] : (List Ent)), Fct.data (q11.1 ++ [(Ent.mk r57 x26.Fails r59)] : (List Ent)), Fct.data (q11.1 ++ [(Ent.mk r57 x26.Fails r59)] : (List Ent))] (fun D F τ => (Blk s0.N 2 τ b48 65 [.slice A33 x26.Args.length c34, .bool x26.Fails, .int .i64 x26.Result.Kind, .int .i64 x26.Result.Int_, .string x26.Result.Text, .slice A36 x26.Result.Kids.length c37, .slice A39 x26.Result.Keys.length c40, .slice A42 x26.Result.Entries.length c43, .slice A45 x26.Result.Labels.length c46]) ∧ (D 11 = false → Own s0.N 1 65 τ q11.1 A17 c18) ∧ (D 11 = true → ∃ zA zc, F 23 = (.slice zA (q11.1 ++ [(Ent.mk r57 x26.Fails r59)]).length zc) ∧ Own s0.N 1 65 τ (q11.1 ++ [(Ent.mk r57 x26.Fails r59)]) zA zc ∧ (D 12 = true → F 3 = (.slice zA (q11.1 ++ [(Ent.mk r57 x26.Fails r59)]).length zc)))) (by kernel_rfl) rfl (by decide) (by decide) ⟨(hb55.ext (ext_draw _)), (fun _ => (((h20.ext hx50).mod hm54 rfl).ext (ext_draw _))), (fun h => Bool.noConfusion h)⟩ (by decide) (by decide) ⟨?_, ?_, ?_, ?_, ?_, ?_, ?_, ?_, ?_, ?_, ?_, ?_, ?_, trivial⟩ ?_
      · intro D66 F67 s68 d69 d70 d71 hE72 hW73 hG74 hfr75 hR76
        have hE77 := hE56.trans hE72
        obtain ⟨g78, g79, g80⟩ := hG74
        refine r_move (.slice A17 q11.1.length c18) ((hfr75 3 rfl).trans h19) rfl ?_
        refine wpList_nil ?_
        exact ⟨_, _, rfl, rfl, ExtB.refl _ _, Wext.refl _, rfl, ⟨g78, (fun h => (g79 h)), (fun h => Bool.noConfusion ((d71 11 rfl).symm.trans h))⟩⟩
      · intro D81 F82 s83 d84 d85 d86 hE87 hW88 hG89 hfr90 hR91
        have hE92 := hE56.trans hE87
        obtain ⟨g93, g94, g95⟩ := hG89
        have hb96 := g93
        refine r_fieldAddr b48 0 0 0 ((hfr90 5 rfl).trans rfl) rfl fo65_0 rfl ?_
        refine wpList_nil ?_
        exact ⟨_, _, rfl, rfl, ExtB.refl _ _, Wext.refl _, rfl, ⟨g93, (fun h => (g94 h)), (fun h => Bool.noConfusion ((d86 11 rfl).symm.trans h))⟩⟩
      · intro D97 F98 s99 d100 d101 d102 hE103 hW104 hG105 hfr106 hR107
        have hE108 := hE56.trans hE103
        obtain ⟨g109, g110, g111⟩ := hG105
        have hb112 := g109
        have q113 : F98 13 = (.pointer (some ⟨b48, 0, none⟩)) := hR107 1 rfl 13 rfl
        refine r_load b48 0 (.slice A33 x26.Args.length c34) q113 rfl (loads_one to22 ((hb112.cell 0).trans rfl)) ?_
        refine wpList_nil ?_
        exact ⟨_, _, rfl, rfl, ExtB.refl _ _, Wext.refl _, (RpV.mkList (((h35.mono hx50.wext).mono hm54.wext).mono hW104)), ⟨g109, (fun h => (g110 h)), (fun h => Bool.noConfusion ((d102 11 rfl).symm.trans h))⟩⟩
      · intro D114 F115 s116 d117 d118 d119 hE120 hW121 hG122 hfr123 hR124
        have hE125 := hE56.trans hE120
        obtain ⟨g126, g127, g128⟩ := hG122
        have q129 : RpV s116 (x26.Args : (List Val)) (F115 14) := hR124 2 rfl 14 rfl
        obtain ⟨A130, c131, hv133, h132⟩ := RpV.list q129
        refine r_call [.slice A130 x26.Args.length c131] (evs1 hv133) rfl (hrec_value_cloneAll _ _ _ _ (RpV.mkList h132) e58) ?_
        intro v135 s134 hx136 hr137
        have hE138 := hE125.ext hE125.size hx136
        obtain ⟨A139, c140, rfl, h141⟩ := RpV.list hr137
        refine wpList_nil ?_
        exact ⟨_, _, rfl, rfl, (ExtB.refl _ _).trans (hx136.mono hE125.size), (Wext.refl _).trans hx136.wext, (RpV.mkList h141), ⟨(g126.ext hx136), (fun h => ((g127 h).ext hx136)), (fun h => Bool.noConfusion ((d119 11 rfl).symm.trans h))⟩⟩
      · intro D142 F143 s144 d145 d146 d147 hE148 hW149 hG150 hfr151 hR152
        have hE153 := hE56.trans hE148
        obtain ⟨g154, g155, g156⟩ := hG150
        have hb157 := g154
        refine r_fieldAddr b48 0 1 1 ((hfr151 5 rfl).trans rfl) rfl fo65_1 rfl ?_
        refine wpList_nil ?_
        exact ⟨_, _, rfl, rfl, ExtB.refl _ _, Wext.refl _, rfl, ⟨g154, (fun h => (g155 h)), (fun h => Bool.noConfusion ((d147 11 rfl).symm.trans h))⟩⟩
      · intro D158 F159 s160 d161 d162 d163 hE164 hW165 hG166 hfr167 hR168
        have hE169 := hE56.trans hE164
        obtain ⟨g170, g171, g172⟩ := hG166
        have hb173 := g170
        have q174 : F159 16 = (.pointer (some ⟨b48, 1, none⟩)) := hR168 4 rfl 16 rfl
        refine r_load b48 1 (.bool x26.Fails) q174 rfl (loads_one to4 ((hb173.cell 1).trans rfl)) ?_
        refine wpList_nil ?_
        exact ⟨_, _, rfl, rfl, ExtB.refl _ _, Wext.refl _, rfl, ⟨g170, (fun h => (g171 h)), (fun h => Bool.noConfusion ((d163 11 rfl).symm.trans h))⟩⟩
      · intro D175 F176 s177 d178 d179 d180 hE181 hW182 hG183 hfr184 hR185
        have hE186 := hE56.trans hE181
        obtain ⟨g187, g188, g189⟩ := hG183
        have hb190 := g187
        refine r_fieldAddr b48 0 2 2 ((hfr184 5 rfl).trans rfl) rfl fo65_2 rfl ?_
        refine wpList_nil ?_
        exact ⟨_, _, rfl, rfl, ExtB.refl _ _, Wext.refl _, rfl, ⟨g187, (fun h => (g188 h)), (fun h => Bool.noConfusion ((d180 11 rfl).symm.trans h))⟩⟩
      · intro D191 F192 s193 d194 d195 d196 hE197 hW198 hG199 hfr200 hR201
        have hE202 := hE56.trans hE197
        obtain ⟨g203, g204, g205⟩ := hG199
        have hb206 := g203
        have q207 : F192 18 = (.pointer (some ⟨b48, 2, none⟩)) := hR201 6 rfl 18 rfl
        refine r_load b48 2 (.agg #[.int .i64 x26.Result.Kind, .int .i64 x26.Result.Int_, .string x26.Result.Text, .slice A36 x26.Result.Kids.length c37, .slice A39 x26.Result.Keys.length c40, .slice A42 x26.Result.Entries.length c43, .slice A45 x26.Result.Labels.length c46]) q207 rfl (loads_row tr27 (Blk.range hb206 2 [.int .i64 x26.Result.Kind, .int .i64 x26.Result.Int_, .string x26.Result.Text, .slice A36 x26.Result.Kids.length c37, .slice A39 x26.Result.Keys.length c40, .slice A42 x26.Result.Entries.length c43, .slice A45 x26.Result.Labels.length c46] rfl)) ?_
        refine wpList_nil ?_
        exact ⟨_, _, rfl, rfl, ExtB.refl _ _, Wext.refl _, (Val.rpvMk (v := x26.Result) (((h38.mono hx50.wext).mono hm54.wext).mono hW198) (((h41.mono hx50.wext).mono hm54.wext).mono hW198) (((h44.mono hx50.wext).mono hm54.wext).mono hW198) (((h47.mono hx50.wext).mono hm54.wext).mono hW198)), ⟨g203, (fun h => (g204 h)), (fun h => Bool.noConfusion ((d196 11 rfl).symm.trans h))⟩⟩
      · intro D208 F209 s210 d211 d212 d213 hE214 hW215 hG216 hfr217 hR218
        have hE219 := hE56.trans hE214
        obtain ⟨g220, g221, g222⟩ := hG216
        have q223 : RpV s210 (x26.Result : Val) (F209 19) := hR218 7 rfl 19 rfl
        obtain ⟨A224, c225, A227, c228, A230, c231, A233, c234, hv236, h226, h229, h232, h235⟩ := Val.rpv q223
        refine r_call [.agg #[.int .i64 x26.Result.Kind, .int .i64 x26.Result.Int_, .string x26.Result.Text, .slice A224 x26.Result.Kids.length c225, .slice A227 x26.Result.Keys.length c228, .slice A230 x26.Result.Entries.length c231, .slice A233 x26.Result.Labels.length c234]] (evs1 hv236) rfl (hrec_value_clone _ _ _ _ (Val.rpvMk (v := x26.Result) h226 h229 h232 h235) e60) ?_
        intro v238 s237 hx239 hr240
        have hE241 := hE219.ext hE219.size hx239
        obtain ⟨A242, c243, A245, c246, A248, c249, A251, c252, rfl, h244, h247, h250, h253⟩ := Val.rpv hr240
        refine wpList_nil ?_
        exact ⟨_, _, rfl, rfl, (ExtB.refl _ _).trans (hx239.mono hE219.size), (Wext.refl _).trans hx239.wext, (Val.rpvMk (v := r59) h244 h247 h250 h253), ⟨(g220.ext hx239), (fun h => ((g221 h).ext hx239)), (fun h => Bool.noConfusion ((d213 11 rfl).symm.trans h))⟩⟩
      · intro D254 F255 s256 d257 d258 d259 hE260 hW261 hG262 hfr263 hR264
        have hE265 := hE56.trans hE260
        obtain ⟨g266, g267, g268⟩ := hG262
        have q269 : RpV s256 (r57 : (List Val)) (F255 15) := hR264 3 rfl 15 rfl
        obtain ⟨A270, c271, hv273, h272⟩ := RpV.list q269
        have q274 : F255 17 = (.bool x26.Fails) := hR264 5 rfl 17 rfl
        have q275 : RpV s256 (r59 : Val) (F255 20) := hR264 8 rfl 20 rfl
        obtain ⟨A276, c277, A279, c280, A282, c283, A285, c286, hv288, h278, h281, h284, h287⟩ := Val.rpv q275
        refine r_build tst65 [(0, .slice A270 r57.length c271), (1, .bool x26.Fails), (2, .agg #[.int .i64 r59.Kind, .int .i64 r59.Int_, .string r59.Text, .slice A276 r59.Kids.length c277, .slice A279 r59.Keys.length c280, .slice A282 r59.Entries.length c283, .slice A285 r59.Labels.length c286])] [.slice A270 r57.length c271, .bool x26.Fails, .int .i64 r59.Kind, .int .i64 r59.Int_, .string r59.Text, .slice A276 r59.Kids.length c277, .slice A279 r59.Keys.length c280, .slice A282 r59.Entries.length c283, .slice A285 r59.Labels.length c286] (eps_cons hv273 (eps_cons q274 (eps_cons hv288 eps_nil))) rfl rfl ?_
        refine wpList_nil ?_
        exact ⟨_, _, rfl, rfl, ExtB.refl _ _, Wext.refl _, (Ent.rpvMk (v := (Ent.mk r57 x26.Fails r59)) h272 h278 h281 h284 h287), ⟨g266, (fun h => (g267 h)), (fun h => Bool.noConfusion ((d259 11 rfl).symm.trans h))⟩⟩
      · intro D289 F290 s291 d292 d293 d294 hE295 hW296 hG297 hfr298 hR299
        have hE300 := hE56.trans hE295
        obtain ⟨g301, g302, g303⟩ := hG297
        have q304 : RpV s291 ((Ent.mk r57 x26.Fails r59) : Ent) (F290 21) := hR299 9 rfl 21 rfl
        obtain ⟨A305, c306, A308, c309, A311, c312, A314, c315, A317, c318, hv320, h307, h310, h313, h316, h319⟩ := Ent.rpv q304
        refine r_buildSlice (B := s0.N) (E := 65) 3 hE300.size ts24 (xs := [(Ent.mk r57 x26.Fails r59)]) [.agg #[.slice A305 ((Ent.mk r57 x26.Fails r59).Args).length c306, .bool x26.Fails, .int .i64 r59.Kind, .int .i64 r59.Int_, .string r59.Text, .slice A308 (((Ent.mk r57 x26.Fails r59).Result).Kids).length c309, .slice A311 (((Ent.mk r57 x26.Fails r59).Result).Keys).length c312, .slice A314 (((Ent.mk r57 x26.Fails r59).Result).Entries).length c315, .slice A317 (((Ent.mk r57 x26.Fails r59).Result).Labels).length c318]] (eps_cons hv320 eps_nil) rfl rfl rfl (by decide) rfl (by simp [Value.cells, Rp.sz]) ⟨_, _, rfl, (Ent.cells_iff.2 ⟨_, _, _, _, _, _, _, _, _, _, rfl, h307, h310, h313, h316, h319⟩), rfl⟩ ?_
        intro s321 A322 c323 hx324 ho325
        have hE326 := hE300.ext hE300.size hx324
        refine wpList_nil ?_
        exact ⟨_, _, rfl, rfl, (ExtB.refl _ _).trans (hx324.mono hE300.size), (Wext.refl _).trans hx324.wext, (RpV.mkList ho325.sl), ⟨(g301.ext hx324), (fun h => ((g302 h).ext hx324)), (fun h => Bool.noConfusion ((d294 11 rfl).symm.trans h))⟩⟩
      · intro D327 F328 s329 d330 d331 d332 hE333 hW334 hG335 hfr336 hR337
        have hE338 := hE56.trans hE333
        obtain ⟨g339, g340, g341⟩ := hG335
        have q342 : F328 12 = (.slice A17 q11.1.length c18) := hR337 0 rfl 12 rfl
        have q343 : RpV s329 ([(Ent.mk r57 x26.Fails r59)] : (List Ent)) (F328 22) := hR337 10 rfl 22 rfl
        obtain ⟨A344, c345, hv347, h346⟩ := RpV.list q343
        refine r_append (B := s0.N) (id := 1) (E := 65) (xs := q11.1) (ys := [(Ent.mk r57 x26.Fails r59)]) hE338.size ((g340 d330)) h346 ts24 (room_some e62) q342 hv347 rfl rfl ?_
        intro s348 A349 c350 hm351 ho352
        have hE353 := hE338.mod hE338.size hm351
        refine wpList_nil ?_
        exact ⟨_, _, rfl, rfl, (ExtB.refl _ _).trans ((ExtB.refl _ _).mod hE338.size hm351), (Wext.refl _).trans hm351.wext, (RpV.mkList ho352.sl), ⟨(g339.mod hm351 rfl), (fun h => Bool.noConfusion h), (fun _ => ⟨A349, c350, rfl, ho352, (fun h => Bool.noConfusion ((d332 12 rfl).symm.trans h))⟩)⟩⟩
      · intro D354 F355 s356 d357 d358 d359 hE360 hW361 hG362 hfr363 hR364
        have hE365 := hE56.trans hE360
        obtain ⟨g366, g367, g368⟩ := hG362
        obtain ⟨A369, c370, hv371, ho372, hm373⟩ := g368 (d358 11 rfl)
        refine r_assign (.slice A369 (q11.1 ++ [(Ent.mk r57 x26.Fails r59)]).length c370) hv371 rfl ?_
        refine wpList_nil ?_
        exact ⟨_, _, rfl, rfl, ExtB.refl _ _, Wext.refl _, (RpV.mkList ho372.sl), ⟨g366, (fun h => Bool.noConfusion ((d358 11 rfl).symm.trans h)), (fun _ => ⟨A369, c370, hv371, ho372, (fun _ => rfl)⟩)⟩⟩
      · intro F374 s375 hE376 hW377 hG378 hfr379 hR380
        have hE381 := hE56.trans hE376
        obtain ⟨g382, g383, g384⟩ := hG378
        have hb385 := g382
        obtain ⟨A386, c387, hv388, ho389, hm390⟩ := g384 rfl
        have hF391 : F374 2 = (.slice none ([] : List Ent).length 0) := (hfr379 2 rfl).trans hF22
        have hF392 : F374 6 = (.slice A1 a0.length c2) := (hfr379 6 rfl).trans hF23
        have hF393 : F374 7 = (.int .i64 (a0.length : Int)) := (hfr379 7 rfl).trans hF24
        have hF394 : F374 8 = (.int .i64 q11.2) := (hfr379 8 rfl).trans h21
        refine p_bn ?_
        refine p_then ?_
        refine wp_region_lit ?_
        refine r_bin (.int .i64 q11.2) (.int .i64 1) (.int .i64 (w64 (q11.2 + 1))) hF394 rfl rfl rfl (b_add) ?_
        refine r_move (.int .i64 (w64 (q11.2 + 1))) rfl rfl ?_
        refine wpList_nil ?_
        obtain rfl := Option.some.inj hf
        exact ⟨rfl, _, _, A386, c387, rfl, rfl, (((((((((hag14).put rfl).put rfl).put rfl).put rfl).put0).draw hfr379 rfl).put rfl).put rfl), hE381, (((((Wext.refl _).trans hW16).trans hx50.wext).trans hm54.wext).trans hW377), (hm390 rfl), (ho389), rfl⟩
    · refine c_false rfl hc25 rfl ?_
      refine wp_exit ?_
      refine p_thenx ?_
      obtain rfl := Option.some.inj hf
      exact ⟨rfl, _, _, A17, c18, rfl, rfl, ((hag14).put rfl), hE15, ((Wext.refl _).trans hW16), h19, (h20), h21⟩
  · exact ⟨_, _, none, 0, rfl, rfl, (Agr.refl _ _), hE0, (Wext.refl _), hF7, (Own.nil_ _), hF10⟩
  · rintro e a w ⟨rfl, F398, s399, A403, c404, rfl, rfl, hag400, hE401, hW402, h405, h406, h407⟩
    have hF408 : F398 2 = (.slice none ([] : List Ent).length 0) := (hag400 2 rfl).trans hF6
    have hF409 : F398 6 = (.slice A1 a0.length c2) := (hag400 6 rfl).trans hF8
    have hF410 : F398 7 = (.int .i64 (a0.length : Int)) := (hag400 7 rfl).trans hF9
    refine p_bx ?_
    refine p_then ?_
    refine wp_seq ?_
    refine wp_region_lit ?_
    refine r_move (.slice A403 o395.1.length c404) h405 rfl ?_
    refine r_assign (.slice A403 o395.1.length c404) rfl rfl ?_
    refine wpList_nil ?_
    refine p_then ?_
    refine wp_ret ?_
    obtain rfl := Option.some.inj hf
    refine ret_one (.slice A403 o395.1.length c404) rfl ⟨rfl, rfl⟩ hE401 ?_
    exact (RpV.mkList h406.sl)

theorem ok_scc_value_cloneAll : ∀ n : Nat, S_value_cloneAll (scc_value_cloneAll n).1 ∧ S_value_clone (scc_value_cloneAll n).2.1 ∧ S_value_cloneEntries (scc_value_cloneAll n).2.2
  | 0 => ⟨(by intro _ _ _ _ _ h; cases h), (by intro _ _ _ _ _ h; cases h), (by intro _ _ _ _ _ h; cases h)⟩
  | n + 1 => by
    obtain ⟨h0, h1, h2⟩ := ok_scc_value_cloneAll n
    exact ⟨okB_value_cloneAll h0 h1 h2, okB_value_clone h0 h1 h2, okB_value_cloneEntries h0 h1 h2⟩

theorem ok_value_cloneAll (n : Nat) : S_value_cloneAll (value_cloneAll n) := (ok_scc_value_cloneAll n).1

theorem ok_value_clone (n : Nat) : S_value_clone (value_clone n) := (ok_scc_value_cloneAll n).2.1

theorem ok_value_cloneEntries (n : Nat) : S_value_cloneEntries (value_cloneEntries n) := (ok_scc_value_cloneAll n).2.2

def S_value_List (f : ((List Val) → Option Val)) : Prop := ∀ (s0 : S) (v0 : Value) (a0 : (List Val)) (r : Val), RpV s0 a0 v0 → f a0 = some r → Ctr Go.Proofs.Try.prog 20 [v0] s0 (fun v τ => RpV τ r v)

set_option maxHeartbeats 1600000 in
set_option maxRecDepth 100000 in
theorem ok_value_List (fuel : Nat) : S_value_List (value_List fuel) := by
  intro s0 v0 a0 r h0 hf
  obtain ⟨A1, c2, rfl, h3⟩ := RpV.list h0
  unfold value_List at hf
  have hE0 : ExtB s0.N s0 s0 := ExtB.refl _ _
  refine ctr_of 22 Go.Proofs.Try.func20 rfl rfl rfl rfl ?_
  refine wp_seq ?_
  refine wp_region_lit ?_
  refine r_alloc (B := s0.N) 1 hE0.size _ [.int .i64 0, .int .i64 0, .string (⟨#[]⟩), .slice none ([] : List Val).length 0, .slice none ([] : List Key).length 0, .slice none ([] : List Ent).length 0, .slice none ([] : List ByteArray).length 0] ti27 rfl ?_
  intro s5 b4 hx6 hb7
  have hE8 := hE0.ext hE0.size hx6
  refine wpList_nil ?_
  refine p_then ?_
  refine wp_seq ?_
  refine wp_region_lit ?_
  obtain ⟨r9, e10, hf⟩ := bind_some hf
  refine r_call [] evs0 rfl (ok_value_Nil _ _  e10) ?_
  intro v12 s11 hx13 hr14
  have hE15 := hE8.ext hE8.size hx13
  obtain ⟨A16, c17, A19, c20, A22, c23, A25, c26, rfl, h18, h21, h24, h27⟩ := Val.rpv hr14
  refine r_alloc (B := s0.N) 2 hE15.size _ [.int .i64 0, .int .i64 0, .string (⟨#[]⟩), .slice none ([] : List Val).length 0, .slice none ([] : List Key).length 0, .slice none ([] : List Ent).length 0, .slice none ([] : List ByteArray).length 0] ti27 rfl ?_
  intro s29 b28 hx30 hb31
  have hE32 := hE15.ext hE15.size hx30
  refine r_store hb31 0 (.agg #[.int .i64 r9.Kind, .int .i64 r9.Int_, .string r9.Text, .slice A16 r9.Kids.length c17, .slice A19 r9.Keys.length c20, .slice A22 r9.Entries.length c23, .slice A25 r9.Labels.length c26]) [.int .i64 r9.Kind, .int .i64 r9.Int_, .string r9.Text, .slice A16 r9.Kids.length c17, .slice A19 r9.Keys.length c20, .slice A22 r9.Entries.length c23, .slice A25 r9.Labels.length c26] [.int .i64 r9.Kind, .int .i64 r9.Int_, .string r9.Text, .slice A16 r9.Kids.length c17, .slice A19 r9.Keys.length c20, .slice A22 r9.Entries.length c23, .slice A25 r9.Labels.length c26] rfl rfl rfl rfl rfl sz27 rfl rfl rfl ?_
  intro s33 hm34 hb35
  have hE36 := hE32.mod hE32.size hm34
  refine wpList_nil ?_
  refine p_then ?_
  refine wp_seq ?_
  refine wp_seq ?_
  refine wp_region_lit ?_
  refine r_move (.slice A1 a0.length c2) rfl rfl ?_
  refine r_len A1 a0.length c2 rfl rfl Go.Proofs.Try.underlying22 ?_
  refine r_bin (.int .i64 (a0.length : Int)) (.int .i64 1) (.int .i64 (w64 ((a0.length : Int) - 1))) rfl rfl rfl rfl (b_sub) ?_
  refine r_assign (.int .i64 (w64 ((a0.length : Int) - 1))) rfl rfl ?_
  refine wpList_nil ?_
  refine p_then ?_
  refine wp_block ?_
  refine gen_F fun F37 hg38 => ?_
  have hF39 : F37 0 = (.slice A1 a0.length c2) := (hg38 0).trans rfl
  have hF40 : F37 2 = (.pointer (some ⟨b4, 0, none⟩)) := (hg38 2).trans rfl
  have hF41 : F37 3 = (.pointer (some ⟨b28, 0, none⟩)) := (hg38 3).trans rfl
  have hF42 : F37 4 = (.int .i64 (w64 ((a0.length : Int) - 1))) := (hg38 4).trans rfl
  obtain ⟨o367, ho368, hf⟩ := bind_some hf
  refine wp_mono (wp_iter (step := value_List_l1 fuel a0) (fun q a w => ∃ (F : Fr) (τ : S) (A1 : Option Addr) (c1 : Nat) (A2 : Option Addr) (c2 : Nat) (A3 : Option Addr) (c3 : Nat) (A4 : Option Addr) (c4 : Nat), a = fr 22 F ∧ w = τ.w ∧ Agr [4, 9, 10, 11, 12, 13, 14, 15, 16, 17, 18, 19, 20] F F37 ∧ ExtB s0.N s0 τ ∧ Wext s33 τ ∧ F 4 = (.int .i64 q.1) ∧ Blk s0.N 1 τ b4 27 [.int .i64 0, .int .i64 0, .string (⟨#[]⟩), .slice none ([] : List Val).length 0, .slice none ([] : List Key).length 0, .slice none ([] : List Ent).length 0, .slice none ([] : List ByteArray).length 0] ∧ Blk s0.N 2 τ b28 27 [.int .i64 q.2.1, .int .i64 q.2.2.1, .string q.2.2.2.1, .slice A1 q.2.2.2.2.1.length c1, .slice A2 q.2.2.2.2.2.1.length c2, .slice A3 q.2.2.2.2.2.2.1.length c3, .slice A4 q.2.2.2.2.2.2.2.length c4] ∧ Sl τ q.2.2.2.2.1 A1 c1 ∧ Sl τ q.2.2.2.2.2.1 A2 c2 ∧ Sl τ q.2.2.2.2.2.2.1 A3 c3 ∧ Sl τ q.2.2.2.2.2.2.2 A4 c4) (fun q e a w => e = .exit 0 ∧ ∃ (F : Fr) (τ : S) (A1 : Option Addr) (c1 : Nat) (A2 : Option Addr) (c2 : Nat) (A3 : Option Addr) (c3 : Nat) (A4 : Option Addr) (c4 : Nat), a = fr 22 F ∧ w = τ.w ∧ Agr [4, 9, 10, 11, 12, 13, 14, 15, 16, 17, 18, 19, 20] F F37 ∧ ExtB s0.N s0 τ ∧ Wext s33 τ ∧ F 4 = (.int .i64 q.1) ∧ Blk s0.N 1 τ b4 27 [.int .i64 0, .int .i64 0, .string (⟨#[]⟩), .slice none ([] : List Val).length 0, .slice none ([] : List Key).length 0, .slice none ([] : List Ent).length 0, .slice none ([] : List ByteArray).length 0] ∧ Blk s0.N 2 τ b28 27 [.int .i64 q.2.1, .int .i64 q.2.2.1, .string q.2.2.2.1, .slice A1 q.2.2.2.2.1.length c1, .slice A2 q.2.2.2.2.2.1.length c2, .slice A3 q.2.2.2.2.2.2.1.length c3, .slice A4 q.2.2.2.2.2.2.2.length c4] ∧ Sl τ q.2.2.2.2.1 A1 c1 ∧ Sl τ q.2.2.2.2.2.1 A2 c2 ∧ Sl τ q.2.2.2.2.2.2.1 A3 c3 ∧ Sl τ q.2.2.2.2.2.2.2 A4 c4) (by rintro _ a w ⟨h, _⟩; cases h) ?_ _ _ _ _ _ ho368 ?_) ?_
  · intro q43 fl a w hf hI
    obtain ⟨F44, s45, A49, c50, A51, c52, A53, c54, A55, c56, rfl, rfl, hag46, hE47, hW48, h57, h58, h59, h60, h61, h62, h63⟩ := hI
    unfold value_List_l1 at hf
    have hF64 : F44 0 = (.slice A1 a0.length c2) := (hag46 0 rfl).trans hF39
    have hF65 : F44 2 = (.pointer (some ⟨b4, 0, none⟩)) := (hag46 2 rfl).trans hF40
    have hF66 : F44 3 = (.pointer (some ⟨b28, 0, none⟩)) := (hag46 3 rfl).trans hF41
    refine wp_seq ?_
    refine wp_seq ?_
    refine wp_region_lit ?_
    refine r_move (.int .i64 q43.1) h57 rfl ?_
    refine r_bin (.int .i64 q43.1) (.int .i64 0) (.bool (decide (0 ≤ q43.1))) rfl rfl rfl rfl (b_geq) ?_
    refine wpList_nil ?_
    refine p_then ?_
    refine if_else hf (fun hc67 hf => ?_) (fun hc67 hf => ?_)
    · refine c_true rfl hc67 rfl ?_
      refine wp_skip ?_
      refine p_then ?_
      refine wp_seq ?_
      refine wp_block ?_
      obtain ⟨x68, e69, hf⟩ := bind_some hf
      obtain ⟨r70, e71, hf⟩ := bind_some hf
      refine wp_draw (B := s0.N) [some 13, some 14, some 15, some 16, some 17, some 18, some 19, some 20, none] [[], [], [0, 1], [0, 1, 2], [0, 1, 2, 3], [], [0, 1, 2, 3, 4, 5], [0, 1, 2, 3, 4, 5, 6], [0, 1, 2, 3, 4, 5, 6, 7]] [Fct.eqv (.slice A1 a0.length c2), Fct.eqv (.int .i64 q43.1), Fct.elem (x68 : Val), Fct.data (x68 : Val), Fct.data (r70 : Val), Fct.data ((Val.mk q43.2.1 q43.2.2.1 q43.2.2.2.1 q43.2.2.2.2.1 q43.2.2.2.2.2.1 q43.2.2.2.2.2.2.1 q43.2.2.2.2.2.2.2) : Val), Fct.data ([r70, (Val.mk q43.2.1 q43.2.2.1 q43.2.2.2.1 q43.2.2.2.2.1 q43.2.2.2.2.2.1 q43.2.2.2.2.2.2.1 q43.2.2.2.2.2.2.2)] : (List Val)), Fct.data ((Val.mk 7 0 (⟨#[]⟩) [r70, (Val.mk q43.2.1 q43.2.2.1 q43.2.2.2.1 q43.2.2.2.2.1 q43.2.2.2.2.2.1 q43.2.2.2.2.2.2.1 q43.2.2.2.2.2.2.2)] ([] : List Key) ([] : List Ent) ([] : List ByteArray)) : Val), Fct.any] (fun D F τ => (Blk s0.N 1 τ b4 27 [.int .i64 0, .int .i64 0, .string (⟨#[]⟩), .slice none ([] : List Val).length 0, .slice none ([] : List Key).length 0, .slice none ([] : List Ent).length 0, .slice none ([] : List ByteArray).length 0]) ∧ (D 8 = false → Blk s0.N 2 τ b28 27 [.int .i64 q43.2.1, .int .i64 q43.2.2.1, .string q43.2.2.2.1, .slice A49 q43.2.2.2.2.1.length c50, .slice A51 q43.2.2.2.2.2.1.length c52, .slice A53 q43.2.2.2.2.2.2.1.length c54, .slice A55 q43.2.2.2.2.2.2.2.length c56]) ∧ (D 8 = true → (∃ (zA3 : Option Addr) (zc3 : Nat) (zA4 : Option Addr) (zc4 : Nat) (zA5 : Option Addr) (zc5 : Nat) (zA6 : Option Addr) (zc6 : Nat), Blk s0.N 2 τ b28 27 [.int .i64 7, .int .i64 0, .string (⟨#[]⟩), .slice zA3 [r70, (Val.mk q43.2.1 q43.2.2.1 q43.2.2.2.1 q43.2.2.2.2.1 q43.2.2.2.2.2.1 q43.2.2.2.2.2.2.1 q43.2.2.2.2.2.2.2)].length zc3, .slice zA4 ([] : List Key).length zc4, .slice zA5 ([] : List Ent).length zc5, .slice zA6 ([] : List ByteArray).length zc6] ∧ Sl τ [r70, (Val.mk q43.2.1 q43.2.2.1 q43.2.2.2.1 q43.2.2.2.2.1 q43.2.2.2.2.2.1 q43.2.2.2.2.2.2.1 q43.2.2.2.2.2.2.2)] zA3 zc3 ∧ Sl τ ([] : List Key) zA4 zc4 ∧ Sl τ ([] : List Ent) zA5 zc5 ∧ Sl τ ([] : List ByteArray) zA6 zc6))) (by kernel_rfl) rfl (by decide) (by decide) ⟨(h58.ext (ext_draw _)), (fun _ => (h59.ext (ext_draw _))), (fun h => Bool.noConfusion h)⟩ (by decide) (by decide) ⟨?_, ?_, ?_, ?_, ?_, ?_, ?_, ?_, ?_, trivial⟩ ?_
      · intro D75 F76 s77 d78 d79 d80 hE81 hW82 hG83 hfr84 hR85
        have hE86 := hE47.trans hE81
        obtain ⟨g87, g88, g89⟩ := hG83
        refine r_move (.slice A1 a0.length c2) ((hfr84 0 rfl).trans hF64) rfl ?_
        refine wpList_nil ?_
        exact ⟨_, _, rfl, rfl, ExtB.refl _ _, Wext.refl _, rfl, ⟨g87, (fun y0 => (g88 y0)), (fun y0 => (let ⟨zA0, zc0, zA1, zc1, zA2, zc2, zA3, zc3, zb, zf0, zf1, zf2, zf3⟩ := (g89 y0); ⟨zA0, zc0, zA1, zc1, zA2, zc2, zA3, zc3, zb, zf0, zf1, zf2, zf3⟩))⟩⟩
      · intro D90 F91 s92 d93 d94 d95 hE96 hW97 hG98 hfr99 hR100
        have hE101 := hE47.trans hE96
        obtain ⟨g102, g103, g104⟩ := hG98
        refine r_move (.int .i64 q43.1) ((hfr99 4 rfl).trans h57) rfl ?_
        refine wpList_nil ?_
        exact ⟨_, _, rfl, rfl, ExtB.refl _ _, Wext.refl _, rfl, ⟨g102, (fun y0 => (g103 y0)), (fun y0 => (let ⟨zA0, zc0, zA1, zc1, zA2, zc2, zA3, zc3, zb, zf0, zf1, zf2, zf3⟩ := (g104 y0); ⟨zA0, zc0, zA1, zc1, zA2, zc2, zA3, zc3, zb, zf0, zf1, zf2, zf3⟩))⟩⟩
      · intro D105 F106 s107 d108 d109 d110 hE111 hW112 hG113 hfr114 hR115
        have hE116 := hE47.trans hE111
        obtain ⟨g117, g118, g119⟩ := hG113
        have q120 : F106 13 = (.slice A1 a0.length c2) := hR115 0 rfl 13 rfl
        have q121 : F106 14 = (.int .i64 q43.1) := hR115 1 rfl 14 rfl
        refine r_indexAddr (T := 22) (E := 27) ((((((h3.mono hx6.wext).mono hx13.wext).mono hx30.wext).mono hm34.wext).mono hW48).mono hW112) e69 q120 q121 rfl rfl Go.Proofs.Try.underlying22 sz27 ?_
        intro b122 o123 cs124 hc125 hs126
        obtain ⟨A127, c128, A130, c131, A133, c134, A136, c137, rfl, h129, h132, h135, h138⟩ := Val.cells_iff.1 hc125
        refine wpList_nil ?_
        exact ⟨_, _, rfl, rfl, ExtB.refl _ _, Wext.refl _, ⟨_, _, _, rfl, (Val.cells_iff.2 ⟨_, _, _, _, _, _, _, _, rfl, h129, h132, h135, h138⟩), hs126⟩, ⟨g117, (fun y0 => (g118 y0)), (fun y0 => (let ⟨zA0, zc0, zA1, zc1, zA2, zc2, zA3, zc3, zb, zf0, zf1, zf2, zf3⟩ := (g119 y0); ⟨zA0, zc0, zA1, zc1, zA2, zc2, zA3, zc3, zb, zf0, zf1, zf2, zf3⟩))⟩⟩
      · intro D139 F140 s141 d142 d143 d144 hE145 hW146 hG147 hfr148 hR149
        have hE150 := hE47.trans hE145
        obtain ⟨g151, g152, g153⟩ := hG147
        obtain ⟨b155, o156, cs157, hv158, hc159, hs160⟩ : (Fct.elem (x68 : Val)).p (F140 15) s141 := hR149 2 rfl 15 rfl
        obtain ⟨A161, c162, A164, c165, A167, c168, A170, c171, rfl, h163, h166, h169, h172⟩ := Val.cells_iff.1 hc159
        refine r_load b155 o156 (.agg #[.int .i64 x68.Kind, .int .i64 x68.Int_, .string x68.Text, .slice A161 x68.Kids.length c162, .slice A164 x68.Keys.length c165, .slice A167 x68.Entries.length c168, .slice A170 x68.Labels.length c171]) hv158 rfl (loads_row tr27 hs160.2) ?_
        refine wpList_nil ?_
        exact ⟨_, _, rfl, rfl, ExtB.refl _ _, Wext.refl _, (Val.rpvMk (v := x68) h163 h166 h169 h172), ⟨g151, (fun y0 => (g152 y0)), (fun y0 => (let ⟨zA0, zc0, zA1, zc1, zA2, zc2, zA3, zc3, zb, zf0, zf1, zf2, zf3⟩ := (g153 y0); ⟨zA0, zc0, zA1, zc1, zA2, zc2, zA3, zc3, zb, zf0, zf1, zf2, zf3⟩))⟩⟩
      · intro D173 F174 s175 d176 d177 d178 hE179 hW180 hG181 hfr182 hR183
        have hE184 := hE47.trans hE179
        obtain ⟨g185, g186, g187⟩ := hG181
        have q188 : RpV s175 (x68 : Val) (F174 16) := hR183 3 rfl 16 rfl
        obtain ⟨A189, c190, A192, c193, A195, c196, A198, c199, hv201, h191, h194, h197, h200⟩ := Val.rpv q188
        refine r_call [.agg #[.int .i64 x68.Kind, .int .i64 x68.Int_, .string x68.Text, .slice A189 x68.Kids.length c190, .slice A192 x68.Keys.length c193, .slice A195 x68.Entries.length c196, .slice A198 x68.Labels.length c199]] (evs1 hv201) rfl ((ok_value_clone fuel) _ _ _ _ (Val.rpvMk (v := x68) h191 h194 h197 h200) e71) ?_
        intro v203 s202 hx204 hr205
        have hE206 := hE184.ext hE184.size hx204
        obtain ⟨A207, c208, A210, c211, A213, c214, A216, c217, rfl, h209, h212, h215, h218⟩ := Val.rpv hr205
        refine wpList_nil ?_
        exact ⟨_, _, rfl, rfl, (ExtB.refl _ _).trans (hx204.mono hE184.size), (Wext.refl _).trans hx204.wext, (Val.rpvMk (v := r70) h209 h212 h215 h218), ⟨(g185.ext hx204), (fun y0 => ((g186 y0).ext hx204)), (fun y0 => (let ⟨zA0, zc0, zA1, zc1, zA2, zc2, zA3, zc3, zb, zf0, zf1, zf2, zf3⟩ := (g187 y0); ⟨zA0, zc0, zA1, zc1, zA2, zc2, zA3, zc3, (zb.ext hx204), (zf0.mono hx204.wext), (zf1.mono hx204.wext), (zf2.mono hx204.wext), (zf3.mono hx204.wext)⟩))⟩⟩
      · intro D219 F220 s221 d222 d223 d224 hE225 hW226 hG227 hfr228 hR229
        have hE230 := hE47.trans hE225
        obtain ⟨g231, g232, g233⟩ := hG227
        have hb234 := g232 (d224 8 rfl)
        refine r_load b28 0 (.agg #[.int .i64 q43.2.1, .int .i64 q43.2.2.1, .string q43.2.2.2.1, .slice A49 q43.2.2.2.2.1.length c50, .slice A51 q43.2.2.2.2.2.1.length c52, .slice A53 q43.2.2.2.2.2.2.1.length c54, .slice A55 q43.2.2.2.2.2.2.2.length c56]) ((hfr228 3 rfl).trans hF66) rfl (loads_row tr27 (Blk.range hb234 0 [.int .i64 q43.2.1, .int .i64 q43.2.2.1, .string q43.2.2.2.1, .slice A49 q43.2.2.2.2.1.length c50, .slice A51 q43.2.2.2.2.2.1.length c52, .slice A53 q43.2.2.2.2.2.2.1.length c54, .slice A55 q43.2.2.2.2.2.2.2.length c56] rfl)) ?_
        refine wpList_nil ?_
        exact ⟨_, _, rfl, rfl, ExtB.refl _ _, Wext.refl _, (Val.rpvMk (v := (Val.mk q43.2.1 q43.2.2.1 q43.2.2.2.1 q43.2.2.2.2.1 q43.2.2.2.2.2.1 q43.2.2.2.2.2.2.1 q43.2.2.2.2.2.2.2)) (h60.mono hW226) (h61.mono hW226) (h62.mono hW226) (h63.mono hW226)), ⟨g231, (fun y0 => (g232 y0)), (fun y0 => (let ⟨zA0, zc0, zA1, zc1, zA2, zc2, zA3, zc3, zb, zf0, zf1, zf2, zf3⟩ := (g233 y0); ⟨zA0, zc0, zA1, zc1, zA2, zc2, zA3, zc3, zb, zf0, zf1, zf2, zf3⟩))⟩⟩
      · intro D235 F236 s237 d238 d239 d240 hE241 hW242 hG243 hfr244 hR245
        have hE246 := hE47.trans hE241
        obtain ⟨g247, g248, g249⟩ := hG243
        have q250 : RpV s237 (r70 : Val) (F236 17) := hR245 4 rfl 17 rfl
        obtain ⟨A251, c252, A254, c255, A257, c258, A260, c261, hv263, h253, h256, h259, h262⟩ := Val.rpv q250
        have q264 : RpV s237 ((Val.mk q43.2.1 q43.2.2.1 q43.2.2.2.1 q43.2.2.2.2.1 q43.2.2.2.2.2.1 q43.2.2.2.2.2.2.1 q43.2.2.2.2.2.2.2) : Val) (F236 18) := hR245 5 rfl 18 rfl
        obtain ⟨A265, c266, A268, c269, A271, c272, A274, c275, hv277, h267, h270, h273, h276⟩ := Val.rpv q264
        refine r_buildSlice (B := s0.N) (E := 27) 3 hE246.size ts22 (xs := [r70, (Val.mk q43.2.1 q43.2.2.1 q43.2.2.2.1 q43.2.2.2.2.1 q43.2.2.2.2.2.1 q43.2.2.2.2.2.2.1 q43.2.2.2.2.2.2.2)]) [.agg #[.int .i64 r70.Kind, .int .i64 r70.Int_, .string r70.Text, .slice A251 r70.Kids.length c252, .slice A254 r70.Keys.length c255, .slice A257 r70.Entries.length c258, .slice A260 r70.Labels.length c261], .agg #[.int .i64 q43.2.1, .int .i64 q43.2.2.1, .string q43.2.2.2.1, .slice A265 ((Val.mk q43.2.1 q43.2.2.1 q43.2.2.2.1 q43.2.2.2.2.1 q43.2.2.2.2.2.1 q43.2.2.2.2.2.2.1 q43.2.2.2.2.2.2.2).Kids).length c266, .slice A268 ((Val.mk q43.2.1 q43.2.2.1 q43.2.2.2.1 q43.2.2.2.2.1 q43.2.2.2.2.2.1 q43.2.2.2.2.2.2.1 q43.2.2.2.2.2.2.2).Keys).length c269, .slice A271 ((Val.mk q43.2.1 q43.2.2.1 q43.2.2.2.1 q43.2.2.2.2.1 q43.2.2.2.2.2.1 q43.2.2.2.2.2.2.1 q43.2.2.2.2.2.2.2).Entries).length c272, .slice A274 ((Val.mk q43.2.1 q43.2.2.1 q43.2.2.2.1 q43.2.2.2.2.1 q43.2.2.2.2.2.1 q43.2.2.2.2.2.2.1 q43.2.2.2.2.2.2.2).Labels).length c275]] (eps_cons hv263 (eps_cons hv277 eps_nil)) rfl rfl rfl (by decide) rfl (by simp [Value.cells, Rp.sz]) ⟨_, _, rfl, (Val.cells_iff.2 ⟨_, _, _, _, _, _, _, _, rfl, h253, h256, h259, h262⟩), ⟨_, _, rfl, (Val.cells_iff.2 ⟨_, _, _, _, _, _, _, _, rfl, h267, h270, h273, h276⟩), rfl⟩⟩ ?_
        intro s278 A279 c280 hx281 ho282
        have hE283 := hE246.ext hE246.size hx281
        refine wpList_nil ?_
        exact ⟨_, _, rfl, rfl, (ExtB.refl _ _).trans (hx281.mono hE246.size), (Wext.refl _).trans hx281.wext, (RpV.mkList ho282.sl), ⟨(g247.ext hx281), (fun y0 => ((g248 y0).ext hx281)), (fun y0 => (let ⟨zA0, zc0, zA1, zc1, zA2, zc2, zA3, zc3, zb, zf0, zf1, zf2, zf3⟩ := (g249 y0); ⟨zA0, zc0, zA1, zc1, zA2, zc2, zA3, zc3, (zb.ext hx281), (zf0.mono hx281.wext), (zf1.mono hx281.wext), (zf2.mono hx281.wext), (zf3.mono hx281.wext)⟩))⟩⟩
      · intro D284 F285 s286 d287 d288 d289 hE290 hW291 hG292 hfr293 hR294
        have hE295 := hE47.trans hE290
        obtain ⟨g296, g297, g298⟩ := hG292
        have q299 : RpV s286 ([r70, (Val.mk q43.2.1 q43.2.2.1 q43.2.2.2.1 q43.2.2.2.2.1 q43.2.2.2.2.2.1 q43.2.2.2.2.2.2.1 q43.2.2.2.2.2.2.2)] : (List Val)) (F285 19) := hR294 6 rfl 19 rfl
        obtain ⟨A300, c301, hv303, h302⟩ := RpV.list q299
        refine r_build tst27 [(0, .int .i64 7), (3, .slice A300 [r70, (Val.mk q43.2.1 q43.2.2.1 q43.2.2.2.1 q43.2.2.2.2.1 q43.2.2.2.2.2.1 q43.2.2.2.2.2.2.1 q43.2.2.2.2.2.2.2)].length c301)] [.int .i64 7, .int .i64 0, .string (⟨#[]⟩), .slice A300 [r70, (Val.mk q43.2.1 q43.2.2.1 q43.2.2.2.1 q43.2.2.2.2.1 q43.2.2.2.2.2.1 q43.2.2.2.2.2.2.1 q43.2.2.2.2.2.2.2)].length c301, .slice none ([] : List Key).length 0, .slice none ([] : List Ent).length 0, .slice none ([] : List ByteArray).length 0] (eps_cons rfl (eps_cons hv303 eps_nil)) rfl rfl ?_
        refine wpList_nil ?_
        exact ⟨_, _, rfl, rfl, ExtB.refl _ _, Wext.refl _, (Val.rpvMk (v := (Val.mk 7 0 (⟨#[]⟩) [r70, (Val.mk q43.2.1 q43.2.2.1 q43.2.2.2.1 q43.2.2.2.2.1 q43.2.2.2.2.2.1 q43.2.2.2.2.2.2.1 q43.2.2.2.2.2.2.2)] ([] : List Key) ([] : List Ent) ([] : List ByteArray))) h302 (Sl.nil_ _ _ _ (Nat.zero_le _)) (Sl.nil_ _ _ _ (Nat.zero_le _)) (Sl.nil_ _ _ _ (Nat.zero_le _))), ⟨g296, (fun y0 => (g297 y0)), (fun y0 => (let ⟨zA0, zc0, zA1, zc1, zA2, zc2, zA3, zc3, zb, zf0, zf1, zf2, zf3⟩ := (g298 y0); ⟨zA0, zc0, zA1, zc1, zA2, zc2, zA3, zc3, zb, zf0, zf1, zf2, zf3⟩))⟩⟩
      · intro D304 F305 s306 d307 d308 d309 hE310 hW311 hG312 hfr313 hR314
        have hE315 := hE47.trans hE310
        obtain ⟨g316, g317, g318⟩ := hG312
        have hb319 := g317 d307
        have q320 : RpV s306 ((Val.mk 7 0 (⟨#[]⟩) [r70, (Val.mk q43.2.1 q43.2.2.1 q43.2.2.2.1 q43.2.2.2.2.1 q43.2.2.2.2.2.1 q43.2.2.2.2.2.2.1 q43.2.2.2.2.2.2.2)] ([] : List Key) ([] : List Ent) ([] : List ByteArray)) : Val) (F305 20) := hR314 7 rfl 20 rfl
        obtain ⟨A321, c322, A324, c325, A327, c328, A330, c331, hv333, h323, h326, h329, h332⟩ := Val.rpv q320
        refine r_store hb319 0 (.agg #[.int .i64 7, .int .i64 0, .string (⟨#[]⟩), .slice A321 ((Val.mk 7 0 (⟨#[]⟩) [r70, (Val.mk q43.2.1 q43.2.2.1 q43.2.2.2.1 q43.2.2.2.2.1 q43.2.2.2.2.2.1 q43.2.2.2.2.2.2.1 q43.2.2.2.2.2.2.2)] ([] : List Key) ([] : List Ent) ([] : List ByteArray)).Kids).length c322, .slice A324 ((Val.mk 7 0 (⟨#[]⟩) [r70, (Val.mk q43.2.1 q43.2.2.1 q43.2.2.2.1 q43.2.2.2.2.1 q43.2.2.2.2.2.1 q43.2.2.2.2.2.2.1 q43.2.2.2.2.2.2.2)] ([] : List Key) ([] : List Ent) ([] : List ByteArray)).Keys).length c325, .slice A327 ((Val.mk 7 0 (⟨#[]⟩) [r70, (Val.mk q43.2.1 q43.2.2.1 q43.2.2.2.1 q43.2.2.2.2.1 q43.2.2.2.2.2.1 q43.2.2.2.2.2.2.1 q43.2.2.2.2.2.2.2)] ([] : List Key) ([] : List Ent) ([] : List ByteArray)).Entries).length c328, .slice A330 ((Val.mk 7 0 (⟨#[]⟩) [r70, (Val.mk q43.2.1 q43.2.2.1 q43.2.2.2.1 q43.2.2.2.2.1 q43.2.2.2.2.2.1 q43.2.2.2.2.2.2.1 q43.2.2.2.2.2.2.2)] ([] : List Key) ([] : List Ent) ([] : List ByteArray)).Labels).length c331]) [.int .i64 7, .int .i64 0, .string (⟨#[]⟩), .slice A321 ((Val.mk 7 0 (⟨#[]⟩) [r70, (Val.mk q43.2.1 q43.2.2.1 q43.2.2.2.1 q43.2.2.2.2.1 q43.2.2.2.2.2.1 q43.2.2.2.2.2.2.1 q43.2.2.2.2.2.2.2)] ([] : List Key) ([] : List Ent) ([] : List ByteArray)).Kids).length c322, .slice A324 ((Val.mk 7 0 (⟨#[]⟩) [r70, (Val.mk q43.2.1 q43.2.2.1 q43.2.2.2.1 q43.2.2.2.2.1 q43.2.2.2.2.2.1 q43.2.2.2.2.2.2.1 q43.2.2.2.2.2.2.2)] ([] : List Key) ([] : List Ent) ([] : List ByteArray)).Keys).length c325, .slice A327 ((Val.mk 7 0 (⟨#[]⟩) [r70, (Val.mk q43.2.1 q43.2.2.1 q43.2.2.2.1 q43.2.2.2.2.1 q43.2.2.2.2.2.1 q43.2.2.2.2.2.2.1 q43.2.2.2.2.2.2.2)] ([] : List Key) ([] : List Ent) ([] : List ByteArray)).Entries).length c328, .slice A330 ((Val.mk 7 0 (⟨#[]⟩) [r70, (Val.mk q43.2.1 q43.2.2.1 q43.2.2.2.1 q43.2.2.2.2.1 q43.2.2.2.2.2.1 q43.2.2.2.2.2.2.1 q43.2.2.2.2.2.2.2)] ([] : List Key) ([] : List Ent) ([] : List ByteArray)).Labels).length c331] [.int .i64 7, .int .i64 0, .string (⟨#[]⟩), .slice A321 ((Val.mk 7 0 (⟨#[]⟩) [r70, (Val.mk q43.2.1 q43.2.2.1 q43.2.2.2.1 q43.2.2.2.2.1 q43.2.2.2.2.2.1 q43.2.2.2.2.2.2.1 q43.2.2.2.2.2.2.2)] ([] : List Key) ([] : List Ent) ([] : List ByteArray)).Kids).length c322, .slice A324 ((Val.mk 7 0 (⟨#[]⟩) [r70, (Val.mk q43.2.1 q43.2.2.1 q43.2.2.2.1 q43.2.2.2.2.1 q43.2.2.2.2.2.1 q43.2.2.2.2.2.2.1 q43.2.2.2.2.2.2.2)] ([] : List Key) ([] : List Ent) ([] : List ByteArray)).Keys).length c325, .slice A327 ((Val.mk 7 0 (⟨#[]⟩) [r70, (Val.mk q43.2.1 q43.2.2.1 q43.2.2.2.1 q43.2.2.2.2.1 q43.2.2.2.2.2.1 q43.2.2.2.2.2.2.1 q43.2.2.2.2.2.2.2)] ([] : List Key) ([] : List Ent) ([] : List ByteArray)).Entries).length c328, .slice A330 ((Val.mk 7 0 (⟨#[]⟩) [r70, (Val.mk q43.2.1 q43.2.2.1 q43.2.2.2.1 q43.2.2.2.2.1 q43.2.2.2.2.2.1 q43.2.2.2.2.2.2.1 q43.2.2.2.2.2.2.2)] ([] : List Key) ([] : List Ent) ([] : List ByteArray)).Labels).length c331] ((hfr313 3 rfl).trans hF66) hv333 rfl rfl rfl sz27 rfl rfl rfl ?_
        intro s334 hm335 hb336
        have hE337 := hE315.mod hE315.size hm335
        refine wpList_nil ?_
        exact ⟨_, _, rfl, rfl, (ExtB.refl _ _).trans ((ExtB.refl _ _).mod hE315.size hm335), (Wext.refl _).trans hm335.wext, trivial, ⟨(g316.mod hm335 rfl), (fun h => Bool.noConfusion h), (fun _ => ⟨A321, c322, A324, c325, A327, c328, A330, c331, hb336, (h323.mono hm335.wext), (h326.mono hm335.wext), (h329.mono hm335.wext), (h332.mono hm335.wext)⟩)⟩⟩
      · intro F338 s339 hE340 hW341 hG342 hfr343 hR344
        have hE345 := hE47.trans hE340
        obtain ⟨g346, g347, g348⟩ := hG342
        have hb349 := g346
        obtain ⟨A350, c351, A353, c354, A356, c357, A359, c360, hb362, h352, h355, h358, h361⟩ := g348 rfl
        have hF363 : F338 0 = (.slice A1 a0.length c2) := (hfr343 0 rfl).trans hF64
        have hF364 : F338 2 = (.pointer (some ⟨b4, 0, none⟩)) := (hfr343 2 rfl).trans hF65
        have hF365 : F338 3 = (.pointer (some ⟨b28, 0, none⟩)) := (hfr343 3 rfl).trans hF66
        have hF366 : F338 4 = (.int .i64 q43.1) := (hfr343 4 rfl).trans h57
        refine p_bn ?_
        refine p_then ?_
        refine wp_region_lit ?_
        refine r_move (.int .i64 q43.1) hF366 rfl ?_
        refine r_bin (.int .i64 q43.1) (.int .i64 1) (.int .i64 (w64 (q43.1 - 1))) rfl rfl rfl rfl (b_sub) ?_
        refine r_assign (.int .i64 (w64 (q43.1 - 1))) rfl rfl ?_
        refine wpList_nil ?_
        obtain rfl := Option.some.inj hf
        exact ⟨rfl, _, _, A350, c351, A353, c354, A356, c357, A359, c360, rfl, rfl, (((((((hag46).put rfl).put rfl).draw hfr343 rfl).put rfl).put rfl).put rfl), hE345, (((Wext.refl _).trans hW48).trans hW341), rfl, hb349, hb362, h352, h355, h358, h361⟩
    · refine c_false rfl hc67 rfl ?_
      refine wp_exit ?_
      refine p_thenx ?_
      obtain rfl := Option.some.inj hf
      exact ⟨rfl, _, _, A49, c50, A51, c52, A53, c54, A55, c56, rfl, rfl, (((hag46).put rfl).put rfl), hE47, ((Wext.refl _).trans hW48), h57, h58, h59, h60, h61, h62, h63⟩
  · exact ⟨_, _, A16, c17, A19, c20, A22, c23, A25, c26, rfl, rfl, (Agr.refl _ _), hE36, (Wext.refl _), hF42, (((hb7.ext hx13).ext hx30).mod hm34 rfl), hb35, ((h18.mono hx30.wext).mono hm34.wext), ((h21.mono hx30.wext).mono hm34.wext), ((h24.mono hx30.wext).mono hm34.wext), ((h27.mono hx30.wext).mono hm34.wext)⟩
  · rintro e a w ⟨rfl, F370, s371, A375, c376, A377, c378, A379, c380, A381, c382, rfl, rfl, hag372, hE373, hW374, h383, h384, h385, h386, h387, h388, h389⟩
    have hF390 : F370 0 = (.slice A1 a0.length c2) := (hag372 0 rfl).trans hF39
    have hF391 : F370 2 = (.pointer (some ⟨b4, 0, none⟩)) := (hag372 2 rfl).trans hF40
    have hF392 : F370 3 = (.pointer (some ⟨b28, 0, none⟩)) := (hag372 3 rfl).trans hF41
    refine p_bx ?_
    refine p_then ?_
    refine wp_seq ?_
    refine wp_region_lit ?_
    refine r_load b28 0 (.agg #[.int .i64 o367.2.1, .int .i64 o367.2.2.1, .string o367.2.2.2.1, .slice A375 o367.2.2.2.2.1.length c376, .slice A377 o367.2.2.2.2.2.1.length c378, .slice A379 o367.2.2.2.2.2.2.1.length c380, .slice A381 o367.2.2.2.2.2.2.2.length c382]) hF392 rfl (loads_row tr27 (Blk.range h385 0 [.int .i64 o367.2.1, .int .i64 o367.2.2.1, .string o367.2.2.2.1, .slice A375 o367.2.2.2.2.1.length c376, .slice A377 o367.2.2.2.2.2.1.length c378, .slice A379 o367.2.2.2.2.2.2.1.length c380, .slice A381 o367.2.2.2.2.2.2.2.length c382] rfl)) ?_
    refine r_store h384 0 (.agg #[.int .i64 o367.2.1, .int .i64 o367.2.2.1, .string o367.2.2.2.1, .slice A375 o367.2.2.2.2.1.length c376, .slice A377 o367.2.2.2.2.2.1.length c378, .slice A379 o367.2.2.2.2.2.2.1.length c380, .slice A381 o367.2.2.2.2.2.2.2.length c382]) [.int .i64 o367.2.1, .int .i64 o367.2.2.1, .string o367.2.2.2.1, .slice A375 o367.2.2.2.2.1.length c376, .slice A377 o367.2.2.2.2.2.1.length c378, .slice A379 o367.2.2.2.2.2.2.1.length c380, .slice A381 o367.2.2.2.2.2.2.2.length c382] [.int .i64 o367.2.1, .int .i64 o367.2.2.1, .string o367.2.2.2.1, .slice A375 o367.2.2.2.2.1.length c376, .slice A377 o367.2.2.2.2.2.1.length c378, .slice A379 o367.2.2.2.2.2.2.1.length c380, .slice A381 o367.2.2.2.2.2.2.2.length c382] hF391 rfl rfl rfl rfl sz27 rfl rfl rfl ?_
    intro s393 hm394 hb395
    have hE396 := hE373.mod hE373.size hm394
    refine wpList_nil ?_
    refine p_then ?_
    refine wp_ret ?_
    obtain rfl := Option.some.inj hf
    refine ret_one (.agg #[.int .i64 o367.2.1, .int .i64 o367.2.2.1, .string o367.2.2.2.1, .slice A375 o367.2.2.2.2.1.length c376, .slice A377 o367.2.2.2.2.2.1.length c378, .slice A379 o367.2.2.2.2.2.2.1.length c380, .slice A381 o367.2.2.2.2.2.2.2.length c382]) rfl ⟨rfl, _, hF391, loads_row tr27 (Blk.range hb395 0 [.int .i64 o367.2.1, .int .i64 o367.2.2.1, .string o367.2.2.2.1, .slice A375 o367.2.2.2.2.1.length c376, .slice A377 o367.2.2.2.2.2.1.length c378, .slice A379 o367.2.2.2.2.2.2.1.length c380, .slice A381 o367.2.2.2.2.2.2.2.length c382] rfl)⟩ hE396 ?_
    exact (Val.rpvMk (v := (Val.mk o367.2.1 o367.2.2.1 o367.2.2.2.1 o367.2.2.2.2.1 o367.2.2.2.2.2.1 o367.2.2.2.2.2.2.1 o367.2.2.2.2.2.2.2)) (h386.mono hm394.wext) (h387.mono hm394.wext) (h388.mono hm394.wext) (h389.mono hm394.wext))

def S_value_Cons (f : (Val → Val → Option Val)) : Prop := ∀ (s0 : S) (v0 : Value) (v1 : Value) (a0 : Val) (a1 : Val) (r : Val), RpV s0 a0 v0 → RpV s0 a1 v1 → f a0 a1 = some r → Ctr Go.Proofs.Try.prog 22 [v0, v1] s0 (fun v τ => RpV τ r v)

set_option maxHeartbeats 1600000 in
set_option maxRecDepth 100000 in
theorem ok_value_Cons (fuel : Nat) : S_value_Cons (value_Cons fuel) := by
  intro s0 v0 v1 a0 a1 r h0 h1 hf
  obtain ⟨A1, c2, A4, c5, A7, c8, A10, c11, rfl, h3, h6, h9, h12⟩ := Val.rpv h0
  obtain ⟨A13, c14, A16, c17, A19, c20, A22, c23, rfl, h15, h18, h21, h24⟩ := Val.rpv h1
  unfold value_Cons at hf
  have hE0 : ExtB s0.N s0 s0 := ExtB.refl _ _
  refine ctr_of 11 Go.Proofs.Try.func22 rfl rfl rfl rfl ?_
  refine wp_seq ?_
  refine wp_region_lit ?_
  refine r_box (B := s0.N) 1 hE0.size (.agg #[.int .i64 a0.Kind, .int .i64 a0.Int_, .string a0.Text, .slice A1 a0.Kids.length c2, .slice A4 a0.Keys.length c5, .slice A7 a0.Entries.length c8, .slice A10 a0.Labels.length c11]) [.int .i64 a0.Kind, .int .i64 a0.Int_, .string a0.Text, .slice A1 a0.Kids.length c2, .slice A4 a0.Keys.length c5, .slice A7 a0.Entries.length c8, .slice A10 a0.Labels.length c11] rfl rfl rfl ?_
  intro s26 b25 hx27 hb28
  have hE29 := hE0.ext hE0.size hx27
  refine r_box (B := s0.N) 2 hE29.size (.agg #[.int .i64 a1.Kind, .int .i64 a1.Int_, .string a1.Text, .slice A13 a1.Kids.length c14, .slice A16 a1.Keys.length c17, .slice A19 a1.Entries.length c20, .slice A22 a1.Labels.length c23]) [.int .i64 a1.Kind, .int .i64 a1.Int_, .string a1.Text, .slice A13 a1.Kids.length c14, .slice A16 a1.Keys.length c17, .slice A19 a1.Entries.length c20, .slice A22 a1.Labels.length c23] rfl rfl rfl ?_
  intro s31 b30 hx32 hb33
  have hE34 := hE29.ext hE29.size hx32
  refine r_alloc (B := s0.N) 3 hE34.size _ [.int .i64 0, .int .i64 0, .string (⟨#[]⟩), .slice none ([] : List Val).length 0, .slice none ([] : List Key).length 0, .slice none ([] : List Ent).length 0, .slice none ([] : List ByteArray).length 0] ti27 rfl ?_
  intro s36 b35 hx37 hb38
  have hE39 := hE34.ext hE34.size hx37
  refine wpList_nil ?_
  refine p_then ?_
  refine wp_seq ?_
  obtain ⟨r40, e41, hf⟩ := bind_some hf
  obtain ⟨r42, e43, hf⟩ := bind_some hf
  refine wp_draw (B := s0.N) [some 5, some 6, some 7, some 8, some 9, some 10, none] [[], [0], [], [0, 1, 2], [0, 1, 2, 3], [0, 1, 2, 3, 4], [0, 1, 2, 3, 4, 5]] [Fct.data (a0 : Val), Fct.data (r40 : Val), Fct.data (a1 : Val), Fct.data (r42 : Val), Fct.data ([r40, r42] : (List Val)), Fct.data ((Val.mk 7 0 (⟨#[]⟩) [r40, r42] ([] : List Key) ([] : List Ent) ([] : List ByteArray)) : Val), Fct.any] (fun D F τ => (Blk s0.N 1 τ b25 27 [.int .i64 a0.Kind, .int .i64 a0.Int_, .string a0.Text, .slice A1 a0.Kids.length c2, .slice A4 a0.Keys.length c5, .slice A7 a0.Entries.length c8, .slice A10 a0.Labels.length c11]) ∧ (Blk s0.N 2 τ b30 27 [.int .i64 a1.Kind, .int .i64 a1.Int_, .string a1.Text, .slice A13 a1.Kids.length c14, .slice A16 a1.Keys.length c17, .slice A19 a1.Entries.length c20, .slice A22 a1.Labels.length c23]) ∧ (D 6 = false → Blk s0.N 3 τ b35 27 [.int .i64 0, .int .i64 0, .string (⟨#[]⟩), .slice none ([] : List Val).length 0, .slice none ([] : List Key).length 0, .slice none ([] : List Ent).length 0, .slice none ([] : List ByteArray).length 0]) ∧ (D 6 = true → (∃ (zA3 : Option Addr) (zc3 : Nat) (zA4 : Option Addr) (zc4 : Nat) (zA5 : Option Addr) (zc5 : Nat) (zA6 : Option Addr) (zc6 : Nat), Blk s0.N 3 τ b35 27 [.int .i64 7, .int .i64 0, .string (⟨#[]⟩), .slice zA3 [r40, r42].length zc3, .slice zA4 ([] : List Key).length zc4, .slice zA5 ([] : List Ent).length zc5, .slice zA6 ([] : List ByteArray).length zc6] ∧ Sl τ [r40, r42] zA3 zc3 ∧ Sl τ ([] : List Key) zA4 zc4 ∧ Sl τ ([] : List Ent) zA5 zc5 ∧ Sl τ ([] : List ByteArray) zA6 zc6))) (by kernel_rfl) rfl (by decide) (by decide) ⟨(((hb28.ext hx32).ext hx37).ext (ext_draw _)), ((hb33.ext hx37).ext (ext_draw _)), (fun _ => (hb38.ext (ext_draw _))), (fun h => Bool.noConfusion h)⟩ (by decide) (by decide) ⟨?_, ?_, ?_, ?_, ?_, ?_, ?_, trivial⟩ ?_
  · intro D47 F48 s49 d50 d51 d52 hE53 hW54 hG55 hfr56 hR57
    have hE58 := hE39.trans hE53
    obtain ⟨g59, g60, g61, g62⟩ := hG55
    have hb63 := g59
    refine r_load b25 0 (.agg #[.int .i64 a0.Kind, .int .i64 a0.Int_, .string a0.Text, .slice A1 a0.Kids.length c2, .slice A4 a0.Keys.length c5, .slice A7 a0.Entries.length c8, .slice A10 a0.Labels.length c11]) ((hfr56 2 rfl).trans rfl) rfl (loads_row tr27 (Blk.range hb63 0 [.int .i64 a0.Kind, .int .i64 a0.Int_, .string a0.Text, .slice A1 a0.Kids.length c2, .slice A4 a0.Keys.length c5, .slice A7 a0.Entries.length c8, .slice A10 a0.Labels.length c11] rfl)) ?_
    refine wpList_nil ?_
    exact ⟨_, _, rfl, rfl, ExtB.refl _ _, Wext.refl _, (Val.rpvMk (v := a0) ((((h3.mono hx27.wext).mono hx32.wext).mono hx37.wext).mono hW54) ((((h6.mono hx27.wext).mono hx32.wext).mono hx37.wext).mono hW54) ((((h9.mono hx27.wext).mono hx32.wext).mono hx37.wext).mono hW54) ((((h12.mono hx27.wext).mono hx32.wext).mono hx37.wext).mono hW54)), ⟨g59, g60, (fun y0 => (g61 y0)), (fun y0 => (let ⟨zA0, zc0, zA1, zc1, zA2, zc2, zA3, zc3, zb, zf0, zf1, zf2, zf3⟩ := (g62 y0); ⟨zA0, zc0, zA1, zc1, zA2, zc2, zA3, zc3, zb, zf0, zf1, zf2, zf3⟩))⟩⟩
  · intro D64 F65 s66 d67 d68 d69 hE70 hW71 hG72 hfr73 hR74
    have hE75 := hE39.trans hE70
    obtain ⟨g76, g77, g78, g79⟩ := hG72
    have q80 : RpV s66 (a0 : Val) (F65 5) := hR74 0 rfl 5 rfl
    obtain ⟨A81, c82, A84, c85, A87, c88, A90, c91, hv93, h83, h86, h89, h92⟩ := Val.rpv q80
    refine r_call [.agg #[.int .i64 a0.Kind, .int .i64 a0.Int_, .string a0.Text, .slice A81 a0.Kids.length c82, .slice A84 a0.Keys.length c85, .slice A87 a0.Entries.length c88, .slice A90 a0.Labels.length c91]] (evs1 hv93) rfl ((ok_value_clone fuel) _ _ _ _ (Val.rpvMk (v := a0) h83 h86 h89 h92) e41) ?_
    intro v95 s94 hx96 hr97
    have hE98 := hE75.ext hE75.size hx96
    obtain ⟨A99, c100, A102, c103, A105, c106, A108, c109, rfl, h101, h104, h107, h110⟩ := Val.rpv hr97
    refine wpList_nil ?_
    exact ⟨_, _, rfl, rfl, (ExtB.refl _ _).trans (hx96.mono hE75.size), (Wext.refl _).trans hx96.wext, (Val.rpvMk (v := r40) h101 h104 h107 h110), ⟨(g76.ext hx96), (g77.ext hx96), (fun y0 => ((g78 y0).ext hx96)), (fun y0 => (let ⟨zA0, zc0, zA1, zc1, zA2, zc2, zA3, zc3, zb, zf0, zf1, zf2, zf3⟩ := (g79 y0); ⟨zA0, zc0, zA1, zc1, zA2, zc2, zA3, zc3, (zb.ext hx96), (zf0.mono hx96.wext), (zf1.mono hx96.wext), (zf2.mono hx96.wext), (zf3.mono hx96.wext)⟩))⟩⟩
  · intro D111 F112 s113 d114 d115 d116 hE117 hW118 hG119 hfr120 hR121
    have hE122 := hE39.trans hE117
    obtain ⟨g123, g124, g125, g126⟩ := hG119
    have hb127 := g124
    refine r_load b30 0 (.agg #[.int .i64 a1.Kind, .int .i64 a1.Int_, .string a1.Text, .slice A13 a1.Kids.length c14, .slice A16 a1.Keys.length c17, .slice A19 a1.Entries.length c20, .slice A22 a1.Labels.length c23]) ((hfr120 3 rfl).trans rfl) rfl (loads_row tr27 (Blk.range hb127 0 [.int .i64 a1.Kind, .int .i64 a1.Int_, .string a1.Text, .slice A13 a1.Kids.length c14, .slice A16 a1.Keys.length c17, .slice A19 a1.Entries.length c20, .slice A22 a1.Labels.length c23] rfl)) ?_
    refine wpList_nil ?_
    exact ⟨_, _, rfl, rfl, ExtB.refl _ _, Wext.refl _, (Val.rpvMk (v := a1) ((((h15.mono hx27.wext).mono hx32.wext).mono hx37.wext).mono hW118) ((((h18.mono hx27.wext).mono hx32.wext).mono hx37.wext).mono hW118) ((((h21.mono hx27.wext).mono hx32.wext).mono hx37.wext).mono hW118) ((((h24.mono hx27.wext).mono hx32.wext).mono hx37.wext).mono hW118)), ⟨g123, g124, (fun y0 => (g125 y0)), (fun y0 => (let ⟨zA0, zc0, zA1, zc1, zA2, zc2, zA3, zc3, zb, zf0, zf1, zf2, zf3⟩ := (g126 y0); ⟨zA0, zc0, zA1, zc1, zA2, zc2, zA3, zc3, zb, zf0, zf1, zf2, zf3⟩))⟩⟩
  · intro D128 F129 s130 d131 d132 d133 hE134 hW135 hG136 hfr137 hR138
    have hE139 := hE39.trans hE134
    obtain ⟨g140, g141, g142, g143⟩ := hG136
    have q144 : RpV s130 (a1 : Val) (F129 7) := hR138 2 rfl 7 rfl
    obtain ⟨A145, c146, A148, c149, A151, c152, A154, c155, hv157, h147, h150, h153, h156⟩ := Val.rpv q144
    refine r_call [.agg #[.int .i64 a1.Kind, .int .i64 a1.Int_, .string a1.Text, .slice A145 a1.Kids.length c146, .slice A148 a1.Keys.length c149, .slice A151 a1.Entries.length c152, .slice A154 a1.Labels.length c155]] (evs1 hv157) rfl ((ok_value_clone fuel) _ _ _ _ (Val.rpvMk (v := a1) h147 h150 h153 h156) e43) ?_
    intro v159 s158 hx160 hr161
    have hE162 := hE139.ext hE139.size hx160
    obtain ⟨A163, c164, A166, c167, A169, c170, A172, c173, rfl, h165, h168, h171, h174⟩ := Val.rpv hr161
    refine wpList_nil ?_
    exact ⟨_, _, rfl, rfl, (ExtB.refl _ _).trans (hx160.mono hE139.size), (Wext.refl _).trans hx160.wext, (Val.rpvMk (v := r42) h165 h168 h171 h174), ⟨(g140.ext hx160), (g141.ext hx160), (fun y0 => ((g142 y0).ext hx160)), (fun y0 => (let ⟨zA0, zc0, zA1, zc1, zA2, zc2, zA3, zc3, zb, zf0, zf1, zf2, zf3⟩ := (g143 y0); ⟨zA0, zc0, zA1, zc1, zA2, zc2, zA3, zc3, (zb.ext hx160), (zf0.mono hx160.wext), (zf1.mono hx160.wext), (zf2.mono hx160.wext), (zf3.mono hx160.wext)⟩))⟩⟩
  · intro D175 F176 s177 d178 d179 d180 hE181 hW182 hG183 hfr184 hR185
    have hE186 := hE39.trans hE181
    obtain ⟨g187, g188, g189, g190⟩ := hG183
    have q191 : RpV s177 (r40 : Val) (F176 6) := hR185 1 rfl 6 rfl
    obtain ⟨A192, c193, A195, c196, A198, c199, A201, c202, hv204, h194, h197, h200, h203⟩ := Val.rpv q191
    have q205 : RpV s177 (r42 : Val) (F176 8) := hR185 3 rfl 8 rfl
    obtain ⟨A206, c207, A209, c210, A212, c213, A215, c216, hv218, h208, h211, h214, h217⟩ := Val.rpv q205
    refine r_buildSlice (B := s0.N) (E := 27) 4 hE186.size ts22 (xs := [r40, r42]) [.agg #[.int .i64 r40.Kind, .int .i64 r40.Int_, .string r40.Text, .slice A192 r40.Kids.length c193, .slice A195 r40.Keys.length c196, .slice A198 r40.Entries.length c199, .slice A201 r40.Labels.length c202], .agg #[.int .i64 r42.Kind, .int .i64 r42.Int_, .string r42.Text, .slice A206 r42.Kids.length c207, .slice A209 r42.Keys.length c210, .slice A212 r42.Entries.length c213, .slice A215 r42.Labels.length c216]] (eps_cons hv204 (eps_cons hv218 eps_nil)) rfl rfl rfl (by decide) rfl (by simp [Value.cells, Rp.sz]) ⟨_, _, rfl, (Val.cells_iff.2 ⟨_, _, _, _, _, _, _, _, rfl, h194, h197, h200, h203⟩), ⟨_, _, rfl, (Val.cells_iff.2 ⟨_, _, _, _, _, _, _, _, rfl, h208, h211, h214, h217⟩), rfl⟩⟩ ?_
    intro s219 A220 c221 hx222 ho223
    have hE224 := hE186.ext hE186.size hx222
    refine wpList_nil ?_
    exact ⟨_, _, rfl, rfl, (ExtB.refl _ _).trans (hx222.mono hE186.size), (Wext.refl _).trans hx222.wext, (RpV.mkList ho223.sl), ⟨(g187.ext hx222), (g188.ext hx222), (fun y0 => ((g189 y0).ext hx222)), (fun y0 => (let ⟨zA0, zc0, zA1, zc1, zA2, zc2, zA3, zc3, zb, zf0, zf1, zf2, zf3⟩ := (g190 y0); ⟨zA0, zc0, zA1, zc1, zA2, zc2, zA3, zc3, (zb.ext hx222), (zf0.mono hx222.wext), (zf1.mono hx222.wext), (zf2.mono hx222.wext), (zf3.mono hx222.wext)⟩))⟩⟩
  · intro D225 F226 s227 d228 d229 d230 hE231 hW232 hG233 hfr234 hR235
    have hE236 := hE39.trans hE231
    obtain ⟨g237, g238, g239, g240⟩ := hG233
    have q241 : RpV s227 ([r40, r42] : (List Val)) (F226 9) := hR235 4 rfl 9 rfl
    obtain ⟨A242, c243, hv245, h244⟩ := RpV.list q241
    refine r_build tst27 [(0, .int .i64 7), (3, .slice A242 [r40, r42].length c243)] [.int .i64 7, .int .i64 0, .string (⟨#[]⟩), .slice A242 [r40, r42].length c243, .slice none ([] : List Key).length 0, .slice none ([] : List Ent).length 0, .slice none ([] : List ByteArray).length 0] (eps_cons rfl (eps_cons hv245 eps_nil)) rfl rfl ?_
    refine wpList_nil ?_
    exact ⟨_, _, rfl, rfl, ExtB.refl _ _, Wext.refl _, (Val.rpvMk (v := (Val.mk 7 0 (⟨#[]⟩) [r40, r42] ([] : List Key) ([] : List Ent) ([] : List ByteArray))) h244 (Sl.nil_ _ _ _ (Nat.zero_le _)) (Sl.nil_ _ _ _ (Nat.zero_le _)) (Sl.nil_ _ _ _ (Nat.zero_le _))), ⟨g237, g238, (fun y0 => (g239 y0)), (fun y0 => (let ⟨zA0, zc0, zA1, zc1, zA2, zc2, zA3, zc3, zb, zf0, zf1, zf2, zf3⟩ := (g240 y0); ⟨zA0, zc0, zA1, zc1, zA2, zc2, zA3, zc3, zb, zf0, zf1, zf2, zf3⟩))⟩⟩
  · intro D246 F247 s248 d249 d250 d251 hE252 hW253 hG254 hfr255 hR256
    have hE257 := hE39.trans hE252
    obtain ⟨g258, g259, g260, g261⟩ := hG254
    have hb262 := g260 d249
    have q263 : RpV s248 ((Val.mk 7 0 (⟨#[]⟩) [r40, r42] ([] : List Key) ([] : List Ent) ([] : List ByteArray)) : Val) (F247 10) := hR256 5 rfl 10 rfl
    obtain ⟨A264, c265, A267, c268, A270, c271, A273, c274, hv276, h266, h269, h272, h275⟩ := Val.rpv q263
    refine r_store hb262 0 (.agg #[.int .i64 7, .int .i64 0, .string (⟨#[]⟩), .slice A264 ((Val.mk 7 0 (⟨#[]⟩) [r40, r42] ([] : List Key) ([] : List Ent) ([] : List ByteArray)).Kids).length c265, .slice A267 ((Val.mk 7 0 (⟨#[]⟩) [r40, r42] ([] : List Key) ([] : List Ent) ([] : List ByteArray)).Keys).length c268, .slice A270 ((Val.mk 7 0 (⟨#[]⟩) [r40, r42] ([] : List Key) ([] : List Ent) ([] : List ByteArray)).Entries).length c271, .slice A273 ((Val.mk 7 0 (⟨#[]⟩) [r40, r42] ([] : List Key) ([] : List Ent) ([] : List ByteArray)).Labels).length c274]) [.int .i64 7, .int .i64 0, .string (⟨#[]⟩), .slice A264 ((Val.mk 7 0 (⟨#[]⟩) [r40, r42] ([] : List Key) ([] : List Ent) ([] : List ByteArray)).Kids).length c265, .slice A267 ((Val.mk 7 0 (⟨#[]⟩) [r40, r42] ([] : List Key) ([] : List Ent) ([] : List ByteArray)).Keys).length c268, .slice A270 ((Val.mk 7 0 (⟨#[]⟩) [r40, r42] ([] : List Key) ([] : List Ent) ([] : List ByteArray)).Entries).length c271, .slice A273 ((Val.mk 7 0 (⟨#[]⟩) [r40, r42] ([] : List Key) ([] : List Ent) ([] : List ByteArray)).Labels).length c274] [.int .i64 7, .int .i64 0, .string (⟨#[]⟩), .slice A264 ((Val.mk 7 0 (⟨#[]⟩) [r40, r42] ([] : List Key) ([] : List Ent) ([] : List ByteArray)).Kids).length c265, .slice A267 ((Val.mk 7 0 (⟨#[]⟩) [r40, r42] ([] : List Key) ([] : List Ent) ([] : List ByteArray)).Keys).length c268, .slice A270 ((Val.mk 7 0 (⟨#[]⟩) [r40, r42] ([] : List Key) ([] : List Ent) ([] : List ByteArray)).Entries).length c271, .slice A273 ((Val.mk 7 0 (⟨#[]⟩) [r40, r42] ([] : List Key) ([] : List Ent) ([] : List ByteArray)).Labels).length c274] ((hfr255 4 rfl).trans rfl) hv276 rfl rfl rfl sz27 rfl rfl rfl ?_
    intro s277 hm278 hb279
    have hE280 := hE257.mod hE257.size hm278
    refine wpList_nil ?_
    exact ⟨_, _, rfl, rfl, (ExtB.refl _ _).trans ((ExtB.refl _ _).mod hE257.size hm278), (Wext.refl _).trans hm278.wext, trivial, ⟨(g258.mod hm278 rfl), (g259.mod hm278 rfl), (fun h => Bool.noConfusion h), (fun _ => ⟨A264, c265, A267, c268, A270, c271, A273, c274, hb279, (h266.mono hm278.wext), (h269.mono hm278.wext), (h272.mono hm278.wext), (h275.mono hm278.wext)⟩)⟩⟩
  · intro F281 s282 hE283 hW284 hG285 hfr286 hR287
    have hE288 := hE39.trans hE283
    obtain ⟨g289, g290, g291, g292⟩ := hG285
    have hb293 := g289
    have hb294 := g290
    obtain ⟨A295, c296, A298, c299, A301, c302, A304, c305, hb307, h297, h300, h303, h306⟩ := g292 rfl
    have hF308 : F281 4 = (.pointer (some ⟨b35, 0, none⟩)) := (hfr286 4 rfl).trans rfl
    refine p_then ?_
    refine wp_ret ?_
    obtain rfl := Option.some.inj hf
    refine ret_one (.agg #[.int .i64 7, .int .i64 0, .string (⟨#[]⟩), .slice A295 [r40, r42].length c296, .slice A298 ([] : List Key).length c299, .slice A301 ([] : List Ent).length c302, .slice A304 ([] : List ByteArray).length c305]) rfl ⟨rfl, _, hF308, loads_row tr27 (Blk.range hb307 0 [.int .i64 7, .int .i64 0, .string (⟨#[]⟩), .slice A295 [r40, r42].length c296, .slice A298 ([] : List Key).length c299, .slice A301 ([] : List Ent).length c302, .slice A304 ([] : List ByteArray).length c305] rfl)⟩ hE288 ?_
    exact (Val.rpvMk (v := (Val.mk 7 0 (⟨#[]⟩) [r40, r42] ([] : List Key) ([] : List Ent) ([] : List ByteArray))) h297 h300 h303 h306)

def S_value_Int (f : (Int → Option Val)) : Prop := ∀ (s0 : S) (v0 : Value) (a0 : Int) (r : Val), RpV s0 a0 v0 → f a0 = some r → Ctr Go.Proofs.Try.prog 23 [v0] s0 (fun v τ => RpV τ r v)

set_option maxHeartbeats 1600000 in
set_option maxRecDepth 100000 in
theorem ok_value_Int : S_value_Int value_Int := by
  intro s0 v0 a0 r h0 hf
  obtain rfl := RpV.int h0
  unfold value_Int at hf
  have hE0 : ExtB s0.N s0 s0 := ExtB.refl _ _
  refine ctr_of 5 Go.Proofs.Try.func23 rfl rfl rfl rfl ?_
  refine wp_seq ?_
  refine wp_region_lit ?_
  refine r_alloc (B := s0.N) 1 hE0.size _ [.int .i64 0, .int .i64 0, .string (⟨#[]⟩), .slice none ([] : List Val).length 0, .slice none ([] : List Key).length 0, .slice none ([] : List Ent).length 0, .slice none ([] : List ByteArray).length 0] ti27 rfl ?_
  intro s2 b1 hx3 hb4
  have hE5 := hE0.ext hE0.size hx3
  refine wpList_nil ?_
  refine p_then ?_
  refine wp_seq ?_
  refine wp_region_lit ?_
  refine r_move (.int .i64 a0) rfl rfl ?_
  refine r_build tst27 [(0, .int .i64 1), (1, .int .i64 a0)] [.int .i64 1, .int .i64 a0, .string (⟨#[]⟩), .slice none ([] : List Val).length 0, .slice none ([] : List Key).length 0, .slice none ([] : List Ent).length 0, .slice none ([] : List ByteArray).length 0] (eps_cons rfl (eps_cons rfl eps_nil)) rfl rfl ?_
  refine r_store hb4 0 (.agg #[.int .i64 1, .int .i64 a0, .string (⟨#[]⟩), .slice none ([] : List Val).length 0, .slice none ([] : List Key).length 0, .slice none ([] : List Ent).length 0, .slice none ([] : List ByteArray).length 0]) [.int .i64 1, .int .i64 a0, .string (⟨#[]⟩), .slice none ([] : List Val).length 0, .slice none ([] : List Key).length 0, .slice none ([] : List Ent).length 0, .slice none ([] : List ByteArray).length 0] [.int .i64 1, .int .i64 a0, .string (⟨#[]⟩), .slice none ([] : List Val).length 0, .slice none ([] : List Key).length 0, .slice none ([] : List Ent).length 0, .slice none ([] : List ByteArray).length 0] rfl rfl rfl rfl rfl sz27 rfl rfl rfl ?_
  intro s6 hm7 hb8
  have hE9 := hE5.mod hE5.size hm7
  refine wpList_nil ?_
  refine p_then ?_
  refine wp_ret ?_
  obtain rfl := Option.some.inj hf
  refine ret_one (.agg #[.int .i64 1, .int .i64 a0, .string (⟨#[]⟩), .slice none ([] : List Val).length 0, .slice none ([] : List Key).length 0, .slice none ([] : List Ent).length 0, .slice none ([] : List ByteArray).length 0]) rfl ⟨rfl, _, rfl, loads_row tr27 (Blk.range hb8 0 [.int .i64 1, .int .i64 a0, .string (⟨#[]⟩), .slice none ([] : List Val).length 0, .slice none ([] : List Key).length 0, .slice none ([] : List Ent).length 0, .slice none ([] : List ByteArray).length 0] rfl)⟩ hE9 ?_
  exact (Val.rpvMk (v := (Val.mk 1 a0 (⟨#[]⟩) ([] : List Val) ([] : List Key) ([] : List Ent) ([] : List ByteArray))) (Sl.nil_ _ _ _ (Nat.zero_le _)) (Sl.nil_ _ _ _ (Nat.zero_le _)) (Sl.nil_ _ _ _ (Nat.zero_le _)) (Sl.nil_ _ _ _ (Nat.zero_le _)))

def S_semtypelaw4_awake (f : (Option Bool)) : Prop := ∀ (s0 : S) (r : Bool), f = some r → Ctr Go.Proofs.Try.prog 8 [] s0 (fun v τ => RpV τ r v)

end Go.Sx
