/- Printed by dec.py. The walks. -/
import Derived.Test.YtamfhohifmbjnaaWk4
namespace Go.Sx
open Go Go.RowKit
attribute [local irreducible] Go.wpList Go.Code.wp Go.Sx.Ctr

def S_semtyperef1_Order (f : (Int → Int → Option Int)) : Prop := ∀ (s0 : S) (v0 : Value) (v1 : Value) (a0 : Int) (a1 : Int) (r : Int), RpV s0 a0 v0 → RpV s0 a1 v1 → f a0 a1 = some r → Ctr Go.Proofs.Try.prog 47 [v0, v1] s0 (fun v τ => RpV τ r v)

set_option maxHeartbeats 1600000 in
set_option maxRecDepth 100000 in
theorem ok_semtyperef1_Order : S_semtyperef1_Order semtyperef1_Order := by
  intro s0 v0 v1 a0 a1 r h0 h1 hf
  obtain rfl := RpV.int h0
  obtain rfl := RpV.int h1
  unfold semtyperef1_Order at hf
  have hE0 : ExtB s0.N s0 s0 := ExtB.refl _ _
  refine ctr_of 11 Go.Proofs.Try.func47 rfl rfl rfl rfl ?_
  refine wp_seq ?_
  refine wp_region_lit ?_
  refine r_assign (.int .i64 0) rfl rfl ?_
  refine wpList_nil ?_
  refine p_then ?_
  refine wp_seq ?_
  refine wp_seq ?_
  refine wp_region_lit ?_
  refine r_move (.int .i64 a0) rfl rfl ?_
  refine r_move (.int .i64 a1) rfl rfl ?_
  refine r_bin (.int .i64 a0) (.int .i64 a1) (.bool (decide (a0 < a1))) rfl rfl rfl rfl (b_lss) ?_
  refine wpList_nil ?_
  refine p_then ?_
  refine if_else hf (fun hc1 hf => ?_) (fun hc1 hf => ?_)
  · refine c_true rfl hc1 rfl ?_
    refine wp_seq ?_
    refine wp_region_lit ?_
    refine r_assign (.int .i64 (-1)) rfl rfl ?_
    refine wpList_nil ?_
    refine p_then ?_
    refine wp_ret ?_
    refine p_thenr ?_
    obtain rfl := Option.some.inj hf
    refine ret_one (.int .i64 (-1)) rfl ⟨rfl, rfl⟩ hE0 ?_
    exact (RpV.mkInt _ _)
  · refine c_false rfl hc1 rfl ?_
    refine wp_skip ?_
    refine p_then ?_
    refine wp_seq ?_
    refine wp_seq ?_
    refine wp_region_lit ?_
    refine r_move (.int .i64 a0) rfl rfl ?_
    refine r_move (.int .i64 a1) rfl rfl ?_
    refine r_bin (.int .i64 a0) (.int .i64 a1) (.bool (decide (a1 < a0))) rfl rfl rfl rfl (b_gtr) ?_
    refine wpList_nil ?_
    refine p_then ?_
    refine if_else hf (fun hc2 hf => ?_) (fun hc2 hf => ?_)
    · refine c_true rfl hc2 rfl ?_
      refine wp_seq ?_
      refine wp_region_lit ?_
      refine r_assign (.int .i64 1) rfl rfl ?_
      refine wpList_nil ?_
      refine p_then ?_
      refine wp_ret ?_
      refine p_thenr ?_
      obtain rfl := Option.some.inj hf
      refine ret_one (.int .i64 1) rfl ⟨rfl, rfl⟩ hE0 ?_
      exact (RpV.mkInt _ _)
    · refine c_false rfl hc2 rfl ?_
      refine wp_skip ?_
      refine p_then ?_
      refine wp_seq ?_
      refine wp_region_lit ?_
      refine r_assign (.int .i64 0) rfl rfl ?_
      refine wpList_nil ?_
      refine p_then ?_
      refine wp_ret ?_
      obtain rfl := Option.some.inj hf
      refine ret_one (.int .i64 0) rfl ⟨rfl, rfl⟩ hE0 ?_
      exact (RpV.mkInt _ _)

def S_semtyperef1_count (f : (Int → Int → Option Int)) : Prop := ∀ (s0 : S) (v0 : Value) (v1 : Value) (a0 : Int) (a1 : Int) (r : Int), RpV s0 a0 v0 → RpV s0 a1 v1 → f a0 a1 = some r → Ctr Go.Proofs.Try.prog 46 [v0, v1] s0 (fun v τ => RpV τ r v)

set_option maxHeartbeats 1600000 in
set_option maxRecDepth 100000 in
theorem ok_semtyperef1_count : S_semtyperef1_count semtyperef1_count := by
  intro s0 v0 v1 a0 a1 r h0 h1 hf
  obtain rfl := RpV.int h0
  obtain rfl := RpV.int h1
  unfold semtyperef1_count at hf
  have hE0 : ExtB s0.N s0 s0 := ExtB.refl _ _
  refine ctr_of 8 Go.Proofs.Try.func46 rfl rfl rfl rfl ?_
  refine wp_seq ?_
  refine wp_region_lit ?_
  refine r_assign (.int .i64 0) rfl rfl ?_
  refine wpList_nil ?_
  refine p_then ?_
  refine wp_seq ?_
  refine wp_region_lit ?_
  refine r_move (.int .i64 a0) rfl rfl ?_
  refine r_move (.int .i64 a1) rfl rfl ?_
  obtain ⟨r1, e2, hf⟩ := bind_some hf
  refine r_call [.int .i64 a0, .int .i64 a1] (evs2 rfl rfl) rfl (ok_semtyperef1_Order _ _ _ _ _ _ (RpV.mkInt _ _) (RpV.mkInt _ _) e2) ?_
  intro v4 s3 hx5 hr6
  have hE7 := hE0.ext hE0.size hx5
  obtain rfl := RpV.int hr6
  refine r_assign (.int .i64 r1) rfl rfl ?_
  refine wpList_nil ?_
  refine p_then ?_
  refine wp_ret ?_
  obtain rfl := Option.some.inj hf
  refine ret_one (.int .i64 r1) rfl ⟨rfl, rfl⟩ hE7 ?_
  exact (RpV.mkInt _ _)

def S_semtyperef1_Text (f : (ByteArray → ByteArray → Option Int)) : Prop := ∀ (s0 : S) (v0 : Value) (v1 : Value) (a0 : ByteArray) (a1 : ByteArray) (r : Int), RpV s0 a0 v0 → RpV s0 a1 v1 → f a0 a1 = some r → Ctr Go.Proofs.Try.prog 48 [v0, v1] s0 (fun v τ => RpV τ r v)

set_option maxHeartbeats 1600000 in
set_option maxRecDepth 100000 in
theorem ok_semtyperef1_Text : S_semtyperef1_Text semtyperef1_Text := by
  intro s0 v0 v1 a0 a1 r h0 h1 hf
  obtain rfl := RpV.str h0
  obtain rfl := RpV.str h1
  unfold semtyperef1_Text at hf
  have hE0 : ExtB s0.N s0 s0 := ExtB.refl _ _
  refine ctr_of 11 Go.Proofs.Try.func48 rfl rfl rfl rfl ?_
  refine wp_seq ?_
  refine wp_region_lit ?_
  refine r_assign (.int .i64 0) rfl rfl ?_
  refine wpList_nil ?_
  refine p_then ?_
  refine wp_seq ?_
  refine wp_seq ?_
  refine wp_region_lit ?_
  refine r_move (.string a0) rfl rfl ?_
  refine r_move (.string a1) rfl rfl ?_
  refine r_bin (.string a0) (.string a1) (.bool (strLt a0 a1)) rfl rfl rfl rfl (b_slss) ?_
  refine wpList_nil ?_
  refine p_then ?_
  refine if_else hf (fun hc1 hf => ?_) (fun hc1 hf => ?_)
  · refine c_true rfl hc1 rfl ?_
    refine wp_seq ?_
    refine wp_region_lit ?_
    refine r_assign (.int .i64 (-1)) rfl rfl ?_
    refine wpList_nil ?_
    refine p_then ?_
    refine wp_ret ?_
    refine p_thenr ?_
    obtain rfl := Option.some.inj hf
    refine ret_one (.int .i64 (-1)) rfl ⟨rfl, rfl⟩ hE0 ?_
    exact (RpV.mkInt _ _)
  · refine c_false rfl hc1 rfl ?_
    refine wp_skip ?_
    refine p_then ?_
    refine wp_seq ?_
    refine wp_seq ?_
    refine wp_region_lit ?_
    refine r_move (.string a0) rfl rfl ?_
    refine r_move (.string a1) rfl rfl ?_
    refine r_bin (.string a0) (.string a1) (.bool (!(strLt a0 a1 || strEq a0 a1))) rfl rfl rfl rfl (b_sgtr) ?_
    refine wpList_nil ?_
    refine p_then ?_
    refine if_else hf (fun hc2 hf => ?_) (fun hc2 hf => ?_)
    · refine c_true rfl hc2 rfl ?_
      refine wp_seq ?_
      refine wp_region_lit ?_
      refine r_assign (.int .i64 1) rfl rfl ?_
      refine wpList_nil ?_
      refine p_then ?_
      refine wp_ret ?_
      refine p_thenr ?_
      obtain rfl := Option.some.inj hf
      refine ret_one (.int .i64 1) rfl ⟨rfl, rfl⟩ hE0 ?_
      exact (RpV.mkInt _ _)
    · refine c_false rfl hc2 rfl ?_
      refine wp_skip ?_
      refine p_then ?_
      refine wp_seq ?_
      refine wp_region_lit ?_
      refine r_assign (.int .i64 0) rfl rfl ?_
      refine wpList_nil ?_
      refine p_then ?_
      refine wp_ret ?_
      obtain rfl := Option.some.inj hf
      refine ret_one (.int .i64 0) rfl ⟨rfl, rfl⟩ hE0 ?_
      exact (RpV.mkInt _ _)

def S_semtyperef1_CompareKeys (f : (Key → Key → Option Int)) : Prop := ∀ (s0 : S) (v0 : Value) (v1 : Value) (a0 : Key) (a1 : Key) (r : Int), RpV s0 a0 v0 → RpV s0 a1 v1 → f a0 a1 = some r → Ctr Go.Proofs.Try.prog 49 [v0, v1] s0 (fun v τ => RpV τ r v)

set_option maxHeartbeats 1600000 in
set_option maxRecDepth 100000 in
theorem ok_semtyperef1_CompareKeys : S_semtyperef1_CompareKeys semtyperef1_CompareKeys := by
  intro s0 v0 v1 a0 a1 r h0 h1 hf
  obtain rfl := Key.rpv h0
  obtain rfl := Key.rpv h1
  unfold semtyperef1_CompareKeys at hf
  have hE0 : ExtB s0.N s0 s0 := ExtB.refl _ _
  refine ctr_of 20 Go.Proofs.Try.func49 rfl rfl rfl rfl ?_
  refine wp_seq ?_
  refine wp_region_lit ?_
  refine r_box (B := s0.N) 1 hE0.size (.agg #[.int .i64 a0.Kind, .string a0.Text]) [.int .i64 a0.Kind, .string a0.Text] rfl rfl rfl ?_
  intro s2 b1 hx3 hb4
  have hE5 := hE0.ext hE0.size hx3
  refine r_box (B := s0.N) 2 hE5.size (.agg #[.int .i64 a1.Kind, .string a1.Text]) [.int .i64 a1.Kind, .string a1.Text] rfl rfl rfl ?_
  intro s7 b6 hx8 hb9
  have hE10 := hE5.ext hE5.size hx8
  refine r_assign (.int .i64 0) rfl rfl ?_
  refine wpList_nil ?_
  refine p_then ?_
  refine wp_seq ?_
  refine wp_seq ?_
  refine wp_region_lit ?_
  refine r_fieldAddr b1 0 0 0 rfl rfl fo60_0 rfl ?_
  refine r_load b1 0 (.int .i64 a0.Kind) rfl rfl (loads_one to3 (((hb4.ext hx8).cell 0).trans rfl)) ?_
  refine r_fieldAddr b6 0 0 0 rfl rfl fo60_0 rfl ?_
  refine r_load b6 0 (.int .i64 a1.Kind) rfl rfl (loads_one to3 ((hb9.cell 0).trans rfl)) ?_
  refine r_bin (.int .i64 a0.Kind) (.int .i64 a1.Kind) (.bool (a0.Kind != a1.Kind)) rfl rfl rfl rfl (b_neq) ?_
  refine wpList_nil ?_
  refine p_then ?_
  refine if_else hf (fun hc11 hf => ?_) (fun hc11 hf => ?_)
  · refine c_true rfl hc11 rfl ?_
    refine wp_seq ?_
    refine wp_region_lit ?_
    refine r_fieldAddr b1 0 0 0 rfl rfl fo60_0 rfl ?_
    refine r_load b1 0 (.int .i64 a0.Kind) rfl rfl (loads_one to3 (((hb4.ext hx8).cell 0).trans rfl)) ?_
    refine r_fieldAddr b6 0 0 0 rfl rfl fo60_0 rfl ?_
    refine r_load b6 0 (.int .i64 a1.Kind) rfl rfl (loads_one to3 ((hb9.cell 0).trans rfl)) ?_
    obtain ⟨r12, e13, hf⟩ := bind_some hf
    refine r_call [.int .i64 a0.Kind, .int .i64 a1.Kind] (evs2 rfl rfl) rfl (ok_semtyperef1_Order _ _ _ _ _ _ (RpV.mkInt _ _) (RpV.mkInt _ _) e13) ?_
    intro v15 s14 hx16 hr17
    have hE18 := hE10.ext hE10.size hx16
    obtain rfl := RpV.int hr17
    refine r_assign (.int .i64 r12) rfl rfl ?_
    refine wpList_nil ?_
    refine p_then ?_
    refine wp_ret ?_
    refine p_thenr ?_
    obtain rfl := Option.some.inj hf
    refine ret_one (.int .i64 r12) rfl ⟨rfl, rfl⟩ hE18 ?_
    exact (RpV.mkInt _ _)
  · refine c_false rfl hc11 rfl ?_
    refine wp_skip ?_
    refine p_then ?_
    refine wp_seq ?_
    refine wp_region_lit ?_
    refine r_fieldAddr b1 0 1 1 rfl rfl fo60_1 rfl ?_
    refine r_load b1 1 (.string a0.Text) rfl rfl (loads_one to9 (((hb4.ext hx8).cell 1).trans rfl)) ?_
    refine r_fieldAddr b6 0 1 1 rfl rfl fo60_1 rfl ?_
    refine r_load b6 1 (.string a1.Text) rfl rfl (loads_one to9 ((hb9.cell 1).trans rfl)) ?_
    obtain ⟨r19, e20, hf⟩ := bind_some hf
    refine r_call [.string a0.Text, .string a1.Text] (evs2 rfl rfl) rfl (ok_semtyperef1_Text _ _ _ _ _ _ (RpV.mkStr _ _) (RpV.mkStr _ _) e20) ?_
    intro v22 s21 hx23 hr24
    have hE25 := hE10.ext hE10.size hx23
    obtain rfl := RpV.int hr24
    refine r_assign (.int .i64 r19) rfl rfl ?_
    refine wpList_nil ?_
    refine p_then ?_
    refine wp_ret ?_
    obtain rfl := Option.some.inj hf
    refine ret_one (.int .i64 r19) rfl ⟨rfl, rfl⟩ hE25 ?_
    exact (RpV.mkInt _ _)

def S_semtyperef1_Compare (f : (Val → Val → Option Int)) : Prop := ∀ (s0 : S) (v0 : Value) (v1 : Value) (a0 : Val) (a1 : Val) (r : Int), RpV s0 a0 v0 → RpV s0 a1 v1 → f a0 a1 = some r → Ctr Go.Proofs.Try.prog 13 [v0, v1] s0 (fun v τ => RpV τ r v)

def S_semtyperef1_values (f : ((List Val) → (List Val) → Option Int)) : Prop := ∀ (s0 : S) (v0 : Value) (v1 : Value) (a0 : (List Val)) (a1 : (List Val)) (r : Int), RpV s0 a0 v0 → RpV s0 a1 v1 → f a0 a1 = some r → Ctr Go.Proofs.Try.prog 50 [v0, v1] s0 (fun v τ => RpV τ r v)

def S_semtyperef1_CompareEntries (f : (Ent → Ent → Option Int)) : Prop := ∀ (s0 : S) (v0 : Value) (v1 : Value) (a0 : Ent) (a1 : Ent) (r : Int), RpV s0 a0 v0 → RpV s0 a1 v1 → f a0 a1 = some r → Ctr Go.Proofs.Try.prog 51 [v0, v1] s0 (fun v τ => RpV τ r v)

set_option maxHeartbeats 1600000 in
set_option maxRecDepth 100000 in
theorem okB_semtyperef1_Compare {rec_semtyperef1_Compare : (Val → Val → Option Int)} {rec_semtyperef1_values : ((List Val) → (List Val) → Option Int)} {rec_semtyperef1_CompareEntries : (Ent → Ent → Option Int)} (hrec_semtyperef1_Compare : S_semtyperef1_Compare rec_semtyperef1_Compare) (hrec_semtyperef1_values : S_semtyperef1_values rec_semtyperef1_values) (hrec_semtyperef1_CompareEntries : S_semtyperef1_CompareEntries rec_semtyperef1_CompareEntries) : S_semtyperef1_Compare (semtyperef1_Compare_B rec_semtyperef1_Compare rec_semtyperef1_values rec_semtyperef1_CompareEntries) := by
  intro s0 v0 v1 a0 a1 r h0 h1 hf
  obtain ⟨A1, c2, A4, c5, A7, c8, A10, c11, rfl, h3, h6, h9, h12⟩ := Val.rpv h0
  obtain ⟨A13, c14, A16, c17, A19, c20, A22, c23, rfl, h15, h18, h21, h24⟩ := Val.rpv h1
  unfold semtyperef1_Compare_B at hf
  have hE0 : ExtB s0.N s0 s0 := ExtB.refl _ _
  refine ctr_of 155 Go.Proofs.Try.func13 rfl rfl rfl rfl ?_
  refine wp_seq ?_
  refine wp_region_lit ?_
  refine r_box (B := s0.N) 1 hE0.size (.agg #[.int .i64 a0.Kind, .int .i64 a0.Int_, .string a0.Text, .slice A1 a0.Kids.length c2, .slice A4 a0.Keys.length c5, .slice A7 a0.Entries.length c8, .slice A10 a0.Labels.length c11]) [.int .i64 a0.Kind, .int .i64 a0.Int_, .string a0.Text, .slice A1 a0.Kids.length c2, .slice A4 a0.Keys.length c5, .slice A7 a0.Entries.length c8, .slice A10 a0.Labels.length c11] rfl rfl rfl ?_
  intro s26 b25 hx27 hb28
  have hE29 := hE0.ext hE0.size hx27
  refine r_box (B := s0.N) 2 hE29.size (.agg #[.int .i64 a1.Kind, .int .i64 a1.Int_, .string a1.Text, .slice A13 a1.Kids.length c14, .slice A16 a1.Keys.length c17, .slice A19 a1.Entries.length c20, .slice A22 a1.Labels.length c23]) [.int .i64 a1.Kind, .int .i64 a1.Int_, .string a1.Text, .slice A13 a1.Kids.length c14, .slice A16 a1.Keys.length c17, .slice A19 a1.Entries.length c20, .slice A22 a1.Labels.length c23] rfl rfl rfl ?_
  intro s31 b30 hx32 hb33
  have hE34 := hE29.ext hE29.size hx32
  refine r_assign (.int .i64 0) rfl rfl ?_
  refine wpList_nil ?_
  refine p_then ?_
  refine wp_seq ?_
  refine wp_seq ?_
  refine wp_region_lit ?_
  refine r_fieldAddr b25 0 0 0 rfl rfl fo27_0 rfl ?_
  refine r_load b25 0 (.int .i64 a0.Kind) rfl rfl (loads_one to3 (((hb28.ext hx32).cell 0).trans rfl)) ?_
  refine r_fieldAddr b30 0 0 0 rfl rfl fo27_0 rfl ?_
  refine r_load b30 0 (.int .i64 a1.Kind) rfl rfl (loads_one to3 ((hb33.cell 0).trans rfl)) ?_
  refine r_bin (.int .i64 a0.Kind) (.int .i64 a1.Kind) (.bool (a0.Kind != a1.Kind)) rfl rfl rfl rfl (b_neq) ?_
  refine wpList_nil ?_
  refine p_then ?_
  refine if_else hf (fun hc35 hf => ?_) (fun hc35 hf => ?_)
  · refine c_true rfl hc35 rfl ?_
    refine wp_seq ?_
    refine wp_region_lit ?_
    refine r_fieldAddr b25 0 0 0 rfl rfl fo27_0 rfl ?_
    refine r_load b25 0 (.int .i64 a0.Kind) rfl rfl (loads_one to3 (((hb28.ext hx32).cell 0).trans rfl)) ?_
    refine r_fieldAddr b30 0 0 0 rfl rfl fo27_0 rfl ?_
    refine r_load b30 0 (.int .i64 a1.Kind) rfl rfl (loads_one to3 ((hb33.cell 0).trans rfl)) ?_
    obtain ⟨r36, e37, hf⟩ := bind_some hf
    refine r_call [.int .i64 a0.Kind, .int .i64 a1.Kind] (evs2 rfl rfl) rfl (ok_semtyperef1_count _ _ _ _ _ _ (RpV.mkInt _ _) (RpV.mkInt _ _) e37) ?_
    intro v39 s38 hx40 hr41
    have hE42 := hE34.ext hE34.size hx40
    obtain rfl := RpV.int hr41
    refine r_assign (.int .i64 r36) rfl rfl ?_
    refine wpList_nil ?_
    refine p_then ?_
    refine wp_ret ?_
    refine p_thenr ?_
    obtain rfl := Option.some.inj hf
    refine ret_one (.int .i64 r36) rfl ⟨rfl, rfl⟩ hE42 ?_
    exact (RpV.mkInt _ _)
  · refine c_false rfl hc35 rfl ?_
    refine wp_skip ?_
    refine p_then ?_
    refine wp_seq ?_
    refine wp_seq ?_
    refine wp_region_lit ?_
    refine r_fieldAddr b25 0 1 1 rfl rfl fo27_1 rfl ?_
    refine r_load b25 1 (.int .i64 a0.Int_) rfl rfl (loads_one to2 (((hb28.ext hx32).cell 1).trans rfl)) ?_
    refine r_fieldAddr b30 0 1 1 rfl rfl fo27_1 rfl ?_
    refine r_load b30 1 (.int .i64 a1.Int_) rfl rfl (loads_one to2 ((hb33.cell 1).trans rfl)) ?_
    refine r_bin (.int .i64 a0.Int_) (.int .i64 a1.Int_) (.bool (a0.Int_ != a1.Int_)) rfl rfl rfl rfl (b_neq) ?_
    refine wpList_nil ?_
    refine p_then ?_
    refine if_else hf (fun hc43 hf => ?_) (fun hc43 hf => ?_)
    · refine c_true rfl hc43 rfl ?_
      refine wp_seq ?_
      refine wp_region_lit ?_
      refine r_fieldAddr b25 0 1 1 rfl rfl fo27_1 rfl ?_
      refine r_load b25 1 (.int .i64 a0.Int_) rfl rfl (loads_one to2 (((hb28.ext hx32).cell 1).trans rfl)) ?_
      refine r_fieldAddr b30 0 1 1 rfl rfl fo27_1 rfl ?_
      refine r_load b30 1 (.int .i64 a1.Int_) rfl rfl (loads_one to2 ((hb33.cell 1).trans rfl)) ?_
      obtain ⟨r44, e45, hf⟩ := bind_some hf
      refine r_call [.int .i64 a0.Int_, .int .i64 a1.Int_] (evs2 rfl rfl) rfl (ok_semtyperef1_Order _ _ _ _ _ _ (RpV.mkInt _ _) (RpV.mkInt _ _) e45) ?_
      intro v47 s46 hx48 hr49
      have hE50 := hE34.ext hE34.size hx48
      obtain rfl := RpV.int hr49
      refine r_assign (.int .i64 r44) rfl rfl ?_
      refine wpList_nil ?_
      refine p_then ?_
      refine wp_ret ?_
      refine p_thenr ?_
      obtain rfl := Option.some.inj hf
      refine ret_one (.int .i64 r44) rfl ⟨rfl, rfl⟩ hE50 ?_
      exact (RpV.mkInt _ _)
    · refine c_false rfl hc43 rfl ?_
      refine wp_skip ?_
      refine p_then ?_
      refine wp_seq ?_
      refine wp_seq ?_
      refine wp_region_lit ?_
      refine r_fieldAddr b25 0 2 2 rfl rfl fo27_2 rfl ?_
      refine r_load b25 2 (.string a0.Text) rfl rfl (loads_one to9 (((hb28.ext hx32).cell 2).trans rfl)) ?_
      refine r_fieldAddr b30 0 2 2 rfl rfl fo27_2 rfl ?_
      refine r_load b30 2 (.string a1.Text) rfl rfl (loads_one to9 ((hb33.cell 2).trans rfl)) ?_
      refine r_bin (.string a0.Text) (.string a1.Text) (.bool (!strEq a0.Text a1.Text)) rfl rfl rfl rfl (b_sneq) ?_
      refine wpList_nil ?_
      refine p_then ?_
      refine if_else hf (fun hc51 hf => ?_) (fun hc51 hf => ?_)
      · refine c_true rfl hc51 rfl ?_
        refine wp_seq ?_
        refine wp_region_lit ?_
        refine r_fieldAddr b25 0 2 2 rfl rfl fo27_2 rfl ?_
        refine r_load b25 2 (.string a0.Text) rfl rfl (loads_one to9 (((hb28.ext hx32).cell 2).trans rfl)) ?_
        refine r_fieldAddr b30 0 2 2 rfl rfl fo27_2 rfl ?_
        refine r_load b30 2 (.string a1.Text) rfl rfl (loads_one to9 ((hb33.cell 2).trans rfl)) ?_
        obtain ⟨r52, e53, hf⟩ := bind_some hf
        refine r_call [.string a0.Text, .string a1.Text] (evs2 rfl rfl) rfl (ok_semtyperef1_Text _ _ _ _ _ _ (RpV.mkStr _ _) (RpV.mkStr _ _) e53) ?_
        intro v55 s54 hx56 hr57
        have hE58 := hE34.ext hE34.size hx56
        obtain rfl := RpV.int hr57
        refine r_assign (.int .i64 r52) rfl rfl ?_
        refine wpList_nil ?_
        refine p_then ?_
        refine wp_ret ?_
        refine p_thenr ?_
        obtain rfl := Option.some.inj hf
        refine ret_one (.int .i64 r52) rfl ⟨rfl, rfl⟩ hE58 ?_
        exact (RpV.mkInt _ _)
      · refine c_false rfl hc51 rfl ?_
        refine wp_skip ?_
        refine p_then ?_
        refine wp_seq ?_
        refine wp_seq ?_
        refine wp_region_lit ?_
        refine r_fieldAddr b25 0 4 4 rfl rfl fo27_4 rfl ?_
        refine r_load b25 4 (.slice A4 a0.Keys.length c5) rfl rfl (loads_one to23 (((hb28.ext hx32).cell 4).trans rfl)) ?_
        refine r_len A4 a0.Keys.length c5 rfl rfl Go.Proofs.Try.underlying23 ?_
        refine r_fieldAddr b30 0 4 4 rfl rfl fo27_4 rfl ?_
        refine r_load b30 4 (.slice A16 a1.Keys.length c17) rfl rfl (loads_one to23 ((hb33.cell 4).trans rfl)) ?_
        refine r_len A16 a1.Keys.length c17 rfl rfl Go.Proofs.Try.underlying23 ?_
        refine r_bin (.int .i64 (a0.Keys.length : Int)) (.int .i64 (a1.Keys.length : Int)) (.bool ((a0.Keys.length : Int) != (a1.Keys.length : Int))) rfl rfl rfl rfl (b_neq) ?_
        refine wpList_nil ?_
        refine p_then ?_
        refine if_else hf (fun hc59 hf => ?_) (fun hc59 hf => ?_)
        · refine c_true rfl hc59 rfl ?_
          refine wp_seq ?_
          refine wp_region_lit ?_
          refine r_fieldAddr b25 0 4 4 rfl rfl fo27_4 rfl ?_
          refine r_load b25 4 (.slice A4 a0.Keys.length c5) rfl rfl (loads_one to23 (((hb28.ext hx32).cell 4).trans rfl)) ?_
          refine r_len A4 a0.Keys.length c5 rfl rfl Go.Proofs.Try.underlying23 ?_
          refine r_fieldAddr b30 0 4 4 rfl rfl fo27_4 rfl ?_
          refine r_load b30 4 (.slice A16 a1.Keys.length c17) rfl rfl (loads_one to23 ((hb33.cell 4).trans rfl)) ?_
          refine r_len A16 a1.Keys.length c17 rfl rfl Go.Proofs.Try.underlying23 ?_
          obtain ⟨r60, e61, hf⟩ := bind_some hf
          refine r_call [.int .i64 (a0.Keys.length : Int), .int .i64 (a1.Keys.length : Int)] (evs2 rfl rfl) rfl (ok_semtyperef1_count _ _ _ _ _ _ (RpV.mkInt _ _) (RpV.mkInt _ _) e61) ?_
          intro v63 s62 hx64 hr65
          have hE66 := hE34.ext hE34.size hx64
          obtain rfl := RpV.int hr65
          refine r_assign (.int .i64 r60) rfl rfl ?_
          refine wpList_nil ?_
          refine p_then ?_
          refine wp_ret ?_
          refine p_thenr ?_
          obtain rfl := Option.some.inj hf
          refine ret_one (.int .i64 r60) rfl ⟨rfl, rfl⟩ hE66 ?_
          exact (RpV.mkInt _ _)
        · refine c_false rfl hc59 rfl ?_
          refine wp_skip ?_
          refine p_then ?_
          refine wp_seq ?_
          refine wp_seq ?_
          refine wp_region_lit ?_
          refine r_assign (.int .i64 0) rfl rfl ?_
          refine wpList_nil ?_
          refine p_then ?_
          refine wp_block ?_
          refine gen_F fun F67 hg68 => ?_
          have hF69 : F67 2 = (.pointer (some ⟨b25, 0, none⟩)) := (hg68 2).trans rfl
          have hF70 : F67 3 = (.pointer (some ⟨b30, 0, none⟩)) := (hg68 3).trans rfl
          have hF71 : F67 4 = (.int .i64 0) := (hg68 4).trans rfl
          have hF72 : F67 5 = (.int .i64 0) := (hg68 5).trans rfl
          obtain ⟨o327, ho328, hf⟩ := bind_some hf
          refine wp_mono (wp_iter (step := semtyperef1_Compare_l1 a0 a1) (fun q a w => ∃ (F : Fr) (τ : S), a = fr 155 F ∧ w = τ.w ∧ Agr [4, 5, 6, 56, 57, 58, 59, 60, 61, 62, 63, 64, 65, 66, 67, 68, 69, 70, 71, 72, 73, 74, 75, 76] F F67 ∧ ExtB s0.N s0 τ ∧ Wext s31 τ ∧ F 5 = (.int .i64 q) ∧ Blk s0.N 1 τ b25 27 [.int .i64 a0.Kind, .int .i64 a0.Int_, .string a0.Text, .slice A1 a0.Kids.length c2, .slice A4 a0.Keys.length c5, .slice A7 a0.Entries.length c8, .slice A10 a0.Labels.length c11] ∧ Blk s0.N 2 τ b30 27 [.int .i64 a1.Kind, .int .i64 a1.Int_, .string a1.Text, .slice A13 a1.Kids.length c14, .slice A16 a1.Keys.length c17, .slice A19 a1.Entries.length c20, .slice A22 a1.Labels.length c23]) (fun o e a w => match o with | .inl q => e = .exit 0 ∧ ∃ (F : Fr) (τ : S), a = fr 155 F ∧ w = τ.w ∧ Agr [4, 5, 6, 56, 57, 58, 59, 60, 61, 62, 63, 64, 65, 66, 67, 68, 69, 70, 71, 72, 73, 74, 75, 76] F F67 ∧ ExtB s0.N s0 τ ∧ Wext s31 τ ∧ F 5 = (.int .i64 q) ∧ Blk s0.N 1 τ b25 27 [.int .i64 a0.Kind, .int .i64 a0.Int_, .string a0.Text, .slice A1 a0.Kids.length c2, .slice A4 a0.Keys.length c5, .slice A7 a0.Entries.length c8, .slice A10 a0.Labels.length c11] ∧ Blk s0.N 2 τ b30 27 [.int .i64 a1.Kind, .int .i64 a1.Int_, .string a1.Text, .slice A13 a1.Kids.length c14, .slice A16 a1.Keys.length c17, .slice A19 a1.Entries.length c20, .slice A22 a1.Labels.length c23] | .inr r => e = .ret ∧ ∃ (F : Fr) (τ : S) (va : Value), a = fr 155 F ∧ w = τ.w ∧ ExtB s0.N s0 τ ∧ ResV Go.Proofs.Try.prog 155 F τ.w (.tmp 4) va ∧ RpV τ r va) (by rintro (_ | _) a w ⟨h, _⟩ <;> cases h) ?_ _ _ _ _ _ ho328 ?_) ?_
          · intro q73 fl a w hf hI
            obtain ⟨F74, s75, rfl, rfl, hag76, hE77, hW78, h79, h80, h81⟩ := hI
            unfold semtyperef1_Compare_l1 at hf
            have hF82 : F74 2 = (.pointer (some ⟨b25, 0, none⟩)) := (hag76 2 rfl).trans hF69
            have hF83 : F74 3 = (.pointer (some ⟨b30, 0, none⟩)) := (hag76 3 rfl).trans hF70
            refine wp_seq ?_
            refine wp_seq ?_
            refine wp_region_lit ?_
            refine r_move (.int .i64 q73) h79 rfl ?_
            refine r_fieldAddr b25 0 4 4 hF82 rfl fo27_4 rfl ?_
            refine r_load b25 4 (.slice A4 a0.Keys.length c5) rfl rfl (loads_one to23 ((h80.cell 4).trans rfl)) ?_
            refine r_len A4 a0.Keys.length c5 rfl rfl Go.Proofs.Try.underlying23 ?_
            refine r_bin (.int .i64 q73) (.int .i64 (a0.Keys.length : Int)) (.bool (decide (q73 < (a0.Keys.length : Int)))) rfl rfl rfl rfl (b_lss) ?_
            refine wpList_nil ?_
            refine p_then ?_
            refine if_else hf (fun hc84 hf => ?_) (fun hc84 hf => ?_)
            · refine c_true rfl hc84 rfl ?_
              refine wp_skip ?_
              refine p_then ?_
              refine wp_seq ?_
              refine wp_block ?_
              refine wp_seq ?_
              obtain ⟨x85, e86, hf⟩ := bind_some hf
              obtain ⟨x87, e88, hf⟩ := bind_some hf
              obtain ⟨r89, e90, hf⟩ := bind_some hf
              refine wp_draw (B := s0.N) [some 63, some 64, some 65, some 66, some 67, some 68, some 69, some 70, some 71, some 72, some 73, some 6] [[], [0], [], [0, 1, 2], [0, 1, 2, 3], [], [5], [], [5, 6, 7], [5, 6, 7, 8], [0, 1, 2, 3, 4, 5, 6, 7, 8, 9], [0, 1, 2, 3, 4, 5, 6, 7, 8, 9, 10]] [Fct.eqv (.pointer (some ⟨b25, 4, none⟩)), Fct.eqv (.slice A4 a0.Keys.length c5), Fct.eqv (.int .i64 q73), Fct.elem (x85 : Key), Fct.data (x85 : Key), Fct.eqv (.pointer (some ⟨b30, 4, none⟩)), Fct.data (a1.Keys : (List Key)), Fct.eqv (.int .i64 q73), Fct.elem (x87 : Key), Fct.data (x87 : Key), Fct.eqv (.int .i64 r89), Fct.eqv (.int .i64 r89)] (fun D F τ => (Blk s0.N 1 τ b25 27 [.int .i64 a0.Kind, .int .i64 a0.Int_, .string a0.Text, .slice A1 a0.Kids.length c2, .slice A4 a0.Keys.length c5, .slice A7 a0.Entries.length c8, .slice A10 a0.Labels.length c11]) ∧ (Blk s0.N 2 τ b30 27 [.int .i64 a1.Kind, .int .i64 a1.Int_, .string a1.Text, .slice A13 a1.Kids.length c14, .slice A16 a1.Keys.length c17, .slice A19 a1.Entries.length c20, .slice A22 a1.Labels.length c23])) (by kernel_rfl) rfl (by decide) (by decide) ⟨(h80.ext (ext_draw _)), (h81.ext (ext_draw _))⟩ (by decide) (by decide) ⟨?_, ?_, ?_, ?_, ?_, ?_, ?_, ?_, ?_, ?_, ?_, ?_, trivial⟩ ?_
              · intro D94 F95 s96 d97 d98 d99 hE100 hW101 hG102 hfr103 hR104
                have hE105 := hE77.trans hE100
                obtain ⟨g106, g107⟩ := hG102
                have hb108 := g106
                refine r_fieldAddr b25 0 4 4 ((hfr103 2 rfl).trans hF82) rfl fo27_4 rfl ?_
                refine wpList_nil ?_
                exact ⟨_, _, rfl, rfl, ExtB.refl _ _, Wext.refl _, rfl, ⟨g106, g107⟩⟩
              · intro D109 F110 s111 d112 d113 d114 hE115 hW116 hG117 hfr118 hR119
                have hE120 := hE77.trans hE115
                obtain ⟨g121, g122⟩ := hG117
                have hb123 := g121
                have q124 : F110 63 = (.pointer (some ⟨b25, 4, none⟩)) := hR119 0 rfl 63 rfl
                refine r_load b25 4 (.slice A4 a0.Keys.length c5) q124 rfl (loads_one to23 ((hb123.cell 4).trans rfl)) ?_
                refine wpList_nil ?_
                exact ⟨_, _, rfl, rfl, ExtB.refl _ _, Wext.refl _, rfl, ⟨g121, g122⟩⟩
              · intro D125 F126 s127 d128 d129 d130 hE131 hW132 hG133 hfr134 hR135
                have hE136 := hE77.trans hE131
                obtain ⟨g137, g138⟩ := hG133
                refine r_move (.int .i64 q73) ((hfr134 5 rfl).trans h79) rfl ?_
                refine wpList_nil ?_
                exact ⟨_, _, rfl, rfl, ExtB.refl _ _, Wext.refl _, rfl, ⟨g137, g138⟩⟩
              · intro D139 F140 s141 d142 d143 d144 hE145 hW146 hG147 hfr148 hR149
                have hE150 := hE77.trans hE145
                obtain ⟨g151, g152⟩ := hG147
                have q153 : F140 64 = (.slice A4 a0.Keys.length c5) := hR149 1 rfl 64 rfl
                have q154 : F140 65 = (.int .i64 q73) := hR149 2 rfl 65 rfl
                refine r_indexAddr (T := 23) (E := 60) ((((h6.mono hx27.wext).mono hx32.wext).mono hW78).mono hW146) e86 q153 q154 rfl rfl Go.Proofs.Try.underlying23 sz60 ?_
                intro b155 o156 cs157 hc158 hs159
                obtain rfl := Key.cells_iff.1 hc158
                refine wpList_nil ?_
                exact ⟨_, _, rfl, rfl, ExtB.refl _ _, Wext.refl _, ⟨_, _, _, rfl, (Key.cells_iff.2 rfl), hs159⟩, ⟨g151, g152⟩⟩
              · intro D160 F161 s162 d163 d164 d165 hE166 hW167 hG168 hfr169 hR170
                have hE171 := hE77.trans hE166
                obtain ⟨g172, g173⟩ := hG168
                obtain ⟨b175, o176, cs177, hv178, hc179, hs180⟩ : (Fct.elem (x85 : Key)).p (F161 66) s162 := hR170 3 rfl 66 rfl
                obtain rfl := Key.cells_iff.1 hc179
                refine r_load b175 o176 (.agg #[.int .i64 x85.Kind, .string x85.Text]) hv178 rfl (loads_row tr60 hs180.2) ?_
                refine wpList_nil ?_
                exact ⟨_, _, rfl, rfl, ExtB.refl _ _, Wext.refl _, (Key.rpvMk (v := x85) ), ⟨g172, g173⟩⟩
              · intro D181 F182 s183 d184 d185 d186 hE187 hW188 hG189 hfr190 hR191
                have hE192 := hE77.trans hE187
                obtain ⟨g193, g194⟩ := hG189
                have hb195 := g194
                refine r_fieldAddr b30 0 4 4 ((hfr190 3 rfl).trans hF83) rfl fo27_4 rfl ?_
                refine wpList_nil ?_
                exact ⟨_, _, rfl, rfl, ExtB.refl _ _, Wext.refl _, rfl, ⟨g193, g194⟩⟩
              · intro D196 F197 s198 d199 d200 d201 hE202 hW203 hG204 hfr205 hR206
                have hE207 := hE77.trans hE202
                obtain ⟨g208, g209⟩ := hG204
                have hb210 := g209
                have q211 : F197 68 = (.pointer (some ⟨b30, 4, none⟩)) := hR206 5 rfl 68 rfl
                refine r_load b30 4 (.slice A16 a1.Keys.length c17) q211 rfl (loads_one to23 ((hb210.cell 4).trans rfl)) ?_
                refine wpList_nil ?_
                exact ⟨_, _, rfl, rfl, ExtB.refl _ _, Wext.refl _, (RpV.mkList ((((h18.mono hx27.wext).mono hx32.wext).mono hW78).mono hW203)), ⟨g208, g209⟩⟩
              · intro D212 F213 s214 d215 d216 d217 hE218 hW219 hG220 hfr221 hR222
                have hE223 := hE77.trans hE218
                obtain ⟨g224, g225⟩ := hG220
                refine r_move (.int .i64 q73) ((hfr221 5 rfl).trans h79) rfl ?_
                refine wpList_nil ?_
                exact ⟨_, _, rfl, rfl, ExtB.refl _ _, Wext.refl _, rfl, ⟨g224, g225⟩⟩
              · intro D226 F227 s228 d229 d230 d231 hE232 hW233 hG234 hfr235 hR236
                have hE237 := hE77.trans hE232
                obtain ⟨g238, g239⟩ := hG234
                have q240 : RpV s228 (a1.Keys : (List Key)) (F227 69) := hR236 6 rfl 69 rfl
                obtain ⟨A241, c242, hv244, h243⟩ := RpV.list q240
                have q245 : F227 70 = (.int .i64 q73) := hR236 7 rfl 70 rfl
                refine r_indexAddr (T := 23) (E := 60) h243 e88 hv244 q245 rfl rfl Go.Proofs.Try.underlying23 sz60 ?_
                intro b246 o247 cs248 hc249 hs250
                obtain rfl := Key.cells_iff.1 hc249
                refine wpList_nil ?_
                exact ⟨_, _, rfl, rfl, ExtB.refl _ _, Wext.refl _, ⟨_, _, _, rfl, (Key.cells_iff.2 rfl), hs250⟩, ⟨g238, g239⟩⟩
              · intro D251 F252 s253 d254 d255 d256 hE257 hW258 hG259 hfr260 hR261
                have hE262 := hE77.trans hE257
                obtain ⟨g263, g264⟩ := hG259
                obtain ⟨b266, o267, cs268, hv269, hc270, hs271⟩ : (Fct.elem (x87 : Key)).p (F252 71) s253 := hR261 8 rfl 71 rfl
                obtain rfl := Key.cells_iff.1 hc270
                refine r_load b266 o267 (.agg #[.int .i64 x87.Kind, .string x87.Text]) hv269 rfl (loads_row tr60 hs271.2) ?_
                refine wpList_nil ?_
                exact ⟨_, _, rfl, rfl, ExtB.refl _ _, Wext.refl _, (Key.rpvMk (v := x87) ), ⟨g263, g264⟩⟩
              · intro D272 F273 s274 d275 d276 d277 hE278 hW279 hG280 hfr281 hR282
                have hE283 := hE77.trans hE278
                obtain ⟨g284, g285⟩ := hG280
                have q286 : RpV s274 (x85 : Key) (F273 67) := hR282 4 rfl 67 rfl
                have hv287 := Key.rpv q286
                have q288 : RpV s274 (x87 : Key) (F273 72) := hR282 9 rfl 72 rfl
                have hv289 := Key.rpv q288
                refine r_call [.agg #[.int .i64 x85.Kind, .string x85.Text], .agg #[.int .i64 x87.Kind, .string x87.Text]] (evs2 hv287 hv289) rfl (ok_semtyperef1_CompareKeys _ _ _ _ _ _ (Key.rpvMk (v := x85) ) (Key.rpvMk (v := x87) ) e90) ?_
                intro v291 s290 hx292 hr293
                have hE294 := hE283.ext hE283.size hx292
                obtain rfl := RpV.int hr293
                refine wpList_nil ?_
                exact ⟨_, _, rfl, rfl, (ExtB.refl _ _).trans (hx292.mono hE283.size), (Wext.refl _).trans hx292.wext, rfl, ⟨(g284.ext hx292), (g285.ext hx292)⟩⟩
              · intro D295 F296 s297 d298 d299 d300 hE301 hW302 hG303 hfr304 hR305
                have hE306 := hE77.trans hE301
                obtain ⟨g307, g308⟩ := hG303
                have q309 : F296 73 = (.int .i64 r89) := hR305 10 rfl 73 rfl
                refine r_assign (.int .i64 r89) q309 rfl ?_
                refine wpList_nil ?_
                exact ⟨_, _, rfl, rfl, ExtB.refl _ _, Wext.refl _, rfl, ⟨g307, g308⟩⟩
              · intro F310 s311 hE312 hW313 hG314 hfr315 hR316
                have hE317 := hE77.trans hE312
                obtain ⟨g318, g319⟩ := hG314
                have hb320 := g318
                have hb321 := g319
                have hF322 : F310 2 = (.pointer (some ⟨b25, 0, none⟩)) := (hfr315 2 rfl).trans hF82
                have hF323 : F310 3 = (.pointer (some ⟨b30, 0, none⟩)) := (hfr315 3 rfl).trans hF83
                have hF324 : F310 5 = (.int .i64 q73) := (hfr315 5 rfl).trans h79
                have q325 : F310 6 = (.int .i64 r89) := hR316 11 6 rfl
                refine p_then ?_
                refine wp_seq ?_
                refine wp_region_lit ?_
                refine r_move (.int .i64 r89) q325 rfl ?_
                refine r_bin (.int .i64 r89) (.int .i64 0) (.bool (r89 != 0)) rfl rfl rfl rfl (b_neq) ?_
                refine wpList_nil ?_
                refine p_then ?_
                refine if_else hf (fun hc326 hf => ?_) (fun hc326 hf => ?_)
                · refine c_true rfl hc326 rfl ?_
                  refine wp_seq ?_
                  refine wp_region_lit ?_
                  refine r_move (.int .i64 r89) q325 rfl ?_
                  refine r_assign (.int .i64 r89) rfl rfl ?_
                  refine wpList_nil ?_
                  refine p_then ?_
                  refine wp_ret ?_
                  refine p_br ?_
                  refine p_thenr ?_
                  obtain rfl := Option.some.inj hf
                  exact ⟨rfl, _, _, (.int .i64 r89), rfl, rfl, hE317, ⟨rfl, rfl⟩, (RpV.mkInt _ _)⟩
                · refine c_false rfl hc326 rfl ?_
                  refine wp_skip ?_
                  refine p_bn ?_
                  refine p_then ?_
                  refine wp_region_lit ?_
                  refine r_move (.int .i64 q73) hF324 rfl ?_
                  refine r_bin (.int .i64 q73) (.int .i64 1) (.int .i64 (w64 (q73 + 1))) rfl rfl rfl rfl (b_add) ?_
                  refine r_assign (.int .i64 (w64 (q73 + 1))) rfl rfl ?_
                  refine wpList_nil ?_
                  obtain rfl := Option.some.inj hf
                  exact ⟨rfl, _, _, rfl, rfl, ((((((((((((hag76).put rfl).put rfl).put rfl).put rfl).put rfl).draw hfr315 rfl).put rfl).put rfl).put rfl).put rfl).put rfl), hE317, (((Wext.refl _).trans hW78).trans hW313), rfl, hb320, hb321⟩
            · refine c_false rfl hc84 rfl ?_
              refine wp_exit ?_
              refine p_thenx ?_
              obtain rfl := Option.some.inj hf
              exact ⟨rfl, _, _, rfl, rfl, ((((((hag76).put rfl).put rfl).put rfl).put rfl).put rfl), hE77, ((Wext.refl _).trans hW78), h79, h80, h81⟩
          · exact ⟨_, _, rfl, rfl, (Agr.refl _ _), hE34, (Wext.refl _), hF72, (hb28.ext hx32), hb33⟩
          · intro e a w hp
            rcases o327 with q329 | r
            · replace hf := onEnd_inl hf
              obtain ⟨rfl, F330, s331, rfl, rfl, hag332, hE333, hW334, h335, h336, h337⟩ := hp
              have hF338 : F330 2 = (.pointer (some ⟨b25, 0, none⟩)) := (hag332 2 rfl).trans hF69
              have hF339 : F330 3 = (.pointer (some ⟨b30, 0, none⟩)) := (hag332 3 rfl).trans hF70
              refine p_bx ?_
              refine p_then ?_
              refine wp_seq ?_
              refine wp_region_lit ?_
              refine r_fieldAddr b25 0 3 3 hF338 rfl fo27_3 rfl ?_
              refine r_load b25 3 (.slice A1 a0.Kids.length c2) rfl rfl (loads_one to22 ((h336.cell 3).trans rfl)) ?_
              refine r_fieldAddr b30 0 3 3 hF339 rfl fo27_3 rfl ?_
              refine r_load b30 3 (.slice A13 a1.Kids.length c14) rfl rfl (loads_one to22 ((h337.cell 3).trans rfl)) ?_
              obtain ⟨r340, e341, hf⟩ := bind_some hf
              refine r_call [.slice A1 a0.Kids.length c2, .slice A13 a1.Kids.length c14] (evs2 rfl rfl) rfl (hrec_semtyperef1_values _ _ _ _ _ _ (RpV.mkList (((h3.mono hx27.wext).mono hx32.wext).mono hW334)) (RpV.mkList (((h15.mono hx27.wext).mono hx32.wext).mono hW334)) e341) ?_
              intro v343 s342 hx344 hr345
              have hE346 := hE333.ext hE333.size hx344
              obtain rfl := RpV.int hr345
              refine r_assign (.int .i64 r340) rfl rfl ?_
              refine wpList_nil ?_
              refine p_then ?_
              refine wp_seq ?_
              refine wp_seq ?_
              refine wp_region_lit ?_
              refine r_move (.int .i64 r340) rfl rfl ?_
              refine r_bin (.int .i64 r340) (.int .i64 0) (.bool (r340 != 0)) rfl rfl rfl rfl (b_neq) ?_
              refine wpList_nil ?_
              refine p_then ?_
              refine if_else hf (fun hc347 hf => ?_) (fun hc347 hf => ?_)
              · refine c_true rfl hc347 rfl ?_
                refine wp_seq ?_
                refine wp_region_lit ?_
                refine r_move (.int .i64 r340) rfl rfl ?_
                refine r_assign (.int .i64 r340) rfl rfl ?_
                refine wpList_nil ?_
                refine p_then ?_
                refine wp_ret ?_
                refine p_thenr ?_
                obtain rfl := Option.some.inj hf
                refine ret_one (.int .i64 r340) rfl ⟨rfl, rfl⟩ hE346 ?_
                exact (RpV.mkInt _ _)
              · refine c_false rfl hc347 rfl ?_
                refine wp_skip ?_
                refine p_then ?_
                refine wp_seq ?_
                refine wp_seq ?_
                refine wp_region_lit ?_
                refine r_fieldAddr b25 0 5 5 hF338 rfl fo27_5 rfl ?_
                refine r_load b25 5 (.slice A7 a0.Entries.length c8) rfl rfl (loads_one to24 (((h336.ext hx344).cell 5).trans rfl)) ?_
                refine r_len A7 a0.Entries.length c8 rfl rfl Go.Proofs.Try.underlying24 ?_
                refine r_fieldAddr b30 0 5 5 hF339 rfl fo27_5 rfl ?_
                refine r_load b30 5 (.slice A19 a1.Entries.length c20) rfl rfl (loads_one to24 (((h337.ext hx344).cell 5).trans rfl)) ?_
                refine r_len A19 a1.Entries.length c20 rfl rfl Go.Proofs.Try.underlying24 ?_
                refine r_bin (.int .i64 (a0.Entries.length : Int)) (.int .i64 (a1.Entries.length : Int)) (.bool ((a0.Entries.length : Int) != (a1.Entries.length : Int))) rfl rfl rfl rfl (b_neq) ?_
                refine wpList_nil ?_
                refine p_then ?_
                refine if_else hf (fun hc348 hf => ?_) (fun hc348 hf => ?_)
                · refine c_true rfl hc348 rfl ?_
                  refine wp_seq ?_
                  refine wp_region_lit ?_
                  refine r_fieldAddr b25 0 5 5 hF338 rfl fo27_5 rfl ?_
                  refine r_load b25 5 (.slice A7 a0.Entries.length c8) rfl rfl (loads_one to24 (((h336.ext hx344).cell 5).trans rfl)) ?_
                  refine r_len A7 a0.Entries.length c8 rfl rfl Go.Proofs.Try.underlying24 ?_
                  refine r_fieldAddr b30 0 5 5 hF339 rfl fo27_5 rfl ?_
                  refine r_load b30 5 (.slice A19 a1.Entries.length c20) rfl rfl (loads_one to24 (((h337.ext hx344).cell 5).trans rfl)) ?_
                  refine r_len A19 a1.Entries.length c20 rfl rfl Go.Proofs.Try.underlying24 ?_
                  obtain ⟨r349, e350, hf⟩ := bind_some hf
                  refine r_call [.int .i64 (a0.Entries.length : Int), .int .i64 (a1.Entries.length : Int)] (evs2 rfl rfl) rfl (ok_semtyperef1_count _ _ _ _ _ _ (RpV.mkInt _ _) (RpV.mkInt _ _) e350) ?_
                  intro v352 s351 hx353 hr354
                  have hE355 := hE346.ext hE346.size hx353
                  obtain rfl := RpV.int hr354
                  refine r_assign (.int .i64 r349) rfl rfl ?_
                  refine wpList_nil ?_
                  refine p_then ?_
                  refine wp_ret ?_
                  refine p_thenr ?_
                  obtain rfl := Option.some.inj hf
                  refine ret_one (.int .i64 r349) rfl ⟨rfl, rfl⟩ hE355 ?_
                  exact (RpV.mkInt _ _)
                · refine c_false rfl hc348 rfl ?_
                  refine wp_skip ?_
                  refine p_then ?_
                  refine wp_seq ?_
                  refine wp_seq ?_
                  refine wp_region_lit ?_
                  refine r_assign (.int .i64 0) rfl rfl ?_
                  refine wpList_nil ?_
                  refine p_then ?_
                  refine wp_block ?_
                  refine gen_F fun F356 hg357 => ?_
                  have hF358 : F356 2 = (.pointer (some ⟨b25, 0, none⟩)) := (hg357 2).trans hF338
                  have hF359 : F356 3 = (.pointer (some ⟨b30, 0, none⟩)) := (hg357 3).trans hF339
                  have hF360 : F356 8 = (.int .i64 0) := (hg357 8).trans rfl
                  obtain ⟨o705, ho706, hf⟩ := bind_some hf
                  refine wp_mono (wp_iter (step := semtyperef1_Compare_l2 rec_semtyperef1_CompareEntries a0 a1) (fun q a w => ∃ (F : Fr) (τ : S), a = fr 155 F ∧ w = τ.w ∧ Agr [4, 8, 9, 99, 100, 101, 102, 103, 104, 105, 106, 107, 108, 109, 110, 111, 112, 113, 114, 115, 116, 117, 118, 119] F F356 ∧ ExtB s0.N s0 τ ∧ Wext s342 τ ∧ F 8 = (.int .i64 q) ∧ Blk s0.N 1 τ b25 27 [.int .i64 a0.Kind, .int .i64 a0.Int_, .string a0.Text, .slice A1 a0.Kids.length c2, .slice A4 a0.Keys.length c5, .slice A7 a0.Entries.length c8, .slice A10 a0.Labels.length c11] ∧ Blk s0.N 2 τ b30 27 [.int .i64 a1.Kind, .int .i64 a1.Int_, .string a1.Text, .slice A13 a1.Kids.length c14, .slice A16 a1.Keys.length c17, .slice A19 a1.Entries.length c20, .slice A22 a1.Labels.length c23]) (fun o e a w => match o with | .inl q => e = .exit 2 ∧ ∃ (F : Fr) (τ : S), a = fr 155 F ∧ w = τ.w ∧ Agr [4, 8, 9, 99, 100, 101, 102, 103, 104, 105, 106, 107, 108, 109, 110, 111, 112, 113, 114, 115, 116, 117, 118, 119] F F356 ∧ ExtB s0.N s0 τ ∧ Wext s342 τ ∧ F 8 = (.int .i64 q) ∧ Blk s0.N 1 τ b25 27 [.int .i64 a0.Kind, .int .i64 a0.Int_, .string a0.Text, .slice A1 a0.Kids.length c2, .slice A4 a0.Keys.length c5, .slice A7 a0.Entries.length c8, .slice A10 a0.Labels.length c11] ∧ Blk s0.N 2 τ b30 27 [.int .i64 a1.Kind, .int .i64 a1.Int_, .string a1.Text, .slice A13 a1.Kids.length c14, .slice A16 a1.Keys.length c17, .slice A19 a1.Entries.length c20, .slice A22 a1.Labels.length c23] | .inr r => e = .ret ∧ ∃ (F : Fr) (τ : S) (va : Value), a = fr 155 F ∧ w = τ.w ∧ ExtB s0.N s0 τ ∧ ResV Go.Proofs.Try.prog 155 F τ.w (.tmp 4) va ∧ RpV τ r va) (by rintro (_ | _) a w ⟨h, _⟩ <;> cases h) ?_ _ _ _ _ _ ho706 ?_) ?_
                  · intro q361 fl a w hf hI
                    obtain ⟨F362, s363, rfl, rfl, hag364, hE365, hW366, h367, h368, h369⟩ := hI
                    unfold semtyperef1_Compare_l2 at hf
                    have hF370 : F362 2 = (.pointer (some ⟨b25, 0, none⟩)) := (hag364 2 rfl).trans hF358
                    have hF371 : F362 3 = (.pointer (some ⟨b30, 0, none⟩)) := (hag364 3 rfl).trans hF359
                    refine wp_seq ?_
                    refine wp_seq ?_
                    refine wp_region_lit ?_
                    refine r_move (.int .i64 q361) h367 rfl ?_
                    refine r_fieldAddr b25 0 5 5 hF370 rfl fo27_5 rfl ?_
                    refine r_load b25 5 (.slice A7 a0.Entries.length c8) rfl rfl (loads_one to24 ((h368.cell 5).trans rfl)) ?_
                    refine r_len A7 a0.Entries.length c8 rfl rfl Go.Proofs.Try.underlying24 ?_
                    refine r_bin (.int .i64 q361) (.int .i64 (a0.Entries.length : Int)) (.bool (decide (q361 < (a0.Entries.length : Int)))) rfl rfl rfl rfl (b_lss) ?_
                    refine wpList_nil ?_
                    refine p_then ?_
                    refine if_else hf (fun hc372 hf => ?_) (fun hc372 hf => ?_)
                    · refine c_true rfl hc372 rfl ?_
                      refine wp_skip ?_
                      refine p_then ?_
                      refine wp_seq ?_
                      refine wp_block ?_
                      refine wp_seq ?_
                      obtain ⟨x373, e374, hf⟩ := bind_some hf
                      obtain ⟨x375, e376, hf⟩ := bind_some hf
                      obtain ⟨r377, e378, hf⟩ := bind_some hf
                      refine wp_draw (B := s0.N) [some 106, some 107, some 108, some 109, some 110, some 111, some 112, some 113, some 114, some 115, some 116, some 9] [[], [0], [], [0, 1, 2], [0, 1, 2, 3], [], [5], [], [5, 6, 7], [5, 6, 7, 8], [0, 1, 2, 3, 4, 5, 6, 7, 8, 9], [0, 1, 2, 3, 4, 5, 6, 7, 8, 9, 10]] [Fct.eqv (.pointer (some ⟨b25, 5, none⟩)), Fct.eqv (.slice A7 a0.Entries.length c8), Fct.eqv (.int .i64 q361), Fct.elem (x373 : Ent), Fct.data (x373 : Ent), Fct.eqv (.pointer (some ⟨b30, 5, none⟩)), Fct.data (a1.Entries : (List Ent)), Fct.eqv (.int .i64 q361), Fct.elem (x375 : Ent), Fct.data (x375 : Ent), Fct.eqv (.int .i64 r377), Fct.eqv (.int .i64 r377)] (fun D F τ => (Blk s0.N 1 τ b25 27 [.int .i64 a0.Kind, .int .i64 a0.Int_, .string a0.Text, .slice A1 a0.Kids.length c2, .slice A4 a0.Keys.length c5, .slice A7 a0.Entries.length c8, .slice A10 a0.Labels.length c11]) ∧ (Blk s0.N 2 τ b30 27 [.int .i64 a1.Kind, .int .i64 a1.Int_, .string a1.Text, .slice A13 a1.Kids.length c14, .slice A16 a1.Keys.length c17, .slice A19 a1.Entries.length c20, .slice A22 a1.Labels.length c23])) (by kernel_rfl) rfl (by decide) (by decide) ⟨(h368.ext (ext_draw _)), (h369.ext (ext_draw _))⟩ (by decide) (by decide) ⟨?_, ?_, ?_, ?_, ?_, ?_, ?_, ?_, ?_, ?_, ?_, ?_, trivial⟩ ?_
                      · intro D382 F383 s384 d385 d386 d387 hE388 hW389 hG390 hfr391 hR392
                        have hE393 := hE365.trans hE388
                        obtain ⟨g394, g395⟩ := hG390
                        have hb396 := g394
                        refine r_fieldAddr b25 0 5 5 ((hfr391 2 rfl).trans hF370) rfl fo27_5 rfl ?_
                        refine wpList_nil ?_
                        exact ⟨_, _, rfl, rfl, ExtB.refl _ _, Wext.refl _, rfl, ⟨g394, g395⟩⟩
                      · intro D397 F398 s399 d400 d401 d402 hE403 hW404 hG405 hfr406 hR407
                        have hE408 := hE365.trans hE403
                        obtain ⟨g409, g410⟩ := hG405
                        have hb411 := g409
                        have q412 : F398 106 = (.pointer (some ⟨b25, 5, none⟩)) := hR407 0 rfl 106 rfl
                        refine r_load b25 5 (.slice A7 a0.Entries.length c8) q412 rfl (loads_one to24 ((hb411.cell 5).trans rfl)) ?_
                        refine wpList_nil ?_
                        exact ⟨_, _, rfl, rfl, ExtB.refl _ _, Wext.refl _, rfl, ⟨g409, g410⟩⟩
                      · intro D413 F414 s415 d416 d417 d418 hE419 hW420 hG421 hfr422 hR423
                        have hE424 := hE365.trans hE419
                        obtain ⟨g425, g426⟩ := hG421
                        refine r_move (.int .i64 q361) ((hfr422 8 rfl).trans h367) rfl ?_
                        refine wpList_nil ?_
                        exact ⟨_, _, rfl, rfl, ExtB.refl _ _, Wext.refl _, rfl, ⟨g425, g426⟩⟩
                      · intro D427 F428 s429 d430 d431 d432 hE433 hW434 hG435 hfr436 hR437
                        have hE438 := hE365.trans hE433
                        obtain ⟨g439, g440⟩ := hG435
                        have q441 : F428 107 = (.slice A7 a0.Entries.length c8) := hR437 1 rfl 107 rfl
                        have q442 : F428 108 = (.int .i64 q361) := hR437 2 rfl 108 rfl
                        refine r_indexAddr (T := 24) (E := 65) ((((((h9.mono hx27.wext).mono hx32.wext).mono hW334).mono hx344.wext).mono hW366).mono hW434) e374 q441 q442 rfl rfl Go.Proofs.Try.underlying24 sz65 ?_
                        intro b443 o444 cs445 hc446 hs447
                        obtain ⟨A448, c449, A451, c452, A454, c455, A457, c458, A460, c461, rfl, h450, h453, h456, h459, h462⟩ := Ent.cells_iff.1 hc446
                        refine wpList_nil ?_
                        exact ⟨_, _, rfl, rfl, ExtB.refl _ _, Wext.refl _, ⟨_, _, _, rfl, (Ent.cells_iff.2 ⟨_, _, _, _, _, _, _, _, _, _, rfl, h450, h453, h456, h459, h462⟩), hs447⟩, ⟨g439, g440⟩⟩
                      · intro D463 F464 s465 d466 d467 d468 hE469 hW470 hG471 hfr472 hR473
                        have hE474 := hE365.trans hE469
                        obtain ⟨g475, g476⟩ := hG471
                        obtain ⟨b478, o479, cs480, hv481, hc482, hs483⟩ : (Fct.elem (x373 : Ent)).p (F464 109) s465 := hR473 3 rfl 109 rfl
                        obtain ⟨A484, c485, A487, c488, A490, c491, A493, c494, A496, c497, rfl, h486, h489, h492, h495, h498⟩ := Ent.cells_iff.1 hc482
                        refine r_load b478 o479 (.agg #[.slice A484 x373.Args.length c485, .bool x373.Fails, .int .i64 x373.Result.Kind, .int .i64 x373.Result.Int_, .string x373.Result.Text, .slice A487 x373.Result.Kids.length c488, .slice A490 x373.Result.Keys.length c491, .slice A493 x373.Result.Entries.length c494, .slice A496 x373.Result.Labels.length c497]) hv481 rfl (loads_row tr65 hs483.2) ?_
                        refine wpList_nil ?_
                        exact ⟨_, _, rfl, rfl, ExtB.refl _ _, Wext.refl _, (Ent.rpvMk (v := x373) h486 h489 h492 h495 h498), ⟨g475, g476⟩⟩
                      · intro D499 F500 s501 d502 d503 d504 hE505 hW506 hG507 hfr508 hR509
                        have hE510 := hE365.trans hE505
                        obtain ⟨g511, g512⟩ := hG507
                        have hb513 := g512
                        refine r_fieldAddr b30 0 5 5 ((hfr508 3 rfl).trans hF371) rfl fo27_5 rfl ?_
                        refine wpList_nil ?_
                        exact ⟨_, _, rfl, rfl, ExtB.refl _ _, Wext.refl _, rfl, ⟨g511, g512⟩⟩
                      · intro D514 F515 s516 d517 d518 d519 hE520 hW521 hG522 hfr523 hR524
                        have hE525 := hE365.trans hE520
                        obtain ⟨g526, g527⟩ := hG522
                        have hb528 := g527
                        have q529 : F515 111 = (.pointer (some ⟨b30, 5, none⟩)) := hR524 5 rfl 111 rfl
                        refine r_load b30 5 (.slice A19 a1.Entries.length c20) q529 rfl (loads_one to24 ((hb528.cell 5).trans rfl)) ?_
                        refine wpList_nil ?_
                        exact ⟨_, _, rfl, rfl, ExtB.refl _ _, Wext.refl _, (RpV.mkList ((((((h21.mono hx27.wext).mono hx32.wext).mono hW334).mono hx344.wext).mono hW366).mono hW521)), ⟨g526, g527⟩⟩
                      · intro D530 F531 s532 d533 d534 d535 hE536 hW537 hG538 hfr539 hR540
                        have hE541 := hE365.trans hE536
                        obtain ⟨g542, g543⟩ := hG538
                        refine r_move (.int .i64 q361) ((hfr539 8 rfl).trans h367) rfl ?_
                        refine wpList_nil ?_
                        exact ⟨_, _, rfl, rfl, ExtB.refl _ _, Wext.refl _, rfl, ⟨g542, g543⟩⟩
                      · intro D544 F545 s546 d547 d548 d549 hE550 hW551 hG552 hfr553 hR554
                        have hE555 := hE365.trans hE550
                        obtain ⟨g556, g557⟩ := hG552
                        have q558 : RpV s546 (a1.Entries : (List Ent)) (F545 112) := hR554 6 rfl 112 rfl
                        obtain ⟨A559, c560, hv562, h561⟩ := RpV.list q558
                        have q563 : F545 113 = (.int .i64 q361) := hR554 7 rfl 113 rfl
                        refine r_indexAddr (T := 24) (E := 65) h561 e376 hv562 q563 rfl rfl Go.Proofs.Try.underlying24 sz65 ?_
                        intro b564 o565 cs566 hc567 hs568
                        obtain ⟨A569, c570, A572, c573, A575, c576, A578, c579, A581, c582, rfl, h571, h574, h577, h580, h583⟩ := Ent.cells_iff.1 hc567
                        refine wpList_nil ?_
                        exact ⟨_, _, rfl, rfl, ExtB.refl _ _, Wext.refl _, ⟨_, _, _, rfl, (Ent.cells_iff.2 ⟨_, _, _, _, _, _, _, _, _, _, rfl, h571, h574, h577, h580, h583⟩), hs568⟩, ⟨g556, g557⟩⟩
                      · intro D584 F585 s586 d587 d588 d589 hE590 hW591 hG592 hfr593 hR594
                        have hE595 := hE365.trans hE590
                        obtain ⟨g596, g597⟩ := hG592
                        obtain ⟨b599, o600, cs601, hv602, hc603, hs604⟩ : (Fct.elem (x375 : Ent)).p (F585 114) s586 := hR594 8 rfl 114 rfl
                        obtain ⟨A605, c606, A608, c609, A611, c612, A614, c615, A617, c618, rfl, h607, h610, h613, h616, h619⟩ := Ent.cells_iff.1 hc603
                        refine r_load b599 o600 (.agg #[.slice A605 x375.Args.length c606, .bool x375.Fails, .int .i64 x375.Result.Kind, .int .i64 x375.Result.Int_, .string x375.Result.Text, .slice A608 x375.Result.Kids.length c609, .slice A611 x375.Result.Keys.length c612, .slice A614 x375.Result.Entries.length c615, .slice A617 x375.Result.Labels.length c618]) hv602 rfl (loads_row tr65 hs604.2) ?_
                        refine wpList_nil ?_
                        exact ⟨_, _, rfl, rfl, ExtB.refl _ _, Wext.refl _, (Ent.rpvMk (v := x375) h607 h610 h613 h616 h619), ⟨g596, g597⟩⟩
                      · intro D620 F621 s622 d623 d624 d625 hE626 hW627 hG628 hfr629 hR630
                        have hE631 := hE365.trans hE626
                        obtain ⟨g632, g633⟩ := hG628
                        have q634 : RpV s622 (x373 : Ent) (F621 110) := hR630 4 rfl 110 rfl
                        obtain ⟨A635, c636, A638, c639, A641, c642, A644, c645, A647, c648, hv650, h637, h640, h643, h646, h649⟩ := Ent.rpv q634
                        have q651 : RpV s622 (x375 : Ent) (F621 115) := hR630 9 rfl 115 rfl
                        obtain ⟨A652, c653, A655, c656, A658, c659, A661, c662, A664, c665, hv667, h654, h657, h660, h663, h666⟩ := Ent.rpv q651
                        refine r_call [.agg #[.slice A635 x373.Args.length c636, .bool x373.Fails, .int .i64 x373.Result.Kind, .int .i64 x373.Result.Int_, .string x373.Result.Text, .slice A638 x373.Result.Kids.length c639, .slice A641 x373.Result.Keys.length c642, .slice A644 x373.Result.Entries.length c645, .slice A647 x373.Result.Labels.length c648], .agg #[.slice A652 x375.Args.length c653, .bool x375.Fails, .int .i64 x375.Result.Kind, .int .i64 x375.Result.Int_, .string x375.Result.Text, .slice A655 x375.Result.Kids.length c656, .slice A658 x375.Result.Keys.length c659, .slice A661 x375.Result.Entries.length c662, .slice A664 x375.Result.Labels.length c665]] (evs2 hv650 hv667) rfl (hrec_semtyperef1_CompareEntries _ _ _ _ _ _ (Ent.rpvMk (v := x373) h637 h640 h643 h646 h649) (Ent.rpvMk (v := x375) h654 h657 h660 h663 h666) e378) ?_
                        intro v669 s668 hx670 hr671
                        have hE672 := hE631.ext hE631.size hx670
                        obtain rfl := RpV.int hr671
                        refine wpList_nil ?_
                        exact ⟨_, _, rfl, rfl, (ExtB.refl _ _).trans (hx670.mono hE631.size), (Wext.refl _).trans hx670.wext, rfl, ⟨(g632.ext hx670), (g633.ext hx670)⟩⟩
                      · intro D673 F674 s675 d676 d677 d678 hE679 hW680 hG681 hfr682 hR683
                        have hE684 := hE365.trans hE679
                        obtain ⟨g685, g686⟩ := hG681
                        have q687 : F674 116 = (.int .i64 r377) := hR683 10 rfl 116 rfl
                        refine r_assign (.int .i64 r377) q687 rfl ?_
                        refine wpList_nil ?_
                        exact ⟨_, _, rfl, rfl, ExtB.refl _ _, Wext.refl _, rfl, ⟨g685, g686⟩⟩
                      · intro F688 s689 hE690 hW691 hG692 hfr693 hR694
                        have hE695 := hE365.trans hE690
                        obtain ⟨g696, g697⟩ := hG692
                        have hb698 := g696
                        have hb699 := g697
                        have hF700 : F688 2 = (.pointer (some ⟨b25, 0, none⟩)) := (hfr693 2 rfl).trans hF370
                        have hF701 : F688 3 = (.pointer (some ⟨b30, 0, none⟩)) := (hfr693 3 rfl).trans hF371
                        have hF702 : F688 8 = (.int .i64 q361) := (hfr693 8 rfl).trans h367
                        have q703 : F688 9 = (.int .i64 r377) := hR694 11 9 rfl
                        refine p_then ?_
                        refine wp_seq ?_
                        refine wp_region_lit ?_
                        refine r_move (.int .i64 r377) q703 rfl ?_
                        refine r_bin (.int .i64 r377) (.int .i64 0) (.bool (r377 != 0)) rfl rfl rfl rfl (b_neq) ?_
                        refine wpList_nil ?_
                        refine p_then ?_
                        refine if_else hf (fun hc704 hf => ?_) (fun hc704 hf => ?_)
                        · refine c_true rfl hc704 rfl ?_
                          refine wp_seq ?_
                          refine wp_region_lit ?_
                          refine r_move (.int .i64 r377) q703 rfl ?_
                          refine r_assign (.int .i64 r377) rfl rfl ?_
                          refine wpList_nil ?_
                          refine p_then ?_
                          refine wp_ret ?_
                          refine p_br ?_
                          refine p_thenr ?_
                          obtain rfl := Option.some.inj hf
                          exact ⟨rfl, _, _, (.int .i64 r377), rfl, rfl, hE695, ⟨rfl, rfl⟩, (RpV.mkInt _ _)⟩
                        · refine c_false rfl hc704 rfl ?_
                          refine wp_skip ?_
                          refine p_bn ?_
                          refine p_then ?_
                          refine wp_region_lit ?_
                          refine r_move (.int .i64 q361) hF702 rfl ?_
                          refine r_bin (.int .i64 q361) (.int .i64 1) (.int .i64 (w64 (q361 + 1))) rfl rfl rfl rfl (b_add) ?_
                          refine r_assign (.int .i64 (w64 (q361 + 1))) rfl rfl ?_
                          refine wpList_nil ?_
                          obtain rfl := Option.some.inj hf
                          exact ⟨rfl, _, _, rfl, rfl, ((((((((((((hag364).put rfl).put rfl).put rfl).put rfl).put rfl).draw hfr693 rfl).put rfl).put rfl).put rfl).put rfl).put rfl), hE695, (((Wext.refl _).trans hW366).trans hW691), rfl, hb698, hb699⟩
                    · refine c_false rfl hc372 rfl ?_
                      refine wp_exit ?_
                      refine p_thenx ?_
                      obtain rfl := Option.some.inj hf
                      exact ⟨rfl, _, _, rfl, rfl, ((((((hag364).put rfl).put rfl).put rfl).put rfl).put rfl), hE365, ((Wext.refl _).trans hW366), h367, h368, h369⟩
                  · exact ⟨_, _, rfl, rfl, (Agr.refl _ _), hE346, (Wext.refl _), hF360, (h336.ext hx344), (h337.ext hx344)⟩
                  · intro e a w hp
                    rcases o705 with q707 | r
                    · replace hf := onEnd_inl hf
                      obtain ⟨rfl, F708, s709, rfl, rfl, hag710, hE711, hW712, h713, h714, h715⟩ := hp
                      have hF716 : F708 2 = (.pointer (some ⟨b25, 0, none⟩)) := (hag710 2 rfl).trans hF358
                      have hF717 : F708 3 = (.pointer (some ⟨b30, 0, none⟩)) := (hag710 3 rfl).trans hF359
                      refine p_bx ?_
                      refine p_then ?_
                      refine wp_seq ?_
                      refine wp_seq ?_
                      refine wp_region_lit ?_
                      refine r_fieldAddr b25 0 6 6 hF716 rfl fo27_6 rfl ?_
                      refine r_load b25 6 (.slice A10 a0.Labels.length c11) rfl rfl (loads_one to25 ((h714.cell 6).trans rfl)) ?_
                      refine r_len A10 a0.Labels.length c11 rfl rfl Go.Proofs.Try.underlying25 ?_
                      refine r_fieldAddr b30 0 6 6 hF717 rfl fo27_6 rfl ?_
                      refine r_load b30 6 (.slice A22 a1.Labels.length c23) rfl rfl (loads_one to25 ((h715.cell 6).trans rfl)) ?_
                      refine r_len A22 a1.Labels.length c23 rfl rfl Go.Proofs.Try.underlying25 ?_
                      refine r_bin (.int .i64 (a0.Labels.length : Int)) (.int .i64 (a1.Labels.length : Int)) (.bool ((a0.Labels.length : Int) != (a1.Labels.length : Int))) rfl rfl rfl rfl (b_neq) ?_
                      refine wpList_nil ?_
                      refine p_then ?_
                      refine if_else hf (fun hc718 hf => ?_) (fun hc718 hf => ?_)
                      · refine c_true rfl hc718 rfl ?_
                        refine wp_seq ?_
                        refine wp_region_lit ?_
                        refine r_fieldAddr b25 0 6 6 hF716 rfl fo27_6 rfl ?_
                        refine r_load b25 6 (.slice A10 a0.Labels.length c11) rfl rfl (loads_one to25 ((h714.cell 6).trans rfl)) ?_
                        refine r_len A10 a0.Labels.length c11 rfl rfl Go.Proofs.Try.underlying25 ?_
                        refine r_fieldAddr b30 0 6 6 hF717 rfl fo27_6 rfl ?_
                        refine r_load b30 6 (.slice A22 a1.Labels.length c23) rfl rfl (loads_one to25 ((h715.cell 6).trans rfl)) ?_
                        refine r_len A22 a1.Labels.length c23 rfl rfl Go.Proofs.Try.underlying25 ?_
                        obtain ⟨r719, e720, hf⟩ := bind_some hf
                        refine r_call [.int .i64 (a0.Labels.length : Int), .int .i64 (a1.Labels.length : Int)] (evs2 rfl rfl) rfl (ok_semtyperef1_count _ _ _ _ _ _ (RpV.mkInt _ _) (RpV.mkInt _ _) e720) ?_
                        intro v722 s721 hx723 hr724
                        have hE725 := hE711.ext hE711.size hx723
                        obtain rfl := RpV.int hr724
                        refine r_assign (.int .i64 r719) rfl rfl ?_
                        refine wpList_nil ?_
                        refine p_then ?_
                        refine wp_ret ?_
                        refine p_thenr ?_
                        obtain rfl := Option.some.inj hf
                        refine ret_one (.int .i64 r719) rfl ⟨rfl, rfl⟩ hE725 ?_
                        exact (RpV.mkInt _ _)
                      · refine c_false rfl hc718 rfl ?_
                        refine wp_skip ?_
                        refine p_then ?_
                        refine wp_seq ?_
                        refine wp_seq ?_
                        refine wp_region_lit ?_
                        refine r_assign (.int .i64 0) rfl rfl ?_
                        refine wpList_nil ?_
                        refine p_then ?_
                        refine wp_block ?_
                        refine gen_F fun F726 hg727 => ?_
                        have hF728 : F726 2 = (.pointer (some ⟨b25, 0, none⟩)) := (hg727 2).trans hF716
                        have hF729 : F726 3 = (.pointer (some ⟨b30, 0, none⟩)) := (hg727 3).trans hF717
                        have hF730 : F726 10 = (.int .i64 0) := (hg727 10).trans rfl
                        obtain ⟨o983, ho984, hf⟩ := bind_some hf
                        refine wp_mono (wp_iter (step := semtyperef1_Compare_l3 a0 a1) (fun q a w => ∃ (F : Fr) (τ : S), a = fr 155 F ∧ w = τ.w ∧ Agr [4, 10, 11, 134, 135, 136, 137, 138, 139, 140, 141, 142, 143, 144, 145, 146, 147, 148, 149, 150, 151, 152, 153, 154] F F726 ∧ ExtB s0.N s0 τ ∧ Wext s709 τ ∧ F 10 = (.int .i64 q) ∧ Blk s0.N 1 τ b25 27 [.int .i64 a0.Kind, .int .i64 a0.Int_, .string a0.Text, .slice A1 a0.Kids.length c2, .slice A4 a0.Keys.length c5, .slice A7 a0.Entries.length c8, .slice A10 a0.Labels.length c11] ∧ Blk s0.N 2 τ b30 27 [.int .i64 a1.Kind, .int .i64 a1.Int_, .string a1.Text, .slice A13 a1.Kids.length c14, .slice A16 a1.Keys.length c17, .slice A19 a1.Entries.length c20, .slice A22 a1.Labels.length c23]) (fun o e a w => match o with | .inl q => e = .exit 4 ∧ ∃ (F : Fr) (τ : S), a = fr 155 F ∧ w = τ.w ∧ Agr [4, 10, 11, 134, 135, 136, 137, 138, 139, 140, 141, 142, 143, 144, 145, 146, 147, 148, 149, 150, 151, 152, 153, 154] F F726 ∧ ExtB s0.N s0 τ ∧ Wext s709 τ ∧ F 10 = (.int .i64 q) ∧ Blk s0.N 1 τ b25 27 [.int .i64 a0.Kind, .int .i64 a0.Int_, .string a0.Text, .slice A1 a0.Kids.length c2, .slice A4 a0.Keys.length c5, .slice A7 a0.Entries.length c8, .slice A10 a0.Labels.length c11] ∧ Blk s0.N 2 τ b30 27 [.int .i64 a1.Kind, .int .i64 a1.Int_, .string a1.Text, .slice A13 a1.Kids.length c14, .slice A16 a1.Keys.length c17, .slice A19 a1.Entries.length c20, .slice A22 a1.Labels.length c23] | .inr r => e = .ret ∧ ∃ (F : Fr) (τ : S) (va : Value), a = fr 155 F ∧ w = τ.w ∧ ExtB s0.N s0 τ ∧ ResV Go.Proofs.Try.prog 155 F τ.w (.tmp 4) va ∧ RpV τ r va) (by rintro (_ | _) a w ⟨h, _⟩ <;> cases h) ?_ _ _ _ _ _ ho984 ?_) ?_
                        · intro q731 fl a w hf hI
                          obtain ⟨F732, s733, rfl, rfl, hag734, hE735, hW736, h737, h738, h739⟩ := hI
                          unfold semtyperef1_Compare_l3 at hf
                          have hF740 : F732 2 = (.pointer (some ⟨b25, 0, none⟩)) := (hag734 2 rfl).trans hF728
                          have hF741 : F732 3 = (.pointer (some ⟨b30, 0, none⟩)) := (hag734 3 rfl).trans hF729
                          refine wp_seq ?_
                          refine wp_seq ?_
                          refine wp_region_lit ?_
                          refine r_move (.int .i64 q731) h737 rfl ?_
                          refine r_fieldAddr b25 0 6 6 hF740 rfl fo27_6 rfl ?_
                          refine r_load b25 6 (.slice A10 a0.Labels.length c11) rfl rfl (loads_one to25 ((h738.cell 6).trans rfl)) ?_
                          refine r_len A10 a0.Labels.length c11 rfl rfl Go.Proofs.Try.underlying25 ?_
                          refine r_bin (.int .i64 q731) (.int .i64 (a0.Labels.length : Int)) (.bool (decide (q731 < (a0.Labels.length : Int)))) rfl rfl rfl rfl (b_lss) ?_
                          refine wpList_nil ?_
                          refine p_then ?_
                          refine if_else hf (fun hc742 hf => ?_) (fun hc742 hf => ?_)
                          · refine c_true rfl hc742 rfl ?_
                            refine wp_skip ?_
                            refine p_then ?_
                            refine wp_seq ?_
                            refine wp_block ?_
                            refine wp_seq ?_
                            obtain ⟨x743, e744, hf⟩ := bind_some hf
                            obtain ⟨x745, e746, hf⟩ := bind_some hf
                            obtain ⟨r747, e748, hf⟩ := bind_some hf
                            refine wp_draw (B := s0.N) [some 141, some 142, some 143, some 144, some 145, some 146, some 147, some 148, some 149, some 150, some 151, some 11] [[], [0], [], [0, 1, 2], [0, 1, 2, 3], [], [5], [], [5, 6, 7], [5, 6, 7, 8], [0, 1, 2, 3, 4, 5, 6, 7, 8, 9], [0, 1, 2, 3, 4, 5, 6, 7, 8, 9, 10]] [Fct.eqv (.pointer (some ⟨b25, 6, none⟩)), Fct.eqv (.slice A10 a0.Labels.length c11), Fct.eqv (.int .i64 q731), Fct.elem (x743 : ByteArray), Fct.eqv (.string x743), Fct.eqv (.pointer (some ⟨b30, 6, none⟩)), Fct.data (a1.Labels : (List ByteArray)), Fct.eqv (.int .i64 q731), Fct.elem (x745 : ByteArray), Fct.eqv (.string x745), Fct.eqv (.int .i64 r747), Fct.eqv (.int .i64 r747)] (fun D F τ => (Blk s0.N 1 τ b25 27 [.int .i64 a0.Kind, .int .i64 a0.Int_, .string a0.Text, .slice A1 a0.Kids.length c2, .slice A4 a0.Keys.length c5, .slice A7 a0.Entries.length c8, .slice A10 a0.Labels.length c11]) ∧ (Blk s0.N 2 τ b30 27 [.int .i64 a1.Kind, .int .i64 a1.Int_, .string a1.Text, .slice A13 a1.Kids.length c14, .slice A16 a1.Keys.length c17, .slice A19 a1.Entries.length c20, .slice A22 a1.Labels.length c23])) (by kernel_rfl) rfl (by decide) (by decide) ⟨(h738.ext (ext_draw _)), (h739.ext (ext_draw _))⟩ (by decide) (by decide) ⟨?_, ?_, ?_, ?_, ?_, ?_, ?_, ?_, ?_, ?_, ?_, ?_, trivial⟩ ?_
                            · intro D752 F753 s754 d755 d756 d757 hE758 hW759 hG760 hfr761 hR762
                              have hE763 := hE735.trans hE758
                              obtain ⟨g764, g765⟩ := hG760
                              have hb766 := g764
                              refine r_fieldAddr b25 0 6 6 ((hfr761 2 rfl).trans hF740) rfl fo27_6 rfl ?_
                              refine wpList_nil ?_
                              exact ⟨_, _, rfl, rfl, ExtB.refl _ _, Wext.refl _, rfl, ⟨g764, g765⟩⟩
                            · intro D767 F768 s769 d770 d771 d772 hE773 hW774 hG775 hfr776 hR777
                              have hE778 := hE735.trans hE773
                              obtain ⟨g779, g780⟩ := hG775
                              have hb781 := g779
                              have q782 : F768 141 = (.pointer (some ⟨b25, 6, none⟩)) := hR777 0 rfl 141 rfl
                              refine r_load b25 6 (.slice A10 a0.Labels.length c11) q782 rfl (loads_one to25 ((hb781.cell 6).trans rfl)) ?_
                              refine wpList_nil ?_
                              exact ⟨_, _, rfl, rfl, ExtB.refl _ _, Wext.refl _, rfl, ⟨g779, g780⟩⟩
                            · intro D783 F784 s785 d786 d787 d788 hE789 hW790 hG791 hfr792 hR793
                              have hE794 := hE735.trans hE789
                              obtain ⟨g795, g796⟩ := hG791
                              refine r_move (.int .i64 q731) ((hfr792 10 rfl).trans h737) rfl ?_
                              refine wpList_nil ?_
                              exact ⟨_, _, rfl, rfl, ExtB.refl _ _, Wext.refl _, rfl, ⟨g795, g796⟩⟩
                            · intro D797 F798 s799 d800 d801 d802 hE803 hW804 hG805 hfr806 hR807
                              have hE808 := hE735.trans hE803
                              obtain ⟨g809, g810⟩ := hG805
                              have q811 : F798 142 = (.slice A10 a0.Labels.length c11) := hR807 1 rfl 142 rfl
                              have q812 : F798 143 = (.int .i64 q731) := hR807 2 rfl 143 rfl
                              refine r_indexAddr (T := 25) (E := 9) (((((((h12.mono hx27.wext).mono hx32.wext).mono hW334).mono hx344.wext).mono hW712).mono hW736).mono hW804) e744 q811 q812 rfl rfl Go.Proofs.Try.underlying25 sz9 ?_
                              intro b813 o814 cs815 hc816 hs817
                              obtain rfl := hc816
                              refine wpList_nil ?_
                              exact ⟨_, _, rfl, rfl, ExtB.refl _ _, Wext.refl _, ⟨_, _, _, rfl, rfl, hs817⟩, ⟨g809, g810⟩⟩
                            · intro D818 F819 s820 d821 d822 d823 hE824 hW825 hG826 hfr827 hR828
                              have hE829 := hE735.trans hE824
                              obtain ⟨g830, g831⟩ := hG826
                              obtain ⟨b833, o834, cs835, hv836, hc837, hs838⟩ : (Fct.elem (x743 : ByteArray)).p (F819 144) s820 := hR828 3 rfl 144 rfl
                              obtain rfl := hc837
                              refine r_load b833 o834 (.string x743) hv836 rfl (loads_one to9 (hs838.2 0 _ rfl)) ?_
                              refine wpList_nil ?_
                              exact ⟨_, _, rfl, rfl, ExtB.refl _ _, Wext.refl _, rfl, ⟨g830, g831⟩⟩
                            · intro D839 F840 s841 d842 d843 d844 hE845 hW846 hG847 hfr848 hR849
                              have hE850 := hE735.trans hE845
                              obtain ⟨g851, g852⟩ := hG847
                              have hb853 := g852
                              refine r_fieldAddr b30 0 6 6 ((hfr848 3 rfl).trans hF741) rfl fo27_6 rfl ?_
                              refine wpList_nil ?_
                              exact ⟨_, _, rfl, rfl, ExtB.refl _ _, Wext.refl _, rfl, ⟨g851, g852⟩⟩
                            · intro D854 F855 s856 d857 d858 d859 hE860 hW861 hG862 hfr863 hR864
                              have hE865 := hE735.trans hE860
                              obtain ⟨g866, g867⟩ := hG862
                              have hb868 := g867
                              have q869 : F855 146 = (.pointer (some ⟨b30, 6, none⟩)) := hR864 5 rfl 146 rfl
                              refine r_load b30 6 (.slice A22 a1.Labels.length c23) q869 rfl (loads_one to25 ((hb868.cell 6).trans rfl)) ?_
                              refine wpList_nil ?_
                              exact ⟨_, _, rfl, rfl, ExtB.refl _ _, Wext.refl _, (RpV.mkList (((((((h24.mono hx27.wext).mono hx32.wext).mono hW334).mono hx344.wext).mono hW712).mono hW736).mono hW861)), ⟨g866, g867⟩⟩
                            · intro D870 F871 s872 d873 d874 d875 hE876 hW877 hG878 hfr879 hR880
                              have hE881 := hE735.trans hE876
                              obtain ⟨g882, g883⟩ := hG878
                              refine r_move (.int .i64 q731) ((hfr879 10 rfl).trans h737) rfl ?_
                              refine wpList_nil ?_
                              exact ⟨_, _, rfl, rfl, ExtB.refl _ _, Wext.refl _, rfl, ⟨g882, g883⟩⟩
                            · intro D884 F885 s886 d887 d888 d889 hE890 hW891 hG892 hfr893 hR894
                              have hE895 := hE735.trans hE890
                              obtain ⟨g896, g897⟩ := hG892
                              have q898 : RpV s886 (a1.Labels : (List ByteArray)) (F885 147) := hR894 6 rfl 147 rfl
                              obtain ⟨A899, c900, hv902, h901⟩ := RpV.list q898
                              have q903 : F885 148 = (.int .i64 q731) := hR894 7 rfl 148 rfl
                              refine r_indexAddr (T := 25) (E := 9) h901 e746 hv902 q903 rfl rfl Go.Proofs.Try.underlying25 sz9 ?_
                              intro b904 o905 cs906 hc907 hs908
                              obtain rfl := hc907
                              refine wpList_nil ?_
                              exact ⟨_, _, rfl, rfl, ExtB.refl _ _, Wext.refl _, ⟨_, _, _, rfl, rfl, hs908⟩, ⟨g896, g897⟩⟩
                            · intro D909 F910 s911 d912 d913 d914 hE915 hW916 hG917 hfr918 hR919
                              have hE920 := hE735.trans hE915
                              obtain ⟨g921, g922⟩ := hG917
                              obtain ⟨b924, o925, cs926, hv927, hc928, hs929⟩ : (Fct.elem (x745 : ByteArray)).p (F910 149) s911 := hR919 8 rfl 149 rfl
                              obtain rfl := hc928
                              refine r_load b924 o925 (.string x745) hv927 rfl (loads_one to9 (hs929.2 0 _ rfl)) ?_
                              refine wpList_nil ?_
                              exact ⟨_, _, rfl, rfl, ExtB.refl _ _, Wext.refl _, rfl, ⟨g921, g922⟩⟩
                            · intro D930 F931 s932 d933 d934 d935 hE936 hW937 hG938 hfr939 hR940
                              have hE941 := hE735.trans hE936
                              obtain ⟨g942, g943⟩ := hG938
                              have q944 : F931 145 = (.string x743) := hR940 4 rfl 145 rfl
                              have q945 : F931 150 = (.string x745) := hR940 9 rfl 150 rfl
                              refine r_call [.string x743, .string x745] (evs2 q944 q945) rfl (ok_semtyperef1_Text _ _ _ _ _ _ (RpV.mkStr _ _) (RpV.mkStr _ _) e748) ?_
                              intro v947 s946 hx948 hr949
                              have hE950 := hE941.ext hE941.size hx948
                              obtain rfl := RpV.int hr949
                              refine wpList_nil ?_
                              exact ⟨_, _, rfl, rfl, (ExtB.refl _ _).trans (hx948.mono hE941.size), (Wext.refl _).trans hx948.wext, rfl, ⟨(g942.ext hx948), (g943.ext hx948)⟩⟩
                            · intro D951 F952 s953 d954 d955 d956 hE957 hW958 hG959 hfr960 hR961
                              have hE962 := hE735.trans hE957
                              obtain ⟨g963, g964⟩ := hG959
                              have q965 : F952 151 = (.int .i64 r747) := hR961 10 rfl 151 rfl
                              refine r_assign (.int .i64 r747) q965 rfl ?_
                              refine wpList_nil ?_
                              exact ⟨_, _, rfl, rfl, ExtB.refl _ _, Wext.refl _, rfl, ⟨g963, g964⟩⟩
                            · intro F966 s967 hE968 hW969 hG970 hfr971 hR972
                              have hE973 := hE735.trans hE968
                              obtain ⟨g974, g975⟩ := hG970
                              have hb976 := g974
                              have hb977 := g975
                              have hF978 : F966 2 = (.pointer (some ⟨b25, 0, none⟩)) := (hfr971 2 rfl).trans hF740
                              have hF979 : F966 3 = (.pointer (some ⟨b30, 0, none⟩)) := (hfr971 3 rfl).trans hF741
                              have hF980 : F966 10 = (.int .i64 q731) := (hfr971 10 rfl).trans h737
                              have q981 : F966 11 = (.int .i64 r747) := hR972 11 11 rfl
                              refine p_then ?_
                              refine wp_seq ?_
                              refine wp_region_lit ?_
                              refine r_move (.int .i64 r747) q981 rfl ?_
                              refine r_bin (.int .i64 r747) (.int .i64 0) (.bool (r747 != 0)) rfl rfl rfl rfl (b_neq) ?_
                              refine wpList_nil ?_
                              refine p_then ?_
                              refine if_else hf (fun hc982 hf => ?_) (fun hc982 hf => ?_)
                              · refine c_true rfl hc982 rfl ?_
                                refine wp_seq ?_
                                refine wp_region_lit ?_
                                refine r_move (.int .i64 r747) q981 rfl ?_
                                refine r_assign (.int .i64 r747) rfl rfl ?_
                                refine wpList_nil ?_
                                refine p_then ?_
                                refine wp_ret ?_
                                refine p_br ?_
                                refine p_thenr ?_
                                obtain rfl := Option.some.inj hf
                                exact ⟨rfl, _, _, (.int .i64 r747), rfl, rfl, hE973, ⟨rfl, rfl⟩, (RpV.mkInt _ _)⟩
                              · refine c_false rfl hc982 rfl ?_
                                refine wp_skip ?_
                                refine p_bn ?_
                                refine p_then ?_
                                refine wp_region_lit ?_
                                refine r_move (.int .i64 q731) hF980 rfl ?_
                                refine r_bin (.int .i64 q731) (.int .i64 1) (.int .i64 (w64 (q731 + 1))) rfl rfl rfl rfl (b_add) ?_
                                refine r_assign (.int .i64 (w64 (q731 + 1))) rfl rfl ?_
                                refine wpList_nil ?_
                                obtain rfl := Option.some.inj hf
                                exact ⟨rfl, _, _, rfl, rfl, ((((((((((((hag734).put rfl).put rfl).put rfl).put rfl).put rfl).draw hfr971 rfl).put rfl).put rfl).put rfl).put rfl).put rfl), hE973, (((Wext.refl _).trans hW736).trans hW969), rfl, hb976, hb977⟩
                          · refine c_false rfl hc742 rfl ?_
                            refine wp_exit ?_
                            refine p_thenx ?_
                            obtain rfl := Option.some.inj hf
                            exact ⟨rfl, _, _, rfl, rfl, ((((((hag734).put rfl).put rfl).put rfl).put rfl).put rfl), hE735, ((Wext.refl _).trans hW736), h737, h738, h739⟩
                        · exact ⟨_, _, rfl, rfl, (Agr.refl _ _), hE711, (Wext.refl _), hF730, h714, h715⟩
                        · intro e a w hp
                          rcases o983 with q985 | r
                          · replace hf := onEnd_inl hf
                            obtain ⟨rfl, F986, s987, rfl, rfl, hag988, hE989, hW990, h991, h992, h993⟩ := hp
                            have hF994 : F986 2 = (.pointer (some ⟨b25, 0, none⟩)) := (hag988 2 rfl).trans hF728
                            have hF995 : F986 3 = (.pointer (some ⟨b30, 0, none⟩)) := (hag988 3 rfl).trans hF729
                            refine p_bx ?_
                            refine p_then ?_
                            refine wp_seq ?_
                            refine wp_region_lit ?_
                            refine r_assign (.int .i64 0) rfl rfl ?_
                            refine wpList_nil ?_
                            refine p_then ?_
                            refine wp_ret ?_
                            obtain rfl := Option.some.inj hf
                            refine ret_one (.int .i64 0) rfl ⟨rfl, rfl⟩ hE989 ?_
                            exact (RpV.mkInt _ _)
                          · replace hf := onEnd_inr hf
                            obtain ⟨rfl, F999, s1000, v996, rfl, rfl, hE1001, h997, h998⟩ := hp
                            refine p_br ?_
                            refine p_thenr ?_
                            obtain rfl := Option.some.inj hf
                            refine ret_one v996 rfl h997 hE1001 ?_
                            exact h998
                    · replace hf := onEnd_inr hf
                      obtain ⟨rfl, F1006, s1007, v1003, rfl, rfl, hE1008, h1004, h1005⟩ := hp
                      refine p_br ?_
                      refine p_thenr ?_
                      obtain rfl := Option.some.inj hf
                      refine ret_one v1003 rfl h1004 hE1008 ?_
                      exact h1005
            · replace hf := onEnd_inr hf
              obtain ⟨rfl, F1013, s1014, v1010, rfl, rfl, hE1015, h1011, h1012⟩ := hp
              refine p_br ?_
              refine p_thenr ?_
              obtain rfl := Option.some.inj hf
              refine ret_one v1010 rfl h1011 hE1015 ?_
              exact h1012

set_option maxHeartbeats 1600000 in
set_option maxRecDepth 100000 in
theorem okB_semtyperef1_values {rec_semtyperef1_Compare : (Val → Val → Option Int)} {rec_semtyperef1_values : ((List Val) → (List Val) → Option Int)} {rec_semtyperef1_CompareEntries : (Ent → Ent → Option Int)} (hrec_semtyperef1_Compare : S_semtyperef1_Compare rec_semtyperef1_Compare) (hrec_semtyperef1_values : S_semtyperef1_values rec_semtyperef1_values) (hrec_semtyperef1_CompareEntries : S_semtyperef1_CompareEntries rec_semtyperef1_CompareEntries) : S_semtyperef1_values (semtyperef1_values_B rec_semtyperef1_Compare rec_semtyperef1_values rec_semtyperef1_CompareEntries) := by
  intro s0 v0 v1 a0 a1 r h0 h1 hf
  obtain ⟨A1, c2, rfl, h3⟩ := RpV.list h0
  obtain ⟨A4, c5, rfl, h6⟩ := RpV.list h1
  unfold semtyperef1_values_B at hf
  have hE0 : ExtB s0.N s0 s0 := ExtB.refl _ _
  refine ctr_of 35 Go.Proofs.Try.func50 rfl rfl rfl rfl ?_
  refine wp_seq ?_
  refine wp_region_lit ?_
  refine r_assign (.int .i64 0) rfl rfl ?_
  refine wpList_nil ?_
  refine p_then ?_
  refine wp_seq ?_
  refine wp_seq ?_
  refine wp_region_lit ?_
  refine r_move (.slice A1 a0.length c2) rfl rfl ?_
  refine r_len A1 a0.length c2 rfl rfl Go.Proofs.Try.underlying22 ?_
  refine r_move (.slice A4 a1.length c5) rfl rfl ?_
  refine r_len A4 a1.length c5 rfl rfl Go.Proofs.Try.underlying22 ?_
  refine r_bin (.int .i64 (a0.length : Int)) (.int .i64 (a1.length : Int)) (.bool ((a0.length : Int) != (a1.length : Int))) rfl rfl rfl rfl (b_neq) ?_
  refine wpList_nil ?_
  refine p_then ?_
  refine if_else hf (fun hc7 hf => ?_) (fun hc7 hf => ?_)
  · refine c_true rfl hc7 rfl ?_
    refine wp_seq ?_
    refine wp_region_lit ?_
    refine r_move (.slice A1 a0.length c2) rfl rfl ?_
    refine r_len A1 a0.length c2 rfl rfl Go.Proofs.Try.underlying22 ?_
    refine r_move (.slice A4 a1.length c5) rfl rfl ?_
    refine r_len A4 a1.length c5 rfl rfl Go.Proofs.Try.underlying22 ?_
    obtain ⟨r8, e9, hf⟩ := bind_some hf
    refine r_call [.int .i64 (a0.length : Int), .int .i64 (a1.length : Int)] (evs2 rfl rfl) rfl (ok_semtyperef1_count _ _ _ _ _ _ (RpV.mkInt _ _) (RpV.mkInt _ _) e9) ?_
    intro v11 s10 hx12 hr13
    have hE14 := hE0.ext hE0.size hx12
    obtain rfl := RpV.int hr13
    refine r_assign (.int .i64 r8) rfl rfl ?_
    refine wpList_nil ?_
    refine p_then ?_
    refine wp_ret ?_
    refine p_thenr ?_
    obtain rfl := Option.some.inj hf
    refine ret_one (.int .i64 r8) rfl ⟨rfl, rfl⟩ hE14 ?_
    exact (RpV.mkInt _ _)
  · refine c_false rfl hc7 rfl ?_
    refine wp_skip ?_
    refine p_then ?_
    refine wp_seq ?_
    refine wp_seq ?_
    refine wp_region_lit ?_
    refine r_assign (.int .i64 0) rfl rfl ?_
    refine wpList_nil ?_
    refine p_then ?_
    refine wp_block ?_
    refine gen_F fun F15 hg16 => ?_
    have hF17 : F15 0 = (.slice A1 a0.length c2) := (hg16 0).trans rfl
    have hF18 : F15 1 = (.slice A4 a1.length c5) := (hg16 1).trans rfl
    have hF19 : F15 4 = (.int .i64 0) := (hg16 4).trans rfl
    have hF20 : F15 5 = (.int .i64 0) := (hg16 5).trans rfl
    obtain ⟨o283, ho284, hf⟩ := bind_some hf
    refine wp_mono (wp_iter (step := semtyperef1_values_l1 rec_semtyperef1_Compare a0 a1) (fun q a w => ∃ (F : Fr) (τ : S), a = fr 35 F ∧ w = τ.w ∧ Agr [4, 5, 6, 17, 18, 19, 20, 21, 22, 23, 24, 25, 26, 27, 28, 29, 30, 31, 32, 33, 34] F F15 ∧ ExtB s0.N s0 τ ∧ Wext s0 τ ∧ F 5 = (.int .i64 q)) (fun o e a w => match o with | .inl q => e = .exit 0 ∧ ∃ (F : Fr) (τ : S), a = fr 35 F ∧ w = τ.w ∧ Agr [4, 5, 6, 17, 18, 19, 20, 21, 22, 23, 24, 25, 26, 27, 28, 29, 30, 31, 32, 33, 34] F F15 ∧ ExtB s0.N s0 τ ∧ Wext s0 τ ∧ F 5 = (.int .i64 q) | .inr r => e = .ret ∧ ∃ (F : Fr) (τ : S) (va : Value), a = fr 35 F ∧ w = τ.w ∧ ExtB s0.N s0 τ ∧ ResV Go.Proofs.Try.prog 35 F τ.w (.tmp 4) va ∧ RpV τ r va) (by rintro (_ | _) a w ⟨h, _⟩ <;> cases h) ?_ _ _ _ _ _ ho284 ?_) ?_
    · intro q21 fl a w hf hI
      obtain ⟨F22, s23, rfl, rfl, hag24, hE25, hW26, h27⟩ := hI
      unfold semtyperef1_values_l1 at hf
      have hF28 : F22 0 = (.slice A1 a0.length c2) := (hag24 0 rfl).trans hF17
      have hF29 : F22 1 = (.slice A4 a1.length c5) := (hag24 1 rfl).trans hF18
      refine wp_seq ?_
      refine wp_seq ?_
      refine wp_region_lit ?_
      refine r_move (.int .i64 q21) h27 rfl ?_
      refine r_move (.slice A1 a0.length c2) hF28 rfl ?_
      refine r_len A1 a0.length c2 rfl rfl Go.Proofs.Try.underlying22 ?_
      refine r_bin (.int .i64 q21) (.int .i64 (a0.length : Int)) (.bool (decide (q21 < (a0.length : Int)))) rfl rfl rfl rfl (b_lss) ?_
      refine wpList_nil ?_
      refine p_then ?_
      refine if_else hf (fun hc30 hf => ?_) (fun hc30 hf => ?_)
      · refine c_true rfl hc30 rfl ?_
        refine wp_skip ?_
        refine p_then ?_
        refine wp_seq ?_
        refine wp_block ?_
        refine wp_seq ?_
        obtain ⟨x31, e32, hf⟩ := bind_some hf
        obtain ⟨x33, e34, hf⟩ := bind_some hf
        obtain ⟨r35, e36, hf⟩ := bind_some hf
        refine wp_draw (B := s0.N) [some 23, some 24, some 25, some 26, some 27, some 28, some 29, some 30, some 31, some 6] [[], [], [0, 1], [0, 1, 2], [], [], [4, 5], [4, 5, 6], [0, 1, 2, 3, 4, 5, 6, 7], [0, 1, 2, 3, 4, 5, 6, 7, 8]] [Fct.eqv (.slice A1 a0.length c2), Fct.eqv (.int .i64 q21), Fct.elem (x31 : Val), Fct.data (x31 : Val), Fct.eqv (.slice A4 a1.length c5), Fct.eqv (.int .i64 q21), Fct.elem (x33 : Val), Fct.data (x33 : Val), Fct.eqv (.int .i64 r35), Fct.eqv (.int .i64 r35)] (fun D F τ => True) (by kernel_rfl) rfl (by decide) (by decide) trivial (by decide) (by decide) ⟨?_, ?_, ?_, ?_, ?_, ?_, ?_, ?_, ?_, ?_, trivial⟩ ?_
        · intro D40 F41 s42 d43 d44 d45 hE46 hW47 hG48 hfr49 hR50
          have hE51 := hE25.trans hE46
          refine r_move (.slice A1 a0.length c2) ((hfr49 0 rfl).trans hF28) rfl ?_
          refine wpList_nil ?_
          exact ⟨_, _, rfl, rfl, ExtB.refl _ _, Wext.refl _, rfl, trivial⟩
        · intro D52 F53 s54 d55 d56 d57 hE58 hW59 hG60 hfr61 hR62
          have hE63 := hE25.trans hE58
          refine r_move (.int .i64 q21) ((hfr61 5 rfl).trans h27) rfl ?_
          refine wpList_nil ?_
          exact ⟨_, _, rfl, rfl, ExtB.refl _ _, Wext.refl _, rfl, trivial⟩
        · intro D64 F65 s66 d67 d68 d69 hE70 hW71 hG72 hfr73 hR74
          have hE75 := hE25.trans hE70
          have q76 : F65 23 = (.slice A1 a0.length c2) := hR74 0 rfl 23 rfl
          have q77 : F65 24 = (.int .i64 q21) := hR74 1 rfl 24 rfl
          refine r_indexAddr (T := 22) (E := 27) ((h3.mono hW26).mono hW71) e32 q76 q77 rfl rfl Go.Proofs.Try.underlying22 sz27 ?_
          intro b78 o79 cs80 hc81 hs82
          obtain ⟨A83, c84, A86, c87, A89, c90, A92, c93, rfl, h85, h88, h91, h94⟩ := Val.cells_iff.1 hc81
          refine wpList_nil ?_
          exact ⟨_, _, rfl, rfl, ExtB.refl _ _, Wext.refl _, ⟨_, _, _, rfl, (Val.cells_iff.2 ⟨_, _, _, _, _, _, _, _, rfl, h85, h88, h91, h94⟩), hs82⟩, trivial⟩
        · intro D95 F96 s97 d98 d99 d100 hE101 hW102 hG103 hfr104 hR105
          have hE106 := hE25.trans hE101
          obtain ⟨b108, o109, cs110, hv111, hc112, hs113⟩ : (Fct.elem (x31 : Val)).p (F96 25) s97 := hR105 2 rfl 25 rfl
          obtain ⟨A114, c115, A117, c118, A120, c121, A123, c124, rfl, h116, h119, h122, h125⟩ := Val.cells_iff.1 hc112
          refine r_load b108 o109 (.agg #[.int .i64 x31.Kind, .int .i64 x31.Int_, .string x31.Text, .slice A114 x31.Kids.length c115, .slice A117 x31.Keys.length c118, .slice A120 x31.Entries.length c121, .slice A123 x31.Labels.length c124]) hv111 rfl (loads_row tr27 hs113.2) ?_
          refine wpList_nil ?_
          exact ⟨_, _, rfl, rfl, ExtB.refl _ _, Wext.refl _, (Val.rpvMk (v := x31) h116 h119 h122 h125), trivial⟩
        · intro D126 F127 s128 d129 d130 d131 hE132 hW133 hG134 hfr135 hR136
          have hE137 := hE25.trans hE132
          refine r_move (.slice A4 a1.length c5) ((hfr135 1 rfl).trans hF29) rfl ?_
          refine wpList_nil ?_
          exact ⟨_, _, rfl, rfl, ExtB.refl _ _, Wext.refl _, rfl, trivial⟩
        · intro D138 F139 s140 d141 d142 d143 hE144 hW145 hG146 hfr147 hR148
          have hE149 := hE25.trans hE144
          refine r_move (.int .i64 q21) ((hfr147 5 rfl).trans h27) rfl ?_
          refine wpList_nil ?_
          exact ⟨_, _, rfl, rfl, ExtB.refl _ _, Wext.refl _, rfl, trivial⟩
        · intro D150 F151 s152 d153 d154 d155 hE156 hW157 hG158 hfr159 hR160
          have hE161 := hE25.trans hE156
          have q162 : F151 27 = (.slice A4 a1.length c5) := hR160 4 rfl 27 rfl
          have q163 : F151 28 = (.int .i64 q21) := hR160 5 rfl 28 rfl
          refine r_indexAddr (T := 22) (E := 27) ((h6.mono hW26).mono hW157) e34 q162 q163 rfl rfl Go.Proofs.Try.underlying22 sz27 ?_
          intro b164 o165 cs166 hc167 hs168
          obtain ⟨A169, c170, A172, c173, A175, c176, A178, c179, rfl, h171, h174, h177, h180⟩ := Val.cells_iff.1 hc167
          refine wpList_nil ?_
          exact ⟨_, _, rfl, rfl, ExtB.refl _ _, Wext.refl _, ⟨_, _, _, rfl, (Val.cells_iff.2 ⟨_, _, _, _, _, _, _, _, rfl, h171, h174, h177, h180⟩), hs168⟩, trivial⟩
        · intro D181 F182 s183 d184 d185 d186 hE187 hW188 hG189 hfr190 hR191
          have hE192 := hE25.trans hE187
          obtain ⟨b194, o195, cs196, hv197, hc198, hs199⟩ : (Fct.elem (x33 : Val)).p (F182 29) s183 := hR191 6 rfl 29 rfl
          obtain ⟨A200, c201, A203, c204, A206, c207, A209, c210, rfl, h202, h205, h208, h211⟩ := Val.cells_iff.1 hc198
          refine r_load b194 o195 (.agg #[.int .i64 x33.Kind, .int .i64 x33.Int_, .string x33.Text, .slice A200 x33.Kids.length c201, .slice A203 x33.Keys.length c204, .slice A206 x33.Entries.length c207, .slice A209 x33.Labels.length c210]) hv197 rfl (loads_row tr27 hs199.2) ?_
          refine wpList_nil ?_
          exact ⟨_, _, rfl, rfl, ExtB.refl _ _, Wext.refl _, (Val.rpvMk (v := x33) h202 h205 h208 h211), trivial⟩
        · intro D212 F213 s214 d215 d216 d217 hE218 hW219 hG220 hfr221 hR222
          have hE223 := hE25.trans hE218
          have q224 : RpV s214 (x31 : Val) (F213 26) := hR222 3 rfl 26 rfl
          obtain ⟨A225, c226, A228, c229, A231, c232, A234, c235, hv237, h227, h230, h233, h236⟩ := Val.rpv q224
          have q238 : RpV s214 (x33 : Val) (F213 30) := hR222 7 rfl 30 rfl
          obtain ⟨A239, c240, A242, c243, A245, c246, A248, c249, hv251, h241, h244, h247, h250⟩ := Val.rpv q238
          refine r_call [.agg #[.int .i64 x31.Kind, .int .i64 x31.Int_, .string x31.Text, .slice A225 x31.Kids.length c226, .slice A228 x31.Keys.length c229, .slice A231 x31.Entries.length c232, .slice A234 x31.Labels.length c235], .agg #[.int .i64 x33.Kind, .int .i64 x33.Int_, .string x33.Text, .slice A239 x33.Kids.length c240, .slice A242 x33.Keys.length c243, .slice A245 x33.Entries.length c246, .slice A248 x33.Labels.length c249]] (evs2 hv237 hv251) rfl (hrec_semtyperef1_Compare _ _ _ _ _ _ (Val.rpvMk (v := x31) h227 h230 h233 h236) (Val.rpvMk (v := x33) h241 h244 h247 h250) e36) ?_
          intro v253 s252 hx254 hr255
          have hE256 := hE223.ext hE223.size hx254
          obtain rfl := RpV.int hr255
          refine wpList_nil ?_
          exact ⟨_, _, rfl, rfl, (ExtB.refl _ _).trans (hx254.mono hE223.size), (Wext.refl _).trans hx254.wext, rfl, trivial⟩
        · intro D257 F258 s259 d260 d261 d262 hE263 hW264 hG265 hfr266 hR267
          have hE268 := hE25.trans hE263
          have q269 : F258 31 = (.int .i64 r35) := hR267 8 rfl 31 rfl
          refine r_assign (.int .i64 r35) q269 rfl ?_
          refine wpList_nil ?_
          exact ⟨_, _, rfl, rfl, ExtB.refl _ _, Wext.refl _, rfl, trivial⟩
        · intro F270 s271 hE272 hW273 hG274 hfr275 hR276
          have hE277 := hE25.trans hE272
          have hF278 : F270 0 = (.slice A1 a0.length c2) := (hfr275 0 rfl).trans hF28
          have hF279 : F270 1 = (.slice A4 a1.length c5) := (hfr275 1 rfl).trans hF29
          have hF280 : F270 5 = (.int .i64 q21) := (hfr275 5 rfl).trans h27
          have q281 : F270 6 = (.int .i64 r35) := hR276 9 6 rfl
          refine p_then ?_
          refine wp_seq ?_
          refine wp_region_lit ?_
          refine r_move (.int .i64 r35) q281 rfl ?_
          refine r_bin (.int .i64 r35) (.int .i64 0) (.bool (r35 != 0)) rfl rfl rfl rfl (b_neq) ?_
          refine wpList_nil ?_
          refine p_then ?_
          refine if_else hf (fun hc282 hf => ?_) (fun hc282 hf => ?_)
          · refine c_true rfl hc282 rfl ?_
            refine wp_seq ?_
            refine wp_region_lit ?_
            refine r_move (.int .i64 r35) q281 rfl ?_
            refine r_assign (.int .i64 r35) rfl rfl ?_
            refine wpList_nil ?_
            refine p_then ?_
            refine wp_ret ?_
            refine p_br ?_
            refine p_thenr ?_
            obtain rfl := Option.some.inj hf
            exact ⟨rfl, _, _, (.int .i64 r35), rfl, rfl, hE277, ⟨rfl, rfl⟩, (RpV.mkInt _ _)⟩
          · refine c_false rfl hc282 rfl ?_
            refine wp_skip ?_
            refine p_bn ?_
            refine p_then ?_
            refine wp_region_lit ?_
            refine r_move (.int .i64 q21) hF280 rfl ?_
            refine r_bin (.int .i64 q21) (.int .i64 1) (.int .i64 (w64 (q21 + 1))) rfl rfl rfl rfl (b_add) ?_
            refine r_assign (.int .i64 (w64 (q21 + 1))) rfl rfl ?_
            refine wpList_nil ?_
            obtain rfl := Option.some.inj hf
            exact ⟨rfl, _, _, rfl, rfl, (((((((((((hag24).put rfl).put rfl).put rfl).put rfl).draw hfr275 rfl).put rfl).put rfl).put rfl).put rfl).put rfl), hE277, (((Wext.refl _).trans hW26).trans hW273), rfl⟩
      · refine c_false rfl hc30 rfl ?_
        refine wp_exit ?_
        refine p_thenx ?_
        obtain rfl := Option.some.inj hf
        exact ⟨rfl, _, _, rfl, rfl, (((((hag24).put rfl).put rfl).put rfl).put rfl), hE25, ((Wext.refl _).trans hW26), h27⟩
    · exact ⟨_, _, rfl, rfl, (Agr.refl _ _), hE0, (Wext.refl _), hF20⟩
    · intro e a w hp
      rcases o283 with q285 | r
      · replace hf := onEnd_inl hf
        obtain ⟨rfl, F286, s287, rfl, rfl, hag288, hE289, hW290, h291⟩ := hp
        have hF292 : F286 0 = (.slice A1 a0.length c2) := (hag288 0 rfl).trans hF17
        have hF293 : F286 1 = (.slice A4 a1.length c5) := (hag288 1 rfl).trans hF18
        refine p_bx ?_
        refine p_then ?_
        refine wp_seq ?_
        refine wp_region_lit ?_
        refine r_assign (.int .i64 0) rfl rfl ?_
        refine wpList_nil ?_
        refine p_then ?_
        refine wp_ret ?_
        obtain rfl := Option.some.inj hf
        refine ret_one (.int .i64 0) rfl ⟨rfl, rfl⟩ hE289 ?_
        exact (RpV.mkInt _ _)
      · replace hf := onEnd_inr hf
        obtain ⟨rfl, F297, s298, v294, rfl, rfl, hE299, h295, h296⟩ := hp
        refine p_br ?_
        refine p_thenr ?_
        obtain rfl := Option.some.inj hf
        refine ret_one v294 rfl h295 hE299 ?_
        exact h296

set_option maxHeartbeats 1600000 in
set_option maxRecDepth 100000 in
theorem okB_semtyperef1_CompareEntries {rec_semtyperef1_Compare : (Val → Val → Option Int)} {rec_semtyperef1_values : ((List Val) → (List Val) → Option Int)} {rec_semtyperef1_CompareEntries : (Ent → Ent → Option Int)} (hrec_semtyperef1_Compare : S_semtyperef1_Compare rec_semtyperef1_Compare) (hrec_semtyperef1_values : S_semtyperef1_values rec_semtyperef1_values) (hrec_semtyperef1_CompareEntries : S_semtyperef1_CompareEntries rec_semtyperef1_CompareEntries) : S_semtyperef1_CompareEntries (semtyperef1_CompareEntries_B rec_semtyperef1_Compare rec_semtyperef1_values rec_semtyperef1_CompareEntries) := by
  intro s0 v0 v1 a0 a1 r h0 h1 hf
  obtain ⟨A1, c2, A4, c5, A7, c8, A10, c11, A13, c14, rfl, h3, h6, h9, h12, h15⟩ := Ent.rpv h0
  obtain ⟨A16, c17, A19, c20, A22, c23, A25, c26, A28, c29, rfl, h18, h21, h24, h27, h30⟩ := Ent.rpv h1
  unfold semtyperef1_CompareEntries_B at hf
  have hE0 : ExtB s0.N s0 s0 := ExtB.refl _ _
  refine ctr_of 26 Go.Proofs.Try.func51 rfl rfl rfl rfl ?_
  refine wp_seq ?_
  refine wp_region_lit ?_
  refine r_box (B := s0.N) 1 hE0.size (.agg #[.slice A1 a0.Args.length c2, .bool a0.Fails, .int .i64 a0.Result.Kind, .int .i64 a0.Result.Int_, .string a0.Result.Text, .slice A4 a0.Result.Kids.length c5, .slice A7 a0.Result.Keys.length c8, .slice A10 a0.Result.Entries.length c11, .slice A13 a0.Result.Labels.length c14]) [.slice A1 a0.Args.length c2, .bool a0.Fails, .int .i64 a0.Result.Kind, .int .i64 a0.Result.Int_, .string a0.Result.Text, .slice A4 a0.Result.Kids.length c5, .slice A7 a0.Result.Keys.length c8, .slice A10 a0.Result.Entries.length c11, .slice A13 a0.Result.Labels.length c14] rfl rfl rfl ?_
  intro s32 b31 hx33 hb34
  have hE35 := hE0.ext hE0.size hx33
  refine r_box (B := s0.N) 2 hE35.size (.agg #[.slice A16 a1.Args.length c17, .bool a1.Fails, .int .i64 a1.Result.Kind, .int .i64 a1.Result.Int_, .string a1.Result.Text, .slice A19 a1.Result.Kids.length c20, .slice A22 a1.Result.Keys.length c23, .slice A25 a1.Result.Entries.length c26, .slice A28 a1.Result.Labels.length c29]) [.slice A16 a1.Args.length c17, .bool a1.Fails, .int .i64 a1.Result.Kind, .int .i64 a1.Result.Int_, .string a1.Result.Text, .slice A19 a1.Result.Kids.length c20, .slice A22 a1.Result.Keys.length c23, .slice A25 a1.Result.Entries.length c26, .slice A28 a1.Result.Labels.length c29] rfl rfl rfl ?_
  intro s37 b36 hx38 hb39
  have hE40 := hE35.ext hE35.size hx38
  refine r_assign (.int .i64 0) rfl rfl ?_
  refine wpList_nil ?_
  refine p_then ?_
  refine wp_seq ?_
  refine wp_region_lit ?_
  refine r_fieldAddr b31 0 0 0 rfl rfl fo65_0 rfl ?_
  refine r_load b31 0 (.slice A1 a0.Args.length c2) rfl rfl (loads_one to22 (((hb34.ext hx38).cell 0).trans rfl)) ?_
  refine r_fieldAddr b36 0 0 0 rfl rfl fo65_0 rfl ?_
  refine r_load b36 0 (.slice A16 a1.Args.length c17) rfl rfl (loads_one to22 ((hb39.cell 0).trans rfl)) ?_
  obtain ⟨r41, e42, hf⟩ := bind_some hf
  refine r_call [.slice A1 a0.Args.length c2, .slice A16 a1.Args.length c17] (evs2 rfl rfl) rfl (hrec_semtyperef1_values _ _ _ _ _ _ (RpV.mkList ((h3.mono hx33.wext).mono hx38.wext)) (RpV.mkList ((h18.mono hx33.wext).mono hx38.wext)) e42) ?_
  intro v44 s43 hx45 hr46
  have hE47 := hE40.ext hE40.size hx45
  obtain rfl := RpV.int hr46
  refine r_assign (.int .i64 r41) rfl rfl ?_
  refine wpList_nil ?_
  refine p_then ?_
  refine wp_seq ?_
  refine wp_seq ?_
  refine wp_region_lit ?_
  refine r_move (.int .i64 r41) rfl rfl ?_
  refine r_bin (.int .i64 r41) (.int .i64 0) (.bool (r41 != 0)) rfl rfl rfl rfl (b_neq) ?_
  refine wpList_nil ?_
  refine p_then ?_
  refine if_else hf (fun hc48 hf => ?_) (fun hc48 hf => ?_)
  · refine c_true rfl hc48 rfl ?_
    refine wp_seq ?_
    refine wp_region_lit ?_
    refine r_move (.int .i64 r41) rfl rfl ?_
    refine r_assign (.int .i64 r41) rfl rfl ?_
    refine wpList_nil ?_
    refine p_then ?_
    refine wp_ret ?_
    refine p_thenr ?_
    obtain rfl := Option.some.inj hf
    refine ret_one (.int .i64 r41) rfl ⟨rfl, rfl⟩ hE47 ?_
    exact (RpV.mkInt _ _)
  · refine c_false rfl hc48 rfl ?_
    refine wp_skip ?_
    refine p_then ?_
    refine wp_seq ?_
    refine wp_seq ?_
    refine wp_region_lit ?_
    refine r_fieldAddr b31 0 1 1 rfl rfl fo65_1 rfl ?_
    refine r_load b31 1 (.bool a0.Fails) rfl rfl (loads_one to4 ((((hb34.ext hx38).ext hx45).cell 1).trans rfl)) ?_
    refine r_fieldAddr b36 0 1 1 rfl rfl fo65_1 rfl ?_
    refine r_load b36 1 (.bool a1.Fails) rfl rfl (loads_one to4 (((hb39.ext hx45).cell 1).trans rfl)) ?_
    refine r_bin (.bool a0.Fails) (.bool a1.Fails) (.bool (a0.Fails != a1.Fails)) rfl rfl rfl rfl (b_bneq Go.Proofs.Try.underlying4) ?_
    refine wpList_nil ?_
    refine p_then ?_
    refine if_else hf (fun hc49 hf => ?_) (fun hc49 hf => ?_)
    · refine c_true rfl hc49 rfl ?_
      refine wp_seq ?_
      refine wp_seq ?_
      refine wp_region_lit ?_
      refine r_fieldAddr b31 0 1 1 rfl rfl fo65_1 rfl ?_
      refine r_load b31 1 (.bool a0.Fails) rfl rfl (loads_one to4 ((((hb34.ext hx38).ext hx45).cell 1).trans rfl)) ?_
      refine wpList_nil ?_
      refine p_then ?_
      refine if_else hf (fun hc50 hf => ?_) (fun hc50 hf => ?_)
      · refine c_true rfl hc50 rfl ?_
        refine wp_seq ?_
        refine wp_region_lit ?_
        refine r_assign (.int .i64 (-1)) rfl rfl ?_
        refine wpList_nil ?_
        refine p_then ?_
        refine wp_ret ?_
        refine p_thenr ?_
        refine p_thenr ?_
        obtain rfl := Option.some.inj hf
        refine ret_one (.int .i64 (-1)) rfl ⟨rfl, rfl⟩ hE47 ?_
        exact (RpV.mkInt _ _)
      · refine c_false rfl hc50 rfl ?_
        refine wp_skip ?_
        refine p_then ?_
        refine wp_seq ?_
        refine wp_region_lit ?_
        refine r_assign (.int .i64 1) rfl rfl ?_
        refine wpList_nil ?_
        refine p_then ?_
        refine wp_ret ?_
        refine p_thenr ?_
        obtain rfl := Option.some.inj hf
        refine ret_one (.int .i64 1) rfl ⟨rfl, rfl⟩ hE47 ?_
        exact (RpV.mkInt _ _)
    · refine c_false rfl hc49 rfl ?_
      refine wp_skip ?_
      refine p_then ?_
      refine wp_seq ?_
      refine wp_region_lit ?_
      refine r_fieldAddr b31 0 2 2 rfl rfl fo65_2 rfl ?_
      refine r_load b31 2 (.agg #[.int .i64 a0.Result.Kind, .int .i64 a0.Result.Int_, .string a0.Result.Text, .slice A4 a0.Result.Kids.length c5, .slice A7 a0.Result.Keys.length c8, .slice A10 a0.Result.Entries.length c11, .slice A13 a0.Result.Labels.length c14]) rfl rfl (loads_row tr27 (Blk.range ((hb34.ext hx38).ext hx45) 2 [.int .i64 a0.Result.Kind, .int .i64 a0.Result.Int_, .string a0.Result.Text, .slice A4 a0.Result.Kids.length c5, .slice A7 a0.Result.Keys.length c8, .slice A10 a0.Result.Entries.length c11, .slice A13 a0.Result.Labels.length c14] rfl)) ?_
      refine r_fieldAddr b36 0 2 2 rfl rfl fo65_2 rfl ?_
      refine r_load b36 2 (.agg #[.int .i64 a1.Result.Kind, .int .i64 a1.Result.Int_, .string a1.Result.Text, .slice A19 a1.Result.Kids.length c20, .slice A22 a1.Result.Keys.length c23, .slice A25 a1.Result.Entries.length c26, .slice A28 a1.Result.Labels.length c29]) rfl rfl (loads_row tr27 (Blk.range (hb39.ext hx45) 2 [.int .i64 a1.Result.Kind, .int .i64 a1.Result.Int_, .string a1.Result.Text, .slice A19 a1.Result.Kids.length c20, .slice A22 a1.Result.Keys.length c23, .slice A25 a1.Result.Entries.length c26, .slice A28 a1.Result.Labels.length c29] rfl)) ?_
      obtain ⟨r51, e52, hf⟩ := bind_some hf
      refine r_call [.agg #[.int .i64 a0.Result.Kind, .int .i64 a0.Result.Int_, .string a0.Result.Text, .slice A4 a0.Result.Kids.length c5, .slice A7 a0.Result.Keys.length c8, .slice A10 a0.Result.Entries.length c11, .slice A13 a0.Result.Labels.length c14], .agg #[.int .i64 a1.Result.Kind, .int .i64 a1.Result.Int_, .string a1.Result.Text, .slice A19 a1.Result.Kids.length c20, .slice A22 a1.Result.Keys.length c23, .slice A25 a1.Result.Entries.length c26, .slice A28 a1.Result.Labels.length c29]] (evs2 rfl rfl) rfl (hrec_semtyperef1_Compare _ _ _ _ _ _ (Val.rpvMk (v := a0.Result) (((h6.mono hx33.wext).mono hx38.wext).mono hx45.wext) (((h9.mono hx33.wext).mono hx38.wext).mono hx45.wext) (((h12.mono hx33.wext).mono hx38.wext).mono hx45.wext) (((h15.mono hx33.wext).mono hx38.wext).mono hx45.wext)) (Val.rpvMk (v := a1.Result) (((h21.mono hx33.wext).mono hx38.wext).mono hx45.wext) (((h24.mono hx33.wext).mono hx38.wext).mono hx45.wext) (((h27.mono hx33.wext).mono hx38.wext).mono hx45.wext) (((h30.mono hx33.wext).mono hx38.wext).mono hx45.wext)) e52) ?_
      intro v54 s53 hx55 hr56
      have hE57 := hE47.ext hE47.size hx55
      obtain rfl := RpV.int hr56
      refine r_assign (.int .i64 r51) rfl rfl ?_
      refine wpList_nil ?_
      refine p_then ?_
      refine wp_ret ?_
      obtain rfl := Option.some.inj hf
      refine ret_one (.int .i64 r51) rfl ⟨rfl, rfl⟩ hE57 ?_
      exact (RpV.mkInt _ _)

theorem ok_scc_semtyperef1_Compare : ∀ n : Nat, S_semtyperef1_Compare (scc_semtyperef1_Compare n).1 ∧ S_semtyperef1_values (scc_semtyperef1_Compare n).2.1 ∧ S_semtyperef1_CompareEntries (scc_semtyperef1_Compare n).2.2
  | 0 => ⟨(by intro _ _ _ _ _ _ _ _ h; cases h), (by intro _ _ _ _ _ _ _ _ h; cases h), (by intro _ _ _ _ _ _ _ _ h; cases h)⟩
  | n + 1 => by
    obtain ⟨h0, h1, h2⟩ := ok_scc_semtyperef1_Compare n
    exact ⟨okB_semtyperef1_Compare h0 h1 h2, okB_semtyperef1_values h0 h1 h2, okB_semtyperef1_CompareEntries h0 h1 h2⟩

theorem ok_semtyperef1_Compare (n : Nat) : S_semtyperef1_Compare (semtyperef1_Compare n) := (ok_scc_semtyperef1_Compare n).1

theorem ok_semtyperef1_values (n : Nat) : S_semtyperef1_values (semtyperef1_values n) := (ok_scc_semtyperef1_Compare n).2.1

theorem ok_semtyperef1_CompareEntries (n : Nat) : S_semtyperef1_CompareEntries (semtyperef1_CompareEntries n) := (ok_scc_semtyperef1_Compare n).2.2

def S_semtypelaw4_ValueOrder (f : (Val → Val → Val → Option Bool)) : Prop := ∀ (s0 : S) (v0 : Value) (v1 : Value) (v2 : Value) (a0 : Val) (a1 : Val) (a2 : Val) (r : Bool), RpV s0 a0 v0 → RpV s0 a1 v1 → RpV s0 a2 v2 → f a0 a1 a2 = some r → Ctr Go.Proofs.Try.prog 4 [v0, v1, v2] s0 (fun v τ => RpV τ r v)

set_option maxHeartbeats 1600000 in
set_option maxRecDepth 100000 in
theorem ok_semtypelaw4_ValueOrder (fuel : Nat) : S_semtypelaw4_ValueOrder (semtypelaw4_ValueOrder fuel) := by
  intro s0 v0 v1 v2 a0 a1 a2 r h0 h1 h2 hf
  obtain ⟨A1, c2, A4, c5, A7, c8, A10, c11, rfl, h3, h6, h9, h12⟩ := Val.rpv h0
  obtain ⟨A13, c14, A16, c17, A19, c20, A22, c23, rfl, h15, h18, h21, h24⟩ := Val.rpv h1
  obtain ⟨A25, c26, A28, c29, A31, c32, A34, c35, rfl, h27, h30, h33, h36⟩ := Val.rpv h2
  unfold semtypelaw4_ValueOrder at hf
  have hE0 : ExtB s0.N s0 s0 := ExtB.refl _ _
  refine ctr_of 96 Go.Proofs.Try.func4 rfl rfl rfl rfl ?_
  refine wp_seq ?_
  refine wp_region_lit ?_
  refine r_box (B := s0.N) 1 hE0.size (.agg #[.int .i64 a0.Kind, .int .i64 a0.Int_, .string a0.Text, .slice A1 a0.Kids.length c2, .slice A4 a0.Keys.length c5, .slice A7 a0.Entries.length c8, .slice A10 a0.Labels.length c11]) [.int .i64 a0.Kind, .int .i64 a0.Int_, .string a0.Text, .slice A1 a0.Kids.length c2, .slice A4 a0.Keys.length c5, .slice A7 a0.Entries.length c8, .slice A10 a0.Labels.length c11] rfl rfl rfl ?_
  intro s38 b37 hx39 hb40
  have hE41 := hE0.ext hE0.size hx39
  refine r_box (B := s0.N) 2 hE41.size (.agg #[.int .i64 a1.Kind, .int .i64 a1.Int_, .string a1.Text, .slice A13 a1.Kids.length c14, .slice A16 a1.Keys.length c17, .slice A19 a1.Entries.length c20, .slice A22 a1.Labels.length c23]) [.int .i64 a1.Kind, .int .i64 a1.Int_, .string a1.Text, .slice A13 a1.Kids.length c14, .slice A16 a1.Keys.length c17, .slice A19 a1.Entries.length c20, .slice A22 a1.Labels.length c23] rfl rfl rfl ?_
  intro s43 b42 hx44 hb45
  have hE46 := hE41.ext hE41.size hx44
  refine r_box (B := s0.N) 3 hE46.size (.agg #[.int .i64 a2.Kind, .int .i64 a2.Int_, .string a2.Text, .slice A25 a2.Kids.length c26, .slice A28 a2.Keys.length c29, .slice A31 a2.Entries.length c32, .slice A34 a2.Labels.length c35]) [.int .i64 a2.Kind, .int .i64 a2.Int_, .string a2.Text, .slice A25 a2.Kids.length c26, .slice A28 a2.Keys.length c29, .slice A31 a2.Entries.length c32, .slice A34 a2.Labels.length c35] rfl rfl rfl ?_
  intro s48 b47 hx49 hb50
  have hE51 := hE46.ext hE46.size hx49
  refine r_assign (.bool false) rfl rfl ?_
  refine wpList_nil ?_
  refine p_then ?_
  refine wp_seq ?_
  refine wp_seq ?_
  refine wp_region_lit ?_
  refine r_load b37 0 (.agg #[.int .i64 a0.Kind, .int .i64 a0.Int_, .string a0.Text, .slice A1 a0.Kids.length c2, .slice A4 a0.Keys.length c5, .slice A7 a0.Entries.length c8, .slice A10 a0.Labels.length c11]) rfl rfl (loads_row tr27 (Blk.range ((hb40.ext hx44).ext hx49) 0 [.int .i64 a0.Kind, .int .i64 a0.Int_, .string a0.Text, .slice A1 a0.Kids.length c2, .slice A4 a0.Keys.length c5, .slice A7 a0.Entries.length c8, .slice A10 a0.Labels.length c11] rfl)) ?_
  obtain ⟨r52, e53, hf⟩ := bind_some hf
  refine r_call [.agg #[.int .i64 a0.Kind, .int .i64 a0.Int_, .string a0.Text, .slice A1 a0.Kids.length c2, .slice A4 a0.Keys.length c5, .slice A7 a0.Entries.length c8, .slice A10 a0.Labels.length c11]] (evs1 rfl) rfl ((ok_semtypelaw4_small fuel) _ _ _ _ (Val.rpvMk (v := a0) (((h3.mono hx39.wext).mono hx44.wext).mono hx49.wext) (((h6.mono hx39.wext).mono hx44.wext).mono hx49.wext) (((h9.mono hx39.wext).mono hx44.wext).mono hx49.wext) (((h12.mono hx39.wext).mono hx44.wext).mono hx49.wext)) e53) ?_
  intro v55 s54 hx56 hr57
  have hE58 := hE51.ext hE51.size hx56
  obtain rfl := RpV.bool hr57
  refine r_un (.bool r52) (.bool (!r52)) rfl rfl u_not ?_
  refine r_move (.bool (!r52)) rfl rfl ?_
  refine gen_FL fun F59 hg60 => ?_
  have hF61 : F59 3 = (.pointer (some ⟨b37, 0, none⟩)) := (hg60 3).trans rfl
  have hF62 : F59 4 = (.pointer (some ⟨b42, 0, none⟩)) := (hg60 4).trans rfl
  have hF63 : F59 5 = (.pointer (some ⟨b47, 0, none⟩)) := (hg60 5).trans rfl
  have hF64 : F59 6 = (.bool false) := (hg60 6).trans rfl
  have hF65 : F59 13 = (.bool (!r52)) := (hg60 13).trans rfl
  obtain ⟨q66, hq67, hf⟩ := bind_some hf
  refine wpl_take 4 (J := fun a w => ∃ (F : Fr) (τ : S), a = fr 96 F ∧ w = τ.w ∧ Agr [14, 15, 16, 17] F F59 ∧ ExtB s0.N s0 τ ∧ Wext s54 τ ∧ F 17 = (.bool q66) ∧ Blk s0.N 1 τ b37 27 [.int .i64 a0.Kind, .int .i64 a0.Int_, .string a0.Text, .slice A1 a0.Kids.length c2, .slice A4 a0.Keys.length c5, .slice A7 a0.Entries.length c8, .slice A10 a0.Labels.length c11] ∧ Blk s0.N 2 τ b42 27 [.int .i64 a1.Kind, .int .i64 a1.Int_, .string a1.Text, .slice A13 a1.Kids.length c14, .slice A16 a1.Keys.length c17, .slice A19 a1.Entries.length c20, .slice A22 a1.Labels.length c23] ∧ Blk s0.N 3 τ b47 27 [.int .i64 a2.Kind, .int .i64 a2.Int_, .string a2.Text, .slice A25 a2.Kids.length c26, .slice A28 a2.Keys.length c29, .slice A31 a2.Entries.length c32, .slice A34 a2.Labels.length c35]) ?_ ?_
  · have hf := hq67
    refine if_else hf (fun hc68 hf => ?_) (fun hc68 hf => ?_)
    · refine r_skip (j := 3) (want := false) (d := 13) (c := !r52) (v := true) rfl hF65 hc68 rfl rfl ?_
      refine r_skip (j := 3) (want := false) (d := 13) (c := !r52) (v := true) rfl hF65 hc68 rfl rfl ?_
      refine r_skip (j := 3) (want := false) (d := 13) (c := !r52) (v := true) rfl hF65 hc68 rfl rfl ?_
      refine r_pick_t (c := !r52) (.bool true) hF65 hc68 rfl rfl rfl rfl ?_
      refine wpList_nil ?_
      obtain rfl := Option.some.inj hf
      exact ⟨rfl, _, _, rfl, rfl, (((((Agr.refl _ _).put rfl).put rfl).put rfl).put rfl), hE58, (Wext.refl _), rfl, (((hb40.ext hx44).ext hx49).ext hx56), ((hb45.ext hx49).ext hx56), (hb50.ext hx56)⟩
    · refine r_guard (j := 3) (want := false) (d := 13) (c := !r52) (v := false) rfl hF65 hc68 rfl rfl ?_
      refine r_load b42 0 (.agg #[.int .i64 a1.Kind, .int .i64 a1.Int_, .string a1.Text, .slice A13 a1.Kids.length c14, .slice A16 a1.Keys.length c17, .slice A19 a1.Entries.length c20, .slice A22 a1.Labels.length c23]) hF62 rfl (loads_row tr27 (Blk.range ((hb45.ext hx49).ext hx56) 0 [.int .i64 a1.Kind, .int .i64 a1.Int_, .string a1.Text, .slice A13 a1.Kids.length c14, .slice A16 a1.Keys.length c17, .slice A19 a1.Entries.length c20, .slice A22 a1.Labels.length c23] rfl)) ?_
      refine r_guard (j := 3) (want := false) (d := 13) (c := !r52) (v := false) rfl hF65 hc68 rfl rfl ?_
      obtain ⟨r69, e70, hf⟩ := bind_some hf
      refine r_call [.agg #[.int .i64 a1.Kind, .int .i64 a1.Int_, .string a1.Text, .slice A13 a1.Kids.length c14, .slice A16 a1.Keys.length c17, .slice A19 a1.Entries.length c20, .slice A22 a1.Labels.length c23]] (evs1 rfl) rfl ((ok_semtypelaw4_small fuel) _ _ _ _ (Val.rpvMk (v := a1) ((((h15.mono hx39.wext).mono hx44.wext).mono hx49.wext).mono hx56.wext) ((((h18.mono hx39.wext).mono hx44.wext).mono hx49.wext).mono hx56.wext) ((((h21.mono hx39.wext).mono hx44.wext).mono hx49.wext).mono hx56.wext) ((((h24.mono hx39.wext).mono hx44.wext).mono hx49.wext).mono hx56.wext)) e70) ?_
      intro v72 s71 hx73 hr74
      have hE75 := hE58.ext hE58.size hx73
      obtain rfl := RpV.bool hr74
      refine r_guard (j := 3) (want := false) (d := 13) (c := !r52) (v := false) rfl hF65 hc68 rfl rfl ?_
      refine r_un (.bool r69) (.bool (!r69)) rfl rfl u_not ?_
      refine r_pick_f (c := !r52) (.bool (!r69)) hF65 hc68 rfl rfl rfl rfl ?_
      refine wpList_nil ?_
      obtain rfl := Option.some.inj hf
      exact ⟨rfl, _, _, rfl, rfl, (((((Agr.refl _ _).put rfl).put rfl).put rfl).put rfl), hE75, ((Wext.refl _).trans hx73.wext), rfl, ((((hb40.ext hx44).ext hx49).ext hx56).ext hx73), (((hb45.ext hx49).ext hx56).ext hx73), ((hb50.ext hx56).ext hx73)⟩
  · rintro a w ⟨F76, s77, rfl, rfl, hag78, hE79, hW80, h81, h82, h83, h84⟩
    have hF85 : F76 3 = (.pointer (some ⟨b37, 0, none⟩)) := (hag78 3 rfl).trans hF61
    have hF86 : F76 4 = (.pointer (some ⟨b42, 0, none⟩)) := (hag78 4 rfl).trans hF62
    have hF87 : F76 5 = (.pointer (some ⟨b47, 0, none⟩)) := (hag78 5 rfl).trans hF63
    have hF88 : F76 6 = (.bool false) := (hag78 6 rfl).trans hF64
    refine r_move (.bool q66) h81 rfl ?_
    refine if_else hf (fun hc89 hf => ?_) (fun hc89 hf => ?_)
    · refine r_skip (j := 8) (want := false) (d := 18) (c := q66) (v := true) rfl rfl hc89 rfl rfl ?_
      refine r_skip (j := 8) (want := false) (d := 18) (c := q66) (v := true) rfl rfl hc89 rfl rfl ?_
      refine r_skip (j := 8) (want := false) (d := 18) (c := q66) (v := true) rfl rfl hc89 rfl rfl ?_
      refine r_pick_t (c := q66) (.bool true) rfl hc89 rfl rfl rfl rfl ?_
      refine wpList_nil ?_
      refine p_then ?_
      refine c_true rfl rfl rfl ?_
      refine wp_seq ?_
      refine wp_region_lit ?_
      obtain ⟨r90, e91, hf⟩ := bind_some hf
      refine r_call [] evs0 rfl ((ok_semtypelaw4_awake fuel) _ _  e91) ?_
      intro v93 s92 hx94 hr95
      have hE96 := hE79.ext hE79.size hx94
      obtain rfl := RpV.bool hr95
      refine r_assign (.bool r90) rfl rfl ?_
      refine wpList_nil ?_
      refine p_then ?_
      refine wp_ret ?_
      refine p_thenr ?_
      obtain rfl := Option.some.inj hf
      refine ret_one (.bool r90) rfl ⟨rfl, rfl⟩ hE96 ?_
      exact (RpV.mkBool _ _)
    · refine r_guard (j := 8) (want := false) (d := 18) (c := q66) (v := false) rfl rfl hc89 rfl rfl ?_
      refine r_load b47 0 (.agg #[.int .i64 a2.Kind, .int .i64 a2.Int_, .string a2.Text, .slice A25 a2.Kids.length c26, .slice A28 a2.Keys.length c29, .slice A31 a2.Entries.length c32, .slice A34 a2.Labels.length c35]) hF87 rfl (loads_row tr27 (Blk.range h84 0 [.int .i64 a2.Kind, .int .i64 a2.Int_, .string a2.Text, .slice A25 a2.Kids.length c26, .slice A28 a2.Keys.length c29, .slice A31 a2.Entries.length c32, .slice A34 a2.Labels.length c35] rfl)) ?_
      refine r_guard (j := 8) (want := false) (d := 18) (c := q66) (v := false) rfl rfl hc89 rfl rfl ?_
      obtain ⟨r97, e98, hf⟩ := bind_some hf
      refine r_call [.agg #[.int .i64 a2.Kind, .int .i64 a2.Int_, .string a2.Text, .slice A25 a2.Kids.length c26, .slice A28 a2.Keys.length c29, .slice A31 a2.Entries.length c32, .slice A34 a2.Labels.length c35]] (evs1 rfl) rfl ((ok_semtypelaw4_small fuel) _ _ _ _ (Val.rpvMk (v := a2) (((((h27.mono hx39.wext).mono hx44.wext).mono hx49.wext).mono hx56.wext).mono hW80) (((((h30.mono hx39.wext).mono hx44.wext).mono hx49.wext).mono hx56.wext).mono hW80) (((((h33.mono hx39.wext).mono hx44.wext).mono hx49.wext).mono hx56.wext).mono hW80) (((((h36.mono hx39.wext).mono hx44.wext).mono hx49.wext).mono hx56.wext).mono hW80)) e98) ?_
      intro v100 s99 hx101 hr102
      have hE103 := hE79.ext hE79.size hx101
      obtain rfl := RpV.bool hr102
      refine r_guard (j := 8) (want := false) (d := 18) (c := q66) (v := false) rfl rfl hc89 rfl rfl ?_
      refine r_un (.bool r97) (.bool (!r97)) rfl rfl u_not ?_
      refine r_pick_f (c := q66) (.bool (!r97)) rfl hc89 rfl rfl rfl rfl ?_
      refine wpList_nil ?_
      refine p_then ?_
      refine if_else hf (fun hc104 hf => ?_) (fun hc104 hf => ?_)
      · refine c_true rfl hc104 rfl ?_
        refine wp_seq ?_
        refine wp_region_lit ?_
        obtain ⟨r105, e106, hf⟩ := bind_some hf
        refine r_call [] evs0 rfl ((ok_semtypelaw4_awake fuel) _ _  e106) ?_
        intro v108 s107 hx109 hr110
        have hE111 := hE103.ext hE103.size hx109
        obtain rfl := RpV.bool hr110
        refine r_assign (.bool r105) rfl rfl ?_
        refine wpList_nil ?_
        refine p_then ?_
        refine wp_ret ?_
        refine p_thenr ?_
        obtain rfl := Option.some.inj hf
        refine ret_one (.bool r105) rfl ⟨rfl, rfl⟩ hE111 ?_
        exact (RpV.mkBool _ _)
      · refine c_false rfl hc104 rfl ?_
        refine wp_skip ?_
        refine p_then ?_
        refine wp_seq ?_
        obtain ⟨r112, e113, hf⟩ := bind_some hf
        obtain ⟨r114, e115, hf⟩ := bind_some hf
        obtain ⟨r116, e117, hf⟩ := bind_some hf
        refine wp_draw (B := s0.N) [some 24, some 25, some 26, some 27, some 28, some 29, some 30, some 31, some 32, some 7, some 8, some 9] [[], [], [0, 1], [], [], [0, 1, 2, 3, 4], [], [], [0, 1, 2, 3, 4, 5, 6, 7], [0, 1, 2, 3, 4, 5, 6, 7, 8], [0, 1, 2, 3, 4, 5, 6, 7, 8, 9], [0, 1, 2, 3, 4, 5, 6, 7, 8, 9, 10]] [Fct.data (a0 : Val), Fct.data (a1 : Val), Fct.eqv (.int .i64 r112), Fct.data (a1 : Val), Fct.data (a2 : Val), Fct.eqv (.int .i64 r114), Fct.data (a0 : Val), Fct.data (a2 : Val), Fct.eqv (.int .i64 r116), Fct.eqv (.int .i64 r112), Fct.eqv (.int .i64 r114), Fct.eqv (.int .i64 r116)] (fun D F τ => (Blk s0.N 1 τ b37 27 [.int .i64 a0.Kind, .int .i64 a0.Int_, .string a0.Text, .slice A1 a0.Kids.length c2, .slice A4 a0.Keys.length c5, .slice A7 a0.Entries.length c8, .slice A10 a0.Labels.length c11]) ∧ (Blk s0.N 2 τ b42 27 [.int .i64 a1.Kind, .int .i64 a1.Int_, .string a1.Text, .slice A13 a1.Kids.length c14, .slice A16 a1.Keys.length c17, .slice A19 a1.Entries.length c20, .slice A22 a1.Labels.length c23]) ∧ (Blk s0.N 3 τ b47 27 [.int .i64 a2.Kind, .int .i64 a2.Int_, .string a2.Text, .slice A25 a2.Kids.length c26, .slice A28 a2.Keys.length c29, .slice A31 a2.Entries.length c32, .slice A34 a2.Labels.length c35])) (by kernel_rfl) rfl (by decide) (by decide) ⟨((h82.ext hx101).ext (ext_draw _)), ((h83.ext hx101).ext (ext_draw _)), ((h84.ext hx101).ext (ext_draw _))⟩ (by decide) (by decide) ⟨?_, ?_, ?_, ?_, ?_, ?_, ?_, ?_, ?_, ?_, ?_, ?_, trivial⟩ ?_
        · intro D121 F122 s123 d124 d125 d126 hE127 hW128 hG129 hfr130 hR131
          have hE132 := hE103.trans hE127
          obtain ⟨g133, g134, g135⟩ := hG129
          have hb136 := g133
          refine r_load b37 0 (.agg #[.int .i64 a0.Kind, .int .i64 a0.Int_, .string a0.Text, .slice A1 a0.Kids.length c2, .slice A4 a0.Keys.length c5, .slice A7 a0.Entries.length c8, .slice A10 a0.Labels.length c11]) ((hfr130 3 rfl).trans hF85) rfl (loads_row tr27 (Blk.range hb136 0 [.int .i64 a0.Kind, .int .i64 a0.Int_, .string a0.Text, .slice A1 a0.Kids.length c2, .slice A4 a0.Keys.length c5, .slice A7 a0.Entries.length c8, .slice A10 a0.Labels.length c11] rfl)) ?_
          refine wpList_nil ?_
          exact ⟨_, _, rfl, rfl, ExtB.refl _ _, Wext.refl _, (Val.rpvMk (v := a0) (((((((h3.mono hx39.wext).mono hx44.wext).mono hx49.wext).mono hx56.wext).mono hW80).mono hx101.wext).mono hW128) (((((((h6.mono hx39.wext).mono hx44.wext).mono hx49.wext).mono hx56.wext).mono hW80).mono hx101.wext).mono hW128) (((((((h9.mono hx39.wext).mono hx44.wext).mono hx49.wext).mono hx56.wext).mono hW80).mono hx101.wext).mono hW128) (((((((h12.mono hx39.wext).mono hx44.wext).mono hx49.wext).mono hx56.wext).mono hW80).mono hx101.wext).mono hW128)), ⟨g133, g134, g135⟩⟩
        · intro D137 F138 s139 d140 d141 d142 hE143 hW144 hG145 hfr146 hR147
          have hE148 := hE103.trans hE143
          obtain ⟨g149, g150, g151⟩ := hG145
          have hb152 := g150
          refine r_load b42 0 (.agg #[.int .i64 a1.Kind, .int .i64 a1.Int_, .string a1.Text, .slice A13 a1.Kids.length c14, .slice A16 a1.Keys.length c17, .slice A19 a1.Entries.length c20, .slice A22 a1.Labels.length c23]) ((hfr146 4 rfl).trans hF86) rfl (loads_row tr27 (Blk.range hb152 0 [.int .i64 a1.Kind, .int .i64 a1.Int_, .string a1.Text, .slice A13 a1.Kids.length c14, .slice A16 a1.Keys.length c17, .slice A19 a1.Entries.length c20, .slice A22 a1.Labels.length c23] rfl)) ?_
          refine wpList_nil ?_
          exact ⟨_, _, rfl, rfl, ExtB.refl _ _, Wext.refl _, (Val.rpvMk (v := a1) (((((((h15.mono hx39.wext).mono hx44.wext).mono hx49.wext).mono hx56.wext).mono hW80).mono hx101.wext).mono hW144) (((((((h18.mono hx39.wext).mono hx44.wext).mono hx49.wext).mono hx56.wext).mono hW80).mono hx101.wext).mono hW144) (((((((h21.mono hx39.wext).mono hx44.wext).mono hx49.wext).mono hx56.wext).mono hW80).mono hx101.wext).mono hW144) (((((((h24.mono hx39.wext).mono hx44.wext).mono hx49.wext).mono hx56.wext).mono hW80).mono hx101.wext).mono hW144)), ⟨g149, g150, g151⟩⟩
        · intro D153 F154 s155 d156 d157 d158 hE159 hW160 hG161 hfr162 hR163
          have hE164 := hE103.trans hE159
          obtain ⟨g165, g166, g167⟩ := hG161
          have q168 : RpV s155 (a0 : Val) (F154 24) := hR163 0 rfl 24 rfl
          obtain ⟨A169, c170, A172, c173, A175, c176, A178, c179, hv181, h171, h174, h177, h180⟩ := Val.rpv q168
          have q182 : RpV s155 (a1 : Val) (F154 25) := hR163 1 rfl 25 rfl
          obtain ⟨A183, c184, A186, c187, A189, c190, A192, c193, hv195, h185, h188, h191, h194⟩ := Val.rpv q182
          refine r_call [.agg #[.int .i64 a0.Kind, .int .i64 a0.Int_, .string a0.Text, .slice A169 a0.Kids.length c170, .slice A172 a0.Keys.length c173, .slice A175 a0.Entries.length c176, .slice A178 a0.Labels.length c179], .agg #[.int .i64 a1.Kind, .int .i64 a1.Int_, .string a1.Text, .slice A183 a1.Kids.length c184, .slice A186 a1.Keys.length c187, .slice A189 a1.Entries.length c190, .slice A192 a1.Labels.length c193]] (evs2 hv181 hv195) rfl ((ok_value_Compare fuel) _ _ _ _ _ _ (Val.rpvMk (v := a0) h171 h174 h177 h180) (Val.rpvMk (v := a1) h185 h188 h191 h194) e113) ?_
          intro v197 s196 hx198 hr199
          have hE200 := hE164.ext hE164.size hx198
          obtain rfl := RpV.int hr199
          refine wpList_nil ?_
          exact ⟨_, _, rfl, rfl, (ExtB.refl _ _).trans (hx198.mono hE164.size), (Wext.refl _).trans hx198.wext, rfl, ⟨(g165.ext hx198), (g166.ext hx198), (g167.ext hx198)⟩⟩
        · intro D201 F202 s203 d204 d205 d206 hE207 hW208 hG209 hfr210 hR211
          have hE212 := hE103.trans hE207
          obtain ⟨g213, g214, g215⟩ := hG209
          have hb216 := g214
          refine r_load b42 0 (.agg #[.int .i64 a1.Kind, .int .i64 a1.Int_, .string a1.Text, .slice A13 a1.Kids.length c14, .slice A16 a1.Keys.length c17, .slice A19 a1.Entries.length c20, .slice A22 a1.Labels.length c23]) ((hfr210 4 rfl).trans hF86) rfl (loads_row tr27 (Blk.range hb216 0 [.int .i64 a1.Kind, .int .i64 a1.Int_, .string a1.Text, .slice A13 a1.Kids.length c14, .slice A16 a1.Keys.length c17, .slice A19 a1.Entries.length c20, .slice A22 a1.Labels.length c23] rfl)) ?_
          refine wpList_nil ?_
          exact ⟨_, _, rfl, rfl, ExtB.refl _ _, Wext.refl _, (Val.rpvMk (v := a1) (((((((h15.mono hx39.wext).mono hx44.wext).mono hx49.wext).mono hx56.wext).mono hW80).mono hx101.wext).mono hW208) (((((((h18.mono hx39.wext).mono hx44.wext).mono hx49.wext).mono hx56.wext).mono hW80).mono hx101.wext).mono hW208) (((((((h21.mono hx39.wext).mono hx44.wext).mono hx49.wext).mono hx56.wext).mono hW80).mono hx101.wext).mono hW208) (((((((h24.mono hx39.wext).mono hx44.wext).mono hx49.wext).mono hx56.wext).mono hW80).mono hx101.wext).mono hW208)), ⟨g213, g214, g215⟩⟩
        · intro D217 F218 s219 d220 d221 d222 hE223 hW224 hG225 hfr226 hR227
          have hE228 := hE103.trans hE223
          obtain ⟨g229, g230, g231⟩ := hG225
          have hb232 := g231
          refine r_load b47 0 (.agg #[.int .i64 a2.Kind, .int .i64 a2.Int_, .string a2.Text, .slice A25 a2.Kids.length c26, .slice A28 a2.Keys.length c29, .slice A31 a2.Entries.length c32, .slice A34 a2.Labels.length c35]) ((hfr226 5 rfl).trans hF87) rfl (loads_row tr27 (Blk.range hb232 0 [.int .i64 a2.Kind, .int .i64 a2.Int_, .string a2.Text, .slice A25 a2.Kids.length c26, .slice A28 a2.Keys.length c29, .slice A31 a2.Entries.length c32, .slice A34 a2.Labels.length c35] rfl)) ?_
          refine wpList_nil ?_
          exact ⟨_, _, rfl, rfl, ExtB.refl _ _, Wext.refl _, (Val.rpvMk (v := a2) (((((((h27.mono hx39.wext).mono hx44.wext).mono hx49.wext).mono hx56.wext).mono hW80).mono hx101.wext).mono hW224) (((((((h30.mono hx39.wext).mono hx44.wext).mono hx49.wext).mono hx56.wext).mono hW80).mono hx101.wext).mono hW224) (((((((h33.mono hx39.wext).mono hx44.wext).mono hx49.wext).mono hx56.wext).mono hW80).mono hx101.wext).mono hW224) (((((((h36.mono hx39.wext).mono hx44.wext).mono hx49.wext).mono hx56.wext).mono hW80).mono hx101.wext).mono hW224)), ⟨g229, g230, g231⟩⟩
        · intro D233 F234 s235 d236 d237 d238 hE239 hW240 hG241 hfr242 hR243
          have hE244 := hE103.trans hE239
          obtain ⟨g245, g246, g247⟩ := hG241
          have q248 : RpV s235 (a1 : Val) (F234 27) := hR243 3 rfl 27 rfl
          obtain ⟨A249, c250, A252, c253, A255, c256, A258, c259, hv261, h251, h254, h257, h260⟩ := Val.rpv q248
          have q262 : RpV s235 (a2 : Val) (F234 28) := hR243 4 rfl 28 rfl
          obtain ⟨A263, c264, A266, c267, A269, c270, A272, c273, hv275, h265, h268, h271, h274⟩ := Val.rpv q262
          refine r_call [.agg #[.int .i64 a1.Kind, .int .i64 a1.Int_, .string a1.Text, .slice A249 a1.Kids.length c250, .slice A252 a1.Keys.length c253, .slice A255 a1.Entries.length c256, .slice A258 a1.Labels.length c259], .agg #[.int .i64 a2.Kind, .int .i64 a2.Int_, .string a2.Text, .slice A263 a2.Kids.length c264, .slice A266 a2.Keys.length c267, .slice A269 a2.Entries.length c270, .slice A272 a2.Labels.length c273]] (evs2 hv261 hv275) rfl ((ok_value_Compare fuel) _ _ _ _ _ _ (Val.rpvMk (v := a1) h251 h254 h257 h260) (Val.rpvMk (v := a2) h265 h268 h271 h274) e115) ?_
          intro v277 s276 hx278 hr279
          have hE280 := hE244.ext hE244.size hx278
          obtain rfl := RpV.int hr279
          refine wpList_nil ?_
          exact ⟨_, _, rfl, rfl, (ExtB.refl _ _).trans (hx278.mono hE244.size), (Wext.refl _).trans hx278.wext, rfl, ⟨(g245.ext hx278), (g246.ext hx278), (g247.ext hx278)⟩⟩
        · intro D281 F282 s283 d284 d285 d286 hE287 hW288 hG289 hfr290 hR291
          have hE292 := hE103.trans hE287
          obtain ⟨g293, g294, g295⟩ := hG289
          have hb296 := g293
          refine r_load b37 0 (.agg #[.int .i64 a0.Kind, .int .i64 a0.Int_, .string a0.Text, .slice A1 a0.Kids.length c2, .slice A4 a0.Keys.length c5, .slice A7 a0.Entries.length c8, .slice A10 a0.Labels.length c11]) ((hfr290 3 rfl).trans hF85) rfl (loads_row tr27 (Blk.range hb296 0 [.int .i64 a0.Kind, .int .i64 a0.Int_, .string a0.Text, .slice A1 a0.Kids.length c2, .slice A4 a0.Keys.length c5, .slice A7 a0.Entries.length c8, .slice A10 a0.Labels.length c11] rfl)) ?_
          refine wpList_nil ?_
          exact ⟨_, _, rfl, rfl, ExtB.refl _ _, Wext.refl _, (Val.rpvMk (v := a0) (((((((h3.mono hx39.wext).mono hx44.wext).mono hx49.wext).mono hx56.wext).mono hW80).mono hx101.wext).mono hW288) (((((((h6.mono hx39.wext).mono hx44.wext).mono hx49.wext).mono hx56.wext).mono hW80).mono hx101.wext).mono hW288) (((((((h9.mono hx39.wext).mono hx44.wext).mono hx49.wext).mono hx56.wext).mono hW80).mono hx101.wext).mono hW288) (((((((h12.mono hx39.wext).mono hx44.wext).mono hx49.wext).mono hx56.wext).mono hW80).mono hx101.wext).mono hW288)), ⟨g293, g294, g295⟩⟩
        · intro D297 F298 s299 d300 d301 d302 hE303 hW304 hG305 hfr306 hR307
          have hE308 := hE103.trans hE303
          obtain ⟨g309, g310, g311⟩ := hG305
          have hb312 := g311
          refine r_load b47 0 (.agg #[.int .i64 a2.Kind, .int .i64 a2.Int_, .string a2.Text, .slice A25 a2.Kids.length c26, .slice A28 a2.Keys.length c29, .slice A31 a2.Entries.length c32, .slice A34 a2.Labels.length c35]) ((hfr306 5 rfl).trans hF87) rfl (loads_row tr27 (Blk.range hb312 0 [.int .i64 a2.Kind, .int .i64 a2.Int_, .string a2.Text, .slice A25 a2.Kids.length c26, .slice A28 a2.Keys.length c29, .slice A31 a2.Entries.length c32, .slice A34 a2.Labels.length c35] rfl)) ?_
          refine wpList_nil ?_
          exact ⟨_, _, rfl, rfl, ExtB.refl _ _, Wext.refl _, (Val.rpvMk (v := a2) (((((((h27.mono hx39.wext).mono hx44.wext).mono hx49.wext).mono hx56.wext).mono hW80).mono hx101.wext).mono hW304) (((((((h30.mono hx39.wext).mono hx44.wext).mono hx49.wext).mono hx56.wext).mono hW80).mono hx101.wext).mono hW304) (((((((h33.mono hx39.wext).mono hx44.wext).mono hx49.wext).mono hx56.wext).mono hW80).mono hx101.wext).mono hW304) (((((((h36.mono hx39.wext).mono hx44.wext).mono hx49.wext).mono hx56.wext).mono hW80).mono hx101.wext).mono hW304)), ⟨g309, g310, g311⟩⟩
        · intro D313 F314 s315 d316 d317 d318 hE319 hW320 hG321 hfr322 hR323
          have hE324 := hE103.trans hE319
          obtain ⟨g325, g326, g327⟩ := hG321
          have q328 : RpV s315 (a0 : Val) (F314 30) := hR323 6 rfl 30 rfl
          obtain ⟨A329, c330, A332, c333, A335, c336, A338, c339, hv341, h331, h334, h337, h340⟩ := Val.rpv q328
          have q342 : RpV s315 (a2 : Val) (F314 31) := hR323 7 rfl 31 rfl
          obtain ⟨A343, c344, A346, c347, A349, c350, A352, c353, hv355, h345, h348, h351, h354⟩ := Val.rpv q342
          refine r_call [.agg #[.int .i64 a0.Kind, .int .i64 a0.Int_, .string a0.Text, .slice A329 a0.Kids.length c330, .slice A332 a0.Keys.length c333, .slice A335 a0.Entries.length c336, .slice A338 a0.Labels.length c339], .agg #[.int .i64 a2.Kind, .int .i64 a2.Int_, .string a2.Text, .slice A343 a2.Kids.length c344, .slice A346 a2.Keys.length c347, .slice A349 a2.Entries.length c350, .slice A352 a2.Labels.length c353]] (evs2 hv341 hv355) rfl ((ok_value_Compare fuel) _ _ _ _ _ _ (Val.rpvMk (v := a0) h331 h334 h337 h340) (Val.rpvMk (v := a2) h345 h348 h351 h354) e117) ?_
          intro v357 s356 hx358 hr359
          have hE360 := hE324.ext hE324.size hx358
          obtain rfl := RpV.int hr359
          refine wpList_nil ?_
          exact ⟨_, _, rfl, rfl, (ExtB.refl _ _).trans (hx358.mono hE324.size), (Wext.refl _).trans hx358.wext, rfl, ⟨(g325.ext hx358), (g326.ext hx358), (g327.ext hx358)⟩⟩
        · intro D361 F362 s363 d364 d365 d366 hE367 hW368 hG369 hfr370 hR371
          have hE372 := hE103.trans hE367
          obtain ⟨g373, g374, g375⟩ := hG369
          have q376 : F362 26 = (.int .i64 r112) := hR371 2 rfl 26 rfl
          refine r_assign (.int .i64 r112) q376 rfl ?_
          refine wpList_nil ?_
          exact ⟨_, _, rfl, rfl, ExtB.refl _ _, Wext.refl _, rfl, ⟨g373, g374, g375⟩⟩
        · intro D377 F378 s379 d380 d381 d382 hE383 hW384 hG385 hfr386 hR387
          have hE388 := hE103.trans hE383
          obtain ⟨g389, g390, g391⟩ := hG385
          have q392 : F378 29 = (.int .i64 r114) := hR387 5 rfl 29 rfl
          refine r_assign (.int .i64 r114) q392 rfl ?_
          refine wpList_nil ?_
          exact ⟨_, _, rfl, rfl, ExtB.refl _ _, Wext.refl _, rfl, ⟨g389, g390, g391⟩⟩
        · intro D393 F394 s395 d396 d397 d398 hE399 hW400 hG401 hfr402 hR403
          have hE404 := hE103.trans hE399
          obtain ⟨g405, g406, g407⟩ := hG401
          have q408 : F394 32 = (.int .i64 r116) := hR403 8 rfl 32 rfl
          refine r_assign (.int .i64 r116) q408 rfl ?_
          refine wpList_nil ?_
          exact ⟨_, _, rfl, rfl, ExtB.refl _ _, Wext.refl _, rfl, ⟨g405, g406, g407⟩⟩
        · intro F409 s410 hE411 hW412 hG413 hfr414 hR415
          have hE416 := hE103.trans hE411
          obtain ⟨g417, g418, g419⟩ := hG413
          have hb420 := g417
          have hb421 := g418
          have hb422 := g419
          have hF423 : F409 3 = (.pointer (some ⟨b37, 0, none⟩)) := (hfr414 3 rfl).trans hF85
          have hF424 : F409 4 = (.pointer (some ⟨b42, 0, none⟩)) := (hfr414 4 rfl).trans hF86
          have q425 : F409 7 = (.int .i64 r112) := hR415 9 7 rfl
          have q426 : F409 8 = (.int .i64 r114) := hR415 10 8 rfl
          have q427 : F409 9 = (.int .i64 r116) := hR415 11 9 rfl
          refine p_then ?_
          refine wp_seq ?_
          refine wp_seq ?_
          refine wp_region_lit ?_
          refine r_move (.int .i64 r112) q425 rfl ?_
          refine r_load b37 0 (.agg #[.int .i64 a0.Kind, .int .i64 a0.Int_, .string a0.Text, .slice A1 a0.Kids.length c2, .slice A4 a0.Keys.length c5, .slice A7 a0.Entries.length c8, .slice A10 a0.Labels.length c11]) hF423 rfl (loads_row tr27 (Blk.range hb420 0 [.int .i64 a0.Kind, .int .i64 a0.Int_, .string a0.Text, .slice A1 a0.Kids.length c2, .slice A4 a0.Keys.length c5, .slice A7 a0.Entries.length c8, .slice A10 a0.Labels.length c11] rfl)) ?_
          refine r_load b42 0 (.agg #[.int .i64 a1.Kind, .int .i64 a1.Int_, .string a1.Text, .slice A13 a1.Kids.length c14, .slice A16 a1.Keys.length c17, .slice A19 a1.Entries.length c20, .slice A22 a1.Labels.length c23]) hF424 rfl (loads_row tr27 (Blk.range hb421 0 [.int .i64 a1.Kind, .int .i64 a1.Int_, .string a1.Text, .slice A13 a1.Kids.length c14, .slice A16 a1.Keys.length c17, .slice A19 a1.Entries.length c20, .slice A22 a1.Labels.length c23] rfl)) ?_
          obtain ⟨r428, e429, hf⟩ := bind_some hf
          refine r_call [.agg #[.int .i64 a0.Kind, .int .i64 a0.Int_, .string a0.Text, .slice A1 a0.Kids.length c2, .slice A4 a0.Keys.length c5, .slice A7 a0.Entries.length c8, .slice A10 a0.Labels.length c11], .agg #[.int .i64 a1.Kind, .int .i64 a1.Int_, .string a1.Text, .slice A13 a1.Kids.length c14, .slice A16 a1.Keys.length c17, .slice A19 a1.Entries.length c20, .slice A22 a1.Labels.length c23]] (evs2 rfl rfl) rfl ((ok_semtyperef1_Compare fuel) _ _ _ _ _ _ (Val.rpvMk (v := a0) (((((((h3.mono hx39.wext).mono hx44.wext).mono hx49.wext).mono hx56.wext).mono hW80).mono hx101.wext).mono hW412) (((((((h6.mono hx39.wext).mono hx44.wext).mono hx49.wext).mono hx56.wext).mono hW80).mono hx101.wext).mono hW412) (((((((h9.mono hx39.wext).mono hx44.wext).mono hx49.wext).mono hx56.wext).mono hW80).mono hx101.wext).mono hW412) (((((((h12.mono hx39.wext).mono hx44.wext).mono hx49.wext).mono hx56.wext).mono hW80).mono hx101.wext).mono hW412)) (Val.rpvMk (v := a1) (((((((h15.mono hx39.wext).mono hx44.wext).mono hx49.wext).mono hx56.wext).mono hW80).mono hx101.wext).mono hW412) (((((((h18.mono hx39.wext).mono hx44.wext).mono hx49.wext).mono hx56.wext).mono hW80).mono hx101.wext).mono hW412) (((((((h21.mono hx39.wext).mono hx44.wext).mono hx49.wext).mono hx56.wext).mono hW80).mono hx101.wext).mono hW412) (((((((h24.mono hx39.wext).mono hx44.wext).mono hx49.wext).mono hx56.wext).mono hW80).mono hx101.wext).mono hW412)) e429) ?_
          intro v431 s430 hx432 hr433
          have hE434 := hE416.ext hE416.size hx432
          obtain rfl := RpV.int hr433
          refine r_bin (.int .i64 r112) (.int .i64 r428) (.bool (r112 != r428)) rfl rfl rfl rfl (b_neq) ?_
          refine r_move (.bool (r112 != r428)) rfl rfl ?_
          refine if_else hf (fun hc435 hf => ?_) (fun hc435 hf => ?_)
          · refine r_skip (j := 5) (want := false) (d := 38) (c := (r112 != r428)) (v := true) rfl rfl hc435 rfl rfl ?_
            refine r_skip (j := 5) (want := false) (d := 38) (c := (r112 != r428)) (v := true) rfl rfl hc435 rfl rfl ?_
            refine r_skip (j := 5) (want := false) (d := 38) (c := (r112 != r428)) (v := true) rfl rfl hc435 rfl rfl ?_
            refine r_skipu (j := 8) (d := 41) rfl rfl rfl ?_
            refine r_skipu (j := 8) (d := 41) rfl rfl rfl ?_
            refine r_skipu (j := 8) (d := 41) rfl rfl rfl ?_
            refine r_skipu (j := 8) (d := 41) rfl rfl rfl ?_
            refine r_skip (j := 5) (want := false) (d := 38) (c := (r112 != r428)) (v := true) rfl rfl hc435 rfl rfl ?_
            refine r_pick_t (c := (r112 != r428)) (.bool true) rfl hc435 rfl rfl rfl rfl ?_
            refine r_move (.bool true) rfl rfl ?_
            refine r_skip (j := 15) (want := false) (d := 48) (c := true) (v := true) rfl rfl rfl rfl rfl ?_
            refine r_skip (j := 15) (want := false) (d := 48) (c := true) (v := true) rfl rfl rfl rfl rfl ?_
            refine r_skip (j := 15) (want := false) (d := 48) (c := true) (v := true) rfl rfl rfl rfl rfl ?_
            refine r_skipu (j := 18) (d := 51) rfl rfl rfl ?_
            refine r_skipu (j := 18) (d := 51) rfl rfl rfl ?_
            refine r_skipu (j := 18) (d := 51) rfl rfl rfl ?_
            refine r_skipu (j := 18) (d := 51) rfl rfl rfl ?_
            refine r_skip (j := 15) (want := false) (d := 48) (c := true) (v := true) rfl rfl rfl rfl rfl ?_
            refine r_pick_t (c := true) (.bool true) rfl rfl rfl rfl rfl rfl ?_
            refine wpList_nil ?_
            refine p_then ?_
            refine c_true rfl rfl rfl ?_
            refine wp_seq ?_
            refine wp_region_lit ?_
            refine r_assign (.bool false) rfl rfl ?_
            refine wpList_nil ?_
            refine p_then ?_
            refine wp_ret ?_
            refine p_thenr ?_
            obtain rfl := Option.some.inj hf
            refine ret_one (.bool false) rfl ⟨rfl, rfl⟩ hE434 ?_
            exact (RpV.mkBool _ _)
          · refine r_guard (j := 5) (want := false) (d := 38) (c := (r112 != r428)) (v := false) rfl rfl hc435 rfl rfl ?_
            refine r_move (.int .i64 r112) q425 rfl ?_
            refine r_guard (j := 5) (want := false) (d := 38) (c := (r112 != r428)) (v := false) rfl rfl hc435 rfl rfl ?_
            refine r_bin (.int .i64 r112) (.int .i64 (-1)) (.bool (r112 == (-1))) rfl rfl rfl rfl (b_eql) ?_
            refine r_guard (j := 5) (want := false) (d := 38) (c := (r112 != r428)) (v := false) rfl rfl hc435 rfl rfl ?_
            refine r_move (.bool (r112 == (-1))) rfl rfl ?_
            refine gen_FL fun F436 hg437 => ?_
            have hF438 : F436 3 = (.pointer (some ⟨b37, 0, none⟩)) := (hg437 3).trans hF423
            have hF439 : F436 4 = (.pointer (some ⟨b42, 0, none⟩)) := (hg437 4).trans hF424
            have hF440 : F436 7 = (.int .i64 r112) := (hg437 7).trans q425
            have hF441 : F436 8 = (.int .i64 r114) := (hg437 8).trans q426
            have hF442 : F436 9 = (.int .i64 r116) := (hg437 9).trans q427
            have hF443 : F436 38 = (.bool (r112 != r428)) := (hg437 38).trans rfl
            have hF444 : F436 41 = (.bool (r112 == (-1))) := (hg437 41).trans rfl
            obtain ⟨q445, hq446, hf⟩ := bind_some hf
            refine wpl_take 5 (J := fun a w => ∃ (F : Fr) (τ : S), a = fr 96 F ∧ w = τ.w ∧ Agr [42, 43, 44, 45, 46] F F436 ∧ ExtB s0.N s0 τ ∧ Wext s430 τ ∧ F 46 = (.bool q445) ∧ Blk s0.N 1 τ b37 27 [.int .i64 a0.Kind, .int .i64 a0.Int_, .string a0.Text, .slice A1 a0.Kids.length c2, .slice A4 a0.Keys.length c5, .slice A7 a0.Entries.length c8, .slice A10 a0.Labels.length c11] ∧ Blk s0.N 2 τ b42 27 [.int .i64 a1.Kind, .int .i64 a1.Int_, .string a1.Text, .slice A13 a1.Kids.length c14, .slice A16 a1.Keys.length c17, .slice A19 a1.Entries.length c20, .slice A22 a1.Labels.length c23]) ?_ ?_
            · have hf := hq446
              refine if_else hf (fun hc447 hf => ?_) (fun hc447 hf => ?_)
              · refine r_guard (j := 8) (want := true) (d := 41) (c := (r112 == (-1))) (v := true) rfl hF444 hc447 rfl rfl ?_
                refine r_load b42 0 (.agg #[.int .i64 a1.Kind, .int .i64 a1.Int_, .string a1.Text, .slice A13 a1.Kids.length c14, .slice A16 a1.Keys.length c17, .slice A19 a1.Entries.length c20, .slice A22 a1.Labels.length c23]) hF439 rfl (loads_row tr27 (Blk.range (hb421.ext hx432) 0 [.int .i64 a1.Kind, .int .i64 a1.Int_, .string a1.Text, .slice A13 a1.Kids.length c14, .slice A16 a1.Keys.length c17, .slice A19 a1.Entries.length c20, .slice A22 a1.Labels.length c23] rfl)) ?_
                refine r_guard (j := 8) (want := true) (d := 41) (c := (r112 == (-1))) (v := true) rfl hF444 hc447 rfl rfl ?_
                refine r_load b37 0 (.agg #[.int .i64 a0.Kind, .int .i64 a0.Int_, .string a0.Text, .slice A1 a0.Kids.length c2, .slice A4 a0.Keys.length c5, .slice A7 a0.Entries.length c8, .slice A10 a0.Labels.length c11]) hF438 rfl (loads_row tr27 (Blk.range (hb420.ext hx432) 0 [.int .i64 a0.Kind, .int .i64 a0.Int_, .string a0.Text, .slice A1 a0.Kids.length c2, .slice A4 a0.Keys.length c5, .slice A7 a0.Entries.length c8, .slice A10 a0.Labels.length c11] rfl)) ?_
                refine r_guard (j := 8) (want := true) (d := 41) (c := (r112 == (-1))) (v := true) rfl hF444 hc447 rfl rfl ?_
                obtain ⟨r448, e449, hf⟩ := bind_some hf
                refine r_call [.agg #[.int .i64 a1.Kind, .int .i64 a1.Int_, .string a1.Text, .slice A13 a1.Kids.length c14, .slice A16 a1.Keys.length c17, .slice A19 a1.Entries.length c20, .slice A22 a1.Labels.length c23], .agg #[.int .i64 a0.Kind, .int .i64 a0.Int_, .string a0.Text, .slice A1 a0.Kids.length c2, .slice A4 a0.Keys.length c5, .slice A7 a0.Entries.length c8, .slice A10 a0.Labels.length c11]] (evs2 rfl rfl) rfl ((ok_value_Compare fuel) _ _ _ _ _ _ (Val.rpvMk (v := a1) ((((((((h15.mono hx39.wext).mono hx44.wext).mono hx49.wext).mono hx56.wext).mono hW80).mono hx101.wext).mono hW412).mono hx432.wext) ((((((((h18.mono hx39.wext).mono hx44.wext).mono hx49.wext).mono hx56.wext).mono hW80).mono hx101.wext).mono hW412).mono hx432.wext) ((((((((h21.mono hx39.wext).mono hx44.wext).mono hx49.wext).mono hx56.wext).mono hW80).mono hx101.wext).mono hW412).mono hx432.wext) ((((((((h24.mono hx39.wext).mono hx44.wext).mono hx49.wext).mono hx56.wext).mono hW80).mono hx101.wext).mono hW412).mono hx432.wext)) (Val.rpvMk (v := a0) ((((((((h3.mono hx39.wext).mono hx44.wext).mono hx49.wext).mono hx56.wext).mono hW80).mono hx101.wext).mono hW412).mono hx432.wext) ((((((((h6.mono hx39.wext).mono hx44.wext).mono hx49.wext).mono hx56.wext).mono hW80).mono hx101.wext).mono hW412).mono hx432.wext) ((((((((h9.mono hx39.wext).mono hx44.wext).mono hx49.wext).mono hx56.wext).mono hW80).mono hx101.wext).mono hW412).mono hx432.wext) ((((((((h12.mono hx39.wext).mono hx44.wext).mono hx49.wext).mono hx56.wext).mono hW80).mono hx101.wext).mono hW412).mono hx432.wext)) e449) ?_
                intro v451 s450 hx452 hr453
                have hE454 := hE434.ext hE434.size hx452
                obtain rfl := RpV.int hr453
                refine r_guard (j := 8) (want := true) (d := 41) (c := (r112 == (-1))) (v := true) rfl hF444 hc447 rfl rfl ?_
                refine r_bin (.int .i64 r448) (.int .i64 1) (.bool (r448 != 1)) rfl rfl rfl rfl (b_neq) ?_
                refine r_guard (j := 5) (want := false) (d := 38) (c := (r112 != r428)) (v := false) rfl hF443 hc435 rfl rfl ?_
                refine r_pick_t (c := (r112 == (-1))) (.bool (r448 != 1)) hF444 hc447 rfl rfl rfl rfl ?_
                refine wpList_nil ?_
                obtain rfl := Option.some.inj hf
                exact ⟨rfl, _, _, rfl, rfl, ((((((Agr.refl _ _).put rfl).put rfl).put rfl).put rfl).put rfl), hE454, ((Wext.refl _).trans hx452.wext), rfl, ((hb420.ext hx432).ext hx452), ((hb421.ext hx432).ext hx452)⟩
              · refine r_skip (j := 8) (want := true) (d := 41) (c := (r112 == (-1))) (v := false) rfl hF444 hc447 rfl rfl ?_
                refine r_skip (j := 8) (want := true) (d := 41) (c := (r112 == (-1))) (v := false) rfl hF444 hc447 rfl rfl ?_
                refine r_skip (j := 8) (want := true) (d := 41) (c := (r112 == (-1))) (v := false) rfl hF444 hc447 rfl rfl ?_
                refine r_skip (j := 8) (want := true) (d := 41) (c := (r112 == (-1))) (v := false) rfl hF444 hc447 rfl rfl ?_
                refine r_guard (j := 5) (want := false) (d := 38) (c := (r112 != r428)) (v := false) rfl hF443 hc435 rfl rfl ?_
                refine r_pick_f (c := (r112 == (-1))) (.bool false) hF444 hc447 rfl rfl rfl rfl ?_
                refine wpList_nil ?_
                obtain rfl := Option.some.inj hf
                exact ⟨rfl, _, _, rfl, rfl, ((((((Agr.refl _ _).put rfl).put rfl).put rfl).put rfl).put rfl), hE434, (Wext.refl _), rfl, (hb420.ext hx432), (hb421.ext hx432)⟩
            · rintro a w ⟨F455, s456, rfl, rfl, hag457, hE458, hW459, h460, h461, h462⟩
              have hF463 : F455 3 = (.pointer (some ⟨b37, 0, none⟩)) := (hag457 3 rfl).trans hF438
              have hF464 : F455 4 = (.pointer (some ⟨b42, 0, none⟩)) := (hag457 4 rfl).trans hF439
              have hF465 : F455 7 = (.int .i64 r112) := (hag457 7 rfl).trans hF440
              have hF466 : F455 8 = (.int .i64 r114) := (hag457 8 rfl).trans hF441
              have hF467 : F455 9 = (.int .i64 r116) := (hag457 9 rfl).trans hF442
              have hF468 : F455 38 = (.bool (r112 != r428)) := (hag457 38 rfl).trans hF443
              refine r_pick_f (c := (r112 != r428)) (.bool q445) hF468 hc435 h460 rfl rfl rfl ?_
              refine r_move (.bool q445) rfl rfl ?_
              refine if_else hf (fun hc469 hf => ?_) (fun hc469 hf => ?_)
              · refine r_skip (j := 15) (want := false) (d := 48) (c := q445) (v := true) rfl rfl hc469 rfl rfl ?_
                refine r_skip (j := 15) (want := false) (d := 48) (c := q445) (v := true) rfl rfl hc469 rfl rfl ?_
                refine r_skip (j := 15) (want := false) (d := 48) (c := q445) (v := true) rfl rfl hc469 rfl rfl ?_
                refine r_skipu (j := 18) (d := 51) rfl rfl rfl ?_
                refine r_skipu (j := 18) (d := 51) rfl rfl rfl ?_
                refine r_skipu (j := 18) (d := 51) rfl rfl rfl ?_
                refine r_skipu (j := 18) (d := 51) rfl rfl rfl ?_
                refine r_skip (j := 15) (want := false) (d := 48) (c := q445) (v := true) rfl rfl hc469 rfl rfl ?_
                refine r_pick_t (c := q445) (.bool true) rfl hc469 rfl rfl rfl rfl ?_
                refine wpList_nil ?_
                refine p_then ?_
                refine c_true rfl rfl rfl ?_
                refine wp_seq ?_
                refine wp_region_lit ?_
                refine r_assign (.bool false) rfl rfl ?_
                refine wpList_nil ?_
                refine p_then ?_
                refine wp_ret ?_
                refine p_thenr ?_
                obtain rfl := Option.some.inj hf
                refine ret_one (.bool false) rfl ⟨rfl, rfl⟩ hE458 ?_
                exact (RpV.mkBool _ _)
              · refine r_guard (j := 15) (want := false) (d := 48) (c := q445) (v := false) rfl rfl hc469 rfl rfl ?_
                refine r_move (.int .i64 r112) hF465 rfl ?_
                refine r_guard (j := 15) (want := false) (d := 48) (c := q445) (v := false) rfl rfl hc469 rfl rfl ?_
                refine r_bin (.int .i64 r112) (.int .i64 1) (.bool (r112 == 1)) rfl rfl rfl rfl (b_eql) ?_
                refine r_guard (j := 15) (want := false) (d := 48) (c := q445) (v := false) rfl rfl hc469 rfl rfl ?_
                refine r_move (.bool (r112 == 1)) rfl rfl ?_
                refine gen_FL fun F470 hg471 => ?_
                have hF472 : F470 3 = (.pointer (some ⟨b37, 0, none⟩)) := (hg471 3).trans hF463
                have hF473 : F470 4 = (.pointer (some ⟨b42, 0, none⟩)) := (hg471 4).trans hF464
                have hF474 : F470 7 = (.int .i64 r112) := (hg471 7).trans hF465
                have hF475 : F470 8 = (.int .i64 r114) := (hg471 8).trans hF466
                have hF476 : F470 9 = (.int .i64 r116) := (hg471 9).trans hF467
                have hF477 : F470 48 = (.bool q445) := (hg471 48).trans rfl
                have hF478 : F470 51 = (.bool (r112 == 1)) := (hg471 51).trans rfl
                obtain ⟨q479, hq480, hf⟩ := bind_some hf
                refine wpl_take 5 (J := fun a w => ∃ (F : Fr) (τ : S), a = fr 96 F ∧ w = τ.w ∧ Agr [52, 53, 54, 55, 56] F F470 ∧ ExtB s0.N s0 τ ∧ Wext s456 τ ∧ F 56 = (.bool q479) ∧ Blk s0.N 1 τ b37 27 [.int .i64 a0.Kind, .int .i64 a0.Int_, .string a0.Text, .slice A1 a0.Kids.length c2, .slice A4 a0.Keys.length c5, .slice A7 a0.Entries.length c8, .slice A10 a0.Labels.length c11] ∧ Blk s0.N 2 τ b42 27 [.int .i64 a1.Kind, .int .i64 a1.Int_, .string a1.Text, .slice A13 a1.Kids.length c14, .slice A16 a1.Keys.length c17, .slice A19 a1.Entries.length c20, .slice A22 a1.Labels.length c23]) ?_ ?_
                · have hf := hq480
                  refine if_else hf (fun hc481 hf => ?_) (fun hc481 hf => ?_)
                  · refine r_guard (j := 18) (want := true) (d := 51) (c := (r112 == 1)) (v := true) rfl hF478 hc481 rfl rfl ?_
                    refine r_load b42 0 (.agg #[.int .i64 a1.Kind, .int .i64 a1.Int_, .string a1.Text, .slice A13 a1.Kids.length c14, .slice A16 a1.Keys.length c17, .slice A19 a1.Entries.length c20, .slice A22 a1.Labels.length c23]) hF473 rfl (loads_row tr27 (Blk.range h462 0 [.int .i64 a1.Kind, .int .i64 a1.Int_, .string a1.Text, .slice A13 a1.Kids.length c14, .slice A16 a1.Keys.length c17, .slice A19 a1.Entries.length c20, .slice A22 a1.Labels.length c23] rfl)) ?_
                    refine r_guard (j := 18) (want := true) (d := 51) (c := (r112 == 1)) (v := true) rfl hF478 hc481 rfl rfl ?_
                    refine r_load b37 0 (.agg #[.int .i64 a0.Kind, .int .i64 a0.Int_, .string a0.Text, .slice A1 a0.Kids.length c2, .slice A4 a0.Keys.length c5, .slice A7 a0.Entries.length c8, .slice A10 a0.Labels.length c11]) hF472 rfl (loads_row tr27 (Blk.range h461 0 [.int .i64 a0.Kind, .int .i64 a0.Int_, .string a0.Text, .slice A1 a0.Kids.length c2, .slice A4 a0.Keys.length c5, .slice A7 a0.Entries.length c8, .slice A10 a0.Labels.length c11] rfl)) ?_
                    refine r_guard (j := 18) (want := true) (d := 51) (c := (r112 == 1)) (v := true) rfl hF478 hc481 rfl rfl ?_
                    obtain ⟨r482, e483, hf⟩ := bind_some hf
                    refine r_call [.agg #[.int .i64 a1.Kind, .int .i64 a1.Int_, .string a1.Text, .slice A13 a1.Kids.length c14, .slice A16 a1.Keys.length c17, .slice A19 a1.Entries.length c20, .slice A22 a1.Labels.length c23], .agg #[.int .i64 a0.Kind, .int .i64 a0.Int_, .string a0.Text, .slice A1 a0.Kids.length c2, .slice A4 a0.Keys.length c5, .slice A7 a0.Entries.length c8, .slice A10 a0.Labels.length c11]] (evs2 rfl rfl) rfl ((ok_value_Compare fuel) _ _ _ _ _ _ (Val.rpvMk (v := a1) (((((((((h15.mono hx39.wext).mono hx44.wext).mono hx49.wext).mono hx56.wext).mono hW80).mono hx101.wext).mono hW412).mono hx432.wext).mono hW459) (((((((((h18.mono hx39.wext).mono hx44.wext).mono hx49.wext).mono hx56.wext).mono hW80).mono hx101.wext).mono hW412).mono hx432.wext).mono hW459) (((((((((h21.mono hx39.wext).mono hx44.wext).mono hx49.wext).mono hx56.wext).mono hW80).mono hx101.wext).mono hW412).mono hx432.wext).mono hW459) (((((((((h24.mono hx39.wext).mono hx44.wext).mono hx49.wext).mono hx56.wext).mono hW80).mono hx101.wext).mono hW412).mono hx432.wext).mono hW459)) (Val.rpvMk (v := a0) (((((((((h3.mono hx39.wext).mono hx44.wext).mono hx49.wext).mono hx56.wext).mono hW80).mono hx101.wext).mono hW412).mono hx432.wext).mono hW459) (((((((((h6.mono hx39.wext).mono hx44.wext).mono hx49.wext).mono hx56.wext).mono hW80).mono hx101.wext).mono hW412).mono hx432.wext).mono hW459) (((((((((h9.mono hx39.wext).mono hx44.wext).mono hx49.wext).mono hx56.wext).mono hW80).mono hx101.wext).mono hW412).mono hx432.wext).mono hW459) (((((((((h12.mono hx39.wext).mono hx44.wext).mono hx49.wext).mono hx56.wext).mono hW80).mono hx101.wext).mono hW412).mono hx432.wext).mono hW459)) e483) ?_
                    intro v485 s484 hx486 hr487
                    have hE488 := hE458.ext hE458.size hx486
                    obtain rfl := RpV.int hr487
                    refine r_guard (j := 18) (want := true) (d := 51) (c := (r112 == 1)) (v := true) rfl hF478 hc481 rfl rfl ?_
                    refine r_bin (.int .i64 r482) (.int .i64 (-1)) (.bool (r482 != (-1))) rfl rfl rfl rfl (b_neq) ?_
                    refine r_guard (j := 15) (want := false) (d := 48) (c := q445) (v := false) rfl hF477 hc469 rfl rfl ?_
                    refine r_pick_t (c := (r112 == 1)) (.bool (r482 != (-1))) hF478 hc481 rfl rfl rfl rfl ?_
                    refine wpList_nil ?_
                    obtain rfl := Option.some.inj hf
                    exact ⟨rfl, _, _, rfl, rfl, ((((((Agr.refl _ _).put rfl).put rfl).put rfl).put rfl).put rfl), hE488, ((Wext.refl _).trans hx486.wext), rfl, (h461.ext hx486), (h462.ext hx486)⟩
                  · refine r_skip (j := 18) (want := true) (d := 51) (c := (r112 == 1)) (v := false) rfl hF478 hc481 rfl rfl ?_
                    refine r_skip (j := 18) (want := true) (d := 51) (c := (r112 == 1)) (v := false) rfl hF478 hc481 rfl rfl ?_
                    refine r_skip (j := 18) (want := true) (d := 51) (c := (r112 == 1)) (v := false) rfl hF478 hc481 rfl rfl ?_
                    refine r_skip (j := 18) (want := true) (d := 51) (c := (r112 == 1)) (v := false) rfl hF478 hc481 rfl rfl ?_
                    refine r_guard (j := 15) (want := false) (d := 48) (c := q445) (v := false) rfl hF477 hc469 rfl rfl ?_
                    refine r_pick_f (c := (r112 == 1)) (.bool false) hF478 hc481 rfl rfl rfl rfl ?_
                    refine wpList_nil ?_
                    obtain rfl := Option.some.inj hf
                    exact ⟨rfl, _, _, rfl, rfl, ((((((Agr.refl _ _).put rfl).put rfl).put rfl).put rfl).put rfl), hE458, (Wext.refl _), rfl, h461, h462⟩
                · rintro a w ⟨F489, s490, rfl, rfl, hag491, hE492, hW493, h494, h495, h496⟩
                  have hF497 : F489 3 = (.pointer (some ⟨b37, 0, none⟩)) := (hag491 3 rfl).trans hF472
                  have hF498 : F489 4 = (.pointer (some ⟨b42, 0, none⟩)) := (hag491 4 rfl).trans hF473
                  have hF499 : F489 7 = (.int .i64 r112) := (hag491 7 rfl).trans hF474
                  have hF500 : F489 8 = (.int .i64 r114) := (hag491 8 rfl).trans hF475
                  have hF501 : F489 9 = (.int .i64 r116) := (hag491 9 rfl).trans hF476
                  have hF502 : F489 48 = (.bool q445) := (hag491 48 rfl).trans hF477
                  refine r_pick_f (c := q445) (.bool q479) hF502 hc469 h494 rfl rfl rfl ?_
                  refine wpList_nil ?_
                  refine p_then ?_
                  refine if_else hf (fun hc503 hf => ?_) (fun hc503 hf => ?_)
                  · refine c_true rfl hc503 rfl ?_
                    refine wp_seq ?_
                    refine wp_region_lit ?_
                    refine r_assign (.bool false) rfl rfl ?_
                    refine wpList_nil ?_
                    refine p_then ?_
                    refine wp_ret ?_
                    refine p_thenr ?_
                    obtain rfl := Option.some.inj hf
                    refine ret_one (.bool false) rfl ⟨rfl, rfl⟩ hE492 ?_
                    exact (RpV.mkBool _ _)
                  · refine c_false rfl hc503 rfl ?_
                    refine wp_skip ?_
                    refine p_then ?_
                    refine wp_seq ?_
                    refine wp_region_lit ?_
                    refine r_load b37 0 (.agg #[.int .i64 a0.Kind, .int .i64 a0.Int_, .string a0.Text, .slice A1 a0.Kids.length c2, .slice A4 a0.Keys.length c5, .slice A7 a0.Entries.length c8, .slice A10 a0.Labels.length c11]) hF497 rfl (loads_row tr27 (Blk.range h495 0 [.int .i64 a0.Kind, .int .i64 a0.Int_, .string a0.Text, .slice A1 a0.Kids.length c2, .slice A4 a0.Keys.length c5, .slice A7 a0.Entries.length c8, .slice A10 a0.Labels.length c11] rfl)) ?_
                    refine r_load b42 0 (.agg #[.int .i64 a1.Kind, .int .i64 a1.Int_, .string a1.Text, .slice A13 a1.Kids.length c14, .slice A16 a1.Keys.length c17, .slice A19 a1.Entries.length c20, .slice A22 a1.Labels.length c23]) hF498 rfl (loads_row tr27 (Blk.range h496 0 [.int .i64 a1.Kind, .int .i64 a1.Int_, .string a1.Text, .slice A13 a1.Kids.length c14, .slice A16 a1.Keys.length c17, .slice A19 a1.Entries.length c20, .slice A22 a1.Labels.length c23] rfl)) ?_
                    obtain ⟨r504, e505, hf⟩ := bind_some hf
                    refine r_call [.agg #[.int .i64 a0.Kind, .int .i64 a0.Int_, .string a0.Text, .slice A1 a0.Kids.length c2, .slice A4 a0.Keys.length c5, .slice A7 a0.Entries.length c8, .slice A10 a0.Labels.length c11], .agg #[.int .i64 a1.Kind, .int .i64 a1.Int_, .string a1.Text, .slice A13 a1.Kids.length c14, .slice A16 a1.Keys.length c17, .slice A19 a1.Entries.length c20, .slice A22 a1.Labels.length c23]] (evs2 rfl rfl) rfl ((ok_value_Equal fuel) _ _ _ _ _ _ (Val.rpvMk (v := a0) ((((((((((h3.mono hx39.wext).mono hx44.wext).mono hx49.wext).mono hx56.wext).mono hW80).mono hx101.wext).mono hW412).mono hx432.wext).mono hW459).mono hW493) ((((((((((h6.mono hx39.wext).mono hx44.wext).mono hx49.wext).mono hx56.wext).mono hW80).mono hx101.wext).mono hW412).mono hx432.wext).mono hW459).mono hW493) ((((((((((h9.mono hx39.wext).mono hx44.wext).mono hx49.wext).mono hx56.wext).mono hW80).mono hx101.wext).mono hW412).mono hx432.wext).mono hW459).mono hW493) ((((((((((h12.mono hx39.wext).mono hx44.wext).mono hx49.wext).mono hx56.wext).mono hW80).mono hx101.wext).mono hW412).mono hx432.wext).mono hW459).mono hW493)) (Val.rpvMk (v := a1) ((((((((((h15.mono hx39.wext).mono hx44.wext).mono hx49.wext).mono hx56.wext).mono hW80).mono hx101.wext).mono hW412).mono hx432.wext).mono hW459).mono hW493) ((((((((((h18.mono hx39.wext).mono hx44.wext).mono hx49.wext).mono hx56.wext).mono hW80).mono hx101.wext).mono hW412).mono hx432.wext).mono hW459).mono hW493) ((((((((((h21.mono hx39.wext).mono hx44.wext).mono hx49.wext).mono hx56.wext).mono hW80).mono hx101.wext).mono hW412).mono hx432.wext).mono hW459).mono hW493) ((((((((((h24.mono hx39.wext).mono hx44.wext).mono hx49.wext).mono hx56.wext).mono hW80).mono hx101.wext).mono hW412).mono hx432.wext).mono hW459).mono hW493)) e505) ?_
                    intro v507 s506 hx508 hr509
                    have hE510 := hE492.ext hE492.size hx508
                    obtain rfl := RpV.bool hr509
                    refine r_move (.int .i64 r112) hF499 rfl ?_
                    refine r_bin (.int .i64 r112) (.int .i64 0) (.bool (r112 == 0)) rfl rfl rfl rfl (b_eql) ?_
                    refine r_bin (.bool r504) (.bool (r112 == 0)) (.bool (r504 == (r112 == 0))) rfl rfl rfl rfl (b_beql Go.Proofs.Try.underlying4) ?_
                    refine r_move (.bool (r504 == (r112 == 0))) rfl rfl ?_
                    refine gen_FL fun F511 hg512 => ?_
                    have hF513 : F511 3 = (.pointer (some ⟨b37, 0, none⟩)) := (hg512 3).trans hF497
                    have hF514 : F511 7 = (.int .i64 r112) := (hg512 7).trans hF499
                    have hF515 : F511 8 = (.int .i64 r114) := (hg512 8).trans hF500
                    have hF516 : F511 9 = (.int .i64 r116) := (hg512 9).trans hF501
                    have hF517 : F511 64 = (.bool (r504 == (r112 == 0))) := (hg512 64).trans rfl
                    obtain ⟨q518, hq519, hf⟩ := bind_some hf
                    refine wpl_take 4 (J := fun a w => ∃ (F : Fr) (τ : S), a = fr 96 F ∧ w = τ.w ∧ Agr [65, 66, 67, 68] F F511 ∧ ExtB s0.N s0 τ ∧ Wext s506 τ ∧ F 68 = (.bool q518)) ?_ ?_
                    · have hf := hq519
                      refine if_else hf (fun hc520 hf => ?_) (fun hc520 hf => ?_)
                      · refine r_guard (j := 6) (want := true) (d := 64) (c := (r504 == (r112 == 0))) (v := true) rfl hF517 hc520 rfl rfl ?_
                        refine r_load b37 0 (.agg #[.int .i64 a0.Kind, .int .i64 a0.Int_, .string a0.Text, .slice A1 a0.Kids.length c2, .slice A4 a0.Keys.length c5, .slice A7 a0.Entries.length c8, .slice A10 a0.Labels.length c11]) hF513 rfl (loads_row tr27 (Blk.range (h495.ext hx508) 0 [.int .i64 a0.Kind, .int .i64 a0.Int_, .string a0.Text, .slice A1 a0.Kids.length c2, .slice A4 a0.Keys.length c5, .slice A7 a0.Entries.length c8, .slice A10 a0.Labels.length c11] rfl)) ?_
                        refine r_guard (j := 6) (want := true) (d := 64) (c := (r504 == (r112 == 0))) (v := true) rfl hF517 hc520 rfl rfl ?_
                        refine r_load b37 0 (.agg #[.int .i64 a0.Kind, .int .i64 a0.Int_, .string a0.Text, .slice A1 a0.Kids.length c2, .slice A4 a0.Keys.length c5, .slice A7 a0.Entries.length c8, .slice A10 a0.Labels.length c11]) hF513 rfl (loads_row tr27 (Blk.range (h495.ext hx508) 0 [.int .i64 a0.Kind, .int .i64 a0.Int_, .string a0.Text, .slice A1 a0.Kids.length c2, .slice A4 a0.Keys.length c5, .slice A7 a0.Entries.length c8, .slice A10 a0.Labels.length c11] rfl)) ?_
                        refine r_guard (j := 6) (want := true) (d := 64) (c := (r504 == (r112 == 0))) (v := true) rfl hF517 hc520 rfl rfl ?_
                        obtain ⟨r521, e522, hf⟩ := bind_some hf
                        refine r_call [.agg #[.int .i64 a0.Kind, .int .i64 a0.Int_, .string a0.Text, .slice A1 a0.Kids.length c2, .slice A4 a0.Keys.length c5, .slice A7 a0.Entries.length c8, .slice A10 a0.Labels.length c11], .agg #[.int .i64 a0.Kind, .int .i64 a0.Int_, .string a0.Text, .slice A1 a0.Kids.length c2, .slice A4 a0.Keys.length c5, .slice A7 a0.Entries.length c8, .slice A10 a0.Labels.length c11]] (evs2 rfl rfl) rfl ((ok_value_Equal fuel) _ _ _ _ _ _ (Val.rpvMk (v := a0) (((((((((((h3.mono hx39.wext).mono hx44.wext).mono hx49.wext).mono hx56.wext).mono hW80).mono hx101.wext).mono hW412).mono hx432.wext).mono hW459).mono hW493).mono hx508.wext) (((((((((((h6.mono hx39.wext).mono hx44.wext).mono hx49.wext).mono hx56.wext).mono hW80).mono hx101.wext).mono hW412).mono hx432.wext).mono hW459).mono hW493).mono hx508.wext) (((((((((((h9.mono hx39.wext).mono hx44.wext).mono hx49.wext).mono hx56.wext).mono hW80).mono hx101.wext).mono hW412).mono hx432.wext).mono hW459).mono hW493).mono hx508.wext) (((((((((((h12.mono hx39.wext).mono hx44.wext).mono hx49.wext).mono hx56.wext).mono hW80).mono hx101.wext).mono hW412).mono hx432.wext).mono hW459).mono hW493).mono hx508.wext)) (Val.rpvMk (v := a0) (((((((((((h3.mono hx39.wext).mono hx44.wext).mono hx49.wext).mono hx56.wext).mono hW80).mono hx101.wext).mono hW412).mono hx432.wext).mono hW459).mono hW493).mono hx508.wext) (((((((((((h6.mono hx39.wext).mono hx44.wext).mono hx49.wext).mono hx56.wext).mono hW80).mono hx101.wext).mono hW412).mono hx432.wext).mono hW459).mono hW493).mono hx508.wext) (((((((((((h9.mono hx39.wext).mono hx44.wext).mono hx49.wext).mono hx56.wext).mono hW80).mono hx101.wext).mono hW412).mono hx432.wext).mono hW459).mono hW493).mono hx508.wext) (((((((((((h12.mono hx39.wext).mono hx44.wext).mono hx49.wext).mono hx56.wext).mono hW80).mono hx101.wext).mono hW412).mono hx432.wext).mono hW459).mono hW493).mono hx508.wext)) e522) ?_
                        intro v524 s523 hx525 hr526
                        have hE527 := hE510.ext hE510.size hx525
                        obtain rfl := RpV.bool hr526
                        refine r_pick_t (c := (r504 == (r112 == 0))) (.bool r521) hF517 hc520 rfl rfl rfl rfl ?_
                        refine wpList_nil ?_
                        obtain rfl := Option.some.inj hf
                        exact ⟨rfl, _, _, rfl, rfl, (((((Agr.refl _ _).put rfl).put rfl).put rfl).put rfl), hE527, ((Wext.refl _).trans hx525.wext), rfl⟩
                      · refine r_skip (j := 6) (want := true) (d := 64) (c := (r504 == (r112 == 0))) (v := false) rfl hF517 hc520 rfl rfl ?_
                        refine r_skip (j := 6) (want := true) (d := 64) (c := (r504 == (r112 == 0))) (v := false) rfl hF517 hc520 rfl rfl ?_
                        refine r_skip (j := 6) (want := true) (d := 64) (c := (r504 == (r112 == 0))) (v := false) rfl hF517 hc520 rfl rfl ?_
                        refine r_pick_f (c := (r504 == (r112 == 0))) (.bool false) hF517 hc520 rfl rfl rfl rfl ?_
                        refine wpList_nil ?_
                        obtain rfl := Option.some.inj hf
                        exact ⟨rfl, _, _, rfl, rfl, (((((Agr.refl _ _).put rfl).put rfl).put rfl).put rfl), hE510, (Wext.refl _), rfl⟩
                    · rintro a w ⟨F528, s529, rfl, rfl, hag530, hE531, hW532, h533⟩
                      have hF534 : F528 7 = (.int .i64 r112) := (hag530 7 rfl).trans hF514
                      have hF535 : F528 8 = (.int .i64 r114) := (hag530 8 rfl).trans hF515
                      have hF536 : F528 9 = (.int .i64 r116) := (hag530 9 rfl).trans hF516
                      refine r_move (.bool q518) h533 rfl ?_
                      refine gen_FL fun F537 hg538 => ?_
                      have hF539 : F537 7 = (.int .i64 r112) := (hg538 7).trans hF534
                      have hF540 : F537 8 = (.int .i64 r114) := (hg538 8).trans hF535
                      have hF541 : F537 9 = (.int .i64 r116) := (hg538 9).trans hF536
                      have hF542 : F537 69 = (.bool q518) := (hg538 69).trans rfl
                      obtain ⟨q543, hq544, hf⟩ := bind_some hf
                      refine wpl_take 11 (J := fun a w => ∃ (F : Fr) (τ : S), a = fr 96 F ∧ w = τ.w ∧ Agr [70, 71, 72, 73, 74, 75, 76, 77, 78, 79, 80] F F537 ∧ ExtB s0.N s0 τ ∧ Wext s529 τ ∧ F 80 = (.bool q543)) ?_ ?_
                      · have hf := hq544
                        refine if_else hf (fun hc545 hf => ?_) (fun hc545 hf => ?_)
                        · refine r_guard (j := 11) (want := true) (d := 69) (c := q518) (v := true) rfl hF542 hc545 rfl rfl ?_
                          refine r_move (.int .i64 r112) hF539 rfl ?_
                          refine r_guard (j := 11) (want := true) (d := 69) (c := q518) (v := true) rfl hF542 hc545 rfl rfl ?_
                          refine r_bin (.int .i64 r112) (.int .i64 0) (.bool (decide (0 < r112))) rfl rfl rfl rfl (b_gtr) ?_
                          refine r_guard (j := 11) (want := true) (d := 69) (c := q518) (v := true) rfl hF542 hc545 rfl rfl ?_
                          refine r_move (.bool (decide (0 < r112))) rfl rfl ?_
                          refine gen_FL fun F546 hg547 => ?_
                          have hF548 : F546 7 = (.int .i64 r112) := (hg547 7).trans hF539
                          have hF549 : F546 8 = (.int .i64 r114) := (hg547 8).trans hF540
                          have hF550 : F546 9 = (.int .i64 r116) := (hg547 9).trans hF541
                          have hF551 : F546 69 = (.bool q518) := (hg547 69).trans hF542
                          have hF552 : F546 72 = (.bool (decide (0 < r112))) := (hg547 72).trans rfl
                          obtain ⟨q553, hq554, hf⟩ := bind_some hf
                          refine wpl_take 3 (J := fun a w => ∃ (F : Fr) (τ : S), a = fr 96 F ∧ w = τ.w ∧ Agr [73, 74, 75] F F546 ∧ ExtB s0.N s0 τ ∧ Wext s529 τ ∧ F 75 = (.bool q553)) ?_ ?_
                          · have hf := hq554
                            refine if_else hf (fun hc555 hf => ?_) (fun hc555 hf => ?_)
                            · refine r_skip (j := 14) (want := false) (d := 72) (c := decide (0 < r112)) (v := true) rfl hF552 hc555 rfl rfl ?_
                              refine r_skip (j := 14) (want := false) (d := 72) (c := decide (0 < r112)) (v := true) rfl hF552 hc555 rfl rfl ?_
                              refine r_guard (j := 11) (want := true) (d := 69) (c := q518) (v := true) rfl hF551 hc545 rfl rfl ?_
                              refine r_pick_t (c := decide (0 < r112)) (.bool true) hF552 hc555 rfl rfl rfl rfl ?_
                              refine wpList_nil ?_
                              obtain rfl := Option.some.inj hf
                              exact ⟨rfl, _, _, rfl, rfl, ((((Agr.refl _ _).put rfl).put rfl).put rfl), hE531, (Wext.refl _), rfl⟩
                            · refine r_guard (j := 14) (want := false) (d := 72) (c := decide (0 < r112)) (v := false) rfl hF552 hc555 rfl rfl ?_
                              refine r_move (.int .i64 r114) hF549 rfl ?_
                              refine r_guard (j := 14) (want := false) (d := 72) (c := decide (0 < r112)) (v := false) rfl hF552 hc555 rfl rfl ?_
                              refine r_bin (.int .i64 r114) (.int .i64 0) (.bool (decide (0 < r114))) rfl rfl rfl rfl (b_gtr) ?_
                              refine r_guard (j := 11) (want := true) (d := 69) (c := q518) (v := true) rfl hF551 hc545 rfl rfl ?_
                              refine r_pick_f (c := decide (0 < r112)) (.bool (decide (0 < r114))) hF552 hc555 rfl rfl rfl rfl ?_
                              refine wpList_nil ?_
                              obtain rfl := Option.some.inj hf
                              exact ⟨rfl, _, _, rfl, rfl, ((((Agr.refl _ _).put rfl).put rfl).put rfl), hE531, (Wext.refl _), rfl⟩
                          · rintro a w ⟨F556, s557, rfl, rfl, hag558, hE559, hW560, h561⟩
                            have hF562 : F556 7 = (.int .i64 r112) := (hag558 7 rfl).trans hF548
                            have hF563 : F556 8 = (.int .i64 r114) := (hag558 8 rfl).trans hF549
                            have hF564 : F556 9 = (.int .i64 r116) := (hag558 9 rfl).trans hF550
                            have hF565 : F556 69 = (.bool q518) := (hag558 69 rfl).trans hF551
                            refine r_guard (j := 11) (want := true) (d := 69) (c := q518) (v := true) rfl hF565 hc545 rfl rfl ?_
                            refine r_move (.bool q553) h561 rfl ?_
                            refine gen_FL fun F566 hg567 => ?_
                            have hF568 : F566 7 = (.int .i64 r112) := (hg567 7).trans hF562
                            have hF569 : F566 8 = (.int .i64 r114) := (hg567 8).trans hF563
                            have hF570 : F566 9 = (.int .i64 r116) := (hg567 9).trans hF564
                            have hF571 : F566 69 = (.bool q518) := (hg567 69).trans hF565
                            have hF572 : F566 76 = (.bool q553) := (hg567 76).trans rfl
                            obtain ⟨q573, hq574, hf⟩ := bind_some hf
                            refine wpl_take 3 (J := fun a w => ∃ (F : Fr) (τ : S), a = fr 96 F ∧ w = τ.w ∧ Agr [77, 78, 79] F F566 ∧ ExtB s0.N s0 τ ∧ Wext s557 τ ∧ F 79 = (.bool q573)) ?_ ?_
                            · have hf := hq574
                              refine if_else hf (fun hc575 hf => ?_) (fun hc575 hf => ?_)
                              · refine r_skip (j := 18) (want := false) (d := 76) (c := q553) (v := true) rfl hF572 hc575 rfl rfl ?_
                                refine r_skip (j := 18) (want := false) (d := 76) (c := q553) (v := true) rfl hF572 hc575 rfl rfl ?_
                                refine r_guard (j := 11) (want := true) (d := 69) (c := q518) (v := true) rfl hF571 hc545 rfl rfl ?_
                                refine r_pick_t (c := q553) (.bool true) hF572 hc575 rfl rfl rfl rfl ?_
                                refine wpList_nil ?_
                                obtain rfl := Option.some.inj hf
                                exact ⟨rfl, _, _, rfl, rfl, ((((Agr.refl _ _).put rfl).put rfl).put rfl), hE559, (Wext.refl _), rfl⟩
                              · refine r_guard (j := 18) (want := false) (d := 76) (c := q553) (v := false) rfl hF572 hc575 rfl rfl ?_
                                refine r_move (.int .i64 r116) hF570 rfl ?_
                                refine r_guard (j := 18) (want := false) (d := 76) (c := q553) (v := false) rfl hF572 hc575 rfl rfl ?_
                                refine r_bin (.int .i64 r116) (.int .i64 0) (.bool (decide (r116 ≤ 0))) rfl rfl rfl rfl (b_leq) ?_
                                refine r_guard (j := 11) (want := true) (d := 69) (c := q518) (v := true) rfl hF571 hc545 rfl rfl ?_
                                refine r_pick_f (c := q553) (.bool (decide (r116 ≤ 0))) hF572 hc575 rfl rfl rfl rfl ?_
                                refine wpList_nil ?_
                                obtain rfl := Option.some.inj hf
                                exact ⟨rfl, _, _, rfl, rfl, ((((Agr.refl _ _).put rfl).put rfl).put rfl), hE559, (Wext.refl _), rfl⟩
                            · rintro a w ⟨F576, s577, rfl, rfl, hag578, hE579, hW580, h581⟩
                              have hF582 : F576 7 = (.int .i64 r112) := (hag578 7 rfl).trans hF568
                              have hF583 : F576 8 = (.int .i64 r114) := (hag578 8 rfl).trans hF569
                              have hF584 : F576 9 = (.int .i64 r116) := (hag578 9 rfl).trans hF570
                              have hF585 : F576 69 = (.bool q518) := (hag578 69 rfl).trans hF571
                              refine r_pick_t (c := q518) (.bool q573) hF585 hc545 h581 rfl rfl rfl ?_
                              refine wpList_nil ?_
                              obtain rfl := Option.some.inj hf
                              exact ⟨rfl, _, _, rfl, rfl, ((((((((((Agr.refl _ _).put rfl).put rfl).put rfl).gen hg547).loop hag558 rfl).put rfl).gen hg567).loop hag578 rfl).put rfl), hE579, (((Wext.refl _).trans hW560).trans hW580), rfl⟩
                        · refine r_skip (j := 11) (want := true) (d := 69) (c := q518) (v := false) rfl hF542 hc545 rfl rfl ?_
                          refine r_skip (j := 11) (want := true) (d := 69) (c := q518) (v := false) rfl hF542 hc545 rfl rfl ?_
                          refine r_skip (j := 11) (want := true) (d := 69) (c := q518) (v := false) rfl hF542 hc545 rfl rfl ?_
                          refine r_skipu (j := 14) (d := 72) rfl rfl rfl ?_
                          refine r_skipu (j := 14) (d := 72) rfl rfl rfl ?_
                          refine r_skip (j := 11) (want := true) (d := 69) (c := q518) (v := false) rfl hF542 hc545 rfl rfl ?_
                          refine r_skip (j := 11) (want := true) (d := 69) (c := q518) (v := false) rfl hF542 hc545 rfl rfl ?_
                          refine r_skipu (j := 18) (d := 76) rfl rfl rfl ?_
                          refine r_skipu (j := 18) (d := 76) rfl rfl rfl ?_
                          refine r_skip (j := 11) (want := true) (d := 69) (c := q518) (v := false) rfl hF542 hc545 rfl rfl ?_
                          refine r_pick_f (c := q518) (.bool false) hF542 hc545 rfl rfl rfl rfl ?_
                          refine wpList_nil ?_
                          obtain rfl := Option.some.inj hf
                          exact ⟨rfl, _, _, rfl, rfl, ((((((((((((Agr.refl _ _).put rfl).put rfl).put rfl).put rfl).put rfl).put rfl).put rfl).put rfl).put rfl).put rfl).put rfl), hE531, (Wext.refl _), rfl⟩
                      · rintro a w ⟨F586, s587, rfl, rfl, hag588, hE589, hW590, h591⟩
                        have hF592 : F586 7 = (.int .i64 r112) := (hag588 7 rfl).trans hF539
                        have hF593 : F586 8 = (.int .i64 r114) := (hag588 8 rfl).trans hF540
                        have hF594 : F586 9 = (.int .i64 r116) := (hag588 9 rfl).trans hF541
                        refine r_move (.bool q543) h591 rfl ?_
                        refine gen_FL fun F595 hg596 => ?_
                        have hF597 : F595 7 = (.int .i64 r112) := (hg596 7).trans hF592
                        have hF598 : F595 8 = (.int .i64 r114) := (hg596 8).trans hF593
                        have hF599 : F595 9 = (.int .i64 r116) := (hg596 9).trans hF594
                        have hF600 : F595 81 = (.bool q543) := (hg596 81).trans rfl
                        obtain ⟨q601, hq602, hf⟩ := bind_some hf
                        refine wpl_take 11 (J := fun a w => ∃ (F : Fr) (τ : S), a = fr 96 F ∧ w = τ.w ∧ Agr [82, 83, 84, 85, 86, 87, 88, 89, 90, 91, 92] F F595 ∧ ExtB s0.N s0 τ ∧ Wext s587 τ ∧ F 92 = (.bool q601)) ?_ ?_
                        · have hf := hq602
                          refine if_else hf (fun hc603 hf => ?_) (fun hc603 hf => ?_)
                          · refine r_guard (j := 23) (want := true) (d := 81) (c := q543) (v := true) rfl hF600 hc603 rfl rfl ?_
                            refine r_move (.int .i64 r112) hF597 rfl ?_
                            refine r_guard (j := 23) (want := true) (d := 81) (c := q543) (v := true) rfl hF600 hc603 rfl rfl ?_
                            refine r_bin (.int .i64 r112) (.int .i64 0) (.bool (decide (0 ≤ r112))) rfl rfl rfl rfl (b_geq) ?_
                            refine r_guard (j := 23) (want := true) (d := 81) (c := q543) (v := true) rfl hF600 hc603 rfl rfl ?_
                            refine r_move (.bool (decide (0 ≤ r112))) rfl rfl ?_
                            refine gen_FL fun F604 hg605 => ?_
                            have hF606 : F604 8 = (.int .i64 r114) := (hg605 8).trans hF598
                            have hF607 : F604 9 = (.int .i64 r116) := (hg605 9).trans hF599
                            have hF608 : F604 81 = (.bool q543) := (hg605 81).trans hF600
                            have hF609 : F604 84 = (.bool (decide (0 ≤ r112))) := (hg605 84).trans rfl
                            obtain ⟨q610, hq611, hf⟩ := bind_some hf
                            refine wpl_take 3 (J := fun a w => ∃ (F : Fr) (τ : S), a = fr 96 F ∧ w = τ.w ∧ Agr [85, 86, 87] F F604 ∧ ExtB s0.N s0 τ ∧ Wext s587 τ ∧ F 87 = (.bool q610)) ?_ ?_
                            · have hf := hq611
                              refine if_else hf (fun hc612 hf => ?_) (fun hc612 hf => ?_)
                              · refine r_skip (j := 26) (want := false) (d := 84) (c := decide (0 ≤ r112)) (v := true) rfl hF609 hc612 rfl rfl ?_
                                refine r_skip (j := 26) (want := false) (d := 84) (c := decide (0 ≤ r112)) (v := true) rfl hF609 hc612 rfl rfl ?_
                                refine r_guard (j := 23) (want := true) (d := 81) (c := q543) (v := true) rfl hF608 hc603 rfl rfl ?_
                                refine r_pick_t (c := decide (0 ≤ r112)) (.bool true) hF609 hc612 rfl rfl rfl rfl ?_
                                refine wpList_nil ?_
                                obtain rfl := Option.some.inj hf
                                exact ⟨rfl, _, _, rfl, rfl, ((((Agr.refl _ _).put rfl).put rfl).put rfl), hE589, (Wext.refl _), rfl⟩
                              · refine r_guard (j := 26) (want := false) (d := 84) (c := decide (0 ≤ r112)) (v := false) rfl hF609 hc612 rfl rfl ?_
                                refine r_move (.int .i64 r114) hF606 rfl ?_
                                refine r_guard (j := 26) (want := false) (d := 84) (c := decide (0 ≤ r112)) (v := false) rfl hF609 hc612 rfl rfl ?_
                                refine r_bin (.int .i64 r114) (.int .i64 0) (.bool (decide (0 < r114))) rfl rfl rfl rfl (b_gtr) ?_
                                refine r_guard (j := 23) (want := true) (d := 81) (c := q543) (v := true) rfl hF608 hc603 rfl rfl ?_
                                refine r_pick_f (c := decide (0 ≤ r112)) (.bool (decide (0 < r114))) hF609 hc612 rfl rfl rfl rfl ?_
                                refine wpList_nil ?_
                                obtain rfl := Option.some.inj hf
                                exact ⟨rfl, _, _, rfl, rfl, ((((Agr.refl _ _).put rfl).put rfl).put rfl), hE589, (Wext.refl _), rfl⟩
                            · rintro a w ⟨F613, s614, rfl, rfl, hag615, hE616, hW617, h618⟩
                              have hF619 : F613 9 = (.int .i64 r116) := (hag615 9 rfl).trans hF607
                              have hF620 : F613 81 = (.bool q543) := (hag615 81 rfl).trans hF608
                              refine r_guard (j := 23) (want := true) (d := 81) (c := q543) (v := true) rfl hF620 hc603 rfl rfl ?_
                              refine r_move (.bool q610) h618 rfl ?_
                              refine gen_FL fun F621 hg622 => ?_
                              have hF623 : F621 9 = (.int .i64 r116) := (hg622 9).trans hF619
                              have hF624 : F621 81 = (.bool q543) := (hg622 81).trans hF620
                              have hF625 : F621 88 = (.bool q610) := (hg622 88).trans rfl
                              obtain ⟨q626, hq627, hf⟩ := bind_some hf
                              refine wpl_take 3 (J := fun a w => ∃ (F : Fr) (τ : S), a = fr 96 F ∧ w = τ.w ∧ Agr [89, 90, 91] F F621 ∧ ExtB s0.N s0 τ ∧ Wext s614 τ ∧ F 91 = (.bool q626)) ?_ ?_
                              · have hf := hq627
                                refine if_else hf (fun hc628 hf => ?_) (fun hc628 hf => ?_)
                                · refine r_skip (j := 30) (want := false) (d := 88) (c := q610) (v := true) rfl hF625 hc628 rfl rfl ?_
                                  refine r_skip (j := 30) (want := false) (d := 88) (c := q610) (v := true) rfl hF625 hc628 rfl rfl ?_
                                  refine r_guard (j := 23) (want := true) (d := 81) (c := q543) (v := true) rfl hF624 hc603 rfl rfl ?_
                                  refine r_pick_t (c := q610) (.bool true) hF625 hc628 rfl rfl rfl rfl ?_
                                  refine wpList_nil ?_
                                  obtain rfl := Option.some.inj hf
                                  exact ⟨rfl, _, _, rfl, rfl, ((((Agr.refl _ _).put rfl).put rfl).put rfl), hE616, (Wext.refl _), rfl⟩
                                · refine r_guard (j := 30) (want := false) (d := 88) (c := q610) (v := false) rfl hF625 hc628 rfl rfl ?_
                                  refine r_move (.int .i64 r116) hF623 rfl ?_
                                  refine r_guard (j := 30) (want := false) (d := 88) (c := q610) (v := false) rfl hF625 hc628 rfl rfl ?_
                                  refine r_bin (.int .i64 r116) (.int .i64 0) (.bool (decide (r116 < 0))) rfl rfl rfl rfl (b_lss) ?_
                                  refine r_guard (j := 23) (want := true) (d := 81) (c := q543) (v := true) rfl hF624 hc603 rfl rfl ?_
                                  refine r_pick_f (c := q610) (.bool (decide (r116 < 0))) hF625 hc628 rfl rfl rfl rfl ?_
                                  refine wpList_nil ?_
                                  obtain rfl := Option.some.inj hf
                                  exact ⟨rfl, _, _, rfl, rfl, ((((Agr.refl _ _).put rfl).put rfl).put rfl), hE616, (Wext.refl _), rfl⟩
                              · rintro a w ⟨F629, s630, rfl, rfl, hag631, hE632, hW633, h634⟩
                                have hF635 : F629 81 = (.bool q543) := (hag631 81 rfl).trans hF624
                                refine r_pick_t (c := q543) (.bool q626) hF635 hc603 h634 rfl rfl rfl ?_
                                refine wpList_nil ?_
                                obtain rfl := Option.some.inj hf
                                exact ⟨rfl, _, _, rfl, rfl, ((((((((((Agr.refl _ _).put rfl).put rfl).put rfl).gen hg605).loop hag615 rfl).put rfl).gen hg622).loop hag631 rfl).put rfl), hE632, (((Wext.refl _).trans hW617).trans hW633), rfl⟩
                          · refine r_skip (j := 23) (want := true) (d := 81) (c := q543) (v := false) rfl hF600 hc603 rfl rfl ?_
                            refine r_skip (j := 23) (want := true) (d := 81) (c := q543) (v := false) rfl hF600 hc603 rfl rfl ?_
                            refine r_skip (j := 23) (want := true) (d := 81) (c := q543) (v := false) rfl hF600 hc603 rfl rfl ?_
                            refine r_skipu (j := 26) (d := 84) rfl rfl rfl ?_
                            refine r_skipu (j := 26) (d := 84) rfl rfl rfl ?_
                            refine r_skip (j := 23) (want := true) (d := 81) (c := q543) (v := false) rfl hF600 hc603 rfl rfl ?_
                            refine r_skip (j := 23) (want := true) (d := 81) (c := q543) (v := false) rfl hF600 hc603 rfl rfl ?_
                            refine r_skipu (j := 30) (d := 88) rfl rfl rfl ?_
                            refine r_skipu (j := 30) (d := 88) rfl rfl rfl ?_
                            refine r_skip (j := 23) (want := true) (d := 81) (c := q543) (v := false) rfl hF600 hc603 rfl rfl ?_
                            refine r_pick_f (c := q543) (.bool false) hF600 hc603 rfl rfl rfl rfl ?_
                            refine wpList_nil ?_
                            obtain rfl := Option.some.inj hf
                            exact ⟨rfl, _, _, rfl, rfl, ((((((((((((Agr.refl _ _).put rfl).put rfl).put rfl).put rfl).put rfl).put rfl).put rfl).put rfl).put rfl).put rfl).put rfl), hE589, (Wext.refl _), rfl⟩
                        · rintro a w ⟨F636, s637, rfl, rfl, hag638, hE639, hW640, h641⟩
                          refine r_move (.bool q601) h641 rfl ?_
                          refine if_else hf (fun hc642 hf => ?_) (fun hc642 hf => ?_)
                          · refine r_guard (j := 35) (want := true) (d := 93) (c := q601) (v := true) rfl rfl hc642 rfl rfl ?_
                            obtain ⟨r643, e644, hf⟩ := bind_some hf
                            refine r_call [] evs0 rfl ((ok_semtypelaw4_awake fuel) _ _  e644) ?_
                            intro v646 s645 hx647 hr648
                            have hE649 := hE639.ext hE639.size hx647
                            obtain rfl := RpV.bool hr648
                            refine r_pick_t (c := q601) (.bool r643) rfl hc642 rfl rfl rfl rfl ?_
                            refine r_assign (.bool r643) rfl rfl ?_
                            refine wpList_nil ?_
                            refine p_then ?_
                            refine wp_ret ?_
                            obtain rfl := Option.some.inj hf
                            refine ret_one (.bool r643) rfl ⟨rfl, rfl⟩ hE649 ?_
                            exact (RpV.mkBool _ _)
                          · refine r_skip (j := 35) (want := true) (d := 93) (c := q601) (v := false) rfl rfl hc642 rfl rfl ?_
                            refine r_pick_f (c := q601) (.bool false) rfl hc642 rfl rfl rfl rfl ?_
                            refine r_assign (.bool false) rfl rfl ?_
                            refine wpList_nil ?_
                            refine p_then ?_
                            refine wp_ret ?_
                            obtain rfl := Option.some.inj hf
                            refine ret_one (.bool false) rfl ⟨rfl, rfl⟩ hE639 ?_
                            exact (RpV.mkBool _ _)

end Go.Sx
