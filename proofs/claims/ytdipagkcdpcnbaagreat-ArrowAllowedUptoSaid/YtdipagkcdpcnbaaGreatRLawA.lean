/- The law of allowed entries. No program in sight. -/
import Derived.Test.YtdipagkcdpcnbaaGreatRAwk12
namespace Go.Pl
open Go Go.RowKit Go.Sx Go.Qx

theorem root_in {T : Api_Type} {N a : Nat} (h : MadeT T N a) : inR T.Nodes.length T.Root = true := by
  have h1 := h.len
  have h2 := h.pos
  rw [h.root]
  exact inR_of (by omega) (by omega)
theorem law_allowed (fuel : Nat) (hf : 300000000 ≤ fuel) (d t pos : List Int) (raw : Ent) (hb : bulkE raw ≤ 1048576) : semtypelaw12_ArrowAllowed fuel d t pos raw = some true := by
  obtain ⟨q, hq⟩ : ∃ q, fuel = q + 60 := ⟨fuel - 60, by omega⟩
  have haw : semtypelaw12_awake fuel = some true := by rw [hq]; exact awake12 q
  have hbe := bulkE_eq raw
  obtain ⟨n1, e1⟩ := nodes_some fuel raw.Result (by omega) (by omega)
  have hz : bulkV (Val.mk 0 0 (⟨#[]⟩ : ByteArray) raw.Args ([] : List Key) ([] : List Ent) ([] : List ByteArray)) = 8 + bulkVs raw.Args := by
    rw [bulk_mk]; simp only [size0, bulkKeys, bulkEs]; omega
  obtain ⟨n2, e2⟩ := nodes_some fuel (Val.mk 0 0 (⟨#[]⟩ : ByteArray) raw.Args ([] : List Key) ([] : List Ent) ([] : List ByteArray)) (by omega) (by omega)
  unfold semtypelaw12_ArrowAllowed
  rw [short_ok [d, t] (by simp), e1, e2, haw]
  simp only [Option.bind_some]
  have hd := bulkE_eq raw
  cases hs : ([d, t].all fun x => !decide (80 < (x.length : Int)))
  · rfl
  have hs' : d.length ≤ 80 ∧ t.length ≤ 80 := by
    simp at hs
    omega
  simp only [Bool.not_true, cond_false, Option.bind_some]
  rcases Bool.eq_false_or_eq_true (decide (6 < (pos.length : Int))) with h2 | h2
  · rw [h2]; rfl
  rw [h2]
  have hpos : pos.length ≤ 6 := by simp at h2; omega
  simp only [cond_false, Option.bind_some]
  rcases Bool.eq_false_or_eq_true (decide (5 < (raw.Args.length : Int))) with h3 | h3
  · rw [h3]; rfl
  rw [h3]
  simp only [cond_false, Option.bind_some]
  rcases Bool.eq_false_or_eq_true (decide (30 < n1)) with h4 | h4
  · rw [h4]; rfl
  rw [h4]
  simp only [cond_false, Option.bind_some]
  rcases Bool.eq_false_or_eq_true (decide (60 < n2)) with h5 | h5
  · rw [h5]; rfl
  rw [h5]
  simp only [cond_false, Option.bind_some]
  obtain ⟨T, N, a, hM, hmade⟩ := made_ok fuel (by omega) d (by omega)
  obtain ⟨e, e3, hE⟩ := hmade t (by omega)
  have hr := root_in hM
  have hbe2 := hE.bulk
  rw [e3]
  simp only [Option.bind_some]
  rw [allowed_ok hM.gt hr e (by omega) _ (by simp) fuel (by omega), allowed7_ok hM.gt hr e (by omega) _ (by simp) fuel (by omega),
    allowed_ok hM.gt hr e (by omega) pos (by omega) fuel (by omega), allowed7_ok hM.gt hr e (by omega) pos (by omega) fuel (by omega),
    allowed_ok hM.gt hr raw (by omega) pos (by omega) fuel (by omega), allowed7_ok hM.gt hr raw (by omega) pos (by omega) fuel (by omega)]
  simp only [Option.bind_some, beq_self_eq_true, cond_true]
end Go.Pl
