/- Part 4. -/
import Derived.Test.YtdipagkcdpcnbaaGreatK2
import Derived.Test.YtdipagkcdpcnbaaGreatK3
import Derived.ChangeArms
import Derived.KernelRfl
import Derived.OpenShut
import Derived.Shelf.Lays
import Derived.Test.YtdipagkcdpcnbaaGreatProg
import Derived.Test.YtdipagkcdpcnbaaGreatRows
section
namespace Go.Pl
open Go Go.RowKit Go.Sx Go.Qx
section
variable {T : Api_Type}
def a2s (T : Api_Type) (k : Int) : List Int := match T.Nodes[k.toNat]? with
 | some x => x.Kids
 | none => []
noncomputable def wfB (T : Api_Type) : Bool := inR T.Nodes.length T.Root && (a5V T.Nodes && a4x T.Nodes)
theorem c3v (T : Api_Type) : ∃ c : Int, (if inR T.Nodes.length T.Root && a5V T.Nodes then (if a4x T.Nodes then (0 : Int) else 3) else 1) = c /\ (c == 0) = wfB T := by
 refine ⟨_, rfl, ?_⟩
 unfold wfB
 cases inR T.Nodes.length T.Root <;> cases a5V T.Nodes <;> cases a4x T.Nodes <;> rfl
theorem b8f {k : Int} (h : fnB T k = true) : ∃ x, idx T.Nodes k = some x /\ x.Kids = a2s T k /\ x.Kind = 14 /\ x ∈ T.Nodes := by
 unfold fnB at h
 simp only [Bool.and_eq_true] at h
 obtain ⟨j, rfl, hj⟩ := a25 h.1
 have e := List.getElem?_eq_getElem hj
 have h2 := h.2
 rw [Int.toNat_natCast, e] at h2
 exact ⟨_, v8 e, by unfold a2s; rw [Int.toNat_natCast, e], by simpa using h2, List.getElem_mem hj⟩
theorem c1l {l : List Int} {p : Int -> Bool} (h : l.all p = true) {i : Nat} {k : Int} (hk : l[i]? = some k) : p k = true := List.all_eq_true.1 h k (List.mem_of_getElem? hk)
def a61 (T : Api_Type) (neg k : Int) : Bool := (a2s T k).length == (a2s T neg).length
theorem c3b (hk : ∀ x ∈ T.Nodes, x.Kids.length <= 1100000 /\ x.Fields.length <= 1100000) (hN : T.Nodes.length <= 1000) (pos : List Int) (hp : pos.length <= 3) (neg : Int) (n : Nat) (hn : 1100001 <= n) :
 ∃ l, a2e n T pos neg = some (l, if (wfB T && ((pos ++ [neg]).all (fnB T) && pos.all (a61 T neg))) = true then 0 else 1) := by
 obtain ⟨c, hc, hw⟩ := c3v T
 have hwf := c53 T hk (by omega) n (by omega)
 rw [hc] at hwf
 have hroom : a2m 8 pos = some pos := by unfold a2m; rw [Z7 (by omega)]; rfl
 cases hW : wfB T with
 | false =>
   rw [hW] at hw
   refine ⟨[], ?_⟩
   unfold a2e
   rw [hwf]
   have : (c != 0) = true := by unfold bne; rw [hw]; rfl
   simp only [Option.bind_some, this, cond_true, Bool.false_and, Bool.false_eq_true, if_false]
 | true =>
   rw [hW] at hw
   have hc0 : c = 0 := by simpa using hw
   subst hc0
   cases hF : (pos ++ [neg]).all (fnB T) with
   | false =>
     refine ⟨[], ?_⟩
     unfold a2e
     rw [hwf, hroom]
     simp only [Option.bind_some, bne_self_eq_false, cond_false]
     rw [Z7 (by simp only [List.length_cons, List.length_nil]; omega)]
     simp only [Option.bind_some]
     rw [c0g _ (by simp only [List.length_append, List.length_cons, List.length_nil]; omega), hF]
     rfl
   | true =>
     have hF' := hF
     rw [List.all_append, Bool.and_eq_true] at hF'
     have hfn : fnB T neg = true := by simpa using hF'.2
     obtain ⟨e, e1, e2, e3, e4⟩ := b8f hfn
     have hall : a5V T.Nodes = true := by
      unfold wfB at hW
      simp only [Bool.and_eq_true] at hW
      exact hW.2.1
     have hnode := List.all_eq_true.1 hall
     cases hL : pos.all (a61 T neg) with
     | false =>
       refine ⟨[], ?_⟩
       unfold a2e
       rw [hwf, hroom]
       simp only [Option.bind_some, bne_self_eq_false, cond_false]
       rw [Z7 (by simp only [List.length_cons, List.length_nil]; omega)]
       simp only [Option.bind_some]
       rw [c0g _ (by simp only [List.length_append, List.length_cons, List.length_nil]; omega), hF]
       simp only [Option.bind_some, Bool.not_true, cond_false]
       rw [e1]
       simp only [Option.bind_some, V6]
       have l1 := a1M (step := a0U T pos e) pos (a61 T neg) (fun i => (i : Int)) () (([], 1) : List Api_EntryForm × Int) (fun i k hkk => by
        have hi : i < pos.length := (List.getElem?_eq_some_iff.1 hkk).1
        obtain ⟨x, x1, x2, _⟩ := b8f (c1l hF'.1 hkk)
        unfold a0U
        simp only [Z8]
        rw [Q7 hi, v8 hkk]
        simp only [cond_true, Option.bind_some]
        rw [x1]
        simp only [Option.bind_some]
        rw [x2, e2, w6 i (by omega)]
        unfold a61
        by_cases h : (a2s T k).length = (a2s T neg).length
        ·simp [h]
        ·have h' : ¬ ((a2s T k).length : Int) = ((a2s T neg).length : Int) := by omega
         have a1 : (((a2s T k).length : Int) != ((a2s T neg).length : Int)) = true := by simpa using h'
         rw [a1]
         simp [h]) (by
        unfold a0U
        simp)
       have l1' : j5 (a0U T pos e) (pos.length + 1) 0 = _ := l1
       rw [l1', hL]
       rfl
     | true =>
       obtain ⟨q1, q2⟩ := c4G (hnode e e4) e3
       rw [e2] at q1 q2
       have hmap : (pos.map fun k => (k, a2s T k)).map (fun q => q.1) = pos := by
        rw [List.map_map]
        exact (List.map_congr_left fun _ _ => rfl).trans (List.map_id pos)
       have := c4i (T := T) ((a2s T neg).length - 1) (by omega) e1 e2 (by omega) (fun k hkk => a2R (hnode e e4) k (by rw [e2]; exact hkk)) (pos.map fun k => (k, a2s T k)) (fun q hq => by
        obtain ⟨k, hkp, rfl⟩ := List.mem_map.1 hq
        obtain ⟨x, x1, x2, _, x4⟩ := b8f (List.all_eq_true.1 hF'.1 k hkp)
        refine ⟨⟨x, x1, x2⟩, ?_, fun y hy => a2R (hnode x x4) y (by rw [x2]; exact hy)⟩
        have h1 := List.all_eq_true.1 hL k hkp
        unfold a61 at h1
        have h1 : (a2s T k).length = (a2s T neg).length := by simpa using h1
        show (a2s T k).length = _
        omega) (by rw [List.length_map]; exact hp) (by rw [hmap]; exact hF'.1) hfn n hwf
       rw [hmap] at this
       exact ⟨_, this⟩
theorem b4K (hk : ∀ x ∈ T.Nodes, x.Kids.length <= 1100000 /\ x.Fields.length <= 1100000) (hN : T.Nodes.length <= 1000) (pos : List Int) (hp : pos.length <= 3) (neg : Int) (n : Nat) (hn : 1100001 <= n) :
 a09 n T pos neg = some true := by
 obtain ⟨l, hl⟩ := c3b hk hN pos hp neg n hn
 obtain ⟨c, hc, hw⟩ := c3v T
 have hwf := c5G T hk (by omega) n (by omega)
 rw [hc] at hwf
 have hal : (([neg] : List Int) ++ pos).length = pos.length + 1 := by simp [Nat.add_comm]
 have hb5 : (Option.bind (a1e n T) fun r3 => bif r3 == 0 then (Option.bind (a10 T (Api_Goal.mk (([neg] : List Int) ++ pos) ([] : List Int) false)) fun r4 => some r4) else (some false)) = some (wfB T && (([neg] : List Int) ++ pos).all (inR T.Nodes.length)) := by
  rw [hwf]
  simp only [Option.bind_some, hw]
  cases wfB T
  ·rfl
  ·simp only [cond_true, Bool.true_and]
   rw [c1T _ (by show (([neg] : List Int) ++ pos).length <= 1000000; omega) (by simp)]
   simp [gIn]
 have hl1 : ∀ b, (b = true -> (([neg] : List Int) ++ pos).all (inR T.Nodes.length) = true) -> j5 (K1 T pos neg) (pos.length + 1 + 1) (b, 0) = some (b && (([neg] : List Int) ++ pos).all fun k => fnB T k && a61 T neg k) := fun b hb => by
  cases b with
  | false =>
    have : K1 T pos neg (false, 0) = some (.done false) := rfl
    simp only [j5, this, Option.bind_some, Bool.false_and]
  | true =>
    have hin := hb rfl
    rw [Bool.true_and]
    have hneg : inR T.Nodes.length neg = true := by simp at hin; exact hin.1
    obtain ⟨jn, rfl, hjn⟩ := a25 hneg
    have en := List.getElem?_eq_getElem hjn
    have key : ∀ (m i k : Nat), i + m = pos.length + 1 -> m + 1 <= k -> j5 (K1 T pos (jn : Int)) k (true, (i : Int)) = some (((([(jn : Int)] : List Int) ++ pos).drop i).all fun k => fnB T k && a61 T (jn : Int) k) := by
     intro m
     induction m with
     | zero =>
       intro i k h1 h2
       obtain ⟨k, rfl⟩ : ∃ m, k = m + 1 := ⟨k - 1, by omega⟩
       have e : i = (([(jn : Int)] : List Int) ++ pos).length := by omega
       have : K1 T pos (jn : Int) (true, (i : Int)) = some (.done true) := by
        unfold K1
        rw [e]
        simp only [Int.lt_irrefl, decide_false, cond_true, cond_false, Option.bind_some]
       rw [List.drop_of_length_le (by omega)]
       simp only [j5, this, Option.bind_some, List.all_nil]
     | succ m ih =>
       intro i k h1 h2
       obtain ⟨k, rfl⟩ : ∃ m, k = m + 1 := ⟨k - 1, by omega⟩
       have hi : i < (([(jn : Int)] : List Int) ++ pos).length := by omega
       have hx := List.getElem?_eq_getElem hi
       have hinx := c1l hin hx
       rw [List.drop_eq_getElem_cons hi, List.all_cons]
       generalize (([(jn : Int)] : List Int) ++ pos)[i] = y at hx hinx
       obtain ⟨j, rfl, hj⟩ := a25 hinx
       have ej := List.getElem?_eq_getElem hj
       have st : K1 T pos (jn : Int) (true, (i : Int)) = some (.next ((fnB T (j : Int) && a61 T (jn : Int) (j : Int)), ((i + 1 : Nat) : Int))) := by
        unfold K1
        simp only [Z8]
        rw [Q7 hi, v8 hx]
        simp only [cond_true, Option.bind_some]
        rw [v8 ej]
        simp only [Option.bind_some]
        rw [v8 en, w6 i (by omega)]
        simp only [Option.bind_some]
        unfold fnB a61 a2s
        rw [hinx, Int.toNat_natCast, Int.toNat_natCast, ej, en]
        simp only [Bool.true_and]
        generalize T.Nodes[j] = a
        generalize T.Nodes[jn] = b
        have e5 : ((a.Kids.length : Int) == (b.Kids.length : Int)) = (a.Kids.length == b.Kids.length) := by
         rw [Bool.eq_iff_iff]; simp; omega
        rw [e5]
        cases a.Kind == 14 <;> rfl
       simp only [j5, st, Option.bind_some]
       cases hb : fnB T (j : Int) && a61 T (jn : Int) (j : Int) with
       | true => rw [ih (i + 1) k (by omega) (by omega), Bool.true_and]
       | false =>
         obtain ⟨k, rfl⟩ : ∃ m, k = m + 1 := ⟨k - 1, by omega⟩
         have : K1 T pos (jn : Int) (false, ((i + 1 : Nat) : Int)) = some (.done false) := rfl
         simp only [j5, this, Option.bind_some, Bool.false_and]
    have := key (pos.length + 1) 0 (pos.length + 1 + 1) (by omega) (Nat.le_refl _)
    exact this
 unfold a09
 rw [hl, hb5]
 simp only [Option.bind_some]
 rw [Z7 (by simp only [List.length_cons, List.length_nil]; omega)]
 simp only [Option.bind_some, V6]
 rw [hal, hl1 _ (fun h => by simp only [Bool.and_eq_true] at h; exact h.2)]
 simp only [Option.bind_some]
 have hsame : (wfB T && ((pos ++ [neg]).all (fnB T) && pos.all (a61 T neg))) = ((wfB T && (([neg] : List Int) ++ pos).all (inR T.Nodes.length)) && (([neg] : List Int) ++ pos).all fun k => fnB T k && a61 T neg k) := by
  have hfi : ∀ k, fnB T k = true -> inR T.Nodes.length k = true := fun k h => by unfold fnB at h; simp only [Bool.and_eq_true] at h; exact h.1
  have hll : a61 T neg neg = true := by unfold a61; simp
  rw [Bool.eq_iff_iff]
  simp only [Bool.and_eq_true, List.all_eq_true, List.mem_append, List.mem_singleton]
  constructor
  ·rintro ⟨h1, h2, h3⟩
   refine ⟨⟨h1, fun k hk => hfi k (h2 k hk.symm)⟩, fun k hk => ⟨h2 k hk.symm, ?_⟩⟩
   rcases hk with rfl | hk
   ·exact hll
   ·exact h3 k hk
  ·rintro ⟨⟨h1, _⟩, h3⟩
   exact ⟨h1, fun k hk => (h3 k hk.symm).1, fun k hk => (h3 k (.inr hk)).2⟩
 rw [<- hsame]
 cases wfB T && ((pos ++ [neg]).all (fnB T) && pos.all (a61 T neg)) <;> rfl
end
theorem c2o {raw : Api_Type} (h : a33 raw <= 1048576) : ∀ x ∈ raw.Nodes, x.Kids.length <= 1100000 /\ x.Fields.length <= 1100000 := fun x hx => by
 have h1 : a0k x <= (raw.Nodes.map a0k).sum := c00 a0k hx
 have h4 : a33 raw = (raw.Nodes.map a0k).sum + 1 + 1 + 1 := rfl
 have h5 : a0k x <= 1048576 := by omega
 have h2 := b7T a2J (fun _ => Nat.le_refl _) x.Kids
 have h3 := b7T a4y (fun _ => by unfold a4y; omega) x.Fields
 unfold a0k b0x a8l at h5
 omega
theorem b7H (fuel : Nat) (hf : 300000000 <= fuel) (d pos : List Int) (neg : Int) (raw : Api_Type) (hb : a33 raw <= 1048576) : a1H fuel d pos neg raw = some true := by
 have hk := c2o hb
 obtain ⟨q, hq⟩ : ∃ q, fuel = q + 60 := ⟨fuel - 60, by omega⟩
 have haw : a2n fuel = some true := by rw [hq]; exact c5k q
 unfold a1H
 rw [c4w [d] (by simp), haw]
 simp only [Option.bind_some]
 cases hs : ([d].all fun x => !decide (80 < (x.length : Int)))
 ·rfl
 have hs' : d.length <= 80 := by
  simp at hs
  omega
 simp only [Bool.not_true, cond_false, Option.bind_some]
 rcases Bool.eq_false_or_eq_true (decide (3 < (pos.length : Int))) with h2 | h2
 ·rw [h2]; rfl
 rw [h2]
 have hpos : pos.length <= 3 := by simp at h2; omega
 simp only [cond_false, Option.bind_some]
 rcases Bool.eq_false_or_eq_true (decide (30 < (raw.Nodes.length : Int))) with h3 | h3
 ·rw [h3]; rfl
 rw [h3]
 have hraw : raw.Nodes.length <= 30 := by simp at h3; omega
 simp only [cond_false, Option.bind_some]
 obtain ⟨T, N, a, hM, hmade⟩ := c5j fuel (by omega) d (by omega)
 obtain ⟨e, e3, hE⟩ := hmade [] (by simp)
 have h10 := hM.gt.len
 rw [e3]
 obtain ⟨m, hm3, hmz⟩ := c6a neg (n := 3) (by omega) (by omega)
 rw [hmz]
 simp only [Option.bind_some]
 have hS := hM.gt.small
 rw [b4K hS (by omega) pos hpos neg fuel (by omega), b4K hk (by omega) pos hpos neg fuel (by omega), b4K hS (by omega) pos hpos _ fuel (by omega)]
 rfl
end Go.Pl
end
section
namespace Go.Proofs
open Go.Shelf
set_option maxRecDepth 100000
def Tryz.lay151_ren : Go.Shelf.Ren := ⟨fun | 189 => 151 | 125 => 163 | 257 => 172 | 128 => 186 | 129 => 187 | 294 => 195 | 295 => 196 | 296 => 197 | 297 => 198 | 298 => 199 | 299 => 200 | 216 => 201 | 300 => 202 | 301 => 203 | 328 => 211 | 329 => 205 | 330 => 206 | 331 => 212 | 332 => 213 | 215 => 193 | 343 => 215 | n => n, fun | 28 => 22 | 3 => 3 | 46 => 49 | 0 => 0 | 51 => 178 | 53 => 180 | 4 => 4 | 183 => 171 | 182 => 170 | 131 => 175 | 5 => 5 | 9 => 9 | 218 => 191 | 222 => 195 | 228 => 200 | 229 => 201 | n => n, fun | n => n⟩
theorem Tryz.lay151 : Go.Proofs.Lays.n189 Tryz.prog Tryz.lay151_ren := {
 mixed := by kernel_rfl
 f125 := Tryz.func163.trans (congrArg some (by kernel_rfl))
 f128 := Tryz.func186.trans (congrArg some (by kernel_rfl))
 f129 := Tryz.func187.trans (congrArg some (by kernel_rfl))
 f189 := Tryz.func151.trans (congrArg some (by kernel_rfl))
 f215 := Tryz.func193.trans (congrArg some (by kernel_rfl))
 f216 := Tryz.func201.trans (congrArg some (by kernel_rfl))
 f257 := Tryz.func172.trans (congrArg some (by kernel_rfl))
 f294 := Tryz.func195.trans (congrArg some (by kernel_rfl))
 f295 := Tryz.func196.trans (congrArg some (by kernel_rfl))
 f296 := Tryz.func197.trans (congrArg some (by kernel_rfl))
 f297 := Tryz.func198.trans (congrArg some (by kernel_rfl))
 f298 := Tryz.func199.trans (congrArg some (by kernel_rfl))
 f299 := Tryz.func200.trans (congrArg some (by kernel_rfl))
 f300 := Tryz.func202.trans (congrArg some (by kernel_rfl))
 f301 := Tryz.func203.trans (congrArg some (by kernel_rfl))
 f328 := Tryz.func211.trans (congrArg some (by kernel_rfl))
 f329 := Tryz.func205.trans (congrArg some (by kernel_rfl))
 f330 := Tryz.func206.trans (congrArg some (by kernel_rfl))
 f331 := Tryz.func212.trans (congrArg some (by kernel_rfl))
 f332 := Tryz.func213.trans (congrArg some (by kernel_rfl))
 f343 := Tryz.func215.trans (congrArg some (by kernel_rfl))
 t0 := Tryz.underlying0
 a0 := Tryz.isAgg0
 z0 := Tryz.sizeOf0
 v0 := Tryz.zeroValue0
 t3 := Tryz.underlying3
 a3 := Tryz.isAgg3
 z3 := Tryz.sizeOf3
 v3 := Tryz.zeroValue3
 t4 := Tryz.underlying4
 a4 := Tryz.isAgg4
 z4 := Tryz.sizeOf4
 v4 := Tryz.zeroValue4
 t5 := Tryz.underlying5
 a5 := Tryz.isAgg5
 z5 := Tryz.sizeOf5
 v5 := Tryz.zeroValue5
 t9 := Tryz.underlying9
 a9 := Tryz.isAgg9
 z9 := Tryz.sizeOf9
 v9 := Tryz.zeroValue9
 t28 := Tryz.underlying22
 a28 := Tryz.isAgg22
 z28 := Tryz.sizeOf22
 v28 := Tryz.zeroValue22
 t46 := Tryz.underlying49
 a46 := Tryz.isAgg49
 z46 := Tryz.sizeOf49
 v46 := Tryz.zeroValue49
 t51 := Tryz.underlying178
 a51 := Tryz.isAgg178
 z51 := Tryz.sizeOf178
 v51 := Tryz.zeroValue178
 t53 := Tryz.underlying180
 a53 := Tryz.isAgg180
 z53 := Tryz.sizeOf180
 v53 := Tryz.zeroValue180
 t131 := Tryz.underlying175
 a131 := Tryz.isAgg175
 z131 := Tryz.sizeOf175
 v131 := Tryz.zeroValue175
 t182 := Tryz.underlying170
 a182 := Tryz.isAgg170
 z182 := Tryz.sizeOf170
 v182 := Tryz.zeroValue170
 t183 := Tryz.underlying171
 a183 := Tryz.isAgg171
 z183 := Tryz.sizeOf171
 v183 := Tryz.zeroValue171
 t218 := Tryz.underlying191
 a218 := Tryz.isAgg191
 z218 := Tryz.sizeOf191
 v218 := Tryz.zeroValue191
 t222 := Tryz.underlying195
 a222 := Tryz.isAgg195
 z222 := Tryz.sizeOf195
 v222 := Tryz.zeroValue195
 t228 := Tryz.underlying200
 a228 := Tryz.isAgg200
 z228 := Tryz.sizeOf200
 v228 := Tryz.zeroValue200
 t229 := Tryz.underlying201
 a229 := Tryz.isAgg201
 z229 := Tryz.sizeOf201
 v229 := Tryz.zeroValue201 }
end Go.Proofs
end
section
namespace Go.Qx
open Go Go.RowKit Go.Sx
set_option maxRecDepth 100000
abbrev b4y (v : Api_Field) : Key × Int × Bool := (v.Key_, v.Node, v.Optional)
abbrev b93 (x : Key × Int × Bool) : Api_Field := ⟨x.1, x.2.1, x.2.2⟩
@[reducible] def W5 : Rp Api_Field := b2S b4y (Z1 (rpKey) (Z1 (rpK .i64) (rpBool)))
abbrev b1k (v : Api_TypeNode) : Int × Int × Int × ByteArray × (List Int) × (List Api_Field) × (Int × Int) := (v.Kind, v.Lo, v.Hi, v.Text, v.Kids, v.Fields, v.Rest)
abbrev b66 (x : Int × Int × Int × ByteArray × (List Int) × (List Api_Field) × (Int × Int)) : Api_TypeNode := ⟨x.1, x.2.1, x.2.2.1, x.2.2.2.1, x.2.2.2.2.1, x.2.2.2.2.2.1, x.2.2.2.2.2.2⟩
@[reducible] def a0j : Rp Api_TypeNode := b2S b1k (Z1 (rpK .i64) (Z1 (rpK .i64) (Z1 (rpK .i64) (Z1 (rpStr) (Z1 (@rpList _ (rpK .i64)) (Z1 (@rpList _ (W5)) (Z1 (rpK .i64) (rpK .i64))))))))
abbrev b6c (v : Api_Type) : (List Api_TypeNode) × Int := (v.Nodes, v.Root)
abbrev c0S (x : (List Api_TypeNode) × Int) : Api_Type := ⟨x.1, x.2⟩
@[reducible] def a6P : Rp Api_Type := b2S b6c (Z1 (@rpList _ (a0j)) (rpK .i64))
abbrev b6d (v : Api_Goal) : (List Int) × (List Int) × Bool := (v.Pos, v.Neg, v.Lists)
abbrev c0Q (x : (List Int) × (List Int) × Bool) : Api_Goal := ⟨x.1, x.2.1, x.2.2⟩
@[reducible] def a23 : Rp Api_Goal := b2S b6d (Z1 (@rpList _ (rpK .i64)) (Z1 (@rpList _ (rpK .i64)) (rpBool)))
abbrev b0u (v : Api_EntryForm) : (List Api_Goal) × Bool × Api_Goal := (v.Args, v.Fails, v.Result)
abbrev b6o (x : (List Api_Goal) × Bool × Api_Goal) : Api_EntryForm := ⟨x.1, x.2.1, x.2.2⟩
@[reducible] def a68 : Rp Api_EntryForm := b2S b0u (Z1 (@rpList _ (a23)) (Z1 (rpBool) (a23)))
abbrev a7k (v : Semtypebase_Source) : (List Int) × Int := (v.L, v.At)
abbrev b1W (x : (List Int) × Int) : Semtypebase_Source := ⟨x.1, x.2⟩
@[reducible] def a4i : Rp Semtypebase_Source := b2S a7k (Z1 (@rpList _ (rpK .i64)) (rpK .i64))
abbrev b3J (v : Value_used) : Bool × Bool × Bool × Bool × Bool := (v.number, v.text_, v.kids, v.keys, v.entries)
abbrev b8X (x : Bool × Bool × Bool × Bool × Bool) : Value_used := ⟨x.1, x.2.1, x.2.2.1, x.2.2.2.1, x.2.2.2.2⟩
@[reducible] def a9y : Rp Value_used := b2S b3J (Z1 (rpBool) (Z1 (rpBool) (Z1 (rpBool) (Z1 (rpBool) (rpBool)))))
def tyL : List TE := [⟨2, Int, rpK .i64⟩,
 ⟨3, Int, rpK .i64⟩,
 ⟨4, Bool, rpBool⟩,
 ⟨9, ByteArray, rpStr⟩,
 ⟨22, List Int, @rpList _ (rpK .i64)⟩,
 ⟨23, List Val, @rpList _ (rpVal)⟩,
 ⟨24, List Key, @rpList _ (rpKey)⟩,
 ⟨25, List Ent, @rpList _ (rpEnt)⟩,
 ⟨26, List ByteArray, @rpList _ (rpStr)⟩,
 ⟨28, Val, rpVal⟩,
 ⟨30, Ent, rpEnt⟩,
 ⟨34, List Api_TypeNode, @rpList _ (a0j)⟩,
 ⟨36, Api_Type, a6P⟩,
 ⟨47, Api_Goal, a23⟩,
 ⟨55, List Api_Goal, @rpList _ (a23)⟩,
 ⟨57, Api_EntryForm, a68⟩,
 ⟨69, List Api_Field, @rpList _ (W5)⟩,
 ⟨70, Int × Int, Z1 (rpK .i64) (rpK .i64)⟩,
 ⟨72, Api_TypeNode, a0j⟩,
 ⟨76, Semtypebase_Source, a4i⟩,
 ⟨114, Key, rpKey⟩,
 ⟨132, Api_Field, W5⟩,
 ⟨153, Value_used, a9y⟩]
abbrev I (E : TypeId) : Type := (c2a tyL E).α
instance rI (E : TypeId) : Rp (I E) := (c2a tyL E).rp
def c2Z : Fd I (I 28) inferInstance := (a8U (rg := rpVal) (X9 (a6a .i64 : Fd I Int (rpK .i64)) (X9 (a6a .i64 : Fd I Int (rpK .i64)) (X9 (b9e : Fd I ByteArray (rpStr)) (X9 (a4k 28 : Fd I (List Val) (@rpList _ (rpVal))) (X9 (a4k 114 : Fd I (List Key) (@rpList _ (rpKey))) (X9 (a4k 30 : Fd I (List Ent) (@rpList _ (rpEnt))) ((a4k 9 : Fd I (List ByteArray) (@rpList _ (rpStr)))))))))) Val.to Val.of (fun _ => rfl) Val.cells_to : Fd I Val rpVal)
def c5X : Fd I (I 30) inferInstance := (a8U (rg := rpEnt) (X9 (a4k 28 : Fd I (List Val) (@rpList _ (rpVal))) (X9 (a6L : Fd I Bool (rpBool)) ((b9h 28 c2Z : Fd I Val (rpVal))))) Ent.to Ent.of (fun _ => rfl) Ent.cells_to : Fd I Ent rpEnt)
def c0M : Fd I (I 36) inferInstance := (a8U (rg := a6P) (X9 (a4k 72 : Fd I (List Api_TypeNode) (@rpList _ (a0j))) ((a6a .i64 : Fd I Int (rpK .i64)))) b6c c0S (fun _ => rfl) (fun _ _ _ => Iff.rfl) : Fd I Api_Type a6P)
def b57 : Fd I (I 47) inferInstance := (a8U (rg := a23) (X9 (a4k 3 : Fd I (List Int) (@rpList _ (rpK .i64))) (X9 (a4k 3 : Fd I (List Int) (@rpList _ (rpK .i64))) ((a6L : Fd I Bool (rpBool))))) b6d c0Q (fun _ => rfl) (fun _ _ _ => Iff.rfl) : Fd I Api_Goal a23)
def b6z : Fd I (I 57) inferInstance := (a8U (rg := a68) (X9 (a4k 47 : Fd I (List Api_Goal) (@rpList _ (a23))) (X9 (a6L : Fd I Bool (rpBool)) ((b9h 47 b57 : Fd I Api_Goal (a23))))) b0u b6o (fun _ => rfl) (fun _ _ _ => Iff.rfl) : Fd I Api_EntryForm a68)
def c3e : Fd I (I 70) inferInstance := (X9 (a6a .i64 : Fd I Int (rpK .i64)) ((a6a .i64 : Fd I Int (rpK .i64))) : Fd I (Int × Int) (Z1 (rpK .i64) (rpK .i64)))
def b7t : Fd I (I 72) inferInstance := (a8U (rg := a0j) (X9 (a6a .i64 : Fd I Int (rpK .i64)) (X9 (a6a .i64 : Fd I Int (rpK .i64)) (X9 (a6a .i64 : Fd I Int (rpK .i64)) (X9 (b9e : Fd I ByteArray (rpStr)) (X9 (a4k 3 : Fd I (List Int) (@rpList _ (rpK .i64))) (X9 (a4k 132 : Fd I (List Api_Field) (@rpList _ (W5))) ((b9h 70 c3e : Fd I (Int × Int) (Z1 (rpK .i64) (rpK .i64)))))))))) b1k b66 (fun _ => rfl) (fun _ _ _ => Iff.rfl) : Fd I Api_TypeNode a0j)
def b2z : Fd I (I 76) inferInstance := (a8U (rg := a4i) (X9 (a4k 3 : Fd I (List Int) (@rpList _ (rpK .i64))) ((a6a .i64 : Fd I Int (rpK .i64)))) a7k b1W (fun _ => rfl) (fun _ _ _ => Iff.rfl) : Fd I Semtypebase_Source a4i)
def c3k : Fd I (I 114) inferInstance := (a8U (rg := rpKey) (X9 (a6a .i64 : Fd I Int (rpK .i64)) ((b9e : Fd I ByteArray (rpStr)))) Key.to Key.of (fun _ => rfl) Key.cells_to : Fd I Key rpKey)
def c0k : Fd I (I 132) inferInstance := (a8U (rg := W5) (X9 (b9h 114 c3k : Fd I Key (rpKey)) (X9 (a6a .i64 : Fd I Int (rpK .i64)) ((a6L : Fd I Bool (rpBool))))) b4y b93 (fun _ => rfl) (fun _ _ _ => Iff.rfl) : Fd I Api_Field W5)
def b82 : Fd I (I 153) inferInstance := (a8U (rg := a9y) (X9 (a6L : Fd I Bool (rpBool)) (X9 (a6L : Fd I Bool (rpBool)) (X9 (a6L : Fd I Bool (rpBool)) (X9 (a6L : Fd I Bool (rpBool)) ((a6L : Fd I Bool (rpBool))))))) b3J b8X (fun _ => rfl) (fun _ _ _ => Iff.rfl) : Fd I Value_used a9y)
def feL : List (FE I) := [⟨2, a6a .i64⟩,
 ⟨3, a6a .i64⟩,
 ⟨4, a6L⟩,
 ⟨9, b9e⟩,
 ⟨22, a4k 3⟩,
 ⟨23, a4k 28⟩,
 ⟨24, a4k 114⟩,
 ⟨25, a4k 30⟩,
 ⟨26, a4k 9⟩,
 ⟨28, c2Z⟩,
 ⟨30, c5X⟩,
 ⟨34, a4k 72⟩,
 ⟨36, c0M⟩,
 ⟨47, b57⟩,
 ⟨55, a4k 47⟩,
 ⟨57, b6z⟩,
 ⟨69, a4k 132⟩,
 ⟨70, c3e⟩,
 ⟨72, b7t⟩,
 ⟨76, b2z⟩,
 ⟨114, c3k⟩,
 ⟨132, c0k⟩,
 ⟨153, b82⟩]
def c6G : TabL I where
 sz := [(28, 7), (30, 9), (36, 2), (47, 3), (57, 5), (70, 2), (72, 8), (114, 2), (132, 4), (153, 5)]
 one := [(2, ()), (3, ()), (4, ()), (9, ()), (22, ()), (23, ()), (24, ()), (25, ()), (26, ()), (34, ()), (55, ()), (69, ()), (101, ())]
 fld := [(28, [(0, 3), (1, 2), (2, 9), (3, 23), (4, 24), (5, 25), (6, 26)]), (30, [(0, 23), (1, 4), (2, 28)]), (36, [(0, 34), (1, 3)]), (47, [(0, 22), (1, 22), (2, 4)]), (57, [(0, 55), (1, 4), (2, 47)]), (72, [(0, 3), (1, 2), (2, 2), (3, 9), (4, 22), (5, 69), (6, 70)]), (76, [(0, 22), (1, 3)]), (114, [(0, 3), (1, 9)]), (132, [(0, 114), (2, 3), (3, 4)]), (153, [(0, 4), (1, 4), (2, 4), (3, 4), (4, 4)])]
 el := [(22, 3), (23, 28), (24, 114), (25, 30), (26, 9), (34, 72), (41, 22), (52, 57), (55, 47), (69, 132), (105, 4), (120, 2)]
 str := [(9, ())]
 bool := [(4, ())]
 ik := [(3, .i64), (49, .u64)]
 fe := feL
 inf := [(2, 1, 8, [.int .i64 0]), (3, 1, 8, [.int .i64 0]), (4, 1, 1, [.bool false]), (9, 1, 16, [.str ⟨#[]⟩]), (22, 1, 24, [.nl 3]), (23, 1, 24, [.nl 28]), (24, 1, 24, [.nl 114]), (26, 1, 24, [.nl 9]), (28, 7, 128, [.int .i64 0, .int .i64 0, .str ⟨#[]⟩, .nl 28, .nl 114, .nl 30, .nl 9]), (30, 9, 160, [.nl 28, .bool false, .int .i64 0, .int .i64 0, .str ⟨#[]⟩, .nl 28, .nl 114, .nl 30, .nl 9]), (34, 1, 24, [.nl 72]), (36, 2, 32, [.nl 72, .int .i64 0]), (47, 3, 56, [.nl 3, .nl 3, .bool false]), (57, 5, 88, [.nl 47, .bool false, .nl 3, .nl 3, .bool false]), (69, 1, 24, [.nl 132]), (70, 2, 16, [.int .i64 0, .int .i64 0]), (72, 8, 104, [.int .i64 0, .int .i64 0, .int .i64 0, .str ⟨#[]⟩, .nl 3, .nl 132, .int .i64 0, .int .i64 0]), (76, 2, 32, [.nl 3, .int .i64 0]), (101, 1, 8, [.any]), (114, 2, 24, [.int .i64 0, .str ⟨#[]⟩]), (132, 4, 40, [.int .i64 0, .str ⟨#[]⟩, .int .i64 0, .bool false]), (153, 5, 5, [.bool false, .bool false, .bool false, .bool false, .bool false])]
 st := [(28, [(0, 1), (1, 1), (2, 1), (3, 1), (4, 1), (5, 1), (6, 1)]), (30, [(0, 1), (1, 1), (2, 7)]), (36, [(0, 1), (1, 1)]), (47, [(0, 1), (1, 1), (2, 1)]), (57, [(0, 1), (1, 1), (2, 3)]), (70, [(0, 1), (1, 1)]), (72, [(0, 1), (1, 1), (2, 1), (3, 1), (4, 1), (5, 1), (6, 2)]), (76, [(0, 1), (1, 1)]), (114, [(0, 1), (1, 1)]), (132, [(0, 2), (2, 1), (3, 1)]), (153, [(0, 1), (1, 1), (2, 1), (3, 1), (4, 1)])]
 eq := [(70, b9X feL 70 b0J), (114, b9X feL 114 a7b)]
 nest := [(47, 3, 1)]
 arr := [(70, 3, 2, 1)]
 fb := [(62, ()), (63, ()), (113, ()), (114, ()), (116, ()), (119, ()), (120, ()), (126, ()), (140, ()), (141, ()), (143, ()), (144, ()), (146, ()), (165, ()), (170, ())]
abbrev tb : Tab I := c4U c6G
theorem ti2 : K8 Go.Proofs.Tryz.prog 2 (.int .i64 0) 1 8 := V2 (by kernel_rfl)
theorem ti3 : K8 Go.Proofs.Tryz.prog 3 (.int .i64 0) 1 8 := V2 (by kernel_rfl)
theorem ti4 : K8 Go.Proofs.Tryz.prog 4 (.bool false) 1 1 := V2 (by kernel_rfl)
theorem ti9 : K8 Go.Proofs.Tryz.prog 9 (.string ⟨#[]⟩) 1 16 := V2 (by kernel_rfl)
theorem c6t : K8 Go.Proofs.Tryz.prog 22 (.slice none 0 0) 1 24 := V2 (by kernel_rfl)
theorem c7V : K8 Go.Proofs.Tryz.prog 23 (.slice none 0 0) 1 24 := V2 (by kernel_rfl)
theorem c7P : K8 Go.Proofs.Tryz.prog 24 (.slice none 0 0) 1 24 := V2 (by kernel_rfl)
theorem c7Y : K8 Go.Proofs.Tryz.prog 26 (.slice none 0 0) 1 24 := V2 (by kernel_rfl)
theorem c6i : K8 Go.Proofs.Tryz.prog 28 (.agg #[.int .i64 0, .int .i64 0, .string ⟨#[]⟩, .slice none 0 0, .slice none 0 0, .slice none 0 0, .slice none 0 0]) 7 128 := V2 (by kernel_rfl)
theorem c6g : K8 Go.Proofs.Tryz.prog 30 (.agg #[.slice none 0 0, .bool false, .int .i64 0, .int .i64 0, .string ⟨#[]⟩, .slice none 0 0, .slice none 0 0, .slice none 0 0, .slice none 0 0]) 9 160 := V2 (by kernel_rfl)
theorem c8d : K8 Go.Proofs.Tryz.prog 34 (.slice none 0 0) 1 24 := V2 (by kernel_rfl)
theorem c76 : K8 Go.Proofs.Tryz.prog 36 (.agg #[.slice none 0 0, .int .i64 0]) 2 32 := V2 (by kernel_rfl)
theorem c6q : K8 Go.Proofs.Tryz.prog 47 (.agg #[.slice none 0 0, .slice none 0 0, .bool false]) 3 56 := V2 (by kernel_rfl)
theorem c6H : K8 Go.Proofs.Tryz.prog 57 (.agg #[.slice none 0 0, .bool false, .slice none 0 0, .slice none 0 0, .bool false]) 5 88 := V2 (by kernel_rfl)
theorem c79 : K8 Go.Proofs.Tryz.prog 69 (.slice none 0 0) 1 24 := V2 (by kernel_rfl)
theorem c7U : K8 Go.Proofs.Tryz.prog 70 (.agg #[.int .i64 0, .int .i64 0]) 2 16 := V2 (by kernel_rfl)
theorem c6m : K8 Go.Proofs.Tryz.prog 72 (.agg #[.int .i64 0, .int .i64 0, .int .i64 0, .string ⟨#[]⟩, .slice none 0 0, .slice none 0 0, .int .i64 0, .int .i64 0]) 8 104 := V2 (by kernel_rfl)
theorem c7Z : K8 Go.Proofs.Tryz.prog 76 (.agg #[.slice none 0 0, .int .i64 0]) 2 32 := V2 (by kernel_rfl)
theorem c7J : K8 Go.Proofs.Tryz.prog 101 (.nilFunc) 1 8 := V2 (by kernel_rfl)
theorem c4V : K8 Go.Proofs.Tryz.prog 114 (.agg #[.int .i64 0, .string ⟨#[]⟩]) 2 24 := V2 (by kernel_rfl)
theorem c4Y : K8 Go.Proofs.Tryz.prog 132 (.agg #[.int .i64 0, .string ⟨#[]⟩, .int .i64 0, .bool false]) 4 40 := V2 (by kernel_rfl)
theorem c7y : K8 Go.Proofs.Tryz.prog 153 (.agg #[.bool false, .bool false, .bool false, .bool false, .bool false]) 5 5 := V2 (by kernel_rfl)
theorem to2 : a3z Go.Proofs.Tryz.prog 2 := ⟨_, Go.Proofs.Tryz.underlying2, rfl, by kernel_rfl⟩
theorem to3 : a3z Go.Proofs.Tryz.prog 3 := ⟨_, Go.Proofs.Tryz.underlying3, rfl, by kernel_rfl⟩
theorem to4 : a3z Go.Proofs.Tryz.prog 4 := ⟨_, Go.Proofs.Tryz.underlying4, rfl, by kernel_rfl⟩
theorem to9 : a3z Go.Proofs.Tryz.prog 9 := ⟨_, Go.Proofs.Tryz.underlying9, rfl, by kernel_rfl⟩
theorem c7Q : a3z Go.Proofs.Tryz.prog 22 := ⟨_, Go.Proofs.Tryz.underlying22, rfl, by kernel_rfl⟩
theorem c7L : a3z Go.Proofs.Tryz.prog 23 := ⟨_, Go.Proofs.Tryz.underlying23, rfl, by kernel_rfl⟩
theorem c7O : a3z Go.Proofs.Tryz.prog 24 := ⟨_, Go.Proofs.Tryz.underlying24, rfl, by kernel_rfl⟩
theorem c77 : a3z Go.Proofs.Tryz.prog 25 := ⟨_, Go.Proofs.Tryz.underlying25, rfl, by kernel_rfl⟩
theorem c8f : a3z Go.Proofs.Tryz.prog 26 := ⟨_, Go.Proofs.Tryz.underlying26, rfl, by kernel_rfl⟩
theorem c74 : a3z Go.Proofs.Tryz.prog 34 := ⟨_, Go.Proofs.Tryz.underlying34, rfl, by kernel_rfl⟩
theorem c8a : a3z Go.Proofs.Tryz.prog 55 := ⟨_, Go.Proofs.Tryz.underlying55, rfl, by kernel_rfl⟩
theorem c7N : a3z Go.Proofs.Tryz.prog 69 := ⟨_, Go.Proofs.Tryz.underlying69, rfl, by kernel_rfl⟩
theorem c7l : a3z Go.Proofs.Tryz.prog 101 := ⟨_, Go.Proofs.Tryz.underlying101, rfl, by kernel_rfl⟩
theorem c8h {σ : S} {x y : Int × Int} {cs ds : List Value} (h : (rI 70).cells σ x cs) (k : (rI 70).cells σ y ds) : Sx.EqAt Go.Proofs.Tryz.prog 2 70 (.agg cs.toArray) (.agg ds.toArray) (b0J x y) := by
 obtain ⟨_, _, rfl, rfl, rfl⟩ := h
 obtain ⟨_, _, rfl, rfl, rfl⟩ := k
 exact c3M Go.Proofs.Tryz.underlying70 ti3 (b8J (a41 to3 rfl) (a41 to3 rfl) (b6p Go.Proofs.Tryz.underlying3) (b8J (a41 to3 rfl) (a41 to3 rfl) (b6p Go.Proofs.Tryz.underlying3) c3U))
theorem c7A {σ : S} {x y : Key} {cs ds : List Value} (h : (rI 114).cells σ x cs) (k : (rI 114).cells σ y ds) : Sx.EqAt Go.Proofs.Tryz.prog 2 114 (.agg cs.toArray) (.agg ds.toArray) (a7b x y) := by
 obtain ⟨_, _, rfl, rfl, rfl⟩ := h
 obtain ⟨_, _, rfl, rfl, rfl⟩ := k
 exact c0H Go.Proofs.Tryz.underlying114 (by kernel_rfl) (b8E (by decide) (a41 to3 rfl) (a41 to3 rfl) (b6p Go.Proofs.Tryz.underlying3) (b8E (by decide) (a41 to9 rfl) (a41 to9 rfl) (c3W Go.Proofs.Tryz.underlying9) c4b))
theorem eqT (T : TypeId) (g : I T -> I T -> Bool) {K : Nat} (h : ∀ {σ : S} {x y : I T} {cs ds : List Value}, Rp.cells σ x cs -> Rp.cells σ y ds -> Sx.EqAt Go.Proofs.Tryz.prog K T (.agg cs.toArray) (.agg ds.toArray) (g x y)) (hg : Go.Proofs.Tryz.prog.eqGuardType (Go.Proofs.Tryz.prog).depth T = false) (hK : Nat.ble K 10000 = true)
 {X : Cxt} {c : Cx} {σ : S} {ls ms : List (PV I)} {r : Bool} {cs ds : List Value} (h1 : b9X feL T g ls ms = some r) (h2 : RG X c σ ls cs) (h3 : RG X c σ ms ds) :
 Go.Proofs.Tryz.prog.eqGuardType (Go.Proofs.Tryz.prog).depth T = false /\ ∃ j, Nat.ble j 10000 = true /\ Sx.EqAt Go.Proofs.Tryz.prog j T (.agg cs.toArray) (.agg ds.toArray) r := by
 obtain ⟨x, y, k1, k2, rfl⟩ := c5m h1 h2 h3
 exact ⟨hg, K, hK, h k1 k2⟩
theorem c6u : TabLOk Go.Proofs.Tryz.prog c6G where
 sz := ⟨⟨_, Go.Proofs.Tryz.underlying28, rfl, by kernel_rfl⟩, ⟨⟨_, Go.Proofs.Tryz.underlying30, rfl, by kernel_rfl⟩, ⟨⟨_, Go.Proofs.Tryz.underlying36, rfl, by kernel_rfl⟩, ⟨⟨_, Go.Proofs.Tryz.underlying47, rfl, by kernel_rfl⟩, ⟨⟨_, Go.Proofs.Tryz.underlying57, rfl, by kernel_rfl⟩, ⟨⟨_, Go.Proofs.Tryz.underlying70, rfl, by kernel_rfl⟩, ⟨⟨_, Go.Proofs.Tryz.underlying72, rfl, by kernel_rfl⟩, ⟨⟨_, Go.Proofs.Tryz.underlying114, rfl, by kernel_rfl⟩, ⟨⟨_, Go.Proofs.Tryz.underlying132, rfl, by kernel_rfl⟩, ⟨⟨_, Go.Proofs.Tryz.underlying153, rfl, by kernel_rfl⟩, trivial⟩⟩⟩⟩⟩⟩⟩⟩⟩⟩
 one := ⟨to2, ⟨to3, ⟨to4, ⟨to9, ⟨c7Q, ⟨c7L, ⟨c7O, ⟨c77, ⟨c8f, ⟨c74, ⟨c8a, ⟨c7N, ⟨c7l, trivial⟩⟩⟩⟩⟩⟩⟩⟩⟩⟩⟩⟩⟩
 fld := ⟨⟨⟨_, _, Go.Proofs.Tryz.underlying28, rfl, rfl, by kernel_rfl⟩, ⟨⟨_, _, Go.Proofs.Tryz.underlying28, rfl, rfl⟩, ⟨⟨_, _, Go.Proofs.Tryz.underlying28, rfl, rfl, by kernel_rfl⟩, ⟨⟨_, _, Go.Proofs.Tryz.underlying28, rfl, rfl⟩, ⟨⟨_, _, Go.Proofs.Tryz.underlying28, rfl, rfl, by kernel_rfl⟩, ⟨⟨_, _, Go.Proofs.Tryz.underlying28, rfl, rfl⟩, ⟨⟨_, _, Go.Proofs.Tryz.underlying28, rfl, rfl, by kernel_rfl⟩, ⟨⟨_, _, Go.Proofs.Tryz.underlying28, rfl, rfl⟩, ⟨⟨_, _, Go.Proofs.Tryz.underlying28, rfl, rfl, by kernel_rfl⟩, ⟨⟨_, _, Go.Proofs.Tryz.underlying28, rfl, rfl⟩, ⟨⟨_, _, Go.Proofs.Tryz.underlying28, rfl, rfl, by kernel_rfl⟩, ⟨⟨_, _, Go.Proofs.Tryz.underlying28, rfl, rfl⟩, ⟨⟨_, _, Go.Proofs.Tryz.underlying28, rfl, rfl, by kernel_rfl⟩, ⟨⟨_, _, Go.Proofs.Tryz.underlying28, rfl, rfl⟩, trivial⟩⟩⟩⟩⟩⟩⟩⟩⟩⟩⟩⟩⟩⟩, ⟨⟨⟨_, _, Go.Proofs.Tryz.underlying30, rfl, rfl, by kernel_rfl⟩, ⟨⟨_, _, Go.Proofs.Tryz.underlying30, rfl, rfl⟩, ⟨⟨_, _, Go.Proofs.Tryz.underlying30, rfl, rfl, by kernel_rfl⟩, ⟨⟨_, _, Go.Proofs.Tryz.underlying30, rfl, rfl⟩, ⟨⟨_, _, Go.Proofs.Tryz.underlying30, rfl, rfl, by kernel_rfl⟩, ⟨⟨_, _, Go.Proofs.Tryz.underlying30, rfl, rfl⟩, trivial⟩⟩⟩⟩⟩⟩, ⟨⟨⟨_, _, Go.Proofs.Tryz.underlying36, rfl, rfl, by kernel_rfl⟩, ⟨⟨_, _, Go.Proofs.Tryz.underlying36, rfl, rfl⟩, ⟨⟨_, _, Go.Proofs.Tryz.underlying36, rfl, rfl, by kernel_rfl⟩, ⟨⟨_, _, Go.Proofs.Tryz.underlying36, rfl, rfl⟩, trivial⟩⟩⟩⟩, ⟨⟨⟨_, _, Go.Proofs.Tryz.underlying47, rfl, rfl, by kernel_rfl⟩, ⟨⟨_, _, Go.Proofs.Tryz.underlying47, rfl, rfl⟩, ⟨⟨_, _, Go.Proofs.Tryz.underlying47, rfl, rfl, by kernel_rfl⟩, ⟨⟨_, _, Go.Proofs.Tryz.underlying47, rfl, rfl⟩, ⟨⟨_, _, Go.Proofs.Tryz.underlying47, rfl, rfl, by kernel_rfl⟩, ⟨⟨_, _, Go.Proofs.Tryz.underlying47, rfl, rfl⟩, trivial⟩⟩⟩⟩⟩⟩, ⟨⟨⟨_, _, Go.Proofs.Tryz.underlying57, rfl, rfl, by kernel_rfl⟩, ⟨⟨_, _, Go.Proofs.Tryz.underlying57, rfl, rfl⟩, ⟨⟨_, _, Go.Proofs.Tryz.underlying57, rfl, rfl, by kernel_rfl⟩, ⟨⟨_, _, Go.Proofs.Tryz.underlying57, rfl, rfl⟩, ⟨⟨_, _, Go.Proofs.Tryz.underlying57, rfl, rfl, by kernel_rfl⟩, ⟨⟨_, _, Go.Proofs.Tryz.underlying57, rfl, rfl⟩, trivial⟩⟩⟩⟩⟩⟩, ⟨⟨⟨_, _, Go.Proofs.Tryz.underlying72, rfl, rfl, by kernel_rfl⟩, ⟨⟨_, _, Go.Proofs.Tryz.underlying72, rfl, rfl⟩, ⟨⟨_, _, Go.Proofs.Tryz.underlying72, rfl, rfl, by kernel_rfl⟩, ⟨⟨_, _, Go.Proofs.Tryz.underlying72, rfl, rfl⟩, ⟨⟨_, _, Go.Proofs.Tryz.underlying72, rfl, rfl, by kernel_rfl⟩, ⟨⟨_, _, Go.Proofs.Tryz.underlying72, rfl, rfl⟩, ⟨⟨_, _, Go.Proofs.Tryz.underlying72, rfl, rfl, by kernel_rfl⟩, ⟨⟨_, _, Go.Proofs.Tryz.underlying72, rfl, rfl⟩, ⟨⟨_, _, Go.Proofs.Tryz.underlying72, rfl, rfl, by kernel_rfl⟩, ⟨⟨_, _, Go.Proofs.Tryz.underlying72, rfl, rfl⟩, ⟨⟨_, _, Go.Proofs.Tryz.underlying72, rfl, rfl, by kernel_rfl⟩, ⟨⟨_, _, Go.Proofs.Tryz.underlying72, rfl, rfl⟩, ⟨⟨_, _, Go.Proofs.Tryz.underlying72, rfl, rfl, by kernel_rfl⟩, ⟨⟨_, _, Go.Proofs.Tryz.underlying72, rfl, rfl⟩, trivial⟩⟩⟩⟩⟩⟩⟩⟩⟩⟩⟩⟩⟩⟩, ⟨⟨⟨_, _, Go.Proofs.Tryz.underlying76, rfl, rfl, by kernel_rfl⟩, ⟨⟨_, _, Go.Proofs.Tryz.underlying76, rfl, rfl⟩, ⟨⟨_, _, Go.Proofs.Tryz.underlying76, rfl, rfl, by kernel_rfl⟩, ⟨⟨_, _, Go.Proofs.Tryz.underlying76, rfl, rfl⟩, trivial⟩⟩⟩⟩, ⟨⟨⟨_, _, Go.Proofs.Tryz.underlying114, rfl, rfl, by kernel_rfl⟩, ⟨⟨_, _, Go.Proofs.Tryz.underlying114, rfl, rfl⟩, ⟨⟨_, _, Go.Proofs.Tryz.underlying114, rfl, rfl, by kernel_rfl⟩, ⟨⟨_, _, Go.Proofs.Tryz.underlying114, rfl, rfl⟩, trivial⟩⟩⟩⟩, ⟨⟨⟨_, _, Go.Proofs.Tryz.underlying132, rfl, rfl, by kernel_rfl⟩, ⟨⟨_, _, Go.Proofs.Tryz.underlying132, rfl, rfl⟩, ⟨⟨_, _, Go.Proofs.Tryz.underlying132, rfl, rfl, by kernel_rfl⟩, ⟨⟨_, _, Go.Proofs.Tryz.underlying132, rfl, rfl⟩, ⟨⟨_, _, Go.Proofs.Tryz.underlying132, rfl, rfl, by kernel_rfl⟩, ⟨⟨_, _, Go.Proofs.Tryz.underlying132, rfl, rfl⟩, trivial⟩⟩⟩⟩⟩⟩, ⟨⟨⟨_, _, Go.Proofs.Tryz.underlying153, rfl, rfl, by kernel_rfl⟩, ⟨⟨_, _, Go.Proofs.Tryz.underlying153, rfl, rfl⟩, ⟨⟨_, _, Go.Proofs.Tryz.underlying153, rfl, rfl, by kernel_rfl⟩, ⟨⟨_, _, Go.Proofs.Tryz.underlying153, rfl, rfl⟩, ⟨⟨_, _, Go.Proofs.Tryz.underlying153, rfl, rfl, by kernel_rfl⟩, ⟨⟨_, _, Go.Proofs.Tryz.underlying153, rfl, rfl⟩, ⟨⟨_, _, Go.Proofs.Tryz.underlying153, rfl, rfl, by kernel_rfl⟩, ⟨⟨_, _, Go.Proofs.Tryz.underlying153, rfl, rfl⟩, ⟨⟨_, _, Go.Proofs.Tryz.underlying153, rfl, rfl, by kernel_rfl⟩, ⟨⟨_, _, Go.Proofs.Tryz.underlying153, rfl, rfl⟩, trivial⟩⟩⟩⟩⟩⟩⟩⟩⟩⟩, trivial⟩⟩⟩⟩⟩⟩⟩⟩⟩⟩
 el := ⟨⟨Go.Proofs.Tryz.underlying22, _, _, ti3, rfl, by decide⟩, ⟨⟨Go.Proofs.Tryz.underlying23, _, _, c6i, rfl, by decide⟩, ⟨⟨Go.Proofs.Tryz.underlying24, _, _, c4V, rfl, by decide⟩, ⟨⟨Go.Proofs.Tryz.underlying25, _, _, c6g, rfl, by decide⟩, ⟨⟨Go.Proofs.Tryz.underlying26, _, _, ti9, rfl, by decide⟩, ⟨⟨Go.Proofs.Tryz.underlying34, _, _, c6m, rfl, by decide⟩, ⟨⟨Go.Proofs.Tryz.underlying41, _, _, c6t, rfl, by decide⟩, ⟨⟨Go.Proofs.Tryz.underlying52, _, _, c6H, rfl, by decide⟩, ⟨⟨Go.Proofs.Tryz.underlying55, _, _, c6q, rfl, by decide⟩, ⟨⟨Go.Proofs.Tryz.underlying69, _, _, c4Y, rfl, by decide⟩, ⟨⟨Go.Proofs.Tryz.underlying105, _, _, ti4, rfl, by decide⟩, ⟨⟨Go.Proofs.Tryz.underlying120, _, _, ti2, rfl, by decide⟩, trivial⟩⟩⟩⟩⟩⟩⟩⟩⟩⟩⟩⟩
 str := ⟨Go.Proofs.Tryz.underlying9, trivial⟩
 bool := ⟨Go.Proofs.Tryz.underlying4, trivial⟩
 ik := ⟨Go.Proofs.Tryz.underlying3, ⟨Go.Proofs.Tryz.underlying49, trivial⟩⟩
 inf := ⟨⟨_, ti2, fun X c σ => RG.cns rfl a3q (RG.nl)⟩, ⟨⟨_, ti3, fun X c σ => RG.cns rfl a3q (RG.nl)⟩, ⟨⟨_, ti4, fun X c σ => RG.cns rfl a50 (RG.nl)⟩, ⟨⟨_, ti9, fun X c σ => RG.cns rfl b5v (RG.nl)⟩, ⟨⟨_, c6t, fun X c σ => RG.cns rfl a2W (RG.nl)⟩, ⟨⟨_, c7V, fun X c σ => RG.cns rfl a2W (RG.nl)⟩, ⟨⟨_, c7P, fun X c σ => RG.cns rfl a2W (RG.nl)⟩, ⟨⟨_, c7Y, fun X c σ => RG.cns rfl a2W (RG.nl)⟩, ⟨⟨_, c6i, fun X c σ => RG.cns rfl a3q (RG.cns rfl a3q (RG.cns rfl b5v (RG.cns rfl a2W (RG.cns rfl a2W (RG.cns rfl a2W (RG.cns rfl a2W (RG.nl)))))))⟩, ⟨⟨_, c6g, fun X c σ => RG.cns rfl a2W (RG.cns rfl a50 (RG.cns rfl a3q (RG.cns rfl a3q (RG.cns rfl b5v (RG.cns rfl a2W (RG.cns rfl a2W (RG.cns rfl a2W (RG.cns rfl a2W (RG.nl)))))))))⟩, ⟨⟨_, c8d, fun X c σ => RG.cns rfl a2W (RG.nl)⟩, ⟨⟨_, c76, fun X c σ => RG.cns rfl a2W (RG.cns rfl a3q (RG.nl))⟩, ⟨⟨_, c6q, fun X c σ => RG.cns rfl a2W (RG.cns rfl a2W (RG.cns rfl a50 (RG.nl)))⟩, ⟨⟨_, c6H, fun X c σ => RG.cns rfl a2W (RG.cns rfl a50 (RG.cns rfl a2W (RG.cns rfl a2W (RG.cns rfl a50 (RG.nl)))))⟩, ⟨⟨_, c79, fun X c σ => RG.cns rfl a2W (RG.nl)⟩, ⟨⟨_, c7U, fun X c σ => RG.cns rfl a3q (RG.cns rfl a3q (RG.nl))⟩, ⟨⟨_, c6m, fun X c σ => RG.cns rfl a3q (RG.cns rfl a3q (RG.cns rfl a3q (RG.cns rfl b5v (RG.cns rfl a2W (RG.cns rfl a2W (RG.cns rfl a3q (RG.cns rfl a3q (RG.nl))))))))⟩, ⟨⟨_, c7Z, fun X c σ => RG.cns rfl a2W (RG.cns rfl a3q (RG.nl))⟩, ⟨⟨_, c7J, fun X c σ => RG.cns rfl c7i (RG.nl)⟩, ⟨⟨_, c4V, fun X c σ => RG.cns rfl a3q (RG.cns rfl b5v (RG.nl))⟩, ⟨⟨_, c4Y, fun X c σ => RG.cns rfl a3q (RG.cns rfl b5v (RG.cns rfl a3q (RG.cns rfl a50 (RG.nl))))⟩, ⟨⟨_, c7y, fun X c σ => RG.cns rfl a50 (RG.cns rfl a50 (RG.cns rfl a50 (RG.cns rfl a50 (RG.cns rfl a50 (RG.nl)))))⟩, trivial⟩⟩⟩⟩⟩⟩⟩⟩⟩⟩⟩⟩⟩⟩⟩⟩⟩⟩⟩⟩⟩⟩
 st := ⟨.inl ⟨_, Go.Proofs.Tryz.underlying28, by kernel_rfl⟩, ⟨.inl ⟨_, Go.Proofs.Tryz.underlying30, by kernel_rfl⟩, ⟨.inl ⟨_, Go.Proofs.Tryz.underlying36, by kernel_rfl⟩, ⟨.inl ⟨_, Go.Proofs.Tryz.underlying47, by kernel_rfl⟩, ⟨.inl ⟨_, Go.Proofs.Tryz.underlying57, by kernel_rfl⟩, ⟨.inr (c6j Go.Proofs.Tryz.underlying70 ti3 rfl), ⟨.inl ⟨_, Go.Proofs.Tryz.underlying72, by kernel_rfl⟩, ⟨.inl ⟨_, Go.Proofs.Tryz.underlying76, by kernel_rfl⟩, ⟨.inl ⟨_, Go.Proofs.Tryz.underlying114, by kernel_rfl⟩, ⟨.inl ⟨_, Go.Proofs.Tryz.underlying132, by kernel_rfl⟩, ⟨.inl ⟨_, Go.Proofs.Tryz.underlying153, by kernel_rfl⟩, trivial⟩⟩⟩⟩⟩⟩⟩⟩⟩⟩⟩
 eq := ⟨fun X c σ ls ms r cs ds h1 h2 h3 => eqT 70 b0J (fun h k => c8h h k) (by kernel_rfl) (by decide) h1 h2 h3, ⟨fun X c σ ls ms r cs ds h1 h2 h3 => eqT 114 a7b (fun h k => c7A h k) (by kernel_rfl) (by decide) h1 h2 h3, trivial⟩⟩
 arr := ⟨⟨Go.Proofs.Tryz.underlying70, by kernel_rfl⟩, trivial⟩
 fb := ⟨⟨_, _, Go.Proofs.Tryz.func62, rfl, by kernel_rfl⟩, ⟨⟨_, _, Go.Proofs.Tryz.func63, rfl, by kernel_rfl⟩, ⟨⟨_, _, Go.Proofs.Tryz.func113, rfl, by kernel_rfl⟩, ⟨⟨_, _, Go.Proofs.Tryz.func114, rfl, by kernel_rfl⟩, ⟨⟨_, _, Go.Proofs.Tryz.func116, rfl, by kernel_rfl⟩, ⟨⟨_, _, Go.Proofs.Tryz.func119, rfl, by kernel_rfl⟩, ⟨⟨_, _, Go.Proofs.Tryz.func120, rfl, by kernel_rfl⟩, ⟨⟨_, _, Go.Proofs.Tryz.func126, rfl, by kernel_rfl⟩, ⟨⟨_, _, Go.Proofs.Tryz.func140, rfl, by kernel_rfl⟩, ⟨⟨_, _, Go.Proofs.Tryz.func141, rfl, by kernel_rfl⟩, ⟨⟨_, _, Go.Proofs.Tryz.func143, rfl, by kernel_rfl⟩, ⟨⟨_, _, Go.Proofs.Tryz.func144, rfl, by kernel_rfl⟩, ⟨⟨_, _, Go.Proofs.Tryz.func146, rfl, by kernel_rfl⟩, ⟨⟨_, _, Go.Proofs.Tryz.func165, rfl, by kernel_rfl⟩, ⟨⟨_, _, Go.Proofs.Tryz.func170, rfl, by kernel_rfl⟩, trivial⟩⟩⟩⟩⟩⟩⟩⟩⟩⟩⟩⟩⟩⟩⟩
theorem z7 : TabOk Go.Proofs.Tryz.prog tb := c4I c6u
theorem mixed : (Go.Proofs.Tryz.prog).follows .mixedOrders = true := by kernel_rfl
end Go.Qx
end
section
namespace Go.Pl
open Go Go.RowKit Go.Sx Go.Qx Go.Proofs.YtdipagkcdpcnbaaGreat
def a2t (w : World) : S := ⟨w, fun b => match w.heap[b]? with | some (.cells c _ _) => (c.size, 0) | _ => (0, 0)⟩
theorem c1V {w : World} {b o : Nat} {cs : List Value} (hn : cs ≠ []) (h : w.rangeAt b o cs) : a2L (a2t w) b o cs := by
 refine ⟨?_, h⟩
 have hl : 0 < cs.length := List.length_pos_iff.2 hn
 have hj := h (cs.length - 1) _ (List.getElem?_eq_getElem (by omega))
 unfold World.cell? at hj
 simp only at hj
 split at hj
 ·rename_i c e f hb
  have h2 : o + (cs.length - 1) < c.size := by
   simp only [Option.isSome_none, Bool.false_eq_true, if_false] at hj
   exact (Array.getElem?_eq_some_iff.1 hj).1
  show o + cs.length <= (match w.heap[b]? with | some (.cells c _ _) => (c.size, 0) | _ => (0, 0)).1
  rw [hb]
  show o + cs.length <= c.size
  omega
 ·cases hj
theorem c1J {w : World} {base : Nat} {a : Addr} {n : Nat} {cs : List Value} (h : w.cells? base a n = some cs) :
 cs.length = n /\ ∀ (i : Nat) (v : Value), cs[i]? = some v -> w.cell? (a.add i) = some v := by
 unfold World.cells? at h
 split at h
 ·have hl : cs.length = n := by simpa using mapM_some_length h
  refine ⟨hl, fun i v hv => ?_⟩
  have hi : i < n := by have := (List.getElem?_eq_some_iff.1 hv).1; omega
  have := mapM_some_get h i i (by simp [hi])
  rw [this, hv]
 ·cases h
theorem c5T (a : Addr) (x j : Nat) : (a.add x).add j = a.add (x + j) := by
 unfold Addr.add
 by_cases hx : x = 0
 ·subst hx; simp
 ·by_cases hj : j = 0
  ·subst hj; simp [hx]
  ·rw [if_neg hj, if_neg hx, if_neg (by omega), Nat.add_assoc]
theorem c2I {w : World} {a : Addr} {v : Value} (h : w.cell? a = some v) : a.spot = none := by
 unfold World.cell? at h
 split at h
 ·split at h
  ·cases h
  ·rename_i hs; simpa using hs
 ·cases h
section
variable {H : Type} {enc : TypeId × Value -> H} {P : Program} {w : World} {base : Nat} {spare : Nat -> Bool} {held : Bool}
theorem a7K {α : Type} [Rp α] {fuel : Nat} {t e : TypeId} {cs : List Value} {x : DataW H × List MemPlace} (ht : P.underlying t = some (.slice e)) (hc : P.cellsOf e = Rp.sz α) (bk : α -> Nat)
 (hrd : ∀ (n : Nat) (cs : List Value) (x : DataW H × List MemPlace), n < fuel -> DataW.trod enc P w base spare held n e cs = some x -> ∃ d : α, Rp.cells (a2t w) d cs /\ bk d <= Rows.uptoBulk x.1)
 (h : DataW.trod enc P w base spare held fuel t cs = some x) :
 ∃ (ds : List α) (A : Option Addr) (c : Nat), cs = [.slice A ds.length c] /\ Sl (a2t w) ds A c /\ (ds.map bk).sum + 1 <= Rows.uptoBulk x.1 := by
 rcases DataW.trod_slice ht h with ⟨rfl, rfl⟩ | ⟨a, len, cap, elems, rest, n, rfl, rfl, rfl, hb, hl, hm, hle, hget, -, -⟩
 ·exact ⟨[], none, 0, rfl, Sl.nil_ _ _ _ (Nat.zero_le _), by simp [Rows.uptoBulk]⟩
 have key : ∀ (m i : Nat), i + m = len -> ∃ (ds : List α) (cs : List Value), ds.length = m /\ W0 (a2t w) ds cs /\
  (∀ (j : Nat) (v : Value), cs[j]? = some v -> w.cell? (a.add (i * Rp.sz α + j)) = some v) /\ (ds.map bk).sum <= Rows.uptoBulkAll ((elems.drop i).map (·.1)) := by
  intro m
  induction m with
  | zero => intro i _; exact ⟨[], [], rfl, rfl, fun j v hv => by simp at hv, by simp⟩
  | succ m ih =>
    intro i hi
    obtain ⟨ds, cs, h1, h2, h3, h4⟩ := ih (i + 1) (by omega)
    have hlt : i < elems.length := by omega
    have hg := hget i (by omega)
    rw [List.getElem?_eq_getElem hlt, Option.bind_eq_some_iff] at hg
    obtain ⟨cs0, hcs, htr⟩ := hg
    obtain ⟨d, hd, hbk⟩ := hrd n cs0 _ (by omega) htr
    obtain ⟨hcl, hci⟩ := c1J hcs
    rw [hc] at hcl hci
    refine ⟨d :: ds, cs0 ++ cs, by simp [h1], ⟨cs0, cs, rfl, hd, h2⟩, ?_, ?_⟩
    ·intro j v hv
     by_cases hj : j < Rp.sz α
     ·rw [List.getElem?_append_left (by omega)] at hv
      rw [<- c5T]
      exact hci j v hv
     ·rw [List.getElem?_append_right (by omega)] at hv
      have := h3 _ v hv
      rw [hcl, Nat.add_mul, Nat.one_mul] at this
      have e : i * Rp.sz α + Rp.sz α + (j - Rp.sz α) = i * Rp.sz α + j := by omega
      rw [e] at this
      exact this
    ·rw [List.drop_eq_getElem_cons hlt]
     simp only [List.map_cons, List.sum_cons, Rows.uptoBulkAll]
     omega
 obtain ⟨ds, cs, h1, h2, h3, h4⟩ := key len 0 (by omega)
 simp only [Nat.zero_mul, Nat.zero_add, List.drop_zero] at h3 h4
 refine ⟨ds, some a, cap, by rw [h1], ⟨by omega, hm, cs, h2, fun hn => ?_⟩, by simp only [Rows.uptoBulk]; omega⟩
 have hne := h2.ne_nil hn
 cases cs with
 | nil => exact absurd rfl hne
 | cons v0 r =>
   have h0 := h3 0 v0 rfl
   have hs : a.spot = none := c2I (by simpa [Addr.add] using h0)
   obtain ⟨b, o, sp⟩ := a
   simp only at hs
   subst hs
   refine ⟨b, o, rfl, c1V (by simp) ?_⟩
   intro j v hv
   have := h3 j v hv
   unfold Addr.add at this
   by_cases hj : j = 0
   ·subst hj; simpa using this
   ·rw [if_neg hj] at this
    exact this
end
theorem c6w {α : Type} {l : List α} (h : l.length = 2) : ∃ a b, l = [a, b] := by
 match l, h with
 | [a, b], _ => exact ⟨a, b, rfl⟩
theorem c1f (s : ByteArray) : s.data.toList.length = s.size := Array.length_toList
end Go.Pl
end
section
namespace Go.Pl
open Go Go.RowKit Go.Sx Go.Qx Go.Proofs.YtdipagkcdpcnbaaGreat
theorem c6Q : Go.Proofs.Tryz.prog.cellsOf 114 = 2 := by kernel_rfl
theorem c9 : Go.Proofs.Tryz.prog.cellsOf 9 = 1 := by kernel_rfl
theorem c2 : Go.Proofs.Tryz.prog.cellsOf 2 = 1 := by kernel_rfl
theorem c4 : Go.Proofs.Tryz.prog.cellsOf 4 = 1 := by kernel_rfl
theorem c3 : Go.Proofs.Tryz.prog.cellsOf 3 = 1 := by kernel_rfl
theorem c22 : Go.Proofs.Tryz.prog.cellsOf 22 = 1 := by kernel_rfl
section
variable {H : Type} {enc : TypeId × Value -> H} {w : World} {base : Nat} {spare : Nat -> Bool} {held : Bool}
theorem c4a {n : Nat} {cs : List Value} {x : DataW H × List MemPlace} (h : DataW.trod enc Go.Proofs.Tryz.prog w base spare held n 9 cs = some x) :
 ∃ d : ByteArray, Rp.cells (a2t w) d cs /\ a0Y d <= Rows.uptoBulk x.1 := by
 obtain ⟨s, rfl, rfl, _⟩ := DataW.trod_string Go.Proofs.Tryz.underlying9 h
 refine ⟨s, rfl, ?_⟩
 simp only [Rows.uptoBulk, a0Y]
 have : s.data.toList.length = s.size := c1f s
 omega
theorem c4g {n : Nat} {cs : List Value} {x : DataW H × List MemPlace} (h : DataW.trod enc Go.Proofs.Tryz.prog w base spare held n 114 cs = some x) :
 ∃ d : Key, Rp.cells (a2t w) d cs /\ a2y d <= Rows.uptoBulk x.1 := by
 obtain ⟨xs, n, rfl, rfl, hl, hx, hf⟩ := DataW.trod_struct Go.Proofs.Tryz.underlying114 h
 rw [c6Q] at hl
 have hx : xs.length = 2 := hx
 obtain ⟨v0, v1, rfl⟩ := c6w hl
 obtain ⟨x0, x1, rfl⟩ := c6w hx
 have f0 : DataW.trod enc Go.Proofs.Tryz.prog w base spare held n 3 (([v0, v1].drop 0).take (Go.Proofs.Tryz.prog.cellsOf 3)) = [x0, x1][0]? := hf 0 _ rfl
 have f1 : DataW.trod enc Go.Proofs.Tryz.prog w base spare held n 9 (([v0, v1].drop 1).take (Go.Proofs.Tryz.prog.cellsOf 9)) = [x0, x1][1]? := hf 1 _ rfl
 rw [c3] at f0
 rw [c9] at f1
 obtain ⟨k, e0, rfl, _⟩ := DataW.trod_int Go.Proofs.Tryz.underlying3 (x := x0) f0
 obtain ⟨s, e1, hb⟩ := c4a (x := x1) f1
 obtain rfl : v0 = .int .i64 k := by simpa using e0
 have e1' : [v1] = [Value.string s] := e1
 obtain rfl : v1 = .string s := by simpa using e1'
 refine ⟨⟨k, s⟩, rfl, ?_⟩
 simp only [a2y, Rows.uptoBulk, Rows.uptoBulkAll, List.map_cons, List.map_nil]
 omega
end
end Go.Pl
end
section
namespace Go.Qx
open Go Go.RowKit Go.Sx
set_option maxHeartbeats 1600000
set_option maxRecDepth 100000
def c08 : Row I := ⟨210, [.d (.str), .d (.str)], [.k (.d (.int .i64))], b98⟩
theorem c6P : y3 Go.Proofs.Tryz.prog c08 := c54 Go.Proofs.Tryz.func210 (by kernel_rfl) rfl (by kernel_rfl) (by kernel_rfl)
def b4v : Row I := ⟨41, [.d (.sl 3)], [.k (.row 3 false)], a2m 8⟩
theorem b87 : y3 Go.Proofs.Tryz.prog b4v := b9J z7 mixed Go.Proofs.Tryz.func41 (by kernel_rfl) (by kernel_rfl) (by kernel_rfl) Go.Proofs.Tryz.underlying22 rfl (by kernel_rfl) (fun _ => by kernel_rfl)
def c1a : Rio I := ⟨151, 3, [], [], b8l⟩
theorem c6J : c1B Go.Proofs.Tryz.prog c1a := c26 (I := I) (E := 3) Go.Proofs.Tryz.lay151 151 (by kernel_rfl) (fun x => x) Iff.rfl ⟨_, _, Go.Proofs.Tryz.func151, rfl, by kernel_rfl⟩
def c1c : Row I := ⟨158, [.d (.sl 28)], [.k (.row 28 false)], a2m 128⟩
theorem c6c : y3 Go.Proofs.Tryz.prog c1c := b9J z7 mixed Go.Proofs.Tryz.func158 (by kernel_rfl) (by kernel_rfl) (by kernel_rfl) Go.Proofs.Tryz.underlying23 rfl (by kernel_rfl) (fun _ => by kernel_rfl)
def b3a : Hints I where
 tds := fun i => (asc [] i).getD []
 spl := fun i => (asc [] i).getD []
 pre := fun i => (asc [] i).getD []
 join := asc []
 loop := asc [(26, ⟨65532, [], [], [(3, .k (.d (.int .i64)))], [((.exit 0), []), (.ret, [(2, .k (.d (.bool)))])], bnd tb (.len (.slot 0)) 1⟩)]
 keep := asc []
def a6H : Row I := ⟨8, [.d (.sl 22)], [.k (.d (.bool))], a3Z⟩
theorem b2w : y3 Go.Proofs.Tryz.prog (a6H) :=
 j7 z7 (j0 (es := []) trivial 3) mixed 16 (fn := Go.Proofs.Tryz.f8) (cd := k8 Go.Proofs.Tryz.f8) (H := b3a) (rl := [.tmp 2]) Go.Proofs.Tryz.func8 (by kernel_rfl) (by kernel_rfl) (by kernel_rfl) (by kernel_rfl) (by kernel_rfl) (by kernel_rfl) (by kernel_rfl)
def b51 : Hints I where
 tds := fun i => (asc [] i).getD []
 spl := fun i => (asc [] i).getD []
 pre := fun i => (asc [] i).getD []
 join := asc []
 loop := asc []
 keep := asc []
def a0E : Row I := ⟨28, [], [.k (.d (.dat 28))], W4⟩
theorem a1t : y3 Go.Proofs.Tryz.prog (a0E) :=
 j7 z7 (j0 (es := []) trivial 3) mixed 2 (fn := Go.Proofs.Tryz.f28) (cd := k8 Go.Proofs.Tryz.f28) (H := b51) (rl := [.cell 0 28]) Go.Proofs.Tryz.func28 (by kernel_rfl) (by kernel_rfl) (by kernel_rfl) (by kernel_rfl) (by kernel_rfl) (by kernel_rfl) (by kernel_rfl)
def b3w : Hints I where
 tds := fun i => (asc [] i).getD []
 spl := fun i => (asc [] i).getD []
 pre := fun i => (asc [] i).getD []
 join := asc [(29, ⟨16776824, [], [], [(.normal, [(3, .k (.d (.bool))), (4, .k (.d (.bool))), (5, .k (.d (.bool))), (6, .k (.d (.bool)))])]⟩),
  (941, ⟨26624, [], [], [(.normal, [(11, .k (.d (.bool)))])]⟩),
  (3773, ⟨4096000, [], [], [(.normal, [(15, .k (.d (.bool)))])]⟩)]
 loop := asc []
 keep := asc []
def a6M : Row I := ⟨57, [.d (.dat 72)], [.k (.d (.bool))], a3N⟩
theorem b1Z : y3 Go.Proofs.Tryz.prog (a6M) :=
 j7 z7 (j0 (es := []) trivial 3) mixed 67 (fn := Go.Proofs.Tryz.f57) (cd := k8 Go.Proofs.Tryz.f57) (H := b3w) (rl := [.tmp 2]) Go.Proofs.Tryz.func57 (by kernel_rfl) (by kernel_rfl) (by kernel_rfl) (by kernel_rfl) (by kernel_rfl) (by kernel_rfl) (by kernel_rfl)
def b8r : Hints I where
 tds := fun i => (asc [] i).getD []
 spl := fun i => (asc [] i).getD []
 pre := fun i => (asc [] i).getD []
 join := asc []
 loop := asc [(58, ⟨34351349952, [], [], [(7, .k (.d (.int .i64)))], [((.exit 0), []), (.ret, [(6, .k (.d (.bool)))])], bnd tb (.len (.slot 0)) 1⟩)]
 keep := asc []
def a63 : Row I := ⟨139, [.d (.str), .fn [.int .u8] [.k (.d (.bool))], .fn [.int .u8] [.k (.d (.bool))]], [.k (.d (.bool))], a5Q⟩
theorem b05 : y3 Go.Proofs.Tryz.prog (a63) :=
 j7 z7 (j0 (es := []) trivial 3) mixed 35 (fn := Go.Proofs.Tryz.f139) (cd := k8 Go.Proofs.Tryz.f139) (H := b8r) (rl := [.tmp 6]) Go.Proofs.Tryz.func139 (by kernel_rfl) (by kernel_rfl) (by kernel_rfl) (by kernel_rfl) (by kernel_rfl) (by kernel_rfl) (by kernel_rfl)
def b7f : Hints I where
 tds := fun i => (asc [] i).getD []
 spl := fun i => (asc [] i).getD []
 pre := fun i => (asc [] i).getD []
 join := asc []
 loop := asc []
 keep := asc []
def a4b : Row I := ⟨140, [.d (.int .u8)], [.k (.d (.bool))], a3K⟩
theorem a62 : y3 Go.Proofs.Tryz.prog (a4b) :=
 j7 z7 (j0 (es := []) trivial 3) mixed 9 (fn := Go.Proofs.Tryz.f140) (cd := k8 Go.Proofs.Tryz.f140) (H := b7f) (rl := [.tmp 2]) Go.Proofs.Tryz.func140 (by kernel_rfl) (by kernel_rfl) (by kernel_rfl) (by kernel_rfl) (by kernel_rfl) (by kernel_rfl) (by kernel_rfl)
def b7o : Hints I where
 tds := fun i => (asc [] i).getD []
 spl := fun i => (asc [] i).getD []
 pre := fun i => (asc [] i).getD []
 join := asc []
 loop := asc []
 keep := asc []
def a6u : Row I := ⟨142, [.d (.int .u8)], [.k (.d (.bool))], a5k⟩
theorem b0O : y3 Go.Proofs.Tryz.prog (a6u) :=
 j7 z7 (j0 (es := []) trivial 3) mixed 9 (fn := Go.Proofs.Tryz.f142) (cd := k8 Go.Proofs.Tryz.f142) (H := b7o) (rl := [.tmp 2]) Go.Proofs.Tryz.func142 (by kernel_rfl) (by kernel_rfl) (by kernel_rfl) (by kernel_rfl) (by kernel_rfl) (by kernel_rfl) (by kernel_rfl)
def b6h : Hints I where
 tds := fun i => (asc [] i).getD []
 spl := fun i => (asc [] i).getD []
 pre := fun i => (asc [] i).getD []
 join := asc []
 loop := asc []
 keep := asc []
def a8X : Row I := ⟨141, [.d (.int .u8)], [.k (.d (.bool))], a8w⟩
theorem b50 : y3 Go.Proofs.Tryz.prog (a8X) :=
 j7 z7 (j0 (es := [j6 tb (a4b), j6 tb (a6u)]) ⟨z8 z7 a62, ⟨z8 z7 b0O, trivial⟩⟩ 3) mixed 13 (fn := Go.Proofs.Tryz.f141) (cd := k8 Go.Proofs.Tryz.f141) (H := b6h) (rl := [.tmp 2]) Go.Proofs.Tryz.func141 (by kernel_rfl) (by kernel_rfl) (by kernel_rfl) (by kernel_rfl) (by kernel_rfl) (by kernel_rfl) (by kernel_rfl)
def b8d : Hints I where
 tds := fun i => (asc [] i).getD []
 spl := fun i => (asc [] i).getD []
 pre := fun i => (asc [] i).getD []
 join := asc []
 loop := asc []
 keep := asc []
def a4T : Row I := ⟨103, [.d (.str)], [.k (.d (.bool))], a4B⟩
theorem a7C : y3 Go.Proofs.Tryz.prog (a4T) :=
 j7 z7 (j0 (es := [j6 tb (a63), j6 tb (a4b), j6 tb (a8X)]) ⟨z8 z7 b05, ⟨z8 z7 a62, ⟨z8 z7 b50, trivial⟩⟩⟩ 3) mixed 5 (fn := Go.Proofs.Tryz.f103) (cd := k8 Go.Proofs.Tryz.f103) (H := b8d) (rl := [.tmp 2]) Go.Proofs.Tryz.func103 (by kernel_rfl) (by kernel_rfl) (by kernel_rfl) (by kernel_rfl) (by kernel_rfl) (by kernel_rfl) (by kernel_rfl)
def b7s : Hints I where
 tds := fun i => (asc [] i).getD []
 spl := fun i => (asc [] i).getD []
 pre := fun i => (asc [] i).getD []
 join := asc []
 loop := asc []
 keep := asc []
def a6q : Row I := ⟨143, [.d (.int .u8)], [.k (.d (.bool))], a5e⟩
theorem b0m : y3 Go.Proofs.Tryz.prog (a6q) :=
 j7 z7 (j0 (es := []) trivial 3) mixed 9 (fn := Go.Proofs.Tryz.f143) (cd := k8 Go.Proofs.Tryz.f143) (H := b7s) (rl := [.tmp 2]) Go.Proofs.Tryz.func143 (by kernel_rfl) (by kernel_rfl) (by kernel_rfl) (by kernel_rfl) (by kernel_rfl) (by kernel_rfl) (by kernel_rfl)
def b3B : Hints I where
 tds := fun i => (asc [] i).getD []
 spl := fun i => (asc [] i).getD []
 pre := fun i => (asc [] i).getD []
 join := asc []
 loop := asc []
 keep := asc []
def a6B : Row I := ⟨144, [.d (.int .u8)], [.k (.d (.bool))], a5T⟩
theorem b2M : y3 Go.Proofs.Tryz.prog (a6B) :=
 j7 z7 (j0 (es := [j6 tb (a4b), j6 tb (a6q), j6 tb (a6u)]) ⟨z8 z7 a62, ⟨z8 z7 b0m, ⟨z8 z7 b0O, trivial⟩⟩⟩ 3) mixed 17 (fn := Go.Proofs.Tryz.f144) (cd := k8 Go.Proofs.Tryz.f144) (H := b3B) (rl := [.tmp 2]) Go.Proofs.Tryz.func144 (by kernel_rfl) (by kernel_rfl) (by kernel_rfl) (by kernel_rfl) (by kernel_rfl) (by kernel_rfl) (by kernel_rfl)
def b4B : Hints I where
 tds := fun i => (asc [] i).getD []
 spl := fun i => (asc [] i).getD []
 pre := fun i => (asc [] i).getD []
 join := asc []
 loop := asc []
 keep := asc []
def a45 : Row I := ⟨104, [.d (.str)], [.k (.d (.bool))], a3m⟩
theorem a8d : y3 Go.Proofs.Tryz.prog (a45) :=
 j7 z7 (j0 (es := [j6 tb (a63), j6 tb (a6q), j6 tb (a6B)]) ⟨z8 z7 b05, ⟨z8 z7 b0m, ⟨z8 z7 b2M, trivial⟩⟩⟩ 3) mixed 5 (fn := Go.Proofs.Tryz.f104) (cd := k8 Go.Proofs.Tryz.f104) (H := b4B) (rl := [.tmp 2]) Go.Proofs.Tryz.func104 (by kernel_rfl) (by kernel_rfl) (by kernel_rfl) (by kernel_rfl) (by kernel_rfl) (by kernel_rfl) (by kernel_rfl)
def b6q : Hints I where
 tds := fun i => (asc [] i).getD []
 spl := fun i => (asc [] i).getD []
 pre := fun i => (asc [] i).getD []
 join := asc []
 loop := asc []
 keep := asc []
def a5Y : Row I := ⟨145, [.d (.dat 114)], [.k (.d (.bool))], a4j⟩
theorem a9M : y3 Go.Proofs.Tryz.prog (a5Y) :=
 j7 z7 (j0 (es := [j6 tb (a4T)]) ⟨z8 z7 a7C, trivial⟩ 3) mixed 16 (fn := Go.Proofs.Tryz.f145) (cd := k8 Go.Proofs.Tryz.f145) (H := b6q) (rl := [.tmp 2]) Go.Proofs.Tryz.func145 (by kernel_rfl) (by kernel_rfl) (by kernel_rfl) (by kernel_rfl) (by kernel_rfl) (by kernel_rfl) (by kernel_rfl)
def b7F : Hints I where
 tds := fun i => (asc [] i).getD []
 spl := fun i => (asc [] i).getD []
 pre := fun i => (asc [] i).getD []
 join := asc []
 loop := asc []
 keep := asc []
def a9I : Row I := ⟨193, [.d (.int .i64)], [.k (.d (.bool))], a6V⟩
theorem b6C : y3 Go.Proofs.Tryz.prog (a9I) :=
 j7 z7 (j0 (es := []) trivial 3) mixed 6 (fn := Go.Proofs.Tryz.f193) (cd := k8 Go.Proofs.Tryz.f193) (H := b7F) (rl := [.tmp 2]) Go.Proofs.Tryz.func193 (by kernel_rfl) (by kernel_rfl) (by kernel_rfl) (by kernel_rfl) (by kernel_rfl) (by kernel_rfl) (by kernel_rfl)
def b5U : Hints I where
 tds := fun i => (asc [] i).getD []
 spl := fun i => (asc [] i).getD []
 pre := fun i => (asc [] i).getD []
 join := asc []
 loop := asc []
 keep := asc []
def a0D : Row I := ⟨169, [.d (.int .i64), .d (.int .i64)], [.k (.d (.int .i64))], a0K⟩
theorem a1s : y3 Go.Proofs.Tryz.prog (a0D) :=
 j7 z7 (j0 (es := [j6 tb (a9I)]) ⟨z8 z7 b6C, trivial⟩ 3) mixed 20 (fn := Go.Proofs.Tryz.f169) (cd := k8 Go.Proofs.Tryz.f169) (H := b5U) (rl := [.tmp 4]) Go.Proofs.Tryz.func169 (by kernel_rfl) (by kernel_rfl) (by kernel_rfl) (by kernel_rfl) (by kernel_rfl) (by kernel_rfl) (by kernel_rfl)
def a64 : Hints I where
 tds := fun i => (asc [] i).getD []
 spl := fun i => (asc [] i).getD []
 pre := fun i => (asc [] i).getD []
 join := asc []
 loop := asc []
 keep := asc []
def a2P : Row I := ⟨194, [.d (.str), .d (.str)], [.k (.d (.int .i64))], a1E⟩
theorem a6N : y3 Go.Proofs.Tryz.prog (a2P) :=
 j7 z7 (j0 (es := [j6 tb c08]) ⟨z8 z7 c6P, trivial⟩ 3) mixed 8 (fn := Go.Proofs.Tryz.f194) (cd := k8 Go.Proofs.Tryz.f194) (H := a64) (rl := [.tmp 4]) Go.Proofs.Tryz.func194 (by kernel_rfl) (by kernel_rfl) (by kernel_rfl) (by kernel_rfl) (by kernel_rfl) (by kernel_rfl) (by kernel_rfl)
def b5Y : Hints I where
 tds := fun i => (asc [] i).getD []
 spl := fun i => (asc [] i).getD []
 pre := fun i => (asc [] i).getD []
 join := asc []
 loop := asc []
 keep := asc []
def a3A : Row I := ⟨170, [.d (.str), .d (.str)], [.k (.d (.int .i64))], a1C⟩
theorem a5E : y3 Go.Proofs.Tryz.prog (a3A) :=
 j7 z7 (j0 (es := [j6 tb (a2P)]) ⟨z8 z7 a6N, trivial⟩ 3) mixed 8 (fn := Go.Proofs.Tryz.f170) (cd := k8 Go.Proofs.Tryz.f170) (H := b5Y) (rl := [.tmp 4]) Go.Proofs.Tryz.func170 (by kernel_rfl) (by kernel_rfl) (by kernel_rfl) (by kernel_rfl) (by kernel_rfl) (by kernel_rfl) (by kernel_rfl)
def b3Y : Hints I where
 tds := fun i => (asc [] i).getD []
 spl := fun i => (asc [] i).getD []
 pre := fun i => (asc [] i).getD []
 join := asc []
 loop := asc []
 keep := asc []
def a2B : Row I := ⟨146, [.d (.dat 114), .d (.dat 114)], [.k (.d (.int .i64))], a1O⟩
theorem a49 : y3 Go.Proofs.Tryz.prog (a2B) :=
 j7 z7 (j0 (es := [j6 tb (a0D), j6 tb (a3A)]) ⟨z8 z7 a1s, ⟨z8 z7 a5E, trivial⟩⟩ 3) mixed 19 (fn := Go.Proofs.Tryz.f146) (cd := k8 Go.Proofs.Tryz.f146) (H := b3Y) (rl := [.tmp 4]) Go.Proofs.Tryz.func146 (by kernel_rfl) (by kernel_rfl) (by kernel_rfl) (by kernel_rfl) (by kernel_rfl) (by kernel_rfl) (by kernel_rfl)
def b1I : Hints I where
 tds := fun i => (asc [(4, [[], [0], [0, 1], [0, 1, 2], [0, 1, 2, 3], [0, 1, 2, 3, 4], [0, 1, 2, 3, 4, 5], [0, 1, 2, 3, 4, 5, 6], [0, 1, 2, 3, 4, 5, 6, 7], [0, 1, 2, 3, 4, 5, 6, 7], [0, 1, 2, 3, 4, 5, 6, 7, 9], [0, 1, 2, 3, 4, 5, 6, 7, 8, 9, 10], [0, 1, 2, 3, 4, 5, 6, 7, 8, 9, 10, 11], [0, 1, 2, 3, 4, 5, 6, 7, 8, 9, 10, 11, 12], [0, 1, 2, 3, 4, 5, 6, 7], [0, 1, 2, 3, 4, 5, 6, 7, 14], [0, 1, 2, 3, 4, 5, 6, 7, 8, 9, 10, 11, 12, 13, 14, 15], [0, 1, 2, 3, 4, 5, 6, 7, 8, 9, 10, 11, 12, 13, 14, 15, 16], [0, 1, 2, 3, 4, 5, 6, 7, 8, 9, 10, 11, 12, 13, 14, 15, 16, 17], [0, 1, 2, 3, 4, 5, 6, 7, 8, 9, 10, 11, 12, 13, 14, 15, 16, 17, 18]])] i).getD []
 spl := fun i => (asc [] i).getD []
 pre := fun i => (asc [] i).getD []
 join := asc []
 loop := asc [(26, ⟨8589934492, [], [], [(7, .k (.d (.int .i64)))], [((.exit 0), []), (.ret, [(2, .k (.d (.bool)))])], bnd tb (.slot 6) 1⟩)]
 keep := asc []
def a5X : Row I := ⟨105, [.d (.sl 132)], [.k (.d (.bool))], a2S⟩
theorem b0Y : y3 Go.Proofs.Tryz.prog (a5X) :=
 j7 z7 (j0 (es := [j6 tb (a5Y), j6 tb (a2B)]) ⟨z8 z7 a9M, ⟨z8 z7 a49, trivial⟩⟩ 3) mixed 33 (fn := Go.Proofs.Tryz.f105) (cd := k8 Go.Proofs.Tryz.f105) (H := b1I) (rl := [.tmp 2]) Go.Proofs.Tryz.func105 (by kernel_rfl) (by kernel_rfl) (by kernel_rfl) (by kernel_rfl) (by kernel_rfl) (by kernel_rfl) (by kernel_rfl)
def b3g : Hints I where
 tds := fun i => (asc [] i).getD []
 spl := fun i => (asc [] i).getD []
 pre := fun i => (asc [] i).getD []
 join := asc [(105, ⟨16288, [], [], [(.normal, [(5, .k (.d (.bool)))])]⟩),
  (28311549, ⟨368934881474191032320, [], [], [(.normal, [(66, .k (.d (.bool)))])]⟩)]
 loop := asc []
 keep := asc []
def a6A : Row I := ⟨58, [.d (.dat 72)], [.k (.d (.bool))], a3T⟩
theorem b2y : y3 Go.Proofs.Tryz.prog (a6A) :=
 j7 z7 (j0 (es := [j6 tb (a4T), j6 tb (a45), j6 tb (a5X)]) ⟨z8 z7 a7C, ⟨z8 z7 a8d, ⟨z8 z7 b0Y, trivial⟩⟩⟩ 3) mixed 79 (fn := Go.Proofs.Tryz.f58) (cd := k8 Go.Proofs.Tryz.f58) (H := b3g) (rl := [.tmp 2]) Go.Proofs.Tryz.func58 (by kernel_rfl) (by kernel_rfl) (by kernel_rfl) (by kernel_rfl) (by kernel_rfl) (by kernel_rfl) (by kernel_rfl)
def b6N : Hints I where
 tds := fun i => (asc [] i).getD []
 spl := fun i => (asc [] i).getD []
 pre := fun i => (asc [] i).getD []
 join := asc []
 loop := asc [(58, ⟨4190248, [], [], [(3, .k (.row 3 false)), (12, .k (.d (.int .i64)))], [((.exit 0), [(3, .k (.row 3 false))])], bnd tb (.slot 11) 1⟩)]
 keep := asc []
def a9h : Row I := ⟨59, [.d (.dat 72)], [.k (.row 3 false)], a57⟩
theorem b5N : y3 Go.Proofs.Tryz.prog (a9h) :=
 j7 z7 (j0 (es := [j6 tb b4v]) ⟨z8 z7 b87, trivial⟩ 3) mixed 35 (fn := Go.Proofs.Tryz.f59) (cd := k8 Go.Proofs.Tryz.f59) (H := b6N) (rl := [.tmp 2]) Go.Proofs.Tryz.func59 (by kernel_rfl) (by kernel_rfl) (by kernel_rfl) (by kernel_rfl) (by kernel_rfl) (by kernel_rfl) (by kernel_rfl)
def b2X : Hints I where
 tds := fun i => (asc [] i).getD []
 spl := fun i => (asc [] i).getD []
 pre := fun i => (asc [] i).getD []
 join := asc []
 loop := asc []
 keep := asc []
def a6E : Row I := ⟨107, [.d (.int .i64)], [.k (.d (.bool))], a3S⟩
theorem b2k : y3 Go.Proofs.Tryz.prog (a6E) :=
 j7 z7 (j0 (es := []) trivial 3) mixed 13 (fn := Go.Proofs.Tryz.f107) (cd := k8 Go.Proofs.Tryz.f107) (H := b2X) (rl := [.tmp 2]) Go.Proofs.Tryz.func107 (by kernel_rfl) (by kernel_rfl) (by kernel_rfl) (by kernel_rfl) (by kernel_rfl) (by kernel_rfl) (by kernel_rfl)
def b0I (_ : Nat) : Hints I where
 tds := fun i => (asc [] i).getD []
 spl := fun i => (asc [] i).getD []
 pre := fun i => (asc [] i).getD []
 join := asc []
 loop := asc [(122, ⟨140462610448544, [], [(1, .k (.row 3 false))], [(38, .k (.d (.int .i64)))], [((.exit 0), []), (.ret, [(5, .k (.d (.bool)))])], bnd tb (.slot 37) 1⟩)]
 keep := asc []
def a0w (n : Nat) : Row I := ⟨106, [.d (.int .i64), .var 22 (.k (.row 3 false)) true, .var 36 (.k (.d (.dat 36))) false, .var 101 (.k (.d .any)) false], [.k (.d (.bool))], Y8 n⟩
theorem a9n (n : Nat) (h_typeexpr_contractive_1 : b0W Go.Proofs.Tryz.prog (a0w n) (b6Y 101 106 3 [1, 2, 3])) : b0W Go.Proofs.Tryz.prog (a0w (n + 1)) (b6Y 101 106 3 [1, 2, 3]) :=
 c5K z7 (j0 (es := [j6 tb (a6E), c2g tb (a0w n) (b5j 101 106 3 [1, 2, 3])]) ⟨z8 z7 b2k, ⟨b6K z7 h_typeexpr_contractive_1 (fun _ _ _ _ _ _ _ _ _ hO h hc hv => b7e hO h hc hv), trivial⟩⟩ 3) mixed 50 (s0 := fun a => c41 101 106 3 3 [1, 2, 3] (b1H tb 50 [.d (.int .i64), .var 22 (.k (.row 3 false)) true, .var 36 (.k (.d (.dat 36))) false, .var 101 (.k (.d .any)) false] a)) (fn := Go.Proofs.Tryz.f106) (cd := k8 Go.Proofs.Tryz.f106) (H := (b0I n)) (rl := [.tmp 5]) (fun X c σ a vs F h hv hC => c4M rfl rfl rfl h hv hC) Go.Proofs.Tryz.func106 (by kernel_rfl) (by kernel_rfl) (by kernel_rfl) (by kernel_rfl) (by kernel_rfl) (by kernel_rfl) (by kernel_rfl)
theorem a5y : ∀ n : Nat, b0W Go.Proofs.Tryz.prog (a0w n) (b6Y 101 106 3 [1, 2, 3])
 | 0 => c2p (J5 (by kernel_rfl))
 | n + 1 => a9n n (a5y n)
def b1v (_ : Nat) : Hints I where
 tds := fun i => (asc [] i).getD []
 spl := fun i => (asc [] i).getD []
 pre := fun i => (asc [] i).getD []
 join := asc []
 loop := asc [(250, ⟨4177956, [], [(3, .k (.row 3 false))], [(14, .k (.d (.int .i64)))], [((.exit 0), []), (.ret, [(2, .k (.d (.bool)))])], bnd tb (.slot 13) 1⟩)]
 keep := asc []
def a5L (n : Nat) : Row I := ⟨60, [.d (.dat 36)], [.k (.d (.bool))], a21 n⟩
theorem b00 (n : Nat) : y3 Go.Proofs.Tryz.prog (a5L n) :=
 j7 z7 (j0 (es := [c2g tb (a0w n) (b5j 101 106 3 [1, 2, 3])]) ⟨b6K z7 (a5y n) (fun _ _ _ _ _ _ _ _ _ hO h hc hv => b7e hO h hc hv), trivial⟩ 3) mixed 22 (fn := Go.Proofs.Tryz.f60) (cd := k8 Go.Proofs.Tryz.f60) (H := (b1v n)) (rl := [.tmp 2]) Go.Proofs.Tryz.func60 (by kernel_rfl) (by kernel_rfl) (by kernel_rfl) (by kernel_rfl) (by kernel_rfl) (by kernel_rfl) (by kernel_rfl)
def b2l (_ : Nat) : Hints I where
 tds := fun i => (asc [] i).getD []
 spl := fun i => (asc [] i).getD []
 pre := fun i => (asc [] i).getD []
 join := asc []
 loop := asc [(58, ⟨2251799811588180, [], [], [(21, .k (.d (.int .i64)))], [((.exit 0), []), (.ret, [(2, .k (.d (.int .i64)))])], bnd tb (.slot 20) 1⟩),
  (29902, ⟨1125831187365956, [34], [], [(36, .k (.d (.int .i64)))], [((.exit 2), []), (.ret, [(2, .k (.d (.int .i64)))])], bnd tb (.slot 35) 1⟩)]
 keep := asc []
def a3F (n : Nat) : Row I := ⟨32, [.d (.dat 36)], [.k (.d (.int .i64))], a1b n⟩
theorem a6T (n : Nat) : y3 Go.Proofs.Tryz.prog (a3F n) :=
 j7 z7 (j0 (es := [j6 tb (a6M), j6 tb (a6A), j6 tb (a9h), j6 tb (a5L n)]) ⟨z8 z7 b1Z, ⟨z8 z7 b2y, ⟨z8 z7 b5N, ⟨z8 z7 (b00 n), trivial⟩⟩⟩⟩ 3) mixed 54 (fn := Go.Proofs.Tryz.f32) (cd := k8 Go.Proofs.Tryz.f32) (H := (b2l n)) (rl := [.tmp 2]) Go.Proofs.Tryz.func32 (by kernel_rfl) (by kernel_rfl) (by kernel_rfl) (by kernel_rfl) (by kernel_rfl) (by kernel_rfl) (by kernel_rfl)
def a9o : Hints I where
 tds := fun i => (asc [] i).getD []
 spl := fun i => (asc [] i).getD []
 pre := fun i => (asc [] i).getD []
 join := asc []
 loop := asc [(26, ⟨524080, [], [], [(8, .k (.d (.int .i64)))], [((.exit 0), []), (.ret, [(4, .k (.d (.int .i64)))])], bnd tb (.slot 7) 1⟩)]
 keep := asc []
def a4w : Row I := ⟨108, [.d (.sl 3), .fn [.int .i64] [.k (.d (.bool))]], [.k (.d (.int .i64))], a3f⟩
theorem a80 : y3 Go.Proofs.Tryz.prog (a4w) :=
 j7 z7 (j0 (es := []) trivial 3) mixed 19 (fn := Go.Proofs.Tryz.f108) (cd := k8 Go.Proofs.Tryz.f108) (H := a9o) (rl := [.tmp 4]) Go.Proofs.Tryz.func108 (by kernel_rfl) (by kernel_rfl) (by kernel_rfl) (by kernel_rfl) (by kernel_rfl) (by kernel_rfl) (by kernel_rfl)
def a8a : Hints I where
 tds := fun i => (asc [] i).getD []
 spl := fun i => (asc [] i).getD []
 pre := fun i => (asc [] i).getD []
 join := asc []
 loop := asc []
 keep := asc []
def a0z : Row I := ⟨61, [.d (.sl 3), .fn [.int .i64] [.k (.d (.bool))]], [.k (.d (.bool))], K6⟩
theorem a1G : y3 Go.Proofs.Tryz.prog (a0z) :=
 j7 z7 (j0 (es := [j6 tb (a4w)]) ⟨z8 z7 a80, trivial⟩ 3) mixed 9 (fn := Go.Proofs.Tryz.f61) (cd := k8 Go.Proofs.Tryz.f61) (H := a8a) (rl := [.tmp 4]) Go.Proofs.Tryz.func61 (by kernel_rfl) (by kernel_rfl) (by kernel_rfl) (by kernel_rfl) (by kernel_rfl) (by kernel_rfl) (by kernel_rfl)
def b3P : Hints I where
 tds := fun i => (asc [] i).getD []
 spl := fun i => (asc [] i).getD []
 pre := fun i => (asc [] i).getD []
 join := asc []
 loop := asc []
 keep := asc []
def a7l : Row I := ⟨62, [.d (.int .i64), .var 36 (.k (.d (.dat 36))) false], [.k (.d (.bool))], a6s⟩
theorem b2Q : y3 Go.Proofs.Tryz.prog (a7l) :=
 j7 z7 (j0 (es := []) trivial 3) mixed 22 (fn := Go.Proofs.Tryz.f62) (cd := k8 Go.Proofs.Tryz.f62) (H := b3P) (rl := [.tmp 3]) Go.Proofs.Tryz.func62 (by kernel_rfl) (by kernel_rfl) (by kernel_rfl) (by kernel_rfl) (by kernel_rfl) (by kernel_rfl) (by kernel_rfl)
def b54 : Hints I where
 tds := fun i => (asc [] i).getD []
 spl := fun i => (asc [] i).getD []
 pre := fun i => (asc [] i).getD []
 join := asc []
 loop := asc []
 keep := asc []
def a5u : Row I := ⟨33, [.d (.dat 36), .d (.sl 3)], [.k (.d (.bool))], a3P⟩
theorem a89 : y3 Go.Proofs.Tryz.prog (a5u) :=
 j7 z7 (j0 (es := [j6 tb (a0z), j6 tb (a7l)]) ⟨z8 z7 a1G, ⟨z8 z7 b2Q, trivial⟩⟩ 3) mixed 9 (fn := Go.Proofs.Tryz.f33) (cd := k8 Go.Proofs.Tryz.f33) (H := b54) (rl := [.tmp 4]) Go.Proofs.Tryz.func33 (by kernel_rfl) (by kernel_rfl) (by kernel_rfl) (by kernel_rfl) (by kernel_rfl) (by kernel_rfl) (by kernel_rfl)
def b7j : Hints I where
 tds := fun i => (asc [] i).getD []
 spl := fun i => (asc [] i).getD []
 pre := fun i => (asc [] i).getD []
 join := asc []
 loop := asc [(58, ⟨68719473504, [], [], [(5, .k (.row 22 false)), (12, .k (.d (.int .i64)))], [((.exit 0), [(5, .k (.row 22 false))])], bnd tb (.slot 11) 1⟩),
  (29898, ⟨17179804480, [14], [], [(6, .k (.row 22 false)), (16, .k (.d (.int .i64)))], [((.exit 2), [(6, .k (.row 22 false))])], bnd tb (.slot 15) 1⟩),
  (7653990, ⟨8588886592, [], [], [(6, .k (.row 22 false)), (9, .k (.d (.int .i64)))], [((.exit 4), [(6, .k (.row 22 false))])], bnd tb (.slot 0) 2⟩)]
 keep := asc []
def a9O : Row I := ⟨42, [.d (.int .i64), .d (.int .i64)], [.k (.row 22 false)], a6X⟩
theorem b6M : y3 Go.Proofs.Tryz.prog (a9O) :=
 j7 z7 (j0 (es := [j6 tb b4v]) ⟨z8 z7 b87, trivial⟩ 3) mixed 37 (fn := Go.Proofs.Tryz.f42) (cd := k8 Go.Proofs.Tryz.f42) (H := b7j) (rl := [.tmp 4]) Go.Proofs.Tryz.func42 (by kernel_rfl) (by kernel_rfl) (by kernel_rfl) (by kernel_rfl) (by kernel_rfl) (by kernel_rfl) (by kernel_rfl)
def b1B : Hints I where
 tds := fun i => (asc [] i).getD []
 spl := fun i => (asc [] i).getD []
 pre := fun i => (asc [] i).getD []
 join := asc []
 loop := asc [(26, ⟨524080, [], [], [(8, .k (.d (.int .i64)))], [((.exit 0), []), (.ret, [(4, .k (.d (.int .i64)))])], bnd tb (.slot 7) 1⟩)]
 keep := asc []
def a5K : Row I := ⟨150, [.d (.sl 3), .d (.int .i64)], [.k (.d (.int .i64))], a4V⟩
theorem b01 : y3 Go.Proofs.Tryz.prog (a5K) :=
 j7 z7 (j0 (es := []) trivial 3) mixed 19 (fn := Go.Proofs.Tryz.f150) (cd := k8 Go.Proofs.Tryz.f150) (H := b1B) (rl := [.tmp 4]) Go.Proofs.Tryz.func150 (by kernel_rfl) (by kernel_rfl) (by kernel_rfl) (by kernel_rfl) (by kernel_rfl) (by kernel_rfl) (by kernel_rfl)
def a9T : Hints I where
 tds := fun i => (asc [] i).getD []
 spl := fun i => (asc [] i).getD []
 pre := fun i => (asc [] i).getD []
 join := asc []
 loop := asc []
 keep := asc []
def a4M : Row I := ⟨117, [.d (.sl 3), .d (.int .i64)], [.k (.d (.bool))], a1Y⟩
theorem a9r : y3 Go.Proofs.Tryz.prog (a4M) :=
 j7 z7 (j0 (es := [j6 tb (a5K)]) ⟨z8 z7 b01, trivial⟩ 3) mixed 9 (fn := Go.Proofs.Tryz.f117) (cd := k8 Go.Proofs.Tryz.f117) (H := a9T) (rl := [.tmp 4]) Go.Proofs.Tryz.func117 (by kernel_rfl) (by kernel_rfl) (by kernel_rfl) (by kernel_rfl) (by kernel_rfl) (by kernel_rfl) (by kernel_rfl)
def b5Q : Hints I where
 tds := fun i => (asc [] i).getD []
 spl := fun i => (asc [] i).getD []
 pre := fun i => (asc [] i).getD []
 join := asc []
 loop := asc []
 keep := asc []
def a8c : Row I := ⟨116, [.d (.int .i64), .var 22 (.k (.d (.sl 3))) false], [.k (.d (.bool))], a7N⟩
theorem b47 : y3 Go.Proofs.Tryz.prog (a8c) :=
 j7 z7 (j0 (es := [j6 tb (a4M)]) ⟨z8 z7 a9r, trivial⟩ 3) mixed 7 (fn := Go.Proofs.Tryz.f116) (cd := k8 Go.Proofs.Tryz.f116) (H := b5Q) (rl := [.tmp 3]) Go.Proofs.Tryz.func116 (by kernel_rfl) (by kernel_rfl) (by kernel_rfl) (by kernel_rfl) (by kernel_rfl) (by kernel_rfl) (by kernel_rfl)
def b7h : Hints I where
 tds := fun i => (asc [] i).getD []
 spl := fun i => (asc [] i).getD []
 pre := fun i => (asc [] i).getD []
 join := asc []
 loop := asc []
 keep := asc []
def a9H : Row I := ⟨71, [.d (.sl 3), .d (.sl 3)], [.k (.d (.bool))], a5n⟩
theorem b6H : y3 Go.Proofs.Tryz.prog (a9H) :=
 j7 z7 (j0 (es := [j6 tb (a0z), j6 tb (a8c)]) ⟨z8 z7 a1G, ⟨z8 z7 b47, trivial⟩⟩ 3) mixed 8 (fn := Go.Proofs.Tryz.f71) (cd := k8 Go.Proofs.Tryz.f71) (H := b7h) (rl := [.tmp 4]) Go.Proofs.Tryz.func71 (by kernel_rfl) (by kernel_rfl) (by kernel_rfl) (by kernel_rfl) (by kernel_rfl) (by kernel_rfl) (by kernel_rfl)
def b0v : Hints I where
 tds := fun i => (asc [(6, [[], [], [0, 1], [0, 1, 2], [], [], [5], [4, 5, 6], [4, 5, 6, 7], [0, 1, 2, 3, 4, 5, 6, 7, 8]]), (11, [[], [], [0, 1], [0, 1, 2], [], [], [5], [4, 5, 6], [4, 5, 6, 7], [0, 1, 2, 3, 4, 5, 6, 7, 8]])] i).getD []
 spl := fun i => (asc [] i).getD []
 pre := fun i => (asc [] i).getD []
 join := asc []
 loop := asc [(58, ⟨1152921504606846012, [], [], [(0, .k (.row 3 false)), (3, .k (.d (.int .i64)))], [((.exit 0), [(0, .k (.row 3 false))]), (.ret, [(0, .k (.row 3 true)), (2, .k (.d (.sl 3)))])], bnd tb (.len (.slot 0)) 1⟩)]
 keep := asc [(59690, ⟨18014397972611112, 0, 3, [(3, .k (.d (.int .i64))), (5, .k (.d (.int .i64)))], [((.exit 2), [(3, .k (.d (.int .i64)))])], bnd tb (.len (.slot 4)) 1⟩)]
def a5d : Row I := ⟨153, [.row 3 false], [.k (.d (.sl 3))], a2g⟩
theorem a99 : y3 Go.Proofs.Tryz.prog (a5d) :=
 j7 z7 (j0 (es := []) trivial 3) mixed 61 (fn := Go.Proofs.Tryz.f153) (cd := k8 Go.Proofs.Tryz.f153) (H := b0v) (rl := [.tmp 2]) Go.Proofs.Tryz.func153 (by kernel_rfl) (by kernel_rfl) (by kernel_rfl) (by kernel_rfl) (by kernel_rfl) (by kernel_rfl) (by kernel_rfl)
def b2D : Hints I where
 tds := fun i => (asc [] i).getD []
 spl := fun i => (asc [] i).getD []
 pre := fun i => (asc [] i).getD []
 join := asc []
 loop := asc []
 keep := asc []
def a6l : Row I := ⟨152, [.d (.sl 3)], [.k (.row 3 true)], a5s⟩
theorem b1J : y3 Go.Proofs.Tryz.prog (a6l) :=
 j7 z7 (j0 (es := []) trivial 3) mixed 9 (fn := Go.Proofs.Tryz.f152) (cd := k8 Go.Proofs.Tryz.f152) (H := b2D) (rl := [.tmp 2]) Go.Proofs.Tryz.func152 (by kernel_rfl) (by kernel_rfl) (by kernel_rfl) (by kernel_rfl) (by kernel_rfl) (by kernel_rfl) (by kernel_rfl)
def b80 : Hints I where
 tds := fun i => (asc [] i).getD []
 spl := fun i => (asc [] i).getD []
 pre := fun i => (asc [] i).getD []
 join := asc []
 loop := asc []
 keep := asc []
def b1l : Row I := ⟨118, [.d (.sl 3)], [.k (.row 3 true)], a6S⟩
theorem b8h : y3 Go.Proofs.Tryz.prog (b1l) :=
 j7 z7 (j0 (es := [j6 tb b4v, c6o tb c1a, j6 tb (a5d), j6 tb (a6l)]) ⟨z8 z7 b87, ⟨c5J z7 c6J, ⟨z8 z7 a99, ⟨z8 z7 b1J, trivial⟩⟩⟩⟩ 3) mixed 11 (fn := Go.Proofs.Tryz.f118) (cd := k8 Go.Proofs.Tryz.f118) (H := b80) (rl := [.tmp 2]) Go.Proofs.Tryz.func118 (by kernel_rfl) (by kernel_rfl) (by kernel_rfl) (by kernel_rfl) (by kernel_rfl) (by kernel_rfl) (by kernel_rfl)
def b8T : Hints I where
 tds := fun i => (asc [(1, [[], [0], [0, 1], [], [3], [0, 1, 2, 3, 4], [], [6], [0, 1, 2, 3, 4, 5, 6, 7], [0, 1, 2, 3, 4, 5, 6, 7, 8]])] i).getD []
 spl := fun i => (asc [] i).getD []
 pre := fun i => (asc [] i).getD []
 join := asc []
 loop := asc []
 keep := asc []
def b06 : Row I := ⟨72, [.d (.dat 47)], [.k (.d (.dat 47))], a5o⟩
theorem b7V : y3 Go.Proofs.Tryz.prog (b06) :=
 j7 z7 (j0 (es := [j6 tb (b1l)]) ⟨z8 z7 b8h, trivial⟩ 3) mixed 12 (fn := Go.Proofs.Tryz.f72) (cd := k8 Go.Proofs.Tryz.f72) (H := b8T) (rl := [.cell 2 47]) Go.Proofs.Tryz.func72 (by kernel_rfl) (by kernel_rfl) (by kernel_rfl) (by kernel_rfl) (by kernel_rfl) (by kernel_rfl) (by kernel_rfl)
def b8W : Hints I where
 tds := fun i => (asc [(32, [[], [0], [], [2], [0, 1, 2, 3], [0, 1, 2, 3, 4], [0, 1, 2, 3, 4, 5], [0, 1, 2, 3, 4, 5, 6], [0, 1, 2, 3, 4, 5, 6, 7], [0, 1, 2, 3, 4, 5, 6], [0, 1, 2, 3, 4, 5, 6], [0, 1, 2, 3, 4, 5, 6, 9, 10], [0, 1, 2, 3, 4, 5, 6, 9, 10, 11], [0, 1, 2, 3, 4, 5, 6, 7, 8, 9, 10, 11, 12], [0, 1, 2, 3, 4, 5, 6, 7, 8, 9, 10, 11, 12, 13], [0, 1, 2, 3, 4, 5, 6, 7, 8, 9, 10, 11, 12, 13, 14], [0, 1, 2, 3, 4, 5, 6, 7, 8, 9, 10, 11, 12, 13, 14, 15], [0, 1, 2, 3, 4, 5, 6, 7, 8, 9, 10, 11, 12, 13, 14, 15, 16]])] i).getD []
 spl := fun i => (asc [] i).getD []
 pre := fun i => (asc [(21, [1000011]), (24, [11])] i).getD []
 join := asc [(16381, ⟨22657557121707113111800289765010735290080296960, [], [], [(.normal, [(19, .k (.d (.sl 47))), (22, .k (.row 57 false))])]⟩)]
 loop := asc [(8186, ⟨680543964654442787616235092878222164224, [], [], [(19, .k (.row 47 false)), (114, .k (.d (.int .i64)))], [((.exit 4), [(19, .k (.row 47 false))]), (.ret, [(8, .k (.row 57 false))])], bnd tb (.slot 113) 1⟩),
  (1048490, ⟨186889521873689210665296197983594691138502415876096, [], [], [(23, .k (.row 47 false)), (157, .k (.d (.int .i64)))], [((.exit 6), [(23, .k (.row 47 false))])], bnd tb (.slot 156) 1⟩)]
 keep := asc []
 nst := asc [(250, ⟨⟨4503049871560704, [], [], [(39, .k (.d (.int .i64)))], [((.exit 0), [])], bnd tb (.slot 38) 1⟩, 11, 47⟩),
  (2042, ⟨⟨5192296858534826475608991722881280, [], [(13, .lvs [.row 3 false, .row 3 false, .d (.bool)])], [(14, .k (.d (.bool))), (60, .k (.d (.int .i64)))], [((.exit 2), [(14, .k (.d (.bool)))]), (.ret, [(8, .k (.row 57 false))])], bnd tb (.slot 59) 1⟩, 11, 47⟩)]
def b09 : Row I := ⟨43, [.d (.dat 36), .d (.sl 3), .d (.int .i64), .d (.sl 3)], [.k (.row 57 false)], a8S⟩
theorem b74 : y3 Go.Proofs.Tryz.prog (b09) :=
 j7 z7 (j0 (es := [j6 tb (a9H), j6 tb (b06)]) ⟨z8 z7 b6H, ⟨z8 z7 b7V, trivial⟩⟩ 3) mixed 173 (fn := Go.Proofs.Tryz.f43) (cd := k8 Go.Proofs.Tryz.f43) (H := b8W) (rl := [.tmp 8]) Go.Proofs.Tryz.func43 (by kernel_rfl) (by kernel_rfl) (by kernel_rfl) (by kernel_rfl) (by kernel_rfl) (by kernel_rfl) (by kernel_rfl)
def b85 (_ : Nat) : Hints I where
 tds := fun i => (asc [(1, [[], [0], [0, 1], [0, 1, 2], [0, 1, 2, 3], [0, 1, 2, 3], [0, 1, 2, 3, 5], [0, 1, 2, 3], [0, 1, 2, 3, 7], [0, 1, 2, 3, 5, 6, 7, 8], [0, 1, 2, 3, 4, 5, 6, 7, 8, 9], [0, 1, 2, 3, 4, 5, 6, 7, 8, 9, 10], [0, 1, 2, 3, 4, 5, 6, 7, 8, 9, 10, 11]])] i).getD []
 spl := fun i => (asc [(1, [18])] i).getD []
 pre := fun i => (asc [] i).getD []
 join := asc [(12, ⟨268402688, [], [], [(.normal, [(27, .k (.d (.bool)))])]⟩)]
 loop := asc [(122, ⟨2251731094209728, [], [], [(36, .k (.d (.int .i64)))], [((.exit 0), []), (.ret, [(6, .k (.row 57 false)), (7, .k (.d (.int .i64)))])], bnd tb (.slot 35) 1⟩),
  (1018, ⟨2360606780682519201792, [57], [], [(11, .k (.row 57 false)), (59, .k (.d (.int .i64)))], [((.exit 2), [(11, .k (.row 57 false))])], bnd tb (.slot 58) 1⟩)]
 keep := asc []
def a7G (n : Nat) : Row I := ⟨17, [.d (.dat 36), .d (.sl 3), .d (.int .i64)], [.k (.row 57 false), .k (.d (.int .i64))], a2e n⟩
theorem b1X (n : Nat) : y3 Go.Proofs.Tryz.prog (a7G n) :=
 j7 z7 (j0 (es := [j6 tb (a3F n), j6 tb b4v, j6 tb (a5u), j6 tb (a9O), j6 tb (b09)]) ⟨z8 z7 (a6T n), ⟨z8 z7 b87, ⟨z8 z7 a89, ⟨z8 z7 b6M, ⟨z8 z7 b74, trivial⟩⟩⟩⟩⟩ 3) mixed 72 (fn := Go.Proofs.Tryz.f17) (cd := k8 Go.Proofs.Tryz.f17) (H := (b85 n)) (rl := [.tmp 6, .tmp 7]) Go.Proofs.Tryz.func17 (by kernel_rfl) (by kernel_rfl) (by kernel_rfl) (by kernel_rfl) (by kernel_rfl) (by kernel_rfl) (by kernel_rfl)
def a5t : Hints I where
 tds := fun i => (asc [] i).getD []
 spl := fun i => (asc [] i).getD []
 pre := fun i => (asc [] i).getD []
 join := asc []
 loop := asc [(26, ⟨524080, [], [], [(8, .k (.d (.int .i64)))], [((.exit 0), []), (.ret, [(4, .k (.d (.int .i64)))])], bnd tb (.slot 7) 1⟩)]
 keep := asc []
def a1D : Row I := ⟨109, [.d (.sl 28), .fn [.dat 28] [.k (.d (.bool))]], [.k (.d (.int .i64))], a2r⟩
theorem a5b : y3 Go.Proofs.Tryz.prog (a1D) :=
 j7 z7 (j0 (es := []) trivial 3) mixed 19 (fn := Go.Proofs.Tryz.f109) (cd := k8 Go.Proofs.Tryz.f109) (H := a5t) (rl := [.tmp 4]) Go.Proofs.Tryz.func109 (by kernel_rfl) (by kernel_rfl) (by kernel_rfl) (by kernel_rfl) (by kernel_rfl) (by kernel_rfl) (by kernel_rfl)
def a4G : Hints I where
 tds := fun i => (asc [] i).getD []
 spl := fun i => (asc [] i).getD []
 pre := fun i => (asc [] i).getD []
 join := asc []
 loop := asc []
 keep := asc []
def a1k : Row I := ⟨64, [.d (.sl 28), .fn [.dat 28] [.k (.d (.bool))]], [.k (.d (.bool))], a1S⟩
theorem a4p : y3 Go.Proofs.Tryz.prog (a1k) :=
 j7 z7 (j0 (es := [j6 tb (a1D)]) ⟨z8 z7 a5b, trivial⟩ 3) mixed 9 (fn := Go.Proofs.Tryz.f64) (cd := k8 Go.Proofs.Tryz.f64) (H := a4G) (rl := [.tmp 4]) Go.Proofs.Tryz.func64 (by kernel_rfl) (by kernel_rfl) (by kernel_rfl) (by kernel_rfl) (by kernel_rfl) (by kernel_rfl) (by kernel_rfl)
def b9m : Hints I where
 tds := fun i => (asc [] i).getD []
 spl := fun i => (asc [] i).getD []
 pre := fun i => (asc [] i).getD []
 join := asc [(105, ⟨160, [], [], [(.normal, [(5, .k (.d (.bool)))])]⟩),
  (429, ⟨2560, [], [], [(.normal, [(9, .k (.d (.bool)))])]⟩),
  (6909, ⟨327680, [], [], [(.normal, [(16, .k (.d (.bool)))])]⟩)]
 loop := asc []
 keep := asc []
def b1Y : Row I := ⟨154, [.d (.int .i64)], [.k (.d (.dat 153)), .k (.d (.bool))], b65⟩
theorem b84 : y3 Go.Proofs.Tryz.prog (b1Y) :=
 j7 z7 (j0 (es := []) trivial 3) mixed 27 (fn := Go.Proofs.Tryz.f154) (cd := k8 Go.Proofs.Tryz.f154) (H := b9m) (rl := [.cell 2 153, .tmp 3]) Go.Proofs.Tryz.func154 (by kernel_rfl) (by kernel_rfl) (by kernel_rfl) (by kernel_rfl) (by kernel_rfl) (by kernel_rfl) (by kernel_rfl)
def b0y : Hints I where
 tds := fun i => (asc [(4, [[], [], [], [2], [1, 2, 3], [1, 2, 3, 4], [], [], [6, 7], [6, 7, 8], [0, 1, 2, 3, 4, 5, 6, 7, 8, 9], [0, 1, 2, 3, 4, 5, 6, 7, 8, 9, 10]])] i).getD []
 spl := fun i => (asc [] i).getD []
 pre := fun i => (asc [] i).getD []
 join := asc []
 loop := asc [(26, ⟨16777200, [], [], [(5, .k (.d (.int .i64)))], [((.exit 0), []), (.ret, [(4, .k (.d (.bool)))])], bnd tb (.len (.slot 0)) 1⟩)]
 keep := asc []
def a5a : Row I := ⟨173, [.d (.sl 9), .fn [.str, .str] [.k (.d (.int .i64))]], [.k (.d (.bool))], a6R⟩
theorem a9Y : y3 Go.Proofs.Tryz.prog (a5a) :=
 j7 z7 (j0 (es := []) trivial 3) mixed 24 (fn := Go.Proofs.Tryz.f173) (cd := k8 Go.Proofs.Tryz.f173) (H := b0y) (rl := [.tmp 4]) Go.Proofs.Tryz.func173 (by kernel_rfl) (by kernel_rfl) (by kernel_rfl) (by kernel_rfl) (by kernel_rfl) (by kernel_rfl) (by kernel_rfl)
def b3L : Hints I where
 tds := fun i => (asc [] i).getD []
 spl := fun i => (asc [] i).getD []
 pre := fun i => (asc [] i).getD []
 join := asc []
 loop := asc [(58, ⟨261140, [], [], [(10, .k (.d (.int .i64)))], [((.exit 0), []), (.ret, [(2, .k (.d (.bool)))])], bnd tb (.slot 9) 1⟩)]
 keep := asc []
def a7h : Row I := ⟨155, [.d (.sl 9)], [.k (.d (.bool))], a9L⟩
theorem b3n : y3 Go.Proofs.Tryz.prog (a7h) :=
 j7 z7 (j0 (es := [j6 tb (a5a), j6 tb (a3A), j6 tb (a45)]) ⟨z8 z7 a9Y, ⟨z8 z7 a5E, ⟨z8 z7 a8d, trivial⟩⟩⟩ 3) mixed 18 (fn := Go.Proofs.Tryz.f155) (cd := k8 Go.Proofs.Tryz.f155) (H := b3L) (rl := [.tmp 2]) Go.Proofs.Tryz.func155 (by kernel_rfl) (by kernel_rfl) (by kernel_rfl) (by kernel_rfl) (by kernel_rfl) (by kernel_rfl) (by kernel_rfl)
def a96 : Hints I where
 tds := fun i => (asc [(4, [[], [], [], [2], [1, 2, 3], [1, 2, 3, 4], [], [], [6, 7], [6, 7, 8], [0, 1, 2, 3, 4, 5, 6, 7, 8, 9], [0, 1, 2, 3, 4, 5, 6, 7, 8, 9, 10]])] i).getD []
 spl := fun i => (asc [] i).getD []
 pre := fun i => (asc [] i).getD []
 join := asc []
 loop := asc [(26, ⟨16777200, [], [], [(5, .k (.d (.int .i64)))], [((.exit 0), []), (.ret, [(4, .k (.d (.bool)))])], bnd tb (.len (.slot 0)) 1⟩)]
 keep := asc []
def a4I : Row I := ⟨174, [.d (.sl 114), .fn [.dat 114, .dat 114] [.k (.d (.int .i64))]], [.k (.d (.bool))], a6p⟩
theorem a9q : y3 Go.Proofs.Tryz.prog (a4I) :=
 j7 z7 (j0 (es := []) trivial 3) mixed 24 (fn := Go.Proofs.Tryz.f174) (cd := k8 Go.Proofs.Tryz.f174) (H := a96) (rl := [.tmp 4]) Go.Proofs.Tryz.func174 (by kernel_rfl) (by kernel_rfl) (by kernel_rfl) (by kernel_rfl) (by kernel_rfl) (by kernel_rfl) (by kernel_rfl)
def b6n : Hints I where
 tds := fun i => (asc [] i).getD []
 spl := fun i => (asc [] i).getD []
 pre := fun i => (asc [] i).getD []
 join := asc []
 loop := asc [(58, ⟨534773780, [], [], [(21, .k (.d (.int .i64)))], [((.exit 0), []), (.ret, [(2, .k (.d (.bool)))])], bnd tb (.slot 20) 1⟩)]
 keep := asc []
def a9i : Row I := ⟨156, [.d (.dat 28)], [.k (.d (.bool))], b2b⟩
theorem b55 : y3 Go.Proofs.Tryz.prog (a9i) :=
 j7 z7 (j0 (es := [j6 tb (a4I), j6 tb (a2B), j6 tb (a5Y)]) ⟨z8 z7 a9q, ⟨z8 z7 a49, ⟨z8 z7 a9M, trivial⟩⟩⟩ 3) mixed 29 (fn := Go.Proofs.Tryz.f156) (cd := k8 Go.Proofs.Tryz.f156) (H := b6n) (rl := [.tmp 2]) Go.Proofs.Tryz.func156 (by kernel_rfl) (by kernel_rfl) (by kernel_rfl) (by kernel_rfl) (by kernel_rfl) (by kernel_rfl) (by kernel_rfl)
def a9f : Hints I where
 tds := fun i => (asc [(4, [[], [], [], [2], [1, 2, 3], [1, 2, 3, 4], [], [], [6, 7], [6, 7, 8], [0, 1, 2, 3, 4, 5, 6, 7, 8, 9], [0, 1, 2, 3, 4, 5, 6, 7, 8, 9, 10]])] i).getD []
 spl := fun i => (asc [] i).getD []
 pre := fun i => (asc [] i).getD []
 join := asc []
 loop := asc [(26, ⟨16777200, [], [], [(5, .k (.d (.int .i64)))], [((.exit 0), []), (.ret, [(4, .k (.d (.bool)))])], bnd tb (.len (.slot 0)) 1⟩)]
 keep := asc []
def a37 : Row I := ⟨175, [.d (.sl 30), .fn [.dat 30, .dat 30] [.k (.d (.int .i64))]], [.k (.d (.bool))], a5C⟩
theorem a8L : y3 Go.Proofs.Tryz.prog (a37) :=
 j7 z7 (j0 (es := []) trivial 3) mixed 24 (fn := Go.Proofs.Tryz.f175) (cd := k8 Go.Proofs.Tryz.f175) (H := a9f) (rl := [.tmp 4]) Go.Proofs.Tryz.func175 (by kernel_rfl) (by kernel_rfl) (by kernel_rfl) (by kernel_rfl) (by kernel_rfl) (by kernel_rfl) (by kernel_rfl)
def a7I : Hints I where
 tds := fun i => (asc [(7, [[], [], [], [1, 2], [1, 2, 3], [], [], [5, 6], [5, 6, 7], [0, 1, 2, 3, 4, 5, 6, 7, 8], [0, 1, 2, 3, 4, 5, 6, 7, 8, 9]])] i).getD []
 spl := fun i => (asc [] i).getD []
 pre := fun i => (asc [] i).getD []
 join := asc []
 loop := asc [(58, ⟨137437905728, [], [], [(20, .k (.d (.int .i64)))], [((.exit 0), []), (.ret, [(6, .k (.d (.int .i64)))])], bnd tb (.slot 19) 1⟩)]
 keep := asc []
def a3i : Row I := ⟨188, [.d (.sl 28), .d (.sl 28), .fn [.dat 28, .dat 28] [.k (.d (.int .i64))]], [.k (.d (.int .i64))], a4s⟩
theorem a7s : y3 Go.Proofs.Tryz.prog (a3i) :=
 j7 z7 (j0 (es := [j6 tb (a0D)]) ⟨z8 z7 a1s, trivial⟩ 3) mixed 37 (fn := Go.Proofs.Tryz.f188) (cd := k8 Go.Proofs.Tryz.f188) (H := a7I) (rl := [.tmp 6]) Go.Proofs.Tryz.func188 (by kernel_rfl) (by kernel_rfl) (by kernel_rfl) (by kernel_rfl) (by kernel_rfl) (by kernel_rfl) (by kernel_rfl)
def b5Z : Hints I where
 tds := fun i => (asc [] i).getD []
 spl := fun i => (asc [] i).getD []
 pre := fun i => (asc [] i).getD []
 join := asc []
 loop := asc []
 keep := asc []
def a8h : Row I := ⟨209, [.d (.int .i64)], [.k (.d (.bool))], a7B⟩
theorem b5a : y3 Go.Proofs.Tryz.prog (a8h) :=
 j7 z7 (j0 (es := []) trivial 3) mixed 6 (fn := Go.Proofs.Tryz.f209) (cd := k8 Go.Proofs.Tryz.f209) (H := b5Z) (rl := [.tmp 2]) Go.Proofs.Tryz.func209 (by kernel_rfl) (by kernel_rfl) (by kernel_rfl) (by kernel_rfl) (by kernel_rfl) (by kernel_rfl) (by kernel_rfl)
def b3W : Hints I where
 tds := fun i => (asc [] i).getD []
 spl := fun i => (asc [] i).getD []
 pre := fun i => (asc [] i).getD []
 join := asc []
 loop := asc []
 keep := asc []
def a7d : Row I := ⟨189, [.d (.int .i64), .d (.int .i64)], [.k (.d (.int .i64))], a9K⟩
theorem b2P : y3 Go.Proofs.Tryz.prog (a7d) :=
 j7 z7 (j0 (es := [j6 tb (a8h)]) ⟨z8 z7 b5a, trivial⟩ 3) mixed 20 (fn := Go.Proofs.Tryz.f189) (cd := k8 Go.Proofs.Tryz.f189) (H := b3W) (rl := [.tmp 4]) Go.Proofs.Tryz.func189 (by kernel_rfl) (by kernel_rfl) (by kernel_rfl) (by kernel_rfl) (by kernel_rfl) (by kernel_rfl) (by kernel_rfl)
def a8s : Hints I where
 tds := fun i => (asc [(7, [[], [], [], [1, 2], [1, 2, 3], [], [], [5, 6], [5, 6, 7], [0, 1, 2, 3, 4, 5, 6, 7, 8], [0, 1, 2, 3, 4, 5, 6, 7, 8, 9]])] i).getD []
 spl := fun i => (asc [] i).getD []
 pre := fun i => (asc [] i).getD []
 join := asc []
 loop := asc [(58, ⟨137437905728, [], [], [(20, .k (.d (.int .i64)))], [((.exit 0), []), (.ret, [(6, .k (.d (.int .i64)))])], bnd tb (.slot 19) 1⟩)]
 keep := asc []
def a3Y : Row I := ⟨190, [.d (.sl 114), .d (.sl 114), .fn [.dat 114, .dat 114] [.k (.d (.int .i64))]], [.k (.d (.int .i64))], a5h⟩
theorem a74 : y3 Go.Proofs.Tryz.prog (a3Y) :=
 j7 z7 (j0 (es := [j6 tb (a0D)]) ⟨z8 z7 a1s, trivial⟩ 3) mixed 37 (fn := Go.Proofs.Tryz.f190) (cd := k8 Go.Proofs.Tryz.f190) (H := a8s) (rl := [.tmp 6]) Go.Proofs.Tryz.func190 (by kernel_rfl) (by kernel_rfl) (by kernel_rfl) (by kernel_rfl) (by kernel_rfl) (by kernel_rfl) (by kernel_rfl)
def a7S : Hints I where
 tds := fun i => (asc [(7, [[], [], [], [1, 2], [1, 2, 3], [], [], [5, 6], [5, 6, 7], [0, 1, 2, 3, 4, 5, 6, 7, 8], [0, 1, 2, 3, 4, 5, 6, 7, 8, 9]])] i).getD []
 spl := fun i => (asc [] i).getD []
 pre := fun i => (asc [] i).getD []
 join := asc []
 loop := asc [(58, ⟨137437905728, [], [], [(20, .k (.d (.int .i64)))], [((.exit 0), []), (.ret, [(6, .k (.d (.int .i64)))])], bnd tb (.slot 19) 1⟩)]
 keep := asc []
def a3g : Row I := ⟨191, [.d (.sl 30), .d (.sl 30), .fn [.dat 30, .dat 30] [.k (.d (.int .i64))]], [.k (.d (.int .i64))], a4n⟩
theorem a7o : y3 Go.Proofs.Tryz.prog (a3g) :=
 j7 z7 (j0 (es := [j6 tb (a0D)]) ⟨z8 z7 a1s, trivial⟩ 3) mixed 37 (fn := Go.Proofs.Tryz.f191) (cd := k8 Go.Proofs.Tryz.f191) (H := a7S) (rl := [.tmp 6]) Go.Proofs.Tryz.func191 (by kernel_rfl) (by kernel_rfl) (by kernel_rfl) (by kernel_rfl) (by kernel_rfl) (by kernel_rfl) (by kernel_rfl)
def a8Z : Hints I where
 tds := fun i => (asc [(7, [[], [], [], [1, 2], [1, 2, 3], [], [], [5, 6], [5, 6, 7], [0, 1, 2, 3, 4, 5, 6, 7, 8], [0, 1, 2, 3, 4, 5, 6, 7, 8, 9]])] i).getD []
 spl := fun i => (asc [] i).getD []
 pre := fun i => (asc [] i).getD []
 join := asc []
 loop := asc [(58, ⟨137437905728, [], [], [(20, .k (.d (.int .i64)))], [((.exit 0), []), (.ret, [(6, .k (.d (.int .i64)))])], bnd tb (.slot 19) 1⟩)]
 keep := asc []
def a35 : Row I := ⟨192, [.d (.sl 9), .d (.sl 9), .fn [.str, .str] [.k (.d (.int .i64))]], [.k (.d (.int .i64))], a5A⟩
theorem a8E : y3 Go.Proofs.Tryz.prog (a35) :=
 j7 z7 (j0 (es := [j6 tb (a0D)]) ⟨z8 z7 a1s, trivial⟩ 3) mixed 37 (fn := Go.Proofs.Tryz.f192) (cd := k8 Go.Proofs.Tryz.f192) (H := a8Z) (rl := [.tmp 6]) Go.Proofs.Tryz.func192 (by kernel_rfl) (by kernel_rfl) (by kernel_rfl) (by kernel_rfl) (by kernel_rfl) (by kernel_rfl) (by kernel_rfl)
def b7v (_ : Nat) : Hints I where
 tds := fun i => (asc [] i).getD []
 spl := fun i => (asc [] i).getD []
 pre := fun i => (asc [] i).getD []
 join := asc []
 loop := asc []
 keep := asc []
def a0f (n : Nat) : Row I := ⟨165, [.d (.dat 28), .d (.dat 28)], [.k (.d (.int .i64))], b3H n⟩
def b1s (_ : Nat) : Hints I where
 tds := fun i => (asc [] i).getD []
 spl := fun i => (asc [] i).getD []
 pre := fun i => (asc [] i).getD []
 join := asc []
 loop := asc []
 keep := asc []
def K4 (n : Nat) : Row I := ⟨126, [.d (.dat 30), .d (.dat 30)], [.k (.d (.int .i64))], a7V n⟩
def b2q (_ : Nat) : Hints I where
 tds := fun i => (asc [] i).getD []
 spl := fun i => (asc [] i).getD []
 pre := fun i => (asc [] i).getD []
 join := asc []
 loop := asc []
 keep := asc []
def X2 (n : Nat) : Row I := ⟨164, [.d (.sl 28), .d (.sl 28)], [.k (.d (.int .i64))], b3T n⟩
theorem b5V (n : Nat) (_ : y3 Go.Proofs.Tryz.prog (a0f n)) (h_value_compareEntries : y3 Go.Proofs.Tryz.prog (K4 n)) (h_value_compareValues : y3 Go.Proofs.Tryz.prog (X2 n)) : y3 Go.Proofs.Tryz.prog (a0f (n + 1)) :=
 j7 z7 (j0 (es := [j6 tb (a0D), j6 tb (a7d), j6 tb (a3A), j6 tb (a3Y), j6 tb (a2B), j6 tb (X2 n), j6 tb (a3g), j6 tb (K4 n), j6 tb (a35)]) ⟨z8 z7 a1s, ⟨z8 z7 b2P, ⟨z8 z7 a5E, ⟨z8 z7 a74, ⟨z8 z7 a49, ⟨z8 z7 h_value_compareValues, ⟨z8 z7 a7o, ⟨z8 z7 h_value_compareEntries, ⟨z8 z7 a8E, trivial⟩⟩⟩⟩⟩⟩⟩⟩⟩ 3) mixed 64 (fn := Go.Proofs.Tryz.f165) (cd := k8 Go.Proofs.Tryz.f165) (H := (b7v n)) (rl := [.tmp 4]) Go.Proofs.Tryz.func165 (by kernel_rfl) (by kernel_rfl) (by kernel_rfl) (by kernel_rfl) (by kernel_rfl) (by kernel_rfl) (by kernel_rfl)
theorem b0r (n : Nat) (h_value_Compare : y3 Go.Proofs.Tryz.prog (a0f n)) (_ : y3 Go.Proofs.Tryz.prog (K4 n)) (h_value_compareValues : y3 Go.Proofs.Tryz.prog (X2 n)) : y3 Go.Proofs.Tryz.prog (K4 (n + 1)) :=
 j7 z7 (j0 (es := [j6 tb (X2 n), j6 tb (a0f n)]) ⟨z8 z7 h_value_compareValues, ⟨z8 z7 h_value_Compare, trivial⟩⟩ 3) mixed 26 (fn := Go.Proofs.Tryz.f126) (cd := k8 Go.Proofs.Tryz.f126) (H := (b1s n)) (rl := [.tmp 4]) Go.Proofs.Tryz.func126 (by kernel_rfl) (by kernel_rfl) (by kernel_rfl) (by kernel_rfl) (by kernel_rfl) (by kernel_rfl) (by kernel_rfl)
theorem b02 (n : Nat) (h_value_Compare : y3 Go.Proofs.Tryz.prog (a0f n)) (_ : y3 Go.Proofs.Tryz.prog (K4 n)) (_ : y3 Go.Proofs.Tryz.prog (X2 n)) : y3 Go.Proofs.Tryz.prog (X2 (n + 1)) :=
 j7 z7 (j0 (es := [j6 tb (a3i), j6 tb (a0f n)]) ⟨z8 z7 a7s, ⟨z8 z7 h_value_Compare, trivial⟩⟩ 3) mixed 8 (fn := Go.Proofs.Tryz.f164) (cd := k8 Go.Proofs.Tryz.f164) (H := (b2q n)) (rl := [.tmp 4]) Go.Proofs.Tryz.func164 (by kernel_rfl) (by kernel_rfl) (by kernel_rfl) (by kernel_rfl) (by kernel_rfl) (by kernel_rfl) (by kernel_rfl)
theorem a48 : ∀ n : Nat, y3 Go.Proofs.Tryz.prog (a0f n) /\ y3 Go.Proofs.Tryz.prog (K4 n) /\ y3 Go.Proofs.Tryz.prog (X2 n)
 | 0 => ⟨J5 (by kernel_rfl), J5 (by kernel_rfl), J5 (by kernel_rfl)⟩
 | n + 1 => by
   obtain ⟨h0, h1, h2⟩ := a48 n
   exact ⟨b5V n h0 h1 h2, b0r n h0 h1 h2, b02 n h0 h1 h2⟩
theorem b6J (n : Nat) : y3 Go.Proofs.Tryz.prog (a0f n) := (a48 n).1
theorem b0Z (n : Nat) : y3 Go.Proofs.Tryz.prog (K4 n) := (a48 n).2.1
def b81 (_ : Nat) : Hints I where
 tds := fun i => (asc [] i).getD []
 spl := fun i => (asc [] i).getD []
 pre := fun i => (asc [] i).getD []
 join := asc []
 loop := asc []
 keep := asc []
def b1h (n : Nat) : Row I := ⟨159, [.d (.dat 28), .d (.dat 28)], [.k (.d (.bool))], b6e n⟩
theorem b8o (n : Nat) : y3 Go.Proofs.Tryz.prog (b1h n) :=
 j7 z7 (j0 (es := [j6 tb (a0f n)]) ⟨z8 z7 (b6J n), trivial⟩ 3) mixed 9 (fn := Go.Proofs.Tryz.f159) (cd := k8 Go.Proofs.Tryz.f159) (H := (b81 n)) (rl := [.tmp 4]) Go.Proofs.Tryz.func159 (by kernel_rfl) (by kernel_rfl) (by kernel_rfl) (by kernel_rfl) (by kernel_rfl) (by kernel_rfl) (by kernel_rfl)
def b7K (_ : Nat) : Hints I where
 tds := fun i => (asc [] i).getD []
 spl := fun i => (asc [] i).getD []
 pre := fun i => (asc [] i).getD []
 join := asc []
 loop := asc []
 keep := asc []
def b0F (n : Nat) : Row I := ⟨123, [.d (.dat 28)], [.k (.d (.bool))], b4z n⟩
theorem b7n (n : Nat) : y3 Go.Proofs.Tryz.prog (b0F n) :=
 j7 z7 (j0 (es := [j6 tb (b1h n)]) ⟨z8 z7 (b8o n), trivial⟩ 3) mixed 6 (fn := Go.Proofs.Tryz.f123) (cd := k8 Go.Proofs.Tryz.f123) (H := (b7K n)) (rl := [.tmp 2]) Go.Proofs.Tryz.func123 (by kernel_rfl) (by kernel_rfl) (by kernel_rfl) (by kernel_rfl) (by kernel_rfl) (by kernel_rfl) (by kernel_rfl)
def b46 (_ : Nat) : Hints I where
 tds := fun i => (asc [] i).getD []
 spl := fun i => (asc [] i).getD []
 pre := fun i => (asc [] i).getD []
 join := asc []
 loop := asc []
 keep := asc []
def a7D (n : Nat) : Row I := ⟨77, [.d (.dat 30), .d (.int .i64)], [.k (.d (.bool))], b0p n⟩
theorem b38 (n : Nat) : y3 Go.Proofs.Tryz.prog (a7D n) :=
 j7 z7 (j0 (es := [j6 tb (b0F n)]) ⟨z8 z7 (b7n n), trivial⟩ 3) mixed 20 (fn := Go.Proofs.Tryz.f77) (cd := k8 Go.Proofs.Tryz.f77) (H := (b46 n)) (rl := [.tmp 4]) Go.Proofs.Tryz.func77 (by kernel_rfl) (by kernel_rfl) (by kernel_rfl) (by kernel_rfl) (by kernel_rfl) (by kernel_rfl) (by kernel_rfl)
def b2g (_ : Nat) : Hints I where
 tds := fun i => (asc [] i).getD []
 spl := fun i => (asc [] i).getD []
 pre := fun i => (asc [] i).getD []
 join := asc []
 loop := asc [(58, ⟨4290773012, [], [], [(22, .k (.d (.int .i64)))], [((.exit 0), []), (.ret, [(2, .k (.d (.bool)))])], bnd tb (.slot 21) 1⟩)]
 keep := asc []
def a6i (n : Nat) : Row I := ⟨157, [.d (.dat 28)], [.k (.d (.bool))], a8e n⟩
theorem b1F (n : Nat) : y3 Go.Proofs.Tryz.prog (a6i n) :=
 j7 z7 (j0 (es := [j6 tb (a37), j6 tb (K4 n), j6 tb (a7D n)]) ⟨z8 z7 a8L, ⟨z8 z7 (b0Z n), ⟨z8 z7 (b38 n), trivial⟩⟩⟩ 3) mixed 32 (fn := Go.Proofs.Tryz.f157) (cd := k8 Go.Proofs.Tryz.f157) (H := (b2g n)) (rl := [.tmp 2]) Go.Proofs.Tryz.func157 (by kernel_rfl) (by kernel_rfl) (by kernel_rfl) (by kernel_rfl) (by kernel_rfl) (by kernel_rfl) (by kernel_rfl)
def b5W (_ : Nat) : Hints I where
 tds := fun i => (asc [] i).getD []
 spl := fun i => (asc [] i).getD []
 pre := fun i => (asc [] i).getD []
 join := asc []
 loop := asc []
 keep := asc []
def a8g (n : Nat) : Row I := ⟨121, [.d (.dat 28)], [.k (.d (.bool))], b1g n⟩
theorem b4H (n : Nat) : y3 Go.Proofs.Tryz.prog (a8g n) :=
 j7 z7 (j0 (es := [j6 tb (b1Y), j6 tb (a7h), j6 tb (a4T), j6 tb (a9i), j6 tb (a6i n)]) ⟨z8 z7 b84, ⟨z8 z7 b3n, ⟨z8 z7 a7C, ⟨z8 z7 b55, ⟨z8 z7 (b1F n), trivial⟩⟩⟩⟩⟩ 3) mixed 124 (fn := Go.Proofs.Tryz.f121) (cd := k8 Go.Proofs.Tryz.f121) (H := (b5W n)) (rl := [.tmp 2]) Go.Proofs.Tryz.func121 (by kernel_rfl) (by kernel_rfl) (by kernel_rfl) (by kernel_rfl) (by kernel_rfl) (by kernel_rfl) (by kernel_rfl)
def b83 : Hints I where
 tds := fun i => (asc [] i).getD []
 spl := fun i => (asc [] i).getD []
 pre := fun i => (asc [] i).getD []
 join := asc []
 loop := asc [(58, ⟨536866856, [], [], [(3, .k (.row 28 false)), (12, .k (.d (.int .i64)))], [((.exit 0), [(3, .k (.row 28 false))])], bnd tb (.slot 11) 1⟩)]
 keep := asc []
def b1j : Row I := ⟨122, [.d (.dat 28)], [.k (.row 28 false)], b58⟩
theorem b8p : y3 Go.Proofs.Tryz.prog (b1j) :=
 j7 z7 (j0 (es := [j6 tb c1c]) ⟨z8 z7 c6c, trivial⟩ 3) mixed 30 (fn := Go.Proofs.Tryz.f122) (cd := k8 Go.Proofs.Tryz.f122) (H := b83) (rl := [.tmp 2]) Go.Proofs.Tryz.func122 (by kernel_rfl) (by kernel_rfl) (by kernel_rfl) (by kernel_rfl) (by kernel_rfl) (by kernel_rfl) (by kernel_rfl)
def b5X (_ : Nat) : Hints I where
 tds := fun i => (asc [] i).getD []
 spl := fun i => (asc [] i).getD []
 pre := fun i => (asc [] i).getD []
 join := asc []
 loop := asc [(58, ⟨522260, [9], [], [(11, .k (.d (.int .i64)))], [((.exit 0), []), (.ret, [(2, .k (.d (.bool)))])], bnd tb (.slot 10) 1⟩)]
 keep := asc []
def a11 (n : Nat) : Row I := ⟨76, [.d (.dat 28)], [.k (.d (.bool))], a71 n⟩
theorem b37 (n : Nat) (h_value_validTree : y3 Go.Proofs.Tryz.prog (a11 n)) : y3 Go.Proofs.Tryz.prog (a11 (n + 1)) :=
 j7 z7 (j0 (es := [j6 tb (a8g n), j6 tb (b1j), j6 tb (a11 n)]) ⟨z8 z7 (b4H n), ⟨z8 z7 b8p, ⟨z8 z7 h_value_validTree, trivial⟩⟩⟩ 3) mixed 19 (fn := Go.Proofs.Tryz.f76) (cd := k8 Go.Proofs.Tryz.f76) (H := (b5X n)) (rl := [.tmp 2]) Go.Proofs.Tryz.func76 (by kernel_rfl) (by kernel_rfl) (by kernel_rfl) (by kernel_rfl) (by kernel_rfl) (by kernel_rfl) (by kernel_rfl)
theorem a9g : ∀ n : Nat, y3 Go.Proofs.Tryz.prog (a11 n)
 | 0 => J5 (by kernel_rfl)
 | n + 1 => b37 n (a9g n)
def b6g (_ : Nat) : Hints I where
 tds := fun i => (asc [] i).getD []
 spl := fun i => (asc [] i).getD []
 pre := fun i => (asc [] i).getD []
 join := asc []
 loop := asc []
 keep := asc []
def a9c (n : Nat) : Row I := ⟨48, [.d (.dat 28)], [.k (.d (.int .i64))], b2i n⟩
theorem b5T (n : Nat) : y3 Go.Proofs.Tryz.prog (a9c n) :=
 j7 z7 (j0 (es := [j6 tb (a11 n)]) ⟨z8 z7 (a9g n), trivial⟩ 3) mixed 6 (fn := Go.Proofs.Tryz.f48) (cd := k8 Go.Proofs.Tryz.f48) (H := (b6g n)) (rl := [.tmp 2]) Go.Proofs.Tryz.func48 (by kernel_rfl) (by kernel_rfl) (by kernel_rfl) (by kernel_rfl) (by kernel_rfl) (by kernel_rfl) (by kernel_rfl)
def b3c (_ : Nat) : Hints I where
 tds := fun i => (asc [] i).getD []
 spl := fun i => (asc [] i).getD []
 pre := fun i => (asc [] i).getD []
 join := asc []
 loop := asc []
 keep := asc []
def a6z (n : Nat) : Row I := ⟨63, [.d (.dat 28)], [.k (.d (.bool))], a5J n⟩
theorem b2J (n : Nat) : y3 Go.Proofs.Tryz.prog (a6z n) :=
 j7 z7 (j0 (es := [j6 tb (a9c n)]) ⟨z8 z7 (b5T n), trivial⟩ 3) mixed 6 (fn := Go.Proofs.Tryz.f63) (cd := k8 Go.Proofs.Tryz.f63) (H := (b3c n)) (rl := [.tmp 2]) Go.Proofs.Tryz.func63 (by kernel_rfl) (by kernel_rfl) (by kernel_rfl) (by kernel_rfl) (by kernel_rfl) (by kernel_rfl) (by kernel_rfl)
def b5c (_ : Nat) : Hints I where
 tds := fun i => (asc [] i).getD []
 spl := fun i => (asc [] i).getD []
 pre := fun i => (asc [] i).getD []
 join := asc []
 loop := asc []
 keep := asc []
def a7U (n : Nat) : Row I := ⟨34, [.d (.dat 30)], [.k (.d (.bool))], b0R n⟩
theorem b3Q (n : Nat) : y3 Go.Proofs.Tryz.prog (a7U n) :=
 j7 z7 (j0 (es := [j6 tb (a1k), j6 tb (a6z n)]) ⟨z8 z7 a4p, ⟨z8 z7 (b2J n), trivial⟩⟩ 3) mixed 20 (fn := Go.Proofs.Tryz.f34) (cd := k8 Go.Proofs.Tryz.f34) (H := (b5c n)) (rl := [.tmp 2]) Go.Proofs.Tryz.func34 (by kernel_rfl) (by kernel_rfl) (by kernel_rfl) (by kernel_rfl) (by kernel_rfl) (by kernel_rfl) (by kernel_rfl)
def b8V : Hints I where
 tds := fun i => (asc [] i).getD []
 spl := fun i => (asc [] i).getD []
 pre := fun i => (asc [] i).getD []
 join := asc []
 loop := asc []
 keep := asc []
def b1e : Row I := ⟨110, [.d (.int .i64)], [.k (.d (.int .i64))], b59⟩
theorem b70 : y3 Go.Proofs.Tryz.prog (b1e) :=
 j7 z7 (j0 (es := []) trivial 3) mixed 14 (fn := Go.Proofs.Tryz.f110) (cd := k8 Go.Proofs.Tryz.f110) (H := b8V) (rl := [.tmp 2]) Go.Proofs.Tryz.func110 (by kernel_rfl) (by kernel_rfl) (by kernel_rfl) (by kernel_rfl) (by kernel_rfl) (by kernel_rfl) (by kernel_rfl)
def a7R : Hints I where
 tds := fun i => (asc [(4, [[], [], [], [1, 2], [1, 2, 3], [0, 1, 2, 3, 4]])] i).getD []
 spl := fun i => (asc [] i).getD []
 pre := fun i => (asc [] i).getD []
 join := asc []
 loop := asc [(26, ⟨524080, [], [], [(8, .k (.d (.int .i64)))], [((.exit 0), []), (.ret, [(4, .k (.d (.int .i64)))])], bnd tb (.slot 7) 1⟩)]
 keep := asc []
def a3e : Row I := ⟨171, [.d (.sl 114), .d (.dat 114)], [.k (.d (.int .i64))], a4r⟩
theorem a7u : y3 Go.Proofs.Tryz.prog (a3e) :=
 j7 z7 (j0 (es := []) trivial 3) mixed 19 (fn := Go.Proofs.Tryz.f171) (cd := k8 Go.Proofs.Tryz.f171) (H := a7R) (rl := [.tmp 4]) Go.Proofs.Tryz.func171 (by kernel_rfl) (by kernel_rfl) (by kernel_rfl) (by kernel_rfl) (by kernel_rfl) (by kernel_rfl) (by kernel_rfl)
def a6Q : Hints I where
 tds := fun i => (asc [] i).getD []
 spl := fun i => (asc [] i).getD []
 pre := fun i => (asc [] i).getD []
 join := asc []
 loop := asc []
 keep := asc []
def a2A : Row I := ⟨147, [.d (.sl 114), .d (.dat 114)], [.k (.d (.bool))], a3B⟩
theorem a6t : y3 Go.Proofs.Tryz.prog (a2A) :=
 j7 z7 (j0 (es := [j6 tb (a3e)]) ⟨z8 z7 a7u, trivial⟩ 3) mixed 9 (fn := Go.Proofs.Tryz.f147) (cd := k8 Go.Proofs.Tryz.f147) (H := a6Q) (rl := [.tmp 4]) Go.Proofs.Tryz.func147 (by kernel_rfl) (by kernel_rfl) (by kernel_rfl) (by kernel_rfl) (by kernel_rfl) (by kernel_rfl) (by kernel_rfl)
def c3x : Hints I where
 tds := fun i => (asc [] i).getD []
 spl := fun i => (asc [] i).getD []
 pre := fun i => (asc [] i).getD []
 join := asc []
 loop := asc [(26, ⟨2096208, [], [], [(10, .k (.d (.int .i64)))], [((.exit 0), []), (.ret, [(4, .k (.d (.int .i64)))])], bnd tb (.slot 9) 1⟩)]
 keep := asc []
def b6b : Row I := ⟨148, [.d (.dat 72), .d (.dat 114)], [.k (.d (.int .i64))], c1q⟩
theorem c12 : y3 Go.Proofs.Tryz.prog (b6b) :=
 j7 z7 (j0 (es := []) trivial 3) mixed 26 (fn := Go.Proofs.Tryz.f148) (cd := k8 Go.Proofs.Tryz.f148) (H := c3x) (rl := [.tmp 4]) Go.Proofs.Tryz.func148 (by kernel_rfl) (by kernel_rfl) (by kernel_rfl) (by kernel_rfl) (by kernel_rfl) (by kernel_rfl) (by kernel_rfl)
def a8z : Hints I where
 tds := fun i => (asc [] i).getD []
 spl := fun i => (asc [] i).getD []
 pre := fun i => (asc [] i).getD []
 join := asc []
 loop := asc [(26, ⟨524080, [], [], [(8, .k (.d (.int .i64)))], [((.exit 0), []), (.ret, [(4, .k (.d (.int .i64)))])], bnd tb (.slot 7) 1⟩)]
 keep := asc []
def a3X : Row I := ⟨149, [.d (.sl 9), .d (.str)], [.k (.d (.int .i64))], a5f⟩
theorem a73 : y3 Go.Proofs.Tryz.prog (a3X) :=
 j7 z7 (j0 (es := []) trivial 3) mixed 19 (fn := Go.Proofs.Tryz.f149) (cd := k8 Go.Proofs.Tryz.f149) (H := a8z) (rl := [.tmp 4]) Go.Proofs.Tryz.func149 (by kernel_rfl) (by kernel_rfl) (by kernel_rfl) (by kernel_rfl) (by kernel_rfl) (by kernel_rfl) (by kernel_rfl)
def a7q : Hints I where
 tds := fun i => (asc [] i).getD []
 spl := fun i => (asc [] i).getD []
 pre := fun i => (asc [] i).getD []
 join := asc []
 loop := asc []
 keep := asc []
def a24 : Row I := ⟨115, [.d (.sl 9), .d (.str)], [.k (.d (.bool))], a38⟩
theorem a60 : y3 Go.Proofs.Tryz.prog (a24) :=
 j7 z7 (j0 (es := [j6 tb (a3X)]) ⟨z8 z7 a73, trivial⟩ 3) mixed 9 (fn := Go.Proofs.Tryz.f115) (cd := k8 Go.Proofs.Tryz.f115) (H := a7q) (rl := [.tmp 4]) Go.Proofs.Tryz.func115 (by kernel_rfl) (by kernel_rfl) (by kernel_rfl) (by kernel_rfl) (by kernel_rfl) (by kernel_rfl) (by kernel_rfl)
def c1P (_ : Nat) : Hints I where
 tds := fun i => (asc [(6, [[], [], [], [], [2, 3], [2, 3, 4], [0, 1, 2, 3, 4, 5], [0, 1, 2, 3, 4, 5, 6]])] i).getD []
 spl := fun i => (asc [] i).getD []
 pre := fun i => (asc [] i).getD []
 join := asc []
 loop := asc [(58, ⟨1073676736, [], [], [(16, .k (.d (.int .i64)))], [((.exit 0), []), (.ret, [(6, .k (.d (.bool)))])], bnd tb (.slot 15) 1⟩)]
 keep := asc []
def a0Q (n : Nat) : Row I := ⟨65, [.d (.sl 28), .d (.dat 36), .d (.sl 3)], [.k (.d (.bool))], c3H n⟩
def b3S (_ : Nat) : Hints I where
 tds := fun i => (asc [(2, [[], [0], [], [], [3], [], [3, 4, 5], [0, 1, 2, 3, 4, 5, 6], [0, 1, 2, 3, 4, 5, 6, 7], [0, 1, 2, 3, 4, 5, 6, 7, 8], [0, 1, 2, 3, 4, 5, 6, 7, 8, 9], [0, 1, 2, 3, 4, 5, 6, 7, 8, 9, 10], [0, 1, 2, 3, 4, 5, 6, 7, 8, 9, 10, 11], [0, 1, 2, 3, 4, 5, 6, 7, 8, 9, 10, 11, 12], [0, 1, 2, 3, 4, 5, 6, 7, 8, 9, 10, 11, 12, 13], [0, 1, 2, 3, 4, 5, 6, 7, 8, 9, 10, 11, 12, 13, 14], [0, 1, 2, 3, 4, 5, 6, 7, 8, 9, 10, 11, 12, 13], [0, 1, 2, 3, 4, 5, 6, 7, 8, 9, 10, 11, 12, 13], [0, 1, 2, 3, 4, 5, 6, 7, 8, 9, 10, 11, 12, 13, 17], [0, 1, 2, 3, 4, 5, 6, 7, 8, 9, 10, 11, 12, 13], [0, 1, 2, 3, 4, 5, 6, 7, 8, 9, 10, 11, 12, 13, 17, 18, 19], [0, 1, 2, 3, 4, 5, 6, 7, 8, 9, 10, 11, 12, 13, 17, 18, 19, 20], [0, 1, 2, 3, 4, 5, 6, 7, 8, 9, 10, 11, 12, 13, 14, 15, 16, 17, 18, 19, 20, 21], [0, 1, 2, 3, 4, 5, 6, 7, 8, 9, 10, 11, 12, 13, 14, 15, 16, 17, 18, 19, 20, 21, 22], [0, 1, 2, 3, 4, 5, 6, 7, 8, 9, 10, 11, 12, 13, 14, 15, 16, 17, 18, 19, 20, 21, 22, 23], [0, 1, 2, 3, 4, 5, 6, 7, 8, 9, 10, 11, 12, 13, 14, 15, 16, 17, 18, 19, 20, 21, 22, 23, 24]])] i).getD []
 spl := fun i => (asc [] i).getD []
 pre := fun i => (asc [] i).getD []
 join := asc []
 loop := asc []
 keep := asc []
def Q3 (n : Nat) : Row I := ⟨35, [.d (.dat 30), .d (.dat 36), .d (.dat 72)], [.k (.d (.bool))], a9G n⟩
def b4Y (_ : Nat) : Hints I where
 tds := fun i => (asc [] i).getD []
 spl := fun i => (asc [] i).getD []
 pre := fun i => (asc [] i).getD []
 join := asc []
 loop := asc [(58, ⟨536346944, [], [], [(19, .k (.d (.int .i64)))], [((.exit 0), []), (.ret, [(6, .k (.d (.bool)))])], bnd tb (.slot 18) 1⟩)]
 keep := asc []
def K2 (n : Nat) : Row I := ⟨112, [.d (.dat 28), .d (.dat 36), .d (.dat 72)], [.k (.d (.bool))], b6Q n⟩
def c1F (_ : Nat) : Hints I where
 tds := fun i => (asc [(17, [[], [0], [], [2], [2, 3], [0, 1, 2, 3, 4], [0, 1, 2, 3, 4, 5]]), (31, [[], [], [], [2], [2, 3], [2, 3, 4], [0, 1, 2, 3, 4, 5], [0, 1, 2, 3, 4, 5, 6], [0, 1, 2, 3, 4, 5, 6, 7]])] i).getD []
 spl := fun i => (asc [] i).getD []
 pre := fun i => (asc [] i).getD []
 join := asc [(60413, ⟨144115188075855872000, [], [], [(.normal, [(60, .k (.d (.bool)))])]⟩)]
 loop := asc []
 keep := asc []
def W6 (n : Nat) : Row I := ⟨66, [.d (.dat 28), .d (.dat 36), .d (.int .i64)], [.k (.d (.bool))], c4A n⟩
def c0a (_ : Nat) : Hints I where
 tds := fun i => (asc [] i).getD []
 spl := fun i => (asc [] i).getD []
 pre := fun i => (asc [] i).getD []
 join := asc []
 loop := asc []
 keep := asc []
def a0B (n : Nat) : Row I := ⟨113, [.d (.int .i64), .var 28 (.k (.d (.dat 28))) false, .var 36 (.k (.d (.dat 36))) false], [.k (.d (.bool))], c1K n⟩
def b9O (_ : Nat) : Hints I where
 tds := fun i => (asc [] i).getD []
 spl := fun i => (asc [] i).getD []
 pre := fun i => (asc [] i).getD []
 join := asc []
 loop := asc []
 keep := asc []
def a0A (n : Nat) : Row I := ⟨114, [.d (.int .i64), .var 28 (.k (.d (.dat 28))) false, .var 36 (.k (.d (.dat 36))) false], [.k (.d (.bool))], c2c n⟩
def b86 (_ : Nat) : Hints I where
 tds := fun i => (asc [(10, [[], [0], [], [0, 1, 2], [0, 1, 2, 3], [], [], [], [6, 7], [0, 1, 2, 3, 4, 5, 6, 7, 8], [0, 1, 2, 3, 4, 5, 6, 7, 8, 9]])] i).getD []
 spl := fun i => (asc [] i).getD []
 pre := fun i => (asc [] i).getD []
 join := asc []
 loop := asc [(26, ⟨1073725760, [], [], [(14, .k (.d (.int .i64)))], [((.exit 0), []), (.ret, [(6, .k (.d (.bool)))])], bnd tb (.slot 13) 1⟩),
  (58, ⟨1125891316909632, [], [], [(33, .k (.d (.int .i64)))], [((.exit 2), []), (.ret, [(6, .k (.d (.bool)))])], bnd tb (.slot 32) 1⟩)]
 keep := asc []
def a0l (n : Nat) : Row I := ⟨111, [.d (.dat 28), .d (.dat 36), .d (.dat 72)], [.k (.d (.bool))], c0P n⟩
theorem b9P (n : Nat) (_ : y3 Go.Proofs.Tryz.prog (a0Q n)) (_ : y3 Go.Proofs.Tryz.prog (Q3 n)) (_ : y3 Go.Proofs.Tryz.prog (K2 n)) (h_core_Has : y3 Go.Proofs.Tryz.prog (W6 n)) (_ : y3 Go.Proofs.Tryz.prog (a0B n)) (_ : y3 Go.Proofs.Tryz.prog (a0A n)) (_ : y3 Go.Proofs.Tryz.prog (a0l n)) : y3 Go.Proofs.Tryz.prog (a0Q (n + 1)) :=
 j7 z7 (j0 (es := [j6 tb (W6 n)]) ⟨z8 z7 h_core_Has, trivial⟩ 3) mixed 30 (fn := Go.Proofs.Tryz.f65) (cd := k8 Go.Proofs.Tryz.f65) (H := (c1P n)) (rl := [.tmp 6]) Go.Proofs.Tryz.func65 (by kernel_rfl) (by kernel_rfl) (by kernel_rfl) (by kernel_rfl) (by kernel_rfl) (by kernel_rfl) (by kernel_rfl)
theorem b2B (n : Nat) (h_core_all : y3 Go.Proofs.Tryz.prog (a0Q n)) (_ : y3 Go.Proofs.Tryz.prog (Q3 n)) (_ : y3 Go.Proofs.Tryz.prog (K2 n)) (h_core_Has : y3 Go.Proofs.Tryz.prog (W6 n)) (_ : y3 Go.Proofs.Tryz.prog (a0B n)) (_ : y3 Go.Proofs.Tryz.prog (a0A n)) (_ : y3 Go.Proofs.Tryz.prog (a0l n)) : y3 Go.Proofs.Tryz.prog (Q3 (n + 1)) :=
 j7 z7 (j0 (es := [j6 tb (a0Q n), j6 tb (W6 n)]) ⟨z8 z7 h_core_all, ⟨z8 z7 h_core_Has, trivial⟩⟩ 3) mixed 37 (fn := Go.Proofs.Tryz.f35) (cd := k8 Go.Proofs.Tryz.f35) (H := (b3S n)) (rl := [.tmp 6]) Go.Proofs.Tryz.func35 (by kernel_rfl) (by kernel_rfl) (by kernel_rfl) (by kernel_rfl) (by kernel_rfl) (by kernel_rfl) (by kernel_rfl)
theorem b3d (n : Nat) (_ : y3 Go.Proofs.Tryz.prog (a0Q n)) (h_core_EntryAllowed : y3 Go.Proofs.Tryz.prog (Q3 n)) (_ : y3 Go.Proofs.Tryz.prog (K2 n)) (_ : y3 Go.Proofs.Tryz.prog (W6 n)) (_ : y3 Go.Proofs.Tryz.prog (a0B n)) (_ : y3 Go.Proofs.Tryz.prog (a0A n)) (_ : y3 Go.Proofs.Tryz.prog (a0l n)) : y3 Go.Proofs.Tryz.prog (K2 (n + 1)) :=
 j7 z7 (j0 (es := [j6 tb (Q3 n)]) ⟨z8 z7 h_core_EntryAllowed, trivial⟩ 3) mixed 29 (fn := Go.Proofs.Tryz.f112) (cd := k8 Go.Proofs.Tryz.f112) (H := (b4Y n)) (rl := [.tmp 6]) Go.Proofs.Tryz.func112 (by kernel_rfl) (by kernel_rfl) (by kernel_rfl) (by kernel_rfl) (by kernel_rfl) (by kernel_rfl) (by kernel_rfl)
theorem b9x (n : Nat) (h_core_all : y3 Go.Proofs.Tryz.prog (a0Q n)) (_ : y3 Go.Proofs.Tryz.prog (Q3 n)) (h_core_functionHas : y3 Go.Proofs.Tryz.prog (K2 n)) (h_core_Has : y3 Go.Proofs.Tryz.prog (W6 n)) (h_core_Has_1 : y3 Go.Proofs.Tryz.prog (a0B n)) (h_core_Has_2 : y3 Go.Proofs.Tryz.prog (a0A n)) (h_core_mapHas : y3 Go.Proofs.Tryz.prog (a0l n)) : y3 Go.Proofs.Tryz.prog (W6 (n + 1)) :=
 j7 z7 (j0 (es := [j6 tb (b1e), j6 tb (a0Q n), j6 tb (a0l n), j6 tb (K2 n), j6 tb (a0z), j6 tb (a0B n), j6 tb (a0A n), j6 tb (W6 n), j6 tb (a24)]) ⟨z8 z7 b70, ⟨z8 z7 h_core_all, ⟨z8 z7 h_core_mapHas, ⟨z8 z7 h_core_functionHas, ⟨z8 z7 a1G, ⟨z8 z7 h_core_Has_1, ⟨z8 z7 h_core_Has_2, ⟨z8 z7 h_core_Has, ⟨z8 z7 a60, trivial⟩⟩⟩⟩⟩⟩⟩⟩⟩ 3) mixed 151 (fn := Go.Proofs.Tryz.f66) (cd := k8 Go.Proofs.Tryz.f66) (H := (c1F n)) (rl := [.tmp 6]) Go.Proofs.Tryz.func66 (by kernel_rfl) (by kernel_rfl) (by kernel_rfl) (by kernel_rfl) (by kernel_rfl) (by kernel_rfl) (by kernel_rfl)
theorem b7L (n : Nat) (_ : y3 Go.Proofs.Tryz.prog (a0Q n)) (_ : y3 Go.Proofs.Tryz.prog (Q3 n)) (_ : y3 Go.Proofs.Tryz.prog (K2 n)) (h_core_Has : y3 Go.Proofs.Tryz.prog (W6 n)) (_ : y3 Go.Proofs.Tryz.prog (a0B n)) (_ : y3 Go.Proofs.Tryz.prog (a0A n)) (_ : y3 Go.Proofs.Tryz.prog (a0l n)) : y3 Go.Proofs.Tryz.prog (a0B (n + 1)) :=
 j7 z7 (j0 (es := [j6 tb (W6 n)]) ⟨z8 z7 h_core_Has, trivial⟩ 3) mixed 9 (fn := Go.Proofs.Tryz.f113) (cd := k8 Go.Proofs.Tryz.f113) (H := (c0a n)) (rl := [.tmp 4]) Go.Proofs.Tryz.func113 (by kernel_rfl) (by kernel_rfl) (by kernel_rfl) (by kernel_rfl) (by kernel_rfl) (by kernel_rfl) (by kernel_rfl)
theorem b72 (n : Nat) (_ : y3 Go.Proofs.Tryz.prog (a0Q n)) (_ : y3 Go.Proofs.Tryz.prog (Q3 n)) (_ : y3 Go.Proofs.Tryz.prog (K2 n)) (h_core_Has : y3 Go.Proofs.Tryz.prog (W6 n)) (_ : y3 Go.Proofs.Tryz.prog (a0B n)) (_ : y3 Go.Proofs.Tryz.prog (a0A n)) (_ : y3 Go.Proofs.Tryz.prog (a0l n)) : y3 Go.Proofs.Tryz.prog (a0A (n + 1)) :=
 j7 z7 (j0 (es := [j6 tb (W6 n)]) ⟨z8 z7 h_core_Has, trivial⟩ 3) mixed 10 (fn := Go.Proofs.Tryz.f114) (cd := k8 Go.Proofs.Tryz.f114) (H := (b9O n)) (rl := [.tmp 4]) Go.Proofs.Tryz.func114 (by kernel_rfl) (by kernel_rfl) (by kernel_rfl) (by kernel_rfl) (by kernel_rfl) (by kernel_rfl) (by kernel_rfl)
theorem b7p (n : Nat) (_ : y3 Go.Proofs.Tryz.prog (a0Q n)) (_ : y3 Go.Proofs.Tryz.prog (Q3 n)) (_ : y3 Go.Proofs.Tryz.prog (K2 n)) (h_core_Has : y3 Go.Proofs.Tryz.prog (W6 n)) (_ : y3 Go.Proofs.Tryz.prog (a0B n)) (_ : y3 Go.Proofs.Tryz.prog (a0A n)) (_ : y3 Go.Proofs.Tryz.prog (a0l n)) : y3 Go.Proofs.Tryz.prog (a0l (n + 1)) :=
 j7 z7 (j0 (es := [j6 tb (a2A), j6 tb (b6b), j6 tb (W6 n)]) ⟨z8 z7 a6t, ⟨z8 z7 c12, ⟨z8 z7 h_core_Has, trivial⟩⟩⟩ 3) mixed 50 (fn := Go.Proofs.Tryz.f111) (cd := k8 Go.Proofs.Tryz.f111) (H := (b86 n)) (rl := [.tmp 6]) Go.Proofs.Tryz.func111 (by kernel_rfl) (by kernel_rfl) (by kernel_rfl) (by kernel_rfl) (by kernel_rfl) (by kernel_rfl) (by kernel_rfl)
theorem b1a : ∀ n : Nat, y3 Go.Proofs.Tryz.prog (a0Q n) /\ y3 Go.Proofs.Tryz.prog (Q3 n) /\ y3 Go.Proofs.Tryz.prog (K2 n) /\ y3 Go.Proofs.Tryz.prog (W6 n) /\ y3 Go.Proofs.Tryz.prog (a0B n) /\ y3 Go.Proofs.Tryz.prog (a0A n) /\ y3 Go.Proofs.Tryz.prog (a0l n)
 | 0 => ⟨J5 (by kernel_rfl), J5 (by kernel_rfl), J5 (by kernel_rfl), J5 (by kernel_rfl), J5 (by kernel_rfl), J5 (by kernel_rfl), J5 (by kernel_rfl)⟩
 | n + 1 => by
   obtain ⟨h0, h1, h2, h3, h4, h5, h6⟩ := b1a n
   exact ⟨b9P n h0 h1 h2 h3 h4 h5 h6, b2B n h0 h1 h2 h3 h4 h5 h6, b3d n h0 h1 h2 h3 h4 h5 h6, b9x n h0 h1 h2 h3 h4 h5 h6, b7L n h0 h1 h2 h3 h4 h5 h6, b72 n h0 h1 h2 h3 h4 h5 h6, b7p n h0 h1 h2 h3 h4 h5 h6⟩
theorem b3C (n : Nat) : y3 Go.Proofs.Tryz.prog (Q3 n) := (b1a n).2.1
def b63 (_ : Nat) : Hints I where
 tds := fun i => (asc [] i).getD []
 spl := fun i => (asc [] i).getD []
 pre := fun i => (asc [] i).getD []
 join := asc []
 loop := asc [(58, ⟨2251799746577216, [], [], [(26, .k (.d (.int .i64)))], [((.exit 0), []), (.ret, [(6, .k (.d (.bool)))])], bnd tb (.slot 25) 1⟩)]
 keep := asc []
def a9N (n : Nat) : Row I := ⟨12, [.d (.dat 30), .d (.dat 36), .d (.sl 3)], [.k (.d (.bool))], a9p n⟩
theorem b6R (n : Nat) : y3 Go.Proofs.Tryz.prog (a9N n) :=
 j7 z7 (j0 (es := [j6 tb (a3F n), j6 tb (a5u), j6 tb (a7U n), j6 tb (Q3 n)]) ⟨z8 z7 (a6T n), ⟨z8 z7 a89, ⟨z8 z7 (b3Q n), ⟨z8 z7 (b3C n), trivial⟩⟩⟩⟩ 3) mixed 51 (fn := Go.Proofs.Tryz.f12) (cd := k8 Go.Proofs.Tryz.f12) (H := (b63 n)) (rl := [.tmp 6]) Go.Proofs.Tryz.func12 (by kernel_rfl) (by kernel_rfl) (by kernel_rfl) (by kernel_rfl) (by kernel_rfl) (by kernel_rfl) (by kernel_rfl)
def b3E (_ : Nat) : Hints I where
 tds := fun i => (asc [] i).getD []
 spl := fun i => (asc [] i).getD []
 pre := fun i => (asc [] i).getD []
 join := asc []
 loop := asc []
 keep := asc []
def a6K (n : Nat) : Row I := ⟨10, [], [.k (.d (.bool))], a2n n⟩
theorem b2d (n : Nat) : y3 Go.Proofs.Tryz.prog (a6K n) :=
 j7 z7 (j0 (es := [j6 tb (a0E), j6 tb (a7G n), j6 tb (a9N n)]) ⟨z8 z7 a1t, ⟨z8 z7 (b1X n), ⟨z8 z7 (b6R n), trivial⟩⟩⟩ 3) mixed 37 (fn := Go.Proofs.Tryz.f10) (cd := k8 Go.Proofs.Tryz.f10) (H := (b3E n)) (rl := [.tmp 0]) Go.Proofs.Tryz.func10 (by kernel_rfl) (by kernel_rfl) (by kernel_rfl) (by kernel_rfl) (by kernel_rfl) (by kernel_rfl) (by kernel_rfl)
def a9X : Hints I where
 tds := fun i => (asc [(1, [[], [0], [0, 1], [0, 1, 2], [0, 1, 2, 3], [0, 1, 2, 3, 4], [0, 1, 2, 3, 4, 5], [0, 1, 2], [0, 1, 2, 7], [0, 1, 2, 7, 8], [0, 1, 2, 7, 8, 9], [0, 1, 2, 7, 8, 9, 10], [0, 1, 2, 3, 4, 5, 6, 7, 8, 9, 10, 11], [0, 1, 2, 3, 4, 5, 6, 7, 8, 9, 10, 11, 12]]), (3, [[], [0], [0, 1], [0, 1, 2], [], [4], [4, 5], [4, 5, 6], [0, 1, 2, 3, 4, 5, 6, 7], [0, 1, 2, 3, 4, 5, 6, 7, 8], [], [0, 1, 2, 3, 4, 5, 6, 7, 8, 9, 10], [0, 1, 2, 3, 4, 5, 6, 7, 8, 9, 10, 11]])] i).getD []
 spl := fun i => (asc [] i).getD []
 pre := fun i => (asc [] i).getD []
 join := asc []
 loop := asc []
 keep := asc []
def w3 : Row I := ⟨30, [.var 76 (.k (.d (.dat 76))) true, .d (.int .i64)], [.k (.d (.int .i64))], y4⟩
theorem w7 : y3 Go.Proofs.Tryz.prog (w3) :=
 j7 z7 (j0 (es := []) trivial 3) mixed 46 (fn := Go.Proofs.Tryz.f30) (cd := k8 Go.Proofs.Tryz.f30) (H := a9X) (rl := [.tmp 4]) Go.Proofs.Tryz.func30 (by kernel_rfl) (by kernel_rfl) (by kernel_rfl) (by kernel_rfl) (by kernel_rfl) (by kernel_rfl) (by kernel_rfl)
def a79 : Hints I where
 tds := fun i => (asc [] i).getD []
 spl := fun i => (asc [] i).getD []
 pre := fun i => (asc [] i).getD []
 join := asc []
 loop := asc []
 keep := asc []
def W8 : Row I := ⟨89, [.var 76 (.k (.d (.dat 76))) true], [.k (.d (.str))], K5⟩
theorem a0J : y3 Go.Proofs.Tryz.prog (W8) :=
 j7 z7 (j0 (es := [j6 tb (w3)]) ⟨z8 z7 w7, trivial⟩ 3) mixed 8 (fn := Go.Proofs.Tryz.f89) (cd := k8 Go.Proofs.Tryz.f89) (H := a79) (rl := [.tmp 2]) Go.Proofs.Tryz.func89 (by kernel_rfl) (by kernel_rfl) (by kernel_rfl) (by kernel_rfl) (by kernel_rfl) (by kernel_rfl) (by kernel_rfl)
def b0a : Hints I where
 tds := fun i => (asc [] i).getD []
 spl := fun i => (asc [] i).getD []
 pre := fun i => (asc [] i).getD []
 join := asc []
 loop := asc []
 keep := asc []
def a0m : Row I := ⟨90, [.var 76 (.k (.d (.dat 76))) true], [.k (.d (.str))], X1⟩
theorem a1j : y3 Go.Proofs.Tryz.prog (a0m) :=
 j7 z7 (j0 (es := [j6 tb (w3)]) ⟨z8 z7 w7, trivial⟩ 3) mixed 8 (fn := Go.Proofs.Tryz.f90) (cd := k8 Go.Proofs.Tryz.f90) (H := b0a) (rl := [.tmp 2]) Go.Proofs.Tryz.func90 (by kernel_rfl) (by kernel_rfl) (by kernel_rfl) (by kernel_rfl) (by kernel_rfl) (by kernel_rfl) (by kernel_rfl)
def a9u : Hints I where
 tds := fun i => (asc [] i).getD []
 spl := fun i => (asc [] i).getD []
 pre := fun i => (asc [] i).getD []
 join := asc []
 loop := asc []
 keep := asc []
def a15 : Row I := ⟨91, [.var 76 (.k (.d (.dat 76))) true], [.k (.d (.str))], a0g⟩
theorem a4N : y3 Go.Proofs.Tryz.prog (a15) :=
 j7 z7 (j0 (es := [j6 tb (w3)]) ⟨z8 z7 w7, trivial⟩ 3) mixed 8 (fn := Go.Proofs.Tryz.f91) (cd := k8 Go.Proofs.Tryz.f91) (H := a9u) (rl := [.tmp 2]) Go.Proofs.Tryz.func91 (by kernel_rfl) (by kernel_rfl) (by kernel_rfl) (by kernel_rfl) (by kernel_rfl) (by kernel_rfl) (by kernel_rfl)
def a8m : Hints I where
 tds := fun i => (asc [] i).getD []
 spl := fun i => (asc [] i).getD []
 pre := fun i => (asc [] i).getD []
 join := asc []
 loop := asc [(28, ⟨16776706, [], [(0, .k (.d (.dat 76)))], [(1, .k (.d (.int .i64))), (9, .k (.row 3 false))], [((.exit 0), [(9, .k (.row 3 false))])], bnd tb (.slot 1) 2⟩)]
 keep := asc []
def a3O : Row I := ⟨92, [.var 76 (.k (.d (.dat 76))) true, .d (.int .i64), .d (.int .i64), .d (.int .i64)], [.k (.row 3 false)], k9⟩
theorem a75 : y3 Go.Proofs.Tryz.prog (a3O) :=
 j7 z7 (j0 (es := [j6 tb (w3)]) ⟨z8 z7 w7, trivial⟩ 3) mixed 25 (fn := Go.Proofs.Tryz.f92) (cd := k8 Go.Proofs.Tryz.f92) (H := a8m) (rl := [.tmp 8]) Go.Proofs.Tryz.func92 (by kernel_rfl) (by kernel_rfl) (by kernel_rfl) (by kernel_rfl) (by kernel_rfl) (by kernel_rfl) (by kernel_rfl)
def a8N : Hints I where
 tds := fun i => (asc [(7, [[], [0], [], [], [2, 3], [2, 3, 4], [], [], [6, 7], [], [6, 7, 8, 9], [6, 7, 8, 9, 10], [2, 3, 4, 5, 6, 7, 8, 9, 10, 11], [2, 3, 4, 5, 6, 7, 8, 9, 10, 11, 12], [0, 1, 2, 3, 4, 5, 6, 7, 8, 9, 10, 11, 12, 13], [0, 1, 2, 3, 4, 5, 6, 7, 8, 9, 10, 11, 12, 13, 14], [0, 1, 2, 3, 4, 5, 6, 7, 8, 9, 10, 11, 12, 13, 14, 15]])] i).getD []
 spl := fun i => (asc [] i).getD []
 pre := fun i => (asc [] i).getD []
 join := asc [(978, ⟨8796076244992, [], [(0, .k (.d (.dat 76))), (5, .lvs [.d (.int .i64), .d (.int .i64), .d (.int .i64), .d (.str), .row 3 false, .row 132 false, .d (.int .i64), .d (.int .i64)])], [(.normal, [])]⟩)]
 loop := asc [(122, ⟨8796091973760, [6], [(0, .k (.d (.dat 76))), (5, .lvs [.d (.int .i64), .d (.int .i64), .d (.int .i64), .d (.str), .row 3 false, .row 132 false, .d (.int .i64), .d (.int .i64)])], [(7, .k (.d (.int .i64)))], [((.exit 0), [])], bnd tb (.cst 3) 1⟩)]
 keep := asc []
def a3U : Row I := ⟨93, [.var 76 (.k (.d (.dat 76))) true, .d (.int .i64)], [.k (.d (.dat 72))], a1h⟩
theorem a77 : y3 Go.Proofs.Tryz.prog (a3U) :=
 j7 z7 (j0 (es := [j6 tb (w3)]) ⟨z8 z7 w7, trivial⟩ 3) mixed 44 (fn := Go.Proofs.Tryz.f93) (cd := k8 Go.Proofs.Tryz.f93) (H := a8N) (rl := [.cell 4 72]) Go.Proofs.Tryz.func93 (by kernel_rfl) (by kernel_rfl) (by kernel_rfl) (by kernel_rfl) (by kernel_rfl) (by kernel_rfl) (by kernel_rfl)
def b0e : Hints I where
 tds := fun i => (asc [(8, [[], [], [0, 1], [0, 1, 2], [], [], [], [], [7], [6, 7, 8], [5, 6, 7, 8, 9], [4, 5, 6, 7, 8, 9, 10], [4, 5, 6, 7, 8, 9, 10, 11], [0, 1, 2, 3, 4, 5, 6, 7, 8, 9, 10, 11, 12], [0, 1, 2, 3, 4, 5, 6, 7, 8, 9, 10, 11, 12, 13]])] i).getD []
 spl := fun i => (asc [] i).getD []
 pre := fun i => (asc [] i).getD []
 join := asc [(29, ⟨128, [], [], [(.normal, [(7, .k (.d (.int .i64)))])]⟩),
  (32243709, ⟨47223664828696452136960, [], [], [(.normal, [(73, .k (.d (.bool)))])]⟩),
  (2063597565, ⟨49517601571415210995964968960, [], [], [(.normal, [(93, .k (.d (.bool)))])]⟩)]
 loop := asc []
 keep := asc []
def a4L : Row I := ⟨54, [.var 76 (.k (.d (.dat 76))) true, .d (.int .i64), .d (.int .i64)], [.k (.d (.dat 72))], a1Z⟩
theorem a9B : y3 Go.Proofs.Tryz.prog (a4L) :=
 j7 z7 (j0 (es := [j6 tb (w3), j6 tb (W8), j6 tb (a0m), j6 tb (a15), j6 tb (a3O), j6 tb (a3U)]) ⟨z8 z7 w7, ⟨z8 z7 a0J, ⟨z8 z7 a1j, ⟨z8 z7 a4N, ⟨z8 z7 a75, ⟨z8 z7 a77, trivial⟩⟩⟩⟩⟩⟩ 3) mixed 128 (fn := Go.Proofs.Tryz.f54) (cd := k8 Go.Proofs.Tryz.f54) (H := b0e) (rl := [.cell 6 72]) Go.Proofs.Tryz.func54 (by kernel_rfl) (by kernel_rfl) (by kernel_rfl) (by kernel_rfl) (by kernel_rfl) (by kernel_rfl) (by kernel_rfl)
def b0c : Hints I where
 tds := fun i => (asc [(6, [[], [0], [], [], [], [2, 3, 4], [2, 3, 4, 5], [0, 1, 2, 3, 4, 5, 6], [0, 1, 2, 3, 4, 5, 6, 7], [0, 1, 2, 3, 4, 5, 6, 7, 8]])] i).getD []
 spl := fun i => (asc [] i).getD []
 pre := fun i => (asc [] i).getD []
 join := asc []
 loop := asc [(122, ⟨16776256, [], [(0, .k (.d (.dat 76))), (5, .lvs [.row 72 false, .d (.int .i64)])], [(6, .k (.d (.int .i64)))], [((.exit 0), [])], bnd tb (.slot 1) 1⟩)]
 keep := asc []
def a4K : Row I := ⟨29, [.var 76 (.k (.d (.dat 76))) true, .d (.int .i64)], [.lvs [.row 72 false, .d (.int .i64)]], a0q⟩
theorem a9x : y3 Go.Proofs.Tryz.prog (a4K) :=
 j7 z7 (j0 (es := [j6 tb (a4L)]) ⟨z8 z7 a9B, trivial⟩ 3) mixed 25 (fn := Go.Proofs.Tryz.f29) (cd := k8 Go.Proofs.Tryz.f29) (H := b0c) (rl := [.cell 4 36]) Go.Proofs.Tryz.func29 (by kernel_rfl) (by kernel_rfl) (by kernel_rfl) (by kernel_rfl) (by kernel_rfl) (by kernel_rfl) (by kernel_rfl)
def a81 : Hints I where
 tds := fun i => (asc [] i).getD []
 spl := fun i => (asc [] i).getD []
 pre := fun i => (asc [] i).getD []
 join := asc []
 loop := asc []
 keep := asc []
def a39 : Row I := ⟨101, [.var 76 (.k (.d (.dat 76))) true], [.k (.d (.int .i64))], a1v⟩
theorem a8i : y3 Go.Proofs.Tryz.prog (a39) :=
 j7 z7 (j0 (es := [j6 tb (w3)]) ⟨z8 z7 w7, trivial⟩ 3) mixed 8 (fn := Go.Proofs.Tryz.f101) (cd := k8 Go.Proofs.Tryz.f101) (H := a81) (rl := [.tmp 2]) Go.Proofs.Tryz.func101 (by kernel_rfl) (by kernel_rfl) (by kernel_rfl) (by kernel_rfl) (by kernel_rfl) (by kernel_rfl) (by kernel_rfl)
def b5S : Hints I where
 tds := fun i => (asc [] i).getD []
 spl := fun i => (asc [] i).getD []
 pre := fun i => (asc [] i).getD []
 join := asc []
 loop := asc []
 keep := asc []
def a5r : Row I := ⟨94, [.d (.int .i64)], [.k (.d (.dat 28))], a7L⟩
theorem a8Y : y3 Go.Proofs.Tryz.prog (a5r) :=
 j7 z7 (j0 (es := []) trivial 3) mixed 5 (fn := Go.Proofs.Tryz.f94) (cd := k8 Go.Proofs.Tryz.f94) (H := b5S) (rl := [.cell 2 28]) Go.Proofs.Tryz.func94 (by kernel_rfl) (by kernel_rfl) (by kernel_rfl) (by kernel_rfl) (by kernel_rfl) (by kernel_rfl) (by kernel_rfl)
def b4I : Hints I where
 tds := fun i => (asc [] i).getD []
 spl := fun i => (asc [] i).getD []
 pre := fun i => (asc [] i).getD []
 join := asc []
 loop := asc []
 keep := asc []
def a4S : Row I := ⟨96, [.d (.str)], [.k (.d (.dat 28))], a4W⟩
theorem a8f : y3 Go.Proofs.Tryz.prog (a4S) :=
 j7 z7 (j0 (es := []) trivial 3) mixed 5 (fn := Go.Proofs.Tryz.f96) (cd := k8 Go.Proofs.Tryz.f96) (H := b4I) (rl := [.cell 2 28]) Go.Proofs.Tryz.func96 (by kernel_rfl) (by kernel_rfl) (by kernel_rfl) (by kernel_rfl) (by kernel_rfl) (by kernel_rfl) (by kernel_rfl)
def b2Z : Hints I where
 tds := fun i => (asc [] i).getD []
 spl := fun i => (asc [] i).getD []
 pre := fun i => (asc [] i).getD []
 join := asc []
 loop := asc []
 keep := asc []
def a34 : Row I := ⟨95, [.d (.str)], [.k (.d (.dat 28))], a3M⟩
theorem a7c : y3 Go.Proofs.Tryz.prog (a34) :=
 j7 z7 (j0 (es := []) trivial 3) mixed 5 (fn := Go.Proofs.Tryz.f95) (cd := k8 Go.Proofs.Tryz.f95) (H := b2Z) (rl := [.cell 2 28]) Go.Proofs.Tryz.func95 (by kernel_rfl) (by kernel_rfl) (by kernel_rfl) (by kernel_rfl) (by kernel_rfl) (by kernel_rfl) (by kernel_rfl)
def b5R : Hints I where
 tds := fun i => (asc [] i).getD []
 spl := fun i => (asc [] i).getD []
 pre := fun i => (asc [] i).getD []
 join := asc []
 loop := asc []
 keep := asc []
def a5w : Row I := ⟨97, [.d (.int .i64)], [.k (.d (.dat 28))], a7O⟩
theorem a86 : y3 Go.Proofs.Tryz.prog (a5w) :=
 j7 z7 (j0 (es := []) trivial 3) mixed 5 (fn := Go.Proofs.Tryz.f97) (cd := k8 Go.Proofs.Tryz.f97) (H := b5R) (rl := [.cell 2 28]) Go.Proofs.Tryz.func97 (by kernel_rfl) (by kernel_rfl) (by kernel_rfl) (by kernel_rfl) (by kernel_rfl) (by kernel_rfl) (by kernel_rfl)
def b3s : Hints I where
 tds := fun i => (asc [] i).getD []
 spl := fun i => (asc [] i).getD []
 pre := fun i => (asc [] i).getD []
 join := asc []
 loop := asc []
 keep := asc []
def a32 : Row I := ⟨138, [.d (.sl 28)], [.k (.row 28 false)], a0S⟩
theorem a7i : y3 Go.Proofs.Tryz.prog (a32) :=
 j7 z7 (j0 (es := []) trivial 3) mixed 5 (fn := Go.Proofs.Tryz.f138) (cd := k8 Go.Proofs.Tryz.f138) (H := b3s) (rl := [.tmp 2]) Go.Proofs.Tryz.func138 (by kernel_rfl) (by kernel_rfl) (by kernel_rfl) (by kernel_rfl) (by kernel_rfl) (by kernel_rfl) (by kernel_rfl)
def b4d : Hints I where
 tds := fun i => (asc [] i).getD []
 spl := fun i => (asc [] i).getD []
 pre := fun i => (asc [] i).getD []
 join := asc []
 loop := asc []
 keep := asc []
def a4g : Row I := ⟨102, [.d (.sl 28)], [.k (.d (.dat 28))], a2O⟩
theorem a7F : y3 Go.Proofs.Tryz.prog (a4g) :=
 j7 z7 (j0 (es := [j6 tb (a32)]) ⟨z8 z7 a7i, trivial⟩ 3) mixed 6 (fn := Go.Proofs.Tryz.f102) (cd := k8 Go.Proofs.Tryz.f102) (H := b4d) (rl := [.cell 2 28]) Go.Proofs.Tryz.func102 (by kernel_rfl) (by kernel_rfl) (by kernel_rfl) (by kernel_rfl) (by kernel_rfl) (by kernel_rfl) (by kernel_rfl)
def a9R : Hints I where
 tds := fun i => (asc [] i).getD []
 spl := fun i => (asc [] i).getD []
 pre := fun i => (asc [] i).getD []
 join := asc []
 loop := asc []
 keep := asc []
def a01 : Row I := ⟨56, [.var 76 (.k (.d (.dat 76))) true], [.k (.d (.dat 28))], J9⟩
theorem a2F : y3 Go.Proofs.Tryz.prog (a01) :=
 j7 z7 (j0 (es := [j6 tb (w3), j6 tb (a39), j6 tb (a5r), j6 tb (W8), j6 tb (a4S), j6 tb (a0m), j6 tb (a34), j6 tb (a5w), j6 tb (a0E), j6 tb (a4g)]) ⟨z8 z7 w7, ⟨z8 z7 a8i, ⟨z8 z7 a8Y, ⟨z8 z7 a0J, ⟨z8 z7 a8f, ⟨z8 z7 a1j, ⟨z8 z7 a7c, ⟨z8 z7 a86, ⟨z8 z7 a1t, ⟨z8 z7 a7F, trivial⟩⟩⟩⟩⟩⟩⟩⟩⟩⟩ 3) mixed 29 (fn := Go.Proofs.Tryz.f56) (cd := k8 Go.Proofs.Tryz.f56) (H := a9R) (rl := [.cell 2 28]) Go.Proofs.Tryz.func56 (by kernel_rfl) (by kernel_rfl) (by kernel_rfl) (by kernel_rfl) (by kernel_rfl) (by kernel_rfl) (by kernel_rfl)
def b4c : Hints I where
 tds := fun i => (asc [] i).getD []
 spl := fun i => (asc [] i).getD []
 pre := fun i => (asc [] i).getD []
 join := asc []
 loop := asc []
 keep := asc []
def a4u : Row I := ⟨133, [.d (.int .u8)], [.k (.d (.bool))], a1N⟩
theorem a7W : y3 Go.Proofs.Tryz.prog (a4u) :=
 j7 z7 (j0 (es := []) trivial 3) mixed 9 (fn := Go.Proofs.Tryz.f133) (cd := k8 Go.Proofs.Tryz.f133) (H := b4c) (rl := [.tmp 2]) Go.Proofs.Tryz.func133 (by kernel_rfl) (by kernel_rfl) (by kernel_rfl) (by kernel_rfl) (by kernel_rfl) (by kernel_rfl) (by kernel_rfl)
def b36 : Hints I where
 tds := fun i => (asc [] i).getD []
 spl := fun i => (asc [] i).getD []
 pre := fun i => (asc [] i).getD []
 join := asc []
 loop := asc []
 keep := asc []
def a4C : Row I := ⟨134, [.d (.int .u8)], [.k (.d (.bool))], a2K⟩
theorem a7A : y3 Go.Proofs.Tryz.prog (a4C) :=
 j7 z7 (j0 (es := []) trivial 3) mixed 9 (fn := Go.Proofs.Tryz.f134) (cd := k8 Go.Proofs.Tryz.f134) (H := b36) (rl := [.tmp 2]) Go.Proofs.Tryz.func134 (by kernel_rfl) (by kernel_rfl) (by kernel_rfl) (by kernel_rfl) (by kernel_rfl) (by kernel_rfl) (by kernel_rfl)
def b3b : Hints I where
 tds := fun i => (asc [] i).getD []
 spl := fun i => (asc [] i).getD []
 pre := fun i => (asc [] i).getD []
 join := asc []
 loop := asc [(58, ⟨4398046248972, [], [], [(3, .k (.d (.int .i64)))], [((.exit 0), []), (.ret, [(2, .k (.d (.bool)))])], bnd tb (.len (.slot 0)) 1⟩)]
 keep := asc []
def a2b : Row I := ⟨82, [.d (.str)], [.k (.d (.bool))], a1r⟩
theorem a4q : y3 Go.Proofs.Tryz.prog (a2b) :=
 j7 z7 (j0 (es := [j6 tb (a4u), j6 tb (a4C)]) ⟨z8 z7 a7W, ⟨z8 z7 a7A, trivial⟩⟩ 3) mixed 42 (fn := Go.Proofs.Tryz.f82) (cd := k8 Go.Proofs.Tryz.f82) (H := b3b) (rl := [.tmp 2]) Go.Proofs.Tryz.func82 (by kernel_rfl) (by kernel_rfl) (by kernel_rfl) (by kernel_rfl) (by kernel_rfl) (by kernel_rfl) (by kernel_rfl)
def b1p : Hints I where
 tds := fun i => (asc [] i).getD []
 spl := fun i => (asc [] i).getD []
 pre := fun i => (asc [] i).getD []
 join := asc []
 loop := asc []
 keep := asc []
def a1z : Row I := ⟨83, [.d (.dat 114)], [.k (.d (.bool))], a0V⟩
theorem a3G : y3 Go.Proofs.Tryz.prog (a1z) :=
 j7 z7 (j0 (es := [j6 tb (a2b)]) ⟨z8 z7 a4q, trivial⟩ 3) mixed 22 (fn := Go.Proofs.Tryz.f83) (cd := k8 Go.Proofs.Tryz.f83) (H := b1p) (rl := [.tmp 2]) Go.Proofs.Tryz.func83 (by kernel_rfl) (by kernel_rfl) (by kernel_rfl) (by kernel_rfl) (by kernel_rfl) (by kernel_rfl) (by kernel_rfl)
def b3V : Hints I where
 tds := fun i => (asc [] i).getD []
 spl := fun i => (asc [] i).getD []
 pre := fun i => (asc [] i).getD []
 join := asc []
 loop := asc []
 keep := asc []
def a2z : Row I := ⟨86, [.d (.int .i64), .d (.int .i64)], [.k (.d (.int .i64))], a1Q⟩
theorem a40 : y3 Go.Proofs.Tryz.prog (a2z) :=
 j7 z7 (j0 (es := []) trivial 3) mixed 11 (fn := Go.Proofs.Tryz.f86) (cd := k8 Go.Proofs.Tryz.f86) (H := b3V) (rl := [.tmp 4]) Go.Proofs.Tryz.func86 (by kernel_rfl) (by kernel_rfl) (by kernel_rfl) (by kernel_rfl) (by kernel_rfl) (by kernel_rfl) (by kernel_rfl)
def b4G : Hints I where
 tds := fun i => (asc [] i).getD []
 spl := fun i => (asc [] i).getD []
 pre := fun i => (asc [] i).getD []
 join := asc []
 loop := asc []
 keep := asc []
def a47 : Row I := ⟨87, [.d (.str), .d (.str)], [.k (.d (.int .i64))], a0R⟩
theorem a8b : y3 Go.Proofs.Tryz.prog (a47) :=
 j7 z7 (j0 (es := []) trivial 3) mixed 11 (fn := Go.Proofs.Tryz.f87) (cd := k8 Go.Proofs.Tryz.f87) (H := b4G) (rl := [.tmp 4]) Go.Proofs.Tryz.func87 (by kernel_rfl) (by kernel_rfl) (by kernel_rfl) (by kernel_rfl) (by kernel_rfl) (by kernel_rfl) (by kernel_rfl)
def a94 : Hints I where
 tds := fun i => (asc [] i).getD []
 spl := fun i => (asc [] i).getD []
 pre := fun i => (asc [] i).getD []
 join := asc []
 loop := asc []
 keep := asc []
def a0n : Row I := ⟨84, [.d (.dat 114), .d (.dat 114)], [.k (.d (.int .i64))], V1⟩
theorem a1i : y3 Go.Proofs.Tryz.prog (a0n) :=
 j7 z7 (j0 (es := [j6 tb (a2z), j6 tb (a47)]) ⟨z8 z7 a40, ⟨z8 z7 a8b, trivial⟩⟩ 3) mixed 20 (fn := Go.Proofs.Tryz.f84) (cd := k8 Go.Proofs.Tryz.f84) (H := a94) (rl := [.tmp 4]) Go.Proofs.Tryz.func84 (by kernel_rfl) (by kernel_rfl) (by kernel_rfl) (by kernel_rfl) (by kernel_rfl) (by kernel_rfl) (by kernel_rfl)
def b5P : Hints I where
 tds := fun i => (asc [(13, [[], [], [1], [1, 2], [0, 1, 2, 3], [0, 1, 2, 3, 4], [0, 1, 2, 3, 4, 5], [0, 1, 2, 3, 4, 5, 6], [0, 1, 2, 3, 4, 5], [0, 1, 2, 3, 4, 5, 6, 7, 8], [0, 1, 2, 3, 4, 5, 6, 7, 8, 9], [0, 1, 2, 3, 4, 5], [0, 1, 2, 3, 4, 5], [0, 1, 2, 3, 4, 5, 11, 12], [0, 1, 2, 3, 4, 5, 11, 12, 13], [0, 1, 2, 3, 4, 5, 6, 7, 8, 9, 10, 11, 12, 13, 14], [0, 1, 2, 3, 4, 5, 6, 7, 8, 9, 10, 11, 12, 13, 14, 15], [0, 1, 2, 3, 4, 5, 6, 7, 8, 9, 10, 11, 12, 13, 14, 15, 16]]), (15, [[], [], [1], [1, 2], [0, 1, 2, 3], [0, 1, 2, 3, 4], [0, 1, 2, 3, 4, 5], [0, 1, 2, 3, 4, 5, 6], [0, 1, 2, 3, 4, 5], [0, 1, 2, 3, 4, 5, 6, 7, 8], [0, 1, 2, 3, 4, 5, 6, 7, 8, 9], [0, 1, 2, 3, 4, 5], [0, 1, 2, 3, 4, 5], [0, 1, 2, 3, 4, 5, 11, 12], [0, 1, 2, 3, 4, 5, 11, 12, 13], [0, 1, 2, 3, 4, 5, 6, 7, 8, 9, 10, 11, 12, 13, 14], [0, 1, 2, 3, 4, 5, 6, 7, 8, 9, 10, 11, 12, 13, 14, 15]]), (17, [[], [0], [], [0, 1, 2], [0, 1, 2, 3], [], [5], [], [5, 6, 7], [0, 1, 2, 3, 4, 5, 6, 7, 8], [0, 1, 2, 3, 4, 5, 6, 7, 8, 9], [0, 1, 2, 3, 4, 5, 6, 7, 8, 9, 10]]), (18, [[], [], [], [1, 2], [1, 2, 3], [1, 2, 3, 4], [0, 1, 2, 3, 4, 5], [], [7], [], [7, 8, 9], [0, 1, 2, 3, 4, 5, 6, 7, 8, 9, 10], [0, 1, 2, 3, 4, 5, 6, 7, 8, 9, 10, 11], [0, 1, 2, 3, 4, 5, 6, 7, 8, 9, 10, 11, 12]]), (19, [[], [], [], [1, 2], [1, 2, 3], [1, 2, 3, 4], [0, 1, 2, 3, 4, 5], [], [7], [], [7, 8, 9], [0, 1, 2, 3, 4, 5, 6, 7, 8, 9, 10], [0, 1, 2, 3, 4, 5, 6, 7, 8, 9, 10, 11], [0, 1, 2, 3, 4, 5, 6, 7, 8, 9, 10, 11, 12]])] i).getD []
 spl := fun i => (asc [] i).getD []
 pre := fun i => (asc [] i).getD []
 join := asc []
 loop := asc [(58, ⟨2147221600, [], [(4, .lvs [.d (.int .i64), .d (.int .i64), .d (.str), .row 28 false, .row 114 false, .row 30 false, .row 9 false])], [(6, .k (.d (.int .i64)))], [((.exit 0), []), (.ret, [(5, .k (.d (.int .i64)))])], bnd tb (.len (.slot 0)) 1⟩),
  (250, ⟨5192296858534827628530492034256672, [7], [(4, .lvs [.d (.int .i64), .d (.int .i64), .d (.str), .row 28 false, .row 114 false, .row 30 false, .row 9 false]), (7, .lvs [.d (.int .i64), .d (.int .i64), .d (.str), .d (.sl 28), .d (.sl 114), .row 30 true, .row 9 true])], [(8, .k (.d (.int .i64)))], [((.exit 2), []), (.ret, [(5, .k (.d (.int .i64)))])], bnd tb (.len (.slot 0)) 1⟩),
  (32036, ⟨288230101273805312, [7], [], [(9, .k (.d (.int .i64)))], [((.exit 4), [(9, .k (.d (.int .i64)))])], bnd tb (.len (.ld 24 (.fld 28 4 (.slot 7)))) 1⟩)]
 keep := asc []
def a5q : Row I := ⟨135, [.d (.sl 114), .d (.sl 28)], [.k (.d (.dat 28)), .k (.d (.int .i64))], a1A⟩
theorem a9d : y3 Go.Proofs.Tryz.prog (a5q) :=
 j7 z7 (j0 (es := [j6 tb (a1z), j6 tb (a0n), j6 tb (a32)]) ⟨z8 z7 a3G, ⟨z8 z7 a1i, ⟨z8 z7 a7i, trivial⟩⟩⟩ 3) mixed 113 (fn := Go.Proofs.Tryz.f135) (cd := k8 Go.Proofs.Tryz.f135) (H := b5P) (rl := [.cell 4 28, .tmp 5]) Go.Proofs.Tryz.func135 (by kernel_rfl) (by kernel_rfl) (by kernel_rfl) (by kernel_rfl) (by kernel_rfl) (by kernel_rfl) (by kernel_rfl)
def b3X : Hints I where
 tds := fun i => (asc [] i).getD []
 spl := fun i => (asc [] i).getD []
 pre := fun i => (asc [] i).getD []
 join := asc []
 loop := asc []
 keep := asc []
def a4F : Row I := ⟨85, [.d (.int .i64), .d (.int .i64)], [.k (.d (.int .i64))], a0c⟩
theorem a7J : y3 Go.Proofs.Tryz.prog (a4F) :=
 j7 z7 (j0 (es := [j6 tb (a2z)]) ⟨z8 z7 a40, trivial⟩ 3) mixed 8 (fn := Go.Proofs.Tryz.f85) (cd := k8 Go.Proofs.Tryz.f85) (H := b3X) (rl := [.tmp 4]) Go.Proofs.Tryz.func85 (by kernel_rfl) (by kernel_rfl) (by kernel_rfl) (by kernel_rfl) (by kernel_rfl) (by kernel_rfl) (by kernel_rfl)
def b2u (_ : Nat) : Hints I where
 tds := fun i => (asc [(12, [[], [0], [], [0, 1, 2], [0, 1, 2, 3], [], [5], [], [5, 6, 7], [5, 6, 7, 8], [0, 1, 2, 3, 4, 5, 6, 7, 8, 9], [0, 1, 2, 3, 4, 5, 6, 7, 8, 9, 10]]), (23, [[], [0], [], [0, 1, 2], [0, 1, 2, 3], [], [5], [], [5, 6, 7], [5, 6, 7, 8], [0, 1, 2, 3, 4, 5, 6, 7, 8, 9], [0, 1, 2, 3, 4, 5, 6, 7, 8, 9, 10]]), (31, [[], [0], [], [0, 1, 2], [0, 1, 2, 3], [], [5], [], [5, 6, 7], [5, 6, 7, 8], [0, 1, 2, 3, 4, 5, 6, 7, 8, 9], [0, 1, 2, 3, 4, 5, 6, 7, 8, 9, 10]])] i).getD []
 spl := fun i => (asc [] i).getD []
 pre := fun i => (asc [] i).getD []
 join := asc []
 loop := asc [(506, ⟨151115655394234608910448, [], [], [(5, .k (.d (.int .i64)))], [((.exit 0), []), (.ret, [(4, .k (.d (.int .i64)))])], bnd tb (.len (.ld 24 (.fld 28 4 (.slot 2)))) 1⟩),
  (8186, ⟨1329227361959615758789106311928742672, [], [], [(8, .k (.d (.int .i64)))], [((.exit 2), []), (.ret, [(4, .k (.d (.int .i64)))])], bnd tb (.len (.ld 25 (.fld 28 5 (.slot 2)))) 1⟩),
  (32762, ⟨45671904388519233253803489366408968731082361872, [], [], [(10, .k (.d (.int .i64)))], [((.exit 4), []), (.ret, [(4, .k (.d (.int .i64)))])], bnd tb (.len (.ld 26 (.fld 28 6 (.slot 2)))) 1⟩)]
 keep := asc []
def J8 (n : Nat) : Row I := ⟨53, [.d (.dat 28), .d (.dat 28)], [.k (.d (.int .i64))], a0a n⟩
def b2T (_ : Nat) : Hints I where
 tds := fun i => (asc [(6, [[], [], [0, 1], [0, 1, 2], [], [], [4, 5], [4, 5, 6], [0, 1, 2, 3, 4, 5, 6, 7], [0, 1, 2, 3, 4, 5, 6, 7, 8]])] i).getD []
 spl := fun i => (asc [] i).getD []
 pre := fun i => (asc [] i).getD []
 join := asc []
 loop := asc [(58, ⟨34359607408, [], [], [(5, .k (.d (.int .i64)))], [((.exit 0), []), (.ret, [(4, .k (.d (.int .i64)))])], bnd tb (.len (.slot 0)) 1⟩)]
 keep := asc []
def X6 (n : Nat) : Row I := ⟨88, [.d (.sl 28), .d (.sl 28)], [.k (.d (.int .i64))], a2p n⟩
def a8B (_ : Nat) : Hints I where
 tds := fun i => (asc [] i).getD []
 spl := fun i => (asc [] i).getD []
 pre := fun i => (asc [] i).getD []
 join := asc []
 loop := asc []
 keep := asc []
def Y5 (n : Nat) : Row I := ⟨70, [.d (.dat 30), .d (.dat 30)], [.k (.d (.int .i64))], Z4 n⟩
theorem b04 (n : Nat) (_ : y3 Go.Proofs.Tryz.prog (J8 n)) (h_semtyperef1_values : y3 Go.Proofs.Tryz.prog (X6 n)) (h_semtyperef1_CompareEntries : y3 Go.Proofs.Tryz.prog (Y5 n)) : y3 Go.Proofs.Tryz.prog (J8 (n + 1)) :=
 j7 z7 (j0 (es := [j6 tb (a4F), j6 tb (a2z), j6 tb (a47), j6 tb (a0n), j6 tb (X6 n), j6 tb (Y5 n)]) ⟨z8 z7 a7J, ⟨z8 z7 a40, ⟨z8 z7 a8b, ⟨z8 z7 a1i, ⟨z8 z7 h_semtyperef1_values, ⟨z8 z7 h_semtyperef1_CompareEntries, trivial⟩⟩⟩⟩⟩⟩ 3) mixed 155 (fn := Go.Proofs.Tryz.f53) (cd := k8 Go.Proofs.Tryz.f53) (H := (b2u n)) (rl := [.tmp 4]) Go.Proofs.Tryz.func53 (by kernel_rfl) (by kernel_rfl) (by kernel_rfl) (by kernel_rfl) (by kernel_rfl) (by kernel_rfl) (by kernel_rfl)
theorem b1w (n : Nat) (h_semtyperef1_Compare : y3 Go.Proofs.Tryz.prog (J8 n)) (_ : y3 Go.Proofs.Tryz.prog (X6 n)) (_ : y3 Go.Proofs.Tryz.prog (Y5 n)) : y3 Go.Proofs.Tryz.prog (X6 (n + 1)) :=
 j7 z7 (j0 (es := [j6 tb (a4F), j6 tb (J8 n)]) ⟨z8 z7 a7J, ⟨z8 z7 h_semtyperef1_Compare, trivial⟩⟩ 3) mixed 35 (fn := Go.Proofs.Tryz.f88) (cd := k8 Go.Proofs.Tryz.f88) (H := (b2T n)) (rl := [.tmp 4]) Go.Proofs.Tryz.func88 (by kernel_rfl) (by kernel_rfl) (by kernel_rfl) (by kernel_rfl) (by kernel_rfl) (by kernel_rfl) (by kernel_rfl)
theorem a7z (n : Nat) (h_semtyperef1_Compare : y3 Go.Proofs.Tryz.prog (J8 n)) (h_semtyperef1_values : y3 Go.Proofs.Tryz.prog (X6 n)) (_ : y3 Go.Proofs.Tryz.prog (Y5 n)) : y3 Go.Proofs.Tryz.prog (Y5 (n + 1)) :=
 j7 z7 (j0 (es := [j6 tb (X6 n), j6 tb (J8 n)]) ⟨z8 z7 h_semtyperef1_values, ⟨z8 z7 h_semtyperef1_Compare, trivial⟩⟩ 3) mixed 26 (fn := Go.Proofs.Tryz.f70) (cd := k8 Go.Proofs.Tryz.f70) (H := (a8B n)) (rl := [.tmp 4]) Go.Proofs.Tryz.func70 (by kernel_rfl) (by kernel_rfl) (by kernel_rfl) (by kernel_rfl) (by kernel_rfl) (by kernel_rfl) (by kernel_rfl)
theorem a2E : ∀ n : Nat, y3 Go.Proofs.Tryz.prog (J8 n) /\ y3 Go.Proofs.Tryz.prog (X6 n) /\ y3 Go.Proofs.Tryz.prog (Y5 n)
 | 0 => ⟨J5 (by kernel_rfl), J5 (by kernel_rfl), J5 (by kernel_rfl)⟩
 | n + 1 => by
   obtain ⟨h0, h1, h2⟩ := a2E n
   exact ⟨b04 n h0 h1 h2, b1w n h0 h1 h2, a7z n h0 h1 h2⟩
theorem b1n (n : Nat) : y3 Go.Proofs.Tryz.prog (J8 n) := (a2E n).1
theorem a36 (n : Nat) : y3 Go.Proofs.Tryz.prog (Y5 n) := (a2E n).2.2
def b3K (_ : Nat) : Hints I where
 tds := fun i => (asc [] i).getD []
 spl := fun i => (asc [] i).getD []
 pre := fun i => (asc [] i).getD []
 join := asc []
 loop := asc []
 keep := asc []
def a4E (n : Nat) : Row I := ⟨27, [.d (.dat 28), .d (.dat 28)], [.k (.d (.bool))], a2M n⟩
theorem a7x (n : Nat) : y3 Go.Proofs.Tryz.prog (a4E n) :=
 j7 z7 (j0 (es := [j6 tb (J8 n)]) ⟨z8 z7 (b1n n), trivial⟩ 3) mixed 9 (fn := Go.Proofs.Tryz.f27) (cd := k8 Go.Proofs.Tryz.f27) (H := (b3K n)) (rl := [.tmp 4]) Go.Proofs.Tryz.func27 (by kernel_rfl) (by kernel_rfl) (by kernel_rfl) (by kernel_rfl) (by kernel_rfl) (by kernel_rfl) (by kernel_rfl)
def b2e (_ : Nat) : Hints I where
 tds := fun i => (asc [(6, [[], [], [1], [0, 1, 2], [0, 1, 2, 3], [0, 1, 2, 3, 4], [0, 1, 2, 3, 4], [0, 1, 2, 3, 4, 5, 6], [0, 1, 2, 3, 4, 5, 6, 7], [0, 1, 2, 3, 4], [0, 1, 2, 3, 4], [0, 1, 2, 3, 4, 9, 10], [0, 1, 2, 3, 4, 9, 10, 11], [0, 1, 2, 3, 4, 5, 6, 7, 8, 9, 10, 11, 12], [0, 1, 2, 3, 4, 5, 6, 7, 8, 9, 10, 11, 12, 13], [0, 1, 2, 3, 4, 5, 6, 7, 8, 9, 10, 11, 12, 13, 14]]), (8, [[], [], [1], [0, 1, 2], [0, 1, 2, 3], [0, 1, 2, 3, 4], [0, 1, 2, 3, 4], [0, 1, 2, 3, 4, 5, 6], [0, 1, 2, 3, 4, 5, 6, 7], [0, 1, 2, 3, 4], [0, 1, 2, 3, 4], [0, 1, 2, 3, 4, 9, 10], [0, 1, 2, 3, 4, 9, 10, 11], [0, 1, 2, 3, 4, 5, 6, 7, 8, 9, 10, 11, 12], [0, 1, 2, 3, 4, 5, 6, 7, 8, 9, 10, 11, 12, 13], [0, 1, 2, 3, 4, 5, 6, 7, 8, 9, 10, 11, 12, 13, 14]]), (10, [[], [], [], [1, 2], [1, 2, 3], [1, 2, 3, 4], [0, 1, 2, 3, 4, 5], [], [], [7, 8], [0, 1, 2, 3, 4, 5, 6, 7, 8, 9], [0, 1, 2, 3, 4, 5, 6, 7, 8, 9, 10]])] i).getD []
 spl := fun i => (asc [] i).getD []
 pre := fun i => (asc [] i).getD []
 join := asc [(466, ⟨4611686018427379816, [], [], [(.normal, [(3, .k (.d (.sl 30)))])]⟩)]
 loop := asc [(58, ⟨4611686018427387896, [], [], [(3, .k (.d (.sl 30))), (4, .k (.d (.int .i64)))], [((.exit 0), [(3, .k (.d (.sl 30)))])], bnd tb (.len (.slot 0)) 1⟩),
  (7460, ⟨2147475488, [3], [], [(5, .k (.d (.int .i64)))], [((.exit 2), [(5, .k (.d (.int .i64)))])], bnd tb (.len (.slot 3)) 1⟩)]
 keep := asc []
def a6j (n : Nat) : Row I := ⟨39, [.bor 30], [.k (.d (.sl 30))], a3t n⟩
theorem b1A (n : Nat) : y3 Go.Proofs.Tryz.prog (a6j n) :=
 j7 z7 (j0 (es := [j6 tb (Y5 n)]) ⟨z8 z7 (a36 n), trivial⟩ 3) mixed 63 (fn := Go.Proofs.Tryz.f39) (cd := k8 Go.Proofs.Tryz.f39) (H := (b2e n)) (rl := [.tmp 2]) Go.Proofs.Tryz.func39 (by kernel_rfl) (by kernel_rfl) (by kernel_rfl) (by kernel_rfl) (by kernel_rfl) (by kernel_rfl) (by kernel_rfl)
def b1E (_ : Nat) : Hints I where
 tds := fun i => (asc [] i).getD []
 spl := fun i => (asc [] i).getD []
 pre := fun i => (asc [] i).getD []
 join := asc []
 loop := asc [(58, ⟨70368744161376, [], [(4, .lvs [.d (.int .i64), .d (.int .i64), .d (.str), .row 28 false, .row 114 false, .row 30 false, .row 9 false])], [(6, .k (.d (.int .i64)))], [((.exit 0), []), (.ret, [(5, .k (.d (.int .i64)))])], bnd tb (.len (.slot 1)) 1⟩)]
 keep := asc []
def a3l (n : Nat) : Row I := ⟨14, [.d (.int .i64), .bor 30], [.k (.d (.dat 28)), .k (.d (.int .i64))], a1K n⟩
theorem a6o (n : Nat) : y3 Go.Proofs.Tryz.prog (a3l n) :=
 j7 z7 (j0 (es := [j6 tb (a4E n), j6 tb (a6j n)]) ⟨z8 z7 (a7x n), ⟨z8 z7 (b1A n), trivial⟩⟩ 3) mixed 50 (fn := Go.Proofs.Tryz.f14) (cd := k8 Go.Proofs.Tryz.f14) (H := (b1E n)) (rl := [.cell 4 28, .tmp 5]) Go.Proofs.Tryz.func14 (by kernel_rfl) (by kernel_rfl) (by kernel_rfl) (by kernel_rfl) (by kernel_rfl) (by kernel_rfl) (by kernel_rfl)
def b3k : Hints I where
 tds := fun i => (asc [(6, [[], [], [1], [0, 1, 2], [0, 1, 2, 3], [0, 1, 2, 3, 4], [0, 1, 2, 3, 4], [0, 1, 2, 3, 4, 5, 6], [0, 1, 2, 3, 4, 5, 6, 7], [0, 1, 2, 3, 4], [0, 1, 2, 3, 4], [0, 1, 2, 3, 4, 9, 10], [0, 1, 2, 3, 4, 9, 10, 11], [0, 1, 2, 3, 4, 5, 6, 7, 8, 9, 10, 11, 12], [0, 1, 2, 3, 4, 5, 6, 7, 8, 9, 10, 11, 12, 13]]), (8, [[], [], [1], [0, 1, 2], [0, 1, 2, 3], [0, 1, 2, 3, 4], [0, 1, 2, 3, 4], [0, 1, 2, 3, 4, 5, 6], [0, 1, 2, 3, 4, 5, 6, 7], [0, 1, 2, 3, 4], [0, 1, 2, 3, 4], [0, 1, 2, 3, 4, 9, 10], [0, 1, 2, 3, 4, 9, 10, 11], [0, 1, 2, 3, 4, 5, 6, 7, 8, 9, 10, 11, 12], [0, 1, 2, 3, 4, 5, 6, 7, 8, 9, 10, 11, 12, 13]]), (10, [[], [], [], [1, 2], [1, 2, 3], [1, 2, 3, 4], [0, 1, 2, 3, 4, 5], [], [], [7, 8], [0, 1, 2, 3, 4, 5, 6, 7, 8, 9], [0, 1, 2, 3, 4, 5, 6, 7, 8, 9, 10]])] i).getD []
 spl := fun i => (asc [] i).getD []
 pre := fun i => (asc [] i).getD []
 join := asc [(466, ⟨1152921504606838888, [], [], [(.normal, [(3, .k (.d (.sl 9)))])]⟩)]
 loop := asc [(58, ⟨1152921504606846968, [], [], [(3, .k (.d (.sl 9))), (4, .k (.d (.int .i64)))], [((.exit 0), [(3, .k (.d (.sl 9)))])], bnd tb (.len (.slot 0)) 1⟩),
  (7460, ⟨1073733664, [3], [], [(5, .k (.d (.int .i64)))], [((.exit 2), [(5, .k (.d (.int .i64)))])], bnd tb (.len (.slot 3)) 1⟩)]
 keep := asc []
def a2h : Row I := ⟨50, [.d (.sl 9)], [.k (.d (.sl 9))], X4⟩
theorem a4o : y3 Go.Proofs.Tryz.prog (a2h) :=
 j7 z7 (j0 (es := []) trivial 3) mixed 61 (fn := Go.Proofs.Tryz.f50) (cd := k8 Go.Proofs.Tryz.f50) (H := b3k) (rl := [.tmp 2]) Go.Proofs.Tryz.func50 (by kernel_rfl) (by kernel_rfl) (by kernel_rfl) (by kernel_rfl) (by kernel_rfl) (by kernel_rfl) (by kernel_rfl)
def b0M : Hints I where
 tds := fun i => (asc [] i).getD []
 spl := fun i => (asc [] i).getD []
 pre := fun i => (asc [] i).getD []
 join := asc []
 loop := asc []
 keep := asc []
def a5l : Row I := ⟨24, [.d (.dat 28), .d (.sl 9)], [.k (.d (.dat 28))], a30⟩
theorem a9Q : y3 Go.Proofs.Tryz.prog (a5l) :=
 j7 z7 (j0 (es := [j6 tb (a2h)]) ⟨z8 z7 a4o, trivial⟩ 3) mixed 9 (fn := Go.Proofs.Tryz.f24) (cd := k8 Go.Proofs.Tryz.f24) (H := b0M) (rl := [.cell 4 28]) Go.Proofs.Tryz.func24 (by kernel_rfl) (by kernel_rfl) (by kernel_rfl) (by kernel_rfl) (by kernel_rfl) (by kernel_rfl) (by kernel_rfl)
def b4t : Hints I where
 tds := fun i => (asc [] i).getD []
 spl := fun i => (asc [] i).getD []
 pre := fun i => (asc [] i).getD []
 join := asc []
 loop := asc []
 keep := asc []
def a7M : Row I := ⟨166, [.d (.dat 28), .d (.dat 28)], [.k (.d (.dat 28))], a43⟩
theorem b3M : y3 Go.Proofs.Tryz.prog (a7M) :=
 j7 z7 (j0 (es := []) trivial 3) mixed 9 (fn := Go.Proofs.Tryz.f166) (cd := k8 Go.Proofs.Tryz.f166) (H := b4t) (rl := [.cell 4 28]) Go.Proofs.Tryz.func166 (by kernel_rfl) (by kernel_rfl) (by kernel_rfl) (by kernel_rfl) (by kernel_rfl) (by kernel_rfl) (by kernel_rfl)
def a87 : Hints I where
 tds := fun i => (asc [] i).getD []
 spl := fun i => (asc [] i).getD []
 pre := fun i => (asc [] i).getD []
 join := asc [(29, ⟨1048456, [], [(0, .k (.d (.dat 76)))], [(.normal, [(3, .k (.row 9 false))])]⟩)]
 loop := asc []
 keep := asc []
def a1U : Row I := ⟨137, [.var 76 (.k (.d (.dat 76))) true], [.k (.d (.sl 9))], a0I⟩
theorem a4h : y3 Go.Proofs.Tryz.prog (a1U) :=
 j7 z7 (j0 (es := [j6 tb (w3), j6 tb (a15), j6 tb (a2h)]) ⟨z8 z7 w7, ⟨z8 z7 a4N, ⟨z8 z7 a4o, trivial⟩⟩⟩ 3) mixed 22 (fn := Go.Proofs.Tryz.f137) (cd := k8 Go.Proofs.Tryz.f137) (H := a87) (rl := [.tmp 2]) Go.Proofs.Tryz.func137 (by kernel_rfl) (by kernel_rfl) (by kernel_rfl) (by kernel_rfl) (by kernel_rfl) (by kernel_rfl) (by kernel_rfl)
def b0o : Hints I where
 tds := fun i => (asc [] i).getD []
 spl := fun i => (asc [] i).getD []
 pre := fun i => (asc [] i).getD []
 join := asc []
 loop := asc []
 keep := asc []
def a5j : Row I := ⟨167, [.var 76 (.k (.d (.dat 76))) true], [.k (.d (.dat 114))], a2i⟩
theorem a9Z : y3 Go.Proofs.Tryz.prog (a5j) :=
 j7 z7 (j0 (es := [j6 tb (w3), j6 tb (W8), j6 tb (a0m)]) ⟨z8 z7 w7, ⟨z8 z7 a0J, ⟨z8 z7 a1j, trivial⟩⟩⟩ 3) mixed 12 (fn := Go.Proofs.Tryz.f167) (cd := k8 Go.Proofs.Tryz.f167) (H := b0o) (rl := [.cell 2 114]) Go.Proofs.Tryz.func167 (by kernel_rfl) (by kernel_rfl) (by kernel_rfl) (by kernel_rfl) (by kernel_rfl) (by kernel_rfl) (by kernel_rfl)
def a9k (_ : Nat) : Hints I where
 tds := fun i => (asc [] i).getD []
 spl := fun i => (asc [] i).getD []
 pre := fun i => (asc [] i).getD []
 join := asc []
 loop := asc []
 keep := asc []
def Q1 (n : Nat) : Row I := ⟨100, [.var 76 (.k (.d (.dat 76))) true, .d (.int .i64)], [.k (.d (.dat 28))], a1y n⟩
def a9D (_ : Nat) : Hints I where
 tds := fun i => (asc [(16, [[], [], [1], [0, 1, 2], [], [0, 1, 2, 3, 4], [0, 1, 2, 3, 4, 5]])] i).getD []
 spl := fun i => (asc [(13, [46])] i).getD []
 pre := fun i => (asc [] i).getD []
 join := asc [(29, ⟨5316911983139663491615228241104863200, [], [(0, .k (.d (.dat 76))), (4, .lvs [.d (.int .i64), .d (.int .i64), .d (.str), .d (.sl 28), .d (.sl 114), .d (.sl 30), .d (.sl 9)])], [(.normal, []), (.ret, [])]⟩),
  (7540, ⟨2234207627640832, [], [(0, .k (.d (.dat 76)))], [(.normal, [(50, .k (.d (.bool)))])]⟩),
  (7541, ⟨141863388262170624, [], [(0, .k (.d (.dat 76))), (7, .k (.d (.dat 28)))], [(.normal, [])]⟩)]
 loop := asc [(3754, ⟨549487378528, [], [(0, .k (.d (.dat 76)))], [(5, .k (.row 28 false)), (6, .k (.d (.int .i64)))], [((.exit 1), [(5, .k (.row 28 false))])], bnd tb (.slot 6) 2⟩),
  (120794, ⟨77370071863715549769893632, [], [(0, .k (.d (.dat 76)))], [(8, .k (.row 114 false)), (9, .k (.row 28 false)), (10, .k (.d (.int .i64)))], [((.exit 3), [(8, .k (.row 114 false)), (9, .k (.row 28 false))])], bnd tb (.slot 10) 2⟩),
  (483290, ⟨10382058415869198798257999252078592, [], [(0, .k (.d (.dat 76)))], [(14, .k (.row 30 false)), (15, .k (.d (.int .i64)))], [((.exit 5), [(14, .k (.row 30 false))])], bnd tb (.slot 15) 2⟩)]
 keep := asc []
def W2 (n : Nat) : Row I := ⟨136, [.var 76 (.k (.d (.dat 76))) true, .d (.int .i64)], [.k (.d (.dat 28))], b0P n⟩
def a9v (_ : Nat) : Hints I where
 tds := fun i => (asc [(4, [[], [0], [], [], [2, 3], [2, 3, 4], [0, 1, 2, 3, 4, 5], [0, 1, 2, 3, 4, 5, 6], [0, 1, 2, 3, 4, 5, 6, 7]])] i).getD []
 spl := fun i => (asc [] i).getD []
 pre := fun i => (asc [] i).getD []
 join := asc []
 loop := asc [(28, ⟨1048322, [], [(0, .k (.d (.dat 76))), (7, .lvs [.row 28 false, .d (.bool), .d (.int .i64), .d (.int .i64), .d (.str), .row 28 false, .row 114 false, .row 30 false, .row 9 false])], [(1, .k (.d (.int .i64)))], [((.exit 0), [])], bnd tb (.slot 1) 2⟩)]
 keep := asc []
def W3 (n : Nat) : Row I := ⟨168, [.var 76 (.k (.d (.dat 76))) true, .d (.int .i64), .d (.int .i64)], [.k (.d (.dat 30))], b0D n⟩
theorem a8k (n : Nat) (_ : y3 Go.Proofs.Tryz.prog (Q1 n)) (h_semtypebase_Source_value : y3 Go.Proofs.Tryz.prog (W2 n)) (_ : y3 Go.Proofs.Tryz.prog (W3 n)) : y3 Go.Proofs.Tryz.prog (Q1 (n + 1)) :=
 j7 z7 (j0 (es := [j6 tb (W2 n), j6 tb (a1U)]) ⟨z8 z7 h_semtypebase_Source_value, ⟨z8 z7 a4h, trivial⟩⟩ 3) mixed 13 (fn := Go.Proofs.Tryz.f100) (cd := k8 Go.Proofs.Tryz.f100) (H := (a9k n)) (rl := [.cell 4 28]) Go.Proofs.Tryz.func100 (by kernel_rfl) (by kernel_rfl) (by kernel_rfl) (by kernel_rfl) (by kernel_rfl) (by kernel_rfl) (by kernel_rfl)
theorem a8x (n : Nat) (h_semtypebase_Source_Value : y3 Go.Proofs.Tryz.prog (Q1 n)) (_ : y3 Go.Proofs.Tryz.prog (W2 n)) (h_semtypebase_Source_entry : y3 Go.Proofs.Tryz.prog (W3 n)) : y3 Go.Proofs.Tryz.prog (W2 (n + 1)) :=
 j7 z7 (j0 (es := [j6 tb (a01), j6 tb (w3), j6 tb (Q1 n), j6 tb (a4g), j6 tb (a0E), j6 tb (a7M), j6 tb (a1U), j6 tb (a5j), j6 tb (a5q), j6 tb (W3 n), j6 tb (a3l n)]) ⟨z8 z7 a2F, ⟨z8 z7 w7, ⟨z8 z7 h_semtypebase_Source_Value, ⟨z8 z7 a7F, ⟨z8 z7 a1t, ⟨z8 z7 b3M, ⟨z8 z7 a4h, ⟨z8 z7 a9Z, ⟨z8 z7 a9d, ⟨z8 z7 h_semtypebase_Source_entry, ⟨z8 z7 (a6o n), trivial⟩⟩⟩⟩⟩⟩⟩⟩⟩⟩⟩ 3) mixed 124 (fn := Go.Proofs.Tryz.f136) (cd := k8 Go.Proofs.Tryz.f136) (H := (a9D n)) (rl := [.cell 4 28]) Go.Proofs.Tryz.func136 (by kernel_rfl) (by kernel_rfl) (by kernel_rfl) (by kernel_rfl) (by kernel_rfl) (by kernel_rfl) (by kernel_rfl)
theorem a8A (n : Nat) (h_semtypebase_Source_Value : y3 Go.Proofs.Tryz.prog (Q1 n)) (_ : y3 Go.Proofs.Tryz.prog (W2 n)) (_ : y3 Go.Proofs.Tryz.prog (W3 n)) : y3 Go.Proofs.Tryz.prog (W3 (n + 1)) :=
 j7 z7 (j0 (es := [j6 tb (Q1 n), j6 tb (w3)]) ⟨z8 z7 h_semtypebase_Source_Value, ⟨z8 z7 w7, trivial⟩⟩ 3) mixed 30 (fn := Go.Proofs.Tryz.f168) (cd := k8 Go.Proofs.Tryz.f168) (H := (a9v n)) (rl := [.cell 6 30]) Go.Proofs.Tryz.func168 (by kernel_rfl) (by kernel_rfl) (by kernel_rfl) (by kernel_rfl) (by kernel_rfl) (by kernel_rfl) (by kernel_rfl)
theorem a3C : ∀ n : Nat, y3 Go.Proofs.Tryz.prog (Q1 n) /\ y3 Go.Proofs.Tryz.prog (W2 n) /\ y3 Go.Proofs.Tryz.prog (W3 n)
 | 0 => ⟨J5 (by kernel_rfl), J5 (by kernel_rfl), J5 (by kernel_rfl)⟩
 | n + 1 => by
   obtain ⟨h0, h1, h2⟩ := a3C n
   exact ⟨a8k n h0 h1 h2, a8x n h0 h1 h2, a8A n h0 h1 h2⟩
theorem a9b (n : Nat) : y3 Go.Proofs.Tryz.prog (Q1 n) := (a3C n).1
def b3N : Hints I where
 tds := fun i => (asc [] i).getD []
 spl := fun i => (asc [] i).getD []
 pre := fun i => (asc [] i).getD []
 join := asc []
 loop := asc []
 keep := asc []
def a7n : Row I := ⟨132, [.d (.int .u8)], [.k (.d (.bool))], a2N⟩
theorem b2W : y3 Go.Proofs.Tryz.prog (a7n) :=
 j7 z7 (j0 (es := []) trivial 3) mixed 9 (fn := Go.Proofs.Tryz.f132) (cd := k8 Go.Proofs.Tryz.f132) (H := b3N) (rl := [.tmp 2]) Go.Proofs.Tryz.func132 (by kernel_rfl) (by kernel_rfl) (by kernel_rfl) (by kernel_rfl) (by kernel_rfl) (by kernel_rfl) (by kernel_rfl)
def b0U : Hints I where
 tds := fun i => (asc [] i).getD []
 spl := fun i => (asc [] i).getD []
 pre := fun i => (asc [] i).getD []
 join := asc []
 loop := asc [(58, ⟨562949953159180, [], [], [(3, .k (.d (.int .i64)))], [((.exit 0), []), (.ret, [(2, .k (.d (.bool)))])], bnd tb (.len (.slot 0)) 1⟩)]
 keep := asc []
def a2I : Row I := ⟨81, [.d (.str)], [.k (.d (.bool))], a1g⟩
theorem a5x : y3 Go.Proofs.Tryz.prog (a2I) :=
 j7 z7 (j0 (es := [j6 tb (a7n), j6 tb (a4u), j6 tb (a4C)]) ⟨z8 z7 b2W, ⟨z8 z7 a7W, ⟨z8 z7 a7A, trivial⟩⟩⟩ 3) mixed 49 (fn := Go.Proofs.Tryz.f81) (cd := k8 Go.Proofs.Tryz.f81) (H := b0U) (rl := [.tmp 2]) Go.Proofs.Tryz.func81 (by kernel_rfl) (by kernel_rfl) (by kernel_rfl) (by kernel_rfl) (by kernel_rfl) (by kernel_rfl) (by kernel_rfl)
def b4j (_ : Nat) : Hints I where
 tds := fun i => (asc [(4, [[], [0], [], [0, 1, 2], [0, 1, 2, 3], [0, 1, 2, 3, 4], [0, 1, 2, 3, 4, 5], [0, 1, 2, 3, 4, 5, 6], [0, 1, 2, 3, 4, 5, 6, 7], [0, 1, 2, 3, 4, 5, 6, 7, 8], [0, 1, 2, 3, 4, 5, 6, 7, 8, 9], [0, 1, 2, 3, 4, 5, 6, 7, 8, 9, 10], [0, 1, 2, 3, 4, 5, 6, 7, 8, 9, 10, 11], [0, 1, 2, 3, 4, 5, 6, 7, 8, 9, 10], [0, 1, 2, 3, 4, 5, 6, 7, 8, 9, 10, 13], [0, 1, 2, 3, 4, 5, 6, 7, 8, 9, 10, 11, 12, 13, 14], [0, 1, 2, 3, 4, 5, 6, 7, 8, 9, 10, 11, 12, 13, 14, 15], [0, 1, 2, 3, 4, 5, 6, 7, 8, 9, 10], [0, 1, 2, 3, 4, 5, 6, 7, 8, 9, 10, 17], [0, 1, 2, 3, 4, 5, 6, 7, 8, 9, 10], [0, 1, 2, 3, 4, 5, 6, 7, 8, 9, 10, 17, 18, 19], [0, 1, 2, 3, 4, 5, 6, 7, 8, 9, 10, 17, 18, 19, 20], [0, 1, 2, 3, 4, 5, 6, 7, 8, 9, 10, 11, 12, 13, 14, 15, 16, 17, 18, 19, 20, 21], [0, 1, 2, 3, 4, 5, 6, 7, 8, 9, 10, 11, 12, 13, 14, 15, 16, 17, 18, 19, 20, 21, 22], [0, 1, 2, 3, 4, 5, 6, 7, 8, 9, 10, 11, 12, 13, 14, 15, 16, 17, 18, 19, 20, 21, 22, 23]]), (29, [[], [0], [], [0, 1, 2], [0, 1, 2, 3], [0, 1, 2, 3, 4], [0, 1, 2, 3, 4, 5], [0, 1, 2, 3, 4, 5, 6], [0, 1, 2, 3, 4, 5, 6, 7], [0, 1, 2, 3, 4, 5, 6, 7, 8], [0, 1, 2, 3, 4, 5, 6, 7, 8, 9], [0, 1, 2, 3, 4, 5, 6, 7, 8, 9, 10], [0, 1, 2, 3, 4, 5, 6, 7, 8, 9, 10, 11], [0, 1, 2, 3, 4, 5, 6, 7, 8, 9, 10], [0, 1, 2, 3, 4, 5, 6, 7, 8, 9, 10, 13], [0, 1, 2, 3, 4, 5, 6, 7, 8, 9, 10, 11, 12, 13, 14], [0, 1, 2, 3, 4, 5, 6, 7, 8, 9, 10, 11, 12, 13, 14, 15], [0, 1, 2, 3, 4, 5, 6, 7, 8, 9, 10], [0, 1, 2, 3, 4, 5, 6, 7, 8, 9, 10, 17], [0, 1, 2, 3, 4, 5, 6, 7, 8, 9, 10], [0, 1, 2, 3, 4, 5, 6, 7, 8, 9, 10, 17, 18, 19], [0, 1, 2, 3, 4, 5, 6, 7, 8, 9, 10, 17, 18, 19, 20], [0, 1, 2, 3, 4, 5, 6, 7, 8, 9, 10, 11, 12, 13, 14, 15, 16, 17, 18, 19, 20, 21], [0, 1, 2, 3, 4, 5, 6, 7, 8, 9, 10, 11, 12, 13, 14, 15, 16, 17, 18, 19, 20, 21, 22], [0, 1, 2, 3, 4, 5, 6, 7, 8, 9, 10, 11, 12, 13, 14, 15, 16, 17, 18, 19, 20, 21, 22, 23], [0, 1, 2, 3, 4, 5, 6, 7, 8, 9, 10, 11, 12, 13, 14, 15, 16, 17, 18, 19, 20, 21, 22, 23, 24]]), (39, [[], [0], [0, 1], [], [3], [0, 1, 2, 3, 4], [0, 1, 2, 3, 4, 5], [0, 1, 2, 3, 4, 5, 6], [0, 1, 2, 3, 4, 5, 6, 7], [0, 1, 2, 3, 4, 5, 6, 7, 8], [0, 1, 2, 3, 4, 5, 6, 7, 8, 9], [0, 1, 2, 3, 4, 5, 6, 7, 8, 9, 10], [0, 1, 2, 3, 4, 5, 6, 7, 8, 9], [0, 1, 2, 3, 4, 5, 6, 7, 8, 9, 10, 11, 12], [0, 1, 2, 3, 4, 5, 6, 7, 8, 9, 10, 11, 12, 13], [0, 1, 2, 3, 4, 5, 6, 7, 8, 9, 10, 11, 12, 13, 14], [0, 1, 2, 3, 4, 5, 6, 7, 8, 9, 10, 11, 12, 13, 14, 15], [0, 1, 2, 3, 4, 5, 6, 7, 8, 9, 10, 11, 12, 13, 14, 15, 16], [0, 1, 2, 3, 4, 5, 6, 7, 8, 9, 10, 11, 12, 13, 14, 15, 16, 17], [0, 1, 2, 3, 4, 5, 6, 7, 8, 9, 10, 11, 12, 13, 14, 15, 16, 17, 18], [0, 1, 2, 3, 4, 5, 6, 7, 8, 9, 10, 11, 12, 13, 14, 15, 16, 17, 18, 19], [0, 1, 2, 3, 4, 5, 6, 7, 8, 9, 10, 11, 12, 13, 14, 15, 16, 17, 18, 19, 20], [0, 1, 2, 3, 4, 5, 6, 7, 8, 9, 10, 11, 12, 13, 14, 15, 16, 17, 18, 19, 20, 21], [0, 1, 2, 3, 4, 5, 6, 7, 8, 9, 10, 11, 12, 13, 14, 15, 16, 17, 18, 19, 20], [0, 1, 2, 3, 4, 5, 6, 7, 8, 9, 10, 11, 12, 13, 14, 15, 16, 17, 18, 19, 20, 23], [0, 1, 2, 3, 4, 5, 6, 7, 8, 9, 10, 11, 12, 13, 14, 15, 16, 17, 18, 19, 20, 21, 22, 23, 24], [0, 1, 2, 3, 4, 5, 6, 7, 8, 9, 10, 11, 12, 13, 14, 15, 16, 17, 18, 19, 20, 21, 22, 23, 24, 25], [0, 1, 2, 3, 4, 5, 6, 7, 8, 9, 10, 11, 12, 13, 14, 15, 16, 17, 18, 19, 20], [0, 1, 2, 3, 4, 5, 6, 7, 8, 9, 10, 11, 12, 13, 14, 15, 16, 17, 18, 19, 20, 21, 22, 23, 24, 25, 26, 27], [0, 1, 2, 3, 4, 5, 6, 7, 8, 9, 10, 11, 12, 13, 14, 15, 16, 17, 18, 19, 20, 21, 22, 23, 24, 25, 26, 27, 28], [0, 1, 2, 3, 4, 5, 6, 7, 8, 9, 10, 11, 12, 13, 14, 15, 16, 17, 18, 19, 20, 21, 22, 23, 24, 25, 26, 27, 28, 29], [0, 1, 2, 3, 4, 5, 6, 7, 8, 9, 10, 11, 12, 13, 14, 15, 16, 17, 18, 19, 20, 21, 22, 23, 24, 25, 26, 27, 28, 29, 30]])] i).getD []
 spl := fun i => (asc [] i).getD []
 pre := fun i => (asc [] i).getD []
 join := asc [(4073, ⟨425352958651173079329218259289710264320, [], [], [(.normal, [(126, .k (.d (.bool)))])]⟩)]
 loop := asc [(26, ⟨4398046510092, [], [], [(3, .k (.d (.int .i64)))], [((.exit 0), []), (.ret, [(2, .k (.d (.bool)))])], bnd tb (.len (.ld 26 (.fld 28 6 (.slot 1)))) 1⟩),
  (133562354, ⟨411376139282411024886683268815639281647236804420309368268914820, [], [], [(7, .k (.d (.int .i64)))], [((.exit 3), []), (.ret, [(2, .k (.d (.bool)))])], bnd tb (.len (.ld 24 (.fld 28 4 (.slot 1)))) 1⟩),
  (1068498922, ⟨948568795032040353016559207911582007103813675119580226322391447047862150789858052, [], [], [(8, .k (.d (.int .i64)))], [((.exit 5), []), (.ret, [(2, .k (.d (.bool)))])], bnd tb (.len (.ld 25 (.fld 28 5 (.slot 1)))) 1⟩)]
 keep := asc []
def a7y (n : Nat) : Row I := ⟨52, [.d (.dat 28)], [.k (.d (.bool))], a44 n⟩
theorem b4a (n : Nat) : y3 Go.Proofs.Tryz.prog (a7y n) :=
 j7 z7 (j0 (es := [j6 tb (a2I), j6 tb (a2b), j6 tb (a1z), j6 tb (a0n), j6 tb (a4E n), j6 tb (Y5 n)]) ⟨z8 z7 a5x, ⟨z8 z7 a4q, ⟨z8 z7 a3G, ⟨z8 z7 a1i, ⟨z8 z7 (a7x n), ⟨z8 z7 (a36 n), trivial⟩⟩⟩⟩⟩⟩ 3) mixed 269 (fn := Go.Proofs.Tryz.f52) (cd := k8 Go.Proofs.Tryz.f52) (H := (b4j n)) (rl := [.tmp 2]) Go.Proofs.Tryz.func52 (by kernel_rfl) (by kernel_rfl) (by kernel_rfl) (by kernel_rfl) (by kernel_rfl) (by kernel_rfl) (by kernel_rfl)
def b4b (_ : Nat) : Hints I where
 tds := fun i => (asc [] i).getD []
 spl := fun i => (asc [] i).getD []
 pre := fun i => (asc [] i).getD []
 join := asc []
 loop := asc [(58, ⟨16776204, [], [], [(3, .k (.d (.int .i64)))], [((.exit 0), []), (.ret, [(2, .k (.d (.bool)))])], bnd tb (.len (.ld 23 (.fld 28 3 (.slot 1)))) 1⟩),
  (122, ⟨576460752286646388, [], [], [(4, .k (.d (.int .i64)))], [((.exit 2), []), (.ret, [(2, .k (.d (.bool)))])], bnd tb (.len (.ld 25 (.fld 28 5 (.slot 1)))) 1⟩),
  (31306, ⟨1125831187365956, [], [], [(6, .k (.d (.int .i64)))], [((.exit 4), []), (.ret, [(2, .k (.d (.bool)))])], bnd tb (.len (.ld 23 (.fld 30 0 (.slot 5)))) 1⟩)]
 keep := asc []
def a1o (n : Nat) : Row I := ⟨26, [.d (.dat 28)], [.k (.d (.bool))], a0b n⟩
theorem b2K (n : Nat) (h_semtyperef1_Valid : y3 Go.Proofs.Tryz.prog (a1o n)) : y3 Go.Proofs.Tryz.prog (a1o (n + 1)) :=
 j7 z7 (j0 (es := [j6 tb (a7y n), j6 tb (a1o n)]) ⟨z8 z7 (b4a n), ⟨z8 z7 h_semtyperef1_Valid, trivial⟩⟩ 3) mixed 59 (fn := Go.Proofs.Tryz.f26) (cd := k8 Go.Proofs.Tryz.f26) (H := (b4b n)) (rl := [.tmp 2]) Go.Proofs.Tryz.func26 (by kernel_rfl) (by kernel_rfl) (by kernel_rfl) (by kernel_rfl) (by kernel_rfl) (by kernel_rfl) (by kernel_rfl)
theorem a7w : ∀ n : Nat, y3 Go.Proofs.Tryz.prog (a1o n)
 | 0 => J5 (by kernel_rfl)
 | n + 1 => b2K n (a7w n)
def a91 (_ : Nat) : Hints I where
 tds := fun i => (asc [] i).getD []
 spl := fun i => (asc [] i).getD []
 pre := fun i => (asc [] i).getD []
 join := asc []
 loop := asc []
 keep := asc []
def Z6 (n : Nat) : Row I := ⟨31, [.var 76 (.k (.d (.dat 76))) true, .d (.dat 36), .d (.int .i64), .d (.int .i64)], [.k (.d (.dat 28))], a0o n⟩
def a9W (_ : Nat) : Hints I where
 tds := fun i => (asc [(7, [[], [0], [], [2], [], [4], [], [6], [6, 7], [], [9], [9, 10], [6, 7, 8, 9, 10, 11], [4, 5, 6, 7, 8, 9, 10, 11, 12], [0, 1, 2, 3, 4, 5, 6, 7, 8, 9, 10, 11, 12, 13], [], [15], [0, 1, 2, 3, 4, 5, 6, 7, 8, 9, 10, 11, 12, 13, 14, 15, 16], [0, 1, 2, 3, 4, 5, 6, 7, 8, 9, 10, 11, 12, 13, 14, 15, 16, 17], [0, 1, 2, 3, 4, 5, 6, 7, 8, 9, 10, 11, 12, 13, 14, 15, 16, 17, 18], [0, 1, 2, 3, 4, 5, 6, 7, 8, 9, 10, 11, 12, 13, 14, 15, 16, 17, 18, 19]]), (25, [[], [0], [], [], [], [4], [], [4, 5, 6], [4, 5, 6, 7], [], [9], [2, 3, 4, 5, 6, 7, 8, 9, 10], [2, 3, 4, 5, 6, 7, 8, 9, 10, 11], [0, 1, 2, 3, 4, 5, 6, 7, 8, 9, 10, 11, 12], [0, 1, 2, 3, 4, 5, 6, 7, 8, 9, 10, 11, 12, 13], [0, 1, 2, 3, 4, 5, 6, 7, 8, 9, 10, 11, 12, 13, 14]]), (30, [[], [0], [], [0, 1, 2], [0, 1, 2, 3]]), (37, [[], [], [], [2], [], [], [5], [5, 6], [4, 5, 6, 7], [2, 3, 4, 5, 6, 7, 8], [2, 3, 4, 5, 6, 7, 8, 9], [], [0, 1, 2, 3, 4, 5, 6, 7, 8, 9, 10, 11], [0, 1, 2, 3, 4, 5, 6, 7, 8, 9, 10, 11, 12]]), (39, [[], [], [], [2], [], [], [5], [5, 6], [4, 5, 6, 7], [2, 3, 4, 5, 6, 7, 8], [2, 3, 4, 5, 6, 7, 8, 9], [], [0, 1, 2, 3, 4, 5, 6, 7, 8, 9, 10, 11], [0, 1, 2, 3, 4, 5, 6, 7, 8, 9, 10, 11, 12]]), (43, [[], [0], [], [2], [], [2, 3, 4], [2, 3, 4, 5], [0, 1, 2, 3, 4, 5, 6], [0, 1, 2, 3, 4, 5, 6, 7], [0, 1, 2, 3, 4, 5, 6, 7, 8], [0, 1, 2, 3, 4, 5, 6, 7, 8, 9]]), (44, [[], [0], [0, 1], [], [3], [], [5], [], [5, 6, 7], [5, 6, 7, 8], [3, 4, 5, 6, 7, 8, 9], [3, 4, 5, 6, 7, 8, 9, 10], [3, 4, 5, 6, 7, 8, 9, 10, 11], [3, 4, 5, 6, 7, 8, 9, 10, 11, 12], [0, 1, 2, 3, 4, 5, 6, 7, 8, 9, 10, 11, 12, 13], [0, 1, 2, 3, 4, 5, 6, 7, 8, 9, 10, 11, 12, 13, 14], [0, 1, 2, 3, 4, 5, 6, 7, 8, 9, 10, 11, 12, 13, 14, 15], [0, 1, 2, 3, 4, 5, 6, 7, 8, 9, 10, 11, 12, 13, 14, 15, 16]]), (47, [[], [0], [], [2], [2, 3], [0, 1, 2, 3, 4], [0, 1, 2, 3, 4, 5]])] i).getD []
 spl := fun i => (asc [] i).getD []
 pre := fun i => (asc [] i).getD []
 join := asc [(16449533, ⟨386856262276681335905976320, [], [], [(.normal, [(86, .k (.d (.bool)))])]⟩),
  (263192557, ⟨85029053355366337244815407887308292096, [], [(10, .lvs [.d (.int .i64), .d (.int .i64), .d (.str), .row 28 false, .row 114 false, .row 30 false, .row 9 false])], [(.normal, [])]⟩),
  (539018395474, ⟨102844034449451492418213359320247649773843695697413960913387520, [], [(10, .k (.d (.dat 28)))], [(.normal, [])]⟩)]
 loop := asc [(131596274, ⟨2596147810297394171575110715049984, [], [(0, .k (.d (.dat 76))), (10, .lvs [.d (.int .i64), .d (.int .i64), .d (.str), .row 28 false, .row 114 false, .row 30 false, .row 9 false])], [(11, .k (.d (.int .i64)))], [((.exit 1), [])], bnd tb (.len (.ld 22 (.fld 72 4 (.slot 9)))) 1⟩),
  (67377299434, ⟨102844034829582222281431884733353260024018043977843391611277312, [], [(10, .k (.d (.dat 28)))], [(12, .k (.d (.int .i64)))], [((.exit 3), [])], bnd tb (.len (.ld 22 (.fld 72 4 (.slot 9)))) 1⟩)]
 keep := asc []
def J3 (n : Nat) : Row I := ⟨55, [.var 76 (.k (.d (.dat 76))) true, .d (.dat 36), .d (.int .i64), .d (.int .i64)], [.k (.d (.dat 28))], b03 n⟩
def a6G (_ : Nat) : Hints I where
 tds := fun i => (asc [(10, [[], [0], [], [], [], [4], [], [4, 5, 6], [4, 5, 6, 7], [], [9], [2, 3, 4, 5, 6, 7, 8, 9, 10], [2, 3, 4, 5, 6, 7, 8, 9, 10, 11], [0, 1, 2, 3, 4, 5, 6, 7, 8, 9, 10, 11, 12], [0, 1, 2, 3, 4, 5, 6, 7, 8, 9, 10, 11, 12, 13], [0, 1, 2, 3, 4, 5, 6, 7, 8, 9, 10, 11, 12, 13, 14]]), (13, [[], [], [], [2], [], [2, 3, 4], [2, 3, 4, 5], [], [7], [0, 1, 2, 3, 4, 5, 6, 7, 8], [0, 1, 2, 3, 4, 5, 6, 7, 8, 9], [0, 1, 2, 3, 4, 5, 6, 7, 8, 9, 10]])] i).getD []
 spl := fun i => (asc [] i).getD []
 pre := fun i => (asc [] i).getD []
 join := asc [(31309, ⟨2305280059260272640, [], [(0, .k (.d (.dat 76))), (12, .lvs [.row 28 false, .d (.bool), .d (.int .i64), .d (.int .i64), .d (.str), .d (.sl 28), .d (.sl 114), .d (.sl 30), .d (.sl 9)])], [(.normal, [])]⟩)]
 loop := asc [(122, ⟨36893488147414923776, [], [(0, .k (.d (.dat 76)))], [(9, .k (.row 30 false)), (11, .k (.d (.int .i64)))], [((.exit 0), [(9, .k (.row 30 false))])], bnd tb (.slot 11) 2⟩),
  (31306, ⟨70368677076992, [], [(0, .k (.d (.dat 76))), (12, .lvs [.row 28 false, .d (.bool), .d (.int .i64), .d (.int .i64), .d (.str), .row 28 false, .row 114 false, .row 30 false, .row 9 false])], [(13, .k (.d (.int .i64)))], [((.exit 2), [])], bnd tb (.slot 10) 1⟩)]
 keep := asc []
def Y9 (n : Nat) : Row I := ⟨99, [.var 76 (.k (.d (.dat 76))) true, .d (.dat 36), .d (.dat 72), .d (.int .i64)], [.k (.d (.dat 28))], a7v n⟩
def a8C (_ : Nat) : Hints I where
 tds := fun i => (asc [(8, [[], [], [], [], [3], [], [3, 4, 5], [3, 4, 5, 6], [3, 4, 5, 6, 7], [], [9], [1, 2, 3, 4, 5, 6, 7, 8, 9, 10], [1, 2, 3, 4, 5, 6, 7, 8, 9, 10, 11], [0, 1, 2, 3, 4, 5, 6, 7, 8, 9, 10, 11, 12], [0, 1, 2, 3, 4, 5, 6, 7, 8, 9, 10, 11, 12, 13]]), (12, [[], [], [], [], [3], [], [3, 4, 5], [3, 4, 5, 6], [], [8], [1, 2, 3, 4, 5, 6, 7, 8, 9], [1, 2, 3, 4, 5, 6, 7, 8, 9, 10], [0, 1, 2, 3, 4, 5, 6, 7, 8, 9, 10, 11], [0, 1, 2, 3, 4, 5, 6, 7, 8, 9, 10, 11, 12]])] i).getD []
 spl := fun i => (asc [(6, [28])] i).getD []
 pre := fun i => (asc [] i).getD []
 join := asc [(125, ⟨604462333346562283935232, [], [(0, .k (.d (.dat 76)))], [(.normal, [(9, .k (.row 114 false)), (10, .k (.row 28 false))])]⟩),
  (978, ⟨72057594033735168, [], [(0, .k (.d (.dat 76)))], [(.normal, [(9, .k (.row 114 false)), (10, .k (.row 28 false))])]⟩),
  (7824, ⟨8585740288, [], [(0, .k (.d (.dat 76)))], [(.normal, [(32, .k (.d (.bool)))])]⟩)]
 loop := asc [(122, ⟨72057594037898752, [], [(0, .k (.d (.dat 76)))], [(9, .k (.row 114 false)), (10, .k (.row 28 false)), (11, .k (.d (.int .i64)))], [((.exit 0), [(9, .k (.row 114 false)), (10, .k (.row 28 false))])], bnd tb (.len (.ld 69 (.fld 72 5 (.slot 6)))) 1⟩)]
 keep := asc []
def J4 (n : Nat) : Row I := ⟨98, [.var 76 (.k (.d (.dat 76))) true, .d (.dat 36), .d (.dat 72), .d (.int .i64)], [.k (.d (.dat 28))], a9C n⟩
theorem a88 (n : Nat) (_ : y3 Go.Proofs.Tryz.prog (Z6 n)) (h_semtypebase_Source_near : y3 Go.Proofs.Tryz.prog (J3 n)) (_ : y3 Go.Proofs.Tryz.prog (Y9 n)) (_ : y3 Go.Proofs.Tryz.prog (J4 n)) : y3 Go.Proofs.Tryz.prog (Z6 (n + 1)) :=
 j7 z7 (j0 (es := [j6 tb (J3 n), j6 tb (a1o n), j6 tb (a01)]) ⟨z8 z7 h_semtypebase_Source_near, ⟨z8 z7 (a7w n), ⟨z8 z7 a2F, trivial⟩⟩⟩ 3) mixed 21 (fn := Go.Proofs.Tryz.f31) (cd := k8 Go.Proofs.Tryz.f31) (H := (a91 n)) (rl := [.cell 8 28]) Go.Proofs.Tryz.func31 (by kernel_rfl) (by kernel_rfl) (by kernel_rfl) (by kernel_rfl) (by kernel_rfl) (by kernel_rfl) (by kernel_rfl)
end Go.Qx
end
section
namespace Go.Qx
open Go Go.RowKit Go.Sx
set_option maxHeartbeats 1600000
set_option maxRecDepth 100000
theorem a82 (n : Nat) (h_semtypebase_Source_Near : y3 Go.Proofs.Tryz.prog (Z6 n)) (h_semtypebase_Source_near : y3 Go.Proofs.Tryz.prog (J3 n)) (h_semtypebase_Source_nearFunction : y3 Go.Proofs.Tryz.prog (Y9 n)) (h_semtypebase_Source_nearMap : y3 Go.Proofs.Tryz.prog (J4 n)) : y3 Go.Proofs.Tryz.prog (J3 (n + 1)) :=
 j7 z7 (j0 (es := [j6 tb (a01), j6 tb (w3), j6 tb (a5r), j6 tb (a34), j6 tb (a0m), j6 tb (a4S), j6 tb (W8), j6 tb (a5w), j6 tb (a0E), j6 tb (Z6 n), j6 tb (J4 n), j6 tb (Y9 n), j6 tb (J3 n), j6 tb (a2h), j6 tb (a5l), j6 tb (Q1 n)]) ⟨z8 z7 a2F, ⟨z8 z7 w7, ⟨z8 z7 a8Y, ⟨z8 z7 a7c, ⟨z8 z7 a1j, ⟨z8 z7 a8f, ⟨z8 z7 a0J, ⟨z8 z7 a86, ⟨z8 z7 a1t, ⟨z8 z7 h_semtypebase_Source_Near, ⟨z8 z7 h_semtypebase_Source_nearMap, ⟨z8 z7 h_semtypebase_Source_nearFunction, ⟨z8 z7 h_semtypebase_Source_near, ⟨z8 z7 a4o, ⟨z8 z7 a9Q, ⟨z8 z7 (a9b n), trivial⟩⟩⟩⟩⟩⟩⟩⟩⟩⟩⟩⟩⟩⟩⟩⟩ 3) mixed 217 (fn := Go.Proofs.Tryz.f55) (cd := k8 Go.Proofs.Tryz.f55) (H := (a9W n)) (rl := [.cell 8 28]) Go.Proofs.Tryz.func55 (by kernel_rfl) (by kernel_rfl) (by kernel_rfl) (by kernel_rfl) (by kernel_rfl) (by kernel_rfl) (by kernel_rfl)
theorem a58 (n : Nat) (h_semtypebase_Source_Near : y3 Go.Proofs.Tryz.prog (Z6 n)) (_ : y3 Go.Proofs.Tryz.prog (J3 n)) (_ : y3 Go.Proofs.Tryz.prog (Y9 n)) (_ : y3 Go.Proofs.Tryz.prog (J4 n)) : y3 Go.Proofs.Tryz.prog (Y9 (n + 1)) :=
 j7 z7 (j0 (es := [j6 tb (w3), j6 tb (Z6 n), j6 tb (a3l n), j6 tb (a0E)]) ⟨z8 z7 w7, ⟨z8 z7 h_semtypebase_Source_Near, ⟨z8 z7 (a6o n), ⟨z8 z7 a1t, trivial⟩⟩⟩⟩ 3) mixed 75 (fn := Go.Proofs.Tryz.f99) (cd := k8 Go.Proofs.Tryz.f99) (H := (a6G n)) (rl := [.cell 8 28]) Go.Proofs.Tryz.func99 (by kernel_rfl) (by kernel_rfl) (by kernel_rfl) (by kernel_rfl) (by kernel_rfl) (by kernel_rfl) (by kernel_rfl)
theorem a70 (n : Nat) (h_semtypebase_Source_Near : y3 Go.Proofs.Tryz.prog (Z6 n)) (_ : y3 Go.Proofs.Tryz.prog (J3 n)) (_ : y3 Go.Proofs.Tryz.prog (Y9 n)) (_ : y3 Go.Proofs.Tryz.prog (J4 n)) : y3 Go.Proofs.Tryz.prog (J4 (n + 1)) :=
 j7 z7 (j0 (es := [j6 tb (w3), j6 tb (Z6 n), j6 tb (a5q), j6 tb (a0E)]) ⟨z8 z7 w7, ⟨z8 z7 h_semtypebase_Source_Near, ⟨z8 z7 a9d, ⟨z8 z7 a1t, trivial⟩⟩⟩⟩ 3) mixed 89 (fn := Go.Proofs.Tryz.f98) (cd := k8 Go.Proofs.Tryz.f98) (H := (a8C n)) (rl := [.cell 8 28]) Go.Proofs.Tryz.func98 (by kernel_rfl) (by kernel_rfl) (by kernel_rfl) (by kernel_rfl) (by kernel_rfl) (by kernel_rfl) (by kernel_rfl)
theorem a3V : ∀ n : Nat, y3 Go.Proofs.Tryz.prog (Z6 n) /\ y3 Go.Proofs.Tryz.prog (J3 n) /\ y3 Go.Proofs.Tryz.prog (Y9 n) /\ y3 Go.Proofs.Tryz.prog (J4 n)
 | 0 => ⟨J5 (by kernel_rfl), J5 (by kernel_rfl), J5 (by kernel_rfl), J5 (by kernel_rfl)⟩
 | n + 1 => by
   obtain ⟨h0, h1, h2, h3⟩ := a3V n
   exact ⟨a88 n h0 h1 h2 h3, a82 n h0 h1 h2 h3, a58 n h0 h1 h2 h3, a70 n h0 h1 h2 h3⟩
theorem a9m (n : Nat) : y3 Go.Proofs.Tryz.prog (Z6 n) := (a3V n).1
def b3Z (_ : Nat) : Hints I where
 tds := fun i => (asc [(12, [[], [0], [], [], [2, 3], [2, 3, 4], [0, 1, 2, 3, 4, 5], [0, 1, 2, 3, 4, 5, 6], [0, 1, 2, 3, 4, 5, 6, 7]]), (19, [[], [0], [], [], [], [], [4, 5], [2, 3, 4, 5, 6], [2, 3, 4, 5, 6, 7], [0, 1, 2, 3, 4, 5, 6, 7, 8], [0, 1, 2, 3, 4, 5, 6, 7, 8, 9], [0, 1, 2, 3, 4, 5, 6, 7, 8, 9, 10]]), (22, [[], [], [], [], [2, 3], [0, 1, 2, 3, 4], [0, 1, 2, 3, 4, 5], [0, 1, 2, 3, 4, 5, 6]]), (23, [[], [], [], [0], [0, 1, 3], [0, 1, 2, 3, 4]])] i).getD []
 spl := fun i => (asc [] i).getD []
 pre := fun i => (asc [] i).getD []
 join := asc [(4093, ⟨19267255250108152471879680, [], [(14, .k (.d (.dat 76))), (15, .lvs [.row 28 false, .d (.bool), .d (.int .i64), .d (.int .i64), .d (.str), .d (.sl 28), .d (.sl 114), .d (.sl 30), .d (.sl 9)])], [(.normal, [])]⟩)]
 loop := asc [(506, ⟨18014397435754496, [], [(7, .k (.d (.dat 76))), (8, .lvs [.row 72 false, .d (.int .i64)])], [(11, .k (.d (.int .i64)))], [((.exit 0), [])], bnd tb (.cst 3) 1⟩),
  (4090, ⟨9444588850551214637056, [8], [(14, .k (.d (.dat 76))), (15, .lvs [.row 28 false, .d (.bool), .d (.int .i64), .d (.int .i64), .d (.str), .row 28 false, .row 114 false, .row 30 false, .row 9 false])], [(16, .k (.d (.int .i64)))], [((.exit 4), [])], bnd tb (.slot 10) 1⟩),
  (129610, ⟨281440616980480, [], [(7, .k (.d (.dat 76))), (12, .lvs [.d (.int .i64), .d (.int .i64), .d (.int .i64), .d (.str), .row 3 false, .row 132 false, .d (.int .i64), .d (.int .i64)])], [(13, .k (.d (.int .i64)))], [((.exit 2), [])], bnd tb (.slot 10) 2⟩)]
 keep := asc []
def a7j (n : Nat) : Row I := ⟨11, [.d (.sl 3), .d (.sl 3)], [.k (.d (.dat 36)), .k (.d (.int .i64)), .k (.d (.dat 30))], a4a n⟩
theorem b2N (n : Nat) : y3 Go.Proofs.Tryz.prog (a7j n) :=
 j7 z7 (j0 (es := [j6 tb (w3), j6 tb (a4K), j6 tb (Z6 n)]) ⟨z8 z7 w7, ⟨z8 z7 a9x, ⟨z8 z7 (a9m n), trivial⟩⟩⟩ 3) mixed 87 (fn := Go.Proofs.Tryz.f11) (cd := k8 Go.Proofs.Tryz.f11) (H := (b3Z n)) (rl := [.cell 4 36, .tmp 5, .cell 6 30]) Go.Proofs.Tryz.func11 (by kernel_rfl) (by kernel_rfl) (by kernel_rfl) (by kernel_rfl) (by kernel_rfl) (by kernel_rfl) (by kernel_rfl)
def b35 : Hints I where
 tds := fun i => (asc [] i).getD []
 spl := fun i => (asc [] i).getD []
 pre := fun i => (asc [] i).getD []
 join := asc []
 loop := asc []
 keep := asc []
def a2C : Row I := ⟨37, [.d (.dat 36), .d (.int .i64)], [.k (.d (.bool))], a0e⟩
theorem a4R : y3 Go.Proofs.Tryz.prog (a2C) :=
 j7 z7 (j0 (es := []) trivial 3) mixed 14 (fn := Go.Proofs.Tryz.f37) (cd := k8 Go.Proofs.Tryz.f37) (H := b35) (rl := [.tmp 4]) Go.Proofs.Tryz.func37 (by kernel_rfl) (by kernel_rfl) (by kernel_rfl) (by kernel_rfl) (by kernel_rfl) (by kernel_rfl) (by kernel_rfl)
def b4r : Hints I where
 tds := fun i => (asc [(4, [[], [], [1], [], [1, 2, 3], [1, 2, 3, 4], [0, 1, 2, 3, 4, 5], [0, 1, 2, 3, 4, 5, 6]]), (47, [[], [], [1], [0, 1, 2], [0, 1, 2, 3], [0, 1, 2, 3, 4], [0, 1, 2, 3, 4, 5], [0, 1, 2, 3, 4, 5, 6], [0, 1, 2, 3, 4, 5, 6, 7], [0, 1, 2, 3, 4, 5, 6, 7, 8], [0, 1, 2, 3, 4, 5, 6, 7, 8, 9], [0, 1, 2, 3, 4, 5, 6, 7, 8, 9, 10], [0, 1, 2, 3, 4, 5, 6, 7, 8, 9, 10, 11], [0, 1, 2, 3, 4, 5, 6, 7, 8, 9, 10, 11, 12], [0, 1, 2, 3, 4, 5, 6, 7, 8, 9, 10, 11, 12, 13], [0, 1, 2, 3, 4, 5, 6, 7, 8, 9, 10, 11, 12, 13, 14], [0, 1, 2, 3, 4, 5, 6, 7, 8, 9, 10, 11, 12, 13, 14, 15], [0, 1, 2, 3, 4, 5, 6, 7, 8, 9, 10, 11, 12, 13, 14], [0, 1, 2, 3, 4, 5, 6, 7, 8, 9, 10, 11, 12, 13, 14, 17], [0, 1, 2, 3, 4, 5, 6, 7, 8, 9, 10, 11, 12, 13, 14, 15, 16, 17, 18], [0, 1, 2, 3, 4, 5, 6, 7, 8, 9, 10, 11, 12, 13, 14, 15, 16, 17, 18, 19], [0, 1, 2, 3, 4, 5, 6, 7, 8, 9, 10, 11, 12, 13, 14, 15, 16, 17, 18, 19, 20], [0, 1, 2, 3, 4, 5, 6, 7, 8, 9, 10, 11, 12, 13, 14], [0, 1, 2, 3, 4, 5, 6, 7, 8, 9, 10, 11, 12, 13, 14, 22], [0, 1, 2, 3, 4, 5, 6, 7, 8, 9, 10, 11, 12, 13, 14, 15, 16, 17, 18, 19, 20, 21, 22, 23], [0, 1, 2, 3, 4, 5, 6, 7, 8, 9, 10, 11, 12, 13, 14, 15, 16, 17, 18, 19, 20, 21, 22, 23, 24], [0, 1, 2, 3, 4, 5, 6, 7, 8, 9, 10, 11, 12, 13, 14, 15, 16, 17, 18, 19, 20, 21, 22, 23, 24, 25], [0, 1, 2, 3, 4, 5, 6, 7, 8, 9, 10, 11, 12, 13, 14, 15, 16, 17, 18, 19, 20, 21, 22, 23, 24, 25, 26]])] i).getD []
 spl := fun i => (asc [] i).getD []
 pre := fun i => (asc [] i).getD []
 join := asc [(2092029, ⟨2706308199418088717232151174730781556736, [], [], [(.normal, [(122, .k (.d (.bool)))])]⟩),
  (535560189, ⟨3568119231764899702645714923623737840956866560, [], [], [(.normal, [(149, .k (.d (.bool)))])]⟩)]
 loop := asc [(26, ⟨67106864, [], [], [(5, .k (.d (.int .i64)))], [((.exit 0), []), (.ret, [(4, .k (.d (.bool)))])], bnd tb (.len (.ld 22 (.fld 72 4 (.slot 3)))) 1⟩),
  (68551704562, ⟨1606938044257528773904631189422958917689486710763136902759952, [], [], [(9, .k (.d (.int .i64)))], [((.exit 3), []), (.ret, [(4, .k (.d (.bool)))])], bnd tb (.len (.ld 69 (.fld 72 5 (.slot 3)))) 1⟩)]
 keep := asc []
def a7X : Row I := ⟨67, [.d (.dat 36), .d (.dat 72)], [.k (.d (.bool))], a4Y⟩
theorem b3O : y3 Go.Proofs.Tryz.prog (a7X) :=
 j7 z7 (j0 (es := [j6 tb (a2C), j6 tb (a2b), j6 tb (a2I), j6 tb (a1z), j6 tb (a0n)]) ⟨z8 z7 a4R, ⟨z8 z7 a4q, ⟨z8 z7 a5x, ⟨z8 z7 a3G, ⟨z8 z7 a1i, trivial⟩⟩⟩⟩⟩ 3) mixed 216 (fn := Go.Proofs.Tryz.f67) (cd := k8 Go.Proofs.Tryz.f67) (H := b4r) (rl := [.tmp 4]) Go.Proofs.Tryz.func67 (by kernel_rfl) (by kernel_rfl) (by kernel_rfl) (by kernel_rfl) (by kernel_rfl) (by kernel_rfl) (by kernel_rfl)
def b2s : Hints I where
 tds := fun i => (asc [] i).getD []
 spl := fun i => (asc [] i).getD []
 pre := fun i => (asc [] i).getD []
 join := asc []
 loop := asc []
 keep := asc []
def a6k : Row I := ⟨68, [.d (.dat 72)], [.k (.d (.bool))], a3y⟩
theorem b1U : y3 Go.Proofs.Tryz.prog (a6k) :=
 j7 z7 (j0 (es := []) trivial 3) mixed 16 (fn := Go.Proofs.Tryz.f68) (cd := k8 Go.Proofs.Tryz.f68) (H := b2s) (rl := [.tmp 2]) Go.Proofs.Tryz.func68 (by kernel_rfl) (by kernel_rfl) (by kernel_rfl) (by kernel_rfl) (by kernel_rfl) (by kernel_rfl) (by kernel_rfl)
def b0N (n : Nat) : Hints I where
 tds := fun i => (asc [(6, [[], [], [1], [], [1, 2, 3], [1, 2, 3, 4], [0, 1, 2, 3, 4, 5], [0, 1, 2, 3, 4, 5, 6]])] i).getD []
 spl := fun i => (asc [] i).getD []
 pre := fun i => (asc [] i).getD []
 join := asc []
 loop := asc [(58, ⟨1073709068, [], [], [(3, .k (.d (.int .i64)))], [((.exit 0), []), (.ret, [(2, .k (.d (.int .i64)))])], bnd tb (.len (.ld 34 (.fld 36 0 (.slot 1)))) 1⟩),
  (250, ⟨4951760157141521082416628192, [], [], [(4, .k (.row 4 false)), (5, .k (.d (.int .i64)))], [((.exit 2), [(4, .k (.row 4 false))])], bnd tb (.len (.ld 34 (.fld 36 0 (.slot 1)))) 1⟩),
  (506, ⟨10136253041668693690874029146628, [], [], [(4, .k (.row 4 false)), (9, .k (.d (.int .i64)))], [((.exit 8), [(4, .k (.row 4 false))]), (.ret, [(2, .k (.d (.int .i64))), (4, .k (.row 4 false))])], bnd tb (.len (.slot 4)) 1⟩),
  (16018, ⟨4951760157141518900573241792, [], [], [(4, .k (.row 4 false)), (6, .k (.d (.int .i64)))], [((.exit 4), [(4, .k (.row 4 false))])], bnd tb (.len (.ld 34 (.fld 36 0 (.slot 1)))) 1⟩),
  (4100682, ⟨4835703278177041722114432, [], [], [(4, .k (.row 4 false)), (7, .k (.d (.bool))), (8, .k (.d (.int .i64)))], [((.exit 6), [(4, .k (.row 4 false)), (7, .k (.d (.bool)))])], fun _ => some n⟩)]
 keep := asc []
def a5i (n : Nat) : Row I := ⟨36, [.d (.dat 36)], [.k (.d (.int .i64))], a1e n⟩
theorem a9P (n : Nat) : y3 Go.Proofs.Tryz.prog (a5i n) :=
 j7 z7 (j0 (es := [j6 tb (a2C), j6 tb (a7X), j6 tb (a6k)]) ⟨z8 z7 a4R, ⟨z8 z7 b3O, ⟨z8 z7 b1U, trivial⟩⟩⟩ 3) mixed 103 (fn := Go.Proofs.Tryz.f36) (cd := k8 Go.Proofs.Tryz.f36) (H := (b0N n)) (rl := [.tmp 2]) Go.Proofs.Tryz.func36 (by kernel_rfl) (by kernel_rfl) (by kernel_rfl) (by kernel_rfl) (by kernel_rfl) (by kernel_rfl) (by kernel_rfl)
def b2F : Hints I where
 tds := fun i => (asc [(1, [[], [0], [0, 1], [], [3], [0, 1, 2, 3, 4], [0, 1, 2, 3, 4, 5]]), (5, [[], [], [], [1, 2], [1, 2, 3], [0, 1, 2, 3, 4], [0, 1, 2, 3, 4, 5]])] i).getD []
 spl := fun i => (asc [] i).getD []
 pre := fun i => (asc [] i).getD []
 join := asc []
 loop := asc [(58, ⟨67100752, [5], [], [(6, .k (.d (.int .i64)))], [((.exit 0), []), (.ret, [(4, .k (.d (.bool)))])], bnd tb (.len (.slot 5)) 1⟩)]
 keep := asc []
def a6n : Row I := ⟨22, [.d (.dat 36), .d (.dat 47)], [.k (.d (.bool))], a10⟩
theorem b1L : y3 Go.Proofs.Tryz.prog (a6n) :=
 j7 z7 (j0 (es := [j6 tb (a2C)]) ⟨z8 z7 a4R, trivial⟩ 3) mixed 26 (fn := Go.Proofs.Tryz.f22) (cd := k8 Go.Proofs.Tryz.f22) (H := b2F) (rl := [.tmp 4]) Go.Proofs.Tryz.func22 (by kernel_rfl) (by kernel_rfl) (by kernel_rfl) (by kernel_rfl) (by kernel_rfl) (by kernel_rfl) (by kernel_rfl)
def b2a (_ : Nat) : Hints I where
 tds := fun i => (asc [(7, [[], [0], [], [], [2, 3], [2, 3, 4], [0, 1, 2, 3, 4, 5], [0, 1, 2, 3, 4, 5, 6], [], [0, 1, 2, 3, 4, 5, 6, 7, 8]]), (8, [[], [0], [0, 1], [0, 1, 2], [0, 1, 2, 3], [0, 1, 2, 3, 4], [0, 1, 2, 3, 4, 5], [0, 1, 2, 3], [0, 1, 2, 3, 7], [0, 1, 2, 3], [0, 1, 2, 3, 7, 8, 9], [0, 1, 2, 3, 7, 8, 9, 10], [0, 1, 2, 3, 7, 8, 9, 10, 11], [0, 1, 2, 3, 7, 8, 9, 10, 11, 12], [0, 1, 2, 3, 4, 5, 6, 7, 8, 9, 10, 11, 12, 13], [0, 1, 2, 3, 4, 5, 6, 7, 8, 9, 10, 11, 12, 13, 14], [0, 1, 2, 3, 4, 5, 6, 7, 8, 9, 10, 11, 12, 13, 14, 15]])] i).getD []
 spl := fun i => (asc [(3, [27])] i).getD []
 pre := fun i => (asc [] i).getD []
 join := asc [(30, ⟨8573158400, [9], [], [(.normal, [(10, .k (.d (.bool)))])]⟩)]
 loop := asc [(250, ⟨73786976286248279040, [], [], [(10, .k (.d (.bool))), (11, .k (.d (.int .i64)))], [((.exit 0), [(10, .k (.d (.bool)))])], bnd tb (.len (.slot 9)) 1⟩)]
 keep := asc []
def a6m (n : Nat) : Row I := ⟨16, [.d (.dat 36), .d (.sl 3), .d (.int .i64)], [.k (.d (.bool))], a09 n⟩
theorem b1R (n : Nat) : y3 Go.Proofs.Tryz.prog (a6m n) :=
 j7 z7 (j0 (es := [j6 tb (a7G n), j6 tb (a5i n), j6 tb (a6n)]) ⟨z8 z7 (b1X n), ⟨z8 z7 (a9P n), ⟨z8 z7 b1L, trivial⟩⟩⟩ 3) mixed 77 (fn := Go.Proofs.Tryz.f16) (cd := k8 Go.Proofs.Tryz.f16) (H := (b2a n)) (rl := [.tmp 6]) Go.Proofs.Tryz.func16 (by kernel_rfl) (by kernel_rfl) (by kernel_rfl) (by kernel_rfl) (by kernel_rfl) (by kernel_rfl) (by kernel_rfl)
def a9l (_ : Nat) : Hints I where
 tds := fun i => (asc [] i).getD []
 spl := fun i => (asc [] i).getD []
 pre := fun i => (asc [] i).getD []
 join := asc []
 loop := asc []
 keep := asc []
def a8r (n : Nat) : Row I := ⟨5, [.d (.sl 3), .d (.sl 3), .d (.int .i64), .d (.dat 36)], [.k (.d (.bool))], a1H n⟩
theorem a85 (n : Nat) : y3 Go.Proofs.Tryz.prog (a8r n) :=
 j7 z7 (j0 (es := [j6 tb (a6H), j6 tb (a6K n), j6 tb (a7j n), j6 tb (a6m n)]) ⟨z8 z7 b2w, ⟨z8 z7 (b2d n), ⟨z8 z7 (b2N n), ⟨z8 z7 (b1R n), trivial⟩⟩⟩⟩ 3) mixed 60 (fn := Go.Proofs.Tryz.f5) (cd := k8 Go.Proofs.Tryz.f5) (H := (a9l n)) (rl := [.tmp 8]) Go.Proofs.Tryz.func5 (by kernel_rfl) (by kernel_rfl) (by kernel_rfl) (by kernel_rfl) (by kernel_rfl) (by kernel_rfl) (by kernel_rfl)
end Go.Qx
end
section
namespace Go.Pl
open Go Go.RowKit Go.Sx Go.Qx Go.Proofs.YtdipagkcdpcnbaaGreat
theorem c6V : Go.Proofs.Tryz.prog.cellsOf 132 = 4 := by kernel_rfl
theorem c69 : Go.Proofs.Tryz.prog.cellsOf 69 = 1 := by kernel_rfl
theorem c70 : Go.Proofs.Tryz.prog.cellsOf 70 = 2 := by kernel_rfl
theorem c72 : Go.Proofs.Tryz.prog.cellsOf 72 = 8 := by kernel_rfl
theorem c34 : Go.Proofs.Tryz.prog.cellsOf 34 = 1 := by kernel_rfl
theorem c36 : Go.Proofs.Tryz.prog.cellsOf 36 = 2 := by kernel_rfl
theorem rdP {α β : Type} (ra : Rp α) (rb : Rp β) {σ : S} {cs : List Value} {a : α} {b : β} (o s : Nat) (h1 : ra.cells σ a ((cs.drop o).take s)) (h2 : rb.cells σ b (cs.drop (o + s))) : (Z1 ra rb).cells σ (a, b) (cs.drop o) :=
 ⟨_, _, by rw [<- List.drop_drop]; exact (List.take_append_drop s (cs.drop o)).symm, h1, h2⟩
theorem rdE {α : Type} (ra : Rp α) {σ : S} {cs : List Value} {a : α} (o s : Nat) (hl : cs.length = o + s) (h1 : ra.cells σ a ((cs.drop o).take s)) : ra.cells σ a (cs.drop o) := by
 rwa [List.take_of_length_le (by rw [List.length_drop]; omega)] at h1
theorem ln2 {α : Type} {l : List α} (h : l.length = 2) : ∃ a0 a1, l = [a0, a1] := by
 match l, h with
 | [a0, a1], _ => exact ⟨a0, a1, rfl⟩
theorem ln3 {α : Type} {l : List α} (h : l.length = 3) : ∃ a0 a1 a2, l = [a0, a1, a2] := by
 match l, h with
 | [a0, a1, a2], _ => exact ⟨a0, a1, a2, rfl⟩
theorem ln7 {α : Type} {l : List α} (h : l.length = 7) : ∃ a0 a1 a2 a3 a4 a5 a6, l = [a0, a1, a2, a3, a4, a5, a6] := by
 match l, h with
 | [a0, a1, a2, a3, a4, a5, a6], _ => exact ⟨a0, a1, a2, a3, a4, a5, a6, rfl⟩
section
variable {H : Type} {enc : TypeId × Value -> H} {w : World} {base : Nat} {spare : Nat -> Bool} {held : Bool}
theorem b4T {n : Nat} {cs : List Value} {x : DataW H × List MemPlace} (h : DataW.trod enc Go.Proofs.Tryz.prog w base spare held n 3 cs = some x) : ∃ d : Int, (rpK .i64).cells (a2t w) d cs /\ a2J d <= Rows.uptoBulk x.1 := by
 obtain ⟨k, e0, rfl, _⟩ := DataW.trod_int Go.Proofs.Tryz.underlying3 h
 exact ⟨k, e0, by simp [a2J, Rows.uptoBulk]⟩
theorem c7b {n : Nat} {cs : List Value} {x : DataW H × List MemPlace} (h : DataW.trod enc Go.Proofs.Tryz.prog w base spare held n 22 cs = some x) : ∃ d : List Int, (@rpList _ (rpK .i64)).cells (a2t w) d cs /\ b0x d <= Rows.uptoBulk x.1 := by
 obtain ⟨ds, A, c, e, hs, hb⟩ := @a7K _ _ _ _ _ _ _ Int (rpK .i64) _ _ _ _ _ Go.Proofs.Tryz.underlying22 c3 a2J (fun n cs x _ h => b4T h) h
 exact ⟨ds, ⟨A, c, e, hs⟩, hb⟩
theorem c6Y {n : Nat} {cs : List Value} {x : DataW H × List MemPlace} (h : DataW.trod enc Go.Proofs.Tryz.prog w base spare held n 2 cs = some x) : ∃ d : Int, (rpK .i64).cells (a2t w) d cs /\ a2J d <= Rows.uptoBulk x.1 := by
 obtain ⟨k, e0, rfl, _⟩ := DataW.trod_int Go.Proofs.Tryz.underlying2 h
 exact ⟨k, e0, by simp [a2J, Rows.uptoBulk]⟩
theorem c78 {n : Nat} {cs : List Value} {x : DataW H × List MemPlace} (h : DataW.trod enc Go.Proofs.Tryz.prog w base spare held n 9 cs = some x) : ∃ d : ByteArray, (rpStr).cells (a2t w) d cs /\ a0Y d <= Rows.uptoBulk x.1 := by
 obtain ⟨s, rfl, rfl, _⟩ := DataW.trod_string Go.Proofs.Tryz.underlying9 h
 refine ⟨s, rfl, ?_⟩
 simp only [Rows.uptoBulk, a0Y]
 have : s.data.toList.length = s.size := c1f s
 omega
theorem c6L {n : Nat} {cs : List Value} {x : DataW H × List MemPlace} (h : DataW.trod enc Go.Proofs.Tryz.prog w base spare held n 114 cs = some x) : ∃ d : Key, (rpKey).cells (a2t w) d cs /\ a2y d <= Rows.uptoBulk x.1 := by
 exact c4g h
theorem c7M {n : Nat} {cs : List Value} {x : DataW H × List MemPlace} (h : DataW.trod enc Go.Proofs.Tryz.prog w base spare held n 4 cs = some x) : ∃ d : Bool, (rpBool).cells (a2t w) d cs /\ b8t d <= Rows.uptoBulk x.1 := by
 obtain ⟨k, e0, rfl⟩ := DataW.trod_bool Go.Proofs.Tryz.underlying4 h
 exact ⟨k, e0, by simp [b8t, Rows.uptoBulk]⟩
theorem c6v {n : Nat} {cs : List Value} {x : DataW H × List MemPlace} (h : DataW.trod enc Go.Proofs.Tryz.prog w base spare held n 132 cs = some x) : ∃ d : Api_Field, (W5).cells (a2t w) d cs /\ a4y d <= Rows.uptoBulk x.1 := by
 obtain ⟨xs, m, rfl, rfl, hl, hx, hf⟩ := DataW.trod_struct Go.Proofs.Tryz.underlying132 h
 rw [c6V] at hl
 have hx : xs.length = 3 := hx
 obtain ⟨x0, x1, x2, rfl⟩ := ln3 hx
 have f0 : DataW.trod enc Go.Proofs.Tryz.prog w base spare held m 114 ((cs.drop 0).take (Go.Proofs.Tryz.prog.cellsOf 114)) = [x0, x1, x2][0]? := hf 0 _ rfl
 rw [c6Q] at f0
 obtain ⟨d0, e0, b0⟩ := c6L (x := x0) f0
 have f1 : DataW.trod enc Go.Proofs.Tryz.prog w base spare held m 3 ((cs.drop 2).take (Go.Proofs.Tryz.prog.cellsOf 3)) = [x0, x1, x2][1]? := hf 1 _ rfl
 rw [c3] at f1
 obtain ⟨d1, e1, b1⟩ := b4T (x := x1) f1
 have f2 : DataW.trod enc Go.Proofs.Tryz.prog w base spare held m 4 ((cs.drop 3).take (Go.Proofs.Tryz.prog.cellsOf 4)) = [x0, x1, x2][2]? := hf 2 _ rfl
 rw [c4] at f2
 obtain ⟨d2, e2, b2⟩ := c7M (x := x2) f2
 refine ⟨⟨d0, d1, d2⟩, rdP (rpKey) (Z1 (rpK .i64) (rpBool)) 0 2 e0 (rdP (rpK .i64) (rpBool) 2 1 e1 (rdE (rpBool) 3 1 hl e2)), ?_⟩
 simp only [a4y, Rows.uptoBulk, Rows.uptoBulkAll, List.map_cons, List.map_nil]
 omega
theorem c7u {n : Nat} {cs : List Value} {x : DataW H × List MemPlace} (h : DataW.trod enc Go.Proofs.Tryz.prog w base spare held n 69 cs = some x) : ∃ d : List Api_Field, (@rpList _ (W5)).cells (a2t w) d cs /\ a8l d <= Rows.uptoBulk x.1 := by
 obtain ⟨ds, A, c, e, hs, hb⟩ := @a7K _ _ _ _ _ _ _ Api_Field (W5) _ _ _ _ _ Go.Proofs.Tryz.underlying69 c6V a4y (fun n cs x _ h => c6v h) h
 exact ⟨ds, ⟨A, c, e, hs⟩, hb⟩
theorem c63 {n : Nat} {cs : List Value} {x : DataW H × List MemPlace} (h : DataW.trod enc Go.Proofs.Tryz.prog w base spare held n 70 cs = some x) : ∃ d : Int × Int, (Z1 (rpK .i64) (rpK .i64)).cells (a2t w) d cs /\ b4x d <= Rows.uptoBulk x.1 := by
 obtain ⟨xs, m, rfl, rfl, hl, hx, hf⟩ := DataW.trod_array Go.Proofs.Tryz.underlying70 h
 rw [c70] at hl
 have hx : xs.length = 2 := hx
 obtain ⟨x0, x1, rfl⟩ := ln2 hx
 rw [c3] at hf
 have f0 : DataW.trod enc Go.Proofs.Tryz.prog w base spare held m 3 ((cs.drop 0).take 1) = [x0, x1][0]? := hf 0 (by decide)
 obtain ⟨d0, e0, b0⟩ := b4T (x := x0) f0
 have f1 : DataW.trod enc Go.Proofs.Tryz.prog w base spare held m 3 ((cs.drop 1).take 1) = [x0, x1][1]? := hf 1 (by decide)
 obtain ⟨d1, e1, b1⟩ := b4T (x := x1) f1
 refine ⟨(d0, d1), rdP (rpK .i64) (rpK .i64) 0 1 e0 (rdE (rpK .i64) 1 1 hl e1), ?_⟩
 simp only [b4x, Rows.uptoBulk, Rows.uptoBulkAll, List.map_cons, List.map_nil]
 omega
theorem c7B {n : Nat} {cs : List Value} {x : DataW H × List MemPlace} (h : DataW.trod enc Go.Proofs.Tryz.prog w base spare held n 72 cs = some x) : ∃ d : Api_TypeNode, (a0j).cells (a2t w) d cs /\ a0k d <= Rows.uptoBulk x.1 := by
 obtain ⟨xs, m, rfl, rfl, hl, hx, hf⟩ := DataW.trod_struct Go.Proofs.Tryz.underlying72 h
 rw [c72] at hl
 have hx : xs.length = 7 := hx
 obtain ⟨x0, x1, x2, x3, x4, x5, x6, rfl⟩ := ln7 hx
 have f0 : DataW.trod enc Go.Proofs.Tryz.prog w base spare held m 3 ((cs.drop 0).take (Go.Proofs.Tryz.prog.cellsOf 3)) = [x0, x1, x2, x3, x4, x5, x6][0]? := hf 0 _ rfl
 rw [c3] at f0
 obtain ⟨d0, e0, b0⟩ := b4T (x := x0) f0
 have f1 : DataW.trod enc Go.Proofs.Tryz.prog w base spare held m 2 ((cs.drop 1).take (Go.Proofs.Tryz.prog.cellsOf 2)) = [x0, x1, x2, x3, x4, x5, x6][1]? := hf 1 _ rfl
 rw [c2] at f1
 obtain ⟨d1, e1, b1⟩ := c6Y (x := x1) f1
 have f2 : DataW.trod enc Go.Proofs.Tryz.prog w base spare held m 2 ((cs.drop 2).take (Go.Proofs.Tryz.prog.cellsOf 2)) = [x0, x1, x2, x3, x4, x5, x6][2]? := hf 2 _ rfl
 rw [c2] at f2
 obtain ⟨d2, e2, b2⟩ := c6Y (x := x2) f2
 have f3 : DataW.trod enc Go.Proofs.Tryz.prog w base spare held m 9 ((cs.drop 3).take (Go.Proofs.Tryz.prog.cellsOf 9)) = [x0, x1, x2, x3, x4, x5, x6][3]? := hf 3 _ rfl
 rw [c9] at f3
 obtain ⟨d3, e3, b3⟩ := c78 (x := x3) f3
 have f4 : DataW.trod enc Go.Proofs.Tryz.prog w base spare held m 22 ((cs.drop 4).take (Go.Proofs.Tryz.prog.cellsOf 22)) = [x0, x1, x2, x3, x4, x5, x6][4]? := hf 4 _ rfl
 rw [c22] at f4
 obtain ⟨d4, e4, b4⟩ := c7b (x := x4) f4
 have f5 : DataW.trod enc Go.Proofs.Tryz.prog w base spare held m 69 ((cs.drop 5).take (Go.Proofs.Tryz.prog.cellsOf 69)) = [x0, x1, x2, x3, x4, x5, x6][5]? := hf 5 _ rfl
 rw [c69] at f5
 obtain ⟨d5, e5, b5⟩ := c7u (x := x5) f5
 have f6 : DataW.trod enc Go.Proofs.Tryz.prog w base spare held m 70 ((cs.drop 6).take (Go.Proofs.Tryz.prog.cellsOf 70)) = [x0, x1, x2, x3, x4, x5, x6][6]? := hf 6 _ rfl
 rw [c70] at f6
 obtain ⟨d6, e6, b6⟩ := c63 (x := x6) f6
 refine ⟨⟨d0, d1, d2, d3, d4, d5, d6⟩, rdP (rpK .i64) (Z1 (rpK .i64) (Z1 (rpK .i64) (Z1 (rpStr) (Z1 (@rpList _ (rpK .i64)) (Z1 (@rpList _ (W5)) (Z1 (rpK .i64) (rpK .i64))))))) 0 1 e0 (rdP (rpK .i64) (Z1 (rpK .i64) (Z1 (rpStr) (Z1 (@rpList _ (rpK .i64)) (Z1 (@rpList _ (W5)) (Z1 (rpK .i64) (rpK .i64)))))) 1 1 e1 (rdP (rpK .i64) (Z1 (rpStr) (Z1 (@rpList _ (rpK .i64)) (Z1 (@rpList _ (W5)) (Z1 (rpK .i64) (rpK .i64))))) 2 1 e2 (rdP (rpStr) (Z1 (@rpList _ (rpK .i64)) (Z1 (@rpList _ (W5)) (Z1 (rpK .i64) (rpK .i64)))) 3 1 e3 (rdP (@rpList _ (rpK .i64)) (Z1 (@rpList _ (W5)) (Z1 (rpK .i64) (rpK .i64))) 4 1 e4 (rdP (@rpList _ (W5)) (Z1 (rpK .i64) (rpK .i64)) 5 1 e5 (rdE (Z1 (rpK .i64) (rpK .i64)) 6 2 hl e6)))))), ?_⟩
 simp only [a0k, Rows.uptoBulk, Rows.uptoBulkAll, List.map_cons, List.map_nil]
 omega
theorem c7e {n : Nat} {cs : List Value} {x : DataW H × List MemPlace} (h : DataW.trod enc Go.Proofs.Tryz.prog w base spare held n 34 cs = some x) : ∃ d : List Api_TypeNode, (@rpList _ (a0j)).cells (a2t w) d cs /\ a9J d <= Rows.uptoBulk x.1 := by
 obtain ⟨ds, A, c, e, hs, hb⟩ := @a7K _ _ _ _ _ _ _ Api_TypeNode (a0j) _ _ _ _ _ Go.Proofs.Tryz.underlying34 c72 a0k (fun n cs x _ h => c7B h) h
 exact ⟨ds, ⟨A, c, e, hs⟩, hb⟩
theorem c7q {n : Nat} {cs : List Value} {x : DataW H × List MemPlace} (h : DataW.trod enc Go.Proofs.Tryz.prog w base spare held n 36 cs = some x) : ∃ d : Api_Type, (a6P).cells (a2t w) d cs /\ a33 d <= Rows.uptoBulk x.1 := by
 obtain ⟨xs, m, rfl, rfl, hl, hx, hf⟩ := DataW.trod_struct Go.Proofs.Tryz.underlying36 h
 rw [c36] at hl
 have hx : xs.length = 2 := hx
 obtain ⟨x0, x1, rfl⟩ := ln2 hx
 have f0 : DataW.trod enc Go.Proofs.Tryz.prog w base spare held m 34 ((cs.drop 0).take (Go.Proofs.Tryz.prog.cellsOf 34)) = [x0, x1][0]? := hf 0 _ rfl
 rw [c34] at f0
 obtain ⟨d0, e0, b0⟩ := c7e (x := x0) f0
 have f1 : DataW.trod enc Go.Proofs.Tryz.prog w base spare held m 3 ((cs.drop 1).take (Go.Proofs.Tryz.prog.cellsOf 3)) = [x0, x1][1]? := hf 1 _ rfl
 rw [c3] at f1
 obtain ⟨d1, e1, b1⟩ := b4T (x := x1) f1
 refine ⟨⟨d0, d1⟩, rdP (@rpList _ (a0j)) (rpK .i64) 0 1 e0 (rdE (rpK .i64) 1 1 hl e1), ?_⟩
 simp only [a33, Rows.uptoBulk, Rows.uptoBulkAll, List.map_cons, List.map_nil]
 omega
end
end Go.Pl
end
