/- Printed by dec.py. Facts on the types of the program. -/
import Derived.Test.YtamfhohifmbjnaaPu
import Derived.Test.YtamfhohifmbjnaaProg
import Derived.KernelRfl
namespace Go.Sx
open Go Go.RowKit

theorem fo27_3 : FieldOk Go.Proofs.Try.prog 27 3 3 := ⟨_, _, Go.Proofs.Try.underlying27, rfl, rfl, by kernel_rfl⟩
theorem to22 : TyOne Go.Proofs.Try.prog 22 := ⟨_, Go.Proofs.Try.underlying22, rfl, by kernel_rfl⟩
theorem sz27 : (Go.Proofs.Try.prog.info? 27).map (·.size) = some 7 := by kernel_rfl
theorem tr27 : TyRow Go.Proofs.Try.prog 27 7 := ⟨_, Go.Proofs.Try.underlying27, rfl, by kernel_rfl⟩
theorem fo27_5 : FieldOk Go.Proofs.Try.prog 27 5 5 := ⟨_, _, Go.Proofs.Try.underlying27, rfl, rfl, by kernel_rfl⟩
theorem to24 : TyOne Go.Proofs.Try.prog 24 := ⟨_, Go.Proofs.Try.underlying24, rfl, by kernel_rfl⟩
theorem sz65 : (Go.Proofs.Try.prog.info? 65).map (·.size) = some 9 := by kernel_rfl
theorem tr65 : TyRow Go.Proofs.Try.prog 65 9 := ⟨_, Go.Proofs.Try.underlying65, rfl, by kernel_rfl⟩
theorem ti65 : TyInfo Go.Proofs.Try.prog 65 (.agg #[(.slice none 0 0), (.bool false), (.int .i64 0), (.int .i64 0), (.string ⟨#[]⟩), (.slice none 0 0), (.slice none 0 0), (.slice none 0 0), (.slice none 0 0)]) 9 160 := tyInfo_mk (by kernel_rfl)
theorem fo65_0 : FieldOk Go.Proofs.Try.prog 65 0 0 := ⟨_, _, Go.Proofs.Try.underlying65, rfl, rfl, by kernel_rfl⟩
theorem fo65_1 : FieldOk Go.Proofs.Try.prog 65 1 1 := ⟨_, _, Go.Proofs.Try.underlying65, rfl, rfl, by kernel_rfl⟩
theorem to4 : TyOne Go.Proofs.Try.prog 4 := ⟨_, Go.Proofs.Try.underlying4, rfl, by kernel_rfl⟩
theorem fo65_2 : FieldOk Go.Proofs.Try.prog 65 2 2 := ⟨_, _, Go.Proofs.Try.underlying65, rfl, rfl, by kernel_rfl⟩
theorem ti27 : TyInfo Go.Proofs.Try.prog 27 (.agg #[(.int .i64 0), (.int .i64 0), (.string ⟨#[]⟩), (.slice none 0 0), (.slice none 0 0), (.slice none 0 0), (.slice none 0 0)]) 7 128 := tyInfo_mk (by kernel_rfl)
theorem ts22 : TySlice Go.Proofs.Try.prog 22 27 (.agg #[(.int .i64 0), (.int .i64 0), (.string ⟨#[]⟩), (.slice none 0 0), (.slice none 0 0), (.slice none 0 0), (.slice none 0 0)]) 7 128 := ⟨Go.Proofs.Try.underlying22, ti27, rfl, by decide, by decide⟩
theorem ti87 : TyInfo Go.Proofs.Try.prog 87 (.agg #[(.bool false), (.bool false), (.bool false), (.bool false), (.bool false)]) 5 5 := tyInfo_mk (by kernel_rfl)
theorem tst87 : TyStruct Go.Proofs.Try.prog 87 [(0, 1), (1, 1), (2, 1), (3, 1), (4, 1)] [(.bool false), (.bool false), (.bool false), (.bool false), (.bool false)] := tyStruct_mk Go.Proofs.Try.underlying87 (z := (.agg #[(.bool false), (.bool false), (.bool false), (.bool false), (.bool false)])) (by kernel_rfl) rfl (by kernel_rfl)
theorem sz87 : (Go.Proofs.Try.prog.info? 87).map (·.size) = some 5 := by kernel_rfl
theorem tr87 : TyRow Go.Proofs.Try.prog 87 5 := ⟨_, Go.Proofs.Try.underlying87, rfl, by kernel_rfl⟩
theorem x87 (a b : ByteArray) (w : World) : (callFunc 87 [Value.string a, .string b].toArray).run Go.Proofs.Try.prog w = .ok (.value (.int .i64 (strCmp a b))) w := x_cmp Go.Proofs.Try.func87 (by kernel_rfl) rfl (by kernel_rfl) (by kernel_rfl) a b w
theorem sz9 : (Go.Proofs.Try.prog.info? 9).map (·.size) = some 1 := by kernel_rfl
theorem to9 : TyOne Go.Proofs.Try.prog 9 := ⟨_, Go.Proofs.Try.underlying9, rfl, by kernel_rfl⟩
theorem fo60_0 : FieldOk Go.Proofs.Try.prog 60 0 0 := ⟨_, _, Go.Proofs.Try.underlying60, rfl, rfl, by kernel_rfl⟩
theorem to3 : TyOne Go.Proofs.Try.prog 3 := ⟨_, Go.Proofs.Try.underlying3, rfl, by kernel_rfl⟩
theorem fo60_1 : FieldOk Go.Proofs.Try.prog 60 1 1 := ⟨_, _, Go.Proofs.Try.underlying60, rfl, rfl, by kernel_rfl⟩
theorem sz60 : (Go.Proofs.Try.prog.info? 60).map (·.size) = some 2 := by kernel_rfl
theorem tr60 : TyRow Go.Proofs.Try.prog 60 2 := ⟨_, Go.Proofs.Try.underlying60, rfl, by kernel_rfl⟩
theorem fo27_4 : FieldOk Go.Proofs.Try.prog 27 4 4 := ⟨_, _, Go.Proofs.Try.underlying27, rfl, rfl, by kernel_rfl⟩
theorem to23 : TyOne Go.Proofs.Try.prog 23 := ⟨_, Go.Proofs.Try.underlying23, rfl, by kernel_rfl⟩
theorem ti60 : TyInfo Go.Proofs.Try.prog 60 (.agg #[(.int .i64 0), (.string ⟨#[]⟩)]) 2 24 := tyInfo_mk (by kernel_rfl)
theorem fo27_0 : FieldOk Go.Proofs.Try.prog 27 0 0 := ⟨_, _, Go.Proofs.Try.underlying27, rfl, rfl, by kernel_rfl⟩
theorem fo27_1 : FieldOk Go.Proofs.Try.prog 27 1 1 := ⟨_, _, Go.Proofs.Try.underlying27, rfl, rfl, by kernel_rfl⟩
theorem to2 : TyOne Go.Proofs.Try.prog 2 := ⟨_, Go.Proofs.Try.underlying2, rfl, by kernel_rfl⟩
theorem fo27_2 : FieldOk Go.Proofs.Try.prog 27 2 2 := ⟨_, _, Go.Proofs.Try.underlying27, rfl, rfl, by kernel_rfl⟩
theorem fo27_6 : FieldOk Go.Proofs.Try.prog 27 6 6 := ⟨_, _, Go.Proofs.Try.underlying27, rfl, rfl, by kernel_rfl⟩
theorem to25 : TyOne Go.Proofs.Try.prog 25 := ⟨_, Go.Proofs.Try.underlying25, rfl, by kernel_rfl⟩
theorem tst27 : TyStruct Go.Proofs.Try.prog 27 [(0, 1), (1, 1), (2, 1), (3, 1), (4, 1), (5, 1), (6, 1)] [(.int .i64 0), (.int .i64 0), (.string ⟨#[]⟩), (.slice none 0 0), (.slice none 0 0), (.slice none 0 0), (.slice none 0 0)] := tyStruct_mk Go.Proofs.Try.underlying27 (z := (.agg #[(.int .i64 0), (.int .i64 0), (.string ⟨#[]⟩), (.slice none 0 0), (.slice none 0 0), (.slice none 0 0), (.slice none 0 0)])) (by kernel_rfl) rfl (by kernel_rfl)
theorem fo87_0 : FieldOk Go.Proofs.Try.prog 87 0 0 := ⟨_, _, Go.Proofs.Try.underlying87, rfl, rfl, by kernel_rfl⟩
theorem fo87_1 : FieldOk Go.Proofs.Try.prog 87 1 1 := ⟨_, _, Go.Proofs.Try.underlying87, rfl, rfl, by kernel_rfl⟩
theorem fo87_2 : FieldOk Go.Proofs.Try.prog 87 2 2 := ⟨_, _, Go.Proofs.Try.underlying87, rfl, rfl, by kernel_rfl⟩
theorem fo87_3 : FieldOk Go.Proofs.Try.prog 87 3 3 := ⟨_, _, Go.Proofs.Try.underlying87, rfl, rfl, by kernel_rfl⟩
theorem fo87_4 : FieldOk Go.Proofs.Try.prog 87 4 4 := ⟨_, _, Go.Proofs.Try.underlying87, rfl, rfl, by kernel_rfl⟩
theorem ts23 : TySlice Go.Proofs.Try.prog 23 60 (.agg #[(.int .i64 0), (.string ⟨#[]⟩)]) 2 24 := ⟨Go.Proofs.Try.underlying23, ti60, rfl, by decide, by decide⟩
theorem ti9 : TyInfo Go.Proofs.Try.prog 9 (.string ⟨#[]⟩) 1 16 := tyInfo_mk (by kernel_rfl)
theorem ts25 : TySlice Go.Proofs.Try.prog 25 9 (.string ⟨#[]⟩) 1 16 := ⟨Go.Proofs.Try.underlying25, ti9, rfl, by decide, by decide⟩
theorem sz22 : (Go.Proofs.Try.prog.info? 22).map (·.size) = some 1 := by kernel_rfl
theorem sz23 : (Go.Proofs.Try.prog.info? 23).map (·.size) = some 1 := by kernel_rfl
theorem sz25 : (Go.Proofs.Try.prog.info? 25).map (·.size) = some 1 := by kernel_rfl
theorem sz24 : (Go.Proofs.Try.prog.info? 24).map (·.size) = some 1 := by kernel_rfl
theorem tst65 : TyStruct Go.Proofs.Try.prog 65 [(0, 1), (1, 1), (2, 7)] [(.slice none 0 0), (.bool false), (.int .i64 0), (.int .i64 0), (.string ⟨#[]⟩), (.slice none 0 0), (.slice none 0 0), (.slice none 0 0), (.slice none 0 0)] := tyStruct_mk Go.Proofs.Try.underlying65 (z := (.agg #[(.slice none 0 0), (.bool false), (.int .i64 0), (.int .i64 0), (.string ⟨#[]⟩), (.slice none 0 0), (.slice none 0 0), (.slice none 0 0), (.slice none 0 0)])) (by kernel_rfl) rfl (by kernel_rfl)
theorem ts24 : TySlice Go.Proofs.Try.prog 24 65 (.agg #[(.slice none 0 0), (.bool false), (.int .i64 0), (.int .i64 0), (.string ⟨#[]⟩), (.slice none 0 0), (.slice none 0 0), (.slice none 0 0), (.slice none 0 0)]) 9 160 := ⟨Go.Proofs.Try.underlying24, ti65, rfl, by decide, by decide⟩
theorem fo53_1 : FieldOk Go.Proofs.Try.prog 53 1 1 := ⟨_, _, Go.Proofs.Try.underlying53, rfl, rfl, by kernel_rfl⟩
theorem fo53_0 : FieldOk Go.Proofs.Try.prog 53 0 0 := ⟨_, _, Go.Proofs.Try.underlying53, rfl, rfl, by kernel_rfl⟩
theorem to28 : TyOne Go.Proofs.Try.prog 28 := ⟨_, Go.Proofs.Try.underlying28, rfl, by kernel_rfl⟩
theorem sz3 : (Go.Proofs.Try.prog.info? 3).map (·.size) = some 1 := by kernel_rfl
theorem ti2 : TyInfo Go.Proofs.Try.prog 2 (.int .i64 0) 1 8 := tyInfo_mk (by kernel_rfl)
theorem ts98 : TySlice Go.Proofs.Try.prog 98 2 (.int .i64 0) 1 8 := ⟨Go.Proofs.Try.underlying98, ti2, rfl, by decide, by decide⟩
theorem sz2 : (Go.Proofs.Try.prog.info? 2).map (·.size) = some 1 := by kernel_rfl
theorem tst60 : TyStruct Go.Proofs.Try.prog 60 [(0, 1), (1, 1)] [(.int .i64 0), (.string ⟨#[]⟩)] := tyStruct_mk Go.Proofs.Try.underlying60 (z := (.agg #[(.int .i64 0), (.string ⟨#[]⟩)])) (by kernel_rfl) rfl (by kernel_rfl)
theorem sz4 : (Go.Proofs.Try.prog.info? 4).map (·.size) = some 1 := by kernel_rfl
theorem tst53 : TyStruct Go.Proofs.Try.prog 53 [(0, 1), (1, 1)] [(.slice none 0 0), (.int .i64 0)] := tyStruct_mk Go.Proofs.Try.underlying53 (z := (.agg #[(.slice none 0 0), (.int .i64 0)])) (by kernel_rfl) rfl (by kernel_rfl)

end Go.Sx
