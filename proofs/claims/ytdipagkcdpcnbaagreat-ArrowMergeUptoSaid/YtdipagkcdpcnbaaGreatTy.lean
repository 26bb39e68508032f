/- Printed by ex.py. Facts on the types of the program. -/
import Derived.Test.YtdipagkcdpcnbaaGreatPu
import Derived.Test.YtdipagkcdpcnbaaGreatLay
import Derived.KernelRfl
namespace Go.Qx
open Go Go.RowKit Go.Sx
set_option maxRecDepth 100000

abbrev to_Api_Field (v : Api_Field) : Key × Int × Bool := (v.Key_, v.Node, v.Optional)
abbrev of_Api_Field (x : Key × Int × Bool) : Api_Field := ⟨x.1, x.2.1, x.2.2⟩
@[reducible] def rp_Api_Field : Rp Api_Field := rpVia to_Api_Field (rpProd (rpKey) (rpProd (rpK .i64) (rpBool)))
abbrev to_Api_TypeNode (v : Api_TypeNode) : Int × Int × Int × ByteArray × (List Int) × (List Api_Field) × (Int × Int) := (v.Kind, v.Lo, v.Hi, v.Text, v.Kids, v.Fields, v.Rest)
abbrev of_Api_TypeNode (x : Int × Int × Int × ByteArray × (List Int) × (List Api_Field) × (Int × Int)) : Api_TypeNode := ⟨x.1, x.2.1, x.2.2.1, x.2.2.2.1, x.2.2.2.2.1, x.2.2.2.2.2.1, x.2.2.2.2.2.2⟩
@[reducible] def rp_Api_TypeNode : Rp Api_TypeNode := rpVia to_Api_TypeNode (rpProd (rpK .i64) (rpProd (rpK .i64) (rpProd (rpK .i64) (rpProd (rpStr) (rpProd (@rpList _ (rpK .i64)) (rpProd (@rpList _ (rp_Api_Field)) (rpProd (rpK .i64) (rpK .i64))))))))
abbrev to_Api_Type (v : Api_Type) : (List Api_TypeNode) × Int := (v.Nodes, v.Root)
abbrev of_Api_Type (x : (List Api_TypeNode) × Int) : Api_Type := ⟨x.1, x.2⟩
@[reducible] def rp_Api_Type : Rp Api_Type := rpVia to_Api_Type (rpProd (@rpList _ (rp_Api_TypeNode)) (rpK .i64))
abbrev to_Api_Goal (v : Api_Goal) : (List Int) × (List Int) × Bool := (v.Pos, v.Neg, v.Lists)
abbrev of_Api_Goal (x : (List Int) × (List Int) × Bool) : Api_Goal := ⟨x.1, x.2.1, x.2.2⟩
@[reducible] def rp_Api_Goal : Rp Api_Goal := rpVia to_Api_Goal (rpProd (@rpList _ (rpK .i64)) (rpProd (@rpList _ (rpK .i64)) (rpBool)))
abbrev to_Api_EntryForm (v : Api_EntryForm) : (List Api_Goal) × Bool × Api_Goal := (v.Args, v.Fails, v.Result)
abbrev of_Api_EntryForm (x : (List Api_Goal) × Bool × Api_Goal) : Api_EntryForm := ⟨x.1, x.2.1, x.2.2⟩
@[reducible] def rp_Api_EntryForm : Rp Api_EntryForm := rpVia to_Api_EntryForm (rpProd (@rpList _ (rp_Api_Goal)) (rpProd (rpBool) (rp_Api_Goal)))
abbrev to_Semtypebase_Source (v : Semtypebase_Source) : (List Int) × Int := (v.L, v.At)
abbrev of_Semtypebase_Source (x : (List Int) × Int) : Semtypebase_Source := ⟨x.1, x.2⟩
@[reducible] def rp_Semtypebase_Source : Rp Semtypebase_Source := rpVia to_Semtypebase_Source (rpProd (@rpList _ (rpK .i64)) (rpK .i64))
abbrev to_Value_used (v : Value_used) : Bool × Bool × Bool × Bool × Bool := (v.number, v.text_, v.kids, v.keys, v.entries)
abbrev of_Value_used (x : Bool × Bool × Bool × Bool × Bool) : Value_used := ⟨x.1, x.2.1, x.2.2.1, x.2.2.2.1, x.2.2.2.2⟩
@[reducible] def rp_Value_used : Rp Value_used := rpVia to_Value_used (rpProd (rpBool) (rpProd (rpBool) (rpProd (rpBool) (rpProd (rpBool) (rpBool)))))
def tyL : List TE := [⟨2, Int, rpK .i64⟩,
  ⟨3, Int, rpK .i64⟩,
  ⟨4, Bool, rpBool⟩,
  ⟨9, ByteArray, rpStr⟩,
  ⟨22, List Int, @rpList _ (rpK .i64)⟩,
  ⟨23, List Val, @rpList _ (rpVal)⟩,
  ⟨24, List Key, @rpList _ (rpKey)⟩,
  ⟨25, List Ent, @rpList _ (rpEnt)⟩,
  ⟨26, List ByteArray, @rpList _ (rpStr)⟩,
  ⟨28, Val, rpVal⟩,
  ⟨30, Ent, rpEnt⟩,
  ⟨34, List Api_TypeNode, @rpList _ (rp_Api_TypeNode)⟩,
  ⟨36, Api_Type, rp_Api_Type⟩,
  ⟨47, Api_Goal, rp_Api_Goal⟩,
  ⟨55, List Api_Goal, @rpList _ (rp_Api_Goal)⟩,
  ⟨57, Api_EntryForm, rp_Api_EntryForm⟩,
  ⟨69, List Api_Field, @rpList _ (rp_Api_Field)⟩,
  ⟨70, Int × Int, rpProd (rpK .i64) (rpK .i64)⟩,
  ⟨72, Api_TypeNode, rp_Api_TypeNode⟩,
  ⟨76, Semtypebase_Source, rp_Semtypebase_Source⟩,
  ⟨114, Key, rpKey⟩,
  ⟨132, Api_Field, rp_Api_Field⟩,
  ⟨153, Value_used, rp_Value_used⟩]
abbrev I (E : TypeId) : Type := (lookT tyL E).α
instance rI (E : TypeId) : Rp (I E) := (lookT tyL E).rp
def fd_Val : Fd I (I 28) inferInstance := (fdIff (rg := rpVal) (fdProd (fdInt .i64 : Fd I Int (rpK .i64)) (fdProd (fdInt .i64 : Fd I Int (rpK .i64)) (fdProd (fdStr : Fd I ByteArray (rpStr)) (fdProd (fdSl 28 : Fd I (List Val) (@rpList _ (rpVal))) (fdProd (fdSl 114 : Fd I (List Key) (@rpList _ (rpKey))) (fdProd (fdSl 30 : Fd I (List Ent) (@rpList _ (rpEnt))) ((fdSl 9 : Fd I (List ByteArray) (@rpList _ (rpStr)))))))))) Val.to Val.of (fun _ => rfl) Val.cells_to : Fd I Val rpVal)
def fd_Ent : Fd I (I 30) inferInstance := (fdIff (rg := rpEnt) (fdProd (fdSl 28 : Fd I (List Val) (@rpList _ (rpVal))) (fdProd (fdBool : Fd I Bool (rpBool)) ((fdDat 28 fd_Val : Fd I Val (rpVal))))) Ent.to Ent.of (fun _ => rfl) Ent.cells_to : Fd I Ent rpEnt)
def fd_Api_Type : Fd I (I 36) inferInstance := (fdIff (rg := rp_Api_Type) (fdProd (fdSl 72 : Fd I (List Api_TypeNode) (@rpList _ (rp_Api_TypeNode))) ((fdInt .i64 : Fd I Int (rpK .i64)))) to_Api_Type of_Api_Type (fun _ => rfl) (fun _ _ _ => Iff.rfl) : Fd I Api_Type rp_Api_Type)
def fd_Api_Goal : Fd I (I 47) inferInstance := (fdIff (rg := rp_Api_Goal) (fdProd (fdSl 3 : Fd I (List Int) (@rpList _ (rpK .i64))) (fdProd (fdSl 3 : Fd I (List Int) (@rpList _ (rpK .i64))) ((fdBool : Fd I Bool (rpBool))))) to_Api_Goal of_Api_Goal (fun _ => rfl) (fun _ _ _ => Iff.rfl) : Fd I Api_Goal rp_Api_Goal)
def fd_Api_EntryForm : Fd I (I 57) inferInstance := (fdIff (rg := rp_Api_EntryForm) (fdProd (fdSl 47 : Fd I (List Api_Goal) (@rpList _ (rp_Api_Goal))) (fdProd (fdBool : Fd I Bool (rpBool)) ((fdDat 47 fd_Api_Goal : Fd I Api_Goal (rp_Api_Goal))))) to_Api_EntryForm of_Api_EntryForm (fun _ => rfl) (fun _ _ _ => Iff.rfl) : Fd I Api_EntryForm rp_Api_EntryForm)
def fd_A70 : Fd I (I 70) inferInstance := (fdProd (fdInt .i64 : Fd I Int (rpK .i64)) ((fdInt .i64 : Fd I Int (rpK .i64))) : Fd I (Int × Int) (rpProd (rpK .i64) (rpK .i64)))
def fd_Api_TypeNode : Fd I (I 72) inferInstance := (fdIff (rg := rp_Api_TypeNode) (fdProd (fdInt .i64 : Fd I Int (rpK .i64)) (fdProd (fdInt .i64 : Fd I Int (rpK .i64)) (fdProd (fdInt .i64 : Fd I Int (rpK .i64)) (fdProd (fdStr : Fd I ByteArray (rpStr)) (fdProd (fdSl 3 : Fd I (List Int) (@rpList _ (rpK .i64))) (fdProd (fdSl 132 : Fd I (List Api_Field) (@rpList _ (rp_Api_Field))) ((fdDat 70 fd_A70 : Fd I (Int × Int) (rpProd (rpK .i64) (rpK .i64)))))))))) to_Api_TypeNode of_Api_TypeNode (fun _ => rfl) (fun _ _ _ => Iff.rfl) : Fd I Api_TypeNode rp_Api_TypeNode)
def fd_Semtypebase_Source : Fd I (I 76) inferInstance := (fdIff (rg := rp_Semtypebase_Source) (fdProd (fdSl 3 : Fd I (List Int) (@rpList _ (rpK .i64))) ((fdInt .i64 : Fd I Int (rpK .i64)))) to_Semtypebase_Source of_Semtypebase_Source (fun _ => rfl) (fun _ _ _ => Iff.rfl) : Fd I Semtypebase_Source rp_Semtypebase_Source)
def fd_Key : Fd I (I 114) inferInstance := (fdIff (rg := rpKey) (fdProd (fdInt .i64 : Fd I Int (rpK .i64)) ((fdStr : Fd I ByteArray (rpStr)))) Key.to Key.of (fun _ => rfl) Key.cells_to : Fd I Key rpKey)
def fd_Api_Field : Fd I (I 132) inferInstance := (fdIff (rg := rp_Api_Field) (fdProd (fdDat 114 fd_Key : Fd I Key (rpKey)) (fdProd (fdInt .i64 : Fd I Int (rpK .i64)) ((fdBool : Fd I Bool (rpBool))))) to_Api_Field of_Api_Field (fun _ => rfl) (fun _ _ _ => Iff.rfl) : Fd I Api_Field rp_Api_Field)
def fd_Value_used : Fd I (I 153) inferInstance := (fdIff (rg := rp_Value_used) (fdProd (fdBool : Fd I Bool (rpBool)) (fdProd (fdBool : Fd I Bool (rpBool)) (fdProd (fdBool : Fd I Bool (rpBool)) (fdProd (fdBool : Fd I Bool (rpBool)) ((fdBool : Fd I Bool (rpBool))))))) to_Value_used of_Value_used (fun _ => rfl) (fun _ _ _ => Iff.rfl) : Fd I Value_used rp_Value_used)
def feL : List (FE I) := [⟨2, fdInt .i64⟩,
  ⟨3, fdInt .i64⟩,
  ⟨4, fdBool⟩,
  ⟨9, fdStr⟩,
  ⟨22, fdSl 3⟩,
  ⟨23, fdSl 28⟩,
  ⟨24, fdSl 114⟩,
  ⟨25, fdSl 30⟩,
  ⟨26, fdSl 9⟩,
  ⟨28, fd_Val⟩,
  ⟨30, fd_Ent⟩,
  ⟨34, fdSl 72⟩,
  ⟨36, fd_Api_Type⟩,
  ⟨47, fd_Api_Goal⟩,
  ⟨55, fdSl 47⟩,
  ⟨57, fd_Api_EntryForm⟩,
  ⟨69, fdSl 132⟩,
  ⟨70, fd_A70⟩,
  ⟨72, fd_Api_TypeNode⟩,
  ⟨76, fd_Semtypebase_Source⟩,
  ⟨114, fd_Key⟩,
  ⟨132, fd_Api_Field⟩,
  ⟨153, fd_Value_used⟩]
def tabL : TabL I where
  sz := [(28, 7), (30, 9), (36, 2), (47, 3), (70, 2), (72, 8), (114, 2), (132, 4), (153, 5)]
  one := [(2, ()), (3, ()), (4, ()), (9, ()), (22, ()), (23, ()), (24, ()), (25, ()), (26, ()), (34, ()), (69, ()), (101, ())]
  fld := [(28, [(0, 3), (1, 2), (2, 9), (3, 23), (4, 24), (5, 25), (6, 26)]), (30, [(0, 23), (1, 4), (2, 28)]), (36, [(0, 34), (1, 3)]), (47, [(0, 22), (1, 22), (2, 4)]), (57, [(0, 55), (1, 4), (2, 47)]), (72, [(0, 3), (1, 2), (2, 2), (3, 9), (4, 22), (5, 69), (6, 70)]), (76, [(0, 22), (1, 3)]), (114, [(0, 3), (1, 9)]), (132, [(0, 114), (2, 3), (3, 4)]), (153, [(0, 4), (1, 4), (2, 4), (3, 4), (4, 4)])]
  el := [(22, 3), (23, 28), (24, 114), (25, 30), (26, 9), (34, 72), (41, 22), (52, 57), (55, 47), (69, 132), (105, 4), (120, 2)]
  str := [(9, ())]
  bool := [(4, ())]
  ik := []
  fe := feL
  inf := [(2, 1, 8, [.int .i64 0]), (3, 1, 8, [.int .i64 0]), (4, 1, 1, [.bool false]), (9, 1, 16, [.str ⟨#[]⟩]), (22, 1, 24, [.nl 3]), (23, 1, 24, [.nl 28]), (24, 1, 24, [.nl 114]), (25, 1, 24, [.nl 30]), (26, 1, 24, [.nl 9]), (28, 7, 128, [.int .i64 0, .int .i64 0, .str ⟨#[]⟩, .nl 28, .nl 114, .nl 30, .nl 9]), (30, 9, 160, [.nl 28, .bool false, .int .i64 0, .int .i64 0, .str ⟨#[]⟩, .nl 28, .nl 114, .nl 30, .nl 9]), (34, 1, 24, [.nl 72]), (36, 2, 32, [.nl 72, .int .i64 0]), (47, 3, 56, [.nl 3, .nl 3, .bool false]), (57, 5, 88, [.nl 47, .bool false, .nl 3, .nl 3, .bool false]), (69, 1, 24, [.nl 132]), (70, 2, 16, [.int .i64 0, .int .i64 0]), (72, 8, 104, [.int .i64 0, .int .i64 0, .int .i64 0, .str ⟨#[]⟩, .nl 3, .nl 132, .int .i64 0, .int .i64 0]), (76, 2, 32, [.nl 3, .int .i64 0]), (101, 1, 8, [.any]), (114, 2, 24, [.int .i64 0, .str ⟨#[]⟩]), (132, 4, 40, [.int .i64 0, .str ⟨#[]⟩, .int .i64 0, .bool false]), (153, 5, 5, [.bool false, .bool false, .bool false, .bool false, .bool false])]
  st := [(28, [(0, 1), (1, 1), (2, 1), (3, 1), (4, 1), (5, 1), (6, 1)]), (30, [(0, 1), (1, 1), (2, 7)]), (36, [(0, 1), (1, 1)]), (47, [(0, 1), (1, 1), (2, 1)]), (57, [(0, 1), (1, 1), (2, 3)]), (70, [(0, 1), (1, 1)]), (72, [(0, 1), (1, 1), (2, 1), (3, 1), (4, 1), (5, 1), (6, 2)]), (76, [(0, 1), (1, 1)]), (114, [(0, 1), (1, 1)]), (132, [(0, 2), (2, 1), (3, 1)]), (153, [(0, 1), (1, 1), (2, 1), (3, 1), (4, 1)])]
  eq := [(70, eqOf feL 70 eqD_70), (114, eqOf feL 114 eqD_114)]
  arr := [(70, 3, 2, 1)]
  fb := [(62, ()), (63, ()), (113, ()), (114, ()), (116, ()), (126, ()), (129, ()), (140, ()), (141, ()), (143, ()), (144, ()), (146, ()), (165, ()), (170, ())]
abbrev tb : Tab I := tabOf tabL
theorem ti2 : TyInfo Go.Proofs.Tryz.prog 2 (.int .i64 0) 1 8 := tyInfo_mk (by kernel_rfl)
theorem ti3 : TyInfo Go.Proofs.Tryz.prog 3 (.int .i64 0) 1 8 := tyInfo_mk (by kernel_rfl)
theorem ti4 : TyInfo Go.Proofs.Tryz.prog 4 (.bool false) 1 1 := tyInfo_mk (by kernel_rfl)
theorem ti9 : TyInfo Go.Proofs.Tryz.prog 9 (.string ⟨#[]⟩) 1 16 := tyInfo_mk (by kernel_rfl)
theorem ti22 : TyInfo Go.Proofs.Tryz.prog 22 (.slice none 0 0) 1 24 := tyInfo_mk (by kernel_rfl)
theorem ti23 : TyInfo Go.Proofs.Tryz.prog 23 (.slice none 0 0) 1 24 := tyInfo_mk (by kernel_rfl)
theorem ti24 : TyInfo Go.Proofs.Tryz.prog 24 (.slice none 0 0) 1 24 := tyInfo_mk (by kernel_rfl)
theorem ti25 : TyInfo Go.Proofs.Tryz.prog 25 (.slice none 0 0) 1 24 := tyInfo_mk (by kernel_rfl)
theorem ti26 : TyInfo Go.Proofs.Tryz.prog 26 (.slice none 0 0) 1 24 := tyInfo_mk (by kernel_rfl)
theorem ti28 : TyInfo Go.Proofs.Tryz.prog 28 (.agg #[.int .i64 0, .int .i64 0, .string ⟨#[]⟩, .slice none 0 0, .slice none 0 0, .slice none 0 0, .slice none 0 0]) 7 128 := tyInfo_mk (by kernel_rfl)
theorem ti30 : TyInfo Go.Proofs.Tryz.prog 30 (.agg #[.slice none 0 0, .bool false, .int .i64 0, .int .i64 0, .string ⟨#[]⟩, .slice none 0 0, .slice none 0 0, .slice none 0 0, .slice none 0 0]) 9 160 := tyInfo_mk (by kernel_rfl)
theorem ti34 : TyInfo Go.Proofs.Tryz.prog 34 (.slice none 0 0) 1 24 := tyInfo_mk (by kernel_rfl)
theorem ti36 : TyInfo Go.Proofs.Tryz.prog 36 (.agg #[.slice none 0 0, .int .i64 0]) 2 32 := tyInfo_mk (by kernel_rfl)
theorem ti47 : TyInfo Go.Proofs.Tryz.prog 47 (.agg #[.slice none 0 0, .slice none 0 0, .bool false]) 3 56 := tyInfo_mk (by kernel_rfl)
theorem ti57 : TyInfo Go.Proofs.Tryz.prog 57 (.agg #[.slice none 0 0, .bool false, .slice none 0 0, .slice none 0 0, .bool false]) 5 88 := tyInfo_mk (by kernel_rfl)
theorem ti69 : TyInfo Go.Proofs.Tryz.prog 69 (.slice none 0 0) 1 24 := tyInfo_mk (by kernel_rfl)
theorem ti70 : TyInfo Go.Proofs.Tryz.prog 70 (.agg #[.int .i64 0, .int .i64 0]) 2 16 := tyInfo_mk (by kernel_rfl)
theorem ti72 : TyInfo Go.Proofs.Tryz.prog 72 (.agg #[.int .i64 0, .int .i64 0, .int .i64 0, .string ⟨#[]⟩, .slice none 0 0, .slice none 0 0, .int .i64 0, .int .i64 0]) 8 104 := tyInfo_mk (by kernel_rfl)
theorem ti76 : TyInfo Go.Proofs.Tryz.prog 76 (.agg #[.slice none 0 0, .int .i64 0]) 2 32 := tyInfo_mk (by kernel_rfl)
theorem ti101 : TyInfo Go.Proofs.Tryz.prog 101 (.nilFunc) 1 8 := tyInfo_mk (by kernel_rfl)
theorem ti114 : TyInfo Go.Proofs.Tryz.prog 114 (.agg #[.int .i64 0, .string ⟨#[]⟩]) 2 24 := tyInfo_mk (by kernel_rfl)
theorem ti132 : TyInfo Go.Proofs.Tryz.prog 132 (.agg #[.int .i64 0, .string ⟨#[]⟩, .int .i64 0, .bool false]) 4 40 := tyInfo_mk (by kernel_rfl)
theorem ti153 : TyInfo Go.Proofs.Tryz.prog 153 (.agg #[.bool false, .bool false, .bool false, .bool false, .bool false]) 5 5 := tyInfo_mk (by kernel_rfl)
theorem to2 : TyOne Go.Proofs.Tryz.prog 2 := ⟨_, Go.Proofs.Tryz.underlying2, rfl, by kernel_rfl⟩
theorem to3 : TyOne Go.Proofs.Tryz.prog 3 := ⟨_, Go.Proofs.Tryz.underlying3, rfl, by kernel_rfl⟩
theorem to4 : TyOne Go.Proofs.Tryz.prog 4 := ⟨_, Go.Proofs.Tryz.underlying4, rfl, by kernel_rfl⟩
theorem to9 : TyOne Go.Proofs.Tryz.prog 9 := ⟨_, Go.Proofs.Tryz.underlying9, rfl, by kernel_rfl⟩
theorem to22 : TyOne Go.Proofs.Tryz.prog 22 := ⟨_, Go.Proofs.Tryz.underlying22, rfl, by kernel_rfl⟩
theorem to23 : TyOne Go.Proofs.Tryz.prog 23 := ⟨_, Go.Proofs.Tryz.underlying23, rfl, by kernel_rfl⟩
theorem to24 : TyOne Go.Proofs.Tryz.prog 24 := ⟨_, Go.Proofs.Tryz.underlying24, rfl, by kernel_rfl⟩
theorem to25 : TyOne Go.Proofs.Tryz.prog 25 := ⟨_, Go.Proofs.Tryz.underlying25, rfl, by kernel_rfl⟩
theorem to26 : TyOne Go.Proofs.Tryz.prog 26 := ⟨_, Go.Proofs.Tryz.underlying26, rfl, by kernel_rfl⟩
theorem to34 : TyOne Go.Proofs.Tryz.prog 34 := ⟨_, Go.Proofs.Tryz.underlying34, rfl, by kernel_rfl⟩
theorem to69 : TyOne Go.Proofs.Tryz.prog 69 := ⟨_, Go.Proofs.Tryz.underlying69, rfl, by kernel_rfl⟩
theorem to101 : TyOne Go.Proofs.Tryz.prog 101 := ⟨_, Go.Proofs.Tryz.underlying101, rfl, by kernel_rfl⟩
theorem eq70 {σ : S} {x y : Int × Int} {cs ds : List Value} (h : (rI 70).cells σ x cs) (k : (rI 70).cells σ y ds) : Sx.EqAt Go.Proofs.Tryz.prog 2 70 (.agg cs.toArray) (.agg ds.toArray) (eqD_70 x y) := by
  obtain ⟨_, _, rfl, rfl, rfl⟩ := h
  obtain ⟨_, _, rfl, rfl, rfl⟩ := k
  exact eqAt_arr Go.Proofs.Tryz.underlying70 ti3 (eqIt_cons (part_one to3 rfl) (part_one to3 rfl) (eqAt_int Go.Proofs.Tryz.underlying3) (eqIt_cons (part_one to3 rfl) (part_one to3 rfl) (eqAt_int Go.Proofs.Tryz.underlying3) eqIt_nil))
theorem eq114 {σ : S} {x y : Key} {cs ds : List Value} (h : (rI 114).cells σ x cs) (k : (rI 114).cells σ y ds) : Sx.EqAt Go.Proofs.Tryz.prog 2 114 (.agg cs.toArray) (.agg ds.toArray) (eqD_114 x y) := by
  obtain ⟨_, _, rfl, rfl, rfl⟩ := h
  obtain ⟨_, _, rfl, rfl, rfl⟩ := k
  exact eqAt_struct Go.Proofs.Tryz.underlying114 (by kernel_rfl) (eqFs_cons (by decide) (part_one to3 rfl) (part_one to3 rfl) (eqAt_int Go.Proofs.Tryz.underlying3) (eqFs_cons (by decide) (part_one to9 rfl) (part_one to9 rfl) (eqAt_str Go.Proofs.Tryz.underlying9) eqFs_nil))
theorem eqT (T : TypeId) (g : I T → I T → Bool) {K : Nat} (h : ∀ {σ : S} {x y : I T} {cs ds : List Value}, Rp.cells σ x cs → Rp.cells σ y ds → Sx.EqAt Go.Proofs.Tryz.prog K T (.agg cs.toArray) (.agg ds.toArray) (g x y)) (hg : Go.Proofs.Tryz.prog.eqGuardType (Go.Proofs.Tryz.prog).depth T = false) (hK : Nat.ble K 10000 = true)
    {X : Cxt} {c : Cx} {σ : S} {ls ms : List (PV I)} {r : Bool} {cs ds : List Value} (h1 : eqOf feL T g ls ms = some r) (h2 : RG X c σ ls cs) (h3 : RG X c σ ms ds) :
    Go.Proofs.Tryz.prog.eqGuardType (Go.Proofs.Tryz.prog).depth T = false ∧ ∃ j, Nat.ble j 10000 = true ∧ Sx.EqAt Go.Proofs.Tryz.prog j T (.agg cs.toArray) (.agg ds.toArray) r := by
  obtain ⟨x, y, k1, k2, rfl⟩ := eqOf_ok h1 h2 h3
  exact ⟨hg, K, hK, h k1 k2⟩
theorem tabLOk : TabLOk Go.Proofs.Tryz.prog tabL where
  sz := ⟨⟨_, Go.Proofs.Tryz.underlying28, rfl, by kernel_rfl⟩, ⟨⟨_, Go.Proofs.Tryz.underlying30, rfl, by kernel_rfl⟩, ⟨⟨_, Go.Proofs.Tryz.underlying36, rfl, by kernel_rfl⟩, ⟨⟨_, Go.Proofs.Tryz.underlying47, rfl, by kernel_rfl⟩, ⟨⟨_, Go.Proofs.Tryz.underlying70, rfl, by kernel_rfl⟩, ⟨⟨_, Go.Proofs.Tryz.underlying72, rfl, by kernel_rfl⟩, ⟨⟨_, Go.Proofs.Tryz.underlying114, rfl, by kernel_rfl⟩, ⟨⟨_, Go.Proofs.Tryz.underlying132, rfl, by kernel_rfl⟩, ⟨⟨_, Go.Proofs.Tryz.underlying153, rfl, by kernel_rfl⟩, trivial⟩⟩⟩⟩⟩⟩⟩⟩⟩
  one := ⟨to2, ⟨to3, ⟨to4, ⟨to9, ⟨to22, ⟨to23, ⟨to24, ⟨to25, ⟨to26, ⟨to34, ⟨to69, ⟨to101, trivial⟩⟩⟩⟩⟩⟩⟩⟩⟩⟩⟩⟩
  fld := ⟨⟨⟨_, _, Go.Proofs.Tryz.underlying28, rfl, rfl, by kernel_rfl⟩, ⟨⟨_, _, Go.Proofs.Tryz.underlying28, rfl, rfl⟩, ⟨⟨_, _, Go.Proofs.Tryz.underlying28, rfl, rfl, by kernel_rfl⟩, ⟨⟨_, _, Go.Proofs.Tryz.underlying28, rfl, rfl⟩, ⟨⟨_, _, Go.Proofs.Tryz.underlying28, rfl, rfl, by kernel_rfl⟩, ⟨⟨_, _, Go.Proofs.Tryz.underlying28, rfl, rfl⟩, ⟨⟨_, _, Go.Proofs.Tryz.underlying28, rfl, rfl, by kernel_rfl⟩, ⟨⟨_, _, Go.Proofs.Tryz.underlying28, rfl, rfl⟩, ⟨⟨_, _, Go.Proofs.Tryz.underlying28, rfl, rfl, by kernel_rfl⟩, ⟨⟨_, _, Go.Proofs.Tryz.underlying28, rfl, rfl⟩, ⟨⟨_, _, Go.Proofs.Tryz.underlying28, rfl, rfl, by kernel_rfl⟩, ⟨⟨_, _, Go.Proofs.Tryz.underlying28, rfl, rfl⟩, ⟨⟨_, _, Go.Proofs.Tryz.underlying28, rfl, rfl, by kernel_rfl⟩, ⟨⟨_, _, Go.Proofs.Tryz.underlying28, rfl, rfl⟩, trivial⟩⟩⟩⟩⟩⟩⟩⟩⟩⟩⟩⟩⟩⟩, ⟨⟨⟨_, _, Go.Proofs.Tryz.underlying30, rfl, rfl, by kernel_rfl⟩, ⟨⟨_, _, Go.Proofs.Tryz.underlying30, rfl, rfl⟩, ⟨⟨_, _, Go.Proofs.Tryz.underlying30, rfl, rfl, by kernel_rfl⟩, ⟨⟨_, _, Go.Proofs.Tryz.underlying30, rfl, rfl⟩, ⟨⟨_, _, Go.Proofs.Tryz.underlying30, rfl, rfl, by kernel_rfl⟩, ⟨⟨_, _, Go.Proofs.Tryz.underlying30, rfl, rfl⟩, trivial⟩⟩⟩⟩⟩⟩, ⟨⟨⟨_, _, Go.Proofs.Tryz.underlying36, rfl, rfl, by kernel_rfl⟩, ⟨⟨_, _, Go.Proofs.Tryz.underlying36, rfl, rfl⟩, ⟨⟨_, _, Go.Proofs.Tryz.underlying36, rfl, rfl, by kernel_rfl⟩, ⟨⟨_, _, Go.Proofs.Tryz.underlying36, rfl, rfl⟩, trivial⟩⟩⟩⟩, ⟨⟨⟨_, _, Go.Proofs.Tryz.underlying47, rfl, rfl, by kernel_rfl⟩, ⟨⟨_, _, Go.Proofs.Tryz.underlying47, rfl, rfl⟩, ⟨⟨_, _, Go.Proofs.Tryz.underlying47, rfl, rfl, by kernel_rfl⟩, ⟨⟨_, _, Go.Proofs.Tryz.underlying47, rfl, rfl⟩, ⟨⟨_, _, Go.Proofs.Tryz.underlying47, rfl, rfl, by kernel_rfl⟩, ⟨⟨_, _, Go.Proofs.Tryz.underlying47, rfl, rfl⟩, trivial⟩⟩⟩⟩⟩⟩, ⟨⟨⟨_, _, Go.Proofs.Tryz.underlying57, rfl, rfl, by kernel_rfl⟩, ⟨⟨_, _, Go.Proofs.Tryz.underlying57, rfl, rfl⟩, ⟨⟨_, _, Go.Proofs.Tryz.underlying57, rfl, rfl, by kernel_rfl⟩, ⟨⟨_, _, Go.Proofs.Tryz.underlying57, rfl, rfl⟩, ⟨⟨_, _, Go.Proofs.Tryz.underlying57, rfl, rfl, by kernel_rfl⟩, ⟨⟨_, _, Go.Proofs.Tryz.underlying57, rfl, rfl⟩, trivial⟩⟩⟩⟩⟩⟩, ⟨⟨⟨_, _, Go.Proofs.Tryz.underlying72, rfl, rfl, by kernel_rfl⟩, ⟨⟨_, _, Go.Proofs.Tryz.underlying72, rfl, rfl⟩, ⟨⟨_, _, Go.Proofs.Tryz.underlying72, rfl, rfl, by kernel_rfl⟩, ⟨⟨_, _, Go.Proofs.Tryz.underlying72, rfl, rfl⟩, ⟨⟨_, _, Go.Proofs.Tryz.underlying72, rfl, rfl, by kernel_rfl⟩, ⟨⟨_, _, Go.Proofs.Tryz.underlying72, rfl, rfl⟩, ⟨⟨_, _, Go.Proofs.Tryz.underlying72, rfl, rfl, by kernel_rfl⟩, ⟨⟨_, _, Go.Proofs.Tryz.underlying72, rfl, rfl⟩, ⟨⟨_, _, Go.Proofs.Tryz.underlying72, rfl, rfl, by kernel_rfl⟩, ⟨⟨_, _, Go.Proofs.Tryz.underlying72, rfl, rfl⟩, ⟨⟨_, _, Go.Proofs.Tryz.underlying72, rfl, rfl, by kernel_rfl⟩, ⟨⟨_, _, Go.Proofs.Tryz.underlying72, rfl, rfl⟩, ⟨⟨_, _, Go.Proofs.Tryz.underlying72, rfl, rfl, by kernel_rfl⟩, ⟨⟨_, _, Go.Proofs.Tryz.underlying72, rfl, rfl⟩, trivial⟩⟩⟩⟩⟩⟩⟩⟩⟩⟩⟩⟩⟩⟩, ⟨⟨⟨_, _, Go.Proofs.Tryz.underlying76, rfl, rfl, by kernel_rfl⟩, ⟨⟨_, _, Go.Proofs.Tryz.underlying76, rfl, rfl⟩, ⟨⟨_, _, Go.Proofs.Tryz.underlying76, rfl, rfl, by kernel_rfl⟩, ⟨⟨_, _, Go.Proofs.Tryz.underlying76, rfl, rfl⟩, trivial⟩⟩⟩⟩, ⟨⟨⟨_, _, Go.Proofs.Tryz.underlying114, rfl, rfl, by kernel_rfl⟩, ⟨⟨_, _, Go.Proofs.Tryz.underlying114, rfl, rfl⟩, ⟨⟨_, _, Go.Proofs.Tryz.underlying114, rfl, rfl, by kernel_rfl⟩, ⟨⟨_, _, Go.Proofs.Tryz.underlying114, rfl, rfl⟩, trivial⟩⟩⟩⟩, ⟨⟨⟨_, _, Go.Proofs.Tryz.underlying132, rfl, rfl, by kernel_rfl⟩, ⟨⟨_, _, Go.Proofs.Tryz.underlying132, rfl, rfl⟩, ⟨⟨_, _, Go.Proofs.Tryz.underlying132, rfl, rfl, by kernel_rfl⟩, ⟨⟨_, _, Go.Proofs.Tryz.underlying132, rfl, rfl⟩, ⟨⟨_, _, Go.Proofs.Tryz.underlying132, rfl, rfl, by kernel_rfl⟩, ⟨⟨_, _, Go.Proofs.Tryz.underlying132, rfl, rfl⟩, trivial⟩⟩⟩⟩⟩⟩, ⟨⟨⟨_, _, Go.Proofs.Tryz.underlying153, rfl, rfl, by kernel_rfl⟩, ⟨⟨_, _, Go.Proofs.Tryz.underlying153, rfl, rfl⟩, ⟨⟨_, _, Go.Proofs.Tryz.underlying153, rfl, rfl, by kernel_rfl⟩, ⟨⟨_, _, Go.Proofs.Tryz.underlying153, rfl, rfl⟩, ⟨⟨_, _, Go.Proofs.Tryz.underlying153, rfl, rfl, by kernel_rfl⟩, ⟨⟨_, _, Go.Proofs.Tryz.underlying153, rfl, rfl⟩, ⟨⟨_, _, Go.Proofs.Tryz.underlying153, rfl, rfl, by kernel_rfl⟩, ⟨⟨_, _, Go.Proofs.Tryz.underlying153, rfl, rfl⟩, ⟨⟨_, _, Go.Proofs.Tryz.underlying153, rfl, rfl, by kernel_rfl⟩, ⟨⟨_, _, Go.Proofs.Tryz.underlying153, rfl, rfl⟩, trivial⟩⟩⟩⟩⟩⟩⟩⟩⟩⟩, trivial⟩⟩⟩⟩⟩⟩⟩⟩⟩⟩
  el := ⟨⟨Go.Proofs.Tryz.underlying22, _, _, ti3, rfl, by decide⟩, ⟨⟨Go.Proofs.Tryz.underlying23, _, _, ti28, rfl, by decide⟩, ⟨⟨Go.Proofs.Tryz.underlying24, _, _, ti114, rfl, by decide⟩, ⟨⟨Go.Proofs.Tryz.underlying25, _, _, ti30, rfl, by decide⟩, ⟨⟨Go.Proofs.Tryz.underlying26, _, _, ti9, rfl, by decide⟩, ⟨⟨Go.Proofs.Tryz.underlying34, _, _, ti72, rfl, by decide⟩, ⟨⟨Go.Proofs.Tryz.underlying41, _, _, ti22, rfl, by decide⟩, ⟨⟨Go.Proofs.Tryz.underlying52, _, _, ti57, rfl, by decide⟩, ⟨⟨Go.Proofs.Tryz.underlying55, _, _, ti47, rfl, by decide⟩, ⟨⟨Go.Proofs.Tryz.underlying69, _, _, ti132, rfl, by decide⟩, ⟨⟨Go.Proofs.Tryz.underlying105, _, _, ti4, rfl, by decide⟩, ⟨⟨Go.Proofs.Tryz.underlying120, _, _, ti2, rfl, by decide⟩, trivial⟩⟩⟩⟩⟩⟩⟩⟩⟩⟩⟩⟩
  str := ⟨Go.Proofs.Tryz.underlying9, trivial⟩
  bool := ⟨Go.Proofs.Tryz.underlying4, trivial⟩
  ik := trivial
  inf := ⟨⟨_, ti2, fun X c σ => RG.cns rfl rvInt (RG.nl)⟩, ⟨⟨_, ti3, fun X c σ => RG.cns rfl rvInt (RG.nl)⟩, ⟨⟨_, ti4, fun X c σ => RG.cns rfl rvBool (RG.nl)⟩, ⟨⟨_, ti9, fun X c σ => RG.cns rfl rvStr (RG.nl)⟩, ⟨⟨_, ti22, fun X c σ => RG.cns rfl rvNl (RG.nl)⟩, ⟨⟨_, ti23, fun X c σ => RG.cns rfl rvNl (RG.nl)⟩, ⟨⟨_, ti24, fun X c σ => RG.cns rfl rvNl (RG.nl)⟩, ⟨⟨_, ti25, fun X c σ => RG.cns rfl rvNl (RG.nl)⟩, ⟨⟨_, ti26, fun X c σ => RG.cns rfl rvNl (RG.nl)⟩, ⟨⟨_, ti28, fun X c σ => RG.cns rfl rvInt (RG.cns rfl rvInt (RG.cns rfl rvStr (RG.cns rfl rvNl (RG.cns rfl rvNl (RG.cns rfl rvNl (RG.cns rfl rvNl (RG.nl)))))))⟩, ⟨⟨_, ti30, fun X c σ => RG.cns rfl rvNl (RG.cns rfl rvBool (RG.cns rfl rvInt (RG.cns rfl rvInt (RG.cns rfl rvStr (RG.cns rfl rvNl (RG.cns rfl rvNl (RG.cns rfl rvNl (RG.cns rfl rvNl (RG.nl)))))))))⟩, ⟨⟨_, ti34, fun X c σ => RG.cns rfl rvNl (RG.nl)⟩, ⟨⟨_, ti36, fun X c σ => RG.cns rfl rvNl (RG.cns rfl rvInt (RG.nl))⟩, ⟨⟨_, ti47, fun X c σ => RG.cns rfl rvNl (RG.cns rfl rvNl (RG.cns rfl rvBool (RG.nl)))⟩, ⟨⟨_, ti57, fun X c σ => RG.cns rfl rvNl (RG.cns rfl rvBool (RG.cns rfl rvNl (RG.cns rfl rvNl (RG.cns rfl rvBool (RG.nl)))))⟩, ⟨⟨_, ti69, fun X c σ => RG.cns rfl rvNl (RG.nl)⟩, ⟨⟨_, ti70, fun X c σ => RG.cns rfl rvInt (RG.cns rfl rvInt (RG.nl))⟩, ⟨⟨_, ti72, fun X c σ => RG.cns rfl rvInt (RG.cns rfl rvInt (RG.cns rfl rvInt (RG.cns rfl rvStr (RG.cns rfl rvNl (RG.cns rfl rvNl (RG.cns rfl rvInt (RG.cns rfl rvInt (RG.nl))))))))⟩, ⟨⟨_, ti76, fun X c σ => RG.cns rfl rvNl (RG.cns rfl rvInt (RG.nl))⟩, ⟨⟨_, ti101, fun X c σ => RG.cns rfl rvAny (RG.nl)⟩, ⟨⟨_, ti114, fun X c σ => RG.cns rfl rvInt (RG.cns rfl rvStr (RG.nl))⟩, ⟨⟨_, ti132, fun X c σ => RG.cns rfl rvInt (RG.cns rfl rvStr (RG.cns rfl rvInt (RG.cns rfl rvBool (RG.nl))))⟩, ⟨⟨_, ti153, fun X c σ => RG.cns rfl rvBool (RG.cns rfl rvBool (RG.cns rfl rvBool (RG.cns rfl rvBool (RG.cns rfl rvBool (RG.nl)))))⟩, trivial⟩⟩⟩⟩⟩⟩⟩⟩⟩⟩⟩⟩⟩⟩⟩⟩⟩⟩⟩⟩⟩⟩⟩
  st := ⟨.inl ⟨_, Go.Proofs.Tryz.underlying28, by kernel_rfl⟩, ⟨.inl ⟨_, Go.Proofs.Tryz.underlying30, by kernel_rfl⟩, ⟨.inl ⟨_, Go.Proofs.Tryz.underlying36, by kernel_rfl⟩, ⟨.inl ⟨_, Go.Proofs.Tryz.underlying47, by kernel_rfl⟩, ⟨.inl ⟨_, Go.Proofs.Tryz.underlying57, by kernel_rfl⟩, ⟨.inr (st_arr Go.Proofs.Tryz.underlying70 ti3 rfl), ⟨.inl ⟨_, Go.Proofs.Tryz.underlying72, by kernel_rfl⟩, ⟨.inl ⟨_, Go.Proofs.Tryz.underlying76, by kernel_rfl⟩, ⟨.inl ⟨_, Go.Proofs.Tryz.underlying114, by kernel_rfl⟩, ⟨.inl ⟨_, Go.Proofs.Tryz.underlying132, by kernel_rfl⟩, ⟨.inl ⟨_, Go.Proofs.Tryz.underlying153, by kernel_rfl⟩, trivial⟩⟩⟩⟩⟩⟩⟩⟩⟩⟩⟩
  eq := ⟨fun X c σ ls ms r cs ds h1 h2 h3 => eqT 70 eqD_70 (fun h k => eq70 h k) (by kernel_rfl) (by decide) h1 h2 h3, ⟨fun X c σ ls ms r cs ds h1 h2 h3 => eqT 114 eqD_114 (fun h k => eq114 h k) (by kernel_rfl) (by decide) h1 h2 h3, trivial⟩⟩
  arr := ⟨⟨Go.Proofs.Tryz.underlying70, by kernel_rfl⟩, trivial⟩
  fb := ⟨⟨_, _, Go.Proofs.Tryz.func62, rfl, by kernel_rfl⟩, ⟨⟨_, _, Go.Proofs.Tryz.func63, rfl, by kernel_rfl⟩, ⟨⟨_, _, Go.Proofs.Tryz.func113, rfl, by kernel_rfl⟩, ⟨⟨_, _, Go.Proofs.Tryz.func114, rfl, by kernel_rfl⟩, ⟨⟨_, _, Go.Proofs.Tryz.func116, rfl, by kernel_rfl⟩, ⟨⟨_, _, Go.Proofs.Tryz.func126, rfl, by kernel_rfl⟩, ⟨⟨_, _, Go.Proofs.Tryz.func129, rfl, by kernel_rfl⟩, ⟨⟨_, _, Go.Proofs.Tryz.func140, rfl, by kernel_rfl⟩, ⟨⟨_, _, Go.Proofs.Tryz.func141, rfl, by kernel_rfl⟩, ⟨⟨_, _, Go.Proofs.Tryz.func143, rfl, by kernel_rfl⟩, ⟨⟨_, _, Go.Proofs.Tryz.func144, rfl, by kernel_rfl⟩, ⟨⟨_, _, Go.Proofs.Tryz.func146, rfl, by kernel_rfl⟩, ⟨⟨_, _, Go.Proofs.Tryz.func165, rfl, by kernel_rfl⟩, ⟨⟨_, _, Go.Proofs.Tryz.func170, rfl, by kernel_rfl⟩, trivial⟩⟩⟩⟩⟩⟩⟩⟩⟩⟩⟩⟩⟩⟩
theorem tabOk : TabOk Go.Proofs.Tryz.prog tb := tabOf_ok tabLOk
theorem mixed : (Go.Proofs.Tryz.prog).follows .mixedOrders = true := by kernel_rfl

end Go.Qx
