/- Printed by ex.py. Facts on the types of the program. -/
import Derived.Test.YtamfhohifmbjnaaGreatPu
import Derived.Test.YtamfhohifmbjnaaGreatLay
import Derived.KernelRfl
namespace Go.Qx
open Go Go.RowKit Go.Sx
set_option maxRecDepth 100000

abbrev to_Semtypebase_Source (v : Semtypebase_Source) : (List Int) × Int := (v.L, v.At)
abbrev of_Semtypebase_Source (x : (List Int) × Int) : Semtypebase_Source := ⟨x.1, x.2⟩
@[reducible] def rp_Semtypebase_Source : Rp Semtypebase_Source := rpVia to_Semtypebase_Source (rpProd (@rpList _ (rpK .i64)) (rpK .i64))
abbrev to_Value_used (v : Value_used) : Bool × Bool × Bool × Bool × Bool := (v.number, v.text_, v.kids, v.keys, v.entries)
abbrev of_Value_used (x : Bool × Bool × Bool × Bool × Bool) : Value_used := ⟨x.1, x.2.1, x.2.2.1, x.2.2.2.1, x.2.2.2.2⟩
@[reducible] def rp_Value_used : Rp Value_used := rpVia to_Value_used (rpProd (rpBool) (rpProd (rpBool) (rpProd (rpBool) (rpProd (rpBool) (rpBool)))))
def tyL : List TE := [⟨2, Int, rpK .i64⟩,
  ⟨3, Int, rpK .i64⟩,
  ⟨4, Bool, rpBool⟩,
  ⟨9, ByteArray, rpStr⟩,
  ⟨22, List Key, @rpList _ (rpKey)⟩,
  ⟨25, List Val, @rpList _ (rpVal)⟩,
  ⟨26, List Int, @rpList _ (rpK .i64)⟩,
  ⟨27, List Ent, @rpList _ (rpEnt)⟩,
  ⟨28, List ByteArray, @rpList _ (rpStr)⟩,
  ⟨30, Val, rpVal⟩,
  ⟨40, Semtypebase_Source, rp_Semtypebase_Source⟩,
  ⟨43, Ent, rpEnt⟩,
  ⟨58, Key, rpKey⟩,
  ⟨108, Value_used, rp_Value_used⟩]
abbrev I (E : TypeId) : Type := (lookT tyL E).α
instance rI (E : TypeId) : Rp (I E) := (lookT tyL E).rp
def fd_Val : Fd I (I 30) inferInstance := (fdIff (rg := rpVal) (fdProd (fdInt .i64 : Fd I Int (rpK .i64)) (fdProd (fdInt .i64 : Fd I Int (rpK .i64)) (fdProd (fdStr : Fd I ByteArray (rpStr)) (fdProd (fdSl 30 : Fd I (List Val) (@rpList _ (rpVal))) (fdProd (fdSl 58 : Fd I (List Key) (@rpList _ (rpKey))) (fdProd (fdSl 43 : Fd I (List Ent) (@rpList _ (rpEnt))) ((fdSl 9 : Fd I (List ByteArray) (@rpList _ (rpStr)))))))))) Val.to Val.of (fun _ => rfl) Val.cells_to : Fd I Val rpVal)
def fd_Semtypebase_Source : Fd I (I 40) inferInstance := (fdIff (rg := rp_Semtypebase_Source) (fdProd (fdSl 3 : Fd I (List Int) (@rpList _ (rpK .i64))) ((fdInt .i64 : Fd I Int (rpK .i64)))) to_Semtypebase_Source of_Semtypebase_Source (fun _ => rfl) (fun _ _ _ => Iff.rfl) : Fd I Semtypebase_Source rp_Semtypebase_Source)
def fd_Ent : Fd I (I 43) inferInstance := (fdIff (rg := rpEnt) (fdProd (fdSl 30 : Fd I (List Val) (@rpList _ (rpVal))) (fdProd (fdBool : Fd I Bool (rpBool)) ((fdDat 30 fd_Val : Fd I Val (rpVal))))) Ent.to Ent.of (fun _ => rfl) Ent.cells_to : Fd I Ent rpEnt)
def fd_Key : Fd I (I 58) inferInstance := (fdIff (rg := rpKey) (fdProd (fdInt .i64 : Fd I Int (rpK .i64)) ((fdStr : Fd I ByteArray (rpStr)))) Key.to Key.of (fun _ => rfl) Key.cells_to : Fd I Key rpKey)
def fd_Value_used : Fd I (I 108) inferInstance := (fdIff (rg := rp_Value_used) (fdProd (fdBool : Fd I Bool (rpBool)) (fdProd (fdBool : Fd I Bool (rpBool)) (fdProd (fdBool : Fd I Bool (rpBool)) (fdProd (fdBool : Fd I Bool (rpBool)) ((fdBool : Fd I Bool (rpBool))))))) to_Value_used of_Value_used (fun _ => rfl) (fun _ _ _ => Iff.rfl) : Fd I Value_used rp_Value_used)
def feL : List (FE I) := [⟨2, fdInt .i64⟩,
  ⟨3, fdInt .i64⟩,
  ⟨4, fdBool⟩,
  ⟨9, fdStr⟩,
  ⟨22, fdSl 58⟩,
  ⟨25, fdSl 30⟩,
  ⟨26, fdSl 3⟩,
  ⟨27, fdSl 43⟩,
  ⟨28, fdSl 9⟩,
  ⟨30, fd_Val⟩,
  ⟨40, fd_Semtypebase_Source⟩,
  ⟨43, fd_Ent⟩,
  ⟨58, fd_Key⟩,
  ⟨108, fd_Value_used⟩]
def tabL : TabL I where
  sz := [(30, 7), (43, 9), (58, 2), (108, 5)]
  one := [(2, ()), (3, ()), (4, ()), (9, ()), (22, ()), (25, ()), (26, ()), (27, ()), (28, ())]
  fld := [(30, [(0, 3), (1, 2), (2, 9), (3, 25), (4, 22), (5, 27), (6, 28)]), (40, [(0, 26), (1, 3)]), (43, [(0, 25), (1, 4), (2, 30)]), (58, [(0, 3), (1, 9)]), (108, [(0, 4), (1, 4), (2, 4), (3, 4), (4, 4)])]
  el := [(22, 58), (23, 26), (25, 30), (26, 3), (27, 43), (28, 9), (132, 2)]
  str := [(9, ())]
  bool := [(4, ())]
  ik := []
  fe := feL
  inf := [(2, 1, 8, [.int .i64 0]), (3, 1, 8, [.int .i64 0]), (4, 1, 1, [.bool false]), (9, 1, 16, [.str ⟨#[]⟩]), (22, 1, 24, [.nl 58]), (25, 1, 24, [.nl 30]), (26, 1, 24, [.nl 3]), (27, 1, 24, [.nl 43]), (28, 1, 24, [.nl 9]), (30, 7, 128, [.int .i64 0, .int .i64 0, .str ⟨#[]⟩, .nl 30, .nl 58, .nl 43, .nl 9]), (40, 2, 32, [.nl 3, .int .i64 0]), (43, 9, 160, [.nl 30, .bool false, .int .i64 0, .int .i64 0, .str ⟨#[]⟩, .nl 30, .nl 58, .nl 43, .nl 9]), (58, 2, 24, [.int .i64 0, .str ⟨#[]⟩]), (108, 5, 5, [.bool false, .bool false, .bool false, .bool false, .bool false])]
  st := [(30, [(0, 1), (1, 1), (2, 1), (3, 1), (4, 1), (5, 1), (6, 1)]), (40, [(0, 1), (1, 1)]), (43, [(0, 1), (1, 1), (2, 7)]), (58, [(0, 1), (1, 1)]), (108, [(0, 1), (1, 1), (2, 1), (3, 1), (4, 1)])]
  eq := [(58, eqOf feL 58 eqD_58)]
  arr := []
  fb := [(29, ()), (30, ()), (52, ()), (57, ()), (77, ()), (80, ()), (89, ()), (90, ()), (150, ()), (151, ())]
abbrev tb : Tab I := tabOf tabL
theorem ti2 : TyInfo Go.Proofs.Tryz.prog 2 (.int .i64 0) 1 8 := tyInfo_mk (by kernel_rfl)
theorem ti3 : TyInfo Go.Proofs.Tryz.prog 3 (.int .i64 0) 1 8 := tyInfo_mk (by kernel_rfl)
theorem ti4 : TyInfo Go.Proofs.Tryz.prog 4 (.bool false) 1 1 := tyInfo_mk (by kernel_rfl)
theorem ti9 : TyInfo Go.Proofs.Tryz.prog 9 (.string ⟨#[]⟩) 1 16 := tyInfo_mk (by kernel_rfl)
theorem ti22 : TyInfo Go.Proofs.Tryz.prog 22 (.slice none 0 0) 1 24 := tyInfo_mk (by kernel_rfl)
theorem ti25 : TyInfo Go.Proofs.Tryz.prog 25 (.slice none 0 0) 1 24 := tyInfo_mk (by kernel_rfl)
theorem ti26 : TyInfo Go.Proofs.Tryz.prog 26 (.slice none 0 0) 1 24 := tyInfo_mk (by kernel_rfl)
theorem ti27 : TyInfo Go.Proofs.Tryz.prog 27 (.slice none 0 0) 1 24 := tyInfo_mk (by kernel_rfl)
theorem ti28 : TyInfo Go.Proofs.Tryz.prog 28 (.slice none 0 0) 1 24 := tyInfo_mk (by kernel_rfl)
theorem ti30 : TyInfo Go.Proofs.Tryz.prog 30 (.agg #[.int .i64 0, .int .i64 0, .string ⟨#[]⟩, .slice none 0 0, .slice none 0 0, .slice none 0 0, .slice none 0 0]) 7 128 := tyInfo_mk (by kernel_rfl)
theorem ti40 : TyInfo Go.Proofs.Tryz.prog 40 (.agg #[.slice none 0 0, .int .i64 0]) 2 32 := tyInfo_mk (by kernel_rfl)
theorem ti43 : TyInfo Go.Proofs.Tryz.prog 43 (.agg #[.slice none 0 0, .bool false, .int .i64 0, .int .i64 0, .string ⟨#[]⟩, .slice none 0 0, .slice none 0 0, .slice none 0 0, .slice none 0 0]) 9 160 := tyInfo_mk (by kernel_rfl)
theorem ti58 : TyInfo Go.Proofs.Tryz.prog 58 (.agg #[.int .i64 0, .string ⟨#[]⟩]) 2 24 := tyInfo_mk (by kernel_rfl)
theorem ti108 : TyInfo Go.Proofs.Tryz.prog 108 (.agg #[.bool false, .bool false, .bool false, .bool false, .bool false]) 5 5 := tyInfo_mk (by kernel_rfl)
theorem to2 : TyOne Go.Proofs.Tryz.prog 2 := ⟨_, Go.Proofs.Tryz.underlying2, rfl, by kernel_rfl⟩
theorem to3 : TyOne Go.Proofs.Tryz.prog 3 := ⟨_, Go.Proofs.Tryz.underlying3, rfl, by kernel_rfl⟩
theorem to4 : TyOne Go.Proofs.Tryz.prog 4 := ⟨_, Go.Proofs.Tryz.underlying4, rfl, by kernel_rfl⟩
theorem to9 : TyOne Go.Proofs.Tryz.prog 9 := ⟨_, Go.Proofs.Tryz.underlying9, rfl, by kernel_rfl⟩
theorem to22 : TyOne Go.Proofs.Tryz.prog 22 := ⟨_, Go.Proofs.Tryz.underlying22, rfl, by kernel_rfl⟩
theorem to25 : TyOne Go.Proofs.Tryz.prog 25 := ⟨_, Go.Proofs.Tryz.underlying25, rfl, by kernel_rfl⟩
theorem to26 : TyOne Go.Proofs.Tryz.prog 26 := ⟨_, Go.Proofs.Tryz.underlying26, rfl, by kernel_rfl⟩
theorem to27 : TyOne Go.Proofs.Tryz.prog 27 := ⟨_, Go.Proofs.Tryz.underlying27, rfl, by kernel_rfl⟩
theorem to28 : TyOne Go.Proofs.Tryz.prog 28 := ⟨_, Go.Proofs.Tryz.underlying28, rfl, by kernel_rfl⟩
theorem eq58 {σ : S} {x y : Key} {cs ds : List Value} (h : (rI 58).cells σ x cs) (k : (rI 58).cells σ y ds) : Sx.EqAt Go.Proofs.Tryz.prog 2 58 (.agg cs.toArray) (.agg ds.toArray) (eqD_58 x y) := by
  obtain ⟨_, _, rfl, rfl, rfl⟩ := h
  obtain ⟨_, _, rfl, rfl, rfl⟩ := k
  exact eqAt_struct Go.Proofs.Tryz.underlying58 (by kernel_rfl) (eqFs_cons (by decide) (part_one to3 rfl) (part_one to3 rfl) (eqAt_int Go.Proofs.Tryz.underlying3) (eqFs_cons (by decide) (part_one to9 rfl) (part_one to9 rfl) (eqAt_str Go.Proofs.Tryz.underlying9) eqFs_nil))
theorem eqT (T : TypeId) (g : I T → I T → Bool) {K : Nat} (h : ∀ {σ : S} {x y : I T} {cs ds : List Value}, Rp.cells σ x cs → Rp.cells σ y ds → Sx.EqAt Go.Proofs.Tryz.prog K T (.agg cs.toArray) (.agg ds.toArray) (g x y)) (hg : Go.Proofs.Tryz.prog.eqGuardType (Go.Proofs.Tryz.prog).depth T = false) (hK : Nat.ble K 10000 = true)
    {X : Cxt} {c : Cx} {σ : S} {ls ms : List (PV I)} {r : Bool} {cs ds : List Value} (h1 : eqOf feL T g ls ms = some r) (h2 : RG X c σ ls cs) (h3 : RG X c σ ms ds) :
    Go.Proofs.Tryz.prog.eqGuardType (Go.Proofs.Tryz.prog).depth T = false ∧ ∃ j, Nat.ble j 10000 = true ∧ Sx.EqAt Go.Proofs.Tryz.prog j T (.agg cs.toArray) (.agg ds.toArray) r := by
  obtain ⟨x, y, k1, k2, rfl⟩ := eqOf_ok h1 h2 h3
  exact ⟨hg, K, hK, h k1 k2⟩
theorem tabLOk : TabLOk Go.Proofs.Tryz.prog tabL where
  sz := ⟨⟨_, Go.Proofs.Tryz.underlying30, rfl, by kernel_rfl⟩, ⟨⟨_, Go.Proofs.Tryz.underlying43, rfl, by kernel_rfl⟩, ⟨⟨_, Go.Proofs.Tryz.underlying58, rfl, by kernel_rfl⟩, ⟨⟨_, Go.Proofs.Tryz.underlying108, rfl, by kernel_rfl⟩, trivial⟩⟩⟩⟩
  one := ⟨to2, ⟨to3, ⟨to4, ⟨to9, ⟨to22, ⟨to25, ⟨to26, ⟨to27, ⟨to28, trivial⟩⟩⟩⟩⟩⟩⟩⟩⟩
  fld := ⟨⟨⟨_, _, Go.Proofs.Tryz.underlying30, rfl, rfl, by kernel_rfl⟩, ⟨⟨_, _, Go.Proofs.Tryz.underlying30, rfl, rfl⟩, ⟨⟨_, _, Go.Proofs.Tryz.underlying30, rfl, rfl, by kernel_rfl⟩, ⟨⟨_, _, Go.Proofs.Tryz.underlying30, rfl, rfl⟩, ⟨⟨_, _, Go.Proofs.Tryz.underlying30, rfl, rfl, by kernel_rfl⟩, ⟨⟨_, _, Go.Proofs.Tryz.underlying30, rfl, rfl⟩, ⟨⟨_, _, Go.Proofs.Tryz.underlying30, rfl, rfl, by kernel_rfl⟩, ⟨⟨_, _, Go.Proofs.Tryz.underlying30, rfl, rfl⟩, ⟨⟨_, _, Go.Proofs.Tryz.underlying30, rfl, rfl, by kernel_rfl⟩, ⟨⟨_, _, Go.Proofs.Tryz.underlying30, rfl, rfl⟩, ⟨⟨_, _, Go.Proofs.Tryz.underlying30, rfl, rfl, by kernel_rfl⟩, ⟨⟨_, _, Go.Proofs.Tryz.underlying30, rfl, rfl⟩, ⟨⟨_, _, Go.Proofs.Tryz.underlying30, rfl, rfl, by kernel_rfl⟩, ⟨⟨_, _, Go.Proofs.Tryz.underlying30, rfl, rfl⟩, trivial⟩⟩⟩⟩⟩⟩⟩⟩⟩⟩⟩⟩⟩⟩, ⟨⟨⟨_, _, Go.Proofs.Tryz.underlying40, rfl, rfl, by kernel_rfl⟩, ⟨⟨_, _, Go.Proofs.Tryz.underlying40, rfl, rfl⟩, ⟨⟨_, _, Go.Proofs.Tryz.underlying40, rfl, rfl, by kernel_rfl⟩, ⟨⟨_, _, Go.Proofs.Tryz.underlying40, rfl, rfl⟩, trivial⟩⟩⟩⟩, ⟨⟨⟨_, _, Go.Proofs.Tryz.underlying43, rfl, rfl, by kernel_rfl⟩, ⟨⟨_, _, Go.Proofs.Tryz.underlying43, rfl, rfl⟩, ⟨⟨_, _, Go.Proofs.Tryz.underlying43, rfl, rfl, by kernel_rfl⟩, ⟨⟨_, _, Go.Proofs.Tryz.underlying43, rfl, rfl⟩, ⟨⟨_, _, Go.Proofs.Tryz.underlying43, rfl, rfl, by kernel_rfl⟩, ⟨⟨_, _, Go.Proofs.Tryz.underlying43, rfl, rfl⟩, trivial⟩⟩⟩⟩⟩⟩, ⟨⟨⟨_, _, Go.Proofs.Tryz.underlying58, rfl, rfl, by kernel_rfl⟩, ⟨⟨_, _, Go.Proofs.Tryz.underlying58, rfl, rfl⟩, ⟨⟨_, _, Go.Proofs.Tryz.underlying58, rfl, rfl, by kernel_rfl⟩, ⟨⟨_, _, Go.Proofs.Tryz.underlying58, rfl, rfl⟩, trivial⟩⟩⟩⟩, ⟨⟨⟨_, _, Go.Proofs.Tryz.underlying108, rfl, rfl, by kernel_rfl⟩, ⟨⟨_, _, Go.Proofs.Tryz.underlying108, rfl, rfl⟩, ⟨⟨_, _, Go.Proofs.Tryz.underlying108, rfl, rfl, by kernel_rfl⟩, ⟨⟨_, _, Go.Proofs.Tryz.underlying108, rfl, rfl⟩, ⟨⟨_, _, Go.Proofs.Tryz.underlying108, rfl, rfl, by kernel_rfl⟩, ⟨⟨_, _, Go.Proofs.Tryz.underlying108, rfl, rfl⟩, ⟨⟨_, _, Go.Proofs.Tryz.underlying108, rfl, rfl, by kernel_rfl⟩, ⟨⟨_, _, Go.Proofs.Tryz.underlying108, rfl, rfl⟩, ⟨⟨_, _, Go.Proofs.Tryz.underlying108, rfl, rfl, by kernel_rfl⟩, ⟨⟨_, _, Go.Proofs.Tryz.underlying108, rfl, rfl⟩, trivial⟩⟩⟩⟩⟩⟩⟩⟩⟩⟩, trivial⟩⟩⟩⟩⟩
  el := ⟨⟨Go.Proofs.Tryz.underlying22, _, _, ti58, rfl, by decide⟩, ⟨⟨Go.Proofs.Tryz.underlying23, _, _, ti26, rfl, by decide⟩, ⟨⟨Go.Proofs.Tryz.underlying25, _, _, ti30, rfl, by decide⟩, ⟨⟨Go.Proofs.Tryz.underlying26, _, _, ti3, rfl, by decide⟩, ⟨⟨Go.Proofs.Tryz.underlying27, _, _, ti43, rfl, by decide⟩, ⟨⟨Go.Proofs.Tryz.underlying28, _, _, ti9, rfl, by decide⟩, ⟨⟨Go.Proofs.Tryz.underlying132, _, _, ti2, rfl, by decide⟩, trivial⟩⟩⟩⟩⟩⟩⟩
  str := ⟨Go.Proofs.Tryz.underlying9, trivial⟩
  bool := ⟨Go.Proofs.Tryz.underlying4, trivial⟩
  ik := trivial
  inf := ⟨⟨_, ti2, fun X c σ => RG.cns rfl rvInt (RG.nl)⟩, ⟨⟨_, ti3, fun X c σ => RG.cns rfl rvInt (RG.nl)⟩, ⟨⟨_, ti4, fun X c σ => RG.cns rfl rvBool (RG.nl)⟩, ⟨⟨_, ti9, fun X c σ => RG.cns rfl rvStr (RG.nl)⟩, ⟨⟨_, ti22, fun X c σ => RG.cns rfl rvNl (RG.nl)⟩, ⟨⟨_, ti25, fun X c σ => RG.cns rfl rvNl (RG.nl)⟩, ⟨⟨_, ti26, fun X c σ => RG.cns rfl rvNl (RG.nl)⟩, ⟨⟨_, ti27, fun X c σ => RG.cns rfl rvNl (RG.nl)⟩, ⟨⟨_, ti28, fun X c σ => RG.cns rfl rvNl (RG.nl)⟩, ⟨⟨_, ti30, fun X c σ => RG.cns rfl rvInt (RG.cns rfl rvInt (RG.cns rfl rvStr (RG.cns rfl rvNl (RG.cns rfl rvNl (RG.cns rfl rvNl (RG.cns rfl rvNl (RG.nl)))))))⟩, ⟨⟨_, ti40, fun X c σ => RG.cns rfl rvNl (RG.cns rfl rvInt (RG.nl))⟩, ⟨⟨_, ti43, fun X c σ => RG.cns rfl rvNl (RG.cns rfl rvBool (RG.cns rfl rvInt (RG.cns rfl rvInt (RG.cns rfl rvStr (RG.cns rfl rvNl (RG.cns rfl rvNl (RG.cns rfl rvNl (RG.cns rfl rvNl (RG.nl)))))))))⟩, ⟨⟨_, ti58, fun X c σ => RG.cns rfl rvInt (RG.cns rfl rvStr (RG.nl))⟩, ⟨⟨_, ti108, fun X c σ => RG.cns rfl rvBool (RG.cns rfl rvBool (RG.cns rfl rvBool (RG.cns rfl rvBool (RG.cns rfl rvBool (RG.nl)))))⟩, trivial⟩⟩⟩⟩⟩⟩⟩⟩⟩⟩⟩⟩⟩⟩
  st := ⟨.inl ⟨_, Go.Proofs.Tryz.underlying30, by kernel_rfl⟩, ⟨.inl ⟨_, Go.Proofs.Tryz.underlying40, by kernel_rfl⟩, ⟨.inl ⟨_, Go.Proofs.Tryz.underlying43, by kernel_rfl⟩, ⟨.inl ⟨_, Go.Proofs.Tryz.underlying58, by kernel_rfl⟩, ⟨.inl ⟨_, Go.Proofs.Tryz.underlying108, by kernel_rfl⟩, trivial⟩⟩⟩⟩⟩
  eq := ⟨fun X c σ ls ms r cs ds h1 h2 h3 => eqT 58 eqD_58 (fun h k => eq58 h k) (by kernel_rfl) (by decide) h1 h2 h3, trivial⟩
  arr := trivial
  fb := ⟨⟨_, _, Go.Proofs.Tryz.func29, rfl, by kernel_rfl⟩, ⟨⟨_, _, Go.Proofs.Tryz.func30, rfl, by kernel_rfl⟩, ⟨⟨_, _, Go.Proofs.Tryz.func52, rfl, by kernel_rfl⟩, ⟨⟨_, _, Go.Proofs.Tryz.func57, rfl, by kernel_rfl⟩, ⟨⟨_, _, Go.Proofs.Tryz.func77, rfl, by kernel_rfl⟩, ⟨⟨_, _, Go.Proofs.Tryz.func80, rfl, by kernel_rfl⟩, ⟨⟨_, _, Go.Proofs.Tryz.func89, rfl, by kernel_rfl⟩, ⟨⟨_, _, Go.Proofs.Tryz.func90, rfl, by kernel_rfl⟩, ⟨⟨_, _, Go.Proofs.Tryz.func150, rfl, by kernel_rfl⟩, ⟨⟨_, _, Go.Proofs.Tryz.func151, rfl, by kernel_rfl⟩, trivial⟩⟩⟩⟩⟩⟩⟩⟩⟩⟩
theorem tabOk : TabOk Go.Proofs.Tryz.prog tb := tabOf_ok tabLOk
theorem mixed : (Go.Proofs.Tryz.prog).follows .mixedOrders = true := by kernel_rfl

end Go.Qx
