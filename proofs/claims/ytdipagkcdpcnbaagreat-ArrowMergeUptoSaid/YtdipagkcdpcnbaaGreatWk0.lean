/- Printed by ex.py. The executor shows it. -/
import Derived.Test.YtdipagkcdpcnbaaGreatTy
namespace Go.Qx
open Go Go.RowKit Go.Sx
set_option maxHeartbeats 1600000
set_option maxRecDepth 100000

def row_210 : Row I := ⟨210, [.d (.str), .d (.str)], [.k (.d (.int .i64))], cmpF⟩

theorem rk_210 : RowOk Go.Proofs.Tryz.prog row_210 := cmp_ok Go.Proofs.Tryz.func210 (by kernel_rfl) rfl (by kernel_rfl) (by kernel_rfl)

def row_41 : Row I := ⟨41, [.d (.sl 3)], [.k (.row 3 false)], cloneF 8⟩

theorem rk_41 : RowOk Go.Proofs.Tryz.prog row_41 := clone_ok tabOk mixed Go.Proofs.Tryz.func41 (by kernel_rfl) (by kernel_rfl) (by kernel_rfl) Go.Proofs.Tryz.underlying22 rfl (by kernel_rfl) (fun _ => by kernel_rfl)

def row_151 : Rio I := ⟨151, 3, [], [], sortInt⟩

theorem rk_151 : RioOk Go.Proofs.Tryz.prog row_151 := sortI_row (I := I) (E := 3) Go.Proofs.Tryz.lay151 151 (by kernel_rfl) (fun x => x) Iff.rfl ⟨_, _, Go.Proofs.Tryz.func151, rfl, by kernel_rfl⟩

def row_158 : Row I := ⟨158, [.d (.sl 28)], [.k (.row 28 false)], cloneF 128⟩

theorem rk_158 : RowOk Go.Proofs.Tryz.prog row_158 := clone_ok tabOk mixed Go.Proofs.Tryz.func158 (by kernel_rfl) (by kernel_rfl) (by kernel_rfl) Go.Proofs.Tryz.underlying23 rfl (by kernel_rfl) (fun _ => by kernel_rfl)

def row_176 : Row I := ⟨176, [.d (.sl 114)], [.k (.row 114 false)], cloneF 24⟩

theorem rk_176 : RowOk Go.Proofs.Tryz.prog row_176 := clone_ok tabOk mixed Go.Proofs.Tryz.func176 (by kernel_rfl) (by kernel_rfl) (by kernel_rfl) Go.Proofs.Tryz.underlying24 rfl (by kernel_rfl) (fun _ => by kernel_rfl)

def row_177 : Row I := ⟨177, [.d (.sl 9)], [.k (.row 9 false)], cloneF 16⟩

theorem rk_177 : RowOk Go.Proofs.Tryz.prog row_177 := clone_ok tabOk mixed Go.Proofs.Tryz.func177 (by kernel_rfl) (by kernel_rfl) (by kernel_rfl) Go.Proofs.Tryz.underlying26 rfl (by kernel_rfl) (fun _ => by kernel_rfl)

noncomputable def row_125 : Rio I := ⟨125, 30, [.fn [.dat 30, .dat 30] [.k (.d (.int .i64))]], [], sortR⟩

theorem rk_125 : RioOk Go.Proofs.Tryz.prog row_125 := sortK_row Go.Proofs.Tryz.lay125 125 (by kernel_rfl) (by kernel_rfl) Go.Proofs.Tryz.underlying30 (by kernel_rfl)

def H_semtypelaw12_short : Hints I where
  tds := fun i => (asc [] i).getD []
  spl := fun i => (asc [] i).getD []
  pre := fun i => (asc [] i).getD []
  join := asc []
  loop := asc [(26, ⟨65532, [], [], [(3, .k (.d (.int .i64)))], [((.exit 0), []), (.ret, [(2, .k (.d (.bool)))])], bnd tb (.len (.slot 0)) 1⟩)]
  keep := asc []

def row_semtypelaw12_short : Row I := ⟨8, [.d (.sl 22)], [.k (.d (.bool))], semtypelaw12_short⟩

theorem rk_semtypelaw12_short  : RowOk Go.Proofs.Tryz.prog (row_semtypelaw12_short) :=
  row_ok tabOk (dispE_ok (es := []) trivial 3) mixed 16 (fn := Go.Proofs.Tryz.f8) (cd := cdOf Go.Proofs.Tryz.f8) (H := H_semtypelaw12_short) (rl := [.tmp 2]) Go.Proofs.Tryz.func8 (by kernel_rfl) (by kernel_rfl) (by kernel_rfl) (by kernel_rfl) (by kernel_rfl) (by kernel_rfl) (by kernel_rfl)

def H_semtyperef1_Nodes (n : Nat) : Hints I where
  tds := fun i => (asc [] i).getD []
  spl := fun i => (asc [] i).getD []
  pre := fun i => (asc [] i).getD []
  join := asc [(978, ⟨288230375077970120, [], [], [(.normal, [(3, .k (.d (.int .i64)))])]⟩)]
  loop := asc [(58, ⟨8388376, [], [], [(3, .k (.d (.int .i64))), (4, .k (.d (.int .i64)))], [((.exit 0), [(3, .k (.d (.int .i64)))])], bnd tb (.len (.ld 23 (.fld 28 3 (.slot 1)))) 1⟩),
    (122, ⟨288230376143323368, [], [], [(3, .k (.d (.int .i64))), (5, .k (.d (.int .i64)))], [((.exit 2), [(3, .k (.d (.int .i64)))])], bnd tb (.len (.ld 25 (.fld 28 5 (.slot 1)))) 1⟩),
    (31306, ⟨1125865547104392, [], [], [(3, .k (.d (.int .i64))), (7, .k (.d (.int .i64)))], [((.exit 4), [(3, .k (.d (.int .i64)))])], bnd tb (.len (.ld 23 (.fld 30 0 (.slot 6)))) 1⟩)]
  keep := asc []

def row_semtyperef1_Nodes (n : Nat) : Row I := ⟨9, [.d (.dat 28)], [.k (.d (.int .i64))], semtyperef1_Nodes n⟩

theorem rkB_semtyperef1_Nodes (n : Nat) (h_semtyperef1_Nodes : RowOk Go.Proofs.Tryz.prog (row_semtyperef1_Nodes n)) : RowOk Go.Proofs.Tryz.prog (row_semtyperef1_Nodes (n + 1)) :=
  row_ok tabOk (dispE_ok (es := [rowE tb (row_semtyperef1_Nodes n)]) ⟨rowE_ok tabOk h_semtyperef1_Nodes, trivial⟩ 3) mixed 59 (fn := Go.Proofs.Tryz.f9) (cd := cdOf Go.Proofs.Tryz.f9) (H := (H_semtyperef1_Nodes n)) (rl := [.tmp 2]) Go.Proofs.Tryz.func9 (by kernel_rfl) (by kernel_rfl) (by kernel_rfl) (by kernel_rfl) (by kernel_rfl) (by kernel_rfl) (by kernel_rfl)

theorem rk_semtyperef1_Nodes : ∀ n : Nat, RowOk Go.Proofs.Tryz.prog (row_semtyperef1_Nodes n)
  | 0 => rowOk_none (by kernel_rfl)
  | n + 1 => rkB_semtyperef1_Nodes n (rk_semtyperef1_Nodes n)

def H_semtyperef1_Nil : Hints I where
  tds := fun i => (asc [] i).getD []
  spl := fun i => (asc [] i).getD []
  pre := fun i => (asc [] i).getD []
  join := asc []
  loop := asc []
  keep := asc []

def row_semtyperef1_Nil : Row I := ⟨28, [], [.k (.d (.dat 28))], semtyperef1_Nil⟩

theorem rk_semtyperef1_Nil  : RowOk Go.Proofs.Tryz.prog (row_semtyperef1_Nil) :=
  row_ok tabOk (dispE_ok (es := []) trivial 3) mixed 2 (fn := Go.Proofs.Tryz.f28) (cd := cdOf Go.Proofs.Tryz.f28) (H := H_semtyperef1_Nil) (rl := [.cell 0 28]) Go.Proofs.Tryz.func28 (by kernel_rfl) (by kernel_rfl) (by kernel_rfl) (by kernel_rfl) (by kernel_rfl) (by kernel_rfl) (by kernel_rfl)

def H_typeexpr_plainNode : Hints I where
  tds := fun i => (asc [] i).getD []
  spl := fun i => (asc [] i).getD []
  pre := fun i => (asc [] i).getD []
  join := asc [(29, ⟨16776824, [], [], [(.normal, [(3, .k (.d (.bool))), (4, .k (.d (.bool))), (5, .k (.d (.bool))), (6, .k (.d (.bool)))])]⟩),
    (941, ⟨26624, [], [], [(.normal, [(11, .k (.d (.bool)))])]⟩),
    (3773, ⟨4096000, [], [], [(.normal, [(15, .k (.d (.bool)))])]⟩)]
  loop := asc []
  keep := asc []

def row_typeexpr_plainNode : Row I := ⟨57, [.d (.dat 72)], [.k (.d (.bool))], typeexpr_plainNode⟩

theorem rk_typeexpr_plainNode  : RowOk Go.Proofs.Tryz.prog (row_typeexpr_plainNode) :=
  row_ok tabOk (dispE_ok (es := []) trivial 3) mixed 67 (fn := Go.Proofs.Tryz.f57) (cd := cdOf Go.Proofs.Tryz.f57) (H := H_typeexpr_plainNode) (rl := [.tmp 2]) Go.Proofs.Tryz.func57 (by kernel_rfl) (by kernel_rfl) (by kernel_rfl) (by kernel_rfl) (by kernel_rfl) (by kernel_rfl) (by kernel_rfl)

def H_ident_isName : Hints I where
  tds := fun i => (asc [] i).getD []
  spl := fun i => (asc [] i).getD []
  pre := fun i => (asc [] i).getD []
  join := asc []
  loop := asc [(58, ⟨34351349952, [], [], [(7, .k (.d (.int .i64)))], [((.exit 0), []), (.ret, [(6, .k (.d (.bool)))])], bnd tb (.len (.slot 0)) 1⟩)]
  keep := asc []

def row_ident_isName : Row I := ⟨139, [.d (.str), .fn [.int .u8] [.k (.d (.bool))], .fn [.int .u8] [.k (.d (.bool))]], [.k (.d (.bool))], ident_isName⟩

theorem rk_ident_isName  : RowOk Go.Proofs.Tryz.prog (row_ident_isName) :=
  row_ok tabOk (dispE_ok (es := []) trivial 3) mixed 35 (fn := Go.Proofs.Tryz.f139) (cd := cdOf Go.Proofs.Tryz.f139) (H := H_ident_isName) (rl := [.tmp 6]) Go.Proofs.Tryz.func139 (by kernel_rfl) (by kernel_rfl) (by kernel_rfl) (by kernel_rfl) (by kernel_rfl) (by kernel_rfl) (by kernel_rfl)

def H_ident_isLower : Hints I where
  tds := fun i => (asc [] i).getD []
  spl := fun i => (asc [] i).getD []
  pre := fun i => (asc [] i).getD []
  join := asc []
  loop := asc []
  keep := asc []

def row_ident_isLower : Row I := ⟨140, [.d (.int .u8)], [.k (.d (.bool))], ident_isLower⟩

theorem rk_ident_isLower  : RowOk Go.Proofs.Tryz.prog (row_ident_isLower) :=
  row_ok tabOk (dispE_ok (es := []) trivial 3) mixed 9 (fn := Go.Proofs.Tryz.f140) (cd := cdOf Go.Proofs.Tryz.f140) (H := H_ident_isLower) (rl := [.tmp 2]) Go.Proofs.Tryz.func140 (by kernel_rfl) (by kernel_rfl) (by kernel_rfl) (by kernel_rfl) (by kernel_rfl) (by kernel_rfl) (by kernel_rfl)

def H_ident_isDigit : Hints I where
  tds := fun i => (asc [] i).getD []
  spl := fun i => (asc [] i).getD []
  pre := fun i => (asc [] i).getD []
  join := asc []
  loop := asc []
  keep := asc []

def row_ident_isDigit : Row I := ⟨142, [.d (.int .u8)], [.k (.d (.bool))], ident_isDigit⟩

theorem rk_ident_isDigit  : RowOk Go.Proofs.Tryz.prog (row_ident_isDigit) :=
  row_ok tabOk (dispE_ok (es := []) trivial 3) mixed 9 (fn := Go.Proofs.Tryz.f142) (cd := cdOf Go.Proofs.Tryz.f142) (H := H_ident_isDigit) (rl := [.tmp 2]) Go.Proofs.Tryz.func142 (by kernel_rfl) (by kernel_rfl) (by kernel_rfl) (by kernel_rfl) (by kernel_rfl) (by kernel_rfl) (by kernel_rfl)

def H_ident_IsAtom_1 : Hints I where
  tds := fun i => (asc [] i).getD []
  spl := fun i => (asc [] i).getD []
  pre := fun i => (asc [] i).getD []
  join := asc []
  loop := asc []
  keep := asc []

def row_ident_IsAtom_1 : Row I := ⟨141, [.d (.int .u8)], [.k (.d (.bool))], ident_IsAtom_1⟩

theorem rk_ident_IsAtom_1  : RowOk Go.Proofs.Tryz.prog (row_ident_IsAtom_1) :=
  row_ok tabOk (dispE_ok (es := [rowE tb (row_ident_isLower), rowE tb (row_ident_isDigit)]) ⟨rowE_ok tabOk rk_ident_isLower, ⟨rowE_ok tabOk rk_ident_isDigit, trivial⟩⟩ 3) mixed 13 (fn := Go.Proofs.Tryz.f141) (cd := cdOf Go.Proofs.Tryz.f141) (H := H_ident_IsAtom_1) (rl := [.tmp 2]) Go.Proofs.Tryz.func141 (by kernel_rfl) (by kernel_rfl) (by kernel_rfl) (by kernel_rfl) (by kernel_rfl) (by kernel_rfl) (by kernel_rfl)

def H_ident_IsAtom : Hints I where
  tds := fun i => (asc [] i).getD []
  spl := fun i => (asc [] i).getD []
  pre := fun i => (asc [] i).getD []
  join := asc []
  loop := asc []
  keep := asc []

def row_ident_IsAtom : Row I := ⟨103, [.d (.str)], [.k (.d (.bool))], ident_IsAtom⟩

theorem rk_ident_IsAtom  : RowOk Go.Proofs.Tryz.prog (row_ident_IsAtom) :=
  row_ok tabOk (dispE_ok (es := [rowE tb (row_ident_isName), rowE tb (row_ident_isLower), rowE tb (row_ident_IsAtom_1)]) ⟨rowE_ok tabOk rk_ident_isName, ⟨rowE_ok tabOk rk_ident_isLower, ⟨rowE_ok tabOk rk_ident_IsAtom_1, trivial⟩⟩⟩ 3) mixed 5 (fn := Go.Proofs.Tryz.f103) (cd := cdOf Go.Proofs.Tryz.f103) (H := H_ident_IsAtom) (rl := [.tmp 2]) Go.Proofs.Tryz.func103 (by kernel_rfl) (by kernel_rfl) (by kernel_rfl) (by kernel_rfl) (by kernel_rfl) (by kernel_rfl) (by kernel_rfl)

def H_ident_isUpper : Hints I where
  tds := fun i => (asc [] i).getD []
  spl := fun i => (asc [] i).getD []
  pre := fun i => (asc [] i).getD []
  join := asc []
  loop := asc []
  keep := asc []

def row_ident_isUpper : Row I := ⟨143, [.d (.int .u8)], [.k (.d (.bool))], ident_isUpper⟩

theorem rk_ident_isUpper  : RowOk Go.Proofs.Tryz.prog (row_ident_isUpper) :=
  row_ok tabOk (dispE_ok (es := []) trivial 3) mixed 9 (fn := Go.Proofs.Tryz.f143) (cd := cdOf Go.Proofs.Tryz.f143) (H := H_ident_isUpper) (rl := [.tmp 2]) Go.Proofs.Tryz.func143 (by kernel_rfl) (by kernel_rfl) (by kernel_rfl) (by kernel_rfl) (by kernel_rfl) (by kernel_rfl) (by kernel_rfl)

def H_ident_IsVariable_1 : Hints I where
  tds := fun i => (asc [] i).getD []
  spl := fun i => (asc [] i).getD []
  pre := fun i => (asc [] i).getD []
  join := asc []
  loop := asc []
  keep := asc []

def row_ident_IsVariable_1 : Row I := ⟨144, [.d (.int .u8)], [.k (.d (.bool))], ident_IsVariable_1⟩

theorem rk_ident_IsVariable_1  : RowOk Go.Proofs.Tryz.prog (row_ident_IsVariable_1) :=
  row_ok tabOk (dispE_ok (es := [rowE tb (row_ident_isLower), rowE tb (row_ident_isUpper), rowE tb (row_ident_isDigit)]) ⟨rowE_ok tabOk rk_ident_isLower, ⟨rowE_ok tabOk rk_ident_isUpper, ⟨rowE_ok tabOk rk_ident_isDigit, trivial⟩⟩⟩ 3) mixed 17 (fn := Go.Proofs.Tryz.f144) (cd := cdOf Go.Proofs.Tryz.f144) (H := H_ident_IsVariable_1) (rl := [.tmp 2]) Go.Proofs.Tryz.func144 (by kernel_rfl) (by kernel_rfl) (by kernel_rfl) (by kernel_rfl) (by kernel_rfl) (by kernel_rfl) (by kernel_rfl)

def H_ident_IsVariable : Hints I where
  tds := fun i => (asc [] i).getD []
  spl := fun i => (asc [] i).getD []
  pre := fun i => (asc [] i).getD []
  join := asc []
  loop := asc []
  keep := asc []

def row_ident_IsVariable : Row I := ⟨104, [.d (.str)], [.k (.d (.bool))], ident_IsVariable⟩

theorem rk_ident_IsVariable  : RowOk Go.Proofs.Tryz.prog (row_ident_IsVariable) :=
  row_ok tabOk (dispE_ok (es := [rowE tb (row_ident_isName), rowE tb (row_ident_isUpper), rowE tb (row_ident_IsVariable_1)]) ⟨rowE_ok tabOk rk_ident_isName, ⟨rowE_ok tabOk rk_ident_isUpper, ⟨rowE_ok tabOk rk_ident_IsVariable_1, trivial⟩⟩⟩ 3) mixed 5 (fn := Go.Proofs.Tryz.f104) (cd := cdOf Go.Proofs.Tryz.f104) (H := H_ident_IsVariable) (rl := [.tmp 2]) Go.Proofs.Tryz.func104 (by kernel_rfl) (by kernel_rfl) (by kernel_rfl) (by kernel_rfl) (by kernel_rfl) (by kernel_rfl) (by kernel_rfl)

def H_ident_ValidKey : Hints I where
  tds := fun i => (asc [] i).getD []
  spl := fun i => (asc [] i).getD []
  pre := fun i => (asc [] i).getD []
  join := asc []
  loop := asc []
  keep := asc []

def row_ident_ValidKey : Row I := ⟨145, [.d (.dat 114)], [.k (.d (.bool))], ident_ValidKey⟩

theorem rk_ident_ValidKey  : RowOk Go.Proofs.Tryz.prog (row_ident_ValidKey) :=
  row_ok tabOk (dispE_ok (es := [rowE tb (row_ident_IsAtom)]) ⟨rowE_ok tabOk rk_ident_IsAtom, trivial⟩ 3) mixed 16 (fn := Go.Proofs.Tryz.f145) (cd := cdOf Go.Proofs.Tryz.f145) (H := H_ident_ValidKey) (rl := [.tmp 2]) Go.Proofs.Tryz.func145 (by kernel_rfl) (by kernel_rfl) (by kernel_rfl) (by kernel_rfl) (by kernel_rfl) (by kernel_rfl) (by kernel_rfl)

def H_cmp_isNaN_int : Hints I where
  tds := fun i => (asc [] i).getD []
  spl := fun i => (asc [] i).getD []
  pre := fun i => (asc [] i).getD []
  join := asc []
  loop := asc []
  keep := asc []

def row_cmp_isNaN_int : Row I := ⟨193, [.d (.int .i64)], [.k (.d (.bool))], cmp_isNaN_int⟩

theorem rk_cmp_isNaN_int  : RowOk Go.Proofs.Tryz.prog (row_cmp_isNaN_int) :=
  row_ok tabOk (dispE_ok (es := []) trivial 3) mixed 6 (fn := Go.Proofs.Tryz.f193) (cd := cdOf Go.Proofs.Tryz.f193) (H := H_cmp_isNaN_int) (rl := [.tmp 2]) Go.Proofs.Tryz.func193 (by kernel_rfl) (by kernel_rfl) (by kernel_rfl) (by kernel_rfl) (by kernel_rfl) (by kernel_rfl) (by kernel_rfl)

def H_cmp_Compare_int : Hints I where
  tds := fun i => (asc [] i).getD []
  spl := fun i => (asc [] i).getD []
  pre := fun i => (asc [] i).getD []
  join := asc []
  loop := asc []
  keep := asc []

def row_cmp_Compare_int : Row I := ⟨169, [.d (.int .i64), .d (.int .i64)], [.k (.d (.int .i64))], cmp_Compare_int⟩

theorem rk_cmp_Compare_int  : RowOk Go.Proofs.Tryz.prog (row_cmp_Compare_int) :=
  row_ok tabOk (dispE_ok (es := [rowE tb (row_cmp_isNaN_int)]) ⟨rowE_ok tabOk rk_cmp_isNaN_int, trivial⟩ 3) mixed 20 (fn := Go.Proofs.Tryz.f169) (cd := cdOf Go.Proofs.Tryz.f169) (H := H_cmp_Compare_int) (rl := [.tmp 4]) Go.Proofs.Tryz.func169 (by kernel_rfl) (by kernel_rfl) (by kernel_rfl) (by kernel_rfl) (by kernel_rfl) (by kernel_rfl) (by kernel_rfl)

def H_internal_bytealg_CompareString : Hints I where
  tds := fun i => (asc [] i).getD []
  spl := fun i => (asc [] i).getD []
  pre := fun i => (asc [] i).getD []
  join := asc []
  loop := asc []
  keep := asc []

def row_internal_bytealg_CompareString : Row I := ⟨194, [.d (.str), .d (.str)], [.k (.d (.int .i64))], internal_bytealg_CompareString⟩

theorem rk_internal_bytealg_CompareString  : RowOk Go.Proofs.Tryz.prog (row_internal_bytealg_CompareString) :=
  row_ok tabOk (dispE_ok (es := [rowE tb row_210]) ⟨rowE_ok tabOk rk_210, trivial⟩ 3) mixed 8 (fn := Go.Proofs.Tryz.f194) (cd := cdOf Go.Proofs.Tryz.f194) (H := H_internal_bytealg_CompareString) (rl := [.tmp 4]) Go.Proofs.Tryz.func194 (by kernel_rfl) (by kernel_rfl) (by kernel_rfl) (by kernel_rfl) (by kernel_rfl) (by kernel_rfl) (by kernel_rfl)

def H_strings_Compare : Hints I where
  tds := fun i => (asc [] i).getD []
  spl := fun i => (asc [] i).getD []
  pre := fun i => (asc [] i).getD []
  join := asc []
  loop := asc []
  keep := asc []

def row_strings_Compare : Row I := ⟨170, [.d (.str), .d (.str)], [.k (.d (.int .i64))], strings_Compare⟩

theorem rk_strings_Compare  : RowOk Go.Proofs.Tryz.prog (row_strings_Compare) :=
  row_ok tabOk (dispE_ok (es := [rowE tb (row_internal_bytealg_CompareString)]) ⟨rowE_ok tabOk rk_internal_bytealg_CompareString, trivial⟩ 3) mixed 8 (fn := Go.Proofs.Tryz.f170) (cd := cdOf Go.Proofs.Tryz.f170) (H := H_strings_Compare) (rl := [.tmp 4]) Go.Proofs.Tryz.func170 (by kernel_rfl) (by kernel_rfl) (by kernel_rfl) (by kernel_rfl) (by kernel_rfl) (by kernel_rfl) (by kernel_rfl)

def H_ident_CompareKeys : Hints I where
  tds := fun i => (asc [] i).getD []
  spl := fun i => (asc [] i).getD []
  pre := fun i => (asc [] i).getD []
  join := asc []
  loop := asc []
  keep := asc []

def row_ident_CompareKeys : Row I := ⟨146, [.d (.dat 114), .d (.dat 114)], [.k (.d (.int .i64))], ident_CompareKeys⟩

theorem rk_ident_CompareKeys  : RowOk Go.Proofs.Tryz.prog (row_ident_CompareKeys) :=
  row_ok tabOk (dispE_ok (es := [rowE tb (row_cmp_Compare_int), rowE tb (row_strings_Compare)]) ⟨rowE_ok tabOk rk_cmp_Compare_int, ⟨rowE_ok tabOk rk_strings_Compare, trivial⟩⟩ 3) mixed 19 (fn := Go.Proofs.Tryz.f146) (cd := cdOf Go.Proofs.Tryz.f146) (H := H_ident_CompareKeys) (rl := [.tmp 4]) Go.Proofs.Tryz.func146 (by kernel_rfl) (by kernel_rfl) (by kernel_rfl) (by kernel_rfl) (by kernel_rfl) (by kernel_rfl) (by kernel_rfl)

def H_typeexpr_validFields : Hints I where
  tds := fun i => (asc [(4, [[], [0], [0, 1], [0, 1, 2], [0, 1, 2, 3], [0, 1, 2, 3, 4], [0, 1, 2, 3, 4, 5], [0, 1, 2, 3, 4, 5, 6], [0, 1, 2, 3, 4, 5, 6, 7], [0, 1, 2, 3, 4, 5, 6, 7], [0, 1, 2, 3, 4, 5, 6, 7, 9], [0, 1, 2, 3, 4, 5, 6, 7, 8, 9, 10], [0, 1, 2, 3, 4, 5, 6, 7, 8, 9, 10, 11], [0, 1, 2, 3, 4, 5, 6, 7, 8, 9, 10, 11, 12], [0, 1, 2, 3, 4, 5, 6, 7], [0, 1, 2, 3, 4, 5, 6, 7, 14], [0, 1, 2, 3, 4, 5, 6, 7, 8, 9, 10, 11, 12, 13, 14, 15], [0, 1, 2, 3, 4, 5, 6, 7, 8, 9, 10, 11, 12, 13, 14, 15, 16], [0, 1, 2, 3, 4, 5, 6, 7, 8, 9, 10, 11, 12, 13, 14, 15, 16, 17], [0, 1, 2, 3, 4, 5, 6, 7, 8, 9, 10, 11, 12, 13, 14, 15, 16, 17, 18]])] i).getD []
  spl := fun i => (asc [] i).getD []
  pre := fun i => (asc [] i).getD []
  join := asc []
  loop := asc [(26, ⟨8589934492, [], [], [(7, .k (.d (.int .i64)))], [((.exit 0), []), (.ret, [(2, .k (.d (.bool)))])], bnd tb (.slot 6) 1⟩)]
  keep := asc []

def row_typeexpr_validFields : Row I := ⟨105, [.d (.sl 132)], [.k (.d (.bool))], typeexpr_validFields⟩

theorem rk_typeexpr_validFields  : RowOk Go.Proofs.Tryz.prog (row_typeexpr_validFields) :=
  row_ok tabOk (dispE_ok (es := [rowE tb (row_ident_ValidKey), rowE tb (row_ident_CompareKeys)]) ⟨rowE_ok tabOk rk_ident_ValidKey, ⟨rowE_ok tabOk rk_ident_CompareKeys, trivial⟩⟩ 3) mixed 33 (fn := Go.Proofs.Tryz.f105) (cd := cdOf Go.Proofs.Tryz.f105) (H := H_typeexpr_validFields) (rl := [.tmp 2]) Go.Proofs.Tryz.func105 (by kernel_rfl) (by kernel_rfl) (by kernel_rfl) (by kernel_rfl) (by kernel_rfl) (by kernel_rfl) (by kernel_rfl)

def H_typeexpr_validKind : Hints I where
  tds := fun i => (asc [] i).getD []
  spl := fun i => (asc [] i).getD []
  pre := fun i => (asc [] i).getD []
  join := asc [(105, ⟨16288, [], [], [(.normal, [(5, .k (.d (.bool)))])]⟩),
    (28311549, ⟨368934881474191032320, [], [], [(.normal, [(66, .k (.d (.bool)))])]⟩)]
  loop := asc []
  keep := asc []

def row_typeexpr_validKind : Row I := ⟨58, [.d (.dat 72)], [.k (.d (.bool))], typeexpr_validKind⟩

theorem rk_typeexpr_validKind  : RowOk Go.Proofs.Tryz.prog (row_typeexpr_validKind) :=
  row_ok tabOk (dispE_ok (es := [rowE tb (row_ident_IsAtom), rowE tb (row_ident_IsVariable), rowE tb (row_typeexpr_validFields)]) ⟨rowE_ok tabOk rk_ident_IsAtom, ⟨rowE_ok tabOk rk_ident_IsVariable, ⟨rowE_ok tabOk rk_typeexpr_validFields, trivial⟩⟩⟩ 3) mixed 79 (fn := Go.Proofs.Tryz.f58) (cd := cdOf Go.Proofs.Tryz.f58) (H := H_typeexpr_validKind) (rl := [.tmp 2]) Go.Proofs.Tryz.func58 (by kernel_rfl) (by kernel_rfl) (by kernel_rfl) (by kernel_rfl) (by kernel_rfl) (by kernel_rfl) (by kernel_rfl)

def H_typeexpr_edges : Hints I where
  tds := fun i => (asc [] i).getD []
  spl := fun i => (asc [] i).getD []
  pre := fun i => (asc [] i).getD []
  join := asc []
  loop := asc [(58, ⟨4190248, [], [], [(3, .k (.row 3 false)), (12, .k (.d (.int .i64)))], [((.exit 0), [(3, .k (.row 3 false))])], bnd tb (.slot 11) 1⟩)]
  keep := asc []

def row_typeexpr_edges : Row I := ⟨59, [.d (.dat 72)], [.k (.row 3 false)], typeexpr_edges⟩

theorem rk_typeexpr_edges  : RowOk Go.Proofs.Tryz.prog (row_typeexpr_edges) :=
  row_ok tabOk (dispE_ok (es := [rowE tb row_41]) ⟨rowE_ok tabOk rk_41, trivial⟩ 3) mixed 35 (fn := Go.Proofs.Tryz.f59) (cd := cdOf Go.Proofs.Tryz.f59) (H := H_typeexpr_edges) (rl := [.tmp 2]) Go.Proofs.Tryz.func59 (by kernel_rfl) (by kernel_rfl) (by kernel_rfl) (by kernel_rfl) (by kernel_rfl) (by kernel_rfl) (by kernel_rfl)

def H_typeexpr_isBoolean : Hints I where
  tds := fun i => (asc [] i).getD []
  spl := fun i => (asc [] i).getD []
  pre := fun i => (asc [] i).getD []
  join := asc []
  loop := asc []
  keep := asc []

def row_typeexpr_isBoolean : Row I := ⟨107, [.d (.int .i64)], [.k (.d (.bool))], typeexpr_isBoolean⟩

theorem rk_typeexpr_isBoolean  : RowOk Go.Proofs.Tryz.prog (row_typeexpr_isBoolean) :=
  row_ok tabOk (dispE_ok (es := []) trivial 3) mixed 13 (fn := Go.Proofs.Tryz.f107) (cd := cdOf Go.Proofs.Tryz.f107) (H := H_typeexpr_isBoolean) (rl := [.tmp 2]) Go.Proofs.Tryz.func107 (by kernel_rfl) (by kernel_rfl) (by kernel_rfl) (by kernel_rfl) (by kernel_rfl) (by kernel_rfl) (by kernel_rfl)

def H_typeexpr_contractive_1 (n : Nat) : Hints I where
  tds := fun i => (asc [] i).getD []
  spl := fun i => (asc [] i).getD []
  pre := fun i => (asc [] i).getD []
  join := asc []
  loop := asc [(122, ⟨140462610448544, [], [(1, .k (.row 3 false))], [(38, .k (.d (.int .i64)))], [((.exit 0), []), (.ret, [(5, .k (.d (.bool)))])], bnd tb (.slot 37) 1⟩)]
  keep := asc []

def row_typeexpr_contractive_1 (n : Nat) : Row I := ⟨106, [.d (.int .i64), .var 22 (.k (.row 3 false)) true, .var 36 (.k (.d (.dat 36))) false, .var 101 (.k (.d .any)) false], [.k (.d (.bool))], typeexpr_contractive_1 n⟩

theorem rkB_typeexpr_contractive_1 (n : Nat) (h_typeexpr_contractive_1 : RowOkS Go.Proofs.Tryz.prog (row_typeexpr_contractive_1 n) (SelfW 101 106 3 [1, 2, 3])) : RowOkS Go.Proofs.Tryz.prog (row_typeexpr_contractive_1 (n + 1)) (SelfW 101 106 3 [1, 2, 3]) :=
  row_okS tabOk (dispE_ok (es := [rowE tb (row_typeexpr_isBoolean), rowSE tb (row_typeexpr_contractive_1 n) (selfChk 101 106 3 [1, 2, 3])]) ⟨rowE_ok tabOk rk_typeexpr_isBoolean, ⟨rowSE_ok tabOk h_typeexpr_contractive_1 (fun _ _ _ _ _ _ _ _ _ hO h hc hv => selfChk_ok hO h hc hv), trivial⟩⟩ 3) mixed 50 (s0 := fun a => selfS 101 106 3 3 [1, 2, 3] (iniS tb 50 [.d (.int .i64), .var 22 (.k (.row 3 false)) true, .var 36 (.k (.d (.dat 36))) false, .var 101 (.k (.d .any)) false] a)) (fn := Go.Proofs.Tryz.f106) (cd := cdOf Go.Proofs.Tryz.f106) (H := (H_typeexpr_contractive_1 n)) (rl := [.tmp 5]) (fun X c σ a vs F h hv hC => self_ini rfl rfl rfl h hv hC) Go.Proofs.Tryz.func106 (by kernel_rfl) (by kernel_rfl) (by kernel_rfl) (by kernel_rfl) (by kernel_rfl) (by kernel_rfl) (by kernel_rfl)

theorem rk_typeexpr_contractive_1 : ∀ n : Nat, RowOkS Go.Proofs.Tryz.prog (row_typeexpr_contractive_1 n) (SelfW 101 106 3 [1, 2, 3])
  | 0 => rowOkS_of (rowOk_none (by kernel_rfl))
  | n + 1 => rkB_typeexpr_contractive_1 n (rk_typeexpr_contractive_1 n)

def H_typeexpr_contractive (n : Nat) : Hints I where
  tds := fun i => (asc [] i).getD []
  spl := fun i => (asc [] i).getD []
  pre := fun i => (asc [] i).getD []
  join := asc []
  loop := asc [(250, ⟨4177956, [], [(3, .k (.row 3 false))], [(14, .k (.d (.int .i64)))], [((.exit 0), []), (.ret, [(2, .k (.d (.bool)))])], bnd tb (.slot 13) 1⟩)]
  keep := asc []

def row_typeexpr_contractive (n : Nat) : Row I := ⟨60, [.d (.dat 36)], [.k (.d (.bool))], typeexpr_contractive n⟩

theorem rk_typeexpr_contractive (n : Nat)  : RowOk Go.Proofs.Tryz.prog (row_typeexpr_contractive n) :=
  row_ok tabOk (dispE_ok (es := [rowSE tb (row_typeexpr_contractive_1 n) (selfChk 101 106 3 [1, 2, 3])]) ⟨rowSE_ok tabOk (rk_typeexpr_contractive_1 n) (fun _ _ _ _ _ _ _ _ _ hO h hc hv => selfChk_ok hO h hc hv), trivial⟩ 3) mixed 22 (fn := Go.Proofs.Tryz.f60) (cd := cdOf Go.Proofs.Tryz.f60) (H := (H_typeexpr_contractive n)) (rl := [.tmp 2]) Go.Proofs.Tryz.func60 (by kernel_rfl) (by kernel_rfl) (by kernel_rfl) (by kernel_rfl) (by kernel_rfl) (by kernel_rfl) (by kernel_rfl)

def H_typeexpr_WellFormed (n : Nat) : Hints I where
  tds := fun i => (asc [] i).getD []
  spl := fun i => (asc [] i).getD []
  pre := fun i => (asc [] i).getD []
  join := asc []
  loop := asc [(58, ⟨2251799811588180, [], [], [(21, .k (.d (.int .i64)))], [((.exit 0), []), (.ret, [(2, .k (.d (.int .i64)))])], bnd tb (.slot 20) 1⟩),
    (29902, ⟨1125831187365956, [34], [], [(36, .k (.d (.int .i64)))], [((.exit 2), []), (.ret, [(2, .k (.d (.int .i64)))])], bnd tb (.slot 35) 1⟩)]
  keep := asc []

def row_typeexpr_WellFormed (n : Nat) : Row I := ⟨32, [.d (.dat 36)], [.k (.d (.int .i64))], typeexpr_WellFormed n⟩

theorem rk_typeexpr_WellFormed (n : Nat)  : RowOk Go.Proofs.Tryz.prog (row_typeexpr_WellFormed n) :=
  row_ok tabOk (dispE_ok (es := [rowE tb (row_typeexpr_plainNode), rowE tb (row_typeexpr_validKind), rowE tb (row_typeexpr_edges), rowE tb (row_typeexpr_contractive n)]) ⟨rowE_ok tabOk rk_typeexpr_plainNode, ⟨rowE_ok tabOk rk_typeexpr_validKind, ⟨rowE_ok tabOk rk_typeexpr_edges, ⟨rowE_ok tabOk (rk_typeexpr_contractive n), trivial⟩⟩⟩⟩ 3) mixed 54 (fn := Go.Proofs.Tryz.f32) (cd := cdOf Go.Proofs.Tryz.f32) (H := (H_typeexpr_WellFormed n)) (rl := [.tmp 2]) Go.Proofs.Tryz.func32 (by kernel_rfl) (by kernel_rfl) (by kernel_rfl) (by kernel_rfl) (by kernel_rfl) (by kernel_rfl) (by kernel_rfl)

def H_slices_IndexFunc_int_int : Hints I where
  tds := fun i => (asc [] i).getD []
  spl := fun i => (asc [] i).getD []
  pre := fun i => (asc [] i).getD []
  join := asc []
  loop := asc [(26, ⟨524080, [], [], [(8, .k (.d (.int .i64)))], [((.exit 0), []), (.ret, [(4, .k (.d (.int .i64)))])], bnd tb (.slot 7) 1⟩)]
  keep := asc []

def row_slices_IndexFunc_int_int : Row I := ⟨108, [.d (.sl 3), .fn [.int .i64] [.k (.d (.bool))]], [.k (.d (.int .i64))], slices_IndexFunc_int_int⟩

theorem rk_slices_IndexFunc_int_int  : RowOk Go.Proofs.Tryz.prog (row_slices_IndexFunc_int_int) :=
  row_ok tabOk (dispE_ok (es := []) trivial 3) mixed 19 (fn := Go.Proofs.Tryz.f108) (cd := cdOf Go.Proofs.Tryz.f108) (H := H_slices_IndexFunc_int_int) (rl := [.tmp 4]) Go.Proofs.Tryz.func108 (by kernel_rfl) (by kernel_rfl) (by kernel_rfl) (by kernel_rfl) (by kernel_rfl) (by kernel_rfl) (by kernel_rfl)

def H_slices_ContainsFunc_int_int : Hints I where
  tds := fun i => (asc [] i).getD []
  spl := fun i => (asc [] i).getD []
  pre := fun i => (asc [] i).getD []
  join := asc []
  loop := asc []
  keep := asc []

def row_slices_ContainsFunc_int_int : Row I := ⟨61, [.d (.sl 3), .fn [.int .i64] [.k (.d (.bool))]], [.k (.d (.bool))], slices_ContainsFunc_int_int⟩

theorem rk_slices_ContainsFunc_int_int  : RowOk Go.Proofs.Tryz.prog (row_slices_ContainsFunc_int_int) :=
  row_ok tabOk (dispE_ok (es := [rowE tb (row_slices_IndexFunc_int_int)]) ⟨rowE_ok tabOk rk_slices_IndexFunc_int_int, trivial⟩ 3) mixed 9 (fn := Go.Proofs.Tryz.f61) (cd := cdOf Go.Proofs.Tryz.f61) (H := H_slices_ContainsFunc_int_int) (rl := [.tmp 4]) Go.Proofs.Tryz.func61 (by kernel_rfl) (by kernel_rfl) (by kernel_rfl) (by kernel_rfl) (by kernel_rfl) (by kernel_rfl) (by kernel_rfl)

def H_arrow_functions_1 : Hints I where
  tds := fun i => (asc [] i).getD []
  spl := fun i => (asc [] i).getD []
  pre := fun i => (asc [] i).getD []
  join := asc []
  loop := asc []
  keep := asc []

def row_arrow_functions_1 : Row I := ⟨62, [.d (.int .i64), .var 36 (.k (.d (.dat 36))) false], [.k (.d (.bool))], arrow_functions_1⟩

theorem rk_arrow_functions_1  : RowOk Go.Proofs.Tryz.prog (row_arrow_functions_1) :=
  row_ok tabOk (dispE_ok (es := []) trivial 3) mixed 22 (fn := Go.Proofs.Tryz.f62) (cd := cdOf Go.Proofs.Tryz.f62) (H := H_arrow_functions_1) (rl := [.tmp 3]) Go.Proofs.Tryz.func62 (by kernel_rfl) (by kernel_rfl) (by kernel_rfl) (by kernel_rfl) (by kernel_rfl) (by kernel_rfl) (by kernel_rfl)

def H_arrow_functions : Hints I where
  tds := fun i => (asc [] i).getD []
  spl := fun i => (asc [] i).getD []
  pre := fun i => (asc [] i).getD []
  join := asc []
  loop := asc []
  keep := asc []

def row_arrow_functions : Row I := ⟨33, [.d (.dat 36), .d (.sl 3)], [.k (.d (.bool))], arrow_functions⟩

theorem rk_arrow_functions  : RowOk Go.Proofs.Tryz.prog (row_arrow_functions) :=
  row_ok tabOk (dispE_ok (es := [rowE tb (row_slices_ContainsFunc_int_int), rowE tb (row_arrow_functions_1)]) ⟨rowE_ok tabOk rk_slices_ContainsFunc_int_int, ⟨rowE_ok tabOk rk_arrow_functions_1, trivial⟩⟩ 3) mixed 9 (fn := Go.Proofs.Tryz.f33) (cd := cdOf Go.Proofs.Tryz.f33) (H := H_arrow_functions) (rl := [.tmp 4]) Go.Proofs.Tryz.func33 (by kernel_rfl) (by kernel_rfl) (by kernel_rfl) (by kernel_rfl) (by kernel_rfl) (by kernel_rfl) (by kernel_rfl)

def H_arrow_choices : Hints I where
  tds := fun i => (asc [] i).getD []
  spl := fun i => (asc [] i).getD []
  pre := fun i => (asc [] i).getD []
  join := asc []
  loop := asc [(58, ⟨68719473504, [], [], [(5, .k (.row 22 false)), (12, .k (.d (.int .i64)))], [((.exit 0), [(5, .k (.row 22 false))])], bnd tb (.slot 11) 1⟩),
    (29898, ⟨17179804480, [14], [], [(6, .k (.row 22 false)), (16, .k (.d (.int .i64)))], [((.exit 2), [(6, .k (.row 22 false))])], bnd tb (.slot 15) 1⟩),
    (7653990, ⟨8588886592, [], [], [(6, .k (.row 22 false)), (9, .k (.d (.int .i64)))], [((.exit 4), [(6, .k (.row 22 false))])], bnd tb (.slot 0) 2⟩)]
  keep := asc []

def row_arrow_choices : Row I := ⟨42, [.d (.int .i64), .d (.int .i64)], [.k (.row 22 false)], arrow_choices⟩

theorem rk_arrow_choices  : RowOk Go.Proofs.Tryz.prog (row_arrow_choices) :=
  row_ok tabOk (dispE_ok (es := [rowE tb row_41]) ⟨rowE_ok tabOk rk_41, trivial⟩ 3) mixed 37 (fn := Go.Proofs.Tryz.f42) (cd := cdOf Go.Proofs.Tryz.f42) (H := H_arrow_choices) (rl := [.tmp 4]) Go.Proofs.Tryz.func42 (by kernel_rfl) (by kernel_rfl) (by kernel_rfl) (by kernel_rfl) (by kernel_rfl) (by kernel_rfl) (by kernel_rfl)

def H_slices_Index_int_int : Hints I where
  tds := fun i => (asc [] i).getD []
  spl := fun i => (asc [] i).getD []
  pre := fun i => (asc [] i).getD []
  join := asc []
  loop := asc [(26, ⟨524080, [], [], [(8, .k (.d (.int .i64)))], [((.exit 0), []), (.ret, [(4, .k (.d (.int .i64)))])], bnd tb (.slot 7) 1⟩)]
  keep := asc []

def row_slices_Index_int_int : Row I := ⟨150, [.d (.sl 3), .d (.int .i64)], [.k (.d (.int .i64))], slices_Index_int_int⟩

theorem rk_slices_Index_int_int  : RowOk Go.Proofs.Tryz.prog (row_slices_Index_int_int) :=
  row_ok tabOk (dispE_ok (es := []) trivial 3) mixed 19 (fn := Go.Proofs.Tryz.f150) (cd := cdOf Go.Proofs.Tryz.f150) (H := H_slices_Index_int_int) (rl := [.tmp 4]) Go.Proofs.Tryz.func150 (by kernel_rfl) (by kernel_rfl) (by kernel_rfl) (by kernel_rfl) (by kernel_rfl) (by kernel_rfl) (by kernel_rfl)

def H_slices_Contains_int_int : Hints I where
  tds := fun i => (asc [] i).getD []
  spl := fun i => (asc [] i).getD []
  pre := fun i => (asc [] i).getD []
  join := asc []
  loop := asc []
  keep := asc []

def row_slices_Contains_int_int : Row I := ⟨117, [.d (.sl 3), .d (.int .i64)], [.k (.d (.bool))], slices_Contains_int_int⟩

theorem rk_slices_Contains_int_int  : RowOk Go.Proofs.Tryz.prog (row_slices_Contains_int_int) :=
  row_ok tabOk (dispE_ok (es := [rowE tb (row_slices_Index_int_int)]) ⟨rowE_ok tabOk rk_slices_Index_int_int, trivial⟩ 3) mixed 9 (fn := Go.Proofs.Tryz.f117) (cd := cdOf Go.Proofs.Tryz.f117) (H := H_slices_Contains_int_int) (rl := [.tmp 4]) Go.Proofs.Tryz.func117 (by kernel_rfl) (by kernel_rfl) (by kernel_rfl) (by kernel_rfl) (by kernel_rfl) (by kernel_rfl) (by kernel_rfl)

def H_core_Meet_int_1 : Hints I where
  tds := fun i => (asc [] i).getD []
  spl := fun i => (asc [] i).getD []
  pre := fun i => (asc [] i).getD []
  join := asc []
  loop := asc []
  keep := asc []

def row_core_Meet_int_1 : Row I := ⟨116, [.d (.int .i64), .var 22 (.k (.d (.sl 3))) false], [.k (.d (.bool))], core_Meet_int_1⟩

theorem rk_core_Meet_int_1  : RowOk Go.Proofs.Tryz.prog (row_core_Meet_int_1) :=
  row_ok tabOk (dispE_ok (es := [rowE tb (row_slices_Contains_int_int)]) ⟨rowE_ok tabOk rk_slices_Contains_int_int, trivial⟩ 3) mixed 7 (fn := Go.Proofs.Tryz.f116) (cd := cdOf Go.Proofs.Tryz.f116) (H := H_core_Meet_int_1) (rl := [.tmp 3]) Go.Proofs.Tryz.func116 (by kernel_rfl) (by kernel_rfl) (by kernel_rfl) (by kernel_rfl) (by kernel_rfl) (by kernel_rfl) (by kernel_rfl)

def H_core_Meet_int : Hints I where
  tds := fun i => (asc [] i).getD []
  spl := fun i => (asc [] i).getD []
  pre := fun i => (asc [] i).getD []
  join := asc []
  loop := asc []
  keep := asc []

def row_core_Meet_int : Row I := ⟨71, [.d (.sl 3), .d (.sl 3)], [.k (.d (.bool))], core_Meet_int⟩

theorem rk_core_Meet_int  : RowOk Go.Proofs.Tryz.prog (row_core_Meet_int) :=
  row_ok tabOk (dispE_ok (es := [rowE tb (row_slices_ContainsFunc_int_int), rowE tb (row_core_Meet_int_1)]) ⟨rowE_ok tabOk rk_slices_ContainsFunc_int_int, ⟨rowE_ok tabOk rk_core_Meet_int_1, trivial⟩⟩ 3) mixed 8 (fn := Go.Proofs.Tryz.f71) (cd := cdOf Go.Proofs.Tryz.f71) (H := H_core_Meet_int) (rl := [.tmp 4]) Go.Proofs.Tryz.func71 (by kernel_rfl) (by kernel_rfl) (by kernel_rfl) (by kernel_rfl) (by kernel_rfl) (by kernel_rfl) (by kernel_rfl)

def H_slices_Compact_int_int : Hints I where
  tds := fun i => (asc [(6, [[], [], [0, 1], [0, 1, 2], [], [], [5], [4, 5, 6], [4, 5, 6, 7], [0, 1, 2, 3, 4, 5, 6, 7, 8]]), (11, [[], [], [0, 1], [0, 1, 2], [], [], [5], [4, 5, 6], [4, 5, 6, 7], [0, 1, 2, 3, 4, 5, 6, 7, 8]])] i).getD []
  spl := fun i => (asc [] i).getD []
  pre := fun i => (asc [] i).getD []
  join := asc []
  loop := asc [(58, ⟨1152921504606846012, [], [], [(0, .k (.row 3 false)), (3, .k (.d (.int .i64)))], [((.exit 0), [(0, .k (.row 3 false))]), (.ret, [(0, .k (.row 3 true)), (2, .k (.d (.sl 3)))])], bnd tb (.len (.slot 0)) 1⟩)]
  keep := asc [(59690, ⟨18014397972611112, 0, 3, [(3, .k (.d (.int .i64))), (5, .k (.d (.int .i64)))], [((.exit 2), [(3, .k (.d (.int .i64)))])], bnd tb (.len (.slot 4)) 1⟩)]

def row_slices_Compact_int_int : Row I := ⟨153, [.row 3 false], [.k (.d (.sl 3))], slices_Compact_int_int⟩

theorem rk_slices_Compact_int_int  : RowOk Go.Proofs.Tryz.prog (row_slices_Compact_int_int) :=
  row_ok tabOk (dispE_ok (es := []) trivial 3) mixed 61 (fn := Go.Proofs.Tryz.f153) (cd := cdOf Go.Proofs.Tryz.f153) (H := H_slices_Compact_int_int) (rl := [.tmp 2]) Go.Proofs.Tryz.func153 (by kernel_rfl) (by kernel_rfl) (by kernel_rfl) (by kernel_rfl) (by kernel_rfl) (by kernel_rfl) (by kernel_rfl)

def H_slices_Clip_int_int : Hints I where
  tds := fun i => (asc [] i).getD []
  spl := fun i => (asc [] i).getD []
  pre := fun i => (asc [] i).getD []
  join := asc []
  loop := asc []
  keep := asc []

def row_slices_Clip_int_int : Row I := ⟨152, [.d (.sl 3)], [.k (.row 3 true)], slices_Clip_int_int⟩

theorem rk_slices_Clip_int_int  : RowOk Go.Proofs.Tryz.prog (row_slices_Clip_int_int) :=
  row_ok tabOk (dispE_ok (es := []) trivial 3) mixed 9 (fn := Go.Proofs.Tryz.f152) (cd := cdOf Go.Proofs.Tryz.f152) (H := H_slices_Clip_int_int) (rl := [.tmp 2]) Go.Proofs.Tryz.func152 (by kernel_rfl) (by kernel_rfl) (by kernel_rfl) (by kernel_rfl) (by kernel_rfl) (by kernel_rfl) (by kernel_rfl)

def H_core_Sorted : Hints I where
  tds := fun i => (asc [] i).getD []
  spl := fun i => (asc [] i).getD []
  pre := fun i => (asc [] i).getD []
  join := asc []
  loop := asc []
  keep := asc []

def row_core_Sorted : Row I := ⟨118, [.d (.sl 3)], [.k (.row 3 true)], core_Sorted⟩

theorem rk_core_Sorted  : RowOk Go.Proofs.Tryz.prog (row_core_Sorted) :=
  row_ok tabOk (dispE_ok (es := [rowE tb row_41, rioE tb row_151, rowE tb (row_slices_Compact_int_int), rowE tb (row_slices_Clip_int_int)]) ⟨rowE_ok tabOk rk_41, ⟨rioE_ok tabOk rk_151, ⟨rowE_ok tabOk rk_slices_Compact_int_int, ⟨rowE_ok tabOk rk_slices_Clip_int_int, trivial⟩⟩⟩⟩ 3) mixed 11 (fn := Go.Proofs.Tryz.f118) (cd := cdOf Go.Proofs.Tryz.f118) (H := H_core_Sorted) (rl := [.tmp 2]) Go.Proofs.Tryz.func118 (by kernel_rfl) (by kernel_rfl) (by kernel_rfl) (by kernel_rfl) (by kernel_rfl) (by kernel_rfl) (by kernel_rfl)

def H_core_Normal : Hints I where
  tds := fun i => (asc [(1, [[], [0], [0, 1], [], [3], [0, 1, 2, 3, 4], [], [6], [0, 1, 2, 3, 4, 5, 6, 7], [0, 1, 2, 3, 4, 5, 6, 7, 8]])] i).getD []
  spl := fun i => (asc [] i).getD []
  pre := fun i => (asc [] i).getD []
  join := asc []
  loop := asc []
  keep := asc []

def row_core_Normal : Row I := ⟨72, [.d (.dat 47)], [.k (.d (.dat 47))], core_Normal⟩

theorem rk_core_Normal  : RowOk Go.Proofs.Tryz.prog (row_core_Normal) :=
  row_ok tabOk (dispE_ok (es := [rowE tb (row_core_Sorted)]) ⟨rowE_ok tabOk rk_core_Sorted, trivial⟩ 3) mixed 12 (fn := Go.Proofs.Tryz.f72) (cd := cdOf Go.Proofs.Tryz.f72) (H := H_core_Normal) (rl := [.cell 2 47]) Go.Proofs.Tryz.func72 (by kernel_rfl) (by kernel_rfl) (by kernel_rfl) (by kernel_rfl) (by kernel_rfl) (by kernel_rfl) (by kernel_rfl)

def H_arrow_forms : Hints I where
  tds := fun i => (asc [(32, [[], [0], [], [2], [0, 1, 2, 3], [0, 1, 2, 3, 4], [0, 1, 2, 3, 4, 5], [0, 1, 2, 3, 4, 5, 6], [0, 1, 2, 3, 4, 5, 6, 7], [0, 1, 2, 3, 4, 5, 6], [0, 1, 2, 3, 4, 5, 6], [0, 1, 2, 3, 4, 5, 6, 9, 10], [0, 1, 2, 3, 4, 5, 6, 9, 10, 11], [0, 1, 2, 3, 4, 5, 6, 7, 8, 9, 10, 11, 12], [0, 1, 2, 3, 4, 5, 6, 7, 8, 9, 10, 11, 12, 13], [0, 1, 2, 3, 4, 5, 6, 7, 8, 9, 10, 11, 12, 13, 14], [0, 1, 2, 3, 4, 5, 6, 7, 8, 9, 10, 11, 12, 13, 14, 15], [0, 1, 2, 3, 4, 5, 6, 7, 8, 9, 10, 11, 12, 13, 14, 15, 16]])] i).getD []
  spl := fun i => (asc [] i).getD []
  pre := fun i => (asc [] i).getD []
  join := asc [(16381, ⟨22657557121707113111800289765010735290080296960, [], [], [(.normal, [(19, .k (.d (.sl 47))), (22, .k (.row 57 false))])]⟩)]
  loop := asc [(250, ⟨4503049871560704, [], [], [(11, .k (.row 47 false)), (39, .k (.d (.int .i64)))], [((.exit 0), [(11, .k (.row 47 false))])], bnd tb (.slot 38) 1⟩),
    (2042, ⟨5192296858534826475608991722881280, [], [(13, .lvs [.row 3 false, .row 3 false, .d (.bool)])], [(11, .k (.row 47 false)), (14, .k (.d (.bool))), (60, .k (.d (.int .i64)))], [((.exit 2), [(11, .k (.row 47 false)), (14, .k (.d (.bool)))]), (.ret, [(8, .k (.row 57 false)), (11, .k (.row 47 false))])], bnd tb (.slot 59) 1⟩),
    (8186, ⟨680543964654442787616235092878222164224, [], [], [(19, .k (.row 47 false)), (112, .k (.row 47 false)), (114, .k (.d (.int .i64)))], [((.exit 4), [(19, .k (.row 47 false)), (112, .k (.row 47 false))]), (.ret, [(8, .k (.row 57 false)), (112, .k (.row 47 false))])], bnd tb (.slot 113) 1⟩),
    (1048490, ⟨186889521873689210665296197983594691138502415876096, [], [], [(23, .k (.row 47 false)), (157, .k (.d (.int .i64)))], [((.exit 6), [(23, .k (.row 47 false))])], bnd tb (.slot 156) 1⟩)]
  keep := asc []

def row_arrow_forms : Row I := ⟨43, [.d (.dat 36), .d (.sl 3), .d (.int .i64), .d (.sl 3)], [.k (.row 57 false)], arrow_forms⟩

theorem rk_arrow_forms  : RowOk Go.Proofs.Tryz.prog (row_arrow_forms) :=
  row_ok tabOk (dispE_ok (es := [rowE tb (row_core_Meet_int), rowE tb (row_core_Normal)]) ⟨rowE_ok tabOk rk_core_Meet_int, ⟨rowE_ok tabOk rk_core_Normal, trivial⟩⟩ 3) mixed 173 (fn := Go.Proofs.Tryz.f43) (cd := cdOf Go.Proofs.Tryz.f43) (H := H_arrow_forms) (rl := [.tmp 8]) Go.Proofs.Tryz.func43 (by kernel_rfl) (by kernel_rfl) (by kernel_rfl) (by kernel_rfl) (by kernel_rfl) (by kernel_rfl) (by kernel_rfl)

def H_arrow_Forms (n : Nat) : Hints I where
  tds := fun i => (asc [(1, [[], [0], [0, 1], [0, 1, 2], [0, 1, 2, 3], [0, 1, 2, 3], [0, 1, 2, 3, 5], [0, 1, 2, 3], [0, 1, 2, 3, 7], [0, 1, 2, 3, 5, 6, 7, 8], [0, 1, 2, 3, 4, 5, 6, 7, 8, 9], [0, 1, 2, 3, 4, 5, 6, 7, 8, 9, 10], [0, 1, 2, 3, 4, 5, 6, 7, 8, 9, 10, 11]])] i).getD []
  spl := fun i => (asc [(1, [18])] i).getD []
  pre := fun i => (asc [] i).getD []
  join := asc [(12, ⟨268402688, [], [], [(.normal, [(27, .k (.d (.bool)))])]⟩)]
  loop := asc [(122, ⟨2251731094209728, [], [], [(36, .k (.d (.int .i64)))], [((.exit 0), []), (.ret, [(6, .k (.row 57 false)), (7, .k (.d (.int .i64)))])], bnd tb (.slot 35) 1⟩),
    (1018, ⟨2360606780682519201792, [57], [], [(11, .k (.row 57 false)), (59, .k (.d (.int .i64)))], [((.exit 2), [(11, .k (.row 57 false))])], bnd tb (.slot 58) 1⟩)]
  keep := asc []

def row_arrow_Forms (n : Nat) : Row I := ⟨17, [.d (.dat 36), .d (.sl 3), .d (.int .i64)], [.k (.row 57 false), .k (.d (.int .i64))], arrow_Forms n⟩

theorem rk_arrow_Forms (n : Nat)  : RowOk Go.Proofs.Tryz.prog (row_arrow_Forms n) :=
  row_ok tabOk (dispE_ok (es := [rowE tb (row_typeexpr_WellFormed n), rowE tb row_41, rowE tb (row_arrow_functions), rowE tb (row_arrow_choices), rowE tb (row_arrow_forms)]) ⟨rowE_ok tabOk (rk_typeexpr_WellFormed n), ⟨rowE_ok tabOk rk_41, ⟨rowE_ok tabOk rk_arrow_functions, ⟨rowE_ok tabOk rk_arrow_choices, ⟨rowE_ok tabOk rk_arrow_forms, trivial⟩⟩⟩⟩⟩ 3) mixed 72 (fn := Go.Proofs.Tryz.f17) (cd := cdOf Go.Proofs.Tryz.f17) (H := (H_arrow_Forms n)) (rl := [.tmp 6, .tmp 7]) Go.Proofs.Tryz.func17 (by kernel_rfl) (by kernel_rfl) (by kernel_rfl) (by kernel_rfl) (by kernel_rfl) (by kernel_rfl) (by kernel_rfl)

def H_slices_IndexFunc_api_Value_api_Value : Hints I where
  tds := fun i => (asc [] i).getD []
  spl := fun i => (asc [] i).getD []
  pre := fun i => (asc [] i).getD []
  join := asc []
  loop := asc [(26, ⟨524080, [], [], [(8, .k (.d (.int .i64)))], [((.exit 0), []), (.ret, [(4, .k (.d (.int .i64)))])], bnd tb (.slot 7) 1⟩)]
  keep := asc []

def row_slices_IndexFunc_api_Value_api_Value : Row I := ⟨109, [.d (.sl 28), .fn [.dat 28] [.k (.d (.bool))]], [.k (.d (.int .i64))], slices_IndexFunc_api_Value_api_Value⟩

theorem rk_slices_IndexFunc_api_Value_api_Value  : RowOk Go.Proofs.Tryz.prog (row_slices_IndexFunc_api_Value_api_Value) :=
  row_ok tabOk (dispE_ok (es := []) trivial 3) mixed 19 (fn := Go.Proofs.Tryz.f109) (cd := cdOf Go.Proofs.Tryz.f109) (H := H_slices_IndexFunc_api_Value_api_Value) (rl := [.tmp 4]) Go.Proofs.Tryz.func109 (by kernel_rfl) (by kernel_rfl) (by kernel_rfl) (by kernel_rfl) (by kernel_rfl) (by kernel_rfl) (by kernel_rfl)

def H_slices_ContainsFunc_api_Value_api_Value : Hints I where
  tds := fun i => (asc [] i).getD []
  spl := fun i => (asc [] i).getD []
  pre := fun i => (asc [] i).getD []
  join := asc []
  loop := asc []
  keep := asc []

def row_slices_ContainsFunc_api_Value_api_Value : Row I := ⟨64, [.d (.sl 28), .fn [.dat 28] [.k (.d (.bool))]], [.k (.d (.bool))], slices_ContainsFunc_api_Value_api_Value⟩

theorem rk_slices_ContainsFunc_api_Value_api_Value  : RowOk Go.Proofs.Tryz.prog (row_slices_ContainsFunc_api_Value_api_Value) :=
  row_ok tabOk (dispE_ok (es := [rowE tb (row_slices_IndexFunc_api_Value_api_Value)]) ⟨rowE_ok tabOk rk_slices_IndexFunc_api_Value_api_Value, trivial⟩ 3) mixed 9 (fn := Go.Proofs.Tryz.f64) (cd := cdOf Go.Proofs.Tryz.f64) (H := H_slices_ContainsFunc_api_Value_api_Value) (rl := [.tmp 4]) Go.Proofs.Tryz.func64 (by kernel_rfl) (by kernel_rfl) (by kernel_rfl) (by kernel_rfl) (by kernel_rfl) (by kernel_rfl) (by kernel_rfl)

def H_value_uses : Hints I where
  tds := fun i => (asc [] i).getD []
  spl := fun i => (asc [] i).getD []
  pre := fun i => (asc [] i).getD []
  join := asc [(105, ⟨160, [], [], [(.normal, [(5, .k (.d (.bool)))])]⟩),
    (429, ⟨2560, [], [], [(.normal, [(9, .k (.d (.bool)))])]⟩),
    (6909, ⟨327680, [], [], [(.normal, [(16, .k (.d (.bool)))])]⟩)]
  loop := asc []
  keep := asc []

def row_value_uses : Row I := ⟨154, [.d (.int .i64)], [.k (.d (.dat 153)), .k (.d (.bool))], value_uses⟩

theorem rk_value_uses  : RowOk Go.Proofs.Tryz.prog (row_value_uses) :=
  row_ok tabOk (dispE_ok (es := []) trivial 3) mixed 27 (fn := Go.Proofs.Tryz.f154) (cd := cdOf Go.Proofs.Tryz.f154) (H := H_value_uses) (rl := [.cell 2 153, .tmp 3]) Go.Proofs.Tryz.func154 (by kernel_rfl) (by kernel_rfl) (by kernel_rfl) (by kernel_rfl) (by kernel_rfl) (by kernel_rfl) (by kernel_rfl)

def H_value_ascending_string : Hints I where
  tds := fun i => (asc [(4, [[], [], [], [2], [1, 2, 3], [1, 2, 3, 4], [], [], [6, 7], [6, 7, 8], [0, 1, 2, 3, 4, 5, 6, 7, 8, 9], [0, 1, 2, 3, 4, 5, 6, 7, 8, 9, 10]])] i).getD []
  spl := fun i => (asc [] i).getD []
  pre := fun i => (asc [] i).getD []
  join := asc []
  loop := asc [(26, ⟨16777200, [], [], [(5, .k (.d (.int .i64)))], [((.exit 0), []), (.ret, [(4, .k (.d (.bool)))])], bnd tb (.len (.slot 0)) 1⟩)]
  keep := asc []

def row_value_ascending_string : Row I := ⟨173, [.d (.sl 9), .fn [.str, .str] [.k (.d (.int .i64))]], [.k (.d (.bool))], value_ascending_string⟩

theorem rk_value_ascending_string  : RowOk Go.Proofs.Tryz.prog (row_value_ascending_string) :=
  row_ok tabOk (dispE_ok (es := []) trivial 3) mixed 24 (fn := Go.Proofs.Tryz.f173) (cd := cdOf Go.Proofs.Tryz.f173) (H := H_value_ascending_string) (rl := [.tmp 4]) Go.Proofs.Tryz.func173 (by kernel_rfl) (by kernel_rfl) (by kernel_rfl) (by kernel_rfl) (by kernel_rfl) (by kernel_rfl) (by kernel_rfl)

def H_value_validLabels : Hints I where
  tds := fun i => (asc [] i).getD []
  spl := fun i => (asc [] i).getD []
  pre := fun i => (asc [] i).getD []
  join := asc []
  loop := asc [(58, ⟨261140, [], [], [(10, .k (.d (.int .i64)))], [((.exit 0), []), (.ret, [(2, .k (.d (.bool)))])], bnd tb (.slot 9) 1⟩)]
  keep := asc []

def row_value_validLabels : Row I := ⟨155, [.d (.sl 9)], [.k (.d (.bool))], value_validLabels⟩

theorem rk_value_validLabels  : RowOk Go.Proofs.Tryz.prog (row_value_validLabels) :=
  row_ok tabOk (dispE_ok (es := [rowE tb (row_value_ascending_string), rowE tb (row_strings_Compare), rowE tb (row_ident_IsVariable)]) ⟨rowE_ok tabOk rk_value_ascending_string, ⟨rowE_ok tabOk rk_strings_Compare, ⟨rowE_ok tabOk rk_ident_IsVariable, trivial⟩⟩⟩ 3) mixed 18 (fn := Go.Proofs.Tryz.f155) (cd := cdOf Go.Proofs.Tryz.f155) (H := H_value_validLabels) (rl := [.tmp 2]) Go.Proofs.Tryz.func155 (by kernel_rfl) (by kernel_rfl) (by kernel_rfl) (by kernel_rfl) (by kernel_rfl) (by kernel_rfl) (by kernel_rfl)

def H_value_ascending_api_Key : Hints I where
  tds := fun i => (asc [(4, [[], [], [], [2], [1, 2, 3], [1, 2, 3, 4], [], [], [6, 7], [6, 7, 8], [0, 1, 2, 3, 4, 5, 6, 7, 8, 9], [0, 1, 2, 3, 4, 5, 6, 7, 8, 9, 10]])] i).getD []
  spl := fun i => (asc [] i).getD []
  pre := fun i => (asc [] i).getD []
  join := asc []
  loop := asc [(26, ⟨16777200, [], [], [(5, .k (.d (.int .i64)))], [((.exit 0), []), (.ret, [(4, .k (.d (.bool)))])], bnd tb (.len (.slot 0)) 1⟩)]
  keep := asc []

def row_value_ascending_api_Key : Row I := ⟨174, [.d (.sl 114), .fn [.dat 114, .dat 114] [.k (.d (.int .i64))]], [.k (.d (.bool))], value_ascending_api_Key⟩

theorem rk_value_ascending_api_Key  : RowOk Go.Proofs.Tryz.prog (row_value_ascending_api_Key) :=
  row_ok tabOk (dispE_ok (es := []) trivial 3) mixed 24 (fn := Go.Proofs.Tryz.f174) (cd := cdOf Go.Proofs.Tryz.f174) (H := H_value_ascending_api_Key) (rl := [.tmp 4]) Go.Proofs.Tryz.func174 (by kernel_rfl) (by kernel_rfl) (by kernel_rfl) (by kernel_rfl) (by kernel_rfl) (by kernel_rfl) (by kernel_rfl)

def H_value_validMap : Hints I where
  tds := fun i => (asc [] i).getD []
  spl := fun i => (asc [] i).getD []
  pre := fun i => (asc [] i).getD []
  join := asc []
  loop := asc [(58, ⟨534773780, [], [], [(21, .k (.d (.int .i64)))], [((.exit 0), []), (.ret, [(2, .k (.d (.bool)))])], bnd tb (.slot 20) 1⟩)]
  keep := asc []

def row_value_validMap : Row I := ⟨156, [.d (.dat 28)], [.k (.d (.bool))], value_validMap⟩

theorem rk_value_validMap  : RowOk Go.Proofs.Tryz.prog (row_value_validMap) :=
  row_ok tabOk (dispE_ok (es := [rowE tb (row_value_ascending_api_Key), rowE tb (row_ident_CompareKeys), rowE tb (row_ident_ValidKey)]) ⟨rowE_ok tabOk rk_value_ascending_api_Key, ⟨rowE_ok tabOk rk_ident_CompareKeys, ⟨rowE_ok tabOk rk_ident_ValidKey, trivial⟩⟩⟩ 3) mixed 29 (fn := Go.Proofs.Tryz.f156) (cd := cdOf Go.Proofs.Tryz.f156) (H := H_value_validMap) (rl := [.tmp 2]) Go.Proofs.Tryz.func156 (by kernel_rfl) (by kernel_rfl) (by kernel_rfl) (by kernel_rfl) (by kernel_rfl) (by kernel_rfl) (by kernel_rfl)

def H_value_ascending_api_Entry : Hints I where
  tds := fun i => (asc [(4, [[], [], [], [2], [1, 2, 3], [1, 2, 3, 4], [], [], [6, 7], [6, 7, 8], [0, 1, 2, 3, 4, 5, 6, 7, 8, 9], [0, 1, 2, 3, 4, 5, 6, 7, 8, 9, 10]])] i).getD []
  spl := fun i => (asc [] i).getD []
  pre := fun i => (asc [] i).getD []
  join := asc []
  loop := asc [(26, ⟨16777200, [], [], [(5, .k (.d (.int .i64)))], [((.exit 0), []), (.ret, [(4, .k (.d (.bool)))])], bnd tb (.len (.slot 0)) 1⟩)]
  keep := asc []

def row_value_ascending_api_Entry : Row I := ⟨175, [.d (.sl 30), .fn [.dat 30, .dat 30] [.k (.d (.int .i64))]], [.k (.d (.bool))], value_ascending_api_Entry⟩

theorem rk_value_ascending_api_Entry  : RowOk Go.Proofs.Tryz.prog (row_value_ascending_api_Entry) :=
  row_ok tabOk (dispE_ok (es := []) trivial 3) mixed 24 (fn := Go.Proofs.Tryz.f175) (cd := cdOf Go.Proofs.Tryz.f175) (H := H_value_ascending_api_Entry) (rl := [.tmp 4]) Go.Proofs.Tryz.func175 (by kernel_rfl) (by kernel_rfl) (by kernel_rfl) (by kernel_rfl) (by kernel_rfl) (by kernel_rfl) (by kernel_rfl)

def H_value_compareLists_api_Value : Hints I where
  tds := fun i => (asc [(7, [[], [], [], [1, 2], [1, 2, 3], [], [], [5, 6], [5, 6, 7], [0, 1, 2, 3, 4, 5, 6, 7, 8], [0, 1, 2, 3, 4, 5, 6, 7, 8, 9]])] i).getD []
  spl := fun i => (asc [] i).getD []
  pre := fun i => (asc [] i).getD []
  join := asc []
  loop := asc [(58, ⟨137437905728, [], [], [(20, .k (.d (.int .i64)))], [((.exit 0), []), (.ret, [(6, .k (.d (.int .i64)))])], bnd tb (.slot 19) 1⟩)]
  keep := asc []

def row_value_compareLists_api_Value : Row I := ⟨188, [.d (.sl 28), .d (.sl 28), .fn [.dat 28, .dat 28] [.k (.d (.int .i64))]], [.k (.d (.int .i64))], value_compareLists_api_Value⟩

theorem rk_value_compareLists_api_Value  : RowOk Go.Proofs.Tryz.prog (row_value_compareLists_api_Value) :=
  row_ok tabOk (dispE_ok (es := [rowE tb (row_cmp_Compare_int)]) ⟨rowE_ok tabOk rk_cmp_Compare_int, trivial⟩ 3) mixed 37 (fn := Go.Proofs.Tryz.f188) (cd := cdOf Go.Proofs.Tryz.f188) (H := H_value_compareLists_api_Value) (rl := [.tmp 6]) Go.Proofs.Tryz.func188 (by kernel_rfl) (by kernel_rfl) (by kernel_rfl) (by kernel_rfl) (by kernel_rfl) (by kernel_rfl) (by kernel_rfl)

def H_cmp_isNaN_int64 : Hints I where
  tds := fun i => (asc [] i).getD []
  spl := fun i => (asc [] i).getD []
  pre := fun i => (asc [] i).getD []
  join := asc []
  loop := asc []
  keep := asc []

def row_cmp_isNaN_int64 : Row I := ⟨209, [.d (.int .i64)], [.k (.d (.bool))], cmp_isNaN_int64⟩

theorem rk_cmp_isNaN_int64  : RowOk Go.Proofs.Tryz.prog (row_cmp_isNaN_int64) :=
  row_ok tabOk (dispE_ok (es := []) trivial 3) mixed 6 (fn := Go.Proofs.Tryz.f209) (cd := cdOf Go.Proofs.Tryz.f209) (H := H_cmp_isNaN_int64) (rl := [.tmp 2]) Go.Proofs.Tryz.func209 (by kernel_rfl) (by kernel_rfl) (by kernel_rfl) (by kernel_rfl) (by kernel_rfl) (by kernel_rfl) (by kernel_rfl)

def H_cmp_Compare_int64 : Hints I where
  tds := fun i => (asc [] i).getD []
  spl := fun i => (asc [] i).getD []
  pre := fun i => (asc [] i).getD []
  join := asc []
  loop := asc []
  keep := asc []

def row_cmp_Compare_int64 : Row I := ⟨189, [.d (.int .i64), .d (.int .i64)], [.k (.d (.int .i64))], cmp_Compare_int64⟩

theorem rk_cmp_Compare_int64  : RowOk Go.Proofs.Tryz.prog (row_cmp_Compare_int64) :=
  row_ok tabOk (dispE_ok (es := [rowE tb (row_cmp_isNaN_int64)]) ⟨rowE_ok tabOk rk_cmp_isNaN_int64, trivial⟩ 3) mixed 20 (fn := Go.Proofs.Tryz.f189) (cd := cdOf Go.Proofs.Tryz.f189) (H := H_cmp_Compare_int64) (rl := [.tmp 4]) Go.Proofs.Tryz.func189 (by kernel_rfl) (by kernel_rfl) (by kernel_rfl) (by kernel_rfl) (by kernel_rfl) (by kernel_rfl) (by kernel_rfl)

def H_value_compareLists_api_Key : Hints I where
  tds := fun i => (asc [(7, [[], [], [], [1, 2], [1, 2, 3], [], [], [5, 6], [5, 6, 7], [0, 1, 2, 3, 4, 5, 6, 7, 8], [0, 1, 2, 3, 4, 5, 6, 7, 8, 9]])] i).getD []
  spl := fun i => (asc [] i).getD []
  pre := fun i => (asc [] i).getD []
  join := asc []
  loop := asc [(58, ⟨137437905728, [], [], [(20, .k (.d (.int .i64)))], [((.exit 0), []), (.ret, [(6, .k (.d (.int .i64)))])], bnd tb (.slot 19) 1⟩)]
  keep := asc []

def row_value_compareLists_api_Key : Row I := ⟨190, [.d (.sl 114), .d (.sl 114), .fn [.dat 114, .dat 114] [.k (.d (.int .i64))]], [.k (.d (.int .i64))], value_compareLists_api_Key⟩

theorem rk_value_compareLists_api_Key  : RowOk Go.Proofs.Tryz.prog (row_value_compareLists_api_Key) :=
  row_ok tabOk (dispE_ok (es := [rowE tb (row_cmp_Compare_int)]) ⟨rowE_ok tabOk rk_cmp_Compare_int, trivial⟩ 3) mixed 37 (fn := Go.Proofs.Tryz.f190) (cd := cdOf Go.Proofs.Tryz.f190) (H := H_value_compareLists_api_Key) (rl := [.tmp 6]) Go.Proofs.Tryz.func190 (by kernel_rfl) (by kernel_rfl) (by kernel_rfl) (by kernel_rfl) (by kernel_rfl) (by kernel_rfl) (by kernel_rfl)

def H_value_compareLists_api_Entry : Hints I where
  tds := fun i => (asc [(7, [[], [], [], [1, 2], [1, 2, 3], [], [], [5, 6], [5, 6, 7], [0, 1, 2, 3, 4, 5, 6, 7, 8], [0, 1, 2, 3, 4, 5, 6, 7, 8, 9]])] i).getD []
  spl := fun i => (asc [] i).getD []
  pre := fun i => (asc [] i).getD []
  join := asc []
  loop := asc [(58, ⟨137437905728, [], [], [(20, .k (.d (.int .i64)))], [((.exit 0), []), (.ret, [(6, .k (.d (.int .i64)))])], bnd tb (.slot 19) 1⟩)]
  keep := asc []

def row_value_compareLists_api_Entry : Row I := ⟨191, [.d (.sl 30), .d (.sl 30), .fn [.dat 30, .dat 30] [.k (.d (.int .i64))]], [.k (.d (.int .i64))], value_compareLists_api_Entry⟩

theorem rk_value_compareLists_api_Entry  : RowOk Go.Proofs.Tryz.prog (row_value_compareLists_api_Entry) :=
  row_ok tabOk (dispE_ok (es := [rowE tb (row_cmp_Compare_int)]) ⟨rowE_ok tabOk rk_cmp_Compare_int, trivial⟩ 3) mixed 37 (fn := Go.Proofs.Tryz.f191) (cd := cdOf Go.Proofs.Tryz.f191) (H := H_value_compareLists_api_Entry) (rl := [.tmp 6]) Go.Proofs.Tryz.func191 (by kernel_rfl) (by kernel_rfl) (by kernel_rfl) (by kernel_rfl) (by kernel_rfl) (by kernel_rfl) (by kernel_rfl)

def H_value_compareLists_string : Hints I where
  tds := fun i => (asc [(7, [[], [], [], [1, 2], [1, 2, 3], [], [], [5, 6], [5, 6, 7], [0, 1, 2, 3, 4, 5, 6, 7, 8], [0, 1, 2, 3, 4, 5, 6, 7, 8, 9]])] i).getD []
  spl := fun i => (asc [] i).getD []
  pre := fun i => (asc [] i).getD []
  join := asc []
  loop := asc [(58, ⟨137437905728, [], [], [(20, .k (.d (.int .i64)))], [((.exit 0), []), (.ret, [(6, .k (.d (.int .i64)))])], bnd tb (.slot 19) 1⟩)]
  keep := asc []

def row_value_compareLists_string : Row I := ⟨192, [.d (.sl 9), .d (.sl 9), .fn [.str, .str] [.k (.d (.int .i64))]], [.k (.d (.int .i64))], value_compareLists_string⟩

theorem rk_value_compareLists_string  : RowOk Go.Proofs.Tryz.prog (row_value_compareLists_string) :=
  row_ok tabOk (dispE_ok (es := [rowE tb (row_cmp_Compare_int)]) ⟨rowE_ok tabOk rk_cmp_Compare_int, trivial⟩ 3) mixed 37 (fn := Go.Proofs.Tryz.f192) (cd := cdOf Go.Proofs.Tryz.f192) (H := H_value_compareLists_string) (rl := [.tmp 6]) Go.Proofs.Tryz.func192 (by kernel_rfl) (by kernel_rfl) (by kernel_rfl) (by kernel_rfl) (by kernel_rfl) (by kernel_rfl) (by kernel_rfl)

def H_value_Compare (n : Nat) : Hints I where
  tds := fun i => (asc [] i).getD []
  spl := fun i => (asc [] i).getD []
  pre := fun i => (asc [] i).getD []
  join := asc []
  loop := asc []
  keep := asc []

def row_value_Compare (n : Nat) : Row I := ⟨165, [.d (.dat 28), .d (.dat 28)], [.k (.d (.int .i64))], value_Compare n⟩

def H_value_compareEntries (n : Nat) : Hints I where
  tds := fun i => (asc [] i).getD []
  spl := fun i => (asc [] i).getD []
  pre := fun i => (asc [] i).getD []
  join := asc []
  loop := asc []
  keep := asc []

def row_value_compareEntries (n : Nat) : Row I := ⟨126, [.d (.dat 30), .d (.dat 30)], [.k (.d (.int .i64))], value_compareEntries n⟩

def H_value_compareValues (n : Nat) : Hints I where
  tds := fun i => (asc [] i).getD []
  spl := fun i => (asc [] i).getD []
  pre := fun i => (asc [] i).getD []
  join := asc []
  loop := asc []
  keep := asc []

def row_value_compareValues (n : Nat) : Row I := ⟨164, [.d (.sl 28), .d (.sl 28)], [.k (.d (.int .i64))], value_compareValues n⟩

theorem rkB_value_Compare (n : Nat) (h_value_Compare : RowOk Go.Proofs.Tryz.prog (row_value_Compare n)) (h_value_compareEntries : RowOk Go.Proofs.Tryz.prog (row_value_compareEntries n)) (h_value_compareValues : RowOk Go.Proofs.Tryz.prog (row_value_compareValues n)) : RowOk Go.Proofs.Tryz.prog (row_value_Compare (n + 1)) :=
  row_ok tabOk (dispE_ok (es := [rowE tb (row_cmp_Compare_int), rowE tb (row_cmp_Compare_int64), rowE tb (row_strings_Compare), rowE tb (row_value_compareLists_api_Key), rowE tb (row_ident_CompareKeys), rowE tb (row_value_compareValues n), rowE tb (row_value_compareLists_api_Entry), rowE tb (row_value_compareEntries n), rowE tb (row_value_compareLists_string)]) ⟨rowE_ok tabOk rk_cmp_Compare_int, ⟨rowE_ok tabOk rk_cmp_Compare_int64, ⟨rowE_ok tabOk rk_strings_Compare, ⟨rowE_ok tabOk rk_value_compareLists_api_Key, ⟨rowE_ok tabOk rk_ident_CompareKeys, ⟨rowE_ok tabOk h_value_compareValues, ⟨rowE_ok tabOk rk_value_compareLists_api_Entry, ⟨rowE_ok tabOk h_value_compareEntries, ⟨rowE_ok tabOk rk_value_compareLists_string, trivial⟩⟩⟩⟩⟩⟩⟩⟩⟩ 3) mixed 64 (fn := Go.Proofs.Tryz.f165) (cd := cdOf Go.Proofs.Tryz.f165) (H := (H_value_Compare n)) (rl := [.tmp 4]) Go.Proofs.Tryz.func165 (by kernel_rfl) (by kernel_rfl) (by kernel_rfl) (by kernel_rfl) (by kernel_rfl) (by kernel_rfl) (by kernel_rfl)

theorem rkB_value_compareEntries (n : Nat) (h_value_Compare : RowOk Go.Proofs.Tryz.prog (row_value_Compare n)) (h_value_compareEntries : RowOk Go.Proofs.Tryz.prog (row_value_compareEntries n)) (h_value_compareValues : RowOk Go.Proofs.Tryz.prog (row_value_compareValues n)) : RowOk Go.Proofs.Tryz.prog (row_value_compareEntries (n + 1)) :=
  row_ok tabOk (dispE_ok (es := [rowE tb (row_value_compareValues n), rowE tb (row_value_Compare n)]) ⟨rowE_ok tabOk h_value_compareValues, ⟨rowE_ok tabOk h_value_Compare, trivial⟩⟩ 3) mixed 26 (fn := Go.Proofs.Tryz.f126) (cd := cdOf Go.Proofs.Tryz.f126) (H := (H_value_compareEntries n)) (rl := [.tmp 4]) Go.Proofs.Tryz.func126 (by kernel_rfl) (by kernel_rfl) (by kernel_rfl) (by kernel_rfl) (by kernel_rfl) (by kernel_rfl) (by kernel_rfl)

theorem rkB_value_compareValues (n : Nat) (h_value_Compare : RowOk Go.Proofs.Tryz.prog (row_value_Compare n)) (h_value_compareEntries : RowOk Go.Proofs.Tryz.prog (row_value_compareEntries n)) (h_value_compareValues : RowOk Go.Proofs.Tryz.prog (row_value_compareValues n)) : RowOk Go.Proofs.Tryz.prog (row_value_compareValues (n + 1)) :=
  row_ok tabOk (dispE_ok (es := [rowE tb (row_value_compareLists_api_Value), rowE tb (row_value_Compare n)]) ⟨rowE_ok tabOk rk_value_compareLists_api_Value, ⟨rowE_ok tabOk h_value_Compare, trivial⟩⟩ 3) mixed 8 (fn := Go.Proofs.Tryz.f164) (cd := cdOf Go.Proofs.Tryz.f164) (H := (H_value_compareValues n)) (rl := [.tmp 4]) Go.Proofs.Tryz.func164 (by kernel_rfl) (by kernel_rfl) (by kernel_rfl) (by kernel_rfl) (by kernel_rfl) (by kernel_rfl) (by kernel_rfl)

theorem rk_scc_value_Compare : ∀ n : Nat, RowOk Go.Proofs.Tryz.prog (row_value_Compare n) ∧ RowOk Go.Proofs.Tryz.prog (row_value_compareEntries n) ∧ RowOk Go.Proofs.Tryz.prog (row_value_compareValues n)
  | 0 => ⟨rowOk_none (by kernel_rfl), rowOk_none (by kernel_rfl), rowOk_none (by kernel_rfl)⟩
  | n + 1 => by
    obtain ⟨h0, h1, h2⟩ := rk_scc_value_Compare n
    exact ⟨rkB_value_Compare n h0 h1 h2, rkB_value_compareEntries n h0 h1 h2, rkB_value_compareValues n h0 h1 h2⟩

theorem rk_value_Compare (n : Nat) : RowOk Go.Proofs.Tryz.prog (row_value_Compare n) := (rk_scc_value_Compare n).1

theorem rk_value_compareEntries (n : Nat) : RowOk Go.Proofs.Tryz.prog (row_value_compareEntries n) := (rk_scc_value_Compare n).2.1

def H_value_Equal (n : Nat) : Hints I where
  tds := fun i => (asc [] i).getD []
  spl := fun i => (asc [] i).getD []
  pre := fun i => (asc [] i).getD []
  join := asc []
  loop := asc []
  keep := asc []

def row_value_Equal (n : Nat) : Row I := ⟨159, [.d (.dat 28), .d (.dat 28)], [.k (.d (.bool))], value_Equal n⟩

theorem rk_value_Equal (n : Nat)  : RowOk Go.Proofs.Tryz.prog (row_value_Equal n) :=
  row_ok tabOk (dispE_ok (es := [rowE tb (row_value_Compare n)]) ⟨rowE_ok tabOk (rk_value_Compare n), trivial⟩ 3) mixed 9 (fn := Go.Proofs.Tryz.f159) (cd := cdOf Go.Proofs.Tryz.f159) (H := (H_value_Equal n)) (rl := [.tmp 4]) Go.Proofs.Tryz.func159 (by kernel_rfl) (by kernel_rfl) (by kernel_rfl) (by kernel_rfl) (by kernel_rfl) (by kernel_rfl) (by kernel_rfl)

def H_value_isZero (n : Nat) : Hints I where
  tds := fun i => (asc [] i).getD []
  spl := fun i => (asc [] i).getD []
  pre := fun i => (asc [] i).getD []
  join := asc []
  loop := asc []
  keep := asc []

def row_value_isZero (n : Nat) : Row I := ⟨123, [.d (.dat 28)], [.k (.d (.bool))], value_isZero n⟩

theorem rk_value_isZero (n : Nat)  : RowOk Go.Proofs.Tryz.prog (row_value_isZero n) :=
  row_ok tabOk (dispE_ok (es := [rowE tb (row_value_Equal n)]) ⟨rowE_ok tabOk (rk_value_Equal n), trivial⟩ 3) mixed 6 (fn := Go.Proofs.Tryz.f123) (cd := cdOf Go.Proofs.Tryz.f123) (H := (H_value_isZero n)) (rl := [.tmp 2]) Go.Proofs.Tryz.func123 (by kernel_rfl) (by kernel_rfl) (by kernel_rfl) (by kernel_rfl) (by kernel_rfl) (by kernel_rfl) (by kernel_rfl)

def H_value_validEntry (n : Nat) : Hints I where
  tds := fun i => (asc [] i).getD []
  spl := fun i => (asc [] i).getD []
  pre := fun i => (asc [] i).getD []
  join := asc []
  loop := asc []
  keep := asc []

def row_value_validEntry (n : Nat) : Row I := ⟨77, [.d (.dat 30), .d (.int .i64)], [.k (.d (.bool))], value_validEntry n⟩

theorem rk_value_validEntry (n : Nat)  : RowOk Go.Proofs.Tryz.prog (row_value_validEntry n) :=
  row_ok tabOk (dispE_ok (es := [rowE tb (row_value_isZero n)]) ⟨rowE_ok tabOk (rk_value_isZero n), trivial⟩ 3) mixed 20 (fn := Go.Proofs.Tryz.f77) (cd := cdOf Go.Proofs.Tryz.f77) (H := (H_value_validEntry n)) (rl := [.tmp 4]) Go.Proofs.Tryz.func77 (by kernel_rfl) (by kernel_rfl) (by kernel_rfl) (by kernel_rfl) (by kernel_rfl) (by kernel_rfl) (by kernel_rfl)

def H_value_validFunction (n : Nat) : Hints I where
  tds := fun i => (asc [] i).getD []
  spl := fun i => (asc [] i).getD []
  pre := fun i => (asc [] i).getD []
  join := asc []
  loop := asc [(58, ⟨4290773012, [], [], [(22, .k (.d (.int .i64)))], [((.exit 0), []), (.ret, [(2, .k (.d (.bool)))])], bnd tb (.slot 21) 1⟩)]
  keep := asc []

def row_value_validFunction (n : Nat) : Row I := ⟨157, [.d (.dat 28)], [.k (.d (.bool))], value_validFunction n⟩

theorem rk_value_validFunction (n : Nat)  : RowOk Go.Proofs.Tryz.prog (row_value_validFunction n) :=
  row_ok tabOk (dispE_ok (es := [rowE tb (row_value_ascending_api_Entry), rowE tb (row_value_compareEntries n), rowE tb (row_value_validEntry n)]) ⟨rowE_ok tabOk rk_value_ascending_api_Entry, ⟨rowE_ok tabOk (rk_value_compareEntries n), ⟨rowE_ok tabOk (rk_value_validEntry n), trivial⟩⟩⟩ 3) mixed 32 (fn := Go.Proofs.Tryz.f157) (cd := cdOf Go.Proofs.Tryz.f157) (H := (H_value_validFunction n)) (rl := [.tmp 2]) Go.Proofs.Tryz.func157 (by kernel_rfl) (by kernel_rfl) (by kernel_rfl) (by kernel_rfl) (by kernel_rfl) (by kernel_rfl) (by kernel_rfl)

def H_value_validNode (n : Nat) : Hints I where
  tds := fun i => (asc [] i).getD []
  spl := fun i => (asc [] i).getD []
  pre := fun i => (asc [] i).getD []
  join := asc []
  loop := asc []
  keep := asc []

def row_value_validNode (n : Nat) : Row I := ⟨121, [.d (.dat 28)], [.k (.d (.bool))], value_validNode n⟩

theorem rk_value_validNode (n : Nat)  : RowOk Go.Proofs.Tryz.prog (row_value_validNode n) :=
  row_ok tabOk (dispE_ok (es := [rowE tb (row_value_uses), rowE tb (row_value_validLabels), rowE tb (row_ident_IsAtom), rowE tb (row_value_validMap), rowE tb (row_value_validFunction n)]) ⟨rowE_ok tabOk rk_value_uses, ⟨rowE_ok tabOk rk_value_validLabels, ⟨rowE_ok tabOk rk_ident_IsAtom, ⟨rowE_ok tabOk rk_value_validMap, ⟨rowE_ok tabOk (rk_value_validFunction n), trivial⟩⟩⟩⟩⟩ 3) mixed 124 (fn := Go.Proofs.Tryz.f121) (cd := cdOf Go.Proofs.Tryz.f121) (H := (H_value_validNode n)) (rl := [.tmp 2]) Go.Proofs.Tryz.func121 (by kernel_rfl) (by kernel_rfl) (by kernel_rfl) (by kernel_rfl) (by kernel_rfl) (by kernel_rfl) (by kernel_rfl)

def H_value_parts : Hints I where
  tds := fun i => (asc [] i).getD []
  spl := fun i => (asc [] i).getD []
  pre := fun i => (asc [] i).getD []
  join := asc []
  loop := asc [(58, ⟨536866856, [], [], [(3, .k (.row 28 false)), (12, .k (.d (.int .i64)))], [((.exit 0), [(3, .k (.row 28 false))])], bnd tb (.slot 11) 1⟩)]
  keep := asc []

def row_value_parts : Row I := ⟨122, [.d (.dat 28)], [.k (.row 28 false)], value_parts⟩

theorem rk_value_parts  : RowOk Go.Proofs.Tryz.prog (row_value_parts) :=
  row_ok tabOk (dispE_ok (es := [rowE tb row_158]) ⟨rowE_ok tabOk rk_158, trivial⟩ 3) mixed 30 (fn := Go.Proofs.Tryz.f122) (cd := cdOf Go.Proofs.Tryz.f122) (H := H_value_parts) (rl := [.tmp 2]) Go.Proofs.Tryz.func122 (by kernel_rfl) (by kernel_rfl) (by kernel_rfl) (by kernel_rfl) (by kernel_rfl) (by kernel_rfl) (by kernel_rfl)

def H_value_validTree (n : Nat) : Hints I where
  tds := fun i => (asc [] i).getD []
  spl := fun i => (asc [] i).getD []
  pre := fun i => (asc [] i).getD []
  join := asc []
  loop := asc [(58, ⟨522260, [9], [], [(11, .k (.d (.int .i64)))], [((.exit 0), []), (.ret, [(2, .k (.d (.bool)))])], bnd tb (.slot 10) 1⟩)]
  keep := asc []

def row_value_validTree (n : Nat) : Row I := ⟨76, [.d (.dat 28)], [.k (.d (.bool))], value_validTree n⟩

theorem rkB_value_validTree (n : Nat) (h_value_validTree : RowOk Go.Proofs.Tryz.prog (row_value_validTree n)) : RowOk Go.Proofs.Tryz.prog (row_value_validTree (n + 1)) :=
  row_ok tabOk (dispE_ok (es := [rowE tb (row_value_validNode n), rowE tb (row_value_parts), rowE tb (row_value_validTree n)]) ⟨rowE_ok tabOk (rk_value_validNode n), ⟨rowE_ok tabOk rk_value_parts, ⟨rowE_ok tabOk h_value_validTree, trivial⟩⟩⟩ 3) mixed 19 (fn := Go.Proofs.Tryz.f76) (cd := cdOf Go.Proofs.Tryz.f76) (H := (H_value_validTree n)) (rl := [.tmp 2]) Go.Proofs.Tryz.func76 (by kernel_rfl) (by kernel_rfl) (by kernel_rfl) (by kernel_rfl) (by kernel_rfl) (by kernel_rfl) (by kernel_rfl)

theorem rk_value_validTree : ∀ n : Nat, RowOk Go.Proofs.Tryz.prog (row_value_validTree n)
  | 0 => rowOk_none (by kernel_rfl)
  | n + 1 => rkB_value_validTree n (rk_value_validTree n)

def H_value_Validate (n : Nat) : Hints I where
  tds := fun i => (asc [] i).getD []
  spl := fun i => (asc [] i).getD []
  pre := fun i => (asc [] i).getD []
  join := asc []
  loop := asc []
  keep := asc []

def row_value_Validate (n : Nat) : Row I := ⟨48, [.d (.dat 28)], [.k (.d (.int .i64))], value_Validate n⟩

theorem rk_value_Validate (n : Nat)  : RowOk Go.Proofs.Tryz.prog (row_value_Validate n) :=
  row_ok tabOk (dispE_ok (es := [rowE tb (row_value_validTree n)]) ⟨rowE_ok tabOk (rk_value_validTree n), trivial⟩ 3) mixed 6 (fn := Go.Proofs.Tryz.f48) (cd := cdOf Go.Proofs.Tryz.f48) (H := (H_value_Validate n)) (rl := [.tmp 2]) Go.Proofs.Tryz.func48 (by kernel_rfl) (by kernel_rfl) (by kernel_rfl) (by kernel_rfl) (by kernel_rfl) (by kernel_rfl) (by kernel_rfl)

def H_arrow_validEntry_1 (n : Nat) : Hints I where
  tds := fun i => (asc [] i).getD []
  spl := fun i => (asc [] i).getD []
  pre := fun i => (asc [] i).getD []
  join := asc []
  loop := asc []
  keep := asc []

def row_arrow_validEntry_1 (n : Nat) : Row I := ⟨63, [.d (.dat 28)], [.k (.d (.bool))], arrow_validEntry_1 n⟩

theorem rk_arrow_validEntry_1 (n : Nat)  : RowOk Go.Proofs.Tryz.prog (row_arrow_validEntry_1 n) :=
  row_ok tabOk (dispE_ok (es := [rowE tb (row_value_Validate n)]) ⟨rowE_ok tabOk (rk_value_Validate n), trivial⟩ 3) mixed 6 (fn := Go.Proofs.Tryz.f63) (cd := cdOf Go.Proofs.Tryz.f63) (H := (H_arrow_validEntry_1 n)) (rl := [.tmp 2]) Go.Proofs.Tryz.func63 (by kernel_rfl) (by kernel_rfl) (by kernel_rfl) (by kernel_rfl) (by kernel_rfl) (by kernel_rfl) (by kernel_rfl)

def H_arrow_validEntry (n : Nat) : Hints I where
  tds := fun i => (asc [] i).getD []
  spl := fun i => (asc [] i).getD []
  pre := fun i => (asc [] i).getD []
  join := asc []
  loop := asc []
  keep := asc []

def row_arrow_validEntry (n : Nat) : Row I := ⟨34, [.d (.dat 30)], [.k (.d (.bool))], arrow_validEntry n⟩

theorem rk_arrow_validEntry (n : Nat)  : RowOk Go.Proofs.Tryz.prog (row_arrow_validEntry n) :=
  row_ok tabOk (dispE_ok (es := [rowE tb (row_slices_ContainsFunc_api_Value_api_Value), rowE tb (row_arrow_validEntry_1 n)]) ⟨rowE_ok tabOk rk_slices_ContainsFunc_api_Value_api_Value, ⟨rowE_ok tabOk (rk_arrow_validEntry_1 n), trivial⟩⟩ 3) mixed 20 (fn := Go.Proofs.Tryz.f34) (cd := cdOf Go.Proofs.Tryz.f34) (H := (H_arrow_validEntry n)) (rl := [.tmp 2]) Go.Proofs.Tryz.func34 (by kernel_rfl) (by kernel_rfl) (by kernel_rfl) (by kernel_rfl) (by kernel_rfl) (by kernel_rfl) (by kernel_rfl)

def H_core_kindOf : Hints I where
  tds := fun i => (asc [] i).getD []
  spl := fun i => (asc [] i).getD []
  pre := fun i => (asc [] i).getD []
  join := asc []
  loop := asc []
  keep := asc []

def row_core_kindOf : Row I := ⟨110, [.d (.int .i64)], [.k (.d (.int .i64))], core_kindOf⟩

theorem rk_core_kindOf  : RowOk Go.Proofs.Tryz.prog (row_core_kindOf) :=
  row_ok tabOk (dispE_ok (es := []) trivial 3) mixed 14 (fn := Go.Proofs.Tryz.f110) (cd := cdOf Go.Proofs.Tryz.f110) (H := H_core_kindOf) (rl := [.tmp 2]) Go.Proofs.Tryz.func110 (by kernel_rfl) (by kernel_rfl) (by kernel_rfl) (by kernel_rfl) (by kernel_rfl) (by kernel_rfl) (by kernel_rfl)

def H_slices_Index_api_Key_api_Key : Hints I where
  tds := fun i => (asc [(4, [[], [], [], [1, 2], [1, 2, 3], [0, 1, 2, 3, 4]])] i).getD []
  spl := fun i => (asc [] i).getD []
  pre := fun i => (asc [] i).getD []
  join := asc []
  loop := asc [(26, ⟨524080, [], [], [(8, .k (.d (.int .i64)))], [((.exit 0), []), (.ret, [(4, .k (.d (.int .i64)))])], bnd tb (.slot 7) 1⟩)]
  keep := asc []

def row_slices_Index_api_Key_api_Key : Row I := ⟨171, [.d (.sl 114), .d (.dat 114)], [.k (.d (.int .i64))], slices_Index_api_Key_api_Key⟩

theorem rk_slices_Index_api_Key_api_Key  : RowOk Go.Proofs.Tryz.prog (row_slices_Index_api_Key_api_Key) :=
  row_ok tabOk (dispE_ok (es := []) trivial 3) mixed 19 (fn := Go.Proofs.Tryz.f171) (cd := cdOf Go.Proofs.Tryz.f171) (H := H_slices_Index_api_Key_api_Key) (rl := [.tmp 4]) Go.Proofs.Tryz.func171 (by kernel_rfl) (by kernel_rfl) (by kernel_rfl) (by kernel_rfl) (by kernel_rfl) (by kernel_rfl) (by kernel_rfl)

def H_slices_Contains_api_Key_api_Key : Hints I where
  tds := fun i => (asc [] i).getD []
  spl := fun i => (asc [] i).getD []
  pre := fun i => (asc [] i).getD []
  join := asc []
  loop := asc []
  keep := asc []

def row_slices_Contains_api_Key_api_Key : Row I := ⟨147, [.d (.sl 114), .d (.dat 114)], [.k (.d (.bool))], slices_Contains_api_Key_api_Key⟩

theorem rk_slices_Contains_api_Key_api_Key  : RowOk Go.Proofs.Tryz.prog (row_slices_Contains_api_Key_api_Key) :=
  row_ok tabOk (dispE_ok (es := [rowE tb (row_slices_Index_api_Key_api_Key)]) ⟨rowE_ok tabOk rk_slices_Index_api_Key_api_Key, trivial⟩ 3) mixed 9 (fn := Go.Proofs.Tryz.f147) (cd := cdOf Go.Proofs.Tryz.f147) (H := H_slices_Contains_api_Key_api_Key) (rl := [.tmp 4]) Go.Proofs.Tryz.func147 (by kernel_rfl) (by kernel_rfl) (by kernel_rfl) (by kernel_rfl) (by kernel_rfl) (by kernel_rfl) (by kernel_rfl)

def H_core_At : Hints I where
  tds := fun i => (asc [] i).getD []
  spl := fun i => (asc [] i).getD []
  pre := fun i => (asc [] i).getD []
  join := asc []
  loop := asc [(26, ⟨2096208, [], [], [(10, .k (.d (.int .i64)))], [((.exit 0), []), (.ret, [(4, .k (.d (.int .i64)))])], bnd tb (.slot 9) 1⟩)]
  keep := asc []

def row_core_At : Row I := ⟨148, [.d (.dat 72), .d (.dat 114)], [.k (.d (.int .i64))], core_At⟩

theorem rk_core_At  : RowOk Go.Proofs.Tryz.prog (row_core_At) :=
  row_ok tabOk (dispE_ok (es := []) trivial 3) mixed 26 (fn := Go.Proofs.Tryz.f148) (cd := cdOf Go.Proofs.Tryz.f148) (H := H_core_At) (rl := [.tmp 4]) Go.Proofs.Tryz.func148 (by kernel_rfl) (by kernel_rfl) (by kernel_rfl) (by kernel_rfl) (by kernel_rfl) (by kernel_rfl) (by kernel_rfl)

def H_slices_Index_string_string : Hints I where
  tds := fun i => (asc [] i).getD []
  spl := fun i => (asc [] i).getD []
  pre := fun i => (asc [] i).getD []
  join := asc []
  loop := asc [(26, ⟨524080, [], [], [(8, .k (.d (.int .i64)))], [((.exit 0), []), (.ret, [(4, .k (.d (.int .i64)))])], bnd tb (.slot 7) 1⟩)]
  keep := asc []

def row_slices_Index_string_string : Row I := ⟨149, [.d (.sl 9), .d (.str)], [.k (.d (.int .i64))], slices_Index_string_string⟩

theorem rk_slices_Index_string_string  : RowOk Go.Proofs.Tryz.prog (row_slices_Index_string_string) :=
  row_ok tabOk (dispE_ok (es := []) trivial 3) mixed 19 (fn := Go.Proofs.Tryz.f149) (cd := cdOf Go.Proofs.Tryz.f149) (H := H_slices_Index_string_string) (rl := [.tmp 4]) Go.Proofs.Tryz.func149 (by kernel_rfl) (by kernel_rfl) (by kernel_rfl) (by kernel_rfl) (by kernel_rfl) (by kernel_rfl) (by kernel_rfl)

def H_slices_Contains_string_string : Hints I where
  tds := fun i => (asc [] i).getD []
  spl := fun i => (asc [] i).getD []
  pre := fun i => (asc [] i).getD []
  join := asc []
  loop := asc []
  keep := asc []

def row_slices_Contains_string_string : Row I := ⟨115, [.d (.sl 9), .d (.str)], [.k (.d (.bool))], slices_Contains_string_string⟩

theorem rk_slices_Contains_string_string  : RowOk Go.Proofs.Tryz.prog (row_slices_Contains_string_string) :=
  row_ok tabOk (dispE_ok (es := [rowE tb (row_slices_Index_string_string)]) ⟨rowE_ok tabOk rk_slices_Index_string_string, trivial⟩ 3) mixed 9 (fn := Go.Proofs.Tryz.f115) (cd := cdOf Go.Proofs.Tryz.f115) (H := H_slices_Contains_string_string) (rl := [.tmp 4]) Go.Proofs.Tryz.func115 (by kernel_rfl) (by kernel_rfl) (by kernel_rfl) (by kernel_rfl) (by kernel_rfl) (by kernel_rfl) (by kernel_rfl)

def H_core_all (n : Nat) : Hints I where
  tds := fun i => (asc [(6, [[], [], [], [], [2, 3], [2, 3, 4], [0, 1, 2, 3, 4, 5], [0, 1, 2, 3, 4, 5, 6]])] i).getD []
  spl := fun i => (asc [] i).getD []
  pre := fun i => (asc [] i).getD []
  join := asc []
  loop := asc [(58, ⟨1073676736, [], [], [(16, .k (.d (.int .i64)))], [((.exit 0), []), (.ret, [(6, .k (.d (.bool)))])], bnd tb (.slot 15) 1⟩)]
  keep := asc []

def row_core_all (n : Nat) : Row I := ⟨65, [.d (.sl 28), .d (.dat 36), .d (.sl 3)], [.k (.d (.bool))], core_all n⟩

def H_core_EntryAllowed (n : Nat) : Hints I where
  tds := fun i => (asc [(2, [[], [0], [], [], [3], [], [3, 4, 5], [0, 1, 2, 3, 4, 5, 6], [0, 1, 2, 3, 4, 5, 6, 7], [0, 1, 2, 3, 4, 5, 6, 7, 8], [0, 1, 2, 3, 4, 5, 6, 7, 8, 9], [0, 1, 2, 3, 4, 5, 6, 7, 8, 9, 10], [0, 1, 2, 3, 4, 5, 6, 7, 8, 9, 10, 11], [0, 1, 2, 3, 4, 5, 6, 7, 8, 9, 10, 11, 12], [0, 1, 2, 3, 4, 5, 6, 7, 8, 9, 10, 11, 12, 13], [0, 1, 2, 3, 4, 5, 6, 7, 8, 9, 10, 11, 12, 13, 14], [0, 1, 2, 3, 4, 5, 6, 7, 8, 9, 10, 11, 12, 13], [0, 1, 2, 3, 4, 5, 6, 7, 8, 9, 10, 11, 12, 13], [0, 1, 2, 3, 4, 5, 6, 7, 8, 9, 10, 11, 12, 13, 17], [0, 1, 2, 3, 4, 5, 6, 7, 8, 9, 10, 11, 12, 13], [0, 1, 2, 3, 4, 5, 6, 7, 8, 9, 10, 11, 12, 13, 17, 18, 19], [0, 1, 2, 3, 4, 5, 6, 7, 8, 9, 10, 11, 12, 13, 17, 18, 19, 20], [0, 1, 2, 3, 4, 5, 6, 7, 8, 9, 10, 11, 12, 13, 14, 15, 16, 17, 18, 19, 20, 21], [0, 1, 2, 3, 4, 5, 6, 7, 8, 9, 10, 11, 12, 13, 14, 15, 16, 17, 18, 19, 20, 21, 22], [0, 1, 2, 3, 4, 5, 6, 7, 8, 9, 10, 11, 12, 13, 14, 15, 16, 17, 18, 19, 20, 21, 22, 23], [0, 1, 2, 3, 4, 5, 6, 7, 8, 9, 10, 11, 12, 13, 14, 15, 16, 17, 18, 19, 20, 21, 22, 23, 24]])] i).getD []
  spl := fun i => (asc [] i).getD []
  pre := fun i => (asc [] i).getD []
  join := asc []
  loop := asc []
  keep := asc []

def row_core_EntryAllowed (n : Nat) : Row I := ⟨35, [.d (.dat 30), .d (.dat 36), .d (.dat 72)], [.k (.d (.bool))], core_EntryAllowed n⟩

def H_core_functionHas (n : Nat) : Hints I where
  tds := fun i => (asc [] i).getD []
  spl := fun i => (asc [] i).getD []
  pre := fun i => (asc [] i).getD []
  join := asc []
  loop := asc [(58, ⟨536346944, [], [], [(19, .k (.d (.int .i64)))], [((.exit 0), []), (.ret, [(6, .k (.d (.bool)))])], bnd tb (.slot 18) 1⟩)]
  keep := asc []

def row_core_functionHas (n : Nat) : Row I := ⟨112, [.d (.dat 28), .d (.dat 36), .d (.dat 72)], [.k (.d (.bool))], core_functionHas n⟩

def H_core_Has (n : Nat) : Hints I where
  tds := fun i => (asc [(17, [[], [0], [], [2], [2, 3], [0, 1, 2, 3, 4], [0, 1, 2, 3, 4, 5]]), (31, [[], [], [], [2], [2, 3], [2, 3, 4], [0, 1, 2, 3, 4, 5], [0, 1, 2, 3, 4, 5, 6], [0, 1, 2, 3, 4, 5, 6, 7]])] i).getD []
  spl := fun i => (asc [] i).getD []
  pre := fun i => (asc [] i).getD []
  join := asc [(60413, ⟨144115188075855872000, [], [], [(.normal, [(60, .k (.d (.bool)))])]⟩)]
  loop := asc []
  keep := asc []

def row_core_Has (n : Nat) : Row I := ⟨66, [.d (.dat 28), .d (.dat 36), .d (.int .i64)], [.k (.d (.bool))], core_Has n⟩

def H_core_Has_1 (n : Nat) : Hints I where
  tds := fun i => (asc [] i).getD []
  spl := fun i => (asc [] i).getD []
  pre := fun i => (asc [] i).getD []
  join := asc []
  loop := asc []
  keep := asc []

def row_core_Has_1 (n : Nat) : Row I := ⟨113, [.d (.int .i64), .var 28 (.k (.d (.dat 28))) false, .var 36 (.k (.d (.dat 36))) false], [.k (.d (.bool))], core_Has_1 n⟩

def H_core_Has_2 (n : Nat) : Hints I where
  tds := fun i => (asc [] i).getD []
  spl := fun i => (asc [] i).getD []
  pre := fun i => (asc [] i).getD []
  join := asc []
  loop := asc []
  keep := asc []

def row_core_Has_2 (n : Nat) : Row I := ⟨114, [.d (.int .i64), .var 28 (.k (.d (.dat 28))) false, .var 36 (.k (.d (.dat 36))) false], [.k (.d (.bool))], core_Has_2 n⟩

def H_core_mapHas (n : Nat) : Hints I where
  tds := fun i => (asc [(10, [[], [0], [], [0, 1, 2], [0, 1, 2, 3], [], [], [], [6, 7], [0, 1, 2, 3, 4, 5, 6, 7, 8], [0, 1, 2, 3, 4, 5, 6, 7, 8, 9]])] i).getD []
  spl := fun i => (asc [] i).getD []
  pre := fun i => (asc [] i).getD []
  join := asc []
  loop := asc [(26, ⟨1073725760, [], [], [(14, .k (.d (.int .i64)))], [((.exit 0), []), (.ret, [(6, .k (.d (.bool)))])], bnd tb (.slot 13) 1⟩),
    (58, ⟨1125891316909632, [], [], [(33, .k (.d (.int .i64)))], [((.exit 2), []), (.ret, [(6, .k (.d (.bool)))])], bnd tb (.slot 32) 1⟩)]
  keep := asc []

def row_core_mapHas (n : Nat) : Row I := ⟨111, [.d (.dat 28), .d (.dat 36), .d (.dat 72)], [.k (.d (.bool))], core_mapHas n⟩

theorem rkB_core_all (n : Nat) (h_core_all : RowOk Go.Proofs.Tryz.prog (row_core_all n)) (h_core_EntryAllowed : RowOk Go.Proofs.Tryz.prog (row_core_EntryAllowed n)) (h_core_functionHas : RowOk Go.Proofs.Tryz.prog (row_core_functionHas n)) (h_core_Has : RowOk Go.Proofs.Tryz.prog (row_core_Has n)) (h_core_Has_1 : RowOk Go.Proofs.Tryz.prog (row_core_Has_1 n)) (h_core_Has_2 : RowOk Go.Proofs.Tryz.prog (row_core_Has_2 n)) (h_core_mapHas : RowOk Go.Proofs.Tryz.prog (row_core_mapHas n)) : RowOk Go.Proofs.Tryz.prog (row_core_all (n + 1)) :=
  row_ok tabOk (dispE_ok (es := [rowE tb (row_core_Has n)]) ⟨rowE_ok tabOk h_core_Has, trivial⟩ 3) mixed 30 (fn := Go.Proofs.Tryz.f65) (cd := cdOf Go.Proofs.Tryz.f65) (H := (H_core_all n)) (rl := [.tmp 6]) Go.Proofs.Tryz.func65 (by kernel_rfl) (by kernel_rfl) (by kernel_rfl) (by kernel_rfl) (by kernel_rfl) (by kernel_rfl) (by kernel_rfl)

theorem rkB_core_EntryAllowed (n : Nat) (h_core_all : RowOk Go.Proofs.Tryz.prog (row_core_all n)) (h_core_EntryAllowed : RowOk Go.Proofs.Tryz.prog (row_core_EntryAllowed n)) (h_core_functionHas : RowOk Go.Proofs.Tryz.prog (row_core_functionHas n)) (h_core_Has : RowOk Go.Proofs.Tryz.prog (row_core_Has n)) (h_core_Has_1 : RowOk Go.Proofs.Tryz.prog (row_core_Has_1 n)) (h_core_Has_2 : RowOk Go.Proofs.Tryz.prog (row_core_Has_2 n)) (h_core_mapHas : RowOk Go.Proofs.Tryz.prog (row_core_mapHas n)) : RowOk Go.Proofs.Tryz.prog (row_core_EntryAllowed (n + 1)) :=
  row_ok tabOk (dispE_ok (es := [rowE tb (row_core_all n), rowE tb (row_core_Has n)]) ⟨rowE_ok tabOk h_core_all, ⟨rowE_ok tabOk h_core_Has, trivial⟩⟩ 3) mixed 37 (fn := Go.Proofs.Tryz.f35) (cd := cdOf Go.Proofs.Tryz.f35) (H := (H_core_EntryAllowed n)) (rl := [.tmp 6]) Go.Proofs.Tryz.func35 (by kernel_rfl) (by kernel_rfl) (by kernel_rfl) (by kernel_rfl) (by kernel_rfl) (by kernel_rfl) (by kernel_rfl)

theorem rkB_core_functionHas (n : Nat) (h_core_all : RowOk Go.Proofs.Tryz.prog (row_core_all n)) (h_core_EntryAllowed : RowOk Go.Proofs.Tryz.prog (row_core_EntryAllowed n)) (h_core_functionHas : RowOk Go.Proofs.Tryz.prog (row_core_functionHas n)) (h_core_Has : RowOk Go.Proofs.Tryz.prog (row_core_Has n)) (h_core_Has_1 : RowOk Go.Proofs.Tryz.prog (row_core_Has_1 n)) (h_core_Has_2 : RowOk Go.Proofs.Tryz.prog (row_core_Has_2 n)) (h_core_mapHas : RowOk Go.Proofs.Tryz.prog (row_core_mapHas n)) : RowOk Go.Proofs.Tryz.prog (row_core_functionHas (n + 1)) :=
  row_ok tabOk (dispE_ok (es := [rowE tb (row_core_EntryAllowed n)]) ⟨rowE_ok tabOk h_core_EntryAllowed, trivial⟩ 3) mixed 29 (fn := Go.Proofs.Tryz.f112) (cd := cdOf Go.Proofs.Tryz.f112) (H := (H_core_functionHas n)) (rl := [.tmp 6]) Go.Proofs.Tryz.func112 (by kernel_rfl) (by kernel_rfl) (by kernel_rfl) (by kernel_rfl) (by kernel_rfl) (by kernel_rfl) (by kernel_rfl)

theorem rkB_core_Has (n : Nat) (h_core_all : RowOk Go.Proofs.Tryz.prog (row_core_all n)) (h_core_EntryAllowed : RowOk Go.Proofs.Tryz.prog (row_core_EntryAllowed n)) (h_core_functionHas : RowOk Go.Proofs.Tryz.prog (row_core_functionHas n)) (h_core_Has : RowOk Go.Proofs.Tryz.prog (row_core_Has n)) (h_core_Has_1 : RowOk Go.Proofs.Tryz.prog (row_core_Has_1 n)) (h_core_Has_2 : RowOk Go.Proofs.Tryz.prog (row_core_Has_2 n)) (h_core_mapHas : RowOk Go.Proofs.Tryz.prog (row_core_mapHas n)) : RowOk Go.Proofs.Tryz.prog (row_core_Has (n + 1)) :=
  row_ok tabOk (dispE_ok (es := [rowE tb (row_core_kindOf), rowE tb (row_core_all n), rowE tb (row_core_mapHas n), rowE tb (row_core_functionHas n), rowE tb (row_slices_ContainsFunc_int_int), rowE tb (row_core_Has_1 n), rowE tb (row_core_Has_2 n), rowE tb (row_core_Has n), rowE tb (row_slices_Contains_string_string)]) ⟨rowE_ok tabOk rk_core_kindOf, ⟨rowE_ok tabOk h_core_all, ⟨rowE_ok tabOk h_core_mapHas, ⟨rowE_ok tabOk h_core_functionHas, ⟨rowE_ok tabOk rk_slices_ContainsFunc_int_int, ⟨rowE_ok tabOk h_core_Has_1, ⟨rowE_ok tabOk h_core_Has_2, ⟨rowE_ok tabOk h_core_Has, ⟨rowE_ok tabOk rk_slices_Contains_string_string, trivial⟩⟩⟩⟩⟩⟩⟩⟩⟩ 3) mixed 151 (fn := Go.Proofs.Tryz.f66) (cd := cdOf Go.Proofs.Tryz.f66) (H := (H_core_Has n)) (rl := [.tmp 6]) Go.Proofs.Tryz.func66 (by kernel_rfl) (by kernel_rfl) (by kernel_rfl) (by kernel_rfl) (by kernel_rfl) (by kernel_rfl) (by kernel_rfl)

theorem rkB_core_Has_1 (n : Nat) (h_core_all : RowOk Go.Proofs.Tryz.prog (row_core_all n)) (h_core_EntryAllowed : RowOk Go.Proofs.Tryz.prog (row_core_EntryAllowed n)) (h_core_functionHas : RowOk Go.Proofs.Tryz.prog (row_core_functionHas n)) (h_core_Has : RowOk Go.Proofs.Tryz.prog (row_core_Has n)) (h_core_Has_1 : RowOk Go.Proofs.Tryz.prog (row_core_Has_1 n)) (h_core_Has_2 : RowOk Go.Proofs.Tryz.prog (row_core_Has_2 n)) (h_core_mapHas : RowOk Go.Proofs.Tryz.prog (row_core_mapHas n)) : RowOk Go.Proofs.Tryz.prog (row_core_Has_1 (n + 1)) :=
  row_ok tabOk (dispE_ok (es := [rowE tb (row_core_Has n)]) ⟨rowE_ok tabOk h_core_Has, trivial⟩ 3) mixed 9 (fn := Go.Proofs.Tryz.f113) (cd := cdOf Go.Proofs.Tryz.f113) (H := (H_core_Has_1 n)) (rl := [.tmp 4]) Go.Proofs.Tryz.func113 (by kernel_rfl) (by kernel_rfl) (by kernel_rfl) (by kernel_rfl) (by kernel_rfl) (by kernel_rfl) (by kernel_rfl)

theorem rkB_core_Has_2 (n : Nat) (h_core_all : RowOk Go.Proofs.Tryz.prog (row_core_all n)) (h_core_EntryAllowed : RowOk Go.Proofs.Tryz.prog (row_core_EntryAllowed n)) (h_core_functionHas : RowOk Go.Proofs.Tryz.prog (row_core_functionHas n)) (h_core_Has : RowOk Go.Proofs.Tryz.prog (row_core_Has n)) (h_core_Has_1 : RowOk Go.Proofs.Tryz.prog (row_core_Has_1 n)) (h_core_Has_2 : RowOk Go.Proofs.Tryz.prog (row_core_Has_2 n)) (h_core_mapHas : RowOk Go.Proofs.Tryz.prog (row_core_mapHas n)) : RowOk Go.Proofs.Tryz.prog (row_core_Has_2 (n + 1)) :=
  row_ok tabOk (dispE_ok (es := [rowE tb (row_core_Has n)]) ⟨rowE_ok tabOk h_core_Has, trivial⟩ 3) mixed 10 (fn := Go.Proofs.Tryz.f114) (cd := cdOf Go.Proofs.Tryz.f114) (H := (H_core_Has_2 n)) (rl := [.tmp 4]) Go.Proofs.Tryz.func114 (by kernel_rfl) (by kernel_rfl) (by kernel_rfl) (by kernel_rfl) (by kernel_rfl) (by kernel_rfl) (by kernel_rfl)

theorem rkB_core_mapHas (n : Nat) (h_core_all : RowOk Go.Proofs.Tryz.prog (row_core_all n)) (h_core_EntryAllowed : RowOk Go.Proofs.Tryz.prog (row_core_EntryAllowed n)) (h_core_functionHas : RowOk Go.Proofs.Tryz.prog (row_core_functionHas n)) (h_core_Has : RowOk Go.Proofs.Tryz.prog (row_core_Has n)) (h_core_Has_1 : RowOk Go.Proofs.Tryz.prog (row_core_Has_1 n)) (h_core_Has_2 : RowOk Go.Proofs.Tryz.prog (row_core_Has_2 n)) (h_core_mapHas : RowOk Go.Proofs.Tryz.prog (row_core_mapHas n)) : RowOk Go.Proofs.Tryz.prog (row_core_mapHas (n + 1)) :=
  row_ok tabOk (dispE_ok (es := [rowE tb (row_slices_Contains_api_Key_api_Key), rowE tb (row_core_At), rowE tb (row_core_Has n)]) ⟨rowE_ok tabOk rk_slices_Contains_api_Key_api_Key, ⟨rowE_ok tabOk rk_core_At, ⟨rowE_ok tabOk h_core_Has, trivial⟩⟩⟩ 3) mixed 50 (fn := Go.Proofs.Tryz.f111) (cd := cdOf Go.Proofs.Tryz.f111) (H := (H_core_mapHas n)) (rl := [.tmp 6]) Go.Proofs.Tryz.func111 (by kernel_rfl) (by kernel_rfl) (by kernel_rfl) (by kernel_rfl) (by kernel_rfl) (by kernel_rfl) (by kernel_rfl)

theorem rk_scc_core_all : ∀ n : Nat, RowOk Go.Proofs.Tryz.prog (row_core_all n) ∧ RowOk Go.Proofs.Tryz.prog (row_core_EntryAllowed n) ∧ RowOk Go.Proofs.Tryz.prog (row_core_functionHas n) ∧ RowOk Go.Proofs.Tryz.prog (row_core_Has n) ∧ RowOk Go.Proofs.Tryz.prog (row_core_Has_1 n) ∧ RowOk Go.Proofs.Tryz.prog (row_core_Has_2 n) ∧ RowOk Go.Proofs.Tryz.prog (row_core_mapHas n)
  | 0 => ⟨rowOk_none (by kernel_rfl), rowOk_none (by kernel_rfl), rowOk_none (by kernel_rfl), rowOk_none (by kernel_rfl), rowOk_none (by kernel_rfl), rowOk_none (by kernel_rfl), rowOk_none (by kernel_rfl)⟩
  | n + 1 => by
    obtain ⟨h0, h1, h2, h3, h4, h5, h6⟩ := rk_scc_core_all n
    exact ⟨rkB_core_all n h0 h1 h2 h3 h4 h5 h6, rkB_core_EntryAllowed n h0 h1 h2 h3 h4 h5 h6, rkB_core_functionHas n h0 h1 h2 h3 h4 h5 h6, rkB_core_Has n h0 h1 h2 h3 h4 h5 h6, rkB_core_Has_1 n h0 h1 h2 h3 h4 h5 h6, rkB_core_Has_2 n h0 h1 h2 h3 h4 h5 h6, rkB_core_mapHas n h0 h1 h2 h3 h4 h5 h6⟩

theorem rk_core_EntryAllowed (n : Nat) : RowOk Go.Proofs.Tryz.prog (row_core_EntryAllowed n) := (rk_scc_core_all n).2.1

def H_arrow_Allowed (n : Nat) : Hints I where
  tds := fun i => (asc [] i).getD []
  spl := fun i => (asc [] i).getD []
  pre := fun i => (asc [] i).getD []
  join := asc []
  loop := asc [(58, ⟨2251799746577216, [], [], [(26, .k (.d (.int .i64)))], [((.exit 0), []), (.ret, [(6, .k (.d (.bool)))])], bnd tb (.slot 25) 1⟩)]
  keep := asc []

def row_arrow_Allowed (n : Nat) : Row I := ⟨12, [.d (.dat 30), .d (.dat 36), .d (.sl 3)], [.k (.d (.bool))], arrow_Allowed n⟩

theorem rk_arrow_Allowed (n : Nat)  : RowOk Go.Proofs.Tryz.prog (row_arrow_Allowed n) :=
  row_ok tabOk (dispE_ok (es := [rowE tb (row_typeexpr_WellFormed n), rowE tb (row_arrow_functions), rowE tb (row_arrow_validEntry n), rowE tb (row_core_EntryAllowed n)]) ⟨rowE_ok tabOk (rk_typeexpr_WellFormed n), ⟨rowE_ok tabOk rk_arrow_functions, ⟨rowE_ok tabOk (rk_arrow_validEntry n), ⟨rowE_ok tabOk (rk_core_EntryAllowed n), trivial⟩⟩⟩⟩ 3) mixed 51 (fn := Go.Proofs.Tryz.f12) (cd := cdOf Go.Proofs.Tryz.f12) (H := (H_arrow_Allowed n)) (rl := [.tmp 6]) Go.Proofs.Tryz.func12 (by kernel_rfl) (by kernel_rfl) (by kernel_rfl) (by kernel_rfl) (by kernel_rfl) (by kernel_rfl) (by kernel_rfl)

def H_semtypelaw12_awake (n : Nat) : Hints I where
  tds := fun i => (asc [] i).getD []
  spl := fun i => (asc [] i).getD []
  pre := fun i => (asc [] i).getD []
  join := asc []
  loop := asc []
  keep := asc []

def row_semtypelaw12_awake (n : Nat) : Row I := ⟨10, [], [.k (.d (.bool))], semtypelaw12_awake n⟩

theorem rk_semtypelaw12_awake (n : Nat)  : RowOk Go.Proofs.Tryz.prog (row_semtypelaw12_awake n) :=
  row_ok tabOk (dispE_ok (es := [rowE tb (row_semtyperef1_Nil), rowE tb (row_arrow_Forms n), rowE tb (row_arrow_Allowed n)]) ⟨rowE_ok tabOk rk_semtyperef1_Nil, ⟨rowE_ok tabOk (rk_arrow_Forms n), ⟨rowE_ok tabOk (rk_arrow_Allowed n), trivial⟩⟩⟩ 3) mixed 37 (fn := Go.Proofs.Tryz.f10) (cd := cdOf Go.Proofs.Tryz.f10) (H := (H_semtypelaw12_awake n)) (rl := [.tmp 0]) Go.Proofs.Tryz.func10 (by kernel_rfl) (by kernel_rfl) (by kernel_rfl) (by kernel_rfl) (by kernel_rfl) (by kernel_rfl) (by kernel_rfl)

def H_semtypebase_Source_Next : Hints I where
  tds := fun i => (asc [(1, [[], [0], [0, 1], [0, 1, 2], [0, 1, 2, 3], [0, 1, 2, 3, 4], [0, 1, 2, 3, 4, 5], [0, 1, 2], [0, 1, 2, 7], [0, 1, 2, 7, 8], [0, 1, 2, 7, 8, 9], [0, 1, 2, 7, 8, 9, 10], [0, 1, 2, 3, 4, 5, 6, 7, 8, 9, 10, 11], [0, 1, 2, 3, 4, 5, 6, 7, 8, 9, 10, 11, 12]]), (3, [[], [0], [0, 1], [0, 1, 2], [], [4], [4, 5], [4, 5, 6], [0, 1, 2, 3, 4, 5, 6, 7], [0, 1, 2, 3, 4, 5, 6, 7, 8], [], [0, 1, 2, 3, 4, 5, 6, 7, 8, 9, 10], [0, 1, 2, 3, 4, 5, 6, 7, 8, 9, 10, 11]])] i).getD []
  spl := fun i => (asc [] i).getD []
  pre := fun i => (asc [] i).getD []
  join := asc []
  loop := asc []
  keep := asc []

def row_semtypebase_Source_Next : Row I := ⟨30, [.var 76 (.k (.d (.dat 76))) true, .d (.int .i64)], [.k (.d (.int .i64))], semtypebase_Source_Next⟩

theorem rk_semtypebase_Source_Next  : RowOk Go.Proofs.Tryz.prog (row_semtypebase_Source_Next) :=
  row_ok tabOk (dispE_ok (es := []) trivial 3) mixed 46 (fn := Go.Proofs.Tryz.f30) (cd := cdOf Go.Proofs.Tryz.f30) (H := H_semtypebase_Source_Next) (rl := [.tmp 4]) Go.Proofs.Tryz.func30 (by kernel_rfl) (by kernel_rfl) (by kernel_rfl) (by kernel_rfl) (by kernel_rfl) (by kernel_rfl) (by kernel_rfl)

def H_semtypebase_Source_AtomName : Hints I where
  tds := fun i => (asc [] i).getD []
  spl := fun i => (asc [] i).getD []
  pre := fun i => (asc [] i).getD []
  join := asc []
  loop := asc []
  keep := asc []

def row_semtypebase_Source_AtomName : Row I := ⟨89, [.var 76 (.k (.d (.dat 76))) true], [.k (.d (.str))], semtypebase_Source_AtomName⟩

theorem rk_semtypebase_Source_AtomName  : RowOk Go.Proofs.Tryz.prog (row_semtypebase_Source_AtomName) :=
  row_ok tabOk (dispE_ok (es := [rowE tb (row_semtypebase_Source_Next)]) ⟨rowE_ok tabOk rk_semtypebase_Source_Next, trivial⟩ 3) mixed 8 (fn := Go.Proofs.Tryz.f89) (cd := cdOf Go.Proofs.Tryz.f89) (H := H_semtypebase_Source_AtomName) (rl := [.tmp 2]) Go.Proofs.Tryz.func89 (by kernel_rfl) (by kernel_rfl) (by kernel_rfl) (by kernel_rfl) (by kernel_rfl) (by kernel_rfl) (by kernel_rfl)

def H_semtypebase_Source_Word : Hints I where
  tds := fun i => (asc [] i).getD []
  spl := fun i => (asc [] i).getD []
  pre := fun i => (asc [] i).getD []
  join := asc []
  loop := asc []
  keep := asc []

def row_semtypebase_Source_Word : Row I := ⟨90, [.var 76 (.k (.d (.dat 76))) true], [.k (.d (.str))], semtypebase_Source_Word⟩

theorem rk_semtypebase_Source_Word  : RowOk Go.Proofs.Tryz.prog (row_semtypebase_Source_Word) :=
  row_ok tabOk (dispE_ok (es := [rowE tb (row_semtypebase_Source_Next)]) ⟨rowE_ok tabOk rk_semtypebase_Source_Next, trivial⟩ 3) mixed 8 (fn := Go.Proofs.Tryz.f90) (cd := cdOf Go.Proofs.Tryz.f90) (H := H_semtypebase_Source_Word) (rl := [.tmp 2]) Go.Proofs.Tryz.func90 (by kernel_rfl) (by kernel_rfl) (by kernel_rfl) (by kernel_rfl) (by kernel_rfl) (by kernel_rfl) (by kernel_rfl)

def H_semtypebase_Source_Label : Hints I where
  tds := fun i => (asc [] i).getD []
  spl := fun i => (asc [] i).getD []
  pre := fun i => (asc [] i).getD []
  join := asc []
  loop := asc []
  keep := asc []

def row_semtypebase_Source_Label : Row I := ⟨91, [.var 76 (.k (.d (.dat 76))) true], [.k (.d (.str))], semtypebase_Source_Label⟩

theorem rk_semtypebase_Source_Label  : RowOk Go.Proofs.Tryz.prog (row_semtypebase_Source_Label) :=
  row_ok tabOk (dispE_ok (es := [rowE tb (row_semtypebase_Source_Next)]) ⟨rowE_ok tabOk rk_semtypebase_Source_Next, trivial⟩ 3) mixed 8 (fn := Go.Proofs.Tryz.f91) (cd := cdOf Go.Proofs.Tryz.f91) (H := H_semtypebase_Source_Label) (rl := [.tmp 2]) Go.Proofs.Tryz.func91 (by kernel_rfl) (by kernel_rfl) (by kernel_rfl) (by kernel_rfl) (by kernel_rfl) (by kernel_rfl) (by kernel_rfl)

def H_semtypebase_Source_indices : Hints I where
  tds := fun i => (asc [] i).getD []
  spl := fun i => (asc [] i).getD []
  pre := fun i => (asc [] i).getD []
  join := asc []
  loop := asc [(28, ⟨16776706, [], [(0, .k (.d (.dat 76)))], [(1, .k (.d (.int .i64))), (9, .k (.row 3 false))], [((.exit 0), [(9, .k (.row 3 false))])], bnd tb (.slot 1) 2⟩)]
  keep := asc []

def row_semtypebase_Source_indices : Row I := ⟨92, [.var 76 (.k (.d (.dat 76))) true, .d (.int .i64), .d (.int .i64), .d (.int .i64)], [.k (.row 3 false)], semtypebase_Source_indices⟩

theorem rk_semtypebase_Source_indices  : RowOk Go.Proofs.Tryz.prog (row_semtypebase_Source_indices) :=
  row_ok tabOk (dispE_ok (es := [rowE tb (row_semtypebase_Source_Next)]) ⟨rowE_ok tabOk rk_semtypebase_Source_Next, trivial⟩ 3) mixed 25 (fn := Go.Proofs.Tryz.f92) (cd := cdOf Go.Proofs.Tryz.f92) (H := H_semtypebase_Source_indices) (rl := [.tmp 8]) Go.Proofs.Tryz.func92 (by kernel_rfl) (by kernel_rfl) (by kernel_rfl) (by kernel_rfl) (by kernel_rfl) (by kernel_rfl) (by kernel_rfl)

def H_semtypebase_Source_mapping : Hints I where
  tds := fun i => (asc [(7, [[], [0], [], [], [2, 3], [2, 3, 4], [], [], [6, 7], [], [6, 7, 8, 9], [6, 7, 8, 9, 10], [2, 3, 4, 5, 6, 7, 8, 9, 10, 11], [2, 3, 4, 5, 6, 7, 8, 9, 10, 11, 12], [0, 1, 2, 3, 4, 5, 6, 7, 8, 9, 10, 11, 12, 13], [0, 1, 2, 3, 4, 5, 6, 7, 8, 9, 10, 11, 12, 13, 14], [0, 1, 2, 3, 4, 5, 6, 7, 8, 9, 10, 11, 12, 13, 14, 15]])] i).getD []
  spl := fun i => (asc [] i).getD []
  pre := fun i => (asc [] i).getD []
  join := asc [(978, ⟨8796076244992, [], [(0, .k (.d (.dat 76))), (5, .lvs [.d (.int .i64), .d (.int .i64), .d (.int .i64), .d (.str), .row 3 false, .row 132 false, .d (.int .i64), .d (.int .i64)])], [(.normal, [])]⟩)]
  loop := asc [(122, ⟨8796091973760, [6], [(0, .k (.d (.dat 76))), (5, .lvs [.d (.int .i64), .d (.int .i64), .d (.int .i64), .d (.str), .row 3 false, .row 132 false, .d (.int .i64), .d (.int .i64)])], [(7, .k (.d (.int .i64)))], [((.exit 0), [])], bnd tb (.cst 3) 1⟩)]
  keep := asc []

def row_semtypebase_Source_mapping : Row I := ⟨93, [.var 76 (.k (.d (.dat 76))) true, .d (.int .i64)], [.k (.d (.dat 72))], semtypebase_Source_mapping⟩

theorem rk_semtypebase_Source_mapping  : RowOk Go.Proofs.Tryz.prog (row_semtypebase_Source_mapping) :=
  row_ok tabOk (dispE_ok (es := [rowE tb (row_semtypebase_Source_Next)]) ⟨rowE_ok tabOk rk_semtypebase_Source_Next, trivial⟩ 3) mixed 44 (fn := Go.Proofs.Tryz.f93) (cd := cdOf Go.Proofs.Tryz.f93) (H := H_semtypebase_Source_mapping) (rl := [.cell 4 72]) Go.Proofs.Tryz.func93 (by kernel_rfl) (by kernel_rfl) (by kernel_rfl) (by kernel_rfl) (by kernel_rfl) (by kernel_rfl) (by kernel_rfl)

def H_semtypebase_Source_node : Hints I where
  tds := fun i => (asc [(8, [[], [], [0, 1], [0, 1, 2], [], [], [], [], [7], [6, 7, 8], [5, 6, 7, 8, 9], [4, 5, 6, 7, 8, 9, 10], [4, 5, 6, 7, 8, 9, 10, 11], [0, 1, 2, 3, 4, 5, 6, 7, 8, 9, 10, 11, 12], [0, 1, 2, 3, 4, 5, 6, 7, 8, 9, 10, 11, 12, 13]])] i).getD []
  spl := fun i => (asc [] i).getD []
  pre := fun i => (asc [] i).getD []
  join := asc [(29, ⟨128, [], [], [(.normal, [(7, .k (.d (.int .i64)))])]⟩),
    (32243709, ⟨47223664828696452136960, [], [], [(.normal, [(73, .k (.d (.bool)))])]⟩),
    (2063597565, ⟨49517601571415210995964968960, [], [], [(.normal, [(93, .k (.d (.bool)))])]⟩)]
  loop := asc []
  keep := asc []

def row_semtypebase_Source_node : Row I := ⟨54, [.var 76 (.k (.d (.dat 76))) true, .d (.int .i64), .d (.int .i64)], [.k (.d (.dat 72))], semtypebase_Source_node⟩

theorem rk_semtypebase_Source_node  : RowOk Go.Proofs.Tryz.prog (row_semtypebase_Source_node) :=
  row_ok tabOk (dispE_ok (es := [rowE tb (row_semtypebase_Source_Next), rowE tb (row_semtypebase_Source_AtomName), rowE tb (row_semtypebase_Source_Word), rowE tb (row_semtypebase_Source_Label), rowE tb (row_semtypebase_Source_indices), rowE tb (row_semtypebase_Source_mapping)]) ⟨rowE_ok tabOk rk_semtypebase_Source_Next, ⟨rowE_ok tabOk rk_semtypebase_Source_AtomName, ⟨rowE_ok tabOk rk_semtypebase_Source_Word, ⟨rowE_ok tabOk rk_semtypebase_Source_Label, ⟨rowE_ok tabOk rk_semtypebase_Source_indices, ⟨rowE_ok tabOk rk_semtypebase_Source_mapping, trivial⟩⟩⟩⟩⟩⟩ 3) mixed 128 (fn := Go.Proofs.Tryz.f54) (cd := cdOf Go.Proofs.Tryz.f54) (H := H_semtypebase_Source_node) (rl := [.cell 6 72]) Go.Proofs.Tryz.func54 (by kernel_rfl) (by kernel_rfl) (by kernel_rfl) (by kernel_rfl) (by kernel_rfl) (by kernel_rfl) (by kernel_rfl)

def H_semtypebase_Source_Type : Hints I where
  tds := fun i => (asc [(6, [[], [0], [], [], [], [2, 3, 4], [2, 3, 4, 5], [0, 1, 2, 3, 4, 5, 6], [0, 1, 2, 3, 4, 5, 6, 7], [0, 1, 2, 3, 4, 5, 6, 7, 8]])] i).getD []
  spl := fun i => (asc [] i).getD []
  pre := fun i => (asc [] i).getD []
  join := asc []
  loop := asc [(122, ⟨16776256, [], [(0, .k (.d (.dat 76))), (5, .lvs [.row 72 false, .d (.int .i64)])], [(6, .k (.d (.int .i64)))], [((.exit 0), [])], bnd tb (.slot 1) 1⟩)]
  keep := asc []

def row_semtypebase_Source_Type : Row I := ⟨29, [.var 76 (.k (.d (.dat 76))) true, .d (.int .i64)], [.lvs [.row 72 false, .d (.int .i64)]], semtypebase_Source_Type⟩

theorem rk_semtypebase_Source_Type  : RowOk Go.Proofs.Tryz.prog (row_semtypebase_Source_Type) :=
  row_ok tabOk (dispE_ok (es := [rowE tb (row_semtypebase_Source_node)]) ⟨rowE_ok tabOk rk_semtypebase_Source_node, trivial⟩ 3) mixed 25 (fn := Go.Proofs.Tryz.f29) (cd := cdOf Go.Proofs.Tryz.f29) (H := H_semtypebase_Source_Type) (rl := [.cell 4 36]) Go.Proofs.Tryz.func29 (by kernel_rfl) (by kernel_rfl) (by kernel_rfl) (by kernel_rfl) (by kernel_rfl) (by kernel_rfl) (by kernel_rfl)

def H_semtypebase_Source_Number : Hints I where
  tds := fun i => (asc [] i).getD []
  spl := fun i => (asc [] i).getD []
  pre := fun i => (asc [] i).getD []
  join := asc []
  loop := asc []
  keep := asc []

def row_semtypebase_Source_Number : Row I := ⟨101, [.var 76 (.k (.d (.dat 76))) true], [.k (.d (.int .i64))], semtypebase_Source_Number⟩

theorem rk_semtypebase_Source_Number  : RowOk Go.Proofs.Tryz.prog (row_semtypebase_Source_Number) :=
  row_ok tabOk (dispE_ok (es := [rowE tb (row_semtypebase_Source_Next)]) ⟨rowE_ok tabOk rk_semtypebase_Source_Next, trivial⟩ 3) mixed 8 (fn := Go.Proofs.Tryz.f101) (cd := cdOf Go.Proofs.Tryz.f101) (H := H_semtypebase_Source_Number) (rl := [.tmp 2]) Go.Proofs.Tryz.func101 (by kernel_rfl) (by kernel_rfl) (by kernel_rfl) (by kernel_rfl) (by kernel_rfl) (by kernel_rfl) (by kernel_rfl)

def H_semtyperef1_Int : Hints I where
  tds := fun i => (asc [] i).getD []
  spl := fun i => (asc [] i).getD []
  pre := fun i => (asc [] i).getD []
  join := asc []
  loop := asc []
  keep := asc []

def row_semtyperef1_Int : Row I := ⟨94, [.d (.int .i64)], [.k (.d (.dat 28))], semtyperef1_Int⟩

theorem rk_semtyperef1_Int  : RowOk Go.Proofs.Tryz.prog (row_semtyperef1_Int) :=
  row_ok tabOk (dispE_ok (es := []) trivial 3) mixed 5 (fn := Go.Proofs.Tryz.f94) (cd := cdOf Go.Proofs.Tryz.f94) (H := H_semtyperef1_Int) (rl := [.cell 2 28]) Go.Proofs.Tryz.func94 (by kernel_rfl) (by kernel_rfl) (by kernel_rfl) (by kernel_rfl) (by kernel_rfl) (by kernel_rfl) (by kernel_rfl)

def H_semtyperef1_Atom : Hints I where
  tds := fun i => (asc [] i).getD []
  spl := fun i => (asc [] i).getD []
  pre := fun i => (asc [] i).getD []
  join := asc []
  loop := asc []
  keep := asc []

def row_semtyperef1_Atom : Row I := ⟨96, [.d (.str)], [.k (.d (.dat 28))], semtyperef1_Atom⟩

theorem rk_semtyperef1_Atom  : RowOk Go.Proofs.Tryz.prog (row_semtyperef1_Atom) :=
  row_ok tabOk (dispE_ok (es := []) trivial 3) mixed 5 (fn := Go.Proofs.Tryz.f96) (cd := cdOf Go.Proofs.Tryz.f96) (H := H_semtyperef1_Atom) (rl := [.cell 2 28]) Go.Proofs.Tryz.func96 (by kernel_rfl) (by kernel_rfl) (by kernel_rfl) (by kernel_rfl) (by kernel_rfl) (by kernel_rfl) (by kernel_rfl)

def H_semtyperef1_String : Hints I where
  tds := fun i => (asc [] i).getD []
  spl := fun i => (asc [] i).getD []
  pre := fun i => (asc [] i).getD []
  join := asc []
  loop := asc []
  keep := asc []

def row_semtyperef1_String : Row I := ⟨95, [.d (.str)], [.k (.d (.dat 28))], semtyperef1_String⟩

theorem rk_semtyperef1_String  : RowOk Go.Proofs.Tryz.prog (row_semtyperef1_String) :=
  row_ok tabOk (dispE_ok (es := []) trivial 3) mixed 5 (fn := Go.Proofs.Tryz.f95) (cd := cdOf Go.Proofs.Tryz.f95) (H := H_semtyperef1_String) (rl := [.cell 2 28]) Go.Proofs.Tryz.func95 (by kernel_rfl) (by kernel_rfl) (by kernel_rfl) (by kernel_rfl) (by kernel_rfl) (by kernel_rfl) (by kernel_rfl)

def H_semtyperef1_Pid : Hints I where
  tds := fun i => (asc [] i).getD []
  spl := fun i => (asc [] i).getD []
  pre := fun i => (asc [] i).getD []
  join := asc []
  loop := asc []
  keep := asc []

def row_semtyperef1_Pid : Row I := ⟨97, [.d (.int .i64)], [.k (.d (.dat 28))], semtyperef1_Pid⟩

theorem rk_semtyperef1_Pid  : RowOk Go.Proofs.Tryz.prog (row_semtyperef1_Pid) :=
  row_ok tabOk (dispE_ok (es := []) trivial 3) mixed 5 (fn := Go.Proofs.Tryz.f97) (cd := cdOf Go.Proofs.Tryz.f97) (H := H_semtyperef1_Pid) (rl := [.cell 2 28]) Go.Proofs.Tryz.func97 (by kernel_rfl) (by kernel_rfl) (by kernel_rfl) (by kernel_rfl) (by kernel_rfl) (by kernel_rfl) (by kernel_rfl)

def H_semtyperef1_copies : Hints I where
  tds := fun i => (asc [] i).getD []
  spl := fun i => (asc [] i).getD []
  pre := fun i => (asc [] i).getD []
  join := asc []
  loop := asc []
  keep := asc []

def row_semtyperef1_copies : Row I := ⟨138, [.d (.sl 28)], [.k (.row 28 false)], semtyperef1_copies⟩

theorem rk_semtyperef1_copies  : RowOk Go.Proofs.Tryz.prog (row_semtyperef1_copies) :=
  row_ok tabOk (dispE_ok (es := []) trivial 3) mixed 5 (fn := Go.Proofs.Tryz.f138) (cd := cdOf Go.Proofs.Tryz.f138) (H := H_semtyperef1_copies) (rl := [.tmp 2]) Go.Proofs.Tryz.func138 (by kernel_rfl) (by kernel_rfl) (by kernel_rfl) (by kernel_rfl) (by kernel_rfl) (by kernel_rfl) (by kernel_rfl)

def H_semtyperef1_Tuple : Hints I where
  tds := fun i => (asc [] i).getD []
  spl := fun i => (asc [] i).getD []
  pre := fun i => (asc [] i).getD []
  join := asc []
  loop := asc []
  keep := asc []

def row_semtyperef1_Tuple : Row I := ⟨102, [.d (.sl 28)], [.k (.d (.dat 28))], semtyperef1_Tuple⟩

theorem rk_semtyperef1_Tuple  : RowOk Go.Proofs.Tryz.prog (row_semtyperef1_Tuple) :=
  row_ok tabOk (dispE_ok (es := [rowE tb (row_semtyperef1_copies)]) ⟨rowE_ok tabOk rk_semtyperef1_copies, trivial⟩ 3) mixed 6 (fn := Go.Proofs.Tryz.f102) (cd := cdOf Go.Proofs.Tryz.f102) (H := H_semtyperef1_Tuple) (rl := [.cell 2 28]) Go.Proofs.Tryz.func102 (by kernel_rfl) (by kernel_rfl) (by kernel_rfl) (by kernel_rfl) (by kernel_rfl) (by kernel_rfl) (by kernel_rfl)

def H_semtypebase_Source_leaf : Hints I where
  tds := fun i => (asc [] i).getD []
  spl := fun i => (asc [] i).getD []
  pre := fun i => (asc [] i).getD []
  join := asc []
  loop := asc []
  keep := asc []

def row_semtypebase_Source_leaf : Row I := ⟨56, [.var 76 (.k (.d (.dat 76))) true], [.k (.d (.dat 28))], semtypebase_Source_leaf⟩

theorem rk_semtypebase_Source_leaf  : RowOk Go.Proofs.Tryz.prog (row_semtypebase_Source_leaf) :=
  row_ok tabOk (dispE_ok (es := [rowE tb (row_semtypebase_Source_Next), rowE tb (row_semtypebase_Source_Number), rowE tb (row_semtyperef1_Int), rowE tb (row_semtypebase_Source_AtomName), rowE tb (row_semtyperef1_Atom), rowE tb (row_semtypebase_Source_Word), rowE tb (row_semtyperef1_String), rowE tb (row_semtyperef1_Pid), rowE tb (row_semtyperef1_Nil), rowE tb (row_semtyperef1_Tuple)]) ⟨rowE_ok tabOk rk_semtypebase_Source_Next, ⟨rowE_ok tabOk rk_semtypebase_Source_Number, ⟨rowE_ok tabOk rk_semtyperef1_Int, ⟨rowE_ok tabOk rk_semtypebase_Source_AtomName, ⟨rowE_ok tabOk rk_semtyperef1_Atom, ⟨rowE_ok tabOk rk_semtypebase_Source_Word, ⟨rowE_ok tabOk rk_semtyperef1_String, ⟨rowE_ok tabOk rk_semtyperef1_Pid, ⟨rowE_ok tabOk rk_semtyperef1_Nil, ⟨rowE_ok tabOk rk_semtyperef1_Tuple, trivial⟩⟩⟩⟩⟩⟩⟩⟩⟩⟩ 3) mixed 29 (fn := Go.Proofs.Tryz.f56) (cd := cdOf Go.Proofs.Tryz.f56) (H := H_semtypebase_Source_leaf) (rl := [.cell 2 28]) Go.Proofs.Tryz.func56 (by kernel_rfl) (by kernel_rfl) (by kernel_rfl) (by kernel_rfl) (by kernel_rfl) (by kernel_rfl) (by kernel_rfl)

def H_semtyperef1_lower : Hints I where
  tds := fun i => (asc [] i).getD []
  spl := fun i => (asc [] i).getD []
  pre := fun i => (asc [] i).getD []
  join := asc []
  loop := asc []
  keep := asc []

def row_semtyperef1_lower : Row I := ⟨133, [.d (.int .u8)], [.k (.d (.bool))], semtyperef1_lower⟩

theorem rk_semtyperef1_lower  : RowOk Go.Proofs.Tryz.prog (row_semtyperef1_lower) :=
  row_ok tabOk (dispE_ok (es := []) trivial 3) mixed 9 (fn := Go.Proofs.Tryz.f133) (cd := cdOf Go.Proofs.Tryz.f133) (H := H_semtyperef1_lower) (rl := [.tmp 2]) Go.Proofs.Tryz.func133 (by kernel_rfl) (by kernel_rfl) (by kernel_rfl) (by kernel_rfl) (by kernel_rfl) (by kernel_rfl) (by kernel_rfl)

def H_semtyperef1_digit : Hints I where
  tds := fun i => (asc [] i).getD []
  spl := fun i => (asc [] i).getD []
  pre := fun i => (asc [] i).getD []
  join := asc []
  loop := asc []
  keep := asc []

def row_semtyperef1_digit : Row I := ⟨134, [.d (.int .u8)], [.k (.d (.bool))], semtyperef1_digit⟩

theorem rk_semtyperef1_digit  : RowOk Go.Proofs.Tryz.prog (row_semtyperef1_digit) :=
  row_ok tabOk (dispE_ok (es := []) trivial 3) mixed 9 (fn := Go.Proofs.Tryz.f134) (cd := cdOf Go.Proofs.Tryz.f134) (H := H_semtyperef1_digit) (rl := [.tmp 2]) Go.Proofs.Tryz.func134 (by kernel_rfl) (by kernel_rfl) (by kernel_rfl) (by kernel_rfl) (by kernel_rfl) (by kernel_rfl) (by kernel_rfl)

def H_semtyperef1_IsAtom : Hints I where
  tds := fun i => (asc [] i).getD []
  spl := fun i => (asc [] i).getD []
  pre := fun i => (asc [] i).getD []
  join := asc []
  loop := asc [(58, ⟨4398046248972, [], [], [(3, .k (.d (.int .i64)))], [((.exit 0), []), (.ret, [(2, .k (.d (.bool)))])], bnd tb (.len (.slot 0)) 1⟩)]
  keep := asc []

def row_semtyperef1_IsAtom : Row I := ⟨82, [.d (.str)], [.k (.d (.bool))], semtyperef1_IsAtom⟩

theorem rk_semtyperef1_IsAtom  : RowOk Go.Proofs.Tryz.prog (row_semtyperef1_IsAtom) :=
  row_ok tabOk (dispE_ok (es := [rowE tb (row_semtyperef1_lower), rowE tb (row_semtyperef1_digit)]) ⟨rowE_ok tabOk rk_semtyperef1_lower, ⟨rowE_ok tabOk rk_semtyperef1_digit, trivial⟩⟩ 3) mixed 42 (fn := Go.Proofs.Tryz.f82) (cd := cdOf Go.Proofs.Tryz.f82) (H := H_semtyperef1_IsAtom) (rl := [.tmp 2]) Go.Proofs.Tryz.func82 (by kernel_rfl) (by kernel_rfl) (by kernel_rfl) (by kernel_rfl) (by kernel_rfl) (by kernel_rfl) (by kernel_rfl)

def H_semtyperef1_ValidKey : Hints I where
  tds := fun i => (asc [] i).getD []
  spl := fun i => (asc [] i).getD []
  pre := fun i => (asc [] i).getD []
  join := asc []
  loop := asc []
  keep := asc []

def row_semtyperef1_ValidKey : Row I := ⟨83, [.d (.dat 114)], [.k (.d (.bool))], semtyperef1_ValidKey⟩

theorem rk_semtyperef1_ValidKey  : RowOk Go.Proofs.Tryz.prog (row_semtyperef1_ValidKey) :=
  row_ok tabOk (dispE_ok (es := [rowE tb (row_semtyperef1_IsAtom)]) ⟨rowE_ok tabOk rk_semtyperef1_IsAtom, trivial⟩ 3) mixed 22 (fn := Go.Proofs.Tryz.f83) (cd := cdOf Go.Proofs.Tryz.f83) (H := H_semtyperef1_ValidKey) (rl := [.tmp 2]) Go.Proofs.Tryz.func83 (by kernel_rfl) (by kernel_rfl) (by kernel_rfl) (by kernel_rfl) (by kernel_rfl) (by kernel_rfl) (by kernel_rfl)

def H_semtyperef1_Order : Hints I where
  tds := fun i => (asc [] i).getD []
  spl := fun i => (asc [] i).getD []
  pre := fun i => (asc [] i).getD []
  join := asc []
  loop := asc []
  keep := asc []

def row_semtyperef1_Order : Row I := ⟨86, [.d (.int .i64), .d (.int .i64)], [.k (.d (.int .i64))], semtyperef1_Order⟩

theorem rk_semtyperef1_Order  : RowOk Go.Proofs.Tryz.prog (row_semtyperef1_Order) :=
  row_ok tabOk (dispE_ok (es := []) trivial 3) mixed 11 (fn := Go.Proofs.Tryz.f86) (cd := cdOf Go.Proofs.Tryz.f86) (H := H_semtyperef1_Order) (rl := [.tmp 4]) Go.Proofs.Tryz.func86 (by kernel_rfl) (by kernel_rfl) (by kernel_rfl) (by kernel_rfl) (by kernel_rfl) (by kernel_rfl) (by kernel_rfl)

def H_semtyperef1_Text : Hints I where
  tds := fun i => (asc [] i).getD []
  spl := fun i => (asc [] i).getD []
  pre := fun i => (asc [] i).getD []
  join := asc []
  loop := asc []
  keep := asc []

def row_semtyperef1_Text : Row I := ⟨87, [.d (.str), .d (.str)], [.k (.d (.int .i64))], semtyperef1_Text⟩

theorem rk_semtyperef1_Text  : RowOk Go.Proofs.Tryz.prog (row_semtyperef1_Text) :=
  row_ok tabOk (dispE_ok (es := []) trivial 3) mixed 11 (fn := Go.Proofs.Tryz.f87) (cd := cdOf Go.Proofs.Tryz.f87) (H := H_semtyperef1_Text) (rl := [.tmp 4]) Go.Proofs.Tryz.func87 (by kernel_rfl) (by kernel_rfl) (by kernel_rfl) (by kernel_rfl) (by kernel_rfl) (by kernel_rfl) (by kernel_rfl)

def H_semtyperef1_CompareKeys : Hints I where
  tds := fun i => (asc [] i).getD []
  spl := fun i => (asc [] i).getD []
  pre := fun i => (asc [] i).getD []
  join := asc []
  loop := asc []
  keep := asc []

def row_semtyperef1_CompareKeys : Row I := ⟨84, [.d (.dat 114), .d (.dat 114)], [.k (.d (.int .i64))], semtyperef1_CompareKeys⟩

theorem rk_semtyperef1_CompareKeys  : RowOk Go.Proofs.Tryz.prog (row_semtyperef1_CompareKeys) :=
  row_ok tabOk (dispE_ok (es := [rowE tb (row_semtyperef1_Order), rowE tb (row_semtyperef1_Text)]) ⟨rowE_ok tabOk rk_semtyperef1_Order, ⟨rowE_ok tabOk rk_semtyperef1_Text, trivial⟩⟩ 3) mixed 20 (fn := Go.Proofs.Tryz.f84) (cd := cdOf Go.Proofs.Tryz.f84) (H := H_semtyperef1_CompareKeys) (rl := [.tmp 4]) Go.Proofs.Tryz.func84 (by kernel_rfl) (by kernel_rfl) (by kernel_rfl) (by kernel_rfl) (by kernel_rfl) (by kernel_rfl) (by kernel_rfl)

def H_semtyperef1_Map : Hints I where
  tds := fun i => (asc [(13, [[], [], [1], [1, 2], [0, 1, 2, 3], [0, 1, 2, 3, 4], [0, 1, 2, 3, 4, 5], [0, 1, 2, 3, 4, 5, 6], [0, 1, 2, 3, 4, 5], [0, 1, 2, 3, 4, 5, 6, 7, 8], [0, 1, 2, 3, 4, 5, 6, 7, 8, 9], [0, 1, 2, 3, 4, 5], [0, 1, 2, 3, 4, 5], [0, 1, 2, 3, 4, 5, 11, 12], [0, 1, 2, 3, 4, 5, 11, 12, 13], [0, 1, 2, 3, 4, 5, 6, 7, 8, 9, 10, 11, 12, 13, 14], [0, 1, 2, 3, 4, 5, 6, 7, 8, 9, 10, 11, 12, 13, 14, 15], [0, 1, 2, 3, 4, 5, 6, 7, 8, 9, 10, 11, 12, 13, 14, 15, 16]]), (15, [[], [], [1], [1, 2], [0, 1, 2, 3], [0, 1, 2, 3, 4], [0, 1, 2, 3, 4, 5], [0, 1, 2, 3, 4, 5, 6], [0, 1, 2, 3, 4, 5], [0, 1, 2, 3, 4, 5, 6, 7, 8], [0, 1, 2, 3, 4, 5, 6, 7, 8, 9], [0, 1, 2, 3, 4, 5], [0, 1, 2, 3, 4, 5], [0, 1, 2, 3, 4, 5, 11, 12], [0, 1, 2, 3, 4, 5, 11, 12, 13], [0, 1, 2, 3, 4, 5, 6, 7, 8, 9, 10, 11, 12, 13, 14], [0, 1, 2, 3, 4, 5, 6, 7, 8, 9, 10, 11, 12, 13, 14, 15]]), (17, [[], [0], [], [0, 1, 2], [0, 1, 2, 3], [], [5], [], [5, 6, 7], [0, 1, 2, 3, 4, 5, 6, 7, 8], [0, 1, 2, 3, 4, 5, 6, 7, 8, 9], [0, 1, 2, 3, 4, 5, 6, 7, 8, 9, 10]]), (18, [[], [], [], [1, 2], [1, 2, 3], [1, 2, 3, 4], [0, 1, 2, 3, 4, 5], [], [7], [], [7, 8, 9], [0, 1, 2, 3, 4, 5, 6, 7, 8, 9, 10], [0, 1, 2, 3, 4, 5, 6, 7, 8, 9, 10, 11], [0, 1, 2, 3, 4, 5, 6, 7, 8, 9, 10, 11, 12]]), (19, [[], [], [], [1, 2], [1, 2, 3], [1, 2, 3, 4], [0, 1, 2, 3, 4, 5], [], [7], [], [7, 8, 9], [0, 1, 2, 3, 4, 5, 6, 7, 8, 9, 10], [0, 1, 2, 3, 4, 5, 6, 7, 8, 9, 10, 11], [0, 1, 2, 3, 4, 5, 6, 7, 8, 9, 10, 11, 12]])] i).getD []
  spl := fun i => (asc [] i).getD []
  pre := fun i => (asc [] i).getD []
  join := asc []
  loop := asc [(58, ⟨2147221600, [], [(4, .lvs [.d (.int .i64), .d (.int .i64), .d (.str), .row 28 false, .row 114 false, .row 30 false, .row 9 false])], [(6, .k (.d (.int .i64)))], [((.exit 0), []), (.ret, [(5, .k (.d (.int .i64)))])], bnd tb (.len (.slot 0)) 1⟩),
    (250, ⟨5192296858534827628530492034256672, [7], [(4, .lvs [.d (.int .i64), .d (.int .i64), .d (.str), .row 28 false, .row 114 false, .row 30 false, .row 9 false]), (7, .lvs [.d (.int .i64), .d (.int .i64), .d (.str), .d (.sl 28), .d (.sl 114), .row 30 true, .row 9 true])], [(8, .k (.d (.int .i64)))], [((.exit 2), []), (.ret, [(5, .k (.d (.int .i64)))])], bnd tb (.len (.slot 0)) 1⟩),
    (32036, ⟨288230101273805312, [7], [], [(9, .k (.d (.int .i64)))], [((.exit 4), [(9, .k (.d (.int .i64)))])], bnd tb (.len (.ld 24 (.fld 28 4 (.slot 7)))) 1⟩)]
  keep := asc []

def row_semtyperef1_Map : Row I := ⟨135, [.d (.sl 114), .d (.sl 28)], [.k (.d (.dat 28)), .k (.d (.int .i64))], semtyperef1_Map⟩

theorem rk_semtyperef1_Map  : RowOk Go.Proofs.Tryz.prog (row_semtyperef1_Map) :=
  row_ok tabOk (dispE_ok (es := [rowE tb (row_semtyperef1_ValidKey), rowE tb (row_semtyperef1_CompareKeys), rowE tb (row_semtyperef1_copies)]) ⟨rowE_ok tabOk rk_semtyperef1_ValidKey, ⟨rowE_ok tabOk rk_semtyperef1_CompareKeys, ⟨rowE_ok tabOk rk_semtyperef1_copies, trivial⟩⟩⟩ 3) mixed 113 (fn := Go.Proofs.Tryz.f135) (cd := cdOf Go.Proofs.Tryz.f135) (H := H_semtyperef1_Map) (rl := [.cell 4 28, .tmp 5]) Go.Proofs.Tryz.func135 (by kernel_rfl) (by kernel_rfl) (by kernel_rfl) (by kernel_rfl) (by kernel_rfl) (by kernel_rfl) (by kernel_rfl)

def H_semtyperef1_count : Hints I where
  tds := fun i => (asc [] i).getD []
  spl := fun i => (asc [] i).getD []
  pre := fun i => (asc [] i).getD []
  join := asc []
  loop := asc []
  keep := asc []

def row_semtyperef1_count : Row I := ⟨85, [.d (.int .i64), .d (.int .i64)], [.k (.d (.int .i64))], semtyperef1_count⟩

theorem rk_semtyperef1_count  : RowOk Go.Proofs.Tryz.prog (row_semtyperef1_count) :=
  row_ok tabOk (dispE_ok (es := [rowE tb (row_semtyperef1_Order)]) ⟨rowE_ok tabOk rk_semtyperef1_Order, trivial⟩ 3) mixed 8 (fn := Go.Proofs.Tryz.f85) (cd := cdOf Go.Proofs.Tryz.f85) (H := H_semtyperef1_count) (rl := [.tmp 4]) Go.Proofs.Tryz.func85 (by kernel_rfl) (by kernel_rfl) (by kernel_rfl) (by kernel_rfl) (by kernel_rfl) (by kernel_rfl) (by kernel_rfl)

def H_semtyperef1_Compare (n : Nat) : Hints I where
  tds := fun i => (asc [(12, [[], [0], [], [0, 1, 2], [0, 1, 2, 3], [], [5], [], [5, 6, 7], [5, 6, 7, 8], [0, 1, 2, 3, 4, 5, 6, 7, 8, 9], [0, 1, 2, 3, 4, 5, 6, 7, 8, 9, 10]]), (23, [[], [0], [], [0, 1, 2], [0, 1, 2, 3], [], [5], [], [5, 6, 7], [5, 6, 7, 8], [0, 1, 2, 3, 4, 5, 6, 7, 8, 9], [0, 1, 2, 3, 4, 5, 6, 7, 8, 9, 10]]), (31, [[], [0], [], [0, 1, 2], [0, 1, 2, 3], [], [5], [], [5, 6, 7], [5, 6, 7, 8], [0, 1, 2, 3, 4, 5, 6, 7, 8, 9], [0, 1, 2, 3, 4, 5, 6, 7, 8, 9, 10]])] i).getD []
  spl := fun i => (asc [] i).getD []
  pre := fun i => (asc [] i).getD []
  join := asc []
  loop := asc [(506, ⟨151115655394234608910448, [], [], [(5, .k (.d (.int .i64)))], [((.exit 0), []), (.ret, [(4, .k (.d (.int .i64)))])], bnd tb (.len (.ld 24 (.fld 28 4 (.slot 2)))) 1⟩),
    (8186, ⟨1329227361959615758789106311928742672, [], [], [(8, .k (.d (.int .i64)))], [((.exit 2), []), (.ret, [(4, .k (.d (.int .i64)))])], bnd tb (.len (.ld 25 (.fld 28 5 (.slot 2)))) 1⟩),
    (32762, ⟨45671904388519233253803489366408968731082361872, [], [], [(10, .k (.d (.int .i64)))], [((.exit 4), []), (.ret, [(4, .k (.d (.int .i64)))])], bnd tb (.len (.ld 26 (.fld 28 6 (.slot 2)))) 1⟩)]
  keep := asc []

def row_semtyperef1_Compare (n : Nat) : Row I := ⟨53, [.d (.dat 28), .d (.dat 28)], [.k (.d (.int .i64))], semtyperef1_Compare n⟩

def H_semtyperef1_values (n : Nat) : Hints I where
  tds := fun i => (asc [(6, [[], [], [0, 1], [0, 1, 2], [], [], [4, 5], [4, 5, 6], [0, 1, 2, 3, 4, 5, 6, 7], [0, 1, 2, 3, 4, 5, 6, 7, 8]])] i).getD []
  spl := fun i => (asc [] i).getD []
  pre := fun i => (asc [] i).getD []
  join := asc []
  loop := asc [(58, ⟨34359607408, [], [], [(5, .k (.d (.int .i64)))], [((.exit 0), []), (.ret, [(4, .k (.d (.int .i64)))])], bnd tb (.len (.slot 0)) 1⟩)]
  keep := asc []

def row_semtyperef1_values (n : Nat) : Row I := ⟨88, [.d (.sl 28), .d (.sl 28)], [.k (.d (.int .i64))], semtyperef1_values n⟩

def H_semtyperef1_CompareEntries (n : Nat) : Hints I where
  tds := fun i => (asc [] i).getD []
  spl := fun i => (asc [] i).getD []
  pre := fun i => (asc [] i).getD []
  join := asc []
  loop := asc []
  keep := asc []

def row_semtyperef1_CompareEntries (n : Nat) : Row I := ⟨70, [.d (.dat 30), .d (.dat 30)], [.k (.d (.int .i64))], semtyperef1_CompareEntries n⟩

theorem rkB_semtyperef1_Compare (n : Nat) (h_semtyperef1_Compare : RowOk Go.Proofs.Tryz.prog (row_semtyperef1_Compare n)) (h_semtyperef1_values : RowOk Go.Proofs.Tryz.prog (row_semtyperef1_values n)) (h_semtyperef1_CompareEntries : RowOk Go.Proofs.Tryz.prog (row_semtyperef1_CompareEntries n)) : RowOk Go.Proofs.Tryz.prog (row_semtyperef1_Compare (n + 1)) :=
  row_ok tabOk (dispE_ok (es := [rowE tb (row_semtyperef1_count), rowE tb (row_semtyperef1_Order), rowE tb (row_semtyperef1_Text), rowE tb (row_semtyperef1_CompareKeys), rowE tb (row_semtyperef1_values n), rowE tb (row_semtyperef1_CompareEntries n)]) ⟨rowE_ok tabOk rk_semtyperef1_count, ⟨rowE_ok tabOk rk_semtyperef1_Order, ⟨rowE_ok tabOk rk_semtyperef1_Text, ⟨rowE_ok tabOk rk_semtyperef1_CompareKeys, ⟨rowE_ok tabOk h_semtyperef1_values, ⟨rowE_ok tabOk h_semtyperef1_CompareEntries, trivial⟩⟩⟩⟩⟩⟩ 3) mixed 155 (fn := Go.Proofs.Tryz.f53) (cd := cdOf Go.Proofs.Tryz.f53) (H := (H_semtyperef1_Compare n)) (rl := [.tmp 4]) Go.Proofs.Tryz.func53 (by kernel_rfl) (by kernel_rfl) (by kernel_rfl) (by kernel_rfl) (by kernel_rfl) (by kernel_rfl) (by kernel_rfl)

theorem rkB_semtyperef1_values (n : Nat) (h_semtyperef1_Compare : RowOk Go.Proofs.Tryz.prog (row_semtyperef1_Compare n)) (h_semtyperef1_values : RowOk Go.Proofs.Tryz.prog (row_semtyperef1_values n)) (h_semtyperef1_CompareEntries : RowOk Go.Proofs.Tryz.prog (row_semtyperef1_CompareEntries n)) : RowOk Go.Proofs.Tryz.prog (row_semtyperef1_values (n + 1)) :=
  row_ok tabOk (dispE_ok (es := [rowE tb (row_semtyperef1_count), rowE tb (row_semtyperef1_Compare n)]) ⟨rowE_ok tabOk rk_semtyperef1_count, ⟨rowE_ok tabOk h_semtyperef1_Compare, trivial⟩⟩ 3) mixed 35 (fn := Go.Proofs.Tryz.f88) (cd := cdOf Go.Proofs.Tryz.f88) (H := (H_semtyperef1_values n)) (rl := [.tmp 4]) Go.Proofs.Tryz.func88 (by kernel_rfl) (by kernel_rfl) (by kernel_rfl) (by kernel_rfl) (by kernel_rfl) (by kernel_rfl) (by kernel_rfl)

theorem rkB_semtyperef1_CompareEntries (n : Nat) (h_semtyperef1_Compare : RowOk Go.Proofs.Tryz.prog (row_semtyperef1_Compare n)) (h_semtyperef1_values : RowOk Go.Proofs.Tryz.prog (row_semtyperef1_values n)) (h_semtyperef1_CompareEntries : RowOk Go.Proofs.Tryz.prog (row_semtyperef1_CompareEntries n)) : RowOk Go.Proofs.Tryz.prog (row_semtyperef1_CompareEntries (n + 1)) :=
  row_ok tabOk (dispE_ok (es := [rowE tb (row_semtyperef1_values n), rowE tb (row_semtyperef1_Compare n)]) ⟨rowE_ok tabOk h_semtyperef1_values, ⟨rowE_ok tabOk h_semtyperef1_Compare, trivial⟩⟩ 3) mixed 26 (fn := Go.Proofs.Tryz.f70) (cd := cdOf Go.Proofs.Tryz.f70) (H := (H_semtyperef1_CompareEntries n)) (rl := [.tmp 4]) Go.Proofs.Tryz.func70 (by kernel_rfl) (by kernel_rfl) (by kernel_rfl) (by kernel_rfl) (by kernel_rfl) (by kernel_rfl) (by kernel_rfl)

theorem rk_scc_semtyperef1_Compare : ∀ n : Nat, RowOk Go.Proofs.Tryz.prog (row_semtyperef1_Compare n) ∧ RowOk Go.Proofs.Tryz.prog (row_semtyperef1_values n) ∧ RowOk Go.Proofs.Tryz.prog (row_semtyperef1_CompareEntries n)
  | 0 => ⟨rowOk_none (by kernel_rfl), rowOk_none (by kernel_rfl), rowOk_none (by kernel_rfl)⟩
  | n + 1 => by
    obtain ⟨h0, h1, h2⟩ := rk_scc_semtyperef1_Compare n
    exact ⟨rkB_semtyperef1_Compare n h0 h1 h2, rkB_semtyperef1_values n h0 h1 h2, rkB_semtyperef1_CompareEntries n h0 h1 h2⟩

theorem rk_semtyperef1_Compare (n : Nat) : RowOk Go.Proofs.Tryz.prog (row_semtyperef1_Compare n) := (rk_scc_semtyperef1_Compare n).1

theorem rk_semtyperef1_CompareEntries (n : Nat) : RowOk Go.Proofs.Tryz.prog (row_semtyperef1_CompareEntries n) := (rk_scc_semtyperef1_Compare n).2.2

def H_semtyperef1_Equal (n : Nat) : Hints I where
  tds := fun i => (asc [] i).getD []
  spl := fun i => (asc [] i).getD []
  pre := fun i => (asc [] i).getD []
  join := asc []
  loop := asc []
  keep := asc []

def row_semtyperef1_Equal (n : Nat) : Row I := ⟨27, [.d (.dat 28), .d (.dat 28)], [.k (.d (.bool))], semtyperef1_Equal n⟩

theorem rk_semtyperef1_Equal (n : Nat)  : RowOk Go.Proofs.Tryz.prog (row_semtyperef1_Equal n) :=
  row_ok tabOk (dispE_ok (es := [rowE tb (row_semtyperef1_Compare n)]) ⟨rowE_ok tabOk (rk_semtyperef1_Compare n), trivial⟩ 3) mixed 9 (fn := Go.Proofs.Tryz.f27) (cd := cdOf Go.Proofs.Tryz.f27) (H := (H_semtyperef1_Equal n)) (rl := [.tmp 4]) Go.Proofs.Tryz.func27 (by kernel_rfl) (by kernel_rfl) (by kernel_rfl) (by kernel_rfl) (by kernel_rfl) (by kernel_rfl) (by kernel_rfl)

def H_semtyperef1_entries (n : Nat) : Hints I where
  tds := fun i => (asc [(6, [[], [], [1], [0, 1, 2], [0, 1, 2, 3], [0, 1, 2, 3, 4], [0, 1, 2, 3, 4], [0, 1, 2, 3, 4, 5, 6], [0, 1, 2, 3, 4, 5, 6, 7], [0, 1, 2, 3, 4], [0, 1, 2, 3, 4], [0, 1, 2, 3, 4, 9, 10], [0, 1, 2, 3, 4, 9, 10, 11], [0, 1, 2, 3, 4, 5, 6, 7, 8, 9, 10, 11, 12], [0, 1, 2, 3, 4, 5, 6, 7, 8, 9, 10, 11, 12, 13], [0, 1, 2, 3, 4, 5, 6, 7, 8, 9, 10, 11, 12, 13, 14]]), (8, [[], [], [1], [0, 1, 2], [0, 1, 2, 3], [0, 1, 2, 3, 4], [0, 1, 2, 3, 4], [0, 1, 2, 3, 4, 5, 6], [0, 1, 2, 3, 4, 5, 6, 7], [0, 1, 2, 3, 4], [0, 1, 2, 3, 4], [0, 1, 2, 3, 4, 9, 10], [0, 1, 2, 3, 4, 9, 10, 11], [0, 1, 2, 3, 4, 5, 6, 7, 8, 9, 10, 11, 12], [0, 1, 2, 3, 4, 5, 6, 7, 8, 9, 10, 11, 12, 13], [0, 1, 2, 3, 4, 5, 6, 7, 8, 9, 10, 11, 12, 13, 14]]), (10, [[], [], [], [1, 2], [1, 2, 3], [1, 2, 3, 4], [0, 1, 2, 3, 4, 5], [], [], [7, 8], [0, 1, 2, 3, 4, 5, 6, 7, 8, 9], [0, 1, 2, 3, 4, 5, 6, 7, 8, 9, 10]])] i).getD []
  spl := fun i => (asc [] i).getD []
  pre := fun i => (asc [] i).getD []
  join := asc [(466, ⟨4611686018427379816, [], [], [(.normal, [(3, .k (.d (.sl 30)))])]⟩)]
  loop := asc [(58, ⟨4611686018427387896, [], [], [(3, .k (.d (.sl 30))), (4, .k (.d (.int .i64)))], [((.exit 0), [(3, .k (.d (.sl 30)))])], bnd tb (.len (.slot 0)) 1⟩),
    (7460, ⟨2147475488, [3], [], [(5, .k (.d (.int .i64)))], [((.exit 2), [(5, .k (.d (.int .i64)))])], bnd tb (.len (.slot 3)) 1⟩)]
  keep := asc []

def row_semtyperef1_entries (n : Nat) : Row I := ⟨39, [.bor 30], [.k (.d (.sl 30))], semtyperef1_entries n⟩

theorem rk_semtyperef1_entries (n : Nat)  : RowOk Go.Proofs.Tryz.prog (row_semtyperef1_entries n) :=
  row_ok tabOk (dispE_ok (es := [rowE tb (row_semtyperef1_CompareEntries n)]) ⟨rowE_ok tabOk (rk_semtyperef1_CompareEntries n), trivial⟩ 3) mixed 63 (fn := Go.Proofs.Tryz.f39) (cd := cdOf Go.Proofs.Tryz.f39) (H := (H_semtyperef1_entries n)) (rl := [.tmp 2]) Go.Proofs.Tryz.func39 (by kernel_rfl) (by kernel_rfl) (by kernel_rfl) (by kernel_rfl) (by kernel_rfl) (by kernel_rfl) (by kernel_rfl)

def H_semtyperef1_Function (n : Nat) : Hints I where
  tds := fun i => (asc [] i).getD []
  spl := fun i => (asc [] i).getD []
  pre := fun i => (asc [] i).getD []
  join := asc []
  loop := asc [(58, ⟨70368744161376, [], [(4, .lvs [.d (.int .i64), .d (.int .i64), .d (.str), .row 28 false, .row 114 false, .row 30 false, .row 9 false])], [(6, .k (.d (.int .i64)))], [((.exit 0), []), (.ret, [(5, .k (.d (.int .i64)))])], bnd tb (.len (.slot 1)) 1⟩)]
  keep := asc []

def row_semtyperef1_Function (n : Nat) : Row I := ⟨14, [.d (.int .i64), .bor 30], [.k (.d (.dat 28)), .k (.d (.int .i64))], semtyperef1_Function n⟩

theorem rk_semtyperef1_Function (n : Nat)  : RowOk Go.Proofs.Tryz.prog (row_semtyperef1_Function n) :=
  row_ok tabOk (dispE_ok (es := [rowE tb (row_semtyperef1_Equal n), rowE tb (row_semtyperef1_entries n)]) ⟨rowE_ok tabOk (rk_semtyperef1_Equal n), ⟨rowE_ok tabOk (rk_semtyperef1_entries n), trivial⟩⟩ 3) mixed 50 (fn := Go.Proofs.Tryz.f14) (cd := cdOf Go.Proofs.Tryz.f14) (H := (H_semtyperef1_Function n)) (rl := [.cell 4 28, .tmp 5]) Go.Proofs.Tryz.func14 (by kernel_rfl) (by kernel_rfl) (by kernel_rfl) (by kernel_rfl) (by kernel_rfl) (by kernel_rfl) (by kernel_rfl)

def H_semtyperef1_Sorted : Hints I where
  tds := fun i => (asc [(6, [[], [], [1], [0, 1, 2], [0, 1, 2, 3], [0, 1, 2, 3, 4], [0, 1, 2, 3, 4], [0, 1, 2, 3, 4, 5, 6], [0, 1, 2, 3, 4, 5, 6, 7], [0, 1, 2, 3, 4], [0, 1, 2, 3, 4], [0, 1, 2, 3, 4, 9, 10], [0, 1, 2, 3, 4, 9, 10, 11], [0, 1, 2, 3, 4, 5, 6, 7, 8, 9, 10, 11, 12], [0, 1, 2, 3, 4, 5, 6, 7, 8, 9, 10, 11, 12, 13]]), (8, [[], [], [1], [0, 1, 2], [0, 1, 2, 3], [0, 1, 2, 3, 4], [0, 1, 2, 3, 4], [0, 1, 2, 3, 4, 5, 6], [0, 1, 2, 3, 4, 5, 6, 7], [0, 1, 2, 3, 4], [0, 1, 2, 3, 4], [0, 1, 2, 3, 4, 9, 10], [0, 1, 2, 3, 4, 9, 10, 11], [0, 1, 2, 3, 4, 5, 6, 7, 8, 9, 10, 11, 12], [0, 1, 2, 3, 4, 5, 6, 7, 8, 9, 10, 11, 12, 13]]), (10, [[], [], [], [1, 2], [1, 2, 3], [1, 2, 3, 4], [0, 1, 2, 3, 4, 5], [], [], [7, 8], [0, 1, 2, 3, 4, 5, 6, 7, 8, 9], [0, 1, 2, 3, 4, 5, 6, 7, 8, 9, 10]])] i).getD []
  spl := fun i => (asc [] i).getD []
  pre := fun i => (asc [] i).getD []
  join := asc [(466, ⟨1152921504606838888, [], [], [(.normal, [(3, .k (.d (.sl 9)))])]⟩)]
  loop := asc [(58, ⟨1152921504606846968, [], [], [(3, .k (.d (.sl 9))), (4, .k (.d (.int .i64)))], [((.exit 0), [(3, .k (.d (.sl 9)))])], bnd tb (.len (.slot 0)) 1⟩),
    (7460, ⟨1073733664, [3], [], [(5, .k (.d (.int .i64)))], [((.exit 2), [(5, .k (.d (.int .i64)))])], bnd tb (.len (.slot 3)) 1⟩)]
  keep := asc []

def row_semtyperef1_Sorted : Row I := ⟨50, [.d (.sl 9)], [.k (.d (.sl 9))], semtyperef1_Sorted⟩

theorem rk_semtyperef1_Sorted  : RowOk Go.Proofs.Tryz.prog (row_semtyperef1_Sorted) :=
  row_ok tabOk (dispE_ok (es := []) trivial 3) mixed 61 (fn := Go.Proofs.Tryz.f50) (cd := cdOf Go.Proofs.Tryz.f50) (H := H_semtyperef1_Sorted) (rl := [.tmp 2]) Go.Proofs.Tryz.func50 (by kernel_rfl) (by kernel_rfl) (by kernel_rfl) (by kernel_rfl) (by kernel_rfl) (by kernel_rfl) (by kernel_rfl)

def H_semtyperef1_WithLabels : Hints I where
  tds := fun i => (asc [] i).getD []
  spl := fun i => (asc [] i).getD []
  pre := fun i => (asc [] i).getD []
  join := asc []
  loop := asc []
  keep := asc []

def row_semtyperef1_WithLabels : Row I := ⟨24, [.d (.dat 28), .d (.sl 9)], [.k (.d (.dat 28))], semtyperef1_WithLabels⟩

theorem rk_semtyperef1_WithLabels  : RowOk Go.Proofs.Tryz.prog (row_semtyperef1_WithLabels) :=
  row_ok tabOk (dispE_ok (es := [rowE tb (row_semtyperef1_Sorted)]) ⟨rowE_ok tabOk rk_semtyperef1_Sorted, trivial⟩ 3) mixed 9 (fn := Go.Proofs.Tryz.f24) (cd := cdOf Go.Proofs.Tryz.f24) (H := H_semtyperef1_WithLabels) (rl := [.cell 4 28]) Go.Proofs.Tryz.func24 (by kernel_rfl) (by kernel_rfl) (by kernel_rfl) (by kernel_rfl) (by kernel_rfl) (by kernel_rfl) (by kernel_rfl)

def H_semtyperef1_Cons : Hints I where
  tds := fun i => (asc [] i).getD []
  spl := fun i => (asc [] i).getD []
  pre := fun i => (asc [] i).getD []
  join := asc []
  loop := asc []
  keep := asc []

def row_semtyperef1_Cons : Row I := ⟨166, [.d (.dat 28), .d (.dat 28)], [.k (.d (.dat 28))], semtyperef1_Cons⟩

theorem rk_semtyperef1_Cons  : RowOk Go.Proofs.Tryz.prog (row_semtyperef1_Cons) :=
  row_ok tabOk (dispE_ok (es := []) trivial 3) mixed 9 (fn := Go.Proofs.Tryz.f166) (cd := cdOf Go.Proofs.Tryz.f166) (H := H_semtyperef1_Cons) (rl := [.cell 4 28]) Go.Proofs.Tryz.func166 (by kernel_rfl) (by kernel_rfl) (by kernel_rfl) (by kernel_rfl) (by kernel_rfl) (by kernel_rfl) (by kernel_rfl)

def H_semtypebase_Source_Labels : Hints I where
  tds := fun i => (asc [] i).getD []
  spl := fun i => (asc [] i).getD []
  pre := fun i => (asc [] i).getD []
  join := asc [(29, ⟨1048456, [], [(0, .k (.d (.dat 76)))], [(.normal, [(3, .k (.row 9 false))])]⟩)]
  loop := asc []
  keep := asc []

def row_semtypebase_Source_Labels : Row I := ⟨137, [.var 76 (.k (.d (.dat 76))) true], [.k (.d (.sl 9))], semtypebase_Source_Labels⟩

theorem rk_semtypebase_Source_Labels  : RowOk Go.Proofs.Tryz.prog (row_semtypebase_Source_Labels) :=
  row_ok tabOk (dispE_ok (es := [rowE tb (row_semtypebase_Source_Next), rowE tb (row_semtypebase_Source_Label), rowE tb (row_semtyperef1_Sorted)]) ⟨rowE_ok tabOk rk_semtypebase_Source_Next, ⟨rowE_ok tabOk rk_semtypebase_Source_Label, ⟨rowE_ok tabOk rk_semtyperef1_Sorted, trivial⟩⟩⟩ 3) mixed 22 (fn := Go.Proofs.Tryz.f137) (cd := cdOf Go.Proofs.Tryz.f137) (H := H_semtypebase_Source_Labels) (rl := [.tmp 2]) Go.Proofs.Tryz.func137 (by kernel_rfl) (by kernel_rfl) (by kernel_rfl) (by kernel_rfl) (by kernel_rfl) (by kernel_rfl) (by kernel_rfl)

def H_semtypebase_Source_Key : Hints I where
  tds := fun i => (asc [] i).getD []
  spl := fun i => (asc [] i).getD []
  pre := fun i => (asc [] i).getD []
  join := asc []
  loop := asc []
  keep := asc []

def row_semtypebase_Source_Key : Row I := ⟨167, [.var 76 (.k (.d (.dat 76))) true], [.k (.d (.dat 114))], semtypebase_Source_Key⟩

theorem rk_semtypebase_Source_Key  : RowOk Go.Proofs.Tryz.prog (row_semtypebase_Source_Key) :=
  row_ok tabOk (dispE_ok (es := [rowE tb (row_semtypebase_Source_Next), rowE tb (row_semtypebase_Source_AtomName), rowE tb (row_semtypebase_Source_Word)]) ⟨rowE_ok tabOk rk_semtypebase_Source_Next, ⟨rowE_ok tabOk rk_semtypebase_Source_AtomName, ⟨rowE_ok tabOk rk_semtypebase_Source_Word, trivial⟩⟩⟩ 3) mixed 12 (fn := Go.Proofs.Tryz.f167) (cd := cdOf Go.Proofs.Tryz.f167) (H := H_semtypebase_Source_Key) (rl := [.cell 2 114]) Go.Proofs.Tryz.func167 (by kernel_rfl) (by kernel_rfl) (by kernel_rfl) (by kernel_rfl) (by kernel_rfl) (by kernel_rfl) (by kernel_rfl)

def H_semtypebase_Source_Value (n : Nat) : Hints I where
  tds := fun i => (asc [] i).getD []
  spl := fun i => (asc [] i).getD []
  pre := fun i => (asc [] i).getD []
  join := asc []
  loop := asc []
  keep := asc []

def row_semtypebase_Source_Value (n : Nat) : Row I := ⟨100, [.var 76 (.k (.d (.dat 76))) true, .d (.int .i64)], [.k (.d (.dat 28))], semtypebase_Source_Value n⟩

def H_semtypebase_Source_value (n : Nat) : Hints I where
  tds := fun i => (asc [(16, [[], [], [1], [0, 1, 2], [], [0, 1, 2, 3, 4], [0, 1, 2, 3, 4, 5]])] i).getD []
  spl := fun i => (asc [(13, [46])] i).getD []
  pre := fun i => (asc [] i).getD []
  join := asc [(29, ⟨5316911983139663491615228241104863200, [], [(0, .k (.d (.dat 76))), (4, .lvs [.d (.int .i64), .d (.int .i64), .d (.str), .d (.sl 28), .d (.sl 114), .d (.sl 30), .d (.sl 9)])], [(.normal, []), (.ret, [])]⟩),
    (7540, ⟨2234207627640832, [], [(0, .k (.d (.dat 76)))], [(.normal, [(50, .k (.d (.bool)))])]⟩),
    (7541, ⟨141863388262170624, [], [(0, .k (.d (.dat 76))), (7, .k (.d (.dat 28)))], [(.normal, [])]⟩)]
  loop := asc [(3754, ⟨549487378528, [], [(0, .k (.d (.dat 76)))], [(5, .k (.row 28 false)), (6, .k (.d (.int .i64)))], [((.exit 1), [(5, .k (.row 28 false))])], bnd tb (.slot 6) 2⟩),
    (120794, ⟨77370071863715549769893632, [], [(0, .k (.d (.dat 76)))], [(8, .k (.row 114 false)), (9, .k (.row 28 false)), (10, .k (.d (.int .i64)))], [((.exit 3), [(8, .k (.row 114 false)), (9, .k (.row 28 false))])], bnd tb (.slot 10) 2⟩),
    (483290, ⟨10382058415869198798257999252078592, [], [(0, .k (.d (.dat 76)))], [(14, .k (.row 30 false)), (15, .k (.d (.int .i64)))], [((.exit 5), [(14, .k (.row 30 false))])], bnd tb (.slot 15) 2⟩)]
  keep := asc []

def row_semtypebase_Source_value (n : Nat) : Row I := ⟨136, [.var 76 (.k (.d (.dat 76))) true, .d (.int .i64)], [.k (.d (.dat 28))], semtypebase_Source_value n⟩

def H_semtypebase_Source_entry (n : Nat) : Hints I where
  tds := fun i => (asc [(4, [[], [0], [], [], [2, 3], [2, 3, 4], [0, 1, 2, 3, 4, 5], [0, 1, 2, 3, 4, 5, 6], [0, 1, 2, 3, 4, 5, 6, 7]])] i).getD []
  spl := fun i => (asc [] i).getD []
  pre := fun i => (asc [] i).getD []
  join := asc []
  loop := asc [(28, ⟨1048322, [], [(0, .k (.d (.dat 76))), (7, .lvs [.row 28 false, .d (.bool), .d (.int .i64), .d (.int .i64), .d (.str), .row 28 false, .row 114 false, .row 30 false, .row 9 false])], [(1, .k (.d (.int .i64)))], [((.exit 0), [])], bnd tb (.slot 1) 2⟩)]
  keep := asc []

def row_semtypebase_Source_entry (n : Nat) : Row I := ⟨168, [.var 76 (.k (.d (.dat 76))) true, .d (.int .i64), .d (.int .i64)], [.k (.d (.dat 30))], semtypebase_Source_entry n⟩

theorem rkB_semtypebase_Source_Value (n : Nat) (h_semtypebase_Source_Value : RowOk Go.Proofs.Tryz.prog (row_semtypebase_Source_Value n)) (h_semtypebase_Source_value : RowOk Go.Proofs.Tryz.prog (row_semtypebase_Source_value n)) (h_semtypebase_Source_entry : RowOk Go.Proofs.Tryz.prog (row_semtypebase_Source_entry n)) : RowOk Go.Proofs.Tryz.prog (row_semtypebase_Source_Value (n + 1)) :=
  row_ok tabOk (dispE_ok (es := [rowE tb (row_semtypebase_Source_value n), rowE tb (row_semtypebase_Source_Labels)]) ⟨rowE_ok tabOk h_semtypebase_Source_value, ⟨rowE_ok tabOk rk_semtypebase_Source_Labels, trivial⟩⟩ 3) mixed 13 (fn := Go.Proofs.Tryz.f100) (cd := cdOf Go.Proofs.Tryz.f100) (H := (H_semtypebase_Source_Value n)) (rl := [.cell 4 28]) Go.Proofs.Tryz.func100 (by kernel_rfl) (by kernel_rfl) (by kernel_rfl) (by kernel_rfl) (by kernel_rfl) (by kernel_rfl) (by kernel_rfl)

theorem rkB_semtypebase_Source_value (n : Nat) (h_semtypebase_Source_Value : RowOk Go.Proofs.Tryz.prog (row_semtypebase_Source_Value n)) (h_semtypebase_Source_value : RowOk Go.Proofs.Tryz.prog (row_semtypebase_Source_value n)) (h_semtypebase_Source_entry : RowOk Go.Proofs.Tryz.prog (row_semtypebase_Source_entry n)) : RowOk Go.Proofs.Tryz.prog (row_semtypebase_Source_value (n + 1)) :=
  row_ok tabOk (dispE_ok (es := [rowE tb (row_semtypebase_Source_leaf), rowE tb (row_semtypebase_Source_Next), rowE tb (row_semtypebase_Source_Value n), rowE tb (row_semtyperef1_Tuple), rowE tb (row_semtyperef1_Nil), rowE tb (row_semtyperef1_Cons), rowE tb (row_semtypebase_Source_Labels), rowE tb (row_semtypebase_Source_Key), rowE tb (row_semtyperef1_Map), rowE tb (row_semtypebase_Source_entry n), rowE tb (row_semtyperef1_Function n)]) ⟨rowE_ok tabOk rk_semtypebase_Source_leaf, ⟨rowE_ok tabOk rk_semtypebase_Source_Next, ⟨rowE_ok tabOk h_semtypebase_Source_Value, ⟨rowE_ok tabOk rk_semtyperef1_Tuple, ⟨rowE_ok tabOk rk_semtyperef1_Nil, ⟨rowE_ok tabOk rk_semtyperef1_Cons, ⟨rowE_ok tabOk rk_semtypebase_Source_Labels, ⟨rowE_ok tabOk rk_semtypebase_Source_Key, ⟨rowE_ok tabOk rk_semtyperef1_Map, ⟨rowE_ok tabOk h_semtypebase_Source_entry, ⟨rowE_ok tabOk (rk_semtyperef1_Function n), trivial⟩⟩⟩⟩⟩⟩⟩⟩⟩⟩⟩ 3) mixed 124 (fn := Go.Proofs.Tryz.f136) (cd := cdOf Go.Proofs.Tryz.f136) (H := (H_semtypebase_Source_value n)) (rl := [.cell 4 28]) Go.Proofs.Tryz.func136 (by kernel_rfl) (by kernel_rfl) (by kernel_rfl) (by kernel_rfl) (by kernel_rfl) (by kernel_rfl) (by kernel_rfl)

theorem rkB_semtypebase_Source_entry (n : Nat) (h_semtypebase_Source_Value : RowOk Go.Proofs.Tryz.prog (row_semtypebase_Source_Value n)) (h_semtypebase_Source_value : RowOk Go.Proofs.Tryz.prog (row_semtypebase_Source_value n)) (h_semtypebase_Source_entry : RowOk Go.Proofs.Tryz.prog (row_semtypebase_Source_entry n)) : RowOk Go.Proofs.Tryz.prog (row_semtypebase_Source_entry (n + 1)) :=
  row_ok tabOk (dispE_ok (es := [rowE tb (row_semtypebase_Source_Value n), rowE tb (row_semtypebase_Source_Next)]) ⟨rowE_ok tabOk h_semtypebase_Source_Value, ⟨rowE_ok tabOk rk_semtypebase_Source_Next, trivial⟩⟩ 3) mixed 30 (fn := Go.Proofs.Tryz.f168) (cd := cdOf Go.Proofs.Tryz.f168) (H := (H_semtypebase_Source_entry n)) (rl := [.cell 6 30]) Go.Proofs.Tryz.func168 (by kernel_rfl) (by kernel_rfl) (by kernel_rfl) (by kernel_rfl) (by kernel_rfl) (by kernel_rfl) (by kernel_rfl)

theorem rk_scc_semtypebase_Source_Value : ∀ n : Nat, RowOk Go.Proofs.Tryz.prog (row_semtypebase_Source_Value n) ∧ RowOk Go.Proofs.Tryz.prog (row_semtypebase_Source_value n) ∧ RowOk Go.Proofs.Tryz.prog (row_semtypebase_Source_entry n)
  | 0 => ⟨rowOk_none (by kernel_rfl), rowOk_none (by kernel_rfl), rowOk_none (by kernel_rfl)⟩
  | n + 1 => by
    obtain ⟨h0, h1, h2⟩ := rk_scc_semtypebase_Source_Value n
    exact ⟨rkB_semtypebase_Source_Value n h0 h1 h2, rkB_semtypebase_Source_value n h0 h1 h2, rkB_semtypebase_Source_entry n h0 h1 h2⟩

theorem rk_semtypebase_Source_Value (n : Nat) : RowOk Go.Proofs.Tryz.prog (row_semtypebase_Source_Value n) := (rk_scc_semtypebase_Source_Value n).1

def H_semtyperef1_upper : Hints I where
  tds := fun i => (asc [] i).getD []
  spl := fun i => (asc [] i).getD []
  pre := fun i => (asc [] i).getD []
  join := asc []
  loop := asc []
  keep := asc []

def row_semtyperef1_upper : Row I := ⟨132, [.d (.int .u8)], [.k (.d (.bool))], semtyperef1_upper⟩

theorem rk_semtyperef1_upper  : RowOk Go.Proofs.Tryz.prog (row_semtyperef1_upper) :=
  row_ok tabOk (dispE_ok (es := []) trivial 3) mixed 9 (fn := Go.Proofs.Tryz.f132) (cd := cdOf Go.Proofs.Tryz.f132) (H := H_semtyperef1_upper) (rl := [.tmp 2]) Go.Proofs.Tryz.func132 (by kernel_rfl) (by kernel_rfl) (by kernel_rfl) (by kernel_rfl) (by kernel_rfl) (by kernel_rfl) (by kernel_rfl)

def H_semtyperef1_IsVariable : Hints I where
  tds := fun i => (asc [] i).getD []
  spl := fun i => (asc [] i).getD []
  pre := fun i => (asc [] i).getD []
  join := asc []
  loop := asc [(58, ⟨562949953159180, [], [], [(3, .k (.d (.int .i64)))], [((.exit 0), []), (.ret, [(2, .k (.d (.bool)))])], bnd tb (.len (.slot 0)) 1⟩)]
  keep := asc []

def row_semtyperef1_IsVariable : Row I := ⟨81, [.d (.str)], [.k (.d (.bool))], semtyperef1_IsVariable⟩

theorem rk_semtyperef1_IsVariable  : RowOk Go.Proofs.Tryz.prog (row_semtyperef1_IsVariable) :=
  row_ok tabOk (dispE_ok (es := [rowE tb (row_semtyperef1_upper), rowE tb (row_semtyperef1_lower), rowE tb (row_semtyperef1_digit)]) ⟨rowE_ok tabOk rk_semtyperef1_upper, ⟨rowE_ok tabOk rk_semtyperef1_lower, ⟨rowE_ok tabOk rk_semtyperef1_digit, trivial⟩⟩⟩ 3) mixed 49 (fn := Go.Proofs.Tryz.f81) (cd := cdOf Go.Proofs.Tryz.f81) (H := H_semtyperef1_IsVariable) (rl := [.tmp 2]) Go.Proofs.Tryz.func81 (by kernel_rfl) (by kernel_rfl) (by kernel_rfl) (by kernel_rfl) (by kernel_rfl) (by kernel_rfl) (by kernel_rfl)

def H_semtyperef1_node (n : Nat) : Hints I where
  tds := fun i => (asc [(4, [[], [0], [], [0, 1, 2], [0, 1, 2, 3], [0, 1, 2, 3, 4], [0, 1, 2, 3, 4, 5], [0, 1, 2, 3, 4, 5, 6], [0, 1, 2, 3, 4, 5, 6, 7], [0, 1, 2, 3, 4, 5, 6, 7, 8], [0, 1, 2, 3, 4, 5, 6, 7, 8, 9], [0, 1, 2, 3, 4, 5, 6, 7, 8, 9, 10], [0, 1, 2, 3, 4, 5, 6, 7, 8, 9, 10, 11], [0, 1, 2, 3, 4, 5, 6, 7, 8, 9, 10], [0, 1, 2, 3, 4, 5, 6, 7, 8, 9, 10, 13], [0, 1, 2, 3, 4, 5, 6, 7, 8, 9, 10, 11, 12, 13, 14], [0, 1, 2, 3, 4, 5, 6, 7, 8, 9, 10, 11, 12, 13, 14, 15], [0, 1, 2, 3, 4, 5, 6, 7, 8, 9, 10], [0, 1, 2, 3, 4, 5, 6, 7, 8, 9, 10, 17], [0, 1, 2, 3, 4, 5, 6, 7, 8, 9, 10], [0, 1, 2, 3, 4, 5, 6, 7, 8, 9, 10, 17, 18, 19], [0, 1, 2, 3, 4, 5, 6, 7, 8, 9, 10, 17, 18, 19, 20], [0, 1, 2, 3, 4, 5, 6, 7, 8, 9, 10, 11, 12, 13, 14, 15, 16, 17, 18, 19, 20, 21], [0, 1, 2, 3, 4, 5, 6, 7, 8, 9, 10, 11, 12, 13, 14, 15, 16, 17, 18, 19, 20, 21, 22], [0, 1, 2, 3, 4, 5, 6, 7, 8, 9, 10, 11, 12, 13, 14, 15, 16, 17, 18, 19, 20, 21, 22, 23]]), (29, [[], [0], [], [0, 1, 2], [0, 1, 2, 3], [0, 1, 2, 3, 4], [0, 1, 2, 3, 4, 5], [0, 1, 2, 3, 4, 5, 6], [0, 1, 2, 3, 4, 5, 6, 7], [0, 1, 2, 3, 4, 5, 6, 7, 8], [0, 1, 2, 3, 4, 5, 6, 7, 8, 9], [0, 1, 2, 3, 4, 5, 6, 7, 8, 9, 10], [0, 1, 2, 3, 4, 5, 6, 7, 8, 9, 10, 11], [0, 1, 2, 3, 4, 5, 6, 7, 8, 9, 10], [0, 1, 2, 3, 4, 5, 6, 7, 8, 9, 10, 13], [0, 1, 2, 3, 4, 5, 6, 7, 8, 9, 10, 11, 12, 13, 14], [0, 1, 2, 3, 4, 5, 6, 7, 8, 9, 10, 11, 12, 13, 14, 15], [0, 1, 2, 3, 4, 5, 6, 7, 8, 9, 10], [0, 1, 2, 3, 4, 5, 6, 7, 8, 9, 10, 17], [0, 1, 2, 3, 4, 5, 6, 7, 8, 9, 10], [0, 1, 2, 3, 4, 5, 6, 7, 8, 9, 10, 17, 18, 19], [0, 1, 2, 3, 4, 5, 6, 7, 8, 9, 10, 17, 18, 19, 20], [0, 1, 2, 3, 4, 5, 6, 7, 8, 9, 10, 11, 12, 13, 14, 15, 16, 17, 18, 19, 20, 21], [0, 1, 2, 3, 4, 5, 6, 7, 8, 9, 10, 11, 12, 13, 14, 15, 16, 17, 18, 19, 20, 21, 22], [0, 1, 2, 3, 4, 5, 6, 7, 8, 9, 10, 11, 12, 13, 14, 15, 16, 17, 18, 19, 20, 21, 22, 23], [0, 1, 2, 3, 4, 5, 6, 7, 8, 9, 10, 11, 12, 13, 14, 15, 16, 17, 18, 19, 20, 21, 22, 23, 24]]), (39, [[], [0], [0, 1], [], [3], [0, 1, 2, 3, 4], [0, 1, 2, 3, 4, 5], [0, 1, 2, 3, 4, 5, 6], [0, 1, 2, 3, 4, 5, 6, 7], [0, 1, 2, 3, 4, 5, 6, 7, 8], [0, 1, 2, 3, 4, 5, 6, 7, 8, 9], [0, 1, 2, 3, 4, 5, 6, 7, 8, 9, 10], [0, 1, 2, 3, 4, 5, 6, 7, 8, 9], [0, 1, 2, 3, 4, 5, 6, 7, 8, 9, 10, 11, 12], [0, 1, 2, 3, 4, 5, 6, 7, 8, 9, 10, 11, 12, 13], [0, 1, 2, 3, 4, 5, 6, 7, 8, 9, 10, 11, 12, 13, 14], [0, 1, 2, 3, 4, 5, 6, 7, 8, 9, 10, 11, 12, 13, 14, 15], [0, 1, 2, 3, 4, 5, 6, 7, 8, 9, 10, 11, 12, 13, 14, 15, 16], [0, 1, 2, 3, 4, 5, 6, 7, 8, 9, 10, 11, 12, 13, 14, 15, 16, 17], [0, 1, 2, 3, 4, 5, 6, 7, 8, 9, 10, 11, 12, 13, 14, 15, 16, 17, 18], [0, 1, 2, 3, 4, 5, 6, 7, 8, 9, 10, 11, 12, 13, 14, 15, 16, 17, 18, 19], [0, 1, 2, 3, 4, 5, 6, 7, 8, 9, 10, 11, 12, 13, 14, 15, 16, 17, 18, 19, 20], [0, 1, 2, 3, 4, 5, 6, 7, 8, 9, 10, 11, 12, 13, 14, 15, 16, 17, 18, 19, 20, 21], [0, 1, 2, 3, 4, 5, 6, 7, 8, 9, 10, 11, 12, 13, 14, 15, 16, 17, 18, 19, 20], [0, 1, 2, 3, 4, 5, 6, 7, 8, 9, 10, 11, 12, 13, 14, 15, 16, 17, 18, 19, 20, 23], [0, 1, 2, 3, 4, 5, 6, 7, 8, 9, 10, 11, 12, 13, 14, 15, 16, 17, 18, 19, 20, 21, 22, 23, 24], [0, 1, 2, 3, 4, 5, 6, 7, 8, 9, 10, 11, 12, 13, 14, 15, 16, 17, 18, 19, 20, 21, 22, 23, 24, 25], [0, 1, 2, 3, 4, 5, 6, 7, 8, 9, 10, 11, 12, 13, 14, 15, 16, 17, 18, 19, 20], [0, 1, 2, 3, 4, 5, 6, 7, 8, 9, 10, 11, 12, 13, 14, 15, 16, 17, 18, 19, 20, 21, 22, 23, 24, 25, 26, 27], [0, 1, 2, 3, 4, 5, 6, 7, 8, 9, 10, 11, 12, 13, 14, 15, 16, 17, 18, 19, 20, 21, 22, 23, 24, 25, 26, 27, 28], [0, 1, 2, 3, 4, 5, 6, 7, 8, 9, 10, 11, 12, 13, 14, 15, 16, 17, 18, 19, 20, 21, 22, 23, 24, 25, 26, 27, 28, 29], [0, 1, 2, 3, 4, 5, 6, 7, 8, 9, 10, 11, 12, 13, 14, 15, 16, 17, 18, 19, 20, 21, 22, 23, 24, 25, 26, 27, 28, 29, 30]])] i).getD []
  spl := fun i => (asc [] i).getD []
  pre := fun i => (asc [] i).getD []
  join := asc [(4073, ⟨425352958651173079329218259289710264320, [], [], [(.normal, [(126, .k (.d (.bool)))])]⟩)]
  loop := asc [(26, ⟨4398046510092, [], [], [(3, .k (.d (.int .i64)))], [((.exit 0), []), (.ret, [(2, .k (.d (.bool)))])], bnd tb (.len (.ld 26 (.fld 28 6 (.slot 1)))) 1⟩),
    (133562354, ⟨411376139282411024886683268815639281647236804420309368268914820, [], [], [(7, .k (.d (.int .i64)))], [((.exit 3), []), (.ret, [(2, .k (.d (.bool)))])], bnd tb (.len (.ld 24 (.fld 28 4 (.slot 1)))) 1⟩),
    (1068498922, ⟨948568795032040353016559207911582007103813675119580226322391447047862150789858052, [], [], [(8, .k (.d (.int .i64)))], [((.exit 5), []), (.ret, [(2, .k (.d (.bool)))])], bnd tb (.len (.ld 25 (.fld 28 5 (.slot 1)))) 1⟩)]
  keep := asc []

def row_semtyperef1_node (n : Nat) : Row I := ⟨52, [.d (.dat 28)], [.k (.d (.bool))], semtyperef1_node n⟩

theorem rk_semtyperef1_node (n : Nat)  : RowOk Go.Proofs.Tryz.prog (row_semtyperef1_node n) :=
  row_ok tabOk (dispE_ok (es := [rowE tb (row_semtyperef1_IsVariable), rowE tb (row_semtyperef1_IsAtom), rowE tb (row_semtyperef1_ValidKey), rowE tb (row_semtyperef1_CompareKeys), rowE tb (row_semtyperef1_Equal n), rowE tb (row_semtyperef1_CompareEntries n)]) ⟨rowE_ok tabOk rk_semtyperef1_IsVariable, ⟨rowE_ok tabOk rk_semtyperef1_IsAtom, ⟨rowE_ok tabOk rk_semtyperef1_ValidKey, ⟨rowE_ok tabOk rk_semtyperef1_CompareKeys, ⟨rowE_ok tabOk (rk_semtyperef1_Equal n), ⟨rowE_ok tabOk (rk_semtyperef1_CompareEntries n), trivial⟩⟩⟩⟩⟩⟩ 3) mixed 269 (fn := Go.Proofs.Tryz.f52) (cd := cdOf Go.Proofs.Tryz.f52) (H := (H_semtyperef1_node n)) (rl := [.tmp 2]) Go.Proofs.Tryz.func52 (by kernel_rfl) (by kernel_rfl) (by kernel_rfl) (by kernel_rfl) (by kernel_rfl) (by kernel_rfl) (by kernel_rfl)

def H_semtyperef1_Valid (n : Nat) : Hints I where
  tds := fun i => (asc [] i).getD []
  spl := fun i => (asc [] i).getD []
  pre := fun i => (asc [] i).getD []
  join := asc []
  loop := asc [(58, ⟨16776204, [], [], [(3, .k (.d (.int .i64)))], [((.exit 0), []), (.ret, [(2, .k (.d (.bool)))])], bnd tb (.len (.ld 23 (.fld 28 3 (.slot 1)))) 1⟩),
    (122, ⟨576460752286646388, [], [], [(4, .k (.d (.int .i64)))], [((.exit 2), []), (.ret, [(2, .k (.d (.bool)))])], bnd tb (.len (.ld 25 (.fld 28 5 (.slot 1)))) 1⟩),
    (31306, ⟨1125831187365956, [], [], [(6, .k (.d (.int .i64)))], [((.exit 4), []), (.ret, [(2, .k (.d (.bool)))])], bnd tb (.len (.ld 23 (.fld 30 0 (.slot 5)))) 1⟩)]
  keep := asc []

def row_semtyperef1_Valid (n : Nat) : Row I := ⟨26, [.d (.dat 28)], [.k (.d (.bool))], semtyperef1_Valid n⟩

theorem rkB_semtyperef1_Valid (n : Nat) (h_semtyperef1_Valid : RowOk Go.Proofs.Tryz.prog (row_semtyperef1_Valid n)) : RowOk Go.Proofs.Tryz.prog (row_semtyperef1_Valid (n + 1)) :=
  row_ok tabOk (dispE_ok (es := [rowE tb (row_semtyperef1_node n), rowE tb (row_semtyperef1_Valid n)]) ⟨rowE_ok tabOk (rk_semtyperef1_node n), ⟨rowE_ok tabOk h_semtyperef1_Valid, trivial⟩⟩ 3) mixed 59 (fn := Go.Proofs.Tryz.f26) (cd := cdOf Go.Proofs.Tryz.f26) (H := (H_semtyperef1_Valid n)) (rl := [.tmp 2]) Go.Proofs.Tryz.func26 (by kernel_rfl) (by kernel_rfl) (by kernel_rfl) (by kernel_rfl) (by kernel_rfl) (by kernel_rfl) (by kernel_rfl)

theorem rk_semtyperef1_Valid : ∀ n : Nat, RowOk Go.Proofs.Tryz.prog (row_semtyperef1_Valid n)
  | 0 => rowOk_none (by kernel_rfl)
  | n + 1 => rkB_semtyperef1_Valid n (rk_semtyperef1_Valid n)

def H_semtypebase_Source_Near (n : Nat) : Hints I where
  tds := fun i => (asc [] i).getD []
  spl := fun i => (asc [] i).getD []
  pre := fun i => (asc [] i).getD []
  join := asc []
  loop := asc []
  keep := asc []

def row_semtypebase_Source_Near (n : Nat) : Row I := ⟨31, [.var 76 (.k (.d (.dat 76))) true, .d (.dat 36), .d (.int .i64), .d (.int .i64)], [.k (.d (.dat 28))], semtypebase_Source_Near n⟩

def H_semtypebase_Source_near (n : Nat) : Hints I where
  tds := fun i => (asc [(7, [[], [0], [], [2], [], [4], [], [6], [6, 7], [], [9], [9, 10], [6, 7, 8, 9, 10, 11], [4, 5, 6, 7, 8, 9, 10, 11, 12], [0, 1, 2, 3, 4, 5, 6, 7, 8, 9, 10, 11, 12, 13], [], [15], [0, 1, 2, 3, 4, 5, 6, 7, 8, 9, 10, 11, 12, 13, 14, 15, 16], [0, 1, 2, 3, 4, 5, 6, 7, 8, 9, 10, 11, 12, 13, 14, 15, 16, 17], [0, 1, 2, 3, 4, 5, 6, 7, 8, 9, 10, 11, 12, 13, 14, 15, 16, 17, 18], [0, 1, 2, 3, 4, 5, 6, 7, 8, 9, 10, 11, 12, 13, 14, 15, 16, 17, 18, 19]]), (25, [[], [0], [], [], [], [4], [], [4, 5, 6], [4, 5, 6, 7], [], [9], [2, 3, 4, 5, 6, 7, 8, 9, 10], [2, 3, 4, 5, 6, 7, 8, 9, 10, 11], [0, 1, 2, 3, 4, 5, 6, 7, 8, 9, 10, 11, 12], [0, 1, 2, 3, 4, 5, 6, 7, 8, 9, 10, 11, 12, 13], [0, 1, 2, 3, 4, 5, 6, 7, 8, 9, 10, 11, 12, 13, 14]]), (30, [[], [0], [], [0, 1, 2], [0, 1, 2, 3]]), (37, [[], [], [], [2], [], [], [5], [5, 6], [4, 5, 6, 7], [2, 3, 4, 5, 6, 7, 8], [2, 3, 4, 5, 6, 7, 8, 9], [], [0, 1, 2, 3, 4, 5, 6, 7, 8, 9, 10, 11], [0, 1, 2, 3, 4, 5, 6, 7, 8, 9, 10, 11, 12]]), (39, [[], [], [], [2], [], [], [5], [5, 6], [4, 5, 6, 7], [2, 3, 4, 5, 6, 7, 8], [2, 3, 4, 5, 6, 7, 8, 9], [], [0, 1, 2, 3, 4, 5, 6, 7, 8, 9, 10, 11], [0, 1, 2, 3, 4, 5, 6, 7, 8, 9, 10, 11, 12]]), (43, [[], [0], [], [2], [], [2, 3, 4], [2, 3, 4, 5], [0, 1, 2, 3, 4, 5, 6], [0, 1, 2, 3, 4, 5, 6, 7], [0, 1, 2, 3, 4, 5, 6, 7, 8], [0, 1, 2, 3, 4, 5, 6, 7, 8, 9]]), (44, [[], [0], [0, 1], [], [3], [], [5], [], [5, 6, 7], [5, 6, 7, 8], [3, 4, 5, 6, 7, 8, 9], [3, 4, 5, 6, 7, 8, 9, 10], [3, 4, 5, 6, 7, 8, 9, 10, 11], [3, 4, 5, 6, 7, 8, 9, 10, 11, 12], [0, 1, 2, 3, 4, 5, 6, 7, 8, 9, 10, 11, 12, 13], [0, 1, 2, 3, 4, 5, 6, 7, 8, 9, 10, 11, 12, 13, 14], [0, 1, 2, 3, 4, 5, 6, 7, 8, 9, 10, 11, 12, 13, 14, 15], [0, 1, 2, 3, 4, 5, 6, 7, 8, 9, 10, 11, 12, 13, 14, 15, 16]]), (47, [[], [0], [], [2], [2, 3], [0, 1, 2, 3, 4], [0, 1, 2, 3, 4, 5]])] i).getD []
  spl := fun i => (asc [] i).getD []
  pre := fun i => (asc [] i).getD []
  join := asc [(16449533, ⟨386856262276681335905976320, [], [], [(.normal, [(86, .k (.d (.bool)))])]⟩),
    (263192557, ⟨85029053355366337244815407887308292096, [], [(10, .lvs [.d (.int .i64), .d (.int .i64), .d (.str), .row 28 false, .row 114 false, .row 30 false, .row 9 false])], [(.normal, [])]⟩),
    (539018395474, ⟨102844034449451492418213359320247649773843695697413960913387520, [], [(10, .k (.d (.dat 28)))], [(.normal, [])]⟩)]
  loop := asc [(131596274, ⟨2596147810297394171575110715049984, [], [(0, .k (.d (.dat 76))), (10, .lvs [.d (.int .i64), .d (.int .i64), .d (.str), .row 28 false, .row 114 false, .row 30 false, .row 9 false])], [(11, .k (.d (.int .i64)))], [((.exit 1), [])], bnd tb (.len (.ld 22 (.fld 72 4 (.slot 9)))) 1⟩),
    (67377299434, ⟨102844034829582222281431884733353260024018043977843391611277312, [], [(10, .k (.d (.dat 28)))], [(12, .k (.d (.int .i64)))], [((.exit 3), [])], bnd tb (.len (.ld 22 (.fld 72 4 (.slot 9)))) 1⟩)]
  keep := asc []

def row_semtypebase_Source_near (n : Nat) : Row I := ⟨55, [.var 76 (.k (.d (.dat 76))) true, .d (.dat 36), .d (.int .i64), .d (.int .i64)], [.k (.d (.dat 28))], semtypebase_Source_near n⟩

def H_semtypebase_Source_nearFunction (n : Nat) : Hints I where
  tds := fun i => (asc [(10, [[], [0], [], [], [], [4], [], [4, 5, 6], [4, 5, 6, 7], [], [9], [2, 3, 4, 5, 6, 7, 8, 9, 10], [2, 3, 4, 5, 6, 7, 8, 9, 10, 11], [0, 1, 2, 3, 4, 5, 6, 7, 8, 9, 10, 11, 12], [0, 1, 2, 3, 4, 5, 6, 7, 8, 9, 10, 11, 12, 13], [0, 1, 2, 3, 4, 5, 6, 7, 8, 9, 10, 11, 12, 13, 14]]), (13, [[], [], [], [2], [], [2, 3, 4], [2, 3, 4, 5], [], [7], [0, 1, 2, 3, 4, 5, 6, 7, 8], [0, 1, 2, 3, 4, 5, 6, 7, 8, 9], [0, 1, 2, 3, 4, 5, 6, 7, 8, 9, 10]])] i).getD []
  spl := fun i => (asc [] i).getD []
  pre := fun i => (asc [] i).getD []
  join := asc [(31309, ⟨2305280059260272640, [], [(0, .k (.d (.dat 76))), (12, .lvs [.row 28 false, .d (.bool), .d (.int .i64), .d (.int .i64), .d (.str), .d (.sl 28), .d (.sl 114), .d (.sl 30), .d (.sl 9)])], [(.normal, [])]⟩)]
  loop := asc [(122, ⟨36893488147414923776, [], [(0, .k (.d (.dat 76)))], [(9, .k (.row 30 false)), (11, .k (.d (.int .i64)))], [((.exit 0), [(9, .k (.row 30 false))])], bnd tb (.slot 11) 2⟩),
    (31306, ⟨70368677076992, [], [(0, .k (.d (.dat 76))), (12, .lvs [.row 28 false, .d (.bool), .d (.int .i64), .d (.int .i64), .d (.str), .row 28 false, .row 114 false, .row 30 false, .row 9 false])], [(13, .k (.d (.int .i64)))], [((.exit 2), [])], bnd tb (.slot 10) 1⟩)]
  keep := asc []

end Go.Qx
