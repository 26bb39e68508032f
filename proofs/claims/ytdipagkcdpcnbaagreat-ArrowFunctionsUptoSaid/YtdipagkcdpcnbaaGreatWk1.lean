/- Printed by ex.py. The executor shows it. -/
import Derived.Test.YtdipagkcdpcnbaaGreatWk0
namespace Go.Qx
open Go Go.RowKit Go.Sx
set_option maxHeartbeats 1600000
set_option maxRecDepth 100000

theorem rkB_semtypebase_Source_near (n : Nat) (h_semtypebase_Source_Near : RowOk Go.Proofs.Tryz.prog (row_semtypebase_Source_Near n)) (h_semtypebase_Source_near : RowOk Go.Proofs.Tryz.prog (row_semtypebase_Source_near n)) (h_semtypebase_Source_nearFunction : RowOk Go.Proofs.Tryz.prog (row_semtypebase_Source_nearFunction n)) (h_semtypebase_Source_nearMap : RowOk Go.Proofs.Tryz.prog (row_semtypebase_Source_nearMap n)) : RowOk Go.Proofs.Tryz.prog (row_semtypebase_Source_near (n + 1)) :=
  row_ok tabOk (dispE_ok (es := [rowE tb (row_semtypebase_Source_leaf), rowE tb (row_semtypebase_Source_Next), rowE tb (row_semtyperef1_Int), rowE tb (row_semtyperef1_String), rowE tb (row_semtypebase_Source_Word), rowE tb (row_semtyperef1_Atom), rowE tb (row_semtypebase_Source_AtomName), rowE tb (row_semtyperef1_Pid), rowE tb (row_semtyperef1_Nil), rowE tb (row_semtypebase_Source_Near n), rowE tb (row_semtypebase_Source_nearMap n), rowE tb (row_semtypebase_Source_nearFunction n), rowE tb (row_semtypebase_Source_near n), rowE tb (row_semtyperef1_Sorted), rowE tb (row_semtyperef1_WithLabels), rowE tb (row_semtypebase_Source_Value n)]) ⟨rowE_ok tabOk rk_semtypebase_Source_leaf, ⟨rowE_ok tabOk rk_semtypebase_Source_Next, ⟨rowE_ok tabOk rk_semtyperef1_Int, ⟨rowE_ok tabOk rk_semtyperef1_String, ⟨rowE_ok tabOk rk_semtypebase_Source_Word, ⟨rowE_ok tabOk rk_semtyperef1_Atom, ⟨rowE_ok tabOk rk_semtypebase_Source_AtomName, ⟨rowE_ok tabOk rk_semtyperef1_Pid, ⟨rowE_ok tabOk rk_semtyperef1_Nil, ⟨rowE_ok tabOk h_semtypebase_Source_Near, ⟨rowE_ok tabOk h_semtypebase_Source_nearMap, ⟨rowE_ok tabOk h_semtypebase_Source_nearFunction, ⟨rowE_ok tabOk h_semtypebase_Source_near, ⟨rowE_ok tabOk rk_semtyperef1_Sorted, ⟨rowE_ok tabOk rk_semtyperef1_WithLabels, ⟨rowE_ok tabOk (rk_semtypebase_Source_Value n), trivial⟩⟩⟩⟩⟩⟩⟩⟩⟩⟩⟩⟩⟩⟩⟩⟩ 3) mixed 217 (fn := Go.Proofs.Tryz.f55) (cd := cdOf Go.Proofs.Tryz.f55) (H := (H_semtypebase_Source_near n)) (rl := [.cell 8 28]) Go.Proofs.Tryz.func55 (by kernel_rfl) (by kernel_rfl) (by kernel_rfl) (by kernel_rfl) (by kernel_rfl) (by kernel_rfl) (by kernel_rfl)

theorem rkB_semtypebase_Source_nearFunction (n : Nat) (h_semtypebase_Source_Near : RowOk Go.Proofs.Tryz.prog (row_semtypebase_Source_Near n)) (h_semtypebase_Source_near : RowOk Go.Proofs.Tryz.prog (row_semtypebase_Source_near n)) (h_semtypebase_Source_nearFunction : RowOk Go.Proofs.Tryz.prog (row_semtypebase_Source_nearFunction n)) (h_semtypebase_Source_nearMap : RowOk Go.Proofs.Tryz.prog (row_semtypebase_Source_nearMap n)) : RowOk Go.Proofs.Tryz.prog (row_semtypebase_Source_nearFunction (n + 1)) :=
  row_ok tabOk (dispE_ok (es := [rowE tb (row_semtypebase_Source_Next), rowE tb (row_semtypebase_Source_Near n), rowE tb (row_semtyperef1_Function n), rowE tb (row_semtyperef1_Nil)]) ⟨rowE_ok tabOk rk_semtypebase_Source_Next, ⟨rowE_ok tabOk h_semtypebase_Source_Near, ⟨rowE_ok tabOk (rk_semtyperef1_Function n), ⟨rowE_ok tabOk rk_semtyperef1_Nil, trivial⟩⟩⟩⟩ 3) mixed 75 (fn := Go.Proofs.Tryz.f99) (cd := cdOf Go.Proofs.Tryz.f99) (H := (H_semtypebase_Source_nearFunction n)) (rl := [.cell 8 28]) Go.Proofs.Tryz.func99 (by kernel_rfl) (by kernel_rfl) (by kernel_rfl) (by kernel_rfl) (by kernel_rfl) (by kernel_rfl) (by kernel_rfl)

theorem rkB_semtypebase_Source_nearMap (n : Nat) (h_semtypebase_Source_Near : RowOk Go.Proofs.Tryz.prog (row_semtypebase_Source_Near n)) (h_semtypebase_Source_near : RowOk Go.Proofs.Tryz.prog (row_semtypebase_Source_near n)) (h_semtypebase_Source_nearFunction : RowOk Go.Proofs.Tryz.prog (row_semtypebase_Source_nearFunction n)) (h_semtypebase_Source_nearMap : RowOk Go.Proofs.Tryz.prog (row_semtypebase_Source_nearMap n)) : RowOk Go.Proofs.Tryz.prog (row_semtypebase_Source_nearMap (n + 1)) :=
  row_ok tabOk (dispE_ok (es := [rowE tb (row_semtypebase_Source_Next), rowE tb (row_semtypebase_Source_Near n), rowE tb (row_semtyperef1_Map), rowE tb (row_semtyperef1_Nil)]) ⟨rowE_ok tabOk rk_semtypebase_Source_Next, ⟨rowE_ok tabOk h_semtypebase_Source_Near, ⟨rowE_ok tabOk rk_semtyperef1_Map, ⟨rowE_ok tabOk rk_semtyperef1_Nil, trivial⟩⟩⟩⟩ 3) mixed 89 (fn := Go.Proofs.Tryz.f98) (cd := cdOf Go.Proofs.Tryz.f98) (H := (H_semtypebase_Source_nearMap n)) (rl := [.cell 8 28]) Go.Proofs.Tryz.func98 (by kernel_rfl) (by kernel_rfl) (by kernel_rfl) (by kernel_rfl) (by kernel_rfl) (by kernel_rfl) (by kernel_rfl)

theorem rk_scc_semtypebase_Source_Near : ∀ n : Nat, RowOk Go.Proofs.Tryz.prog (row_semtypebase_Source_Near n) ∧ RowOk Go.Proofs.Tryz.prog (row_semtypebase_Source_near n) ∧ RowOk Go.Proofs.Tryz.prog (row_semtypebase_Source_nearFunction n) ∧ RowOk Go.Proofs.Tryz.prog (row_semtypebase_Source_nearMap n)
  | 0 => ⟨rowOk_none (by kernel_rfl), rowOk_none (by kernel_rfl), rowOk_none (by kernel_rfl), rowOk_none (by kernel_rfl)⟩
  | n + 1 => by
    obtain ⟨h0, h1, h2, h3⟩ := rk_scc_semtypebase_Source_Near n
    exact ⟨rkB_semtypebase_Source_Near n h0 h1 h2 h3, rkB_semtypebase_Source_near n h0 h1 h2 h3, rkB_semtypebase_Source_nearFunction n h0 h1 h2 h3, rkB_semtypebase_Source_nearMap n h0 h1 h2 h3⟩

theorem rk_semtypebase_Source_Near (n : Nat) : RowOk Go.Proofs.Tryz.prog (row_semtypebase_Source_Near n) := (rk_scc_semtypebase_Source_Near n).1

theorem rk_semtypebase_Source_near (n : Nat) : RowOk Go.Proofs.Tryz.prog (row_semtypebase_Source_near n) := (rk_scc_semtypebase_Source_Near n).2.1

theorem rk_semtypebase_Source_nearFunction (n : Nat) : RowOk Go.Proofs.Tryz.prog (row_semtypebase_Source_nearFunction n) := (rk_scc_semtypebase_Source_Near n).2.2.1

theorem rk_semtypebase_Source_nearMap (n : Nat) : RowOk Go.Proofs.Tryz.prog (row_semtypebase_Source_nearMap n) := (rk_scc_semtypebase_Source_Near n).2.2.2

def H_semtypelaw12_made (n : Nat) : Hints I where
  tds := fun i => (asc [(12, [[], [0], [], [], [2, 3], [2, 3, 4], [0, 1, 2, 3, 4, 5], [0, 1, 2, 3, 4, 5, 6], [0, 1, 2, 3, 4, 5, 6, 7]]), (19, [[], [0], [], [], [], [], [4, 5], [2, 3, 4, 5, 6], [2, 3, 4, 5, 6, 7], [0, 1, 2, 3, 4, 5, 6, 7, 8], [0, 1, 2, 3, 4, 5, 6, 7, 8, 9], [0, 1, 2, 3, 4, 5, 6, 7, 8, 9, 10]]), (22, [[], [], [], [], [2, 3], [0, 1, 2, 3, 4], [0, 1, 2, 3, 4, 5], [0, 1, 2, 3, 4, 5, 6]]), (23, [[], [], [], [0], [0, 1, 3], [0, 1, 2, 3, 4]])] i).getD []
  spl := fun i => (asc [] i).getD []
  pre := fun i => (asc [] i).getD []
  join := asc [(4093, ⟨19267255250108152471879680, [], [(14, .k (.d (.dat 76))), (15, .lvs [.row 28 false, .d (.bool), .d (.int .i64), .d (.int .i64), .d (.str), .d (.sl 28), .d (.sl 114), .d (.sl 30), .d (.sl 9)])], [(.normal, [])]⟩)]
  loop := asc [(506, ⟨18014397435754496, [], [(7, .k (.d (.dat 76))), (8, .lvs [.row 72 false, .d (.int .i64)])], [(11, .k (.d (.int .i64)))], [((.exit 0), [])], bnd tb (.cst 3) 1⟩),
    (4090, ⟨9444588850551214637056, [8], [(14, .k (.d (.dat 76))), (15, .lvs [.row 28 false, .d (.bool), .d (.int .i64), .d (.int .i64), .d (.str), .row 28 false, .row 114 false, .row 30 false, .row 9 false])], [(16, .k (.d (.int .i64)))], [((.exit 4), [])], bnd tb (.slot 10) 1⟩),
    (129610, ⟨281440616980480, [], [(7, .k (.d (.dat 76))), (12, .lvs [.d (.int .i64), .d (.int .i64), .d (.int .i64), .d (.str), .row 3 false, .row 132 false, .d (.int .i64), .d (.int .i64)])], [(13, .k (.d (.int .i64)))], [((.exit 2), [])], bnd tb (.slot 10) 2⟩)]
  keep := asc []

def row_semtypelaw12_made (n : Nat) : Row I := ⟨11, [.d (.sl 3), .d (.sl 3)], [.k (.d (.dat 36)), .k (.d (.int .i64)), .k (.d (.dat 30))], semtypelaw12_made n⟩

theorem rk_semtypelaw12_made (n : Nat)  : RowOk Go.Proofs.Tryz.prog (row_semtypelaw12_made n) :=
  row_ok tabOk (dispE_ok (es := [rowE tb (row_semtypebase_Source_Next), rowE tb (row_semtypebase_Source_Type), rowE tb (row_semtypebase_Source_Near n)]) ⟨rowE_ok tabOk rk_semtypebase_Source_Next, ⟨rowE_ok tabOk rk_semtypebase_Source_Type, ⟨rowE_ok tabOk (rk_semtypebase_Source_Near n), trivial⟩⟩⟩ 3) mixed 87 (fn := Go.Proofs.Tryz.f11) (cd := cdOf Go.Proofs.Tryz.f11) (H := (H_semtypelaw12_made n)) (rl := [.cell 4 36, .tmp 5, .cell 6 30]) Go.Proofs.Tryz.func11 (by kernel_rfl) (by kernel_rfl) (by kernel_rfl) (by kernel_rfl) (by kernel_rfl) (by kernel_rfl) (by kernel_rfl)

def H_semtyperef7_index : Hints I where
  tds := fun i => (asc [] i).getD []
  spl := fun i => (asc [] i).getD []
  pre := fun i => (asc [] i).getD []
  join := asc []
  loop := asc []
  keep := asc []

def row_semtyperef7_index : Row I := ⟨37, [.d (.dat 36), .d (.int .i64)], [.k (.d (.bool))], semtyperef7_index⟩

theorem rk_semtyperef7_index  : RowOk Go.Proofs.Tryz.prog (row_semtyperef7_index) :=
  row_ok tabOk (dispE_ok (es := []) trivial 3) mixed 14 (fn := Go.Proofs.Tryz.f37) (cd := cdOf Go.Proofs.Tryz.f37) (H := H_semtyperef7_index) (rl := [.tmp 4]) Go.Proofs.Tryz.func37 (by kernel_rfl) (by kernel_rfl) (by kernel_rfl) (by kernel_rfl) (by kernel_rfl) (by kernel_rfl) (by kernel_rfl)

def H_semtyperef7_node : Hints I where
  tds := fun i => (asc [(4, [[], [], [1], [], [1, 2, 3], [1, 2, 3, 4], [0, 1, 2, 3, 4, 5], [0, 1, 2, 3, 4, 5, 6]]), (47, [[], [], [1], [0, 1, 2], [0, 1, 2, 3], [0, 1, 2, 3, 4], [0, 1, 2, 3, 4, 5], [0, 1, 2, 3, 4, 5, 6], [0, 1, 2, 3, 4, 5, 6, 7], [0, 1, 2, 3, 4, 5, 6, 7, 8], [0, 1, 2, 3, 4, 5, 6, 7, 8, 9], [0, 1, 2, 3, 4, 5, 6, 7, 8, 9, 10], [0, 1, 2, 3, 4, 5, 6, 7, 8, 9, 10, 11], [0, 1, 2, 3, 4, 5, 6, 7, 8, 9, 10, 11, 12], [0, 1, 2, 3, 4, 5, 6, 7, 8, 9, 10, 11, 12, 13], [0, 1, 2, 3, 4, 5, 6, 7, 8, 9, 10, 11, 12, 13, 14], [0, 1, 2, 3, 4, 5, 6, 7, 8, 9, 10, 11, 12, 13, 14, 15], [0, 1, 2, 3, 4, 5, 6, 7, 8, 9, 10, 11, 12, 13, 14], [0, 1, 2, 3, 4, 5, 6, 7, 8, 9, 10, 11, 12, 13, 14, 17], [0, 1, 2, 3, 4, 5, 6, 7, 8, 9, 10, 11, 12, 13, 14, 15, 16, 17, 18], [0, 1, 2, 3, 4, 5, 6, 7, 8, 9, 10, 11, 12, 13, 14, 15, 16, 17, 18, 19], [0, 1, 2, 3, 4, 5, 6, 7, 8, 9, 10, 11, 12, 13, 14, 15, 16, 17, 18, 19, 20], [0, 1, 2, 3, 4, 5, 6, 7, 8, 9, 10, 11, 12, 13, 14], [0, 1, 2, 3, 4, 5, 6, 7, 8, 9, 10, 11, 12, 13, 14, 22], [0, 1, 2, 3, 4, 5, 6, 7, 8, 9, 10, 11, 12, 13, 14, 15, 16, 17, 18, 19, 20, 21, 22, 23], [0, 1, 2, 3, 4, 5, 6, 7, 8, 9, 10, 11, 12, 13, 14, 15, 16, 17, 18, 19, 20, 21, 22, 23, 24], [0, 1, 2, 3, 4, 5, 6, 7, 8, 9, 10, 11, 12, 13, 14, 15, 16, 17, 18, 19, 20, 21, 22, 23, 24, 25], [0, 1, 2, 3, 4, 5, 6, 7, 8, 9, 10, 11, 12, 13, 14, 15, 16, 17, 18, 19, 20, 21, 22, 23, 24, 25, 26]])] i).getD []
  spl := fun i => (asc [] i).getD []
  pre := fun i => (asc [] i).getD []
  join := asc [(2092029, ⟨2706308199418088717232151174730781556736, [], [], [(.normal, [(122, .k (.d (.bool)))])]⟩),
    (535560189, ⟨3568119231764899702645714923623737840956866560, [], [], [(.normal, [(149, .k (.d (.bool)))])]⟩)]
  loop := asc [(26, ⟨67106864, [], [], [(5, .k (.d (.int .i64)))], [((.exit 0), []), (.ret, [(4, .k (.d (.bool)))])], bnd tb (.len (.ld 22 (.fld 72 4 (.slot 3)))) 1⟩),
    (68551704562, ⟨1606938044257528773904631189422958917689486710763136902759952, [], [], [(9, .k (.d (.int .i64)))], [((.exit 3), []), (.ret, [(4, .k (.d (.bool)))])], bnd tb (.len (.ld 69 (.fld 72 5 (.slot 3)))) 1⟩)]
  keep := asc []

def row_semtyperef7_node : Row I := ⟨67, [.d (.dat 36), .d (.dat 72)], [.k (.d (.bool))], semtyperef7_node⟩

theorem rk_semtyperef7_node  : RowOk Go.Proofs.Tryz.prog (row_semtyperef7_node) :=
  row_ok tabOk (dispE_ok (es := [rowE tb (row_semtyperef7_index), rowE tb (row_semtyperef1_IsAtom), rowE tb (row_semtyperef1_IsVariable), rowE tb (row_semtyperef1_ValidKey), rowE tb (row_semtyperef1_CompareKeys)]) ⟨rowE_ok tabOk rk_semtyperef7_index, ⟨rowE_ok tabOk rk_semtyperef1_IsAtom, ⟨rowE_ok tabOk rk_semtyperef1_IsVariable, ⟨rowE_ok tabOk rk_semtyperef1_ValidKey, ⟨rowE_ok tabOk rk_semtyperef1_CompareKeys, trivial⟩⟩⟩⟩⟩ 3) mixed 216 (fn := Go.Proofs.Tryz.f67) (cd := cdOf Go.Proofs.Tryz.f67) (H := H_semtyperef7_node) (rl := [.tmp 4]) Go.Proofs.Tryz.func67 (by kernel_rfl) (by kernel_rfl) (by kernel_rfl) (by kernel_rfl) (by kernel_rfl) (by kernel_rfl) (by kernel_rfl)

def H_semtyperef7_boolean : Hints I where
  tds := fun i => (asc [] i).getD []
  spl := fun i => (asc [] i).getD []
  pre := fun i => (asc [] i).getD []
  join := asc []
  loop := asc []
  keep := asc []

def row_semtyperef7_boolean : Row I := ⟨68, [.d (.dat 72)], [.k (.d (.bool))], semtyperef7_boolean⟩

theorem rk_semtyperef7_boolean  : RowOk Go.Proofs.Tryz.prog (row_semtyperef7_boolean) :=
  row_ok tabOk (dispE_ok (es := []) trivial 3) mixed 16 (fn := Go.Proofs.Tryz.f68) (cd := cdOf Go.Proofs.Tryz.f68) (H := H_semtyperef7_boolean) (rl := [.tmp 2]) Go.Proofs.Tryz.func68 (by kernel_rfl) (by kernel_rfl) (by kernel_rfl) (by kernel_rfl) (by kernel_rfl) (by kernel_rfl) (by kernel_rfl)

def H_semtyperef7_WellFormed (n : Nat) : Hints I where
  tds := fun i => (asc [(6, [[], [], [1], [], [1, 2, 3], [1, 2, 3, 4], [0, 1, 2, 3, 4, 5], [0, 1, 2, 3, 4, 5, 6]])] i).getD []
  spl := fun i => (asc [] i).getD []
  pre := fun i => (asc [] i).getD []
  join := asc []
  loop := asc [(58, ⟨1073709068, [], [], [(3, .k (.d (.int .i64)))], [((.exit 0), []), (.ret, [(2, .k (.d (.int .i64)))])], bnd tb (.len (.ld 34 (.fld 36 0 (.slot 1)))) 1⟩),
    (250, ⟨4951760157141521082416628192, [], [], [(4, .k (.row 4 false)), (5, .k (.d (.int .i64)))], [((.exit 2), [(4, .k (.row 4 false))])], bnd tb (.len (.ld 34 (.fld 36 0 (.slot 1)))) 1⟩),
    (506, ⟨10136253041668693690874029146628, [], [], [(4, .k (.row 4 false)), (9, .k (.d (.int .i64)))], [((.exit 8), [(4, .k (.row 4 false))]), (.ret, [(2, .k (.d (.int .i64))), (4, .k (.row 4 false))])], bnd tb (.len (.slot 4)) 1⟩),
    (16018, ⟨4951760157141518900573241792, [], [], [(4, .k (.row 4 false)), (6, .k (.d (.int .i64)))], [((.exit 4), [(4, .k (.row 4 false))])], bnd tb (.len (.ld 34 (.fld 36 0 (.slot 1)))) 1⟩),
    (4100682, ⟨4835703278177041722114432, [], [], [(4, .k (.row 4 false)), (7, .k (.d (.bool))), (8, .k (.d (.int .i64)))], [((.exit 6), [(4, .k (.row 4 false)), (7, .k (.d (.bool)))])], fun _ => some n⟩)]
  keep := asc []

def row_semtyperef7_WellFormed (n : Nat) : Row I := ⟨36, [.d (.dat 36)], [.k (.d (.int .i64))], semtyperef7_WellFormed n⟩

theorem rk_semtyperef7_WellFormed (n : Nat)  : RowOk Go.Proofs.Tryz.prog (row_semtyperef7_WellFormed n) :=
  row_ok tabOk (dispE_ok (es := [rowE tb (row_semtyperef7_index), rowE tb (row_semtyperef7_node), rowE tb (row_semtyperef7_boolean)]) ⟨rowE_ok tabOk rk_semtyperef7_index, ⟨rowE_ok tabOk rk_semtyperef7_node, ⟨rowE_ok tabOk rk_semtyperef7_boolean, trivial⟩⟩⟩ 3) mixed 103 (fn := Go.Proofs.Tryz.f36) (cd := cdOf Go.Proofs.Tryz.f36) (H := (H_semtyperef7_WellFormed n)) (rl := [.tmp 2]) Go.Proofs.Tryz.func36 (by kernel_rfl) (by kernel_rfl) (by kernel_rfl) (by kernel_rfl) (by kernel_rfl) (by kernel_rfl) (by kernel_rfl)

def H_semtyperef7_Indices : Hints I where
  tds := fun i => (asc [(1, [[], [0], [0, 1], [], [3], [0, 1, 2, 3, 4], [0, 1, 2, 3, 4, 5]]), (5, [[], [], [], [1, 2], [1, 2, 3], [0, 1, 2, 3, 4], [0, 1, 2, 3, 4, 5]])] i).getD []
  spl := fun i => (asc [] i).getD []
  pre := fun i => (asc [] i).getD []
  join := asc []
  loop := asc [(58, ⟨67100752, [5], [], [(6, .k (.d (.int .i64)))], [((.exit 0), []), (.ret, [(4, .k (.d (.bool)))])], bnd tb (.len (.slot 5)) 1⟩)]
  keep := asc []

def row_semtyperef7_Indices : Row I := ⟨22, [.d (.dat 36), .d (.dat 47)], [.k (.d (.bool))], semtyperef7_Indices⟩

theorem rk_semtyperef7_Indices  : RowOk Go.Proofs.Tryz.prog (row_semtyperef7_Indices) :=
  row_ok tabOk (dispE_ok (es := [rowE tb (row_semtyperef7_index)]) ⟨rowE_ok tabOk rk_semtyperef7_index, trivial⟩ 3) mixed 26 (fn := Go.Proofs.Tryz.f22) (cd := cdOf Go.Proofs.Tryz.f22) (H := H_semtyperef7_Indices) (rl := [.tmp 4]) Go.Proofs.Tryz.func22 (by kernel_rfl) (by kernel_rfl) (by kernel_rfl) (by kernel_rfl) (by kernel_rfl) (by kernel_rfl) (by kernel_rfl)

def H_semtyperef7_key : Hints I where
  tds := fun i => (asc [(4, [[], [0], [], [0, 1, 2], [0, 1, 2, 3], [], [0, 1, 2, 3, 4, 5]])] i).getD []
  spl := fun i => (asc [] i).getD []
  pre := fun i => (asc [] i).getD []
  join := asc []
  loop := asc [(26, ⟨2097136, [], [], [(5, .k (.d (.int .i64)))], [((.exit 0), []), (.ret, [(4, .k (.d (.int .i64)))])], bnd tb (.len (.ld 24 (.fld 28 4 (.slot 2)))) 1⟩)]
  keep := asc []

def row_semtyperef7_key : Row I := ⟨130, [.d (.dat 28), .d (.dat 114)], [.k (.d (.int .i64))], semtyperef7_key⟩

theorem rk_semtyperef7_key  : RowOk Go.Proofs.Tryz.prog (row_semtyperef7_key) :=
  row_ok tabOk (dispE_ok (es := []) trivial 3) mixed 21 (fn := Go.Proofs.Tryz.f130) (cd := cdOf Go.Proofs.Tryz.f130) (H := H_semtyperef7_key) (rl := [.tmp 4]) Go.Proofs.Tryz.func130 (by kernel_rfl) (by kernel_rfl) (by kernel_rfl) (by kernel_rfl) (by kernel_rfl) (by kernel_rfl) (by kernel_rfl)

def H_semtyperef7_field : Hints I where
  tds := fun i => (asc [(4, [[], [0], [], [0, 1, 2], [0, 1, 2, 3], [0, 1, 2, 3, 4], [], [0, 1, 2, 3, 4, 5, 6]])] i).getD []
  spl := fun i => (asc [] i).getD []
  pre := fun i => (asc [] i).getD []
  join := asc []
  loop := asc [(26, ⟨4194288, [], [], [(5, .k (.d (.int .i64)))], [((.exit 0), []), (.ret, [(4, .k (.d (.int .i64)))])], bnd tb (.len (.ld 69 (.fld 72 5 (.slot 2)))) 1⟩)]
  keep := asc []

def row_semtyperef7_field : Row I := ⟨131, [.d (.dat 72), .d (.dat 114)], [.k (.d (.int .i64))], semtyperef7_field⟩

theorem rk_semtyperef7_field  : RowOk Go.Proofs.Tryz.prog (row_semtyperef7_field) :=
  row_ok tabOk (dispE_ok (es := []) trivial 3) mixed 22 (fn := Go.Proofs.Tryz.f131) (cd := cdOf Go.Proofs.Tryz.f131) (H := H_semtyperef7_field) (rl := [.tmp 4]) Go.Proofs.Tryz.func131 (by kernel_rfl) (by kernel_rfl) (by kernel_rfl) (by kernel_rfl) (by kernel_rfl) (by kernel_rfl) (by kernel_rfl)

def H_semtyperef7_function (n : Nat) : Hints I where
  tds := fun i => (asc [(8, [[], [0], [], [], [3], [], [3, 4, 5], [0, 1, 2, 3, 4, 5, 6], [0, 1, 2, 3, 4, 5, 6, 7], [0, 1, 2, 3, 4, 5, 6, 7, 8], [0, 1, 2, 3, 4, 5, 6, 7, 8, 9], [0, 1, 2, 3, 4, 5, 6, 7, 8, 9, 10], [0, 1, 2, 3, 4, 5, 6, 7, 8, 9, 10, 11], [0, 1, 2, 3, 4, 5, 6, 7, 8, 9, 10, 11, 12], [0, 1, 2, 3, 4, 5, 6, 7, 8, 9, 10, 11], [0, 1, 2, 3, 4, 5, 6, 7, 8, 9, 10, 11], [0, 1, 2, 3, 4, 5, 6, 7, 8, 9, 10, 11, 15], [0, 1, 2, 3, 4, 5, 6, 7, 8, 9, 10, 11], [0, 1, 2, 3, 4, 5, 6, 7, 8, 9, 10, 11, 15, 16, 17], [0, 1, 2, 3, 4, 5, 6, 7, 8, 9, 10, 11, 15, 16, 17, 18], [0, 1, 2, 3, 4, 5, 6, 7, 8, 9, 10, 11, 12, 13, 14, 15, 16, 17, 18, 19], [0, 1, 2, 3, 4, 5, 6, 7, 8, 9, 10, 11, 12, 13, 14, 15, 16, 17, 18, 19, 20], [0, 1, 2, 3, 4, 5, 6, 7, 8, 9, 10, 11, 12, 13, 14, 15, 16, 17, 18, 19, 20, 21], [0, 1, 2, 3, 4, 5, 6, 7, 8, 9, 10, 11, 12, 13, 14, 15, 16, 17, 18, 19, 20, 21, 22]])] i).getD []
  spl := fun i => (asc [] i).getD []
  pre := fun i => (asc [] i).getD []
  join := asc []
  loop := asc [(122, ⟨18014398509220672, [], [], [(8, .k (.d (.int .i64)))], [((.exit 0), []), (.ret, [(6, .k (.d (.bool)))])], bnd tb (.len (.ld 25 (.fld 28 5 (.slot 3)))) 1⟩)]
  keep := asc []

def row_semtyperef7_function (n : Nat) : Row I := ⟨80, [.d (.dat 28), .d (.dat 36), .d (.dat 72)], [.k (.d (.bool))], semtyperef7_function n⟩

def H_semtyperef7_mapping (n : Nat) : Hints I where
  tds := fun i => (asc [(4, [[], [0], [], [0, 1, 2], [0, 1, 2, 3], [0, 1, 2, 3, 4], [0, 1, 2, 3, 4, 5], [0, 1, 2, 3, 4, 5, 6], [0, 1, 2, 3, 4, 5, 6, 7], [0, 1, 2, 3, 4, 5, 6, 7], [0, 1, 2, 3, 4, 5, 6, 7, 9], [0, 1, 2, 3, 4, 5, 6, 7], [0, 1, 2, 3, 4, 5, 6, 7, 9, 10, 11], [0, 1, 2, 3, 4, 5, 6, 7, 9, 10, 11, 12], [0, 1, 2, 3, 4, 5, 6, 7, 9, 10, 11, 12, 13], [0, 1, 2, 3, 4, 5, 6, 7, 8, 9, 10, 11, 12, 13, 14], [0, 1, 2, 3, 4, 5, 6, 7, 8, 9, 10, 11, 12, 13, 14, 15], [0, 1, 2, 3, 4, 5, 6, 7, 8, 9, 10, 11, 12, 13, 14, 15, 16]]), (9, [[], [], [1], [], [1, 2, 3], [1, 2, 3, 4], [0, 1, 2, 3, 4, 5], [0, 1, 2, 3, 4, 5, 6]]), (13, [[], [0], [], [0, 1, 2], [0, 1, 2, 3], [], [], [0, 1, 2, 3, 4, 5, 6], [0, 1, 2, 3, 4, 5, 6, 7]])] i).getD []
  spl := fun i => (asc [] i).getD []
  pre := fun i => (asc [] i).getD []
  join := asc [(3730, ⟨575334852396581888, [], [], [(.normal, [(10, .k (.d (.int .i64)))])]⟩),
    (14925, ⟨145268109580462720000, [], [], [(.normal, [(10, .k (.d (.int .i64)))])]⟩)]
  loop := asc [(26, ⟨68719474880, [], [], [(7, .k (.d (.int .i64)))], [((.exit 0), []), (.ret, [(6, .k (.d (.bool)))])], bnd tb (.len (.ld 69 (.fld 72 5 (.slot 5)))) 1⟩),
    (58, ⟨75557863725845603944256, [], [], [(8, .k (.d (.int .i64)))], [((.exit 2), []), (.ret, [(6, .k (.d (.bool)))])], bnd tb (.len (.ld 24 (.fld 28 4 (.slot 3)))) 1⟩)]
  keep := asc []

def row_semtyperef7_mapping (n : Nat) : Row I := ⟨79, [.d (.dat 28), .d (.dat 36), .d (.dat 72)], [.k (.d (.bool))], semtyperef7_mapping n⟩

def H_semtyperef7_member (n : Nat) : Hints I where
  tds := fun i => (asc [(35, [[], [], [], [2], [], [2, 3, 4], [2, 3, 4, 5], [0, 1, 2, 3, 4, 5, 6]]), (42, [[], [], [], [2], [], [2, 3, 4], [2, 3, 4, 5], [0, 1, 2, 3, 4, 5, 6], [0, 1, 2, 3, 4, 5, 6, 7]]), (46, [[], [], [], [2], [2, 3], [2, 3, 4], [0, 1, 2, 3, 4, 5], [0, 1, 2, 3, 4, 5, 6], [0, 1, 2, 3, 4, 5, 6, 7]]), (51, [[], [0], [], [0, 1, 2], [0, 1, 2, 3], [], [5], [0, 1, 2, 3, 4, 5, 6]])] i).getD []
  spl := fun i => (asc [] i).getD []
  pre := fun i => (asc [] i).getD []
  join := asc []
  loop := asc [(506806140914, ⟨365364258960126464239350440319934430733230145856, [], [], [(8, .k (.d (.int .i64)))], [((.exit 1), []), (.ret, [(6, .k (.d (.bool)))])], bnd tb (.len (.ld 22 (.fld 72 4 (.slot 7)))) 1⟩),
    (2027224563698, ⟨95779509802480722744478485512061607693151539203932736, [], [], [(9, .k (.d (.int .i64)))], [((.exit 3), []), (.ret, [(6, .k (.d (.bool)))])], bnd tb (.len (.ld 22 (.fld 72 4 (.slot 7)))) 1⟩),
    (16217796509690, ⟨12855112035213460536787957001890350341026617553047063680255040, [], [], [(10, .k (.d (.int .i64)))], [((.exit 5), []), (.ret, [(6, .k (.d (.bool)))])], bnd tb (.len (.ld 26 (.fld 28 6 (.slot 3)))) 1⟩)]
  keep := asc []

def row_semtyperef7_member (n : Nat) : Row I := ⟨51, [.d (.dat 28), .d (.dat 36), .d (.int .i64)], [.k (.d (.bool))], semtyperef7_member n⟩

def H_semtyperef7_members (n : Nat) : Hints I where
  tds := fun i => (asc [(6, [[], [], [0, 1], [0, 1, 2], [], [], [], [5, 6], [5, 6, 7], [0, 1, 2, 3, 4, 5, 6, 7, 8], [0, 1, 2, 3, 4, 5, 6, 7, 8, 9]])] i).getD []
  spl := fun i => (asc [] i).getD []
  pre := fun i => (asc [] i).getD []
  join := asc []
  loop := asc [(58, ⟨1073733824, [], [], [(7, .k (.d (.int .i64)))], [((.exit 0), []), (.ret, [(6, .k (.d (.bool)))])], bnd tb (.len (.slot 0)) 1⟩)]
  keep := asc []

def row_semtyperef7_members (n : Nat) : Row I := ⟨69, [.d (.sl 28), .d (.dat 36), .d (.sl 3)], [.k (.d (.bool))], semtyperef7_members n⟩

theorem rkB_semtyperef7_function (n : Nat) (h_semtyperef7_function : RowOk Go.Proofs.Tryz.prog (row_semtyperef7_function n)) (h_semtyperef7_mapping : RowOk Go.Proofs.Tryz.prog (row_semtyperef7_mapping n)) (h_semtyperef7_member : RowOk Go.Proofs.Tryz.prog (row_semtyperef7_member n)) (h_semtyperef7_members : RowOk Go.Proofs.Tryz.prog (row_semtyperef7_members n)) : RowOk Go.Proofs.Tryz.prog (row_semtyperef7_function (n + 1)) :=
  row_ok tabOk (dispE_ok (es := [rowE tb (row_semtyperef7_members n), rowE tb (row_semtyperef7_member n)]) ⟨rowE_ok tabOk h_semtyperef7_members, ⟨rowE_ok tabOk h_semtyperef7_member, trivial⟩⟩ 3) mixed 54 (fn := Go.Proofs.Tryz.f80) (cd := cdOf Go.Proofs.Tryz.f80) (H := (H_semtyperef7_function n)) (rl := [.tmp 6]) Go.Proofs.Tryz.func80 (by kernel_rfl) (by kernel_rfl) (by kernel_rfl) (by kernel_rfl) (by kernel_rfl) (by kernel_rfl) (by kernel_rfl)

theorem rkB_semtyperef7_mapping (n : Nat) (h_semtyperef7_function : RowOk Go.Proofs.Tryz.prog (row_semtyperef7_function n)) (h_semtyperef7_mapping : RowOk Go.Proofs.Tryz.prog (row_semtyperef7_mapping n)) (h_semtyperef7_member : RowOk Go.Proofs.Tryz.prog (row_semtyperef7_member n)) (h_semtyperef7_members : RowOk Go.Proofs.Tryz.prog (row_semtyperef7_members n)) : RowOk Go.Proofs.Tryz.prog (row_semtyperef7_mapping (n + 1)) :=
  row_ok tabOk (dispE_ok (es := [rowE tb (row_semtyperef7_key), rowE tb (row_semtyperef7_field), rowE tb (row_semtyperef7_member n)]) ⟨rowE_ok tabOk rk_semtyperef7_key, ⟨rowE_ok tabOk rk_semtyperef7_field, ⟨rowE_ok tabOk h_semtyperef7_member, trivial⟩⟩⟩ 3) mixed 76 (fn := Go.Proofs.Tryz.f79) (cd := cdOf Go.Proofs.Tryz.f79) (H := (H_semtyperef7_mapping n)) (rl := [.tmp 6]) Go.Proofs.Tryz.func79 (by kernel_rfl) (by kernel_rfl) (by kernel_rfl) (by kernel_rfl) (by kernel_rfl) (by kernel_rfl) (by kernel_rfl)

theorem rkB_semtyperef7_member (n : Nat) (h_semtyperef7_function : RowOk Go.Proofs.Tryz.prog (row_semtyperef7_function n)) (h_semtyperef7_mapping : RowOk Go.Proofs.Tryz.prog (row_semtyperef7_mapping n)) (h_semtyperef7_member : RowOk Go.Proofs.Tryz.prog (row_semtyperef7_member n)) (h_semtyperef7_members : RowOk Go.Proofs.Tryz.prog (row_semtyperef7_members n)) : RowOk Go.Proofs.Tryz.prog (row_semtyperef7_member (n + 1)) :=
  row_ok tabOk (dispE_ok (es := [rowE tb (row_semtyperef7_members n), rowE tb (row_semtyperef7_mapping n), rowE tb (row_semtyperef7_function n), rowE tb (row_semtyperef7_member n)]) ⟨rowE_ok tabOk h_semtyperef7_members, ⟨rowE_ok tabOk h_semtyperef7_mapping, ⟨rowE_ok tabOk h_semtyperef7_function, ⟨rowE_ok tabOk h_semtyperef7_member, trivial⟩⟩⟩⟩ 3) mixed 203 (fn := Go.Proofs.Tryz.f51) (cd := cdOf Go.Proofs.Tryz.f51) (H := (H_semtyperef7_member n)) (rl := [.tmp 6]) Go.Proofs.Tryz.func51 (by kernel_rfl) (by kernel_rfl) (by kernel_rfl) (by kernel_rfl) (by kernel_rfl) (by kernel_rfl) (by kernel_rfl)

theorem rkB_semtyperef7_members (n : Nat) (h_semtyperef7_function : RowOk Go.Proofs.Tryz.prog (row_semtyperef7_function n)) (h_semtyperef7_mapping : RowOk Go.Proofs.Tryz.prog (row_semtyperef7_mapping n)) (h_semtyperef7_member : RowOk Go.Proofs.Tryz.prog (row_semtyperef7_member n)) (h_semtyperef7_members : RowOk Go.Proofs.Tryz.prog (row_semtyperef7_members n)) : RowOk Go.Proofs.Tryz.prog (row_semtyperef7_members (n + 1)) :=
  row_ok tabOk (dispE_ok (es := [rowE tb (row_semtyperef7_member n)]) ⟨rowE_ok tabOk h_semtyperef7_member, trivial⟩ 3) mixed 30 (fn := Go.Proofs.Tryz.f69) (cd := cdOf Go.Proofs.Tryz.f69) (H := (H_semtyperef7_members n)) (rl := [.tmp 6]) Go.Proofs.Tryz.func69 (by kernel_rfl) (by kernel_rfl) (by kernel_rfl) (by kernel_rfl) (by kernel_rfl) (by kernel_rfl) (by kernel_rfl)

theorem rk_scc_semtyperef7_function : ∀ n : Nat, RowOk Go.Proofs.Tryz.prog (row_semtyperef7_function n) ∧ RowOk Go.Proofs.Tryz.prog (row_semtyperef7_mapping n) ∧ RowOk Go.Proofs.Tryz.prog (row_semtyperef7_member n) ∧ RowOk Go.Proofs.Tryz.prog (row_semtyperef7_members n)
  | 0 => ⟨rowOk_none (by kernel_rfl), rowOk_none (by kernel_rfl), rowOk_none (by kernel_rfl), rowOk_none (by kernel_rfl)⟩
  | n + 1 => by
    obtain ⟨h0, h1, h2, h3⟩ := rk_scc_semtyperef7_function n
    exact ⟨rkB_semtyperef7_function n h0 h1 h2 h3, rkB_semtyperef7_mapping n h0 h1 h2 h3, rkB_semtyperef7_member n h0 h1 h2 h3, rkB_semtyperef7_members n h0 h1 h2 h3⟩

theorem rk_semtyperef7_function (n : Nat) : RowOk Go.Proofs.Tryz.prog (row_semtyperef7_function n) := (rk_scc_semtyperef7_function n).1

theorem rk_semtyperef7_mapping (n : Nat) : RowOk Go.Proofs.Tryz.prog (row_semtyperef7_mapping n) := (rk_scc_semtyperef7_function n).2.1

theorem rk_semtyperef7_member (n : Nat) : RowOk Go.Proofs.Tryz.prog (row_semtyperef7_member n) := (rk_scc_semtyperef7_function n).2.2.1

theorem rk_semtyperef7_members (n : Nat) : RowOk Go.Proofs.Tryz.prog (row_semtyperef7_members n) := (rk_scc_semtyperef7_function n).2.2.2

def H_semtyperef7_inGoal (n : Nat) : Hints I where
  tds := fun i => (asc [(4, [[], [], [], [2], [], [2, 3, 4], [2, 3, 4, 5], [0, 1, 2, 3, 4, 5, 6], [0, 1, 2, 3, 4, 5, 6, 7]]), (9, [[], [], [], [2], [], [2, 3, 4], [2, 3, 4, 5], [0, 1, 2, 3, 4, 5, 6]])] i).getD []
  spl := fun i => (asc [] i).getD []
  pre := fun i => (asc [] i).getD []
  join := asc []
  loop := asc [(26, ⟨33554112, [], [], [(7, .k (.d (.int .i64)))], [((.exit 0), []), (.ret, [(6, .k (.d (.bool)))])], bnd tb (.len (.ld 22 (.fld 47 0 (.slot 5)))) 1⟩),
    (58, ⟨1099478073664, [], [], [(8, .k (.d (.int .i64)))], [((.exit 2), []), (.ret, [(6, .k (.d (.bool)))])], bnd tb (.len (.ld 22 (.fld 47 1 (.slot 5)))) 1⟩)]
  keep := asc []

def row_semtyperef7_inGoal (n : Nat) : Row I := ⟨40, [.d (.dat 28), .d (.dat 36), .d (.dat 47)], [.k (.d (.bool))], semtyperef7_inGoal n⟩

theorem rk_semtyperef7_inGoal (n : Nat)  : RowOk Go.Proofs.Tryz.prog (row_semtyperef7_inGoal n) :=
  row_ok tabOk (dispE_ok (es := [rowE tb (row_semtyperef7_member n)]) ⟨rowE_ok tabOk (rk_semtyperef7_member n), trivial⟩ 3) mixed 53 (fn := Go.Proofs.Tryz.f40) (cd := cdOf Go.Proofs.Tryz.f40) (H := (H_semtyperef7_inGoal n)) (rl := [.tmp 6]) Go.Proofs.Tryz.func40 (by kernel_rfl) (by kernel_rfl) (by kernel_rfl) (by kernel_rfl) (by kernel_rfl) (by kernel_rfl) (by kernel_rfl)

def H_semtyperef7_InGoal (n : Nat) : Hints I where
  tds := fun i => (asc [] i).getD []
  spl := fun i => (asc [] i).getD []
  pre := fun i => (asc [] i).getD []
  join := asc []
  loop := asc []
  keep := asc []

def row_semtyperef7_InGoal (n : Nat) : Row I := ⟨15, [.d (.dat 28), .d (.dat 36), .d (.dat 47)], [.k (.d (.bool))], semtyperef7_InGoal n⟩

theorem rk_semtyperef7_InGoal (n : Nat)  : RowOk Go.Proofs.Tryz.prog (row_semtyperef7_InGoal n) :=
  row_ok tabOk (dispE_ok (es := [rowE tb (row_semtyperef1_Valid n), rowE tb (row_semtyperef7_WellFormed n), rowE tb (row_semtyperef7_Indices), rowE tb (row_semtyperef7_inGoal n)]) ⟨rowE_ok tabOk (rk_semtyperef1_Valid n), ⟨rowE_ok tabOk (rk_semtyperef7_WellFormed n), ⟨rowE_ok tabOk rk_semtyperef7_Indices, ⟨rowE_ok tabOk (rk_semtyperef7_inGoal n), trivial⟩⟩⟩⟩ 3) mixed 25 (fn := Go.Proofs.Tryz.f15) (cd := cdOf Go.Proofs.Tryz.f15) (H := (H_semtyperef7_InGoal n)) (rl := [.tmp 6]) Go.Proofs.Tryz.func15 (by kernel_rfl) (by kernel_rfl) (by kernel_rfl) (by kernel_rfl) (by kernel_rfl) (by kernel_rfl) (by kernel_rfl)

def H_semtypelaw12_ArrowFunctions (n : Nat) : Hints I where
  tds := fun i => (asc [(20, [[], [0], [0, 1], [0, 1, 2], [0, 1], [0, 1, 2, 3, 4], [0, 1, 2, 3, 4, 5], [0, 1], [0, 1], [0, 1, 2, 3, 4, 5, 6, 7, 8], [0, 1, 2, 3, 4, 5, 6, 7, 8, 9], [0, 1, 2, 3, 4, 5, 6, 7, 8, 9, 10]])] i).getD []
  spl := fun i => (asc [] i).getD []
  pre := fun i => (asc [] i).getD []
  join := asc []
  loop := asc [(250, ⟨147573951490164816960, [], [], [(10, .k (.row 30 false)), (11, .k (.d (.int .i64)))], [((.exit 0), [(10, .k (.row 30 false))]), (.ret, [(6, .k (.d (.bool)))])], bnd tb (.len (.slot 2)) 1⟩),
    (8186, ⟨1267645764524950942980005167104, [17], [], [(18, .k (.d (.bool))), (19, .k (.d (.int .i64)))], [((.exit 2), [(18, .k (.d (.bool)))])], bnd tb (.len (.ld 25 (.fld 28 5 (.slot 15)))) 1⟩)]
  keep := asc []

def row_semtypelaw12_ArrowFunctions (n : Nat) : Row I := ⟨4, [.d (.sl 3), .d (.sl 3), .d (.sl 22)], [.k (.d (.bool))], semtypelaw12_ArrowFunctions n⟩

theorem rk_semtypelaw12_ArrowFunctions (n : Nat)  : RowOk Go.Proofs.Tryz.prog (row_semtypelaw12_ArrowFunctions n) :=
  row_ok tabOk (dispE_ok (es := [rowE tb (row_semtypelaw12_short), rowE tb (row_semtypelaw12_awake n), rowE tb (row_semtypelaw12_made n), rowE tb (row_semtyperef1_Function n), rowE tb (row_arrow_Allowed n), rowE tb (row_semtyperef7_InGoal n)]) ⟨rowE_ok tabOk rk_semtypelaw12_short, ⟨rowE_ok tabOk (rk_semtypelaw12_awake n), ⟨rowE_ok tabOk (rk_semtypelaw12_made n), ⟨rowE_ok tabOk (rk_semtyperef1_Function n), ⟨rowE_ok tabOk (rk_arrow_Allowed n), ⟨rowE_ok tabOk (rk_semtyperef7_InGoal n), trivial⟩⟩⟩⟩⟩⟩ 3) mixed 110 (fn := Go.Proofs.Tryz.f4) (cd := cdOf Go.Proofs.Tryz.f4) (H := (H_semtypelaw12_ArrowFunctions n)) (rl := [.tmp 6]) Go.Proofs.Tryz.func4 (by kernel_rfl) (by kernel_rfl) (by kernel_rfl) (by kernel_rfl) (by kernel_rfl) (by kernel_rfl) (by kernel_rfl)

end Go.Qx
