/- Printed by ex.py. The executor shows it. -/
import Derived.Test.YtdipagkcdpcnbaaGreatWk0
namespace Go.Qx
open Go Go.RowKit Go.Sx
set_option maxHeartbeats 1600000
set_option maxRecDepth 100000

def row_semtypebase_Source_nearFunction (n : Nat) : Row I := ⟨99, [.var 76 (.k (.d (.dat 76))) true, .d (.dat 36), .d (.dat 72), .d (.int .i64)], [.k (.d (.dat 28))], semtypebase_Source_nearFunction n⟩

def H_semtypebase_Source_nearMap (n : Nat) : Hints I where
  tds := fun i => (asc [(8, [[], [], [], [], [3], [], [3, 4, 5], [3, 4, 5, 6], [3, 4, 5, 6, 7], [], [9], [1, 2, 3, 4, 5, 6, 7, 8, 9, 10], [1, 2, 3, 4, 5, 6, 7, 8, 9, 10, 11], [0, 1, 2, 3, 4, 5, 6, 7, 8, 9, 10, 11, 12], [0, 1, 2, 3, 4, 5, 6, 7, 8, 9, 10, 11, 12, 13]]), (12, [[], [], [], [], [3], [], [3, 4, 5], [3, 4, 5, 6], [], [8], [1, 2, 3, 4, 5, 6, 7, 8, 9], [1, 2, 3, 4, 5, 6, 7, 8, 9, 10], [0, 1, 2, 3, 4, 5, 6, 7, 8, 9, 10, 11], [0, 1, 2, 3, 4, 5, 6, 7, 8, 9, 10, 11, 12]])] i).getD []
  spl := fun i => (asc [(6, [28])] i).getD []
  pre := fun i => (asc [] i).getD []
  join := asc [(125, ⟨604462333346562283935232, [], [(0, .k (.d (.dat 76)))], [(.normal, [(9, .k (.row 114 false)), (10, .k (.row 28 false))])]⟩),
    (978, ⟨72057594033735168, [], [(0, .k (.d (.dat 76)))], [(.normal, [(9, .k (.row 114 false)), (10, .k (.row 28 false))])]⟩),
    (7824, ⟨8585740288, [], [(0, .k (.d (.dat 76)))], [(.normal, [(32, .k (.d (.bool)))])]⟩)]
  loop := asc [(122, ⟨72057594037898752, [], [(0, .k (.d (.dat 76)))], [(9, .k (.row 114 false)), (10, .k (.row 28 false)), (11, .k (.d (.int .i64)))], [((.exit 0), [(9, .k (.row 114 false)), (10, .k (.row 28 false))])], bnd tb (.len (.ld 69 (.fld 72 5 (.slot 6)))) 1⟩)]
  keep := asc []

def row_semtypebase_Source_nearMap (n : Nat) : Row I := ⟨98, [.var 76 (.k (.d (.dat 76))) true, .d (.dat 36), .d (.dat 72), .d (.int .i64)], [.k (.d (.dat 28))], semtypebase_Source_nearMap n⟩

theorem rkB_semtypebase_Source_Near (n : Nat) (h_semtypebase_Source_Near : RowOk Go.Proofs.Tryz.prog (row_semtypebase_Source_Near n)) (h_semtypebase_Source_near : RowOk Go.Proofs.Tryz.prog (row_semtypebase_Source_near n)) (h_semtypebase_Source_nearFunction : RowOk Go.Proofs.Tryz.prog (row_semtypebase_Source_nearFunction n)) (h_semtypebase_Source_nearMap : RowOk Go.Proofs.Tryz.prog (row_semtypebase_Source_nearMap n)) : RowOk Go.Proofs.Tryz.prog (row_semtypebase_Source_Near (n + 1)) :=
  row_ok tabOk (dispE_ok (es := [rowE tb (row_semtypebase_Source_near n), rowE tb (row_semtyperef1_Valid n), rowE tb (row_semtypebase_Source_leaf)]) ⟨rowE_ok tabOk h_semtypebase_Source_near, ⟨rowE_ok tabOk (rk_semtyperef1_Valid n), ⟨rowE_ok tabOk rk_semtypebase_Source_leaf, trivial⟩⟩⟩ 3) mixed 21 (fn := Go.Proofs.Tryz.f31) (cd := cdOf Go.Proofs.Tryz.f31) (H := (H_semtypebase_Source_Near n)) (rl := [.cell 8 28]) Go.Proofs.Tryz.func31 (by kernel_rfl) (by kernel_rfl) (by kernel_rfl) (by kernel_rfl) (by kernel_rfl) (by kernel_rfl) (by kernel_rfl)

theorem rkB_semtypebase_Source_near (n : Nat) (h_semtypebase_Source_Near : RowOk Go.Proofs.Tryz.prog (row_semtypebase_Source_Near n)) (h_semtypebase_Source_near : RowOk Go.Proofs.Tryz.prog (row_semtypebase_Source_near n)) (h_semtypebase_Source_nearFunction : RowOk Go.Proofs.Tryz.prog (row_semtypebase_Source_nearFunction n)) (h_semtypebase_Source_nearMap : RowOk Go.Proofs.Tryz.prog (row_semtypebase_Source_nearMap n)) : RowOk Go.Proofs.Tryz.prog (row_semtypebase_Source_near (n + 1)) :=
  row_ok tabOk (dispE_ok (es := [rowE tb (row_semtypebase_Source_leaf), rowE tb (row_semtypebase_Source_Next), rowE tb (row_semtyperef1_Int), rowE tb (row_semtyperef1_String), rowE tb (row_semtypebase_Source_Word), rowE tb (row_semtyperef1_Atom), rowE tb (row_semtypebase_Source_AtomName), rowE tb (row_semtyperef1_Pid), rowE tb (row_semtyperef1_Nil), rowE tb (row_semtypebase_Source_Near n), rowE tb (row_semtypebase_Source_nearMap n), rowE tb (row_semtypebase_Source_nearFunction n), rowE tb (row_semtypebase_Source_near n), rowE tb (row_semtyperef1_Sorted), rowE tb (row_semtyperef1_WithLabels), rowE tb (row_semtypebase_Source_Value n)]) ⟨rowE_ok tabOk rk_semtypebase_Source_leaf, ⟨rowE_ok tabOk rk_semtypebase_Source_Next, ⟨rowE_ok tabOk rk_semtyperef1_Int, ⟨rowE_ok tabOk rk_semtyperef1_String, ⟨rowE_ok tabOk rk_semtypebase_Source_Word, ⟨rowE_ok tabOk rk_semtyperef1_Atom, ⟨rowE_ok tabOk rk_semtypebase_Source_AtomName, ⟨rowE_ok tabOk rk_semtyperef1_Pid, ⟨rowE_ok tabOk rk_semtyperef1_Nil, ⟨rowE_ok tabOk h_semtypebase_Source_Near, ⟨rowE_ok tabOk h_semtypebase_Source_nearMap, ⟨rowE_ok tabOk h_semtypebase_Source_nearFunction, ⟨rowE_ok tabOk h_semtypebase_Source_near, ⟨rowE_ok tabOk rk_semtyperef1_Sorted, ⟨rowE_ok tabOk rk_semtyperef1_WithLabels, ⟨rowE_ok tabOk (rk_semtypebase_Source_Value n), trivial⟩⟩⟩⟩⟩⟩⟩⟩⟩⟩⟩⟩⟩⟩⟩⟩ 3) mixed 217 (fn := Go.Proofs.Tryz.f55) (cd := cdOf Go.Proofs.Tryz.f55) (H := (H_semtypebase_Source_near n)) (rl := [.cell 8 28]) Go.Proofs.Tryz.func55 (by kernel_rfl) (by kernel_rfl) (by kernel_rfl) (by kernel_rfl) (by kernel_rfl) (by kernel_rfl) (by kernel_rfl)

theorem rkB_semtypebase_Source_nearFunction (n : Nat) (h_semtypebase_Source_Near : RowOk Go.Proofs.Tryz.prog (row_semtypebase_Source_Near n)) (h_semtypebase_Source_near : RowOk Go.Proofs.Tryz.prog (row_semtypebase_Source_near n)) (h_semtypebase_Source_nearFunction : RowOk Go.Proofs.Tryz.prog (row_semtypebase_Source_nearFunction n)) (h_semtypebase_Source_nearMap : RowOk Go.Proofs.Tryz.prog (row_semtypebase_Source_nearMap n)) : RowOk Go.Proofs.Tryz.prog (row_semtypebase_Source_nearFunction (n + 1)) :=
  row_ok tabOk (dispE_ok (es := [rowE tb (row_semtypebase_Source_Next), rowE tb (row_semtypebase_Source_Near n), rowE tb (row_semtyperef1_Function n), rowE tb (row_semtyperef1_Nil)]) ⟨rowE_ok tabOk rk_semtypebase_Source_Next, ⟨rowE_ok tabOk h_semtypebase_Source_Near, ⟨rowE_ok tabOk (rk_semtyperef1_Function n), ⟨rowE_ok tabOk rk_semtyperef1_Nil, trivial⟩⟩⟩⟩ 3) mixed 75 (fn := Go.Proofs.Tryz.f99) (cd := cdOf Go.Proofs.Tryz.f99) (H := (H_semtypebase_Source_nearFunction n)) (rl := [.cell 8 28]) Go.Proofs.Tryz.func99 (by kernel_rfl) (by kernel_rfl) (by kernel_rfl) (by kernel_rfl) (by kernel_rfl) (by kernel_rfl) (by kernel_rfl)

theorem rkB_semtypebase_Source_nearMap (n : Nat) (h_semtypebase_Source_Near : RowOk Go.Proofs.Tryz.prog (row_semtypebase_Source_Near n)) (h_semtypebase_Source_near : RowOk Go.Proofs.Tryz.prog (row_semtypebase_Source_near n)) (h_semtypebase_Source_nearFunction : RowOk Go.Proofs.Tryz.prog (row_semtypebase_Source_nearFunction n)) (h_semtypebase_Source_nearMap : RowOk Go.Proofs.Tryz.prog (row_semtypebase_Source_nearMap n)) : RowOk Go.Proofs.Tryz.prog (row_semtypebase_Source_nearMap (n + 1)) :=
  row_ok tabOk (dispE_ok (es := [rowE tb (row_semtypebase_Source_Next), rowE tb (row_semtypebase_Source_Near n), rowE tb (row_semtyperef1_Map), rowE tb (row_semtyperef1_Nil)]) ⟨rowE_ok tabOk rk_semtypebase_Source_Next, ⟨rowE_ok tabOk h_semtypebase_Source_Near, ⟨rowE_ok tabOk rk_semtyperef1_Map, ⟨rowE_ok tabOk rk_semtyperef1_Nil, trivial⟩⟩⟩⟩ 3) mixed 89 (fn := Go.Proofs.Tryz.f98) (cd := cdOf Go.Proofs.Tryz.f98) (H := (H_semtypebase_Source_nearMap n)) (rl := [.cell 8 28]) Go.Proofs.Tryz.func98 (by kernel_rfl) (by kernel_rfl) (by kernel_rfl) (by kernel_rfl) (by kernel_rfl) (by kernel_rfl) (by kernel_rfl)

theorem rk_scc_semtypebase_Source_Near : ∀ n : Nat, RowOk Go.Proofs.Tryz.prog (row_semtypebase_Source_Near n) ∧ RowOk Go.Proofs.Tryz.prog (row_semtypebase_Source_near n) ∧ RowOk Go.Proofs.Tryz.prog (row_semtypebase_Source_nearFunction n) ∧ RowOk Go.Proofs.Tryz.prog (row_semtypebase_Source_nearMap n)
  | 0 => ⟨rowOk_none (by kernel_rfl), rowOk_none (by kernel_rfl), rowOk_none (by kernel_rfl), rowOk_none (by kernel_rfl)⟩
  | n + 1 => by
    obtain ⟨h0, h1, h2, h3⟩ := rk_scc_semtypebase_Source_Near n
    exact ⟨rkB_semtypebase_Source_Near n h0 h1 h2 h3, rkB_semtypebase_Source_near n h0 h1 h2 h3, rkB_semtypebase_Source_nearFunction n h0 h1 h2 h3, rkB_semtypebase_Source_nearMap n h0 h1 h2 h3⟩

theorem rk_semtypebase_Source_Near (n : Nat) : RowOk Go.Proofs.Tryz.prog (row_semtypebase_Source_Near n) := (rk_scc_semtypebase_Source_Near n).1

def H_semtypelaw12_made (n : Nat) : Hints I where
  tds := fun i => (asc [(12, [[], [0], [], [], [2, 3], [2, 3, 4], [0, 1, 2, 3, 4, 5], [0, 1, 2, 3, 4, 5, 6], [0, 1, 2, 3, 4, 5, 6, 7]]), (19, [[], [0], [], [], [], [], [4, 5], [2, 3, 4, 5, 6], [2, 3, 4, 5, 6, 7], [0, 1, 2, 3, 4, 5, 6, 7, 8], [0, 1, 2, 3, 4, 5, 6, 7, 8, 9], [0, 1, 2, 3, 4, 5, 6, 7, 8, 9, 10]]), (22, [[], [], [], [], [2, 3], [0, 1, 2, 3, 4], [0, 1, 2, 3, 4, 5], [0, 1, 2, 3, 4, 5, 6]]), (23, [[], [], [], [0], [0, 1, 3], [0, 1, 2, 3, 4]])] i).getD []
  spl := fun i => (asc [] i).getD []
  pre := fun i => (asc [] i).getD []
  join := asc [(4093, ⟨19267255250108152471879680, [], [(14, .k (.d (.dat 76))), (15, .lvs [.row 28 false, .d (.bool), .d (.int .i64), .d (.int .i64), .d (.str), .d (.sl 28), .d (.sl 114), .d (.sl 30), .d (.sl 9)])], [(.normal, [])]⟩)]
  loop := asc [(506, ⟨18014397435754496, [], [(7, .k (.d (.dat 76))), (8, .lvs [.row 72 false, .d (.int .i64)])], [(11, .k (.d (.int .i64)))], [((.exit 0), [])], bnd tb (.cst 3) 1⟩),
    (4090, ⟨9444588850551214637056, [8], [(14, .k (.d (.dat 76))), (15, .lvs [.row 28 false, .d (.bool), .d (.int .i64), .d (.int .i64), .d (.str), .row 28 false, .row 114 false, .row 30 false, .row 9 false])], [(16, .k (.d (.int .i64)))], [((.exit 4), [])], bnd tb (.slot 10) 1⟩),
    (129610, ⟨281440616980480, [], [(7, .k (.d (.dat 76))), (12, .lvs [.d (.int .i64), .d (.int .i64), .d (.int .i64), .d (.str), .row 3 false, .row 132 false, .d (.int .i64), .d (.int .i64)])], [(13, .k (.d (.int .i64)))], [((.exit 2), [])], bnd tb (.slot 10) 2⟩)]
  keep := asc []

def row_semtypelaw12_made (n : Nat) : Row I := ⟨11, [.d (.sl 3), .d (.sl 3)], [.k (.d (.dat 36)), .k (.d (.int .i64)), .k (.d (.dat 30))], semtypelaw12_made n⟩

theorem rk_semtypelaw12_made (n : Nat)  : RowOk Go.Proofs.Tryz.prog (row_semtypelaw12_made n) :=
  row_ok tabOk (dispE_ok (es := [rowE tb (row_semtypebase_Source_Next), rowE tb (row_semtypebase_Source_Type), rowE tb (row_semtypebase_Source_Near n)]) ⟨rowE_ok tabOk rk_semtypebase_Source_Next, ⟨rowE_ok tabOk rk_semtypebase_Source_Type, ⟨rowE_ok tabOk (rk_semtypebase_Source_Near n), trivial⟩⟩⟩ 3) mixed 87 (fn := Go.Proofs.Tryz.f11) (cd := cdOf Go.Proofs.Tryz.f11) (H := (H_semtypelaw12_made n)) (rl := [.cell 4 36, .tmp 5, .cell 6 30]) Go.Proofs.Tryz.func11 (by kernel_rfl) (by kernel_rfl) (by kernel_rfl) (by kernel_rfl) (by kernel_rfl) (by kernel_rfl) (by kernel_rfl)

def H_value_clone (n : Nat) : Hints I where
  tds := fun i => (asc [] i).getD []
  spl := fun i => (asc [] i).getD []
  pre := fun i => (asc [] i).getD []
  join := asc []
  loop := asc []
  keep := asc []

def row_value_clone (n : Nat) : Row I := ⟨161, [.d (.dat 28)], [.k (.d (.dat 28))], value_clone n⟩

def H_value_cloneAll (n : Nat) : Hints I where
  tds := fun i => (asc [] i).getD []
  spl := fun i => (asc [] i).getD []
  pre := fun i => (asc [] i).getD []
  join := asc []
  loop := asc [(58, ⟨261928, [], [], [(3, .k (.row 28 false)), (8, .k (.d (.int .i64)))], [((.exit 0), [(3, .k (.row 28 false))])], bnd tb (.slot 7) 1⟩)]
  keep := asc []

def row_value_cloneAll (n : Nat) : Row I := ⟨160, [.d (.sl 28)], [.k (.row 28 false)], value_cloneAll n⟩

def H_value_cloneEntries (n : Nat) : Hints I where
  tds := fun i => (asc [(5, [[], [], [1], [1, 2], [], [4], [], [6], [1, 2, 3, 6, 7], [1, 2, 3, 4, 5, 6, 7, 8], [1, 2, 3, 4, 5, 6, 7, 8, 9], [0, 1, 2, 3, 4, 5, 6, 7, 8, 9, 10], [0, 1, 2, 3, 4, 5, 6, 7, 8, 9, 10, 11]])] i).getD []
  spl := fun i => (asc [] i).getD []
  pre := fun i => (asc [] i).getD []
  join := asc []
  loop := asc [(58, ⟨33554216, [], [], [(3, .k (.row 30 false)), (8, .k (.d (.int .i64)))], [((.exit 0), [(3, .k (.row 30 false))])], bnd tb (.slot 7) 1⟩)]
  keep := asc []

def row_value_cloneEntries (n : Nat) : Row I := ⟨124, [.bor 30], [.k (.row 30 false)], value_cloneEntries n⟩

theorem rkB_value_clone (n : Nat) (h_value_clone : RowOk Go.Proofs.Tryz.prog (row_value_clone n)) (h_value_cloneAll : RowOk Go.Proofs.Tryz.prog (row_value_cloneAll n)) (h_value_cloneEntries : RowOk Go.Proofs.Tryz.prog (row_value_cloneEntries n)) : RowOk Go.Proofs.Tryz.prog (row_value_clone (n + 1)) :=
  row_ok tabOk (dispE_ok (es := [rowE tb (row_value_cloneAll n), rowE tb row_176, rowE tb row_177, rowE tb (row_value_cloneEntries n)]) ⟨rowE_ok tabOk h_value_cloneAll, ⟨rowE_ok tabOk rk_176, ⟨rowE_ok tabOk rk_177, ⟨rowE_ok tabOk h_value_cloneEntries, trivial⟩⟩⟩⟩ 3) mixed 20 (fn := Go.Proofs.Tryz.f161) (cd := cdOf Go.Proofs.Tryz.f161) (H := (H_value_clone n)) (rl := [.cell 2 28]) Go.Proofs.Tryz.func161 (by kernel_rfl) (by kernel_rfl) (by kernel_rfl) (by kernel_rfl) (by kernel_rfl) (by kernel_rfl) (by kernel_rfl)

theorem rkB_value_cloneAll (n : Nat) (h_value_clone : RowOk Go.Proofs.Tryz.prog (row_value_clone n)) (h_value_cloneAll : RowOk Go.Proofs.Tryz.prog (row_value_cloneAll n)) (h_value_cloneEntries : RowOk Go.Proofs.Tryz.prog (row_value_cloneEntries n)) : RowOk Go.Proofs.Tryz.prog (row_value_cloneAll (n + 1)) :=
  row_ok tabOk (dispE_ok (es := [rowE tb (row_value_clone n)]) ⟨rowE_ok tabOk h_value_clone, trivial⟩ 3) mixed 19 (fn := Go.Proofs.Tryz.f160) (cd := cdOf Go.Proofs.Tryz.f160) (H := (H_value_cloneAll n)) (rl := [.tmp 2]) Go.Proofs.Tryz.func160 (by kernel_rfl) (by kernel_rfl) (by kernel_rfl) (by kernel_rfl) (by kernel_rfl) (by kernel_rfl) (by kernel_rfl)

theorem rkB_value_cloneEntries (n : Nat) (h_value_clone : RowOk Go.Proofs.Tryz.prog (row_value_clone n)) (h_value_cloneAll : RowOk Go.Proofs.Tryz.prog (row_value_cloneAll n)) (h_value_cloneEntries : RowOk Go.Proofs.Tryz.prog (row_value_cloneEntries n)) : RowOk Go.Proofs.Tryz.prog (row_value_cloneEntries (n + 1)) :=
  row_ok tabOk (dispE_ok (es := [rowE tb (row_value_cloneAll n), rowE tb (row_value_clone n)]) ⟨rowE_ok tabOk h_value_cloneAll, ⟨rowE_ok tabOk h_value_clone, trivial⟩⟩ 3) mixed 26 (fn := Go.Proofs.Tryz.f124) (cd := cdOf Go.Proofs.Tryz.f124) (H := (H_value_cloneEntries n)) (rl := [.tmp 2]) Go.Proofs.Tryz.func124 (by kernel_rfl) (by kernel_rfl) (by kernel_rfl) (by kernel_rfl) (by kernel_rfl) (by kernel_rfl) (by kernel_rfl)

theorem rk_scc_value_clone : ∀ n : Nat, RowOk Go.Proofs.Tryz.prog (row_value_clone n) ∧ RowOk Go.Proofs.Tryz.prog (row_value_cloneAll n) ∧ RowOk Go.Proofs.Tryz.prog (row_value_cloneEntries n)
  | 0 => ⟨rowOk_none (by kernel_rfl), rowOk_none (by kernel_rfl), rowOk_none (by kernel_rfl)⟩
  | n + 1 => by
    obtain ⟨h0, h1, h2⟩ := rk_scc_value_clone n
    exact ⟨rkB_value_clone n h0 h1 h2, rkB_value_cloneAll n h0 h1 h2, rkB_value_cloneEntries n h0 h1 h2⟩

theorem rk_value_cloneEntries (n : Nat) : RowOk Go.Proofs.Tryz.prog (row_value_cloneEntries n) := (rk_scc_value_clone n).2.2

def H_slices_CompactFunc_api_Entry_api_Entry : Hints I where
  tds := fun i => (asc [(6, [[], [], [], [1, 2], [1, 2, 3], [], [], [6], [5, 6, 7], [5, 6, 7, 8], [0, 1, 2, 3, 4, 5, 6, 7, 8, 9]]), (11, [[], [], [], [1, 2], [1, 2, 3], [], [], [6], [5, 6, 7], [5, 6, 7, 8], [0, 1, 2, 3, 4, 5, 6, 7, 8, 9], [0, 1, 2, 3, 4, 5, 6, 7, 8, 9, 10]])] i).getD []
  spl := fun i => (asc [] i).getD []
  pre := fun i => (asc [] i).getD []
  join := asc []
  loop := asc [(58, ⟨36893488147419099376, [], [], [(0, .k (.row 30 false)), (5, .k (.d (.int .i64)))], [((.exit 0), [(0, .k (.row 30 false))]), (.ret, [(0, .k (.row 30 true)), (4, .k (.d (.sl 30)))])], bnd tb (.len (.slot 0)) 1⟩)]
  keep := asc [(59690, ⟨576460748008456352, 0, 30, [(5, .k (.d (.int .i64))), (7, .k (.d (.int .i64)))], [((.exit 2), [(5, .k (.d (.int .i64)))])], bnd tb (.len (.slot 6)) 1⟩)]

def row_slices_CompactFunc_api_Entry_api_Entry : Row I := ⟨128, [.row 30 false, .fn [.dat 30, .dat 30] [.k (.d (.bool))]], [.k (.d (.sl 30))], slices_CompactFunc_api_Entry_api_Entry⟩

theorem rk_slices_CompactFunc_api_Entry_api_Entry  : RowOk Go.Proofs.Tryz.prog (row_slices_CompactFunc_api_Entry_api_Entry) :=
  row_ok tabOk (dispE_ok (es := []) trivial 3) mixed 66 (fn := Go.Proofs.Tryz.f128) (cd := cdOf Go.Proofs.Tryz.f128) (H := H_slices_CompactFunc_api_Entry_api_Entry) (rl := [.tmp 4]) Go.Proofs.Tryz.func128 (by kernel_rfl) (by kernel_rfl) (by kernel_rfl) (by kernel_rfl) (by kernel_rfl) (by kernel_rfl) (by kernel_rfl)

def H_value_sortEntries_1 (n : Nat) : Hints I where
  tds := fun i => (asc [] i).getD []
  spl := fun i => (asc [] i).getD []
  pre := fun i => (asc [] i).getD []
  join := asc []
  loop := asc []
  keep := asc []

def row_value_sortEntries_1 (n : Nat) : Row I := ⟨129, [.d (.dat 30), .d (.dat 30)], [.k (.d (.bool))], value_sortEntries_1 n⟩

theorem rk_value_sortEntries_1 (n : Nat)  : RowOk Go.Proofs.Tryz.prog (row_value_sortEntries_1 n) :=
  row_ok tabOk (dispE_ok (es := [rowE tb (row_value_compareEntries n)]) ⟨rowE_ok tabOk (rk_value_compareEntries n), trivial⟩ 3) mixed 9 (fn := Go.Proofs.Tryz.f129) (cd := cdOf Go.Proofs.Tryz.f129) (H := (H_value_sortEntries_1 n)) (rl := [.tmp 4]) Go.Proofs.Tryz.func129 (by kernel_rfl) (by kernel_rfl) (by kernel_rfl) (by kernel_rfl) (by kernel_rfl) (by kernel_rfl) (by kernel_rfl)

def H_slices_Clip_api_Entry_api_Entry : Hints I where
  tds := fun i => (asc [] i).getD []
  spl := fun i => (asc [] i).getD []
  pre := fun i => (asc [] i).getD []
  join := asc []
  loop := asc []
  keep := asc []

def row_slices_Clip_api_Entry_api_Entry : Row I := ⟨127, [.d (.sl 30)], [.k (.row 30 true)], slices_Clip_api_Entry_api_Entry⟩

theorem rk_slices_Clip_api_Entry_api_Entry  : RowOk Go.Proofs.Tryz.prog (row_slices_Clip_api_Entry_api_Entry) :=
  row_ok tabOk (dispE_ok (es := []) trivial 3) mixed 9 (fn := Go.Proofs.Tryz.f127) (cd := cdOf Go.Proofs.Tryz.f127) (H := H_slices_Clip_api_Entry_api_Entry) (rl := [.tmp 2]) Go.Proofs.Tryz.func127 (by kernel_rfl) (by kernel_rfl) (by kernel_rfl) (by kernel_rfl) (by kernel_rfl) (by kernel_rfl) (by kernel_rfl)

def H_value_sortEntries (n : Nat) : Hints I where
  tds := fun i => (asc [] i).getD []
  spl := fun i => (asc [] i).getD []
  pre := fun i => (asc [] i).getD []
  join := asc []
  loop := asc []
  keep := asc []

noncomputable def row_value_sortEntries (n : Nat) : Row I := ⟨78, [.bor 30], [.k (.row 30 true)], value_sortEntries n⟩

theorem rk_value_sortEntries (n : Nat)  : RowOk Go.Proofs.Tryz.prog (row_value_sortEntries n) :=
  row_ok tabOk (dispE_ok (es := [rowE tb (row_value_cloneEntries n), rioE tb row_125, rowE tb (row_value_compareEntries n), rowE tb (row_slices_CompactFunc_api_Entry_api_Entry), rowE tb (row_value_sortEntries_1 n), rowE tb (row_slices_Clip_api_Entry_api_Entry)]) ⟨rowE_ok tabOk (rk_value_cloneEntries n), ⟨rioE_ok tabOk rk_125, ⟨rowE_ok tabOk (rk_value_compareEntries n), ⟨rowE_ok tabOk rk_slices_CompactFunc_api_Entry_api_Entry, ⟨rowE_ok tabOk (rk_value_sortEntries_1 n), ⟨rowE_ok tabOk rk_slices_Clip_api_Entry_api_Entry, trivial⟩⟩⟩⟩⟩⟩ 3) mixed 11 (fn := Go.Proofs.Tryz.f78) (cd := cdOf Go.Proofs.Tryz.f78) (H := (H_value_sortEntries n)) (rl := [.tmp 2]) Go.Proofs.Tryz.func78 (by kernel_rfl) (by kernel_rfl) (by kernel_rfl) (by kernel_rfl) (by kernel_rfl) (by kernel_rfl) (by kernel_rfl)

def H_value_Function (n : Nat) : Hints I where
  tds := fun i => (asc [] i).getD []
  spl := fun i => (asc [] i).getD []
  pre := fun i => (asc [] i).getD []
  join := asc []
  loop := asc [(58, ⟨134086816, [], [(4, .lvs [.d (.int .i64), .d (.int .i64), .d (.str), .row 28 false, .row 114 false, .row 30 false, .row 9 false])], [(17, .k (.d (.int .i64)))], [((.exit 0), []), (.ret, [(5, .k (.d (.int .i64)))])], bnd tb (.slot 16) 1⟩)]
  keep := asc []

noncomputable def row_value_Function (n : Nat) : Row I := ⟨49, [.d (.int .i64), .bor 30], [.k (.d (.dat 28)), .k (.d (.int .i64))], value_Function n⟩

theorem rk_value_Function (n : Nat)  : RowOk Go.Proofs.Tryz.prog (row_value_Function n) :=
  row_ok tabOk (dispE_ok (es := [rowE tb (row_value_validEntry n), rowE tb (row_value_sortEntries n)]) ⟨rowE_ok tabOk (rk_value_validEntry n), ⟨rowE_ok tabOk (rk_value_sortEntries n), trivial⟩⟩ 3) mixed 31 (fn := Go.Proofs.Tryz.f49) (cd := cdOf Go.Proofs.Tryz.f49) (H := (H_value_Function n)) (rl := [.cell 4 28, .tmp 5]) Go.Proofs.Tryz.func49 (by kernel_rfl) (by kernel_rfl) (by kernel_rfl) (by kernel_rfl) (by kernel_rfl) (by kernel_rfl) (by kernel_rfl)

def H_arrow_Merge (n : Nat) : Hints I where
  tds := fun i => (asc [(7, [[], [0], [0, 1], [0, 1, 2], [0, 1, 2, 3], [0, 1, 2, 3, 4], [0, 1, 2, 3], [0, 1, 2, 3, 6], [0, 1, 2, 3, 6, 7], [0, 1, 2, 3, 6, 7, 8], [0, 1, 2, 3, 4, 5, 6, 7, 8, 9], [0, 1, 2, 3, 4, 5, 6, 7, 8, 9, 10], [0, 1, 2, 3, 4, 5, 6, 7, 8, 9, 10, 11], [0, 1, 2, 3, 4, 5, 6, 7, 8, 9, 10, 11, 12], [0, 1, 2, 3, 4, 5, 6, 7, 8, 9, 10, 11, 12, 13], [0, 1, 2, 3, 4, 5, 6, 7, 8, 9, 10, 11, 12, 13, 14], [0, 1, 2, 3, 4, 5, 6, 7, 8, 9, 10, 11, 12, 13, 14, 15]])] i).getD []
  spl := fun i => (asc [] i).getD []
  pre := fun i => (asc [] i).getD []
  join := asc []
  loop := asc [(122, ⟨1099511619672, [], [(2, .lvs [.d (.int .i64), .d (.int .i64), .d (.str), .row 28 false, .row 114 false, .row 30 false, .row 9 false])], [(4, .k (.row 30 false)), (13, .k (.d (.int .i64)))], [((.exit 0), [(4, .k (.row 30 false))]), (.ret, [(3, .k (.d (.int .i64)))])], bnd tb (.slot 12) 1⟩)]
  keep := asc []

noncomputable def row_arrow_Merge (n : Nat) : Row I := ⟨23, [.d (.sl 28)], [.k (.d (.dat 28)), .k (.d (.int .i64))], arrow_Merge n⟩

theorem rk_arrow_Merge (n : Nat)  : RowOk Go.Proofs.Tryz.prog (row_arrow_Merge n) :=
  row_ok tabOk (dispE_ok (es := [rowE tb (row_value_Validate n), rowE tb (row_value_Function n)]) ⟨rowE_ok tabOk (rk_value_Validate n), ⟨rowE_ok tabOk (rk_value_Function n), trivial⟩⟩ 3) mixed 48 (fn := Go.Proofs.Tryz.f23) (cd := cdOf Go.Proofs.Tryz.f23) (H := (H_arrow_Merge n)) (rl := [.cell 2 28, .tmp 3]) Go.Proofs.Tryz.func23 (by kernel_rfl) (by kernel_rfl) (by kernel_rfl) (by kernel_rfl) (by kernel_rfl) (by kernel_rfl) (by kernel_rfl)

def H_semtyperef7_index : Hints I where
  tds := fun i => (asc [] i).getD []
  spl := fun i => (asc [] i).getD []
  pre := fun i => (asc [] i).getD []
  join := asc []
  loop := asc []
  keep := asc []

def row_semtyperef7_index : Row I := ⟨37, [.d (.dat 36), .d (.int .i64)], [.k (.d (.bool))], semtyperef7_index⟩

theorem rk_semtyperef7_index  : RowOk Go.Proofs.Tryz.prog (row_semtyperef7_index) :=
  row_ok tabOk (dispE_ok (es := []) trivial 3) mixed 14 (fn := Go.Proofs.Tryz.f37) (cd := cdOf Go.Proofs.Tryz.f37) (H := H_semtyperef7_index) (rl := [.tmp 4]) Go.Proofs.Tryz.func37 (by kernel_rfl) (by kernel_rfl) (by kernel_rfl) (by kernel_rfl) (by kernel_rfl) (by kernel_rfl) (by kernel_rfl)

def H_semtyperef7_node : Hints I where
  tds := fun i => (asc [(4, [[], [], [1], [], [1, 2, 3], [1, 2, 3, 4], [0, 1, 2, 3, 4, 5], [0, 1, 2, 3, 4, 5, 6]]), (47, [[], [], [1], [0, 1, 2], [0, 1, 2, 3], [0, 1, 2, 3, 4], [0, 1, 2, 3, 4, 5], [0, 1, 2, 3, 4, 5, 6], [0, 1, 2, 3, 4, 5, 6, 7], [0, 1, 2, 3, 4, 5, 6, 7, 8], [0, 1, 2, 3, 4, 5, 6, 7, 8, 9], [0, 1, 2, 3, 4, 5, 6, 7, 8, 9, 10], [0, 1, 2, 3, 4, 5, 6, 7, 8, 9, 10, 11], [0, 1, 2, 3, 4, 5, 6, 7, 8, 9, 10, 11, 12], [0, 1, 2, 3, 4, 5, 6, 7, 8, 9, 10, 11, 12, 13], [0, 1, 2, 3, 4, 5, 6, 7, 8, 9, 10, 11, 12, 13, 14], [0, 1, 2, 3, 4, 5, 6, 7, 8, 9, 10, 11, 12, 13, 14, 15], [0, 1, 2, 3, 4, 5, 6, 7, 8, 9, 10, 11, 12, 13, 14], [0, 1, 2, 3, 4, 5, 6, 7, 8, 9, 10, 11, 12, 13, 14, 17], [0, 1, 2, 3, 4, 5, 6, 7, 8, 9, 10, 11, 12, 13, 14, 15, 16, 17, 18], [0, 1, 2, 3, 4, 5, 6, 7, 8, 9, 10, 11, 12, 13, 14, 15, 16, 17, 18, 19], [0, 1, 2, 3, 4, 5, 6, 7, 8, 9, 10, 11, 12, 13, 14, 15, 16, 17, 18, 19, 20], [0, 1, 2, 3, 4, 5, 6, 7, 8, 9, 10, 11, 12, 13, 14], [0, 1, 2, 3, 4, 5, 6, 7, 8, 9, 10, 11, 12, 13, 14, 22], [0, 1, 2, 3, 4, 5, 6, 7, 8, 9, 10, 11, 12, 13, 14, 15, 16, 17, 18, 19, 20, 21, 22, 23], [0, 1, 2, 3, 4, 5, 6, 7, 8, 9, 10, 11, 12, 13, 14, 15, 16, 17, 18, 19, 20, 21, 22, 23, 24], [0, 1, 2, 3, 4, 5, 6, 7, 8, 9, 10, 11, 12, 13, 14, 15, 16, 17, 18, 19, 20, 21, 22, 23, 24, 25], [0, 1, 2, 3, 4, 5, 6, 7, 8, 9, 10, 11, 12, 13, 14, 15, 16, 17, 18, 19, 20, 21, 22, 23, 24, 25, 26]])] i).getD []
  spl := fun i => (asc [] i).getD []
  pre := fun i => (asc [] i).getD []
  join := asc [(2092029, ⟨2706308199418088717232151174730781556736, [], [], [(.normal, [(122, .k (.d (.bool)))])]⟩),
    (535560189, ⟨3568119231764899702645714923623737840956866560, [], [], [(.normal, [(149, .k (.d (.bool)))])]⟩)]
  loop := asc [(26, ⟨67106864, [], [], [(5, .k (.d (.int .i64)))], [((.exit 0), []), (.ret, [(4, .k (.d (.bool)))])], bnd tb (.len (.ld 22 (.fld 72 4 (.slot 3)))) 1⟩),
    (68551704562, ⟨1606938044257528773904631189422958917689486710763136902759952, [], [], [(9, .k (.d (.int .i64)))], [((.exit 3), []), (.ret, [(4, .k (.d (.bool)))])], bnd tb (.len (.ld 69 (.fld 72 5 (.slot 3)))) 1⟩)]
  keep := asc []

def row_semtyperef7_node : Row I := ⟨67, [.d (.dat 36), .d (.dat 72)], [.k (.d (.bool))], semtyperef7_node⟩

theorem rk_semtyperef7_node  : RowOk Go.Proofs.Tryz.prog (row_semtyperef7_node) :=
  row_ok tabOk (dispE_ok (es := [rowE tb (row_semtyperef7_index), rowE tb (row_semtyperef1_IsAtom), rowE tb (row_semtyperef1_IsVariable), rowE tb (row_semtyperef1_ValidKey), rowE tb (row_semtyperef1_CompareKeys)]) ⟨rowE_ok tabOk rk_semtyperef7_index, ⟨rowE_ok tabOk rk_semtyperef1_IsAtom, ⟨rowE_ok tabOk rk_semtyperef1_IsVariable, ⟨rowE_ok tabOk rk_semtyperef1_ValidKey, ⟨rowE_ok tabOk rk_semtyperef1_CompareKeys, trivial⟩⟩⟩⟩⟩ 3) mixed 216 (fn := Go.Proofs.Tryz.f67) (cd := cdOf Go.Proofs.Tryz.f67) (H := H_semtyperef7_node) (rl := [.tmp 4]) Go.Proofs.Tryz.func67 (by kernel_rfl) (by kernel_rfl) (by kernel_rfl) (by kernel_rfl) (by kernel_rfl) (by kernel_rfl) (by kernel_rfl)

def H_semtyperef7_boolean : Hints I where
  tds := fun i => (asc [] i).getD []
  spl := fun i => (asc [] i).getD []
  pre := fun i => (asc [] i).getD []
  join := asc []
  loop := asc []
  keep := asc []

def row_semtyperef7_boolean : Row I := ⟨68, [.d (.dat 72)], [.k (.d (.bool))], semtyperef7_boolean⟩

theorem rk_semtyperef7_boolean  : RowOk Go.Proofs.Tryz.prog (row_semtyperef7_boolean) :=
  row_ok tabOk (dispE_ok (es := []) trivial 3) mixed 16 (fn := Go.Proofs.Tryz.f68) (cd := cdOf Go.Proofs.Tryz.f68) (H := H_semtyperef7_boolean) (rl := [.tmp 2]) Go.Proofs.Tryz.func68 (by kernel_rfl) (by kernel_rfl) (by kernel_rfl) (by kernel_rfl) (by kernel_rfl) (by kernel_rfl) (by kernel_rfl)

def H_semtyperef7_WellFormed (n : Nat) : Hints I where
  tds := fun i => (asc [(6, [[], [], [1], [], [1, 2, 3], [1, 2, 3, 4], [0, 1, 2, 3, 4, 5], [0, 1, 2, 3, 4, 5, 6]])] i).getD []
  spl := fun i => (asc [] i).getD []
  pre := fun i => (asc [] i).getD []
  join := asc []
  loop := asc [(58, ⟨1073709068, [], [], [(3, .k (.d (.int .i64)))], [((.exit 0), []), (.ret, [(2, .k (.d (.int .i64)))])], bnd tb (.len (.ld 34 (.fld 36 0 (.slot 1)))) 1⟩),
    (250, ⟨4951760157141521082416628192, [], [], [(4, .k (.row 4 false)), (5, .k (.d (.int .i64)))], [((.exit 2), [(4, .k (.row 4 false))])], bnd tb (.len (.ld 34 (.fld 36 0 (.slot 1)))) 1⟩),
    (506, ⟨10136253041668693690874029146628, [], [], [(4, .k (.row 4 false)), (9, .k (.d (.int .i64)))], [((.exit 8), [(4, .k (.row 4 false))]), (.ret, [(2, .k (.d (.int .i64))), (4, .k (.row 4 false))])], bnd tb (.len (.slot 4)) 1⟩),
    (16018, ⟨4951760157141518900573241792, [], [], [(4, .k (.row 4 false)), (6, .k (.d (.int .i64)))], [((.exit 4), [(4, .k (.row 4 false))])], bnd tb (.len (.ld 34 (.fld 36 0 (.slot 1)))) 1⟩),
    (4100682, ⟨4835703278177041722114432, [], [], [(4, .k (.row 4 false)), (7, .k (.d (.bool))), (8, .k (.d (.int .i64)))], [((.exit 6), [(4, .k (.row 4 false)), (7, .k (.d (.bool)))])], fun _ => some n⟩)]
  keep := asc []

def row_semtyperef7_WellFormed (n : Nat) : Row I := ⟨36, [.d (.dat 36)], [.k (.d (.int .i64))], semtyperef7_WellFormed n⟩

theorem rk_semtyperef7_WellFormed (n : Nat)  : RowOk Go.Proofs.Tryz.prog (row_semtyperef7_WellFormed n) :=
  row_ok tabOk (dispE_ok (es := [rowE tb (row_semtyperef7_index), rowE tb (row_semtyperef7_node), rowE tb (row_semtyperef7_boolean)]) ⟨rowE_ok tabOk rk_semtyperef7_index, ⟨rowE_ok tabOk rk_semtyperef7_node, ⟨rowE_ok tabOk rk_semtyperef7_boolean, trivial⟩⟩⟩ 3) mixed 103 (fn := Go.Proofs.Tryz.f36) (cd := cdOf Go.Proofs.Tryz.f36) (H := (H_semtyperef7_WellFormed n)) (rl := [.tmp 2]) Go.Proofs.Tryz.func36 (by kernel_rfl) (by kernel_rfl) (by kernel_rfl) (by kernel_rfl) (by kernel_rfl) (by kernel_rfl) (by kernel_rfl)

def H_semtyperef7_key : Hints I where
  tds := fun i => (asc [(4, [[], [0], [], [0, 1, 2], [0, 1, 2, 3], [], [0, 1, 2, 3, 4, 5]])] i).getD []
  spl := fun i => (asc [] i).getD []
  pre := fun i => (asc [] i).getD []
  join := asc []
  loop := asc [(26, ⟨2097136, [], [], [(5, .k (.d (.int .i64)))], [((.exit 0), []), (.ret, [(4, .k (.d (.int .i64)))])], bnd tb (.len (.ld 24 (.fld 28 4 (.slot 2)))) 1⟩)]
  keep := asc []

def row_semtyperef7_key : Row I := ⟨130, [.d (.dat 28), .d (.dat 114)], [.k (.d (.int .i64))], semtyperef7_key⟩

theorem rk_semtyperef7_key  : RowOk Go.Proofs.Tryz.prog (row_semtyperef7_key) :=
  row_ok tabOk (dispE_ok (es := []) trivial 3) mixed 21 (fn := Go.Proofs.Tryz.f130) (cd := cdOf Go.Proofs.Tryz.f130) (H := H_semtyperef7_key) (rl := [.tmp 4]) Go.Proofs.Tryz.func130 (by kernel_rfl) (by kernel_rfl) (by kernel_rfl) (by kernel_rfl) (by kernel_rfl) (by kernel_rfl) (by kernel_rfl)

def H_semtyperef7_field : Hints I where
  tds := fun i => (asc [(4, [[], [0], [], [0, 1, 2], [0, 1, 2, 3], [0, 1, 2, 3, 4], [], [0, 1, 2, 3, 4, 5, 6]])] i).getD []
  spl := fun i => (asc [] i).getD []
  pre := fun i => (asc [] i).getD []
  join := asc []
  loop := asc [(26, ⟨4194288, [], [], [(5, .k (.d (.int .i64)))], [((.exit 0), []), (.ret, [(4, .k (.d (.int .i64)))])], bnd tb (.len (.ld 69 (.fld 72 5 (.slot 2)))) 1⟩)]
  keep := asc []

def row_semtyperef7_field : Row I := ⟨131, [.d (.dat 72), .d (.dat 114)], [.k (.d (.int .i64))], semtyperef7_field⟩

theorem rk_semtyperef7_field  : RowOk Go.Proofs.Tryz.prog (row_semtyperef7_field) :=
  row_ok tabOk (dispE_ok (es := []) trivial 3) mixed 22 (fn := Go.Proofs.Tryz.f131) (cd := cdOf Go.Proofs.Tryz.f131) (H := H_semtyperef7_field) (rl := [.tmp 4]) Go.Proofs.Tryz.func131 (by kernel_rfl) (by kernel_rfl) (by kernel_rfl) (by kernel_rfl) (by kernel_rfl) (by kernel_rfl) (by kernel_rfl)

def H_semtyperef7_function (n : Nat) : Hints I where
  tds := fun i => (asc [(8, [[], [0], [], [], [3], [], [3, 4, 5], [0, 1, 2, 3, 4, 5, 6], [0, 1, 2, 3, 4, 5, 6, 7], [0, 1, 2, 3, 4, 5, 6, 7, 8], [0, 1, 2, 3, 4, 5, 6, 7, 8, 9], [0, 1, 2, 3, 4, 5, 6, 7, 8, 9, 10], [0, 1, 2, 3, 4, 5, 6, 7, 8, 9, 10, 11], [0, 1, 2, 3, 4, 5, 6, 7, 8, 9, 10, 11, 12], [0, 1, 2, 3, 4, 5, 6, 7, 8, 9, 10, 11], [0, 1, 2, 3, 4, 5, 6, 7, 8, 9, 10, 11], [0, 1, 2, 3, 4, 5, 6, 7, 8, 9, 10, 11, 15], [0, 1, 2, 3, 4, 5, 6, 7, 8, 9, 10, 11], [0, 1, 2, 3, 4, 5, 6, 7, 8, 9, 10, 11, 15, 16, 17], [0, 1, 2, 3, 4, 5, 6, 7, 8, 9, 10, 11, 15, 16, 17, 18], [0, 1, 2, 3, 4, 5, 6, 7, 8, 9, 10, 11, 12, 13, 14, 15, 16, 17, 18, 19], [0, 1, 2, 3, 4, 5, 6, 7, 8, 9, 10, 11, 12, 13, 14, 15, 16, 17, 18, 19, 20], [0, 1, 2, 3, 4, 5, 6, 7, 8, 9, 10, 11, 12, 13, 14, 15, 16, 17, 18, 19, 20, 21], [0, 1, 2, 3, 4, 5, 6, 7, 8, 9, 10, 11, 12, 13, 14, 15, 16, 17, 18, 19, 20, 21, 22]])] i).getD []
  spl := fun i => (asc [] i).getD []
  pre := fun i => (asc [] i).getD []
  join := asc []
  loop := asc [(122, ⟨18014398509220672, [], [], [(8, .k (.d (.int .i64)))], [((.exit 0), []), (.ret, [(6, .k (.d (.bool)))])], bnd tb (.len (.ld 25 (.fld 28 5 (.slot 3)))) 1⟩)]
  keep := asc []

def row_semtyperef7_function (n : Nat) : Row I := ⟨80, [.d (.dat 28), .d (.dat 36), .d (.dat 72)], [.k (.d (.bool))], semtyperef7_function n⟩

def H_semtyperef7_mapping (n : Nat) : Hints I where
  tds := fun i => (asc [(4, [[], [0], [], [0, 1, 2], [0, 1, 2, 3], [0, 1, 2, 3, 4], [0, 1, 2, 3, 4, 5], [0, 1, 2, 3, 4, 5, 6], [0, 1, 2, 3, 4, 5, 6, 7], [0, 1, 2, 3, 4, 5, 6, 7], [0, 1, 2, 3, 4, 5, 6, 7, 9], [0, 1, 2, 3, 4, 5, 6, 7], [0, 1, 2, 3, 4, 5, 6, 7, 9, 10, 11], [0, 1, 2, 3, 4, 5, 6, 7, 9, 10, 11, 12], [0, 1, 2, 3, 4, 5, 6, 7, 9, 10, 11, 12, 13], [0, 1, 2, 3, 4, 5, 6, 7, 8, 9, 10, 11, 12, 13, 14], [0, 1, 2, 3, 4, 5, 6, 7, 8, 9, 10, 11, 12, 13, 14, 15], [0, 1, 2, 3, 4, 5, 6, 7, 8, 9, 10, 11, 12, 13, 14, 15, 16]]), (9, [[], [], [1], [], [1, 2, 3], [1, 2, 3, 4], [0, 1, 2, 3, 4, 5], [0, 1, 2, 3, 4, 5, 6]]), (13, [[], [0], [], [0, 1, 2], [0, 1, 2, 3], [], [], [0, 1, 2, 3, 4, 5, 6], [0, 1, 2, 3, 4, 5, 6, 7]])] i).getD []
  spl := fun i => (asc [] i).getD []
  pre := fun i => (asc [] i).getD []
  join := asc [(3730, ⟨575334852396581888, [], [], [(.normal, [(10, .k (.d (.int .i64)))])]⟩),
    (14925, ⟨145268109580462720000, [], [], [(.normal, [(10, .k (.d (.int .i64)))])]⟩)]
  loop := asc [(26, ⟨68719474880, [], [], [(7, .k (.d (.int .i64)))], [((.exit 0), []), (.ret, [(6, .k (.d (.bool)))])], bnd tb (.len (.ld 69 (.fld 72 5 (.slot 5)))) 1⟩),
    (58, ⟨75557863725845603944256, [], [], [(8, .k (.d (.int .i64)))], [((.exit 2), []), (.ret, [(6, .k (.d (.bool)))])], bnd tb (.len (.ld 24 (.fld 28 4 (.slot 3)))) 1⟩)]
  keep := asc []

def row_semtyperef7_mapping (n : Nat) : Row I := ⟨79, [.d (.dat 28), .d (.dat 36), .d (.dat 72)], [.k (.d (.bool))], semtyperef7_mapping n⟩

def H_semtyperef7_member (n : Nat) : Hints I where
  tds := fun i => (asc [(35, [[], [], [], [2], [], [2, 3, 4], [2, 3, 4, 5], [0, 1, 2, 3, 4, 5, 6]]), (42, [[], [], [], [2], [], [2, 3, 4], [2, 3, 4, 5], [0, 1, 2, 3, 4, 5, 6], [0, 1, 2, 3, 4, 5, 6, 7]]), (46, [[], [], [], [2], [2, 3], [2, 3, 4], [0, 1, 2, 3, 4, 5], [0, 1, 2, 3, 4, 5, 6], [0, 1, 2, 3, 4, 5, 6, 7]]), (51, [[], [0], [], [0, 1, 2], [0, 1, 2, 3], [], [5], [0, 1, 2, 3, 4, 5, 6]])] i).getD []
  spl := fun i => (asc [] i).getD []
  pre := fun i => (asc [] i).getD []
  join := asc []
  loop := asc [(506806140914, ⟨365364258960126464239350440319934430733230145856, [], [], [(8, .k (.d (.int .i64)))], [((.exit 1), []), (.ret, [(6, .k (.d (.bool)))])], bnd tb (.len (.ld 22 (.fld 72 4 (.slot 7)))) 1⟩),
    (2027224563698, ⟨95779509802480722744478485512061607693151539203932736, [], [], [(9, .k (.d (.int .i64)))], [((.exit 3), []), (.ret, [(6, .k (.d (.bool)))])], bnd tb (.len (.ld 22 (.fld 72 4 (.slot 7)))) 1⟩),
    (16217796509690, ⟨12855112035213460536787957001890350341026617553047063680255040, [], [], [(10, .k (.d (.int .i64)))], [((.exit 5), []), (.ret, [(6, .k (.d (.bool)))])], bnd tb (.len (.ld 26 (.fld 28 6 (.slot 3)))) 1⟩)]
  keep := asc []

def row_semtyperef7_member (n : Nat) : Row I := ⟨51, [.d (.dat 28), .d (.dat 36), .d (.int .i64)], [.k (.d (.bool))], semtyperef7_member n⟩

def H_semtyperef7_members (n : Nat) : Hints I where
  tds := fun i => (asc [(6, [[], [], [0, 1], [0, 1, 2], [], [], [], [5, 6], [5, 6, 7], [0, 1, 2, 3, 4, 5, 6, 7, 8], [0, 1, 2, 3, 4, 5, 6, 7, 8, 9]])] i).getD []
  spl := fun i => (asc [] i).getD []
  pre := fun i => (asc [] i).getD []
  join := asc []
  loop := asc [(58, ⟨1073733824, [], [], [(7, .k (.d (.int .i64)))], [((.exit 0), []), (.ret, [(6, .k (.d (.bool)))])], bnd tb (.len (.slot 0)) 1⟩)]
  keep := asc []

def row_semtyperef7_members (n : Nat) : Row I := ⟨69, [.d (.sl 28), .d (.dat 36), .d (.sl 3)], [.k (.d (.bool))], semtyperef7_members n⟩

theorem rkB_semtyperef7_function (n : Nat) (h_semtyperef7_function : RowOk Go.Proofs.Tryz.prog (row_semtyperef7_function n)) (h_semtyperef7_mapping : RowOk Go.Proofs.Tryz.prog (row_semtyperef7_mapping n)) (h_semtyperef7_member : RowOk Go.Proofs.Tryz.prog (row_semtyperef7_member n)) (h_semtyperef7_members : RowOk Go.Proofs.Tryz.prog (row_semtyperef7_members n)) : RowOk Go.Proofs.Tryz.prog (row_semtyperef7_function (n + 1)) :=
  row_ok tabOk (dispE_ok (es := [rowE tb (row_semtyperef7_members n), rowE tb (row_semtyperef7_member n)]) ⟨rowE_ok tabOk h_semtyperef7_members, ⟨rowE_ok tabOk h_semtyperef7_member, trivial⟩⟩ 3) mixed 54 (fn := Go.Proofs.Tryz.f80) (cd := cdOf Go.Proofs.Tryz.f80) (H := (H_semtyperef7_function n)) (rl := [.tmp 6]) Go.Proofs.Tryz.func80 (by kernel_rfl) (by kernel_rfl) (by kernel_rfl) (by kernel_rfl) (by kernel_rfl) (by kernel_rfl) (by kernel_rfl)

theorem rkB_semtyperef7_mapping (n : Nat) (h_semtyperef7_function : RowOk Go.Proofs.Tryz.prog (row_semtyperef7_function n)) (h_semtyperef7_mapping : RowOk Go.Proofs.Tryz.prog (row_semtyperef7_mapping n)) (h_semtyperef7_member : RowOk Go.Proofs.Tryz.prog (row_semtyperef7_member n)) (h_semtyperef7_members : RowOk Go.Proofs.Tryz.prog (row_semtyperef7_members n)) : RowOk Go.Proofs.Tryz.prog (row_semtyperef7_mapping (n + 1)) :=
  row_ok tabOk (dispE_ok (es := [rowE tb (row_semtyperef7_key), rowE tb (row_semtyperef7_field), rowE tb (row_semtyperef7_member n)]) ⟨rowE_ok tabOk rk_semtyperef7_key, ⟨rowE_ok tabOk rk_semtyperef7_field, ⟨rowE_ok tabOk h_semtyperef7_member, trivial⟩⟩⟩ 3) mixed 76 (fn := Go.Proofs.Tryz.f79) (cd := cdOf Go.Proofs.Tryz.f79) (H := (H_semtyperef7_mapping n)) (rl := [.tmp 6]) Go.Proofs.Tryz.func79 (by kernel_rfl) (by kernel_rfl) (by kernel_rfl) (by kernel_rfl) (by kernel_rfl) (by kernel_rfl) (by kernel_rfl)

theorem rkB_semtyperef7_member (n : Nat) (h_semtyperef7_function : RowOk Go.Proofs.Tryz.prog (row_semtyperef7_function n)) (h_semtyperef7_mapping : RowOk Go.Proofs.Tryz.prog (row_semtyperef7_mapping n)) (h_semtyperef7_member : RowOk Go.Proofs.Tryz.prog (row_semtyperef7_member n)) (h_semtyperef7_members : RowOk Go.Proofs.Tryz.prog (row_semtyperef7_members n)) : RowOk Go.Proofs.Tryz.prog (row_semtyperef7_member (n + 1)) :=
  row_ok tabOk (dispE_ok (es := [rowE tb (row_semtyperef7_members n), rowE tb (row_semtyperef7_mapping n), rowE tb (row_semtyperef7_function n), rowE tb (row_semtyperef7_member n)]) ⟨rowE_ok tabOk h_semtyperef7_members, ⟨rowE_ok tabOk h_semtyperef7_mapping, ⟨rowE_ok tabOk h_semtyperef7_function, ⟨rowE_ok tabOk h_semtyperef7_member, trivial⟩⟩⟩⟩ 3) mixed 203 (fn := Go.Proofs.Tryz.f51) (cd := cdOf Go.Proofs.Tryz.f51) (H := (H_semtyperef7_member n)) (rl := [.tmp 6]) Go.Proofs.Tryz.func51 (by kernel_rfl) (by kernel_rfl) (by kernel_rfl) (by kernel_rfl) (by kernel_rfl) (by kernel_rfl) (by kernel_rfl)

theorem rkB_semtyperef7_members (n : Nat) (h_semtyperef7_function : RowOk Go.Proofs.Tryz.prog (row_semtyperef7_function n)) (h_semtyperef7_mapping : RowOk Go.Proofs.Tryz.prog (row_semtyperef7_mapping n)) (h_semtyperef7_member : RowOk Go.Proofs.Tryz.prog (row_semtyperef7_member n)) (h_semtyperef7_members : RowOk Go.Proofs.Tryz.prog (row_semtyperef7_members n)) : RowOk Go.Proofs.Tryz.prog (row_semtyperef7_members (n + 1)) :=
  row_ok tabOk (dispE_ok (es := [rowE tb (row_semtyperef7_member n)]) ⟨rowE_ok tabOk h_semtyperef7_member, trivial⟩ 3) mixed 30 (fn := Go.Proofs.Tryz.f69) (cd := cdOf Go.Proofs.Tryz.f69) (H := (H_semtyperef7_members n)) (rl := [.tmp 6]) Go.Proofs.Tryz.func69 (by kernel_rfl) (by kernel_rfl) (by kernel_rfl) (by kernel_rfl) (by kernel_rfl) (by kernel_rfl) (by kernel_rfl)

theorem rk_scc_semtyperef7_function : ∀ n : Nat, RowOk Go.Proofs.Tryz.prog (row_semtyperef7_function n) ∧ RowOk Go.Proofs.Tryz.prog (row_semtyperef7_mapping n) ∧ RowOk Go.Proofs.Tryz.prog (row_semtyperef7_member n) ∧ RowOk Go.Proofs.Tryz.prog (row_semtyperef7_members n)
  | 0 => ⟨rowOk_none (by kernel_rfl), rowOk_none (by kernel_rfl), rowOk_none (by kernel_rfl), rowOk_none (by kernel_rfl)⟩
  | n + 1 => by
    obtain ⟨h0, h1, h2, h3⟩ := rk_scc_semtyperef7_function n
    exact ⟨rkB_semtyperef7_function n h0 h1 h2 h3, rkB_semtyperef7_mapping n h0 h1 h2 h3, rkB_semtyperef7_member n h0 h1 h2 h3, rkB_semtyperef7_members n h0 h1 h2 h3⟩

theorem rk_semtyperef7_member (n : Nat) : RowOk Go.Proofs.Tryz.prog (row_semtyperef7_member n) := (rk_scc_semtyperef7_function n).2.2.1

def H_semtyperef7_MemberOf (n : Nat) : Hints I where
  tds := fun i => (asc [] i).getD []
  spl := fun i => (asc [] i).getD []
  pre := fun i => (asc [] i).getD []
  join := asc []
  loop := asc []
  keep := asc []

def row_semtyperef7_MemberOf (n : Nat) : Row I := ⟨25, [.d (.dat 28), .d (.dat 36), .d (.int .i64)], [.k (.d (.bool))], semtyperef7_MemberOf n⟩

theorem rk_semtyperef7_MemberOf (n : Nat)  : RowOk Go.Proofs.Tryz.prog (row_semtyperef7_MemberOf n) :=
  row_ok tabOk (dispE_ok (es := [rowE tb (row_semtyperef1_Valid n), rowE tb (row_semtyperef7_WellFormed n), rowE tb (row_semtyperef7_index), rowE tb (row_semtyperef7_member n)]) ⟨rowE_ok tabOk (rk_semtyperef1_Valid n), ⟨rowE_ok tabOk (rk_semtyperef7_WellFormed n), ⟨rowE_ok tabOk rk_semtyperef7_index, ⟨rowE_ok tabOk (rk_semtyperef7_member n), trivial⟩⟩⟩⟩ 3) mixed 25 (fn := Go.Proofs.Tryz.f25) (cd := cdOf Go.Proofs.Tryz.f25) (H := (H_semtyperef7_MemberOf n)) (rl := [.tmp 6]) Go.Proofs.Tryz.func25 (by kernel_rfl) (by kernel_rfl) (by kernel_rfl) (by kernel_rfl) (by kernel_rfl) (by kernel_rfl) (by kernel_rfl)

def H_semtypelaw12_ArrowMerge (n : Nat) : Hints I where
  tds := fun i => (asc [(9, [[], [], [0, 1], [], [0, 1, 2, 3], [0, 1, 2, 3, 4], [0, 1, 2, 3, 4, 5], [0, 1, 2, 3, 4, 5, 6], [0, 1, 2, 3, 4, 5, 6], [], [0, 1, 2, 3, 4, 5, 6, 7, 9], [0, 1, 2, 3, 4, 5, 6, 7, 8, 9, 10]])] i).getD []
  spl := fun i => (asc [] i).getD []
  pre := fun i => (asc [] i).getD []
  join := asc []
  loop := asc []
  keep := asc []

noncomputable def row_semtypelaw12_ArrowMerge (n : Nat) : Row I := ⟨7, [.d (.sl 3), .d (.sl 3), .d (.sl 3), .d (.dat 28)], [.k (.d (.bool))], semtypelaw12_ArrowMerge n⟩

theorem rk_semtypelaw12_ArrowMerge (n : Nat)  : RowOk Go.Proofs.Tryz.prog (row_semtypelaw12_ArrowMerge n) :=
  row_ok tabOk (dispE_ok (es := [rowE tb (row_semtypelaw12_short), rowE tb (row_semtyperef1_Nodes n), rowE tb (row_semtypelaw12_awake n), rowE tb (row_semtypelaw12_made n), rowE tb (row_semtyperef1_Function n), rowE tb (row_semtyperef1_WithLabels), rowE tb (row_arrow_Merge n), rowE tb (row_semtyperef7_MemberOf n), rowE tb (row_semtyperef1_Valid n), rowE tb (row_semtyperef1_Equal n)]) ⟨rowE_ok tabOk rk_semtypelaw12_short, ⟨rowE_ok tabOk (rk_semtyperef1_Nodes n), ⟨rowE_ok tabOk (rk_semtypelaw12_awake n), ⟨rowE_ok tabOk (rk_semtypelaw12_made n), ⟨rowE_ok tabOk (rk_semtyperef1_Function n), ⟨rowE_ok tabOk rk_semtyperef1_WithLabels, ⟨rowE_ok tabOk (rk_arrow_Merge n), ⟨rowE_ok tabOk (rk_semtyperef7_MemberOf n), ⟨rowE_ok tabOk (rk_semtyperef1_Valid n), ⟨rowE_ok tabOk (rk_semtyperef1_Equal n), trivial⟩⟩⟩⟩⟩⟩⟩⟩⟩⟩ 3) mixed 172 (fn := Go.Proofs.Tryz.f7) (cd := cdOf Go.Proofs.Tryz.f7) (H := (H_semtypelaw12_ArrowMerge n)) (rl := [.tmp 8]) Go.Proofs.Tryz.func7 (by kernel_rfl) (by kernel_rfl) (by kernel_rfl) (by kernel_rfl) (by kernel_rfl) (by kernel_rfl) (by kernel_rfl)

end Go.Qx
