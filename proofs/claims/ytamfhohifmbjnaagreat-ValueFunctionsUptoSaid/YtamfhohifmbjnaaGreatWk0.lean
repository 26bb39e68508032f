/- Printed by ex.py. The executor shows it. -/
import Derived.Test.YtamfhohifmbjnaaGreatTy
namespace Go.Qx
open Go Go.RowKit Go.Sx
set_option maxHeartbeats 1600000
set_option maxRecDepth 100000

def row_49 : Row I := ⟨49, [.d (.sl 58)], [.k (.row 58 false)], cloneF 24⟩

theorem rk_49 : RowOk Go.Proofs.Tryz.prog row_49 := clone_ok tabOk mixed Go.Proofs.Tryz.func49 (by kernel_rfl) (by kernel_rfl) (by kernel_rfl) Go.Proofs.Tryz.underlying22 rfl (by kernel_rfl) (fun _ => by kernel_rfl)

def row_42 : Row I := ⟨42, [.d (.sl 9)], [.k (.row 9 false)], cloneF 16⟩

theorem rk_42 : RowOk Go.Proofs.Tryz.prog row_42 := clone_ok tabOk mixed Go.Proofs.Tryz.func42 (by kernel_rfl) (by kernel_rfl) (by kernel_rfl) Go.Proofs.Tryz.underlying28 rfl (by kernel_rfl) (fun _ => by kernel_rfl)

def row_82 : Row I := ⟨82, [.d (.sl 30)], [.k (.row 30 false)], cloneF 128⟩

theorem rk_82 : RowOk Go.Proofs.Tryz.prog row_82 := clone_ok tabOk mixed Go.Proofs.Tryz.func82 (by kernel_rfl) (by kernel_rfl) (by kernel_rfl) Go.Proofs.Tryz.underlying25 rfl (by kernel_rfl) (fun _ => by kernel_rfl)

def row_132 : Row I := ⟨132, [.d (.str), .d (.str)], [.k (.d (.int .i64))], cmpF⟩

theorem rk_132 : RowOk Go.Proofs.Tryz.prog row_132 := cmp_ok Go.Proofs.Tryz.func132 (by kernel_rfl) rfl (by kernel_rfl) (by kernel_rfl)

noncomputable def row_28 : Rio I := ⟨28, 3, [.fn [.int .i64, .int .i64] [.k (.d (.int .i64))]], [], (sortR (α := Int))⟩

theorem rk_28 : RioOk Go.Proofs.Tryz.prog row_28 := sort1_row (I := I) (E := 3) Go.Proofs.Tryz.lay28 28 (by kernel_rfl) (fun x => x) Iff.rfl

noncomputable def row_76 : Rio I := ⟨76, 43, [.fn [.dat 43, .dat 43] [.k (.d (.int .i64))]], [], sortR⟩

theorem rk_76 : RioOk Go.Proofs.Tryz.prog row_76 := sortK_row Go.Proofs.Tryz.lay76 76 (by kernel_rfl) (by kernel_rfl) Go.Proofs.Tryz.underlying43 (by kernel_rfl)

def row_43 : Rio I := ⟨43, 9, [], [], sortStr⟩

theorem rk_43 : RioOk Go.Proofs.Tryz.prog row_43 := sortS_row (I := I) (E := 9) Go.Proofs.Tryz.lay43 43 (by kernel_rfl) (fun x => x) Iff.rfl ⟨_, _, Go.Proofs.Tryz.func43, rfl, by kernel_rfl⟩

def H_value_Int : Hints I where
  tds := fun i => (asc [] i).getD []
  spl := fun i => (asc [] i).getD []
  pre := fun i => (asc [] i).getD []
  join := asc []
  loop := asc []
  keep := asc []

def row_value_Int : Row I := ⟨21, [.d (.int .i64)], [.k (.d (.dat 30))], value_Int⟩

theorem rk_value_Int  : RowOk Go.Proofs.Tryz.prog (row_value_Int) :=
  row_ok tabOk (dispE_ok (es := []) trivial 3) mixed 5 (fn := Go.Proofs.Tryz.f21) (cd := cdOf Go.Proofs.Tryz.f21) (H := H_value_Int) (rl := [.cell 2 30]) Go.Proofs.Tryz.func21 (by kernel_rfl) (by kernel_rfl) (by kernel_rfl) (by kernel_rfl) (by kernel_rfl) (by kernel_rfl) (by kernel_rfl)

def H_value_Nil : Hints I where
  tds := fun i => (asc [] i).getD []
  spl := fun i => (asc [] i).getD []
  pre := fun i => (asc [] i).getD []
  join := asc []
  loop := asc []
  keep := asc []

def row_value_Nil : Row I := ⟨26, [], [.k (.d (.dat 30))], value_Nil⟩

theorem rk_value_Nil  : RowOk Go.Proofs.Tryz.prog (row_value_Nil) :=
  row_ok tabOk (dispE_ok (es := []) trivial 3) mixed 2 (fn := Go.Proofs.Tryz.f26) (cd := cdOf Go.Proofs.Tryz.f26) (H := H_value_Nil) (rl := [.cell 0 30]) Go.Proofs.Tryz.func26 (by kernel_rfl) (by kernel_rfl) (by kernel_rfl) (by kernel_rfl) (by kernel_rfl) (by kernel_rfl) (by kernel_rfl)

def H_value_clone (n : Nat) : Hints I where
  tds := fun i => (asc [] i).getD []
  spl := fun i => (asc [] i).getD []
  pre := fun i => (asc [] i).getD []
  join := asc []
  loop := asc []
  keep := asc []

def row_value_clone (n : Nat) : Row I := ⟨31, [.d (.dat 30)], [.k (.d (.dat 30))], value_clone n⟩

def H_value_cloneAll (n : Nat) : Hints I where
  tds := fun i => (asc [] i).getD []
  spl := fun i => (asc [] i).getD []
  pre := fun i => (asc [] i).getD []
  join := asc []
  loop := asc [(58, ⟨261928, [], [], [(3, .k (.row 30 false)), (8, .k (.d (.int .i64)))], [((.exit 0), [(3, .k (.row 30 false))])], bnd tb (.slot 7) 1⟩)]
  keep := asc []

def row_value_cloneAll (n : Nat) : Row I := ⟨58, [.d (.sl 30)], [.k (.row 30 false)], value_cloneAll n⟩

def H_value_cloneEntries (n : Nat) : Hints I where
  tds := fun i => (asc [(5, [[], [], [1], [1, 2], [], [4], [], [6], [1, 2, 3, 6, 7], [1, 2, 3, 4, 5, 6, 7, 8], [1, 2, 3, 4, 5, 6, 7, 8, 9], [0, 1, 2, 3, 4, 5, 6, 7, 8, 9, 10], [0, 1, 2, 3, 4, 5, 6, 7, 8, 9, 10, 11]])] i).getD []
  spl := fun i => (asc [] i).getD []
  pre := fun i => (asc [] i).getD []
  join := asc []
  loop := asc [(58, ⟨33554216, [], [], [(3, .k (.row 43 false)), (8, .k (.d (.int .i64)))], [((.exit 0), [(3, .k (.row 43 false))])], bnd tb (.slot 7) 1⟩)]
  keep := asc []

def row_value_cloneEntries (n : Nat) : Row I := ⟨59, [.bor 43], [.k (.row 43 false)], value_cloneEntries n⟩

theorem rkB_value_clone (n : Nat) (h_value_clone : RowOk Go.Proofs.Tryz.prog (row_value_clone n)) (h_value_cloneAll : RowOk Go.Proofs.Tryz.prog (row_value_cloneAll n)) (h_value_cloneEntries : RowOk Go.Proofs.Tryz.prog (row_value_cloneEntries n)) : RowOk Go.Proofs.Tryz.prog (row_value_clone (n + 1)) :=
  row_ok tabOk (dispE_ok (es := [rowE tb (row_value_cloneAll n), rowE tb row_49, rowE tb row_42, rowE tb (row_value_cloneEntries n)]) ⟨rowE_ok tabOk h_value_cloneAll, ⟨rowE_ok tabOk rk_49, ⟨rowE_ok tabOk rk_42, ⟨rowE_ok tabOk h_value_cloneEntries, trivial⟩⟩⟩⟩ 3) mixed 20 (fn := Go.Proofs.Tryz.f31) (cd := cdOf Go.Proofs.Tryz.f31) (H := (H_value_clone n)) (rl := [.cell 2 30]) Go.Proofs.Tryz.func31 (by kernel_rfl) (by kernel_rfl) (by kernel_rfl) (by kernel_rfl) (by kernel_rfl) (by kernel_rfl) (by kernel_rfl)

theorem rkB_value_cloneAll (n : Nat) (h_value_clone : RowOk Go.Proofs.Tryz.prog (row_value_clone n)) (h_value_cloneAll : RowOk Go.Proofs.Tryz.prog (row_value_cloneAll n)) (h_value_cloneEntries : RowOk Go.Proofs.Tryz.prog (row_value_cloneEntries n)) : RowOk Go.Proofs.Tryz.prog (row_value_cloneAll (n + 1)) :=
  row_ok tabOk (dispE_ok (es := [rowE tb (row_value_clone n)]) ⟨rowE_ok tabOk h_value_clone, trivial⟩ 3) mixed 19 (fn := Go.Proofs.Tryz.f58) (cd := cdOf Go.Proofs.Tryz.f58) (H := (H_value_cloneAll n)) (rl := [.tmp 2]) Go.Proofs.Tryz.func58 (by kernel_rfl) (by kernel_rfl) (by kernel_rfl) (by kernel_rfl) (by kernel_rfl) (by kernel_rfl) (by kernel_rfl)

theorem rkB_value_cloneEntries (n : Nat) (h_value_clone : RowOk Go.Proofs.Tryz.prog (row_value_clone n)) (h_value_cloneAll : RowOk Go.Proofs.Tryz.prog (row_value_cloneAll n)) (h_value_cloneEntries : RowOk Go.Proofs.Tryz.prog (row_value_cloneEntries n)) : RowOk Go.Proofs.Tryz.prog (row_value_cloneEntries (n + 1)) :=
  row_ok tabOk (dispE_ok (es := [rowE tb (row_value_cloneAll n), rowE tb (row_value_clone n)]) ⟨rowE_ok tabOk h_value_cloneAll, ⟨rowE_ok tabOk h_value_clone, trivial⟩⟩ 3) mixed 26 (fn := Go.Proofs.Tryz.f59) (cd := cdOf Go.Proofs.Tryz.f59) (H := (H_value_cloneEntries n)) (rl := [.tmp 2]) Go.Proofs.Tryz.func59 (by kernel_rfl) (by kernel_rfl) (by kernel_rfl) (by kernel_rfl) (by kernel_rfl) (by kernel_rfl) (by kernel_rfl)

theorem rk_scc_value_clone : ∀ n : Nat, RowOk Go.Proofs.Tryz.prog (row_value_clone n) ∧ RowOk Go.Proofs.Tryz.prog (row_value_cloneAll n) ∧ RowOk Go.Proofs.Tryz.prog (row_value_cloneEntries n)
  | 0 => ⟨rowOk_none (by kernel_rfl), rowOk_none (by kernel_rfl), rowOk_none (by kernel_rfl)⟩
  | n + 1 => by
    obtain ⟨h0, h1, h2⟩ := rk_scc_value_clone n
    exact ⟨rkB_value_clone n h0 h1 h2, rkB_value_cloneAll n h0 h1 h2, rkB_value_cloneEntries n h0 h1 h2⟩

theorem rk_value_clone (n : Nat) : RowOk Go.Proofs.Tryz.prog (row_value_clone n) := (rk_scc_value_clone n).1

theorem rk_value_cloneAll (n : Nat) : RowOk Go.Proofs.Tryz.prog (row_value_cloneAll n) := (rk_scc_value_clone n).2.1

theorem rk_value_cloneEntries (n : Nat) : RowOk Go.Proofs.Tryz.prog (row_value_cloneEntries n) := (rk_scc_value_clone n).2.2

def H_value_List (n : Nat) : Hints I where
  tds := fun i => (asc [(5, [[], [], [0, 1], [0, 1, 2], [0, 1, 2, 3], [], [0, 1, 2, 3, 4, 5], [0, 1, 2, 3, 4, 5, 6], [0, 1, 2, 3, 4, 5, 6, 7]])] i).getD []
  spl := fun i => (asc [] i).getD []
  pre := fun i => (asc [] i).getD []
  join := asc []
  loop := asc [(58, ⟨2096656, [], [(3, .k (.d (.dat 30)))], [(4, .k (.d (.int .i64)))], [((.exit 0), [])], bnd tb (.slot 4) 2⟩)]
  keep := asc []

def row_value_List (n : Nat) : Row I := ⟨20, [.d (.sl 30)], [.k (.d (.dat 30))], value_List n⟩

theorem rk_value_List (n : Nat)  : RowOk Go.Proofs.Tryz.prog (row_value_List n) :=
  row_ok tabOk (dispE_ok (es := [rowE tb (row_value_Nil), rowE tb (row_value_clone n)]) ⟨rowE_ok tabOk rk_value_Nil, ⟨rowE_ok tabOk (rk_value_clone n), trivial⟩⟩ 3) mixed 22 (fn := Go.Proofs.Tryz.f20) (cd := cdOf Go.Proofs.Tryz.f20) (H := (H_value_List n)) (rl := [.cell 2 30]) Go.Proofs.Tryz.func20 (by kernel_rfl) (by kernel_rfl) (by kernel_rfl) (by kernel_rfl) (by kernel_rfl) (by kernel_rfl) (by kernel_rfl)

def H_value_parts : Hints I where
  tds := fun i => (asc [] i).getD []
  spl := fun i => (asc [] i).getD []
  pre := fun i => (asc [] i).getD []
  join := asc []
  loop := asc [(58, ⟨536866856, [], [], [(3, .k (.row 30 false)), (12, .k (.d (.int .i64)))], [((.exit 0), [(3, .k (.row 30 false))])], bnd tb (.slot 11) 1⟩)]
  keep := asc []

def row_value_parts : Row I := ⟨51, [.d (.dat 30)], [.k (.row 30 false)], value_parts⟩

theorem rk_value_parts  : RowOk Go.Proofs.Tryz.prog (row_value_parts) :=
  row_ok tabOk (dispE_ok (es := [rowE tb row_82]) ⟨rowE_ok tabOk rk_82, trivial⟩ 3) mixed 30 (fn := Go.Proofs.Tryz.f51) (cd := cdOf Go.Proofs.Tryz.f51) (H := H_value_parts) (rl := [.tmp 2]) Go.Proofs.Tryz.func51 (by kernel_rfl) (by kernel_rfl) (by kernel_rfl) (by kernel_rfl) (by kernel_rfl) (by kernel_rfl) (by kernel_rfl)

def H_value_Nodes (n : Nat) : Hints I where
  tds := fun i => (asc [] i).getD []
  spl := fun i => (asc [] i).getD []
  pre := fun i => (asc [] i).getD []
  join := asc []
  loop := asc [(58, ⟨261672, [7], [], [(3, .k (.d (.int .i64))), (9, .k (.d (.int .i64)))], [((.exit 0), [(3, .k (.d (.int .i64)))])], bnd tb (.slot 8) 1⟩)]
  keep := asc []

def row_value_Nodes (n : Nat) : Row I := ⟨22, [.d (.dat 30)], [.k (.d (.int .i64))], value_Nodes n⟩

theorem rkB_value_Nodes (n : Nat) (h_value_Nodes : RowOk Go.Proofs.Tryz.prog (row_value_Nodes n)) : RowOk Go.Proofs.Tryz.prog (row_value_Nodes (n + 1)) :=
  row_ok tabOk (dispE_ok (es := [rowE tb (row_value_parts), rowE tb (row_value_Nodes n)]) ⟨rowE_ok tabOk rk_value_parts, ⟨rowE_ok tabOk h_value_Nodes, trivial⟩⟩ 3) mixed 19 (fn := Go.Proofs.Tryz.f22) (cd := cdOf Go.Proofs.Tryz.f22) (H := (H_value_Nodes n)) (rl := [.tmp 2]) Go.Proofs.Tryz.func22 (by kernel_rfl) (by kernel_rfl) (by kernel_rfl) (by kernel_rfl) (by kernel_rfl) (by kernel_rfl) (by kernel_rfl)

theorem rk_value_Nodes : ∀ n : Nat, RowOk Go.Proofs.Tryz.prog (row_value_Nodes n)
  | 0 => rowOk_none (by kernel_rfl)
  | n + 1 => rkB_value_Nodes n (rk_value_Nodes n)

def H_value_Height (n : Nat) : Hints I where
  tds := fun i => (asc [] i).getD []
  spl := fun i => (asc [] i).getD []
  pre := fun i => (asc [] i).getD []
  join := asc []
  loop := asc [(58, ⟨261672, [7], [], [(3, .k (.d (.int .i64))), (9, .k (.d (.int .i64)))], [((.exit 0), [(3, .k (.d (.int .i64)))])], bnd tb (.slot 8) 1⟩)]
  keep := asc []

def row_value_Height (n : Nat) : Row I := ⟨23, [.d (.dat 30)], [.k (.d (.int .i64))], value_Height n⟩

theorem rkB_value_Height (n : Nat) (h_value_Height : RowOk Go.Proofs.Tryz.prog (row_value_Height n)) : RowOk Go.Proofs.Tryz.prog (row_value_Height (n + 1)) :=
  row_ok tabOk (dispE_ok (es := [rowE tb (row_value_parts), rowE tb (row_value_Height n)]) ⟨rowE_ok tabOk rk_value_parts, ⟨rowE_ok tabOk h_value_Height, trivial⟩⟩ 3) mixed 20 (fn := Go.Proofs.Tryz.f23) (cd := cdOf Go.Proofs.Tryz.f23) (H := (H_value_Height n)) (rl := [.tmp 2]) Go.Proofs.Tryz.func23 (by kernel_rfl) (by kernel_rfl) (by kernel_rfl) (by kernel_rfl) (by kernel_rfl) (by kernel_rfl) (by kernel_rfl)

theorem rk_value_Height : ∀ n : Nat, RowOk Go.Proofs.Tryz.prog (row_value_Height n)
  | 0 => rowOk_none (by kernel_rfl)
  | n + 1 => rkB_value_Height n (rk_value_Height n)

def H_value_uses : Hints I where
  tds := fun i => (asc [] i).getD []
  spl := fun i => (asc [] i).getD []
  pre := fun i => (asc [] i).getD []
  join := asc [(105, ⟨160, [], [], [(.normal, [(5, .k (.d (.bool)))])]⟩),
    (429, ⟨2560, [], [], [(.normal, [(9, .k (.d (.bool)))])]⟩),
    (6909, ⟨327680, [], [], [(.normal, [(16, .k (.d (.bool)))])]⟩)]
  loop := asc []
  keep := asc []

def row_value_uses : Row I := ⟨104, [.d (.int .i64)], [.k (.d (.dat 108)), .k (.d (.bool))], value_uses⟩

theorem rk_value_uses  : RowOk Go.Proofs.Tryz.prog (row_value_uses) :=
  row_ok tabOk (dispE_ok (es := []) trivial 3) mixed 27 (fn := Go.Proofs.Tryz.f104) (cd := cdOf Go.Proofs.Tryz.f104) (H := H_value_uses) (rl := [.cell 2 108, .tmp 3]) Go.Proofs.Tryz.func104 (by kernel_rfl) (by kernel_rfl) (by kernel_rfl) (by kernel_rfl) (by kernel_rfl) (by kernel_rfl) (by kernel_rfl)

def H_value_ascending_string : Hints I where
  tds := fun i => (asc [(4, [[], [], [], [2], [1, 2, 3], [1, 2, 3, 4], [], [], [6, 7], [6, 7, 8], [0, 1, 2, 3, 4, 5, 6, 7, 8, 9], [0, 1, 2, 3, 4, 5, 6, 7, 8, 9, 10]])] i).getD []
  spl := fun i => (asc [] i).getD []
  pre := fun i => (asc [] i).getD []
  join := asc []
  loop := asc [(26, ⟨16777200, [], [], [(5, .k (.d (.int .i64)))], [((.exit 0), []), (.ret, [(4, .k (.d (.bool)))])], bnd tb (.len (.slot 0)) 1⟩)]
  keep := asc []

def row_value_ascending_string : Row I := ⟨133, [.d (.sl 9), .fn [.str, .str] [.k (.d (.int .i64))]], [.k (.d (.bool))], value_ascending_string⟩

theorem rk_value_ascending_string  : RowOk Go.Proofs.Tryz.prog (row_value_ascending_string) :=
  row_ok tabOk (dispE_ok (es := []) trivial 3) mixed 24 (fn := Go.Proofs.Tryz.f133) (cd := cdOf Go.Proofs.Tryz.f133) (H := H_value_ascending_string) (rl := [.tmp 4]) Go.Proofs.Tryz.func133 (by kernel_rfl) (by kernel_rfl) (by kernel_rfl) (by kernel_rfl) (by kernel_rfl) (by kernel_rfl) (by kernel_rfl)

def H_internal_bytealg_CompareString : Hints I where
  tds := fun i => (asc [] i).getD []
  spl := fun i => (asc [] i).getD []
  pre := fun i => (asc [] i).getD []
  join := asc []
  loop := asc []
  keep := asc []

def row_internal_bytealg_CompareString : Row I := ⟨103, [.d (.str), .d (.str)], [.k (.d (.int .i64))], internal_bytealg_CompareString⟩

theorem rk_internal_bytealg_CompareString  : RowOk Go.Proofs.Tryz.prog (row_internal_bytealg_CompareString) :=
  row_ok tabOk (dispE_ok (es := [rowE tb row_132]) ⟨rowE_ok tabOk rk_132, trivial⟩ 3) mixed 8 (fn := Go.Proofs.Tryz.f103) (cd := cdOf Go.Proofs.Tryz.f103) (H := H_internal_bytealg_CompareString) (rl := [.tmp 4]) Go.Proofs.Tryz.func103 (by kernel_rfl) (by kernel_rfl) (by kernel_rfl) (by kernel_rfl) (by kernel_rfl) (by kernel_rfl) (by kernel_rfl)

def H_strings_Compare : Hints I where
  tds := fun i => (asc [] i).getD []
  spl := fun i => (asc [] i).getD []
  pre := fun i => (asc [] i).getD []
  join := asc []
  loop := asc []
  keep := asc []

def row_strings_Compare : Row I := ⟨57, [.d (.str), .d (.str)], [.k (.d (.int .i64))], strings_Compare⟩

theorem rk_strings_Compare  : RowOk Go.Proofs.Tryz.prog (row_strings_Compare) :=
  row_ok tabOk (dispE_ok (es := [rowE tb (row_internal_bytealg_CompareString)]) ⟨rowE_ok tabOk rk_internal_bytealg_CompareString, trivial⟩ 3) mixed 8 (fn := Go.Proofs.Tryz.f57) (cd := cdOf Go.Proofs.Tryz.f57) (H := H_strings_Compare) (rl := [.tmp 4]) Go.Proofs.Tryz.func57 (by kernel_rfl) (by kernel_rfl) (by kernel_rfl) (by kernel_rfl) (by kernel_rfl) (by kernel_rfl) (by kernel_rfl)

def H_ident_isName : Hints I where
  tds := fun i => (asc [] i).getD []
  spl := fun i => (asc [] i).getD []
  pre := fun i => (asc [] i).getD []
  join := asc []
  loop := asc [(58, ⟨34351349952, [], [], [(7, .k (.d (.int .i64)))], [((.exit 0), []), (.ret, [(6, .k (.d (.bool)))])], bnd tb (.len (.slot 0)) 1⟩)]
  keep := asc []

def row_ident_isName : Row I := ⟨88, [.d (.str), .fn [.int .u8] [.k (.d (.bool))], .fn [.int .u8] [.k (.d (.bool))]], [.k (.d (.bool))], ident_isName⟩

theorem rk_ident_isName  : RowOk Go.Proofs.Tryz.prog (row_ident_isName) :=
  row_ok tabOk (dispE_ok (es := []) trivial 3) mixed 35 (fn := Go.Proofs.Tryz.f88) (cd := cdOf Go.Proofs.Tryz.f88) (H := H_ident_isName) (rl := [.tmp 6]) Go.Proofs.Tryz.func88 (by kernel_rfl) (by kernel_rfl) (by kernel_rfl) (by kernel_rfl) (by kernel_rfl) (by kernel_rfl) (by kernel_rfl)

def H_ident_isUpper : Hints I where
  tds := fun i => (asc [] i).getD []
  spl := fun i => (asc [] i).getD []
  pre := fun i => (asc [] i).getD []
  join := asc []
  loop := asc []
  keep := asc []

def row_ident_isUpper : Row I := ⟨150, [.d (.int .u8)], [.k (.d (.bool))], ident_isUpper⟩

theorem rk_ident_isUpper  : RowOk Go.Proofs.Tryz.prog (row_ident_isUpper) :=
  row_ok tabOk (dispE_ok (es := []) trivial 3) mixed 9 (fn := Go.Proofs.Tryz.f150) (cd := cdOf Go.Proofs.Tryz.f150) (H := H_ident_isUpper) (rl := [.tmp 2]) Go.Proofs.Tryz.func150 (by kernel_rfl) (by kernel_rfl) (by kernel_rfl) (by kernel_rfl) (by kernel_rfl) (by kernel_rfl) (by kernel_rfl)

def H_ident_isLower : Hints I where
  tds := fun i => (asc [] i).getD []
  spl := fun i => (asc [] i).getD []
  pre := fun i => (asc [] i).getD []
  join := asc []
  loop := asc []
  keep := asc []

def row_ident_isLower : Row I := ⟨89, [.d (.int .u8)], [.k (.d (.bool))], ident_isLower⟩

theorem rk_ident_isLower  : RowOk Go.Proofs.Tryz.prog (row_ident_isLower) :=
  row_ok tabOk (dispE_ok (es := []) trivial 3) mixed 9 (fn := Go.Proofs.Tryz.f89) (cd := cdOf Go.Proofs.Tryz.f89) (H := H_ident_isLower) (rl := [.tmp 2]) Go.Proofs.Tryz.func89 (by kernel_rfl) (by kernel_rfl) (by kernel_rfl) (by kernel_rfl) (by kernel_rfl) (by kernel_rfl) (by kernel_rfl)

def H_ident_isDigit : Hints I where
  tds := fun i => (asc [] i).getD []
  spl := fun i => (asc [] i).getD []
  pre := fun i => (asc [] i).getD []
  join := asc []
  loop := asc []
  keep := asc []

def row_ident_isDigit : Row I := ⟨91, [.d (.int .u8)], [.k (.d (.bool))], ident_isDigit⟩

theorem rk_ident_isDigit  : RowOk Go.Proofs.Tryz.prog (row_ident_isDigit) :=
  row_ok tabOk (dispE_ok (es := []) trivial 3) mixed 9 (fn := Go.Proofs.Tryz.f91) (cd := cdOf Go.Proofs.Tryz.f91) (H := H_ident_isDigit) (rl := [.tmp 2]) Go.Proofs.Tryz.func91 (by kernel_rfl) (by kernel_rfl) (by kernel_rfl) (by kernel_rfl) (by kernel_rfl) (by kernel_rfl) (by kernel_rfl)

def H_ident_IsVariable_1 : Hints I where
  tds := fun i => (asc [] i).getD []
  spl := fun i => (asc [] i).getD []
  pre := fun i => (asc [] i).getD []
  join := asc []
  loop := asc []
  keep := asc []

def row_ident_IsVariable_1 : Row I := ⟨151, [.d (.int .u8)], [.k (.d (.bool))], ident_IsVariable_1⟩

theorem rk_ident_IsVariable_1  : RowOk Go.Proofs.Tryz.prog (row_ident_IsVariable_1) :=
  row_ok tabOk (dispE_ok (es := [rowE tb (row_ident_isLower), rowE tb (row_ident_isUpper), rowE tb (row_ident_isDigit)]) ⟨rowE_ok tabOk rk_ident_isLower, ⟨rowE_ok tabOk rk_ident_isUpper, ⟨rowE_ok tabOk rk_ident_isDigit, trivial⟩⟩⟩ 3) mixed 17 (fn := Go.Proofs.Tryz.f151) (cd := cdOf Go.Proofs.Tryz.f151) (H := H_ident_IsVariable_1) (rl := [.tmp 2]) Go.Proofs.Tryz.func151 (by kernel_rfl) (by kernel_rfl) (by kernel_rfl) (by kernel_rfl) (by kernel_rfl) (by kernel_rfl) (by kernel_rfl)

def H_ident_IsVariable : Hints I where
  tds := fun i => (asc [] i).getD []
  spl := fun i => (asc [] i).getD []
  pre := fun i => (asc [] i).getD []
  join := asc []
  loop := asc []
  keep := asc []

def row_ident_IsVariable : Row I := ⟨134, [.d (.str)], [.k (.d (.bool))], ident_IsVariable⟩

theorem rk_ident_IsVariable  : RowOk Go.Proofs.Tryz.prog (row_ident_IsVariable) :=
  row_ok tabOk (dispE_ok (es := [rowE tb (row_ident_isName), rowE tb (row_ident_isUpper), rowE tb (row_ident_IsVariable_1)]) ⟨rowE_ok tabOk rk_ident_isName, ⟨rowE_ok tabOk rk_ident_isUpper, ⟨rowE_ok tabOk rk_ident_IsVariable_1, trivial⟩⟩⟩ 3) mixed 5 (fn := Go.Proofs.Tryz.f134) (cd := cdOf Go.Proofs.Tryz.f134) (H := H_ident_IsVariable) (rl := [.tmp 2]) Go.Proofs.Tryz.func134 (by kernel_rfl) (by kernel_rfl) (by kernel_rfl) (by kernel_rfl) (by kernel_rfl) (by kernel_rfl) (by kernel_rfl)

def H_value_validLabels : Hints I where
  tds := fun i => (asc [] i).getD []
  spl := fun i => (asc [] i).getD []
  pre := fun i => (asc [] i).getD []
  join := asc []
  loop := asc [(58, ⟨261140, [], [], [(10, .k (.d (.int .i64)))], [((.exit 0), []), (.ret, [(2, .k (.d (.bool)))])], bnd tb (.slot 9) 1⟩)]
  keep := asc []

def row_value_validLabels : Row I := ⟨105, [.d (.sl 9)], [.k (.d (.bool))], value_validLabels⟩

theorem rk_value_validLabels  : RowOk Go.Proofs.Tryz.prog (row_value_validLabels) :=
  row_ok tabOk (dispE_ok (es := [rowE tb (row_value_ascending_string), rowE tb (row_strings_Compare), rowE tb (row_ident_IsVariable)]) ⟨rowE_ok tabOk rk_value_ascending_string, ⟨rowE_ok tabOk rk_strings_Compare, ⟨rowE_ok tabOk rk_ident_IsVariable, trivial⟩⟩⟩ 3) mixed 18 (fn := Go.Proofs.Tryz.f105) (cd := cdOf Go.Proofs.Tryz.f105) (H := H_value_validLabels) (rl := [.tmp 2]) Go.Proofs.Tryz.func105 (by kernel_rfl) (by kernel_rfl) (by kernel_rfl) (by kernel_rfl) (by kernel_rfl) (by kernel_rfl) (by kernel_rfl)

def H_ident_IsAtom_1 : Hints I where
  tds := fun i => (asc [] i).getD []
  spl := fun i => (asc [] i).getD []
  pre := fun i => (asc [] i).getD []
  join := asc []
  loop := asc []
  keep := asc []

def row_ident_IsAtom_1 : Row I := ⟨90, [.d (.int .u8)], [.k (.d (.bool))], ident_IsAtom_1⟩

theorem rk_ident_IsAtom_1  : RowOk Go.Proofs.Tryz.prog (row_ident_IsAtom_1) :=
  row_ok tabOk (dispE_ok (es := [rowE tb (row_ident_isLower), rowE tb (row_ident_isDigit)]) ⟨rowE_ok tabOk rk_ident_isLower, ⟨rowE_ok tabOk rk_ident_isDigit, trivial⟩⟩ 3) mixed 13 (fn := Go.Proofs.Tryz.f90) (cd := cdOf Go.Proofs.Tryz.f90) (H := H_ident_IsAtom_1) (rl := [.tmp 2]) Go.Proofs.Tryz.func90 (by kernel_rfl) (by kernel_rfl) (by kernel_rfl) (by kernel_rfl) (by kernel_rfl) (by kernel_rfl) (by kernel_rfl)

def H_ident_IsAtom : Hints I where
  tds := fun i => (asc [] i).getD []
  spl := fun i => (asc [] i).getD []
  pre := fun i => (asc [] i).getD []
  join := asc []
  loop := asc []
  keep := asc []

def row_ident_IsAtom : Row I := ⟨53, [.d (.str)], [.k (.d (.bool))], ident_IsAtom⟩

theorem rk_ident_IsAtom  : RowOk Go.Proofs.Tryz.prog (row_ident_IsAtom) :=
  row_ok tabOk (dispE_ok (es := [rowE tb (row_ident_isName), rowE tb (row_ident_isLower), rowE tb (row_ident_IsAtom_1)]) ⟨rowE_ok tabOk rk_ident_isName, ⟨rowE_ok tabOk rk_ident_isLower, ⟨rowE_ok tabOk rk_ident_IsAtom_1, trivial⟩⟩⟩ 3) mixed 5 (fn := Go.Proofs.Tryz.f53) (cd := cdOf Go.Proofs.Tryz.f53) (H := H_ident_IsAtom) (rl := [.tmp 2]) Go.Proofs.Tryz.func53 (by kernel_rfl) (by kernel_rfl) (by kernel_rfl) (by kernel_rfl) (by kernel_rfl) (by kernel_rfl) (by kernel_rfl)

def H_value_ascending_api_Key : Hints I where
  tds := fun i => (asc [(4, [[], [], [], [2], [1, 2, 3], [1, 2, 3, 4], [], [], [6, 7], [6, 7, 8], [0, 1, 2, 3, 4, 5, 6, 7, 8, 9], [0, 1, 2, 3, 4, 5, 6, 7, 8, 9, 10]])] i).getD []
  spl := fun i => (asc [] i).getD []
  pre := fun i => (asc [] i).getD []
  join := asc []
  loop := asc [(26, ⟨16777200, [], [], [(5, .k (.d (.int .i64)))], [((.exit 0), []), (.ret, [(4, .k (.d (.bool)))])], bnd tb (.len (.slot 0)) 1⟩)]
  keep := asc []

def row_value_ascending_api_Key : Row I := ⟨135, [.d (.sl 58), .fn [.dat 58, .dat 58] [.k (.d (.int .i64))]], [.k (.d (.bool))], value_ascending_api_Key⟩

theorem rk_value_ascending_api_Key  : RowOk Go.Proofs.Tryz.prog (row_value_ascending_api_Key) :=
  row_ok tabOk (dispE_ok (es := []) trivial 3) mixed 24 (fn := Go.Proofs.Tryz.f135) (cd := cdOf Go.Proofs.Tryz.f135) (H := H_value_ascending_api_Key) (rl := [.tmp 4]) Go.Proofs.Tryz.func135 (by kernel_rfl) (by kernel_rfl) (by kernel_rfl) (by kernel_rfl) (by kernel_rfl) (by kernel_rfl) (by kernel_rfl)

def H_cmp_isNaN_int : Hints I where
  tds := fun i => (asc [] i).getD []
  spl := fun i => (asc [] i).getD []
  pre := fun i => (asc [] i).getD []
  join := asc []
  loop := asc []
  keep := asc []

def row_cmp_isNaN_int : Row I := ⟨102, [.d (.int .i64)], [.k (.d (.bool))], cmp_isNaN_int⟩

theorem rk_cmp_isNaN_int  : RowOk Go.Proofs.Tryz.prog (row_cmp_isNaN_int) :=
  row_ok tabOk (dispE_ok (es := []) trivial 3) mixed 6 (fn := Go.Proofs.Tryz.f102) (cd := cdOf Go.Proofs.Tryz.f102) (H := H_cmp_isNaN_int) (rl := [.tmp 2]) Go.Proofs.Tryz.func102 (by kernel_rfl) (by kernel_rfl) (by kernel_rfl) (by kernel_rfl) (by kernel_rfl) (by kernel_rfl) (by kernel_rfl)

def H_cmp_Compare_int : Hints I where
  tds := fun i => (asc [] i).getD []
  spl := fun i => (asc [] i).getD []
  pre := fun i => (asc [] i).getD []
  join := asc []
  loop := asc []
  keep := asc []

def row_cmp_Compare_int : Row I := ⟨56, [.d (.int .i64), .d (.int .i64)], [.k (.d (.int .i64))], cmp_Compare_int⟩

theorem rk_cmp_Compare_int  : RowOk Go.Proofs.Tryz.prog (row_cmp_Compare_int) :=
  row_ok tabOk (dispE_ok (es := [rowE tb (row_cmp_isNaN_int)]) ⟨rowE_ok tabOk rk_cmp_isNaN_int, trivial⟩ 3) mixed 20 (fn := Go.Proofs.Tryz.f56) (cd := cdOf Go.Proofs.Tryz.f56) (H := H_cmp_Compare_int) (rl := [.tmp 4]) Go.Proofs.Tryz.func56 (by kernel_rfl) (by kernel_rfl) (by kernel_rfl) (by kernel_rfl) (by kernel_rfl) (by kernel_rfl) (by kernel_rfl)

def H_ident_CompareKeys : Hints I where
  tds := fun i => (asc [] i).getD []
  spl := fun i => (asc [] i).getD []
  pre := fun i => (asc [] i).getD []
  join := asc []
  loop := asc []
  keep := asc []

def row_ident_CompareKeys : Row I := ⟨30, [.d (.dat 58), .d (.dat 58)], [.k (.d (.int .i64))], ident_CompareKeys⟩

theorem rk_ident_CompareKeys  : RowOk Go.Proofs.Tryz.prog (row_ident_CompareKeys) :=
  row_ok tabOk (dispE_ok (es := [rowE tb (row_cmp_Compare_int), rowE tb (row_strings_Compare)]) ⟨rowE_ok tabOk rk_cmp_Compare_int, ⟨rowE_ok tabOk rk_strings_Compare, trivial⟩⟩ 3) mixed 19 (fn := Go.Proofs.Tryz.f30) (cd := cdOf Go.Proofs.Tryz.f30) (H := H_ident_CompareKeys) (rl := [.tmp 4]) Go.Proofs.Tryz.func30 (by kernel_rfl) (by kernel_rfl) (by kernel_rfl) (by kernel_rfl) (by kernel_rfl) (by kernel_rfl) (by kernel_rfl)

def H_ident_ValidKey : Hints I where
  tds := fun i => (asc [] i).getD []
  spl := fun i => (asc [] i).getD []
  pre := fun i => (asc [] i).getD []
  join := asc []
  loop := asc []
  keep := asc []

def row_ident_ValidKey : Row I := ⟨27, [.d (.dat 58)], [.k (.d (.bool))], ident_ValidKey⟩

theorem rk_ident_ValidKey  : RowOk Go.Proofs.Tryz.prog (row_ident_ValidKey) :=
  row_ok tabOk (dispE_ok (es := [rowE tb (row_ident_IsAtom)]) ⟨rowE_ok tabOk rk_ident_IsAtom, trivial⟩ 3) mixed 16 (fn := Go.Proofs.Tryz.f27) (cd := cdOf Go.Proofs.Tryz.f27) (H := H_ident_ValidKey) (rl := [.tmp 2]) Go.Proofs.Tryz.func27 (by kernel_rfl) (by kernel_rfl) (by kernel_rfl) (by kernel_rfl) (by kernel_rfl) (by kernel_rfl) (by kernel_rfl)

def H_value_validMap : Hints I where
  tds := fun i => (asc [] i).getD []
  spl := fun i => (asc [] i).getD []
  pre := fun i => (asc [] i).getD []
  join := asc []
  loop := asc [(58, ⟨534773780, [], [], [(21, .k (.d (.int .i64)))], [((.exit 0), []), (.ret, [(2, .k (.d (.bool)))])], bnd tb (.slot 20) 1⟩)]
  keep := asc []

def row_value_validMap : Row I := ⟨106, [.d (.dat 30)], [.k (.d (.bool))], value_validMap⟩

theorem rk_value_validMap  : RowOk Go.Proofs.Tryz.prog (row_value_validMap) :=
  row_ok tabOk (dispE_ok (es := [rowE tb (row_value_ascending_api_Key), rowE tb (row_ident_CompareKeys), rowE tb (row_ident_ValidKey)]) ⟨rowE_ok tabOk rk_value_ascending_api_Key, ⟨rowE_ok tabOk rk_ident_CompareKeys, ⟨rowE_ok tabOk rk_ident_ValidKey, trivial⟩⟩⟩ 3) mixed 29 (fn := Go.Proofs.Tryz.f106) (cd := cdOf Go.Proofs.Tryz.f106) (H := H_value_validMap) (rl := [.tmp 2]) Go.Proofs.Tryz.func106 (by kernel_rfl) (by kernel_rfl) (by kernel_rfl) (by kernel_rfl) (by kernel_rfl) (by kernel_rfl) (by kernel_rfl)

def H_value_ascending_api_Entry : Hints I where
  tds := fun i => (asc [(4, [[], [], [], [2], [1, 2, 3], [1, 2, 3, 4], [], [], [6, 7], [6, 7, 8], [0, 1, 2, 3, 4, 5, 6, 7, 8, 9], [0, 1, 2, 3, 4, 5, 6, 7, 8, 9, 10]])] i).getD []
  spl := fun i => (asc [] i).getD []
  pre := fun i => (asc [] i).getD []
  join := asc []
  loop := asc [(26, ⟨16777200, [], [], [(5, .k (.d (.int .i64)))], [((.exit 0), []), (.ret, [(4, .k (.d (.bool)))])], bnd tb (.len (.slot 0)) 1⟩)]
  keep := asc []

def row_value_ascending_api_Entry : Row I := ⟨136, [.d (.sl 43), .fn [.dat 43, .dat 43] [.k (.d (.int .i64))]], [.k (.d (.bool))], value_ascending_api_Entry⟩

theorem rk_value_ascending_api_Entry  : RowOk Go.Proofs.Tryz.prog (row_value_ascending_api_Entry) :=
  row_ok tabOk (dispE_ok (es := []) trivial 3) mixed 24 (fn := Go.Proofs.Tryz.f136) (cd := cdOf Go.Proofs.Tryz.f136) (H := H_value_ascending_api_Entry) (rl := [.tmp 4]) Go.Proofs.Tryz.func136 (by kernel_rfl) (by kernel_rfl) (by kernel_rfl) (by kernel_rfl) (by kernel_rfl) (by kernel_rfl) (by kernel_rfl)

def H_value_compareLists_api_Value : Hints I where
  tds := fun i => (asc [(7, [[], [], [], [1, 2], [1, 2, 3], [], [], [5, 6], [5, 6, 7], [0, 1, 2, 3, 4, 5, 6, 7, 8], [0, 1, 2, 3, 4, 5, 6, 7, 8, 9]])] i).getD []
  spl := fun i => (asc [] i).getD []
  pre := fun i => (asc [] i).getD []
  join := asc []
  loop := asc [(58, ⟨137437905728, [], [], [(20, .k (.d (.int .i64)))], [((.exit 0), []), (.ret, [(6, .k (.d (.int .i64)))])], bnd tb (.slot 19) 1⟩)]
  keep := asc []

def row_value_compareLists_api_Value : Row I := ⟨126, [.d (.sl 30), .d (.sl 30), .fn [.dat 30, .dat 30] [.k (.d (.int .i64))]], [.k (.d (.int .i64))], value_compareLists_api_Value⟩

theorem rk_value_compareLists_api_Value  : RowOk Go.Proofs.Tryz.prog (row_value_compareLists_api_Value) :=
  row_ok tabOk (dispE_ok (es := [rowE tb (row_cmp_Compare_int)]) ⟨rowE_ok tabOk rk_cmp_Compare_int, trivial⟩ 3) mixed 37 (fn := Go.Proofs.Tryz.f126) (cd := cdOf Go.Proofs.Tryz.f126) (H := H_value_compareLists_api_Value) (rl := [.tmp 6]) Go.Proofs.Tryz.func126 (by kernel_rfl) (by kernel_rfl) (by kernel_rfl) (by kernel_rfl) (by kernel_rfl) (by kernel_rfl) (by kernel_rfl)

def H_cmp_isNaN_int64 : Hints I where
  tds := fun i => (asc [] i).getD []
  spl := fun i => (asc [] i).getD []
  pre := fun i => (asc [] i).getD []
  join := asc []
  loop := asc []
  keep := asc []

def row_cmp_isNaN_int64 : Row I := ⟨125, [.d (.int .i64)], [.k (.d (.bool))], cmp_isNaN_int64⟩

theorem rk_cmp_isNaN_int64  : RowOk Go.Proofs.Tryz.prog (row_cmp_isNaN_int64) :=
  row_ok tabOk (dispE_ok (es := []) trivial 3) mixed 6 (fn := Go.Proofs.Tryz.f125) (cd := cdOf Go.Proofs.Tryz.f125) (H := H_cmp_isNaN_int64) (rl := [.tmp 2]) Go.Proofs.Tryz.func125 (by kernel_rfl) (by kernel_rfl) (by kernel_rfl) (by kernel_rfl) (by kernel_rfl) (by kernel_rfl) (by kernel_rfl)

def H_cmp_Compare_int64 : Hints I where
  tds := fun i => (asc [] i).getD []
  spl := fun i => (asc [] i).getD []
  pre := fun i => (asc [] i).getD []
  join := asc []
  loop := asc []
  keep := asc []

def row_cmp_Compare_int64 : Row I := ⟨83, [.d (.int .i64), .d (.int .i64)], [.k (.d (.int .i64))], cmp_Compare_int64⟩

theorem rk_cmp_Compare_int64  : RowOk Go.Proofs.Tryz.prog (row_cmp_Compare_int64) :=
  row_ok tabOk (dispE_ok (es := [rowE tb (row_cmp_isNaN_int64)]) ⟨rowE_ok tabOk rk_cmp_isNaN_int64, trivial⟩ 3) mixed 20 (fn := Go.Proofs.Tryz.f83) (cd := cdOf Go.Proofs.Tryz.f83) (H := H_cmp_Compare_int64) (rl := [.tmp 4]) Go.Proofs.Tryz.func83 (by kernel_rfl) (by kernel_rfl) (by kernel_rfl) (by kernel_rfl) (by kernel_rfl) (by kernel_rfl) (by kernel_rfl)

def H_value_compareLists_api_Key : Hints I where
  tds := fun i => (asc [(7, [[], [], [], [1, 2], [1, 2, 3], [], [], [5, 6], [5, 6, 7], [0, 1, 2, 3, 4, 5, 6, 7, 8], [0, 1, 2, 3, 4, 5, 6, 7, 8, 9]])] i).getD []
  spl := fun i => (asc [] i).getD []
  pre := fun i => (asc [] i).getD []
  join := asc []
  loop := asc [(58, ⟨137437905728, [], [], [(20, .k (.d (.int .i64)))], [((.exit 0), []), (.ret, [(6, .k (.d (.int .i64)))])], bnd tb (.slot 19) 1⟩)]
  keep := asc []

def row_value_compareLists_api_Key : Row I := ⟨84, [.d (.sl 58), .d (.sl 58), .fn [.dat 58, .dat 58] [.k (.d (.int .i64))]], [.k (.d (.int .i64))], value_compareLists_api_Key⟩

theorem rk_value_compareLists_api_Key  : RowOk Go.Proofs.Tryz.prog (row_value_compareLists_api_Key) :=
  row_ok tabOk (dispE_ok (es := [rowE tb (row_cmp_Compare_int)]) ⟨rowE_ok tabOk rk_cmp_Compare_int, trivial⟩ 3) mixed 37 (fn := Go.Proofs.Tryz.f84) (cd := cdOf Go.Proofs.Tryz.f84) (H := H_value_compareLists_api_Key) (rl := [.tmp 6]) Go.Proofs.Tryz.func84 (by kernel_rfl) (by kernel_rfl) (by kernel_rfl) (by kernel_rfl) (by kernel_rfl) (by kernel_rfl) (by kernel_rfl)

def H_value_compareLists_api_Entry : Hints I where
  tds := fun i => (asc [(7, [[], [], [], [1, 2], [1, 2, 3], [], [], [5, 6], [5, 6, 7], [0, 1, 2, 3, 4, 5, 6, 7, 8], [0, 1, 2, 3, 4, 5, 6, 7, 8, 9]])] i).getD []
  spl := fun i => (asc [] i).getD []
  pre := fun i => (asc [] i).getD []
  join := asc []
  loop := asc [(58, ⟨137437905728, [], [], [(20, .k (.d (.int .i64)))], [((.exit 0), []), (.ret, [(6, .k (.d (.int .i64)))])], bnd tb (.slot 19) 1⟩)]
  keep := asc []

def row_value_compareLists_api_Entry : Row I := ⟨86, [.d (.sl 43), .d (.sl 43), .fn [.dat 43, .dat 43] [.k (.d (.int .i64))]], [.k (.d (.int .i64))], value_compareLists_api_Entry⟩

theorem rk_value_compareLists_api_Entry  : RowOk Go.Proofs.Tryz.prog (row_value_compareLists_api_Entry) :=
  row_ok tabOk (dispE_ok (es := [rowE tb (row_cmp_Compare_int)]) ⟨rowE_ok tabOk rk_cmp_Compare_int, trivial⟩ 3) mixed 37 (fn := Go.Proofs.Tryz.f86) (cd := cdOf Go.Proofs.Tryz.f86) (H := H_value_compareLists_api_Entry) (rl := [.tmp 6]) Go.Proofs.Tryz.func86 (by kernel_rfl) (by kernel_rfl) (by kernel_rfl) (by kernel_rfl) (by kernel_rfl) (by kernel_rfl) (by kernel_rfl)

def H_value_compareLists_string : Hints I where
  tds := fun i => (asc [(7, [[], [], [], [1, 2], [1, 2, 3], [], [], [5, 6], [5, 6, 7], [0, 1, 2, 3, 4, 5, 6, 7, 8], [0, 1, 2, 3, 4, 5, 6, 7, 8, 9]])] i).getD []
  spl := fun i => (asc [] i).getD []
  pre := fun i => (asc [] i).getD []
  join := asc []
  loop := asc [(58, ⟨137437905728, [], [], [(20, .k (.d (.int .i64)))], [((.exit 0), []), (.ret, [(6, .k (.d (.int .i64)))])], bnd tb (.slot 19) 1⟩)]
  keep := asc []

def row_value_compareLists_string : Row I := ⟨87, [.d (.sl 9), .d (.sl 9), .fn [.str, .str] [.k (.d (.int .i64))]], [.k (.d (.int .i64))], value_compareLists_string⟩

theorem rk_value_compareLists_string  : RowOk Go.Proofs.Tryz.prog (row_value_compareLists_string) :=
  row_ok tabOk (dispE_ok (es := [rowE tb (row_cmp_Compare_int)]) ⟨rowE_ok tabOk rk_cmp_Compare_int, trivial⟩ 3) mixed 37 (fn := Go.Proofs.Tryz.f87) (cd := cdOf Go.Proofs.Tryz.f87) (H := H_value_compareLists_string) (rl := [.tmp 6]) Go.Proofs.Tryz.func87 (by kernel_rfl) (by kernel_rfl) (by kernel_rfl) (by kernel_rfl) (by kernel_rfl) (by kernel_rfl) (by kernel_rfl)

def H_value_Compare (n : Nat) : Hints I where
  tds := fun i => (asc [] i).getD []
  spl := fun i => (asc [] i).getD []
  pre := fun i => (asc [] i).getD []
  join := asc []
  loop := asc []
  keep := asc []

def row_value_Compare (n : Nat) : Row I := ⟨52, [.d (.dat 30), .d (.dat 30)], [.k (.d (.int .i64))], value_Compare n⟩

def H_value_compareEntries (n : Nat) : Hints I where
  tds := fun i => (asc [] i).getD []
  spl := fun i => (asc [] i).getD []
  pre := fun i => (asc [] i).getD []
  join := asc []
  loop := asc []
  keep := asc []

def row_value_compareEntries (n : Nat) : Row I := ⟨77, [.d (.dat 43), .d (.dat 43)], [.k (.d (.int .i64))], value_compareEntries n⟩

def H_value_compareValues (n : Nat) : Hints I where
  tds := fun i => (asc [] i).getD []
  spl := fun i => (asc [] i).getD []
  pre := fun i => (asc [] i).getD []
  join := asc []
  loop := asc []
  keep := asc []

def row_value_compareValues (n : Nat) : Row I := ⟨85, [.d (.sl 30), .d (.sl 30)], [.k (.d (.int .i64))], value_compareValues n⟩

theorem rkB_value_Compare (n : Nat) (h_value_Compare : RowOk Go.Proofs.Tryz.prog (row_value_Compare n)) (h_value_compareEntries : RowOk Go.Proofs.Tryz.prog (row_value_compareEntries n)) (h_value_compareValues : RowOk Go.Proofs.Tryz.prog (row_value_compareValues n)) : RowOk Go.Proofs.Tryz.prog (row_value_Compare (n + 1)) :=
  row_ok tabOk (dispE_ok (es := [rowE tb (row_cmp_Compare_int), rowE tb (row_cmp_Compare_int64), rowE tb (row_strings_Compare), rowE tb (row_value_compareLists_api_Key), rowE tb (row_ident_CompareKeys), rowE tb (row_value_compareValues n), rowE tb (row_value_compareLists_api_Entry), rowE tb (row_value_compareEntries n), rowE tb (row_value_compareLists_string)]) ⟨rowE_ok tabOk rk_cmp_Compare_int, ⟨rowE_ok tabOk rk_cmp_Compare_int64, ⟨rowE_ok tabOk rk_strings_Compare, ⟨rowE_ok tabOk rk_value_compareLists_api_Key, ⟨rowE_ok tabOk rk_ident_CompareKeys, ⟨rowE_ok tabOk h_value_compareValues, ⟨rowE_ok tabOk rk_value_compareLists_api_Entry, ⟨rowE_ok tabOk h_value_compareEntries, ⟨rowE_ok tabOk rk_value_compareLists_string, trivial⟩⟩⟩⟩⟩⟩⟩⟩⟩ 3) mixed 64 (fn := Go.Proofs.Tryz.f52) (cd := cdOf Go.Proofs.Tryz.f52) (H := (H_value_Compare n)) (rl := [.tmp 4]) Go.Proofs.Tryz.func52 (by kernel_rfl) (by kernel_rfl) (by kernel_rfl) (by kernel_rfl) (by kernel_rfl) (by kernel_rfl) (by kernel_rfl)

theorem rkB_value_compareEntries (n : Nat) (h_value_Compare : RowOk Go.Proofs.Tryz.prog (row_value_Compare n)) (h_value_compareEntries : RowOk Go.Proofs.Tryz.prog (row_value_compareEntries n)) (h_value_compareValues : RowOk Go.Proofs.Tryz.prog (row_value_compareValues n)) : RowOk Go.Proofs.Tryz.prog (row_value_compareEntries (n + 1)) :=
  row_ok tabOk (dispE_ok (es := [rowE tb (row_value_compareValues n), rowE tb (row_value_Compare n)]) ⟨rowE_ok tabOk h_value_compareValues, ⟨rowE_ok tabOk h_value_Compare, trivial⟩⟩ 3) mixed 26 (fn := Go.Proofs.Tryz.f77) (cd := cdOf Go.Proofs.Tryz.f77) (H := (H_value_compareEntries n)) (rl := [.tmp 4]) Go.Proofs.Tryz.func77 (by kernel_rfl) (by kernel_rfl) (by kernel_rfl) (by kernel_rfl) (by kernel_rfl) (by kernel_rfl) (by kernel_rfl)

theorem rkB_value_compareValues (n : Nat) (h_value_Compare : RowOk Go.Proofs.Tryz.prog (row_value_Compare n)) (h_value_compareEntries : RowOk Go.Proofs.Tryz.prog (row_value_compareEntries n)) (h_value_compareValues : RowOk Go.Proofs.Tryz.prog (row_value_compareValues n)) : RowOk Go.Proofs.Tryz.prog (row_value_compareValues (n + 1)) :=
  row_ok tabOk (dispE_ok (es := [rowE tb (row_value_compareLists_api_Value), rowE tb (row_value_Compare n)]) ⟨rowE_ok tabOk rk_value_compareLists_api_Value, ⟨rowE_ok tabOk h_value_Compare, trivial⟩⟩ 3) mixed 8 (fn := Go.Proofs.Tryz.f85) (cd := cdOf Go.Proofs.Tryz.f85) (H := (H_value_compareValues n)) (rl := [.tmp 4]) Go.Proofs.Tryz.func85 (by kernel_rfl) (by kernel_rfl) (by kernel_rfl) (by kernel_rfl) (by kernel_rfl) (by kernel_rfl) (by kernel_rfl)

theorem rk_scc_value_Compare : ∀ n : Nat, RowOk Go.Proofs.Tryz.prog (row_value_Compare n) ∧ RowOk Go.Proofs.Tryz.prog (row_value_compareEntries n) ∧ RowOk Go.Proofs.Tryz.prog (row_value_compareValues n)
  | 0 => ⟨rowOk_none (by kernel_rfl), rowOk_none (by kernel_rfl), rowOk_none (by kernel_rfl)⟩
  | n + 1 => by
    obtain ⟨h0, h1, h2⟩ := rk_scc_value_Compare n
    exact ⟨rkB_value_Compare n h0 h1 h2, rkB_value_compareEntries n h0 h1 h2, rkB_value_compareValues n h0 h1 h2⟩

theorem rk_value_Compare (n : Nat) : RowOk Go.Proofs.Tryz.prog (row_value_Compare n) := (rk_scc_value_Compare n).1

theorem rk_value_compareEntries (n : Nat) : RowOk Go.Proofs.Tryz.prog (row_value_compareEntries n) := (rk_scc_value_Compare n).2.1

theorem rk_value_compareValues (n : Nat) : RowOk Go.Proofs.Tryz.prog (row_value_compareValues n) := (rk_scc_value_Compare n).2.2

def H_value_Equal (n : Nat) : Hints I where
  tds := fun i => (asc [] i).getD []
  spl := fun i => (asc [] i).getD []
  pre := fun i => (asc [] i).getD []
  join := asc []
  loop := asc []
  keep := asc []

def row_value_Equal (n : Nat) : Row I := ⟨24, [.d (.dat 30), .d (.dat 30)], [.k (.d (.bool))], value_Equal n⟩

theorem rk_value_Equal (n : Nat)  : RowOk Go.Proofs.Tryz.prog (row_value_Equal n) :=
  row_ok tabOk (dispE_ok (es := [rowE tb (row_value_Compare n)]) ⟨rowE_ok tabOk (rk_value_Compare n), trivial⟩ 3) mixed 9 (fn := Go.Proofs.Tryz.f24) (cd := cdOf Go.Proofs.Tryz.f24) (H := (H_value_Equal n)) (rl := [.tmp 4]) Go.Proofs.Tryz.func24 (by kernel_rfl) (by kernel_rfl) (by kernel_rfl) (by kernel_rfl) (by kernel_rfl) (by kernel_rfl) (by kernel_rfl)

def H_value_isZero (n : Nat) : Hints I where
  tds := fun i => (asc [] i).getD []
  spl := fun i => (asc [] i).getD []
  pre := fun i => (asc [] i).getD []
  join := asc []
  loop := asc []
  keep := asc []

def row_value_isZero (n : Nat) : Row I := ⟨75, [.d (.dat 30)], [.k (.d (.bool))], value_isZero n⟩

theorem rk_value_isZero (n : Nat)  : RowOk Go.Proofs.Tryz.prog (row_value_isZero n) :=
  row_ok tabOk (dispE_ok (es := [rowE tb (row_value_Equal n)]) ⟨rowE_ok tabOk (rk_value_Equal n), trivial⟩ 3) mixed 6 (fn := Go.Proofs.Tryz.f75) (cd := cdOf Go.Proofs.Tryz.f75) (H := (H_value_isZero n)) (rl := [.tmp 2]) Go.Proofs.Tryz.func75 (by kernel_rfl) (by kernel_rfl) (by kernel_rfl) (by kernel_rfl) (by kernel_rfl) (by kernel_rfl) (by kernel_rfl)

def H_value_validEntry (n : Nat) : Hints I where
  tds := fun i => (asc [] i).getD []
  spl := fun i => (asc [] i).getD []
  pre := fun i => (asc [] i).getD []
  join := asc []
  loop := asc []
  keep := asc []

def row_value_validEntry (n : Nat) : Row I := ⟨39, [.d (.dat 43), .d (.int .i64)], [.k (.d (.bool))], value_validEntry n⟩

theorem rk_value_validEntry (n : Nat)  : RowOk Go.Proofs.Tryz.prog (row_value_validEntry n) :=
  row_ok tabOk (dispE_ok (es := [rowE tb (row_value_isZero n)]) ⟨rowE_ok tabOk (rk_value_isZero n), trivial⟩ 3) mixed 20 (fn := Go.Proofs.Tryz.f39) (cd := cdOf Go.Proofs.Tryz.f39) (H := (H_value_validEntry n)) (rl := [.tmp 4]) Go.Proofs.Tryz.func39 (by kernel_rfl) (by kernel_rfl) (by kernel_rfl) (by kernel_rfl) (by kernel_rfl) (by kernel_rfl) (by kernel_rfl)

def H_value_validFunction (n : Nat) : Hints I where
  tds := fun i => (asc [] i).getD []
  spl := fun i => (asc [] i).getD []
  pre := fun i => (asc [] i).getD []
  join := asc []
  loop := asc [(58, ⟨4290773012, [], [], [(22, .k (.d (.int .i64)))], [((.exit 0), []), (.ret, [(2, .k (.d (.bool)))])], bnd tb (.slot 21) 1⟩)]
  keep := asc []

def row_value_validFunction (n : Nat) : Row I := ⟨107, [.d (.dat 30)], [.k (.d (.bool))], value_validFunction n⟩

theorem rk_value_validFunction (n : Nat)  : RowOk Go.Proofs.Tryz.prog (row_value_validFunction n) :=
  row_ok tabOk (dispE_ok (es := [rowE tb (row_value_ascending_api_Entry), rowE tb (row_value_compareEntries n), rowE tb (row_value_validEntry n)]) ⟨rowE_ok tabOk rk_value_ascending_api_Entry, ⟨rowE_ok tabOk (rk_value_compareEntries n), ⟨rowE_ok tabOk (rk_value_validEntry n), trivial⟩⟩⟩ 3) mixed 32 (fn := Go.Proofs.Tryz.f107) (cd := cdOf Go.Proofs.Tryz.f107) (H := (H_value_validFunction n)) (rl := [.tmp 2]) Go.Proofs.Tryz.func107 (by kernel_rfl) (by kernel_rfl) (by kernel_rfl) (by kernel_rfl) (by kernel_rfl) (by kernel_rfl) (by kernel_rfl)

def H_value_validNode (n : Nat) : Hints I where
  tds := fun i => (asc [] i).getD []
  spl := fun i => (asc [] i).getD []
  pre := fun i => (asc [] i).getD []
  join := asc []
  loop := asc []
  keep := asc []

def row_value_validNode (n : Nat) : Row I := ⟨66, [.d (.dat 30)], [.k (.d (.bool))], value_validNode n⟩

theorem rk_value_validNode (n : Nat)  : RowOk Go.Proofs.Tryz.prog (row_value_validNode n) :=
  row_ok tabOk (dispE_ok (es := [rowE tb (row_value_uses), rowE tb (row_value_validLabels), rowE tb (row_ident_IsAtom), rowE tb (row_value_validMap), rowE tb (row_value_validFunction n)]) ⟨rowE_ok tabOk rk_value_uses, ⟨rowE_ok tabOk rk_value_validLabels, ⟨rowE_ok tabOk rk_ident_IsAtom, ⟨rowE_ok tabOk rk_value_validMap, ⟨rowE_ok tabOk (rk_value_validFunction n), trivial⟩⟩⟩⟩⟩ 3) mixed 124 (fn := Go.Proofs.Tryz.f66) (cd := cdOf Go.Proofs.Tryz.f66) (H := (H_value_validNode n)) (rl := [.tmp 2]) Go.Proofs.Tryz.func66 (by kernel_rfl) (by kernel_rfl) (by kernel_rfl) (by kernel_rfl) (by kernel_rfl) (by kernel_rfl) (by kernel_rfl)

def H_value_validTree (n : Nat) : Hints I where
  tds := fun i => (asc [] i).getD []
  spl := fun i => (asc [] i).getD []
  pre := fun i => (asc [] i).getD []
  join := asc []
  loop := asc [(58, ⟨522260, [9], [], [(11, .k (.d (.int .i64)))], [((.exit 0), []), (.ret, [(2, .k (.d (.bool)))])], bnd tb (.slot 10) 1⟩)]
  keep := asc []

def row_value_validTree (n : Nat) : Row I := ⟨36, [.d (.dat 30)], [.k (.d (.bool))], value_validTree n⟩

theorem rkB_value_validTree (n : Nat) (h_value_validTree : RowOk Go.Proofs.Tryz.prog (row_value_validTree n)) : RowOk Go.Proofs.Tryz.prog (row_value_validTree (n + 1)) :=
  row_ok tabOk (dispE_ok (es := [rowE tb (row_value_validNode n), rowE tb (row_value_parts), rowE tb (row_value_validTree n)]) ⟨rowE_ok tabOk (rk_value_validNode n), ⟨rowE_ok tabOk rk_value_parts, ⟨rowE_ok tabOk h_value_validTree, trivial⟩⟩⟩ 3) mixed 19 (fn := Go.Proofs.Tryz.f36) (cd := cdOf Go.Proofs.Tryz.f36) (H := (H_value_validTree n)) (rl := [.tmp 2]) Go.Proofs.Tryz.func36 (by kernel_rfl) (by kernel_rfl) (by kernel_rfl) (by kernel_rfl) (by kernel_rfl) (by kernel_rfl) (by kernel_rfl)

theorem rk_value_validTree : ∀ n : Nat, RowOk Go.Proofs.Tryz.prog (row_value_validTree n)
  | 0 => rowOk_none (by kernel_rfl)
  | n + 1 => rkB_value_validTree n (rk_value_validTree n)

def H_value_Validate (n : Nat) : Hints I where
  tds := fun i => (asc [] i).getD []
  spl := fun i => (asc [] i).getD []
  pre := fun i => (asc [] i).getD []
  join := asc []
  loop := asc []
  keep := asc []

def row_value_Validate (n : Nat) : Row I := ⟨11, [.d (.dat 30)], [.k (.d (.int .i64))], value_Validate n⟩

theorem rk_value_Validate (n : Nat)  : RowOk Go.Proofs.Tryz.prog (row_value_Validate n) :=
  row_ok tabOk (dispE_ok (es := [rowE tb (row_value_validTree n)]) ⟨rowE_ok tabOk (rk_value_validTree n), trivial⟩ 3) mixed 6 (fn := Go.Proofs.Tryz.f11) (cd := cdOf Go.Proofs.Tryz.f11) (H := (H_value_Validate n)) (rl := [.tmp 2]) Go.Proofs.Tryz.func11 (by kernel_rfl) (by kernel_rfl) (by kernel_rfl) (by kernel_rfl) (by kernel_rfl) (by kernel_rfl) (by kernel_rfl)

def H_value_Cons (n : Nat) : Hints I where
  tds := fun i => (asc [(1, [[], [0], [], [0, 1, 2], [0, 1, 2, 3], [0, 1, 2, 3, 4], [0, 1, 2, 3, 4, 5]])] i).getD []
  spl := fun i => (asc [] i).getD []
  pre := fun i => (asc [] i).getD []
  join := asc []
  loop := asc []
  keep := asc []

def row_value_Cons (n : Nat) : Row I := ⟨25, [.d (.dat 30), .d (.dat 30)], [.k (.d (.dat 30))], value_Cons n⟩

theorem rk_value_Cons (n : Nat)  : RowOk Go.Proofs.Tryz.prog (row_value_Cons n) :=
  row_ok tabOk (dispE_ok (es := [rowE tb (row_value_clone n)]) ⟨rowE_ok tabOk (rk_value_clone n), trivial⟩ 3) mixed 11 (fn := Go.Proofs.Tryz.f25) (cd := cdOf Go.Proofs.Tryz.f25) (H := (H_value_Cons n)) (rl := [.cell 4 30]) Go.Proofs.Tryz.func25 (by kernel_rfl) (by kernel_rfl) (by kernel_rfl) (by kernel_rfl) (by kernel_rfl) (by kernel_rfl) (by kernel_rfl)

def H_semtypelaw4_awake (n : Nat) : Hints I where
  tds := fun i => (asc [(2, [[], [0], [0, 1], [0, 1, 2], [0, 1, 2, 3], [0, 1, 2, 3, 4], [0, 1, 2, 3, 4, 5], [0, 1, 2, 3, 4, 5, 6], [0, 1, 2, 3, 4, 5, 6, 7], [0, 1, 2, 3, 4, 5, 6, 7, 8], [0, 1, 2, 3, 4, 5, 6, 7, 8, 9], [0, 1, 2, 3, 4, 5, 6, 7, 8, 9, 10], [0, 1, 2, 3, 4, 5, 6, 7, 8, 9, 10, 11], [0, 1, 2, 3, 4, 5, 6, 7, 8, 9, 10, 11, 12], [0, 1, 2, 3, 4, 5, 6, 7, 8, 9, 10, 11, 12, 13], [0, 1, 2, 3, 4, 5, 6, 7, 8, 9, 10, 11, 12, 13, 14], [0, 1, 2, 3, 4, 5, 6, 7, 8, 9, 10, 11, 12, 13, 14, 15], [0, 1, 2, 3, 4, 5, 6, 7, 8, 9, 10, 11, 12, 13, 14, 15, 16], [0, 1, 2, 3, 4, 5, 6, 7, 8, 9, 10, 11, 12, 13, 14, 15, 16, 17], [0, 1, 2, 3, 4, 5, 6, 7, 8, 9, 10, 11, 12, 13, 14, 15, 16, 17, 18], [0, 1, 2, 3, 4, 5, 6, 7, 8, 9, 10, 11, 12, 13, 14, 15, 16, 17, 18], [0, 1, 2, 3, 4, 5, 6, 7, 8, 9, 10, 11, 12, 13, 14, 15, 16, 17, 18, 20], [0, 1, 2, 3, 4, 5, 6, 7, 8, 9, 10, 11, 12, 13, 14, 15, 16, 17, 18, 20, 21], [0, 1, 2, 3, 4, 5, 6, 7, 8, 9, 10, 11, 12, 13, 14, 15, 16, 17, 18, 20, 21, 22], [0, 1, 2, 3, 4, 5, 6, 7, 8, 9, 10, 11, 12, 13, 14, 15, 16, 17, 18, 20, 21, 22, 23], [0, 1, 2, 3, 4, 5, 6, 7, 8, 9, 10, 11, 12, 13, 14, 15, 16, 17, 18, 19, 20, 21, 22, 23, 24], [0, 1, 2, 3, 4, 5, 6, 7, 8, 9, 10, 11, 12, 13, 14, 15, 16, 17, 18, 19, 20, 21, 22, 23, 24, 25], [0, 1, 2, 3, 4, 5, 6, 7, 8, 9, 10, 11, 12, 13, 14, 15, 16, 17, 18, 19, 20, 21, 22, 23, 24, 25, 26]])] i).getD []
  spl := fun i => (asc [] i).getD []
  pre := fun i => (asc [] i).getD []
  join := asc []
  loop := asc []
  keep := asc []

def row_semtypelaw4_awake (n : Nat) : Row I := ⟨6, [], [.k (.d (.bool))], semtypelaw4_awake n⟩

theorem rk_semtypelaw4_awake (n : Nat)  : RowOk Go.Proofs.Tryz.prog (row_semtypelaw4_awake n) :=
  row_ok tabOk (dispE_ok (es := [rowE tb (row_value_Int), rowE tb (row_value_List n), rowE tb (row_value_Nodes n), rowE tb (row_value_Height n), rowE tb (row_value_Validate n), rowE tb (row_value_Nil), rowE tb (row_value_Cons n), rowE tb (row_value_Equal n)]) ⟨rowE_ok tabOk rk_value_Int, ⟨rowE_ok tabOk (rk_value_List n), ⟨rowE_ok tabOk (rk_value_Nodes n), ⟨rowE_ok tabOk (rk_value_Height n), ⟨rowE_ok tabOk (rk_value_Validate n), ⟨rowE_ok tabOk rk_value_Nil, ⟨rowE_ok tabOk (rk_value_Cons n), ⟨rowE_ok tabOk (rk_value_Equal n), trivial⟩⟩⟩⟩⟩⟩⟩⟩ 3) mixed 33 (fn := Go.Proofs.Tryz.f6) (cd := cdOf Go.Proofs.Tryz.f6) (H := (H_semtypelaw4_awake n)) (rl := [.tmp 0]) Go.Proofs.Tryz.func6 (by kernel_rfl) (by kernel_rfl) (by kernel_rfl) (by kernel_rfl) (by kernel_rfl) (by kernel_rfl) (by kernel_rfl)

def H_semtypebase_Source_Next : Hints I where
  tds := fun i => (asc [(1, [[], [0], [0, 1], [0, 1, 2], [0, 1, 2, 3], [0, 1, 2, 3, 4], [0, 1, 2, 3, 4, 5], [0, 1, 2], [0, 1, 2, 7], [0, 1, 2, 7, 8], [0, 1, 2, 7, 8, 9], [0, 1, 2, 7, 8, 9, 10], [0, 1, 2, 3, 4, 5, 6, 7, 8, 9, 10, 11], [0, 1, 2, 3, 4, 5, 6, 7, 8, 9, 10, 11, 12]]), (3, [[], [0], [0, 1], [0, 1, 2], [], [4], [4, 5], [4, 5, 6], [0, 1, 2, 3, 4, 5, 6, 7], [0, 1, 2, 3, 4, 5, 6, 7, 8], [], [0, 1, 2, 3, 4, 5, 6, 7, 8, 9, 10], [0, 1, 2, 3, 4, 5, 6, 7, 8, 9, 10, 11]])] i).getD []
  spl := fun i => (asc [] i).getD []
  pre := fun i => (asc [] i).getD []
  join := asc []
  loop := asc []
  keep := asc []

def row_semtypebase_Source_Next : Row I := ⟨68, [.var 40 (.k (.d (.dat 40))) true, .d (.int .i64)], [.k (.d (.int .i64))], semtypebase_Source_Next⟩

theorem rk_semtypebase_Source_Next  : RowOk Go.Proofs.Tryz.prog (row_semtypebase_Source_Next) :=
  row_ok tabOk (dispE_ok (es := []) trivial 3) mixed 46 (fn := Go.Proofs.Tryz.f68) (cd := cdOf Go.Proofs.Tryz.f68) (H := H_semtypebase_Source_Next) (rl := [.tmp 4]) Go.Proofs.Tryz.func68 (by kernel_rfl) (by kernel_rfl) (by kernel_rfl) (by kernel_rfl) (by kernel_rfl) (by kernel_rfl) (by kernel_rfl)

def H_semtypebase_Source_Number : Hints I where
  tds := fun i => (asc [] i).getD []
  spl := fun i => (asc [] i).getD []
  pre := fun i => (asc [] i).getD []
  join := asc []
  loop := asc []
  keep := asc []

def row_semtypebase_Source_Number : Row I := ⟨109, [.var 40 (.k (.d (.dat 40))) true], [.k (.d (.int .i64))], semtypebase_Source_Number⟩

theorem rk_semtypebase_Source_Number  : RowOk Go.Proofs.Tryz.prog (row_semtypebase_Source_Number) :=
  row_ok tabOk (dispE_ok (es := [rowE tb (row_semtypebase_Source_Next)]) ⟨rowE_ok tabOk rk_semtypebase_Source_Next, trivial⟩ 3) mixed 8 (fn := Go.Proofs.Tryz.f109) (cd := cdOf Go.Proofs.Tryz.f109) (H := H_semtypebase_Source_Number) (rl := [.tmp 2]) Go.Proofs.Tryz.func109 (by kernel_rfl) (by kernel_rfl) (by kernel_rfl) (by kernel_rfl) (by kernel_rfl) (by kernel_rfl) (by kernel_rfl)

def H_semtyperef1_Int : Hints I where
  tds := fun i => (asc [] i).getD []
  spl := fun i => (asc [] i).getD []
  pre := fun i => (asc [] i).getD []
  join := asc []
  loop := asc []
  keep := asc []

def row_semtyperef1_Int : Row I := ⟨108, [.d (.int .i64)], [.k (.d (.dat 30))], semtyperef1_Int⟩

theorem rk_semtyperef1_Int  : RowOk Go.Proofs.Tryz.prog (row_semtyperef1_Int) :=
  row_ok tabOk (dispE_ok (es := []) trivial 3) mixed 5 (fn := Go.Proofs.Tryz.f108) (cd := cdOf Go.Proofs.Tryz.f108) (H := H_semtyperef1_Int) (rl := [.cell 2 30]) Go.Proofs.Tryz.func108 (by kernel_rfl) (by kernel_rfl) (by kernel_rfl) (by kernel_rfl) (by kernel_rfl) (by kernel_rfl) (by kernel_rfl)

def H_semtypebase_Source_AtomName : Hints I where
  tds := fun i => (asc [] i).getD []
  spl := fun i => (asc [] i).getD []
  pre := fun i => (asc [] i).getD []
  join := asc []
  loop := asc []
  keep := asc []

def row_semtypebase_Source_AtomName : Row I := ⟨111, [.var 40 (.k (.d (.dat 40))) true], [.k (.d (.str))], semtypebase_Source_AtomName⟩

theorem rk_semtypebase_Source_AtomName  : RowOk Go.Proofs.Tryz.prog (row_semtypebase_Source_AtomName) :=
  row_ok tabOk (dispE_ok (es := [rowE tb (row_semtypebase_Source_Next)]) ⟨rowE_ok tabOk rk_semtypebase_Source_Next, trivial⟩ 3) mixed 8 (fn := Go.Proofs.Tryz.f111) (cd := cdOf Go.Proofs.Tryz.f111) (H := H_semtypebase_Source_AtomName) (rl := [.tmp 2]) Go.Proofs.Tryz.func111 (by kernel_rfl) (by kernel_rfl) (by kernel_rfl) (by kernel_rfl) (by kernel_rfl) (by kernel_rfl) (by kernel_rfl)

def H_semtyperef1_Atom : Hints I where
  tds := fun i => (asc [] i).getD []
  spl := fun i => (asc [] i).getD []
  pre := fun i => (asc [] i).getD []
  join := asc []
  loop := asc []
  keep := asc []

def row_semtyperef1_Atom : Row I := ⟨110, [.d (.str)], [.k (.d (.dat 30))], semtyperef1_Atom⟩

theorem rk_semtyperef1_Atom  : RowOk Go.Proofs.Tryz.prog (row_semtyperef1_Atom) :=
  row_ok tabOk (dispE_ok (es := []) trivial 3) mixed 5 (fn := Go.Proofs.Tryz.f110) (cd := cdOf Go.Proofs.Tryz.f110) (H := H_semtyperef1_Atom) (rl := [.cell 2 30]) Go.Proofs.Tryz.func110 (by kernel_rfl) (by kernel_rfl) (by kernel_rfl) (by kernel_rfl) (by kernel_rfl) (by kernel_rfl) (by kernel_rfl)

def H_semtypebase_Source_Word : Hints I where
  tds := fun i => (asc [] i).getD []
  spl := fun i => (asc [] i).getD []
  pre := fun i => (asc [] i).getD []
  join := asc []
  loop := asc []
  keep := asc []

def row_semtypebase_Source_Word : Row I := ⟨113, [.var 40 (.k (.d (.dat 40))) true], [.k (.d (.str))], semtypebase_Source_Word⟩

theorem rk_semtypebase_Source_Word  : RowOk Go.Proofs.Tryz.prog (row_semtypebase_Source_Word) :=
  row_ok tabOk (dispE_ok (es := [rowE tb (row_semtypebase_Source_Next)]) ⟨rowE_ok tabOk rk_semtypebase_Source_Next, trivial⟩ 3) mixed 8 (fn := Go.Proofs.Tryz.f113) (cd := cdOf Go.Proofs.Tryz.f113) (H := H_semtypebase_Source_Word) (rl := [.tmp 2]) Go.Proofs.Tryz.func113 (by kernel_rfl) (by kernel_rfl) (by kernel_rfl) (by kernel_rfl) (by kernel_rfl) (by kernel_rfl) (by kernel_rfl)

def H_semtyperef1_String : Hints I where
  tds := fun i => (asc [] i).getD []
  spl := fun i => (asc [] i).getD []
  pre := fun i => (asc [] i).getD []
  join := asc []
  loop := asc []
  keep := asc []

def row_semtyperef1_String : Row I := ⟨112, [.d (.str)], [.k (.d (.dat 30))], semtyperef1_String⟩

theorem rk_semtyperef1_String  : RowOk Go.Proofs.Tryz.prog (row_semtyperef1_String) :=
  row_ok tabOk (dispE_ok (es := []) trivial 3) mixed 5 (fn := Go.Proofs.Tryz.f112) (cd := cdOf Go.Proofs.Tryz.f112) (H := H_semtyperef1_String) (rl := [.cell 2 30]) Go.Proofs.Tryz.func112 (by kernel_rfl) (by kernel_rfl) (by kernel_rfl) (by kernel_rfl) (by kernel_rfl) (by kernel_rfl) (by kernel_rfl)

def H_semtyperef1_Pid : Hints I where
  tds := fun i => (asc [] i).getD []
  spl := fun i => (asc [] i).getD []
  pre := fun i => (asc [] i).getD []
  join := asc []
  loop := asc []
  keep := asc []

def row_semtyperef1_Pid : Row I := ⟨114, [.d (.int .i64)], [.k (.d (.dat 30))], semtyperef1_Pid⟩

theorem rk_semtyperef1_Pid  : RowOk Go.Proofs.Tryz.prog (row_semtyperef1_Pid) :=
  row_ok tabOk (dispE_ok (es := []) trivial 3) mixed 5 (fn := Go.Proofs.Tryz.f114) (cd := cdOf Go.Proofs.Tryz.f114) (H := H_semtyperef1_Pid) (rl := [.cell 2 30]) Go.Proofs.Tryz.func114 (by kernel_rfl) (by kernel_rfl) (by kernel_rfl) (by kernel_rfl) (by kernel_rfl) (by kernel_rfl) (by kernel_rfl)

def H_semtyperef1_Nil : Hints I where
  tds := fun i => (asc [] i).getD []
  spl := fun i => (asc [] i).getD []
  pre := fun i => (asc [] i).getD []
  join := asc []
  loop := asc []
  keep := asc []

def row_semtyperef1_Nil : Row I := ⟨70, [], [.k (.d (.dat 30))], semtyperef1_Nil⟩

theorem rk_semtyperef1_Nil  : RowOk Go.Proofs.Tryz.prog (row_semtyperef1_Nil) :=
  row_ok tabOk (dispE_ok (es := []) trivial 3) mixed 2 (fn := Go.Proofs.Tryz.f70) (cd := cdOf Go.Proofs.Tryz.f70) (H := H_semtyperef1_Nil) (rl := [.cell 0 30]) Go.Proofs.Tryz.func70 (by kernel_rfl) (by kernel_rfl) (by kernel_rfl) (by kernel_rfl) (by kernel_rfl) (by kernel_rfl) (by kernel_rfl)

def H_semtyperef1_copies : Hints I where
  tds := fun i => (asc [] i).getD []
  spl := fun i => (asc [] i).getD []
  pre := fun i => (asc [] i).getD []
  join := asc []
  loop := asc []
  keep := asc []

def row_semtyperef1_copies : Row I := ⟨34, [.d (.sl 30)], [.k (.row 30 false)], semtyperef1_copies⟩

theorem rk_semtyperef1_copies  : RowOk Go.Proofs.Tryz.prog (row_semtyperef1_copies) :=
  row_ok tabOk (dispE_ok (es := []) trivial 3) mixed 5 (fn := Go.Proofs.Tryz.f34) (cd := cdOf Go.Proofs.Tryz.f34) (H := H_semtyperef1_copies) (rl := [.tmp 2]) Go.Proofs.Tryz.func34 (by kernel_rfl) (by kernel_rfl) (by kernel_rfl) (by kernel_rfl) (by kernel_rfl) (by kernel_rfl) (by kernel_rfl)

def H_semtyperef1_Tuple : Hints I where
  tds := fun i => (asc [] i).getD []
  spl := fun i => (asc [] i).getD []
  pre := fun i => (asc [] i).getD []
  join := asc []
  loop := asc []
  keep := asc []

def row_semtyperef1_Tuple : Row I := ⟨69, [.d (.sl 30)], [.k (.d (.dat 30))], semtyperef1_Tuple⟩

theorem rk_semtyperef1_Tuple  : RowOk Go.Proofs.Tryz.prog (row_semtyperef1_Tuple) :=
  row_ok tabOk (dispE_ok (es := [rowE tb (row_semtyperef1_copies)]) ⟨rowE_ok tabOk rk_semtyperef1_copies, trivial⟩ 3) mixed 6 (fn := Go.Proofs.Tryz.f69) (cd := cdOf Go.Proofs.Tryz.f69) (H := H_semtyperef1_Tuple) (rl := [.cell 2 30]) Go.Proofs.Tryz.func69 (by kernel_rfl) (by kernel_rfl) (by kernel_rfl) (by kernel_rfl) (by kernel_rfl) (by kernel_rfl) (by kernel_rfl)

def H_semtypebase_Source_leaf : Hints I where
  tds := fun i => (asc [] i).getD []
  spl := fun i => (asc [] i).getD []
  pre := fun i => (asc [] i).getD []
  join := asc []
  loop := asc []
  keep := asc []

def row_semtypebase_Source_leaf : Row I := ⟨67, [.var 40 (.k (.d (.dat 40))) true], [.k (.d (.dat 30))], semtypebase_Source_leaf⟩

theorem rk_semtypebase_Source_leaf  : RowOk Go.Proofs.Tryz.prog (row_semtypebase_Source_leaf) :=
  row_ok tabOk (dispE_ok (es := [rowE tb (row_semtypebase_Source_Next), rowE tb (row_semtypebase_Source_Number), rowE tb (row_semtyperef1_Int), rowE tb (row_semtypebase_Source_AtomName), rowE tb (row_semtyperef1_Atom), rowE tb (row_semtypebase_Source_Word), rowE tb (row_semtyperef1_String), rowE tb (row_semtyperef1_Pid), rowE tb (row_semtyperef1_Nil), rowE tb (row_semtyperef1_Tuple)]) ⟨rowE_ok tabOk rk_semtypebase_Source_Next, ⟨rowE_ok tabOk rk_semtypebase_Source_Number, ⟨rowE_ok tabOk rk_semtyperef1_Int, ⟨rowE_ok tabOk rk_semtypebase_Source_AtomName, ⟨rowE_ok tabOk rk_semtyperef1_Atom, ⟨rowE_ok tabOk rk_semtypebase_Source_Word, ⟨rowE_ok tabOk rk_semtyperef1_String, ⟨rowE_ok tabOk rk_semtyperef1_Pid, ⟨rowE_ok tabOk rk_semtyperef1_Nil, ⟨rowE_ok tabOk rk_semtyperef1_Tuple, trivial⟩⟩⟩⟩⟩⟩⟩⟩⟩⟩ 3) mixed 29 (fn := Go.Proofs.Tryz.f67) (cd := cdOf Go.Proofs.Tryz.f67) (H := H_semtypebase_Source_leaf) (rl := [.cell 2 30]) Go.Proofs.Tryz.func67 (by kernel_rfl) (by kernel_rfl) (by kernel_rfl) (by kernel_rfl) (by kernel_rfl) (by kernel_rfl) (by kernel_rfl)

def H_semtyperef1_Cons : Hints I where
  tds := fun i => (asc [] i).getD []
  spl := fun i => (asc [] i).getD []
  pre := fun i => (asc [] i).getD []
  join := asc []
  loop := asc []
  keep := asc []

def row_semtyperef1_Cons : Row I := ⟨71, [.d (.dat 30), .d (.dat 30)], [.k (.d (.dat 30))], semtyperef1_Cons⟩

theorem rk_semtyperef1_Cons  : RowOk Go.Proofs.Tryz.prog (row_semtyperef1_Cons) :=
  row_ok tabOk (dispE_ok (es := []) trivial 3) mixed 9 (fn := Go.Proofs.Tryz.f71) (cd := cdOf Go.Proofs.Tryz.f71) (H := H_semtyperef1_Cons) (rl := [.cell 4 30]) Go.Proofs.Tryz.func71 (by kernel_rfl) (by kernel_rfl) (by kernel_rfl) (by kernel_rfl) (by kernel_rfl) (by kernel_rfl) (by kernel_rfl)

def H_semtypebase_Source_Label : Hints I where
  tds := fun i => (asc [] i).getD []
  spl := fun i => (asc [] i).getD []
  pre := fun i => (asc [] i).getD []
  join := asc []
  loop := asc []
  keep := asc []

def row_semtypebase_Source_Label : Row I := ⟨74, [.var 40 (.k (.d (.dat 40))) true], [.k (.d (.str))], semtypebase_Source_Label⟩

theorem rk_semtypebase_Source_Label  : RowOk Go.Proofs.Tryz.prog (row_semtypebase_Source_Label) :=
  row_ok tabOk (dispE_ok (es := [rowE tb (row_semtypebase_Source_Next)]) ⟨rowE_ok tabOk rk_semtypebase_Source_Next, trivial⟩ 3) mixed 8 (fn := Go.Proofs.Tryz.f74) (cd := cdOf Go.Proofs.Tryz.f74) (H := H_semtypebase_Source_Label) (rl := [.tmp 2]) Go.Proofs.Tryz.func74 (by kernel_rfl) (by kernel_rfl) (by kernel_rfl) (by kernel_rfl) (by kernel_rfl) (by kernel_rfl) (by kernel_rfl)

def H_semtyperef1_Sorted : Hints I where
  tds := fun i => (asc [(6, [[], [], [1], [0, 1, 2], [0, 1, 2, 3], [0, 1, 2, 3, 4], [0, 1, 2, 3, 4], [0, 1, 2, 3, 4, 5, 6], [0, 1, 2, 3, 4, 5, 6, 7], [0, 1, 2, 3, 4], [0, 1, 2, 3, 4], [0, 1, 2, 3, 4, 9, 10], [0, 1, 2, 3, 4, 9, 10, 11], [0, 1, 2, 3, 4, 5, 6, 7, 8, 9, 10, 11, 12], [0, 1, 2, 3, 4, 5, 6, 7, 8, 9, 10, 11, 12, 13]]), (8, [[], [], [1], [0, 1, 2], [0, 1, 2, 3], [0, 1, 2, 3, 4], [0, 1, 2, 3, 4], [0, 1, 2, 3, 4, 5, 6], [0, 1, 2, 3, 4, 5, 6, 7], [0, 1, 2, 3, 4], [0, 1, 2, 3, 4], [0, 1, 2, 3, 4, 9, 10], [0, 1, 2, 3, 4, 9, 10, 11], [0, 1, 2, 3, 4, 5, 6, 7, 8, 9, 10, 11, 12], [0, 1, 2, 3, 4, 5, 6, 7, 8, 9, 10, 11, 12, 13]]), (10, [[], [], [], [1, 2], [1, 2, 3], [1, 2, 3, 4], [0, 1, 2, 3, 4, 5], [], [], [7, 8], [0, 1, 2, 3, 4, 5, 6, 7, 8, 9], [0, 1, 2, 3, 4, 5, 6, 7, 8, 9, 10]])] i).getD []
  spl := fun i => (asc [] i).getD []
  pre := fun i => (asc [] i).getD []
  join := asc [(466, ⟨1152921504606838888, [], [], [(.normal, [(3, .k (.d (.sl 9)))])]⟩)]
  loop := asc [(58, ⟨1152921504606846968, [], [], [(3, .k (.d (.sl 9))), (4, .k (.d (.int .i64)))], [((.exit 0), [(3, .k (.d (.sl 9)))])], bnd tb (.len (.slot 0)) 1⟩),
    (7460, ⟨1073733664, [3], [], [(5, .k (.d (.int .i64)))], [((.exit 2), [(5, .k (.d (.int .i64)))])], bnd tb (.len (.slot 3)) 1⟩)]
  keep := asc []

def row_semtyperef1_Sorted : Row I := ⟨50, [.d (.sl 9)], [.k (.d (.sl 9))], semtyperef1_Sorted⟩

theorem rk_semtyperef1_Sorted  : RowOk Go.Proofs.Tryz.prog (row_semtyperef1_Sorted) :=
  row_ok tabOk (dispE_ok (es := []) trivial 3) mixed 61 (fn := Go.Proofs.Tryz.f50) (cd := cdOf Go.Proofs.Tryz.f50) (H := H_semtyperef1_Sorted) (rl := [.tmp 2]) Go.Proofs.Tryz.func50 (by kernel_rfl) (by kernel_rfl) (by kernel_rfl) (by kernel_rfl) (by kernel_rfl) (by kernel_rfl) (by kernel_rfl)

def H_semtypebase_Source_Labels : Hints I where
  tds := fun i => (asc [] i).getD []
  spl := fun i => (asc [] i).getD []
  pre := fun i => (asc [] i).getD []
  join := asc [(29, ⟨1048456, [], [(0, .k (.d (.dat 40)))], [(.normal, [(3, .k (.row 9 false))])]⟩)]
  loop := asc []
  keep := asc []

def row_semtypebase_Source_Labels : Row I := ⟨38, [.var 40 (.k (.d (.dat 40))) true], [.k (.d (.sl 9))], semtypebase_Source_Labels⟩

theorem rk_semtypebase_Source_Labels  : RowOk Go.Proofs.Tryz.prog (row_semtypebase_Source_Labels) :=
  row_ok tabOk (dispE_ok (es := [rowE tb (row_semtypebase_Source_Next), rowE tb (row_semtypebase_Source_Label), rowE tb (row_semtyperef1_Sorted)]) ⟨rowE_ok tabOk rk_semtypebase_Source_Next, ⟨rowE_ok tabOk rk_semtypebase_Source_Label, ⟨rowE_ok tabOk rk_semtyperef1_Sorted, trivial⟩⟩⟩ 3) mixed 22 (fn := Go.Proofs.Tryz.f38) (cd := cdOf Go.Proofs.Tryz.f38) (H := H_semtypebase_Source_Labels) (rl := [.tmp 2]) Go.Proofs.Tryz.func38 (by kernel_rfl) (by kernel_rfl) (by kernel_rfl) (by kernel_rfl) (by kernel_rfl) (by kernel_rfl) (by kernel_rfl)

def H_semtypebase_Source_Key : Hints I where
  tds := fun i => (asc [] i).getD []
  spl := fun i => (asc [] i).getD []
  pre := fun i => (asc [] i).getD []
  join := asc []
  loop := asc []
  keep := asc []

def row_semtypebase_Source_Key : Row I := ⟨72, [.var 40 (.k (.d (.dat 40))) true], [.k (.d (.dat 58))], semtypebase_Source_Key⟩

theorem rk_semtypebase_Source_Key  : RowOk Go.Proofs.Tryz.prog (row_semtypebase_Source_Key) :=
  row_ok tabOk (dispE_ok (es := [rowE tb (row_semtypebase_Source_Next), rowE tb (row_semtypebase_Source_AtomName), rowE tb (row_semtypebase_Source_Word)]) ⟨rowE_ok tabOk rk_semtypebase_Source_Next, ⟨rowE_ok tabOk rk_semtypebase_Source_AtomName, ⟨rowE_ok tabOk rk_semtypebase_Source_Word, trivial⟩⟩⟩ 3) mixed 12 (fn := Go.Proofs.Tryz.f72) (cd := cdOf Go.Proofs.Tryz.f72) (H := H_semtypebase_Source_Key) (rl := [.cell 2 58]) Go.Proofs.Tryz.func72 (by kernel_rfl) (by kernel_rfl) (by kernel_rfl) (by kernel_rfl) (by kernel_rfl) (by kernel_rfl) (by kernel_rfl)

def H_semtyperef1_lower : Hints I where
  tds := fun i => (asc [] i).getD []
  spl := fun i => (asc [] i).getD []
  pre := fun i => (asc [] i).getD []
  join := asc []
  loop := asc []
  keep := asc []

def row_semtyperef1_lower : Row I := ⟨47, [.d (.int .u8)], [.k (.d (.bool))], semtyperef1_lower⟩

theorem rk_semtyperef1_lower  : RowOk Go.Proofs.Tryz.prog (row_semtyperef1_lower) :=
  row_ok tabOk (dispE_ok (es := []) trivial 3) mixed 9 (fn := Go.Proofs.Tryz.f47) (cd := cdOf Go.Proofs.Tryz.f47) (H := H_semtyperef1_lower) (rl := [.tmp 2]) Go.Proofs.Tryz.func47 (by kernel_rfl) (by kernel_rfl) (by kernel_rfl) (by kernel_rfl) (by kernel_rfl) (by kernel_rfl) (by kernel_rfl)

def H_semtyperef1_digit : Hints I where
  tds := fun i => (asc [] i).getD []
  spl := fun i => (asc [] i).getD []
  pre := fun i => (asc [] i).getD []
  join := asc []
  loop := asc []
  keep := asc []

def row_semtyperef1_digit : Row I := ⟨48, [.d (.int .u8)], [.k (.d (.bool))], semtyperef1_digit⟩

theorem rk_semtyperef1_digit  : RowOk Go.Proofs.Tryz.prog (row_semtyperef1_digit) :=
  row_ok tabOk (dispE_ok (es := []) trivial 3) mixed 9 (fn := Go.Proofs.Tryz.f48) (cd := cdOf Go.Proofs.Tryz.f48) (H := H_semtyperef1_digit) (rl := [.tmp 2]) Go.Proofs.Tryz.func48 (by kernel_rfl) (by kernel_rfl) (by kernel_rfl) (by kernel_rfl) (by kernel_rfl) (by kernel_rfl) (by kernel_rfl)

def H_semtyperef1_IsAtom : Hints I where
  tds := fun i => (asc [] i).getD []
  spl := fun i => (asc [] i).getD []
  pre := fun i => (asc [] i).getD []
  join := asc []
  loop := asc [(58, ⟨4398046248972, [], [], [(3, .k (.d (.int .i64)))], [((.exit 0), []), (.ret, [(2, .k (.d (.bool)))])], bnd tb (.len (.slot 0)) 1⟩)]
  keep := asc []

def row_semtyperef1_IsAtom : Row I := ⟨60, [.d (.str)], [.k (.d (.bool))], semtyperef1_IsAtom⟩

theorem rk_semtyperef1_IsAtom  : RowOk Go.Proofs.Tryz.prog (row_semtyperef1_IsAtom) :=
  row_ok tabOk (dispE_ok (es := [rowE tb (row_semtyperef1_lower), rowE tb (row_semtyperef1_digit)]) ⟨rowE_ok tabOk rk_semtyperef1_lower, ⟨rowE_ok tabOk rk_semtyperef1_digit, trivial⟩⟩ 3) mixed 42 (fn := Go.Proofs.Tryz.f60) (cd := cdOf Go.Proofs.Tryz.f60) (H := H_semtyperef1_IsAtom) (rl := [.tmp 2]) Go.Proofs.Tryz.func60 (by kernel_rfl) (by kernel_rfl) (by kernel_rfl) (by kernel_rfl) (by kernel_rfl) (by kernel_rfl) (by kernel_rfl)

def H_semtyperef1_ValidKey : Hints I where
  tds := fun i => (asc [] i).getD []
  spl := fun i => (asc [] i).getD []
  pre := fun i => (asc [] i).getD []
  join := asc []
  loop := asc []
  keep := asc []

def row_semtyperef1_ValidKey : Row I := ⟨32, [.d (.dat 58)], [.k (.d (.bool))], semtyperef1_ValidKey⟩

theorem rk_semtyperef1_ValidKey  : RowOk Go.Proofs.Tryz.prog (row_semtyperef1_ValidKey) :=
  row_ok tabOk (dispE_ok (es := [rowE tb (row_semtyperef1_IsAtom)]) ⟨rowE_ok tabOk rk_semtyperef1_IsAtom, trivial⟩ 3) mixed 22 (fn := Go.Proofs.Tryz.f32) (cd := cdOf Go.Proofs.Tryz.f32) (H := H_semtyperef1_ValidKey) (rl := [.tmp 2]) Go.Proofs.Tryz.func32 (by kernel_rfl) (by kernel_rfl) (by kernel_rfl) (by kernel_rfl) (by kernel_rfl) (by kernel_rfl) (by kernel_rfl)

def H_semtyperef1_Order : Hints I where
  tds := fun i => (asc [] i).getD []
  spl := fun i => (asc [] i).getD []
  pre := fun i => (asc [] i).getD []
  join := asc []
  loop := asc []
  keep := asc []

def row_semtyperef1_Order : Row I := ⟨61, [.d (.int .i64), .d (.int .i64)], [.k (.d (.int .i64))], semtyperef1_Order⟩

theorem rk_semtyperef1_Order  : RowOk Go.Proofs.Tryz.prog (row_semtyperef1_Order) :=
  row_ok tabOk (dispE_ok (es := []) trivial 3) mixed 11 (fn := Go.Proofs.Tryz.f61) (cd := cdOf Go.Proofs.Tryz.f61) (H := H_semtyperef1_Order) (rl := [.tmp 4]) Go.Proofs.Tryz.func61 (by kernel_rfl) (by kernel_rfl) (by kernel_rfl) (by kernel_rfl) (by kernel_rfl) (by kernel_rfl) (by kernel_rfl)

def H_semtyperef1_Text : Hints I where
  tds := fun i => (asc [] i).getD []
  spl := fun i => (asc [] i).getD []
  pre := fun i => (asc [] i).getD []
  join := asc []
  loop := asc []
  keep := asc []

def row_semtyperef1_Text : Row I := ⟨62, [.d (.str), .d (.str)], [.k (.d (.int .i64))], semtyperef1_Text⟩

theorem rk_semtyperef1_Text  : RowOk Go.Proofs.Tryz.prog (row_semtyperef1_Text) :=
  row_ok tabOk (dispE_ok (es := []) trivial 3) mixed 11 (fn := Go.Proofs.Tryz.f62) (cd := cdOf Go.Proofs.Tryz.f62) (H := H_semtyperef1_Text) (rl := [.tmp 4]) Go.Proofs.Tryz.func62 (by kernel_rfl) (by kernel_rfl) (by kernel_rfl) (by kernel_rfl) (by kernel_rfl) (by kernel_rfl) (by kernel_rfl)

def H_semtyperef1_CompareKeys : Hints I where
  tds := fun i => (asc [] i).getD []
  spl := fun i => (asc [] i).getD []
  pre := fun i => (asc [] i).getD []
  join := asc []
  loop := asc []
  keep := asc []

def row_semtyperef1_CompareKeys : Row I := ⟨33, [.d (.dat 58), .d (.dat 58)], [.k (.d (.int .i64))], semtyperef1_CompareKeys⟩

theorem rk_semtyperef1_CompareKeys  : RowOk Go.Proofs.Tryz.prog (row_semtyperef1_CompareKeys) :=
  row_ok tabOk (dispE_ok (es := [rowE tb (row_semtyperef1_Order), rowE tb (row_semtyperef1_Text)]) ⟨rowE_ok tabOk rk_semtyperef1_Order, ⟨rowE_ok tabOk rk_semtyperef1_Text, trivial⟩⟩ 3) mixed 20 (fn := Go.Proofs.Tryz.f33) (cd := cdOf Go.Proofs.Tryz.f33) (H := H_semtyperef1_CompareKeys) (rl := [.tmp 4]) Go.Proofs.Tryz.func33 (by kernel_rfl) (by kernel_rfl) (by kernel_rfl) (by kernel_rfl) (by kernel_rfl) (by kernel_rfl) (by kernel_rfl)

def H_semtyperef1_Map : Hints I where
  tds := fun i => (asc [(13, [[], [], [1], [1, 2], [0, 1, 2, 3], [0, 1, 2, 3, 4], [0, 1, 2, 3, 4, 5], [0, 1, 2, 3, 4, 5, 6], [0, 1, 2, 3, 4, 5], [0, 1, 2, 3, 4, 5, 6, 7, 8], [0, 1, 2, 3, 4, 5, 6, 7, 8, 9], [0, 1, 2, 3, 4, 5], [0, 1, 2, 3, 4, 5], [0, 1, 2, 3, 4, 5, 11, 12], [0, 1, 2, 3, 4, 5, 11, 12, 13], [0, 1, 2, 3, 4, 5, 6, 7, 8, 9, 10, 11, 12, 13, 14], [0, 1, 2, 3, 4, 5, 6, 7, 8, 9, 10, 11, 12, 13, 14, 15], [0, 1, 2, 3, 4, 5, 6, 7, 8, 9, 10, 11, 12, 13, 14, 15, 16]]), (15, [[], [], [1], [1, 2], [0, 1, 2, 3], [0, 1, 2, 3, 4], [0, 1, 2, 3, 4, 5], [0, 1, 2, 3, 4, 5, 6], [0, 1, 2, 3, 4, 5], [0, 1, 2, 3, 4, 5, 6, 7, 8], [0, 1, 2, 3, 4, 5, 6, 7, 8, 9], [0, 1, 2, 3, 4, 5], [0, 1, 2, 3, 4, 5], [0, 1, 2, 3, 4, 5, 11, 12], [0, 1, 2, 3, 4, 5, 11, 12, 13], [0, 1, 2, 3, 4, 5, 6, 7, 8, 9, 10, 11, 12, 13, 14], [0, 1, 2, 3, 4, 5, 6, 7, 8, 9, 10, 11, 12, 13, 14, 15]]), (17, [[], [0], [], [0, 1, 2], [0, 1, 2, 3], [], [5], [], [5, 6, 7], [0, 1, 2, 3, 4, 5, 6, 7, 8], [0, 1, 2, 3, 4, 5, 6, 7, 8, 9], [0, 1, 2, 3, 4, 5, 6, 7, 8, 9, 10]]), (18, [[], [], [], [1, 2], [1, 2, 3], [1, 2, 3, 4], [0, 1, 2, 3, 4, 5], [], [7], [], [7, 8, 9], [0, 1, 2, 3, 4, 5, 6, 7, 8, 9, 10], [0, 1, 2, 3, 4, 5, 6, 7, 8, 9, 10, 11], [0, 1, 2, 3, 4, 5, 6, 7, 8, 9, 10, 11, 12]]), (19, [[], [], [], [1, 2], [1, 2, 3], [1, 2, 3, 4], [0, 1, 2, 3, 4, 5], [], [7], [], [7, 8, 9], [0, 1, 2, 3, 4, 5, 6, 7, 8, 9, 10], [0, 1, 2, 3, 4, 5, 6, 7, 8, 9, 10, 11], [0, 1, 2, 3, 4, 5, 6, 7, 8, 9, 10, 11, 12]])] i).getD []
  spl := fun i => (asc [] i).getD []
  pre := fun i => (asc [] i).getD []
  join := asc []
  loop := asc [(58, ⟨2147221600, [], [(4, .lvs [.d (.int .i64), .d (.int .i64), .d (.str), .row 30 false, .row 58 false, .row 43 false, .row 9 false])], [(6, .k (.d (.int .i64)))], [((.exit 0), []), (.ret, [(5, .k (.d (.int .i64)))])], bnd tb (.len (.slot 0)) 1⟩),
    (250, ⟨5192296858534827628530492034256672, [7], [(4, .lvs [.d (.int .i64), .d (.int .i64), .d (.str), .row 30 false, .row 58 false, .row 43 false, .row 9 false]), (7, .lvs [.d (.int .i64), .d (.int .i64), .d (.str), .d (.sl 30), .d (.sl 58), .row 43 true, .row 9 true])], [(8, .k (.d (.int .i64)))], [((.exit 2), []), (.ret, [(5, .k (.d (.int .i64)))])], bnd tb (.len (.slot 0)) 1⟩),
    (32036, ⟨288230101273805312, [7], [], [(9, .k (.d (.int .i64)))], [((.exit 4), [(9, .k (.d (.int .i64)))])], bnd tb (.len (.ld 22 (.fld 30 4 (.slot 7)))) 1⟩)]
  keep := asc []

def row_semtyperef1_Map : Row I := ⟨9, [.d (.sl 58), .d (.sl 30)], [.k (.d (.dat 30)), .k (.d (.int .i64))], semtyperef1_Map⟩

theorem rk_semtyperef1_Map  : RowOk Go.Proofs.Tryz.prog (row_semtyperef1_Map) :=
  row_ok tabOk (dispE_ok (es := [rowE tb (row_semtyperef1_ValidKey), rowE tb (row_semtyperef1_CompareKeys), rowE tb (row_semtyperef1_copies)]) ⟨rowE_ok tabOk rk_semtyperef1_ValidKey, ⟨rowE_ok tabOk rk_semtyperef1_CompareKeys, ⟨rowE_ok tabOk rk_semtyperef1_copies, trivial⟩⟩⟩ 3) mixed 113 (fn := Go.Proofs.Tryz.f9) (cd := cdOf Go.Proofs.Tryz.f9) (H := H_semtyperef1_Map) (rl := [.cell 4 30, .tmp 5]) Go.Proofs.Tryz.func9 (by kernel_rfl) (by kernel_rfl) (by kernel_rfl) (by kernel_rfl) (by kernel_rfl) (by kernel_rfl) (by kernel_rfl)

def H_semtyperef1_count : Hints I where
  tds := fun i => (asc [] i).getD []
  spl := fun i => (asc [] i).getD []
  pre := fun i => (asc [] i).getD []
  join := asc []
  loop := asc []
  keep := asc []

def row_semtyperef1_count : Row I := ⟨63, [.d (.int .i64), .d (.int .i64)], [.k (.d (.int .i64))], semtyperef1_count⟩

theorem rk_semtyperef1_count  : RowOk Go.Proofs.Tryz.prog (row_semtyperef1_count) :=
  row_ok tabOk (dispE_ok (es := [rowE tb (row_semtyperef1_Order)]) ⟨rowE_ok tabOk rk_semtyperef1_Order, trivial⟩ 3) mixed 8 (fn := Go.Proofs.Tryz.f63) (cd := cdOf Go.Proofs.Tryz.f63) (H := H_semtyperef1_count) (rl := [.tmp 4]) Go.Proofs.Tryz.func63 (by kernel_rfl) (by kernel_rfl) (by kernel_rfl) (by kernel_rfl) (by kernel_rfl) (by kernel_rfl) (by kernel_rfl)

def H_semtyperef1_Compare (n : Nat) : Hints I where
  tds := fun i => (asc [(12, [[], [0], [], [0, 1, 2], [0, 1, 2, 3], [], [5], [], [5, 6, 7], [5, 6, 7, 8], [0, 1, 2, 3, 4, 5, 6, 7, 8, 9], [0, 1, 2, 3, 4, 5, 6, 7, 8, 9, 10]]), (23, [[], [0], [], [0, 1, 2], [0, 1, 2, 3], [], [5], [], [5, 6, 7], [5, 6, 7, 8], [0, 1, 2, 3, 4, 5, 6, 7, 8, 9], [0, 1, 2, 3, 4, 5, 6, 7, 8, 9, 10]]), (31, [[], [0], [], [0, 1, 2], [0, 1, 2, 3], [], [5], [], [5, 6, 7], [5, 6, 7, 8], [0, 1, 2, 3, 4, 5, 6, 7, 8, 9], [0, 1, 2, 3, 4, 5, 6, 7, 8, 9, 10]])] i).getD []
  spl := fun i => (asc [] i).getD []
  pre := fun i => (asc [] i).getD []
  join := asc []
  loop := asc [(506, ⟨151115655394234608910448, [], [], [(5, .k (.d (.int .i64)))], [((.exit 0), []), (.ret, [(4, .k (.d (.int .i64)))])], bnd tb (.len (.ld 22 (.fld 30 4 (.slot 2)))) 1⟩),
    (8186, ⟨1329227361959615758789106311928742672, [], [], [(8, .k (.d (.int .i64)))], [((.exit 2), []), (.ret, [(4, .k (.d (.int .i64)))])], bnd tb (.len (.ld 27 (.fld 30 5 (.slot 2)))) 1⟩),
    (32762, ⟨45671904388519233253803489366408968731082361872, [], [], [(10, .k (.d (.int .i64)))], [((.exit 4), []), (.ret, [(4, .k (.d (.int .i64)))])], bnd tb (.len (.ld 28 (.fld 30 6 (.slot 2)))) 1⟩)]
  keep := asc []

def row_semtyperef1_Compare (n : Nat) : Row I := ⟨35, [.d (.dat 30), .d (.dat 30)], [.k (.d (.int .i64))], semtyperef1_Compare n⟩

def H_semtyperef1_values (n : Nat) : Hints I where
  tds := fun i => (asc [(6, [[], [], [0, 1], [0, 1, 2], [], [], [4, 5], [4, 5, 6], [0, 1, 2, 3, 4, 5, 6, 7], [0, 1, 2, 3, 4, 5, 6, 7, 8]])] i).getD []
  spl := fun i => (asc [] i).getD []
  pre := fun i => (asc [] i).getD []
  join := asc []
  loop := asc [(58, ⟨34359607408, [], [], [(5, .k (.d (.int .i64)))], [((.exit 0), []), (.ret, [(4, .k (.d (.int .i64)))])], bnd tb (.len (.slot 0)) 1⟩)]
  keep := asc []

def row_semtyperef1_values (n : Nat) : Row I := ⟨64, [.d (.sl 30), .d (.sl 30)], [.k (.d (.int .i64))], semtyperef1_values n⟩

def H_semtyperef1_CompareEntries (n : Nat) : Hints I where
  tds := fun i => (asc [] i).getD []
  spl := fun i => (asc [] i).getD []
  pre := fun i => (asc [] i).getD []
  join := asc []
  loop := asc []
  keep := asc []

def row_semtyperef1_CompareEntries (n : Nat) : Row I := ⟨65, [.d (.dat 43), .d (.dat 43)], [.k (.d (.int .i64))], semtyperef1_CompareEntries n⟩

theorem rkB_semtyperef1_Compare (n : Nat) (h_semtyperef1_Compare : RowOk Go.Proofs.Tryz.prog (row_semtyperef1_Compare n)) (h_semtyperef1_values : RowOk Go.Proofs.Tryz.prog (row_semtyperef1_values n)) (h_semtyperef1_CompareEntries : RowOk Go.Proofs.Tryz.prog (row_semtyperef1_CompareEntries n)) : RowOk Go.Proofs.Tryz.prog (row_semtyperef1_Compare (n + 1)) :=
  row_ok tabOk (dispE_ok (es := [rowE tb (row_semtyperef1_count), rowE tb (row_semtyperef1_Order), rowE tb (row_semtyperef1_Text), rowE tb (row_semtyperef1_CompareKeys), rowE tb (row_semtyperef1_values n), rowE tb (row_semtyperef1_CompareEntries n)]) ⟨rowE_ok tabOk rk_semtyperef1_count, ⟨rowE_ok tabOk rk_semtyperef1_Order, ⟨rowE_ok tabOk rk_semtyperef1_Text, ⟨rowE_ok tabOk rk_semtyperef1_CompareKeys, ⟨rowE_ok tabOk h_semtyperef1_values, ⟨rowE_ok tabOk h_semtyperef1_CompareEntries, trivial⟩⟩⟩⟩⟩⟩ 3) mixed 155 (fn := Go.Proofs.Tryz.f35) (cd := cdOf Go.Proofs.Tryz.f35) (H := (H_semtyperef1_Compare n)) (rl := [.tmp 4]) Go.Proofs.Tryz.func35 (by kernel_rfl) (by kernel_rfl) (by kernel_rfl) (by kernel_rfl) (by kernel_rfl) (by kernel_rfl) (by kernel_rfl)

theorem rkB_semtyperef1_values (n : Nat) (h_semtyperef1_Compare : RowOk Go.Proofs.Tryz.prog (row_semtyperef1_Compare n)) (h_semtyperef1_values : RowOk Go.Proofs.Tryz.prog (row_semtyperef1_values n)) (h_semtyperef1_CompareEntries : RowOk Go.Proofs.Tryz.prog (row_semtyperef1_CompareEntries n)) : RowOk Go.Proofs.Tryz.prog (row_semtyperef1_values (n + 1)) :=
  row_ok tabOk (dispE_ok (es := [rowE tb (row_semtyperef1_count), rowE tb (row_semtyperef1_Compare n)]) ⟨rowE_ok tabOk rk_semtyperef1_count, ⟨rowE_ok tabOk h_semtyperef1_Compare, trivial⟩⟩ 3) mixed 35 (fn := Go.Proofs.Tryz.f64) (cd := cdOf Go.Proofs.Tryz.f64) (H := (H_semtyperef1_values n)) (rl := [.tmp 4]) Go.Proofs.Tryz.func64 (by kernel_rfl) (by kernel_rfl) (by kernel_rfl) (by kernel_rfl) (by kernel_rfl) (by kernel_rfl) (by kernel_rfl)

theorem rkB_semtyperef1_CompareEntries (n : Nat) (h_semtyperef1_Compare : RowOk Go.Proofs.Tryz.prog (row_semtyperef1_Compare n)) (h_semtyperef1_values : RowOk Go.Proofs.Tryz.prog (row_semtyperef1_values n)) (h_semtyperef1_CompareEntries : RowOk Go.Proofs.Tryz.prog (row_semtyperef1_CompareEntries n)) : RowOk Go.Proofs.Tryz.prog (row_semtyperef1_CompareEntries (n + 1)) :=
  row_ok tabOk (dispE_ok (es := [rowE tb (row_semtyperef1_values n), rowE tb (row_semtyperef1_Compare n)]) ⟨rowE_ok tabOk h_semtyperef1_values, ⟨rowE_ok tabOk h_semtyperef1_Compare, trivial⟩⟩ 3) mixed 26 (fn := Go.Proofs.Tryz.f65) (cd := cdOf Go.Proofs.Tryz.f65) (H := (H_semtyperef1_CompareEntries n)) (rl := [.tmp 4]) Go.Proofs.Tryz.func65 (by kernel_rfl) (by kernel_rfl) (by kernel_rfl) (by kernel_rfl) (by kernel_rfl) (by kernel_rfl) (by kernel_rfl)

theorem rk_scc_semtyperef1_Compare : ∀ n : Nat, RowOk Go.Proofs.Tryz.prog (row_semtyperef1_Compare n) ∧ RowOk Go.Proofs.Tryz.prog (row_semtyperef1_values n) ∧ RowOk Go.Proofs.Tryz.prog (row_semtyperef1_CompareEntries n)
  | 0 => ⟨rowOk_none (by kernel_rfl), rowOk_none (by kernel_rfl), rowOk_none (by kernel_rfl)⟩
  | n + 1 => by
    obtain ⟨h0, h1, h2⟩ := rk_scc_semtyperef1_Compare n
    exact ⟨rkB_semtyperef1_Compare n h0 h1 h2, rkB_semtyperef1_values n h0 h1 h2, rkB_semtyperef1_CompareEntries n h0 h1 h2⟩

theorem rk_semtyperef1_Compare (n : Nat) : RowOk Go.Proofs.Tryz.prog (row_semtyperef1_Compare n) := (rk_scc_semtyperef1_Compare n).1

theorem rk_semtyperef1_values (n : Nat) : RowOk Go.Proofs.Tryz.prog (row_semtyperef1_values n) := (rk_scc_semtyperef1_Compare n).2.1

theorem rk_semtyperef1_CompareEntries (n : Nat) : RowOk Go.Proofs.Tryz.prog (row_semtyperef1_CompareEntries n) := (rk_scc_semtyperef1_Compare n).2.2

def H_semtyperef1_Equal (n : Nat) : Hints I where
  tds := fun i => (asc [] i).getD []
  spl := fun i => (asc [] i).getD []
  pre := fun i => (asc [] i).getD []
  join := asc []
  loop := asc []
  keep := asc []

def row_semtyperef1_Equal (n : Nat) : Row I := ⟨10, [.d (.dat 30), .d (.dat 30)], [.k (.d (.bool))], semtyperef1_Equal n⟩

theorem rk_semtyperef1_Equal (n : Nat)  : RowOk Go.Proofs.Tryz.prog (row_semtyperef1_Equal n) :=
  row_ok tabOk (dispE_ok (es := [rowE tb (row_semtyperef1_Compare n)]) ⟨rowE_ok tabOk (rk_semtyperef1_Compare n), trivial⟩ 3) mixed 9 (fn := Go.Proofs.Tryz.f10) (cd := cdOf Go.Proofs.Tryz.f10) (H := (H_semtyperef1_Equal n)) (rl := [.tmp 4]) Go.Proofs.Tryz.func10 (by kernel_rfl) (by kernel_rfl) (by kernel_rfl) (by kernel_rfl) (by kernel_rfl) (by kernel_rfl) (by kernel_rfl)

def H_semtyperef1_entries (n : Nat) : Hints I where
  tds := fun i => (asc [(6, [[], [], [1], [0, 1, 2], [0, 1, 2, 3], [0, 1, 2, 3, 4], [0, 1, 2, 3, 4], [0, 1, 2, 3, 4, 5, 6], [0, 1, 2, 3, 4, 5, 6, 7], [0, 1, 2, 3, 4], [0, 1, 2, 3, 4], [0, 1, 2, 3, 4, 9, 10], [0, 1, 2, 3, 4, 9, 10, 11], [0, 1, 2, 3, 4, 5, 6, 7, 8, 9, 10, 11, 12], [0, 1, 2, 3, 4, 5, 6, 7, 8, 9, 10, 11, 12, 13], [0, 1, 2, 3, 4, 5, 6, 7, 8, 9, 10, 11, 12, 13, 14]]), (8, [[], [], [1], [0, 1, 2], [0, 1, 2, 3], [0, 1, 2, 3, 4], [0, 1, 2, 3, 4], [0, 1, 2, 3, 4, 5, 6], [0, 1, 2, 3, 4, 5, 6, 7], [0, 1, 2, 3, 4], [0, 1, 2, 3, 4], [0, 1, 2, 3, 4, 9, 10], [0, 1, 2, 3, 4, 9, 10, 11], [0, 1, 2, 3, 4, 5, 6, 7, 8, 9, 10, 11, 12], [0, 1, 2, 3, 4, 5, 6, 7, 8, 9, 10, 11, 12, 13], [0, 1, 2, 3, 4, 5, 6, 7, 8, 9, 10, 11, 12, 13, 14]]), (10, [[], [], [], [1, 2], [1, 2, 3], [1, 2, 3, 4], [0, 1, 2, 3, 4, 5], [], [], [7, 8], [0, 1, 2, 3, 4, 5, 6, 7, 8, 9], [0, 1, 2, 3, 4, 5, 6, 7, 8, 9, 10]])] i).getD []
  spl := fun i => (asc [] i).getD []
  pre := fun i => (asc [] i).getD []
  join := asc [(466, ⟨4611686018427379816, [], [], [(.normal, [(3, .k (.d (.sl 43)))])]⟩)]
  loop := asc [(58, ⟨4611686018427387896, [], [], [(3, .k (.d (.sl 43))), (4, .k (.d (.int .i64)))], [((.exit 0), [(3, .k (.d (.sl 43)))])], bnd tb (.len (.slot 0)) 1⟩),
    (7460, ⟨2147475488, [3], [], [(5, .k (.d (.int .i64)))], [((.exit 2), [(5, .k (.d (.int .i64)))])], bnd tb (.len (.slot 3)) 1⟩)]
  keep := asc []

def row_semtyperef1_entries (n : Nat) : Row I := ⟨41, [.bor 43], [.k (.d (.sl 43))], semtyperef1_entries n⟩

theorem rk_semtyperef1_entries (n : Nat)  : RowOk Go.Proofs.Tryz.prog (row_semtyperef1_entries n) :=
  row_ok tabOk (dispE_ok (es := [rowE tb (row_semtyperef1_CompareEntries n)]) ⟨rowE_ok tabOk (rk_semtyperef1_CompareEntries n), trivial⟩ 3) mixed 63 (fn := Go.Proofs.Tryz.f41) (cd := cdOf Go.Proofs.Tryz.f41) (H := (H_semtyperef1_entries n)) (rl := [.tmp 2]) Go.Proofs.Tryz.func41 (by kernel_rfl) (by kernel_rfl) (by kernel_rfl) (by kernel_rfl) (by kernel_rfl) (by kernel_rfl) (by kernel_rfl)

def H_semtyperef1_Function (n : Nat) : Hints I where
  tds := fun i => (asc [] i).getD []
  spl := fun i => (asc [] i).getD []
  pre := fun i => (asc [] i).getD []
  join := asc []
  loop := asc [(58, ⟨70368744161376, [], [(4, .lvs [.d (.int .i64), .d (.int .i64), .d (.str), .row 30 false, .row 58 false, .row 43 false, .row 9 false])], [(6, .k (.d (.int .i64)))], [((.exit 0), []), (.ret, [(5, .k (.d (.int .i64)))])], bnd tb (.len (.slot 1)) 1⟩)]
  keep := asc []

def row_semtyperef1_Function (n : Nat) : Row I := ⟨14, [.d (.int .i64), .bor 43], [.k (.d (.dat 30)), .k (.d (.int .i64))], semtyperef1_Function n⟩

theorem rk_semtyperef1_Function (n : Nat)  : RowOk Go.Proofs.Tryz.prog (row_semtyperef1_Function n) :=
  row_ok tabOk (dispE_ok (es := [rowE tb (row_semtyperef1_Equal n), rowE tb (row_semtyperef1_entries n)]) ⟨rowE_ok tabOk (rk_semtyperef1_Equal n), ⟨rowE_ok tabOk (rk_semtyperef1_entries n), trivial⟩⟩ 3) mixed 50 (fn := Go.Proofs.Tryz.f14) (cd := cdOf Go.Proofs.Tryz.f14) (H := (H_semtyperef1_Function n)) (rl := [.cell 4 30, .tmp 5]) Go.Proofs.Tryz.func14 (by kernel_rfl) (by kernel_rfl) (by kernel_rfl) (by kernel_rfl) (by kernel_rfl) (by kernel_rfl) (by kernel_rfl)

def H_semtypebase_Source_Value (n : Nat) : Hints I where
  tds := fun i => (asc [] i).getD []
  spl := fun i => (asc [] i).getD []
  pre := fun i => (asc [] i).getD []
  join := asc []
  loop := asc []
  keep := asc []

def row_semtypebase_Source_Value (n : Nat) : Row I := ⟨12, [.var 40 (.k (.d (.dat 40))) true, .d (.int .i64)], [.k (.d (.dat 30))], semtypebase_Source_Value n⟩

def H_semtypebase_Source_value (n : Nat) : Hints I where
  tds := fun i => (asc [(16, [[], [], [1], [0, 1, 2], [], [0, 1, 2, 3, 4], [0, 1, 2, 3, 4, 5]])] i).getD []
  spl := fun i => (asc [(13, [46])] i).getD []
  pre := fun i => (asc [] i).getD []
  join := asc [(29, ⟨5316911983139663491615228241104863200, [], [(0, .k (.d (.dat 40))), (4, .lvs [.d (.int .i64), .d (.int .i64), .d (.str), .d (.sl 30), .d (.sl 58), .d (.sl 43), .d (.sl 9)])], [(.normal, []), (.ret, [])]⟩),
    (7540, ⟨2234207627640832, [], [(0, .k (.d (.dat 40)))], [(.normal, [(50, .k (.d (.bool)))])]⟩),
    (7541, ⟨141863388262170624, [], [(0, .k (.d (.dat 40))), (7, .k (.d (.dat 30)))], [(.normal, [])]⟩)]
  loop := asc [(3754, ⟨549487378528, [], [(0, .k (.d (.dat 40)))], [(5, .k (.row 30 false)), (6, .k (.d (.int .i64)))], [((.exit 1), [(5, .k (.row 30 false))])], bnd tb (.slot 6) 2⟩),
    (120794, ⟨77370071863715549769893632, [], [(0, .k (.d (.dat 40)))], [(8, .k (.row 58 false)), (9, .k (.row 30 false)), (10, .k (.d (.int .i64)))], [((.exit 3), [(8, .k (.row 58 false)), (9, .k (.row 30 false))])], bnd tb (.slot 10) 2⟩),
    (483290, ⟨10382058415869198798257999252078592, [], [(0, .k (.d (.dat 40)))], [(14, .k (.row 43 false)), (15, .k (.d (.int .i64)))], [((.exit 5), [(14, .k (.row 43 false))])], bnd tb (.slot 15) 2⟩)]
  keep := asc []

def row_semtypebase_Source_value (n : Nat) : Row I := ⟨37, [.var 40 (.k (.d (.dat 40))) true, .d (.int .i64)], [.k (.d (.dat 30))], semtypebase_Source_value n⟩

def H_semtypebase_Source_entry (n : Nat) : Hints I where
  tds := fun i => (asc [(4, [[], [0], [], [], [2, 3], [2, 3, 4], [0, 1, 2, 3, 4, 5], [0, 1, 2, 3, 4, 5, 6], [0, 1, 2, 3, 4, 5, 6, 7]])] i).getD []
  spl := fun i => (asc [] i).getD []
  pre := fun i => (asc [] i).getD []
  join := asc []
  loop := asc [(28, ⟨1048322, [], [(0, .k (.d (.dat 40))), (7, .lvs [.row 30 false, .d (.bool), .d (.int .i64), .d (.int .i64), .d (.str), .row 30 false, .row 58 false, .row 43 false, .row 9 false])], [(1, .k (.d (.int .i64)))], [((.exit 0), [])], bnd tb (.slot 1) 2⟩)]
  keep := asc []

def row_semtypebase_Source_entry (n : Nat) : Row I := ⟨73, [.var 40 (.k (.d (.dat 40))) true, .d (.int .i64), .d (.int .i64)], [.k (.d (.dat 43))], semtypebase_Source_entry n⟩

theorem rkB_semtypebase_Source_Value (n : Nat) (h_semtypebase_Source_Value : RowOk Go.Proofs.Tryz.prog (row_semtypebase_Source_Value n)) (h_semtypebase_Source_value : RowOk Go.Proofs.Tryz.prog (row_semtypebase_Source_value n)) (h_semtypebase_Source_entry : RowOk Go.Proofs.Tryz.prog (row_semtypebase_Source_entry n)) : RowOk Go.Proofs.Tryz.prog (row_semtypebase_Source_Value (n + 1)) :=
  row_ok tabOk (dispE_ok (es := [rowE tb (row_semtypebase_Source_value n), rowE tb (row_semtypebase_Source_Labels)]) ⟨rowE_ok tabOk h_semtypebase_Source_value, ⟨rowE_ok tabOk rk_semtypebase_Source_Labels, trivial⟩⟩ 3) mixed 13 (fn := Go.Proofs.Tryz.f12) (cd := cdOf Go.Proofs.Tryz.f12) (H := (H_semtypebase_Source_Value n)) (rl := [.cell 4 30]) Go.Proofs.Tryz.func12 (by kernel_rfl) (by kernel_rfl) (by kernel_rfl) (by kernel_rfl) (by kernel_rfl) (by kernel_rfl) (by kernel_rfl)

theorem rkB_semtypebase_Source_value (n : Nat) (h_semtypebase_Source_Value : RowOk Go.Proofs.Tryz.prog (row_semtypebase_Source_Value n)) (h_semtypebase_Source_value : RowOk Go.Proofs.Tryz.prog (row_semtypebase_Source_value n)) (h_semtypebase_Source_entry : RowOk Go.Proofs.Tryz.prog (row_semtypebase_Source_entry n)) : RowOk Go.Proofs.Tryz.prog (row_semtypebase_Source_value (n + 1)) :=
  row_ok tabOk (dispE_ok (es := [rowE tb (row_semtypebase_Source_leaf), rowE tb (row_semtypebase_Source_Next), rowE tb (row_semtypebase_Source_Value n), rowE tb (row_semtyperef1_Tuple), rowE tb (row_semtyperef1_Nil), rowE tb (row_semtyperef1_Cons), rowE tb (row_semtypebase_Source_Labels), rowE tb (row_semtypebase_Source_Key), rowE tb (row_semtyperef1_Map), rowE tb (row_semtypebase_Source_entry n), rowE tb (row_semtyperef1_Function n)]) ⟨rowE_ok tabOk rk_semtypebase_Source_leaf, ⟨rowE_ok tabOk rk_semtypebase_Source_Next, ⟨rowE_ok tabOk h_semtypebase_Source_Value, ⟨rowE_ok tabOk rk_semtyperef1_Tuple, ⟨rowE_ok tabOk rk_semtyperef1_Nil, ⟨rowE_ok tabOk rk_semtyperef1_Cons, ⟨rowE_ok tabOk rk_semtypebase_Source_Labels, ⟨rowE_ok tabOk rk_semtypebase_Source_Key, ⟨rowE_ok tabOk rk_semtyperef1_Map, ⟨rowE_ok tabOk h_semtypebase_Source_entry, ⟨rowE_ok tabOk (rk_semtyperef1_Function n), trivial⟩⟩⟩⟩⟩⟩⟩⟩⟩⟩⟩ 3) mixed 124 (fn := Go.Proofs.Tryz.f37) (cd := cdOf Go.Proofs.Tryz.f37) (H := (H_semtypebase_Source_value n)) (rl := [.cell 4 30]) Go.Proofs.Tryz.func37 (by kernel_rfl) (by kernel_rfl) (by kernel_rfl) (by kernel_rfl) (by kernel_rfl) (by kernel_rfl) (by kernel_rfl)

theorem rkB_semtypebase_Source_entry (n : Nat) (h_semtypebase_Source_Value : RowOk Go.Proofs.Tryz.prog (row_semtypebase_Source_Value n)) (h_semtypebase_Source_value : RowOk Go.Proofs.Tryz.prog (row_semtypebase_Source_value n)) (h_semtypebase_Source_entry : RowOk Go.Proofs.Tryz.prog (row_semtypebase_Source_entry n)) : RowOk Go.Proofs.Tryz.prog (row_semtypebase_Source_entry (n + 1)) :=
  row_ok tabOk (dispE_ok (es := [rowE tb (row_semtypebase_Source_Value n), rowE tb (row_semtypebase_Source_Next)]) ⟨rowE_ok tabOk h_semtypebase_Source_Value, ⟨rowE_ok tabOk rk_semtypebase_Source_Next, trivial⟩⟩ 3) mixed 30 (fn := Go.Proofs.Tryz.f73) (cd := cdOf Go.Proofs.Tryz.f73) (H := (H_semtypebase_Source_entry n)) (rl := [.cell 6 43]) Go.Proofs.Tryz.func73 (by kernel_rfl) (by kernel_rfl) (by kernel_rfl) (by kernel_rfl) (by kernel_rfl) (by kernel_rfl) (by kernel_rfl)

theorem rk_scc_semtypebase_Source_Value : ∀ n : Nat, RowOk Go.Proofs.Tryz.prog (row_semtypebase_Source_Value n) ∧ RowOk Go.Proofs.Tryz.prog (row_semtypebase_Source_value n) ∧ RowOk Go.Proofs.Tryz.prog (row_semtypebase_Source_entry n)
  | 0 => ⟨rowOk_none (by kernel_rfl), rowOk_none (by kernel_rfl), rowOk_none (by kernel_rfl)⟩
  | n + 1 => by
    obtain ⟨h0, h1, h2⟩ := rk_scc_semtypebase_Source_Value n
    exact ⟨rkB_semtypebase_Source_Value n h0 h1 h2, rkB_semtypebase_Source_value n h0 h1 h2, rkB_semtypebase_Source_entry n h0 h1 h2⟩

theorem rk_semtypebase_Source_Value (n : Nat) : RowOk Go.Proofs.Tryz.prog (row_semtypebase_Source_Value n) := (rk_scc_semtypebase_Source_Value n).1

theorem rk_semtypebase_Source_value (n : Nat) : RowOk Go.Proofs.Tryz.prog (row_semtypebase_Source_value n) := (rk_scc_semtypebase_Source_Value n).2.1

theorem rk_semtypebase_Source_entry (n : Nat) : RowOk Go.Proofs.Tryz.prog (row_semtypebase_Source_entry n) := (rk_scc_semtypebase_Source_Value n).2.2

def H_semtypelaw4_drawn (n : Nat) : Hints I where
  tds := fun i => (asc [] i).getD []
  spl := fun i => (asc [] i).getD []
  pre := fun i => (asc [] i).getD []
  join := asc []
  loop := asc []
  keep := asc []

def row_semtypelaw4_drawn (n : Nat) : Row I := ⟨7, [.d (.sl 3)], [.k (.d (.dat 30))], semtypelaw4_drawn n⟩

theorem rk_semtypelaw4_drawn (n : Nat)  : RowOk Go.Proofs.Tryz.prog (row_semtypelaw4_drawn n) :=
  row_ok tabOk (dispE_ok (es := [rowE tb (row_semtypebase_Source_Value n)]) ⟨rowE_ok tabOk (rk_semtypebase_Source_Value n), trivial⟩ 3) mixed 9 (fn := Go.Proofs.Tryz.f7) (cd := cdOf Go.Proofs.Tryz.f7) (H := (H_semtypelaw4_drawn n)) (rl := [.cell 2 30]) Go.Proofs.Tryz.func7 (by kernel_rfl) (by kernel_rfl) (by kernel_rfl) (by kernel_rfl) (by kernel_rfl) (by kernel_rfl) (by kernel_rfl)

def H_value_Map_1 : Hints I where
  tds := fun i => (asc [(1, [[], [], [0, 1], [0, 1, 2], [], [], [4, 5], [4, 5, 6], [0, 1, 2, 3, 4, 5, 6, 7], [0, 1, 2, 3, 4, 5, 6, 7, 8]])] i).getD []
  spl := fun i => (asc [] i).getD []
  pre := fun i => (asc [] i).getD []
  join := asc []
  loop := asc []
  keep := asc []

def row_value_Map_1 : Row I := ⟨29, [.d (.int .i64), .d (.int .i64), .var 22 (.k (.d (.sl 58))) false], [.k (.d (.int .i64))], value_Map_1⟩

theorem rk_value_Map_1  : RowOk Go.Proofs.Tryz.prog (row_value_Map_1) :=
  row_ok tabOk (dispE_ok (es := [rowE tb (row_ident_CompareKeys)]) ⟨rowE_ok tabOk rk_ident_CompareKeys, trivial⟩ 3) mixed 15 (fn := Go.Proofs.Tryz.f29) (cd := cdOf Go.Proofs.Tryz.f29) (H := H_value_Map_1) (rl := [.tmp 5]) Go.Proofs.Tryz.func29 (by kernel_rfl) (by kernel_rfl) (by kernel_rfl) (by kernel_rfl) (by kernel_rfl) (by kernel_rfl) (by kernel_rfl)

def H_value_Map (n : Nat) : Hints I where
  tds := fun i => (asc [(21, [[], [0], [0, 1], [0, 1, 2], [0, 1, 2, 3], [0, 1, 2], [0, 1, 2, 5], [0, 1, 2, 3, 4, 5, 6], [0, 1, 2, 3, 4, 5, 6, 7], [0, 1, 2], [0, 1, 2], [0, 1, 2, 9, 10], [0, 1, 2, 9, 10, 11], [0, 1, 2, 3, 4, 5, 6, 7, 8, 9, 10, 11, 12], [0, 1, 2, 3, 4, 5, 6, 7, 8, 9, 10, 11, 12, 13]]), (23, [[], [0], [], [], [2, 3], [2, 3, 4], [2, 3, 4, 5], [0, 1, 2, 3, 4, 5, 6], [0, 1, 2, 3, 4, 5, 6, 7], [0, 1, 2, 3, 4, 5, 6, 7, 8]]), (24, [[], [0], [], [], [2, 3], [2, 3, 4], [2, 3, 4, 5], [2, 3, 4, 5, 6], [0, 1, 2, 3, 4, 5, 6, 7], [0, 1, 2, 3, 4, 5, 6, 7, 8], [0, 1, 2, 3, 4, 5, 6, 7, 8, 9]])] i).getD []
  spl := fun i => (asc [] i).getD []
  pre := fun i => (asc [] i).getD []
  join := asc []
  loop := asc [(58, ⟨2143289504, [], [(4, .lvs [.d (.int .i64), .d (.int .i64), .d (.str), .row 30 false, .row 58 false, .row 43 false, .row 9 false])], [(22, .k (.d (.int .i64)))], [((.exit 0), []), (.ret, [(5, .k (.d (.int .i64)))])], bnd tb (.slot 21) 1⟩),
    (250, ⟨2190433321728, [], [], [(8, .k (.row 3 false)), (33, .k (.d (.int .i64)))], [((.exit 2), [(8, .k (.row 3 false))])], bnd tb (.slot 32) 1⟩),
    (2042, ⟨1237940039285239537410781216, [45], [(4, .lvs [.d (.int .i64), .d (.int .i64), .d (.str), .row 30 false, .row 58 false, .row 43 false, .row 9 false]), (10, .lvs [.d (.int .i64), .d (.int .i64), .d (.str), .row 30 false, .row 58 false, .row 43 false, .row 9 false])], [(47, .k (.d (.int .i64)))], [((.exit 4), []), (.ret, [(5, .k (.d (.int .i64)))])], bnd tb (.slot 46) 1⟩)]
  keep := asc []

noncomputable def row_value_Map (n : Nat) : Row I := ⟨8, [.d (.sl 58), .d (.sl 30)], [.k (.d (.dat 30)), .k (.d (.int .i64))], value_Map n⟩

theorem rk_value_Map (n : Nat)  : RowOk Go.Proofs.Tryz.prog (row_value_Map n) :=
  row_ok tabOk (dispE_ok (es := [rowE tb (row_ident_ValidKey), rioE tb row_28, rowE tb (row_value_Map_1), rowE tb (row_value_clone n)]) ⟨rowE_ok tabOk rk_ident_ValidKey, ⟨rioE_ok tabOk rk_28, ⟨rowE_ok tabOk rk_value_Map_1, ⟨rowE_ok tabOk (rk_value_clone n), trivial⟩⟩⟩⟩ 3) mixed 91 (fn := Go.Proofs.Tryz.f8) (cd := cdOf Go.Proofs.Tryz.f8) (H := (H_value_Map n)) (rl := [.cell 4 30, .tmp 5]) Go.Proofs.Tryz.func8 (by kernel_rfl) (by kernel_rfl) (by kernel_rfl) (by kernel_rfl) (by kernel_rfl) (by kernel_rfl) (by kernel_rfl)

def H_semtypelaw4_ValueMaps (n : Nat) : Hints I where
  tds := fun i => (asc [] i).getD []
  spl := fun i => (asc [] i).getD []
  pre := fun i => (asc [] i).getD []
  join := asc []
  loop := asc [(122, ⟨2199022207088, [], [], [(5, .k (.row 30 false)), (6, .k (.d (.int .i64)))], [((.exit 0), [(5, .k (.row 30 false))]), (.ret, [(4, .k (.d (.bool)))])], bnd tb (.len (.slot 1)) 1⟩)]
  keep := asc []

noncomputable def row_semtypelaw4_ValueMaps (n : Nat) : Row I := ⟨3, [.d (.sl 58), .d (.sl 26)], [.k (.d (.bool))], semtypelaw4_ValueMaps n⟩

theorem rk_semtypelaw4_ValueMaps (n : Nat)  : RowOk Go.Proofs.Tryz.prog (row_semtypelaw4_ValueMaps n) :=
  row_ok tabOk (dispE_ok (es := [rowE tb (row_semtypelaw4_awake n), rowE tb (row_semtypelaw4_drawn n), rowE tb (row_value_Map n), rowE tb (row_semtyperef1_Map), rowE tb (row_semtyperef1_Equal n), rowE tb (row_value_Validate n)]) ⟨rowE_ok tabOk (rk_semtypelaw4_awake n), ⟨rowE_ok tabOk (rk_semtypelaw4_drawn n), ⟨rowE_ok tabOk (rk_value_Map n), ⟨rowE_ok tabOk rk_semtyperef1_Map, ⟨rowE_ok tabOk (rk_semtyperef1_Equal n), ⟨rowE_ok tabOk (rk_value_Validate n), trivial⟩⟩⟩⟩⟩⟩ 3) mixed 73 (fn := Go.Proofs.Tryz.f3) (cd := cdOf Go.Proofs.Tryz.f3) (H := (H_semtypelaw4_ValueMaps n)) (rl := [.tmp 4]) Go.Proofs.Tryz.func3 (by kernel_rfl) (by kernel_rfl) (by kernel_rfl) (by kernel_rfl) (by kernel_rfl) (by kernel_rfl) (by kernel_rfl)

def H_slices_CompactFunc_api_Entry_api_Entry : Hints I where
  tds := fun i => (asc [(6, [[], [], [], [1, 2], [1, 2, 3], [], [], [6], [5, 6, 7], [5, 6, 7, 8], [0, 1, 2, 3, 4, 5, 6, 7, 8, 9]]), (11, [[], [], [], [1, 2], [1, 2, 3], [], [], [6], [5, 6, 7], [5, 6, 7, 8], [0, 1, 2, 3, 4, 5, 6, 7, 8, 9], [0, 1, 2, 3, 4, 5, 6, 7, 8, 9, 10]])] i).getD []
  spl := fun i => (asc [] i).getD []
  pre := fun i => (asc [] i).getD []
  join := asc []
  loop := asc [(58, ⟨36893488147419099376, [], [], [(0, .k (.row 43 false)), (5, .k (.d (.int .i64)))], [((.exit 0), [(0, .k (.row 43 false))]), (.ret, [(0, .k (.row 43 true)), (4, .k (.d (.sl 43)))])], bnd tb (.len (.slot 0)) 1⟩)]
  keep := asc [(59690, ⟨576460748008456352, 0, 43, [(5, .k (.d (.int .i64))), (7, .k (.d (.int .i64)))], [((.exit 2), [(5, .k (.d (.int .i64)))])], bnd tb (.len (.slot 6)) 1⟩)]

def row_slices_CompactFunc_api_Entry_api_Entry : Row I := ⟨79, [.row 43 false, .fn [.dat 43, .dat 43] [.k (.d (.bool))]], [.k (.d (.sl 43))], slices_CompactFunc_api_Entry_api_Entry⟩

theorem rk_slices_CompactFunc_api_Entry_api_Entry  : RowOk Go.Proofs.Tryz.prog (row_slices_CompactFunc_api_Entry_api_Entry) :=
  row_ok tabOk (dispE_ok (es := []) trivial 3) mixed 66 (fn := Go.Proofs.Tryz.f79) (cd := cdOf Go.Proofs.Tryz.f79) (H := H_slices_CompactFunc_api_Entry_api_Entry) (rl := [.tmp 4]) Go.Proofs.Tryz.func79 (by kernel_rfl) (by kernel_rfl) (by kernel_rfl) (by kernel_rfl) (by kernel_rfl) (by kernel_rfl) (by kernel_rfl)

def H_value_sortEntries_1 (n : Nat) : Hints I where
  tds := fun i => (asc [] i).getD []
  spl := fun i => (asc [] i).getD []
  pre := fun i => (asc [] i).getD []
  join := asc []
  loop := asc []
  keep := asc []

def row_value_sortEntries_1 (n : Nat) : Row I := ⟨80, [.d (.dat 43), .d (.dat 43)], [.k (.d (.bool))], value_sortEntries_1 n⟩

theorem rk_value_sortEntries_1 (n : Nat)  : RowOk Go.Proofs.Tryz.prog (row_value_sortEntries_1 n) :=
  row_ok tabOk (dispE_ok (es := [rowE tb (row_value_compareEntries n)]) ⟨rowE_ok tabOk (rk_value_compareEntries n), trivial⟩ 3) mixed 9 (fn := Go.Proofs.Tryz.f80) (cd := cdOf Go.Proofs.Tryz.f80) (H := (H_value_sortEntries_1 n)) (rl := [.tmp 4]) Go.Proofs.Tryz.func80 (by kernel_rfl) (by kernel_rfl) (by kernel_rfl) (by kernel_rfl) (by kernel_rfl) (by kernel_rfl) (by kernel_rfl)

def H_slices_Clip_api_Entry_api_Entry : Hints I where
  tds := fun i => (asc [] i).getD []
  spl := fun i => (asc [] i).getD []
  pre := fun i => (asc [] i).getD []
  join := asc []
  loop := asc []
  keep := asc []

def row_slices_Clip_api_Entry_api_Entry : Row I := ⟨78, [.d (.sl 43)], [.k (.row 43 true)], slices_Clip_api_Entry_api_Entry⟩

theorem rk_slices_Clip_api_Entry_api_Entry  : RowOk Go.Proofs.Tryz.prog (row_slices_Clip_api_Entry_api_Entry) :=
  row_ok tabOk (dispE_ok (es := []) trivial 3) mixed 9 (fn := Go.Proofs.Tryz.f78) (cd := cdOf Go.Proofs.Tryz.f78) (H := H_slices_Clip_api_Entry_api_Entry) (rl := [.tmp 2]) Go.Proofs.Tryz.func78 (by kernel_rfl) (by kernel_rfl) (by kernel_rfl) (by kernel_rfl) (by kernel_rfl) (by kernel_rfl) (by kernel_rfl)

def H_value_sortEntries (n : Nat) : Hints I where
  tds := fun i => (asc [] i).getD []
  spl := fun i => (asc [] i).getD []
  pre := fun i => (asc [] i).getD []
  join := asc []
  loop := asc []
  keep := asc []

noncomputable def row_value_sortEntries (n : Nat) : Row I := ⟨40, [.bor 43], [.k (.row 43 true)], value_sortEntries n⟩

theorem rk_value_sortEntries (n : Nat)  : RowOk Go.Proofs.Tryz.prog (row_value_sortEntries n) :=
  row_ok tabOk (dispE_ok (es := [rowE tb (row_value_cloneEntries n), rioE tb row_76, rowE tb (row_value_compareEntries n), rowE tb (row_slices_CompactFunc_api_Entry_api_Entry), rowE tb (row_value_sortEntries_1 n), rowE tb (row_slices_Clip_api_Entry_api_Entry)]) ⟨rowE_ok tabOk (rk_value_cloneEntries n), ⟨rioE_ok tabOk rk_76, ⟨rowE_ok tabOk (rk_value_compareEntries n), ⟨rowE_ok tabOk rk_slices_CompactFunc_api_Entry_api_Entry, ⟨rowE_ok tabOk (rk_value_sortEntries_1 n), ⟨rowE_ok tabOk rk_slices_Clip_api_Entry_api_Entry, trivial⟩⟩⟩⟩⟩⟩ 3) mixed 11 (fn := Go.Proofs.Tryz.f40) (cd := cdOf Go.Proofs.Tryz.f40) (H := (H_value_sortEntries n)) (rl := [.tmp 2]) Go.Proofs.Tryz.func40 (by kernel_rfl) (by kernel_rfl) (by kernel_rfl) (by kernel_rfl) (by kernel_rfl) (by kernel_rfl) (by kernel_rfl)

def H_value_Function (n : Nat) : Hints I where
  tds := fun i => (asc [] i).getD []
  spl := fun i => (asc [] i).getD []
  pre := fun i => (asc [] i).getD []
  join := asc []
  loop := asc [(58, ⟨134086816, [], [(4, .lvs [.d (.int .i64), .d (.int .i64), .d (.str), .row 30 false, .row 58 false, .row 43 false, .row 9 false])], [(17, .k (.d (.int .i64)))], [((.exit 0), []), (.ret, [(5, .k (.d (.int .i64)))])], bnd tb (.slot 16) 1⟩)]
  keep := asc []

noncomputable def row_value_Function (n : Nat) : Row I := ⟨13, [.d (.int .i64), .bor 43], [.k (.d (.dat 30)), .k (.d (.int .i64))], value_Function n⟩

theorem rk_value_Function (n : Nat)  : RowOk Go.Proofs.Tryz.prog (row_value_Function n) :=
  row_ok tabOk (dispE_ok (es := [rowE tb (row_value_validEntry n), rowE tb (row_value_sortEntries n)]) ⟨rowE_ok tabOk (rk_value_validEntry n), ⟨rowE_ok tabOk (rk_value_sortEntries n), trivial⟩⟩ 3) mixed 31 (fn := Go.Proofs.Tryz.f13) (cd := cdOf Go.Proofs.Tryz.f13) (H := (H_value_Function n)) (rl := [.cell 4 30, .tmp 5]) Go.Proofs.Tryz.func13 (by kernel_rfl) (by kernel_rfl) (by kernel_rfl) (by kernel_rfl) (by kernel_rfl) (by kernel_rfl) (by kernel_rfl)

def H_semtypelaw4_ValueFunctions (n : Nat) : Hints I where
  tds := fun i => (asc [(19, [[], [], [], [], [], [3, 4], [3, 4, 5], [], [7], [7, 8], [0, 3, 4, 5, 6, 7, 8, 9], [0, 3, 4, 5, 6, 7, 8, 9, 10], [0, 1, 2, 3, 4, 5, 6, 7, 8, 9, 10, 11], [0, 1, 2, 3, 4, 5, 6, 7, 8, 9, 10, 11, 12]])] i).getD []
  spl := fun i => (asc [] i).getD []
  pre := fun i => (asc [(20, [7])] i).getD []
  join := asc [(1021, ⟨4951457925686617442302853120, [], [], [(.normal, [(7, .k (.row 43 false))])]⟩)]
  loop := asc [(122, ⟨18014398505289664, [], [], [(7, .k (.row 43 false)), (8, .k (.d (.int .i64)))], [((.exit 0), [(7, .k (.row 43 false))]), (.ret, [(6, .k (.d (.bool)))])], bnd tb (.len (.slot 1)) 1⟩)]
  keep := asc []

noncomputable def row_semtypelaw4_ValueFunctions (n : Nat) : Row I := ⟨4, [.d (.int .i64), .d (.sl 26), .d (.int .i64)], [.k (.d (.bool))], semtypelaw4_ValueFunctions n⟩

theorem rk_semtypelaw4_ValueFunctions (n : Nat)  : RowOk Go.Proofs.Tryz.prog (row_semtypelaw4_ValueFunctions n) :=
  row_ok tabOk (dispE_ok (es := [rowE tb (row_semtypelaw4_awake n), rowE tb (row_semtypebase_Source_Value n), rowE tb (row_value_Function n), rowE tb (row_semtyperef1_Function n), rowE tb (row_semtyperef1_Equal n), rowE tb (row_value_Validate n)]) ⟨rowE_ok tabOk (rk_semtypelaw4_awake n), ⟨rowE_ok tabOk (rk_semtypebase_Source_Value n), ⟨rowE_ok tabOk (rk_value_Function n), ⟨rowE_ok tabOk (rk_semtyperef1_Function n), ⟨rowE_ok tabOk (rk_semtyperef1_Equal n), ⟨rowE_ok tabOk (rk_value_Validate n), trivial⟩⟩⟩⟩⟩⟩ 3) mixed 120 (fn := Go.Proofs.Tryz.f4) (cd := cdOf Go.Proofs.Tryz.f4) (H := (H_semtypelaw4_ValueFunctions n)) (rl := [.tmp 6]) Go.Proofs.Tryz.func4 (by kernel_rfl) (by kernel_rfl) (by kernel_rfl) (by kernel_rfl) (by kernel_rfl) (by kernel_rfl) (by kernel_rfl)

def H_slices_Compact_string_string : Hints I where
  tds := fun i => (asc [(6, [[], [], [0, 1], [0, 1, 2], [], [], [5], [4, 5, 6], [4, 5, 6, 7], [0, 1, 2, 3, 4, 5, 6, 7, 8]]), (11, [[], [], [0, 1], [0, 1, 2], [], [], [5], [4, 5, 6], [4, 5, 6, 7], [0, 1, 2, 3, 4, 5, 6, 7, 8]])] i).getD []
  spl := fun i => (asc [] i).getD []
  pre := fun i => (asc [] i).getD []
  join := asc []
  loop := asc [(58, ⟨1152921504606846012, [], [], [(0, .k (.row 9 false)), (3, .k (.d (.int .i64)))], [((.exit 0), [(0, .k (.row 9 false))]), (.ret, [(0, .k (.row 9 true)), (2, .k (.d (.sl 9)))])], bnd tb (.len (.slot 0)) 1⟩)]
  keep := asc [(59690, ⟨18014397972611112, 0, 9, [(3, .k (.d (.int .i64))), (5, .k (.d (.int .i64)))], [((.exit 2), [(3, .k (.d (.int .i64)))])], bnd tb (.len (.slot 4)) 1⟩)]

def row_slices_Compact_string_string : Row I := ⟨45, [.row 9 false], [.k (.d (.sl 9))], slices_Compact_string_string⟩

theorem rk_slices_Compact_string_string  : RowOk Go.Proofs.Tryz.prog (row_slices_Compact_string_string) :=
  row_ok tabOk (dispE_ok (es := []) trivial 3) mixed 61 (fn := Go.Proofs.Tryz.f45) (cd := cdOf Go.Proofs.Tryz.f45) (H := H_slices_Compact_string_string) (rl := [.tmp 2]) Go.Proofs.Tryz.func45 (by kernel_rfl) (by kernel_rfl) (by kernel_rfl) (by kernel_rfl) (by kernel_rfl) (by kernel_rfl) (by kernel_rfl)

def H_slices_Clip_string_string : Hints I where
  tds := fun i => (asc [] i).getD []
  spl := fun i => (asc [] i).getD []
  pre := fun i => (asc [] i).getD []
  join := asc []
  loop := asc []
  keep := asc []

def row_slices_Clip_string_string : Row I := ⟨44, [.d (.sl 9)], [.k (.row 9 true)], slices_Clip_string_string⟩

theorem rk_slices_Clip_string_string  : RowOk Go.Proofs.Tryz.prog (row_slices_Clip_string_string) :=
  row_ok tabOk (dispE_ok (es := []) trivial 3) mixed 9 (fn := Go.Proofs.Tryz.f44) (cd := cdOf Go.Proofs.Tryz.f44) (H := H_slices_Clip_string_string) (rl := [.tmp 2]) Go.Proofs.Tryz.func44 (by kernel_rfl) (by kernel_rfl) (by kernel_rfl) (by kernel_rfl) (by kernel_rfl) (by kernel_rfl) (by kernel_rfl)

def H_value_WithLabels (n : Nat) : Hints I where
  tds := fun i => (asc [] i).getD []
  spl := fun i => (asc [] i).getD []
  pre := fun i => (asc [] i).getD []
  join := asc []
  loop := asc []
  keep := asc []

def row_value_WithLabels (n : Nat) : Row I := ⟨15, [.d (.dat 30), .d (.sl 9)], [.k (.d (.dat 30))], value_WithLabels n⟩

theorem rk_value_WithLabels (n : Nat)  : RowOk Go.Proofs.Tryz.prog (row_value_WithLabels n) :=
  row_ok tabOk (dispE_ok (es := [rowE tb (row_value_clone n), rowE tb row_42, rioE tb row_43, rowE tb (row_slices_Compact_string_string), rowE tb (row_slices_Clip_string_string)]) ⟨rowE_ok tabOk (rk_value_clone n), ⟨rowE_ok tabOk rk_42, ⟨rioE_ok tabOk rk_43, ⟨rowE_ok tabOk rk_slices_Compact_string_string, ⟨rowE_ok tabOk rk_slices_Clip_string_string, trivial⟩⟩⟩⟩⟩ 3) mixed 20 (fn := Go.Proofs.Tryz.f15) (cd := cdOf Go.Proofs.Tryz.f15) (H := (H_value_WithLabels n)) (rl := [.cell 4 30]) Go.Proofs.Tryz.func15 (by kernel_rfl) (by kernel_rfl) (by kernel_rfl) (by kernel_rfl) (by kernel_rfl) (by kernel_rfl) (by kernel_rfl)

def H_semtyperef1_upper : Hints I where
  tds := fun i => (asc [] i).getD []
  spl := fun i => (asc [] i).getD []
  pre := fun i => (asc [] i).getD []
  join := asc []
  loop := asc []
  keep := asc []

def row_semtyperef1_upper : Row I := ⟨46, [.d (.int .u8)], [.k (.d (.bool))], semtyperef1_upper⟩

theorem rk_semtyperef1_upper  : RowOk Go.Proofs.Tryz.prog (row_semtyperef1_upper) :=
  row_ok tabOk (dispE_ok (es := []) trivial 3) mixed 9 (fn := Go.Proofs.Tryz.f46) (cd := cdOf Go.Proofs.Tryz.f46) (H := H_semtyperef1_upper) (rl := [.tmp 2]) Go.Proofs.Tryz.func46 (by kernel_rfl) (by kernel_rfl) (by kernel_rfl) (by kernel_rfl) (by kernel_rfl) (by kernel_rfl) (by kernel_rfl)

def H_semtyperef1_IsVariable : Hints I where
  tds := fun i => (asc [] i).getD []
  spl := fun i => (asc [] i).getD []
  pre := fun i => (asc [] i).getD []
  join := asc []
  loop := asc [(58, ⟨562949953159180, [], [], [(3, .k (.d (.int .i64)))], [((.exit 0), []), (.ret, [(2, .k (.d (.bool)))])], bnd tb (.len (.slot 0)) 1⟩)]
  keep := asc []

def row_semtyperef1_IsVariable : Row I := ⟨16, [.d (.str)], [.k (.d (.bool))], semtyperef1_IsVariable⟩

theorem rk_semtyperef1_IsVariable  : RowOk Go.Proofs.Tryz.prog (row_semtyperef1_IsVariable) :=
  row_ok tabOk (dispE_ok (es := [rowE tb (row_semtyperef1_upper), rowE tb (row_semtyperef1_lower), rowE tb (row_semtyperef1_digit)]) ⟨rowE_ok tabOk rk_semtyperef1_upper, ⟨rowE_ok tabOk rk_semtyperef1_lower, ⟨rowE_ok tabOk rk_semtyperef1_digit, trivial⟩⟩⟩ 3) mixed 49 (fn := Go.Proofs.Tryz.f16) (cd := cdOf Go.Proofs.Tryz.f16) (H := H_semtyperef1_IsVariable) (rl := [.tmp 2]) Go.Proofs.Tryz.func16 (by kernel_rfl) (by kernel_rfl) (by kernel_rfl) (by kernel_rfl) (by kernel_rfl) (by kernel_rfl) (by kernel_rfl)

def H_value_Unlabel (n : Nat) : Hints I where
  tds := fun i => (asc [(8, [[], [0], [], [2], [2, 3], [0, 1, 2, 3, 4], [0, 1, 2, 3, 4, 5], [0, 1, 2, 3, 4, 5, 6]]), (14, [[], [0], [], [2], [2, 3], [0, 1, 2, 3, 4], [], [0, 1, 2, 3, 4, 5, 6]]), (18, [[], [0], [], [2], [2, 3], [0, 1, 2, 3, 4], [0, 1, 2, 3, 4, 5], [0, 1, 2, 3, 4, 5, 6]])] i).getD []
  spl := fun i => (asc [] i).getD []
  pre := fun i => (asc [] i).getD []
  join := asc []
  loop := asc [(506, ⟨17175674912, [], [(3, .lvs [.d (.int .i64), .d (.int .i64), .d (.str), .row 30 false, .row 58 false, .d (.sl 43), .row 9 false])], [(22, .k (.d (.int .i64)))], [((.exit 0), [])], bnd tb (.slot 21) 1⟩),
    (2042, ⟨147573952452237462336, [], [], [(6, .k (.row 43 false)), (37, .k (.d (.int .i64)))], [((.exit 2), [(6, .k (.row 43 false))])], bnd tb (.slot 36) 1⟩),
    (2091418, ⟨4610560118520547328, [], [(9, .lvs [.row 30 false, .d (.bool), .d (.int .i64), .d (.int .i64), .d (.str), .d (.sl 30), .d (.sl 58), .d (.sl 43), .d (.sl 9)])], [(50, .k (.d (.int .i64)))], [((.exit 4), [])], bnd tb (.slot 49) 1⟩)]
  keep := asc []

noncomputable def row_value_Unlabel (n : Nat) : Row I := ⟨17, [.d (.dat 30)], [.k (.d (.dat 30))], value_Unlabel n⟩

theorem rkB_value_Unlabel (n : Nat) (h_value_Unlabel : RowOk Go.Proofs.Tryz.prog (row_value_Unlabel n)) : RowOk Go.Proofs.Tryz.prog (row_value_Unlabel (n + 1)) :=
  row_ok tabOk (dispE_ok (es := [rowE tb row_49, rowE tb (row_value_Unlabel n), rowE tb (row_value_sortEntries n)]) ⟨rowE_ok tabOk rk_49, ⟨rowE_ok tabOk h_value_Unlabel, ⟨rowE_ok tabOk (rk_value_sortEntries n), trivial⟩⟩⟩ 3) mixed 71 (fn := Go.Proofs.Tryz.f17) (cd := cdOf Go.Proofs.Tryz.f17) (H := (H_value_Unlabel n)) (rl := [.cell 2 30]) Go.Proofs.Tryz.func17 (by kernel_rfl) (by kernel_rfl) (by kernel_rfl) (by kernel_rfl) (by kernel_rfl) (by kernel_rfl) (by kernel_rfl)

theorem rk_value_Unlabel : ∀ n : Nat, RowOk Go.Proofs.Tryz.prog (row_value_Unlabel n)
  | 0 => rowOk_none (by kernel_rfl)
  | n + 1 => rkB_value_Unlabel n (rk_value_Unlabel n)

def H_semtyperef1_WithLabels : Hints I where
  tds := fun i => (asc [] i).getD []
  spl := fun i => (asc [] i).getD []
  pre := fun i => (asc [] i).getD []
  join := asc []
  loop := asc []
  keep := asc []

def row_semtyperef1_WithLabels : Row I := ⟨18, [.d (.dat 30), .d (.sl 9)], [.k (.d (.dat 30))], semtyperef1_WithLabels⟩

theorem rk_semtyperef1_WithLabels  : RowOk Go.Proofs.Tryz.prog (row_semtyperef1_WithLabels) :=
  row_ok tabOk (dispE_ok (es := [rowE tb (row_semtyperef1_Sorted)]) ⟨rowE_ok tabOk rk_semtyperef1_Sorted, trivial⟩ 3) mixed 9 (fn := Go.Proofs.Tryz.f18) (cd := cdOf Go.Proofs.Tryz.f18) (H := H_semtyperef1_WithLabels) (rl := [.cell 4 30]) Go.Proofs.Tryz.func18 (by kernel_rfl) (by kernel_rfl) (by kernel_rfl) (by kernel_rfl) (by kernel_rfl) (by kernel_rfl) (by kernel_rfl)

def H_semtyperef1_Unlabel (n : Nat) : Hints I where
  tds := fun i => (asc [(12, [[], [0], [], [0, 1, 2], [0, 1, 2, 3], [0, 1, 2, 3, 4], [], [6], [], [6, 7, 8], [6, 7, 8, 9], [6, 7, 8, 9, 10], [6, 7, 8, 9, 10, 11], [0, 1, 2, 3, 4, 5, 6, 7, 8, 9, 10, 11, 12], [], [0, 1, 2, 3, 4, 5, 6, 7, 8, 9, 10, 11, 12, 13, 14]]), (16, [[], [0], [], [2], [], [2, 3, 4], [2, 3, 4, 5], [2, 3, 4, 5, 6], [], [2, 3, 4, 5, 6, 7, 8], [2, 3, 4, 5, 6, 7, 8, 9], [2, 3, 4, 5, 6, 7, 8, 9, 10], [2, 3, 4, 5, 6, 7, 8, 9, 10, 11], [0, 1, 2, 3, 4, 5, 6, 7, 8, 9, 10, 11, 12], [0, 1, 2, 3, 4, 5, 6, 7, 8, 9, 10, 11, 12, 13], [0, 1, 2, 3, 4, 5, 6, 7, 8, 9, 10, 11, 12, 13, 14]])] i).getD []
  spl := fun i => (asc [] i).getD []
  pre := fun i => (asc [] i).getD []
  join := asc []
  loop := asc [(122, ⟨67107864, [], [], [(3, .k (.row 30 false)), (4, .k (.d (.int .i64)))], [((.exit 0), [(3, .k (.row 30 false))])], bnd tb (.len (.ld 25 (.fld 30 3 (.slot 1)))) 1⟩),
    (1018, ⟨604462909807314318918112, [], [], [(5, .k (.row 43 false)), (6, .k (.d (.int .i64)))], [((.exit 2), [(5, .k (.row 43 false))])], bnd tb (.len (.ld 27 (.fld 30 5 (.slot 1)))) 1⟩),
    (260682, ⟨37778931300007208288512, [], [(7, .lvs [.row 30 false, .d (.bool), .d (.int .i64), .d (.int .i64), .d (.str), .d (.sl 30), .d (.sl 58), .d (.sl 43), .d (.sl 9)])], [(8, .k (.d (.int .i64)))], [((.exit 4), [])], fun _ => some n⟩)]
  keep := asc []

def row_semtyperef1_Unlabel (n : Nat) : Row I := ⟨19, [.d (.dat 30)], [.k (.d (.dat 30))], semtyperef1_Unlabel n⟩

theorem rkB_semtyperef1_Unlabel (n : Nat) (h_semtyperef1_Unlabel : RowOk Go.Proofs.Tryz.prog (row_semtyperef1_Unlabel n)) : RowOk Go.Proofs.Tryz.prog (row_semtyperef1_Unlabel (n + 1)) :=
  row_ok tabOk (dispE_ok (es := [rowE tb (row_semtyperef1_Unlabel n), rowE tb (row_semtyperef1_entries n)]) ⟨rowE_ok tabOk h_semtyperef1_Unlabel, ⟨rowE_ok tabOk (rk_semtyperef1_entries n), trivial⟩⟩ 3) mixed 83 (fn := Go.Proofs.Tryz.f19) (cd := cdOf Go.Proofs.Tryz.f19) (H := (H_semtyperef1_Unlabel n)) (rl := [.cell 2 30]) Go.Proofs.Tryz.func19 (by kernel_rfl) (by kernel_rfl) (by kernel_rfl) (by kernel_rfl) (by kernel_rfl) (by kernel_rfl) (by kernel_rfl)

theorem rk_semtyperef1_Unlabel : ∀ n : Nat, RowOk Go.Proofs.Tryz.prog (row_semtyperef1_Unlabel n)
  | 0 => rowOk_none (by kernel_rfl)
  | n + 1 => rkB_semtyperef1_Unlabel n (rk_semtyperef1_Unlabel n)

def H_semtypelaw4_ValueLabels (n : Nat) : Hints I where
  tds := fun i => (asc [(11, [[], [], [], [1, 2], [0, 1, 2, 3], [0, 1, 2, 3, 4], [0, 1, 2, 3, 4, 5], [0, 1, 2, 3, 4, 5, 6], [0, 1, 2, 3, 4, 5, 6, 7], [0, 1, 2, 3, 4, 5, 6, 7, 8], [0, 1, 2, 3, 4, 5, 6], [0, 1, 2, 3, 4, 5, 6, 7, 8, 9, 10], [0, 1, 2, 3, 4, 5, 6, 7, 8, 9, 10, 11], [0, 1, 2, 3, 4, 5, 6, 7, 8, 9, 10, 11, 12], [0, 1, 2, 3, 4, 5, 6, 7, 8, 9, 10, 11, 12, 13], [0, 1, 2, 3, 4, 5, 6, 7, 8, 9, 10, 11, 12, 13, 14], [0, 1, 2, 3, 4, 5, 6, 7, 8, 9, 10, 11, 12, 13, 14, 15], [0, 1, 2, 3, 4, 5, 6, 7, 8, 9, 10, 11, 12, 13, 14, 15, 16]]), (13, [[], [], [1], [0, 1, 2], [0, 1, 2, 3], [0, 1, 2, 3, 4], [0, 1, 2, 3, 4, 5], [0, 1, 2, 3, 4], [0, 1, 2, 3, 4, 5, 6, 7], [0, 1, 2, 3, 4, 5, 6, 7, 8], [0, 1, 2, 3, 4, 5, 6, 7, 8, 9], [0, 1, 2, 3, 4, 5, 6, 7, 8, 9, 10], [0, 1, 2, 3, 4, 5, 6, 7, 8, 9, 10, 11], [0, 1, 2, 3, 4, 5, 6, 7, 8, 9, 10], [0, 1, 2, 3, 4, 5, 6, 7, 8, 9, 10, 11, 12, 13], [0, 1, 2, 3, 4, 5, 6, 7, 8, 9, 10, 11, 12, 13, 14], [0, 1, 2, 3, 4, 5, 6, 7, 8, 9, 10, 11, 12, 13, 14, 15], [0, 1, 2, 3, 4, 5, 6, 7, 8, 9, 10, 11, 12, 13, 14, 15, 16], [0, 1, 2, 3, 4, 5, 6, 7, 8, 9, 10, 11, 12, 13, 14, 15, 16, 17], [0, 1, 2, 3, 4, 5, 6, 7, 8, 9, 10, 11, 12, 13, 14, 15, 16, 17, 18]])] i).getD []
  spl := fun i => (asc [] i).getD []
  pre := fun i => (asc [] i).getD []
  join := asc []
  loop := asc [(506, ⟨274861130112, [], [], [(7, .k (.d (.bool))), (8, .k (.d (.int .i64)))], [((.exit 0), [(7, .k (.d (.bool)))])], bnd tb (.len (.slot 1)) 1⟩)]
  keep := asc []

noncomputable def row_semtypelaw4_ValueLabels (n : Nat) : Row I := ⟨5, [.d (.sl 3), .d (.sl 9)], [.k (.d (.bool))], semtypelaw4_ValueLabels n⟩

theorem rk_semtypelaw4_ValueLabels (n : Nat)  : RowOk Go.Proofs.Tryz.prog (row_semtypelaw4_ValueLabels n) :=
  row_ok tabOk (dispE_ok (es := [rowE tb (row_semtypelaw4_awake n), rowE tb (row_semtypelaw4_drawn n), rowE tb (row_value_WithLabels n), rowE tb (row_semtyperef1_IsVariable), rowE tb (row_value_Unlabel n), rowE tb (row_semtyperef1_WithLabels), rowE tb (row_semtyperef1_Equal n), rowE tb (row_value_Validate n), rowE tb (row_semtyperef1_Unlabel n)]) ⟨rowE_ok tabOk (rk_semtypelaw4_awake n), ⟨rowE_ok tabOk (rk_semtypelaw4_drawn n), ⟨rowE_ok tabOk (rk_value_WithLabels n), ⟨rowE_ok tabOk rk_semtyperef1_IsVariable, ⟨rowE_ok tabOk (rk_value_Unlabel n), ⟨rowE_ok tabOk rk_semtyperef1_WithLabels, ⟨rowE_ok tabOk (rk_semtyperef1_Equal n), ⟨rowE_ok tabOk (rk_value_Validate n), ⟨rowE_ok tabOk (rk_semtyperef1_Unlabel n), trivial⟩⟩⟩⟩⟩⟩⟩⟩⟩ 3) mixed 77 (fn := Go.Proofs.Tryz.f5) (cd := cdOf Go.Proofs.Tryz.f5) (H := (H_semtypelaw4_ValueLabels n)) (rl := [.tmp 4]) Go.Proofs.Tryz.func5 (by kernel_rfl) (by kernel_rfl) (by kernel_rfl) (by kernel_rfl) (by kernel_rfl) (by kernel_rfl) (by kernel_rfl)

end Go.Qx
