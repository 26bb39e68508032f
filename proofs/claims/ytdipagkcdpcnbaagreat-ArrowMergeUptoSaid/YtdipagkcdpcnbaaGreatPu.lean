/- Printed by ex.py. What the Go functions compute. -/
import Derived.Test.YtdipagkcdpcnbaaGreatQTab
import Derived.Test.YtdipagkcdpcnbaaGreatQLib
import Derived.Test.YtdipagkcdpcnbaaGreatQSort
namespace Go.Qx
open Go Go.RowKit Go.Sx
set_option maxRecDepth 100000

structure Api_Field where
  Key_ : Key
  Node : Int
  Optional : Bool

structure Api_TypeNode where
  Kind : Int
  Lo : Int
  Hi : Int
  Text : ByteArray
  Kids : List Int
  Fields : List Api_Field
  Rest : Int × Int

structure Api_Type where
  Nodes : List Api_TypeNode
  Root : Int

structure Api_Goal where
  Pos : List Int
  Neg : List Int
  Lists : Bool

structure Api_EntryForm where
  Args : List Api_Goal
  Fails : Bool
  Result : Api_Goal

structure Semtypebase_Source where
  L : List Int
  At : Int

structure Value_used where
  number : Bool
  text_ : Bool
  kids : Bool
  keys : Bool
  entries : Bool

def eqD_70 (x y : Int × Int) : Bool := ((x.1 == y.1) && ((x.2 == y.2) && true))

def eqD_114 (x y : Key) : Bool := ((x.Kind == y.Kind) && ((strEq x.Text y.Text) && true))

def semtypelaw12_short_l1 (l : List (List Int)) (x1 : Int) : Option (Fl Int (Sum Unit Bool)) :=
  bif decide (x1 < (l.length : Int))
  then (Option.bind (idx l x1) fun e2 =>
  bif decide (80 < (e2.length : Int))
  then (some (.done (.inr false)))
  else (some (.next (wr .i64 (x1 + 1)))))
  else (some (.done (.inl ())))

def semtypelaw12_short (l : List (List Int)) : Option Bool :=
  Option.bind (iter (semtypelaw12_short_l1 l) ((l.length : Int).toNat + 1) 0) fun b3 =>
  onEnd (fun _ =>
  some true) (fun y5 =>
  some y5) b3

def semtyperef1_Nodes_l1 (v : Val) (rec_semtyperef1_Nodes : Val → Option Int) (x1 : Int × Int) : Option (Fl (Int × Int) Int) :=
  bif decide (x1.2 < (v.Kids.length : Int))
  then (Option.bind (idx v.Kids x1.2) fun e2 =>
  Option.bind (rec_semtyperef1_Nodes e2) fun r3 =>
  some (.next (wr .i64 (x1.1 + r3), wr .i64 (x1.2 + 1))))
  else (some (.done x1.1))

def semtyperef1_Nodes_l2 (rec_semtyperef1_Nodes : Val → Option Int) (e6 : Ent) (x7 : Int × Int) : Option (Fl (Int × Int) Int) :=
  bif decide (x7.2 < (e6.Args.length : Int))
  then (Option.bind (idx e6.Args x7.2) fun e8 =>
  Option.bind (rec_semtyperef1_Nodes e8) fun r9 =>
  some (.next (wr .i64 (x7.1 + r9), wr .i64 (x7.2 + 1))))
  else (some (.done x7.1))

def semtyperef1_Nodes_l3 (v : Val) (rec_semtyperef1_Nodes : Val → Option Int) (x5 : Int × Int) : Option (Fl (Int × Int) Int) :=
  bif decide (x5.2 < (v.Entries.length : Int))
  then (Option.bind (Option.bind (idx v.Entries x5.2) fun e6 =>
  Option.bind (iter (semtyperef1_Nodes_l2 rec_semtyperef1_Nodes e6) ((e6.Args.length : Int).toNat + 1) (x5.1, 0)) fun b10 =>
  bif !e6.Fails
  then (Option.bind (rec_semtyperef1_Nodes e6.Result) fun r11 =>
  some (wr .i64 (b10 + r11)))
  else (some b10)) fun b12 =>
  some (.next (b12, wr .i64 (x5.2 + 1))))
  else (some (.done x5.1))

def semtyperef1_Nodes_B (_ : Nat) (rec_semtyperef1_Nodes : Val → Option Int) (v : Val) : Option Int :=
  Option.bind (iter (semtyperef1_Nodes_l1 v rec_semtyperef1_Nodes) ((v.Kids.length : Int).toNat + 1) (1, 0)) fun b4 =>
  Option.bind (iter (semtyperef1_Nodes_l3 v rec_semtyperef1_Nodes) ((v.Entries.length : Int).toNat + 1) (b4, 0)) fun b13 =>
  some b13

def semtyperef1_Nodes : Nat → Val → Option Int
  | 0 => fun _ => none
  | n + 1 => semtyperef1_Nodes_B n (semtyperef1_Nodes n)

def semtyperef1_Nil  : Option Val :=
  some (Val.mk 5 0 (⟨#[]⟩ : ByteArray) ([] : List Val) ([] : List Key) ([] : List Ent) ([] : List ByteArray))

def typeexpr_plainNode (d : Api_TypeNode) : Option Bool :=
  Option.bind (bif d.Kind == 3
  then (some (true, false, false, false))
  else (Option.bind (bif d.Kind == 4
  then (some (d.Kind == 4))
  else (bif d.Kind == 6
  then (some (d.Kind == 6))
  else (some (d.Kind == 19)))) fun b1 =>
  bif b1
  then (some (false, true, false, false))
  else (Option.bind (bif d.Kind == 10
  then (some (d.Kind == 10))
  else (bif d.Kind == 12
  then (some (d.Kind == 12))
  else (bif d.Kind == 14
  then (some (d.Kind == 14))
  else (bif d.Kind == 16
  then (some (d.Kind == 16))
  else (bif d.Kind == 17
  then (some (d.Kind == 17))
  else (some (d.Kind == 18))))))) fun b2 =>
  bif b2
  then (some (false, false, true, false))
  else (bif d.Kind == 13
  then (some (false, false, false, true))
  else (some (false, false, false, false)))))) fun b3 =>
  Option.bind (bif b3.1
  then (some true)
  else (Option.bind (bif d.Lo == 0
  then (some (d.Hi == 0))
  else (some false)) fun q4 =>
  some q4)) fun q5 =>
  Option.bind (bif q5
  then (Option.bind (bif b3.2.1
  then (some true)
  else (some (strEq d.Text (⟨#[]⟩ : ByteArray)))) fun q6 =>
  some q6)
  else (some false)) fun q7 =>
  Option.bind (bif q7
  then (Option.bind (bif b3.2.2.1
  then (some true)
  else (some ((d.Kids.length : Int) == 0))) fun q8 =>
  some q8)
  else (some false)) fun q9 =>
  Option.bind (bif q9
  then (Option.bind (bif b3.2.2.2
  then (some true)
  else (Option.bind (bif (d.Fields.length : Int) == 0
  then (some (eqD_70 d.Rest (0, 0)))
  else (some false)) fun q10 =>
  some q10)) fun q11 =>
  some q11)
  else (some false)) fun q12 =>
  some q12

def ident_isName_l1 (s : ByteArray) (other : Int → Option Bool) (x5 : Int) : Option (Fl Int (Sum Unit Bool)) :=
  bif decide (x5 < (s.size : Int))
  then (Option.bind (sidx s x5) fun e6 =>
  Option.bind (other (e6.toNat : Int)) fun r7 =>
  bif !r7
  then (some (.done (.inr false)))
  else (some (.next (wr .i64 (x5 + 1)))))
  else (some (.done (.inl ())))

def ident_isName (s : ByteArray) (first : Int → Option Bool) (other : Int → Option Bool) : Option Bool :=
  Option.bind (bif decide ((s.size : Int) < 1)
  then (some true)
  else (some (decide (16 < (s.size : Int))))) fun q1 =>
  Option.bind (bif q1
  then (some true)
  else (Option.bind (sidx s 0) fun e2 =>
  Option.bind (first (e2.toNat : Int)) fun r3 =>
  some (!r3))) fun q4 =>
  bif q4
  then (some false)
  else (Option.bind (iter (ident_isName_l1 s other) ((s.size : Int).toNat + 1) 1) fun b8 =>
  onEnd (fun _ =>
  some true) (fun y10 =>
  some y10) b8)

def ident_isLower (c : Int) : Option Bool :=
  Option.bind (bif decide (97 ≤ c)
  then (some (decide (c ≤ 122)))
  else (some false)) fun q1 =>
  some q1

def ident_isDigit (c : Int) : Option Bool :=
  Option.bind (bif decide (48 ≤ c)
  then (some (decide (c ≤ 57)))
  else (some false)) fun q1 =>
  some q1

def ident_IsAtom_1 (c : Int) : Option Bool :=
  Option.bind (ident_isLower c) fun r1 =>
  Option.bind (bif r1
  then (some true)
  else (Option.bind (ident_isDigit c) fun r2 =>
  some r2)) fun q3 =>
  Option.bind (bif q3
  then (some true)
  else (some (c == 95))) fun q4 =>
  some q4

def ident_IsAtom (s : ByteArray) : Option Bool :=
  Option.bind (ident_isName s (fun z1 =>
  Option.bind (ident_isLower z1) fun r2 =>
  some r2) (fun z3 =>
  Option.bind (ident_IsAtom_1 z3) fun r4 =>
  some r4)) fun r5 =>
  some r5

def ident_isUpper (c : Int) : Option Bool :=
  Option.bind (bif decide (65 ≤ c)
  then (some (decide (c ≤ 90)))
  else (some false)) fun q1 =>
  some q1

def ident_IsVariable_1 (c : Int) : Option Bool :=
  Option.bind (ident_isLower c) fun r1 =>
  Option.bind (bif r1
  then (some true)
  else (Option.bind (ident_isUpper c) fun r2 =>
  some r2)) fun q3 =>
  Option.bind (bif q3
  then (some true)
  else (Option.bind (ident_isDigit c) fun r4 =>
  some r4)) fun q5 =>
  Option.bind (bif q5
  then (some true)
  else (some (c == 95))) fun q6 =>
  some q6

def ident_IsVariable (s : ByteArray) : Option Bool :=
  Option.bind (ident_isName s (fun z1 =>
  Option.bind (ident_isUpper z1) fun r2 =>
  some r2) (fun z3 =>
  Option.bind (ident_IsVariable_1 z3) fun r4 =>
  some r4)) fun r5 =>
  some r5

def ident_ValidKey (k : Key) : Option Bool :=
  bif k.Kind == 0
  then (Option.bind (ident_IsAtom k.Text) fun r1 =>
  some r1)
  else (bif k.Kind == 1
  then (some (decide ((k.Text.size : Int) ≤ 64)))
  else (some false))

def cmp_isNaN_int (x : Int) : Option Bool :=
  some (x != x)

def cmp_Compare_int (x : Int) (y : Int) : Option Int :=
  Option.bind (cmp_isNaN_int x) fun r1 =>
  Option.bind (cmp_isNaN_int y) fun r2 =>
  bif r1
  then (bif r2
  then (some 0)
  else (some (-1)))
  else (bif r2
  then (some 1)
  else (bif decide (x < y)
  then (some (-1))
  else (bif decide (y < x)
  then (some 1)
  else (some 0))))

def internal_bytealg_CompareString (a : ByteArray) (b : ByteArray) : Option Int :=
  Option.bind (cmpF a b) fun r1 =>
  some r1

def strings_Compare (a : ByteArray) (b : ByteArray) : Option Int :=
  Option.bind (internal_bytealg_CompareString a b) fun r1 =>
  some r1

def ident_CompareKeys (a : Key) (b : Key) : Option Int :=
  Option.bind (cmp_Compare_int a.Kind b.Kind) fun r1 =>
  bif r1 != 0
  then (some r1)
  else (Option.bind (strings_Compare a.Text b.Text) fun r2 =>
  some r2)

def typeexpr_validFields_l1 (l : List Api_Field) (x1 : Int) : Option (Fl Int (Sum Unit Bool)) :=
  bif decide (x1 < (l.length : Int))
  then (Option.bind (idx l x1) fun e2 =>
  Option.bind (ident_ValidKey e2.Key_) fun r3 =>
  Option.bind (bif !r3
  then (some true)
  else (Option.bind (bif decide (0 < x1)
  then (Option.bind (idx l (wr .i64 (x1 - 1))) fun e4 =>
  Option.bind (ident_CompareKeys e4.Key_ e2.Key_) fun r5 =>
  some (decide (0 ≤ r5)))
  else (some false)) fun q6 =>
  some q6)) fun q7 =>
  bif q7
  then (some (.done (.inr false)))
  else (some (.next (wr .i64 (x1 + 1)))))
  else (some (.done (.inl ())))

def typeexpr_validFields (l : List Api_Field) : Option Bool :=
  Option.bind (iter (typeexpr_validFields_l1 l) ((l.length : Int).toNat + 1) 0) fun b8 =>
  onEnd (fun _ =>
  some true) (fun y10 =>
  some y10) b8

def typeexpr_validKind (d : Api_TypeNode) : Option Bool :=
  Option.bind (bif d.Kind == 1
  then (some (d.Kind == 1))
  else (bif d.Kind == 2
  then (some (d.Kind == 2))
  else (bif d.Kind == 5
  then (some (d.Kind == 5))
  else (bif d.Kind == 7
  then (some (d.Kind == 7))
  else (bif d.Kind == 8
  then (some (d.Kind == 8))
  else (bif d.Kind == 9
  then (some (d.Kind == 9))
  else (bif d.Kind == 11
  then (some (d.Kind == 11))
  else (some (d.Kind == 15))))))))) fun b1 =>
  bif b1
  then (some true)
  else (bif d.Kind == 3
  then (some (decide (d.Lo ≤ d.Hi)))
  else (bif d.Kind == 4
  then (some (decide ((d.Text.size : Int) ≤ 64)))
  else (bif d.Kind == 6
  then (Option.bind (ident_IsAtom d.Text) fun r2 =>
  some r2)
  else (bif d.Kind == 19
  then (Option.bind (ident_IsVariable d.Text) fun r3 =>
  some r3)
  else (bif d.Kind == 10
  then (some (decide ((d.Kids.length : Int) ≤ 4)))
  else (bif d.Kind == 12
  then (some ((d.Kids.length : Int) == 2))
  else (bif d.Kind == 13
  then (Option.bind (typeexpr_validFields d.Fields) fun r4 =>
  some r4)
  else (bif d.Kind == 14
  then (Option.bind (bif decide (1 ≤ (d.Kids.length : Int))
  then (some (decide ((d.Kids.length : Int) ≤ 5)))
  else (some false)) fun q5 =>
  some q5)
  else (Option.bind (bif d.Kind == 16
  then (some (d.Kind == 16))
  else (some (d.Kind == 17))) fun b6 =>
  bif b6
  then (some (decide (1 ≤ (d.Kids.length : Int))))
  else (bif d.Kind == 18
  then (some ((d.Kids.length : Int) == 1))
  else (some false)))))))))))

def typeexpr_edges_l1 (n_0 : Api_TypeNode) (x2 : (List Int) × Int) : Option (Fl ((List Int) × Int) (List Int)) :=
  bif decide (x2.2 < (n_0.Fields.length : Int))
  then (Option.bind (idx n_0.Fields x2.2) fun e3 =>
  Option.bind (room (x2.1.length + ([e3.Node] : List Int).length) 8) fun _ =>
  some (.next (x2.1 ++ ([e3.Node] : List Int), wr .i64 (x2.2 + 1))))
  else (some (.done x2.1))

def typeexpr_edges (n_0 : Api_TypeNode) : Option (List Int) :=
  Option.bind (cloneF 8 n_0.Kids) fun r1 =>
  Option.bind (iter (typeexpr_edges_l1 n_0) ((n_0.Fields.length : Int).toNat + 1) (r1, 0)) fun b5 =>
  bif n_0.Kind == 13
  then (Option.bind (room (b5.length + ([n_0.Rest.1, n_0.Rest.2] : List Int).length) 8) fun _ =>
  some (b5 ++ ([n_0.Rest.1, n_0.Rest.2] : List Int)))
  else (some b5)

def typeexpr_isBoolean (kind : Int) : Option Bool :=
  Option.bind (bif kind == 16
  then (some true)
  else (some (kind == 17))) fun q1 =>
  Option.bind (bif q1
  then (some true)
  else (some (kind == 18))) fun q2 =>
  some q2

def typeexpr_contractive_1_l1 (a2_2 : Api_Type) (e10 : Api_TypeNode) (rec_typeexpr_contractive_1 : Int → (List Int) → Api_Type → Unit → Option (Bool × (List Int))) (x11 : Int × (List Int)) : Option (Fl (Int × (List Int)) (Sum (List Int) (Bool × (List Int)))) :=
  bif decide (x11.1 < (e10.Kids.length : Int))
  then (Option.bind (idx e10.Kids x11.1) fun e12 =>
  Option.bind (rec_typeexpr_contractive_1 e12 x11.2 a2_2 ()) fun r13 =>
  bif !r13.1
  then (some (.done (.inr (false, r13.2))))
  else (some (.next (wr .i64 (x11.1 + 1), r13.2))))
  else (some (.done (.inl x11.2)))

def typeexpr_contractive_1_B (_ : Nat) (rec_typeexpr_contractive_1 : Int → (List Int) → Api_Type → Unit → Option (Bool × (List Int))) (i : Int) (a1_1 : List Int) (a2_2 : Api_Type) (_ : Unit) : Option (Bool × (List Int)) :=
  Option.bind (idx a1_1 i) fun _ =>
  Option.bind (a1_1[i.toNat]?) fun e2 =>
  Option.bind (bif e2 != 0
  then (some true)
  else (Option.bind (idx a2_2.Nodes i) fun e3 =>
  Option.bind (typeexpr_isBoolean e3.Kind) fun r4 =>
  some (!r4))) fun q5 =>
  bif q5
  then (Option.bind (idx a1_1 i) fun _ =>
  Option.bind (a1_1[i.toNat]?) fun e7 =>
  some (e7 != 1, a1_1))
  else (Option.bind (idx a1_1 i) fun _ =>
  Option.bind (a1_1[i.toNat]?) fun _ =>
  Option.bind (idx a2_2.Nodes i) fun e10 =>
  Option.bind (iter (typeexpr_contractive_1_l1 a2_2 e10 rec_typeexpr_contractive_1) ((e10.Kids.length : Int).toNat + 1) (0, a1_1.set i.toNat 1)) fun (b14 : Sum (List Int) (Bool × (List Int))) =>
  onEnd (fun x15 =>
  Option.bind (idx x15 i) fun _ =>
  Option.bind (x15[i.toNat]?) fun _ =>
  some (true, x15.set i.toNat 2)) (fun y16 =>
  some (y16.1, y16.2)) b14)

def typeexpr_contractive_1 : Nat → Int → (List Int) → Api_Type → Unit → Option (Bool × (List Int))
  | 0 => fun _ _ _ _ => none
  | n + 1 => typeexpr_contractive_1_B n (typeexpr_contractive_1 n)

def typeexpr_contractive_l1 (t : Api_Type) (n : Nat) (x2 : Int × (List Int)) : Option (Fl (Int × (List Int)) (Sum (List Int) (Bool × (List Int)))) :=
  bif decide (x2.1 < (t.Nodes.length : Int))
  then (Option.bind (typeexpr_contractive_1 n x2.1 x2.2 t ()) fun r3 =>
  bif !r3.1
  then (some (.done (.inr (false, r3.2))))
  else (some (.next (wr .i64 (x2.1 + 1), r3.2))))
  else (some (.done (.inl x2.2)))

def typeexpr_contractive (n : Nat) (t : Api_Type) : Option Bool :=
  Option.bind (mkRoom (t.Nodes.length : Int) (t.Nodes.length : Int) 8) fun m1 =>
  Option.bind (iter (typeexpr_contractive_l1 t n) ((t.Nodes.length : Int).toNat + 1) (0, List.replicate m1 (0 : Int))) fun (b4 : Sum (List Int) (Bool × (List Int))) =>
  onEnd (fun _ =>
  some true) (fun y6 =>
  some y6.1) b4

def typeexpr_WellFormed_l1 (t : Api_Type) (r7 : List Int) (x8 : Int) : Option (Fl Int (Sum Unit Int)) :=
  bif decide (x8 < (r7.length : Int))
  then (Option.bind (idx r7 x8) fun e9 =>
  Option.bind (bif decide (e9 < 0)
  then (some true)
  else (some (decide ((t.Nodes.length : Int) ≤ e9)))) fun q10 =>
  bif q10
  then (some (.done (.inr 1)))
  else (some (.next (wr .i64 (x8 + 1)))))
  else (some (.done (.inl ())))

def typeexpr_WellFormed_l2 (t : Api_Type) (x2 : Int) : Option (Fl Int (Sum Unit Int)) :=
  bif decide (x2 < (t.Nodes.length : Int))
  then (Option.bind (idx t.Nodes x2) fun e3 =>
  Option.bind (typeexpr_plainNode e3) fun r4 =>
  Option.bind (bif !r4
  then (some true)
  else (Option.bind (typeexpr_validKind e3) fun r5 =>
  some (!r5))) fun q6 =>
  bif q6
  then (some (.done (.inr 1)))
  else (Option.bind (typeexpr_edges e3) fun r7 =>
  Option.bind (iter (typeexpr_WellFormed_l1 t r7) ((r7.length : Int).toNat + 1) 0) fun b11 =>
  onEnd (fun _ =>
  some (.next (wr .i64 (x2 + 1)))) (fun y13 =>
  some (.done (.inr y13))) b11))
  else (some (.done (.inl ())))

def typeexpr_WellFormed (n : Nat) (t : Api_Type) : Option Int :=
  Option.bind (bif decide (t.Root < 0)
  then (some true)
  else (some (decide ((t.Nodes.length : Int) ≤ t.Root)))) fun q1 =>
  bif q1
  then (some 1)
  else (Option.bind (iter (typeexpr_WellFormed_l2 t) ((t.Nodes.length : Int).toNat + 1) 0) fun b14 =>
  onEnd (fun _ =>
  Option.bind (typeexpr_contractive n t) fun r17 =>
  bif !r17
  then (some 3)
  else (some 0)) (fun y16 =>
  some y16) b14)

def slices_IndexFunc_int_int_l1 (s : List Int) (f : Int → Option Bool) (x1 : Int) : Option (Fl Int (Sum Unit Int)) :=
  bif decide (x1 < (s.length : Int))
  then (Option.bind (idx s x1) fun e2 =>
  Option.bind (f e2) fun r3 =>
  bif r3
  then (some (.done (.inr x1)))
  else (some (.next (wr .i64 (x1 + 1)))))
  else (some (.done (.inl ())))

def slices_IndexFunc_int_int (s : List Int) (f : Int → Option Bool) : Option Int :=
  Option.bind (iter (slices_IndexFunc_int_int_l1 s f) ((s.length : Int).toNat + 1) 0) fun b4 =>
  onEnd (fun _ =>
  some (-1)) (fun y6 =>
  some y6) b4

def slices_ContainsFunc_int_int (s : List Int) (f : Int → Option Bool) : Option Bool :=
  Option.bind (slices_IndexFunc_int_int s f) fun r1 =>
  some (decide (0 ≤ r1))

def arrow_functions_1 (i : Int) (a1_1 : Api_Type) : Option Bool :=
  Option.bind (bif decide (i < 0)
  then (some true)
  else (some (decide ((a1_1.Nodes.length : Int) ≤ i)))) fun q1 =>
  Option.bind (bif q1
  then (some true)
  else (Option.bind (idx a1_1.Nodes i) fun e2 =>
  some (e2.Kind != 14))) fun q3 =>
  some q3

def arrow_functions (t : Api_Type) (nodes : List Int) : Option Bool :=
  Option.bind (slices_ContainsFunc_int_int nodes (fun z1 =>
  Option.bind (arrow_functions_1 z1 t) fun r2 =>
  some r2)) fun r3 =>
  some (!r3)

def arrow_choices_l1 (arity : Int) (e3 : List Int) (x4 : (List (List Int)) × Int) : Option (Fl ((List (List Int)) × Int) (List (List Int))) :=
  bif decide (x4.2 ≤ arity)
  then (Option.bind (cloneF 8 e3) fun r5 =>
  Option.bind (room (r5.length + ([x4.2] : List Int).length) 8) fun _ =>
  Option.bind (room (x4.1.length + ([r5 ++ ([x4.2] : List Int)] : List (List Int)).length) 24) fun _ =>
  some (.next (x4.1 ++ ([r5 ++ ([x4.2] : List Int)] : List (List Int)), wr .i64 (x4.2 + 1))))
  else (some (.done x4.1))

def arrow_choices_l2 (arity : Int) (x1 : (List (List Int)) × Int) (x2 : (List (List Int)) × Int) : Option (Fl ((List (List Int)) × Int) (List (List Int))) :=
  bif decide (x2.2 < (x1.1.length : Int))
  then (Option.bind (idx x1.1 x2.2) fun e3 =>
  Option.bind (iter (arrow_choices_l1 arity e3) (arity.toNat + 2) (x2.1, 0)) fun b8 =>
  some (.next (b8, wr .i64 (x2.2 + 1))))
  else (some (.done x2.1))

def arrow_choices_l3 (arity : Int) (nodes : Int) (x1 : (List (List Int)) × Int) : Option (Fl ((List (List Int)) × Int) (List (List Int))) :=
  bif decide (x1.2 < nodes)
  then (Option.bind (iter (arrow_choices_l2 arity x1) ((x1.1.length : Int).toNat + 1) ([], 0)) fun b9 =>
  some (.next (b9, wr .i64 (x1.2 + 1))))
  else (some (.done x1.1))

def arrow_choices (arity : Int) (nodes : Int) : Option (List (List Int)) :=
  Option.bind (iter (arrow_choices_l3 arity nodes) (nodes.toNat + 1) (([([] : List Int)] : List (List Int)), 0)) fun b10 =>
  some b10

def slices_Index_int_int_l1 (s : List Int) (v : Int) (x1 : Int) : Option (Fl Int (Sum Unit Int)) :=
  bif decide (x1 < (s.length : Int))
  then (Option.bind (idx s x1) fun e2 =>
  bif v == e2
  then (some (.done (.inr x1)))
  else (some (.next (wr .i64 (x1 + 1)))))
  else (some (.done (.inl ())))

def slices_Index_int_int (s : List Int) (v : Int) : Option Int :=
  Option.bind (iter (slices_Index_int_int_l1 s v) ((s.length : Int).toNat + 1) 0) fun b3 =>
  onEnd (fun _ =>
  some (-1)) (fun y5 =>
  some y5) b3

def slices_Contains_int_int (s : List Int) (v : Int) : Option Bool :=
  Option.bind (slices_Index_int_int s v) fun r1 =>
  some (decide (0 ≤ r1))

def core_Meet_int_1 (x : Int) (a1_1 : List Int) : Option Bool :=
  Option.bind (slices_Contains_int_int a1_1 x) fun r1 =>
  some r1

def core_Meet_int (a : List Int) (b : List Int) : Option Bool :=
  Option.bind (slices_ContainsFunc_int_int a (fun z1 =>
  Option.bind (core_Meet_int_1 z1 b) fun r2 =>
  some r2)) fun r3 =>
  some r3

def slices_Compact_int_int_l1 (x1 : (List Int) × Int) (x16 : (Int × Int) × List Int) : Option (Fl ((Int × Int) × List Int) (Int × List Int)) :=
  bif decide (x16.1.2 < ((x16.2.drop x1.2.toNat).length : Int))
  then (Option.bind (idx (x16.2.drop x1.2.toNat) x16.1.2) fun _ =>
  Option.bind (x16.2[(x1.2.toNat + x16.1.2.toNat)]?) fun e18 =>
  Option.bind (idx (x16.2.drop x1.2.toNat) (wr .i64 (x16.1.2 - 1))) fun _ =>
  Option.bind (x16.2[(x1.2.toNat + (wr .i64 (x16.1.2 - 1)).toNat)]?) fun e20 =>
  bif e18 != e20
  then (Option.bind (idx (x16.2.drop x1.2.toNat) x16.1.2) fun _ =>
  Option.bind (x16.2[(x1.2.toNat + x16.1.2.toNat)]?) fun e22 =>
  Option.bind (idx x16.2 x16.1.1) fun _ =>
  Option.bind (x16.2[x16.1.1.toNat]?) fun _ =>
  some (.next ((wr .i64 (x16.1.1 + 1), wr .i64 (x16.1.2 + 1)), x16.2.set x16.1.1.toNat e22)))
  else (some (.next ((x16.1.1, wr .i64 (x16.1.2 + 1)), x16.2))))
  else (some (.done (x16.1.1, x16.2)))

def slices_Compact_int_int_l2  (x1 : (List Int) × Int) : Option (Fl ((List Int) × Int) (Sum (List Int) ((List Int) × (List Int)))) :=
  bif decide (x1.2 < (x1.1.length : Int))
  then (Option.bind (idx x1.1 x1.2) fun _ =>
  Option.bind (x1.1[x1.2.toNat]?) fun e3 =>
  Option.bind (idx x1.1 (wr .i64 (x1.2 - 1))) fun _ =>
  Option.bind (x1.1[(wr .i64 (x1.2 - 1)).toNat]?) fun e5 =>
  bif e3 == e5
  then (Option.bind (idx x1.1 x1.2) fun _ =>
  Option.bind (iter (slices_Compact_int_int_l1 x1) (((x1.1.drop x1.2.toNat).length : Int).toNat + 1) ((x1.2, 1), x1.1)) fun b25 =>
  Option.bind (idx b25.2 b25.1) fun _ =>
  bif Nat.blt b25.1.toNat b25.2.length
  then (Option.bind (cut (b25.2.take b25.1.toNat ++ List.replicate (b25.2.length - b25.1.toNat) (0 : Int)) 0 b25.1) fun y27 =>
  some (.done (.inr (b25.2.take b25.1.toNat ++ List.replicate (b25.2.length - b25.1.toNat) (0 : Int), y27))))
  else (none))
  else (some (.next (x1.1, wr .i64 (x1.2 + 1)))))
  else (some (.done (.inl x1.1)))

def slices_Compact_int_int (s : List Int) : Option (List Int) :=
  bif decide ((s.length : Int) < 2)
  then (some s)
  else (Option.bind (iter slices_Compact_int_int_l2 ((s.length : Int).toNat + 1) (s, 1)) fun b28 =>
  onEnd (fun x29 =>
  some x29) (fun y30 =>
  some y30.2) b28)

def slices_Clip_int_int (s : List Int) : Option (List Int) :=
  bif (s.length : Int) == (s.length : Int) && (s.length : Int) == (s.length : Int)
  then (some s)
  else (none)

def core_Sorted (l : List Int) : Option (List Int) :=
  Option.bind (cloneF 8 l) fun r1 =>
  Option.bind (sortInt r1) fun r2 =>
  Option.bind (slices_Compact_int_int r2.2) fun r3 =>
  Option.bind (slices_Clip_int_int r3) fun r4 =>
  some r4

def core_Normal (g : Api_Goal) : Option Api_Goal :=
  Option.bind (core_Sorted g.Pos) fun r1 =>
  Option.bind (core_Sorted g.Neg) fun r2 =>
  some (Api_Goal.mk r1 r2 g.Lists)

def arrow_forms_l1 (e1 : Api_TypeNode) (m2 : Nat) (x3 : (List Api_Goal) × Int) : Option (Fl ((List Api_Goal) × Int) (List Api_Goal)) :=
  bif decide (x3.2 < ((List.replicate m2 (Api_Goal.mk ([]) ([]) false : Api_Goal)).length : Int))
  then (Option.bind (idx e1.Kids x3.2) fun e4 =>
  Option.bind (idx x3.1 x3.2) fun _ =>
  Option.bind (x3.1[x3.2.toNat]?) fun e6 =>
  some (.next (x3.1.set x3.2.toNat (Api_Goal.mk ([e4] : List Int) e6.Neg e6.Lists), wr .i64 (x3.2 + 1))))
  else (some (.done x3.1))

def arrow_forms_l2 (d : Api_Type) (t : List Int) (a3_3 : List Int) (e1 : Api_TypeNode) (x9 : (List Api_Goal) × Bool × Int × ((List Int) × (List Int) × Bool)) : Option (Fl ((List Api_Goal) × Bool × Int × ((List Int) × (List Int) × Bool)) (Sum ((List Api_Goal) × Bool × ((List Int) × (List Int) × Bool)) ((List Api_EntryForm) × (List Api_Goal) × ((List Int) × (List Int) × Bool)))) :=
  bif decide (x9.2.2.1 < (t.length : Int))
  then (Option.bind (idx t x9.2.2.1) fun e10 =>
  Option.bind (idx a3_3 x9.2.2.1) fun e11 =>
  Option.bind (idx d.Nodes e10) fun e12 =>
  Option.bind (idx e12.Kids e11) fun e13 =>
  Option.bind (bif decide (e11 < (wr .i64 ((e1.Kids.length : Int) - 1)))
  then (Option.bind (idx d.Nodes e13) fun e14 =>
  some (e14.Kind == 2))
  else (some false)) fun q15 =>
  bif q15
  then (some (.done (.inr ([], x9.1, (x9.2.2.2.1, x9.2.2.2.2.1, x9.2.2.2.2.2)))))
  else (bif e11 == (wr .i64 ((e1.Kids.length : Int) - 1))
  then (Option.bind (room (x9.2.2.2.1.length + ([e13] : List Int).length) 8) fun _ =>
  some (.next (x9.1, false, wr .i64 (x9.2.2.1 + 1), (x9.2.2.2.1 ++ ([e13] : List Int), x9.2.2.2.2.1, x9.2.2.2.2.2))))
  else (Option.bind (idx x9.1 e11) fun _ =>
  Option.bind (x9.1[e11.toNat]?) fun _ =>
  none)))
  else (some (.done (.inl (x9.1, x9.2.1, (x9.2.2.2.1, x9.2.2.2.2.1, x9.2.2.2.2.2)))))

def arrow_forms_l3 (x20 : (List Api_Goal) × Bool × ((List Int) × (List Int) × Bool)) (x22 : (List Api_Goal) × (List Api_Goal) × Int) : Option (Fl ((List Api_Goal) × (List Api_Goal) × Int) (Sum ((List Api_Goal) × (List Api_Goal)) ((List Api_EntryForm) × (List Api_Goal)))) :=
  bif decide (x22.2.2 < (x20.1.length : Int))
  then (Option.bind (idx x22.2.1 x22.2.2) fun _ =>
  Option.bind (x22.2.1[x22.2.2.toNat]?) fun e24 =>
  Option.bind (core_Meet_int e24.Pos e24.Neg) fun r25 =>
  bif r25
  then (some (.done (.inr ([], x22.2.1))))
  else (Option.bind (core_Normal e24) fun r26 =>
  Option.bind (room (x22.1.length + ([r26] : List Api_Goal).length) 56) fun _ =>
  some (.next (x22.1 ++ ([r26] : List Api_Goal), x22.2.1, wr .i64 (x22.2.2 + 1)))))
  else (some (.done (.inl (x22.1, x22.2.1))))

def arrow_forms_l4 (b37 : (List Api_Goal) × (List Api_EntryForm)) (x38 : (List Api_Goal) × Int) : Option (Fl ((List Api_Goal) × Int) (List Api_Goal)) :=
  bif decide (x38.2 < (b37.1.length : Int))
  then (Option.bind (idx b37.1 x38.2) fun e39 =>
  Option.bind (core_Normal e39) fun r40 =>
  Option.bind (room (x38.1.length + ([r40] : List Api_Goal).length) 56) fun _ =>
  some (.next (x38.1 ++ ([r40] : List Api_Goal), wr .i64 (x38.2 + 1))))
  else (some (.done x38.1))

def arrow_forms (d : Api_Type) (t : List Int) (a2_2 : Int) (a3_3 : List Int) : Option (List Api_EntryForm) :=
  Option.bind (idx d.Nodes a2_2) fun e1 =>
  Option.bind (mkRoom (wr .i64 ((e1.Kids.length : Int) - 1)) (wr .i64 ((e1.Kids.length : Int) - 1)) 56) fun m2 =>
  Option.bind (iter (arrow_forms_l1 e1 m2) (((List.replicate m2 (Api_Goal.mk ([]) ([]) false : Api_Goal)).length : Int).toNat + 1) (List.replicate m2 (Api_Goal.mk ([]) ([]) false : Api_Goal), 0)) fun b7 =>
  Option.bind (idx e1.Kids (wr .i64 ((e1.Kids.length : Int) - 1))) fun e8 =>
  Option.bind (iter (arrow_forms_l2 d t a3_3 e1) ((t.length : Int).toNat + 1) (b7, true, 0, ([], ([e8] : List Int), false))) fun b19 =>
  onEnd (fun x20 =>
  Option.bind (iter (arrow_forms_l3 x20) ((x20.1.length : Int).toNat + 1) ([], x20.1, 0)) fun b28 =>
  onEnd (fun x29 =>
  Option.bind (core_Meet_int x20.2.2.1 x20.2.2.2.1) fun r31 =>
  Option.bind (bif !r31
  then (Option.bind (idx e1.Kids (wr .i64 ((e1.Kids.length : Int) - 1))) fun e32 =>
  Option.bind (idx d.Nodes e32) fun e33 =>
  some (e33.Kind != 2))
  else (some false)) fun q34 =>
  Option.bind (bif q34
  then (Option.bind (core_Normal (Api_Goal.mk x20.2.2.1 x20.2.2.2.1 x20.2.2.2.2)) fun r35 =>
  Option.bind (room (0 + ([Api_EntryForm.mk x29.1 false r35] : List Api_EntryForm).length) 88) fun _ =>
  some (x29.1, ([Api_EntryForm.mk x29.1 false r35] : List Api_EntryForm)))
  else (some (x29.1, []))) fun b37 =>
  bif x20.2.1
  then (Option.bind (iter (arrow_forms_l4 b37) ((b37.1.length : Int).toNat + 1) ([], 0)) fun b42 =>
  Option.bind (room (b37.2.length + ([Api_EntryForm.mk b42 true (Api_Goal.mk ([] : List Int) ([] : List Int) false)] : List Api_EntryForm).length) 88) fun _ =>
  some (b37.2 ++ ([Api_EntryForm.mk b42 true (Api_Goal.mk ([] : List Int) ([] : List Int) false)] : List Api_EntryForm)))
  else (some b37.2)) (fun y30 =>
  some y30.1) b28) (fun y21 =>
  some y21.1) b19

def arrow_Forms_l1 (d : Api_Type) (t : List Int) (e6 : Api_TypeNode) (x7 : Int) : Option (Fl Int (Sum Unit ((List Api_EntryForm) × Int))) :=
  bif decide (x7 < (t.length : Int))
  then (Option.bind (idx t x7) fun e8 =>
  Option.bind (idx d.Nodes e8) fun e9 =>
  bif (e9.Kids.length : Int) != (e6.Kids.length : Int)
  then (some (.done (.inr ([], 1))))
  else (some (.next (wr .i64 (x7 + 1)))))
  else (some (.done (.inl ())))

def arrow_Forms_l2 (d : Api_Type) (t : List Int) (a2_2 : Int) (r13 : List (List Int)) (x14 : (List Api_EntryForm) × Int) : Option (Fl ((List Api_EntryForm) × Int) (List Api_EntryForm)) :=
  bif decide (x14.2 < (r13.length : Int))
  then (Option.bind (idx r13 x14.2) fun e15 =>
  Option.bind (arrow_forms d t a2_2 e15) fun r16 =>
  Option.bind (room (x14.1.length + r16.length) 88) fun _ =>
  some (.next (x14.1 ++ r16, wr .i64 (x14.2 + 1))))
  else (some (.done x14.1))

def arrow_Forms (n : Nat) (d : Api_Type) (t : List Int) (a2_2 : Int) : Option ((List Api_EntryForm) × Int) :=
  Option.bind (Option.bind (typeexpr_WellFormed n d) fun r1 =>
  bif r1 != 0
  then (some true)
  else (Option.bind (cloneF 8 t) fun r2 =>
  Option.bind (room (r2.length + ([a2_2] : List Int).length) 8) fun _ =>
  Option.bind (arrow_functions d (r2 ++ ([a2_2] : List Int))) fun r4 =>
  some (!r4))) fun b5 =>
  bif b5
  then (some ([], 1))
  else (Option.bind (idx d.Nodes a2_2) fun e6 =>
  Option.bind (iter (arrow_Forms_l1 d t e6) ((t.length : Int).toNat + 1) 0) fun b10 =>
  onEnd (fun _ =>
  Option.bind (arrow_choices (wr .i64 ((e6.Kids.length : Int) - 1)) (t.length : Int)) fun r13 =>
  Option.bind (iter (arrow_Forms_l2 d t a2_2 r13) ((r13.length : Int).toNat + 1) ([], 0)) fun b18 =>
  some (b18, 0)) (fun y12 =>
  some (y12.1, y12.2)) b10)

def slices_IndexFunc_api_Value_api_Value_l1 (s : List Val) (f : Val → Option Bool) (x1 : Int) : Option (Fl Int (Sum Unit Int)) :=
  bif decide (x1 < (s.length : Int))
  then (Option.bind (idx s x1) fun e2 =>
  Option.bind (f e2) fun r3 =>
  bif r3
  then (some (.done (.inr x1)))
  else (some (.next (wr .i64 (x1 + 1)))))
  else (some (.done (.inl ())))

def slices_IndexFunc_api_Value_api_Value (s : List Val) (f : Val → Option Bool) : Option Int :=
  Option.bind (iter (slices_IndexFunc_api_Value_api_Value_l1 s f) ((s.length : Int).toNat + 1) 0) fun b4 =>
  onEnd (fun _ =>
  some (-1)) (fun y6 =>
  some y6) b4

def slices_ContainsFunc_api_Value_api_Value (s : List Val) (f : Val → Option Bool) : Option Bool :=
  Option.bind (slices_IndexFunc_api_Value_api_Value s f) fun r1 =>
  some (decide (0 ≤ r1))

def value_uses (kind : Int) : Option (Value_used × Bool) :=
  Option.bind (bif kind == 1
  then (some (kind == 1))
  else (some (kind == 4))) fun b1 =>
  bif b1
  then (some (Value_used.mk true false false false false, true))
  else (Option.bind (bif kind == 2
  then (some (kind == 2))
  else (some (kind == 3))) fun b2 =>
  bif b2
  then (some (Value_used.mk false true false false false, true))
  else (bif kind == 5
  then (some (Value_used.mk false false false false false, true))
  else (Option.bind (bif kind == 6
  then (some (kind == 6))
  else (some (kind == 7))) fun b3 =>
  bif b3
  then (some (Value_used.mk false false true false false, true))
  else (bif kind == 8
  then (some (Value_used.mk false false true true false, true))
  else (bif kind == 9
  then (some (Value_used.mk true false false false true, true))
  else (some (Value_used.mk false false false false false, false)))))))

def value_ascending_string_l1 (l : List ByteArray) (compare : ByteArray → ByteArray → Option Int) (x1 : Int) : Option (Fl Int (Sum Unit Bool)) :=
  bif decide (x1 < (l.length : Int))
  then (Option.bind (idx l (wr .i64 (x1 - 1))) fun e2 =>
  Option.bind (idx l x1) fun e3 =>
  Option.bind (compare e2 e3) fun r4 =>
  bif decide (0 ≤ r4)
  then (some (.done (.inr false)))
  else (some (.next (wr .i64 (x1 + 1)))))
  else (some (.done (.inl ())))

def value_ascending_string (l : List ByteArray) (compare : ByteArray → ByteArray → Option Int) : Option Bool :=
  Option.bind (iter (value_ascending_string_l1 l compare) ((l.length : Int).toNat + 1) 1) fun b5 =>
  onEnd (fun _ =>
  some true) (fun y7 =>
  some y7) b5

def value_validLabels_l1 (l : List ByteArray) (x5 : Int) : Option (Fl Int (Sum Unit Bool)) :=
  bif decide (x5 < (l.length : Int))
  then (Option.bind (idx l x5) fun e6 =>
  Option.bind (ident_IsVariable e6) fun r7 =>
  bif !r7
  then (some (.done (.inr false)))
  else (some (.next (wr .i64 (x5 + 1)))))
  else (some (.done (.inl ())))

def value_validLabels (l : List ByteArray) : Option Bool :=
  Option.bind (value_ascending_string l (fun z1 z2 =>
  Option.bind (strings_Compare z1 z2) fun r3 =>
  some r3)) fun r4 =>
  bif !r4
  then (some false)
  else (Option.bind (iter (value_validLabels_l1 l) ((l.length : Int).toNat + 1) 0) fun b8 =>
  onEnd (fun _ =>
  some true) (fun y10 =>
  some y10) b8)

def value_ascending_api_Key_l1 (l : List Key) (compare : Key → Key → Option Int) (x1 : Int) : Option (Fl Int (Sum Unit Bool)) :=
  bif decide (x1 < (l.length : Int))
  then (Option.bind (idx l (wr .i64 (x1 - 1))) fun e2 =>
  Option.bind (idx l x1) fun e3 =>
  Option.bind (compare e2 e3) fun r4 =>
  bif decide (0 ≤ r4)
  then (some (.done (.inr false)))
  else (some (.next (wr .i64 (x1 + 1)))))
  else (some (.done (.inl ())))

def value_ascending_api_Key (l : List Key) (compare : Key → Key → Option Int) : Option Bool :=
  Option.bind (iter (value_ascending_api_Key_l1 l compare) ((l.length : Int).toNat + 1) 1) fun b5 =>
  onEnd (fun _ =>
  some true) (fun y7 =>
  some y7) b5

def value_validMap_l1 (v : Val) (x6 : Int) : Option (Fl Int (Sum Unit Bool)) :=
  bif decide (x6 < (v.Keys.length : Int))
  then (Option.bind (idx v.Keys x6) fun e7 =>
  Option.bind (ident_ValidKey e7) fun r8 =>
  bif !r8
  then (some (.done (.inr false)))
  else (some (.next (wr .i64 (x6 + 1)))))
  else (some (.done (.inl ())))

def value_validMap (v : Val) : Option Bool :=
  Option.bind (bif (v.Keys.length : Int) != (v.Kids.length : Int)
  then (some true)
  else (Option.bind (value_ascending_api_Key v.Keys (fun z1 z2 =>
  Option.bind (ident_CompareKeys z1 z2) fun r3 =>
  some r3)) fun r4 =>
  some (!r4))) fun q5 =>
  bif q5
  then (some false)
  else (Option.bind (iter (value_validMap_l1 v) ((v.Keys.length : Int).toNat + 1) 0) fun b9 =>
  onEnd (fun _ =>
  some true) (fun y11 =>
  some y11) b9)

def value_ascending_api_Entry_l1 (l : List Ent) (compare : Ent → Ent → Option Int) (x1 : Int) : Option (Fl Int (Sum Unit Bool)) :=
  bif decide (x1 < (l.length : Int))
  then (Option.bind (idx l (wr .i64 (x1 - 1))) fun e2 =>
  Option.bind (idx l x1) fun e3 =>
  Option.bind (compare e2 e3) fun r4 =>
  bif decide (0 ≤ r4)
  then (some (.done (.inr false)))
  else (some (.next (wr .i64 (x1 + 1)))))
  else (some (.done (.inl ())))

def value_ascending_api_Entry (l : List Ent) (compare : Ent → Ent → Option Int) : Option Bool :=
  Option.bind (iter (value_ascending_api_Entry_l1 l compare) ((l.length : Int).toNat + 1) 1) fun b5 =>
  onEnd (fun _ =>
  some true) (fun y7 =>
  some y7) b5

def value_compareLists_api_Value_l1 (a : List Val) (b : List Val) (compare : Val → Val → Option Int) (x2 : Int) : Option (Fl Int (Sum Unit Int)) :=
  bif decide (x2 < (a.length : Int))
  then (Option.bind (idx a x2) fun e3 =>
  Option.bind (idx b x2) fun e4 =>
  Option.bind (compare e3 e4) fun r5 =>
  bif r5 != 0
  then (some (.done (.inr r5)))
  else (some (.next (wr .i64 (x2 + 1)))))
  else (some (.done (.inl ())))

def value_compareLists_api_Value (a : List Val) (b : List Val) (compare : Val → Val → Option Int) : Option Int :=
  Option.bind (cmp_Compare_int (a.length : Int) (b.length : Int)) fun r1 =>
  bif r1 != 0
  then (some r1)
  else (Option.bind (iter (value_compareLists_api_Value_l1 a b compare) ((a.length : Int).toNat + 1) 0) fun b6 =>
  onEnd (fun _ =>
  some 0) (fun y8 =>
  some y8) b6)

def cmp_isNaN_int64 (x : Int) : Option Bool :=
  some (x != x)

def cmp_Compare_int64 (x : Int) (y : Int) : Option Int :=
  Option.bind (cmp_isNaN_int64 x) fun r1 =>
  Option.bind (cmp_isNaN_int64 y) fun r2 =>
  bif r1
  then (bif r2
  then (some 0)
  else (some (-1)))
  else (bif r2
  then (some 1)
  else (bif decide (x < y)
  then (some (-1))
  else (bif decide (y < x)
  then (some 1)
  else (some 0))))

def value_compareLists_api_Key_l1 (a : List Key) (b : List Key) (compare : Key → Key → Option Int) (x2 : Int) : Option (Fl Int (Sum Unit Int)) :=
  bif decide (x2 < (a.length : Int))
  then (Option.bind (idx a x2) fun e3 =>
  Option.bind (idx b x2) fun e4 =>
  Option.bind (compare e3 e4) fun r5 =>
  bif r5 != 0
  then (some (.done (.inr r5)))
  else (some (.next (wr .i64 (x2 + 1)))))
  else (some (.done (.inl ())))

def value_compareLists_api_Key (a : List Key) (b : List Key) (compare : Key → Key → Option Int) : Option Int :=
  Option.bind (cmp_Compare_int (a.length : Int) (b.length : Int)) fun r1 =>
  bif r1 != 0
  then (some r1)
  else (Option.bind (iter (value_compareLists_api_Key_l1 a b compare) ((a.length : Int).toNat + 1) 0) fun b6 =>
  onEnd (fun _ =>
  some 0) (fun y8 =>
  some y8) b6)

def value_compareLists_api_Entry_l1 (a : List Ent) (b : List Ent) (compare : Ent → Ent → Option Int) (x2 : Int) : Option (Fl Int (Sum Unit Int)) :=
  bif decide (x2 < (a.length : Int))
  then (Option.bind (idx a x2) fun e3 =>
  Option.bind (idx b x2) fun e4 =>
  Option.bind (compare e3 e4) fun r5 =>
  bif r5 != 0
  then (some (.done (.inr r5)))
  else (some (.next (wr .i64 (x2 + 1)))))
  else (some (.done (.inl ())))

def value_compareLists_api_Entry (a : List Ent) (b : List Ent) (compare : Ent → Ent → Option Int) : Option Int :=
  Option.bind (cmp_Compare_int (a.length : Int) (b.length : Int)) fun r1 =>
  bif r1 != 0
  then (some r1)
  else (Option.bind (iter (value_compareLists_api_Entry_l1 a b compare) ((a.length : Int).toNat + 1) 0) fun b6 =>
  onEnd (fun _ =>
  some 0) (fun y8 =>
  some y8) b6)

def value_compareLists_string_l1 (a : List ByteArray) (b : List ByteArray) (compare : ByteArray → ByteArray → Option Int) (x2 : Int) : Option (Fl Int (Sum Unit Int)) :=
  bif decide (x2 < (a.length : Int))
  then (Option.bind (idx a x2) fun e3 =>
  Option.bind (idx b x2) fun e4 =>
  Option.bind (compare e3 e4) fun r5 =>
  bif r5 != 0
  then (some (.done (.inr r5)))
  else (some (.next (wr .i64 (x2 + 1)))))
  else (some (.done (.inl ())))

def value_compareLists_string (a : List ByteArray) (b : List ByteArray) (compare : ByteArray → ByteArray → Option Int) : Option Int :=
  Option.bind (cmp_Compare_int (a.length : Int) (b.length : Int)) fun r1 =>
  bif r1 != 0
  then (some r1)
  else (Option.bind (iter (value_compareLists_string_l1 a b compare) ((a.length : Int).toNat + 1) 0) fun b6 =>
  onEnd (fun _ =>
  some 0) (fun y8 =>
  some y8) b6)

def value_Compare_B (_ : Nat) (_ : Val → Val → Option Int) (rec_value_compareEntries : Ent → Ent → Option Int) (rec_value_compareValues : (List Val) → (List Val) → Option Int) (a : Val) (b : Val) : Option Int :=
  Option.bind (cmp_Compare_int a.Kind b.Kind) fun r1 =>
  bif r1 != 0
  then (some r1)
  else (Option.bind (cmp_Compare_int64 a.Int_ b.Int_) fun r2 =>
  bif r2 != 0
  then (some r2)
  else (Option.bind (strings_Compare a.Text b.Text) fun r3 =>
  bif r3 != 0
  then (some r3)
  else (Option.bind (value_compareLists_api_Key a.Keys b.Keys (fun z4 z5 =>
  Option.bind (ident_CompareKeys z4 z5) fun r6 =>
  some r6)) fun r7 =>
  bif r7 != 0
  then (some r7)
  else (Option.bind (rec_value_compareValues a.Kids b.Kids) fun r8 =>
  bif r8 != 0
  then (some r8)
  else (Option.bind (value_compareLists_api_Entry a.Entries b.Entries (fun z9 z10 =>
  Option.bind (rec_value_compareEntries z9 z10) fun r11 =>
  some r11)) fun r12 =>
  bif r12 != 0
  then (some r12)
  else (Option.bind (value_compareLists_string a.Labels b.Labels (fun z13 z14 =>
  Option.bind (strings_Compare z13 z14) fun r15 =>
  some r15)) fun r16 =>
  some r16))))))

def value_compareEntries_B (_ : Nat) (rec_value_Compare : Val → Val → Option Int) (_ : Ent → Ent → Option Int) (rec_value_compareValues : (List Val) → (List Val) → Option Int) (a : Ent) (b : Ent) : Option Int :=
  Option.bind (rec_value_compareValues a.Args b.Args) fun r1 =>
  bif r1 != 0
  then (some r1)
  else (bif a.Fails != b.Fails
  then (bif a.Fails
  then (some (-1))
  else (some 1))
  else (Option.bind (rec_value_Compare a.Result b.Result) fun r2 =>
  some r2))

def value_compareValues_B (_ : Nat) (rec_value_Compare : Val → Val → Option Int) (_ : Ent → Ent → Option Int) (_ : (List Val) → (List Val) → Option Int) (a : List Val) (b : List Val) : Option Int :=
  Option.bind (value_compareLists_api_Value a b (fun z1 z2 =>
  Option.bind (rec_value_Compare z1 z2) fun r3 =>
  some r3)) fun r4 =>
  some r4

def scc_value_Compare : Nat → (Val → Val → Option Int) × (Ent → Ent → Option Int) × ((List Val) → (List Val) → Option Int)
  | 0 => (fun _ _ => none, fun _ _ => none, fun _ _ => none)
  | n + 1 => (value_Compare_B n ((scc_value_Compare n).1) ((scc_value_Compare n).2.1) ((scc_value_Compare n).2.2), value_compareEntries_B n ((scc_value_Compare n).1) ((scc_value_Compare n).2.1) ((scc_value_Compare n).2.2), value_compareValues_B n ((scc_value_Compare n).1) ((scc_value_Compare n).2.1) ((scc_value_Compare n).2.2))

def value_Compare (n : Nat) : Val → Val → Option Int := (scc_value_Compare n).1

def value_compareEntries (n : Nat) : Ent → Ent → Option Int := (scc_value_Compare n).2.1

def value_compareValues (n : Nat) : (List Val) → (List Val) → Option Int := (scc_value_Compare n).2.2

def value_Equal (n : Nat) (a : Val) (b : Val) : Option Bool :=
  Option.bind (value_Compare n a b) fun r1 =>
  some (r1 == 0)

def value_isZero (n : Nat) (v : Val) : Option Bool :=
  Option.bind (value_Equal n v (Val.mk 0 0 (⟨#[]⟩ : ByteArray) ([] : List Val) ([] : List Key) ([] : List Ent) ([] : List ByteArray))) fun r1 =>
  some r1

def value_validEntry (n : Nat) (e : Ent) (arity : Int) : Option Bool :=
  Option.bind (bif (e.Args.length : Int) == arity
  then (Option.bind (bif !e.Fails
  then (some true)
  else (Option.bind (value_isZero n e.Result) fun r1 =>
  some r1)) fun q2 =>
  some q2)
  else (some false)) fun q3 =>
  some q3

def value_validFunction_l1 (v : Val) (n : Nat) (x7 : Int) : Option (Fl Int (Sum Unit Bool)) :=
  bif decide (x7 < (v.Entries.length : Int))
  then (Option.bind (idx v.Entries x7) fun e8 =>
  Option.bind (value_validEntry n e8 v.Int_) fun r9 =>
  bif !r9
  then (some (.done (.inr false)))
  else (some (.next (wr .i64 (x7 + 1)))))
  else (some (.done (.inl ())))

def value_validFunction (n : Nat) (v : Val) : Option Bool :=
  Option.bind (bif decide (v.Int_ < 0)
  then (some true)
  else (some (decide (4 < v.Int_)))) fun q1 =>
  Option.bind (bif q1
  then (some true)
  else (Option.bind (value_ascending_api_Entry v.Entries (fun z2 z3 =>
  Option.bind (value_compareEntries n z2 z3) fun r4 =>
  some r4)) fun r5 =>
  some (!r5))) fun q6 =>
  bif q6
  then (some false)
  else (Option.bind (iter (value_validFunction_l1 v n) ((v.Entries.length : Int).toNat + 1) 0) fun b10 =>
  onEnd (fun _ =>
  some true) (fun y12 =>
  some y12) b10)

def value_validNode (n : Nat) (d : Val) : Option Bool :=
  Option.bind (value_uses d.Kind) fun r1 =>
  Option.bind (bif !r1.2
  then (some true)
  else (Option.bind (value_validLabels d.Labels) fun r2 =>
  some (!r2))) fun q3 =>
  bif q3
  then (some false)
  else (Option.bind (bif !r1.1.number
  then (some (d.Int_ != 0))
  else (some false)) fun q4 =>
  Option.bind (bif q4
  then (some true)
  else (Option.bind (bif !r1.1.text_
  then (some (!(strEq d.Text (⟨#[]⟩ : ByteArray))))
  else (some false)) fun q5 =>
  some q5)) fun q6 =>
  Option.bind (bif q6
  then (some true)
  else (Option.bind (bif !r1.1.kids
  then (some (decide (0 < (d.Kids.length : Int))))
  else (some false)) fun q7 =>
  some q7)) fun q8 =>
  Option.bind (bif q8
  then (some true)
  else (Option.bind (bif !r1.1.keys
  then (some (decide (0 < (d.Keys.length : Int))))
  else (some false)) fun q9 =>
  some q9)) fun q10 =>
  Option.bind (bif q10
  then (some true)
  else (Option.bind (bif !r1.1.entries
  then (some (decide (0 < (d.Entries.length : Int))))
  else (some false)) fun q11 =>
  some q11)) fun q12 =>
  bif q12
  then (some false)
  else (bif d.Kind == 2
  then (some (decide ((d.Text.size : Int) ≤ 64)))
  else (bif d.Kind == 3
  then (Option.bind (ident_IsAtom d.Text) fun r13 =>
  some r13)
  else (bif d.Kind == 4
  then (some (decide (0 ≤ d.Int_)))
  else (bif d.Kind == 6
  then (some (decide ((d.Kids.length : Int) ≤ 4)))
  else (bif d.Kind == 7
  then (Option.bind (bif (d.Kids.length : Int) == 2
  then (Option.bind (idx d.Kids 1) fun e14 =>
  Option.bind (bif e14.Kind == 5
  then (some true)
  else (Option.bind (idx d.Kids 1) fun e15 =>
  some (e15.Kind == 7))) fun q16 =>
  some q16)
  else (some false)) fun q17 =>
  some q17)
  else (bif d.Kind == 8
  then (Option.bind (value_validMap d) fun r18 =>
  some r18)
  else (bif d.Kind == 9
  then (Option.bind (value_validFunction n d) fun r19 =>
  some r19)
  else (some true)))))))))

def value_parts_l1 (v : Val) (x2 : (List Val) × Int) : Option (Fl ((List Val) × Int) (List Val)) :=
  bif decide (x2.2 < (v.Entries.length : Int))
  then (Option.bind (idx v.Entries x2.2) fun e3 =>
  Option.bind (room (x2.1.length + e3.Args.length) 128) fun _ =>
  bif !e3.Fails
  then (Option.bind (room ((x2.1 ++ e3.Args).length + ([e3.Result] : List Val).length) 128) fun _ =>
  some (.next ((x2.1 ++ e3.Args) ++ ([e3.Result] : List Val), wr .i64 (x2.2 + 1))))
  else (some (.next (x2.1 ++ e3.Args, wr .i64 (x2.2 + 1)))))
  else (some (.done x2.1))

def value_parts (v : Val) : Option (List Val) :=
  Option.bind (cloneF 128 v.Kids) fun r1 =>
  Option.bind (iter (value_parts_l1 v) ((v.Entries.length : Int).toNat + 1) (r1, 0)) fun b6 =>
  some b6

def value_validTree_l1 (r2 : List Val) (rec_value_validTree : Val → Option Bool) (x3 : Int) : Option (Fl Int (Sum Unit Bool)) :=
  bif decide (x3 < (r2.length : Int))
  then (Option.bind (idx r2 x3) fun e4 =>
  Option.bind (rec_value_validTree e4) fun r5 =>
  bif !r5
  then (some (.done (.inr false)))
  else (some (.next (wr .i64 (x3 + 1)))))
  else (some (.done (.inl ())))

def value_validTree_B (n : Nat) (rec_value_validTree : Val → Option Bool) (v : Val) : Option Bool :=
  Option.bind (value_validNode n v) fun r1 =>
  bif !r1
  then (some false)
  else (Option.bind (value_parts v) fun r2 =>
  Option.bind (iter (value_validTree_l1 r2 rec_value_validTree) ((r2.length : Int).toNat + 1) 0) fun b6 =>
  onEnd (fun _ =>
  some true) (fun y8 =>
  some y8) b6)

def value_validTree : Nat → Val → Option Bool
  | 0 => fun _ => none
  | n + 1 => value_validTree_B n (value_validTree n)

def value_Validate (n : Nat) (v : Val) : Option Int :=
  Option.bind (value_validTree n v) fun r1 =>
  bif !r1
  then (some 1)
  else (some 0)

def arrow_validEntry_1 (n : Nat) (v : Val) : Option Bool :=
  Option.bind (value_Validate n v) fun r1 =>
  some (r1 != 0)

def arrow_validEntry (n : Nat) (e : Ent) : Option Bool :=
  Option.bind (slices_ContainsFunc_api_Value_api_Value e.Args (fun z1 =>
  Option.bind (arrow_validEntry_1 n z1) fun r2 =>
  some r2)) fun r3 =>
  Option.bind (bif !r3
  then (Option.bind (bif e.Fails
  then (some true)
  else (Option.bind (arrow_validEntry_1 n e.Result) fun r4 =>
  some (!r4))) fun q5 =>
  some q5)
  else (some false)) fun q6 =>
  some q6

def core_kindOf (kind : Int) : Option Int :=
  bif kind == 5
  then (some 2)
  else (bif kind == 7
  then (some 3)
  else (bif kind == 8
  then (some 4)
  else (bif kind == 9
  then (some 5)
  else (bif kind == 11
  then (some 6)
  else (some 9)))))

def slices_Index_api_Key_api_Key_l1 (s : List Key) (v : Key) (x1 : Int) : Option (Fl Int (Sum Unit Int)) :=
  bif decide (x1 < (s.length : Int))
  then (Option.bind (idx s x1) fun e2 =>
  bif eqD_114 v e2
  then (some (.done (.inr x1)))
  else (some (.next (wr .i64 (x1 + 1)))))
  else (some (.done (.inl ())))

def slices_Index_api_Key_api_Key (s : List Key) (v : Key) : Option Int :=
  Option.bind (iter (slices_Index_api_Key_api_Key_l1 s v) ((s.length : Int).toNat + 1) 0) fun b3 =>
  onEnd (fun _ =>
  some (-1)) (fun y5 =>
  some y5) b3

def slices_Contains_api_Key_api_Key (s : List Key) (v : Key) : Option Bool :=
  Option.bind (slices_Index_api_Key_api_Key s v) fun r1 =>
  some (decide (0 ≤ r1))

def core_At_l1 (n_0 : Api_TypeNode) (k : Key) (x1 : Int) : Option (Fl Int (Sum Unit Int)) :=
  bif decide (x1 < (n_0.Fields.length : Int))
  then (Option.bind (idx n_0.Fields x1) fun e2 =>
  bif eqD_114 e2.Key_ k
  then (some (.done (.inr e2.Node)))
  else (some (.next (wr .i64 (x1 + 1)))))
  else (some (.done (.inl ())))

def core_At (n_0 : Api_TypeNode) (k : Key) : Option Int :=
  Option.bind (iter (core_At_l1 n_0 k) ((n_0.Fields.length : Int).toNat + 1) 0) fun b3 =>
  onEnd (fun _ =>
  bif k.Kind == 0
  then (some n_0.Rest.1)
  else (bif k.Kind == 1
  then (some n_0.Rest.2)
  else (none))) (fun y5 =>
  some y5) b3

def slices_Index_string_string_l1 (s : List ByteArray) (v : ByteArray) (x1 : Int) : Option (Fl Int (Sum Unit Int)) :=
  bif decide (x1 < (s.length : Int))
  then (Option.bind (idx s x1) fun e2 =>
  bif strEq v e2
  then (some (.done (.inr x1)))
  else (some (.next (wr .i64 (x1 + 1)))))
  else (some (.done (.inl ())))

def slices_Index_string_string (s : List ByteArray) (v : ByteArray) : Option Int :=
  Option.bind (iter (slices_Index_string_string_l1 s v) ((s.length : Int).toNat + 1) 0) fun b3 =>
  onEnd (fun _ =>
  some (-1)) (fun y5 =>
  some y5) b3

def slices_Contains_string_string (s : List ByteArray) (v : ByteArray) : Option Bool :=
  Option.bind (slices_Index_string_string s v) fun r1 =>
  some (decide (0 ≤ r1))

def core_all_l1 (l : List Val) (t : Api_Type) (nodes : List Int) (rec_core_Has : Val → Api_Type → Int → Option Bool) (x1 : Int) : Option (Fl Int (Sum Unit Bool)) :=
  bif decide (x1 < (l.length : Int))
  then (Option.bind (idx l x1) fun e2 =>
  Option.bind (idx nodes x1) fun e3 =>
  Option.bind (rec_core_Has e2 t e3) fun r4 =>
  bif !r4
  then (some (.done (.inr false)))
  else (some (.next (wr .i64 (x1 + 1)))))
  else (some (.done (.inl ())))

def core_functionHas_l1 (v : Val) (t : Api_Type) (n_2 : Api_TypeNode) (rec_core_EntryAllowed : Ent → Api_Type → Api_TypeNode → Option Bool) (x1 : Int) : Option (Fl Int (Sum Unit Bool)) :=
  bif decide (x1 < (v.Entries.length : Int))
  then (Option.bind (idx v.Entries x1) fun e2 =>
  Option.bind (rec_core_EntryAllowed e2 t n_2) fun r3 =>
  bif !r3
  then (some (.done (.inr false)))
  else (some (.next (wr .i64 (x1 + 1)))))
  else (some (.done (.inl ())))

def core_mapHas_l1 (v : Val) (n_2 : Api_TypeNode) (x1 : Int) : Option (Fl Int (Sum Unit Bool)) :=
  bif decide (x1 < (n_2.Fields.length : Int))
  then (Option.bind (idx n_2.Fields x1) fun e2 =>
  Option.bind (bif !e2.Optional
  then (Option.bind (slices_Contains_api_Key_api_Key v.Keys e2.Key_) fun r3 =>
  some (!r3))
  else (some false)) fun q4 =>
  bif q4
  then (some (.done (.inr false)))
  else (some (.next (wr .i64 (x1 + 1)))))
  else (some (.done (.inl ())))

def core_mapHas_l2 (v : Val) (t : Api_Type) (n_2 : Api_TypeNode) (rec_core_Has : Val → Api_Type → Int → Option Bool) (x8 : Int) : Option (Fl Int (Sum Unit Bool)) :=
  bif decide (x8 < (v.Keys.length : Int))
  then (Option.bind (idx v.Keys x8) fun e9 =>
  Option.bind (idx v.Kids x8) fun e10 =>
  Option.bind (core_At n_2 e9) fun r11 =>
  Option.bind (rec_core_Has e10 t r11) fun r12 =>
  bif !r12
  then (some (.done (.inr false)))
  else (some (.next (wr .i64 (x8 + 1)))))
  else (some (.done (.inl ())))

def core_all_B (_ : Nat) (_ : (List Val) → Api_Type → (List Int) → Option Bool) (_ : Ent → Api_Type → Api_TypeNode → Option Bool) (_ : Val → Api_Type → Api_TypeNode → Option Bool) (rec_core_Has : Val → Api_Type → Int → Option Bool) (_ : Int → Val → Api_Type → Option Bool) (_ : Int → Val → Api_Type → Option Bool) (_ : Val → Api_Type → Api_TypeNode → Option Bool) (l : List Val) (t : Api_Type) (nodes : List Int) : Option Bool :=
  bif (l.length : Int) != (nodes.length : Int)
  then (some false)
  else (Option.bind (iter (core_all_l1 l t nodes rec_core_Has) ((l.length : Int).toNat + 1) 0) fun b5 =>
  onEnd (fun _ =>
  some true) (fun y7 =>
  some y7) b5)

def core_EntryAllowed_B (_ : Nat) (rec_core_all : (List Val) → Api_Type → (List Int) → Option Bool) (_ : Ent → Api_Type → Api_TypeNode → Option Bool) (_ : Val → Api_Type → Api_TypeNode → Option Bool) (rec_core_Has : Val → Api_Type → Int → Option Bool) (_ : Int → Val → Api_Type → Option Bool) (_ : Int → Val → Api_Type → Option Bool) (_ : Val → Api_Type → Api_TypeNode → Option Bool) (e : Ent) (t : Api_Type) (n_2 : Api_TypeNode) : Option Bool :=
  Option.bind (cut n_2.Kids 0 (wr .i64 ((n_2.Kids.length : Int) - 1))) fun y1 =>
  Option.bind (rec_core_all e.Args t y1) fun r2 =>
  Option.bind (bif !r2
  then (some true)
  else (Option.bind (bif !e.Fails
  then (Option.bind (idx n_2.Kids (wr .i64 ((n_2.Kids.length : Int) - 1))) fun e3 =>
  Option.bind (rec_core_Has e.Result t e3) fun r4 =>
  some r4)
  else (some false)) fun q5 =>
  some q5)) fun q6 =>
  some q6

def core_functionHas_B (_ : Nat) (_ : (List Val) → Api_Type → (List Int) → Option Bool) (rec_core_EntryAllowed : Ent → Api_Type → Api_TypeNode → Option Bool) (_ : Val → Api_Type → Api_TypeNode → Option Bool) (_ : Val → Api_Type → Int → Option Bool) (_ : Int → Val → Api_Type → Option Bool) (_ : Int → Val → Api_Type → Option Bool) (_ : Val → Api_Type → Api_TypeNode → Option Bool) (v : Val) (t : Api_Type) (n_2 : Api_TypeNode) : Option Bool :=
  bif v.Int_ != (wr .i64 ((n_2.Kids.length : Int) - 1))
  then (some false)
  else (Option.bind (iter (core_functionHas_l1 v t n_2 rec_core_EntryAllowed) ((v.Entries.length : Int).toNat + 1) 0) fun b4 =>
  onEnd (fun _ =>
  some true) (fun y6 =>
  some y6) b4)

def core_Has_B (_ : Nat) (rec_core_all : (List Val) → Api_Type → (List Int) → Option Bool) (_ : Ent → Api_Type → Api_TypeNode → Option Bool) (rec_core_functionHas : Val → Api_Type → Api_TypeNode → Option Bool) (rec_core_Has : Val → Api_Type → Int → Option Bool) (rec_core_Has_1 : Int → Val → Api_Type → Option Bool) (rec_core_Has_2 : Int → Val → Api_Type → Option Bool) (rec_core_mapHas : Val → Api_Type → Api_TypeNode → Option Bool) (d : Val) (t : Api_Type) (a2_2 : Int) : Option Bool :=
  Option.bind (idx t.Nodes a2_2) fun e1 =>
  bif e1.Kind == 2
  then (some true)
  else (bif e1.Kind == 3
  then (Option.bind (bif d.Kind == 1
  then (some (decide (e1.Lo ≤ d.Int_)))
  else (some false)) fun q2 =>
  Option.bind (bif q2
  then (some (decide (d.Int_ ≤ e1.Hi)))
  else (some false)) fun q3 =>
  some q3)
  else (bif e1.Kind == 4
  then (Option.bind (bif d.Kind == 2
  then (some (strEq d.Text e1.Text))
  else (some false)) fun q4 =>
  some q4)
  else (bif e1.Kind == 6
  then (Option.bind (bif d.Kind == 3
  then (some (strEq d.Text e1.Text))
  else (some false)) fun q5 =>
  some q5)
  else (Option.bind (bif e1.Kind == 5
  then (some (e1.Kind == 5))
  else (bif e1.Kind == 7
  then (some (e1.Kind == 7))
  else (bif e1.Kind == 8
  then (some (e1.Kind == 8))
  else (bif e1.Kind == 9
  then (some (e1.Kind == 9))
  else (bif e1.Kind == 11
  then (some (e1.Kind == 11))
  else (some (e1.Kind == 15))))))) fun b6 =>
  bif b6
  then (Option.bind (core_kindOf e1.Kind) fun r7 =>
  some (d.Kind == r7))
  else (bif e1.Kind == 10
  then (Option.bind (bif d.Kind == 6
  then (Option.bind (rec_core_all d.Kids t e1.Kids) fun r8 =>
  some r8)
  else (some false)) fun q9 =>
  some q9)
  else (bif e1.Kind == 12
  then (Option.bind (bif d.Kind == 7
  then (Option.bind (rec_core_all d.Kids t e1.Kids) fun r10 =>
  some r10)
  else (some false)) fun q11 =>
  some q11)
  else (bif e1.Kind == 13
  then (Option.bind (bif d.Kind == 8
  then (Option.bind (rec_core_mapHas d t e1) fun r12 =>
  some r12)
  else (some false)) fun q13 =>
  some q13)
  else (bif e1.Kind == 14
  then (Option.bind (bif d.Kind == 9
  then (Option.bind (rec_core_functionHas d t e1) fun r14 =>
  some r14)
  else (some false)) fun q15 =>
  some q15)
  else (bif e1.Kind == 16
  then (Option.bind (slices_ContainsFunc_int_int e1.Kids (fun z16 =>
  Option.bind (rec_core_Has_1 z16 d t) fun r17 =>
  some r17)) fun r18 =>
  some r18)
  else (bif e1.Kind == 17
  then (Option.bind (slices_ContainsFunc_int_int e1.Kids (fun z19 =>
  Option.bind (rec_core_Has_2 z19 d t) fun r20 =>
  some r20)) fun r21 =>
  some (!r21))
  else (bif e1.Kind == 18
  then (Option.bind (idx e1.Kids 0) fun e22 =>
  Option.bind (rec_core_Has d t e22) fun r23 =>
  some (!r23))
  else (bif e1.Kind == 19
  then (Option.bind (slices_Contains_string_string d.Labels e1.Text) fun r24 =>
  some r24)
  else (some false)))))))))))))

def core_Has_1_B (_ : Nat) (_ : (List Val) → Api_Type → (List Int) → Option Bool) (_ : Ent → Api_Type → Api_TypeNode → Option Bool) (_ : Val → Api_Type → Api_TypeNode → Option Bool) (rec_core_Has : Val → Api_Type → Int → Option Bool) (_ : Int → Val → Api_Type → Option Bool) (_ : Int → Val → Api_Type → Option Bool) (_ : Val → Api_Type → Api_TypeNode → Option Bool) (k : Int) (a1_1 : Val) (a2_2 : Api_Type) : Option Bool :=
  Option.bind (rec_core_Has a1_1 a2_2 k) fun r1 =>
  some r1

def core_Has_2_B (_ : Nat) (_ : (List Val) → Api_Type → (List Int) → Option Bool) (_ : Ent → Api_Type → Api_TypeNode → Option Bool) (_ : Val → Api_Type → Api_TypeNode → Option Bool) (rec_core_Has : Val → Api_Type → Int → Option Bool) (_ : Int → Val → Api_Type → Option Bool) (_ : Int → Val → Api_Type → Option Bool) (_ : Val → Api_Type → Api_TypeNode → Option Bool) (k : Int) (a1_1 : Val) (a2_2 : Api_Type) : Option Bool :=
  Option.bind (rec_core_Has a1_1 a2_2 k) fun r1 =>
  some (!r1)

def core_mapHas_B (_ : Nat) (_ : (List Val) → Api_Type → (List Int) → Option Bool) (_ : Ent → Api_Type → Api_TypeNode → Option Bool) (_ : Val → Api_Type → Api_TypeNode → Option Bool) (rec_core_Has : Val → Api_Type → Int → Option Bool) (_ : Int → Val → Api_Type → Option Bool) (_ : Int → Val → Api_Type → Option Bool) (_ : Val → Api_Type → Api_TypeNode → Option Bool) (v : Val) (t : Api_Type) (n_2 : Api_TypeNode) : Option Bool :=
  Option.bind (iter (core_mapHas_l1 v n_2) ((n_2.Fields.length : Int).toNat + 1) 0) fun b5 =>
  onEnd (fun _ =>
  Option.bind (iter (core_mapHas_l2 v t n_2 rec_core_Has) ((v.Keys.length : Int).toNat + 1) 0) fun b13 =>
  onEnd (fun _ =>
  some true) (fun y15 =>
  some y15) b13) (fun y7 =>
  some y7) b5

def scc_core_all : Nat → ((List Val) → Api_Type → (List Int) → Option Bool) × (Ent → Api_Type → Api_TypeNode → Option Bool) × (Val → Api_Type → Api_TypeNode → Option Bool) × (Val → Api_Type → Int → Option Bool) × (Int → Val → Api_Type → Option Bool) × (Int → Val → Api_Type → Option Bool) × (Val → Api_Type → Api_TypeNode → Option Bool)
  | 0 => (fun _ _ _ => none, fun _ _ _ => none, fun _ _ _ => none, fun _ _ _ => none, fun _ _ _ => none, fun _ _ _ => none, fun _ _ _ => none)
  | n + 1 => (core_all_B n ((scc_core_all n).1) ((scc_core_all n).2.1) ((scc_core_all n).2.2.1) ((scc_core_all n).2.2.2.1) ((scc_core_all n).2.2.2.2.1) ((scc_core_all n).2.2.2.2.2.1) ((scc_core_all n).2.2.2.2.2.2), core_EntryAllowed_B n ((scc_core_all n).1) ((scc_core_all n).2.1) ((scc_core_all n).2.2.1) ((scc_core_all n).2.2.2.1) ((scc_core_all n).2.2.2.2.1) ((scc_core_all n).2.2.2.2.2.1) ((scc_core_all n).2.2.2.2.2.2), core_functionHas_B n ((scc_core_all n).1) ((scc_core_all n).2.1) ((scc_core_all n).2.2.1) ((scc_core_all n).2.2.2.1) ((scc_core_all n).2.2.2.2.1) ((scc_core_all n).2.2.2.2.2.1) ((scc_core_all n).2.2.2.2.2.2), core_Has_B n ((scc_core_all n).1) ((scc_core_all n).2.1) ((scc_core_all n).2.2.1) ((scc_core_all n).2.2.2.1) ((scc_core_all n).2.2.2.2.1) ((scc_core_all n).2.2.2.2.2.1) ((scc_core_all n).2.2.2.2.2.2), core_Has_1_B n ((scc_core_all n).1) ((scc_core_all n).2.1) ((scc_core_all n).2.2.1) ((scc_core_all n).2.2.2.1) ((scc_core_all n).2.2.2.2.1) ((scc_core_all n).2.2.2.2.2.1) ((scc_core_all n).2.2.2.2.2.2), core_Has_2_B n ((scc_core_all n).1) ((scc_core_all n).2.1) ((scc_core_all n).2.2.1) ((scc_core_all n).2.2.2.1) ((scc_core_all n).2.2.2.2.1) ((scc_core_all n).2.2.2.2.2.1) ((scc_core_all n).2.2.2.2.2.2), core_mapHas_B n ((scc_core_all n).1) ((scc_core_all n).2.1) ((scc_core_all n).2.2.1) ((scc_core_all n).2.2.2.1) ((scc_core_all n).2.2.2.2.1) ((scc_core_all n).2.2.2.2.2.1) ((scc_core_all n).2.2.2.2.2.2))

def core_all (n : Nat) : (List Val) → Api_Type → (List Int) → Option Bool := (scc_core_all n).1

def core_EntryAllowed (n : Nat) : Ent → Api_Type → Api_TypeNode → Option Bool := (scc_core_all n).2.1

def core_functionHas (n : Nat) : Val → Api_Type → Api_TypeNode → Option Bool := (scc_core_all n).2.2.1

def core_Has (n : Nat) : Val → Api_Type → Int → Option Bool := (scc_core_all n).2.2.2.1

def core_Has_1 (n : Nat) : Int → Val → Api_Type → Option Bool := (scc_core_all n).2.2.2.2.1

def core_Has_2 (n : Nat) : Int → Val → Api_Type → Option Bool := (scc_core_all n).2.2.2.2.2.1

def core_mapHas (n : Nat) : Val → Api_Type → Api_TypeNode → Option Bool := (scc_core_all n).2.2.2.2.2.2

def arrow_Allowed_l1 (e : Ent) (t : Api_Type) (pos : List Int) (n : Nat) (x6 : Int) : Option (Fl Int (Sum Unit Bool)) :=
  bif decide (x6 < (pos.length : Int))
  then (Option.bind (idx pos x6) fun e7 =>
  Option.bind (idx t.Nodes e7) fun e8 =>
  Option.bind (bif (wr .i64 ((e8.Kids.length : Int) - 1)) != (e.Args.length : Int)
  then (some true)
  else (Option.bind (core_EntryAllowed n e t e8) fun r9 =>
  some (!r9))) fun q10 =>
  bif q10
  then (some (.done (.inr false)))
  else (some (.next (wr .i64 (x6 + 1)))))
  else (some (.done (.inl ())))

def arrow_Allowed (n : Nat) (e : Ent) (t : Api_Type) (pos : List Int) : Option Bool :=
  Option.bind (typeexpr_WellFormed n t) fun r1 =>
  Option.bind (bif r1 != 0
  then (some true)
  else (Option.bind (arrow_functions t pos) fun r2 =>
  some (!r2))) fun q3 =>
  Option.bind (bif q3
  then (some true)
  else (Option.bind (arrow_validEntry n e) fun r4 =>
  some (!r4))) fun q5 =>
  bif q5
  then (some false)
  else (Option.bind (iter (arrow_Allowed_l1 e t pos n) ((pos.length : Int).toNat + 1) 0) fun b11 =>
  onEnd (fun _ =>
  some true) (fun y13 =>
  some y13) b11)

def semtypelaw12_awake (n : Nat)  : Option Bool :=
  Option.bind (semtyperef1_Nil) fun r1 =>
  Option.bind (arrow_Forms n (Api_Type.mk ([Api_TypeNode.mk 14 0 0 (⟨#[]⟩ : ByteArray) ([1, 1] : List Int) ([] : List Api_Field) (0, 0), Api_TypeNode.mk 9 0 0 (⟨#[]⟩ : ByteArray) ([] : List Int) ([] : List Api_Field) (0, 0)] : List Api_TypeNode) 0) ([] : List Int) 0) fun r2 =>
  Option.bind (arrow_Allowed n (Ent.mk ([r1] : List Val) true (Val.mk 0 0 (⟨#[]⟩ : ByteArray) ([] : List Val) ([] : List Key) ([] : List Ent) ([] : List ByteArray))) (Api_Type.mk ([Api_TypeNode.mk 14 0 0 (⟨#[]⟩ : ByteArray) ([1, 1] : List Int) ([] : List Api_Field) (0, 0), Api_TypeNode.mk 9 0 0 (⟨#[]⟩ : ByteArray) ([] : List Int) ([] : List Api_Field) (0, 0)] : List Api_TypeNode) 0) ([0] : List Int)) fun r3 =>
  Option.bind (bif !r3
  then (Option.bind (arrow_Allowed n (Ent.mk ([r1] : List Val) true (Val.mk 0 0 (⟨#[]⟩ : ByteArray) ([] : List Val) ([] : List Key) ([] : List Ent) ([] : List ByteArray))) (Api_Type.mk ([Api_TypeNode.mk 14 0 0 (⟨#[]⟩ : ByteArray) ([1, 1] : List Int) ([] : List Api_Field) (0, 0), Api_TypeNode.mk 9 0 0 (⟨#[]⟩ : ByteArray) ([] : List Int) ([] : List Api_Field) (0, 0)] : List Api_TypeNode) 0) ([] : List Int)) fun r4 =>
  some r4)
  else (some false)) fun q5 =>
  Option.bind (bif q5
  then (some (r2.2 == 0))
  else (some false)) fun q6 =>
  Option.bind (bif q6
  then (some (decide (0 < (r2.1.length : Int))))
  else (some false)) fun q7 =>
  some q7

def semtypebase_Source_Next (s : Semtypebase_Source) (n_1 : Int) : Option (Int × Semtypebase_Source) :=
  Option.bind (bif decide (n_1 < 1)
  then (some true)
  else (some (decide ((s.L.length : Int) ≤ s.At)))) fun q1 =>
  bif q1
  then (some (0, s))
  else (Option.bind (idx s.L s.At) fun e2 =>
  Option.bind (qrem e2 n_1) fun d3 =>
  bif decide (d3 < 0)
  then (some (wr .i64 (d3 + n_1), Semtypebase_Source.mk s.L (wr .i64 (s.At + 1))))
  else (some (d3, Semtypebase_Source.mk s.L (wr .i64 (s.At + 1)))))

def semtypebase_Source_AtomName (s : Semtypebase_Source) : Option (ByteArray × Semtypebase_Source) :=
  Option.bind (semtypebase_Source_Next s 4) fun r1 =>
  Option.bind (idx ([(⟨#[97]⟩ : ByteArray), (⟨#[98]⟩ : ByteArray), (⟨#[111, 107]⟩ : ByteArray), (⟨#[101, 114, 114, 111, 114]⟩ : ByteArray)] : List ByteArray) r1.1) fun _ =>
  Option.bind (([(⟨#[97]⟩ : ByteArray), (⟨#[98]⟩ : ByteArray), (⟨#[111, 107]⟩ : ByteArray), (⟨#[101, 114, 114, 111, 114]⟩ : ByteArray)] : List ByteArray)[r1.1.toNat]?) fun e3 =>
  some (e3, r1.2)

def semtypebase_Source_Word (s : Semtypebase_Source) : Option (ByteArray × Semtypebase_Source) :=
  Option.bind (semtypebase_Source_Next s 4) fun r1 =>
  Option.bind (idx ([(⟨#[]⟩ : ByteArray), (⟨#[115]⟩ : ByteArray), (⟨#[120, 32, 121]⟩ : ByteArray), (⟨#[97]⟩ : ByteArray)] : List ByteArray) r1.1) fun _ =>
  Option.bind (([(⟨#[]⟩ : ByteArray), (⟨#[115]⟩ : ByteArray), (⟨#[120, 32, 121]⟩ : ByteArray), (⟨#[97]⟩ : ByteArray)] : List ByteArray)[r1.1.toNat]?) fun e3 =>
  some (e3, r1.2)

def semtypebase_Source_Label (s : Semtypebase_Source) : Option (ByteArray × Semtypebase_Source) :=
  Option.bind (semtypebase_Source_Next s 3) fun r1 =>
  Option.bind (idx ([(⟨#[65]⟩ : ByteArray), (⟨#[66]⟩ : ByteArray), (⟨#[67]⟩ : ByteArray)] : List ByteArray) r1.1) fun _ =>
  Option.bind (([(⟨#[65]⟩ : ByteArray), (⟨#[66]⟩ : ByteArray), (⟨#[67]⟩ : ByteArray)] : List ByteArray)[r1.1.toNat]?) fun e3 =>
  some (e3, r1.2)

def semtypebase_Source_indices_l1 (from_ : Int) (n_3 : Int) (x1 : Int × (List Int) × Semtypebase_Source) : Option (Fl (Int × (List Int) × Semtypebase_Source) ((List Int) × Semtypebase_Source)) :=
  bif decide (0 < x1.1)
  then (Option.bind (semtypebase_Source_Next x1.2.2 (wr .i64 (n_3 - from_))) fun r2 =>
  Option.bind (room (x1.2.1.length + ([wr .i64 (from_ + r2.1)] : List Int).length) 8) fun _ =>
  some (.next (wr .i64 (x1.1 - 1), x1.2.1 ++ ([wr .i64 (from_ + r2.1)] : List Int), r2.2)))
  else (some (.done (x1.2.1, x1.2.2)))

def semtypebase_Source_indices (s : Semtypebase_Source) (many : Int) (from_ : Int) (n_3 : Int) : Option ((List Int) × Semtypebase_Source) :=
  Option.bind (iter (semtypebase_Source_indices_l1 from_ n_3) (many.toNat + 2) (many, [], s)) fun b4 =>
  some (b4.1, b4.2)

def semtypebase_Source_mapping_l1 (n_1 : Int) (x3 : Int × Semtypebase_Source × (Int × Int × Int × ByteArray × (List Int) × (List Api_Field) × Int × Int)) : Option (Fl (Int × Semtypebase_Source × (Int × Int × Int × ByteArray × (List Int) × (List Api_Field) × Int × Int)) (Semtypebase_Source × (Int × Int × Int × ByteArray × (List Int) × (List Api_Field) × Int × Int))) :=
  bif decide (x3.1 < 3)
  then (Option.bind (Option.bind (semtypebase_Source_Next x3.2.1 2) fun r4 =>
  bif r4.1 == 1
  then (Option.bind (idx ([Key.mk 0 (⟨#[97]⟩ : ByteArray), Key.mk 0 (⟨#[98]⟩ : ByteArray), Key.mk 1 (⟨#[115]⟩ : ByteArray)] : List Key) x3.1) fun e5 =>
  Option.bind (semtypebase_Source_Next r4.2 n_1) fun r6 =>
  Option.bind (semtypebase_Source_Next r6.2 2) fun r7 =>
  Option.bind (room (x3.2.2.2.2.2.2.2.1.length + ([Api_Field.mk e5 r6.1 (r7.1 == 1)] : List Api_Field).length) 40) fun _ =>
  some (r7.2, (x3.2.2.1, x3.2.2.2.1, x3.2.2.2.2.1, x3.2.2.2.2.2.1, x3.2.2.2.2.2.2.1, x3.2.2.2.2.2.2.2.1 ++ ([Api_Field.mk e5 r6.1 (r7.1 == 1)] : List Api_Field), x3.2.2.2.2.2.2.2.2.1, x3.2.2.2.2.2.2.2.2.2)))
  else (some (r4.2, (x3.2.2.1, x3.2.2.2.1, x3.2.2.2.2.1, x3.2.2.2.2.2.1, x3.2.2.2.2.2.2.1, x3.2.2.2.2.2.2.2.1, x3.2.2.2.2.2.2.2.2.1, x3.2.2.2.2.2.2.2.2.2)))) fun b9 =>
  some (.next (wr .i64 (x3.1 + 1), b9.1, (b9.2.1, b9.2.2.1, b9.2.2.2.1, b9.2.2.2.2.1, b9.2.2.2.2.2.1, b9.2.2.2.2.2.2.1, b9.2.2.2.2.2.2.2.1, b9.2.2.2.2.2.2.2.2))))
  else (some (.done (x3.2.1, (x3.2.2.1, x3.2.2.2.1, x3.2.2.2.2.1, x3.2.2.2.2.2.1, x3.2.2.2.2.2.2.1, x3.2.2.2.2.2.2.2.1, x3.2.2.2.2.2.2.2.2.1, x3.2.2.2.2.2.2.2.2.2))))

def semtypebase_Source_mapping (s : Semtypebase_Source) (n_1 : Int) : Option (Api_TypeNode × Semtypebase_Source) :=
  Option.bind (semtypebase_Source_Next s n_1) fun r1 =>
  Option.bind (semtypebase_Source_Next r1.2 n_1) fun r2 =>
  Option.bind (iter (semtypebase_Source_mapping_l1 n_1) ((3 : Int).toNat + 1) (0, r2.2, (13, 0, 0, (⟨#[]⟩ : ByteArray), [], [], r1.1, r2.1))) fun b10 =>
  some (Api_TypeNode.mk b10.2.1 b10.2.2.1 b10.2.2.2.1 b10.2.2.2.2.1 b10.2.2.2.2.2.1 b10.2.2.2.2.2.2.1 (b10.2.2.2.2.2.2.2.1, b10.2.2.2.2.2.2.2.2), b10.1)

def semtypebase_Source_node (d : Semtypebase_Source) (t : Int) (a2_2 : Int) : Option (Api_TypeNode × Semtypebase_Source) :=
  Option.bind (bif t == (wr .i64 (a2_2 - 1))
  then (some 14)
  else (some 18)) fun b1 =>
  Option.bind (semtypebase_Source_Next d b1) fun r2 =>
  bif r2.1 == 0
  then (Option.bind (semtypebase_Source_Next r2.2 5) fun r3 =>
  Option.bind (idx ([(-9223372036854775808), 0, 1, 2, 9223372036854775807] : List Int) r3.1) fun _ =>
  Option.bind (([(-9223372036854775808), 0, 1, 2, 9223372036854775807] : List Int)[r3.1.toNat]?) fun e5 =>
  Option.bind (semtypebase_Source_Next r3.2 (wr .i64 (5 - r3.1))) fun r6 =>
  Option.bind (idx ([(-9223372036854775808), 0, 1, 2, 9223372036854775807] : List Int) (wr .i64 (r3.1 + r6.1))) fun _ =>
  Option.bind (([(-9223372036854775808), 0, 1, 2, 9223372036854775807] : List Int)[(wr .i64 (r3.1 + r6.1)).toNat]?) fun e8 =>
  some (Api_TypeNode.mk 3 e5 e8 (⟨#[]⟩ : ByteArray) ([] : List Int) ([] : List Api_Field) (0, 0), r6.2))
  else (bif r2.1 == 1
  then (Option.bind (semtypebase_Source_AtomName r2.2) fun r9 =>
  some (Api_TypeNode.mk 6 0 0 r9.1 ([] : List Int) ([] : List Api_Field) (0, 0), r9.2))
  else (bif r2.1 == 2
  then (some (Api_TypeNode.mk 7 0 0 (⟨#[]⟩ : ByteArray) ([] : List Int) ([] : List Api_Field) (0, 0), r2.2))
  else (bif r2.1 == 3
  then (Option.bind (semtypebase_Source_Word r2.2) fun r10 =>
  some (Api_TypeNode.mk 4 0 0 r10.1 ([] : List Int) ([] : List Api_Field) (0, 0), r10.2))
  else (bif r2.1 == 4
  then (Option.bind (semtypebase_Source_Next r2.2 4) fun r11 =>
  Option.bind (idx ([5, 8, 11, 15] : List Int) r11.1) fun _ =>
  Option.bind (([5, 8, 11, 15] : List Int)[r11.1.toNat]?) fun e13 =>
  some (Api_TypeNode.mk e13 0 0 (⟨#[]⟩ : ByteArray) ([] : List Int) ([] : List Api_Field) (0, 0), r11.2))
  else (bif r2.1 == 5
  then (some (Api_TypeNode.mk 9 0 0 (⟨#[]⟩ : ByteArray) ([] : List Int) ([] : List Api_Field) (0, 0), r2.2))
  else (bif r2.1 == 6
  then (Option.bind (semtypebase_Source_Next r2.2 2) fun r14 =>
  Option.bind (idx ([2, 1] : List Int) r14.1) fun _ =>
  Option.bind (([2, 1] : List Int)[r14.1.toNat]?) fun e16 =>
  some (Api_TypeNode.mk e16 0 0 (⟨#[]⟩ : ByteArray) ([] : List Int) ([] : List Api_Field) (0, 0), r14.2))
  else (bif r2.1 == 7
  then (Option.bind (semtypebase_Source_Label r2.2) fun r17 =>
  some (Api_TypeNode.mk 19 0 0 r17.1 ([] : List Int) ([] : List Api_Field) (0, 0), r17.2))
  else (Option.bind (bif r2.1 == 8
  then (some (r2.1 == 8))
  else (some (r2.1 == 9))) fun b18 =>
  bif b18
  then (Option.bind (semtypebase_Source_Next r2.2 3) fun r19 =>
  Option.bind (semtypebase_Source_indices r19.2 r19.1 0 a2_2) fun r20 =>
  some (Api_TypeNode.mk 10 0 0 (⟨#[]⟩ : ByteArray) r20.1 ([] : List Api_Field) (0, 0), r20.2))
  else (bif r2.1 == 10
  then (Option.bind (semtypebase_Source_indices r2.2 2 0 a2_2) fun r21 =>
  some (Api_TypeNode.mk 12 0 0 (⟨#[]⟩ : ByteArray) r21.1 ([] : List Api_Field) (0, 0), r21.2))
  else (bif r2.1 == 11
  then (Option.bind (semtypebase_Source_mapping r2.2 a2_2) fun r22 =>
  some (r22.1, r22.2))
  else (Option.bind (bif r2.1 == 12
  then (some (r2.1 == 12))
  else (some (r2.1 == 13))) fun b23 =>
  bif b23
  then (Option.bind (semtypebase_Source_Next r2.2 3) fun r24 =>
  Option.bind (semtypebase_Source_indices r24.2 (wr .i64 (1 + r24.1)) 0 a2_2) fun r25 =>
  some (Api_TypeNode.mk 14 0 0 (⟨#[]⟩ : ByteArray) r25.1 ([] : List Api_Field) (0, 0), r25.2))
  else (bif r2.1 == 14
  then (Option.bind (semtypebase_Source_indices r2.2 1 (wr .i64 (t + 1)) a2_2) fun r26 =>
  some (Api_TypeNode.mk 18 0 0 (⟨#[]⟩ : ByteArray) r26.1 ([] : List Api_Field) (0, 0), r26.2))
  else (bif r2.1 == 15
  then (Option.bind (semtypebase_Source_indices r2.2 2 (wr .i64 (t + 1)) a2_2) fun r27 =>
  some (Api_TypeNode.mk 17 0 0 (⟨#[]⟩ : ByteArray) r27.1 ([] : List Api_Field) (0, 0), r27.2))
  else (Option.bind (semtypebase_Source_Next r2.2 2) fun r28 =>
  Option.bind (semtypebase_Source_indices r28.2 (wr .i64 (2 + r28.1)) (wr .i64 (t + 1)) a2_2) fun r29 =>
  some (Api_TypeNode.mk 16 0 0 (⟨#[]⟩ : ByteArray) r29.1 ([] : List Api_Field) (0, 0), r29.2)))))))))))))))

def semtypebase_Source_Type_l1 (n_1 : Int) (x1 : Int × Semtypebase_Source × ((List Api_TypeNode) × Int)) : Option (Fl (Int × Semtypebase_Source × ((List Api_TypeNode) × Int)) (Semtypebase_Source × ((List Api_TypeNode) × Int))) :=
  bif decide (x1.1 < (max n_1 1))
  then (Option.bind (semtypebase_Source_node x1.2.1 x1.1 (max n_1 1)) fun r2 =>
  Option.bind (room (x1.2.2.1.length + ([r2.1] : List Api_TypeNode).length) 104) fun _ =>
  some (.next (wr .i64 (x1.1 + 1), r2.2, (x1.2.2.1 ++ ([r2.1] : List Api_TypeNode), x1.2.2.2))))
  else (some (.done (x1.2.1, (x1.2.2.1, x1.2.2.2))))

def semtypebase_Source_Type (s : Semtypebase_Source) (n_1 : Int) : Option (((List Api_TypeNode) × Int) × Semtypebase_Source) :=
  Option.bind (iter (semtypebase_Source_Type_l1 n_1) ((max n_1 1).toNat + 1) (0, s, ([], 0))) fun b4 =>
  some ((b4.2.1, b4.2.2), b4.1)

def semtypebase_Source_Number (s : Semtypebase_Source) : Option (Int × Semtypebase_Source) :=
  Option.bind (semtypebase_Source_Next s 10) fun r1 =>
  Option.bind (idx ([0, 1, (-1), 2, 3, (-2), 7, (-9223372036854775808), 9223372036854775807, 10] : List Int) r1.1) fun _ =>
  Option.bind (([0, 1, (-1), 2, 3, (-2), 7, (-9223372036854775808), 9223372036854775807, 10] : List Int)[r1.1.toNat]?) fun e3 =>
  some (e3, r1.2)

def semtyperef1_Int (n_0 : Int) : Option Val :=
  some (Val.mk 1 n_0 (⟨#[]⟩ : ByteArray) ([] : List Val) ([] : List Key) ([] : List Ent) ([] : List ByteArray))

def semtyperef1_Atom (s : ByteArray) : Option Val :=
  some (Val.mk 3 0 s ([] : List Val) ([] : List Key) ([] : List Ent) ([] : List ByteArray))

def semtyperef1_String (s : ByteArray) : Option Val :=
  some (Val.mk 2 0 s ([] : List Val) ([] : List Key) ([] : List Ent) ([] : List ByteArray))

def semtyperef1_Pid (n_0 : Int) : Option Val :=
  some (Val.mk 4 n_0 (⟨#[]⟩ : ByteArray) ([] : List Val) ([] : List Key) ([] : List Ent) ([] : List ByteArray))

def semtyperef1_copies (l : List Val) : Option (List Val) :=
  Option.bind (room (0 + l.length) 128) fun _ =>
  some l

def semtyperef1_Tuple (l : List Val) : Option Val :=
  Option.bind (semtyperef1_copies l) fun r1 =>
  some (Val.mk 6 0 (⟨#[]⟩ : ByteArray) r1 ([] : List Key) ([] : List Ent) ([] : List ByteArray))

def semtypebase_Source_leaf (s : Semtypebase_Source) : Option (Val × Semtypebase_Source) :=
  Option.bind (semtypebase_Source_Next s 6) fun r1 =>
  bif r1.1 == 0
  then (Option.bind (semtypebase_Source_Number r1.2) fun r2 =>
  Option.bind (semtyperef1_Int r2.1) fun r3 =>
  some (r3, r2.2))
  else (bif r1.1 == 1
  then (Option.bind (semtypebase_Source_AtomName r1.2) fun r4 =>
  Option.bind (semtyperef1_Atom r4.1) fun r5 =>
  some (r5, r4.2))
  else (bif r1.1 == 2
  then (Option.bind (semtypebase_Source_Word r1.2) fun r6 =>
  Option.bind (semtyperef1_String r6.1) fun r7 =>
  some (r7, r6.2))
  else (bif r1.1 == 3
  then (Option.bind (semtypebase_Source_Next r1.2 3) fun r8 =>
  Option.bind (semtyperef1_Pid r8.1) fun r9 =>
  some (r9, r8.2))
  else (bif r1.1 == 4
  then (Option.bind (semtyperef1_Nil) fun r10 =>
  some (r10, r1.2))
  else (Option.bind (semtyperef1_Tuple ([] : List Val)) fun r11 =>
  some (r11, r1.2))))))

def semtyperef1_lower (c : Int) : Option Bool :=
  Option.bind (bif decide (97 ≤ c)
  then (some (decide (c ≤ 122)))
  else (some false)) fun q1 =>
  some q1

def semtyperef1_digit (c : Int) : Option Bool :=
  Option.bind (bif decide (48 ≤ c)
  then (some (decide (c ≤ 57)))
  else (some false)) fun q1 =>
  some q1

def semtyperef1_IsAtom_l1 (s : ByteArray) (x5 : Int) : Option (Fl Int (Sum Unit Bool)) :=
  bif decide (x5 < (s.size : Int))
  then (Option.bind (sidx s x5) fun e6 =>
  Option.bind (semtyperef1_lower (e6.toNat : Int)) fun r7 =>
  Option.bind (bif !r7
  then (Option.bind (sidx s x5) fun e8 =>
  Option.bind (semtyperef1_digit (e8.toNat : Int)) fun r9 =>
  some (!r9))
  else (some false)) fun q10 =>
  Option.bind (bif q10
  then (Option.bind (sidx s x5) fun e11 =>
  some ((e11.toNat : Int) != 95))
  else (some false)) fun q12 =>
  bif q12
  then (some (.done (.inr false)))
  else (some (.next (wr .i64 (x5 + 1)))))
  else (some (.done (.inl ())))

def semtyperef1_IsAtom (s : ByteArray) : Option Bool :=
  Option.bind (bif decide ((s.size : Int) < 1)
  then (some true)
  else (some (decide (16 < (s.size : Int))))) fun q1 =>
  Option.bind (bif q1
  then (some true)
  else (Option.bind (sidx s 0) fun e2 =>
  Option.bind (semtyperef1_lower (e2.toNat : Int)) fun r3 =>
  some (!r3))) fun q4 =>
  bif q4
  then (some false)
  else (Option.bind (iter (semtyperef1_IsAtom_l1 s) ((s.size : Int).toNat + 1) 1) fun b13 =>
  onEnd (fun _ =>
  some true) (fun y15 =>
  some y15) b13)

def semtyperef1_ValidKey (k : Key) : Option Bool :=
  Option.bind (bif k.Kind == 0
  then (Option.bind (semtyperef1_IsAtom k.Text) fun r1 =>
  some r1)
  else (some false)) fun q2 =>
  Option.bind (bif q2
  then (some true)
  else (Option.bind (bif k.Kind == 1
  then (some (decide ((k.Text.size : Int) ≤ 64)))
  else (some false)) fun q3 =>
  some q3)) fun q4 =>
  some q4

def semtyperef1_Order (a : Int) (b : Int) : Option Int :=
  bif decide (a < b)
  then (some (-1))
  else (bif decide (b < a)
  then (some 1)
  else (some 0))

def semtyperef1_Text (a : ByteArray) (b : ByteArray) : Option Int :=
  bif strLt a b
  then (some (-1))
  else (bif !(strLt a b || strEq a b)
  then (some 1)
  else (some 0))

def semtyperef1_CompareKeys (a : Key) (b : Key) : Option Int :=
  bif a.Kind != b.Kind
  then (Option.bind (semtyperef1_Order a.Kind b.Kind) fun r1 =>
  some r1)
  else (Option.bind (semtyperef1_Text a.Text b.Text) fun r2 =>
  some r2)

def semtyperef1_Map_l1 (d : List Key) (x1 : Int × (Int × Int × ByteArray × (List Val) × (List Key) × (List Ent) × (List ByteArray))) : Option (Fl (Int × (Int × Int × ByteArray × (List Val) × (List Key) × (List Ent) × (List ByteArray))) (Sum (Int × Int × ByteArray × (List Val) × (List Key) × (List Ent) × (List ByteArray)) (Int × (Int × Int × ByteArray × (List Val) × (List Key) × (List Ent) × (List ByteArray))))) :=
  bif decide (x1.1 < (d.length : Int))
  then (Option.bind (idx d x1.1) fun e2 =>
  Option.bind (semtyperef1_ValidKey e2) fun r3 =>
  bif !r3
  then (some (.done (.inr (1, (0, 0, (⟨#[]⟩ : ByteArray), [], [], [], [])))))
  else (some (.next (wr .i64 (x1.1 + 1), (x1.2.1, x1.2.2.1, x1.2.2.2.1, x1.2.2.2.2.1, x1.2.2.2.2.2.1, x1.2.2.2.2.2.2.1, x1.2.2.2.2.2.2.2)))))
  else (some (.done (.inl (x1.2.1, x1.2.2.1, x1.2.2.2.1, x1.2.2.2.2.1, x1.2.2.2.2.2.1, x1.2.2.2.2.2.2.1, x1.2.2.2.2.2.2.2))))

def semtyperef1_Map_l2 (d : List Key) (x7 : Int × (Int × Int × ByteArray × (List Val) × (List Key) × (List Ent) × (List ByteArray)) × (Int × Int × ByteArray × (List Val) × (List Key) × (List Ent) × (List ByteArray))) (x8 : Int) : Option (Fl Int Int) :=
  Option.bind (bif decide (x8 < (x7.2.2.2.2.2.2.1.length : Int))
  then (Option.bind (idx x7.2.2.2.2.2.2.1 x8) fun e9 =>
  Option.bind (idx d x7.1) fun e10 =>
  Option.bind (semtyperef1_CompareKeys e9 e10) fun r11 =>
  some (decide (r11 < 0)))
  else (some false)) fun q12 =>
  bif q12
  then (some (.next (wr .i64 (x8 + 1))))
  else (some (.done x8))

def semtyperef1_Map_l3 (d : List Key) (t : List Val) (x7 : Int × (Int × Int × ByteArray × (List Val) × (List Key) × (List Ent) × (List ByteArray)) × (Int × Int × ByteArray × (List Val) × (List Key) × (List Ent) × (List ByteArray))) : Option (Fl (Int × (Int × Int × ByteArray × (List Val) × (List Key) × (List Ent) × (List ByteArray)) × (Int × Int × ByteArray × (List Val) × (List Key) × (List Ent) × (List ByteArray))) (Sum ((Int × Int × ByteArray × (List Val) × (List Key) × (List Ent) × (List ByteArray)) × (Int × Int × ByteArray × (List Val) × (List Key) × (List Ent) × (List ByteArray))) (Int × (Int × Int × ByteArray × (List Val) × (List Key) × (List Ent) × (List ByteArray)) × (Int × Int × ByteArray × (List Val) × (List Key) × (List Ent) × (List ByteArray))))) :=
  bif decide (x7.1 < (d.length : Int))
  then (Option.bind (iter (semtyperef1_Map_l2 d x7) ((x7.2.2.2.2.2.2.1.length : Int).toNat + 1) 0) fun b13 =>
  Option.bind (bif decide (b13 < (x7.2.2.2.2.2.2.1.length : Int))
  then (Option.bind (idx x7.2.2.2.2.2.2.1 b13) fun e14 =>
  Option.bind (idx d x7.1) fun e15 =>
  some (eqD_114 e14 e15))
  else (some false)) fun q16 =>
  bif q16
  then (some (.done (.inr (6, (0, 0, (⟨#[]⟩ : ByteArray), [], [], [], []), (x7.2.2.1, x7.2.2.2.1, x7.2.2.2.2.1, x7.2.2.2.2.2.1, x7.2.2.2.2.2.2.1, x7.2.2.2.2.2.2.2.1, x7.2.2.2.2.2.2.2.2)))))
  else (Option.bind (cut x7.2.2.2.2.2.2.1 0 b13) fun y17 =>
  Option.bind (room (0 + y17.length) 24) fun _ =>
  Option.bind (cut x7.2.2.2.2.2.1 0 b13) fun y19 =>
  Option.bind (semtyperef1_copies y19) fun r20 =>
  Option.bind (idx d x7.1) fun e21 =>
  Option.bind (room (y17.length + ([e21] : List Key).length) 24) fun _ =>
  Option.bind (cut x7.2.2.2.2.2.2.1 b13 (x7.2.2.2.2.2.2.1.length : Int)) fun y23 =>
  Option.bind (room ((y17 ++ ([e21] : List Key)).length + y23.length) 24) fun _ =>
  Option.bind (idx t x7.1) fun e25 =>
  Option.bind (room (r20.length + ([e25] : List Val).length) 128) fun _ =>
  Option.bind (cut x7.2.2.2.2.2.1 b13 (x7.2.2.2.2.2.1.length : Int)) fun y27 =>
  Option.bind (room ((r20 ++ ([e25] : List Val)).length + y27.length) 128) fun _ =>
  some (.next (wr .i64 (x7.1 + 1), (x7.2.1.1, x7.2.1.2.1, x7.2.1.2.2.1, x7.2.1.2.2.2.1, x7.2.1.2.2.2.2.1, x7.2.1.2.2.2.2.2.1, x7.2.1.2.2.2.2.2.2), (x7.2.2.1, x7.2.2.2.1, x7.2.2.2.2.1, (r20 ++ ([e25] : List Val)) ++ y27, (y17 ++ ([e21] : List Key)) ++ y23, x7.2.2.2.2.2.2.2.1, x7.2.2.2.2.2.2.2.2)))))
  else (some (.done (.inl ((x7.2.1.1, x7.2.1.2.1, x7.2.1.2.2.1, x7.2.1.2.2.2.1, x7.2.1.2.2.2.2.1, x7.2.1.2.2.2.2.2.1, x7.2.1.2.2.2.2.2.2), (x7.2.2.1, x7.2.2.2.1, x7.2.2.2.2.1, x7.2.2.2.2.2.1, x7.2.2.2.2.2.2.1, x7.2.2.2.2.2.2.2.1, x7.2.2.2.2.2.2.2.2)))))

def semtyperef1_Map (d : List Key) (t : List Val) : Option (Val × Int) :=
  bif (d.length : Int) != (t.length : Int)
  then (some (Val.mk 0 0 (⟨#[]⟩ : ByteArray) ([] : List Val) ([] : List Key) ([] : List Ent) ([] : List ByteArray), 1))
  else (Option.bind (iter (semtyperef1_Map_l1 d) ((d.length : Int).toNat + 1) (0, (0, 0, (⟨#[]⟩ : ByteArray), [], [], [], []))) fun (b4 : Sum (Int × Int × ByteArray × (List Val) × (List Key) × (List Ent) × (List ByteArray)) (Int × (Int × Int × ByteArray × (List Val) × (List Key) × (List Ent) × (List ByteArray)))) =>
  onEnd (fun x5 =>
  Option.bind (iter (semtyperef1_Map_l3 d t) ((d.length : Int).toNat + 1) (0, (x5.1, x5.2.1, x5.2.2.1, x5.2.2.2.1, x5.2.2.2.2.1, x5.2.2.2.2.2.1, x5.2.2.2.2.2.2), (8, 0, (⟨#[]⟩ : ByteArray), ([] : List Val), ([] : List Key), [], []))) fun (b29 : Sum ((Int × Int × ByteArray × (List Val) × (List Key) × (List Ent) × (List ByteArray)) × (Int × Int × ByteArray × (List Val) × (List Key) × (List Ent) × (List ByteArray))) (Int × (Int × Int × ByteArray × (List Val) × (List Key) × (List Ent) × (List ByteArray)) × (Int × Int × ByteArray × (List Val) × (List Key) × (List Ent) × (List ByteArray)))) =>
  onEnd (fun x30 =>
  some (Val.mk x30.2.1 x30.2.2.1 x30.2.2.2.1 x30.2.2.2.2.1 x30.2.2.2.2.2.1 x30.2.2.2.2.2.2.1 x30.2.2.2.2.2.2.2, 0)) (fun y31 =>
  some (Val.mk y31.2.1.1 y31.2.1.2.1 y31.2.1.2.2.1 y31.2.1.2.2.2.1 y31.2.1.2.2.2.2.1 y31.2.1.2.2.2.2.2.1 y31.2.1.2.2.2.2.2.2, y31.1)) b29) (fun y6 =>
  some (Val.mk y6.2.1 y6.2.2.1 y6.2.2.2.1 y6.2.2.2.2.1 y6.2.2.2.2.2.1 y6.2.2.2.2.2.2.1 y6.2.2.2.2.2.2.2, y6.1)) b4)

def semtyperef1_count (a : Int) (b : Int) : Option Int :=
  Option.bind (semtyperef1_Order a b) fun r1 =>
  some r1

def semtyperef1_Compare_l1 (d : Val) (t : Val) (x5 : Int) : Option (Fl Int (Sum Unit Int)) :=
  bif decide (x5 < (d.Keys.length : Int))
  then (Option.bind (idx d.Keys x5) fun e6 =>
  Option.bind (idx t.Keys x5) fun e7 =>
  Option.bind (semtyperef1_CompareKeys e6 e7) fun r8 =>
  bif r8 != 0
  then (some (.done (.inr r8)))
  else (some (.next (wr .i64 (x5 + 1)))))
  else (some (.done (.inl ())))

def semtyperef1_Compare_l2 (d : Val) (t : Val) (rec_semtyperef1_CompareEntries : Ent → Ent → Option Int) (x14 : Int) : Option (Fl Int (Sum Unit Int)) :=
  bif decide (x14 < (d.Entries.length : Int))
  then (Option.bind (idx d.Entries x14) fun e15 =>
  Option.bind (idx t.Entries x14) fun e16 =>
  Option.bind (rec_semtyperef1_CompareEntries e15 e16) fun r17 =>
  bif r17 != 0
  then (some (.done (.inr r17)))
  else (some (.next (wr .i64 (x14 + 1)))))
  else (some (.done (.inl ())))

def semtyperef1_Compare_l3 (d : Val) (t : Val) (x22 : Int) : Option (Fl Int (Sum Unit Int)) :=
  bif decide (x22 < (d.Labels.length : Int))
  then (Option.bind (idx d.Labels x22) fun e23 =>
  Option.bind (idx t.Labels x22) fun e24 =>
  Option.bind (semtyperef1_Text e23 e24) fun r25 =>
  bif r25 != 0
  then (some (.done (.inr r25)))
  else (some (.next (wr .i64 (x22 + 1)))))
  else (some (.done (.inl ())))

def semtyperef1_values_l1 (a : List Val) (b : List Val) (rec_semtyperef1_Compare : Val → Val → Option Int) (x2 : Int) : Option (Fl Int (Sum Unit Int)) :=
  bif decide (x2 < (a.length : Int))
  then (Option.bind (idx a x2) fun e3 =>
  Option.bind (idx b x2) fun e4 =>
  Option.bind (rec_semtyperef1_Compare e3 e4) fun r5 =>
  bif r5 != 0
  then (some (.done (.inr r5)))
  else (some (.next (wr .i64 (x2 + 1)))))
  else (some (.done (.inl ())))

def semtyperef1_Compare_B (_ : Nat) (_ : Val → Val → Option Int) (rec_semtyperef1_values : (List Val) → (List Val) → Option Int) (rec_semtyperef1_CompareEntries : Ent → Ent → Option Int) (d : Val) (t : Val) : Option Int :=
  bif d.Kind != t.Kind
  then (Option.bind (semtyperef1_count d.Kind t.Kind) fun r1 =>
  some r1)
  else (bif d.Int_ != t.Int_
  then (Option.bind (semtyperef1_Order d.Int_ t.Int_) fun r2 =>
  some r2)
  else (bif !(strEq d.Text t.Text)
  then (Option.bind (semtyperef1_Text d.Text t.Text) fun r3 =>
  some r3)
  else (bif (d.Keys.length : Int) != (t.Keys.length : Int)
  then (Option.bind (semtyperef1_count (d.Keys.length : Int) (t.Keys.length : Int)) fun r4 =>
  some r4)
  else (Option.bind (iter (semtyperef1_Compare_l1 d t) ((d.Keys.length : Int).toNat + 1) 0) fun b9 =>
  onEnd (fun _ =>
  Option.bind (rec_semtyperef1_values d.Kids t.Kids) fun r12 =>
  bif r12 != 0
  then (some r12)
  else (bif (d.Entries.length : Int) != (t.Entries.length : Int)
  then (Option.bind (semtyperef1_count (d.Entries.length : Int) (t.Entries.length : Int)) fun r13 =>
  some r13)
  else (Option.bind (iter (semtyperef1_Compare_l2 d t rec_semtyperef1_CompareEntries) ((d.Entries.length : Int).toNat + 1) 0) fun b18 =>
  onEnd (fun _ =>
  bif (d.Labels.length : Int) != (t.Labels.length : Int)
  then (Option.bind (semtyperef1_count (d.Labels.length : Int) (t.Labels.length : Int)) fun r21 =>
  some r21)
  else (Option.bind (iter (semtyperef1_Compare_l3 d t) ((d.Labels.length : Int).toNat + 1) 0) fun b26 =>
  onEnd (fun _ =>
  some 0) (fun y28 =>
  some y28) b26)) (fun y20 =>
  some y20) b18))) (fun y11 =>
  some y11) b9))))

def semtyperef1_values_B (_ : Nat) (rec_semtyperef1_Compare : Val → Val → Option Int) (_ : (List Val) → (List Val) → Option Int) (_ : Ent → Ent → Option Int) (a : List Val) (b : List Val) : Option Int :=
  bif (a.length : Int) != (b.length : Int)
  then (Option.bind (semtyperef1_count (a.length : Int) (b.length : Int)) fun r1 =>
  some r1)
  else (Option.bind (iter (semtyperef1_values_l1 a b rec_semtyperef1_Compare) ((a.length : Int).toNat + 1) 0) fun b6 =>
  onEnd (fun _ =>
  some 0) (fun y8 =>
  some y8) b6)

def semtyperef1_CompareEntries_B (_ : Nat) (rec_semtyperef1_Compare : Val → Val → Option Int) (rec_semtyperef1_values : (List Val) → (List Val) → Option Int) (_ : Ent → Ent → Option Int) (a : Ent) (b : Ent) : Option Int :=
  Option.bind (rec_semtyperef1_values a.Args b.Args) fun r1 =>
  bif r1 != 0
  then (some r1)
  else (bif a.Fails != b.Fails
  then (bif a.Fails
  then (some (-1))
  else (some 1))
  else (Option.bind (rec_semtyperef1_Compare a.Result b.Result) fun r2 =>
  some r2))

def scc_semtyperef1_Compare : Nat → (Val → Val → Option Int) × ((List Val) → (List Val) → Option Int) × (Ent → Ent → Option Int)
  | 0 => (fun _ _ => none, fun _ _ => none, fun _ _ => none)
  | n + 1 => (semtyperef1_Compare_B n ((scc_semtyperef1_Compare n).1) ((scc_semtyperef1_Compare n).2.1) ((scc_semtyperef1_Compare n).2.2), semtyperef1_values_B n ((scc_semtyperef1_Compare n).1) ((scc_semtyperef1_Compare n).2.1) ((scc_semtyperef1_Compare n).2.2), semtyperef1_CompareEntries_B n ((scc_semtyperef1_Compare n).1) ((scc_semtyperef1_Compare n).2.1) ((scc_semtyperef1_Compare n).2.2))

def semtyperef1_Compare (n : Nat) : Val → Val → Option Int := (scc_semtyperef1_Compare n).1

def semtyperef1_values (n : Nat) : (List Val) → (List Val) → Option Int := (scc_semtyperef1_Compare n).2.1

def semtyperef1_CompareEntries (n : Nat) : Ent → Ent → Option Int := (scc_semtyperef1_Compare n).2.2

def semtyperef1_Equal (n : Nat) (a : Val) (b : Val) : Option Bool :=
  Option.bind (semtyperef1_Compare n a b) fun r1 =>
  some (r1 == 0)

def semtyperef1_entries_l1 (l : List Ent) (x1 : (List Ent) × Int) (n : Nat) (x2 : Int) : Option (Fl Int Int) :=
  Option.bind (bif decide (x2 < (x1.1.length : Int))
  then (Option.bind (idx x1.1 x2) fun e3 =>
  Option.bind (idx l x1.2) fun _ =>
  Option.bind (l[x1.2.toNat]?) fun e5 =>
  Option.bind (semtyperef1_CompareEntries n e3 e5) fun r6 =>
  some (decide (r6 < 0)))
  else (some false)) fun q7 =>
  bif q7
  then (some (.next (wr .i64 (x2 + 1))))
  else (some (.done x2))

def semtyperef1_entries_l2 (l : List Ent) (n : Nat) (x1 : (List Ent) × Int) : Option (Fl ((List Ent) × Int) (List Ent)) :=
  bif decide (x1.2 < (l.length : Int))
  then (Option.bind (Option.bind (iter (semtyperef1_entries_l1 l x1 n) ((x1.1.length : Int).toNat + 1) 0) fun b8 =>
  Option.bind (bif decide (b8 < (x1.1.length : Int))
  then (Option.bind (idx x1.1 b8) fun e9 =>
  Option.bind (idx l x1.2) fun _ =>
  Option.bind (l[x1.2.toNat]?) fun e11 =>
  Option.bind (semtyperef1_CompareEntries n e9 e11) fun r12 =>
  some (r12 == 0))
  else (some false)) fun q13 =>
  bif q13
  then (some x1.1)
  else (Option.bind (cut x1.1 0 b8) fun y14 =>
  Option.bind (room (0 + y14.length) 160) fun _ =>
  Option.bind (idx l x1.2) fun _ =>
  Option.bind (l[x1.2.toNat]?) fun e17 =>
  Option.bind (room (y14.length + ([e17] : List Ent).length) 160) fun _ =>
  Option.bind (cut x1.1 b8 (x1.1.length : Int)) fun y19 =>
  Option.bind (room ((y14 ++ ([e17] : List Ent)).length + y19.length) 160) fun _ =>
  some ((y14 ++ ([e17] : List Ent)) ++ y19))) fun b21 =>
  some (.next (b21, wr .i64 (x1.2 + 1))))
  else (some (.done x1.1))

def semtyperef1_entries (n : Nat) (l : List Ent) : Option (List Ent) :=
  Option.bind (iter (semtyperef1_entries_l2 l n) ((l.length : Int).toNat + 1) (([] : List Ent), 0)) fun b22 =>
  some b22

def semtyperef1_Function_l1 (arity : Int) (l : List Ent) (n : Nat) (x2 : Int × (Int × Int × ByteArray × (List Val) × (List Key) × (List Ent) × (List ByteArray))) : Option (Fl (Int × (Int × Int × ByteArray × (List Val) × (List Key) × (List Ent) × (List ByteArray))) (Sum (Int × Int × ByteArray × (List Val) × (List Key) × (List Ent) × (List ByteArray)) (Int × (Int × Int × ByteArray × (List Val) × (List Key) × (List Ent) × (List ByteArray))))) :=
  bif decide (x2.1 < (l.length : Int))
  then (Option.bind (idx l x2.1) fun _ =>
  Option.bind (l[x2.1.toNat]?) fun e4 =>
  Option.bind (bif (e4.Args.length : Int) != arity
  then (some true)
  else (Option.bind (idx l x2.1) fun _ =>
  Option.bind (l[x2.1.toNat]?) fun e6 =>
  Option.bind (bif e6.Fails
  then (Option.bind (idx l x2.1) fun _ =>
  Option.bind (l[x2.1.toNat]?) fun e8 =>
  Option.bind (semtyperef1_Equal n e8.Result (Val.mk 0 0 (⟨#[]⟩ : ByteArray) ([] : List Val) ([] : List Key) ([] : List Ent) ([] : List ByteArray))) fun r9 =>
  some (!r9))
  else (some false)) fun q10 =>
  some q10)) fun q11 =>
  bif q11
  then (some (.done (.inr (1, (0, 0, (⟨#[]⟩ : ByteArray), [], [], [], [])))))
  else (some (.next (wr .i64 (x2.1 + 1), (x2.2.1, x2.2.2.1, x2.2.2.2.1, x2.2.2.2.2.1, x2.2.2.2.2.2.1, x2.2.2.2.2.2.2.1, x2.2.2.2.2.2.2.2)))))
  else (some (.done (.inl (x2.2.1, x2.2.2.1, x2.2.2.2.1, x2.2.2.2.2.1, x2.2.2.2.2.2.1, x2.2.2.2.2.2.2.1, x2.2.2.2.2.2.2.2))))

def semtyperef1_Function (n : Nat) (arity : Int) (l : List Ent) : Option (Val × Int) :=
  Option.bind (bif decide (arity < 0)
  then (some true)
  else (some (decide (4 < arity)))) fun q1 =>
  bif q1
  then (some (Val.mk 0 0 (⟨#[]⟩ : ByteArray) ([] : List Val) ([] : List Key) ([] : List Ent) ([] : List ByteArray), 1))
  else (Option.bind (iter (semtyperef1_Function_l1 arity l n) ((l.length : Int).toNat + 1) (0, (0, 0, (⟨#[]⟩ : ByteArray), [], [], [], []))) fun (b12 : Sum (Int × Int × ByteArray × (List Val) × (List Key) × (List Ent) × (List ByteArray)) (Int × (Int × Int × ByteArray × (List Val) × (List Key) × (List Ent) × (List ByteArray)))) =>
  onEnd (fun _ =>
  Option.bind (semtyperef1_entries n l) fun r15 =>
  some (Val.mk 9 arity (⟨#[]⟩ : ByteArray) ([] : List Val) ([] : List Key) r15 ([] : List ByteArray), 0)) (fun y14 =>
  some (Val.mk y14.2.1 y14.2.2.1 y14.2.2.2.1 y14.2.2.2.2.1 y14.2.2.2.2.2.1 y14.2.2.2.2.2.2.1 y14.2.2.2.2.2.2.2, y14.1)) b12)

def semtyperef1_Sorted_l1 (l : List ByteArray) (x1 : (List ByteArray) × Int) (x2 : Int) : Option (Fl Int Int) :=
  Option.bind (bif decide (x2 < (x1.1.length : Int))
  then (Option.bind (idx x1.1 x2) fun e3 =>
  Option.bind (idx l x1.2) fun e4 =>
  some (strLt e3 e4))
  else (some false)) fun q5 =>
  bif q5
  then (some (.next (wr .i64 (x2 + 1))))
  else (some (.done x2))

def semtyperef1_Sorted_l2 (l : List ByteArray) (x1 : (List ByteArray) × Int) : Option (Fl ((List ByteArray) × Int) (List ByteArray)) :=
  bif decide (x1.2 < (l.length : Int))
  then (Option.bind (Option.bind (iter (semtyperef1_Sorted_l1 l x1) ((x1.1.length : Int).toNat + 1) 0) fun b6 =>
  Option.bind (bif decide (b6 < (x1.1.length : Int))
  then (Option.bind (idx x1.1 b6) fun e7 =>
  Option.bind (idx l x1.2) fun e8 =>
  some (strEq e7 e8))
  else (some false)) fun q9 =>
  bif q9
  then (some x1.1)
  else (Option.bind (cut x1.1 0 b6) fun y10 =>
  Option.bind (room (0 + y10.length) 16) fun _ =>
  Option.bind (idx l x1.2) fun e12 =>
  Option.bind (room (y10.length + ([e12] : List ByteArray).length) 16) fun _ =>
  Option.bind (cut x1.1 b6 (x1.1.length : Int)) fun y14 =>
  Option.bind (room ((y10 ++ ([e12] : List ByteArray)).length + y14.length) 16) fun _ =>
  some ((y10 ++ ([e12] : List ByteArray)) ++ y14))) fun b16 =>
  some (.next (b16, wr .i64 (x1.2 + 1))))
  else (some (.done x1.1))

def semtyperef1_Sorted (l : List ByteArray) : Option (List ByteArray) :=
  Option.bind (iter (semtyperef1_Sorted_l2 l) ((l.length : Int).toNat + 1) (([] : List ByteArray), 0)) fun b17 =>
  some b17

def semtyperef1_WithLabels (v : Val) (names : List ByteArray) : Option Val :=
  Option.bind (semtyperef1_Sorted names) fun r1 =>
  some (Val.mk v.Kind v.Int_ v.Text v.Kids v.Keys v.Entries r1)

def semtyperef1_Cons (head : Val) (tail : Val) : Option Val :=
  some (Val.mk 7 0 (⟨#[]⟩ : ByteArray) ([head, tail] : List Val) ([] : List Key) ([] : List Ent) ([] : List ByteArray))

def semtypebase_Source_Labels (s : Semtypebase_Source) : Option ((List ByteArray) × Semtypebase_Source) :=
  Option.bind (semtypebase_Source_Next s 3) fun r1 =>
  Option.bind (bif r1.1 == 1
  then (Option.bind (semtypebase_Source_Label r1.2) fun r2 =>
  Option.bind (room (0 + ([r2.1] : List ByteArray).length) 16) fun _ =>
  Option.bind (semtypebase_Source_Next r2.2 2) fun r4 =>
  bif r4.1 == 1
  then (Option.bind (semtypebase_Source_Label r4.2) fun r5 =>
  Option.bind (room (([r2.1] : List ByteArray).length + ([r5.1] : List ByteArray).length) 16) fun _ =>
  some (([r2.1] : List ByteArray) ++ ([r5.1] : List ByteArray), r5.2))
  else (some (([r2.1] : List ByteArray), r4.2)))
  else (some ([], r1.2))) fun b7 =>
  Option.bind (semtyperef1_Sorted b7.1) fun r8 =>
  some (r8, b7.2)

def semtypebase_Source_Key (s : Semtypebase_Source) : Option (Key × Semtypebase_Source) :=
  Option.bind (semtypebase_Source_Next s 2) fun r1 =>
  bif r1.1 == 0
  then (Option.bind (semtypebase_Source_AtomName r1.2) fun r2 =>
  some (Key.mk 0 r2.1, r2.2))
  else (Option.bind (semtypebase_Source_Word r1.2) fun r3 =>
  some (Key.mk 1 r3.1, r3.2))

def semtypebase_Source_value_l1 (t : Int) (rec_semtypebase_Source_Value : Semtypebase_Source → Int → Option (Val × Semtypebase_Source)) (x4 : (List Val) × Int × Semtypebase_Source) : Option (Fl ((List Val) × Int × Semtypebase_Source) ((List Val) × Semtypebase_Source)) :=
  bif decide (0 < x4.2.1)
  then (Option.bind (rec_semtypebase_Source_Value x4.2.2 (wr .i64 (t - 1))) fun r5 =>
  Option.bind (room (x4.1.length + ([r5.1] : List Val).length) 128) fun _ =>
  some (.next (x4.1 ++ ([r5.1] : List Val), wr .i64 (x4.2.1 - 1), r5.2)))
  else (some (.done (x4.1, x4.2.2)))

def semtypebase_Source_value_l2 (t : Int) (rec_semtypebase_Source_Value : Semtypebase_Source → Int → Option (Val × Semtypebase_Source)) (x20 : (List Key) × (List Val) × Int × Semtypebase_Source) : Option (Fl ((List Key) × (List Val) × Int × Semtypebase_Source) ((List Key) × (List Val) × Semtypebase_Source)) :=
  bif decide (0 < x20.2.2.1)
  then (Option.bind (semtypebase_Source_Key x20.2.2.2) fun r21 =>
  Option.bind (room (x20.1.length + ([r21.1] : List Key).length) 24) fun _ =>
  Option.bind (rec_semtypebase_Source_Value r21.2 (wr .i64 (t - 1))) fun r23 =>
  Option.bind (room (x20.2.1.length + ([r23.1] : List Val).length) 128) fun _ =>
  some (.next (x20.1 ++ ([r21.1] : List Key), x20.2.1 ++ ([r23.1] : List Val), wr .i64 (x20.2.2.1 - 1), r23.2)))
  else (some (.done (x20.1, x20.2.1, x20.2.2.2)))

def semtypebase_Source_value_l3 (t : Int) (r27 : Int × Semtypebase_Source) (rec_semtypebase_Source_entry : Semtypebase_Source → Int → Int → Option (Ent × Semtypebase_Source)) (x29 : (List Ent) × Int × Semtypebase_Source) : Option (Fl ((List Ent) × Int × Semtypebase_Source) ((List Ent) × Semtypebase_Source)) :=
  bif decide (0 < x29.2.1)
  then (Option.bind (rec_semtypebase_Source_entry x29.2.2 r27.1 (wr .i64 (t - 1))) fun r30 =>
  Option.bind (room (x29.1.length + ([r30.1] : List Ent).length) 160) fun _ =>
  some (.next (x29.1 ++ ([r30.1] : List Ent), wr .i64 (x29.2.1 - 1), r30.2)))
  else (some (.done (x29.1, x29.2.2)))

def semtypebase_Source_entry_l1 (height : Int) (rec_semtypebase_Source_Value : Semtypebase_Source → Int → Option (Val × Semtypebase_Source)) (x1 : Int × Semtypebase_Source × ((List Val) × Bool × Int × Int × ByteArray × (List Val) × (List Key) × (List Ent) × (List ByteArray))) : Option (Fl (Int × Semtypebase_Source × ((List Val) × Bool × Int × Int × ByteArray × (List Val) × (List Key) × (List Ent) × (List ByteArray))) (Semtypebase_Source × ((List Val) × Bool × Int × Int × ByteArray × (List Val) × (List Key) × (List Ent) × (List ByteArray)))) :=
  bif decide (0 < x1.1)
  then (Option.bind (rec_semtypebase_Source_Value x1.2.1 height) fun r2 =>
  Option.bind (room (x1.2.2.1.length + ([r2.1] : List Val).length) 128) fun _ =>
  some (.next (wr .i64 (x1.1 - 1), r2.2, (x1.2.2.1 ++ ([r2.1] : List Val), x1.2.2.2.1, x1.2.2.2.2.1, x1.2.2.2.2.2.1, x1.2.2.2.2.2.2.1, x1.2.2.2.2.2.2.2.1, x1.2.2.2.2.2.2.2.2.1, x1.2.2.2.2.2.2.2.2.2.1, x1.2.2.2.2.2.2.2.2.2.2))))
  else (some (.done (x1.2.1, (x1.2.2.1, x1.2.2.2.1, x1.2.2.2.2.1, x1.2.2.2.2.2.1, x1.2.2.2.2.2.2.1, x1.2.2.2.2.2.2.2.1, x1.2.2.2.2.2.2.2.2.1, x1.2.2.2.2.2.2.2.2.2.1, x1.2.2.2.2.2.2.2.2.2.2))))

def semtypebase_Source_Value_B (_ : Nat) (_ : Semtypebase_Source → Int → Option (Val × Semtypebase_Source)) (rec_semtypebase_Source_value : Semtypebase_Source → Int → Option (Val × Semtypebase_Source)) (_ : Semtypebase_Source → Int → Int → Option (Ent × Semtypebase_Source)) (s : Semtypebase_Source) (height : Int) : Option (Val × Semtypebase_Source) :=
  Option.bind (rec_semtypebase_Source_value s height) fun r1 =>
  Option.bind (semtypebase_Source_Labels r1.2) fun r2 =>
  some (Val.mk r1.1.Kind r1.1.Int_ r1.1.Text r1.1.Kids r1.1.Keys r1.1.Entries r2.1, r2.2)

def semtypebase_Source_value_B (n : Nat) (rec_semtypebase_Source_Value : Semtypebase_Source → Int → Option (Val × Semtypebase_Source)) (_ : Semtypebase_Source → Int → Option (Val × Semtypebase_Source)) (rec_semtypebase_Source_entry : Semtypebase_Source → Int → Int → Option (Ent × Semtypebase_Source)) (d : Semtypebase_Source) (t : Int) : Option (Val × Semtypebase_Source) :=
  bif decide (t ≤ 1)
  then (Option.bind (semtypebase_Source_leaf d) fun r1 =>
  some (r1.1, r1.2))
  else (Option.bind (semtypebase_Source_Next d 6) fun r2 =>
  Option.bind (bif r2.1 == 1
  then (Option.bind (semtypebase_Source_Next r2.2 4) fun r3 =>
  Option.bind (iter (semtypebase_Source_value_l1 t rec_semtypebase_Source_Value) (r3.1.toNat + 2) ([], r3.1, r3.2)) fun b7 =>
  Option.bind (semtyperef1_Tuple b7.1) fun r8 =>
  some (.inr (b7.2, (r8.Kind, r8.Int_, r8.Text, r8.Kids, r8.Keys, r8.Entries, r8.Labels))))
  else (bif r2.1 == 2
  then (Option.bind (semtyperef1_Nil) fun r9 =>
  Option.bind (bif decide (2 < t)
  then (Option.bind (semtypebase_Source_Next r2.2 2) fun r10 =>
  some (r10.1 == 1, r10.2))
  else (some (false, r2.2))) fun b11 =>
  Option.bind (bif b11.1
  then (Option.bind (rec_semtypebase_Source_Value b11.2 (wr .i64 (t - 2))) fun r12 =>
  Option.bind (semtyperef1_Nil) fun r13 =>
  Option.bind (semtyperef1_Cons r12.1 r13) fun r14 =>
  some (r12.2, r14))
  else (some (b11.2, r9))) fun b15 =>
  Option.bind (semtypebase_Source_Labels b15.1) fun r16 =>
  Option.bind (rec_semtypebase_Source_Value r16.2 (wr .i64 (t - 1))) fun r17 =>
  Option.bind (semtyperef1_Cons r17.1 (Val.mk b15.2.Kind b15.2.Int_ b15.2.Text b15.2.Kids b15.2.Keys b15.2.Entries r16.1)) fun r18 =>
  some (.inr (r17.2, (r18.Kind, r18.Int_, r18.Text, r18.Kids, r18.Keys, r18.Entries, r18.Labels))))
  else (bif r2.1 == 3
  then (Option.bind (semtypebase_Source_Next r2.2 3) fun r19 =>
  Option.bind (iter (semtypebase_Source_value_l2 t rec_semtypebase_Source_Value) (r19.1.toNat + 2) ([], [], r19.1, r19.2)) fun b25 =>
  Option.bind (semtyperef1_Map b25.1 b25.2.1) fun r26 =>
  bif r26.2 == 0
  then (some (.inr (b25.2.2, (r26.1.Kind, r26.1.Int_, r26.1.Text, r26.1.Kids, r26.1.Keys, r26.1.Entries, r26.1.Labels))))
  else (some (.inl (b25.2.2, (0, 0, (⟨#[]⟩ : ByteArray), ([] : List Val), ([] : List Key), ([] : List Ent), ([] : List ByteArray))))))
  else (bif r2.1 == 4
  then (Option.bind (semtypebase_Source_Next r2.2 3) fun r27 =>
  Option.bind (semtypebase_Source_Next r27.2 3) fun r28 =>
  Option.bind (iter (semtypebase_Source_value_l3 t r27 rec_semtypebase_Source_entry) (r28.1.toNat + 2) ([], r28.1, r28.2)) fun b32 =>
  Option.bind (semtyperef1_Function n r27.1 b32.1) fun r33 =>
  bif r33.2 == 0
  then (some (.inr (b32.2, (r33.1.Kind, r33.1.Int_, r33.1.Text, r33.1.Kids, r33.1.Keys, r33.1.Entries, r33.1.Labels))))
  else (some (.inl (b32.2, (0, 0, (⟨#[]⟩ : ByteArray), ([] : List Val), ([] : List Key), ([] : List Ent), ([] : List ByteArray))))))
  else (some (.inl (r2.2, (0, 0, (⟨#[]⟩ : ByteArray), ([] : List Val), ([] : List Key), ([] : List Ent), ([] : List ByteArray))))))))) fun (b34 : Sum (Semtypebase_Source × (Int × Int × ByteArray × (List Val) × (List Key) × (List Ent) × (List ByteArray))) (Semtypebase_Source × (Int × Int × ByteArray × (List Val) × (List Key) × (List Ent) × (List ByteArray)))) =>
  onEnd (fun x35 =>
  Option.bind (semtypebase_Source_leaf x35.1) fun r37 =>
  some (r37.1, r37.2)) (fun y36 =>
  some (Val.mk y36.2.1 y36.2.2.1 y36.2.2.2.1 y36.2.2.2.2.1 y36.2.2.2.2.2.1 y36.2.2.2.2.2.2.1 y36.2.2.2.2.2.2.2, y36.1)) b34)

def semtypebase_Source_entry_B (_ : Nat) (rec_semtypebase_Source_Value : Semtypebase_Source → Int → Option (Val × Semtypebase_Source)) (_ : Semtypebase_Source → Int → Option (Val × Semtypebase_Source)) (_ : Semtypebase_Source → Int → Int → Option (Ent × Semtypebase_Source)) (s : Semtypebase_Source) (n_1 : Int) (height : Int) : Option (Ent × Semtypebase_Source) :=
  Option.bind (iter (semtypebase_Source_entry_l1 height rec_semtypebase_Source_Value) (n_1.toNat + 2) (n_1, s, ([], false, 0, 0, (⟨#[]⟩ : ByteArray), [], [], [], []))) fun b4 =>
  Option.bind (semtypebase_Source_Next b4.1 4) fun r5 =>
  bif r5.1 == 1
  then (some (Ent.mk b4.2.1 true (Val.mk b4.2.2.2.1 b4.2.2.2.2.1 b4.2.2.2.2.2.1 b4.2.2.2.2.2.2.1 b4.2.2.2.2.2.2.2.1 b4.2.2.2.2.2.2.2.2.1 b4.2.2.2.2.2.2.2.2.2), r5.2))
  else (Option.bind (rec_semtypebase_Source_Value r5.2 height) fun r6 =>
  some (Ent.mk b4.2.1 b4.2.2.1 r6.1, r6.2))

def scc_semtypebase_Source_Value : Nat → (Semtypebase_Source → Int → Option (Val × Semtypebase_Source)) × (Semtypebase_Source → Int → Option (Val × Semtypebase_Source)) × (Semtypebase_Source → Int → Int → Option (Ent × Semtypebase_Source))
  | 0 => (fun _ _ => none, fun _ _ => none, fun _ _ _ => none)
  | n + 1 => (semtypebase_Source_Value_B n ((scc_semtypebase_Source_Value n).1) ((scc_semtypebase_Source_Value n).2.1) ((scc_semtypebase_Source_Value n).2.2), semtypebase_Source_value_B n ((scc_semtypebase_Source_Value n).1) ((scc_semtypebase_Source_Value n).2.1) ((scc_semtypebase_Source_Value n).2.2), semtypebase_Source_entry_B n ((scc_semtypebase_Source_Value n).1) ((scc_semtypebase_Source_Value n).2.1) ((scc_semtypebase_Source_Value n).2.2))

def semtypebase_Source_Value (n : Nat) : Semtypebase_Source → Int → Option (Val × Semtypebase_Source) := (scc_semtypebase_Source_Value n).1

def semtypebase_Source_value (n : Nat) : Semtypebase_Source → Int → Option (Val × Semtypebase_Source) := (scc_semtypebase_Source_Value n).2.1

def semtypebase_Source_entry (n : Nat) : Semtypebase_Source → Int → Int → Option (Ent × Semtypebase_Source) := (scc_semtypebase_Source_Value n).2.2

def semtyperef1_upper (c : Int) : Option Bool :=
  Option.bind (bif decide (65 ≤ c)
  then (some (decide (c ≤ 90)))
  else (some false)) fun q1 =>
  some q1

def semtyperef1_IsVariable_l1 (s : ByteArray) (x5 : Int) : Option (Fl Int (Sum Unit Bool)) :=
  bif decide (x5 < (s.size : Int))
  then (Option.bind (sidx s x5) fun e6 =>
  Option.bind (semtyperef1_lower (e6.toNat : Int)) fun r7 =>
  Option.bind (bif !r7
  then (Option.bind (sidx s x5) fun e8 =>
  Option.bind (semtyperef1_upper (e8.toNat : Int)) fun r9 =>
  some (!r9))
  else (some false)) fun q10 =>
  Option.bind (bif q10
  then (Option.bind (sidx s x5) fun e11 =>
  Option.bind (semtyperef1_digit (e11.toNat : Int)) fun r12 =>
  some (!r12))
  else (some false)) fun q13 =>
  Option.bind (bif q13
  then (Option.bind (sidx s x5) fun e14 =>
  some ((e14.toNat : Int) != 95))
  else (some false)) fun q15 =>
  bif q15
  then (some (.done (.inr false)))
  else (some (.next (wr .i64 (x5 + 1)))))
  else (some (.done (.inl ())))

def semtyperef1_IsVariable (s : ByteArray) : Option Bool :=
  Option.bind (bif decide ((s.size : Int) < 1)
  then (some true)
  else (some (decide (16 < (s.size : Int))))) fun q1 =>
  Option.bind (bif q1
  then (some true)
  else (Option.bind (sidx s 0) fun e2 =>
  Option.bind (semtyperef1_upper (e2.toNat : Int)) fun r3 =>
  some (!r3))) fun q4 =>
  bif q4
  then (some false)
  else (Option.bind (iter (semtyperef1_IsVariable_l1 s) ((s.size : Int).toNat + 1) 1) fun b16 =>
  onEnd (fun _ =>
  some true) (fun y18 =>
  some y18) b16)

def semtyperef1_node_l1 (d : Val) (x1 : Int) : Option (Fl Int (Sum Unit Bool)) :=
  bif decide (x1 < (d.Labels.length : Int))
  then (Option.bind (idx d.Labels x1) fun e2 =>
  Option.bind (semtyperef1_IsVariable e2) fun r3 =>
  Option.bind (bif !r3
  then (some true)
  else (Option.bind (bif decide (0 < x1)
  then (Option.bind (idx d.Labels (wr .i64 (x1 - 1))) fun e4 =>
  Option.bind (idx d.Labels x1) fun e5 =>
  some (!(strLt e4 e5)))
  else (some false)) fun q6 =>
  some q6)) fun q7 =>
  bif q7
  then (some (.done (.inr false)))
  else (some (.next (wr .i64 (x1 + 1)))))
  else (some (.done (.inl ())))

def semtyperef1_node_l2 (d : Val) (x31 : Int) : Option (Fl Int (Sum Unit Bool)) :=
  bif decide (x31 < (d.Keys.length : Int))
  then (Option.bind (idx d.Keys x31) fun e32 =>
  Option.bind (semtyperef1_ValidKey e32) fun r33 =>
  Option.bind (bif !r33
  then (some true)
  else (Option.bind (bif decide (0 < x31)
  then (Option.bind (idx d.Keys (wr .i64 (x31 - 1))) fun e34 =>
  Option.bind (idx d.Keys x31) fun e35 =>
  Option.bind (semtyperef1_CompareKeys e34 e35) fun r36 =>
  some (decide (0 ≤ r36)))
  else (some false)) fun q37 =>
  some q37)) fun q38 =>
  bif q38
  then (some (.done (.inr false)))
  else (some (.next (wr .i64 (x31 + 1)))))
  else (some (.done (.inl ())))

def semtyperef1_node_l3 (d : Val) (n : Nat) (x43 : Int) : Option (Fl Int (Sum Unit Bool)) :=
  bif decide (x43 < (d.Entries.length : Int))
  then (Option.bind (idx d.Entries x43) fun e44 =>
  Option.bind (bif (e44.Args.length : Int) != d.Int_
  then (some true)
  else (Option.bind (bif e44.Fails
  then (Option.bind (semtyperef1_Equal n e44.Result (Val.mk 0 0 (⟨#[]⟩ : ByteArray) ([] : List Val) ([] : List Key) ([] : List Ent) ([] : List ByteArray))) fun r45 =>
  some (!r45))
  else (some false)) fun q46 =>
  some q46)) fun q47 =>
  Option.bind (bif q47
  then (some true)
  else (Option.bind (bif decide (0 < x43)
  then (Option.bind (idx d.Entries (wr .i64 (x43 - 1))) fun e48 =>
  Option.bind (semtyperef1_CompareEntries n e48 e44) fun r49 =>
  some (decide (0 ≤ r49)))
  else (some false)) fun q50 =>
  some q50)) fun q51 =>
  bif q51
  then (some (.done (.inr false)))
  else (some (.next (wr .i64 (x43 + 1)))))
  else (some (.done (.inl ())))

def semtyperef1_node (n : Nat) (d : Val) : Option Bool :=
  Option.bind (iter (semtyperef1_node_l1 d) ((d.Labels.length : Int).toNat + 1) 0) fun b8 =>
  onEnd (fun _ =>
  Option.bind (bif d.Kind == 1
  then (some true)
  else (some (d.Kind == 4))) fun q11 =>
  Option.bind (bif q11
  then (some true)
  else (some (d.Kind == 9))) fun q12 =>
  Option.bind (bif d.Kind == 2
  then (some true)
  else (some (d.Kind == 3))) fun q13 =>
  Option.bind (bif d.Kind == 6
  then (some true)
  else (some (d.Kind == 7))) fun q14 =>
  Option.bind (bif q14
  then (some true)
  else (some (d.Kind == 8))) fun q15 =>
  Option.bind (bif !q12
  then (some (d.Int_ != 0))
  else (some false)) fun q16 =>
  Option.bind (bif q16
  then (some true)
  else (Option.bind (bif !q13
  then (some (!(strEq d.Text (⟨#[]⟩ : ByteArray))))
  else (some false)) fun q17 =>
  some q17)) fun q18 =>
  Option.bind (bif q18
  then (some true)
  else (Option.bind (bif !q15
  then (some (decide (0 < (d.Kids.length : Int))))
  else (some false)) fun q19 =>
  some q19)) fun q20 =>
  Option.bind (bif q20
  then (some true)
  else (Option.bind (bif d.Kind != 8
  then (some (decide (0 < (d.Keys.length : Int))))
  else (some false)) fun q21 =>
  some q21)) fun q22 =>
  Option.bind (bif q22
  then (some true)
  else (Option.bind (bif d.Kind != 9
  then (some (decide (0 < (d.Entries.length : Int))))
  else (some false)) fun q23 =>
  some q23)) fun q24 =>
  bif q24
  then (some false)
  else (Option.bind (bif d.Kind == 1
  then (some (d.Kind == 1))
  else (some (d.Kind == 5))) fun b25 =>
  bif b25
  then (some true)
  else (bif d.Kind == 2
  then (some (decide ((d.Text.size : Int) ≤ 64)))
  else (bif d.Kind == 3
  then (Option.bind (semtyperef1_IsAtom d.Text) fun r26 =>
  some r26)
  else (bif d.Kind == 4
  then (some (decide (0 ≤ d.Int_)))
  else (bif d.Kind == 6
  then (some (decide ((d.Kids.length : Int) ≤ 4)))
  else (bif d.Kind == 7
  then (Option.bind (bif (d.Kids.length : Int) == 2
  then (Option.bind (idx d.Kids 1) fun e27 =>
  Option.bind (bif e27.Kind == 5
  then (some true)
  else (Option.bind (idx d.Kids 1) fun e28 =>
  some (e28.Kind == 7))) fun q29 =>
  some q29)
  else (some false)) fun q30 =>
  some q30)
  else (bif d.Kind == 8
  then (Option.bind (iter (semtyperef1_node_l2 d) ((d.Keys.length : Int).toNat + 1) 0) fun b39 =>
  onEnd (fun _ =>
  some ((d.Keys.length : Int) == (d.Kids.length : Int))) (fun y41 =>
  some y41) b39)
  else (bif d.Kind == 9
  then (Option.bind (bif decide (d.Int_ < 0)
  then (some true)
  else (some (decide (4 < d.Int_)))) fun q42 =>
  bif q42
  then (some false)
  else (Option.bind (iter (semtyperef1_node_l3 d n) ((d.Entries.length : Int).toNat + 1) 0) fun b52 =>
  onEnd (fun _ =>
  some true) (fun y54 =>
  some y54) b52))
  else (some false)))))))))) (fun y10 =>
  some y10) b8

def semtyperef1_Valid_l1 (v : Val) (rec_semtyperef1_Valid : Val → Option Bool) (x2 : Int) : Option (Fl Int (Sum Unit Bool)) :=
  bif decide (x2 < (v.Kids.length : Int))
  then (Option.bind (idx v.Kids x2) fun e3 =>
  Option.bind (rec_semtyperef1_Valid e3) fun r4 =>
  bif !r4
  then (some (.done (.inr false)))
  else (some (.next (wr .i64 (x2 + 1)))))
  else (some (.done (.inl ())))

def semtyperef1_Valid_l2 (rec_semtyperef1_Valid : Val → Option Bool) (e9 : Ent) (x10 : Int) : Option (Fl Int (Sum Unit Bool)) :=
  bif decide (x10 < (e9.Args.length : Int))
  then (Option.bind (idx e9.Args x10) fun e11 =>
  Option.bind (rec_semtyperef1_Valid e11) fun r12 =>
  bif !r12
  then (some (.done (.inr false)))
  else (some (.next (wr .i64 (x10 + 1)))))
  else (some (.done (.inl ())))

def semtyperef1_Valid_l3 (v : Val) (rec_semtyperef1_Valid : Val → Option Bool) (x8 : Int) : Option (Fl Int (Sum Unit Bool)) :=
  bif decide (x8 < (v.Entries.length : Int))
  then (Option.bind (idx v.Entries x8) fun e9 =>
  Option.bind (iter (semtyperef1_Valid_l2 rec_semtyperef1_Valid e9) ((e9.Args.length : Int).toNat + 1) 0) fun b13 =>
  onEnd (fun _ =>
  Option.bind (bif !e9.Fails
  then (Option.bind (rec_semtyperef1_Valid e9.Result) fun r16 =>
  some (!r16))
  else (some false)) fun q17 =>
  bif q17
  then (some (.done (.inr false)))
  else (some (.next (wr .i64 (x8 + 1))))) (fun y15 =>
  some (.done (.inr y15))) b13)
  else (some (.done (.inl ())))

def semtyperef1_Valid_B (n : Nat) (rec_semtyperef1_Valid : Val → Option Bool) (v : Val) : Option Bool :=
  Option.bind (semtyperef1_node n v) fun r1 =>
  bif !r1
  then (some false)
  else (Option.bind (iter (semtyperef1_Valid_l1 v rec_semtyperef1_Valid) ((v.Kids.length : Int).toNat + 1) 0) fun b5 =>
  onEnd (fun _ =>
  Option.bind (iter (semtyperef1_Valid_l3 v rec_semtyperef1_Valid) ((v.Entries.length : Int).toNat + 1) 0) fun b18 =>
  onEnd (fun _ =>
  some true) (fun y20 =>
  some y20) b18) (fun y7 =>
  some y7) b5)

def semtyperef1_Valid : Nat → Val → Option Bool
  | 0 => fun _ => none
  | n + 1 => semtyperef1_Valid_B n (semtyperef1_Valid n)

def semtypebase_Source_near_l1 (t : Api_Type) (a3_3 : Int) (e4 : Api_TypeNode) (rec_semtypebase_Source_Near : Semtypebase_Source → Api_Type → Int → Int → Option (Val × Semtypebase_Source)) (x21 : Int × Semtypebase_Source × (Int × Int × ByteArray × (List Val) × (List Key) × (List Ent) × (List ByteArray))) : Option (Fl (Int × Semtypebase_Source × (Int × Int × ByteArray × (List Val) × (List Key) × (List Ent) × (List ByteArray))) (Semtypebase_Source × (Int × Int × ByteArray × (List Val) × (List Key) × (List Ent) × (List ByteArray)))) :=
  bif decide (x21.1 < (e4.Kids.length : Int))
  then (Option.bind (idx e4.Kids x21.1) fun e22 =>
  Option.bind (rec_semtypebase_Source_Near x21.2.1 t e22 (wr .i64 (a3_3 - 1))) fun r23 =>
  Option.bind (room (x21.2.2.2.2.2.1.length + ([r23.1] : List Val).length) 128) fun _ =>
  some (.next (wr .i64 (x21.1 + 1), r23.2, (x21.2.2.1, x21.2.2.2.1, x21.2.2.2.2.1, x21.2.2.2.2.2.1 ++ ([r23.1] : List Val), x21.2.2.2.2.2.2.1, x21.2.2.2.2.2.2.2.1, x21.2.2.2.2.2.2.2.2))))
  else (some (.done (x21.2.1, (x21.2.2.1, x21.2.2.2.1, x21.2.2.2.2.1, x21.2.2.2.2.2.1, x21.2.2.2.2.2.2.1, x21.2.2.2.2.2.2.2.1, x21.2.2.2.2.2.2.2.2))))

def semtypebase_Source_near_l2 (t : Api_Type) (e4 : Api_TypeNode) (x40 : Int × Val) : Option (Fl (Int × Val) Val) :=
  bif decide (x40.1 < (e4.Kids.length : Int))
  then (Option.bind (Option.bind (idx e4.Kids x40.1) fun e41 =>
  Option.bind (idx t.Nodes e41) fun e42 =>
  bif e42.Kind == 19
  then (Option.bind (room (0 + x40.2.Labels.length) 16) fun _ =>
  Option.bind (idx e4.Kids x40.1) fun e44 =>
  Option.bind (idx t.Nodes e44) fun e45 =>
  Option.bind (room (x40.2.Labels.length + ([e45.Text] : List ByteArray).length) 16) fun _ =>
  Option.bind (semtyperef1_Sorted (x40.2.Labels ++ ([e45.Text] : List ByteArray))) fun r47 =>
  some (Val.mk x40.2.Kind x40.2.Int_ x40.2.Text x40.2.Kids x40.2.Keys x40.2.Entries r47))
  else (some x40.2)) fun b48 =>
  some (.next (wr .i64 (x40.1 + 1), b48)))
  else (some (.done x40.2))

def semtypebase_Source_nearFunction_l1 (t : Api_Type) (a2_2 : Api_TypeNode) (a3_3 : Int) (rec_semtypebase_Source_Near : Semtypebase_Source → Api_Type → Int → Int → Option (Val × Semtypebase_Source)) (x3 : Int × Semtypebase_Source × ((List Val) × Bool × Int × Int × ByteArray × (List Val) × (List Key) × (List Ent) × (List ByteArray))) : Option (Fl (Int × Semtypebase_Source × ((List Val) × Bool × Int × Int × ByteArray × (List Val) × (List Key) × (List Ent) × (List ByteArray))) (Semtypebase_Source × ((List Val) × Bool × Int × Int × ByteArray × (List Val) × (List Key) × (List Ent) × (List ByteArray)))) :=
  bif decide (x3.1 < (wr .i64 ((a2_2.Kids.length : Int) - 1)))
  then (Option.bind (idx a2_2.Kids x3.1) fun e4 =>
  Option.bind (rec_semtypebase_Source_Near x3.2.1 t e4 (wr .i64 (a3_3 - 1))) fun r5 =>
  Option.bind (room (x3.2.2.1.length + ([r5.1] : List Val).length) 128) fun _ =>
  some (.next (wr .i64 (x3.1 + 1), r5.2, (x3.2.2.1 ++ ([r5.1] : List Val), x3.2.2.2.1, x3.2.2.2.2.1, x3.2.2.2.2.2.1, x3.2.2.2.2.2.2.1, x3.2.2.2.2.2.2.2.1, x3.2.2.2.2.2.2.2.2.1, x3.2.2.2.2.2.2.2.2.2.1, x3.2.2.2.2.2.2.2.2.2.2))))
  else (some (.done (x3.2.1, (x3.2.2.1, x3.2.2.2.1, x3.2.2.2.2.1, x3.2.2.2.2.2.1, x3.2.2.2.2.2.2.1, x3.2.2.2.2.2.2.2.1, x3.2.2.2.2.2.2.2.2.1, x3.2.2.2.2.2.2.2.2.2.1, x3.2.2.2.2.2.2.2.2.2.2))))

def semtypebase_Source_nearFunction_l2 (t : Api_Type) (a2_2 : Api_TypeNode) (a3_3 : Int) (rec_semtypebase_Source_Near : Semtypebase_Source → Api_Type → Int → Int → Option (Val × Semtypebase_Source)) (x2 : (List Ent) × Int × Semtypebase_Source) : Option (Fl ((List Ent) × Int × Semtypebase_Source) ((List Ent) × Semtypebase_Source)) :=
  bif decide (0 < x2.2.1)
  then (Option.bind (iter (semtypebase_Source_nearFunction_l1 t a2_2 a3_3 rec_semtypebase_Source_Near) ((wr .i64 ((a2_2.Kids.length : Int) - 1)).toNat + 1) (0, x2.2.2, ([], false, 0, 0, (⟨#[]⟩ : ByteArray), [], [], [], []))) fun b7 =>
  Option.bind (semtypebase_Source_Next b7.1 6) fun r8 =>
  Option.bind (bif r8.1 == 1
  then (some (r8.2, (b7.2.1, true, b7.2.2.2.1, b7.2.2.2.2.1, b7.2.2.2.2.2.1, b7.2.2.2.2.2.2.1, b7.2.2.2.2.2.2.2.1, b7.2.2.2.2.2.2.2.2.1, b7.2.2.2.2.2.2.2.2.2)))
  else (Option.bind (idx a2_2.Kids (wr .i64 ((a2_2.Kids.length : Int) - 1))) fun e9 =>
  Option.bind (rec_semtypebase_Source_Near r8.2 t e9 (wr .i64 (a3_3 - 1))) fun r10 =>
  some (r10.2, (b7.2.1, b7.2.2.1, r10.1.Kind, r10.1.Int_, r10.1.Text, r10.1.Kids, r10.1.Keys, r10.1.Entries, r10.1.Labels)))) fun b11 =>
  Option.bind (room (x2.1.length + ([Ent.mk b11.2.1 b11.2.2.1 (Val.mk b11.2.2.2.1 b11.2.2.2.2.1 b11.2.2.2.2.2.1 b11.2.2.2.2.2.2.1 b11.2.2.2.2.2.2.2.1 b11.2.2.2.2.2.2.2.2.1 b11.2.2.2.2.2.2.2.2.2)] : List Ent).length) 160) fun _ =>
  some (.next (x2.1 ++ ([Ent.mk b11.2.1 b11.2.2.1 (Val.mk b11.2.2.2.1 b11.2.2.2.2.1 b11.2.2.2.2.2.1 b11.2.2.2.2.2.2.1 b11.2.2.2.2.2.2.2.1 b11.2.2.2.2.2.2.2.2.1 b11.2.2.2.2.2.2.2.2.2)] : List Ent), wr .i64 (x2.2.1 - 1), b11.1)))
  else (some (.done (x2.1, x2.2.2)))

def semtypebase_Source_nearMap_l1 (t : Api_Type) (a2_2 : Api_TypeNode) (a3_3 : Int) (rec_semtypebase_Source_Near : Semtypebase_Source → Api_Type → Int → Int → Option (Val × Semtypebase_Source)) (x1 : (List Key) × (List Val) × Int × Semtypebase_Source) : Option (Fl ((List Key) × (List Val) × Int × Semtypebase_Source) ((List Key) × (List Val) × Semtypebase_Source)) :=
  bif decide (x1.2.2.1 < (a2_2.Fields.length : Int))
  then (Option.bind (Option.bind (Option.bind (idx a2_2.Fields x1.2.2.1) fun e2 =>
  bif e2.Optional
  then (Option.bind (semtypebase_Source_Next x1.2.2.2 2) fun r3 =>
  some (r3.1 == 1, r3.2))
  else (some (false, x1.2.2.2))) fun b4 =>
  bif b4.1
  then (some (x1.1, x1.2.1, b4.2))
  else (Option.bind (idx a2_2.Fields x1.2.2.1) fun e5 =>
  Option.bind (room (x1.1.length + ([e5.Key_] : List Key).length) 24) fun _ =>
  Option.bind (idx a2_2.Fields x1.2.2.1) fun e7 =>
  Option.bind (rec_semtypebase_Source_Near b4.2 t e7.Node (wr .i64 (a3_3 - 1))) fun r8 =>
  Option.bind (room (x1.2.1.length + ([r8.1] : List Val).length) 128) fun _ =>
  some (x1.1 ++ ([e5.Key_] : List Key), x1.2.1 ++ ([r8.1] : List Val), r8.2))) fun b10 =>
  some (.next (b10.1, b10.2.1, wr .i64 (x1.2.2.1 + 1), b10.2.2)))
  else (some (.done (x1.1, x1.2.1, x1.2.2.2)))

def semtypebase_Source_Near_B (n : Nat) (_ : Semtypebase_Source → Api_Type → Int → Int → Option (Val × Semtypebase_Source)) (rec_semtypebase_Source_near : Semtypebase_Source → Api_Type → Int → Int → Option (Val × Semtypebase_Source)) (_ : Semtypebase_Source → Api_Type → Api_TypeNode → Int → Option (Val × Semtypebase_Source)) (_ : Semtypebase_Source → Api_Type → Api_TypeNode → Int → Option (Val × Semtypebase_Source)) (s : Semtypebase_Source) (t : Api_Type) (k : Int) (height : Int) : Option (Val × Semtypebase_Source) :=
  Option.bind (rec_semtypebase_Source_near s t k height) fun r1 =>
  Option.bind (semtyperef1_Valid n r1.1) fun r2 =>
  bif !r2
  then (Option.bind (semtypebase_Source_leaf r1.2) fun r3 =>
  some (r3.1, r3.2))
  else (some (r1.1, r1.2))

def semtypebase_Source_near_B (n : Nat) (rec_semtypebase_Source_Near : Semtypebase_Source → Api_Type → Int → Int → Option (Val × Semtypebase_Source)) (rec_semtypebase_Source_near : Semtypebase_Source → Api_Type → Int → Int → Option (Val × Semtypebase_Source)) (rec_semtypebase_Source_nearFunction : Semtypebase_Source → Api_Type → Api_TypeNode → Int → Option (Val × Semtypebase_Source)) (rec_semtypebase_Source_nearMap : Semtypebase_Source → Api_Type → Api_TypeNode → Int → Option (Val × Semtypebase_Source)) (d : Semtypebase_Source) (t : Api_Type) (a2_2 : Int) (a3_3 : Int) : Option (Val × Semtypebase_Source) :=
  Option.bind (bif decide (a3_3 ≤ 0)
  then (some true)
  else (some (decide (a2_2 < 0)))) fun q1 =>
  Option.bind (bif q1
  then (some true)
  else (some (decide ((t.Nodes.length : Int) ≤ a2_2)))) fun q2 =>
  bif q2
  then (Option.bind (semtypebase_Source_leaf d) fun r3 =>
  some (r3.1, r3.2))
  else (Option.bind (idx t.Nodes a2_2) fun e4 =>
  bif e4.Kind == 3
  then (Option.bind (qdivK .i64 e4.Hi 2) fun d5 =>
  Option.bind (qdivK .i64 e4.Lo 2) fun d6 =>
  Option.bind (semtypebase_Source_Next d 3) fun r7 =>
  Option.bind (idx ([e4.Lo, e4.Hi, wr .i64 (e4.Lo + (wr .i64 (d5 - d6)))] : List Int) r7.1) fun _ =>
  Option.bind (([e4.Lo, e4.Hi, wr .i64 (e4.Lo + (wr .i64 (d5 - d6)))] : List Int)[r7.1.toNat]?) fun e9 =>
  Option.bind (semtyperef1_Int e9) fun r10 =>
  some (r10, r7.2))
  else (bif e4.Kind == 4
  then (Option.bind (semtyperef1_String e4.Text) fun r11 =>
  some (r11, d))
  else (bif e4.Kind == 5
  then (Option.bind (semtypebase_Source_Word d) fun r12 =>
  Option.bind (semtyperef1_String r12.1) fun r13 =>
  some (r13, r12.2))
  else (bif e4.Kind == 6
  then (Option.bind (semtyperef1_Atom e4.Text) fun r14 =>
  some (r14, d))
  else (bif e4.Kind == 7
  then (Option.bind (semtypebase_Source_AtomName d) fun r15 =>
  Option.bind (semtyperef1_Atom r15.1) fun r16 =>
  some (r16, r15.2))
  else (bif e4.Kind == 8
  then (Option.bind (semtypebase_Source_Next d 2) fun r17 =>
  Option.bind (semtyperef1_Pid r17.1) fun r18 =>
  some (r18, r17.2))
  else (bif e4.Kind == 9
  then (Option.bind (semtyperef1_Nil) fun r19 =>
  some (r19, d))
  else (Option.bind (bif e4.Kind == 10
  then (some (e4.Kind == 10))
  else (some (e4.Kind == 12))) fun b20 =>
  bif b20
  then (Option.bind (iter (semtypebase_Source_near_l1 t a3_3 e4 rec_semtypebase_Source_Near) ((e4.Kids.length : Int).toNat + 1) (0, d, (0, 0, (⟨#[]⟩ : ByteArray), [], [], [], []))) fun b25 =>
  Option.bind (bif e4.Kind == 12
  then (Option.bind (idx b25.2.2.2.2.1 1) fun _ =>
  Option.bind (b25.2.2.2.2.1[(1 : Int).toNat]?) fun e27 =>
  bif e27.Kind != 7
  then (Option.bind (semtyperef1_Nil) fun r28 =>
  Option.bind (idx b25.2.2.2.2.1 1) fun _ =>
  Option.bind (b25.2.2.2.2.1[(1 : Int).toNat]?) fun _ =>
  some (7, b25.2.2.1, b25.2.2.2.1, b25.2.2.2.2.1.set ((1 : Int).toNat) r28, b25.2.2.2.2.2.1, b25.2.2.2.2.2.2.1, b25.2.2.2.2.2.2.2))
  else (some (7, b25.2.2.1, b25.2.2.2.1, b25.2.2.2.2.1, b25.2.2.2.2.2.1, b25.2.2.2.2.2.2.1, b25.2.2.2.2.2.2.2)))
  else (some (6, b25.2.2.1, b25.2.2.2.1, b25.2.2.2.2.1, b25.2.2.2.2.2.1, b25.2.2.2.2.2.2.1, b25.2.2.2.2.2.2.2))) fun b31 =>
  some (Val.mk b31.1 b31.2.1 b31.2.2.1 b31.2.2.2.1 b31.2.2.2.2.1 b31.2.2.2.2.2.1 b31.2.2.2.2.2.2, b25.1))
  else (bif e4.Kind == 13
  then (Option.bind (rec_semtypebase_Source_nearMap d t e4 a3_3) fun r32 =>
  some (r32.1, r32.2))
  else (bif e4.Kind == 14
  then (Option.bind (rec_semtypebase_Source_nearFunction d t e4 a3_3) fun r33 =>
  some (r33.1, r33.2))
  else (bif e4.Kind == 16
  then (Option.bind (semtypebase_Source_Next d (e4.Kids.length : Int)) fun r34 =>
  Option.bind (idx e4.Kids r34.1) fun e35 =>
  Option.bind (rec_semtypebase_Source_near r34.2 t e35 a3_3) fun r36 =>
  some (r36.1, r36.2))
  else (bif e4.Kind == 17
  then (Option.bind (semtypebase_Source_Next d (e4.Kids.length : Int)) fun r37 =>
  Option.bind (idx e4.Kids r37.1) fun e38 =>
  Option.bind (rec_semtypebase_Source_near r37.2 t e38 a3_3) fun r39 =>
  Option.bind (iter (semtypebase_Source_near_l2 t e4) ((e4.Kids.length : Int).toNat + 1) (0, r39.1)) fun b49 =>
  some (b49, r39.2))
  else (bif e4.Kind == 19
  then (Option.bind (semtypebase_Source_leaf d) fun r50 =>
  Option.bind (semtyperef1_WithLabels r50.1 ([e4.Text] : List ByteArray)) fun r51 =>
  some (r51, r50.2))
  else (Option.bind (semtypebase_Source_Value n d 2) fun r52 =>
  some (r52.1, r52.2)))))))))))))))

def semtypebase_Source_nearFunction_B (n : Nat) (rec_semtypebase_Source_Near : Semtypebase_Source → Api_Type → Int → Int → Option (Val × Semtypebase_Source)) (_ : Semtypebase_Source → Api_Type → Int → Int → Option (Val × Semtypebase_Source)) (_ : Semtypebase_Source → Api_Type → Api_TypeNode → Int → Option (Val × Semtypebase_Source)) (_ : Semtypebase_Source → Api_Type → Api_TypeNode → Int → Option (Val × Semtypebase_Source)) (d : Semtypebase_Source) (t : Api_Type) (a2_2 : Api_TypeNode) (a3_3 : Int) : Option (Val × Semtypebase_Source) :=
  Option.bind (semtypebase_Source_Next d 3) fun r1 =>
  Option.bind (iter (semtypebase_Source_nearFunction_l2 t a2_2 a3_3 rec_semtypebase_Source_Near) (r1.1.toNat + 2) ([], r1.1, r1.2)) fun b13 =>
  Option.bind (semtyperef1_Function n (wr .i64 ((a2_2.Kids.length : Int) - 1)) b13.1) fun r14 =>
  bif r14.2 != 0
  then (Option.bind (semtyperef1_Nil) fun r15 =>
  some (r15, b13.2))
  else (some (r14.1, b13.2))

def semtypebase_Source_nearMap_B (_ : Nat) (rec_semtypebase_Source_Near : Semtypebase_Source → Api_Type → Int → Int → Option (Val × Semtypebase_Source)) (_ : Semtypebase_Source → Api_Type → Int → Int → Option (Val × Semtypebase_Source)) (_ : Semtypebase_Source → Api_Type → Api_TypeNode → Int → Option (Val × Semtypebase_Source)) (_ : Semtypebase_Source → Api_Type → Api_TypeNode → Int → Option (Val × Semtypebase_Source)) (d : Semtypebase_Source) (t : Api_Type) (a2_2 : Api_TypeNode) (a3_3 : Int) : Option (Val × Semtypebase_Source) :=
  Option.bind (iter (semtypebase_Source_nearMap_l1 t a2_2 a3_3 rec_semtypebase_Source_Near) ((a2_2.Fields.length : Int).toNat + 1) ([], [], 0, d)) fun b11 =>
  Option.bind (semtypebase_Source_Next b11.2.2 2) fun r12 =>
  Option.bind (bif r12.1 == 1
  then (Option.bind (semtypebase_Source_Next r12.2 2) fun r13 =>
  Option.bind (room (b11.1.length + ([Key.mk r13.1 (⟨#[111, 116, 104, 101, 114]⟩ : ByteArray)] : List Key).length) 24) fun _ =>
  bif r13.1 == 0
  then (Option.bind (rec_semtypebase_Source_Near r13.2 t a2_2.Rest.1 (wr .i64 (a3_3 - 1))) fun r15 =>
  Option.bind (room (b11.2.1.length + ([r15.1] : List Val).length) 128) fun _ =>
  some (b11.1 ++ ([Key.mk r13.1 (⟨#[111, 116, 104, 101, 114]⟩ : ByteArray)] : List Key), b11.2.1 ++ ([r15.1] : List Val), r15.2))
  else (bif r13.1 == 1
  then (Option.bind (rec_semtypebase_Source_Near r13.2 t a2_2.Rest.2 (wr .i64 (a3_3 - 1))) fun r17 =>
  Option.bind (room (b11.2.1.length + ([r17.1] : List Val).length) 128) fun _ =>
  some (b11.1 ++ ([Key.mk r13.1 (⟨#[111, 116, 104, 101, 114]⟩ : ByteArray)] : List Key), b11.2.1 ++ ([r17.1] : List Val), r17.2))
  else (none)))
  else (some (b11.1, b11.2.1, r12.2))) fun b19 =>
  Option.bind (semtyperef1_Map b19.1 b19.2.1) fun r20 =>
  bif r20.2 != 0
  then (Option.bind (semtyperef1_Nil) fun r21 =>
  some (r21, b19.2.2))
  else (some (r20.1, b19.2.2))

def scc_semtypebase_Source_Near : Nat → (Semtypebase_Source → Api_Type → Int → Int → Option (Val × Semtypebase_Source)) × (Semtypebase_Source → Api_Type → Int → Int → Option (Val × Semtypebase_Source)) × (Semtypebase_Source → Api_Type → Api_TypeNode → Int → Option (Val × Semtypebase_Source)) × (Semtypebase_Source → Api_Type → Api_TypeNode → Int → Option (Val × Semtypebase_Source))
  | 0 => (fun _ _ _ _ => none, fun _ _ _ _ => none, fun _ _ _ _ => none, fun _ _ _ _ => none)
  | n + 1 => (semtypebase_Source_Near_B n ((scc_semtypebase_Source_Near n).1) ((scc_semtypebase_Source_Near n).2.1) ((scc_semtypebase_Source_Near n).2.2.1) ((scc_semtypebase_Source_Near n).2.2.2), semtypebase_Source_near_B n ((scc_semtypebase_Source_Near n).1) ((scc_semtypebase_Source_Near n).2.1) ((scc_semtypebase_Source_Near n).2.2.1) ((scc_semtypebase_Source_Near n).2.2.2), semtypebase_Source_nearFunction_B n ((scc_semtypebase_Source_Near n).1) ((scc_semtypebase_Source_Near n).2.1) ((scc_semtypebase_Source_Near n).2.2.1) ((scc_semtypebase_Source_Near n).2.2.2), semtypebase_Source_nearMap_B n ((scc_semtypebase_Source_Near n).1) ((scc_semtypebase_Source_Near n).2.1) ((scc_semtypebase_Source_Near n).2.2.1) ((scc_semtypebase_Source_Near n).2.2.2))

def semtypebase_Source_Near (n : Nat) : Semtypebase_Source → Api_Type → Int → Int → Option (Val × Semtypebase_Source) := (scc_semtypebase_Source_Near n).1

def semtypebase_Source_near (n : Nat) : Semtypebase_Source → Api_Type → Int → Int → Option (Val × Semtypebase_Source) := (scc_semtypebase_Source_Near n).2.1

def semtypebase_Source_nearFunction (n : Nat) : Semtypebase_Source → Api_Type → Api_TypeNode → Int → Option (Val × Semtypebase_Source) := (scc_semtypebase_Source_Near n).2.2.1

def semtypebase_Source_nearMap (n : Nat) : Semtypebase_Source → Api_Type → Api_TypeNode → Int → Option (Val × Semtypebase_Source) := (scc_semtypebase_Source_Near n).2.2.2

def semtypelaw12_made_l1 (r2 : ((List Api_TypeNode) × Int) × Semtypebase_Source) (r3 : Int × Semtypebase_Source) (x5 : Int × Semtypebase_Source × (Int × Int × Int × ByteArray × (List Int) × (List Api_Field) × Int × Int)) : Option (Fl (Int × Semtypebase_Source × (Int × Int × Int × ByteArray × (List Int) × (List Api_Field) × Int × Int)) (Semtypebase_Source × (Int × Int × Int × ByteArray × (List Int) × (List Api_Field) × Int × Int))) :=
  bif decide (x5.1 ≤ r3.1)
  then (Option.bind (semtypebase_Source_Next x5.2.1 (r2.1.1.length : Int)) fun r6 =>
  Option.bind (room (x5.2.2.2.2.2.2.1.length + ([r6.1] : List Int).length) 8) fun _ =>
  some (.next (wr .i64 (x5.1 + 1), r6.2, (x5.2.2.1, x5.2.2.2.1, x5.2.2.2.2.1, x5.2.2.2.2.2.1, x5.2.2.2.2.2.2.1 ++ ([r6.1] : List Int), x5.2.2.2.2.2.2.2.1, x5.2.2.2.2.2.2.2.2.1, x5.2.2.2.2.2.2.2.2.2))))
  else (some (.done (x5.2.1, (x5.2.2.1, x5.2.2.2.1, x5.2.2.2.2.1, x5.2.2.2.2.2.1, x5.2.2.2.2.2.2.1, x5.2.2.2.2.2.2.2.1, x5.2.2.2.2.2.2.2.2.1, x5.2.2.2.2.2.2.2.2.2))))

def semtypelaw12_made_l2 (r2 : ((List Api_TypeNode) × Int) × Semtypebase_Source) (r3 : Int × Semtypebase_Source) (x4 : Int × Semtypebase_Source × ((List Api_TypeNode) × Int)) : Option (Fl (Int × Semtypebase_Source × ((List Api_TypeNode) × Int)) (Semtypebase_Source × ((List Api_TypeNode) × Int))) :=
  bif decide (x4.1 < 3)
  then (Option.bind (iter (semtypelaw12_made_l1 r2 r3) (r3.1.toNat + 2) (0, x4.2.1, (14, 0, 0, (⟨#[]⟩ : ByteArray), [], [], 0, 0))) fun b8 =>
  Option.bind (room (x4.2.2.1.length + ([Api_TypeNode.mk b8.2.1 b8.2.2.1 b8.2.2.2.1 b8.2.2.2.2.1 b8.2.2.2.2.2.1 b8.2.2.2.2.2.2.1 (b8.2.2.2.2.2.2.2.1, b8.2.2.2.2.2.2.2.2)] : List Api_TypeNode).length) 104) fun _ =>
  some (.next (wr .i64 (x4.1 + 1), b8.1, (x4.2.2.1 ++ ([Api_TypeNode.mk b8.2.1 b8.2.2.1 b8.2.2.2.1 b8.2.2.2.2.1 b8.2.2.2.2.2.1 b8.2.2.2.2.2.2.1 (b8.2.2.2.2.2.2.2.1, b8.2.2.2.2.2.2.2.2)] : List Api_TypeNode), x4.2.2.2))))
  else (some (.done (x4.2.1, (x4.2.2.1, x4.2.2.2))))

def semtypelaw12_made_l3 (r2 : ((List Api_TypeNode) × Int) × Semtypebase_Source) (r3 : Int × Semtypebase_Source) (b10 : Semtypebase_Source × ((List Api_TypeNode) × Int)) (n : Nat) (x11 : Int × Semtypebase_Source × ((List Val) × Bool × Int × Int × ByteArray × (List Val) × (List Key) × (List Ent) × (List ByteArray))) : Option (Fl (Int × Semtypebase_Source × ((List Val) × Bool × Int × Int × ByteArray × (List Val) × (List Key) × (List Ent) × (List ByteArray))) (Semtypebase_Source × ((List Val) × Bool × Int × Int × ByteArray × (List Val) × (List Key) × (List Ent) × (List ByteArray)))) :=
  bif decide (x11.1 < r3.1)
  then (Option.bind (semtypebase_Source_Next x11.2.1 (r2.1.1.length : Int)) fun r12 =>
  Option.bind (semtypebase_Source_Near n r12.2 (Api_Type.mk b10.2.1 b10.2.2) r12.1 2) fun r13 =>
  Option.bind (room (x11.2.2.1.length + ([r13.1] : List Val).length) 128) fun _ =>
  some (.next (wr .i64 (x11.1 + 1), r13.2, (x11.2.2.1 ++ ([r13.1] : List Val), x11.2.2.2.1, x11.2.2.2.2.1, x11.2.2.2.2.2.1, x11.2.2.2.2.2.2.1, x11.2.2.2.2.2.2.2.1, x11.2.2.2.2.2.2.2.2.1, x11.2.2.2.2.2.2.2.2.2.1, x11.2.2.2.2.2.2.2.2.2.2))))
  else (some (.done (x11.2.1, (x11.2.2.1, x11.2.2.2.1, x11.2.2.2.2.1, x11.2.2.2.2.2.1, x11.2.2.2.2.2.2.1, x11.2.2.2.2.2.2.2.1, x11.2.2.2.2.2.2.2.2.1, x11.2.2.2.2.2.2.2.2.2.1, x11.2.2.2.2.2.2.2.2.2.2))))

def semtypelaw12_made (n : Nat) (d : List Int) (t : List Int) : Option (Api_Type × Int × Ent) :=
  Option.bind (semtypebase_Source_Next (Semtypebase_Source.mk d 0) 4) fun r1 =>
  Option.bind (semtypebase_Source_Type r1.2 (wr .i64 (1 + r1.1))) fun r2 =>
  Option.bind (semtypebase_Source_Next r2.2 3) fun r3 =>
  Option.bind (iter (semtypelaw12_made_l2 r2 r3) ((3 : Int).toNat + 1) (0, r3.2, (r2.1.1, r2.1.2))) fun b10 =>
  Option.bind (iter (semtypelaw12_made_l3 r2 r3 b10 n) (r3.1.toNat + 1) (0, Semtypebase_Source.mk t 0, ([], false, 0, 0, (⟨#[]⟩ : ByteArray), [], [], [], []))) fun b15 =>
  Option.bind (semtypebase_Source_Next b15.1 3) fun r16 =>
  Option.bind (bif r16.1 == 1
  then (some (r16.2, (b15.2.1, true, b15.2.2.2.1, b15.2.2.2.2.1, b15.2.2.2.2.2.1, b15.2.2.2.2.2.2.1, b15.2.2.2.2.2.2.2.1, b15.2.2.2.2.2.2.2.2.1, b15.2.2.2.2.2.2.2.2.2)))
  else (Option.bind (semtypebase_Source_Next r16.2 (r2.1.1.length : Int)) fun r17 =>
  Option.bind (semtypebase_Source_Near n r17.2 (Api_Type.mk b10.2.1 b10.2.2) r17.1 2) fun r18 =>
  some (r18.2, (b15.2.1, b15.2.2.1, r18.1.Kind, r18.1.Int_, r18.1.Text, r18.1.Kids, r18.1.Keys, r18.1.Entries, r18.1.Labels)))) fun b19 =>
  some (Api_Type.mk b10.2.1 b10.2.2, (r2.1.1.length : Int), Ent.mk b19.2.1 b19.2.2.1 (Val.mk b19.2.2.2.1 b19.2.2.2.2.1 b19.2.2.2.2.2.1 b19.2.2.2.2.2.2.1 b19.2.2.2.2.2.2.2.1 b19.2.2.2.2.2.2.2.2.1 b19.2.2.2.2.2.2.2.2.2))

def value_cloneAll_l1 (l : List Val) (rec_value_clone : Val → Option Val) (x1 : (List Val) × Int) : Option (Fl ((List Val) × Int) (List Val)) :=
  bif decide (x1.2 < (l.length : Int))
  then (Option.bind (idx l x1.2) fun e2 =>
  Option.bind (rec_value_clone e2) fun r3 =>
  Option.bind (room (x1.1.length + ([r3] : List Val).length) 128) fun _ =>
  some (.next (x1.1 ++ ([r3] : List Val), wr .i64 (x1.2 + 1))))
  else (some (.done x1.1))

def value_cloneEntries_l1 (l : List Ent) (rec_value_cloneAll : (List Val) → Option (List Val)) (rec_value_clone : Val → Option Val) (x1 : (List Ent) × Int) : Option (Fl ((List Ent) × Int) (List Ent)) :=
  bif decide (x1.2 < (l.length : Int))
  then (Option.bind (idx l x1.2) fun _ =>
  Option.bind (l[x1.2.toNat]?) fun e3 =>
  Option.bind (rec_value_cloneAll e3.Args) fun r4 =>
  Option.bind (rec_value_clone e3.Result) fun r5 =>
  Option.bind (room (x1.1.length + ([Ent.mk r4 e3.Fails r5] : List Ent).length) 160) fun _ =>
  some (.next (x1.1 ++ ([Ent.mk r4 e3.Fails r5] : List Ent), wr .i64 (x1.2 + 1))))
  else (some (.done x1.1))

def value_clone_B (_ : Nat) (_ : Val → Option Val) (rec_value_cloneAll : (List Val) → Option (List Val)) (rec_value_cloneEntries : (List Ent) → Option (List Ent)) (v : Val) : Option Val :=
  Option.bind (rec_value_cloneAll v.Kids) fun r1 =>
  Option.bind (cloneF 24 v.Keys) fun r2 =>
  Option.bind (cloneF 16 v.Labels) fun r3 =>
  Option.bind (rec_value_cloneEntries v.Entries) fun r4 =>
  some (Val.mk v.Kind v.Int_ v.Text r1 r2 r4 r3)

def value_cloneAll_B (_ : Nat) (rec_value_clone : Val → Option Val) (_ : (List Val) → Option (List Val)) (_ : (List Ent) → Option (List Ent)) (l : List Val) : Option (List Val) :=
  Option.bind (iter (value_cloneAll_l1 l rec_value_clone) ((l.length : Int).toNat + 1) ([], 0)) fun b5 =>
  some b5

def value_cloneEntries_B (_ : Nat) (rec_value_clone : Val → Option Val) (rec_value_cloneAll : (List Val) → Option (List Val)) (_ : (List Ent) → Option (List Ent)) (l : List Ent) : Option (List Ent) :=
  Option.bind (iter (value_cloneEntries_l1 l rec_value_cloneAll rec_value_clone) ((l.length : Int).toNat + 1) ([], 0)) fun b7 =>
  some b7

def scc_value_clone : Nat → (Val → Option Val) × ((List Val) → Option (List Val)) × ((List Ent) → Option (List Ent))
  | 0 => (fun _ => none, fun _ => none, fun _ => none)
  | n + 1 => (value_clone_B n ((scc_value_clone n).1) ((scc_value_clone n).2.1) ((scc_value_clone n).2.2), value_cloneAll_B n ((scc_value_clone n).1) ((scc_value_clone n).2.1) ((scc_value_clone n).2.2), value_cloneEntries_B n ((scc_value_clone n).1) ((scc_value_clone n).2.1) ((scc_value_clone n).2.2))

def value_clone (n : Nat) : Val → Option Val := (scc_value_clone n).1

def value_cloneAll (n : Nat) : (List Val) → Option (List Val) := (scc_value_clone n).2.1

def value_cloneEntries (n : Nat) : (List Ent) → Option (List Ent) := (scc_value_clone n).2.2

def slices_CompactFunc_api_Entry_api_Entry_l1 (t : Ent → Ent → Option Bool) (x1 : (List Ent) × Int) (x18 : (Int × Int) × List Ent) : Option (Fl ((Int × Int) × List Ent) (Int × List Ent)) :=
  bif decide (x18.1.2 < ((x18.2.drop x1.2.toNat).length : Int))
  then (Option.bind (idx (x18.2.drop x1.2.toNat) x18.1.2) fun _ =>
  Option.bind (x18.2[(x1.2.toNat + x18.1.2.toNat)]?) fun e20 =>
  Option.bind (idx (x18.2.drop x1.2.toNat) (wr .i64 (x18.1.2 - 1))) fun _ =>
  Option.bind (x18.2[(x1.2.toNat + (wr .i64 (x18.1.2 - 1)).toNat)]?) fun e22 =>
  Option.bind (t e20 e22) fun r23 =>
  bif !r23
  then (Option.bind (idx (x18.2.drop x1.2.toNat) x18.1.2) fun _ =>
  Option.bind (x18.2[(x1.2.toNat + x18.1.2.toNat)]?) fun e25 =>
  Option.bind (idx x18.2 x18.1.1) fun _ =>
  Option.bind (x18.2[x18.1.1.toNat]?) fun _ =>
  some (.next ((wr .i64 (x18.1.1 + 1), wr .i64 (x18.1.2 + 1)), x18.2.set x18.1.1.toNat e25)))
  else (some (.next ((x18.1.1, wr .i64 (x18.1.2 + 1)), x18.2))))
  else (some (.done (x18.1.1, x18.2)))

def slices_CompactFunc_api_Entry_api_Entry_l2 (t : Ent → Ent → Option Bool) (x1 : (List Ent) × Int) : Option (Fl ((List Ent) × Int) (Sum (List Ent) ((List Ent) × (List Ent)))) :=
  bif decide (x1.2 < (x1.1.length : Int))
  then (Option.bind (idx x1.1 x1.2) fun _ =>
  Option.bind (x1.1[x1.2.toNat]?) fun e3 =>
  Option.bind (idx x1.1 (wr .i64 (x1.2 - 1))) fun _ =>
  Option.bind (x1.1[(wr .i64 (x1.2 - 1)).toNat]?) fun e5 =>
  Option.bind (t e3 e5) fun r6 =>
  bif r6
  then (Option.bind (idx x1.1 x1.2) fun _ =>
  Option.bind (iter (slices_CompactFunc_api_Entry_api_Entry_l1 t x1) (((x1.1.drop x1.2.toNat).length : Int).toNat + 1) ((x1.2, 1), x1.1)) fun b28 =>
  Option.bind (idx b28.2 b28.1) fun _ =>
  bif Nat.blt b28.1.toNat b28.2.length
  then (Option.bind (cut (b28.2.take b28.1.toNat ++ List.replicate (b28.2.length - b28.1.toNat) (Ent.mk ([]) false (Val.mk 0 0 (⟨#[]⟩ : ByteArray) ([]) ([]) ([]) ([])) : Ent)) 0 b28.1) fun y30 =>
  some (.done (.inr (b28.2.take b28.1.toNat ++ List.replicate (b28.2.length - b28.1.toNat) (Ent.mk ([]) false (Val.mk 0 0 (⟨#[]⟩ : ByteArray) ([]) ([]) ([]) ([])) : Ent), y30))))
  else (none))
  else (some (.next (x1.1, wr .i64 (x1.2 + 1)))))
  else (some (.done (.inl x1.1)))

def slices_CompactFunc_api_Entry_api_Entry (d : List Ent) (t : Ent → Ent → Option Bool) : Option (List Ent) :=
  bif decide ((d.length : Int) < 2)
  then (some d)
  else (Option.bind (iter (slices_CompactFunc_api_Entry_api_Entry_l2 t) ((d.length : Int).toNat + 1) (d, 1)) fun b31 =>
  onEnd (fun x32 =>
  some x32) (fun y33 =>
  some y33.2) b31)

def value_sortEntries_1 (n : Nat) (a : Ent) (b : Ent) : Option Bool :=
  Option.bind (value_compareEntries n a b) fun r1 =>
  some (r1 == 0)

def slices_Clip_api_Entry_api_Entry (s : List Ent) : Option (List Ent) :=
  bif (s.length : Int) == (s.length : Int) && (s.length : Int) == (s.length : Int)
  then (some s)
  else (none)

noncomputable def value_sortEntries (n : Nat) (l : List Ent) : Option (List Ent) :=
  Option.bind (value_cloneEntries n l) fun r1 =>
  Option.bind (sortR r1 (fun z2 z3 =>
  Option.bind (value_compareEntries n z2 z3) fun r4 =>
  some r4)) fun r5 =>
  Option.bind (slices_CompactFunc_api_Entry_api_Entry r5.2 (fun z6 z7 =>
  Option.bind (value_sortEntries_1 n z6 z7) fun r8 =>
  some r8)) fun r9 =>
  Option.bind (slices_Clip_api_Entry_api_Entry r9) fun r10 =>
  some r10

noncomputable def value_Function_l1 (arity : Int) (l : List Ent) (n : Nat) (x2 : Int × (Int × Int × ByteArray × (List Val) × (List Key) × (List Ent) × (List ByteArray))) : Option (Fl (Int × (Int × Int × ByteArray × (List Val) × (List Key) × (List Ent) × (List ByteArray))) (Sum (Int × Int × ByteArray × (List Val) × (List Key) × (List Ent) × (List ByteArray)) (Int × (Int × Int × ByteArray × (List Val) × (List Key) × (List Ent) × (List ByteArray))))) :=
  bif decide (x2.1 < (l.length : Int))
  then (Option.bind (idx l x2.1) fun _ =>
  Option.bind (l[x2.1.toNat]?) fun e4 =>
  Option.bind (value_validEntry n e4 arity) fun r5 =>
  bif !r5
  then (some (.done (.inr (1, (0, 0, (⟨#[]⟩ : ByteArray), [], [], [], [])))))
  else (some (.next (wr .i64 (x2.1 + 1), (x2.2.1, x2.2.2.1, x2.2.2.2.1, x2.2.2.2.2.1, x2.2.2.2.2.2.1, x2.2.2.2.2.2.2.1, x2.2.2.2.2.2.2.2)))))
  else (some (.done (.inl (x2.2.1, x2.2.2.1, x2.2.2.2.1, x2.2.2.2.2.1, x2.2.2.2.2.2.1, x2.2.2.2.2.2.2.1, x2.2.2.2.2.2.2.2))))

noncomputable def value_Function (n : Nat) (arity : Int) (l : List Ent) : Option (Val × Int) :=
  Option.bind (bif decide (arity < 0)
  then (some true)
  else (some (decide (4 < arity)))) fun q1 =>
  bif q1
  then (some (Val.mk 0 0 (⟨#[]⟩ : ByteArray) ([] : List Val) ([] : List Key) ([] : List Ent) ([] : List ByteArray), 1))
  else (Option.bind (iter (value_Function_l1 arity l n) ((l.length : Int).toNat + 1) (0, (0, 0, (⟨#[]⟩ : ByteArray), [], [], [], []))) fun (b6 : Sum (Int × Int × ByteArray × (List Val) × (List Key) × (List Ent) × (List ByteArray)) (Int × (Int × Int × ByteArray × (List Val) × (List Key) × (List Ent) × (List ByteArray)))) =>
  onEnd (fun _ =>
  Option.bind (value_sortEntries n l) fun r9 =>
  some (Val.mk 9 arity (⟨#[]⟩ : ByteArray) ([] : List Val) ([] : List Key) r9 ([] : List ByteArray), 0)) (fun y8 =>
  some (Val.mk y8.2.1 y8.2.2.1 y8.2.2.2.1 y8.2.2.2.2.1 y8.2.2.2.2.2.1 y8.2.2.2.2.2.2.1 y8.2.2.2.2.2.2.2, y8.1)) b6)

noncomputable def arrow_Merge_l1 (l : List Val) (n : Nat) (x1 : (List Ent) × Int × (Int × Int × ByteArray × (List Val) × (List Key) × (List Ent) × (List ByteArray))) : Option (Fl ((List Ent) × Int × (Int × Int × ByteArray × (List Val) × (List Key) × (List Ent) × (List ByteArray))) (Sum ((List Ent) × (Int × Int × ByteArray × (List Val) × (List Key) × (List Ent) × (List ByteArray))) (Int × (Int × Int × ByteArray × (List Val) × (List Key) × (List Ent) × (List ByteArray))))) :=
  bif decide (x1.2.1 < (l.length : Int))
  then (Option.bind (idx l x1.2.1) fun e2 =>
  Option.bind (bif e2.Kind != 9
  then (some true)
  else (Option.bind (idx l 0) fun e3 =>
  some (e2.Int_ != e3.Int_))) fun q4 =>
  Option.bind (bif q4
  then (some true)
  else (Option.bind (value_Validate n e2) fun r5 =>
  some (r5 != 0))) fun q6 =>
  bif q6
  then (some (.done (.inr (1, (0, 0, (⟨#[]⟩ : ByteArray), [], [], [], [])))))
  else (Option.bind (room (x1.1.length + e2.Entries.length) 160) fun _ =>
  some (.next (x1.1 ++ e2.Entries, wr .i64 (x1.2.1 + 1), (x1.2.2.1, x1.2.2.2.1, x1.2.2.2.2.1, x1.2.2.2.2.2.1, x1.2.2.2.2.2.2.1, x1.2.2.2.2.2.2.2.1, x1.2.2.2.2.2.2.2.2)))))
  else (some (.done (.inl (x1.1, (x1.2.2.1, x1.2.2.2.1, x1.2.2.2.2.1, x1.2.2.2.2.2.1, x1.2.2.2.2.2.2.1, x1.2.2.2.2.2.2.2.1, x1.2.2.2.2.2.2.2.2)))))

noncomputable def arrow_Merge (n : Nat) (l : List Val) : Option (Val × Int) :=
  bif (l.length : Int) == 0
  then (some (Val.mk 0 0 (⟨#[]⟩ : ByteArray) ([] : List Val) ([] : List Key) ([] : List Ent) ([] : List ByteArray), 1))
  else (Option.bind (iter (arrow_Merge_l1 l n) ((l.length : Int).toNat + 1) ([], 0, (0, 0, (⟨#[]⟩ : ByteArray), [], [], [], []))) fun (b8 : Sum ((List Ent) × (Int × Int × ByteArray × (List Val) × (List Key) × (List Ent) × (List ByteArray))) (Int × (Int × Int × ByteArray × (List Val) × (List Key) × (List Ent) × (List ByteArray)))) =>
  onEnd (fun x9 =>
  Option.bind (idx l 0) fun e11 =>
  Option.bind (value_Function n e11.Int_ x9.1) fun r12 =>
  some (r12.1, r12.2)) (fun y10 =>
  some (Val.mk y10.2.1 y10.2.2.1 y10.2.2.2.1 y10.2.2.2.2.1 y10.2.2.2.2.2.1 y10.2.2.2.2.2.2.1 y10.2.2.2.2.2.2.2, y10.1)) b8)

def semtyperef7_index (t : Api_Type) (k : Int) : Option Bool :=
  Option.bind (bif decide (0 ≤ k)
  then (some (decide (k < (t.Nodes.length : Int))))
  else (some false)) fun q1 =>
  some q1

def semtyperef7_node_l1 (d : Api_Type) (t : Api_TypeNode) (x1 : Int) : Option (Fl Int (Sum Unit Bool)) :=
  bif decide (x1 < (t.Kids.length : Int))
  then (Option.bind (idx t.Kids x1) fun e2 =>
  Option.bind (semtyperef7_index d e2) fun r3 =>
  bif !r3
  then (some (.done (.inr false)))
  else (some (.next (wr .i64 (x1 + 1)))))
  else (some (.done (.inl ())))

def semtyperef7_node_l2 (d : Api_Type) (t : Api_TypeNode) (x24 : Int) : Option (Fl Int (Sum Unit Bool)) :=
  bif decide (x24 < (t.Fields.length : Int))
  then (Option.bind (idx t.Fields x24) fun e25 =>
  Option.bind (semtyperef7_index d e25.Node) fun r26 =>
  Option.bind (bif !r26
  then (some true)
  else (Option.bind (semtyperef1_ValidKey e25.Key_) fun r27 =>
  some (!r27))) fun q28 =>
  Option.bind (bif q28
  then (some true)
  else (Option.bind (bif decide (0 < x24)
  then (Option.bind (idx t.Fields (wr .i64 (x24 - 1))) fun e29 =>
  Option.bind (semtyperef1_CompareKeys e29.Key_ e25.Key_) fun r30 =>
  some (decide (0 ≤ r30)))
  else (some false)) fun q31 =>
  some q31)) fun q32 =>
  bif q32
  then (some (.done (.inr false)))
  else (some (.next (wr .i64 (x24 + 1)))))
  else (some (.done (.inl ())))

def semtyperef7_node (d : Api_Type) (t : Api_TypeNode) : Option Bool :=
  Option.bind (iter (semtyperef7_node_l1 d t) ((t.Kids.length : Int).toNat + 1) 0) fun b4 =>
  onEnd (fun _ =>
  Option.bind (bif t.Kind == 4
  then (some true)
  else (some (t.Kind == 6))) fun q7 =>
  Option.bind (bif q7
  then (some true)
  else (some (t.Kind == 19))) fun q8 =>
  Option.bind (bif !(t.Kind == 3)
  then (Option.bind (bif t.Lo != 0
  then (some true)
  else (some (t.Hi != 0))) fun q9 =>
  some q9)
  else (some false)) fun q10 =>
  Option.bind (bif q10
  then (some true)
  else (Option.bind (bif !q8
  then (some (!(strEq t.Text (⟨#[]⟩ : ByteArray))))
  else (some false)) fun q11 =>
  some q11)) fun q12 =>
  bif q12
  then (some false)
  else (Option.bind (bif t.Kind != 13
  then (Option.bind (bif decide (0 < (t.Fields.length : Int))
  then (some true)
  else (some (!(eqD_70 t.Rest (0, 0))))) fun q13 =>
  some q13)
  else (some false)) fun q14 =>
  bif q14
  then (some false)
  else (bif t.Kind == 3
  then (Option.bind (bif (t.Kids.length : Int) == 0
  then (some (decide (t.Lo ≤ t.Hi)))
  else (some false)) fun q15 =>
  some q15)
  else (bif t.Kind == 4
  then (Option.bind (bif (t.Kids.length : Int) == 0
  then (some (decide ((t.Text.size : Int) ≤ 64)))
  else (some false)) fun q16 =>
  some q16)
  else (bif t.Kind == 6
  then (Option.bind (bif (t.Kids.length : Int) == 0
  then (Option.bind (semtyperef1_IsAtom t.Text) fun r17 =>
  some r17)
  else (some false)) fun q18 =>
  some q18)
  else (bif t.Kind == 19
  then (Option.bind (bif (t.Kids.length : Int) == 0
  then (Option.bind (semtyperef1_IsVariable t.Text) fun r19 =>
  some r19)
  else (some false)) fun q20 =>
  some q20)
  else (Option.bind (bif t.Kind == 1
  then (some (t.Kind == 1))
  else (bif t.Kind == 2
  then (some (t.Kind == 2))
  else (bif t.Kind == 5
  then (some (t.Kind == 5))
  else (bif t.Kind == 7
  then (some (t.Kind == 7))
  else (bif t.Kind == 8
  then (some (t.Kind == 8))
  else (bif t.Kind == 9
  then (some (t.Kind == 9))
  else (bif t.Kind == 11
  then (some (t.Kind == 11))
  else (some (t.Kind == 15))))))))) fun b21 =>
  bif b21
  then (some ((t.Kids.length : Int) == 0))
  else (bif t.Kind == 10
  then (some (decide ((t.Kids.length : Int) ≤ 4)))
  else (bif t.Kind == 12
  then (some ((t.Kids.length : Int) == 2))
  else (bif t.Kind == 14
  then (Option.bind (bif decide (1 ≤ (t.Kids.length : Int))
  then (some (decide ((t.Kids.length : Int) ≤ 5)))
  else (some false)) fun q22 =>
  some q22)
  else (Option.bind (bif t.Kind == 16
  then (some (t.Kind == 16))
  else (some (t.Kind == 17))) fun b23 =>
  bif b23
  then (some (decide (1 ≤ (t.Kids.length : Int))))
  else (bif t.Kind == 18
  then (some ((t.Kids.length : Int) == 1))
  else (bif t.Kind == 13
  then (Option.bind (iter (semtyperef7_node_l2 d t) ((t.Fields.length : Int).toNat + 1) 0) fun b33 =>
  onEnd (fun _ =>
  Option.bind (bif (t.Kids.length : Int) == 0
  then (Option.bind (semtyperef7_index d t.Rest.1) fun r36 =>
  some r36)
  else (some false)) fun q37 =>
  Option.bind (bif q37
  then (Option.bind (semtyperef7_index d t.Rest.2) fun r38 =>
  some r38)
  else (some false)) fun q39 =>
  some q39) (fun y35 =>
  some y35) b33)
  else (some false)))))))))))))) (fun y6 =>
  some y6) b4

def semtyperef7_boolean (n_0 : Api_TypeNode) : Option Bool :=
  Option.bind (bif n_0.Kind == 16
  then (some true)
  else (some (n_0.Kind == 17))) fun q1 =>
  Option.bind (bif q1
  then (some true)
  else (some (n_0.Kind == 18))) fun q2 =>
  some q2

def semtyperef7_WellFormed_l1 (d : Api_Type) (x2 : Int) : Option (Fl Int (Sum Unit Int)) :=
  bif decide (x2 < (d.Nodes.length : Int))
  then (Option.bind (idx d.Nodes x2) fun e3 =>
  Option.bind (semtyperef7_node d e3) fun r4 =>
  bif !r4
  then (some (.done (.inr 1)))
  else (some (.next (wr .i64 (x2 + 1)))))
  else (some (.done (.inl ())))

def semtyperef7_WellFormed_l2 (d : Api_Type) (x10 : (List Bool) × Int) (x11 : (List Bool) × Bool × Int) : Option (Fl ((List Bool) × Bool × Int) ((List Bool) × Bool)) :=
  Option.bind (idx d.Nodes x10.2) fun e12 =>
  Option.bind (semtyperef7_boolean e12) fun r13 =>
  Option.bind (bif r13
  then (Option.bind (idx d.Nodes x10.2) fun e14 =>
  some (decide (x11.2.2 < (e14.Kids.length : Int))))
  else (some false)) fun q15 =>
  bif q15
  then (Option.bind (bif x11.2.1
  then (Option.bind (idx d.Nodes x10.2) fun e16 =>
  Option.bind (idx e16.Kids x11.2.2) fun e17 =>
  Option.bind (idx x11.1 e17) fun _ =>
  Option.bind (x11.1[e17.toNat]?) fun e19 =>
  some e19)
  else (some false)) fun q20 =>
  some (.next (x11.1, q20, wr .i64 (x11.2.2 + 1))))
  else (some (.done (x11.1, x11.2.1)))

def semtyperef7_WellFormed_l3 (d : Api_Type) (n : Nat) (x10 : (List Bool) × Int) : Option (Fl ((List Bool) × Int) (List Bool)) :=
  bif decide (x10.2 < (d.Nodes.length : Int))
  then (Option.bind (iter (semtyperef7_WellFormed_l2 d x10) n (x10.1, true, 0)) fun b21 =>
  Option.bind (idx b21.1 x10.2) fun _ =>
  Option.bind (b21.1[x10.2.toNat]?) fun e23 =>
  Option.bind (bif e23
  then (some true)
  else (some b21.2)) fun q24 =>
  Option.bind (idx b21.1 x10.2) fun _ =>
  Option.bind (b21.1[x10.2.toNat]?) fun _ =>
  some (.next (b21.1.set x10.2.toNat q24, wr .i64 (x10.2 + 1))))
  else (some (.done x10.1))

def semtyperef7_WellFormed_l4 (d : Api_Type) (n : Nat) (x9 : (List Bool) × Int) : Option (Fl ((List Bool) × Int) (List Bool)) :=
  bif decide (x9.2 < (d.Nodes.length : Int))
  then (Option.bind (iter (semtyperef7_WellFormed_l3 d n) ((d.Nodes.length : Int).toNat + 1) (x9.1, 0)) fun b27 =>
  some (.next (b27, wr .i64 (x9.2 + 1))))
  else (some (.done x9.1))

def semtyperef7_WellFormed_l5  (x29 : (List Bool) × Int) : Option (Fl ((List Bool) × Int) (Sum (List Bool) (Int × (List Bool)))) :=
  bif decide (x29.2 < (x29.1.length : Int))
  then (Option.bind (idx x29.1 x29.2) fun _ =>
  Option.bind (x29.1[x29.2.toNat]?) fun e31 =>
  bif !e31
  then (some (.done (.inr (3, x29.1))))
  else (some (.next (x29.1, wr .i64 (x29.2 + 1)))))
  else (some (.done (.inl x29.1)))

def semtyperef7_WellFormed (n : Nat) (d : Api_Type) : Option Int :=
  Option.bind (semtyperef7_index d d.Root) fun r1 =>
  bif !r1
  then (some 1)
  else (Option.bind (iter (semtyperef7_WellFormed_l1 d) ((d.Nodes.length : Int).toNat + 1) 0) fun b5 =>
  onEnd (fun _ =>
  Option.bind (mkRoom (d.Nodes.length : Int) (d.Nodes.length : Int) 1) fun m8 =>
  Option.bind (iter (semtyperef7_WellFormed_l4 d n) ((d.Nodes.length : Int).toNat + 1) (List.replicate m8 (false : Bool), 0)) fun b28 =>
  Option.bind (iter semtyperef7_WellFormed_l5 ((b28.length : Int).toNat + 1) (b28, 0)) fun b32 =>
  onEnd (fun _ =>
  some 0) (fun y34 =>
  some y34.1) b32) (fun y7 =>
  some y7) b5)

def semtyperef7_key_l1 (v : Val) (k : Key) (x1 : Int) : Option (Fl Int (Sum Unit Int)) :=
  bif decide (x1 < (v.Keys.length : Int))
  then (Option.bind (idx v.Keys x1) fun e2 =>
  bif eqD_114 e2 k
  then (some (.done (.inr x1)))
  else (some (.next (wr .i64 (x1 + 1)))))
  else (some (.done (.inl ())))

def semtyperef7_key (v : Val) (k : Key) : Option Int :=
  Option.bind (iter (semtyperef7_key_l1 v k) ((v.Keys.length : Int).toNat + 1) 0) fun b3 =>
  onEnd (fun _ =>
  some (-1)) (fun y5 =>
  some y5) b3

def semtyperef7_field_l1 (n_0 : Api_TypeNode) (k : Key) (x1 : Int) : Option (Fl Int (Sum Unit Int)) :=
  bif decide (x1 < (n_0.Fields.length : Int))
  then (Option.bind (idx n_0.Fields x1) fun e2 =>
  bif eqD_114 e2.Key_ k
  then (some (.done (.inr x1)))
  else (some (.next (wr .i64 (x1 + 1)))))
  else (some (.done (.inl ())))

def semtyperef7_field (n_0 : Api_TypeNode) (k : Key) : Option Int :=
  Option.bind (iter (semtyperef7_field_l1 n_0 k) ((n_0.Fields.length : Int).toNat + 1) 0) fun b3 =>
  onEnd (fun _ =>
  some (-1)) (fun y5 =>
  some y5) b3

def semtyperef7_function_l1 (v : Val) (t : Api_Type) (n_2 : Api_TypeNode) (rec_semtyperef7_members : (List Val) → Api_Type → (List Int) → Option Bool) (rec_semtyperef7_member : Val → Api_Type → Int → Option Bool) (x1 : Int) : Option (Fl Int (Sum Unit Bool)) :=
  bif decide (x1 < (v.Entries.length : Int))
  then (Option.bind (idx v.Entries x1) fun e2 =>
  Option.bind (cut n_2.Kids 0 (wr .i64 ((n_2.Kids.length : Int) - 1))) fun y3 =>
  Option.bind (rec_semtyperef7_members e2.Args t y3) fun r4 =>
  Option.bind (bif r4
  then (Option.bind (bif e2.Fails
  then (some true)
  else (Option.bind (idx n_2.Kids (wr .i64 ((n_2.Kids.length : Int) - 1))) fun e5 =>
  Option.bind (rec_semtyperef7_member e2.Result t e5) fun r6 =>
  some (!r6))) fun q7 =>
  some q7)
  else (some false)) fun q8 =>
  bif q8
  then (some (.done (.inr false)))
  else (some (.next (wr .i64 (x1 + 1)))))
  else (some (.done (.inl ())))

def semtyperef7_mapping_l1 (d : Val) (a2_2 : Api_TypeNode) (x1 : Int) : Option (Fl Int (Sum Unit Bool)) :=
  bif decide (x1 < (a2_2.Fields.length : Int))
  then (Option.bind (idx a2_2.Fields x1) fun e2 =>
  Option.bind (bif !e2.Optional
  then (Option.bind (idx a2_2.Fields x1) fun e3 =>
  Option.bind (semtyperef7_key d e3.Key_) fun r4 =>
  some (decide (r4 < 0)))
  else (some false)) fun q5 =>
  bif q5
  then (some (.done (.inr false)))
  else (some (.next (wr .i64 (x1 + 1)))))
  else (some (.done (.inl ())))

def semtyperef7_mapping_l2 (d : Val) (t : Api_Type) (a2_2 : Api_TypeNode) (rec_semtyperef7_member : Val → Api_Type → Int → Option Bool) (x9 : Int) : Option (Fl Int (Sum Unit Bool)) :=
  bif decide (x9 < (d.Keys.length : Int))
  then (Option.bind (idx d.Keys x9) fun e10 =>
  Option.bind (semtyperef7_field a2_2 e10) fun r11 =>
  Option.bind (Option.bind (idx d.Keys x9) fun e12 =>
  bif e12.Kind == 0
  then (some a2_2.Rest.1)
  else (bif e12.Kind == 1
  then (some a2_2.Rest.2)
  else (none))) fun b13 =>
  Option.bind (bif decide (0 ≤ r11)
  then (Option.bind (idx a2_2.Fields r11) fun e14 =>
  some e14.Node)
  else (some b13)) fun b15 =>
  Option.bind (idx d.Kids x9) fun e16 =>
  Option.bind (rec_semtyperef7_member e16 t b15) fun r17 =>
  bif !r17
  then (some (.done (.inr false)))
  else (some (.next (wr .i64 (x9 + 1)))))
  else (some (.done (.inl ())))

def semtyperef7_member_l1 (d : Val) (t : Api_Type) (e1 : Api_TypeNode) (rec_semtyperef7_member : Val → Api_Type → Int → Option Bool) (x14 : Int) : Option (Fl Int (Sum Unit Bool)) :=
  bif decide (x14 < (e1.Kids.length : Int))
  then (Option.bind (idx e1.Kids x14) fun e15 =>
  Option.bind (rec_semtyperef7_member d t e15) fun r16 =>
  bif r16
  then (some (.done (.inr true)))
  else (some (.next (wr .i64 (x14 + 1)))))
  else (some (.done (.inl ())))

def semtyperef7_member_l2 (d : Val) (t : Api_Type) (e1 : Api_TypeNode) (rec_semtyperef7_member : Val → Api_Type → Int → Option Bool) (x20 : Int) : Option (Fl Int (Sum Unit Bool)) :=
  bif decide (x20 < (e1.Kids.length : Int))
  then (Option.bind (idx e1.Kids x20) fun e21 =>
  Option.bind (rec_semtyperef7_member d t e21) fun r22 =>
  bif !r22
  then (some (.done (.inr false)))
  else (some (.next (wr .i64 (x20 + 1)))))
  else (some (.done (.inl ())))

def semtyperef7_member_l3 (d : Val) (e1 : Api_TypeNode) (x28 : Int) : Option (Fl Int (Sum Unit Bool)) :=
  bif decide (x28 < (d.Labels.length : Int))
  then (Option.bind (idx d.Labels x28) fun e29 =>
  bif strEq e29 e1.Text
  then (some (.done (.inr true)))
  else (some (.next (wr .i64 (x28 + 1)))))
  else (some (.done (.inl ())))

def semtyperef7_members_l1 (l : List Val) (t : Api_Type) (nodes : List Int) (rec_semtyperef7_member : Val → Api_Type → Int → Option Bool) (x1 : Int) : Option (Fl Int (Sum Unit Bool)) :=
  bif decide (x1 < (l.length : Int))
  then (Option.bind (idx l x1) fun e2 =>
  Option.bind (idx nodes x1) fun e3 =>
  Option.bind (rec_semtyperef7_member e2 t e3) fun r4 =>
  bif !r4
  then (some (.done (.inr false)))
  else (some (.next (wr .i64 (x1 + 1)))))
  else (some (.done (.inl ())))

def semtyperef7_function_B (_ : Nat) (_ : Val → Api_Type → Api_TypeNode → Option Bool) (_ : Val → Api_Type → Api_TypeNode → Option Bool) (rec_semtyperef7_member : Val → Api_Type → Int → Option Bool) (rec_semtyperef7_members : (List Val) → Api_Type → (List Int) → Option Bool) (v : Val) (t : Api_Type) (n_2 : Api_TypeNode) : Option Bool :=
  bif v.Int_ != (wr .i64 ((n_2.Kids.length : Int) - 1))
  then (some false)
  else (Option.bind (iter (semtyperef7_function_l1 v t n_2 rec_semtyperef7_members rec_semtyperef7_member) ((v.Entries.length : Int).toNat + 1) 0) fun b9 =>
  onEnd (fun _ =>
  some true) (fun y11 =>
  some y11) b9)

def semtyperef7_mapping_B (_ : Nat) (_ : Val → Api_Type → Api_TypeNode → Option Bool) (_ : Val → Api_Type → Api_TypeNode → Option Bool) (rec_semtyperef7_member : Val → Api_Type → Int → Option Bool) (_ : (List Val) → Api_Type → (List Int) → Option Bool) (d : Val) (t : Api_Type) (a2_2 : Api_TypeNode) : Option Bool :=
  Option.bind (iter (semtyperef7_mapping_l1 d a2_2) ((a2_2.Fields.length : Int).toNat + 1) 0) fun b6 =>
  onEnd (fun _ =>
  Option.bind (iter (semtyperef7_mapping_l2 d t a2_2 rec_semtyperef7_member) ((d.Keys.length : Int).toNat + 1) 0) fun b18 =>
  onEnd (fun _ =>
  some true) (fun y20 =>
  some y20) b18) (fun y8 =>
  some y8) b6

def semtyperef7_member_B (_ : Nat) (rec_semtyperef7_function : Val → Api_Type → Api_TypeNode → Option Bool) (rec_semtyperef7_mapping : Val → Api_Type → Api_TypeNode → Option Bool) (rec_semtyperef7_member : Val → Api_Type → Int → Option Bool) (rec_semtyperef7_members : (List Val) → Api_Type → (List Int) → Option Bool) (d : Val) (t : Api_Type) (a2_2 : Int) : Option Bool :=
  Option.bind (idx t.Nodes a2_2) fun e1 =>
  bif e1.Kind == 2
  then (some true)
  else (bif e1.Kind == 3
  then (Option.bind (bif d.Kind == 1
  then (some (decide (e1.Lo ≤ d.Int_)))
  else (some false)) fun q2 =>
  Option.bind (bif q2
  then (some (decide (d.Int_ ≤ e1.Hi)))
  else (some false)) fun q3 =>
  some q3)
  else (bif e1.Kind == 4
  then (Option.bind (bif d.Kind == 2
  then (some (strEq d.Text e1.Text))
  else (some false)) fun q4 =>
  some q4)
  else (bif e1.Kind == 5
  then (some (d.Kind == 2))
  else (bif e1.Kind == 6
  then (Option.bind (bif d.Kind == 3
  then (some (strEq d.Text e1.Text))
  else (some false)) fun q5 =>
  some q5)
  else (bif e1.Kind == 7
  then (some (d.Kind == 3))
  else (bif e1.Kind == 8
  then (some (d.Kind == 4))
  else (bif e1.Kind == 9
  then (some (d.Kind == 5))
  else (bif e1.Kind == 11
  then (some (d.Kind == 6))
  else (bif e1.Kind == 15
  then (some (d.Kind == 9))
  else (bif e1.Kind == 10
  then (Option.bind (bif d.Kind == 6
  then (Option.bind (rec_semtyperef7_members d.Kids t e1.Kids) fun r6 =>
  some r6)
  else (some false)) fun q7 =>
  some q7)
  else (bif e1.Kind == 12
  then (Option.bind (bif d.Kind == 7
  then (Option.bind (rec_semtyperef7_members d.Kids t e1.Kids) fun r8 =>
  some r8)
  else (some false)) fun q9 =>
  some q9)
  else (bif e1.Kind == 13
  then (Option.bind (bif d.Kind == 8
  then (Option.bind (rec_semtyperef7_mapping d t e1) fun r10 =>
  some r10)
  else (some false)) fun q11 =>
  some q11)
  else (bif e1.Kind == 14
  then (Option.bind (bif d.Kind == 9
  then (Option.bind (rec_semtyperef7_function d t e1) fun r12 =>
  some r12)
  else (some false)) fun q13 =>
  some q13)
  else (bif e1.Kind == 16
  then (Option.bind (iter (semtyperef7_member_l1 d t e1 rec_semtyperef7_member) ((e1.Kids.length : Int).toNat + 1) 0) fun b17 =>
  onEnd (fun _ =>
  some false) (fun y19 =>
  some y19) b17)
  else (bif e1.Kind == 17
  then (Option.bind (iter (semtyperef7_member_l2 d t e1 rec_semtyperef7_member) ((e1.Kids.length : Int).toNat + 1) 0) fun b23 =>
  onEnd (fun _ =>
  some true) (fun y25 =>
  some y25) b23)
  else (bif e1.Kind == 18
  then (Option.bind (idx e1.Kids 0) fun e26 =>
  Option.bind (rec_semtyperef7_member d t e26) fun r27 =>
  some (!r27))
  else (bif e1.Kind == 19
  then (Option.bind (iter (semtyperef7_member_l3 d e1) ((d.Labels.length : Int).toNat + 1) 0) fun b30 =>
  onEnd (fun _ =>
  some false) (fun y32 =>
  some y32) b30)
  else (some false))))))))))))))))))

def semtyperef7_members_B (_ : Nat) (_ : Val → Api_Type → Api_TypeNode → Option Bool) (_ : Val → Api_Type → Api_TypeNode → Option Bool) (rec_semtyperef7_member : Val → Api_Type → Int → Option Bool) (_ : (List Val) → Api_Type → (List Int) → Option Bool) (l : List Val) (t : Api_Type) (nodes : List Int) : Option Bool :=
  bif (l.length : Int) != (nodes.length : Int)
  then (some false)
  else (Option.bind (iter (semtyperef7_members_l1 l t nodes rec_semtyperef7_member) ((l.length : Int).toNat + 1) 0) fun b5 =>
  onEnd (fun _ =>
  some true) (fun y7 =>
  some y7) b5)

def scc_semtyperef7_function : Nat → (Val → Api_Type → Api_TypeNode → Option Bool) × (Val → Api_Type → Api_TypeNode → Option Bool) × (Val → Api_Type → Int → Option Bool) × ((List Val) → Api_Type → (List Int) → Option Bool)
  | 0 => (fun _ _ _ => none, fun _ _ _ => none, fun _ _ _ => none, fun _ _ _ => none)
  | n + 1 => (semtyperef7_function_B n ((scc_semtyperef7_function n).1) ((scc_semtyperef7_function n).2.1) ((scc_semtyperef7_function n).2.2.1) ((scc_semtyperef7_function n).2.2.2), semtyperef7_mapping_B n ((scc_semtyperef7_function n).1) ((scc_semtyperef7_function n).2.1) ((scc_semtyperef7_function n).2.2.1) ((scc_semtyperef7_function n).2.2.2), semtyperef7_member_B n ((scc_semtyperef7_function n).1) ((scc_semtyperef7_function n).2.1) ((scc_semtyperef7_function n).2.2.1) ((scc_semtyperef7_function n).2.2.2), semtyperef7_members_B n ((scc_semtyperef7_function n).1) ((scc_semtyperef7_function n).2.1) ((scc_semtyperef7_function n).2.2.1) ((scc_semtyperef7_function n).2.2.2))

def semtyperef7_function (n : Nat) : Val → Api_Type → Api_TypeNode → Option Bool := (scc_semtyperef7_function n).1

def semtyperef7_mapping (n : Nat) : Val → Api_Type → Api_TypeNode → Option Bool := (scc_semtyperef7_function n).2.1

def semtyperef7_member (n : Nat) : Val → Api_Type → Int → Option Bool := (scc_semtyperef7_function n).2.2.1

def semtyperef7_members (n : Nat) : (List Val) → Api_Type → (List Int) → Option Bool := (scc_semtyperef7_function n).2.2.2

def semtyperef7_MemberOf (n : Nat) (v : Val) (t : Api_Type) (k : Int) : Option Bool :=
  Option.bind (semtyperef1_Valid n v) fun r1 =>
  Option.bind (bif r1
  then (Option.bind (semtyperef7_WellFormed n t) fun r2 =>
  some (r2 == 0))
  else (some false)) fun q3 =>
  Option.bind (bif q3
  then (Option.bind (semtyperef7_index t k) fun r4 =>
  some r4)
  else (some false)) fun q5 =>
  Option.bind (bif q5
  then (Option.bind (semtyperef7_member n v t k) fun r6 =>
  some r6)
  else (some false)) fun q7 =>
  some q7

noncomputable def semtypelaw12_ArrowMerge (n : Nat) (d : List Int) (t : List Int) (a2_2 : List Int) (a3_3 : Val) : Option Bool :=
  Option.bind (semtypelaw12_short ([d, t, a2_2] : List (List Int))) fun r1 =>
  Option.bind (bif !r1
  then (some true)
  else (Option.bind (semtyperef1_Nodes n a3_3) fun r2 =>
  some (decide (40 < r2)))) fun q3 =>
  bif q3
  then (Option.bind (semtypelaw12_awake n) fun r4 =>
  some r4)
  else (Option.bind (semtypelaw12_made n d t) fun r5 =>
  Option.bind (semtypelaw12_made n d a2_2) fun r6 =>
  Option.bind (semtyperef1_Function n (r5.2.2.Args.length : Int) ([r5.2.2] : List Ent)) fun r7 =>
  Option.bind (semtyperef1_Function n (r6.2.2.Args.length : Int) ([r6.2.2] : List Ent)) fun r8 =>
  Option.bind (bif r7.2 != 0
  then (some true)
  else (some (r8.2 != 0))) fun q9 =>
  bif q9
  then (some false)
  else (Option.bind (semtyperef1_WithLabels r7.1 ([(⟨#[65]⟩ : ByteArray)] : List ByteArray)) fun r10 =>
  Option.bind (arrow_Merge n ([r10, r8.1] : List Val)) fun r11 =>
  Option.bind (semtyperef1_Function n (r5.2.2.Args.length : Int) ([r5.2.2, r6.2.2] : List Ent)) fun r12 =>
  Option.bind (semtyperef7_MemberOf n r7.1 r5.1 r5.2.1) fun r13 =>
  Option.bind (bif r13
  then (Option.bind (semtyperef7_MemberOf n r8.1 r5.1 r5.2.1) fun r14 =>
  some r14)
  else (some false)) fun q15 =>
  Option.bind (arrow_Merge n ([r7.1, a3_3] : List Val)) fun r16 =>
  Option.bind (arrow_Merge n ([] : List Val)) fun r17 =>
  Option.bind (semtyperef1_Valid n a3_3) fun r18 =>
  Option.bind (bif r18
  then (some (a3_3.Kind == 9))
  else (some false)) fun q19 =>
  Option.bind (bif q19
  then (some (a3_3.Int_ == r7.1.Int_))
  else (some false)) fun q20 =>
  Option.bind (bif r11.2 == 0
  then (some (r12.2 == 0))
  else (some false)) fun q21 =>
  Option.bind (bif q21
  then (Option.bind (semtyperef1_Equal n r11.1 r12.1) fun r22 =>
  some r22)
  else (some false)) fun q23 =>
  Option.bind (bif q23
  then (Option.bind (semtyperef7_MemberOf n r11.1 r5.1 r5.2.1) fun r24 =>
  some (r24 == q15))
  else (some false)) fun q25 =>
  Option.bind (bif q25
  then (some ((r16.2 == 0) == q20))
  else (some false)) fun q26 =>
  Option.bind (bif q26
  then (Option.bind (bif q20
  then (some true)
  else (some (r16.2 == 1))) fun q27 =>
  some q27)
  else (some false)) fun q28 =>
  Option.bind (bif q28
  then (some (r17.2 == 1))
  else (some false)) fun q29 =>
  Option.bind (bif q29
  then (Option.bind (semtypelaw12_awake n) fun r30 =>
  some r30)
  else (some false)) fun q31 =>
  some q31))

end Go.Qx
