/- Printed by ex.py. What the Go functions compute. -/
import Derived.Test.YtamfhohifmbjnaaGreatQTab
import Derived.Test.YtamfhohifmbjnaaGreatQLib
import Derived.Test.YtamfhohifmbjnaaGreatQSort
namespace Go.Qx
open Go Go.RowKit Go.Sx
set_option maxRecDepth 100000

structure Semtypebase_Source where
  L : List Int
  At : Int

structure Value_used where
  number : Bool
  text_ : Bool
  kids : Bool
  keys : Bool
  entries : Bool

def eqD_58 (x y : Key) : Bool := ((x.Kind == y.Kind) && ((strEq x.Text y.Text) && true))

def value_Int (n_0 : Int) : Option Val :=
  some (Val.mk 1 n_0 (⟨#[]⟩ : ByteArray) ([] : List Val) ([] : List Key) ([] : List Ent) ([] : List ByteArray))

def value_Nil  : Option Val :=
  some (Val.mk 5 0 (⟨#[]⟩ : ByteArray) ([] : List Val) ([] : List Key) ([] : List Ent) ([] : List ByteArray))

def value_cloneAll_l1 (l : List Val) (rec_value_clone : Val → Option Val) (x1 : (List Val) × Int) : Option (Fl ((List Val) × Int) (List Val)) :=
  bif decide (x1.2 < (l.length : Int))
  then (Option.bind (idx l x1.2) fun e2 =>
  Option.bind (rec_value_clone e2) fun r3 =>
  Option.bind (room (x1.1.length + ([r3] : List Val).length) 128) fun _ =>
  some (.next (x1.1 ++ ([r3] : List Val), wr .i64 (x1.2 + 1))))
  else (some (.done x1.1))

def value_cloneEntries_l1 (l : List Ent) (rec_value_cloneAll : (List Val) → Option (List Val)) (rec_value_clone : Val → Option Val) (x1 : (List Ent) × Int) : Option (Fl ((List Ent) × Int) (List Ent)) :=
  bif decide (x1.2 < (l.length : Int))
  then (Option.bind (idx l x1.2) fun _ =>
  Option.bind (l[x1.2.toNat]?) fun e3 =>
  Option.bind (rec_value_cloneAll e3.Args) fun r4 =>
  Option.bind (rec_value_clone e3.Result) fun r5 =>
  Option.bind (room (x1.1.length + ([Ent.mk r4 e3.Fails r5] : List Ent).length) 160) fun _ =>
  some (.next (x1.1 ++ ([Ent.mk r4 e3.Fails r5] : List Ent), wr .i64 (x1.2 + 1))))
  else (some (.done x1.1))

def value_clone_B (_ : Nat) (_ : Val → Option Val) (rec_value_cloneAll : (List Val) → Option (List Val)) (rec_value_cloneEntries : (List Ent) → Option (List Ent)) (v : Val) : Option Val :=
  Option.bind (rec_value_cloneAll v.Kids) fun r1 =>
  Option.bind (cloneF 24 v.Keys) fun r2 =>
  Option.bind (cloneF 16 v.Labels) fun r3 =>
  Option.bind (rec_value_cloneEntries v.Entries) fun r4 =>
  some (Val.mk v.Kind v.Int_ v.Text r1 r2 r4 r3)

def value_cloneAll_B (_ : Nat) (rec_value_clone : Val → Option Val) (_ : (List Val) → Option (List Val)) (_ : (List Ent) → Option (List Ent)) (l : List Val) : Option (List Val) :=
  Option.bind (iter (value_cloneAll_l1 l rec_value_clone) ((l.length : Int).toNat + 1) ([], 0)) fun b5 =>
  some b5

def value_cloneEntries_B (_ : Nat) (rec_value_clone : Val → Option Val) (rec_value_cloneAll : (List Val) → Option (List Val)) (_ : (List Ent) → Option (List Ent)) (l : List Ent) : Option (List Ent) :=
  Option.bind (iter (value_cloneEntries_l1 l rec_value_cloneAll rec_value_clone) ((l.length : Int).toNat + 1) ([], 0)) fun b7 =>
  some b7

def scc_value_clone : Nat → (Val → Option Val) × ((List Val) → Option (List Val)) × ((List Ent) → Option (List Ent))
  | 0 => (fun _ => none, fun _ => none, fun _ => none)
  | n + 1 => (value_clone_B n ((scc_value_clone n).1) ((scc_value_clone n).2.1) ((scc_value_clone n).2.2), value_cloneAll_B n ((scc_value_clone n).1) ((scc_value_clone n).2.1) ((scc_value_clone n).2.2), value_cloneEntries_B n ((scc_value_clone n).1) ((scc_value_clone n).2.1) ((scc_value_clone n).2.2))

def value_clone (n : Nat) : Val → Option Val := (scc_value_clone n).1

def value_cloneAll (n : Nat) : (List Val) → Option (List Val) := (scc_value_clone n).2.1

def value_cloneEntries (n : Nat) : (List Ent) → Option (List Ent) := (scc_value_clone n).2.2

def value_List_l1 (l : List Val) (n : Nat) (x2 : Int × Val) : Option (Fl (Int × Val) Val) :=
  bif decide (0 ≤ x2.1)
  then (Option.bind (idx l x2.1) fun e3 =>
  Option.bind (value_clone n e3) fun r4 =>
  some (.next (wr .i64 (x2.1 - 1), Val.mk 7 0 (⟨#[]⟩ : ByteArray) ([r4, x2.2] : List Val) ([] : List Key) ([] : List Ent) ([] : List ByteArray))))
  else (some (.done x2.2))

def value_List (n : Nat) (l : List Val) : Option Val :=
  Option.bind (value_Nil) fun r1 =>
  Option.bind (iter (value_List_l1 l n) ((wr .i64 ((l.length : Int) - 1)).toNat + 2) (wr .i64 ((l.length : Int) - 1), r1)) fun b5 =>
  some b5

def value_parts_l1 (v : Val) (x2 : (List Val) × Int) : Option (Fl ((List Val) × Int) (List Val)) :=
  bif decide (x2.2 < (v.Entries.length : Int))
  then (Option.bind (idx v.Entries x2.2) fun e3 =>
  Option.bind (room (x2.1.length + e3.Args.length) 128) fun _ =>
  bif !e3.Fails
  then (Option.bind (room ((x2.1 ++ e3.Args).length + ([e3.Result] : List Val).length) 128) fun _ =>
  some (.next ((x2.1 ++ e3.Args) ++ ([e3.Result] : List Val), wr .i64 (x2.2 + 1))))
  else (some (.next (x2.1 ++ e3.Args, wr .i64 (x2.2 + 1)))))
  else (some (.done x2.1))

def value_parts (v : Val) : Option (List Val) :=
  Option.bind (cloneF 128 v.Kids) fun r1 =>
  Option.bind (iter (value_parts_l1 v) ((v.Entries.length : Int).toNat + 1) (r1, 0)) fun b6 =>
  some b6

def value_Nodes_l1 (r1 : List Val) (rec_value_Nodes : Val → Option Int) (x2 : Int × Int) : Option (Fl (Int × Int) Int) :=
  bif decide (x2.2 < (r1.length : Int))
  then (Option.bind (idx r1 x2.2) fun e3 =>
  Option.bind (rec_value_Nodes e3) fun r4 =>
  some (.next (wr .i64 (x2.1 + r4), wr .i64 (x2.2 + 1))))
  else (some (.done x2.1))

def value_Nodes_B (_ : Nat) (rec_value_Nodes : Val → Option Int) (v : Val) : Option Int :=
  Option.bind (value_parts v) fun r1 =>
  Option.bind (iter (value_Nodes_l1 r1 rec_value_Nodes) ((r1.length : Int).toNat + 1) (1, 0)) fun b5 =>
  some b5

def value_Nodes : Nat → Val → Option Int
  | 0 => fun _ => none
  | n + 1 => value_Nodes_B n (value_Nodes n)

def value_Height_l1 (r1 : List Val) (rec_value_Height : Val → Option Int) (x2 : Int × Int) : Option (Fl (Int × Int) Int) :=
  bif decide (x2.2 < (r1.length : Int))
  then (Option.bind (idx r1 x2.2) fun e3 =>
  Option.bind (rec_value_Height e3) fun r4 =>
  some (.next (max x2.1 r4, wr .i64 (x2.2 + 1))))
  else (some (.done x2.1))

def value_Height_B (_ : Nat) (rec_value_Height : Val → Option Int) (v : Val) : Option Int :=
  Option.bind (value_parts v) fun r1 =>
  Option.bind (iter (value_Height_l1 r1 rec_value_Height) ((r1.length : Int).toNat + 1) (0, 0)) fun b5 =>
  some (wr .i64 (b5 + 1))

def value_Height : Nat → Val → Option Int
  | 0 => fun _ => none
  | n + 1 => value_Height_B n (value_Height n)

def value_uses (kind : Int) : Option (Value_used × Bool) :=
  Option.bind (bif kind == 1
  then (some (kind == 1))
  else (some (kind == 4))) fun b1 =>
  bif b1
  then (some (Value_used.mk true false false false false, true))
  else (Option.bind (bif kind == 2
  then (some (kind == 2))
  else (some (kind == 3))) fun b2 =>
  bif b2
  then (some (Value_used.mk false true false false false, true))
  else (bif kind == 5
  then (some (Value_used.mk false false false false false, true))
  else (Option.bind (bif kind == 6
  then (some (kind == 6))
  else (some (kind == 7))) fun b3 =>
  bif b3
  then (some (Value_used.mk false false true false false, true))
  else (bif kind == 8
  then (some (Value_used.mk false false true true false, true))
  else (bif kind == 9
  then (some (Value_used.mk true false false false true, true))
  else (some (Value_used.mk false false false false false, false)))))))

def value_ascending_string_l1 (l : List ByteArray) (compare : ByteArray → ByteArray → Option Int) (x1 : Int) : Option (Fl Int (Sum Unit Bool)) :=
  bif decide (x1 < (l.length : Int))
  then (Option.bind (idx l (wr .i64 (x1 - 1))) fun e2 =>
  Option.bind (idx l x1) fun e3 =>
  Option.bind (compare e2 e3) fun r4 =>
  bif decide (0 ≤ r4)
  then (some (.done (.inr false)))
  else (some (.next (wr .i64 (x1 + 1)))))
  else (some (.done (.inl ())))

def value_ascending_string (l : List ByteArray) (compare : ByteArray → ByteArray → Option Int) : Option Bool :=
  Option.bind (iter (value_ascending_string_l1 l compare) ((l.length : Int).toNat + 1) 1) fun b5 =>
  onEnd (fun _ =>
  some true) (fun y7 =>
  some y7) b5

def internal_bytealg_CompareString (a : ByteArray) (b : ByteArray) : Option Int :=
  Option.bind (cmpF a b) fun r1 =>
  some r1

def strings_Compare (a : ByteArray) (b : ByteArray) : Option Int :=
  Option.bind (internal_bytealg_CompareString a b) fun r1 =>
  some r1

def ident_isName_l1 (s : ByteArray) (other : Int → Option Bool) (x5 : Int) : Option (Fl Int (Sum Unit Bool)) :=
  bif decide (x5 < (s.size : Int))
  then (Option.bind (sidx s x5) fun e6 =>
  Option.bind (other (e6.toNat : Int)) fun r7 =>
  bif !r7
  then (some (.done (.inr false)))
  else (some (.next (wr .i64 (x5 + 1)))))
  else (some (.done (.inl ())))

def ident_isName (s : ByteArray) (first : Int → Option Bool) (other : Int → Option Bool) : Option Bool :=
  Option.bind (bif decide ((s.size : Int) < 1)
  then (some true)
  else (some (decide (16 < (s.size : Int))))) fun q1 =>
  Option.bind (bif q1
  then (some true)
  else (Option.bind (sidx s 0) fun e2 =>
  Option.bind (first (e2.toNat : Int)) fun r3 =>
  some (!r3))) fun q4 =>
  bif q4
  then (some false)
  else (Option.bind (iter (ident_isName_l1 s other) ((s.size : Int).toNat + 1) 1) fun b8 =>
  onEnd (fun _ =>
  some true) (fun y10 =>
  some y10) b8)

def ident_isUpper (c : Int) : Option Bool :=
  Option.bind (bif decide (65 ≤ c)
  then (some (decide (c ≤ 90)))
  else (some false)) fun q1 =>
  some q1

def ident_isLower (c : Int) : Option Bool :=
  Option.bind (bif decide (97 ≤ c)
  then (some (decide (c ≤ 122)))
  else (some false)) fun q1 =>
  some q1

def ident_isDigit (c : Int) : Option Bool :=
  Option.bind (bif decide (48 ≤ c)
  then (some (decide (c ≤ 57)))
  else (some false)) fun q1 =>
  some q1

def ident_IsVariable_1 (c : Int) : Option Bool :=
  Option.bind (ident_isLower c) fun r1 =>
  Option.bind (bif r1
  then (some true)
  else (Option.bind (ident_isUpper c) fun r2 =>
  some r2)) fun q3 =>
  Option.bind (bif q3
  then (some true)
  else (Option.bind (ident_isDigit c) fun r4 =>
  some r4)) fun q5 =>
  Option.bind (bif q5
  then (some true)
  else (some (c == 95))) fun q6 =>
  some q6

def ident_IsVariable (s : ByteArray) : Option Bool :=
  Option.bind (ident_isName s (fun z1 =>
  Option.bind (ident_isUpper z1) fun r2 =>
  some r2) (fun z3 =>
  Option.bind (ident_IsVariable_1 z3) fun r4 =>
  some r4)) fun r5 =>
  some r5

def value_validLabels_l1 (l : List ByteArray) (x5 : Int) : Option (Fl Int (Sum Unit Bool)) :=
  bif decide (x5 < (l.length : Int))
  then (Option.bind (idx l x5) fun e6 =>
  Option.bind (ident_IsVariable e6) fun r7 =>
  bif !r7
  then (some (.done (.inr false)))
  else (some (.next (wr .i64 (x5 + 1)))))
  else (some (.done (.inl ())))

def value_validLabels (l : List ByteArray) : Option Bool :=
  Option.bind (value_ascending_string l (fun z1 z2 =>
  Option.bind (strings_Compare z1 z2) fun r3 =>
  some r3)) fun r4 =>
  bif !r4
  then (some false)
  else (Option.bind (iter (value_validLabels_l1 l) ((l.length : Int).toNat + 1) 0) fun b8 =>
  onEnd (fun _ =>
  some true) (fun y10 =>
  some y10) b8)

def ident_IsAtom_1 (c : Int) : Option Bool :=
  Option.bind (ident_isLower c) fun r1 =>
  Option.bind (bif r1
  then (some true)
  else (Option.bind (ident_isDigit c) fun r2 =>
  some r2)) fun q3 =>
  Option.bind (bif q3
  then (some true)
  else (some (c == 95))) fun q4 =>
  some q4

def ident_IsAtom (s : ByteArray) : Option Bool :=
  Option.bind (ident_isName s (fun z1 =>
  Option.bind (ident_isLower z1) fun r2 =>
  some r2) (fun z3 =>
  Option.bind (ident_IsAtom_1 z3) fun r4 =>
  some r4)) fun r5 =>
  some r5

def value_ascending_api_Key_l1 (l : List Key) (compare : Key → Key → Option Int) (x1 : Int) : Option (Fl Int (Sum Unit Bool)) :=
  bif decide (x1 < (l.length : Int))
  then (Option.bind (idx l (wr .i64 (x1 - 1))) fun e2 =>
  Option.bind (idx l x1) fun e3 =>
  Option.bind (compare e2 e3) fun r4 =>
  bif decide (0 ≤ r4)
  then (some (.done (.inr false)))
  else (some (.next (wr .i64 (x1 + 1)))))
  else (some (.done (.inl ())))

def value_ascending_api_Key (l : List Key) (compare : Key → Key → Option Int) : Option Bool :=
  Option.bind (iter (value_ascending_api_Key_l1 l compare) ((l.length : Int).toNat + 1) 1) fun b5 =>
  onEnd (fun _ =>
  some true) (fun y7 =>
  some y7) b5

def cmp_isNaN_int (x : Int) : Option Bool :=
  some (x != x)

def cmp_Compare_int (x : Int) (y : Int) : Option Int :=
  Option.bind (cmp_isNaN_int x) fun r1 =>
  Option.bind (cmp_isNaN_int y) fun r2 =>
  bif r1
  then (bif r2
  then (some 0)
  else (some (-1)))
  else (bif r2
  then (some 1)
  else (bif decide (x < y)
  then (some (-1))
  else (bif decide (y < x)
  then (some 1)
  else (some 0))))

def ident_CompareKeys (a : Key) (b : Key) : Option Int :=
  Option.bind (cmp_Compare_int a.Kind b.Kind) fun r1 =>
  bif r1 != 0
  then (some r1)
  else (Option.bind (strings_Compare a.Text b.Text) fun r2 =>
  some r2)

def ident_ValidKey (k : Key) : Option Bool :=
  bif k.Kind == 0
  then (Option.bind (ident_IsAtom k.Text) fun r1 =>
  some r1)
  else (bif k.Kind == 1
  then (some (decide ((k.Text.size : Int) ≤ 64)))
  else (some false))

def value_validMap_l1 (v : Val) (x6 : Int) : Option (Fl Int (Sum Unit Bool)) :=
  bif decide (x6 < (v.Keys.length : Int))
  then (Option.bind (idx v.Keys x6) fun e7 =>
  Option.bind (ident_ValidKey e7) fun r8 =>
  bif !r8
  then (some (.done (.inr false)))
  else (some (.next (wr .i64 (x6 + 1)))))
  else (some (.done (.inl ())))

def value_validMap (v : Val) : Option Bool :=
  Option.bind (bif (v.Keys.length : Int) != (v.Kids.length : Int)
  then (some true)
  else (Option.bind (value_ascending_api_Key v.Keys (fun z1 z2 =>
  Option.bind (ident_CompareKeys z1 z2) fun r3 =>
  some r3)) fun r4 =>
  some (!r4))) fun q5 =>
  bif q5
  then (some false)
  else (Option.bind (iter (value_validMap_l1 v) ((v.Keys.length : Int).toNat + 1) 0) fun b9 =>
  onEnd (fun _ =>
  some true) (fun y11 =>
  some y11) b9)

def value_ascending_api_Entry_l1 (l : List Ent) (compare : Ent → Ent → Option Int) (x1 : Int) : Option (Fl Int (Sum Unit Bool)) :=
  bif decide (x1 < (l.length : Int))
  then (Option.bind (idx l (wr .i64 (x1 - 1))) fun e2 =>
  Option.bind (idx l x1) fun e3 =>
  Option.bind (compare e2 e3) fun r4 =>
  bif decide (0 ≤ r4)
  then (some (.done (.inr false)))
  else (some (.next (wr .i64 (x1 + 1)))))
  else (some (.done (.inl ())))

def value_ascending_api_Entry (l : List Ent) (compare : Ent → Ent → Option Int) : Option Bool :=
  Option.bind (iter (value_ascending_api_Entry_l1 l compare) ((l.length : Int).toNat + 1) 1) fun b5 =>
  onEnd (fun _ =>
  some true) (fun y7 =>
  some y7) b5

def value_compareLists_api_Value_l1 (a : List Val) (b : List Val) (compare : Val → Val → Option Int) (x2 : Int) : Option (Fl Int (Sum Unit Int)) :=
  bif decide (x2 < (a.length : Int))
  then (Option.bind (idx a x2) fun e3 =>
  Option.bind (idx b x2) fun e4 =>
  Option.bind (compare e3 e4) fun r5 =>
  bif r5 != 0
  then (some (.done (.inr r5)))
  else (some (.next (wr .i64 (x2 + 1)))))
  else (some (.done (.inl ())))

def value_compareLists_api_Value (a : List Val) (b : List Val) (compare : Val → Val → Option Int) : Option Int :=
  Option.bind (cmp_Compare_int (a.length : Int) (b.length : Int)) fun r1 =>
  bif r1 != 0
  then (some r1)
  else (Option.bind (iter (value_compareLists_api_Value_l1 a b compare) ((a.length : Int).toNat + 1) 0) fun b6 =>
  onEnd (fun _ =>
  some 0) (fun y8 =>
  some y8) b6)

def cmp_isNaN_int64 (x : Int) : Option Bool :=
  some (x != x)

def cmp_Compare_int64 (x : Int) (y : Int) : Option Int :=
  Option.bind (cmp_isNaN_int64 x) fun r1 =>
  Option.bind (cmp_isNaN_int64 y) fun r2 =>
  bif r1
  then (bif r2
  then (some 0)
  else (some (-1)))
  else (bif r2
  then (some 1)
  else (bif decide (x < y)
  then (some (-1))
  else (bif decide (y < x)
  then (some 1)
  else (some 0))))

def value_compareLists_api_Key_l1 (a : List Key) (b : List Key) (compare : Key → Key → Option Int) (x2 : Int) : Option (Fl Int (Sum Unit Int)) :=
  bif decide (x2 < (a.length : Int))
  then (Option.bind (idx a x2) fun e3 =>
  Option.bind (idx b x2) fun e4 =>
  Option.bind (compare e3 e4) fun r5 =>
  bif r5 != 0
  then (some (.done (.inr r5)))
  else (some (.next (wr .i64 (x2 + 1)))))
  else (some (.done (.inl ())))

def value_compareLists_api_Key (a : List Key) (b : List Key) (compare : Key → Key → Option Int) : Option Int :=
  Option.bind (cmp_Compare_int (a.length : Int) (b.length : Int)) fun r1 =>
  bif r1 != 0
  then (some r1)
  else (Option.bind (iter (value_compareLists_api_Key_l1 a b compare) ((a.length : Int).toNat + 1) 0) fun b6 =>
  onEnd (fun _ =>
  some 0) (fun y8 =>
  some y8) b6)

def value_compareLists_api_Entry_l1 (a : List Ent) (b : List Ent) (compare : Ent → Ent → Option Int) (x2 : Int) : Option (Fl Int (Sum Unit Int)) :=
  bif decide (x2 < (a.length : Int))
  then (Option.bind (idx a x2) fun e3 =>
  Option.bind (idx b x2) fun e4 =>
  Option.bind (compare e3 e4) fun r5 =>
  bif r5 != 0
  then (some (.done (.inr r5)))
  else (some (.next (wr .i64 (x2 + 1)))))
  else (some (.done (.inl ())))

def value_compareLists_api_Entry (a : List Ent) (b : List Ent) (compare : Ent → Ent → Option Int) : Option Int :=
  Option.bind (cmp_Compare_int (a.length : Int) (b.length : Int)) fun r1 =>
  bif r1 != 0
  then (some r1)
  else (Option.bind (iter (value_compareLists_api_Entry_l1 a b compare) ((a.length : Int).toNat + 1) 0) fun b6 =>
  onEnd (fun _ =>
  some 0) (fun y8 =>
  some y8) b6)

def value_compareLists_string_l1 (a : List ByteArray) (b : List ByteArray) (compare : ByteArray → ByteArray → Option Int) (x2 : Int) : Option (Fl Int (Sum Unit Int)) :=
  bif decide (x2 < (a.length : Int))
  then (Option.bind (idx a x2) fun e3 =>
  Option.bind (idx b x2) fun e4 =>
  Option.bind (compare e3 e4) fun r5 =>
  bif r5 != 0
  then (some (.done (.inr r5)))
  else (some (.next (wr .i64 (x2 + 1)))))
  else (some (.done (.inl ())))

def value_compareLists_string (a : List ByteArray) (b : List ByteArray) (compare : ByteArray → ByteArray → Option Int) : Option Int :=
  Option.bind (cmp_Compare_int (a.length : Int) (b.length : Int)) fun r1 =>
  bif r1 != 0
  then (some r1)
  else (Option.bind (iter (value_compareLists_string_l1 a b compare) ((a.length : Int).toNat + 1) 0) fun b6 =>
  onEnd (fun _ =>
  some 0) (fun y8 =>
  some y8) b6)

def value_Compare_B (_ : Nat) (_ : Val → Val → Option Int) (rec_value_compareEntries : Ent → Ent → Option Int) (rec_value_compareValues : (List Val) → (List Val) → Option Int) (a : Val) (b : Val) : Option Int :=
  Option.bind (cmp_Compare_int a.Kind b.Kind) fun r1 =>
  bif r1 != 0
  then (some r1)
  else (Option.bind (cmp_Compare_int64 a.Int_ b.Int_) fun r2 =>
  bif r2 != 0
  then (some r2)
  else (Option.bind (strings_Compare a.Text b.Text) fun r3 =>
  bif r3 != 0
  then (some r3)
  else (Option.bind (value_compareLists_api_Key a.Keys b.Keys (fun z4 z5 =>
  Option.bind (ident_CompareKeys z4 z5) fun r6 =>
  some r6)) fun r7 =>
  bif r7 != 0
  then (some r7)
  else (Option.bind (rec_value_compareValues a.Kids b.Kids) fun r8 =>
  bif r8 != 0
  then (some r8)
  else (Option.bind (value_compareLists_api_Entry a.Entries b.Entries (fun z9 z10 =>
  Option.bind (rec_value_compareEntries z9 z10) fun r11 =>
  some r11)) fun r12 =>
  bif r12 != 0
  then (some r12)
  else (Option.bind (value_compareLists_string a.Labels b.Labels (fun z13 z14 =>
  Option.bind (strings_Compare z13 z14) fun r15 =>
  some r15)) fun r16 =>
  some r16))))))

def value_compareEntries_B (_ : Nat) (rec_value_Compare : Val → Val → Option Int) (_ : Ent → Ent → Option Int) (rec_value_compareValues : (List Val) → (List Val) → Option Int) (a : Ent) (b : Ent) : Option Int :=
  Option.bind (rec_value_compareValues a.Args b.Args) fun r1 =>
  bif r1 != 0
  then (some r1)
  else (bif a.Fails != b.Fails
  then (bif a.Fails
  then (some (-1))
  else (some 1))
  else (Option.bind (rec_value_Compare a.Result b.Result) fun r2 =>
  some r2))

def value_compareValues_B (_ : Nat) (rec_value_Compare : Val → Val → Option Int) (_ : Ent → Ent → Option Int) (_ : (List Val) → (List Val) → Option Int) (a : List Val) (b : List Val) : Option Int :=
  Option.bind (value_compareLists_api_Value a b (fun z1 z2 =>
  Option.bind (rec_value_Compare z1 z2) fun r3 =>
  some r3)) fun r4 =>
  some r4

def scc_value_Compare : Nat → (Val → Val → Option Int) × (Ent → Ent → Option Int) × ((List Val) → (List Val) → Option Int)
  | 0 => (fun _ _ => none, fun _ _ => none, fun _ _ => none)
  | n + 1 => (value_Compare_B n ((scc_value_Compare n).1) ((scc_value_Compare n).2.1) ((scc_value_Compare n).2.2), value_compareEntries_B n ((scc_value_Compare n).1) ((scc_value_Compare n).2.1) ((scc_value_Compare n).2.2), value_compareValues_B n ((scc_value_Compare n).1) ((scc_value_Compare n).2.1) ((scc_value_Compare n).2.2))

def value_Compare (n : Nat) : Val → Val → Option Int := (scc_value_Compare n).1

def value_compareEntries (n : Nat) : Ent → Ent → Option Int := (scc_value_Compare n).2.1

def value_compareValues (n : Nat) : (List Val) → (List Val) → Option Int := (scc_value_Compare n).2.2

def value_Equal (n : Nat) (a : Val) (b : Val) : Option Bool :=
  Option.bind (value_Compare n a b) fun r1 =>
  some (r1 == 0)

def value_isZero (n : Nat) (v : Val) : Option Bool :=
  Option.bind (value_Equal n v (Val.mk 0 0 (⟨#[]⟩ : ByteArray) ([] : List Val) ([] : List Key) ([] : List Ent) ([] : List ByteArray))) fun r1 =>
  some r1

def value_validEntry (n : Nat) (e : Ent) (arity : Int) : Option Bool :=
  Option.bind (bif (e.Args.length : Int) == arity
  then (Option.bind (bif !e.Fails
  then (some true)
  else (Option.bind (value_isZero n e.Result) fun r1 =>
  some r1)) fun q2 =>
  some q2)
  else (some false)) fun q3 =>
  some q3

def value_validFunction_l1 (v : Val) (n : Nat) (x7 : Int) : Option (Fl Int (Sum Unit Bool)) :=
  bif decide (x7 < (v.Entries.length : Int))
  then (Option.bind (idx v.Entries x7) fun e8 =>
  Option.bind (value_validEntry n e8 v.Int_) fun r9 =>
  bif !r9
  then (some (.done (.inr false)))
  else (some (.next (wr .i64 (x7 + 1)))))
  else (some (.done (.inl ())))

def value_validFunction (n : Nat) (v : Val) : Option Bool :=
  Option.bind (bif decide (v.Int_ < 0)
  then (some true)
  else (some (decide (4 < v.Int_)))) fun q1 =>
  Option.bind (bif q1
  then (some true)
  else (Option.bind (value_ascending_api_Entry v.Entries (fun z2 z3 =>
  Option.bind (value_compareEntries n z2 z3) fun r4 =>
  some r4)) fun r5 =>
  some (!r5))) fun q6 =>
  bif q6
  then (some false)
  else (Option.bind (iter (value_validFunction_l1 v n) ((v.Entries.length : Int).toNat + 1) 0) fun b10 =>
  onEnd (fun _ =>
  some true) (fun y12 =>
  some y12) b10)

def value_validNode (n : Nat) (d : Val) : Option Bool :=
  Option.bind (value_uses d.Kind) fun r1 =>
  Option.bind (bif !r1.2
  then (some true)
  else (Option.bind (value_validLabels d.Labels) fun r2 =>
  some (!r2))) fun q3 =>
  bif q3
  then (some false)
  else (Option.bind (bif !r1.1.number
  then (some (d.Int_ != 0))
  else (some false)) fun q4 =>
  Option.bind (bif q4
  then (some true)
  else (Option.bind (bif !r1.1.text_
  then (some (!(strEq d.Text (⟨#[]⟩ : ByteArray))))
  else (some false)) fun q5 =>
  some q5)) fun q6 =>
  Option.bind (bif q6
  then (some true)
  else (Option.bind (bif !r1.1.kids
  then (some (decide (0 < (d.Kids.length : Int))))
  else (some false)) fun q7 =>
  some q7)) fun q8 =>
  Option.bind (bif q8
  then (some true)
  else (Option.bind (bif !r1.1.keys
  then (some (decide (0 < (d.Keys.length : Int))))
  else (some false)) fun q9 =>
  some q9)) fun q10 =>
  Option.bind (bif q10
  then (some true)
  else (Option.bind (bif !r1.1.entries
  then (some (decide (0 < (d.Entries.length : Int))))
  else (some false)) fun q11 =>
  some q11)) fun q12 =>
  bif q12
  then (some false)
  else (bif d.Kind == 2
  then (some (decide ((d.Text.size : Int) ≤ 64)))
  else (bif d.Kind == 3
  then (Option.bind (ident_IsAtom d.Text) fun r13 =>
  some r13)
  else (bif d.Kind == 4
  then (some (decide (0 ≤ d.Int_)))
  else (bif d.Kind == 6
  then (some (decide ((d.Kids.length : Int) ≤ 4)))
  else (bif d.Kind == 7
  then (Option.bind (bif (d.Kids.length : Int) == 2
  then (Option.bind (idx d.Kids 1) fun e14 =>
  Option.bind (bif e14.Kind == 5
  then (some true)
  else (Option.bind (idx d.Kids 1) fun e15 =>
  some (e15.Kind == 7))) fun q16 =>
  some q16)
  else (some false)) fun q17 =>
  some q17)
  else (bif d.Kind == 8
  then (Option.bind (value_validMap d) fun r18 =>
  some r18)
  else (bif d.Kind == 9
  then (Option.bind (value_validFunction n d) fun r19 =>
  some r19)
  else (some true)))))))))

def value_validTree_l1 (r2 : List Val) (rec_value_validTree : Val → Option Bool) (x3 : Int) : Option (Fl Int (Sum Unit Bool)) :=
  bif decide (x3 < (r2.length : Int))
  then (Option.bind (idx r2 x3) fun e4 =>
  Option.bind (rec_value_validTree e4) fun r5 =>
  bif !r5
  then (some (.done (.inr false)))
  else (some (.next (wr .i64 (x3 + 1)))))
  else (some (.done (.inl ())))

def value_validTree_B (n : Nat) (rec_value_validTree : Val → Option Bool) (v : Val) : Option Bool :=
  Option.bind (value_validNode n v) fun r1 =>
  bif !r1
  then (some false)
  else (Option.bind (value_parts v) fun r2 =>
  Option.bind (iter (value_validTree_l1 r2 rec_value_validTree) ((r2.length : Int).toNat + 1) 0) fun b6 =>
  onEnd (fun _ =>
  some true) (fun y8 =>
  some y8) b6)

def value_validTree : Nat → Val → Option Bool
  | 0 => fun _ => none
  | n + 1 => value_validTree_B n (value_validTree n)

def value_Validate (n : Nat) (v : Val) : Option Int :=
  Option.bind (value_validTree n v) fun r1 =>
  bif !r1
  then (some 1)
  else (some 0)

def value_Cons (n : Nat) (head : Val) (tail : Val) : Option Val :=
  Option.bind (value_clone n head) fun r1 =>
  Option.bind (value_clone n tail) fun r2 =>
  some (Val.mk 7 0 (⟨#[]⟩ : ByteArray) ([r1, r2] : List Val) ([] : List Key) ([] : List Ent) ([] : List ByteArray))

def semtypelaw4_awake (n : Nat)  : Option Bool :=
  Option.bind (value_Int 1) fun r1 =>
  Option.bind (value_Int 2) fun r2 =>
  Option.bind (value_List n ([r1, r2] : List Val)) fun r3 =>
  Option.bind (value_Nodes n r3) fun r4 =>
  Option.bind (bif r4 == 5
  then (Option.bind (value_Height n r3) fun r5 =>
  some (r5 == 3))
  else (some false)) fun q6 =>
  Option.bind (bif q6
  then (Option.bind (value_Validate n r3) fun r7 =>
  some (r7 == 0))
  else (some false)) fun q8 =>
  Option.bind (bif q8
  then (Option.bind (value_Validate n (Val.mk 0 0 (⟨#[]⟩ : ByteArray) ([] : List Val) ([] : List Key) ([] : List Ent) ([] : List ByteArray))) fun r9 =>
  some (r9 == 1))
  else (some false)) fun q10 =>
  Option.bind (bif q10
  then (Option.bind (value_Int 1) fun r11 =>
  Option.bind (value_Int 2) fun r12 =>
  Option.bind (value_Nil) fun r13 =>
  Option.bind (value_Cons n r12 r13) fun r14 =>
  Option.bind (value_Cons n r11 r14) fun r15 =>
  Option.bind (value_Equal n r3 r15) fun r16 =>
  some r16)
  else (some false)) fun q17 =>
  some q17

def semtypebase_Source_Next (s : Semtypebase_Source) (n_1 : Int) : Option (Int × Semtypebase_Source) :=
  Option.bind (bif decide (n_1 < 1)
  then (some true)
  else (some (decide ((s.L.length : Int) ≤ s.At)))) fun q1 =>
  bif q1
  then (some (0, s))
  else (Option.bind (idx s.L s.At) fun e2 =>
  Option.bind (qrem e2 n_1) fun d3 =>
  bif decide (d3 < 0)
  then (some (wr .i64 (d3 + n_1), Semtypebase_Source.mk s.L (wr .i64 (s.At + 1))))
  else (some (d3, Semtypebase_Source.mk s.L (wr .i64 (s.At + 1)))))

def semtypebase_Source_Number (s : Semtypebase_Source) : Option (Int × Semtypebase_Source) :=
  Option.bind (semtypebase_Source_Next s 10) fun r1 =>
  Option.bind (idx ([0, 1, (-1), 2, 3, (-2), 7, (-9223372036854775808), 9223372036854775807, 10] : List Int) r1.1) fun _ =>
  Option.bind (([0, 1, (-1), 2, 3, (-2), 7, (-9223372036854775808), 9223372036854775807, 10] : List Int)[r1.1.toNat]?) fun e3 =>
  some (e3, r1.2)

def semtyperef1_Int (n_0 : Int) : Option Val :=
  some (Val.mk 1 n_0 (⟨#[]⟩ : ByteArray) ([] : List Val) ([] : List Key) ([] : List Ent) ([] : List ByteArray))

def semtypebase_Source_AtomName (s : Semtypebase_Source) : Option (ByteArray × Semtypebase_Source) :=
  Option.bind (semtypebase_Source_Next s 4) fun r1 =>
  Option.bind (idx ([(⟨#[97]⟩ : ByteArray), (⟨#[98]⟩ : ByteArray), (⟨#[111, 107]⟩ : ByteArray), (⟨#[101, 114, 114, 111, 114]⟩ : ByteArray)] : List ByteArray) r1.1) fun _ =>
  Option.bind (([(⟨#[97]⟩ : ByteArray), (⟨#[98]⟩ : ByteArray), (⟨#[111, 107]⟩ : ByteArray), (⟨#[101, 114, 114, 111, 114]⟩ : ByteArray)] : List ByteArray)[r1.1.toNat]?) fun e3 =>
  some (e3, r1.2)

def semtyperef1_Atom (s : ByteArray) : Option Val :=
  some (Val.mk 3 0 s ([] : List Val) ([] : List Key) ([] : List Ent) ([] : List ByteArray))

def semtypebase_Source_Word (s : Semtypebase_Source) : Option (ByteArray × Semtypebase_Source) :=
  Option.bind (semtypebase_Source_Next s 4) fun r1 =>
  Option.bind (idx ([(⟨#[]⟩ : ByteArray), (⟨#[115]⟩ : ByteArray), (⟨#[120, 32, 121]⟩ : ByteArray), (⟨#[97]⟩ : ByteArray)] : List ByteArray) r1.1) fun _ =>
  Option.bind (([(⟨#[]⟩ : ByteArray), (⟨#[115]⟩ : ByteArray), (⟨#[120, 32, 121]⟩ : ByteArray), (⟨#[97]⟩ : ByteArray)] : List ByteArray)[r1.1.toNat]?) fun e3 =>
  some (e3, r1.2)

def semtyperef1_String (s : ByteArray) : Option Val :=
  some (Val.mk 2 0 s ([] : List Val) ([] : List Key) ([] : List Ent) ([] : List ByteArray))

def semtyperef1_Pid (n_0 : Int) : Option Val :=
  some (Val.mk 4 n_0 (⟨#[]⟩ : ByteArray) ([] : List Val) ([] : List Key) ([] : List Ent) ([] : List ByteArray))

def semtyperef1_Nil  : Option Val :=
  some (Val.mk 5 0 (⟨#[]⟩ : ByteArray) ([] : List Val) ([] : List Key) ([] : List Ent) ([] : List ByteArray))

def semtyperef1_copies (l : List Val) : Option (List Val) :=
  Option.bind (room (0 + l.length) 128) fun _ =>
  some l

def semtyperef1_Tuple (l : List Val) : Option Val :=
  Option.bind (semtyperef1_copies l) fun r1 =>
  some (Val.mk 6 0 (⟨#[]⟩ : ByteArray) r1 ([] : List Key) ([] : List Ent) ([] : List ByteArray))

def semtypebase_Source_leaf (s : Semtypebase_Source) : Option (Val × Semtypebase_Source) :=
  Option.bind (semtypebase_Source_Next s 6) fun r1 =>
  bif r1.1 == 0
  then (Option.bind (semtypebase_Source_Number r1.2) fun r2 =>
  Option.bind (semtyperef1_Int r2.1) fun r3 =>
  some (r3, r2.2))
  else (bif r1.1 == 1
  then (Option.bind (semtypebase_Source_AtomName r1.2) fun r4 =>
  Option.bind (semtyperef1_Atom r4.1) fun r5 =>
  some (r5, r4.2))
  else (bif r1.1 == 2
  then (Option.bind (semtypebase_Source_Word r1.2) fun r6 =>
  Option.bind (semtyperef1_String r6.1) fun r7 =>
  some (r7, r6.2))
  else (bif r1.1 == 3
  then (Option.bind (semtypebase_Source_Next r1.2 3) fun r8 =>
  Option.bind (semtyperef1_Pid r8.1) fun r9 =>
  some (r9, r8.2))
  else (bif r1.1 == 4
  then (Option.bind (semtyperef1_Nil) fun r10 =>
  some (r10, r1.2))
  else (Option.bind (semtyperef1_Tuple ([] : List Val)) fun r11 =>
  some (r11, r1.2))))))

def semtyperef1_Cons (head : Val) (tail : Val) : Option Val :=
  some (Val.mk 7 0 (⟨#[]⟩ : ByteArray) ([head, tail] : List Val) ([] : List Key) ([] : List Ent) ([] : List ByteArray))

def semtypebase_Source_Label (s : Semtypebase_Source) : Option (ByteArray × Semtypebase_Source) :=
  Option.bind (semtypebase_Source_Next s 3) fun r1 =>
  Option.bind (idx ([(⟨#[65]⟩ : ByteArray), (⟨#[66]⟩ : ByteArray), (⟨#[67]⟩ : ByteArray)] : List ByteArray) r1.1) fun _ =>
  Option.bind (([(⟨#[65]⟩ : ByteArray), (⟨#[66]⟩ : ByteArray), (⟨#[67]⟩ : ByteArray)] : List ByteArray)[r1.1.toNat]?) fun e3 =>
  some (e3, r1.2)

def semtyperef1_Sorted_l1 (l : List ByteArray) (x1 : (List ByteArray) × Int) (x2 : Int) : Option (Fl Int Int) :=
  Option.bind (bif decide (x2 < (x1.1.length : Int))
  then (Option.bind (idx x1.1 x2) fun e3 =>
  Option.bind (idx l x1.2) fun e4 =>
  some (strLt e3 e4))
  else (some false)) fun q5 =>
  bif q5
  then (some (.next (wr .i64 (x2 + 1))))
  else (some (.done x2))

def semtyperef1_Sorted_l2 (l : List ByteArray) (x1 : (List ByteArray) × Int) : Option (Fl ((List ByteArray) × Int) (List ByteArray)) :=
  bif decide (x1.2 < (l.length : Int))
  then (Option.bind (Option.bind (iter (semtyperef1_Sorted_l1 l x1) ((x1.1.length : Int).toNat + 1) 0) fun b6 =>
  Option.bind (bif decide (b6 < (x1.1.length : Int))
  then (Option.bind (idx x1.1 b6) fun e7 =>
  Option.bind (idx l x1.2) fun e8 =>
  some (strEq e7 e8))
  else (some false)) fun q9 =>
  bif q9
  then (some x1.1)
  else (Option.bind (cut x1.1 0 b6) fun y10 =>
  Option.bind (room (0 + y10.length) 16) fun _ =>
  Option.bind (idx l x1.2) fun e12 =>
  Option.bind (room (y10.length + ([e12] : List ByteArray).length) 16) fun _ =>
  Option.bind (cut x1.1 b6 (x1.1.length : Int)) fun y14 =>
  Option.bind (room ((y10 ++ ([e12] : List ByteArray)).length + y14.length) 16) fun _ =>
  some ((y10 ++ ([e12] : List ByteArray)) ++ y14))) fun b16 =>
  some (.next (b16, wr .i64 (x1.2 + 1))))
  else (some (.done x1.1))

def semtyperef1_Sorted (l : List ByteArray) : Option (List ByteArray) :=
  Option.bind (iter (semtyperef1_Sorted_l2 l) ((l.length : Int).toNat + 1) (([] : List ByteArray), 0)) fun b17 =>
  some b17

def semtypebase_Source_Labels (s : Semtypebase_Source) : Option ((List ByteArray) × Semtypebase_Source) :=
  Option.bind (semtypebase_Source_Next s 3) fun r1 =>
  Option.bind (bif r1.1 == 1
  then (Option.bind (semtypebase_Source_Label r1.2) fun r2 =>
  Option.bind (room (0 + ([r2.1] : List ByteArray).length) 16) fun _ =>
  Option.bind (semtypebase_Source_Next r2.2 2) fun r4 =>
  bif r4.1 == 1
  then (Option.bind (semtypebase_Source_Label r4.2) fun r5 =>
  Option.bind (room (([r2.1] : List ByteArray).length + ([r5.1] : List ByteArray).length) 16) fun _ =>
  some (([r2.1] : List ByteArray) ++ ([r5.1] : List ByteArray), r5.2))
  else (some (([r2.1] : List ByteArray), r4.2)))
  else (some ([], r1.2))) fun b7 =>
  Option.bind (semtyperef1_Sorted b7.1) fun r8 =>
  some (r8, b7.2)

def semtypebase_Source_Key (s : Semtypebase_Source) : Option (Key × Semtypebase_Source) :=
  Option.bind (semtypebase_Source_Next s 2) fun r1 =>
  bif r1.1 == 0
  then (Option.bind (semtypebase_Source_AtomName r1.2) fun r2 =>
  some (Key.mk 0 r2.1, r2.2))
  else (Option.bind (semtypebase_Source_Word r1.2) fun r3 =>
  some (Key.mk 1 r3.1, r3.2))

def semtyperef1_lower (c : Int) : Option Bool :=
  Option.bind (bif decide (97 ≤ c)
  then (some (decide (c ≤ 122)))
  else (some false)) fun q1 =>
  some q1

def semtyperef1_digit (c : Int) : Option Bool :=
  Option.bind (bif decide (48 ≤ c)
  then (some (decide (c ≤ 57)))
  else (some false)) fun q1 =>
  some q1

def semtyperef1_IsAtom_l1 (s : ByteArray) (x5 : Int) : Option (Fl Int (Sum Unit Bool)) :=
  bif decide (x5 < (s.size : Int))
  then (Option.bind (sidx s x5) fun e6 =>
  Option.bind (semtyperef1_lower (e6.toNat : Int)) fun r7 =>
  Option.bind (bif !r7
  then (Option.bind (sidx s x5) fun e8 =>
  Option.bind (semtyperef1_digit (e8.toNat : Int)) fun r9 =>
  some (!r9))
  else (some false)) fun q10 =>
  Option.bind (bif q10
  then (Option.bind (sidx s x5) fun e11 =>
  some ((e11.toNat : Int) != 95))
  else (some false)) fun q12 =>
  bif q12
  then (some (.done (.inr false)))
  else (some (.next (wr .i64 (x5 + 1)))))
  else (some (.done (.inl ())))

def semtyperef1_IsAtom (s : ByteArray) : Option Bool :=
  Option.bind (bif decide ((s.size : Int) < 1)
  then (some true)
  else (some (decide (16 < (s.size : Int))))) fun q1 =>
  Option.bind (bif q1
  then (some true)
  else (Option.bind (sidx s 0) fun e2 =>
  Option.bind (semtyperef1_lower (e2.toNat : Int)) fun r3 =>
  some (!r3))) fun q4 =>
  bif q4
  then (some false)
  else (Option.bind (iter (semtyperef1_IsAtom_l1 s) ((s.size : Int).toNat + 1) 1) fun b13 =>
  onEnd (fun _ =>
  some true) (fun y15 =>
  some y15) b13)

def semtyperef1_ValidKey (k : Key) : Option Bool :=
  Option.bind (bif k.Kind == 0
  then (Option.bind (semtyperef1_IsAtom k.Text) fun r1 =>
  some r1)
  else (some false)) fun q2 =>
  Option.bind (bif q2
  then (some true)
  else (Option.bind (bif k.Kind == 1
  then (some (decide ((k.Text.size : Int) ≤ 64)))
  else (some false)) fun q3 =>
  some q3)) fun q4 =>
  some q4

def semtyperef1_Order (a : Int) (b : Int) : Option Int :=
  bif decide (a < b)
  then (some (-1))
  else (bif decide (b < a)
  then (some 1)
  else (some 0))

def semtyperef1_Text (a : ByteArray) (b : ByteArray) : Option Int :=
  bif strLt a b
  then (some (-1))
  else (bif !(strLt a b || strEq a b)
  then (some 1)
  else (some 0))

def semtyperef1_CompareKeys (a : Key) (b : Key) : Option Int :=
  bif a.Kind != b.Kind
  then (Option.bind (semtyperef1_Order a.Kind b.Kind) fun r1 =>
  some r1)
  else (Option.bind (semtyperef1_Text a.Text b.Text) fun r2 =>
  some r2)

def semtyperef1_Map_l1 (d : List Key) (x1 : Int × (Int × Int × ByteArray × (List Val) × (List Key) × (List Ent) × (List ByteArray))) : Option (Fl (Int × (Int × Int × ByteArray × (List Val) × (List Key) × (List Ent) × (List ByteArray))) (Sum (Int × Int × ByteArray × (List Val) × (List Key) × (List Ent) × (List ByteArray)) (Int × (Int × Int × ByteArray × (List Val) × (List Key) × (List Ent) × (List ByteArray))))) :=
  bif decide (x1.1 < (d.length : Int))
  then (Option.bind (idx d x1.1) fun e2 =>
  Option.bind (semtyperef1_ValidKey e2) fun r3 =>
  bif !r3
  then (some (.done (.inr (1, (0, 0, (⟨#[]⟩ : ByteArray), [], [], [], [])))))
  else (some (.next (wr .i64 (x1.1 + 1), (x1.2.1, x1.2.2.1, x1.2.2.2.1, x1.2.2.2.2.1, x1.2.2.2.2.2.1, x1.2.2.2.2.2.2.1, x1.2.2.2.2.2.2.2)))))
  else (some (.done (.inl (x1.2.1, x1.2.2.1, x1.2.2.2.1, x1.2.2.2.2.1, x1.2.2.2.2.2.1, x1.2.2.2.2.2.2.1, x1.2.2.2.2.2.2.2))))

def semtyperef1_Map_l2 (d : List Key) (x7 : Int × (Int × Int × ByteArray × (List Val) × (List Key) × (List Ent) × (List ByteArray)) × (Int × Int × ByteArray × (List Val) × (List Key) × (List Ent) × (List ByteArray))) (x8 : Int) : Option (Fl Int Int) :=
  Option.bind (bif decide (x8 < (x7.2.2.2.2.2.2.1.length : Int))
  then (Option.bind (idx x7.2.2.2.2.2.2.1 x8) fun e9 =>
  Option.bind (idx d x7.1) fun e10 =>
  Option.bind (semtyperef1_CompareKeys e9 e10) fun r11 =>
  some (decide (r11 < 0)))
  else (some false)) fun q12 =>
  bif q12
  then (some (.next (wr .i64 (x8 + 1))))
  else (some (.done x8))

def semtyperef1_Map_l3 (d : List Key) (t : List Val) (x7 : Int × (Int × Int × ByteArray × (List Val) × (List Key) × (List Ent) × (List ByteArray)) × (Int × Int × ByteArray × (List Val) × (List Key) × (List Ent) × (List ByteArray))) : Option (Fl (Int × (Int × Int × ByteArray × (List Val) × (List Key) × (List Ent) × (List ByteArray)) × (Int × Int × ByteArray × (List Val) × (List Key) × (List Ent) × (List ByteArray))) (Sum ((Int × Int × ByteArray × (List Val) × (List Key) × (List Ent) × (List ByteArray)) × (Int × Int × ByteArray × (List Val) × (List Key) × (List Ent) × (List ByteArray))) (Int × (Int × Int × ByteArray × (List Val) × (List Key) × (List Ent) × (List ByteArray)) × (Int × Int × ByteArray × (List Val) × (List Key) × (List Ent) × (List ByteArray))))) :=
  bif decide (x7.1 < (d.length : Int))
  then (Option.bind (iter (semtyperef1_Map_l2 d x7) ((x7.2.2.2.2.2.2.1.length : Int).toNat + 1) 0) fun b13 =>
  Option.bind (bif decide (b13 < (x7.2.2.2.2.2.2.1.length : Int))
  then (Option.bind (idx x7.2.2.2.2.2.2.1 b13) fun e14 =>
  Option.bind (idx d x7.1) fun e15 =>
  some (eqD_58 e14 e15))
  else (some false)) fun q16 =>
  bif q16
  then (some (.done (.inr (6, (0, 0, (⟨#[]⟩ : ByteArray), [], [], [], []), (x7.2.2.1, x7.2.2.2.1, x7.2.2.2.2.1, x7.2.2.2.2.2.1, x7.2.2.2.2.2.2.1, x7.2.2.2.2.2.2.2.1, x7.2.2.2.2.2.2.2.2)))))
  else (Option.bind (cut x7.2.2.2.2.2.2.1 0 b13) fun y17 =>
  Option.bind (room (0 + y17.length) 24) fun _ =>
  Option.bind (cut x7.2.2.2.2.2.1 0 b13) fun y19 =>
  Option.bind (semtyperef1_copies y19) fun r20 =>
  Option.bind (idx d x7.1) fun e21 =>
  Option.bind (room (y17.length + ([e21] : List Key).length) 24) fun _ =>
  Option.bind (cut x7.2.2.2.2.2.2.1 b13 (x7.2.2.2.2.2.2.1.length : Int)) fun y23 =>
  Option.bind (room ((y17 ++ ([e21] : List Key)).length + y23.length) 24) fun _ =>
  Option.bind (idx t x7.1) fun e25 =>
  Option.bind (room (r20.length + ([e25] : List Val).length) 128) fun _ =>
  Option.bind (cut x7.2.2.2.2.2.1 b13 (x7.2.2.2.2.2.1.length : Int)) fun y27 =>
  Option.bind (room ((r20 ++ ([e25] : List Val)).length + y27.length) 128) fun _ =>
  some (.next (wr .i64 (x7.1 + 1), (x7.2.1.1, x7.2.1.2.1, x7.2.1.2.2.1, x7.2.1.2.2.2.1, x7.2.1.2.2.2.2.1, x7.2.1.2.2.2.2.2.1, x7.2.1.2.2.2.2.2.2), (x7.2.2.1, x7.2.2.2.1, x7.2.2.2.2.1, (r20 ++ ([e25] : List Val)) ++ y27, (y17 ++ ([e21] : List Key)) ++ y23, x7.2.2.2.2.2.2.2.1, x7.2.2.2.2.2.2.2.2)))))
  else (some (.done (.inl ((x7.2.1.1, x7.2.1.2.1, x7.2.1.2.2.1, x7.2.1.2.2.2.1, x7.2.1.2.2.2.2.1, x7.2.1.2.2.2.2.2.1, x7.2.1.2.2.2.2.2.2), (x7.2.2.1, x7.2.2.2.1, x7.2.2.2.2.1, x7.2.2.2.2.2.1, x7.2.2.2.2.2.2.1, x7.2.2.2.2.2.2.2.1, x7.2.2.2.2.2.2.2.2)))))

def semtyperef1_Map (d : List Key) (t : List Val) : Option (Val × Int) :=
  bif (d.length : Int) != (t.length : Int)
  then (some (Val.mk 0 0 (⟨#[]⟩ : ByteArray) ([] : List Val) ([] : List Key) ([] : List Ent) ([] : List ByteArray), 1))
  else (Option.bind (iter (semtyperef1_Map_l1 d) ((d.length : Int).toNat + 1) (0, (0, 0, (⟨#[]⟩ : ByteArray), [], [], [], []))) fun (b4 : Sum (Int × Int × ByteArray × (List Val) × (List Key) × (List Ent) × (List ByteArray)) (Int × (Int × Int × ByteArray × (List Val) × (List Key) × (List Ent) × (List ByteArray)))) =>
  onEnd (fun x5 =>
  Option.bind (iter (semtyperef1_Map_l3 d t) ((d.length : Int).toNat + 1) (0, (x5.1, x5.2.1, x5.2.2.1, x5.2.2.2.1, x5.2.2.2.2.1, x5.2.2.2.2.2.1, x5.2.2.2.2.2.2), (8, 0, (⟨#[]⟩ : ByteArray), ([] : List Val), ([] : List Key), [], []))) fun (b29 : Sum ((Int × Int × ByteArray × (List Val) × (List Key) × (List Ent) × (List ByteArray)) × (Int × Int × ByteArray × (List Val) × (List Key) × (List Ent) × (List ByteArray))) (Int × (Int × Int × ByteArray × (List Val) × (List Key) × (List Ent) × (List ByteArray)) × (Int × Int × ByteArray × (List Val) × (List Key) × (List Ent) × (List ByteArray)))) =>
  onEnd (fun x30 =>
  some (Val.mk x30.2.1 x30.2.2.1 x30.2.2.2.1 x30.2.2.2.2.1 x30.2.2.2.2.2.1 x30.2.2.2.2.2.2.1 x30.2.2.2.2.2.2.2, 0)) (fun y31 =>
  some (Val.mk y31.2.1.1 y31.2.1.2.1 y31.2.1.2.2.1 y31.2.1.2.2.2.1 y31.2.1.2.2.2.2.1 y31.2.1.2.2.2.2.2.1 y31.2.1.2.2.2.2.2.2, y31.1)) b29) (fun y6 =>
  some (Val.mk y6.2.1 y6.2.2.1 y6.2.2.2.1 y6.2.2.2.2.1 y6.2.2.2.2.2.1 y6.2.2.2.2.2.2.1 y6.2.2.2.2.2.2.2, y6.1)) b4)

def semtyperef1_count (a : Int) (b : Int) : Option Int :=
  Option.bind (semtyperef1_Order a b) fun r1 =>
  some r1

def semtyperef1_Compare_l1 (d : Val) (t : Val) (x5 : Int) : Option (Fl Int (Sum Unit Int)) :=
  bif decide (x5 < (d.Keys.length : Int))
  then (Option.bind (idx d.Keys x5) fun e6 =>
  Option.bind (idx t.Keys x5) fun e7 =>
  Option.bind (semtyperef1_CompareKeys e6 e7) fun r8 =>
  bif r8 != 0
  then (some (.done (.inr r8)))
  else (some (.next (wr .i64 (x5 + 1)))))
  else (some (.done (.inl ())))

def semtyperef1_Compare_l2 (d : Val) (t : Val) (rec_semtyperef1_CompareEntries : Ent → Ent → Option Int) (x14 : Int) : Option (Fl Int (Sum Unit Int)) :=
  bif decide (x14 < (d.Entries.length : Int))
  then (Option.bind (idx d.Entries x14) fun e15 =>
  Option.bind (idx t.Entries x14) fun e16 =>
  Option.bind (rec_semtyperef1_CompareEntries e15 e16) fun r17 =>
  bif r17 != 0
  then (some (.done (.inr r17)))
  else (some (.next (wr .i64 (x14 + 1)))))
  else (some (.done (.inl ())))

def semtyperef1_Compare_l3 (d : Val) (t : Val) (x22 : Int) : Option (Fl Int (Sum Unit Int)) :=
  bif decide (x22 < (d.Labels.length : Int))
  then (Option.bind (idx d.Labels x22) fun e23 =>
  Option.bind (idx t.Labels x22) fun e24 =>
  Option.bind (semtyperef1_Text e23 e24) fun r25 =>
  bif r25 != 0
  then (some (.done (.inr r25)))
  else (some (.next (wr .i64 (x22 + 1)))))
  else (some (.done (.inl ())))

def semtyperef1_values_l1 (a : List Val) (b : List Val) (rec_semtyperef1_Compare : Val → Val → Option Int) (x2 : Int) : Option (Fl Int (Sum Unit Int)) :=
  bif decide (x2 < (a.length : Int))
  then (Option.bind (idx a x2) fun e3 =>
  Option.bind (idx b x2) fun e4 =>
  Option.bind (rec_semtyperef1_Compare e3 e4) fun r5 =>
  bif r5 != 0
  then (some (.done (.inr r5)))
  else (some (.next (wr .i64 (x2 + 1)))))
  else (some (.done (.inl ())))

def semtyperef1_Compare_B (_ : Nat) (_ : Val → Val → Option Int) (rec_semtyperef1_values : (List Val) → (List Val) → Option Int) (rec_semtyperef1_CompareEntries : Ent → Ent → Option Int) (d : Val) (t : Val) : Option Int :=
  bif d.Kind != t.Kind
  then (Option.bind (semtyperef1_count d.Kind t.Kind) fun r1 =>
  some r1)
  else (bif d.Int_ != t.Int_
  then (Option.bind (semtyperef1_Order d.Int_ t.Int_) fun r2 =>
  some r2)
  else (bif !(strEq d.Text t.Text)
  then (Option.bind (semtyperef1_Text d.Text t.Text) fun r3 =>
  some r3)
  else (bif (d.Keys.length : Int) != (t.Keys.length : Int)
  then (Option.bind (semtyperef1_count (d.Keys.length : Int) (t.Keys.length : Int)) fun r4 =>
  some r4)
  else (Option.bind (iter (semtyperef1_Compare_l1 d t) ((d.Keys.length : Int).toNat + 1) 0) fun b9 =>
  onEnd (fun _ =>
  Option.bind (rec_semtyperef1_values d.Kids t.Kids) fun r12 =>
  bif r12 != 0
  then (some r12)
  else (bif (d.Entries.length : Int) != (t.Entries.length : Int)
  then (Option.bind (semtyperef1_count (d.Entries.length : Int) (t.Entries.length : Int)) fun r13 =>
  some r13)
  else (Option.bind (iter (semtyperef1_Compare_l2 d t rec_semtyperef1_CompareEntries) ((d.Entries.length : Int).toNat + 1) 0) fun b18 =>
  onEnd (fun _ =>
  bif (d.Labels.length : Int) != (t.Labels.length : Int)
  then (Option.bind (semtyperef1_count (d.Labels.length : Int) (t.Labels.length : Int)) fun r21 =>
  some r21)
  else (Option.bind (iter (semtyperef1_Compare_l3 d t) ((d.Labels.length : Int).toNat + 1) 0) fun b26 =>
  onEnd (fun _ =>
  some 0) (fun y28 =>
  some y28) b26)) (fun y20 =>
  some y20) b18))) (fun y11 =>
  some y11) b9))))

def semtyperef1_values_B (_ : Nat) (rec_semtyperef1_Compare : Val → Val → Option Int) (_ : (List Val) → (List Val) → Option Int) (_ : Ent → Ent → Option Int) (a : List Val) (b : List Val) : Option Int :=
  bif (a.length : Int) != (b.length : Int)
  then (Option.bind (semtyperef1_count (a.length : Int) (b.length : Int)) fun r1 =>
  some r1)
  else (Option.bind (iter (semtyperef1_values_l1 a b rec_semtyperef1_Compare) ((a.length : Int).toNat + 1) 0) fun b6 =>
  onEnd (fun _ =>
  some 0) (fun y8 =>
  some y8) b6)

def semtyperef1_CompareEntries_B (_ : Nat) (rec_semtyperef1_Compare : Val → Val → Option Int) (rec_semtyperef1_values : (List Val) → (List Val) → Option Int) (_ : Ent → Ent → Option Int) (a : Ent) (b : Ent) : Option Int :=
  Option.bind (rec_semtyperef1_values a.Args b.Args) fun r1 =>
  bif r1 != 0
  then (some r1)
  else (bif a.Fails != b.Fails
  then (bif a.Fails
  then (some (-1))
  else (some 1))
  else (Option.bind (rec_semtyperef1_Compare a.Result b.Result) fun r2 =>
  some r2))

def scc_semtyperef1_Compare : Nat → (Val → Val → Option Int) × ((List Val) → (List Val) → Option Int) × (Ent → Ent → Option Int)
  | 0 => (fun _ _ => none, fun _ _ => none, fun _ _ => none)
  | n + 1 => (semtyperef1_Compare_B n ((scc_semtyperef1_Compare n).1) ((scc_semtyperef1_Compare n).2.1) ((scc_semtyperef1_Compare n).2.2), semtyperef1_values_B n ((scc_semtyperef1_Compare n).1) ((scc_semtyperef1_Compare n).2.1) ((scc_semtyperef1_Compare n).2.2), semtyperef1_CompareEntries_B n ((scc_semtyperef1_Compare n).1) ((scc_semtyperef1_Compare n).2.1) ((scc_semtyperef1_Compare n).2.2))

def semtyperef1_Compare (n : Nat) : Val → Val → Option Int := (scc_semtyperef1_Compare n).1

def semtyperef1_values (n : Nat) : (List Val) → (List Val) → Option Int := (scc_semtyperef1_Compare n).2.1

def semtyperef1_CompareEntries (n : Nat) : Ent → Ent → Option Int := (scc_semtyperef1_Compare n).2.2

def semtyperef1_Equal (n : Nat) (a : Val) (b : Val) : Option Bool :=
  Option.bind (semtyperef1_Compare n a b) fun r1 =>
  some (r1 == 0)

def semtyperef1_entries_l1 (l : List Ent) (x1 : (List Ent) × Int) (n : Nat) (x2 : Int) : Option (Fl Int Int) :=
  Option.bind (bif decide (x2 < (x1.1.length : Int))
  then (Option.bind (idx x1.1 x2) fun e3 =>
  Option.bind (idx l x1.2) fun _ =>
  Option.bind (l[x1.2.toNat]?) fun e5 =>
  Option.bind (semtyperef1_CompareEntries n e3 e5) fun r6 =>
  some (decide (r6 < 0)))
  else (some false)) fun q7 =>
  bif q7
  then (some (.next (wr .i64 (x2 + 1))))
  else (some (.done x2))

def semtyperef1_entries_l2 (l : List Ent) (n : Nat) (x1 : (List Ent) × Int) : Option (Fl ((List Ent) × Int) (List Ent)) :=
  bif decide (x1.2 < (l.length : Int))
  then (Option.bind (Option.bind (iter (semtyperef1_entries_l1 l x1 n) ((x1.1.length : Int).toNat + 1) 0) fun b8 =>
  Option.bind (bif decide (b8 < (x1.1.length : Int))
  then (Option.bind (idx x1.1 b8) fun e9 =>
  Option.bind (idx l x1.2) fun _ =>
  Option.bind (l[x1.2.toNat]?) fun e11 =>
  Option.bind (semtyperef1_CompareEntries n e9 e11) fun r12 =>
  some (r12 == 0))
  else (some false)) fun q13 =>
  bif q13
  then (some x1.1)
  else (Option.bind (cut x1.1 0 b8) fun y14 =>
  Option.bind (room (0 + y14.length) 160) fun _ =>
  Option.bind (idx l x1.2) fun _ =>
  Option.bind (l[x1.2.toNat]?) fun e17 =>
  Option.bind (room (y14.length + ([e17] : List Ent).length) 160) fun _ =>
  Option.bind (cut x1.1 b8 (x1.1.length : Int)) fun y19 =>
  Option.bind (room ((y14 ++ ([e17] : List Ent)).length + y19.length) 160) fun _ =>
  some ((y14 ++ ([e17] : List Ent)) ++ y19))) fun b21 =>
  some (.next (b21, wr .i64 (x1.2 + 1))))
  else (some (.done x1.1))

def semtyperef1_entries (n : Nat) (l : List Ent) : Option (List Ent) :=
  Option.bind (iter (semtyperef1_entries_l2 l n) ((l.length : Int).toNat + 1) (([] : List Ent), 0)) fun b22 =>
  some b22

def semtyperef1_Function_l1 (arity : Int) (l : List Ent) (n : Nat) (x2 : Int × (Int × Int × ByteArray × (List Val) × (List Key) × (List Ent) × (List ByteArray))) : Option (Fl (Int × (Int × Int × ByteArray × (List Val) × (List Key) × (List Ent) × (List ByteArray))) (Sum (Int × Int × ByteArray × (List Val) × (List Key) × (List Ent) × (List ByteArray)) (Int × (Int × Int × ByteArray × (List Val) × (List Key) × (List Ent) × (List ByteArray))))) :=
  bif decide (x2.1 < (l.length : Int))
  then (Option.bind (idx l x2.1) fun _ =>
  Option.bind (l[x2.1.toNat]?) fun e4 =>
  Option.bind (bif (e4.Args.length : Int) != arity
  then (some true)
  else (Option.bind (idx l x2.1) fun _ =>
  Option.bind (l[x2.1.toNat]?) fun e6 =>
  Option.bind (bif e6.Fails
  then (Option.bind (idx l x2.1) fun _ =>
  Option.bind (l[x2.1.toNat]?) fun e8 =>
  Option.bind (semtyperef1_Equal n e8.Result (Val.mk 0 0 (⟨#[]⟩ : ByteArray) ([] : List Val) ([] : List Key) ([] : List Ent) ([] : List ByteArray))) fun r9 =>
  some (!r9))
  else (some false)) fun q10 =>
  some q10)) fun q11 =>
  bif q11
  then (some (.done (.inr (1, (0, 0, (⟨#[]⟩ : ByteArray), [], [], [], [])))))
  else (some (.next (wr .i64 (x2.1 + 1), (x2.2.1, x2.2.2.1, x2.2.2.2.1, x2.2.2.2.2.1, x2.2.2.2.2.2.1, x2.2.2.2.2.2.2.1, x2.2.2.2.2.2.2.2)))))
  else (some (.done (.inl (x2.2.1, x2.2.2.1, x2.2.2.2.1, x2.2.2.2.2.1, x2.2.2.2.2.2.1, x2.2.2.2.2.2.2.1, x2.2.2.2.2.2.2.2))))

def semtyperef1_Function (n : Nat) (arity : Int) (l : List Ent) : Option (Val × Int) :=
  Option.bind (bif decide (arity < 0)
  then (some true)
  else (some (decide (4 < arity)))) fun q1 =>
  bif q1
  then (some (Val.mk 0 0 (⟨#[]⟩ : ByteArray) ([] : List Val) ([] : List Key) ([] : List Ent) ([] : List ByteArray), 1))
  else (Option.bind (iter (semtyperef1_Function_l1 arity l n) ((l.length : Int).toNat + 1) (0, (0, 0, (⟨#[]⟩ : ByteArray), [], [], [], []))) fun (b12 : Sum (Int × Int × ByteArray × (List Val) × (List Key) × (List Ent) × (List ByteArray)) (Int × (Int × Int × ByteArray × (List Val) × (List Key) × (List Ent) × (List ByteArray)))) =>
  onEnd (fun _ =>
  Option.bind (semtyperef1_entries n l) fun r15 =>
  some (Val.mk 9 arity (⟨#[]⟩ : ByteArray) ([] : List Val) ([] : List Key) r15 ([] : List ByteArray), 0)) (fun y14 =>
  some (Val.mk y14.2.1 y14.2.2.1 y14.2.2.2.1 y14.2.2.2.2.1 y14.2.2.2.2.2.1 y14.2.2.2.2.2.2.1 y14.2.2.2.2.2.2.2, y14.1)) b12)

def semtypebase_Source_value_l1 (t : Int) (rec_semtypebase_Source_Value : Semtypebase_Source → Int → Option (Val × Semtypebase_Source)) (x4 : (List Val) × Int × Semtypebase_Source) : Option (Fl ((List Val) × Int × Semtypebase_Source) ((List Val) × Semtypebase_Source)) :=
  bif decide (0 < x4.2.1)
  then (Option.bind (rec_semtypebase_Source_Value x4.2.2 (wr .i64 (t - 1))) fun r5 =>
  Option.bind (room (x4.1.length + ([r5.1] : List Val).length) 128) fun _ =>
  some (.next (x4.1 ++ ([r5.1] : List Val), wr .i64 (x4.2.1 - 1), r5.2)))
  else (some (.done (x4.1, x4.2.2)))

def semtypebase_Source_value_l2 (t : Int) (rec_semtypebase_Source_Value : Semtypebase_Source → Int → Option (Val × Semtypebase_Source)) (x20 : (List Key) × (List Val) × Int × Semtypebase_Source) : Option (Fl ((List Key) × (List Val) × Int × Semtypebase_Source) ((List Key) × (List Val) × Semtypebase_Source)) :=
  bif decide (0 < x20.2.2.1)
  then (Option.bind (semtypebase_Source_Key x20.2.2.2) fun r21 =>
  Option.bind (room (x20.1.length + ([r21.1] : List Key).length) 24) fun _ =>
  Option.bind (rec_semtypebase_Source_Value r21.2 (wr .i64 (t - 1))) fun r23 =>
  Option.bind (room (x20.2.1.length + ([r23.1] : List Val).length) 128) fun _ =>
  some (.next (x20.1 ++ ([r21.1] : List Key), x20.2.1 ++ ([r23.1] : List Val), wr .i64 (x20.2.2.1 - 1), r23.2)))
  else (some (.done (x20.1, x20.2.1, x20.2.2.2)))

def semtypebase_Source_value_l3 (t : Int) (r27 : Int × Semtypebase_Source) (rec_semtypebase_Source_entry : Semtypebase_Source → Int → Int → Option (Ent × Semtypebase_Source)) (x29 : (List Ent) × Int × Semtypebase_Source) : Option (Fl ((List Ent) × Int × Semtypebase_Source) ((List Ent) × Semtypebase_Source)) :=
  bif decide (0 < x29.2.1)
  then (Option.bind (rec_semtypebase_Source_entry x29.2.2 r27.1 (wr .i64 (t - 1))) fun r30 =>
  Option.bind (room (x29.1.length + ([r30.1] : List Ent).length) 160) fun _ =>
  some (.next (x29.1 ++ ([r30.1] : List Ent), wr .i64 (x29.2.1 - 1), r30.2)))
  else (some (.done (x29.1, x29.2.2)))

def semtypebase_Source_entry_l1 (height : Int) (rec_semtypebase_Source_Value : Semtypebase_Source → Int → Option (Val × Semtypebase_Source)) (x1 : Int × Semtypebase_Source × ((List Val) × Bool × Int × Int × ByteArray × (List Val) × (List Key) × (List Ent) × (List ByteArray))) : Option (Fl (Int × Semtypebase_Source × ((List Val) × Bool × Int × Int × ByteArray × (List Val) × (List Key) × (List Ent) × (List ByteArray))) (Semtypebase_Source × ((List Val) × Bool × Int × Int × ByteArray × (List Val) × (List Key) × (List Ent) × (List ByteArray)))) :=
  bif decide (0 < x1.1)
  then (Option.bind (rec_semtypebase_Source_Value x1.2.1 height) fun r2 =>
  Option.bind (room (x1.2.2.1.length + ([r2.1] : List Val).length) 128) fun _ =>
  some (.next (wr .i64 (x1.1 - 1), r2.2, (x1.2.2.1 ++ ([r2.1] : List Val), x1.2.2.2.1, x1.2.2.2.2.1, x1.2.2.2.2.2.1, x1.2.2.2.2.2.2.1, x1.2.2.2.2.2.2.2.1, x1.2.2.2.2.2.2.2.2.1, x1.2.2.2.2.2.2.2.2.2.1, x1.2.2.2.2.2.2.2.2.2.2))))
  else (some (.done (x1.2.1, (x1.2.2.1, x1.2.2.2.1, x1.2.2.2.2.1, x1.2.2.2.2.2.1, x1.2.2.2.2.2.2.1, x1.2.2.2.2.2.2.2.1, x1.2.2.2.2.2.2.2.2.1, x1.2.2.2.2.2.2.2.2.2.1, x1.2.2.2.2.2.2.2.2.2.2))))

def semtypebase_Source_Value_B (_ : Nat) (_ : Semtypebase_Source → Int → Option (Val × Semtypebase_Source)) (rec_semtypebase_Source_value : Semtypebase_Source → Int → Option (Val × Semtypebase_Source)) (_ : Semtypebase_Source → Int → Int → Option (Ent × Semtypebase_Source)) (s : Semtypebase_Source) (height : Int) : Option (Val × Semtypebase_Source) :=
  Option.bind (rec_semtypebase_Source_value s height) fun r1 =>
  Option.bind (semtypebase_Source_Labels r1.2) fun r2 =>
  some (Val.mk r1.1.Kind r1.1.Int_ r1.1.Text r1.1.Kids r1.1.Keys r1.1.Entries r2.1, r2.2)

def semtypebase_Source_value_B (n : Nat) (rec_semtypebase_Source_Value : Semtypebase_Source → Int → Option (Val × Semtypebase_Source)) (_ : Semtypebase_Source → Int → Option (Val × Semtypebase_Source)) (rec_semtypebase_Source_entry : Semtypebase_Source → Int → Int → Option (Ent × Semtypebase_Source)) (d : Semtypebase_Source) (t : Int) : Option (Val × Semtypebase_Source) :=
  bif decide (t ≤ 1)
  then (Option.bind (semtypebase_Source_leaf d) fun r1 =>
  some (r1.1, r1.2))
  else (Option.bind (semtypebase_Source_Next d 6) fun r2 =>
  Option.bind (bif r2.1 == 1
  then (Option.bind (semtypebase_Source_Next r2.2 4) fun r3 =>
  Option.bind (iter (semtypebase_Source_value_l1 t rec_semtypebase_Source_Value) (r3.1.toNat + 2) ([], r3.1, r3.2)) fun b7 =>
  Option.bind (semtyperef1_Tuple b7.1) fun r8 =>
  some (.inr (b7.2, (r8.Kind, r8.Int_, r8.Text, r8.Kids, r8.Keys, r8.Entries, r8.Labels))))
  else (bif r2.1 == 2
  then (Option.bind (semtyperef1_Nil) fun r9 =>
  Option.bind (bif decide (2 < t)
  then (Option.bind (semtypebase_Source_Next r2.2 2) fun r10 =>
  some (r10.1 == 1, r10.2))
  else (some (false, r2.2))) fun b11 =>
  Option.bind (bif b11.1
  then (Option.bind (rec_semtypebase_Source_Value b11.2 (wr .i64 (t - 2))) fun r12 =>
  Option.bind (semtyperef1_Nil) fun r13 =>
  Option.bind (semtyperef1_Cons r12.1 r13) fun r14 =>
  some (r12.2, r14))
  else (some (b11.2, r9))) fun b15 =>
  Option.bind (semtypebase_Source_Labels b15.1) fun r16 =>
  Option.bind (rec_semtypebase_Source_Value r16.2 (wr .i64 (t - 1))) fun r17 =>
  Option.bind (semtyperef1_Cons r17.1 (Val.mk b15.2.Kind b15.2.Int_ b15.2.Text b15.2.Kids b15.2.Keys b15.2.Entries r16.1)) fun r18 =>
  some (.inr (r17.2, (r18.Kind, r18.Int_, r18.Text, r18.Kids, r18.Keys, r18.Entries, r18.Labels))))
  else (bif r2.1 == 3
  then (Option.bind (semtypebase_Source_Next r2.2 3) fun r19 =>
  Option.bind (iter (semtypebase_Source_value_l2 t rec_semtypebase_Source_Value) (r19.1.toNat + 2) ([], [], r19.1, r19.2)) fun b25 =>
  Option.bind (semtyperef1_Map b25.1 b25.2.1) fun r26 =>
  bif r26.2 == 0
  then (some (.inr (b25.2.2, (r26.1.Kind, r26.1.Int_, r26.1.Text, r26.1.Kids, r26.1.Keys, r26.1.Entries, r26.1.Labels))))
  else (some (.inl (b25.2.2, (0, 0, (⟨#[]⟩ : ByteArray), ([] : List Val), ([] : List Key), ([] : List Ent), ([] : List ByteArray))))))
  else (bif r2.1 == 4
  then (Option.bind (semtypebase_Source_Next r2.2 3) fun r27 =>
  Option.bind (semtypebase_Source_Next r27.2 3) fun r28 =>
  Option.bind (iter (semtypebase_Source_value_l3 t r27 rec_semtypebase_Source_entry) (r28.1.toNat + 2) ([], r28.1, r28.2)) fun b32 =>
  Option.bind (semtyperef1_Function n r27.1 b32.1) fun r33 =>
  bif r33.2 == 0
  then (some (.inr (b32.2, (r33.1.Kind, r33.1.Int_, r33.1.Text, r33.1.Kids, r33.1.Keys, r33.1.Entries, r33.1.Labels))))
  else (some (.inl (b32.2, (0, 0, (⟨#[]⟩ : ByteArray), ([] : List Val), ([] : List Key), ([] : List Ent), ([] : List ByteArray))))))
  else (some (.inl (r2.2, (0, 0, (⟨#[]⟩ : ByteArray), ([] : List Val), ([] : List Key), ([] : List Ent), ([] : List ByteArray))))))))) fun (b34 : Sum (Semtypebase_Source × (Int × Int × ByteArray × (List Val) × (List Key) × (List Ent) × (List ByteArray))) (Semtypebase_Source × (Int × Int × ByteArray × (List Val) × (List Key) × (List Ent) × (List ByteArray)))) =>
  onEnd (fun x35 =>
  Option.bind (semtypebase_Source_leaf x35.1) fun r37 =>
  some (r37.1, r37.2)) (fun y36 =>
  some (Val.mk y36.2.1 y36.2.2.1 y36.2.2.2.1 y36.2.2.2.2.1 y36.2.2.2.2.2.1 y36.2.2.2.2.2.2.1 y36.2.2.2.2.2.2.2, y36.1)) b34)

def semtypebase_Source_entry_B (_ : Nat) (rec_semtypebase_Source_Value : Semtypebase_Source → Int → Option (Val × Semtypebase_Source)) (_ : Semtypebase_Source → Int → Option (Val × Semtypebase_Source)) (_ : Semtypebase_Source → Int → Int → Option (Ent × Semtypebase_Source)) (s : Semtypebase_Source) (n_1 : Int) (height : Int) : Option (Ent × Semtypebase_Source) :=
  Option.bind (iter (semtypebase_Source_entry_l1 height rec_semtypebase_Source_Value) (n_1.toNat + 2) (n_1, s, ([], false, 0, 0, (⟨#[]⟩ : ByteArray), [], [], [], []))) fun b4 =>
  Option.bind (semtypebase_Source_Next b4.1 4) fun r5 =>
  bif r5.1 == 1
  then (some (Ent.mk b4.2.1 true (Val.mk b4.2.2.2.1 b4.2.2.2.2.1 b4.2.2.2.2.2.1 b4.2.2.2.2.2.2.1 b4.2.2.2.2.2.2.2.1 b4.2.2.2.2.2.2.2.2.1 b4.2.2.2.2.2.2.2.2.2), r5.2))
  else (Option.bind (rec_semtypebase_Source_Value r5.2 height) fun r6 =>
  some (Ent.mk b4.2.1 b4.2.2.1 r6.1, r6.2))

def scc_semtypebase_Source_Value : Nat → (Semtypebase_Source → Int → Option (Val × Semtypebase_Source)) × (Semtypebase_Source → Int → Option (Val × Semtypebase_Source)) × (Semtypebase_Source → Int → Int → Option (Ent × Semtypebase_Source))
  | 0 => (fun _ _ => none, fun _ _ => none, fun _ _ _ => none)
  | n + 1 => (semtypebase_Source_Value_B n ((scc_semtypebase_Source_Value n).1) ((scc_semtypebase_Source_Value n).2.1) ((scc_semtypebase_Source_Value n).2.2), semtypebase_Source_value_B n ((scc_semtypebase_Source_Value n).1) ((scc_semtypebase_Source_Value n).2.1) ((scc_semtypebase_Source_Value n).2.2), semtypebase_Source_entry_B n ((scc_semtypebase_Source_Value n).1) ((scc_semtypebase_Source_Value n).2.1) ((scc_semtypebase_Source_Value n).2.2))

def semtypebase_Source_Value (n : Nat) : Semtypebase_Source → Int → Option (Val × Semtypebase_Source) := (scc_semtypebase_Source_Value n).1

def semtypebase_Source_value (n : Nat) : Semtypebase_Source → Int → Option (Val × Semtypebase_Source) := (scc_semtypebase_Source_Value n).2.1

def semtypebase_Source_entry (n : Nat) : Semtypebase_Source → Int → Int → Option (Ent × Semtypebase_Source) := (scc_semtypebase_Source_Value n).2.2

def semtypelaw4_drawn (n : Nat) (l : List Int) : Option Val :=
  Option.bind (semtypebase_Source_Value n (Semtypebase_Source.mk l 0) 4) fun r1 =>
  some r1.1

def value_Map_1 (a : Int) (b : Int) (a2_2 : List Key) : Option Int :=
  Option.bind (idx a2_2 a) fun e1 =>
  Option.bind (idx a2_2 b) fun e2 =>
  Option.bind (ident_CompareKeys e1 e2) fun r3 =>
  some r3

noncomputable def value_Map_l1 (d : List Key) (x1 : Int × (Int × Int × ByteArray × (List Val) × (List Key) × (List Ent) × (List ByteArray))) : Option (Fl (Int × (Int × Int × ByteArray × (List Val) × (List Key) × (List Ent) × (List ByteArray))) (Sum (Int × Int × ByteArray × (List Val) × (List Key) × (List Ent) × (List ByteArray)) (Int × (Int × Int × ByteArray × (List Val) × (List Key) × (List Ent) × (List ByteArray))))) :=
  bif decide (x1.1 < (d.length : Int))
  then (Option.bind (idx d x1.1) fun e2 =>
  Option.bind (ident_ValidKey e2) fun r3 =>
  bif !r3
  then (some (.done (.inr (1, (0, 0, (⟨#[]⟩ : ByteArray), [], [], [], [])))))
  else (some (.next (wr .i64 (x1.1 + 1), (x1.2.1, x1.2.2.1, x1.2.2.2.1, x1.2.2.2.2.1, x1.2.2.2.2.2.1, x1.2.2.2.2.2.2.1, x1.2.2.2.2.2.2.2)))))
  else (some (.done (.inl (x1.2.1, x1.2.2.1, x1.2.2.2.1, x1.2.2.2.2.1, x1.2.2.2.2.2.1, x1.2.2.2.2.2.2.1, x1.2.2.2.2.2.2.2))))

noncomputable def value_Map_l2 (d : List Key) (x7 : (List Int) × Int) : Option (Fl ((List Int) × Int) (List Int)) :=
  bif decide (x7.2 < (d.length : Int))
  then (Option.bind (room (x7.1.length + ([x7.2] : List Int).length) 8) fun _ =>
  some (.next (x7.1 ++ ([x7.2] : List Int), wr .i64 (x7.2 + 1))))
  else (some (.done x7.1))

noncomputable def value_Map_l3 (d : List Key) (t : List Val) (r13 : Unit × List Int) (n : Nat) (x14 : Int × (Int × Int × ByteArray × (List Val) × (List Key) × (List Ent) × (List ByteArray)) × (Int × Int × ByteArray × (List Val) × (List Key) × (List Ent) × (List ByteArray))) : Option (Fl (Int × (Int × Int × ByteArray × (List Val) × (List Key) × (List Ent) × (List ByteArray)) × (Int × Int × ByteArray × (List Val) × (List Key) × (List Ent) × (List ByteArray))) (Sum ((Int × Int × ByteArray × (List Val) × (List Key) × (List Ent) × (List ByteArray)) × (Int × Int × ByteArray × (List Val) × (List Key) × (List Ent) × (List ByteArray))) (Int × (Int × Int × ByteArray × (List Val) × (List Key) × (List Ent) × (List ByteArray)) × (Int × Int × ByteArray × (List Val) × (List Key) × (List Ent) × (List ByteArray))))) :=
  bif decide (x14.1 < (r13.2.length : Int))
  then (Option.bind (idx r13.2 x14.1) fun e15 =>
  Option.bind (bif decide (0 < (x14.2.2.2.2.2.2.1.length : Int))
  then (Option.bind (idx x14.2.2.2.2.2.2.1 (wr .i64 ((x14.2.2.2.2.2.2.1.length : Int) - 1))) fun _ =>
  Option.bind (x14.2.2.2.2.2.2.1[(wr .i64 ((x14.2.2.2.2.2.2.1.length : Int) - 1)).toNat]?) fun e17 =>
  Option.bind (idx d e15) fun e18 =>
  some (eqD_58 e17 e18))
  else (some false)) fun q19 =>
  bif q19
  then (some (.done (.inr (6, (0, 0, (⟨#[]⟩ : ByteArray), [], [], [], []), (x14.2.2.1, x14.2.2.2.1, x14.2.2.2.2.1, x14.2.2.2.2.2.1, x14.2.2.2.2.2.2.1, x14.2.2.2.2.2.2.2.1, x14.2.2.2.2.2.2.2.2)))))
  else (Option.bind (idx d e15) fun e20 =>
  Option.bind (room (x14.2.2.2.2.2.2.1.length + ([e20] : List Key).length) 24) fun _ =>
  Option.bind (idx t e15) fun e22 =>
  Option.bind (value_clone n e22) fun r23 =>
  Option.bind (room (x14.2.2.2.2.2.1.length + ([r23] : List Val).length) 128) fun _ =>
  some (.next (wr .i64 (x14.1 + 1), (x14.2.1.1, x14.2.1.2.1, x14.2.1.2.2.1, x14.2.1.2.2.2.1, x14.2.1.2.2.2.2.1, x14.2.1.2.2.2.2.2.1, x14.2.1.2.2.2.2.2.2), (x14.2.2.1, x14.2.2.2.1, x14.2.2.2.2.1, x14.2.2.2.2.2.1 ++ ([r23] : List Val), x14.2.2.2.2.2.2.1 ++ ([e20] : List Key), x14.2.2.2.2.2.2.2.1, x14.2.2.2.2.2.2.2.2)))))
  else (some (.done (.inl ((x14.2.1.1, x14.2.1.2.1, x14.2.1.2.2.1, x14.2.1.2.2.2.1, x14.2.1.2.2.2.2.1, x14.2.1.2.2.2.2.2.1, x14.2.1.2.2.2.2.2.2), (x14.2.2.1, x14.2.2.2.1, x14.2.2.2.2.1, x14.2.2.2.2.2.1, x14.2.2.2.2.2.2.1, x14.2.2.2.2.2.2.2.1, x14.2.2.2.2.2.2.2.2)))))

noncomputable def value_Map (n : Nat) (d : List Key) (t : List Val) : Option (Val × Int) :=
  bif (d.length : Int) != (t.length : Int)
  then (some (Val.mk 0 0 (⟨#[]⟩ : ByteArray) ([] : List Val) ([] : List Key) ([] : List Ent) ([] : List ByteArray), 1))
  else (Option.bind (iter (value_Map_l1 d) ((d.length : Int).toNat + 1) (0, (0, 0, (⟨#[]⟩ : ByteArray), [], [], [], []))) fun (b4 : Sum (Int × Int × ByteArray × (List Val) × (List Key) × (List Ent) × (List ByteArray)) (Int × (Int × Int × ByteArray × (List Val) × (List Key) × (List Ent) × (List ByteArray)))) =>
  onEnd (fun x5 =>
  Option.bind (iter (value_Map_l2 d) ((d.length : Int).toNat + 1) ([], 0)) fun b9 =>
  Option.bind ((sortR (α := Int)) b9 (fun z10 z11 =>
  Option.bind (value_Map_1 z10 z11 d) fun r12 =>
  some r12)) fun r13 =>
  Option.bind (iter (value_Map_l3 d t r13 n) ((r13.2.length : Int).toNat + 1) (0, (x5.1, x5.2.1, x5.2.2.1, x5.2.2.2.1, x5.2.2.2.2.1, x5.2.2.2.2.2.1, x5.2.2.2.2.2.2), (8, 0, (⟨#[]⟩ : ByteArray), [], [], [], []))) fun (b25 : Sum ((Int × Int × ByteArray × (List Val) × (List Key) × (List Ent) × (List ByteArray)) × (Int × Int × ByteArray × (List Val) × (List Key) × (List Ent) × (List ByteArray))) (Int × (Int × Int × ByteArray × (List Val) × (List Key) × (List Ent) × (List ByteArray)) × (Int × Int × ByteArray × (List Val) × (List Key) × (List Ent) × (List ByteArray)))) =>
  onEnd (fun x26 =>
  some (Val.mk x26.2.1 x26.2.2.1 x26.2.2.2.1 x26.2.2.2.2.1 x26.2.2.2.2.2.1 x26.2.2.2.2.2.2.1 x26.2.2.2.2.2.2.2, 0)) (fun y27 =>
  some (Val.mk y27.2.1.1 y27.2.1.2.1 y27.2.1.2.2.1 y27.2.1.2.2.2.1 y27.2.1.2.2.2.2.1 y27.2.1.2.2.2.2.2.1 y27.2.1.2.2.2.2.2.2, y27.1)) b25) (fun y6 =>
  some (Val.mk y6.2.1 y6.2.2.1 y6.2.2.2.1 y6.2.2.2.2.1 y6.2.2.2.2.2.1 y6.2.2.2.2.2.2.1 y6.2.2.2.2.2.2.2, y6.1)) b4)

noncomputable def semtypelaw4_ValueMaps_l1 (t : List (List Int)) (n : Nat) (x3 : (List Val) × Int) : Option (Fl ((List Val) × Int) (Sum (List Val) Bool)) :=
  bif decide (x3.2 < (t.length : Int))
  then (Option.bind (idx t x3.2) fun e4 =>
  bif decide (20 < (e4.length : Int))
  then (Option.bind (semtypelaw4_awake n) fun r5 =>
  some (.done (.inr r5)))
  else (Option.bind (idx t x3.2) fun e6 =>
  Option.bind (semtypelaw4_drawn n e6) fun r7 =>
  Option.bind (room (x3.1.length + ([r7] : List Val).length) 128) fun _ =>
  some (.next (x3.1 ++ ([r7] : List Val), wr .i64 (x3.2 + 1)))))
  else (some (.done (.inl x3.1)))

noncomputable def semtypelaw4_ValueMaps (n : Nat) (d : List Key) (t : List (List Int)) : Option Bool :=
  Option.bind (bif decide (12 < (d.length : Int))
  then (some true)
  else (some (decide (12 < (t.length : Int))))) fun q1 =>
  bif q1
  then (Option.bind (semtypelaw4_awake n) fun r2 =>
  some r2)
  else (Option.bind (iter (semtypelaw4_ValueMaps_l1 t n) ((t.length : Int).toNat + 1) ([], 0)) fun b9 =>
  onEnd (fun x10 =>
  Option.bind (value_Map n d x10) fun r12 =>
  Option.bind (semtyperef1_Map d x10) fun r13 =>
  Option.bind (bif r12.2 == r13.2
  then (Option.bind (semtyperef1_Equal n r12.1 r13.1) fun r14 =>
  some r14)
  else (some false)) fun q15 =>
  Option.bind (bif q15
  then (Option.bind (bif r12.2 != 0
  then (some true)
  else (Option.bind (value_Validate n r12.1) fun r16 =>
  some (r16 == 0))) fun q17 =>
  some q17)
  else (some false)) fun q18 =>
  Option.bind (bif q18
  then (Option.bind (semtypelaw4_awake n) fun r19 =>
  some r19)
  else (some false)) fun q20 =>
  some q20) (fun y11 =>
  some y11) b9)

def slices_CompactFunc_api_Entry_api_Entry_l1 (t : Ent → Ent → Option Bool) (x1 : (List Ent) × Int) (x18 : (Int × Int) × List Ent) : Option (Fl ((Int × Int) × List Ent) (Int × List Ent)) :=
  bif decide (x18.1.2 < ((x18.2.drop x1.2.toNat).length : Int))
  then (Option.bind (idx (x18.2.drop x1.2.toNat) x18.1.2) fun _ =>
  Option.bind (x18.2[(x1.2.toNat + x18.1.2.toNat)]?) fun e20 =>
  Option.bind (idx (x18.2.drop x1.2.toNat) (wr .i64 (x18.1.2 - 1))) fun _ =>
  Option.bind (x18.2[(x1.2.toNat + (wr .i64 (x18.1.2 - 1)).toNat)]?) fun e22 =>
  Option.bind (t e20 e22) fun r23 =>
  bif !r23
  then (Option.bind (idx (x18.2.drop x1.2.toNat) x18.1.2) fun _ =>
  Option.bind (x18.2[(x1.2.toNat + x18.1.2.toNat)]?) fun e25 =>
  Option.bind (idx x18.2 x18.1.1) fun _ =>
  Option.bind (x18.2[x18.1.1.toNat]?) fun _ =>
  some (.next ((wr .i64 (x18.1.1 + 1), wr .i64 (x18.1.2 + 1)), x18.2.set x18.1.1.toNat e25)))
  else (some (.next ((x18.1.1, wr .i64 (x18.1.2 + 1)), x18.2))))
  else (some (.done (x18.1.1, x18.2)))

def slices_CompactFunc_api_Entry_api_Entry_l2 (t : Ent → Ent → Option Bool) (x1 : (List Ent) × Int) : Option (Fl ((List Ent) × Int) (Sum (List Ent) ((List Ent) × (List Ent)))) :=
  bif decide (x1.2 < (x1.1.length : Int))
  then (Option.bind (idx x1.1 x1.2) fun _ =>
  Option.bind (x1.1[x1.2.toNat]?) fun e3 =>
  Option.bind (idx x1.1 (wr .i64 (x1.2 - 1))) fun _ =>
  Option.bind (x1.1[(wr .i64 (x1.2 - 1)).toNat]?) fun e5 =>
  Option.bind (t e3 e5) fun r6 =>
  bif r6
  then (Option.bind (idx x1.1 x1.2) fun _ =>
  Option.bind (iter (slices_CompactFunc_api_Entry_api_Entry_l1 t x1) (((x1.1.drop x1.2.toNat).length : Int).toNat + 1) ((x1.2, 1), x1.1)) fun b28 =>
  Option.bind (idx b28.2 b28.1) fun _ =>
  bif Nat.blt b28.1.toNat b28.2.length
  then (Option.bind (cut (b28.2.take b28.1.toNat ++ List.replicate (b28.2.length - b28.1.toNat) (Ent.mk ([]) false (Val.mk 0 0 (⟨#[]⟩ : ByteArray) ([]) ([]) ([]) ([])) : Ent)) 0 b28.1) fun y30 =>
  some (.done (.inr (b28.2.take b28.1.toNat ++ List.replicate (b28.2.length - b28.1.toNat) (Ent.mk ([]) false (Val.mk 0 0 (⟨#[]⟩ : ByteArray) ([]) ([]) ([]) ([])) : Ent), y30))))
  else (none))
  else (some (.next (x1.1, wr .i64 (x1.2 + 1)))))
  else (some (.done (.inl x1.1)))

def slices_CompactFunc_api_Entry_api_Entry (d : List Ent) (t : Ent → Ent → Option Bool) : Option (List Ent) :=
  bif decide ((d.length : Int) < 2)
  then (some d)
  else (Option.bind (iter (slices_CompactFunc_api_Entry_api_Entry_l2 t) ((d.length : Int).toNat + 1) (d, 1)) fun b31 =>
  onEnd (fun x32 =>
  some x32) (fun y33 =>
  some y33.2) b31)

def value_sortEntries_1 (n : Nat) (a : Ent) (b : Ent) : Option Bool :=
  Option.bind (value_compareEntries n a b) fun r1 =>
  some (r1 == 0)

def slices_Clip_api_Entry_api_Entry (s : List Ent) : Option (List Ent) :=
  bif (s.length : Int) == (s.length : Int) && (s.length : Int) == (s.length : Int)
  then (some s)
  else (none)

noncomputable def value_sortEntries (n : Nat) (l : List Ent) : Option (List Ent) :=
  Option.bind (value_cloneEntries n l) fun r1 =>
  Option.bind (sortR r1 (fun z2 z3 =>
  Option.bind (value_compareEntries n z2 z3) fun r4 =>
  some r4)) fun r5 =>
  Option.bind (slices_CompactFunc_api_Entry_api_Entry r5.2 (fun z6 z7 =>
  Option.bind (value_sortEntries_1 n z6 z7) fun r8 =>
  some r8)) fun r9 =>
  Option.bind (slices_Clip_api_Entry_api_Entry r9) fun r10 =>
  some r10

noncomputable def value_Function_l1 (arity : Int) (l : List Ent) (n : Nat) (x2 : Int × (Int × Int × ByteArray × (List Val) × (List Key) × (List Ent) × (List ByteArray))) : Option (Fl (Int × (Int × Int × ByteArray × (List Val) × (List Key) × (List Ent) × (List ByteArray))) (Sum (Int × Int × ByteArray × (List Val) × (List Key) × (List Ent) × (List ByteArray)) (Int × (Int × Int × ByteArray × (List Val) × (List Key) × (List Ent) × (List ByteArray))))) :=
  bif decide (x2.1 < (l.length : Int))
  then (Option.bind (idx l x2.1) fun _ =>
  Option.bind (l[x2.1.toNat]?) fun e4 =>
  Option.bind (value_validEntry n e4 arity) fun r5 =>
  bif !r5
  then (some (.done (.inr (1, (0, 0, (⟨#[]⟩ : ByteArray), [], [], [], [])))))
  else (some (.next (wr .i64 (x2.1 + 1), (x2.2.1, x2.2.2.1, x2.2.2.2.1, x2.2.2.2.2.1, x2.2.2.2.2.2.1, x2.2.2.2.2.2.2.1, x2.2.2.2.2.2.2.2)))))
  else (some (.done (.inl (x2.2.1, x2.2.2.1, x2.2.2.2.1, x2.2.2.2.2.1, x2.2.2.2.2.2.1, x2.2.2.2.2.2.2.1, x2.2.2.2.2.2.2.2))))

noncomputable def value_Function (n : Nat) (arity : Int) (l : List Ent) : Option (Val × Int) :=
  Option.bind (bif decide (arity < 0)
  then (some true)
  else (some (decide (4 < arity)))) fun q1 =>
  bif q1
  then (some (Val.mk 0 0 (⟨#[]⟩ : ByteArray) ([] : List Val) ([] : List Key) ([] : List Ent) ([] : List ByteArray), 1))
  else (Option.bind (iter (value_Function_l1 arity l n) ((l.length : Int).toNat + 1) (0, (0, 0, (⟨#[]⟩ : ByteArray), [], [], [], []))) fun (b6 : Sum (Int × Int × ByteArray × (List Val) × (List Key) × (List Ent) × (List ByteArray)) (Int × (Int × Int × ByteArray × (List Val) × (List Key) × (List Ent) × (List ByteArray)))) =>
  onEnd (fun _ =>
  Option.bind (value_sortEntries n l) fun r9 =>
  some (Val.mk 9 arity (⟨#[]⟩ : ByteArray) ([] : List Val) ([] : List Key) r9 ([] : List ByteArray), 0)) (fun y8 =>
  some (Val.mk y8.2.1 y8.2.2.1 y8.2.2.2.1 y8.2.2.2.2.1 y8.2.2.2.2.2.1 y8.2.2.2.2.2.2.1 y8.2.2.2.2.2.2.2, y8.1)) b6)

noncomputable def semtypelaw4_ValueFunctions_l1 (t : List (List Int)) (n : Nat) (x2 : (List Ent) × Int) : Option (Fl ((List Ent) × Int) (Sum (List Ent) Bool)) :=
  bif decide (x2.2 < (t.length : Int))
  then (Option.bind (idx t x2.2) fun e3 =>
  bif decide (40 < (e3.length : Int))
  then (Option.bind (semtypelaw4_awake n) fun r4 =>
  some (.done (.inr r4)))
  else (Option.bind (idx t x2.2) fun e5 =>
  Option.bind (semtypebase_Source_Value n (Semtypebase_Source.mk e5 0) 3) fun r6 =>
  Option.bind (room (x2.1.length + r6.1.Entries.length) 160) fun _ =>
  Option.bind (room ((x2.1 ++ r6.1.Entries).length + ([Ent.mk r6.1.Kids false r6.1] : List Ent).length) 160) fun _ =>
  some (.next ((x2.1 ++ r6.1.Entries) ++ ([Ent.mk r6.1.Kids false r6.1] : List Ent), wr .i64 (x2.2 + 1)))))
  else (some (.done (.inl x2.1)))

noncomputable def semtypelaw4_ValueFunctions (n : Nat) (d : Int) (t : List (List Int)) (a2_2 : Int) : Option Bool :=
  bif decide (8 < (t.length : Int))
  then (Option.bind (semtypelaw4_awake n) fun r1 =>
  some r1)
  else (Option.bind (iter (semtypelaw4_ValueFunctions_l1 t n) ((t.length : Int).toNat + 1) ([], 0)) fun b9 =>
  onEnd (fun x10 =>
  Option.bind (value_Function n d x10) fun r12 =>
  Option.bind (semtyperef1_Function n d x10) fun r13 =>
  Option.bind (bif r12.2 != r13.2
  then (some true)
  else (Option.bind (semtyperef1_Equal n r12.1 r13.1) fun r14 =>
  some (!r14))) fun q15 =>
  bif q15
  then (some false)
  else (Option.bind (bif decide (1 < (x10.length : Int))
  then (Option.bind (idx x10 (bAnd .i64 a2_2 1)) fun _ =>
  Option.bind (x10[(bAnd .i64 a2_2 1).toNat]?) fun e17 =>
  Option.bind (idx x10 0) fun _ =>
  Option.bind (x10[(0 : Int).toNat]?) fun e19 =>
  Option.bind (idx x10 0) fun _ =>
  Option.bind (x10[(0 : Int).toNat]?) fun _ =>
  Option.bind (idx (x10.set ((0 : Int).toNat) e17) (bAnd .i64 a2_2 1)) fun _ =>
  Option.bind ((x10.set ((0 : Int).toNat) e17)[(bAnd .i64 a2_2 1).toNat]?) fun _ =>
  some ((x10.set ((0 : Int).toNat) e17).set ((bAnd .i64 a2_2 1).toNat) e19))
  else (some x10)) fun b24 =>
  Option.bind (room (b24.length + b24.length) 160) fun _ =>
  Option.bind (value_Function n d (b24 ++ b24)) fun r26 =>
  Option.bind (bif r26.2 == r12.2
  then (Option.bind (semtyperef1_Equal n r12.1 r26.1) fun r27 =>
  some r27)
  else (some false)) fun q28 =>
  Option.bind (bif q28
  then (Option.bind (bif r12.2 != 0
  then (some true)
  else (Option.bind (value_Validate n r12.1) fun r29 =>
  some (r29 == 0))) fun q30 =>
  some q30)
  else (some false)) fun q31 =>
  Option.bind (bif q31
  then (Option.bind (semtypelaw4_awake n) fun r32 =>
  some r32)
  else (some false)) fun q33 =>
  some q33)) (fun y11 =>
  some y11) b9)

def slices_Compact_string_string_l1 (x1 : (List ByteArray) × Int) (x16 : (Int × Int) × List ByteArray) : Option (Fl ((Int × Int) × List ByteArray) (Int × List ByteArray)) :=
  bif decide (x16.1.2 < ((x16.2.drop x1.2.toNat).length : Int))
  then (Option.bind (idx (x16.2.drop x1.2.toNat) x16.1.2) fun _ =>
  Option.bind (x16.2[(x1.2.toNat + x16.1.2.toNat)]?) fun e18 =>
  Option.bind (idx (x16.2.drop x1.2.toNat) (wr .i64 (x16.1.2 - 1))) fun _ =>
  Option.bind (x16.2[(x1.2.toNat + (wr .i64 (x16.1.2 - 1)).toNat)]?) fun e20 =>
  bif !(strEq e18 e20)
  then (Option.bind (idx (x16.2.drop x1.2.toNat) x16.1.2) fun _ =>
  Option.bind (x16.2[(x1.2.toNat + x16.1.2.toNat)]?) fun e22 =>
  Option.bind (idx x16.2 x16.1.1) fun _ =>
  Option.bind (x16.2[x16.1.1.toNat]?) fun _ =>
  some (.next ((wr .i64 (x16.1.1 + 1), wr .i64 (x16.1.2 + 1)), x16.2.set x16.1.1.toNat e22)))
  else (some (.next ((x16.1.1, wr .i64 (x16.1.2 + 1)), x16.2))))
  else (some (.done (x16.1.1, x16.2)))

def slices_Compact_string_string_l2  (x1 : (List ByteArray) × Int) : Option (Fl ((List ByteArray) × Int) (Sum (List ByteArray) ((List ByteArray) × (List ByteArray)))) :=
  bif decide (x1.2 < (x1.1.length : Int))
  then (Option.bind (idx x1.1 x1.2) fun _ =>
  Option.bind (x1.1[x1.2.toNat]?) fun e3 =>
  Option.bind (idx x1.1 (wr .i64 (x1.2 - 1))) fun _ =>
  Option.bind (x1.1[(wr .i64 (x1.2 - 1)).toNat]?) fun e5 =>
  bif strEq e3 e5
  then (Option.bind (idx x1.1 x1.2) fun _ =>
  Option.bind (iter (slices_Compact_string_string_l1 x1) (((x1.1.drop x1.2.toNat).length : Int).toNat + 1) ((x1.2, 1), x1.1)) fun b25 =>
  Option.bind (idx b25.2 b25.1) fun _ =>
  bif Nat.blt b25.1.toNat b25.2.length
  then (Option.bind (cut (b25.2.take b25.1.toNat ++ List.replicate (b25.2.length - b25.1.toNat) ((⟨#[]⟩ : ByteArray) : ByteArray)) 0 b25.1) fun y27 =>
  some (.done (.inr (b25.2.take b25.1.toNat ++ List.replicate (b25.2.length - b25.1.toNat) ((⟨#[]⟩ : ByteArray) : ByteArray), y27))))
  else (none))
  else (some (.next (x1.1, wr .i64 (x1.2 + 1)))))
  else (some (.done (.inl x1.1)))

def slices_Compact_string_string (s : List ByteArray) : Option (List ByteArray) :=
  bif decide ((s.length : Int) < 2)
  then (some s)
  else (Option.bind (iter slices_Compact_string_string_l2 ((s.length : Int).toNat + 1) (s, 1)) fun b28 =>
  onEnd (fun x29 =>
  some x29) (fun y30 =>
  some y30.2) b28)

def slices_Clip_string_string (s : List ByteArray) : Option (List ByteArray) :=
  bif (s.length : Int) == (s.length : Int) && (s.length : Int) == (s.length : Int)
  then (some s)
  else (none)

def value_WithLabels (n : Nat) (v : Val) (names : List ByteArray) : Option Val :=
  Option.bind (value_clone n v) fun r1 =>
  Option.bind (cloneF 16 names) fun r2 =>
  Option.bind (sortStr r2) fun r3 =>
  Option.bind (slices_Compact_string_string r3.2) fun r4 =>
  Option.bind (slices_Clip_string_string r4) fun r5 =>
  some (Val.mk r1.Kind r1.Int_ r1.Text r1.Kids r1.Keys r1.Entries r5)

def semtyperef1_upper (c : Int) : Option Bool :=
  Option.bind (bif decide (65 ≤ c)
  then (some (decide (c ≤ 90)))
  else (some false)) fun q1 =>
  some q1

def semtyperef1_IsVariable_l1 (s : ByteArray) (x5 : Int) : Option (Fl Int (Sum Unit Bool)) :=
  bif decide (x5 < (s.size : Int))
  then (Option.bind (sidx s x5) fun e6 =>
  Option.bind (semtyperef1_lower (e6.toNat : Int)) fun r7 =>
  Option.bind (bif !r7
  then (Option.bind (sidx s x5) fun e8 =>
  Option.bind (semtyperef1_upper (e8.toNat : Int)) fun r9 =>
  some (!r9))
  else (some false)) fun q10 =>
  Option.bind (bif q10
  then (Option.bind (sidx s x5) fun e11 =>
  Option.bind (semtyperef1_digit (e11.toNat : Int)) fun r12 =>
  some (!r12))
  else (some false)) fun q13 =>
  Option.bind (bif q13
  then (Option.bind (sidx s x5) fun e14 =>
  some ((e14.toNat : Int) != 95))
  else (some false)) fun q15 =>
  bif q15
  then (some (.done (.inr false)))
  else (some (.next (wr .i64 (x5 + 1)))))
  else (some (.done (.inl ())))

def semtyperef1_IsVariable (s : ByteArray) : Option Bool :=
  Option.bind (bif decide ((s.size : Int) < 1)
  then (some true)
  else (some (decide (16 < (s.size : Int))))) fun q1 =>
  Option.bind (bif q1
  then (some true)
  else (Option.bind (sidx s 0) fun e2 =>
  Option.bind (semtyperef1_upper (e2.toNat : Int)) fun r3 =>
  some (!r3))) fun q4 =>
  bif q4
  then (some false)
  else (Option.bind (iter (semtyperef1_IsVariable_l1 s) ((s.size : Int).toNat + 1) 1) fun b16 =>
  onEnd (fun _ =>
  some true) (fun y18 =>
  some y18) b16)

noncomputable def value_Unlabel_l1 (d : Val) (rec_value_Unlabel : Val → Option Val) (x2 : Int × (Int × Int × ByteArray × (List Val) × (List Key) × (List Ent) × (List ByteArray))) : Option (Fl (Int × (Int × Int × ByteArray × (List Val) × (List Key) × (List Ent) × (List ByteArray))) (Int × Int × ByteArray × (List Val) × (List Key) × (List Ent) × (List ByteArray))) :=
  bif decide (x2.1 < (d.Kids.length : Int))
  then (Option.bind (idx d.Kids x2.1) fun e3 =>
  Option.bind (rec_value_Unlabel e3) fun r4 =>
  Option.bind (room (x2.2.2.2.2.1.length + ([r4] : List Val).length) 128) fun _ =>
  some (.next (wr .i64 (x2.1 + 1), (x2.2.1, x2.2.2.1, x2.2.2.2.1, x2.2.2.2.2.1 ++ ([r4] : List Val), x2.2.2.2.2.2.1, x2.2.2.2.2.2.2.1, x2.2.2.2.2.2.2.2))))
  else (some (.done (x2.2.1, x2.2.2.1, x2.2.2.2.1, x2.2.2.2.2.1, x2.2.2.2.2.2.1, x2.2.2.2.2.2.2.1, x2.2.2.2.2.2.2.2)))

noncomputable def value_Unlabel_l2 (rec_value_Unlabel : Val → Option Val) (e8 : Ent) (x10 : Int × ((List Val) × Bool × Int × Int × ByteArray × (List Val) × (List Key) × (List Ent) × (List ByteArray))) : Option (Fl (Int × ((List Val) × Bool × Int × Int × ByteArray × (List Val) × (List Key) × (List Ent) × (List ByteArray))) ((List Val) × Bool × Int × Int × ByteArray × (List Val) × (List Key) × (List Ent) × (List ByteArray))) :=
  bif decide (x10.1 < (e8.Args.length : Int))
  then (Option.bind (idx e8.Args x10.1) fun e11 =>
  Option.bind (rec_value_Unlabel e11) fun r12 =>
  Option.bind (room (x10.2.1.length + ([r12] : List Val).length) 128) fun _ =>
  some (.next (wr .i64 (x10.1 + 1), (x10.2.1 ++ ([r12] : List Val), x10.2.2.1, x10.2.2.2.1, x10.2.2.2.2.1, x10.2.2.2.2.2.1, x10.2.2.2.2.2.2.1, x10.2.2.2.2.2.2.2.1, x10.2.2.2.2.2.2.2.2.1, x10.2.2.2.2.2.2.2.2.2))))
  else (some (.done (x10.2.1, x10.2.2.1, x10.2.2.2.1, x10.2.2.2.2.1, x10.2.2.2.2.2.1, x10.2.2.2.2.2.2.1, x10.2.2.2.2.2.2.2.1, x10.2.2.2.2.2.2.2.2.1, x10.2.2.2.2.2.2.2.2.2)))

noncomputable def value_Unlabel_l3 (d : Val) (rec_value_Unlabel : Val → Option Val) (x7 : (List Ent) × Int) : Option (Fl ((List Ent) × Int) (List Ent)) :=
  bif decide (x7.2 < (d.Entries.length : Int))
  then (Option.bind (idx d.Entries x7.2) fun e8 =>
  Option.bind (rec_value_Unlabel e8.Result) fun r9 =>
  Option.bind (iter (value_Unlabel_l2 rec_value_Unlabel e8) ((e8.Args.length : Int).toNat + 1) (0, ([], e8.Fails, r9.Kind, r9.Int_, r9.Text, r9.Kids, r9.Keys, r9.Entries, r9.Labels))) fun b14 =>
  Option.bind (room (x7.1.length + ([Ent.mk b14.1 b14.2.1 (Val.mk b14.2.2.1 b14.2.2.2.1 b14.2.2.2.2.1 b14.2.2.2.2.2.1 b14.2.2.2.2.2.2.1 b14.2.2.2.2.2.2.2.1 b14.2.2.2.2.2.2.2.2)] : List Ent).length) 160) fun _ =>
  some (.next (x7.1 ++ ([Ent.mk b14.1 b14.2.1 (Val.mk b14.2.2.1 b14.2.2.2.1 b14.2.2.2.2.1 b14.2.2.2.2.2.1 b14.2.2.2.2.2.2.1 b14.2.2.2.2.2.2.2.1 b14.2.2.2.2.2.2.2.2)] : List Ent), wr .i64 (x7.2 + 1))))
  else (some (.done x7.1))

noncomputable def value_Unlabel_B (n : Nat) (rec_value_Unlabel : Val → Option Val) (d : Val) : Option Val :=
  Option.bind (cloneF 24 d.Keys) fun r1 =>
  Option.bind (iter (value_Unlabel_l1 d rec_value_Unlabel) ((d.Kids.length : Int).toNat + 1) (0, (d.Kind, d.Int_, d.Text, [], r1, d.Entries, []))) fun b6 =>
  Option.bind (iter (value_Unlabel_l3 d rec_value_Unlabel) ((d.Entries.length : Int).toNat + 1) ([], 0)) fun b16 =>
  Option.bind (value_sortEntries n b16) fun r17 =>
  some (Val.mk b6.1 b6.2.1 b6.2.2.1 b6.2.2.2.1 b6.2.2.2.2.1 r17 b6.2.2.2.2.2.2)

noncomputable def value_Unlabel : Nat → Val → Option Val
  | 0 => fun _ => none
  | n + 1 => value_Unlabel_B n (value_Unlabel n)

def semtyperef1_WithLabels (v : Val) (names : List ByteArray) : Option Val :=
  Option.bind (semtyperef1_Sorted names) fun r1 =>
  some (Val.mk v.Kind v.Int_ v.Text v.Kids v.Keys v.Entries r1)

def semtyperef1_Unlabel_l1 (d : Val) (rec_semtyperef1_Unlabel : Val → Option Val) (x1 : (List Val) × Int) : Option (Fl ((List Val) × Int) (List Val)) :=
  bif decide (x1.2 < (d.Kids.length : Int))
  then (Option.bind (idx d.Kids x1.2) fun e2 =>
  Option.bind (rec_semtyperef1_Unlabel e2) fun r3 =>
  Option.bind (room (x1.1.length + ([r3] : List Val).length) 128) fun _ =>
  some (.next (x1.1 ++ ([r3] : List Val), wr .i64 (x1.2 + 1))))
  else (some (.done x1.1))

def semtyperef1_Unlabel_l2 (d : Val) (rec_semtyperef1_Unlabel : Val → Option Val) (x6 : (List Ent) × Int) (x10 : Int × ((List Val) × Bool × Int × Int × ByteArray × (List Val) × (List Key) × (List Ent) × (List ByteArray))) : Option (Fl (Int × ((List Val) × Bool × Int × Int × ByteArray × (List Val) × (List Key) × (List Ent) × (List ByteArray))) ((List Val) × Bool × Int × Int × ByteArray × (List Val) × (List Key) × (List Ent) × (List ByteArray))) :=
  Option.bind (idx d.Entries x6.2) fun e11 =>
  bif decide (x10.1 < (e11.Args.length : Int))
  then (Option.bind (idx d.Entries x6.2) fun e12 =>
  Option.bind (idx e12.Args x10.1) fun e13 =>
  Option.bind (rec_semtyperef1_Unlabel e13) fun r14 =>
  Option.bind (room (x10.2.1.length + ([r14] : List Val).length) 128) fun _ =>
  some (.next (wr .i64 (x10.1 + 1), (x10.2.1 ++ ([r14] : List Val), x10.2.2.1, x10.2.2.2.1, x10.2.2.2.2.1, x10.2.2.2.2.2.1, x10.2.2.2.2.2.2.1, x10.2.2.2.2.2.2.2.1, x10.2.2.2.2.2.2.2.2.1, x10.2.2.2.2.2.2.2.2.2))))
  else (some (.done (x10.2.1, x10.2.2.1, x10.2.2.2.1, x10.2.2.2.2.1, x10.2.2.2.2.2.1, x10.2.2.2.2.2.2.1, x10.2.2.2.2.2.2.2.1, x10.2.2.2.2.2.2.2.2.1, x10.2.2.2.2.2.2.2.2.2)))

def semtyperef1_Unlabel_l3 (d : Val) (rec_semtyperef1_Unlabel : Val → Option Val) (n : Nat) (x6 : (List Ent) × Int) : Option (Fl ((List Ent) × Int) (List Ent)) :=
  bif decide (x6.2 < (d.Entries.length : Int))
  then (Option.bind (idx d.Entries x6.2) fun e7 =>
  Option.bind (idx d.Entries x6.2) fun e8 =>
  Option.bind (rec_semtyperef1_Unlabel e8.Result) fun r9 =>
  Option.bind (iter (semtyperef1_Unlabel_l2 d rec_semtyperef1_Unlabel x6) n (0, ([], e7.Fails, r9.Kind, r9.Int_, r9.Text, r9.Kids, r9.Keys, r9.Entries, r9.Labels))) fun b16 =>
  Option.bind (room (x6.1.length + ([Ent.mk b16.1 b16.2.1 (Val.mk b16.2.2.1 b16.2.2.2.1 b16.2.2.2.2.1 b16.2.2.2.2.2.1 b16.2.2.2.2.2.2.1 b16.2.2.2.2.2.2.2.1 b16.2.2.2.2.2.2.2.2)] : List Ent).length) 160) fun _ =>
  some (.next (x6.1 ++ ([Ent.mk b16.1 b16.2.1 (Val.mk b16.2.2.1 b16.2.2.2.1 b16.2.2.2.2.1 b16.2.2.2.2.2.1 b16.2.2.2.2.2.2.1 b16.2.2.2.2.2.2.2.1 b16.2.2.2.2.2.2.2.2)] : List Ent), wr .i64 (x6.2 + 1))))
  else (some (.done x6.1))

def semtyperef1_Unlabel_B (n : Nat) (rec_semtyperef1_Unlabel : Val → Option Val) (d : Val) : Option Val :=
  Option.bind (iter (semtyperef1_Unlabel_l1 d rec_semtyperef1_Unlabel) ((d.Kids.length : Int).toNat + 1) ([], 0)) fun b5 =>
  Option.bind (iter (semtyperef1_Unlabel_l3 d rec_semtyperef1_Unlabel n) ((d.Entries.length : Int).toNat + 1) ([], 0)) fun b18 =>
  Option.bind (semtyperef1_entries n b18) fun r19 =>
  some (Val.mk d.Kind d.Int_ d.Text b5 d.Keys r19 ([] : List ByteArray))

def semtyperef1_Unlabel : Nat → Val → Option Val
  | 0 => fun _ => none
  | n + 1 => semtyperef1_Unlabel_B n (semtyperef1_Unlabel n)

noncomputable def semtypelaw4_ValueLabels_l1 (t : List ByteArray) (x5 : Bool × Int) : Option (Fl (Bool × Int) Bool) :=
  bif decide (x5.2 < (t.length : Int))
  then (Option.bind (bif x5.1
  then (Option.bind (idx t x5.2) fun e6 =>
  Option.bind (semtyperef1_IsVariable e6) fun r7 =>
  some r7)
  else (some false)) fun q8 =>
  some (.next (q8, wr .i64 (x5.2 + 1))))
  else (some (.done x5.1))

noncomputable def semtypelaw4_ValueLabels (n : Nat) (d : List Int) (t : List ByteArray) : Option Bool :=
  Option.bind (bif decide (80 < (d.length : Int))
  then (some true)
  else (some (decide (8 < (t.length : Int))))) fun q1 =>
  bif q1
  then (Option.bind (semtypelaw4_awake n) fun r2 =>
  some r2)
  else (Option.bind (semtypelaw4_drawn n d) fun r3 =>
  Option.bind (value_WithLabels n r3 t) fun r4 =>
  Option.bind (iter (semtypelaw4_ValueLabels_l1 t) ((t.length : Int).toNat + 1) (true, 0)) fun b9 =>
  Option.bind (value_Unlabel n r3) fun r10 =>
  Option.bind (semtyperef1_WithLabels r3 t) fun r11 =>
  Option.bind (semtyperef1_Equal n r4 r11) fun r12 =>
  Option.bind (bif !r12
  then (some true)
  else (Option.bind (value_Validate n r4) fun r13 =>
  some ((r13 == 0) != b9))) fun q14 =>
  Option.bind (bif q14
  then (some true)
  else (Option.bind (value_Validate n r10) fun r15 =>
  some (r15 != 0))) fun q16 =>
  bif q16
  then (some false)
  else (Option.bind (semtyperef1_Unlabel n r3) fun r17 =>
  Option.bind (semtyperef1_Equal n r10 r17) fun r18 =>
  Option.bind (bif r18
  then (Option.bind (value_Unlabel n r4) fun r19 =>
  Option.bind (semtyperef1_Equal n r19 r10) fun r20 =>
  some r20)
  else (some false)) fun q21 =>
  Option.bind (bif q21
  then (Option.bind (value_Unlabel n r10) fun r22 =>
  Option.bind (semtyperef1_Equal n r22 r10) fun r23 =>
  some r23)
  else (some false)) fun q24 =>
  Option.bind (bif q24
  then (Option.bind (semtypelaw4_awake n) fun r25 =>
  some r25)
  else (some false)) fun q26 =>
  some q26))

end Go.Qx
