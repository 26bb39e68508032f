/- Printed by dec.py. The pure functions: what the Go functions compute. -/
import Derived.Test.YtamfhohifmbjnaaSxOps
import Derived.Test.YtamfhohifmbjnaaSxVal
namespace Go.Sx
open Go Go.RowKit

structure Value_used where
  number : Bool
  text_ : Bool
  kids : Bool
  keys : Bool
  entries : Bool

instance rpValue_used : Rp Value_used where
  sz := 5
  pos := by decide
  agg := true
  cells := fun σ v cs => cs = [.bool v.number, .bool v.text_, .bool v.kids, .bool v.keys, .bool v.entries]
  len := by
    rintro σ v cs rfl
    rfl
  one := by
    rintro σ v cs rfl u hu
    simp only [List.mem_cons, List.not_mem_nil, or_false] at hu
    rcases hu with rfl | rfl | rfl | rfl | rfl <;> rfl
  mono := by
    rintro σ τ v cs k rfl
    exact rfl

theorem Value_used.cells_iff {σ : S} {v : Value_used} {cs : List Value} : Rp.cells σ v cs ↔ cs = [.bool v.number, .bool v.text_, .bool v.kids, .bool v.keys, .bool v.entries] := Iff.rfl

theorem Value_used.rpv {σ : S} {v : Value_used} {v_ : Value} (h : RpV σ v v_) : v_ = .agg #[.bool v.number, .bool v.text_, .bool v.kids, .bool v.keys, .bool v.entries] := by
  obtain ⟨cs, hc, rfl⟩ := h
  obtain rfl := Value_used.cells_iff.1 hc
  exact rfl

theorem Value_used.rpvMk {σ : S} {v : Value_used} : RpV σ v (.agg #[.bool v.number, .bool v.text_, .bool v.kids, .bool v.keys, .bool v.entries]) := ⟨_, Value_used.cells_iff.2 rfl, rfl⟩

def semtyperef1_Nodes_l1 (rec_semtyperef1_Nodes : (Val → Option Int)) (a0 : Val) (q24 : (Int × Int)) : Option (Fl (Int × Int) (Int × Int)) :=
  if (decide (q24.2 < (a0.Kids.length : Int))) = true then
    Option.bind (idx a0.Kids q24.2) fun x36 =>
    Option.bind (rec_semtyperef1_Nodes x36) fun r55 =>
    some (.next (w64 (q24.1 + r55), w64 (q24.2 + 1)))
  else
    some (.done (q24.1, q24.2))

def semtyperef1_Nodes_l3 (rec_semtyperef1_Nodes : (Val → Option Int)) (x93 : Ent) (q132 : (Int × Int)) : Option (Fl (Int × Int) (Int × Int)) :=
  if (decide (q132.2 < (x93.Args.length : Int))) = true then
    Option.bind (idx x93.Args q132.2) fun x147 =>
    Option.bind (rec_semtyperef1_Nodes x147) fun r166 =>
    some (.next (w64 (q132.1 + r166), w64 (q132.2 + 1)))
  else
    some (.done (q132.1, q132.2))

def semtyperef1_Nodes_l2 (rec_semtyperef1_Nodes : (Val → Option Int)) (a0 : Val) (q81 : (Int × Int)) : Option (Fl (Int × Int) (Int × Int)) :=
  if (decide (q81.2 < (a0.Entries.length : Int))) = true then
    Option.bind (idx a0.Entries q81.2) fun x93 =>
    Option.bind (iter (semtyperef1_Nodes_l3 rec_semtyperef1_Nodes x93) (x93.Args.length + 1) (q81.1, 0)) fun o173 =>
    if (!x93.Fails) = true then
      Option.bind (rec_semtyperef1_Nodes x93.Result) fun r190 =>
      some (.next (w64 (o173.1 + r190), w64 (q81.2 + 1)))
    else
      some (.next (o173.1, w64 (q81.2 + 1)))
  else
    some (.done (q81.1, q81.2))

def semtyperef1_Nodes_B (rec_semtyperef1_Nodes : (Val → Option Int)) (a0 : Val) : Option Int :=
  Option.bind (iter (semtyperef1_Nodes_l1 rec_semtyperef1_Nodes a0) (a0.Kids.length + 1) (1, 0)) fun o62 =>
  Option.bind (iter (semtyperef1_Nodes_l2 rec_semtyperef1_Nodes a0) (a0.Entries.length + 1) (o62.1, 0)) fun o197 =>
  some o197.1

def semtyperef1_Nodes : Nat → (Val → Option Int)
  | 0 => fun _ => none
  | n + 1 => semtyperef1_Nodes_B (semtyperef1_Nodes n)

def semtypelaw4_small (fuel : Nat) (a0 : Val) : Option Bool :=
  Option.bind ((semtyperef1_Nodes fuel) a0) fun r18 =>
  some (decide (r18 ≤ 60))

def slices_Clone_api_Value_api_Value (a0 : (List Val)) : Option (List Val) :=
  Option.bind (room (([] : List Val).length + a0.length) 128) fun _ =>
  some a0

def value_parts_l1 (a0 : Val) (q35 : ((List Val) × Int)) : Option (Fl ((List Val) × Int) ((List Val) × Int)) :=
  if (decide (q35.2 < (a0.Entries.length : Int))) = true then
    Option.bind (idx a0.Entries q35.2) fun x50 =>
    Option.bind (room (q35.1.length + x50.Args.length) 128) fun _ =>
    if (!x50.Fails) = true then
      Option.bind (room ((q35.1 ++ x50.Args).length + [x50.Result].length) 128) fun _ =>
      some (.next ((q35.1 ++ x50.Args) ++ [x50.Result], w64 (q35.2 + 1)))
    else
      some (.next (q35.1 ++ x50.Args, w64 (q35.2 + 1)))
  else
    some (.done (q35.1, q35.2))

def value_parts (a0 : Val) : Option (List Val) :=
  Option.bind (slices_Clone_api_Value_api_Value a0.Kids) fun r18 =>
  Option.bind (iter (value_parts_l1 a0) (a0.Entries.length + 1) (r18, 0)) fun o104 =>
  some o104.1

def value_uses (a0 : Int) : Option (Value_used × Bool) :=
  if (a0 == 1) = true then
    some ((Value_used.mk true false false false false), true)
  else
    if (a0 == 4) = true then
      some ((Value_used.mk true false false false false), true)
    else
      if (a0 == 2) = true then
        some ((Value_used.mk false true false false false), true)
      else
        if (a0 == 3) = true then
          some ((Value_used.mk false true false false false), true)
        else
          if (a0 == 5) = true then
            some ((Value_used.mk false false false false false), true)
          else
            if (a0 == 6) = true then
              some ((Value_used.mk false false true false false), true)
            else
              if (a0 == 7) = true then
                some ((Value_used.mk false false true false false), true)
              else
                if (a0 == 8) = true then
                  some ((Value_used.mk false false true true false), true)
                else
                  if (a0 == 9) = true then
                    some ((Value_used.mk true false false false true), true)
                  else
                    some ((Value_used.mk false false false false false), false)

def internal_bytealg_CompareString (a0 : ByteArray) (a1 : ByteArray) : Option Int :=
  some (strCmp a0 a1)

def strings_Compare (a0 : ByteArray) (a1 : ByteArray) : Option Int :=
  Option.bind (internal_bytealg_CompareString a0 a1) fun r1 =>
  some r1

def value_ascending_string_l1 (a0 : (List ByteArray)) (a1 : (ByteArray → ByteArray → Option Int)) (q10 : Int) : Option (Fl Int (Sum Int Bool)) :=
  if (decide (q10 < (a0.length : Int))) = true then
    Option.bind (idx a0 (w64 (q10 - 1))) fun x20 =>
    Option.bind (idx a0 q10) fun x22 =>
    Option.bind (a1 x20 x22) fun r24 =>
    if (decide (0 ≤ r24)) = true then
      some (.done (.inr false))
    else
      some (.next (w64 (q10 + 1)))
  else
    some (.done (.inl q10))

def value_ascending_string (a0 : (List ByteArray)) (a1 : (ByteArray → ByteArray → Option Int)) : Option Bool :=
  Option.bind (iter (value_ascending_string_l1 a0 a1) (a0.length + 1) 1) (onEnd (fun _ =>
    some true) (fun r => some r))

def ident_isName_l1 (a0 : ByteArray) (a2 : (UInt8 → Option Bool)) (q38 : Int) : Option (Fl Int (Sum Int Bool)) :=
  if (decide (q38 < (a0.size : Int))) = true then
    Option.bind (sidx a0 q38) fun x48 =>
    Option.bind (a2 x48) fun r50 =>
    if (!r50) = true then
      some (.done (.inr false))
    else
      some (.next (w64 (q38 + 1)))
  else
    some (.done (.inl q38))

def ident_isName (a0 : ByteArray) (a1 : (UInt8 → Option Bool)) (a2 : (UInt8 → Option Bool)) : Option Bool :=
  Option.bind (if (decide ((a0.size : Int) < 1)) = true then
    some true
  else
    some (decide (16 < (a0.size : Int)))) fun q8 =>
  if q8 = true then
    some false
  else
    Option.bind (sidx a0 0) fun x22 =>
    Option.bind (a1 x22) fun r24 =>
    if (!r24) = true then
      some false
    else
      Option.bind (iter (ident_isName_l1 a0 a2) (a0.size + 1) 1) (onEnd (fun _ =>
        some true) (fun r => some r))

def ident_isUpper (a0 : UInt8) : Option Bool :=
  if (decide (65 ≤ (a0.toNat : Int))) = true then
    some (decide ((a0.toNat : Int) ≤ 90))
  else
    some false

def ident_isLower (a0 : UInt8) : Option Bool :=
  if (decide (97 ≤ (a0.toNat : Int))) = true then
    some (decide ((a0.toNat : Int) ≤ 122))
  else
    some false

def ident_isDigit (a0 : UInt8) : Option Bool :=
  if (decide (48 ≤ (a0.toNat : Int))) = true then
    some (decide ((a0.toNat : Int) ≤ 57))
  else
    some false

def ident_IsVariable_1 (a0 : UInt8) : Option Bool :=
  Option.bind (ident_isLower a0) fun r1 =>
  Option.bind (if r1 = true then
    some true
  else
    Option.bind (ident_isUpper a0) fun r16 =>
    some r16) fun q13 =>
  Option.bind (if q13 = true then
    some true
  else
    Option.bind (ident_isDigit a0) fun r39 =>
    some r39) fun q36 =>
  if q36 = true then
    some true
  else
    some ((a0.toNat : Int) == 95)

def ident_IsVariable (a0 : ByteArray) : Option Bool :=
  Option.bind (ident_isName a0 ident_isUpper ident_IsVariable_1) fun r1 =>
  some r1

def value_validLabels_l1 (a0 : (List ByteArray)) (q18 : Int) : Option (Fl Int (Sum Int Bool)) :=
  if (decide (q18 < (a0.length : Int))) = true then
    Option.bind (idx a0 q18) fun x28 =>
    Option.bind (ident_IsVariable x28) fun r35 =>
    if (!r35) = true then
      some (.done (.inr false))
    else
      some (.next (w64 (q18 + 1)))
  else
    some (.done (.inl q18))

def value_validLabels (a0 : (List ByteArray)) : Option Bool :=
  Option.bind (value_ascending_string a0 strings_Compare) fun r4 =>
  if (!r4) = true then
    some false
  else
    Option.bind (iter (value_validLabels_l1 a0) (a0.length + 1) 0) (onEnd (fun _ =>
      some true) (fun r => some r))

def ident_IsAtom_1 (a0 : UInt8) : Option Bool :=
  Option.bind (ident_isLower a0) fun r1 =>
  Option.bind (if r1 = true then
    some true
  else
    Option.bind (ident_isDigit a0) fun r16 =>
    some r16) fun q13 =>
  if q13 = true then
    some true
  else
    some ((a0.toNat : Int) == 95)

def ident_IsAtom (a0 : ByteArray) : Option Bool :=
  Option.bind (ident_isName a0 ident_isLower ident_IsAtom_1) fun r1 =>
  some r1

def cmp_isNaN_int (a0 : Int) : Option Bool :=
  some (a0 != a0)

def cmp_Compare_int (a0 : Int) (a1 : Int) : Option Int :=
  Option.bind (cmp_isNaN_int a0) fun r1 =>
  Option.bind (cmp_isNaN_int a1) fun r8 =>
  if r1 = true then
    if r8 = true then
      some 0
    else
      some (-1)
  else
    if r8 = true then
      some 1
    else
      if (decide (a0 < a1)) = true then
        some (-1)
      else
        if (decide (a1 < a0)) = true then
          some 1
        else
          some 0

def ident_CompareKeys (a0 : Key) (a1 : Key) : Option Int :=
  Option.bind (cmp_Compare_int a0.Kind a1.Kind) fun r11 =>
  if (r11 != 0) = true then
    some r11
  else
    Option.bind (strings_Compare a0.Text a1.Text) fun r19 =>
    some r19

def value_ascending_api_Key_l1 (a0 : (List Key)) (a1 : (Key → Key → Option Int)) (q10 : Int) : Option (Fl Int (Sum Int Bool)) :=
  if (decide (q10 < (a0.length : Int))) = true then
    Option.bind (idx a0 (w64 (q10 - 1))) fun x20 =>
    Option.bind (idx a0 q10) fun x22 =>
    Option.bind (a1 x20 x22) fun r24 =>
    if (decide (0 ≤ r24)) = true then
      some (.done (.inr false))
    else
      some (.next (w64 (q10 + 1)))
  else
    some (.done (.inl q10))

def value_ascending_api_Key (a0 : (List Key)) (a1 : (Key → Key → Option Int)) : Option Bool :=
  Option.bind (iter (value_ascending_api_Key_l1 a0 a1) (a0.length + 1) 1) (onEnd (fun _ =>
    some true) (fun r => some r))

def ident_ValidKey (a0 : Key) : Option Bool :=
  if (a0.Kind == 0) = true then
    Option.bind (ident_IsAtom a0.Text) fun r7 =>
    some r7
  else
    if (a0.Kind == 1) = true then
      some (decide ((a0.Text.size : Int) ≤ 64))
    else
      some false

def value_validMap_l1 (a0 : Val) (q33 : Int) : Option (Fl Int (Sum Int Bool)) :=
  if (decide (q33 < (a0.Keys.length : Int))) = true then
    Option.bind (idx a0.Keys q33) fun x43 =>
    Option.bind (ident_ValidKey x43) fun r59 =>
    if (!r59) = true then
      some (.done (.inr false))
    else
      some (.next (w64 (q33 + 1)))
  else
    some (.done (.inl q33))

def value_validMap (a0 : Val) : Option Bool :=
  if ((a0.Keys.length : Int) != (a0.Kids.length : Int)) = true then
    some false
  else
    Option.bind (value_ascending_api_Key a0.Keys ident_CompareKeys) fun r19 =>
    if (!r19) = true then
      some false
    else
      Option.bind (iter (value_validMap_l1 a0) (a0.Keys.length + 1) 0) (onEnd (fun _ =>
        some true) (fun r => some r))

def cmp_isNaN_int64 (a0 : Int) : Option Bool :=
  some (a0 != a0)

def cmp_Compare_int64 (a0 : Int) (a1 : Int) : Option Int :=
  Option.bind (cmp_isNaN_int64 a0) fun r1 =>
  Option.bind (cmp_isNaN_int64 a1) fun r8 =>
  if r1 = true then
    if r8 = true then
      some 0
    else
      some (-1)
  else
    if r8 = true then
      some 1
    else
      if (decide (a0 < a1)) = true then
        some (-1)
      else
        if (decide (a1 < a0)) = true then
          some 1
        else
          some 0

def value_compareLists_api_Key_l1 (a0 : (List Key)) (a1 : (List Key)) (a2 : (Key → Key → Option Int)) (q23 : Int) : Option (Fl Int (Sum Int Int)) :=
  if (decide (q23 < (a0.length : Int))) = true then
    Option.bind (idx a0 q23) fun x35 =>
    Option.bind (idx a1 q23) fun x37 =>
    Option.bind (a2 x35 x37) fun r39 =>
    if (r39 != 0) = true then
      some (.done (.inr r39))
    else
      some (.next (w64 (q23 + 1)))
  else
    some (.done (.inl q23))

def value_compareLists_api_Key (a0 : (List Key)) (a1 : (List Key)) (a2 : (Key → Key → Option Int)) : Option Int :=
  Option.bind (cmp_Compare_int (a0.length : Int) (a1.length : Int)) fun r7 =>
  if (r7 != 0) = true then
    some r7
  else
    Option.bind (iter (value_compareLists_api_Key_l1 a0 a1 a2) (a0.length + 1) 0) (onEnd (fun _ =>
      some 0) (fun r => some r))

def value_compareLists_api_Value_l1 (a0 : (List Val)) (a1 : (List Val)) (a2 : (Val → Val → Option Int)) (q23 : Int) : Option (Fl Int (Sum Int Int)) :=
  if (decide (q23 < (a0.length : Int))) = true then
    Option.bind (idx a0 q23) fun x35 =>
    Option.bind (idx a1 q23) fun x37 =>
    Option.bind (a2 x35 x37) fun r39 =>
    if (r39 != 0) = true then
      some (.done (.inr r39))
    else
      some (.next (w64 (q23 + 1)))
  else
    some (.done (.inl q23))

def value_compareLists_api_Value (a0 : (List Val)) (a1 : (List Val)) (a2 : (Val → Val → Option Int)) : Option Int :=
  Option.bind (cmp_Compare_int (a0.length : Int) (a1.length : Int)) fun r7 =>
  if (r7 != 0) = true then
    some r7
  else
    Option.bind (iter (value_compareLists_api_Value_l1 a0 a1 a2) (a0.length + 1) 0) (onEnd (fun _ =>
      some 0) (fun r => some r))

def value_compareLists_api_Entry_l1 (a0 : (List Ent)) (a1 : (List Ent)) (a2 : (Ent → Ent → Option Int)) (q23 : Int) : Option (Fl Int (Sum Int Int)) :=
  if (decide (q23 < (a0.length : Int))) = true then
    Option.bind (idx a0 q23) fun x35 =>
    Option.bind (idx a1 q23) fun x37 =>
    Option.bind (a2 x35 x37) fun r39 =>
    if (r39 != 0) = true then
      some (.done (.inr r39))
    else
      some (.next (w64 (q23 + 1)))
  else
    some (.done (.inl q23))

def value_compareLists_api_Entry (a0 : (List Ent)) (a1 : (List Ent)) (a2 : (Ent → Ent → Option Int)) : Option Int :=
  Option.bind (cmp_Compare_int (a0.length : Int) (a1.length : Int)) fun r7 =>
  if (r7 != 0) = true then
    some r7
  else
    Option.bind (iter (value_compareLists_api_Entry_l1 a0 a1 a2) (a0.length + 1) 0) (onEnd (fun _ =>
      some 0) (fun r => some r))

def value_compareLists_string_l1 (a0 : (List ByteArray)) (a1 : (List ByteArray)) (a2 : (ByteArray → ByteArray → Option Int)) (q23 : Int) : Option (Fl Int (Sum Int Int)) :=
  if (decide (q23 < (a0.length : Int))) = true then
    Option.bind (idx a0 q23) fun x35 =>
    Option.bind (idx a1 q23) fun x37 =>
    Option.bind (a2 x35 x37) fun r39 =>
    if (r39 != 0) = true then
      some (.done (.inr r39))
    else
      some (.next (w64 (q23 + 1)))
  else
    some (.done (.inl q23))

def value_compareLists_string (a0 : (List ByteArray)) (a1 : (List ByteArray)) (a2 : (ByteArray → ByteArray → Option Int)) : Option Int :=
  Option.bind (cmp_Compare_int (a0.length : Int) (a1.length : Int)) fun r7 =>
  if (r7 != 0) = true then
    some r7
  else
    Option.bind (iter (value_compareLists_string_l1 a0 a1 a2) (a0.length + 1) 0) (onEnd (fun _ =>
      some 0) (fun r => some r))

def value_Compare_B (_rec_value_Compare : (Val → Val → Option Int)) (rec_value_compareValues : ((List Val) → (List Val) → Option Int)) (rec_value_compareEntries : (Ent → Ent → Option Int)) (a0 : Val) (a1 : Val) : Option Int :=
  Option.bind (cmp_Compare_int a0.Kind a1.Kind) fun r35 =>
  if (r35 != 0) = true then
    some r35
  else
    Option.bind (cmp_Compare_int64 a0.Int_ a1.Int_) fun r43 =>
    if (r43 != 0) = true then
      some r43
    else
      Option.bind (strings_Compare a0.Text a1.Text) fun r51 =>
      if (r51 != 0) = true then
        some r51
      else
        Option.bind (value_compareLists_api_Key a0.Keys a1.Keys ident_CompareKeys) fun r59 =>
        if (r59 != 0) = true then
          some r59
        else
          Option.bind (rec_value_compareValues a0.Kids a1.Kids) fun r67 =>
          if (r67 != 0) = true then
            some r67
          else
            Option.bind (value_compareLists_api_Entry a0.Entries a1.Entries rec_value_compareEntries) fun r75 =>
            if (r75 != 0) = true then
              some r75
            else
              Option.bind (value_compareLists_string a0.Labels a1.Labels strings_Compare) fun r83 =>
              some r83

def value_compareValues_B (rec_value_Compare : (Val → Val → Option Int)) (_rec_value_compareValues : ((List Val) → (List Val) → Option Int)) (_rec_value_compareEntries : (Ent → Ent → Option Int)) (a0 : (List Val)) (a1 : (List Val)) : Option Int :=
  Option.bind (value_compareLists_api_Value a0 a1 rec_value_Compare) fun r7 =>
  some r7

def value_compareEntries_B (rec_value_Compare : (Val → Val → Option Int)) (rec_value_compareValues : ((List Val) → (List Val) → Option Int)) (_rec_value_compareEntries : (Ent → Ent → Option Int)) (a0 : Ent) (a1 : Ent) : Option Int :=
  Option.bind (rec_value_compareValues a0.Args a1.Args) fun r41 =>
  if (r41 != 0) = true then
    some r41
  else
    if (a0.Fails != a1.Fails) = true then
      if a0.Fails = true then
        some (-1)
      else
        some 1
    else
      Option.bind (rec_value_Compare a0.Result a1.Result) fun r51 =>
      some r51

def scc_value_Compare : Nat → (Val → Val → Option Int) × ((List Val) → (List Val) → Option Int) × (Ent → Ent → Option Int)
  | 0 => (fun _ _ => none, fun _ _ => none, fun _ _ => none)
  | n + 1 => (value_Compare_B (scc_value_Compare n).1 (scc_value_Compare n).2.1 (scc_value_Compare n).2.2, value_compareValues_B (scc_value_Compare n).1 (scc_value_Compare n).2.1 (scc_value_Compare n).2.2, value_compareEntries_B (scc_value_Compare n).1 (scc_value_Compare n).2.1 (scc_value_Compare n).2.2)

def value_Compare (n : Nat) : (Val → Val → Option Int) := (scc_value_Compare n).1

def value_compareValues (n : Nat) : ((List Val) → (List Val) → Option Int) := (scc_value_Compare n).2.1

def value_compareEntries (n : Nat) : (Ent → Ent → Option Int) := (scc_value_Compare n).2.2

def value_ascending_api_Entry_l1 (a0 : (List Ent)) (a1 : (Ent → Ent → Option Int)) (q10 : Int) : Option (Fl Int (Sum Int Bool)) :=
  if (decide (q10 < (a0.length : Int))) = true then
    Option.bind (idx a0 (w64 (q10 - 1))) fun x20 =>
    Option.bind (idx a0 q10) fun x22 =>
    Option.bind (a1 x20 x22) fun r24 =>
    if (decide (0 ≤ r24)) = true then
      some (.done (.inr false))
    else
      some (.next (w64 (q10 + 1)))
  else
    some (.done (.inl q10))

def value_ascending_api_Entry (a0 : (List Ent)) (a1 : (Ent → Ent → Option Int)) : Option Bool :=
  Option.bind (iter (value_ascending_api_Entry_l1 a0 a1) (a0.length + 1) 1) (onEnd (fun _ =>
    some true) (fun r => some r))

def value_Equal (fuel : Nat) (a0 : Val) (a1 : Val) : Option Bool :=
  Option.bind ((value_Compare fuel) a0 a1) fun r35 =>
  some (r35 == 0)

def value_isZero (fuel : Nat) (a0 : Val) : Option Bool :=
  Option.bind ((value_Equal fuel) a0 (Val.mk 0 0 (⟨#[]⟩) ([] : List Val) ([] : List Key) ([] : List Ent) ([] : List ByteArray))) fun r18 =>
  some r18

def value_validEntry (fuel : Nat) (a0 : Ent) (a1 : Int) : Option Bool :=
  if ((a0.Args.length : Int) == a1) = true then
    Option.bind (if (!a0.Fails) = true then
      some true
    else
      Option.bind ((value_isZero fuel) a0.Result) fun r31 =>
      some r31) fun q28 =>
    some q28
  else
    some false

def value_validFunction_l1 (fuel : Nat) (a0 : Val) (q51 : Int) : Option (Fl Int (Sum Int Bool)) :=
  if (decide (q51 < (a0.Entries.length : Int))) = true then
    Option.bind (idx a0.Entries q51) fun x63 =>
    Option.bind ((value_validEntry fuel) x63 a0.Int_) fun r94 =>
    if (!r94) = true then
      some (.done (.inr false))
    else
      some (.next (w64 (q51 + 1)))
  else
    some (.done (.inl q51))

def value_validFunction (fuel : Nat) (a0 : Val) : Option Bool :=
  Option.bind (if (decide (a0.Int_ < 0)) = true then
    some true
  else
    some (decide (4 < a0.Int_))) fun q23 =>
  if q23 = true then
    some false
  else
    Option.bind (value_ascending_api_Entry a0.Entries (value_compareEntries fuel)) fun r36 =>
    if (!r36) = true then
      some false
    else
      Option.bind (iter (value_validFunction_l1 fuel a0) (a0.Entries.length + 1) 0) (onEnd (fun _ =>
        some true) (fun r => some r))

def value_validNode (fuel : Nat) (a0 : Val) : Option Bool :=
  Option.bind (value_uses a0.Kind) fun r18 =>
  if (!r18.2) = true then
    some false
  else
    Option.bind (value_validLabels a0.Labels) fun r39 =>
    if (!r39) = true then
      some false
    else
      Option.bind (if (!r18.1.number) = true then
        some (a0.Int_ != 0)
      else
        some false) fun q53 =>
      Option.bind (if q53 = true then
        some true
      else
        Option.bind (if (!r18.1.text_) = true then
          some (!strEq a0.Text (⟨#[]⟩))
        else
          some false) fun q83 =>
        some q83) fun q73 =>
      Option.bind (if q73 = true then
        some true
      else
        Option.bind (if (!r18.1.kids) = true then
          some (decide (0 < (a0.Kids.length : Int)))
        else
          some false) fun q125 =>
        some q125) fun q115 =>
      Option.bind (if q115 = true then
        some true
      else
        Option.bind (if (!r18.1.keys) = true then
          some (decide (0 < (a0.Keys.length : Int)))
        else
          some false) fun q167 =>
        some q167) fun q157 =>
      if q157 = true then
        some false
      else
        Option.bind (if (!r18.1.entries) = true then
          some (decide (0 < (a0.Entries.length : Int)))
        else
          some false) fun q200 =>
        if q200 = true then
          some false
        else
          if (a0.Kind == 2) = true then
            some (decide ((a0.Text.size : Int) ≤ 64))
          else
            if (a0.Kind == 3) = true then
              Option.bind (ident_IsAtom a0.Text) fun r216 =>
              some r216
            else
              if (a0.Kind == 4) = true then
                some (decide (0 ≤ a0.Int_))
              else
                if (a0.Kind == 6) = true then
                  some (decide ((a0.Kids.length : Int) ≤ 4))
                else
                  if (a0.Kind == 7) = true then
                    if ((a0.Kids.length : Int) == 2) = true then
                      Option.bind (idx a0.Kids 1) fun x227 =>
                      Option.bind (if (x227.Kind == 5) = true then
                        some true
                      else
                        Option.bind (idx a0.Kids 1) fun x255 =>
                        some (x255.Kind == 7)) fun q252 =>
                      some q252
                    else
                      some false
                  else
                    if (a0.Kind == 8) = true then
                      Option.bind (value_validMap a0) fun r283 =>
                      some r283
                    else
                      if (a0.Kind == 9) = true then
                        Option.bind ((value_validFunction fuel) a0) fun r291 =>
                        some r291
                      else
                        some true

def value_validTree_l1 (rec_value_validTree : (Val → Option Bool)) (r26 : (List Val)) (q42 : Int) : Option (Fl Int (Sum Int Bool)) :=
  if (decide (q42 < (r26.length : Int))) = true then
    Option.bind (idx r26 q42) fun x53 =>
    Option.bind (rec_value_validTree x53) fun r81 =>
    if (!r81) = true then
      some (.done (.inr false))
    else
      some (.next (w64 (q42 + 1)))
  else
    some (.done (.inl q42))

def value_validTree_B (rec_value_validTree : (Val → Option Bool)) (fuel : Nat) (a0 : Val) : Option Bool :=
  Option.bind ((value_validNode fuel) a0) fun r18 =>
  if (!r18) = true then
    some false
  else
    Option.bind (value_parts a0) fun r26 =>
    Option.bind (iter (value_validTree_l1 rec_value_validTree r26) (r26.length + 1) 0) (onEnd (fun _ =>
      some true) (fun r => some r))

def value_validTree : Nat → (Val → Option Bool)
  | 0 => fun _ => none
  | n + 1 => value_validTree_B (value_validTree n) n

def value_Validate (fuel : Nat) (a0 : Val) : Option Int :=
  Option.bind ((value_validTree fuel) a0) fun r18 =>
  if (!r18) = true then
    some 1
  else
    some 0

def value_Nodes_l1 (rec_value_Nodes : (Val → Option Int)) (r18 : (List Val)) (q35 : (Int × Int)) : Option (Fl (Int × Int) (Int × Int)) :=
  if (decide (q35.2 < (r18.length : Int))) = true then
    Option.bind (idx r18 q35.2) fun x48 =>
    Option.bind (rec_value_Nodes x48) fun r76 =>
    some (.next (w64 (q35.1 + r76), w64 (q35.2 + 1)))
  else
    some (.done (q35.1, q35.2))

def value_Nodes_B (rec_value_Nodes : (Val → Option Int)) (a0 : Val) : Option Int :=
  Option.bind (value_parts a0) fun r18 =>
  Option.bind (iter (value_Nodes_l1 rec_value_Nodes r18) (r18.length + 1) (1, 0)) fun o83 =>
  some o83.1

def value_Nodes : Nat → (Val → Option Int)
  | 0 => fun _ => none
  | n + 1 => value_Nodes_B (value_Nodes n)

def value_Height_l1 (rec_value_Height : (Val → Option Int)) (r18 : (List Val)) (q35 : (Int × Int)) : Option (Fl (Int × Int) (Int × Int)) :=
  if (decide (q35.2 < (r18.length : Int))) = true then
    Option.bind (idx r18 q35.2) fun x48 =>
    Option.bind (rec_value_Height x48) fun r76 =>
    some (.next (max q35.1 r76, w64 (q35.2 + 1)))
  else
    some (.done (q35.1, q35.2))

def value_Height_B (rec_value_Height : (Val → Option Int)) (a0 : Val) : Option Int :=
  Option.bind (value_parts a0) fun r18 =>
  Option.bind (iter (value_Height_l1 rec_value_Height r18) (r18.length + 1) (0, 0)) fun o83 =>
  some (w64 (o83.1 + 1))

def value_Height : Nat → (Val → Option Int)
  | 0 => fun _ => none
  | n + 1 => value_Height_B (value_Height n)

def value_Nil : Option Val :=
  some (Val.mk 5 0 (⟨#[]⟩) ([] : List Val) ([] : List Key) ([] : List Ent) ([] : List ByteArray))

def slices_Clone_api_Key_api_Key (a0 : (List Key)) : Option (List Key) :=
  Option.bind (room (([] : List Key).length + a0.length) 24) fun _ =>
  some a0

def slices_Clone_string_string (a0 : (List ByteArray)) : Option (List ByteArray) :=
  Option.bind (room (([] : List ByteArray).length + a0.length) 16) fun _ =>
  some a0

def value_cloneAll_l1 (rec_value_clone : (Val → Option Val)) (a0 : (List Val)) (q11 : ((List Val) × Int)) : Option (Fl ((List Val) × Int) ((List Val) × Int)) :=
  if (decide (q11.2 < (a0.length : Int))) = true then
    Option.bind (idx a0 q11.2) fun x26 =>
    Option.bind (rec_value_clone x26) fun r54 =>
    Option.bind (room (q11.1.length + [r54].length) 128) fun _ =>
    some (.next (q11.1 ++ [r54], w64 (q11.2 + 1)))
  else
    some (.done (q11.1, q11.2))

def value_cloneAll_B (_rec_value_cloneAll : ((List Val) → Option (List Val))) (rec_value_clone : (Val → Option Val)) (_rec_value_cloneEntries : ((List Ent) → Option (List Ent))) (a0 : (List Val)) : Option (List Val) :=
  Option.bind (iter (value_cloneAll_l1 rec_value_clone a0) (a0.length + 1) (([] : List Val), 0)) fun o87 =>
  some o87.1

def value_clone_B (rec_value_cloneAll : ((List Val) → Option (List Val))) (_rec_value_clone : (Val → Option Val)) (rec_value_cloneEntries : ((List Ent) → Option (List Ent))) (a0 : Val) : Option Val :=
  Option.bind (rec_value_cloneAll a0.Kids) fun r23 =>
  Option.bind (slices_Clone_api_Key_api_Key a0.Keys) fun r37 =>
  Option.bind (slices_Clone_string_string a0.Labels) fun r51 =>
  Option.bind (rec_value_cloneEntries a0.Entries) fun r65 =>
  some (Val.mk a0.Kind a0.Int_ a0.Text r23 r37 r65 r51)

def value_cloneEntries_l1 (rec_value_cloneAll : ((List Val) → Option (List Val))) (rec_value_clone : (Val → Option Val)) (a0 : (List Ent)) (q11 : ((List Ent) × Int)) : Option (Fl ((List Ent) × Int) ((List Ent) × Int)) :=
  if (decide (q11.2 < (a0.length : Int))) = true then
    Option.bind (idx a0 q11.2) fun x26 =>
    Option.bind (rec_value_cloneAll x26.Args) fun r57 =>
    Option.bind (rec_value_clone x26.Result) fun r59 =>
    Option.bind (room (q11.1.length + [(Ent.mk r57 x26.Fails r59)].length) 160) fun _ =>
    some (.next (q11.1 ++ [(Ent.mk r57 x26.Fails r59)], w64 (q11.2 + 1)))
  else
    some (.done (q11.1, q11.2))

def value_cloneEntries_B (rec_value_cloneAll : ((List Val) → Option (List Val))) (rec_value_clone : (Val → Option Val)) (_rec_value_cloneEntries : ((List Ent) → Option (List Ent))) (a0 : (List Ent)) : Option (List Ent) :=
  Option.bind (iter (value_cloneEntries_l1 rec_value_cloneAll rec_value_clone a0) (a0.length + 1) (([] : List Ent), 0)) fun o395 =>
  some o395.1

def scc_value_cloneAll : Nat → ((List Val) → Option (List Val)) × (Val → Option Val) × ((List Ent) → Option (List Ent))
  | 0 => (fun _ => none, fun _ => none, fun _ => none)
  | n + 1 => (value_cloneAll_B (scc_value_cloneAll n).1 (scc_value_cloneAll n).2.1 (scc_value_cloneAll n).2.2, value_clone_B (scc_value_cloneAll n).1 (scc_value_cloneAll n).2.1 (scc_value_cloneAll n).2.2, value_cloneEntries_B (scc_value_cloneAll n).1 (scc_value_cloneAll n).2.1 (scc_value_cloneAll n).2.2)

def value_cloneAll (n : Nat) : ((List Val) → Option (List Val)) := (scc_value_cloneAll n).1

def value_clone (n : Nat) : (Val → Option Val) := (scc_value_cloneAll n).2.1

def value_cloneEntries (n : Nat) : ((List Ent) → Option (List Ent)) := (scc_value_cloneAll n).2.2

def value_List_l1 (fuel : Nat) (a0 : (List Val)) (q43 : (Int × Int × Int × ByteArray × (List Val) × (List Key) × (List Ent) × (List ByteArray))) : Option (Fl (Int × Int × Int × ByteArray × (List Val) × (List Key) × (List Ent) × (List ByteArray)) (Int × Int × Int × ByteArray × (List Val) × (List Key) × (List Ent) × (List ByteArray))) :=
  if (decide (0 ≤ q43.1)) = true then
    Option.bind (idx a0 q43.1) fun x68 =>
    Option.bind ((value_clone fuel) x68) fun r70 =>
    some (.next (w64 (q43.1 - 1), 7, 0, ⟨#[]⟩, [r70, (Val.mk q43.2.1 q43.2.2.1 q43.2.2.2.1 q43.2.2.2.2.1 q43.2.2.2.2.2.1 q43.2.2.2.2.2.2.1 q43.2.2.2.2.2.2.2)], ([] : List Key), ([] : List Ent), ([] : List ByteArray)))
  else
    some (.done (q43.1, q43.2.1, q43.2.2.1, q43.2.2.2.1, q43.2.2.2.2.1, q43.2.2.2.2.2.1, q43.2.2.2.2.2.2.1, q43.2.2.2.2.2.2.2))

def value_List (fuel : Nat) (a0 : (List Val)) : Option Val :=
  Option.bind (value_Nil) fun r9 =>
  Option.bind (iter (value_List_l1 fuel a0) (fuel) (w64 ((a0.length : Int) - 1), r9.Kind, r9.Int_, r9.Text, r9.Kids, r9.Keys, r9.Entries, r9.Labels)) fun o367 =>
  some (Val.mk o367.2.1 o367.2.2.1 o367.2.2.2.1 o367.2.2.2.2.1 o367.2.2.2.2.2.1 o367.2.2.2.2.2.2.1 o367.2.2.2.2.2.2.2)

def value_Cons (fuel : Nat) (a0 : Val) (a1 : Val) : Option Val :=
  Option.bind ((value_clone fuel) a0) fun r40 =>
  Option.bind ((value_clone fuel) a1) fun r42 =>
  some (Val.mk 7 0 (⟨#[]⟩) [r40, r42] ([] : List Key) ([] : List Ent) ([] : List ByteArray))

def value_Int (a0 : Int) : Option Val :=
  some (Val.mk 1 a0 (⟨#[]⟩) ([] : List Val) ([] : List Key) ([] : List Ent) ([] : List ByteArray))

def semtypelaw4_awake (fuel : Nat) : Option Bool :=
  Option.bind (value_Int 1) fun r1 =>
  Option.bind (value_Int 2) fun r20 =>
  Option.bind ((value_List fuel) [r1, r20]) fun r45 =>
  Option.bind ((value_Nodes fuel) r45) fun r73 =>
  if (r73 == 5) = true then
    Option.bind ((value_Height fuel) r45) fun r76 =>
    if (r76 == 3) = true then
      Option.bind ((value_Validate fuel) r45) fun r79 =>
      if (r79 == 0) = true then
        Option.bind ((value_Validate fuel) (Val.mk 0 0 (⟨#[]⟩) ([] : List Val) ([] : List Key) ([] : List Ent) ([] : List ByteArray))) fun r82 =>
        if (r82 == 1) = true then
          Option.bind (value_Int 1) fun r85 =>
          Option.bind (value_Int 2) fun r87 =>
          Option.bind (value_Nil) fun r89 =>
          Option.bind ((value_Cons fuel) r87 r89) fun r91 =>
          Option.bind ((value_Cons fuel) r85 r91) fun r93 =>
          Option.bind ((value_Equal fuel) r45 r93) fun r95 =>
          some r95
        else
          some false
      else
        some false
    else
      some false
  else
    some false

def value_Tuple (fuel : Nat) (a0 : (List Val)) : Option Val :=
  Option.bind ((value_cloneAll fuel) a0) fun r9 =>
  some (Val.mk 6 0 (⟨#[]⟩) r9 ([] : List Key) ([] : List Ent) ([] : List ByteArray))

def semtyperef1_Height_l1 (rec_semtyperef1_Height : (Val → Option Int)) (a0 : Val) (q24 : (Int × Int)) : Option (Fl (Int × Int) (Int × Int)) :=
  if (decide (q24.2 < (a0.Kids.length : Int))) = true then
    Option.bind (idx a0.Kids q24.2) fun x36 =>
    Option.bind (rec_semtyperef1_Height x36) fun r55 =>
    some (.next (max q24.1 r55, w64 (q24.2 + 1)))
  else
    some (.done (q24.1, q24.2))

def semtyperef1_Height_l3 (rec_semtyperef1_Height : (Val → Option Int)) (x93 : Ent) (q132 : (Int × Int)) : Option (Fl (Int × Int) (Int × Int)) :=
  if (decide (q132.2 < (x93.Args.length : Int))) = true then
    Option.bind (idx x93.Args q132.2) fun x147 =>
    Option.bind (rec_semtyperef1_Height x147) fun r166 =>
    some (.next (max q132.1 r166, w64 (q132.2 + 1)))
  else
    some (.done (q132.1, q132.2))

def semtyperef1_Height_l2 (rec_semtyperef1_Height : (Val → Option Int)) (a0 : Val) (q81 : (Int × Int)) : Option (Fl (Int × Int) (Int × Int)) :=
  if (decide (q81.2 < (a0.Entries.length : Int))) = true then
    Option.bind (idx a0.Entries q81.2) fun x93 =>
    Option.bind (iter (semtyperef1_Height_l3 rec_semtyperef1_Height x93) (x93.Args.length + 1) (q81.1, 0)) fun o173 =>
    if (!x93.Fails) = true then
      Option.bind (rec_semtyperef1_Height x93.Result) fun r190 =>
      some (.next (max o173.1 r190, w64 (q81.2 + 1)))
    else
      some (.next (o173.1, w64 (q81.2 + 1)))
  else
    some (.done (q81.1, q81.2))

def semtyperef1_Height_B (rec_semtyperef1_Height : (Val → Option Int)) (a0 : Val) : Option Int :=
  Option.bind (iter (semtyperef1_Height_l1 rec_semtyperef1_Height a0) (a0.Kids.length + 1) (0, 0)) fun o62 =>
  Option.bind (iter (semtyperef1_Height_l2 rec_semtyperef1_Height a0) (a0.Entries.length + 1) (o62.1, 0)) fun o197 =>
  some (w64 (o197.1 + 1))

def semtyperef1_Height : Nat → (Val → Option Int)
  | 0 => fun _ => none
  | n + 1 => semtyperef1_Height_B (semtyperef1_Height n)

def semtypelaw4_ValueMeasures (fuel : Nat) (a0 : Val) (a1 : Val) : Option Bool :=
  Option.bind ((semtypelaw4_small fuel) a0) fun r35 =>
  if (!r35) = true then
    Option.bind ((semtypelaw4_awake fuel)) fun r43 =>
    some r43
  else
    Option.bind ((semtypelaw4_small fuel) a1) fun r50 =>
    if (!r50) = true then
      Option.bind ((semtypelaw4_awake fuel)) fun r58 =>
      some r58
    else
      Option.bind ((value_Tuple fuel) [a0, a1]) fun r71 =>
      Option.bind ((value_Nodes fuel) a0) fun r99 =>
      Option.bind ((semtyperef1_Nodes fuel) a0) fun r101 =>
      if (r99 == r101) = true then
        Option.bind ((value_Height fuel) a0) fun r104 =>
        Option.bind ((semtyperef1_Height fuel) a0) fun r106 =>
        if (r104 == r106) = true then
          Option.bind ((value_Nodes fuel) r71) fun r109 =>
          Option.bind ((value_Nodes fuel) a0) fun r111 =>
          Option.bind ((value_Nodes fuel) a1) fun r113 =>
          if (r109 == (w64 ((w64 (1 + r111)) + r113))) = true then
            Option.bind ((value_Height fuel) r71) fun r116 =>
            Option.bind ((value_Height fuel) a0) fun r118 =>
            Option.bind ((value_Height fuel) a1) fun r120 =>
            if (r116 == (w64 (1 + (max r118 r120)))) = true then
              Option.bind ((semtypelaw4_awake fuel)) fun r123 =>
              some r123
            else
              some false
          else
            some false
        else
          some false
      else
        some false

def semtyperef1_Order (a0 : Int) (a1 : Int) : Option Int :=
  if (decide (a0 < a1)) = true then
    some (-1)
  else
    if (decide (a1 < a0)) = true then
      some 1
    else
      some 0

def semtyperef1_count (a0 : Int) (a1 : Int) : Option Int :=
  Option.bind (semtyperef1_Order a0 a1) fun r1 =>
  some r1

def semtyperef1_Text (a0 : ByteArray) (a1 : ByteArray) : Option Int :=
  if (strLt a0 a1) = true then
    some (-1)
  else
    if (!(strLt a0 a1 || strEq a0 a1)) = true then
      some 1
    else
      some 0

def semtyperef1_CompareKeys (a0 : Key) (a1 : Key) : Option Int :=
  if (a0.Kind != a1.Kind) = true then
    Option.bind (semtyperef1_Order a0.Kind a1.Kind) fun r12 =>
    some r12
  else
    Option.bind (semtyperef1_Text a0.Text a1.Text) fun r19 =>
    some r19

def semtyperef1_Compare_l1 (a0 : Val) (a1 : Val) (q73 : Int) : Option (Fl Int (Sum Int Int)) :=
  if (decide (q73 < (a0.Keys.length : Int))) = true then
    Option.bind (idx a0.Keys q73) fun x85 =>
    Option.bind (idx a1.Keys q73) fun x87 =>
    Option.bind (semtyperef1_CompareKeys x85 x87) fun r89 =>
    if (r89 != 0) = true then
      some (.done (.inr r89))
    else
      some (.next (w64 (q73 + 1)))
  else
    some (.done (.inl q73))

def semtyperef1_Compare_l2 (rec_semtyperef1_CompareEntries : (Ent → Ent → Option Int)) (a0 : Val) (a1 : Val) (q361 : Int) : Option (Fl Int (Sum Int Int)) :=
  if (decide (q361 < (a0.Entries.length : Int))) = true then
    Option.bind (idx a0.Entries q361) fun x373 =>
    Option.bind (idx a1.Entries q361) fun x375 =>
    Option.bind (rec_semtyperef1_CompareEntries x373 x375) fun r377 =>
    if (r377 != 0) = true then
      some (.done (.inr r377))
    else
      some (.next (w64 (q361 + 1)))
  else
    some (.done (.inl q361))

def semtyperef1_Compare_l3 (a0 : Val) (a1 : Val) (q731 : Int) : Option (Fl Int (Sum Int Int)) :=
  if (decide (q731 < (a0.Labels.length : Int))) = true then
    Option.bind (idx a0.Labels q731) fun x743 =>
    Option.bind (idx a1.Labels q731) fun x745 =>
    Option.bind (semtyperef1_Text x743 x745) fun r747 =>
    if (r747 != 0) = true then
      some (.done (.inr r747))
    else
      some (.next (w64 (q731 + 1)))
  else
    some (.done (.inl q731))

def semtyperef1_Compare_B (_rec_semtyperef1_Compare : (Val → Val → Option Int)) (rec_semtyperef1_values : ((List Val) → (List Val) → Option Int)) (rec_semtyperef1_CompareEntries : (Ent → Ent → Option Int)) (a0 : Val) (a1 : Val) : Option Int :=
  if (a0.Kind != a1.Kind) = true then
    Option.bind (semtyperef1_count a0.Kind a1.Kind) fun r36 =>
    some r36
  else
    if (a0.Int_ != a1.Int_) = true then
      Option.bind (semtyperef1_Order a0.Int_ a1.Int_) fun r44 =>
      some r44
    else
      if (!strEq a0.Text a1.Text) = true then
        Option.bind (semtyperef1_Text a0.Text a1.Text) fun r52 =>
        some r52
      else
        if ((a0.Keys.length : Int) != (a1.Keys.length : Int)) = true then
          Option.bind (semtyperef1_count (a0.Keys.length : Int) (a1.Keys.length : Int)) fun r60 =>
          some r60
        else
          Option.bind (iter (semtyperef1_Compare_l1 a0 a1) (a0.Keys.length + 1) 0) (onEnd (fun _ =>
            Option.bind (rec_semtyperef1_values a0.Kids a1.Kids) fun r340 =>
            if (r340 != 0) = true then
              some r340
            else
              if ((a0.Entries.length : Int) != (a1.Entries.length : Int)) = true then
                Option.bind (semtyperef1_count (a0.Entries.length : Int) (a1.Entries.length : Int)) fun r349 =>
                some r349
              else
                Option.bind (iter (semtyperef1_Compare_l2 rec_semtyperef1_CompareEntries a0 a1) (a0.Entries.length + 1) 0) (onEnd (fun _ =>
                  if ((a0.Labels.length : Int) != (a1.Labels.length : Int)) = true then
                    Option.bind (semtyperef1_count (a0.Labels.length : Int) (a1.Labels.length : Int)) fun r719 =>
                    some r719
                  else
                    Option.bind (iter (semtyperef1_Compare_l3 a0 a1) (a0.Labels.length + 1) 0) (onEnd (fun _ =>
                      some 0) (fun r => some r))) (fun r => some r))) (fun r => some r))

def semtyperef1_values_l1 (rec_semtyperef1_Compare : (Val → Val → Option Int)) (a0 : (List Val)) (a1 : (List Val)) (q21 : Int) : Option (Fl Int (Sum Int Int)) :=
  if (decide (q21 < (a0.length : Int))) = true then
    Option.bind (idx a0 q21) fun x31 =>
    Option.bind (idx a1 q21) fun x33 =>
    Option.bind (rec_semtyperef1_Compare x31 x33) fun r35 =>
    if (r35 != 0) = true then
      some (.done (.inr r35))
    else
      some (.next (w64 (q21 + 1)))
  else
    some (.done (.inl q21))

def semtyperef1_values_B (rec_semtyperef1_Compare : (Val → Val → Option Int)) (_rec_semtyperef1_values : ((List Val) → (List Val) → Option Int)) (_rec_semtyperef1_CompareEntries : (Ent → Ent → Option Int)) (a0 : (List Val)) (a1 : (List Val)) : Option Int :=
  if ((a0.length : Int) != (a1.length : Int)) = true then
    Option.bind (semtyperef1_count (a0.length : Int) (a1.length : Int)) fun r8 =>
    some r8
  else
    Option.bind (iter (semtyperef1_values_l1 rec_semtyperef1_Compare a0 a1) (a0.length + 1) 0) (onEnd (fun _ =>
      some 0) (fun r => some r))

def semtyperef1_CompareEntries_B (rec_semtyperef1_Compare : (Val → Val → Option Int)) (rec_semtyperef1_values : ((List Val) → (List Val) → Option Int)) (_rec_semtyperef1_CompareEntries : (Ent → Ent → Option Int)) (a0 : Ent) (a1 : Ent) : Option Int :=
  Option.bind (rec_semtyperef1_values a0.Args a1.Args) fun r41 =>
  if (r41 != 0) = true then
    some r41
  else
    if (a0.Fails != a1.Fails) = true then
      if a0.Fails = true then
        some (-1)
      else
        some 1
    else
      Option.bind (rec_semtyperef1_Compare a0.Result a1.Result) fun r51 =>
      some r51

def scc_semtyperef1_Compare : Nat → (Val → Val → Option Int) × ((List Val) → (List Val) → Option Int) × (Ent → Ent → Option Int)
  | 0 => (fun _ _ => none, fun _ _ => none, fun _ _ => none)
  | n + 1 => (semtyperef1_Compare_B (scc_semtyperef1_Compare n).1 (scc_semtyperef1_Compare n).2.1 (scc_semtyperef1_Compare n).2.2, semtyperef1_values_B (scc_semtyperef1_Compare n).1 (scc_semtyperef1_Compare n).2.1 (scc_semtyperef1_Compare n).2.2, semtyperef1_CompareEntries_B (scc_semtyperef1_Compare n).1 (scc_semtyperef1_Compare n).2.1 (scc_semtyperef1_Compare n).2.2)

def semtyperef1_Compare (n : Nat) : (Val → Val → Option Int) := (scc_semtyperef1_Compare n).1

def semtyperef1_values (n : Nat) : ((List Val) → (List Val) → Option Int) := (scc_semtyperef1_Compare n).2.1

def semtyperef1_CompareEntries (n : Nat) : (Ent → Ent → Option Int) := (scc_semtyperef1_Compare n).2.2

def semtypelaw4_ValueOrder (fuel : Nat) (a0 : Val) (a1 : Val) (a2 : Val) : Option Bool :=
  Option.bind ((semtypelaw4_small fuel) a0) fun r52 =>
  Option.bind (if (!r52) = true then
    some true
  else
    Option.bind ((semtypelaw4_small fuel) a1) fun r69 =>
    some (!r69)) fun q66 =>
  if q66 = true then
    Option.bind ((semtypelaw4_awake fuel)) fun r90 =>
    some r90
  else
    Option.bind ((semtypelaw4_small fuel) a2) fun r97 =>
    if (!r97) = true then
      Option.bind ((semtypelaw4_awake fuel)) fun r105 =>
      some r105
    else
      Option.bind ((value_Compare fuel) a0 a1) fun r112 =>
      Option.bind ((value_Compare fuel) a1 a2) fun r114 =>
      Option.bind ((value_Compare fuel) a0 a2) fun r116 =>
      Option.bind ((semtyperef1_Compare fuel) a0 a1) fun r428 =>
      if (r112 != r428) = true then
        some false
      else
        Option.bind (if (r112 == (-1)) = true then
          Option.bind ((value_Compare fuel) a1 a0) fun r448 =>
          some (r448 != 1)
        else
          some false) fun q445 =>
        if q445 = true then
          some false
        else
          Option.bind (if (r112 == 1) = true then
            Option.bind ((value_Compare fuel) a1 a0) fun r482 =>
            some (r482 != (-1))
          else
            some false) fun q479 =>
          if q479 = true then
            some false
          else
            Option.bind ((value_Equal fuel) a0 a1) fun r504 =>
            Option.bind (if (r504 == (r112 == 0)) = true then
              Option.bind ((value_Equal fuel) a0 a0) fun r521 =>
              some r521
            else
              some false) fun q518 =>
            Option.bind (if q518 = true then
              Option.bind (if (decide (0 < r112)) = true then
                some true
              else
                some (decide (0 < r114))) fun q553 =>
              Option.bind (if q553 = true then
                some true
              else
                some (decide (r116 ≤ 0))) fun q573 =>
              some q573
            else
              some false) fun q543 =>
            Option.bind (if q543 = true then
              Option.bind (if (decide (0 ≤ r112)) = true then
                some true
              else
                some (decide (0 < r114))) fun q610 =>
              Option.bind (if q610 = true then
                some true
              else
                some (decide (r116 < 0))) fun q626 =>
              some q626
            else
              some false) fun q601 =>
            if q601 = true then
              Option.bind ((semtypelaw4_awake fuel)) fun r643 =>
              some r643
            else
              some false

end Go.Sx
