/- Printed by dec.py. The pure functions: what the Go functions compute. -/
import Derived.Test.YtamfhohifmbjnaaSxOps
import Derived.Test.YtamfhohifmbjnaaSxVal
import Derived.Test.YtamfhohifmbjnaaSxPtr
import Derived.Test.YtamfhohifmbjnaaSxShort
namespace Go.Sx
open Go Go.RowKit

structure Value_used where
  number : Bool
  text_ : Bool
  kids : Bool
  keys : Bool
  entries : Bool

instance rpValue_used : Rp Value_used where
  sz := 5
  pos := by decide
  agg := true
  cells := fun σ v cs => cs = [.bool v.number, .bool v.text_, .bool v.kids, .bool v.keys, .bool v.entries]
  len := by
    rintro σ v cs rfl
    rfl
  one := by
    rintro σ v cs rfl u hu
    simp only [List.mem_cons, List.not_mem_nil, or_false] at hu
    rcases hu with rfl | rfl | rfl | rfl | rfl <;> rfl
  mono := by
    rintro σ τ v cs k rfl
    exact rfl

theorem Value_used.cells_iff {σ : S} {v : Value_used} {cs : List Value} : Rp.cells σ v cs ↔ cs = [.bool v.number, .bool v.text_, .bool v.kids, .bool v.keys, .bool v.entries] := Iff.rfl

theorem Value_used.rpv {σ : S} {v : Value_used} {v_ : Value} (h : RpV σ v v_) : v_ = .agg #[.bool v.number, .bool v.text_, .bool v.kids, .bool v.keys, .bool v.entries] := by
  obtain ⟨cs, hc, rfl⟩ := h
  obtain rfl := Value_used.cells_iff.1 hc
  exact rfl

theorem Value_used.rpvMk {σ : S} {v : Value_used} : RpV σ v (.agg #[.bool v.number, .bool v.text_, .bool v.kids, .bool v.keys, .bool v.entries]) := ⟨_, Value_used.cells_iff.2 rfl, rfl⟩

structure Semtypebase_Source where
  L : (List Int)
  At : Int

instance rpSemtypebase_Source : Rp Semtypebase_Source where
  sz := 2
  pos := by decide
  agg := true
  cells := fun σ v cs => ∃ A1 c1, cs = [.slice A1 v.L.length c1, .int .i64 v.At] ∧ Sl σ v.L A1 c1
  len := by
    rintro σ v cs ⟨_, _, rfl, _⟩
    rfl
  one := by
    rintro σ v cs ⟨_, _, rfl, _⟩ u hu
    simp only [List.mem_cons, List.not_mem_nil, or_false] at hu
    rcases hu with rfl | rfl <;> rfl
  mono := by
    rintro σ τ v cs k ⟨A1, c1, rfl, h0⟩
    exact ⟨_, _, rfl, h0.mono k⟩

theorem Semtypebase_Source.cells_iff {σ : S} {v : Semtypebase_Source} {cs : List Value} : Rp.cells σ v cs ↔ ∃ A1 c1, cs = [.slice A1 v.L.length c1, .int .i64 v.At] ∧ Sl σ v.L A1 c1 := Iff.rfl

theorem Semtypebase_Source.rpv {σ : S} {v : Semtypebase_Source} {v_ : Value} (h : RpV σ v v_) : ∃ A1 c1, v_ = .agg #[.slice A1 v.L.length c1, .int .i64 v.At] ∧ Sl σ v.L A1 c1 := by
  obtain ⟨cs, hc, rfl⟩ := h
  obtain ⟨A1, c1, rfl, h0⟩ := Semtypebase_Source.cells_iff.1 hc
  exact ⟨_, _, rfl, h0⟩

theorem Semtypebase_Source.rpvMk {σ : S} {v : Semtypebase_Source} {A1 : Option Addr} {c1 : Nat} (h0 : Sl σ v.L A1 c1) : RpV σ v (.agg #[.slice A1 v.L.length c1, .int .i64 v.At]) := ⟨_, Semtypebase_Source.cells_iff.2 ⟨_, _, rfl, h0⟩, rfl⟩

abbrev nl (α : Type) : Value := .slice none ([] : List α).length 0

abbrev Val.cs (v : Val) (A1 : Option Addr) (c1 : Nat) (A2 : Option Addr) (c2 : Nat) (A3 : Option Addr) (c3 : Nat) (A4 : Option Addr) (c4 : Nat) : List Value := [.int .i64 v.Kind, .int .i64 v.Int_, .string v.Text, .slice A1 v.Kids.length c1, .slice A2 v.Keys.length c2, .slice A3 v.Entries.length c3, .slice A4 v.Labels.length c4]
abbrev Val.ag (v : Val) (A1 : Option Addr) (c1 : Nat) (A2 : Option Addr) (c2 : Nat) (A3 : Option Addr) (c3 : Nat) (A4 : Option Addr) (c4 : Nat) : Value := .agg #[.int .i64 v.Kind, .int .i64 v.Int_, .string v.Text, .slice A1 v.Kids.length c1, .slice A2 v.Keys.length c2, .slice A3 v.Entries.length c3, .slice A4 v.Labels.length c4]

abbrev Semtypebase_Source.cs (v : Semtypebase_Source) (A1 : Option Addr) (c1 : Nat) : List Value := [.slice A1 v.L.length c1, .int .i64 v.At]
abbrev Semtypebase_Source.ag (v : Semtypebase_Source) (A1 : Option Addr) (c1 : Nat) : Value := .agg #[.slice A1 v.L.length c1, .int .i64 v.At]

abbrev Key.cs (v : Key) : List Value := [.int .i64 v.Kind, .string v.Text]
abbrev Key.ag (v : Key) : Value := .agg #[.int .i64 v.Kind, .string v.Text]

abbrev Ent.cs (v : Ent) (A1 : Option Addr) (c1 : Nat) (A2 : Option Addr) (c2 : Nat) (A3 : Option Addr) (c3 : Nat) (A4 : Option Addr) (c4 : Nat) (A5 : Option Addr) (c5 : Nat) : List Value := [.slice A1 v.Args.length c1, .bool v.Fails, .int .i64 v.Result.Kind, .int .i64 v.Result.Int_, .string v.Result.Text, .slice A2 v.Result.Kids.length c2, .slice A3 v.Result.Keys.length c3, .slice A4 v.Result.Entries.length c4, .slice A5 v.Result.Labels.length c5]
abbrev Ent.ag (v : Ent) (A1 : Option Addr) (c1 : Nat) (A2 : Option Addr) (c2 : Nat) (A3 : Option Addr) (c3 : Nat) (A4 : Option Addr) (c4 : Nat) (A5 : Option Addr) (c5 : Nat) : Value := .agg #[.slice A1 v.Args.length c1, .bool v.Fails, .int .i64 v.Result.Kind, .int .i64 v.Result.Int_, .string v.Result.Text, .slice A2 v.Result.Kids.length c2, .slice A3 v.Result.Keys.length c3, .slice A4 v.Result.Entries.length c4, .slice A5 v.Result.Labels.length c5]

abbrev Value_used.cs (v : Value_used) : List Value := [.bool v.number, .bool v.text_, .bool v.kids, .bool v.keys, .bool v.entries]
abbrev Value_used.ag (v : Value_used) : Value := .agg #[.bool v.number, .bool v.text_, .bool v.kids, .bool v.keys, .bool v.entries]

def semtyperef1_Nodes_l1 (rec_semtyperef1_Nodes : (Val → Option Int)) (a0 : Val) (q24 : (Int × Int)) : Option (Fl (Int × Int) (Int × Int)) :=
  if (decide (q24.2 < (a0.Kids.length : Int))) = true then
    Option.bind (idx a0.Kids q24.2) fun x36 =>
    Option.bind (rec_semtyperef1_Nodes x36) fun r55 =>
    some (.next (w64 (q24.1 + r55), w64 (q24.2 + 1)))
  else
    some (.done (q24.1, q24.2))

def semtyperef1_Nodes_l3 (rec_semtyperef1_Nodes : (Val → Option Int)) (x93 : Ent) (q132 : (Int × Int)) : Option (Fl (Int × Int) (Int × Int)) :=
  if (decide (q132.2 < (x93.Args.length : Int))) = true then
    Option.bind (idx x93.Args q132.2) fun x147 =>
    Option.bind (rec_semtyperef1_Nodes x147) fun r166 =>
    some (.next (w64 (q132.1 + r166), w64 (q132.2 + 1)))
  else
    some (.done (q132.1, q132.2))

def semtyperef1_Nodes_l2 (rec_semtyperef1_Nodes : (Val → Option Int)) (a0 : Val) (q81 : (Int × Int)) : Option (Fl (Int × Int) (Int × Int)) :=
  if (decide (q81.2 < (a0.Entries.length : Int))) = true then
    Option.bind (idx a0.Entries q81.2) fun x93 =>
    Option.bind (iter (semtyperef1_Nodes_l3 rec_semtyperef1_Nodes x93) (x93.Args.length + 1) (q81.1, 0)) fun o173 =>
    if (!x93.Fails) = true then
      Option.bind (rec_semtyperef1_Nodes x93.Result) fun r190 =>
      some (.next (w64 (o173.1 + r190), w64 (q81.2 + 1)))
    else
      some (.next (o173.1, w64 (q81.2 + 1)))
  else
    some (.done (q81.1, q81.2))

def semtyperef1_Nodes_B (rec_semtyperef1_Nodes : (Val → Option Int)) (a0 : Val) : Option Int :=
  Option.bind (iter (semtyperef1_Nodes_l1 rec_semtyperef1_Nodes a0) (a0.Kids.length + 1) (1, 0)) fun o62 =>
  Option.bind (iter (semtyperef1_Nodes_l2 rec_semtyperef1_Nodes a0) (a0.Entries.length + 1) (o62.1, 0)) fun o197 =>
  some o197.1

def semtyperef1_Nodes : Nat → (Val → Option Int)
  | 0 => fun _ => none
  | n + 1 => semtyperef1_Nodes_B (semtyperef1_Nodes n)

def semtypelaw4_small (fuel : Nat) (a0 : Val) : Option Bool :=
  Option.bind ((semtyperef1_Nodes fuel) a0) fun r18 =>
  some (decide (r18 ≤ 60))

def slices_Clone_api_Value_api_Value (a0 : (List Val)) : Option (List Val) :=
  Option.bind (room (([] : List Val).length + a0.length) 128) fun _ =>
  some a0

def value_parts_l1 (a0 : Val) (q35 : ((List Val) × Int)) : Option (Fl ((List Val) × Int) ((List Val) × Int)) :=
  if (decide (q35.2 < (a0.Entries.length : Int))) = true then
    Option.bind (idx a0.Entries q35.2) fun x50 =>
    Option.bind (room (q35.1.length + x50.Args.length) 128) fun _ =>
    if (!x50.Fails) = true then
      Option.bind (room ((q35.1 ++ x50.Args).length + [x50.Result].length) 128) fun _ =>
      some (.next ((q35.1 ++ x50.Args) ++ [x50.Result], w64 (q35.2 + 1)))
    else
      some (.next (q35.1 ++ x50.Args, w64 (q35.2 + 1)))
  else
    some (.done (q35.1, q35.2))

def value_parts (a0 : Val) : Option (List Val) :=
  Option.bind (slices_Clone_api_Value_api_Value a0.Kids) fun r18 =>
  Option.bind (iter (value_parts_l1 a0) (a0.Entries.length + 1) (r18, 0)) fun o104 =>
  some o104.1

def value_uses (a0 : Int) : Option (Value_used × Bool) :=
  if (a0 == 1) = true then
    some ((Value_used.mk true false false false false), true)
  else
    if (a0 == 4) = true then
      some ((Value_used.mk true false false false false), true)
    else
      if (a0 == 2) = true then
        some ((Value_used.mk false true false false false), true)
      else
        if (a0 == 3) = true then
          some ((Value_used.mk false true false false false), true)
        else
          if (a0 == 5) = true then
            some ((Value_used.mk false false false false false), true)
          else
            if (a0 == 6) = true then
              some ((Value_used.mk false false true false false), true)
            else
              if (a0 == 7) = true then
                some ((Value_used.mk false false true false false), true)
              else
                if (a0 == 8) = true then
                  some ((Value_used.mk false false true true false), true)
                else
                  if (a0 == 9) = true then
                    some ((Value_used.mk true false false false true), true)
                  else
                    some ((Value_used.mk false false false false false), false)

def internal_bytealg_CompareString (a0 : ByteArray) (a1 : ByteArray) : Option Int :=
  some (strCmp a0 a1)

def strings_Compare (a0 : ByteArray) (a1 : ByteArray) : Option Int :=
  Option.bind (internal_bytealg_CompareString a0 a1) fun r1 =>
  some r1

def value_ascending_string_l1 (a0 : (List ByteArray)) (a1 : (ByteArray → ByteArray → Option Int)) (q10 : Int) : Option (Fl Int (Sum Int Bool)) :=
  if (decide (q10 < (a0.length : Int))) = true then
    Option.bind (idx a0 (w64 (q10 - 1))) fun x20 =>
    Option.bind (idx a0 q10) fun x22 =>
    Option.bind (a1 x20 x22) fun r24 =>
    if (decide (0 ≤ r24)) = true then
      some (.done (.inr false))
    else
      some (.next (w64 (q10 + 1)))
  else
    some (.done (.inl q10))

def value_ascending_string (a0 : (List ByteArray)) (a1 : (ByteArray → ByteArray → Option Int)) : Option Bool :=
  Option.bind (iter (value_ascending_string_l1 a0 a1) (a0.length + 1) 1) (onEnd (fun _ =>
    some true) (fun r => some r))

def ident_isName_l1 (a0 : ByteArray) (a2 : (UInt8 → Option Bool)) (q38 : Int) : Option (Fl Int (Sum Int Bool)) :=
  if (decide (q38 < (a0.size : Int))) = true then
    Option.bind (sidx a0 q38) fun x48 =>
    Option.bind (a2 x48) fun r50 =>
    if (!r50) = true then
      some (.done (.inr false))
    else
      some (.next (w64 (q38 + 1)))
  else
    some (.done (.inl q38))

def ident_isName (a0 : ByteArray) (a1 : (UInt8 → Option Bool)) (a2 : (UInt8 → Option Bool)) : Option Bool :=
  Option.bind (if (decide ((a0.size : Int) < 1)) = true then
    some true
  else
    some (decide (16 < (a0.size : Int)))) fun q8 =>
  if q8 = true then
    some false
  else
    Option.bind (sidx a0 0) fun x22 =>
    Option.bind (a1 x22) fun r24 =>
    if (!r24) = true then
      some false
    else
      Option.bind (iter (ident_isName_l1 a0 a2) (a0.size + 1) 1) (onEnd (fun _ =>
        some true) (fun r => some r))

def ident_isUpper (a0 : UInt8) : Option Bool :=
  if (decide (65 ≤ (a0.toNat : Int))) = true then
    some (decide ((a0.toNat : Int) ≤ 90))
  else
    some false

def ident_isLower (a0 : UInt8) : Option Bool :=
  if (decide (97 ≤ (a0.toNat : Int))) = true then
    some (decide ((a0.toNat : Int) ≤ 122))
  else
    some false

def ident_isDigit (a0 : UInt8) : Option Bool :=
  if (decide (48 ≤ (a0.toNat : Int))) = true then
    some (decide ((a0.toNat : Int) ≤ 57))
  else
    some false

def ident_IsVariable_1 (a0 : UInt8) : Option Bool :=
  Option.bind (ident_isLower a0) fun r1 =>
  Option.bind (if r1 = true then
    some true
  else
    Option.bind (ident_isUpper a0) fun r16 =>
    some r16) fun q13 =>
  Option.bind (if q13 = true then
    some true
  else
    Option.bind (ident_isDigit a0) fun r39 =>
    some r39) fun q36 =>
  if q36 = true then
    some true
  else
    some ((a0.toNat : Int) == 95)

def ident_IsVariable (a0 : ByteArray) : Option Bool :=
  Option.bind (ident_isName a0 ident_isUpper ident_IsVariable_1) fun r1 =>
  some r1

def value_validLabels_l1 (a0 : (List ByteArray)) (q18 : Int) : Option (Fl Int (Sum Int Bool)) :=
  if (decide (q18 < (a0.length : Int))) = true then
    Option.bind (idx a0 q18) fun x28 =>
    Option.bind (ident_IsVariable x28) fun r35 =>
    if (!r35) = true then
      some (.done (.inr false))
    else
      some (.next (w64 (q18 + 1)))
  else
    some (.done (.inl q18))

def value_validLabels (a0 : (List ByteArray)) : Option Bool :=
  Option.bind (value_ascending_string a0 strings_Compare) fun r4 =>
  if (!r4) = true then
    some false
  else
    Option.bind (iter (value_validLabels_l1 a0) (a0.length + 1) 0) (onEnd (fun _ =>
      some true) (fun r => some r))

def ident_IsAtom_1 (a0 : UInt8) : Option Bool :=
  Option.bind (ident_isLower a0) fun r1 =>
  Option.bind (if r1 = true then
    some true
  else
    Option.bind (ident_isDigit a0) fun r16 =>
    some r16) fun q13 =>
  if q13 = true then
    some true
  else
    some ((a0.toNat : Int) == 95)

def ident_IsAtom (a0 : ByteArray) : Option Bool :=
  Option.bind (ident_isName a0 ident_isLower ident_IsAtom_1) fun r1 =>
  some r1

def cmp_isNaN_int (a0 : Int) : Option Bool :=
  some (a0 != a0)

def cmp_Compare_int (a0 : Int) (a1 : Int) : Option Int :=
  Option.bind (cmp_isNaN_int a0) fun r1 =>
  Option.bind (cmp_isNaN_int a1) fun r8 =>
  if r1 = true then
    if r8 = true then
      some 0
    else
      some (-1)
  else
    if r8 = true then
      some 1
    else
      if (decide (a0 < a1)) = true then
        some (-1)
      else
        if (decide (a1 < a0)) = true then
          some 1
        else
          some 0

def ident_CompareKeys (a0 : Key) (a1 : Key) : Option Int :=
  Option.bind (cmp_Compare_int a0.Kind a1.Kind) fun r11 =>
  if (r11 != 0) = true then
    some r11
  else
    Option.bind (strings_Compare a0.Text a1.Text) fun r19 =>
    some r19

def value_ascending_api_Key_l1 (a0 : (List Key)) (a1 : (Key → Key → Option Int)) (q10 : Int) : Option (Fl Int (Sum Int Bool)) :=
  if (decide (q10 < (a0.length : Int))) = true then
    Option.bind (idx a0 (w64 (q10 - 1))) fun x20 =>
    Option.bind (idx a0 q10) fun x22 =>
    Option.bind (a1 x20 x22) fun r24 =>
    if (decide (0 ≤ r24)) = true then
      some (.done (.inr false))
    else
      some (.next (w64 (q10 + 1)))
  else
    some (.done (.inl q10))

def value_ascending_api_Key (a0 : (List Key)) (a1 : (Key → Key → Option Int)) : Option Bool :=
  Option.bind (iter (value_ascending_api_Key_l1 a0 a1) (a0.length + 1) 1) (onEnd (fun _ =>
    some true) (fun r => some r))

def ident_ValidKey (a0 : Key) : Option Bool :=
  if (a0.Kind == 0) = true then
    Option.bind (ident_IsAtom a0.Text) fun r7 =>
    some r7
  else
    if (a0.Kind == 1) = true then
      some (decide ((a0.Text.size : Int) ≤ 64))
    else
      some false

def value_validMap_l1 (a0 : Val) (q33 : Int) : Option (Fl Int (Sum Int Bool)) :=
  if (decide (q33 < (a0.Keys.length : Int))) = true then
    Option.bind (idx a0.Keys q33) fun x43 =>
    Option.bind (ident_ValidKey x43) fun r59 =>
    if (!r59) = true then
      some (.done (.inr false))
    else
      some (.next (w64 (q33 + 1)))
  else
    some (.done (.inl q33))

def value_validMap (a0 : Val) : Option Bool :=
  if ((a0.Keys.length : Int) != (a0.Kids.length : Int)) = true then
    some false
  else
    Option.bind (value_ascending_api_Key a0.Keys ident_CompareKeys) fun r19 =>
    if (!r19) = true then
      some false
    else
      Option.bind (iter (value_validMap_l1 a0) (a0.Keys.length + 1) 0) (onEnd (fun _ =>
        some true) (fun r => some r))

def cmp_isNaN_int64 (a0 : Int) : Option Bool :=
  some (a0 != a0)

def cmp_Compare_int64 (a0 : Int) (a1 : Int) : Option Int :=
  Option.bind (cmp_isNaN_int64 a0) fun r1 =>
  Option.bind (cmp_isNaN_int64 a1) fun r8 =>
  if r1 = true then
    if r8 = true then
      some 0
    else
      some (-1)
  else
    if r8 = true then
      some 1
    else
      if (decide (a0 < a1)) = true then
        some (-1)
      else
        if (decide (a1 < a0)) = true then
          some 1
        else
          some 0

def value_compareLists_api_Key_l1 (a0 : (List Key)) (a1 : (List Key)) (a2 : (Key → Key → Option Int)) (q23 : Int) : Option (Fl Int (Sum Int Int)) :=
  if (decide (q23 < (a0.length : Int))) = true then
    Option.bind (idx a0 q23) fun x35 =>
    Option.bind (idx a1 q23) fun x37 =>
    Option.bind (a2 x35 x37) fun r39 =>
    if (r39 != 0) = true then
      some (.done (.inr r39))
    else
      some (.next (w64 (q23 + 1)))
  else
    some (.done (.inl q23))

def value_compareLists_api_Key (a0 : (List Key)) (a1 : (List Key)) (a2 : (Key → Key → Option Int)) : Option Int :=
  Option.bind (cmp_Compare_int (a0.length : Int) (a1.length : Int)) fun r7 =>
  if (r7 != 0) = true then
    some r7
  else
    Option.bind (iter (value_compareLists_api_Key_l1 a0 a1 a2) (a0.length + 1) 0) (onEnd (fun _ =>
      some 0) (fun r => some r))

def value_compareLists_api_Value_l1 (a0 : (List Val)) (a1 : (List Val)) (a2 : (Val → Val → Option Int)) (q23 : Int) : Option (Fl Int (Sum Int Int)) :=
  if (decide (q23 < (a0.length : Int))) = true then
    Option.bind (idx a0 q23) fun x35 =>
    Option.bind (idx a1 q23) fun x37 =>
    Option.bind (a2 x35 x37) fun r39 =>
    if (r39 != 0) = true then
      some (.done (.inr r39))
    else
      some (.next (w64 (q23 + 1)))
  else
    some (.done (.inl q23))

def value_compareLists_api_Value (a0 : (List Val)) (a1 : (List Val)) (a2 : (Val → Val → Option Int)) : Option Int :=
  Option.bind (cmp_Compare_int (a0.length : Int) (a1.length : Int)) fun r7 =>
  if (r7 != 0) = true then
    some r7
  else
    Option.bind (iter (value_compareLists_api_Value_l1 a0 a1 a2) (a0.length + 1) 0) (onEnd (fun _ =>
      some 0) (fun r => some r))

def value_compareLists_api_Entry_l1 (a0 : (List Ent)) (a1 : (List Ent)) (a2 : (Ent → Ent → Option Int)) (q23 : Int) : Option (Fl Int (Sum Int Int)) :=
  if (decide (q23 < (a0.length : Int))) = true then
    Option.bind (idx a0 q23) fun x35 =>
    Option.bind (idx a1 q23) fun x37 =>
    Option.bind (a2 x35 x37) fun r39 =>
    if (r39 != 0) = true then
      some (.done (.inr r39))
    else
      some (.next (w64 (q23 + 1)))
  else
    some (.done (.inl q23))

def value_compareLists_api_Entry (a0 : (List Ent)) (a1 : (List Ent)) (a2 : (Ent → Ent → Option Int)) : Option Int :=
  Option.bind (cmp_Compare_int (a0.length : Int) (a1.length : Int)) fun r7 =>
  if (r7 != 0) = true then
    some r7
  else
    Option.bind (iter (value_compareLists_api_Entry_l1 a0 a1 a2) (a0.length + 1) 0) (onEnd (fun _ =>
      some 0) (fun r => some r))

def value_compareLists_string_l1 (a0 : (List ByteArray)) (a1 : (List ByteArray)) (a2 : (ByteArray → ByteArray → Option Int)) (q23 : Int) : Option (Fl Int (Sum Int Int)) :=
  if (decide (q23 < (a0.length : Int))) = true then
    Option.bind (idx a0 q23) fun x35 =>
    Option.bind (idx a1 q23) fun x37 =>
    Option.bind (a2 x35 x37) fun r39 =>
    if (r39 != 0) = true then
      some (.done (.inr r39))
    else
      some (.next (w64 (q23 + 1)))
  else
    some (.done (.inl q23))

def value_compareLists_string (a0 : (List ByteArray)) (a1 : (List ByteArray)) (a2 : (ByteArray → ByteArray → Option Int)) : Option Int :=
  Option.bind (cmp_Compare_int (a0.length : Int) (a1.length : Int)) fun r7 =>
  if (r7 != 0) = true then
    some r7
  else
    Option.bind (iter (value_compareLists_string_l1 a0 a1 a2) (a0.length + 1) 0) (onEnd (fun _ =>
      some 0) (fun r => some r))

def value_Compare_B (_rec_value_Compare : (Val → Val → Option Int)) (rec_value_compareValues : ((List Val) → (List Val) → Option Int)) (rec_value_compareEntries : (Ent → Ent → Option Int)) (a0 : Val) (a1 : Val) : Option Int :=
  Option.bind (cmp_Compare_int a0.Kind a1.Kind) fun r35 =>
  if (r35 != 0) = true then
    some r35
  else
    Option.bind (cmp_Compare_int64 a0.Int_ a1.Int_) fun r43 =>
    if (r43 != 0) = true then
      some r43
    else
      Option.bind (strings_Compare a0.Text a1.Text) fun r51 =>
      if (r51 != 0) = true then
        some r51
      else
        Option.bind (value_compareLists_api_Key a0.Keys a1.Keys ident_CompareKeys) fun r59 =>
        if (r59 != 0) = true then
          some r59
        else
          Option.bind (rec_value_compareValues a0.Kids a1.Kids) fun r67 =>
          if (r67 != 0) = true then
            some r67
          else
            Option.bind (value_compareLists_api_Entry a0.Entries a1.Entries rec_value_compareEntries) fun r75 =>
            if (r75 != 0) = true then
              some r75
            else
              Option.bind (value_compareLists_string a0.Labels a1.Labels strings_Compare) fun r83 =>
              some r83

def value_compareValues_B (rec_value_Compare : (Val → Val → Option Int)) (_rec_value_compareValues : ((List Val) → (List Val) → Option Int)) (_rec_value_compareEntries : (Ent → Ent → Option Int)) (a0 : (List Val)) (a1 : (List Val)) : Option Int :=
  Option.bind (value_compareLists_api_Value a0 a1 rec_value_Compare) fun r7 =>
  some r7

def value_compareEntries_B (rec_value_Compare : (Val → Val → Option Int)) (rec_value_compareValues : ((List Val) → (List Val) → Option Int)) (_rec_value_compareEntries : (Ent → Ent → Option Int)) (a0 : Ent) (a1 : Ent) : Option Int :=
  Option.bind (rec_value_compareValues a0.Args a1.Args) fun r41 =>
  if (r41 != 0) = true then
    some r41
  else
    if (a0.Fails != a1.Fails) = true then
      if a0.Fails = true then
        some (-1)
      else
        some 1
    else
      Option.bind (rec_value_Compare a0.Result a1.Result) fun r51 =>
      some r51

def scc_value_Compare : Nat → (Val → Val → Option Int) × ((List Val) → (List Val) → Option Int) × (Ent → Ent → Option Int)
  | 0 => (fun _ _ => none, fun _ _ => none, fun _ _ => none)
  | n + 1 => (value_Compare_B (scc_value_Compare n).1 (scc_value_Compare n).2.1 (scc_value_Compare n).2.2, value_compareValues_B (scc_value_Compare n).1 (scc_value_Compare n).2.1 (scc_value_Compare n).2.2, value_compareEntries_B (scc_value_Compare n).1 (scc_value_Compare n).2.1 (scc_value_Compare n).2.2)

def value_Compare (n : Nat) : (Val → Val → Option Int) := (scc_value_Compare n).1

def value_compareValues (n : Nat) : ((List Val) → (List Val) → Option Int) := (scc_value_Compare n).2.1

def value_compareEntries (n : Nat) : (Ent → Ent → Option Int) := (scc_value_Compare n).2.2

def value_ascending_api_Entry_l1 (a0 : (List Ent)) (a1 : (Ent → Ent → Option Int)) (q10 : Int) : Option (Fl Int (Sum Int Bool)) :=
  if (decide (q10 < (a0.length : Int))) = true then
    Option.bind (idx a0 (w64 (q10 - 1))) fun x20 =>
    Option.bind (idx a0 q10) fun x22 =>
    Option.bind (a1 x20 x22) fun r24 =>
    if (decide (0 ≤ r24)) = true then
      some (.done (.inr false))
    else
      some (.next (w64 (q10 + 1)))
  else
    some (.done (.inl q10))

def value_ascending_api_Entry (a0 : (List Ent)) (a1 : (Ent → Ent → Option Int)) : Option Bool :=
  Option.bind (iter (value_ascending_api_Entry_l1 a0 a1) (a0.length + 1) 1) (onEnd (fun _ =>
    some true) (fun r => some r))

def value_Equal (fuel : Nat) (a0 : Val) (a1 : Val) : Option Bool :=
  Option.bind ((value_Compare fuel) a0 a1) fun r35 =>
  some (r35 == 0)

def value_isZero (fuel : Nat) (a0 : Val) : Option Bool :=
  Option.bind ((value_Equal fuel) a0 (Val.mk 0 0 (⟨#[]⟩) ([] : List Val) ([] : List Key) ([] : List Ent) ([] : List ByteArray))) fun r18 =>
  some r18

def value_validEntry (fuel : Nat) (a0 : Ent) (a1 : Int) : Option Bool :=
  if ((a0.Args.length : Int) == a1) = true then
    Option.bind (if (!a0.Fails) = true then
      some true
    else
      Option.bind ((value_isZero fuel) a0.Result) fun r31 =>
      some r31) fun q28 =>
    some q28
  else
    some false

def value_validFunction_l1 (fuel : Nat) (a0 : Val) (q51 : Int) : Option (Fl Int (Sum Int Bool)) :=
  if (decide (q51 < (a0.Entries.length : Int))) = true then
    Option.bind (idx a0.Entries q51) fun x63 =>
    Option.bind ((value_validEntry fuel) x63 a0.Int_) fun r94 =>
    if (!r94) = true then
      some (.done (.inr false))
    else
      some (.next (w64 (q51 + 1)))
  else
    some (.done (.inl q51))

def value_validFunction (fuel : Nat) (a0 : Val) : Option Bool :=
  Option.bind (if (decide (a0.Int_ < 0)) = true then
    some true
  else
    some (decide (4 < a0.Int_))) fun q23 =>
  if q23 = true then
    some false
  else
    Option.bind (value_ascending_api_Entry a0.Entries (value_compareEntries fuel)) fun r36 =>
    if (!r36) = true then
      some false
    else
      Option.bind (iter (value_validFunction_l1 fuel a0) (a0.Entries.length + 1) 0) (onEnd (fun _ =>
        some true) (fun r => some r))

def value_validNode (fuel : Nat) (a0 : Val) : Option Bool :=
  Option.bind (value_uses a0.Kind) fun r18 =>
  if (!r18.2) = true then
    some false
  else
    Option.bind (value_validLabels a0.Labels) fun r39 =>
    if (!r39) = true then
      some false
    else
      Option.bind (if (!r18.1.number) = true then
        some (a0.Int_ != 0)
      else
        some false) fun q53 =>
      Option.bind (if q53 = true then
        some true
      else
        Option.bind (if (!r18.1.text_) = true then
          some (!strEq a0.Text (⟨#[]⟩))
        else
          some false) fun q83 =>
        some q83) fun q73 =>
      Option.bind (if q73 = true then
        some true
      else
        Option.bind (if (!r18.1.kids) = true then
          some (decide (0 < (a0.Kids.length : Int)))
        else
          some false) fun q125 =>
        some q125) fun q115 =>
      Option.bind (if q115 = true then
        some true
      else
        Option.bind (if (!r18.1.keys) = true then
          some (decide (0 < (a0.Keys.length : Int)))
        else
          some false) fun q167 =>
        some q167) fun q157 =>
      if q157 = true then
        some false
      else
        Option.bind (if (!r18.1.entries) = true then
          some (decide (0 < (a0.Entries.length : Int)))
        else
          some false) fun q200 =>
        if q200 = true then
          some false
        else
          if (a0.Kind == 2) = true then
            some (decide ((a0.Text.size : Int) ≤ 64))
          else
            if (a0.Kind == 3) = true then
              Option.bind (ident_IsAtom a0.Text) fun r216 =>
              some r216
            else
              if (a0.Kind == 4) = true then
                some (decide (0 ≤ a0.Int_))
              else
                if (a0.Kind == 6) = true then
                  some (decide ((a0.Kids.length : Int) ≤ 4))
                else
                  if (a0.Kind == 7) = true then
                    if ((a0.Kids.length : Int) == 2) = true then
                      Option.bind (idx a0.Kids 1) fun x227 =>
                      Option.bind (if (x227.Kind == 5) = true then
                        some true
                      else
                        Option.bind (idx a0.Kids 1) fun x255 =>
                        some (x255.Kind == 7)) fun q252 =>
                      some q252
                    else
                      some false
                  else
                    if (a0.Kind == 8) = true then
                      Option.bind (value_validMap a0) fun r283 =>
                      some r283
                    else
                      if (a0.Kind == 9) = true then
                        Option.bind ((value_validFunction fuel) a0) fun r291 =>
                        some r291
                      else
                        some true

def value_validTree_l1 (rec_value_validTree : (Val → Option Bool)) (r26 : (List Val)) (q42 : Int) : Option (Fl Int (Sum Int Bool)) :=
  if (decide (q42 < (r26.length : Int))) = true then
    Option.bind (idx r26 q42) fun x53 =>
    Option.bind (rec_value_validTree x53) fun r81 =>
    if (!r81) = true then
      some (.done (.inr false))
    else
      some (.next (w64 (q42 + 1)))
  else
    some (.done (.inl q42))

def value_validTree_B (rec_value_validTree : (Val → Option Bool)) (fuel : Nat) (a0 : Val) : Option Bool :=
  Option.bind ((value_validNode fuel) a0) fun r18 =>
  if (!r18) = true then
    some false
  else
    Option.bind (value_parts a0) fun r26 =>
    Option.bind (iter (value_validTree_l1 rec_value_validTree r26) (r26.length + 1) 0) (onEnd (fun _ =>
      some true) (fun r => some r))

def value_validTree : Nat → (Val → Option Bool)
  | 0 => fun _ => none
  | n + 1 => value_validTree_B (value_validTree n) n

def value_Validate (fuel : Nat) (a0 : Val) : Option Int :=
  Option.bind ((value_validTree fuel) a0) fun r18 =>
  if (!r18) = true then
    some 1
  else
    some 0

def value_Nodes_l1 (rec_value_Nodes : (Val → Option Int)) (r18 : (List Val)) (q35 : (Int × Int)) : Option (Fl (Int × Int) (Int × Int)) :=
  if (decide (q35.2 < (r18.length : Int))) = true then
    Option.bind (idx r18 q35.2) fun x48 =>
    Option.bind (rec_value_Nodes x48) fun r76 =>
    some (.next (w64 (q35.1 + r76), w64 (q35.2 + 1)))
  else
    some (.done (q35.1, q35.2))

def value_Nodes_B (rec_value_Nodes : (Val → Option Int)) (a0 : Val) : Option Int :=
  Option.bind (value_parts a0) fun r18 =>
  Option.bind (iter (value_Nodes_l1 rec_value_Nodes r18) (r18.length + 1) (1, 0)) fun o83 =>
  some o83.1

def value_Nodes : Nat → (Val → Option Int)
  | 0 => fun _ => none
  | n + 1 => value_Nodes_B (value_Nodes n)

def value_Height_l1 (rec_value_Height : (Val → Option Int)) (r18 : (List Val)) (q35 : (Int × Int)) : Option (Fl (Int × Int) (Int × Int)) :=
  if (decide (q35.2 < (r18.length : Int))) = true then
    Option.bind (idx r18 q35.2) fun x48 =>
    Option.bind (rec_value_Height x48) fun r76 =>
    some (.next (max q35.1 r76, w64 (q35.2 + 1)))
  else
    some (.done (q35.1, q35.2))

def value_Height_B (rec_value_Height : (Val → Option Int)) (a0 : Val) : Option Int :=
  Option.bind (value_parts a0) fun r18 =>
  Option.bind (iter (value_Height_l1 rec_value_Height r18) (r18.length + 1) (0, 0)) fun o83 =>
  some (w64 (o83.1 + 1))

def value_Height : Nat → (Val → Option Int)
  | 0 => fun _ => none
  | n + 1 => value_Height_B (value_Height n)

def value_Nil : Option Val :=
  some (Val.mk 5 0 (⟨#[]⟩) ([] : List Val) ([] : List Key) ([] : List Ent) ([] : List ByteArray))

def slices_Clone_api_Key_api_Key (a0 : (List Key)) : Option (List Key) :=
  Option.bind (room (([] : List Key).length + a0.length) 24) fun _ =>
  some a0

def slices_Clone_string_string (a0 : (List ByteArray)) : Option (List ByteArray) :=
  Option.bind (room (([] : List ByteArray).length + a0.length) 16) fun _ =>
  some a0

def value_cloneAll_l1 (rec_value_clone : (Val → Option Val)) (a0 : (List Val)) (q11 : ((List Val) × Int)) : Option (Fl ((List Val) × Int) ((List Val) × Int)) :=
  if (decide (q11.2 < (a0.length : Int))) = true then
    Option.bind (idx a0 q11.2) fun x26 =>
    Option.bind (rec_value_clone x26) fun r54 =>
    Option.bind (room (q11.1.length + [r54].length) 128) fun _ =>
    some (.next (q11.1 ++ [r54], w64 (q11.2 + 1)))
  else
    some (.done (q11.1, q11.2))

def value_cloneAll_B (_rec_value_cloneAll : ((List Val) → Option (List Val))) (rec_value_clone : (Val → Option Val)) (_rec_value_cloneEntries : ((List Ent) → Option (List Ent))) (a0 : (List Val)) : Option (List Val) :=
  Option.bind (iter (value_cloneAll_l1 rec_value_clone a0) (a0.length + 1) (([] : List Val), 0)) fun o87 =>
  some o87.1

def value_clone_B (rec_value_cloneAll : ((List Val) → Option (List Val))) (_rec_value_clone : (Val → Option Val)) (rec_value_cloneEntries : ((List Ent) → Option (List Ent))) (a0 : Val) : Option Val :=
  Option.bind (rec_value_cloneAll a0.Kids) fun r23 =>
  Option.bind (slices_Clone_api_Key_api_Key a0.Keys) fun r37 =>
  Option.bind (slices_Clone_string_string a0.Labels) fun r51 =>
  Option.bind (rec_value_cloneEntries a0.Entries) fun r65 =>
  some (Val.mk a0.Kind a0.Int_ a0.Text r23 r37 r65 r51)

def value_cloneEntries_l1 (rec_value_cloneAll : ((List Val) → Option (List Val))) (rec_value_clone : (Val → Option Val)) (a0 : (List Ent)) (q11 : ((List Ent) × Int)) : Option (Fl ((List Ent) × Int) ((List Ent) × Int)) :=
  if (decide (q11.2 < (a0.length : Int))) = true then
    Option.bind (idx a0 q11.2) fun x26 =>
    Option.bind (rec_value_cloneAll x26.Args) fun r57 =>
    Option.bind (rec_value_clone x26.Result) fun r59 =>
    Option.bind (room (q11.1.length + [(Ent.mk r57 x26.Fails r59)].length) 160) fun _ =>
    some (.next (q11.1 ++ [(Ent.mk r57 x26.Fails r59)], w64 (q11.2 + 1)))
  else
    some (.done (q11.1, q11.2))

def value_cloneEntries_B (rec_value_cloneAll : ((List Val) → Option (List Val))) (rec_value_clone : (Val → Option Val)) (_rec_value_cloneEntries : ((List Ent) → Option (List Ent))) (a0 : (List Ent)) : Option (List Ent) :=
  Option.bind (iter (value_cloneEntries_l1 rec_value_cloneAll rec_value_clone a0) (a0.length + 1) (([] : List Ent), 0)) fun o391 =>
  some o391.1

def scc_value_cloneAll : Nat → ((List Val) → Option (List Val)) × (Val → Option Val) × ((List Ent) → Option (List Ent))
  | 0 => (fun _ => none, fun _ => none, fun _ => none)
  | n + 1 => (value_cloneAll_B (scc_value_cloneAll n).1 (scc_value_cloneAll n).2.1 (scc_value_cloneAll n).2.2, value_clone_B (scc_value_cloneAll n).1 (scc_value_cloneAll n).2.1 (scc_value_cloneAll n).2.2, value_cloneEntries_B (scc_value_cloneAll n).1 (scc_value_cloneAll n).2.1 (scc_value_cloneAll n).2.2)

def value_cloneAll (n : Nat) : ((List Val) → Option (List Val)) := (scc_value_cloneAll n).1

def value_clone (n : Nat) : (Val → Option Val) := (scc_value_cloneAll n).2.1

def value_cloneEntries (n : Nat) : ((List Ent) → Option (List Ent)) := (scc_value_cloneAll n).2.2

def value_List_l1 (fuel : Nat) (a0 : (List Val)) (q43 : (Int × Int × Int × ByteArray × (List Val) × (List Key) × (List Ent) × (List ByteArray))) : Option (Fl (Int × Int × Int × ByteArray × (List Val) × (List Key) × (List Ent) × (List ByteArray)) (Int × Int × Int × ByteArray × (List Val) × (List Key) × (List Ent) × (List ByteArray))) :=
  if (decide (0 ≤ q43.1)) = true then
    Option.bind (idx a0 q43.1) fun x68 =>
    Option.bind ((value_clone fuel) x68) fun r70 =>
    some (.next (w64 (q43.1 - 1), 7, 0, ⟨#[]⟩, [r70, (Val.mk q43.2.1 q43.2.2.1 q43.2.2.2.1 q43.2.2.2.2.1 q43.2.2.2.2.2.1 q43.2.2.2.2.2.2.1 q43.2.2.2.2.2.2.2)], ([] : List Key), ([] : List Ent), ([] : List ByteArray)))
  else
    some (.done (q43.1, q43.2.1, q43.2.2.1, q43.2.2.2.1, q43.2.2.2.2.1, q43.2.2.2.2.2.1, q43.2.2.2.2.2.2.1, q43.2.2.2.2.2.2.2))

def value_List (fuel : Nat) (a0 : (List Val)) : Option Val :=
  Option.bind (value_Nil) fun r9 =>
  Option.bind (iter (value_List_l1 fuel a0) (fuel) (w64 ((a0.length : Int) - 1), r9.Kind, r9.Int_, r9.Text, r9.Kids, r9.Keys, r9.Entries, r9.Labels)) fun o367 =>
  some (Val.mk o367.2.1 o367.2.2.1 o367.2.2.2.1 o367.2.2.2.2.1 o367.2.2.2.2.2.1 o367.2.2.2.2.2.2.1 o367.2.2.2.2.2.2.2)

def value_Cons (fuel : Nat) (a0 : Val) (a1 : Val) : Option Val :=
  Option.bind ((value_clone fuel) a0) fun r40 =>
  Option.bind ((value_clone fuel) a1) fun r42 =>
  some (Val.mk 7 0 (⟨#[]⟩) [r40, r42] ([] : List Key) ([] : List Ent) ([] : List ByteArray))

def value_Int (a0 : Int) : Option Val :=
  some (Val.mk 1 a0 (⟨#[]⟩) ([] : List Val) ([] : List Key) ([] : List Ent) ([] : List ByteArray))

def semtypelaw4_awake (fuel : Nat) : Option Bool :=
  Option.bind (value_Int 1) fun r1 =>
  Option.bind (value_Int 2) fun r20 =>
  Option.bind ((value_List fuel) [r1, r20]) fun r45 =>
  Option.bind ((value_Nodes fuel) r45) fun r73 =>
  if (r73 == 5) = true then
    Option.bind ((value_Height fuel) r45) fun r76 =>
    if (r76 == 3) = true then
      Option.bind ((value_Validate fuel) r45) fun r79 =>
      if (r79 == 0) = true then
        Option.bind ((value_Validate fuel) (Val.mk 0 0 (⟨#[]⟩) ([] : List Val) ([] : List Key) ([] : List Ent) ([] : List ByteArray))) fun r82 =>
        if (r82 == 1) = true then
          Option.bind (value_Int 1) fun r85 =>
          Option.bind (value_Int 2) fun r87 =>
          Option.bind (value_Nil) fun r89 =>
          Option.bind ((value_Cons fuel) r87 r89) fun r91 =>
          Option.bind ((value_Cons fuel) r85 r91) fun r93 =>
          Option.bind ((value_Equal fuel) r45 r93) fun r95 =>
          some r95
        else
          some false
      else
        some false
    else
      some false
  else
    some false

def semtyperef1_Nil : Option Val :=
  some (Val.mk 5 0 (⟨#[]⟩) ([] : List Val) ([] : List Key) ([] : List Ent) ([] : List ByteArray))

def semtyperef1_Cons (a0 : Val) (a1 : Val) : Option Val :=
  some (Val.mk 7 0 (⟨#[]⟩) [a0, a1] ([] : List Key) ([] : List Ent) ([] : List ByteArray))

def semtypebase_Source_Next (a0 : Semtypebase_Source) (a1 : Int) : Option (Int × Semtypebase_Source) :=
  if (decide (a1 < 1)) = true then
    some (0, a0)
  else
    if (decide ((a0.L.length : Int) ≤ a0.At)) = true then
      some (0, a0)
    else
      Option.bind (idx a0.L a0.At) fun x456 =>
      Option.bind (qrem x456 a1) fun x458 =>
      if (decide (x458 < 0)) = true then
        some (w64 (x458 + a1), (Semtypebase_Source.mk a0.L (w64 (a0.At + 1))))
      else
        some (x458, (Semtypebase_Source.mk a0.L (w64 (a0.At + 1))))

def semtypebase_Source_Label (a0 : Semtypebase_Source) : Option (ByteArray × Semtypebase_Source) :=
  Option.bind (semtypebase_Source_Next a0 3) fun r10 =>
  Option.bind (idx ([⟨#[65]⟩, ⟨#[66]⟩, ⟨#[67]⟩] : List ByteArray) r10.1) fun x24 =>
  some (x24, r10.2)

def semtyperef1_Sorted_l2 (a0 : (List ByteArray)) (q10 : ((List ByteArray) × Int)) (q31 : Int) : Option (Fl Int Int) :=
  if (decide (q31 < (q10.1.length : Int))) = true then
    Option.bind (idx q10.1 q31) fun x43 =>
    Option.bind (idx a0 q10.2) fun x45 =>
    if (strLt x43 x45) = true then
      some (.next (w64 (q31 + 1)))
    else
      some (.done q31)
  else
    some (.done q31)

def semtyperef1_Sorted_l1 (a0 : (List ByteArray)) (q10 : ((List ByteArray) × Int)) : Option (Fl ((List ByteArray) × Int) ((List ByteArray) × Int)) :=
  if (decide (q10.2 < (a0.length : Int))) = true then
    Option.bind (iter (semtyperef1_Sorted_l2 a0 q10) (q10.1.length + 1) 0) fun o510 =>
    if (decide (o510 < (q10.1.length : Int))) = true then
      Option.bind (idx q10.1 o510) fun x524 =>
      Option.bind (idx a0 q10.2) fun x526 =>
      if (strEq x524 x526) = true then
        some (.next (q10.1, w64 (q10.2 + 1)))
      else
        Option.bind (cut q10.1 0 o510) fun x771 =>
        Option.bind (room (([] : List ByteArray).length + x771.length) 16) fun _ =>
        Option.bind (idx a0 q10.2) fun x785 =>
        Option.bind (room (x771.length + [x785].length) 16) fun _ =>
        Option.bind (cut q10.1 o510 (q10.1.length : Int)) fun x789 =>
        Option.bind (room ((x771 ++ [x785]).length + x789.length) 16) fun _ =>
        some (.next ((x771 ++ [x785]) ++ x789, w64 (q10.2 + 1)))
    else
      Option.bind (cut q10.1 0 o510) fun x1274 =>
      Option.bind (room (([] : List ByteArray).length + x1274.length) 16) fun _ =>
      Option.bind (idx a0 q10.2) fun x1288 =>
      Option.bind (room (x1274.length + [x1288].length) 16) fun _ =>
      Option.bind (cut q10.1 o510 (q10.1.length : Int)) fun x1292 =>
      Option.bind (room ((x1274 ++ [x1288]).length + x1292.length) 16) fun _ =>
      some (.next ((x1274 ++ [x1288]) ++ x1292, w64 (q10.2 + 1)))
  else
    some (.done (q10.1, q10.2))

def semtyperef1_Sorted (a0 : (List ByteArray)) : Option (List ByteArray) :=
  Option.bind (iter (semtyperef1_Sorted_l1 a0) (a0.length + 1) (([] : List ByteArray), 0)) fun o1557 =>
  some o1557.1

def semtypebase_Source_Labels (a0 : Semtypebase_Source) : Option ((List ByteArray) × Semtypebase_Source) :=
  Option.bind (semtypebase_Source_Next a0 3) fun r4 =>
  if (r4.1 == 1) = true then
    Option.bind (semtypebase_Source_Label r4.2) fun r19 =>
    Option.bind (room (([] : List ByteArray).length + [r19.1].length) 16) fun _ =>
    Option.bind (semtypebase_Source_Next r19.2 2) fun r47 =>
    if (r47.1 == 1) = true then
      Option.bind (semtypebase_Source_Label r47.2) fun r62 =>
      Option.bind (room ([r19.1].length + [r62.1].length) 16) fun _ =>
      Option.bind (semtyperef1_Sorted ([r19.1] ++ [r62.1])) fun r90 =>
      some (r90, r62.2)
    else
      Option.bind (semtyperef1_Sorted [r19.1]) fun r100 =>
      some (r100, r47.2)
  else
    Option.bind (semtyperef1_Sorted ([] : List ByteArray)) fun r110 =>
    some (r110, r4.2)

def semtyperef1_Int (a0 : Int) : Option Val :=
  some (Val.mk 1 a0 (⟨#[]⟩) ([] : List Val) ([] : List Key) ([] : List Ent) ([] : List ByteArray))

def semtyperef1_String (a0 : ByteArray) : Option Val :=
  some (Val.mk 2 0 a0 ([] : List Val) ([] : List Key) ([] : List Ent) ([] : List ByteArray))

def semtyperef1_copies (a0 : (List Val)) : Option (List Val) :=
  Option.bind (room (([] : List Val).length + a0.length) 128) fun _ =>
  some a0

def semtyperef1_Tuple (a0 : (List Val)) : Option Val :=
  Option.bind (semtyperef1_copies a0) fun r9 =>
  some (Val.mk 6 0 (⟨#[]⟩) r9 ([] : List Key) ([] : List Ent) ([] : List ByteArray))

def semtypebase_Source_Number (a0 : Semtypebase_Source) : Option (Int × Semtypebase_Source) :=
  Option.bind (semtypebase_Source_Next a0 10) fun r10 =>
  Option.bind (idx ([0, 1, (-1), 2, 3, (-2), 7, (-9223372036854775808), 9223372036854775807, 10] : List Int) r10.1) fun x24 =>
  some (x24, r10.2)

def semtyperef1_Atom (a0 : ByteArray) : Option Val :=
  some (Val.mk 3 0 a0 ([] : List Val) ([] : List Key) ([] : List Ent) ([] : List ByteArray))

def semtypebase_Source_AtomName (a0 : Semtypebase_Source) : Option (ByteArray × Semtypebase_Source) :=
  Option.bind (semtypebase_Source_Next a0 4) fun r10 =>
  Option.bind (idx ([⟨#[97]⟩, ⟨#[98]⟩, ⟨#[111, 107]⟩, ⟨#[101, 114, 114, 111, 114]⟩] : List ByteArray) r10.1) fun x24 =>
  some (x24, r10.2)

def semtypebase_Source_Word (a0 : Semtypebase_Source) : Option (ByteArray × Semtypebase_Source) :=
  Option.bind (semtypebase_Source_Next a0 4) fun r10 =>
  Option.bind (idx ([⟨#[]⟩, ⟨#[115]⟩, ⟨#[120, 32, 121]⟩, ⟨#[97]⟩] : List ByteArray) r10.1) fun x24 =>
  some (x24, r10.2)

def semtyperef1_Pid (a0 : Int) : Option Val :=
  some (Val.mk 4 a0 (⟨#[]⟩) ([] : List Val) ([] : List Key) ([] : List Ent) ([] : List ByteArray))

def semtypebase_Source_leaf (a0 : Semtypebase_Source) : Option (Val × Semtypebase_Source) :=
  Option.bind (semtypebase_Source_Next a0 6) fun r9 =>
  if (r9.1 == 0) = true then
    Option.bind (semtypebase_Source_Number r9.2) fun r24 =>
    Option.bind (semtyperef1_Int r24.1) fun r38 =>
    some (r38, r24.2)
  else
    if (r9.1 == 1) = true then
      Option.bind (semtypebase_Source_AtomName r9.2) fun r62 =>
      Option.bind (semtyperef1_Atom r62.1) fun r76 =>
      some (r76, r62.2)
    else
      if (r9.1 == 2) = true then
        Option.bind (semtypebase_Source_Word r9.2) fun r100 =>
        Option.bind (semtyperef1_String r100.1) fun r114 =>
        some (r114, r100.2)
      else
        if (r9.1 == 3) = true then
          Option.bind (semtypebase_Source_Next r9.2 3) fun r138 =>
          Option.bind (semtyperef1_Pid r138.1) fun r152 =>
          some (r152, r138.2)
        else
          if (r9.1 == 4) = true then
            Option.bind (semtyperef1_Nil) fun r176 =>
            some (r176, r9.2)
          else
            Option.bind (semtyperef1_Tuple ([] : List Val)) fun r199 =>
            some (r199, r9.2)

def semtypebase_Source_Key (a0 : Semtypebase_Source) : Option (Key × Semtypebase_Source) :=
  Option.bind (semtypebase_Source_Next a0 2) fun r9 =>
  if (r9.1 == 0) = true then
    Option.bind (semtypebase_Source_AtomName r9.2) fun r24 =>
    some ((Key.mk 0 r24.1), r24.2)
  else
    Option.bind (semtypebase_Source_Word r9.2) fun r42 =>
    some ((Key.mk 1 r42.1), r42.2)

def semtyperef1_Order (a0 : Int) (a1 : Int) : Option Int :=
  if (decide (a0 < a1)) = true then
    some (-1)
  else
    if (decide (a1 < a0)) = true then
      some 1
    else
      some 0

def semtyperef1_Text (a0 : ByteArray) (a1 : ByteArray) : Option Int :=
  if (strLt a0 a1) = true then
    some (-1)
  else
    if (!(strLt a0 a1 || strEq a0 a1)) = true then
      some 1
    else
      some 0

def semtyperef1_CompareKeys (a0 : Key) (a1 : Key) : Option Int :=
  if (a0.Kind != a1.Kind) = true then
    Option.bind (semtyperef1_Order a0.Kind a1.Kind) fun r12 =>
    some r12
  else
    Option.bind (semtyperef1_Text a0.Text a1.Text) fun r19 =>
    some r19

def semtyperef1_lower (a0 : UInt8) : Option Bool :=
  if (decide (97 ≤ (a0.toNat : Int))) = true then
    some (decide ((a0.toNat : Int) ≤ 122))
  else
    some false

def semtyperef1_digit (a0 : UInt8) : Option Bool :=
  if (decide (48 ≤ (a0.toNat : Int))) = true then
    some (decide ((a0.toNat : Int) ≤ 57))
  else
    some false

def semtyperef1_IsAtom_l1 (a0 : ByteArray) (q33 : Int) : Option (Fl Int (Sum Int Bool)) :=
  if (decide (q33 < (a0.size : Int))) = true then
    Option.bind (sidx a0 q33) fun x42 =>
    Option.bind (semtyperef1_lower x42) fun r44 =>
    Option.bind (if (!r44) = true then
      Option.bind (sidx a0 q33) fun x59 =>
      Option.bind (semtyperef1_digit x59) fun r61 =>
      some (!r61)
    else
      some false) fun q56 =>
    if q56 = true then
      Option.bind (sidx a0 q33) fun x77 =>
      if ((x77.toNat : Int) != 95) = true then
        some (.done (.inr false))
      else
        some (.next (w64 (q33 + 1)))
    else
      some (.next (w64 (q33 + 1)))
  else
    some (.done (.inl q33))

def semtyperef1_IsAtom (a0 : ByteArray) : Option Bool :=
  Option.bind (if (decide ((a0.size : Int) < 1)) = true then
    some true
  else
    some (decide (16 < (a0.size : Int)))) fun q6 =>
  if q6 = true then
    some false
  else
    Option.bind (sidx a0 0) fun x18 =>
    Option.bind (semtyperef1_lower x18) fun r20 =>
    if (!r20) = true then
      some false
    else
      Option.bind (iter (semtyperef1_IsAtom_l1 a0) (a0.size + 1) 1) (onEnd (fun _ =>
        some true) (fun r => some r))

def semtyperef1_ValidKey (a0 : Key) : Option Bool :=
  Option.bind (if (a0.Kind == 0) = true then
    Option.bind (semtyperef1_IsAtom a0.Text) fun r14 =>
    some r14
  else
    some false) fun q11 =>
  if q11 = true then
    some true
  else
    Option.bind (if (a0.Kind == 1) = true then
      some (decide ((a0.Text.size : Int) ≤ 64))
    else
      some false) fun q37 =>
    some q37

def semtyperef1_Map_l1 (a0 : (List Key)) (q24 : Int) : Option (Fl Int (Sum Int (Val × Int))) :=
  if (decide (q24 < (a0.length : Int))) = true then
    Option.bind (idx a0 q24) fun x36 =>
    Option.bind (semtyperef1_ValidKey x36) fun r43 =>
    if (!r43) = true then
      some (.done (.inr ((Val.mk 0 0 (⟨#[]⟩) ([] : List Val) ([] : List Key) ([] : List Ent) ([] : List ByteArray)), 1)))
    else
      some (.next (w64 (q24 + 1)))
  else
    some (.done (.inl q24))

def semtyperef1_Map_l3 (a0 : (List Key)) (q84 : (Int × (List Val) × (List Key))) (q112 : Int) : Option (Fl Int Int) :=
  if (decide (q112 < (q84.2.2.length : Int))) = true then
    Option.bind (idx q84.2.2 q112) fun x127 =>
    Option.bind (idx a0 q84.1) fun x129 =>
    Option.bind (semtyperef1_CompareKeys x127 x129) fun r131 =>
    if (decide (r131 < 0)) = true then
      some (.next (w64 (q112 + 1)))
    else
      some (.done q112)
  else
    some (.done q112)

def semtyperef1_Map_l2 (a0 : (List Key)) (a1 : (List Val)) (q84 : (Int × (List Val) × (List Key))) : Option (Fl (Int × (List Val) × (List Key)) (Sum (Int × (List Val) × (List Key)) (Val × Int))) :=
  if (decide (q84.1 < (a0.length : Int))) = true then
    Option.bind (iter (semtyperef1_Map_l3 a0 q84) (q84.2.2.length + 1) 0) fun o773 =>
    if (decide (o773 < (q84.2.2.length : Int))) = true then
      Option.bind (idx q84.2.2 o773) fun x790 =>
      Option.bind (idx a0 q84.1) fun x792 =>
      if ((x790.Kind == x792.Kind) && ((strEq x790.Text x792.Text) && true)) = true then
        some (.done (.inr ((Val.mk 0 0 (⟨#[]⟩) ([] : List Val) ([] : List Key) ([] : List Ent) ([] : List ByteArray)), 6)))
      else
        Option.bind (cut q84.2.2 0 o773) fun x1113 =>
        Option.bind (room (([] : List Key).length + x1113.length) 24) fun _ =>
        Option.bind (cut q84.2.1 0 o773) fun x1117 =>
        Option.bind (semtyperef1_copies x1117) fun r1119 =>
        Option.bind (idx a0 q84.1) fun x1398 =>
        Option.bind (room (x1113.length + [x1398].length) 24) fun _ =>
        Option.bind (cut q84.2.2 o773 (q84.2.2.length : Int)) fun x1402 =>
        Option.bind (room ((x1113 ++ [x1398]).length + x1402.length) 24) fun _ =>
        Option.bind (idx a1 q84.1) fun x1775 =>
        Option.bind (room (r1119.length + [x1775].length) 128) fun _ =>
        Option.bind (cut q84.2.1 o773 (q84.2.1.length : Int)) fun x1779 =>
        Option.bind (room ((r1119 ++ [x1775]).length + x1779.length) 128) fun _ =>
        some (.next (w64 (q84.1 + 1), (r1119 ++ [x1775]) ++ x1779, (x1113 ++ [x1398]) ++ x1402))
    else
      Option.bind (cut q84.2.2 0 o773) fun x2474 =>
      Option.bind (room (([] : List Key).length + x2474.length) 24) fun _ =>
      Option.bind (cut q84.2.1 0 o773) fun x2478 =>
      Option.bind (semtyperef1_copies x2478) fun r2480 =>
      Option.bind (idx a0 q84.1) fun x2759 =>
      Option.bind (room (x2474.length + [x2759].length) 24) fun _ =>
      Option.bind (cut q84.2.2 o773 (q84.2.2.length : Int)) fun x2763 =>
      Option.bind (room ((x2474 ++ [x2759]).length + x2763.length) 24) fun _ =>
      Option.bind (idx a1 q84.1) fun x3136 =>
      Option.bind (room (r2480.length + [x3136].length) 128) fun _ =>
      Option.bind (cut q84.2.1 o773 (q84.2.1.length : Int)) fun x3140 =>
      Option.bind (room ((r2480 ++ [x3136]).length + x3140.length) 128) fun _ =>
      some (.next (w64 (q84.1 + 1), (r2480 ++ [x3136]) ++ x3140, (x2474 ++ [x2759]) ++ x2763))
  else
    some (.done (.inl (q84.1, q84.2.1, q84.2.2)))

def semtyperef1_Map (a0 : (List Key)) (a1 : (List Val)) : Option (Val × Int) :=
  if ((a0.length : Int) != (a1.length : Int)) = true then
    some ((Val.mk 0 0 (⟨#[]⟩) ([] : List Val) ([] : List Key) ([] : List Ent) ([] : List ByteArray)), 1)
  else
    Option.bind (iter (semtyperef1_Map_l1 a0) (a0.length + 1) 0) (onEnd (fun _ =>
      Option.bind (iter (semtyperef1_Map_l2 a0 a1) (a0.length + 1) (0, ([] : List Val), ([] : List Key))) (onEnd (fun q3549 =>
        some ((Val.mk 8 0 (⟨#[]⟩) q3549.2.1 q3549.2.2 ([] : List Ent) ([] : List ByteArray)), 0)) (fun r => some r))) (fun r => some r))

def semtyperef1_count (a0 : Int) (a1 : Int) : Option Int :=
  Option.bind (semtyperef1_Order a0 a1) fun r1 =>
  some r1

def semtyperef1_Compare_l1 (a0 : Val) (a1 : Val) (q73 : Int) : Option (Fl Int (Sum Int Int)) :=
  if (decide (q73 < (a0.Keys.length : Int))) = true then
    Option.bind (idx a0.Keys q73) fun x85 =>
    Option.bind (idx a1.Keys q73) fun x87 =>
    Option.bind (semtyperef1_CompareKeys x85 x87) fun r89 =>
    if (r89 != 0) = true then
      some (.done (.inr r89))
    else
      some (.next (w64 (q73 + 1)))
  else
    some (.done (.inl q73))

def semtyperef1_Compare_l2 (rec_semtyperef1_CompareEntries : (Ent → Ent → Option Int)) (a0 : Val) (a1 : Val) (q357 : Int) : Option (Fl Int (Sum Int Int)) :=
  if (decide (q357 < (a0.Entries.length : Int))) = true then
    Option.bind (idx a0.Entries q357) fun x369 =>
    Option.bind (idx a1.Entries q357) fun x371 =>
    Option.bind (rec_semtyperef1_CompareEntries x369 x371) fun r373 =>
    if (r373 != 0) = true then
      some (.done (.inr r373))
    else
      some (.next (w64 (q357 + 1)))
  else
    some (.done (.inl q357))

def semtyperef1_Compare_l3 (a0 : Val) (a1 : Val) (q723 : Int) : Option (Fl Int (Sum Int Int)) :=
  if (decide (q723 < (a0.Labels.length : Int))) = true then
    Option.bind (idx a0.Labels q723) fun x735 =>
    Option.bind (idx a1.Labels q723) fun x737 =>
    Option.bind (semtyperef1_Text x735 x737) fun r739 =>
    if (r739 != 0) = true then
      some (.done (.inr r739))
    else
      some (.next (w64 (q723 + 1)))
  else
    some (.done (.inl q723))

def semtyperef1_Compare_B (_rec_semtyperef1_Compare : (Val → Val → Option Int)) (rec_semtyperef1_values : ((List Val) → (List Val) → Option Int)) (rec_semtyperef1_CompareEntries : (Ent → Ent → Option Int)) (a0 : Val) (a1 : Val) : Option Int :=
  if (a0.Kind != a1.Kind) = true then
    Option.bind (semtyperef1_count a0.Kind a1.Kind) fun r36 =>
    some r36
  else
    if (a0.Int_ != a1.Int_) = true then
      Option.bind (semtyperef1_Order a0.Int_ a1.Int_) fun r44 =>
      some r44
    else
      if (!strEq a0.Text a1.Text) = true then
        Option.bind (semtyperef1_Text a0.Text a1.Text) fun r52 =>
        some r52
      else
        if ((a0.Keys.length : Int) != (a1.Keys.length : Int)) = true then
          Option.bind (semtyperef1_count (a0.Keys.length : Int) (a1.Keys.length : Int)) fun r60 =>
          some r60
        else
          Option.bind (iter (semtyperef1_Compare_l1 a0 a1) (a0.Keys.length + 1) 0) (onEnd (fun _ =>
            Option.bind (rec_semtyperef1_values a0.Kids a1.Kids) fun r336 =>
            if (r336 != 0) = true then
              some r336
            else
              if ((a0.Entries.length : Int) != (a1.Entries.length : Int)) = true then
                Option.bind (semtyperef1_count (a0.Entries.length : Int) (a1.Entries.length : Int)) fun r345 =>
                some r345
              else
                Option.bind (iter (semtyperef1_Compare_l2 rec_semtyperef1_CompareEntries a0 a1) (a0.Entries.length + 1) 0) (onEnd (fun _ =>
                  if ((a0.Labels.length : Int) != (a1.Labels.length : Int)) = true then
                    Option.bind (semtyperef1_count (a0.Labels.length : Int) (a1.Labels.length : Int)) fun r711 =>
                    some r711
                  else
                    Option.bind (iter (semtyperef1_Compare_l3 a0 a1) (a0.Labels.length + 1) 0) (onEnd (fun _ =>
                      some 0) (fun r => some r))) (fun r => some r))) (fun r => some r))

def semtyperef1_values_l1 (rec_semtyperef1_Compare : (Val → Val → Option Int)) (a0 : (List Val)) (a1 : (List Val)) (q21 : Int) : Option (Fl Int (Sum Int Int)) :=
  if (decide (q21 < (a0.length : Int))) = true then
    Option.bind (idx a0 q21) fun x31 =>
    Option.bind (idx a1 q21) fun x33 =>
    Option.bind (rec_semtyperef1_Compare x31 x33) fun r35 =>
    if (r35 != 0) = true then
      some (.done (.inr r35))
    else
      some (.next (w64 (q21 + 1)))
  else
    some (.done (.inl q21))

def semtyperef1_values_B (rec_semtyperef1_Compare : (Val → Val → Option Int)) (_rec_semtyperef1_values : ((List Val) → (List Val) → Option Int)) (_rec_semtyperef1_CompareEntries : (Ent → Ent → Option Int)) (a0 : (List Val)) (a1 : (List Val)) : Option Int :=
  if ((a0.length : Int) != (a1.length : Int)) = true then
    Option.bind (semtyperef1_count (a0.length : Int) (a1.length : Int)) fun r8 =>
    some r8
  else
    Option.bind (iter (semtyperef1_values_l1 rec_semtyperef1_Compare a0 a1) (a0.length + 1) 0) (onEnd (fun _ =>
      some 0) (fun r => some r))

def semtyperef1_CompareEntries_B (rec_semtyperef1_Compare : (Val → Val → Option Int)) (rec_semtyperef1_values : ((List Val) → (List Val) → Option Int)) (_rec_semtyperef1_CompareEntries : (Ent → Ent → Option Int)) (a0 : Ent) (a1 : Ent) : Option Int :=
  Option.bind (rec_semtyperef1_values a0.Args a1.Args) fun r41 =>
  if (r41 != 0) = true then
    some r41
  else
    if (a0.Fails != a1.Fails) = true then
      if a0.Fails = true then
        some (-1)
      else
        some 1
    else
      Option.bind (rec_semtyperef1_Compare a0.Result a1.Result) fun r51 =>
      some r51

def scc_semtyperef1_Compare : Nat → (Val → Val → Option Int) × ((List Val) → (List Val) → Option Int) × (Ent → Ent → Option Int)
  | 0 => (fun _ _ => none, fun _ _ => none, fun _ _ => none)
  | n + 1 => (semtyperef1_Compare_B (scc_semtyperef1_Compare n).1 (scc_semtyperef1_Compare n).2.1 (scc_semtyperef1_Compare n).2.2, semtyperef1_values_B (scc_semtyperef1_Compare n).1 (scc_semtyperef1_Compare n).2.1 (scc_semtyperef1_Compare n).2.2, semtyperef1_CompareEntries_B (scc_semtyperef1_Compare n).1 (scc_semtyperef1_Compare n).2.1 (scc_semtyperef1_Compare n).2.2)

def semtyperef1_Compare (n : Nat) : (Val → Val → Option Int) := (scc_semtyperef1_Compare n).1

def semtyperef1_values (n : Nat) : ((List Val) → (List Val) → Option Int) := (scc_semtyperef1_Compare n).2.1

def semtyperef1_CompareEntries (n : Nat) : (Ent → Ent → Option Int) := (scc_semtyperef1_Compare n).2.2

def semtyperef1_Equal (fuel : Nat) (a0 : Val) (a1 : Val) : Option Bool :=
  Option.bind ((semtyperef1_Compare fuel) a0 a1) fun r35 =>
  some (r35 == 0)

def semtyperef1_entries_l2 (fuel : Nat) (a0 : (List Ent)) (q10 : ((List Ent) × Int)) (q31 : Int) : Option (Fl Int Int) :=
  if (decide (q31 < (q10.1.length : Int))) = true then
    Option.bind (idx q10.1 q31) fun x43 =>
    Option.bind (idx a0 q10.2) fun x45 =>
    Option.bind ((semtyperef1_CompareEntries fuel) x43 x45) fun r47 =>
    if (decide (r47 < 0)) = true then
      some (.next (w64 (q31 + 1)))
    else
      some (.done q31)
  else
    some (.done q31)

def semtyperef1_entries_l1 (fuel : Nat) (a0 : (List Ent)) (q10 : ((List Ent) × Int)) : Option (Fl ((List Ent) × Int) ((List Ent) × Int)) :=
  if (decide (q10.2 < (a0.length : Int))) = true then
    Option.bind (iter (semtyperef1_entries_l2 fuel a0 q10) (q10.1.length + 1) 0) fun o637 =>
    if (decide (o637 < (q10.1.length : Int))) = true then
      Option.bind (idx q10.1 o637) fun x651 =>
      Option.bind (idx a0 q10.2) fun x653 =>
      Option.bind ((semtyperef1_CompareEntries fuel) x651 x653) fun r655 =>
      if (r655 == 0) = true then
        some (.next (q10.1, w64 (q10.2 + 1)))
      else
        Option.bind (cut q10.1 0 o637) fun x1011 =>
        Option.bind (room (([] : List Ent).length + x1011.length) 160) fun _ =>
        Option.bind (idx a0 q10.2) fun x1025 =>
        Option.bind (room (x1011.length + [x1025].length) 160) fun _ =>
        Option.bind (cut q10.1 o637 (q10.1.length : Int)) fun x1029 =>
        Option.bind (room ((x1011 ++ [x1025]).length + x1029.length) 160) fun _ =>
        some (.next ((x1011 ++ [x1025]) ++ x1029, w64 (q10.2 + 1)))
    else
      Option.bind (cut q10.1 0 o637) fun x1574 =>
      Option.bind (room (([] : List Ent).length + x1574.length) 160) fun _ =>
      Option.bind (idx a0 q10.2) fun x1588 =>
      Option.bind (room (x1574.length + [x1588].length) 160) fun _ =>
      Option.bind (cut q10.1 o637 (q10.1.length : Int)) fun x1592 =>
      Option.bind (room ((x1574 ++ [x1588]).length + x1592.length) 160) fun _ =>
      some (.next ((x1574 ++ [x1588]) ++ x1592, w64 (q10.2 + 1)))
  else
    some (.done (q10.1, q10.2))

def semtyperef1_entries (fuel : Nat) (a0 : (List Ent)) : Option (List Ent) :=
  Option.bind (iter (semtyperef1_entries_l1 fuel a0) (a0.length + 1) (([] : List Ent), 0)) fun o1903 =>
  some o1903.1

def semtyperef1_Function_l1 (fuel : Nat) (a0 : Int) (a1 : (List Ent)) (q26 : Int) : Option (Fl Int (Sum Int (Val × Int))) :=
  if (decide (q26 < (a1.length : Int))) = true then
    Option.bind (idx a1 q26) fun x38 =>
    if ((x38.Args.length : Int) != a0) = true then
      some (.done (.inr ((Val.mk 0 0 (⟨#[]⟩) ([] : List Val) ([] : List Key) ([] : List Ent) ([] : List ByteArray)), 1)))
    else
      Option.bind (idx a1 q26) fun x65 =>
      Option.bind (if x65.Fails = true then
        Option.bind (idx a1 q26) fun x98 =>
        Option.bind ((semtyperef1_Equal fuel) x98.Result (Val.mk 0 0 (⟨#[]⟩) ([] : List Val) ([] : List Key) ([] : List Ent) ([] : List ByteArray))) fun r120 =>
        some (!r120)
      else
        some false) fun q95 =>
      if q95 = true then
        some (.done (.inr ((Val.mk 0 0 (⟨#[]⟩) ([] : List Val) ([] : List Key) ([] : List Ent) ([] : List ByteArray)), 1)))
      else
        some (.next (w64 (q26 + 1)))
  else
    some (.done (.inl q26))

def semtyperef1_Function (fuel : Nat) (a0 : Int) (a1 : (List Ent)) : Option (Val × Int) :=
  if (decide (a0 < 0)) = true then
    some ((Val.mk 0 0 (⟨#[]⟩) ([] : List Val) ([] : List Key) ([] : List Ent) ([] : List ByteArray)), 1)
  else
    if (decide (4 < a0)) = true then
      some ((Val.mk 0 0 (⟨#[]⟩) ([] : List Val) ([] : List Key) ([] : List Ent) ([] : List ByteArray)), 1)
    else
      Option.bind (iter (semtyperef1_Function_l1 fuel a0 a1) (a1.length + 1) 0) (onEnd (fun _ =>
        Option.bind ((semtyperef1_entries fuel) a1) fun r157 =>
        some ((Val.mk 9 a0 (⟨#[]⟩) ([] : List Val) ([] : List Key) r157 ([] : List ByteArray)), 0)) (fun r => some r))

def semtypebase_Source_Value_B (_rec_semtypebase_Source_Value : (Semtypebase_Source → Int → Option (Val × Semtypebase_Source))) (rec_semtypebase_Source_value : (Semtypebase_Source → Int → Option (Val × Semtypebase_Source))) (_rec_semtypebase_Source_entry : (Semtypebase_Source → Int → Int → Option (Ent × Semtypebase_Source))) (a0 : Semtypebase_Source) (a1 : Int) : Option (Val × Semtypebase_Source) :=
  Option.bind (rec_semtypebase_Source_value a0 a1) fun r9 =>
  Option.bind (semtypebase_Source_Labels r9.2) fun r44 =>
  some ((Val.mk r9.1.Kind r9.1.Int_ r9.1.Text r9.1.Kids r9.1.Keys r9.1.Entries r44.1), r44.2)

def semtypebase_Source_value_l1 (rec_semtypebase_Source_Value : (Semtypebase_Source → Int → Option (Val × Semtypebase_Source))) (a1 : Int) (q76 : ((List Val) × Int × (List Int) × Int)) : Option (Fl ((List Val) × Int × (List Int) × Int) ((List Val) × Int × (List Int) × Int)) :=
  if (decide (0 < q76.2.1)) = true then
    Option.bind (rec_semtypebase_Source_Value (Semtypebase_Source.mk q76.2.2.1 q76.2.2.2) (w64 (a1 - 1))) fun r96 =>
    Option.bind (room (q76.1.length + [r96.1].length) 128) fun _ =>
    some (.next (q76.1 ++ [r96.1], w64 (q76.2.1 - 1), r96.2.L, r96.2.At))
  else
    some (.done (q76.1, q76.2.1, q76.2.2.1, q76.2.2.2))

def semtypebase_Source_value_l2 (rec_semtypebase_Source_Value : (Semtypebase_Source → Int → Option (Val × Semtypebase_Source))) (a1 : Int) (q1135 : ((List Key) × (List Val) × Int × (List Int) × Int)) : Option (Fl ((List Key) × (List Val) × Int × (List Int) × Int) ((List Key) × (List Val) × Int × (List Int) × Int)) :=
  if (decide (0 < q1135.2.2.1)) = true then
    Option.bind (semtypebase_Source_Key (Semtypebase_Source.mk q1135.2.2.2.1 q1135.2.2.2.2)) fun r1159 =>
    Option.bind (room (q1135.1.length + [r1159.1].length) 24) fun _ =>
    Option.bind (rec_semtypebase_Source_Value r1159.2 (w64 (a1 - 1))) fun r1187 =>
    Option.bind (room (q1135.2.1.length + [r1187.1].length) 128) fun _ =>
    some (.next (q1135.1 ++ [r1159.1], q1135.2.1 ++ [r1187.1], w64 (q1135.2.2.1 - 1), r1187.2.L, r1187.2.At))
  else
    some (.done (q1135.1, q1135.2.1, q1135.2.2.1, q1135.2.2.2.1, q1135.2.2.2.2))

def semtypebase_Source_value_l3 (rec_semtypebase_Source_entry : (Semtypebase_Source → Int → Int → Option (Ent × Semtypebase_Source))) (a1 : Int) (r1320 : (Int × Semtypebase_Source)) (q1356 : ((List Ent) × Int × (List Int) × Int)) : Option (Fl ((List Ent) × Int × (List Int) × Int) ((List Ent) × Int × (List Int) × Int)) :=
  if (decide (0 < q1356.2.1)) = true then
    Option.bind (rec_semtypebase_Source_entry (Semtypebase_Source.mk q1356.2.2.1 q1356.2.2.2) r1320.1 (w64 (a1 - 1))) fun r1377 =>
    Option.bind (room (q1356.1.length + [r1377.1].length) 160) fun _ =>
    some (.next (q1356.1 ++ [r1377.1], w64 (q1356.2.1 - 1), r1377.2.L, r1377.2.At))
  else
    some (.done (q1356.1, q1356.2.1, q1356.2.2.1, q1356.2.2.2))

def semtypebase_Source_value_B (rec_semtypebase_Source_Value : (Semtypebase_Source → Int → Option (Val × Semtypebase_Source))) (_rec_semtypebase_Source_value : (Semtypebase_Source → Int → Option (Val × Semtypebase_Source))) (rec_semtypebase_Source_entry : (Semtypebase_Source → Int → Int → Option (Ent × Semtypebase_Source))) (fuel : Nat) (a0 : Semtypebase_Source) (a1 : Int) : Option (Val × Semtypebase_Source) :=
  if (decide (a1 ≤ 1)) = true then
    Option.bind (semtypebase_Source_leaf a0) fun r10 =>
    some (r10.1, r10.2)
  else
    Option.bind (semtypebase_Source_Next a0 6) fun r40 =>
    if (r40.1 == 1) = true then
      Option.bind (semtypebase_Source_Next r40.2 4) fun r55 =>
      Option.bind (iter (semtypebase_Source_value_l1 rec_semtypebase_Source_Value a1) (fuel) (([] : List Val), r55.1, r55.2.L, r55.2.At)) fun o136 =>
      Option.bind (semtyperef1_Tuple o136.1) fun r157 =>
      some (r157, (Semtypebase_Source.mk o136.2.2.1 o136.2.2.2))
    else
      if (r40.1 == 2) = true then
        Option.bind (semtyperef1_Nil) fun r181 =>
        if (decide (2 < a1)) = true then
          Option.bind (semtypebase_Source_Next r40.2 2) fun r210 =>
          if (r210.1 == 1) = true then
            Option.bind (rec_semtypebase_Source_Value r210.2 (w64 (a1 - 2))) fun r225 =>
            Option.bind (semtyperef1_Nil) fun r251 =>
            Option.bind (semtyperef1_Cons r225.1 r251) fun r270 =>
            Option.bind (semtypebase_Source_Labels r225.2) fun r293 =>
            Option.bind (rec_semtypebase_Source_Value r293.2 (w64 (a1 - 1))) fun r314 =>
            Option.bind (semtyperef1_Cons r314.1 (Val.mk r270.Kind r270.Int_ r270.Text r270.Kids r270.Keys r270.Entries r293.1)) fun r316 =>
            some (r316, r314.2)
          else
            Option.bind (semtypebase_Source_Labels r210.2) fun r566 =>
            Option.bind (rec_semtypebase_Source_Value r566.2 (w64 (a1 - 1))) fun r587 =>
            Option.bind (semtyperef1_Cons r587.1 (Val.mk r181.Kind r181.Int_ r181.Text r181.Kids r181.Keys r181.Entries r566.1)) fun r589 =>
            some (r589, r587.2)
        else
          Option.bind (semtypebase_Source_Labels r40.2) fun r839 =>
          Option.bind (rec_semtypebase_Source_Value r839.2 (w64 (a1 - 1))) fun r860 =>
          Option.bind (semtyperef1_Cons r860.1 (Val.mk r181.Kind r181.Int_ r181.Text r181.Kids r181.Keys r181.Entries r839.1)) fun r862 =>
          some (r862, r860.2)
      else
        if (r40.1 == 3) = true then
          Option.bind (semtypebase_Source_Next r40.2 3) fun r1113 =>
          Option.bind (iter (semtypebase_Source_value_l2 rec_semtypebase_Source_Value a1) (fuel) (([] : List Key), ([] : List Val), r1113.1, r1113.2.L, r1113.2.At)) fun o1227 =>
          Option.bind (semtyperef1_Map o1227.1 o1227.2.1) fun r1252 =>
          if (r1252.2 == 0) = true then
            some (r1252.1, (Semtypebase_Source.mk o1227.2.2.2.1 o1227.2.2.2.2))
          else
            Option.bind (semtypebase_Source_leaf (Semtypebase_Source.mk o1227.2.2.2.1 o1227.2.2.2.2)) fun r1289 =>
            some (r1289.1, r1289.2)
        else
          if (r40.1 == 4) = true then
            Option.bind (semtypebase_Source_Next r40.2 3) fun r1320 =>
            Option.bind (semtypebase_Source_Next r1320.2 3) fun r1334 =>
            Option.bind (iter (semtypebase_Source_value_l3 rec_semtypebase_Source_entry a1 r1320) (fuel) (([] : List Ent), r1334.1, r1334.2.L, r1334.2.At)) fun o1420 =>
            Option.bind ((semtyperef1_Function fuel) r1320.1 o1420.1) fun r1442 =>
            if (r1442.2 == 0) = true then
              some (r1442.1, (Semtypebase_Source.mk o1420.2.2.1 o1420.2.2.2))
            else
              Option.bind (semtypebase_Source_leaf (Semtypebase_Source.mk o1420.2.2.1 o1420.2.2.2)) fun r1479 =>
              some (r1479.1, r1479.2)
          else
            Option.bind (semtypebase_Source_leaf r40.2) fun r1509 =>
            some (r1509.1, r1509.2)

def semtypebase_Source_entry_l1 (rec_semtypebase_Source_Value : (Semtypebase_Source → Int → Option (Val × Semtypebase_Source))) (a2 : Int) (q21 : (Int × (List Int) × Int × (List Val))) : Option (Fl (Int × (List Int) × Int × (List Val)) (Int × (List Int) × Int × (List Val))) :=
  if (decide (0 < q21.1)) = true then
    Option.bind (rec_semtypebase_Source_Value (Semtypebase_Source.mk q21.2.1 q21.2.2.1) a2) fun r42 =>
    Option.bind (room (q21.2.2.2.length + [r42.1].length) 128) fun _ =>
    some (.next (w64 (q21.1 - 1), r42.2.L, r42.2.At, q21.2.2.2 ++ [r42.1]))
  else
    some (.done (q21.1, q21.2.1, q21.2.2.1, q21.2.2.2))

def semtypebase_Source_entry_B (rec_semtypebase_Source_Value : (Semtypebase_Source → Int → Option (Val × Semtypebase_Source))) (_rec_semtypebase_Source_value : (Semtypebase_Source → Int → Option (Val × Semtypebase_Source))) (_rec_semtypebase_Source_entry : (Semtypebase_Source → Int → Int → Option (Ent × Semtypebase_Source))) (fuel : Nat) (a0 : Semtypebase_Source) (a1 : Int) (a2 : Int) : Option (Ent × Semtypebase_Source) :=
  Option.bind (iter (semtypebase_Source_entry_l1 rec_semtypebase_Source_Value a2) (fuel) (a1, a0.L, a0.At, ([] : List Val))) fun o327 =>
  Option.bind (semtypebase_Source_Next (Semtypebase_Source.mk o327.2.1 o327.2.2.1) 4) fun r349 =>
  if (r349.1 == 1) = true then
    some ((Ent.mk o327.2.2.2 true (Val.mk 0 0 (⟨#[]⟩) ([] : List Val) ([] : List Key) ([] : List Ent) ([] : List ByteArray))), r349.2)
  else
    Option.bind (rec_semtypebase_Source_Value r349.2 a2) fun r372 =>
    some ((Ent.mk o327.2.2.2 false r372.1), r372.2)

def scc_semtypebase_Source_Value : Nat → (Semtypebase_Source → Int → Option (Val × Semtypebase_Source)) × (Semtypebase_Source → Int → Option (Val × Semtypebase_Source)) × (Semtypebase_Source → Int → Int → Option (Ent × Semtypebase_Source))
  | 0 => (fun _ _ => none, fun _ _ => none, fun _ _ _ => none)
  | n + 1 => (semtypebase_Source_Value_B (scc_semtypebase_Source_Value n).1 (scc_semtypebase_Source_Value n).2.1 (scc_semtypebase_Source_Value n).2.2, semtypebase_Source_value_B (scc_semtypebase_Source_Value n).1 (scc_semtypebase_Source_Value n).2.1 (scc_semtypebase_Source_Value n).2.2 n, semtypebase_Source_entry_B (scc_semtypebase_Source_Value n).1 (scc_semtypebase_Source_Value n).2.1 (scc_semtypebase_Source_Value n).2.2 n)

def semtypebase_Source_Value (n : Nat) : (Semtypebase_Source → Int → Option (Val × Semtypebase_Source)) := (scc_semtypebase_Source_Value n).1

def semtypebase_Source_value (n : Nat) : (Semtypebase_Source → Int → Option (Val × Semtypebase_Source)) := (scc_semtypebase_Source_Value n).2.1

def semtypebase_Source_entry (n : Nat) : (Semtypebase_Source → Int → Int → Option (Ent × Semtypebase_Source)) := (scc_semtypebase_Source_Value n).2.2

def semtypelaw4_drawn (fuel : Nat) (a0 : (List Int)) : Option Val :=
  Option.bind ((semtypebase_Source_Value fuel) (Semtypebase_Source.mk a0 0) 4) fun r14 =>
  some r14.1

def semtyperef1_upper (a0 : UInt8) : Option Bool :=
  if (decide (65 ≤ (a0.toNat : Int))) = true then
    some (decide ((a0.toNat : Int) ≤ 90))
  else
    some false

def semtyperef1_IsVariable_l1 (a0 : ByteArray) (q33 : Int) : Option (Fl Int (Sum Int Bool)) :=
  if (decide (q33 < (a0.size : Int))) = true then
    Option.bind (sidx a0 q33) fun x42 =>
    Option.bind (semtyperef1_lower x42) fun r44 =>
    Option.bind (if (!r44) = true then
      Option.bind (sidx a0 q33) fun x59 =>
      Option.bind (semtyperef1_upper x59) fun r61 =>
      some (!r61)
    else
      some false) fun q56 =>
    Option.bind (if q56 = true then
      Option.bind (sidx a0 q33) fun x84 =>
      Option.bind (semtyperef1_digit x84) fun r86 =>
      some (!r86)
    else
      some false) fun q81 =>
    if q81 = true then
      Option.bind (sidx a0 q33) fun x102 =>
      if ((x102.toNat : Int) != 95) = true then
        some (.done (.inr false))
      else
        some (.next (w64 (q33 + 1)))
    else
      some (.next (w64 (q33 + 1)))
  else
    some (.done (.inl q33))

def semtyperef1_IsVariable (a0 : ByteArray) : Option Bool :=
  Option.bind (if (decide ((a0.size : Int) < 1)) = true then
    some true
  else
    some (decide (16 < (a0.size : Int)))) fun q6 =>
  if q6 = true then
    some false
  else
    Option.bind (sidx a0 0) fun x18 =>
    Option.bind (semtyperef1_upper x18) fun r20 =>
    if (!r20) = true then
      some false
    else
      Option.bind (iter (semtyperef1_IsVariable_l1 a0) (a0.size + 1) 1) (onEnd (fun _ =>
        some true) (fun r => some r))

def semtyperef1_node_l1 (a0 : Val) (q23 : Int) : Option (Fl Int (Sum Int Bool)) :=
  if (decide (q23 < (a0.Labels.length : Int))) = true then
    Option.bind (idx a0.Labels q23) fun x33 =>
    Option.bind (semtyperef1_IsVariable x33) fun r35 =>
    if (!r35) = true then
      some (.done (.inr false))
    else
      if (decide (0 < q23)) = true then
        Option.bind (idx a0.Labels (w64 (q23 - 1))) fun x438 =>
        Option.bind (idx a0.Labels q23) fun x440 =>
        if (!strLt x438 x440) = true then
          some (.done (.inr false))
        else
          some (.next (w64 (q23 + 1)))
      else
        some (.next (w64 (q23 + 1)))
  else
    some (.done (.inl q23))

def semtyperef1_node_l2 (a0 : Val) (q1589 : Int) : Option (Fl Int (Sum Int Bool)) :=
  if (decide (q1589 < (a0.Keys.length : Int))) = true then
    Option.bind (idx a0.Keys q1589) fun x1599 =>
    Option.bind (semtyperef1_ValidKey x1599) fun r1601 =>
    if (!r1601) = true then
      some (.done (.inr false))
    else
      if (decide (0 < q1589)) = true then
        Option.bind (idx a0.Keys (w64 (q1589 - 1))) fun x2020 =>
        Option.bind (idx a0.Keys q1589) fun x2022 =>
        Option.bind (semtyperef1_CompareKeys x2020 x2022) fun r2024 =>
        if (decide (0 ≤ r2024)) = true then
          some (.done (.inr false))
        else
          some (.next (w64 (q1589 + 1)))
      else
        some (.next (w64 (q1589 + 1)))
  else
    some (.done (.inl q1589))

def semtyperef1_node_l3 (fuel : Nat) (a0 : Val) (q2915 : Int) : Option (Fl Int (Sum Int Bool)) :=
  if (decide (q2915 < (a0.Entries.length : Int))) = true then
    Option.bind (idx a0.Entries q2915) fun x2925 =>
    if ((x2925.Args.length : Int) != a0.Int_) = true then
      some (.done (.inr false))
    else
      if x2925.Fails = true then
        Option.bind ((semtyperef1_Equal fuel) x2925.Result (Val.mk 0 0 (⟨#[]⟩) ([] : List Val) ([] : List Key) ([] : List Ent) ([] : List ByteArray))) fun r3481 =>
        if (!r3481) = true then
          some (.done (.inr false))
        else
          if (decide (0 < q2915)) = true then
            Option.bind (idx a0.Entries (w64 (q2915 - 1))) fun x4043 =>
            Option.bind ((semtyperef1_CompareEntries fuel) x4043 x2925) fun r4045 =>
            if (decide (0 ≤ r4045)) = true then
              some (.done (.inr false))
            else
              some (.next (w64 (q2915 + 1)))
          else
            some (.next (w64 (q2915 + 1)))
      else
        if (decide (0 < q2915)) = true then
          Option.bind (idx a0.Entries (w64 (q2915 - 1))) fun x5246 =>
          Option.bind ((semtyperef1_CompareEntries fuel) x5246 x2925) fun r5248 =>
          if (decide (0 ≤ r5248)) = true then
            some (.done (.inr false))
          else
            some (.next (w64 (q2915 + 1)))
        else
          some (.next (w64 (q2915 + 1)))
  else
    some (.done (.inl q2915))

def semtyperef1_node (fuel : Nat) (a0 : Val) : Option Bool :=
  Option.bind (iter (semtyperef1_node_l1 a0) (a0.Labels.length + 1) 0) (onEnd (fun _ =>
    Option.bind (Option.bind (if (a0.Kind == 1) = true then
      some true
    else
      some (a0.Kind == 4)) fun q1287 =>
    if q1287 = true then
      some true
    else
      some (a0.Kind == 9)) fun q1281 =>
    Option.bind (if (a0.Kind == 2) = true then
      some true
    else
      some (a0.Kind == 3)) fun q1311 =>
    Option.bind (Option.bind (if (a0.Kind == 6) = true then
      some true
    else
      some (a0.Kind == 7)) fun q1336 =>
    if q1336 = true then
      some true
    else
      some (a0.Kind == 8)) fun q1328 =>
    Option.bind (Option.bind (if (!q1281) = true then
      some (a0.Int_ != 0)
    else
      some false) fun q1374 =>
    Option.bind (if q1374 = true then
      some true
    else
      Option.bind (if (!q1311) = true then
        some (!strEq a0.Text (⟨#[]⟩))
      else
        some false) fun q1402 =>
      some q1402) fun q1393 =>
    Option.bind (if q1393 = true then
      some true
    else
      Option.bind (if (!q1328) = true then
        some (decide (0 < (a0.Kids.length : Int)))
      else
        some false) fun q1437 =>
      some q1437) fun q1429 =>
    Option.bind (if q1429 = true then
      some true
    else
      Option.bind (if (a0.Kind != 8) = true then
        some (decide (0 < (a0.Keys.length : Int)))
      else
        some false) fun q1469 =>
      some q1469) fun q1461 =>
    if q1461 = true then
      some true
    else
      Option.bind (if (a0.Kind != 9) = true then
        some (decide (0 < (a0.Entries.length : Int)))
      else
        some false) fun q1495 =>
      some q1495) fun q1366 =>
    if q1366 = true then
      some false
    else
      if (a0.Kind == 1) = true then
        some true
      else
        if (a0.Kind == 5) = true then
          some true
        else
          if (a0.Kind == 2) = true then
            some (decide ((a0.Text.size : Int) ≤ 64))
          else
            if (a0.Kind == 3) = true then
              Option.bind (semtyperef1_IsAtom a0.Text) fun r1520 =>
              some r1520
            else
              if (a0.Kind == 4) = true then
                some (decide (0 ≤ a0.Int_))
              else
                if (a0.Kind == 6) = true then
                  some (decide ((a0.Kids.length : Int) ≤ 4))
                else
                  if (a0.Kind == 7) = true then
                    if ((a0.Kids.length : Int) == 2) = true then
                      Option.bind (idx a0.Kids 1) fun x1531 =>
                      Option.bind (if (x1531.Kind == 5) = true then
                        some true
                      else
                        Option.bind (idx a0.Kids 1) fun x1558 =>
                        some (x1558.Kind == 7)) fun q1555 =>
                      some q1555
                    else
                      some false
                  else
                    if (a0.Kind == 8) = true then
                      Option.bind (iter (semtyperef1_node_l2 a0) (a0.Keys.length + 1) 0) (onEnd (fun _ =>
                        some ((a0.Keys.length : Int) == (a0.Kids.length : Int))) (fun r => some r))
                    else
                      if (a0.Kind == 9) = true then
                        if (decide (a0.Int_ < 0)) = true then
                          some false
                        else
                          if (decide (4 < a0.Int_)) = true then
                            some false
                          else
                            Option.bind (iter (semtyperef1_node_l3 fuel a0) (a0.Entries.length + 1) 0) (onEnd (fun _ =>
                              some true) (fun r => some r))
                      else
                        some false) (fun r => some r))

def semtyperef1_Valid_l1 (rec_semtyperef1_Valid : (Val → Option Bool)) (a0 : Val) (q31 : Int) : Option (Fl Int (Sum Int Bool)) :=
  if (decide (q31 < (a0.Kids.length : Int))) = true then
    Option.bind (idx a0.Kids q31) fun x41 =>
    Option.bind (rec_semtyperef1_Valid x41) fun r60 =>
    if (!r60) = true then
      some (.done (.inr false))
    else
      some (.next (w64 (q31 + 1)))
  else
    some (.done (.inl q31))

def semtyperef1_Valid_l3 (rec_semtyperef1_Valid : (Val → Option Bool)) (x93 : Ent) (q130 : Int) : Option (Fl Int (Sum Int Bool)) :=
  if (decide (q130 < (x93.Args.length : Int))) = true then
    Option.bind (idx x93.Args q130) fun x143 =>
    Option.bind (rec_semtyperef1_Valid x143) fun r162 =>
    if (!r162) = true then
      some (.done (.inr false))
    else
      some (.next (w64 (q130 + 1)))
  else
    some (.done (.inl q130))

def semtyperef1_Valid_l2 (rec_semtyperef1_Valid : (Val → Option Bool)) (a0 : Val) (q83 : Int) : Option (Fl Int (Sum Int Bool)) :=
  if (decide (q83 < (a0.Entries.length : Int))) = true then
    Option.bind (idx a0.Entries q83) fun x93 =>
    Option.bind (iter (semtyperef1_Valid_l3 rec_semtyperef1_Valid x93) (x93.Args.length + 1) 0) (onEnd (fun _ =>
      if (!x93.Fails) = true then
        Option.bind (rec_semtyperef1_Valid x93.Result) fun r185 =>
        if (!r185) = true then
          some (.done (.inr false))
        else
          some (.next (w64 (q83 + 1)))
      else
        some (.next (w64 (q83 + 1)))) (fun r => some (.done (.inr r))))
  else
    some (.done (.inl q83))

def semtyperef1_Valid_B (rec_semtyperef1_Valid : (Val → Option Bool)) (fuel : Nat) (a0 : Val) : Option Bool :=
  Option.bind ((semtyperef1_node fuel) a0) fun r18 =>
  if (!r18) = true then
    some false
  else
    Option.bind (iter (semtyperef1_Valid_l1 rec_semtyperef1_Valid a0) (a0.Kids.length + 1) 0) (onEnd (fun _ =>
      Option.bind (iter (semtyperef1_Valid_l2 rec_semtyperef1_Valid a0) (a0.Entries.length + 1) 0) (onEnd (fun _ =>
        some true) (fun r => some r))) (fun r => some r))

def semtyperef1_Valid : Nat → (Val → Option Bool)
  | 0 => fun _ => none
  | n + 1 => semtyperef1_Valid_B (semtyperef1_Valid n) n

def semtypelaw4_judged (fuel : Nat) (a0 : Val) : Option Bool :=
  Option.bind ((semtyperef1_Valid fuel) a0) fun r18 =>
  if r18 = true then
    Option.bind ((value_Validate fuel) a0) fun r26 =>
    some (r26 == 0)
  else
    Option.bind ((value_Validate fuel) a0) fun r33 =>
    some (r33 == 1)

def semtypelaw4_ValueValid (fuel : Nat) (a0 : Val) (a1 : (List Int)) (a2 : Int) (a3 : Int) (a4 : ByteArray) : Option Bool :=
  Option.bind ((semtypelaw4_small fuel) a0) fun r21 =>
  if (!r21) = true then
    Option.bind ((semtypelaw4_awake fuel)) fun r29 =>
    some r29
  else
    if (decide (60 < (a1.length : Int))) = true then
      Option.bind ((semtypelaw4_awake fuel)) fun r37 =>
      some r37
    else
      Option.bind ((semtypelaw4_drawn fuel) a1) fun r44 =>
      Option.bind (room (([] : List ByteArray).length + r44.Labels.length) 16) fun _ =>
      Option.bind (room (r44.Labels.length + [a4].length) 16) fun _ =>
      Option.bind ((value_Validate fuel) r44) fun r526 =>
      Option.bind (if (r526 == 0) = true then
        Option.bind ((semtypelaw4_judged fuel) a0) fun r544 =>
        some r544
      else
        some false) fun q541 =>
      Option.bind (if q541 = true then
        Option.bind ((semtypelaw4_judged fuel) (Val.mk a2 r44.Int_ r44.Text r44.Kids r44.Keys r44.Entries r44.Labels)) fun r576 =>
        some r576
      else
        some false) fun q573 =>
      Option.bind (if q573 = true then
        Option.bind ((semtypelaw4_judged fuel) (Val.mk r44.Kind a3 r44.Text r44.Kids r44.Keys r44.Entries r44.Labels)) fun r605 =>
        some r605
      else
        some false) fun q602 =>
      Option.bind (if q602 = true then
        Option.bind ((semtypelaw4_judged fuel) (Val.mk r44.Kind r44.Int_ a4 r44.Kids r44.Keys r44.Entries r44.Labels)) fun r631 =>
        some r631
      else
        some false) fun q628 =>
      Option.bind (if q628 = true then
        Option.bind ((semtypelaw4_judged fuel) (Val.mk r44.Kind r44.Int_ r44.Text r44.Kids r44.Keys r44.Entries (r44.Labels ++ [a4]))) fun r654 =>
        some r654
      else
        some false) fun q651 =>
      if q651 = true then
        Option.bind ((semtypelaw4_awake fuel)) fun r668 =>
        some r668
      else
        some false

end Go.Sx
