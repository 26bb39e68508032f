/-
  No cell of these rows narrows 'for every input' (looked for: loops, veiled, ifaces, maps, wideKeys, modest, calm, conditions, laid).
  DERIVED. THE GIVEN ROWS OF THIS SEAT. 3 by the template 'for every input the law returns true; each argument reads behind the call as it read before'; 0 by the template 'total and deterministic' (their statements: YtamfhohifmbjnaaGreatTotals.lean).
  GIVEN WITH THE SEED: the statements are not yours to turn. If you find one false, say at which input.
  Laid BY PROGRAM, IN A SANDBOX (cutbox-rows.mjs): the forced cells as the released guide's own fill.sh prints them over the translation 49be33a03c969a1f… (all of the seat's roots in one cut). By AI agents, Wed Nov 11 2026. No macro, syntax, notation, axiom, sorry.
-/
import Derived.Test.YtamfhohifmbjnaaGreatChecked
import GoSem.Claim
import GoSem.ClaimJoined
import GoSem.ClaimMapViews
import Derived.JoinedTies
import Derived.KernelRfl
namespace Go.Proofs.YtamfhohifmbjnaaGreat
/- THE CELL 'sum', in the pinned program and in every row, IS THE sha256 OF THE DUMP (.gsa) THAT YtamfhohifmbjnaaGreatProg.lean LOADS. Nothing in Lean hashes anything: it is a label: what it is worth is what the hold of that sum in a sandbox is worth. -/
noncomputable def Tryz.pinned : Pinned := { name := "ytamfhohifmbjnaagreat", sum := "49be33a03c969a1ffd8c9c4bc588bb52c51c58cfb4fa120e80dba40190f94720", checked := Tryz.checked }
namespace Rows
def none {H : Type} : Left H := { results := [], args := [] }

/-- 'semtypelaw4.ValueMaps': WHATEVER THE INPUT: true; the input reads as it did. -/
def valueMapsSpec : ChangeSpec := { name := "valueMaps", fn := fun _ => fun
  | [d1, d2] => { results := [.lit (.bool true)], args := [d1, d2] }
  | _ => none }
def valueMapsRow : OpenClaim := { program := "ytamfhohifmbjnaagreat", sum := "49be33a03c969a1ffd8c9c4bc588bb52c51c58cfb4fa120e80dba40190f94720", func := "semtype/semtypelaw4.ValueMaps", spec := "valueMaps", inPlace := ["internal/bytealg.abigen_runtime_cmpstring"], unfollowed := true, recurses := true, apart := false }
def ValueMapsSaid : Prop := valueMapsRow.holds Tryz.pinned (OpenSpec.ofChange valueMapsSpec)

/-- ITS FALSE NEIGHBOUR: 'it returns false'. Refute it at one input. -/
def valueMapsWrong : ChangeSpec := { name := "valueMaps", fn := fun _ => fun
  | [d1, d2] => { results := [.lit (.bool false)], args := [d1, d2] }
  | _ => none }
def ValueMapsWrongFalsely : Prop := valueMapsRow.holds Tryz.pinned (OpenSpec.ofChange valueMapsWrong)

/-- 'semtypelaw4.ValueFunctions': WHATEVER THE INPUT: true; the input reads as it did. -/
def valueFunctionsSpec : ChangeSpec := { name := "valueFunctions", fn := fun _ => fun
  | [d1, d2, d3] => { results := [.lit (.bool true)], args := [d1, d2, d3] }
  | _ => none }
def valueFunctionsRow : OpenClaim := { program := "ytamfhohifmbjnaagreat", sum := "49be33a03c969a1ffd8c9c4bc588bb52c51c58cfb4fa120e80dba40190f94720", func := "semtype/semtypelaw4.ValueFunctions", spec := "valueFunctions", inPlace := ["internal/bytealg.abigen_runtime_cmpstring"], unfollowed := true, recurses := true, apart := false }
def ValueFunctionsSaid : Prop := valueFunctionsRow.holds Tryz.pinned (OpenSpec.ofChange valueFunctionsSpec)

/-- ITS FALSE NEIGHBOUR: 'it returns false'. Refute it at one input. -/
def valueFunctionsWrong : ChangeSpec := { name := "valueFunctions", fn := fun _ => fun
  | [d1, d2, d3] => { results := [.lit (.bool false)], args := [d1, d2, d3] }
  | _ => none }
def ValueFunctionsWrongFalsely : Prop := valueFunctionsRow.holds Tryz.pinned (OpenSpec.ofChange valueFunctionsWrong)

/-- 'semtypelaw4.ValueLabels': WHATEVER THE INPUT: true; the input reads as it did. -/
def valueLabelsSpec : ChangeSpec := { name := "valueLabels", fn := fun _ => fun
  | [d1, d2] => { results := [.lit (.bool true)], args := [d1, d2] }
  | _ => none }
def valueLabelsRow : OpenClaim := { program := "ytamfhohifmbjnaagreat", sum := "49be33a03c969a1ffd8c9c4bc588bb52c51c58cfb4fa120e80dba40190f94720", func := "semtype/semtypelaw4.ValueLabels", spec := "valueLabels", inPlace := ["internal/bytealg.abigen_runtime_cmpstring"], unfollowed := true, recurses := true, apart := false }
def ValueLabelsSaid : Prop := valueLabelsRow.holds Tryz.pinned (OpenSpec.ofChange valueLabelsSpec)

/-- ITS FALSE NEIGHBOUR: 'it returns false'. Refute it at one input. -/
def valueLabelsWrong : ChangeSpec := { name := "valueLabels", fn := fun _ => fun
  | [d1, d2] => { results := [.lit (.bool false)], args := [d1, d2] }
  | _ => none }
def ValueLabelsWrongFalsely : Prop := valueLabelsRow.holds Tryz.pinned (OpenSpec.ofChange valueLabelsWrong)

/- THE SECOND FORM. 'bulk': how many values and letters a reading holds, each counted each time it is reached (what is shared counts as often as it is met; a slice's spare places count too). A statement '..UptoSaid' is the law's where the arguments, and the package variables that the reading takes, are together of bulk at most 1048576: NARROWER than '..Said'. Prove '..Said' where nothing that the law and all that it calls make is longer than what came in: it says more and counts as full. Else prove '..UptoSaid'. A law counts once. -/
mutual
def uptoBulk {H : Type} : DataW H → Nat
  | .lit (.string bytes) => bytes.length + 1
  | .lit _ => 1
  | .nil => 1
  | .ptr d => uptoBulk d + 1
  | .slice elems spare => uptoBulkAll elems + uptoBulkAll spare + 1
  | .agg parts => uptoBulkAll parts + 1
  | .iface _ d => uptoBulk d + 1
  | .map entries => uptoBulkEntries entries + 1
  | .held _ => 1
def uptoBulkAll {H : Type} : List (DataW H) → Nat
  | [] => 0
  | d :: r => uptoBulk d + uptoBulkAll r
def uptoBulkEntries {H : Type} : List (Lit × DataW H) → Nat
  | [] => 0
  | x :: r => uptoBulkEntry x + uptoBulkEntries r
def uptoBulkEntry {H : Type} : Lit × DataW H → Nat
  | (.string bytes, d) => bytes.length + uptoBulk d + 1
  | (_, d) => uptoBulk d + 1
 end
def uptoSmall : (H : Type) → List (DataW H) → Bool := fun _ ds => decide (uptoBulkAll ds ≤ 1048576)
def OpenSpec.upto (s : _root_.Go.ChangeSpec) : _root_.Go.OpenSpec := { _root_.Go.OpenSpec.ofChange s with cond := some uptoSmall }

/-- 'semtypelaw4.ValueMaps', WHERE WHAT IT READS IS OF BULK AT MOST 1048576: true; the input reads as it did. -/
def valueMapsUptoRow : OpenClaim := { program := "ytamfhohifmbjnaagreat", sum := "49be33a03c969a1ffd8c9c4bc588bb52c51c58cfb4fa120e80dba40190f94720", func := "semtype/semtypelaw4.ValueMaps", spec := "valueMaps", inPlace := ["internal/bytealg.abigen_runtime_cmpstring"], unfollowed := true, recurses := true, apart := false, narrowed := true }
def ValueMapsUptoSaid : Prop := valueMapsUptoRow.holds Tryz.pinned (OpenSpec.upto valueMapsSpec)

/-- 'semtypelaw4.ValueFunctions', WHERE WHAT IT READS IS OF BULK AT MOST 1048576: true; the input reads as it did. -/
def valueFunctionsUptoRow : OpenClaim := { program := "ytamfhohifmbjnaagreat", sum := "49be33a03c969a1ffd8c9c4bc588bb52c51c58cfb4fa120e80dba40190f94720", func := "semtype/semtypelaw4.ValueFunctions", spec := "valueFunctions", inPlace := ["internal/bytealg.abigen_runtime_cmpstring"], unfollowed := true, recurses := true, apart := false, narrowed := true }
def ValueFunctionsUptoSaid : Prop := valueFunctionsUptoRow.holds Tryz.pinned (OpenSpec.upto valueFunctionsSpec)

/-- 'semtypelaw4.ValueLabels', WHERE WHAT IT READS IS OF BULK AT MOST 1048576: true; the input reads as it did. -/
def valueLabelsUptoRow : OpenClaim := { program := "ytamfhohifmbjnaagreat", sum := "49be33a03c969a1ffd8c9c4bc588bb52c51c58cfb4fa120e80dba40190f94720", func := "semtype/semtypelaw4.ValueLabels", spec := "valueLabels", inPlace := ["internal/bytealg.abigen_runtime_cmpstring"], unfollowed := true, recurses := true, apart := false, narrowed := true }
def ValueLabelsUptoSaid : Prop := valueLabelsUptoRow.holds Tryz.pinned (OpenSpec.upto valueLabelsSpec)

end Rows
end Go.Proofs.YtamfhohifmbjnaaGreat
