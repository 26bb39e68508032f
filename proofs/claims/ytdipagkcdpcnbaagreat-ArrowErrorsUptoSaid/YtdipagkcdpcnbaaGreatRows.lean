/-
  NARROWER THAN 'FOR EVERY INPUT', by the rows' own cells (each row's printed sentence says how): ArrowAllowed: loops · ArrowMerge: loops.
  DERIVED. THE GIVEN ROWS OF THIS SEAT. 5 by the template 'for every input the law returns true; each argument reads behind the call as it read before'; 0 by the template 'total and deterministic' (their statements: YtdipagkcdpcnbaaGreatTotals.lean).
  GIVEN WITH THE SEED: the statements are not yours to turn. If you find one false, say at which input.
  Laid BY PROGRAM, IN A SANDBOX (cutbox-rows.mjs): the forced cells as the released guide's own fill.sh prints them over the translation d6a90f412c9cee0a… (all of the seat's roots in one cut). By AI agents, Wed Nov 11 2026. No macro, syntax, notation, axiom, sorry.
-/
import Derived.Test.YtdipagkcdpcnbaaGreatChecked
import GoSem.Claim
import GoSem.ClaimJoined
import GoSem.ClaimMapViews
import Derived.JoinedTies
import Derived.KernelRfl
namespace Go.Proofs.YtdipagkcdpcnbaaGreat
/- THE CELL 'sum', in the pinned program and in every row, IS THE sha256 OF THE DUMP (.gsa) THAT YtdipagkcdpcnbaaGreatProg.lean LOADS. Nothing in Lean hashes anything: it is a label: what it is worth is what the hold of that sum in a sandbox is worth. -/
noncomputable def Tryz.pinned : Pinned := { name := "ytdipagkcdpcnbaagreat", sum := "d6a90f412c9cee0aee33aab631771a889e9d255f83a652390fd4816332878328", checked := Tryz.checked }
namespace Rows
def none {H : Type} : Left H := { results := [], args := [] }

/-- 'semtypelaw12.ArrowAllowed': WHATEVER THE INPUT: true; the input reads as it did. -/
def arrowAllowedSpec : ChangeSpec := { name := "arrowAllowed", fn := fun _ => fun
  | [d1, d2, d3, d4] => { results := [.lit (.bool true)], args := [d1, d2, d3, d4] }
  | _ => none }
def arrowAllowedRow : OpenClaim := { program := "ytdipagkcdpcnbaagreat", sum := "d6a90f412c9cee0aee33aab631771a889e9d255f83a652390fd4816332878328", func := "semtype/semtypelaw12.ArrowAllowed", spec := "arrowAllowed", inPlace := ["internal/bytealg.abigen_runtime_cmpstring"], unfollowed := true, recurses := true, loops := true, apart := false }
def ArrowAllowedSaid : Prop := arrowAllowedRow.holds Tryz.pinned (OpenSpec.ofChange arrowAllowedSpec)

/-- ITS FALSE NEIGHBOUR: 'it returns false'. Refute it at one input. -/
def arrowAllowedWrong : ChangeSpec := { name := "arrowAllowed", fn := fun _ => fun
  | [d1, d2, d3, d4] => { results := [.lit (.bool false)], args := [d1, d2, d3, d4] }
  | _ => none }
def ArrowAllowedWrongFalsely : Prop := arrowAllowedRow.holds Tryz.pinned (OpenSpec.ofChange arrowAllowedWrong)

/-- 'semtypelaw12.ArrowFunctions': WHATEVER THE INPUT: true; the input reads as it did. -/
def arrowFunctionsSpec : ChangeSpec := { name := "arrowFunctions", fn := fun _ => fun
  | [d1, d2, d3] => { results := [.lit (.bool true)], args := [d1, d2, d3] }
  | _ => none }
def arrowFunctionsRow : OpenClaim := { program := "ytdipagkcdpcnbaagreat", sum := "d6a90f412c9cee0aee33aab631771a889e9d255f83a652390fd4816332878328", func := "semtype/semtypelaw12.ArrowFunctions", spec := "arrowFunctions", inPlace := ["internal/bytealg.abigen_runtime_cmpstring"], unfollowed := true, recurses := true, apart := false }
def ArrowFunctionsSaid : Prop := arrowFunctionsRow.holds Tryz.pinned (OpenSpec.ofChange arrowFunctionsSpec)

/-- ITS FALSE NEIGHBOUR: 'it returns false'. Refute it at one input. -/
def arrowFunctionsWrong : ChangeSpec := { name := "arrowFunctions", fn := fun _ => fun
  | [d1, d2, d3] => { results := [.lit (.bool false)], args := [d1, d2, d3] }
  | _ => none }
def ArrowFunctionsWrongFalsely : Prop := arrowFunctionsRow.holds Tryz.pinned (OpenSpec.ofChange arrowFunctionsWrong)

/-- 'semtypelaw12.ArrowErrors': WHATEVER THE INPUT: true; the input reads as it did. -/
def arrowErrorsSpec : ChangeSpec := { name := "arrowErrors", fn := fun _ => fun
  | [d1, d2, d3, d4] => { results := [.lit (.bool true)], args := [d1, d2, d3, d4] }
  | _ => none }
def arrowErrorsRow : OpenClaim := { program := "ytdipagkcdpcnbaagreat", sum := "d6a90f412c9cee0aee33aab631771a889e9d255f83a652390fd4816332878328", func := "semtype/semtypelaw12.ArrowErrors", spec := "arrowErrors", inPlace := ["internal/bytealg.abigen_runtime_cmpstring"], unfollowed := true, recurses := true, apart := false }
def ArrowErrorsSaid : Prop := arrowErrorsRow.holds Tryz.pinned (OpenSpec.ofChange arrowErrorsSpec)

/-- ITS FALSE NEIGHBOUR: 'it returns false'. Refute it at one input. -/
def arrowErrorsWrong : ChangeSpec := { name := "arrowErrors", fn := fun _ => fun
  | [d1, d2, d3, d4] => { results := [.lit (.bool false)], args := [d1, d2, d3, d4] }
  | _ => none }
def ArrowErrorsWrongFalsely : Prop := arrowErrorsRow.holds Tryz.pinned (OpenSpec.ofChange arrowErrorsWrong)

/-- 'semtypelaw12.ArrowForms': WHATEVER THE INPUT: true; the input reads as it did. -/
def arrowFormsSpec : ChangeSpec := { name := "arrowForms", fn := fun _ => fun
  | [d1, d2, d3] => { results := [.lit (.bool true)], args := [d1, d2, d3] }
  | _ => none }
def arrowFormsRow : OpenClaim := { program := "ytdipagkcdpcnbaagreat", sum := "d6a90f412c9cee0aee33aab631771a889e9d255f83a652390fd4816332878328", func := "semtype/semtypelaw12.ArrowForms", spec := "arrowForms", inPlace := ["internal/bytealg.abigen_runtime_cmpstring"], unfollowed := true, recurses := true, apart := false }
def ArrowFormsSaid : Prop := arrowFormsRow.holds Tryz.pinned (OpenSpec.ofChange arrowFormsSpec)

/-- ITS FALSE NEIGHBOUR: 'it returns false'. Refute it at one input. -/
def arrowFormsWrong : ChangeSpec := { name := "arrowForms", fn := fun _ => fun
  | [d1, d2, d3] => { results := [.lit (.bool false)], args := [d1, d2, d3] }
  | _ => none }
def ArrowFormsWrongFalsely : Prop := arrowFormsRow.holds Tryz.pinned (OpenSpec.ofChange arrowFormsWrong)

/-- 'semtypelaw12.ArrowMerge': WHATEVER THE INPUT: true; the input reads as it did. -/
def arrowMergeSpec : ChangeSpec := { name := "arrowMerge", fn := fun _ => fun
  | [d1, d2, d3, d4] => { results := [.lit (.bool true)], args := [d1, d2, d3, d4] }
  | _ => none }
def arrowMergeRow : OpenClaim := { program := "ytdipagkcdpcnbaagreat", sum := "d6a90f412c9cee0aee33aab631771a889e9d255f83a652390fd4816332878328", func := "semtype/semtypelaw12.ArrowMerge", spec := "arrowMerge", inPlace := ["internal/bytealg.abigen_runtime_cmpstring"], unfollowed := true, recurses := true, loops := true, apart := false }
def ArrowMergeSaid : Prop := arrowMergeRow.holds Tryz.pinned (OpenSpec.ofChange arrowMergeSpec)

/-- ITS FALSE NEIGHBOUR: 'it returns false'. Refute it at one input. -/
def arrowMergeWrong : ChangeSpec := { name := "arrowMerge", fn := fun _ => fun
  | [d1, d2, d3, d4] => { results := [.lit (.bool false)], args := [d1, d2, d3, d4] }
  | _ => none }
def ArrowMergeWrongFalsely : Prop := arrowMergeRow.holds Tryz.pinned (OpenSpec.ofChange arrowMergeWrong)

/- THE SECOND FORM. 'bulk': how many values and letters a reading holds, each counted each time it is reached (what is shared counts as often as it is met; a slice's spare places count too). A statement '..UptoSaid' is the law's where the arguments, and the package variables that the reading takes, are together of bulk at most 1048576: NARROWER than '..Said'. Prove '..Said' where nothing that the law and all that it calls make is longer than what came in: it says more and counts as full. Else prove '..UptoSaid'. A law counts once. -/
mutual
def uptoBulk {H : Type} : DataW H → Nat
  | .lit (.string bytes) => bytes.length + 1
  | .lit _ => 1
  | .nil => 1
  | .ptr d => uptoBulk d + 1
  | .slice elems spare => uptoBulkAll elems + uptoBulkAll spare + 1
  | .agg parts => uptoBulkAll parts + 1
  | .iface _ d => uptoBulk d + 1
  | .map entries => uptoBulkEntries entries + 1
  | .held _ => 1
def uptoBulkAll {H : Type} : List (DataW H) → Nat
  | [] => 0
  | d :: r => uptoBulk d + uptoBulkAll r
def uptoBulkEntries {H : Type} : List (Lit × DataW H) → Nat
  | [] => 0
  | x :: r => uptoBulkEntry x + uptoBulkEntries r
def uptoBulkEntry {H : Type} : Lit × DataW H → Nat
  | (.string bytes, d) => bytes.length + uptoBulk d + 1
  | (_, d) => uptoBulk d + 1
 end
def uptoSmall : (H : Type) → List (DataW H) → Bool := fun _ ds => decide (uptoBulkAll ds ≤ 1048576)
def OpenSpec.upto (s : _root_.Go.ChangeSpec) : _root_.Go.OpenSpec := { _root_.Go.OpenSpec.ofChange s with cond := some uptoSmall }

/-- 'semtypelaw12.ArrowAllowed', WHERE WHAT IT READS IS OF BULK AT MOST 1048576: true; the input reads as it did. -/
def arrowAllowedUptoRow : OpenClaim := { program := "ytdipagkcdpcnbaagreat", sum := "d6a90f412c9cee0aee33aab631771a889e9d255f83a652390fd4816332878328", func := "semtype/semtypelaw12.ArrowAllowed", spec := "arrowAllowed", inPlace := ["internal/bytealg.abigen_runtime_cmpstring"], unfollowed := true, recurses := true, loops := true, apart := false, narrowed := true }
def ArrowAllowedUptoSaid : Prop := arrowAllowedUptoRow.holds Tryz.pinned (OpenSpec.upto arrowAllowedSpec)

/-- 'semtypelaw12.ArrowFunctions', WHERE WHAT IT READS IS OF BULK AT MOST 1048576: true; the input reads as it did. -/
def arrowFunctionsUptoRow : OpenClaim := { program := "ytdipagkcdpcnbaagreat", sum := "d6a90f412c9cee0aee33aab631771a889e9d255f83a652390fd4816332878328", func := "semtype/semtypelaw12.ArrowFunctions", spec := "arrowFunctions", inPlace := ["internal/bytealg.abigen_runtime_cmpstring"], unfollowed := true, recurses := true, apart := false, narrowed := true }
def ArrowFunctionsUptoSaid : Prop := arrowFunctionsUptoRow.holds Tryz.pinned (OpenSpec.upto arrowFunctionsSpec)

/-- 'semtypelaw12.ArrowErrors', WHERE WHAT IT READS IS OF BULK AT MOST 1048576: true; the input reads as it did. -/
def arrowErrorsUptoRow : OpenClaim := { program := "ytdipagkcdpcnbaagreat", sum := "d6a90f412c9cee0aee33aab631771a889e9d255f83a652390fd4816332878328", func := "semtype/semtypelaw12.ArrowErrors", spec := "arrowErrors", inPlace := ["internal/bytealg.abigen_runtime_cmpstring"], unfollowed := true, recurses := true, apart := false, narrowed := true }
def ArrowErrorsUptoSaid : Prop := arrowErrorsUptoRow.holds Tryz.pinned (OpenSpec.upto arrowErrorsSpec)

/-- 'semtypelaw12.ArrowForms', WHERE WHAT IT READS IS OF BULK AT MOST 1048576: true; the input reads as it did. -/
def arrowFormsUptoRow : OpenClaim := { program := "ytdipagkcdpcnbaagreat", sum := "d6a90f412c9cee0aee33aab631771a889e9d255f83a652390fd4816332878328", func := "semtype/semtypelaw12.ArrowForms", spec := "arrowForms", inPlace := ["internal/bytealg.abigen_runtime_cmpstring"], unfollowed := true, recurses := true, apart := false, narrowed := true }
def ArrowFormsUptoSaid : Prop := arrowFormsUptoRow.holds Tryz.pinned (OpenSpec.upto arrowFormsSpec)

/-- 'semtypelaw12.ArrowMerge', WHERE WHAT IT READS IS OF BULK AT MOST 1048576: true; the input reads as it did. -/
def arrowMergeUptoRow : OpenClaim := { program := "ytdipagkcdpcnbaagreat", sum := "d6a90f412c9cee0aee33aab631771a889e9d255f83a652390fd4816332878328", func := "semtype/semtypelaw12.ArrowMerge", spec := "arrowMerge", inPlace := ["internal/bytealg.abigen_runtime_cmpstring"], unfollowed := true, recurses := true, loops := true, apart := false, narrowed := true }
def ArrowMergeUptoSaid : Prop := arrowMergeUptoRow.holds Tryz.pinned (OpenSpec.upto arrowMergeSpec)

end Rows
end Go.Proofs.YtdipagkcdpcnbaaGreat
