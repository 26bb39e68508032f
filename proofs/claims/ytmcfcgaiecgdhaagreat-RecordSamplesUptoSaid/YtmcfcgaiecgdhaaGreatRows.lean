/-
  No cell of these rows narrows 'for every input' (looked for: loops, veiled, ifaces, maps, wideKeys, modest, calm, conditions, laid).
  DERIVED. THE GIVEN ROWS OF THIS SEAT. 5 by the template 'for every input the law returns true; each argument reads behind the call as it read before'; 0 by the template 'total and deterministic' (their statements: YtmcfcgaiecgdhaaGreatTotals.lean).
  GIVEN WITH THE SEED: the statements are not yours to turn. If you find one false, say at which input.
  Laid BY PROGRAM, IN A SANDBOX (cutbox-rows.mjs): the forced cells as the released guide's own fill.sh prints them over the translation d599739d8b6ce26f… (all of the seat's roots in one cut). By AI agents, Wed Nov 11 2026. No macro, syntax, notation, axiom, sorry.
-/
import Derived.Test.YtmcfcgaiecgdhaaGreatChecked
import GoSem.Claim
import GoSem.ClaimJoined
import GoSem.ClaimMapViews
import Derived.JoinedTies
import Derived.KernelRfl
namespace Go.Proofs.YtmcfcgaiecgdhaaGreat
/- THE CELL 'sum', in the pinned program and in every row, IS THE sha256 OF THE DUMP (.gsa) THAT YtmcfcgaiecgdhaaGreatProg.lean LOADS. Nothing in Lean hashes anything: it is a label: what it is worth is what the hold of that sum in a sandbox is worth. -/
noncomputable def Tryz.pinned : Pinned := { name := "ytmcfcgaiecgdhaagreat", sum := "d599739d8b6ce26f3e5602539b90c1f2a0848652ddf6c5ca30ad06c85e8e183a", checked := Tryz.checked }
namespace Rows
def none {H : Type} : Left H := { results := [], args := [] }

/-- 'semtypelaw10.ProductComponents': WHATEVER THE INPUT: true; the input reads as it did. -/
def productComponentsSpec : ChangeSpec := { name := "productComponents", fn := fun _ => fun
  | [d1, d2, d3] => { results := [.lit (.bool true)], args := [d1, d2, d3] }
  | _ => none }
def productComponentsRow : OpenClaim := { program := "ytmcfcgaiecgdhaagreat", sum := "d599739d8b6ce26f3e5602539b90c1f2a0848652ddf6c5ca30ad06c85e8e183a", func := "semtype/semtypelaw10.ProductComponents", spec := "productComponents", inPlace := ["internal/bytealg.abigen_runtime_cmpstring"], unfollowed := true, recurses := true, apart := false }
def ProductComponentsSaid : Prop := productComponentsRow.holds Tryz.pinned (OpenSpec.ofChange productComponentsSpec)

/-- ITS FALSE NEIGHBOUR: 'it returns false'. Refute it at one input. -/
def productComponentsWrong : ChangeSpec := { name := "productComponents", fn := fun _ => fun
  | [d1, d2, d3] => { results := [.lit (.bool false)], args := [d1, d2, d3] }
  | _ => none }
def ProductComponentsWrongFalsely : Prop := productComponentsRow.holds Tryz.pinned (OpenSpec.ofChange productComponentsWrong)

/-- 'semtypelaw10.ProductErrors': WHATEVER THE INPUT: true; the input reads as it did. -/
def productErrorsSpec : ChangeSpec := { name := "productErrors", fn := fun _ => fun
  | [d1, d2, d3] => { results := [.lit (.bool true)], args := [d1, d2, d3] }
  | _ => none }
def productErrorsRow : OpenClaim := { program := "ytmcfcgaiecgdhaagreat", sum := "d599739d8b6ce26f3e5602539b90c1f2a0848652ddf6c5ca30ad06c85e8e183a", func := "semtype/semtypelaw10.ProductErrors", spec := "productErrors", inPlace := ["internal/bytealg.abigen_runtime_cmpstring"], unfollowed := true, recurses := true, apart := false }
def ProductErrorsSaid : Prop := productErrorsRow.holds Tryz.pinned (OpenSpec.ofChange productErrorsSpec)

/-- ITS FALSE NEIGHBOUR: 'it returns false'. Refute it at one input. -/
def productErrorsWrong : ChangeSpec := { name := "productErrors", fn := fun _ => fun
  | [d1, d2, d3] => { results := [.lit (.bool false)], args := [d1, d2, d3] }
  | _ => none }
def ProductErrorsWrongFalsely : Prop := productErrorsRow.holds Tryz.pinned (OpenSpec.ofChange productErrorsWrong)

/-- 'semtypelaw11.RecordShapes': WHATEVER THE INPUT: true; the input reads as it did. -/
def recordShapesSpec : ChangeSpec := { name := "recordShapes", fn := fun _ => fun
  | [d1, d2, d3] => { results := [.lit (.bool true)], args := [d1, d2, d3] }
  | _ => none }
def recordShapesRow : OpenClaim := { program := "ytmcfcgaiecgdhaagreat", sum := "d599739d8b6ce26f3e5602539b90c1f2a0848652ddf6c5ca30ad06c85e8e183a", func := "semtype/semtypelaw11.RecordShapes", spec := "recordShapes", inPlace := ["internal/bytealg.abigen_runtime_cmpstring"], unfollowed := true, recurses := true, apart := false }
def RecordShapesSaid : Prop := recordShapesRow.holds Tryz.pinned (OpenSpec.ofChange recordShapesSpec)

/-- ITS FALSE NEIGHBOUR: 'it returns false'. Refute it at one input. -/
def recordShapesWrong : ChangeSpec := { name := "recordShapes", fn := fun _ => fun
  | [d1, d2, d3] => { results := [.lit (.bool false)], args := [d1, d2, d3] }
  | _ => none }
def RecordShapesWrongFalsely : Prop := recordShapesRow.holds Tryz.pinned (OpenSpec.ofChange recordShapesWrong)

/-- 'semtypelaw11.RecordErrors': WHATEVER THE INPUT: true; the input reads as it did. -/
def recordErrorsSpec : ChangeSpec := { name := "recordErrors", fn := fun _ => fun
  | [d1, d2, d3, d4] => { results := [.lit (.bool true)], args := [d1, d2, d3, d4] }
  | _ => none }
def recordErrorsRow : OpenClaim := { program := "ytmcfcgaiecgdhaagreat", sum := "d599739d8b6ce26f3e5602539b90c1f2a0848652ddf6c5ca30ad06c85e8e183a", func := "semtype/semtypelaw11.RecordErrors", spec := "recordErrors", inPlace := ["internal/bytealg.abigen_runtime_cmpstring"], unfollowed := true, recurses := true, apart := false }
def RecordErrorsSaid : Prop := recordErrorsRow.holds Tryz.pinned (OpenSpec.ofChange recordErrorsSpec)

/-- ITS FALSE NEIGHBOUR: 'it returns false'. Refute it at one input. -/
def recordErrorsWrong : ChangeSpec := { name := "recordErrors", fn := fun _ => fun
  | [d1, d2, d3, d4] => { results := [.lit (.bool false)], args := [d1, d2, d3, d4] }
  | _ => none }
def RecordErrorsWrongFalsely : Prop := recordErrorsRow.holds Tryz.pinned (OpenSpec.ofChange recordErrorsWrong)

/-- 'semtypelaw11.RecordSamples': WHATEVER THE INPUT: true; the input reads as it did. -/
def recordSamplesSpec : ChangeSpec := { name := "recordSamples", fn := fun _ => fun
  | [d1, d2, d3, d4] => { results := [.lit (.bool true)], args := [d1, d2, d3, d4] }
  | _ => none }
def recordSamplesRow : OpenClaim := { program := "ytmcfcgaiecgdhaagreat", sum := "d599739d8b6ce26f3e5602539b90c1f2a0848652ddf6c5ca30ad06c85e8e183a", func := "semtype/semtypelaw11.RecordSamples", spec := "recordSamples", inPlace := ["internal/bytealg.abigen_runtime_cmpstring"], unfollowed := true, recurses := true, apart := false }
def RecordSamplesSaid : Prop := recordSamplesRow.holds Tryz.pinned (OpenSpec.ofChange recordSamplesSpec)

/-- ITS FALSE NEIGHBOUR: 'it returns false'. Refute it at one input. -/
def recordSamplesWrong : ChangeSpec := { name := "recordSamples", fn := fun _ => fun
  | [d1, d2, d3, d4] => { results := [.lit (.bool false)], args := [d1, d2, d3, d4] }
  | _ => none }
def RecordSamplesWrongFalsely : Prop := recordSamplesRow.holds Tryz.pinned (OpenSpec.ofChange recordSamplesWrong)

/- THE SECOND FORM. 'bulk': how many values and letters a reading holds, each counted each time it is reached (what is shared counts as often as it is met; a slice's spare places count too). A statement '..UptoSaid' is the law's where the arguments, and the package variables that the reading takes, are together of bulk at most 1048576: NARROWER than '..Said'. Prove '..Said' where nothing that the law and all that it calls make is longer than what came in: it says more and counts as full. Else prove '..UptoSaid'. A law counts once. -/
mutual
def uptoBulk {H : Type} : DataW H → Nat
  | .lit (.string bytes) => bytes.length + 1
  | .lit _ => 1
  | .nil => 1
  | .ptr d => uptoBulk d + 1
  | .slice elems spare => uptoBulkAll elems + uptoBulkAll spare + 1
  | .agg parts => uptoBulkAll parts + 1
  | .iface _ d => uptoBulk d + 1
  | .map entries => uptoBulkEntries entries + 1
  | .held _ => 1
def uptoBulkAll {H : Type} : List (DataW H) → Nat
  | [] => 0
  | d :: r => uptoBulk d + uptoBulkAll r
def uptoBulkEntries {H : Type} : List (Lit × DataW H) → Nat
  | [] => 0
  | x :: r => uptoBulkEntry x + uptoBulkEntries r
def uptoBulkEntry {H : Type} : Lit × DataW H → Nat
  | (.string bytes, d) => bytes.length + uptoBulk d + 1
  | (_, d) => uptoBulk d + 1
 end
def uptoSmall : (H : Type) → List (DataW H) → Bool := fun _ ds => decide (uptoBulkAll ds ≤ 1048576)
def OpenSpec.upto (s : _root_.Go.ChangeSpec) : _root_.Go.OpenSpec := { _root_.Go.OpenSpec.ofChange s with cond := some uptoSmall }

/-- 'semtypelaw10.ProductComponents', WHERE WHAT IT READS IS OF BULK AT MOST 1048576: true; the input reads as it did. -/
def productComponentsUptoRow : OpenClaim := { program := "ytmcfcgaiecgdhaagreat", sum := "d599739d8b6ce26f3e5602539b90c1f2a0848652ddf6c5ca30ad06c85e8e183a", func := "semtype/semtypelaw10.ProductComponents", spec := "productComponents", inPlace := ["internal/bytealg.abigen_runtime_cmpstring"], unfollowed := true, recurses := true, apart := false, narrowed := true }
def ProductComponentsUptoSaid : Prop := productComponentsUptoRow.holds Tryz.pinned (OpenSpec.upto productComponentsSpec)

/-- 'semtypelaw10.ProductErrors', WHERE WHAT IT READS IS OF BULK AT MOST 1048576: true; the input reads as it did. -/
def productErrorsUptoRow : OpenClaim := { program := "ytmcfcgaiecgdhaagreat", sum := "d599739d8b6ce26f3e5602539b90c1f2a0848652ddf6c5ca30ad06c85e8e183a", func := "semtype/semtypelaw10.ProductErrors", spec := "productErrors", inPlace := ["internal/bytealg.abigen_runtime_cmpstring"], unfollowed := true, recurses := true, apart := false, narrowed := true }
def ProductErrorsUptoSaid : Prop := productErrorsUptoRow.holds Tryz.pinned (OpenSpec.upto productErrorsSpec)

/-- 'semtypelaw11.RecordShapes', WHERE WHAT IT READS IS OF BULK AT MOST 1048576: true; the input reads as it did. -/
def recordShapesUptoRow : OpenClaim := { program := "ytmcfcgaiecgdhaagreat", sum := "d599739d8b6ce26f3e5602539b90c1f2a0848652ddf6c5ca30ad06c85e8e183a", func := "semtype/semtypelaw11.RecordShapes", spec := "recordShapes", inPlace := ["internal/bytealg.abigen_runtime_cmpstring"], unfollowed := true, recurses := true, apart := false, narrowed := true }
def RecordShapesUptoSaid : Prop := recordShapesUptoRow.holds Tryz.pinned (OpenSpec.upto recordShapesSpec)

/-- 'semtypelaw11.RecordErrors', WHERE WHAT IT READS IS OF BULK AT MOST 1048576: true; the input reads as it did. -/
def recordErrorsUptoRow : OpenClaim := { program := "ytmcfcgaiecgdhaagreat", sum := "d599739d8b6ce26f3e5602539b90c1f2a0848652ddf6c5ca30ad06c85e8e183a", func := "semtype/semtypelaw11.RecordErrors", spec := "recordErrors", inPlace := ["internal/bytealg.abigen_runtime_cmpstring"], unfollowed := true, recurses := true, apart := false, narrowed := true }
def RecordErrorsUptoSaid : Prop := recordErrorsUptoRow.holds Tryz.pinned (OpenSpec.upto recordErrorsSpec)

/-- 'semtypelaw11.RecordSamples', WHERE WHAT IT READS IS OF BULK AT MOST 1048576: true; the input reads as it did. -/
def recordSamplesUptoRow : OpenClaim := { program := "ytmcfcgaiecgdhaagreat", sum := "d599739d8b6ce26f3e5602539b90c1f2a0848652ddf6c5ca30ad06c85e8e183a", func := "semtype/semtypelaw11.RecordSamples", spec := "recordSamples", inPlace := ["internal/bytealg.abigen_runtime_cmpstring"], unfollowed := true, recurses := true, apart := false, narrowed := true }
def RecordSamplesUptoSaid : Prop := recordSamplesUptoRow.holds Tryz.pinned (OpenSpec.upto recordSamplesSpec)

end Rows
end Go.Proofs.YtmcfcgaiecgdhaaGreat
