/-
  DERIVED. GIVEN WITH THE SEED: THE CARDS: each row of YtbbgmfkdindhpaaGreatDoorRows.lean that lists a variable, with what it lists TIED to the program's text (the seventh form; the later family's looks); each row that meets fmt, with fmt's text TOLD by the authors' own Lean function (tested against real Go, not proved from fmt's source: count such statements apart). THE CARD IS WHAT COUNTS. Prove the row's statement (the work); the ties are given (YtbbgmfkdindhpaaGreatDoorTie.lean); close each card by the builder's one call (the guide's Derived/Test/ToyasCard.lean, 'card_holds'). Laid BY PROGRAM, IN A SANDBOX (cutbox-door.mjs). By AI agents, Wed Nov 11 2026. No macro, syntax, notation, axiom, sorry.
-/
import Derived.Test.YtbbgmfkdindhpaaGreatDoorRows
import GoSem.ClaimSeven
namespace Go.Proofs.YtbbgmfkdindhpaaGreatDoor
namespace Rows

/-- THE TIED CARD OF 'semtypelaw15.WitnessHeights'. -/
def witnessHeightsCard : Claim7 := { stood := { row := witnessHeightsRow, standIns := [], harness := (true, "608190ab8cf7fa7c5c668526be60ac541fb46502971f3220d9d4c0801dd6e80c"), looks := false }, kinds := [], alts := [], laidByText := true, laidKinds := [.data, .data, .data], laidTests := true, laidLooks := .later }
def WitnessHeightsCardSaid : Prop := Claim7.holds Tryz.pinned (.plain (OpenSpec.ofChange witnessHeightsSpec)) witnessHeightsCard

/-- THE SECOND FORM's CARD OF 'semtypelaw15.WitnessHeights'. -/
def witnessHeightsUptoCard : Claim7 := { stood := { row := witnessHeightsUptoRow, standIns := [], harness := (true, "608190ab8cf7fa7c5c668526be60ac541fb46502971f3220d9d4c0801dd6e80c"), looks := false }, kinds := [], alts := [], laidByText := true, laidKinds := [.data, .data, .data], laidTests := true, laidLooks := .later }
def WitnessHeightsUptoCardSaid : Prop := Claim7.holds Tryz.pinned (.plain (OpenSpec.upto witnessHeightsSpec)) witnessHeightsUptoCard
end Rows
end Go.Proofs.YtbbgmfkdindhpaaGreatDoor
