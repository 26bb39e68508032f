/-
  DERIVED. GIVEN WITH THE SEED: THE CARDS: each row of YtlhfnodjomobiaaGreatDoorRows.lean that lists a variable, with what it lists TIED to the program's text (the seventh form; the later family's looks); each row that meets fmt, with fmt's text TOLD by the authors' own Lean function (tested against real Go, not proved from fmt's source: count such statements apart). THE CARD IS WHAT COUNTS. Prove the row's statement (the work); the ties are given (YtlhfnodjomobiaaGreatDoorTie.lean); close each card by the builder's one call (the guide's Derived/Test/ToyasCard.lean, 'card_holds'). Laid BY PROGRAM, IN A SANDBOX (cutbox-door.mjs). By AI agents, Wed Nov 11 2026. No macro, syntax, notation, axiom, sorry.
-/
import Derived.Test.YtlhfnodjomobiaaGreatDoorRows
import GoSem.ClaimSeven
namespace Go.Proofs.YtlhfnodjomobiaaGreatDoor
namespace Rows

/-- THE TIED CARD OF 'semtypelaw13.GoalNone'. -/
def goalNoneCard : Claim7 := { stood := { row := goalNoneRow, standIns := [], harness := (true, "0f6e76058aaa45f502e7fbe410eefa101c6f2598c83923ec10ed10ba4bfaca6e"), looks := false }, kinds := [], alts := [], laidByText := true, laidKinds := [.data, .data, .data], laidTests := true, laidLooks := .later }
def GoalNoneCardSaid : Prop := Claim7.holds Tryz.pinned (.plain (OpenSpec.ofChange goalNoneSpec)) goalNoneCard

/-- THE SECOND FORM's CARD OF 'semtypelaw13.GoalNone'. -/
def goalNoneUptoCard : Claim7 := { stood := { row := goalNoneUptoRow, standIns := [], harness := (true, "0f6e76058aaa45f502e7fbe410eefa101c6f2598c83923ec10ed10ba4bfaca6e"), looks := false }, kinds := [], alts := [], laidByText := true, laidKinds := [.data, .data, .data], laidTests := true, laidLooks := .later }
def GoalNoneUptoCardSaid : Prop := Claim7.holds Tryz.pinned (.plain (OpenSpec.upto goalNoneSpec)) goalNoneUptoCard
end Rows
end Go.Proofs.YtlhfnodjomobiaaGreatDoor
