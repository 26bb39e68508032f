/-
  DERIVED. GIVEN WITH THE SEED: THE CARDS: each row of YthpckkffhbifnaaGreatDoorRows.lean that lists a variable, with what it lists TIED to the program's text (the seventh form; the later family's looks); each row that meets fmt, with fmt's text TOLD by the authors' own Lean function (tested against real Go, not proved from fmt's source: count such statements apart). THE CARD IS WHAT COUNTS. Prove the row's statement (the work); the ties are given (YthpckkffhbifnaaGreatDoorTie.lean); close each card by the builder's one call (the guide's Derived/Test/ToyasCard.lean, 'card_holds'). Laid BY PROGRAM, IN A SANDBOX (cutbox-door.mjs). By AI agents, Wed Nov 11 2026. No macro, syntax, notation, axiom, sorry.
-/
import Derived.Test.YthpckkffhbifnaaGreatDoorRows
import GoSem.ClaimSeven
namespace Go.Proofs.YthpckkffhbifnaaGreatDoor
namespace Rows

/-- THE TIED CARD OF 'semtypelaw36.SummaryBack'. -/
def summaryBackCard : Claim7 := { stood := { row := summaryBackRow, standIns := [], harness := (true, "279b4b7857d430272876305f7df683aaa6ad4e49b2a2a5a0bb38941146cf508b"), looks := false }, kinds := [], alts := [], laidByText := true, laidKinds := [.data, .data, .data], laidTests := true, laidLooks := .later }
def SummaryBackCardSaid : Prop := Claim7.holds Tryz.pinned (.plain (OpenSpec.ofChange summaryBackSpec)) summaryBackCard

/-- THE TIED CARD OF 'semtypelaw36.SummaryDetects'. -/
def summaryDetectsCard : Claim7 := { stood := { row := summaryDetectsRow, standIns := [], harness := (true, "279b4b7857d430272876305f7df683aaa6ad4e49b2a2a5a0bb38941146cf508b"), looks := false }, kinds := [], alts := [], laidByText := true, laidKinds := [.data, .data, .data], laidTests := true, laidLooks := .later }
def SummaryDetectsCardSaid : Prop := Claim7.holds Tryz.pinned (.plain (OpenSpec.ofChange summaryDetectsSpec)) summaryDetectsCard

/-- THE SECOND FORM's CARD OF 'semtypelaw36.SummaryBack'. -/
def summaryBackUptoCard : Claim7 := { stood := { row := summaryBackUptoRow, standIns := [], harness := (true, "279b4b7857d430272876305f7df683aaa6ad4e49b2a2a5a0bb38941146cf508b"), looks := false }, kinds := [], alts := [], laidByText := true, laidKinds := [.data, .data, .data], laidTests := true, laidLooks := .later }
def SummaryBackUptoCardSaid : Prop := Claim7.holds Tryz.pinned (.plain (OpenSpec.upto summaryBackSpec)) summaryBackUptoCard

/-- THE SECOND FORM's CARD OF 'semtypelaw36.SummaryDetects'. -/
def summaryDetectsUptoCard : Claim7 := { stood := { row := summaryDetectsUptoRow, standIns := [], harness := (true, "279b4b7857d430272876305f7df683aaa6ad4e49b2a2a5a0bb38941146cf508b"), looks := false }, kinds := [], alts := [], laidByText := true, laidKinds := [.data, .data, .data], laidTests := true, laidLooks := .later }
def SummaryDetectsUptoCardSaid : Prop := Claim7.holds Tryz.pinned (.plain (OpenSpec.upto summaryDetectsSpec)) summaryDetectsUptoCard
end Rows
end Go.Proofs.YthpckkffhbifnaaGreatDoor
