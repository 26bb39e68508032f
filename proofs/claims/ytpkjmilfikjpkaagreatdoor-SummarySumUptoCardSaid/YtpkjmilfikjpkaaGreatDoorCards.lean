/-
  DERIVED. GIVEN WITH THE SEED: THE CARDS: each row of YtpkjmilfikjpkaaGreatDoorRows.lean that lists a variable, with what it lists TIED to the program's text (the seventh form; the later family's looks); each row that meets fmt, with fmt's text TOLD by the authors' own Lean function (tested against real Go, not proved from fmt's source: count such statements apart). THE CARD IS WHAT COUNTS. Prove the row's statement (the work); the ties are given (YtpkjmilfikjpkaaGreatDoorTie.lean); close each card by the builder's one call (the guide's Derived/Test/ToyasCard.lean, 'card_holds'). Laid BY PROGRAM, IN A SANDBOX (cutbox-door.mjs). By AI agents, Wed Nov 11 2026. No macro, syntax, notation, axiom, sorry.
-/
import Derived.Test.YtpkjmilfikjpkaaGreatDoorRows
import GoSem.ClaimSeven
namespace Go.Proofs.YtpkjmilfikjpkaaGreatDoor
namespace Rows

/-- THE TIED CARD OF 'semtypelaw36.SummarySum'. -/
def summarySumCard : Claim7 := { stood := { row := summarySumRow, standIns := [], harness := (true, "42b295549438c82935daa50addf13b0b34b6c2dbcdc8f2403d7caa65888fd738"), looks := false }, kinds := [], alts := [], laidByText := true, laidKinds := [.data, .data, .data], laidTests := true, laidLooks := .later }
def SummarySumCardSaid : Prop := Claim7.holds Tryz.pinned (.plain (OpenSpec.ofChange summarySumSpec)) summarySumCard

/-- THE SECOND FORM's CARD OF 'semtypelaw36.SummarySum'. -/
def summarySumUptoCard : Claim7 := { stood := { row := summarySumUptoRow, standIns := [], harness := (true, "42b295549438c82935daa50addf13b0b34b6c2dbcdc8f2403d7caa65888fd738"), looks := false }, kinds := [], alts := [], laidByText := true, laidKinds := [.data, .data, .data], laidTests := true, laidLooks := .later }
def SummarySumUptoCardSaid : Prop := Claim7.holds Tryz.pinned (.plain (OpenSpec.upto summarySumSpec)) summarySumUptoCard
end Rows
end Go.Proofs.YtpkjmilfikjpkaaGreatDoor
