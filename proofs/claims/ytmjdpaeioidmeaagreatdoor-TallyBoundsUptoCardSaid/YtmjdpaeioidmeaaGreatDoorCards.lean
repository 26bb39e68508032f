/-
  DERIVED. GIVEN WITH THE SEED: THE CARDS: each row of YtmjdpaeioidmeaaGreatDoorRows.lean that lists a variable, with what it lists TIED to the program's text (the seventh form; the later family's looks); each row that meets fmt, with fmt's text TOLD by the authors' own Lean function (tested against real Go, not proved from fmt's source: count such statements apart). THE CARD IS WHAT COUNTS. Prove the row's statement (the work); the ties are given (YtmjdpaeioidmeaaGreatDoorTie.lean); close each card by the builder's one call (the guide's Derived/Test/ToyasCard.lean, 'card_holds'). Laid BY PROGRAM, IN A SANDBOX (cutbox-door.mjs). By AI agents, Wed Nov 11 2026. No macro, syntax, notation, axiom, sorry.
-/
import Derived.Test.YtmjdpaeioidmeaaGreatDoorRows
import GoSem.ClaimSeven
namespace Go.Proofs.YtmjdpaeioidmeaaGreatDoor
namespace Rows

/-- THE TIED CARD OF 'semtypelaw23.TallyErrors'. -/
def tallyErrorsCard : Claim7 := { stood := { row := tallyErrorsRow, standIns := [], harness := (true, "075c3a297a450acdedce3dd1e9832e087b81bda0393b832caf328878c2fa37d2"), looks := false }, kinds := [], alts := [], laidByText := true, laidKinds := [.data, .data, .data], laidTests := true, laidLooks := .later }
def TallyErrorsCardSaid : Prop := Claim7.holds Tryz.pinned (.plain (OpenSpec.ofChange tallyErrorsSpec)) tallyErrorsCard

/-- THE TIED CARD OF 'semtypelaw23.TallyBounds'. -/
def tallyBoundsCard : Claim7 := { stood := { row := tallyBoundsRow, standIns := [], harness := (true, "075c3a297a450acdedce3dd1e9832e087b81bda0393b832caf328878c2fa37d2"), looks := false }, kinds := [], alts := [], laidByText := true, laidKinds := [.data, .data, .data], laidTests := true, laidLooks := .later }
def TallyBoundsCardSaid : Prop := Claim7.holds Tryz.pinned (.plain (OpenSpec.ofChange tallyBoundsSpec)) tallyBoundsCard

/-- THE SECOND FORM's CARD OF 'semtypelaw23.TallyErrors'. -/
def tallyErrorsUptoCard : Claim7 := { stood := { row := tallyErrorsUptoRow, standIns := [], harness := (true, "075c3a297a450acdedce3dd1e9832e087b81bda0393b832caf328878c2fa37d2"), looks := false }, kinds := [], alts := [], laidByText := true, laidKinds := [.data, .data, .data], laidTests := true, laidLooks := .later }
def TallyErrorsUptoCardSaid : Prop := Claim7.holds Tryz.pinned (.plain (OpenSpec.upto tallyErrorsSpec)) tallyErrorsUptoCard

/-- THE SECOND FORM's CARD OF 'semtypelaw23.TallyBounds'. -/
def tallyBoundsUptoCard : Claim7 := { stood := { row := tallyBoundsUptoRow, standIns := [], harness := (true, "075c3a297a450acdedce3dd1e9832e087b81bda0393b832caf328878c2fa37d2"), looks := false }, kinds := [], alts := [], laidByText := true, laidKinds := [.data, .data, .data], laidTests := true, laidLooks := .later }
def TallyBoundsUptoCardSaid : Prop := Claim7.holds Tryz.pinned (.plain (OpenSpec.upto tallyBoundsSpec)) tallyBoundsUptoCard
end Rows
end Go.Proofs.YtmjdpaeioidmeaaGreatDoor
