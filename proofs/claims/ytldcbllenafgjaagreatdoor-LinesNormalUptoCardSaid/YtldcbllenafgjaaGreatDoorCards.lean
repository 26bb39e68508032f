/-
  DERIVED. GIVEN WITH THE SEED: THE CARDS: each row of YtldcbllenafgjaaGreatDoorRows.lean that lists a variable, with what it lists TIED to the program's text (the seventh form; the later family's looks); each row that meets fmt, with fmt's text TOLD by the authors' own Lean function (tested against real Go, not proved from fmt's source: count such statements apart). THE CARD IS WHAT COUNTS. Prove the row's statement (the work); the ties are given (YtldcbllenafgjaaGreatDoorTie.lean); close each card by the builder's one call (the guide's Derived/Test/ToyasCard.lean, 'card_holds'). Laid BY PROGRAM, IN A SANDBOX (cutbox-door.mjs). By AI agents, Wed Nov 11 2026. No macro, syntax, notation, axiom, sorry.
-/
import Derived.Test.YtldcbllenafgjaaGreatDoorRows
import GoSem.ClaimSeven
namespace Go.Proofs.YtldcbllenafgjaaGreatDoor
namespace Rows

/-- THE TIED CARD OF 'semtypelaw9.LinesGoals'. -/
def linesGoalsCard : Claim7 := { stood := { row := linesGoalsRow, standIns := [], harness := (true, "d703f1c1b1e9c143b5f96a324c5aa8b21414beda7b1e9173b737eaf2cd3f3d6f"), looks := false }, kinds := [], alts := [], laidByText := true, laidKinds := [.data, .data, .data], laidTests := true, laidLooks := .later }
def LinesGoalsCardSaid : Prop := Claim7.holds Tryz.pinned (.plain (OpenSpec.ofChange linesGoalsSpec)) linesGoalsCard

/-- THE TIED CARD OF 'semtypelaw9.LinesNormal'. -/
def linesNormalCard : Claim7 := { stood := { row := linesNormalRow, standIns := [], harness := (true, "d703f1c1b1e9c143b5f96a324c5aa8b21414beda7b1e9173b737eaf2cd3f3d6f"), looks := false }, kinds := [], alts := [], laidByText := true, laidKinds := [.data, .data, .data], laidTests := true, laidLooks := .later }
def LinesNormalCardSaid : Prop := Claim7.holds Tryz.pinned (.plain (OpenSpec.ofChange linesNormalSpec)) linesNormalCard

/-- THE TIED CARD OF 'semtypelaw9.LinesCover'. -/
def linesCoverCard : Claim7 := { stood := { row := linesCoverRow, standIns := [], harness := (true, "d703f1c1b1e9c143b5f96a324c5aa8b21414beda7b1e9173b737eaf2cd3f3d6f"), looks := false }, kinds := [], alts := [], laidByText := true, laidKinds := [.data, .data, .data], laidTests := true, laidLooks := .later }
def LinesCoverCardSaid : Prop := Claim7.holds Tryz.pinned (.plain (OpenSpec.ofChange linesCoverSpec)) linesCoverCard

/-- THE TIED CARD OF 'semtypelaw9.LinesMembers'. -/
def linesMembersCard : Claim7 := { stood := { row := linesMembersRow, standIns := [], harness := (true, "d703f1c1b1e9c143b5f96a324c5aa8b21414beda7b1e9173b737eaf2cd3f3d6f"), looks := false }, kinds := [], alts := [], laidByText := true, laidKinds := [.data, .data, .data], laidTests := true, laidLooks := .later }
def LinesMembersCardSaid : Prop := Claim7.holds Tryz.pinned (.plain (OpenSpec.ofChange linesMembersSpec)) linesMembersCard

/-- THE SECOND FORM's CARD OF 'semtypelaw9.LinesGoals'. -/
def linesGoalsUptoCard : Claim7 := { stood := { row := linesGoalsUptoRow, standIns := [], harness := (true, "d703f1c1b1e9c143b5f96a324c5aa8b21414beda7b1e9173b737eaf2cd3f3d6f"), looks := false }, kinds := [], alts := [], laidByText := true, laidKinds := [.data, .data, .data], laidTests := true, laidLooks := .later }
def LinesGoalsUptoCardSaid : Prop := Claim7.holds Tryz.pinned (.plain (OpenSpec.upto linesGoalsSpec)) linesGoalsUptoCard

/-- THE SECOND FORM's CARD OF 'semtypelaw9.LinesNormal'. -/
def linesNormalUptoCard : Claim7 := { stood := { row := linesNormalUptoRow, standIns := [], harness := (true, "d703f1c1b1e9c143b5f96a324c5aa8b21414beda7b1e9173b737eaf2cd3f3d6f"), looks := false }, kinds := [], alts := [], laidByText := true, laidKinds := [.data, .data, .data], laidTests := true, laidLooks := .later }
def LinesNormalUptoCardSaid : Prop := Claim7.holds Tryz.pinned (.plain (OpenSpec.upto linesNormalSpec)) linesNormalUptoCard

/-- THE SECOND FORM's CARD OF 'semtypelaw9.LinesCover'. -/
def linesCoverUptoCard : Claim7 := { stood := { row := linesCoverUptoRow, standIns := [], harness := (true, "d703f1c1b1e9c143b5f96a324c5aa8b21414beda7b1e9173b737eaf2cd3f3d6f"), looks := false }, kinds := [], alts := [], laidByText := true, laidKinds := [.data, .data, .data], laidTests := true, laidLooks := .later }
def LinesCoverUptoCardSaid : Prop := Claim7.holds Tryz.pinned (.plain (OpenSpec.upto linesCoverSpec)) linesCoverUptoCard

/-- THE SECOND FORM's CARD OF 'semtypelaw9.LinesMembers'. -/
def linesMembersUptoCard : Claim7 := { stood := { row := linesMembersUptoRow, standIns := [], harness := (true, "d703f1c1b1e9c143b5f96a324c5aa8b21414beda7b1e9173b737eaf2cd3f3d6f"), looks := false }, kinds := [], alts := [], laidByText := true, laidKinds := [.data, .data, .data], laidTests := true, laidLooks := .later }
def LinesMembersUptoCardSaid : Prop := Claim7.holds Tryz.pinned (.plain (OpenSpec.upto linesMembersSpec)) linesMembersUptoCard
end Rows
end Go.Proofs.YtldcbllenafgjaaGreatDoor
