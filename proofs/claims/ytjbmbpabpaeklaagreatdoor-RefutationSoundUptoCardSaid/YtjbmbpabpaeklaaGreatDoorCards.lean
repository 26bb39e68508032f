/-
  DERIVED. GIVEN WITH THE SEED: THE CARDS: each row of YtjbmbpabpaeklaaGreatDoorRows.lean that lists a variable, with what it lists TIED to the program's text (the seventh form; the later family's looks); each row that meets fmt, with fmt's text TOLD by the authors' own Lean function (tested against real Go, not proved from fmt's source: count such statements apart). THE CARD IS WHAT COUNTS. Prove the row's statement (the work); the ties are given (YtjbmbpabpaeklaaGreatDoorTie.lean); close each card by the builder's one call (the guide's Derived/Test/ToyasCard.lean, 'card_holds'). Laid BY PROGRAM, IN A SANDBOX (cutbox-door.mjs). By AI agents, Wed Nov 11 2026. No macro, syntax, notation, axiom, sorry.
-/
import Derived.Test.YtjbmbpabpaeklaaGreatDoorRows
import GoSem.ClaimSeven
namespace Go.Proofs.YtjbmbpabpaeklaaGreatDoor
namespace Rows

/-- THE TIED CARD OF 'semtypelaw16.RefutationCovers'. -/
def refutationCoversCard : Claim7 := { stood := { row := refutationCoversRow, standIns := [], harness := (true, "9bdb95761d0b7e9db2d203c1eac8658d91e6a0e68e1cf75e5adce7ec5f3c0e2a"), looks := false }, kinds := [], alts := [], laidByText := true, laidKinds := [.data, .data, .data], laidTests := true, laidLooks := .later }
def RefutationCoversCardSaid : Prop := Claim7.holds Tryz.pinned (.plain (OpenSpec.ofChange refutationCoversSpec)) refutationCoversCard

/-- THE TIED CARD OF 'semtypelaw16.RefutationJustifies'. -/
def refutationJustifiesCard : Claim7 := { stood := { row := refutationJustifiesRow, standIns := [], harness := (true, "9bdb95761d0b7e9db2d203c1eac8658d91e6a0e68e1cf75e5adce7ec5f3c0e2a"), looks := false }, kinds := [], alts := [], laidByText := true, laidKinds := [.data, .data, .data], laidTests := true, laidLooks := .later }
def RefutationJustifiesCardSaid : Prop := Claim7.holds Tryz.pinned (.plain (OpenSpec.ofChange refutationJustifiesSpec)) refutationJustifiesCard

/-- THE TIED CARD OF 'semtypelaw16.RefutationSound'. -/
def refutationSoundCard : Claim7 := { stood := { row := refutationSoundRow, standIns := [], harness := (true, "9bdb95761d0b7e9db2d203c1eac8658d91e6a0e68e1cf75e5adce7ec5f3c0e2a"), looks := false }, kinds := [], alts := [], laidByText := true, laidKinds := [.data, .data, .data], laidTests := true, laidLooks := .later }
def RefutationSoundCardSaid : Prop := Claim7.holds Tryz.pinned (.plain (OpenSpec.ofChange refutationSoundSpec)) refutationSoundCard

/-- THE SECOND FORM's CARD OF 'semtypelaw16.RefutationCovers'. -/
def refutationCoversUptoCard : Claim7 := { stood := { row := refutationCoversUptoRow, standIns := [], harness := (true, "9bdb95761d0b7e9db2d203c1eac8658d91e6a0e68e1cf75e5adce7ec5f3c0e2a"), looks := false }, kinds := [], alts := [], laidByText := true, laidKinds := [.data, .data, .data], laidTests := true, laidLooks := .later }
def RefutationCoversUptoCardSaid : Prop := Claim7.holds Tryz.pinned (.plain (OpenSpec.upto refutationCoversSpec)) refutationCoversUptoCard

/-- THE SECOND FORM's CARD OF 'semtypelaw16.RefutationJustifies'. -/
def refutationJustifiesUptoCard : Claim7 := { stood := { row := refutationJustifiesUptoRow, standIns := [], harness := (true, "9bdb95761d0b7e9db2d203c1eac8658d91e6a0e68e1cf75e5adce7ec5f3c0e2a"), looks := false }, kinds := [], alts := [], laidByText := true, laidKinds := [.data, .data, .data], laidTests := true, laidLooks := .later }
def RefutationJustifiesUptoCardSaid : Prop := Claim7.holds Tryz.pinned (.plain (OpenSpec.upto refutationJustifiesSpec)) refutationJustifiesUptoCard

/-- THE SECOND FORM's CARD OF 'semtypelaw16.RefutationSound'. -/
def refutationSoundUptoCard : Claim7 := { stood := { row := refutationSoundUptoRow, standIns := [], harness := (true, "9bdb95761d0b7e9db2d203c1eac8658d91e6a0e68e1cf75e5adce7ec5f3c0e2a"), looks := false }, kinds := [], alts := [], laidByText := true, laidKinds := [.data, .data, .data], laidTests := true, laidLooks := .later }
def RefutationSoundUptoCardSaid : Prop := Claim7.holds Tryz.pinned (.plain (OpenSpec.upto refutationSoundSpec)) refutationSoundUptoCard
end Rows
end Go.Proofs.YtjbmbpabpaeklaaGreatDoor
