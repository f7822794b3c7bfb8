/-
  DERIVED. GIVEN WITH THE SEED: THE CARDS: each row of YtfhdcjfkngflbaaGreatDoorRows.lean that lists a variable, with what it lists TIED to the program's text (the seventh form; the later family's looks); each row that meets fmt, with fmt's text TOLD by the authors' own Lean function (tested against real Go, not proved from fmt's source: count such statements apart). THE CARD IS WHAT COUNTS. Prove the row's statement (the work); the ties are given (YtfhdcjfkngflbaaGreatDoorTie.lean); close each card by the builder's one call (the guide's Derived/Test/ToyasCard.lean, 'card_holds'). Laid BY PROGRAM, IN A SANDBOX (cutbox-door.mjs). By AI agents, Wed Nov 11 2026. No macro, syntax, notation, axiom, sorry.
-/
import Derived.Test.YtfhdcjfkngflbaaGreatDoorRows
import GoSem.ClaimSeven
namespace Go.Proofs.YtfhdcjfkngflbaaGreatDoor
namespace Rows

/-- THE TIED CARD OF 'aviarylaw10.DiskRuns'. -/
def diskRunsCard : Claim7 := { stood := { row := diskRunsRow, standIns := [], harness := (true, "3bf72eb61d6da5096fe9b52ddaa2bfbb477eb1b29495636389af1ab6a7da27bf"), looks := true }, kinds := [], alts := [], laidByText := true, laidKinds := [.handle], laidTests := true, laidLooks := .later }
def DiskRunsCardSaid : Prop := Claim7.holds Tryz.pinned (.plain (OpenSpec.ofChange diskRunsSpec)) diskRunsCard

/-- THE SECOND FORM's CARD OF 'aviarylaw10.DiskRuns'. -/
def diskRunsUptoCard : Claim7 := { stood := { row := diskRunsUptoRow, standIns := [], harness := (true, "3bf72eb61d6da5096fe9b52ddaa2bfbb477eb1b29495636389af1ab6a7da27bf"), looks := true }, kinds := [], alts := [], laidByText := true, laidKinds := [.handle], laidTests := true, laidLooks := .later }
def DiskRunsUptoCardSaid : Prop := Claim7.holds Tryz.pinned (.plain (OpenSpec.upto diskRunsSpec)) diskRunsUptoCard
end Rows
end Go.Proofs.YtfhdcjfkngflbaaGreatDoor
