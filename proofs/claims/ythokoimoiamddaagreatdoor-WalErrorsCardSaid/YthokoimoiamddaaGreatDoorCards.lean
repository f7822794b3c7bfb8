/-
  DERIVED. GIVEN WITH THE SEED: THE CARDS: each row of YthokoimoiamddaaGreatDoorRows.lean that lists a variable, with what it lists TIED to the program's text (the seventh form; the later family's looks); each row that meets fmt, with fmt's text TOLD by the authors' own Lean function (tested against real Go, not proved from fmt's source: count such statements apart). THE CARD IS WHAT COUNTS. Prove the row's statement (the work); the ties are given (YthokoimoiamddaaGreatDoorTie.lean); close each card by the builder's one call (the guide's Derived/Test/ToyasCard.lean, 'card_holds'). Laid BY PROGRAM, IN A SANDBOX (cutbox-door.mjs). By AI agents, Wed Nov 11 2026. No macro, syntax, notation, axiom, sorry.
-/
import Derived.Test.YthokoimoiamddaaGreatDoorRows
import GoSem.ClaimSeven
namespace Go.Proofs.YthokoimoiamddaaGreatDoor
namespace Rows

/-- THE TIED CARD OF 'aviarylaw11.WalKeeps'. -/
def walKeepsCard : Claim7 := { stood := { row := walKeepsRow, standIns := [], harness := (true, "7b12f48972422c6f1fea06ab8460cd23c49ad23e3cf4f9fab8244197d8ce3060"), looks := true }, kinds := [], alts := [], laidByText := true, laidKinds := [.data, .data, .data, .sentinel, .sentinel], laidTests := true, laidLooks := .later }
def WalKeepsCardSaid : Prop := Claim7.holds Tryz.pinned (.plain (OpenSpec.ofChange walKeepsSpec)) walKeepsCard

/-- THE TIED CARD OF 'aviarylaw11.WalErrors'. -/
def walErrorsCard : Claim7 := { stood := { row := walErrorsRow, standIns := [], harness := (true, "7b12f48972422c6f1fea06ab8460cd23c49ad23e3cf4f9fab8244197d8ce3060"), looks := true }, kinds := [], alts := [], laidByText := true, laidKinds := [.data, .data, .data, .handle, .sentinel, .sentinel], laidTests := true, laidLooks := .later }
def WalErrorsCardSaid : Prop := Claim7.holds Tryz.pinned (.plain (OpenSpec.ofChange walErrorsSpec)) walErrorsCard

/-- THE TIED CARD OF 'aviarylaw11.WalRuns'. -/
def walRunsCard : Claim7 := { stood := { row := walRunsRow, standIns := [], harness := (true, "7b12f48972422c6f1fea06ab8460cd23c49ad23e3cf4f9fab8244197d8ce3060"), looks := true }, kinds := [], alts := [], laidByText := true, laidKinds := [.data, .data, .data, .handle, .sentinel, .sentinel], laidTests := true, laidLooks := .later }
def WalRunsCardSaid : Prop := Claim7.holds Tryz.pinned (.plain (OpenSpec.ofChange walRunsSpec)) walRunsCard

/-- THE TIED CARD OF 'aviarylaw11.WalApart'. -/
def walApartCard : Claim7 := { stood := { row := walApartRow, standIns := [], harness := (true, "7b12f48972422c6f1fea06ab8460cd23c49ad23e3cf4f9fab8244197d8ce3060"), looks := true }, kinds := [], alts := [], laidByText := true, laidKinds := [.data, .data, .data, .handle, .sentinel, .sentinel], laidTests := true, laidLooks := .later }
def WalApartCardSaid : Prop := Claim7.holds Tryz.pinned (.plain (OpenSpec.ofChange walApartSpec)) walApartCard

/-- THE SECOND FORM's CARD OF 'aviarylaw11.WalKeeps'. -/
def walKeepsUptoCard : Claim7 := { stood := { row := walKeepsUptoRow, standIns := [], harness := (true, "7b12f48972422c6f1fea06ab8460cd23c49ad23e3cf4f9fab8244197d8ce3060"), looks := true }, kinds := [], alts := [], laidByText := true, laidKinds := [.data, .data, .data, .sentinel, .sentinel], laidTests := true, laidLooks := .later }
def WalKeepsUptoCardSaid : Prop := Claim7.holds Tryz.pinned (.plain (OpenSpec.upto walKeepsSpec)) walKeepsUptoCard

/-- THE SECOND FORM's CARD OF 'aviarylaw11.WalErrors'. -/
def walErrorsUptoCard : Claim7 := { stood := { row := walErrorsUptoRow, standIns := [], harness := (true, "7b12f48972422c6f1fea06ab8460cd23c49ad23e3cf4f9fab8244197d8ce3060"), looks := true }, kinds := [], alts := [], laidByText := true, laidKinds := [.data, .data, .data, .handle, .sentinel, .sentinel], laidTests := true, laidLooks := .later }
def WalErrorsUptoCardSaid : Prop := Claim7.holds Tryz.pinned (.plain (OpenSpec.upto walErrorsSpec)) walErrorsUptoCard

/-- THE SECOND FORM's CARD OF 'aviarylaw11.WalRuns'. -/
def walRunsUptoCard : Claim7 := { stood := { row := walRunsUptoRow, standIns := [], harness := (true, "7b12f48972422c6f1fea06ab8460cd23c49ad23e3cf4f9fab8244197d8ce3060"), looks := true }, kinds := [], alts := [], laidByText := true, laidKinds := [.data, .data, .data, .handle, .sentinel, .sentinel], laidTests := true, laidLooks := .later }
def WalRunsUptoCardSaid : Prop := Claim7.holds Tryz.pinned (.plain (OpenSpec.upto walRunsSpec)) walRunsUptoCard

/-- THE SECOND FORM's CARD OF 'aviarylaw11.WalApart'. -/
def walApartUptoCard : Claim7 := { stood := { row := walApartUptoRow, standIns := [], harness := (true, "7b12f48972422c6f1fea06ab8460cd23c49ad23e3cf4f9fab8244197d8ce3060"), looks := true }, kinds := [], alts := [], laidByText := true, laidKinds := [.data, .data, .data, .handle, .sentinel, .sentinel], laidTests := true, laidLooks := .later }
def WalApartUptoCardSaid : Prop := Claim7.holds Tryz.pinned (.plain (OpenSpec.upto walApartSpec)) walApartUptoCard
end Rows
end Go.Proofs.YthokoimoiamddaaGreatDoor
