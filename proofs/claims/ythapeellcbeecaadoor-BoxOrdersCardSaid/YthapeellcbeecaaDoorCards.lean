/-
  DERIVED. GIVEN WITH THE SEED: THE CARDS: each row of YthapeellcbeecaaDoorRows.lean that lists a variable, with what it lists TIED to the program's text (the seventh form; the later family's looks); each row that meets fmt, with fmt's text TOLD by the authors' own Lean function (tested against real Go, not proved from fmt's source: count such statements apart). THE CARD IS WHAT COUNTS. Prove the row's statement (the work); the ties are given (YthapeellcbeecaaDoorTie.lean); close each card by the builder's one call (the guide's Derived/Test/ToyasCard.lean, 'card_holds'). Laid BY PROGRAM, IN A SANDBOX (cutbox-door.mjs). By AI agents, Wed Nov 11 2026. No macro, syntax, notation, axiom, sorry.
-/
import Derived.Test.YthapeellcbeecaaDoorRows
import GoSem.ClaimSeven
namespace Go.Proofs.YthapeellcbeecaaDoor
namespace Rows

/-- THE TIED CARD OF 'aviarylaw17.BoxOrders'. -/
def boxOrdersCard : Claim7 := { stood := { row := boxOrdersRow, standIns := [], harness := (true, "7997e046fbe28c4b50e3546829aef9691dfd8086d0d5c30e5caabc7e5eeb70f7"), looks := true }, kinds := [], alts := [], laidByText := true, laidKinds := [.handle], laidTests := true, laidLooks := .later }
def BoxOrdersCardSaid : Prop := Claim7.holds Tryd.pinned (.plain (OpenSpec.ofChange boxOrdersSpec)) boxOrdersCard

/-- THE SECOND FORM's CARD OF 'aviarylaw17.BoxOrders'. -/
def boxOrdersUptoCard : Claim7 := { stood := { row := boxOrdersUptoRow, standIns := [], harness := (true, "7997e046fbe28c4b50e3546829aef9691dfd8086d0d5c30e5caabc7e5eeb70f7"), looks := true }, kinds := [], alts := [], laidByText := true, laidKinds := [.handle], laidTests := true, laidLooks := .later }
def BoxOrdersUptoCardSaid : Prop := Claim7.holds Tryd.pinned (.plain (OpenSpec.upto boxOrdersSpec)) boxOrdersUptoCard
end Rows
end Go.Proofs.YthapeellcbeecaaDoor
