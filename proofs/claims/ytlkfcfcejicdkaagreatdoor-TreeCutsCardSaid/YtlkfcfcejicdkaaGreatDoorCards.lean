/-
  DERIVED. GIVEN WITH THE SEED: THE CARDS: each row of YtlkfcfcejicdkaaGreatDoorRows.lean that lists a variable, with what it lists TIED to the program's text (the seventh form; the later family's looks); each row that meets fmt, with fmt's text TOLD by the authors' own Lean function (tested against real Go, not proved from fmt's source: count such statements apart). THE CARD IS WHAT COUNTS. Prove the row's statement (the work); the ties are given (YtlkfcfcejicdkaaGreatDoorTie.lean); close each card by the builder's one call (the guide's Derived/Test/ToyasCard.lean, 'card_holds'). Laid BY PROGRAM, IN A SANDBOX (cutbox-door.mjs). By AI agents, Wed Nov 11 2026. No macro, syntax, notation, axiom, sorry.
-/
import Derived.Test.YtlkfcfcejicdkaaGreatDoorRows
import GoSem.ClaimSeven
namespace Go.Proofs.YtlkfcfcejicdkaaGreatDoor
namespace Rows

/-- THE TIED CARD OF 'aviarylaw15.TreeCuts'. -/
def treeCutsCard : Claim7 := { stood := { row := treeCutsRow, standIns := [], harness := (true, "f9bfbfab2678698532eca9eecbd72ffd81b1b5a873a49f319eaac374418818f7"), looks := true }, kinds := [], alts := [], laidByText := true, laidKinds := [.handle], laidTests := true, laidLooks := .later }
def TreeCutsCardSaid : Prop := Claim7.holds Tryz.pinned (.plain (OpenSpec.ofChange treeCutsSpec)) treeCutsCard

/-- THE TIED CARD OF 'aviarylaw15.TreeWays'. -/
def treeWaysCard : Claim7 := { stood := { row := treeWaysRow, standIns := [], harness := (true, "f9bfbfab2678698532eca9eecbd72ffd81b1b5a873a49f319eaac374418818f7"), looks := true }, kinds := [], alts := [], laidByText := true, laidKinds := [.handle], laidTests := true, laidLooks := .later }
def TreeWaysCardSaid : Prop := Claim7.holds Tryz.pinned (.plain (OpenSpec.ofChange treeWaysSpec)) treeWaysCard

/-- THE TIED CARD OF 'aviarylaw15.TreeChanges'. -/
def treeChangesCard : Claim7 := { stood := { row := treeChangesRow, standIns := [], harness := (true, "f9bfbfab2678698532eca9eecbd72ffd81b1b5a873a49f319eaac374418818f7"), looks := true }, kinds := [], alts := [], laidByText := true, laidKinds := [.handle], laidTests := true, laidLooks := .later }
def TreeChangesCardSaid : Prop := Claim7.holds Tryz.pinned (.plain (OpenSpec.ofChange treeChangesSpec)) treeChangesCard

/-- THE TIED CARD OF 'aviarylaw15.TreeBack'. -/
def treeBackCard : Claim7 := { stood := { row := treeBackRow, standIns := [], harness := (true, "f9bfbfab2678698532eca9eecbd72ffd81b1b5a873a49f319eaac374418818f7"), looks := true }, kinds := [], alts := [], laidByText := true, laidKinds := [.handle], laidTests := true, laidLooks := .later }
def TreeBackCardSaid : Prop := Claim7.holds Tryz.pinned (.plain (OpenSpec.ofChange treeBackSpec)) treeBackCard

/-- THE TIED CARD OF 'aviarylaw15.TreeKeeps'. -/
def treeKeepsCard : Claim7 := { stood := { row := treeKeepsRow, standIns := [], harness := (true, "f9bfbfab2678698532eca9eecbd72ffd81b1b5a873a49f319eaac374418818f7"), looks := true }, kinds := [], alts := [], laidByText := true, laidKinds := [.handle], laidTests := true, laidLooks := .later }
def TreeKeepsCardSaid : Prop := Claim7.holds Tryz.pinned (.plain (OpenSpec.ofChange treeKeepsSpec)) treeKeepsCard

/-- THE TIED CARD OF 'aviarylaw15.TreeWalks'. -/
def treeWalksCard : Claim7 := { stood := { row := treeWalksRow, standIns := [], harness := (true, "f9bfbfab2678698532eca9eecbd72ffd81b1b5a873a49f319eaac374418818f7"), looks := true }, kinds := [], alts := [], laidByText := true, laidKinds := [.handle], laidTests := true, laidLooks := .later }
def TreeWalksCardSaid : Prop := Claim7.holds Tryz.pinned (.plain (OpenSpec.ofChange treeWalksSpec)) treeWalksCard

/-- THE SECOND FORM's CARD OF 'aviarylaw15.TreeCuts'. -/
def treeCutsUptoCard : Claim7 := { stood := { row := treeCutsUptoRow, standIns := [], harness := (true, "f9bfbfab2678698532eca9eecbd72ffd81b1b5a873a49f319eaac374418818f7"), looks := true }, kinds := [], alts := [], laidByText := true, laidKinds := [.handle], laidTests := true, laidLooks := .later }
def TreeCutsUptoCardSaid : Prop := Claim7.holds Tryz.pinned (.plain (OpenSpec.upto treeCutsSpec)) treeCutsUptoCard

/-- THE SECOND FORM's CARD OF 'aviarylaw15.TreeWays'. -/
def treeWaysUptoCard : Claim7 := { stood := { row := treeWaysUptoRow, standIns := [], harness := (true, "f9bfbfab2678698532eca9eecbd72ffd81b1b5a873a49f319eaac374418818f7"), looks := true }, kinds := [], alts := [], laidByText := true, laidKinds := [.handle], laidTests := true, laidLooks := .later }
def TreeWaysUptoCardSaid : Prop := Claim7.holds Tryz.pinned (.plain (OpenSpec.upto treeWaysSpec)) treeWaysUptoCard

/-- THE SECOND FORM's CARD OF 'aviarylaw15.TreeChanges'. -/
def treeChangesUptoCard : Claim7 := { stood := { row := treeChangesUptoRow, standIns := [], harness := (true, "f9bfbfab2678698532eca9eecbd72ffd81b1b5a873a49f319eaac374418818f7"), looks := true }, kinds := [], alts := [], laidByText := true, laidKinds := [.handle], laidTests := true, laidLooks := .later }
def TreeChangesUptoCardSaid : Prop := Claim7.holds Tryz.pinned (.plain (OpenSpec.upto treeChangesSpec)) treeChangesUptoCard

/-- THE SECOND FORM's CARD OF 'aviarylaw15.TreeBack'. -/
def treeBackUptoCard : Claim7 := { stood := { row := treeBackUptoRow, standIns := [], harness := (true, "f9bfbfab2678698532eca9eecbd72ffd81b1b5a873a49f319eaac374418818f7"), looks := true }, kinds := [], alts := [], laidByText := true, laidKinds := [.handle], laidTests := true, laidLooks := .later }
def TreeBackUptoCardSaid : Prop := Claim7.holds Tryz.pinned (.plain (OpenSpec.upto treeBackSpec)) treeBackUptoCard

/-- THE SECOND FORM's CARD OF 'aviarylaw15.TreeKeeps'. -/
def treeKeepsUptoCard : Claim7 := { stood := { row := treeKeepsUptoRow, standIns := [], harness := (true, "f9bfbfab2678698532eca9eecbd72ffd81b1b5a873a49f319eaac374418818f7"), looks := true }, kinds := [], alts := [], laidByText := true, laidKinds := [.handle], laidTests := true, laidLooks := .later }
def TreeKeepsUptoCardSaid : Prop := Claim7.holds Tryz.pinned (.plain (OpenSpec.upto treeKeepsSpec)) treeKeepsUptoCard

/-- THE SECOND FORM's CARD OF 'aviarylaw15.TreeWalks'. -/
def treeWalksUptoCard : Claim7 := { stood := { row := treeWalksUptoRow, standIns := [], harness := (true, "f9bfbfab2678698532eca9eecbd72ffd81b1b5a873a49f319eaac374418818f7"), looks := true }, kinds := [], alts := [], laidByText := true, laidKinds := [.handle], laidTests := true, laidLooks := .later }
def TreeWalksUptoCardSaid : Prop := Claim7.holds Tryz.pinned (.plain (OpenSpec.upto treeWalksSpec)) treeWalksUptoCard
end Rows
end Go.Proofs.YtlkfcfcejicdkaaGreatDoor
