/-
  DERIVED. GIVEN WITH THE SEED: THE CARDS: each row of YtgibpiakeaplbaaDoorRows.lean that lists a variable, with what it lists TIED to the program's text (the seventh form; the later family's looks); each row that meets fmt, with fmt's text TOLD by the authors' own Lean function (tested against real Go, not proved from fmt's source: count such statements apart). THE CARD IS WHAT COUNTS. Prove the row's statement (the work); the ties are given (YtgibpiakeaplbaaDoorTie.lean); close each card by the builder's one call (the guide's Derived/Test/ToyasCard.lean, 'card_holds'). Laid BY PROGRAM, IN A SANDBOX (cutbox-door.mjs). By AI agents, Wed Nov 11 2026. No macro, syntax, notation, axiom, sorry.
-/
import Derived.Test.YtgibpiakeaplbaaDoorRows
import GoSem.ClaimSeven
namespace Go.Proofs.YtgibpiakeaplbaaDoor
namespace Rows

/-- THE TIED CARD OF 'aviarylaw13.NetRuns'. -/
def netRunsCard : Claim7 := { stood := { row := netRunsRow, standIns := [], harness := (true, "ae339b9f1538c8b8122e3feb0279634299efe14060e85c9b2e85fe23196e1695"), looks := true }, kinds := [], alts := [], laidByText := true, laidKinds := [.handle], laidTests := true, laidLooks := .later }
def NetRunsCardSaid : Prop := Claim7.holds Tryd.pinned (.plain (OpenSpec.ofChange netRunsSpec)) netRunsCard

/-- THE TIED CARD OF 'aviarylaw13.NetFull'. -/
def netFullCard : Claim7 := { stood := { row := netFullRow, standIns := [], harness := (true, "ae339b9f1538c8b8122e3feb0279634299efe14060e85c9b2e85fe23196e1695"), looks := true }, kinds := [], alts := [], laidByText := true, laidKinds := [.handle], laidTests := true, laidLooks := .later }
def NetFullCardSaid : Prop := Claim7.holds Tryd.pinned (.plain (OpenSpec.ofChange netFullSpec)) netFullCard

/-- THE TIED CARD OF 'aviarylaw13.NetKeeps'. -/
def netKeepsCard : Claim7 := { stood := { row := netKeepsRow, standIns := [], harness := (true, "ae339b9f1538c8b8122e3feb0279634299efe14060e85c9b2e85fe23196e1695"), looks := true }, kinds := [], alts := [], laidByText := true, laidKinds := [.handle], laidTests := true, laidLooks := .later }
def NetKeepsCardSaid : Prop := Claim7.holds Tryd.pinned (.plain (OpenSpec.ofChange netKeepsSpec)) netKeepsCard

/-- THE TIED CARD OF 'aviarylaw13.NetCounts'. -/
def netCountsCard : Claim7 := { stood := { row := netCountsRow, standIns := [], harness := (true, "ae339b9f1538c8b8122e3feb0279634299efe14060e85c9b2e85fe23196e1695"), looks := true }, kinds := [], alts := [], laidByText := true, laidKinds := [.handle], laidTests := true, laidLooks := .later }
def NetCountsCardSaid : Prop := Claim7.holds Tryd.pinned (.plain (OpenSpec.ofChange netCountsSpec)) netCountsCard

/-- THE SECOND FORM's CARD OF 'aviarylaw13.NetRuns'. -/
def netRunsUptoCard : Claim7 := { stood := { row := netRunsUptoRow, standIns := [], harness := (true, "ae339b9f1538c8b8122e3feb0279634299efe14060e85c9b2e85fe23196e1695"), looks := true }, kinds := [], alts := [], laidByText := true, laidKinds := [.handle], laidTests := true, laidLooks := .later }
def NetRunsUptoCardSaid : Prop := Claim7.holds Tryd.pinned (.plain (OpenSpec.upto netRunsSpec)) netRunsUptoCard

/-- THE SECOND FORM's CARD OF 'aviarylaw13.NetFull'. -/
def netFullUptoCard : Claim7 := { stood := { row := netFullUptoRow, standIns := [], harness := (true, "ae339b9f1538c8b8122e3feb0279634299efe14060e85c9b2e85fe23196e1695"), looks := true }, kinds := [], alts := [], laidByText := true, laidKinds := [.handle], laidTests := true, laidLooks := .later }
def NetFullUptoCardSaid : Prop := Claim7.holds Tryd.pinned (.plain (OpenSpec.upto netFullSpec)) netFullUptoCard

/-- THE SECOND FORM's CARD OF 'aviarylaw13.NetKeeps'. -/
def netKeepsUptoCard : Claim7 := { stood := { row := netKeepsUptoRow, standIns := [], harness := (true, "ae339b9f1538c8b8122e3feb0279634299efe14060e85c9b2e85fe23196e1695"), looks := true }, kinds := [], alts := [], laidByText := true, laidKinds := [.handle], laidTests := true, laidLooks := .later }
def NetKeepsUptoCardSaid : Prop := Claim7.holds Tryd.pinned (.plain (OpenSpec.upto netKeepsSpec)) netKeepsUptoCard

/-- THE SECOND FORM's CARD OF 'aviarylaw13.NetCounts'. -/
def netCountsUptoCard : Claim7 := { stood := { row := netCountsUptoRow, standIns := [], harness := (true, "ae339b9f1538c8b8122e3feb0279634299efe14060e85c9b2e85fe23196e1695"), looks := true }, kinds := [], alts := [], laidByText := true, laidKinds := [.handle], laidTests := true, laidLooks := .later }
def NetCountsUptoCardSaid : Prop := Claim7.holds Tryd.pinned (.plain (OpenSpec.upto netCountsSpec)) netCountsUptoCard
end Rows
end Go.Proofs.YtgibpiakeaplbaaDoor
