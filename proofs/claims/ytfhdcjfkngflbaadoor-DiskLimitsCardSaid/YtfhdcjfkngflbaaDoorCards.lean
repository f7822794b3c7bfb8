/-
  DERIVED. GIVEN WITH THE SEED: THE CARDS: each row of YtfhdcjfkngflbaaDoorRows.lean that lists a variable, with what it lists TIED to the program's text (the seventh form; the later family's looks); each row that meets fmt, with fmt's text TOLD by the authors' own Lean function (tested against real Go, not proved from fmt's source: count such statements apart). THE CARD IS WHAT COUNTS. Prove the row's statement (the work); the ties are given (YtfhdcjfkngflbaaDoorTie.lean); close each card by the builder's one call (the guide's Derived/Test/ToyasCard.lean, 'card_holds'). Laid BY PROGRAM, IN A SANDBOX (cutbox-door.mjs). By AI agents, Wed Nov 11 2026. No macro, syntax, notation, axiom, sorry.
-/
import Derived.Test.YtfhdcjfkngflbaaDoorRows
import GoSem.ClaimSeven
namespace Go.Proofs.YtfhdcjfkngflbaaDoor
namespace Rows

/-- THE TIED CARD OF 'aviarylaw10.DiskLimits'. -/
def diskLimitsCard : Claim7 := { stood := { row := diskLimitsRow, standIns := [], harness := (true, "fee4e763e107d60d195c2a50b1ed6831120add97974a6fb3ed6a114d50518ecc"), looks := true }, kinds := [], alts := [], laidByText := true, laidKinds := [.handle], laidTests := true, laidLooks := .later }
def DiskLimitsCardSaid : Prop := Claim7.holds Tryd.pinned (.plain (OpenSpec.ofChange diskLimitsSpec)) diskLimitsCard

/-- THE TIED CARD OF 'aviarylaw10.DiskKeeps'. -/
def diskKeepsCard : Claim7 := { stood := { row := diskKeepsRow, standIns := [], harness := (true, "fee4e763e107d60d195c2a50b1ed6831120add97974a6fb3ed6a114d50518ecc"), looks := true }, kinds := [], alts := [], laidByText := true, laidKinds := [.handle], laidTests := true, laidLooks := .later }
def DiskKeepsCardSaid : Prop := Claim7.holds Tryd.pinned (.plain (OpenSpec.ofChange diskKeepsSpec)) diskKeepsCard

/-- THE SECOND FORM's CARD OF 'aviarylaw10.DiskLimits'. -/
def diskLimitsUptoCard : Claim7 := { stood := { row := diskLimitsUptoRow, standIns := [], harness := (true, "fee4e763e107d60d195c2a50b1ed6831120add97974a6fb3ed6a114d50518ecc"), looks := true }, kinds := [], alts := [], laidByText := true, laidKinds := [.handle], laidTests := true, laidLooks := .later }
def DiskLimitsUptoCardSaid : Prop := Claim7.holds Tryd.pinned (.plain (OpenSpec.upto diskLimitsSpec)) diskLimitsUptoCard

/-- THE SECOND FORM's CARD OF 'aviarylaw10.DiskKeeps'. -/
def diskKeepsUptoCard : Claim7 := { stood := { row := diskKeepsUptoRow, standIns := [], harness := (true, "fee4e763e107d60d195c2a50b1ed6831120add97974a6fb3ed6a114d50518ecc"), looks := true }, kinds := [], alts := [], laidByText := true, laidKinds := [.handle], laidTests := true, laidLooks := .later }
def DiskKeepsUptoCardSaid : Prop := Claim7.holds Tryd.pinned (.plain (OpenSpec.upto diskKeepsSpec)) diskKeepsUptoCard
end Rows
end Go.Proofs.YtfhdcjfkngflbaaDoor
