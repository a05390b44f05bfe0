/-
  DERIVED. GIVEN WITH THE SEED: THE CARDS: each row of YtbdcpealkllfnaaDoorRows.lean that lists a variable, with what it lists TIED to the program's text (the seventh form; the later family's looks); each row that meets fmt, with fmt's text TOLD by the authors' own Lean function (tested against real Go, not proved from fmt's source: count such statements apart). THE CARD IS WHAT COUNTS. Prove the row's statement (the work); the ties are given (YtbdcpealkllfnaaDoorTie.lean); close each card by the builder's one call (the guide's Derived/Test/ToyasCard.lean, 'card_holds'). Laid BY PROGRAM, IN A SANDBOX (cutbox-door.mjs). By AI agents, Wed Nov 11 2026. No macro, syntax, notation, axiom, sorry.
-/
import Derived.Test.YtbdcpealkllfnaaDoorRows
import GoSem.ClaimSeven
namespace Go.Proofs.YtbdcpealkllfnaaDoor
namespace Rows

/-- THE TIED CARD OF 'gatewrightlaw.ParsePrints'. -/
def parsePrintsCard : Claim7 := { stood := { row := parsePrintsRow, standIns := [], harness := (true, "714d1ab49d37d11c6985fdd298fd5839c5b3f3d0f35f5eb8e8118e9673dc4099"), looks := false }, kinds := [], alts := [], laidByText := true, laidKinds := [.data, .data, .data, .data], laidTests := true, laidLooks := .later }
def ParsePrintsCardSaid : Prop := Claim7.holds Tryd.pinned (.plain (OpenSpec.ofChange parsePrintsSpec)) parsePrintsCard

/-- THE SECOND FORM's CARD OF 'gatewrightlaw.ParsePrints'. -/
def parsePrintsUptoCard : Claim7 := { stood := { row := parsePrintsUptoRow, standIns := [], harness := (true, "714d1ab49d37d11c6985fdd298fd5839c5b3f3d0f35f5eb8e8118e9673dc4099"), looks := false }, kinds := [], alts := [], laidByText := true, laidKinds := [.data, .data, .data, .data], laidTests := true, laidLooks := .later }
def ParsePrintsUptoCardSaid : Prop := Claim7.holds Tryd.pinned (.plain (OpenSpec.upto parsePrintsSpec)) parsePrintsUptoCard
end Rows
end Go.Proofs.YtbdcpealkllfnaaDoor
