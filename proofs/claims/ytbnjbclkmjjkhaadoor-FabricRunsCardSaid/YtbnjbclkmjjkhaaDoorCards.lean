/-
  DERIVED. GIVEN WITH THE SEED: THE CARDS: each row of YtbnjbclkmjjkhaaDoorRows.lean that lists a variable, with what it lists TIED to the program's text (the seventh form; the later family's looks); each row that meets fmt, with fmt's text TOLD by the authors' own Lean function (tested against real Go, not proved from fmt's source: count such statements apart). THE CARD IS WHAT COUNTS. Prove the row's statement (the work); the ties are given (YtbnjbclkmjjkhaaDoorTie.lean); close each card by the builder's one call (the guide's Derived/Test/ToyasCard.lean, 'card_holds'). Laid BY PROGRAM, IN A SANDBOX (cutbox-door.mjs). By AI agents, Wed Nov 11 2026. No macro, syntax, notation, axiom, sorry.
-/
import Derived.Test.YtbnjbclkmjjkhaaDoorRows
import GoSem.ClaimSeven
namespace Go.Proofs.YtbnjbclkmjjkhaaDoor
namespace Rows

/-- THE TIED CARD OF 'gatewrightlaw.StreamDecodes'. -/
def streamDecodesCard : Claim7 := { stood := { row := streamDecodesRow, standIns := [], harness := (true, "6ae4fc9976c86837d3d5f449aab4d4c6c406517b8b988515358e4c222c1c42f9"), looks := true }, kinds := [], alts := [], laidByText := true, laidKinds := [.handle], laidTests := true, laidLooks := .later }
def StreamDecodesCardSaid : Prop := Claim7.holds Tryd.pinned (.plain (OpenSpec.ofChange streamDecodesSpec)) streamDecodesCard

/-- THE TIED CARD OF 'gatewrightlaw.FabricRuns'. -/
def fabricRunsCard : Claim7 := { stood := { row := fabricRunsRow, standIns := [], harness := (true, "6ae4fc9976c86837d3d5f449aab4d4c6c406517b8b988515358e4c222c1c42f9"), looks := true }, kinds := [], alts := [], laidByText := true, laidKinds := [.handle], laidTests := true, laidLooks := .later }
def FabricRunsCardSaid : Prop := Claim7.holds Tryd.pinned (.plain (OpenSpec.ofChange fabricRunsSpec)) fabricRunsCard

/-- THE SECOND FORM's CARD OF 'gatewrightlaw.StreamDecodes'. -/
def streamDecodesUptoCard : Claim7 := { stood := { row := streamDecodesUptoRow, standIns := [], harness := (true, "6ae4fc9976c86837d3d5f449aab4d4c6c406517b8b988515358e4c222c1c42f9"), looks := true }, kinds := [], alts := [], laidByText := true, laidKinds := [.handle], laidTests := true, laidLooks := .later }
def StreamDecodesUptoCardSaid : Prop := Claim7.holds Tryd.pinned (.plain (OpenSpec.upto streamDecodesSpec)) streamDecodesUptoCard

/-- THE SECOND FORM's CARD OF 'gatewrightlaw.FabricRuns'. -/
def fabricRunsUptoCard : Claim7 := { stood := { row := fabricRunsUptoRow, standIns := [], harness := (true, "6ae4fc9976c86837d3d5f449aab4d4c6c406517b8b988515358e4c222c1c42f9"), looks := true }, kinds := [], alts := [], laidByText := true, laidKinds := [.handle], laidTests := true, laidLooks := .later }
def FabricRunsUptoCardSaid : Prop := Claim7.holds Tryd.pinned (.plain (OpenSpec.upto fabricRunsSpec)) fabricRunsUptoCard
end Rows
end Go.Proofs.YtbnjbclkmjjkhaaDoor
