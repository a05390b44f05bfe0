/-
  DERIVED. GIVEN WITH THE SEED: THE CARDS: each row of YtlfjchlkooemdaaDoorRows.lean that lists a variable, with what it lists TIED to the program's text (the seventh form; the later family's looks); each row that meets fmt, with fmt's text TOLD by the authors' own Lean function (tested against real Go, not proved from fmt's source: count such statements apart). THE CARD IS WHAT COUNTS. Prove the row's statement (the work); the ties are given (YtlfjchlkooemdaaDoorTie.lean); close each card by the builder's one call (the guide's Derived/Test/ToyasCard.lean, 'card_holds'). Laid BY PROGRAM, IN A SANDBOX (cutbox-door.mjs). By AI agents, Wed Nov 11 2026. No macro, syntax, notation, axiom, sorry.
-/
import Derived.Test.YtlfjchlkooemdaaDoorRows
import GoSem.ClaimSeven
namespace Go.Proofs.YtlfjchlkooemdaaDoor
namespace Rows

/-- THE TIED CARD OF 'gatewrightlaw.SatParses'. -/
def satParsesCard : Claim7 := { stood := { row := satParsesRow, standIns := [], harness := (true, "c885d79e34b2aa0722fb4a9ca54eb55dd9ea713822a2a186fcf165f52593686b"), looks := true }, kinds := [], alts := [], laidByText := true, laidKinds := [.data, .handle, .pinned], laidTests := true, laidLooks := .later }
def SatParsesCardSaid : Prop := Claim7.holds Tryd.pinned (.plain (OpenSpec.ofChange satParsesSpec)) satParsesCard

/-- THE SECOND FORM's CARD OF 'gatewrightlaw.SatParses'. -/
def satParsesUptoCard : Claim7 := { stood := { row := satParsesUptoRow, standIns := [], harness := (true, "c885d79e34b2aa0722fb4a9ca54eb55dd9ea713822a2a186fcf165f52593686b"), looks := true }, kinds := [], alts := [], laidByText := true, laidKinds := [.data, .handle, .pinned], laidTests := true, laidLooks := .later }
def SatParsesUptoCardSaid : Prop := Claim7.holds Tryd.pinned (.plain (OpenSpec.upto satParsesSpec)) satParsesUptoCard
end Rows
end Go.Proofs.YtlfjchlkooemdaaDoor
