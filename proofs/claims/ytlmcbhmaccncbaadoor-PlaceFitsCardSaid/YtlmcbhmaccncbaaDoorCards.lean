/-
  DERIVED. GIVEN WITH THE SEED: THE CARDS: each row of YtlmcbhmaccncbaaDoorRows.lean that lists a variable, with what it lists TIED to the program's text (the seventh form; the later family's looks); each row that meets fmt, with fmt's text TOLD by the authors' own Lean function (tested against real Go, not proved from fmt's source: count such statements apart). THE CARD IS WHAT COUNTS. Prove the row's statement (the work); the ties are given (YtlmcbhmaccncbaaDoorTie.lean); close each card by the builder's one call (the guide's Derived/Test/ToyasCard.lean, 'card_holds'). Laid BY PROGRAM, IN A SANDBOX (cutbox-door.mjs). By AI agents, Wed Nov 11 2026. No macro, syntax, notation, axiom, sorry.
-/
import Derived.Test.YtlmcbhmaccncbaaDoorRows
import GoSem.ClaimSeven
namespace Go.Proofs.YtlmcbhmaccncbaaDoor
namespace Rows

/-- THE TIED CARD OF 'gatewrightlaw.PlaceFits'. -/
def placeFitsCard : Claim7 := { stood := { row := placeFitsRow, standIns := [], harness := (true, "d641605464e0705b913a6a521b355447209f4c28a56671306270718ba80838a1"), looks := true }, kinds := [], alts := [], laidByText := true, laidKinds := [.handle], laidTests := true, laidLooks := .later }
def PlaceFitsCardSaid : Prop := Claim7.holds Tryd.pinned (.plain (OpenSpec.ofChange placeFitsSpec)) placeFitsCard

/-- THE SECOND FORM's CARD OF 'gatewrightlaw.PlaceFits'. -/
def placeFitsUptoCard : Claim7 := { stood := { row := placeFitsUptoRow, standIns := [], harness := (true, "d641605464e0705b913a6a521b355447209f4c28a56671306270718ba80838a1"), looks := true }, kinds := [], alts := [], laidByText := true, laidKinds := [.handle], laidTests := true, laidLooks := .later }
def PlaceFitsUptoCardSaid : Prop := Claim7.holds Tryd.pinned (.plain (OpenSpec.upto placeFitsSpec)) placeFitsUptoCard
end Rows
end Go.Proofs.YtlmcbhmaccncbaaDoor
