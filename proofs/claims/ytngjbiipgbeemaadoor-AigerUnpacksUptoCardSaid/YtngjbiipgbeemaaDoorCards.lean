/-
  DERIVED. GIVEN WITH THE SEED: THE CARDS: each row of YtngjbiipgbeemaaDoorRows.lean that lists a variable, with what it lists TIED to the program's text (the seventh form; the later family's looks); each row that meets fmt, with fmt's text TOLD by the authors' own Lean function (tested against real Go, not proved from fmt's source: count such statements apart). THE CARD IS WHAT COUNTS. Prove the row's statement (the work); the ties are given (YtngjbiipgbeemaaDoorTie.lean); close each card by the builder's one call (the guide's Derived/Test/ToyasCard.lean, 'card_holds'). Laid BY PROGRAM, IN A SANDBOX (cutbox-door.mjs). By AI agents, Wed Nov 11 2026. No macro, syntax, notation, axiom, sorry.
-/
import Derived.Test.YtngjbiipgbeemaaDoorRows
import GoSem.ClaimSeven
namespace Go.Proofs.YtngjbiipgbeemaaDoor
namespace Rows

/-- THE TIED CARD OF 'gatewrightlaw.AigerParses'. -/
def aigerParsesCard : Claim7 := { stood := { row := aigerParsesRow, standIns := [], harness := (true, "9e07ae1366a60fe8a21ded6a46c1aaf47595943e3a728b883f79b78d09f65f51"), looks := true }, kinds := [], alts := [], laidByText := true, laidKinds := [.data, .handle, .pinned], laidTests := true, laidLooks := .later }
def AigerParsesCardSaid : Prop := Claim7.holds Tryd.pinned (.plain (OpenSpec.ofChange aigerParsesSpec)) aigerParsesCard

/-- THE TIED CARD OF 'gatewrightlaw.AigerUnpacks'. -/
def aigerUnpacksCard : Claim7 := { stood := { row := aigerUnpacksRow, standIns := [], harness := (true, "9e07ae1366a60fe8a21ded6a46c1aaf47595943e3a728b883f79b78d09f65f51"), looks := true }, kinds := [], alts := [], laidByText := true, laidKinds := [.data, .handle, .pinned], laidTests := true, laidLooks := .later }
def AigerUnpacksCardSaid : Prop := Claim7.holds Tryd.pinned (.plain (OpenSpec.ofChange aigerUnpacksSpec)) aigerUnpacksCard

/-- THE SECOND FORM's CARD OF 'gatewrightlaw.AigerParses'. -/
def aigerParsesUptoCard : Claim7 := { stood := { row := aigerParsesUptoRow, standIns := [], harness := (true, "9e07ae1366a60fe8a21ded6a46c1aaf47595943e3a728b883f79b78d09f65f51"), looks := true }, kinds := [], alts := [], laidByText := true, laidKinds := [.data, .handle, .pinned], laidTests := true, laidLooks := .later }
def AigerParsesUptoCardSaid : Prop := Claim7.holds Tryd.pinned (.plain (OpenSpec.upto aigerParsesSpec)) aigerParsesUptoCard

/-- THE SECOND FORM's CARD OF 'gatewrightlaw.AigerUnpacks'. -/
def aigerUnpacksUptoCard : Claim7 := { stood := { row := aigerUnpacksUptoRow, standIns := [], harness := (true, "9e07ae1366a60fe8a21ded6a46c1aaf47595943e3a728b883f79b78d09f65f51"), looks := true }, kinds := [], alts := [], laidByText := true, laidKinds := [.data, .handle, .pinned], laidTests := true, laidLooks := .later }
def AigerUnpacksUptoCardSaid : Prop := Claim7.holds Tryd.pinned (.plain (OpenSpec.upto aigerUnpacksSpec)) aigerUnpacksUptoCard
end Rows
end Go.Proofs.YtngjbiipgbeemaaDoor
