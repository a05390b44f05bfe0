/-
  DERIVED. GIVEN WITH THE SEED: THE CARDS: each row of YthmjbenofpbmbaaDoorRows.lean that lists a variable, with what it lists TIED to the program's text (the seventh form; the later family's looks); each row that meets fmt, with fmt's text TOLD by the authors' own Lean function (tested against real Go, not proved from fmt's source: count such statements apart). THE CARD IS WHAT COUNTS. Prove the row's statement (the work); the ties are given (YthmjbenofpbmbaaDoorTie.lean); close each card by the builder's one call (the guide's Derived/Test/ToyasCard.lean, 'card_holds'). Laid BY PROGRAM, IN A SANDBOX (cutbox-door.mjs). By AI agents, Wed Nov 11 2026. No macro, syntax, notation, axiom, sorry.
-/
import Derived.Test.YthmjbenofpbmbaaDoorRows
import GoSem.ClaimSeven
namespace Go.Proofs.YthmjbenofpbmbaaDoor
namespace Rows

/-- THE TIED CARD OF 'gatewrightlaw.SatPrints'. -/
def satPrintsCard : Claim7 := { stood := { row := satPrintsRow, standIns := [], harness := (true, "84a03f5f54ead9b3da668ec6b287bfc739327be5f3f4636fdda16d2928de929d"), looks := false }, kinds := [], alts := [], laidByText := true, laidKinds := [.data, .data, .data], laidTests := true, laidLooks := .later }
def SatPrintsCardSaid : Prop := Claim7.holds Tryd.pinned (.plain (OpenSpec.ofChange satPrintsSpec)) satPrintsCard

/-- THE TIED CARD OF 'gatewrightlaw.AigerPrints'. -/
def aigerPrintsCard : Claim7 := { stood := { row := aigerPrintsRow, standIns := [], harness := (true, "84a03f5f54ead9b3da668ec6b287bfc739327be5f3f4636fdda16d2928de929d"), looks := false }, kinds := [], alts := [], laidByText := true, laidKinds := [.data, .data, .data], laidTests := true, laidLooks := .later }
def AigerPrintsCardSaid : Prop := Claim7.holds Tryd.pinned (.plain (OpenSpec.ofChange aigerPrintsSpec)) aigerPrintsCard

/-- THE TIED CARD OF 'gatewrightlaw.AigerPacks'. -/
def aigerPacksCard : Claim7 := { stood := { row := aigerPacksRow, standIns := [], harness := (true, "84a03f5f54ead9b3da668ec6b287bfc739327be5f3f4636fdda16d2928de929d"), looks := false }, kinds := [], alts := [], laidByText := true, laidKinds := [.data, .data, .data], laidTests := true, laidLooks := .later }
def AigerPacksCardSaid : Prop := Claim7.holds Tryd.pinned (.plain (OpenSpec.ofChange aigerPacksSpec)) aigerPacksCard

/-- THE SECOND FORM's CARD OF 'gatewrightlaw.SatPrints'. -/
def satPrintsUptoCard : Claim7 := { stood := { row := satPrintsUptoRow, standIns := [], harness := (true, "84a03f5f54ead9b3da668ec6b287bfc739327be5f3f4636fdda16d2928de929d"), looks := false }, kinds := [], alts := [], laidByText := true, laidKinds := [.data, .data, .data], laidTests := true, laidLooks := .later }
def SatPrintsUptoCardSaid : Prop := Claim7.holds Tryd.pinned (.plain (OpenSpec.upto satPrintsSpec)) satPrintsUptoCard

/-- THE SECOND FORM's CARD OF 'gatewrightlaw.AigerPrints'. -/
def aigerPrintsUptoCard : Claim7 := { stood := { row := aigerPrintsUptoRow, standIns := [], harness := (true, "84a03f5f54ead9b3da668ec6b287bfc739327be5f3f4636fdda16d2928de929d"), looks := false }, kinds := [], alts := [], laidByText := true, laidKinds := [.data, .data, .data], laidTests := true, laidLooks := .later }
def AigerPrintsUptoCardSaid : Prop := Claim7.holds Tryd.pinned (.plain (OpenSpec.upto aigerPrintsSpec)) aigerPrintsUptoCard

/-- THE SECOND FORM's CARD OF 'gatewrightlaw.AigerPacks'. -/
def aigerPacksUptoCard : Claim7 := { stood := { row := aigerPacksUptoRow, standIns := [], harness := (true, "84a03f5f54ead9b3da668ec6b287bfc739327be5f3f4636fdda16d2928de929d"), looks := false }, kinds := [], alts := [], laidByText := true, laidKinds := [.data, .data, .data], laidTests := true, laidLooks := .later }
def AigerPacksUptoCardSaid : Prop := Claim7.holds Tryd.pinned (.plain (OpenSpec.upto aigerPacksSpec)) aigerPacksUptoCard
end Rows
end Go.Proofs.YthmjbenofpbmbaaDoor
