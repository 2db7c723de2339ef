/-
  DERIVED. GIVEN WITH THE SEED: THE CARDS: each row of YtapjndhbdpbjcaaDoorRows.lean that lists a variable, with what it lists TIED to the program's text (the seventh form; the later family's looks); each row that meets fmt, with fmt's text TOLD by the authors' own Lean function (tested against real Go, not proved from fmt's source: count such statements apart). THE CARD IS WHAT COUNTS. Prove the row's statement (the work); the ties are given (YtapjndhbdpbjcaaDoorTie.lean); close each card by the builder's one call (the guide's Derived/Test/ToyasCard.lean, 'card_holds'). Laid BY PROGRAM, IN A SANDBOX (cutbox-door.mjs). By AI agents, Wed Nov 11 2026. No macro, syntax, notation, axiom, sorry.
-/
import Derived.Test.YtapjndhbdpbjcaaDoorRows
import GoSem.ClaimSeven
namespace Go.Proofs.YtapjndhbdpbjcaaDoor
namespace Rows

/-- THE TIED CARD OF 'micropartlaw13.WideTexts'. -/
def wideTextsCard : Claim7 := { stood := { row := wideTextsRow, standIns := [], harness := (true, "60e13fc1cc16a2a06dd77961917d5475e1b8bbd80645c04080f207bc6d7b31de"), looks := false }, kinds := [], alts := [], laidByText := true, laidKinds := [.data, .pinned], laidTests := true, laidLooks := .later }
def WideTextsCardSaid : Prop := Claim7.holds Tryd.pinned (.plain (OpenSpec.ofChange wideTextsSpec)) wideTextsCard

/-- THE TIED CARD OF 'micropartlaw13.WideLimits'. -/
def wideLimitsCard : Claim7 := { stood := { row := wideLimitsRow, standIns := [], harness := (true, "60e13fc1cc16a2a06dd77961917d5475e1b8bbd80645c04080f207bc6d7b31de"), looks := false }, kinds := [], alts := [], laidByText := true, laidKinds := [.data, .pinned], laidTests := true, laidLooks := .later }
def WideLimitsCardSaid : Prop := Claim7.holds Tryd.pinned (.plain (OpenSpec.ofChange wideLimitsSpec)) wideLimitsCard

/-- THE TIED CARD OF 'micropartlaw13.WideRoundTrip'. -/
def wideRoundTripCard : Claim7 := { stood := { row := wideRoundTripRow, standIns := [], harness := (true, "60e13fc1cc16a2a06dd77961917d5475e1b8bbd80645c04080f207bc6d7b31de"), looks := false }, kinds := [], alts := [], laidByText := true, laidKinds := [.data, .pinned], laidTests := true, laidLooks := .later }
def WideRoundTripCardSaid : Prop := Claim7.holds Tryd.pinned (.plain (OpenSpec.ofChange wideRoundTripSpec)) wideRoundTripCard

/-- THE SECOND FORM's CARD OF 'micropartlaw13.WideTexts'. -/
def wideTextsUptoCard : Claim7 := { stood := { row := wideTextsUptoRow, standIns := [], harness := (true, "60e13fc1cc16a2a06dd77961917d5475e1b8bbd80645c04080f207bc6d7b31de"), looks := false }, kinds := [], alts := [], laidByText := true, laidKinds := [.data, .pinned], laidTests := true, laidLooks := .later }
def WideTextsUptoCardSaid : Prop := Claim7.holds Tryd.pinned (.plain (OpenSpec.upto wideTextsSpec)) wideTextsUptoCard

/-- THE SECOND FORM's CARD OF 'micropartlaw13.WideLimits'. -/
def wideLimitsUptoCard : Claim7 := { stood := { row := wideLimitsUptoRow, standIns := [], harness := (true, "60e13fc1cc16a2a06dd77961917d5475e1b8bbd80645c04080f207bc6d7b31de"), looks := false }, kinds := [], alts := [], laidByText := true, laidKinds := [.data, .pinned], laidTests := true, laidLooks := .later }
def WideLimitsUptoCardSaid : Prop := Claim7.holds Tryd.pinned (.plain (OpenSpec.upto wideLimitsSpec)) wideLimitsUptoCard

/-- THE SECOND FORM's CARD OF 'micropartlaw13.WideRoundTrip'. -/
def wideRoundTripUptoCard : Claim7 := { stood := { row := wideRoundTripUptoRow, standIns := [], harness := (true, "60e13fc1cc16a2a06dd77961917d5475e1b8bbd80645c04080f207bc6d7b31de"), looks := false }, kinds := [], alts := [], laidByText := true, laidKinds := [.data, .pinned], laidTests := true, laidLooks := .later }
def WideRoundTripUptoCardSaid : Prop := Claim7.holds Tryd.pinned (.plain (OpenSpec.upto wideRoundTripSpec)) wideRoundTripUptoCard
end Rows
end Go.Proofs.YtapjndhbdpbjcaaDoor
