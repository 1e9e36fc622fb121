/-
  DERIVED. GIVEN WITH THE SEED: THE CARDS: each row of YtcicefifmkjffaaGreatDoorRows.lean that lists a variable, with what it lists TIED to the program's text (the seventh form; the later family's looks); each row that meets fmt, with fmt's text TOLD by the authors' own Lean function (tested against real Go, not proved from fmt's source: count such statements apart). THE CARD IS WHAT COUNTS. Prove the row's statement (the work); the ties are given (YtcicefifmkjffaaGreatDoorTie.lean); close each card by the builder's one call (the guide's Derived/Test/ToyasCard.lean, 'card_holds'). Laid BY PROGRAM, IN A SANDBOX (cutbox-door.mjs). By AI agents, Wed Nov 11 2026. No macro, syntax, notation, axiom, sorry.
-/
import Derived.Test.YtcicefifmkjffaaGreatDoorRows
import GoSem.ClaimSeven
namespace Go.Proofs.YtcicefifmkjffaaGreatDoor
namespace Rows

/-- THE TIED CARD OF 'hstsstorelaw24.PreloadNewMatchesSpec'. -/
def preloadNewMatchesSpecCard : Claim7 := { stood := { row := preloadNewMatchesSpecRow, standIns := [], harness := (true, "5e13193d0a58e10760bfe71e91960759f5b244661ec396260ec3bb9109f7af98"), looks := false }, kinds := [], alts := [], laidByText := true, laidKinds := [.data, .data, .data, .data, .pinned], laidTests := true, laidLooks := .later }
def PreloadNewMatchesSpecCardSaid : Prop := Claim7.holds Tryz.pinned (.plain (OpenSpec.ofChange preloadNewMatchesSpecSpec)) preloadNewMatchesSpecCard

/-- THE TIED CARD OF 'hstsstorelaw24.PreloadRoundTrip'. -/
def preloadRoundTripCard : Claim7 := { stood := { row := preloadRoundTripRow, standIns := [], harness := (true, "5e13193d0a58e10760bfe71e91960759f5b244661ec396260ec3bb9109f7af98"), looks := false }, kinds := [], alts := [], laidByText := true, laidKinds := [.data, .data, .data, .data, .pinned], laidTests := true, laidLooks := .later }
def PreloadRoundTripCardSaid : Prop := Claim7.holds Tryz.pinned (.plain (OpenSpec.ofChange preloadRoundTripSpec)) preloadRoundTripCard

/-- THE SECOND FORM's CARD OF 'hstsstorelaw24.PreloadNewMatchesSpec'. -/
def preloadNewMatchesSpecUptoCard : Claim7 := { stood := { row := preloadNewMatchesSpecUptoRow, standIns := [], harness := (true, "5e13193d0a58e10760bfe71e91960759f5b244661ec396260ec3bb9109f7af98"), looks := false }, kinds := [], alts := [], laidByText := true, laidKinds := [.data, .data, .data, .data, .pinned], laidTests := true, laidLooks := .later }
def PreloadNewMatchesSpecUptoCardSaid : Prop := Claim7.holds Tryz.pinned (.plain (OpenSpec.upto preloadNewMatchesSpecSpec)) preloadNewMatchesSpecUptoCard

/-- THE SECOND FORM's CARD OF 'hstsstorelaw24.PreloadRoundTrip'. -/
def preloadRoundTripUptoCard : Claim7 := { stood := { row := preloadRoundTripUptoRow, standIns := [], harness := (true, "5e13193d0a58e10760bfe71e91960759f5b244661ec396260ec3bb9109f7af98"), looks := false }, kinds := [], alts := [], laidByText := true, laidKinds := [.data, .data, .data, .data, .pinned], laidTests := true, laidLooks := .later }
def PreloadRoundTripUptoCardSaid : Prop := Claim7.holds Tryz.pinned (.plain (OpenSpec.upto preloadRoundTripSpec)) preloadRoundTripUptoCard
end Rows
end Go.Proofs.YtcicefifmkjffaaGreatDoor
