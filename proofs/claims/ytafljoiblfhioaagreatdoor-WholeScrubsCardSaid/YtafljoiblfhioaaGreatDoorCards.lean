/-
  DERIVED. GIVEN WITH THE SEED: THE CARDS: each row of YtafljoiblfhioaaGreatDoorRows.lean that lists a variable, with what it lists TIED to the program's text (the seventh form; the later family's looks); each row that meets fmt, with fmt's text TOLD by the authors' own Lean function (tested against real Go, not proved from fmt's source: count such statements apart). THE CARD IS WHAT COUNTS. Prove the row's statement (the work); the ties are given (YtafljoiblfhioaaGreatDoorTie.lean); close each card by the builder's one call (the guide's Derived/Test/ToyasCard.lean, 'card_holds'). Laid BY PROGRAM, IN A SANDBOX (cutbox-door.mjs). By AI agents, Wed Nov 11 2026. No macro, syntax, notation, axiom, sorry.
-/
import Derived.Test.YtafljoiblfhioaaGreatDoorRows
import GoSem.ClaimSeven
namespace Go.Proofs.YtafljoiblfhioaaGreatDoor
namespace Rows

/-- THE TIED CARD OF 'tollbartop.WholeScrubs'. -/
def wholeScrubsCard : Claim7 := { stood := { row := wholeScrubsRow, standIns := [], harness := (true, "e2248e9e7d76579e99b1e4ed1e13e97875b76c5f97cf0eb09df4be51c97c8f74"), looks := false }, kinds := [], alts := [], laidByText := true, laidKinds := [.data, .data, .data, .data, .pinned], laidTests := true, laidLooks := .later }
def WholeScrubsCardSaid : Prop := Claim7.holds Tryz.pinned (.plain (OpenSpec.ofChange wholeScrubsSpec)) wholeScrubsCard

/-- THE SECOND FORM's CARD OF 'tollbartop.WholeScrubs'. -/
def wholeScrubsUptoCard : Claim7 := { stood := { row := wholeScrubsUptoRow, standIns := [], harness := (true, "e2248e9e7d76579e99b1e4ed1e13e97875b76c5f97cf0eb09df4be51c97c8f74"), looks := false }, kinds := [], alts := [], laidByText := true, laidKinds := [.data, .data, .data, .data, .pinned], laidTests := true, laidLooks := .later }
def WholeScrubsUptoCardSaid : Prop := Claim7.holds Tryz.pinned (.plain (OpenSpec.upto wholeScrubsSpec)) wholeScrubsUptoCard
end Rows
end Go.Proofs.YtafljoiblfhioaaGreatDoor
