/-
  DERIVED. GIVEN WITH THE SEED: THE CARDS: each row of YtnijoifiliaebaaGreatDoorRows.lean that lists a variable, with what it lists TIED to the program's text (the seventh form; the later family's looks); each row that meets fmt, with fmt's text TOLD by the authors' own Lean function (tested against real Go, not proved from fmt's source: count such statements apart). THE CARD IS WHAT COUNTS. Prove the row's statement (the work); the ties are given (YtnijoifiliaebaaGreatDoorTie.lean); close each card by the builder's one call (the guide's Derived/Test/ToyasCard.lean, 'card_holds'). Laid BY PROGRAM, IN A SANDBOX (cutbox-door.mjs). By AI agents, Wed Nov 11 2026. No macro, syntax, notation, axiom, sorry.
-/
import Derived.Test.YtnijoifiliaebaaGreatDoorRows
import GoSem.ClaimSeven
namespace Go.Proofs.YtnijoifiliaebaaGreatDoor
namespace Rows

/-- THE TIED CARD OF 'tollbartop.WholeRequests'. -/
def wholeRequestsCard : Claim7 := { stood := { row := wholeRequestsRow, standIns := [], harness := (true, "b26c272771357709f8791c72799ebd8429e1fd935d4ff17f1896b0bdadaef45c"), looks := false }, kinds := [], alts := [], laidByText := true, laidKinds := [.data, .data, .data, .data, .pinned], laidTests := true, laidLooks := .later }
def WholeRequestsCardSaid : Prop := Claim7.holds Tryz.pinned (.plain (OpenSpec.ofChange wholeRequestsSpec)) wholeRequestsCard

/-- THE SECOND FORM's CARD OF 'tollbartop.WholeRequests'. -/
def wholeRequestsUptoCard : Claim7 := { stood := { row := wholeRequestsUptoRow, standIns := [], harness := (true, "b26c272771357709f8791c72799ebd8429e1fd935d4ff17f1896b0bdadaef45c"), looks := false }, kinds := [], alts := [], laidByText := true, laidKinds := [.data, .data, .data, .data, .pinned], laidTests := true, laidLooks := .later }
def WholeRequestsUptoCardSaid : Prop := Claim7.holds Tryz.pinned (.plain (OpenSpec.upto wholeRequestsSpec)) wholeRequestsUptoCard
end Rows
end Go.Proofs.YtnijoifiliaebaaGreatDoor
