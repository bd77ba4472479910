/-
  DERIVED. GIVEN WITH THE SEED: THE CARDS: each row of YtpblgjadpfecgaaGreatDoorRows.lean that lists a variable, with what it lists TIED to the program's text (the seventh form; the later family's looks); each row that meets fmt, with fmt's text TOLD by the authors' own Lean function (tested against real Go, not proved from fmt's source: count such statements apart). THE CARD IS WHAT COUNTS. Prove the row's statement (the work); the ties are given (YtpblgjadpfecgaaGreatDoorTie.lean); close each card by the builder's one call (the guide's Derived/Test/ToyasCard.lean, 'card_holds'). Laid BY PROGRAM, IN A SANDBOX (cutbox-door.mjs). By AI agents, Wed Nov 11 2026. No macro, syntax, notation, axiom, sorry.
-/
import Derived.Test.YtpblgjadpfecgaaGreatDoorRows
import GoSem.ClaimSeven
namespace Go.Proofs.YtpblgjadpfecgaaGreatDoor
namespace Rows

/-- THE TIED CARD OF 'tollbartop.WholeFair'. -/
def wholeFairCard : Claim7 := { stood := { row := wholeFairRow, standIns := [], harness := (true, "20b1706db39b412273ec6fcb30e444a955b211b05e78f041e2825b2a91e57b5a"), looks := true }, kinds := [], alts := [], laidByText := true, laidKinds := [.data, .data, .data, .data, .pinned], laidTests := true, laidLooks := .later }
def WholeFairCardSaid : Prop := Claim7.holds Tryz.pinned (.plain (OpenSpec.ofChange wholeFairSpec)) wholeFairCard

/-- THE SECOND FORM's CARD OF 'tollbartop.WholeFair'. -/
def wholeFairUptoCard : Claim7 := { stood := { row := wholeFairUptoRow, standIns := [], harness := (true, "20b1706db39b412273ec6fcb30e444a955b211b05e78f041e2825b2a91e57b5a"), looks := true }, kinds := [], alts := [], laidByText := true, laidKinds := [.data, .data, .data, .data, .pinned], laidTests := true, laidLooks := .later }
def WholeFairUptoCardSaid : Prop := Claim7.holds Tryz.pinned (.plain (OpenSpec.upto wholeFairSpec)) wholeFairUptoCard
end Rows
end Go.Proofs.YtpblgjadpfecgaaGreatDoor
