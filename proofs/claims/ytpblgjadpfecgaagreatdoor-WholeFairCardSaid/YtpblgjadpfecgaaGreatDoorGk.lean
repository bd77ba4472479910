/-
  The closed cells of the card of WholeFair, one by one (together they outgrow the kernel's lid of memory).
-/
import Derived.Test.YtpblgjadpfecgaaGreatDoorCards
import Derived.SevenTiedAt
import Derived.ProofKit
namespace Go.Proofs.YtpblgjadpfecgaaGreatDoor.wholeFair
open Go.ChangeShapes Go.WideShapes Go.ChangeAt Go.RowKit
theorem c1 : Rows.wholeFairRow.wfByText (OpenSpec.ofChange Rows.wholeFairSpec) = true := by kernel_rfl
theorem c2 : Tryz.pinned.checked.prog.mainIs = some (true, "20b1706db39b412273ec6fcb30e444a955b211b05e78f041e2825b2a91e57b5a".toList) := by kernel_rfl
theorem c3 : true = Tryz.pinned.checked.prog.looks [] := by kernel_rfl
theorem c4 : ([3, 22, 3].all fun u => !Tryz.prog.wantsStandIn u) = true := by kernel_rfl
theorem c5 : false = Rows.wholeFairRow.goesBy Tryz.pinned.checked.prog := by kernel_rfl
theorem c6 : Tryz.prog.funcNamed "tollbar/tollbartop.WholeFair" = some 3 := by kernel_rfl
end Go.Proofs.YtpblgjadpfecgaaGreatDoor.wholeFair
