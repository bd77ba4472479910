/-
  The closed cells of the row WholeFair, one by one (together they outgrow the kernel's lid of memory).
-/
import Derived.Test.YtpblgjadpfecgaaGreatDoorRows
import Derived.JoinedOf
import Derived.ProofKit
namespace Go.Proofs.YtpblgjadpfecgaaGreatDoor.wholeFair
open Go.ChangeShapes Go.WideShapes Go.ChangeAt Go.RowKit
theorem q1 : (Rows.wholeFairRow.wf (OpenSpec.ofChange Rows.wholeFairSpec)) = true := by kernel_rfl
theorem q2 : (laidOutB Tryz.pinned.checked.prog) = true := by kernel_rfl
theorem q3 : (mapsRowed Tryz.pinned.checked.prog) = true := by kernel_rfl
theorem q4 : (Tryz.f3.params.all (Tryz.pinned.checked.prog.readableRec ·)) = true := by kernel_rfl
theorem q5 : (namedTie Tryz.pinned.checked.prog Rows.wholeFairRow.named Rows.wholeFairSpec.vars) = true := by kernel_rfl
theorem q7 : (Tryz.pinned.checked.prog.stops == []) = true := by kernel_rfl
theorem q9 : (Tryz.pinned.checked.prog.stopKnobs == []) = true := by kernel_rfl
theorem q10 : (Rows.wholeFairRow.inPlace == Tryz.pinned.checked.prog.inPlace 3) = true := by kernel_rfl
theorem q11 : (Rows.wholeFairRow.unfollowed == Tryz.pinned.checked.prog.unfollowed 3) = true := by kernel_rfl
theorem q12 : (Rows.wholeFairRow.recurses == Tryz.pinned.checked.prog.recurses 3) = true := by kernel_rfl
theorem q13 : (Rows.wholeFairRow.named == Tryz.pinned.checked.prog.varsNamed 3) = true := by kernel_rfl
theorem q20 : (Rows.wholeFairRow.plainKeys == Tryz.pinned.checked.prog.plainKeys) = true := by kernel_rfl
theorem q21 : (Tryz.pinned.checked.prog.stopsHeard) = true := by kernel_rfl
theorem q22 : (Tryz.pinned.checked.prog.mayEnter) = true := by kernel_rfl
theorem q23 : (Rows.wholeFairRow.lifted == Tryz.pinned.checked.prog.liftsFinal) = true := by kernel_rfl
theorem q24 : (Tryz.pinned.checked.prog.make == some Rows.wholeFairRow.make) = true := by kernel_rfl
theorem and_tt {a b : Bool} (ha : a = true) (hb : b = true) : (a && b) = true := by rw [ha, hb]; rfl
theorem closed : joinedFacts Tryz.pinned.checked.prog 3 Tryz.f3 Rows.wholeFairSpec Rows.wholeFairRow = true := by
  unfold joinedFacts
  exact and_tt (and_tt (and_tt (and_tt (and_tt (and_tt (and_tt (and_tt (and_tt (and_tt (and_tt (and_tt (and_tt (and_tt (and_tt (and_tt (and_tt (and_tt (and_tt (and_tt (and_tt (and_tt (and_tt (and_tt (and_tt (and_tt (and_tt (and_tt (and_tt (and_tt (and_tt (q1) q2) q3) q4) q5) (by kernel_rfl)) q7) (by kernel_rfl)) q9) q10) q11) q12) q13) (by kernel_rfl)) (by kernel_rfl)) (by kernel_rfl)) (by kernel_rfl)) (by kernel_rfl)) (by kernel_rfl)) (by kernel_rfl)) (by kernel_rfl)) (by kernel_rfl)) q20) (by kernel_rfl)) q21) q22) q23) q24) (by kernel_rfl)) (by kernel_rfl)) (by kernel_rfl)) (by kernel_rfl)
end Go.Proofs.YtpblgjadpfecgaaGreatDoor.wholeFair
