/-
  Right fields.
-/
import Derived.Test.YtafljoiblfhioaaGreatDoorT
namespace Go.Proofs.YtafljoiblfhioaaGreatDoor
open Go.RowKit

theorem right_parts {n v : List UInt8} (h : right n v = true) : n.length ≤ 100 ∧ token n = true ∧ v.length ≤ 1000 ∧ v.all valC = true ∧ trim v = v := by
  unfold right at h
  simp only [Bool.and_eq_true, decide_eq_true_eq, beq_iff_eq] at h
  exact ⟨h.1, h.2.1, h.2.2.1, h.2.2.2.1, h.2.2.2.2⟩
/-- A field's line without its end. -/

def Rights (fs : List FD) : Prop := ∀ p ∈ fs, right p.1 p.2 = true
end Go.Proofs.YtafljoiblfhioaaGreatDoor
