/-
  words, take of the package conf.
-/
import Derived.Test.YtafljoiblfhioaaGreatDoorSab
namespace Go.Proofs.YtafljoiblfhioaaGreatDoor
open Go.RowKit Go.Maps

def wordsL : List (List UInt8) := [[117, 112], [114, 111, 117, 116, 101], [115, 101, 116], [100, 114, 111, 112], [116, 111, 116, 97, 108], [116, 114, 105, 101, 115], [102, 97, 105, 108, 115], [99, 111, 111, 108]]
set_option maxRecDepth 100000 in
theorem words_any (w : World) : Calls Tryz.prog 25 #[] w fun e w' => ∃ A c, e = .returned (.slice A 8 c) ∧ Row w' A (sV wordsL) ∧ (∃ b, A = some ⟨b, 0, none⟩) ∧ Only (fun _ => False) w w' := by
  go_enter Tryz.func25, Tryz.ntmps25
  go_wp2_with fail
  go_ret
  refine ⟨some ⟨w.heap.size, 0, none⟩, 8, rfl, ?_, ⟨_, rfl⟩, (Only.refl _ w).alloc _⟩
  intro _
  refine ⟨w.heap.size, 0, rfl, b_lt (b_new w _), fun j u hu => ?_⟩
  rw [b_cell (b_new w _), Nat.zero_add]
  rw [← List.getElem?_toArray] at hu
  exact hu
end Go.Proofs.YtafljoiblfhioaaGreatDoor
