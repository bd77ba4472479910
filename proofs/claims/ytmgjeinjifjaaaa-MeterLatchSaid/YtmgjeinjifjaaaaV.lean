/-
  The law's own example.
-/
import Derived.Test.YtmgjeinjifjaaaaA
namespace Go.Proofs.Ytmgjeinjifjaaaa
open Go.RowKit

set_option maxHeartbeats 1000000 in
theorem alive_any (w : World) : Calls Try.prog 9 #[] w fun e w' => e = .returned (.bool true) ∧ Below w.heap.size w w' := by
  go_enter Try.func9, Try.ntmps9
  go_wp2_with fail
  refine (new_any 10 _ (by decide) (by decide)).mono ?_
  rintro e w1 ⟨rfl, rfl⟩
  have H1 : Hid (MAt (w.alloc (.cells #[.int .i64 (mclip 10), .int .i64 0, .int .i64 0] 61)) w.heap.size 10 0 0) := b_new w _
  have l1 := (Below.refl w.heap.size w).alloc (Nat.le_refl _) (.cells #[.int .i64 (mclip 10), .int .i64 0, .int .i64 0] 61)
  generalize (w.alloc (.cells #[.int .i64 (mclip 10), .int .i64 0, .int .i64 0] 61)) = w1 at *
  go_wp2_with fail
  refine (take_y _ 10 0 0 7 7 7 _ H1 ⟨by decide, by decide, by decide, by decide⟩ (by decide) (by decide) (by decide)).mono ?_
  rintro e w2 ⟨rfl, H2, o2⟩
  have l2 := below_only l1 o2 (Nat.le_refl _) (Nat.le_refl _)
  clear H1 l1 o2
  go_wp2_with fail
  refine (take_n _ 10 7 7 4 _ H2 ⟨by decide, by decide, by decide, by decide⟩ (by decide)).mono ?_
  rintro e w3 ⟨rfl, H3, o3⟩
  have l3 := below_only l2 o3 (Nat.le_refl _) (Nat.le_refl _)
  clear H2 l2 o3
  go_wp2_with fail
  refine (give_d _ 10 7 7 2 2 5 _ H3 ⟨by decide, by decide, by decide, by decide⟩ (by decide) (by decide) (by decide) (by decide)).mono ?_
  rintro e w4 ⟨rfl, H4, o4⟩
  have l4 := below_only l3 o4 (Nat.le_refl _) (Nat.le_refl _)
  clear H3 l3 o4
  go_wp2_with fail
  refine (take_y _ 10 5 7 4 9 9 _ H4 ⟨by decide, by decide, by decide, by decide⟩ (by decide) (by decide) (by decide)).mono ?_
  rintro e w5 ⟨rfl, H5, o5⟩
  have l5 := below_only l4 o5 (Nat.le_refl _) (Nat.le_refl _)
  clear H4 l4 o5
  go_wp2_with fail
  refine (held_d _ 10 9 9 _ H5 ⟨by decide, by decide, by decide, by decide⟩).mono ?_
  rintro e w6 ⟨rfl, H6, o6⟩
  have l6 := below_only l5 o6 (Nat.le_refl _) (Nat.le_refl _)
  clear H5 l5 o6
  go_wp2_with fail
  refine (peak_d _ 10 9 9 _ H6).mono ?_
  rintro e w7 ⟨rfl, H7, o7⟩
  have l7 := below_only l6 o7 (Nat.le_refl _) (Nat.le_refl _)
  clear H6 l6 o7
  go_wp2_with fail
  refine (room_d _ 10 9 9 1 _ H7 ⟨by decide, by decide, by decide, by decide⟩ (by decide)).mono ?_
  rintro e w8 ⟨rfl, H8, o8⟩
  have l8 := below_only l7 o8 (Nat.le_refl _) (Nat.le_refl _)
  clear H7 l7 o8
  go_wp2_with fail
  go_ret
  exact ⟨rfl, l8⟩
end Go.Proofs.Ytmgjeinjifjaaaa
