/-
  The walk of MeterExact.
-/
import Derived.Test.YtmgjeinjifjaaaaA
namespace Go.Proofs.Ytmgjeinjifjaaaa
open Go.RowKit

set_option maxHeartbeats 1000000 in
theorem exact_walk (a0 n : Int) (i0 : Int64 a0) (i1 : Int64 n) (w : World) :
    Calls Try.prog 5 #[.int .i64 a0, .int .i64 n] w fun e w' => e = .returned (.bool true) ∧ Below w.heap.size w w' := by
  obtain ⟨p0, q0⟩ := i0
  obtain ⟨p1, q1⟩ := i1
  go_enter Try.func5, Try.ntmps5
  go_wp2_with fail
  refine (new_any a0 _ p0 q0).mono ?_
  rintro e w1 ⟨rfl, rfl⟩
  have H8 : Hid (MAt (w.alloc (.cells #[.int .i64 (mclip a0), .int .i64 0, .int .i64 0] 61)) w.heap.size (mclip a0) 0 0) := b_new w _
  have l8 := (Below.refl w.heap.size w).alloc (Nat.le_refl _) (.cells #[.int .i64 (mclip a0), .int .i64 0, .int .i64 0] 61)
  generalize (w.alloc (.cells #[.int .i64 (mclip a0), .int .i64 0, .int .i64 0] 61)) = w1 at *
  go_wp2_with fail
  refine (alive_any _).mono ?_
  rintro e w2 ⟨rfl, l9⟩
  have H10 := hid (show MAt w2 _ _ _ _ from b_below l9 H8.out (b_lt H8.out))
  have l10 := l8.trans (l9.mono l8.size)
  clear l9 l8 H8
  go_wp2_with fail
  simp only [mclip] at H10
  have km : 0 ≤ min (max a0 0) 1099511627776 ∧ min (max a0 0) 1099511627776 ≤ 1099511627776 := by omega
  generalize min (max a0 0) 1099511627776 = M at *
  obtain ⟨km0, km1⟩ := km
  clear p0 q0
  by_cases h0 : n < 0
  · have d0 : decide (0 ≤ n) = false := by simp; omega
    refine (take_n _ M 0 0 n _ H10 ⟨by omega, by omega, by omega, by omega⟩ (by omega)).mono ?_
    rintro e w11 ⟨rfl, H11, o11⟩
    have l11 := below_only l10 o11 (Nat.le_refl _) (Nat.le_refl _)
    clear H10 l10 o11
    go_wp2_with fail
    refine (room_d _ M 0 0 M _ H11 ⟨by omega, by omega, by omega, by omega⟩ (by omega)).mono ?_
    rintro e w12 ⟨rfl, H12, o12⟩
    have l12 := below_only l11 o12 (Nat.le_refl _) (Nat.le_refl _)
    clear H11 l11 o12
    go_wp2_with fail
    refine (take_n _ M 0 0 (M + 1) _ H12 ⟨by omega, by omega, by omega, by omega⟩ (by omega)).mono ?_
    rintro e w13 ⟨rfl, H13, o13⟩
    have l13 := below_only l12 o13 (Nat.le_refl _) (Nat.le_refl _)
    clear H12 l12 o13
    go_wp2_with fail
    refine (take_n _ M 0 0 (-1) _ H13 ⟨by omega, by omega, by omega, by omega⟩ (by omega)).mono ?_
    rintro e w14 ⟨rfl, H14, o14⟩
    have l14 := below_only l13 o14 (Nat.le_refl _) (Nat.le_refl _)
    clear H13 l13 o14
    go_wp2_with fail
    refine (take_y _ M 0 0 M M M _ H14 ⟨by omega, by omega, by omega, by omega⟩ (by omega) (by omega) (by omega)).mono ?_
    rintro e w15 ⟨rfl, H15, o15⟩
    have l15 := below_only l14 o15 (Nat.le_refl _) (Nat.le_refl _)
    clear H14 l14 o15
    go_wp2_with fail
    refine (room_d _ M M M 0 _ H15 ⟨by omega, by omega, by omega, by omega⟩ (by omega)).mono ?_
    rintro e w16 ⟨rfl, H16, o16⟩
    have l16 := below_only l15 o16 (Nat.le_refl _) (Nat.le_refl _)
    clear H15 l15 o16
    go_wp2_with fail
    refine (take_n _ M M M 1 _ H16 ⟨by omega, by omega, by omega, by omega⟩ (by omega)).mono ?_
    rintro e w17 ⟨rfl, H17, o17⟩
    have l17 := below_only l16 o17 (Nat.le_refl _) (Nat.le_refl _)
    clear H16 l16 o17
    go_wp2_with fail
    refine (take_y _ M M M 0 M M _ H17 ⟨by omega, by omega, by omega, by omega⟩ (by omega) (by omega) (by omega)).mono ?_
    rintro e w18 ⟨rfl, H18, o18⟩
    have l18 := below_only l17 o18 (Nat.le_refl _) (Nat.le_refl _)
    clear H17 l17 o18
    go_wp2_with fail
    refine (give_d _ M M M (-5) 0 M _ H18 ⟨by omega, by omega, by omega, by omega⟩ (by decide) (by decide) (by omega) (by omega)).mono ?_
    rintro e w19 ⟨rfl, H19, o19⟩
    have l19 := below_only l18 o19 (Nat.le_refl _) (Nat.le_refl _)
    clear H18 l18 o19
    go_wp2_with fail
    refine (give_d _ M M M 4611686018427387904 M 0 _ H19 ⟨by omega, by omega, by omega, by omega⟩ (by decide) (by decide) (by omega) (by omega)).mono ?_
    rintro e w20 ⟨rfl, H20, o20⟩
    have l20 := below_only l19 o20 (Nat.le_refl _) (Nat.le_refl _)
    clear H19 l19 o20
    go_wp2_with fail
    refine (held_d _ M 0 M _ H20 ⟨by omega, by omega, by omega, by omega⟩).mono ?_
    rintro e w21 ⟨rfl, H21, o21⟩
    have l21 := below_only l20 o21 (Nat.le_refl _) (Nat.le_refl _)
    clear H20 l20 o21
    go_wp2_with fail
    refine (room_d _ M 0 M M _ H21 ⟨by omega, by omega, by omega, by omega⟩ (by omega)).mono ?_
    rintro e w22 ⟨rfl, H22, o22⟩
    have l22 := below_only l21 o22 (Nat.le_refl _) (Nat.le_refl _)
    clear H21 l21 o22
    go_wp2_with fail
    refine (peak_d _ M 0 M _ H22).mono ?_
    rintro e w23 ⟨rfl, H23, o23⟩
    have l23 := below_only l22 o23 (Nat.le_refl _) (Nat.le_refl _)
    clear H22 l22 o23
    go_wp2_with fail
    go_ret
    exact ⟨rfl, l23⟩
  · have d0 : decide (0 ≤ n) = true := by simp; omega
    by_cases h1 : n ≤ M
    · have d1 : decide (n ≤ M) = true := by simp; omega
      refine (take_y _ M 0 0 n n n _ H10 ⟨by omega, by omega, by omega, by omega⟩ (by omega) (by omega) (by omega)).mono ?_
      rintro e w11 ⟨rfl, H11, o11⟩
      have l11 := below_only l10 o11 (Nat.le_refl _) (Nat.le_refl _)
      clear H10 l10 o11
      go_wp2_with fail
      refine (room_d _ M n n (M - n) _ H11 ⟨by omega, by omega, by omega, by omega⟩ (by omega)).mono ?_
      rintro e w12 ⟨rfl, H12, o12⟩
      have l12 := below_only l11 o12 (Nat.le_refl _) (Nat.le_refl _)
      clear H11 l11 o12
      go_wp2_with fail
      refine (take_n _ M n n ((M - n) + 1) _ H12 ⟨by omega, by omega, by omega, by omega⟩ (by omega)).mono ?_
      rintro e w13 ⟨rfl, H13, o13⟩
      have l13 := below_only l12 o13 (Nat.le_refl _) (Nat.le_refl _)
      clear H12 l12 o13
      go_wp2_with fail
      refine (take_n _ M n n (-1) _ H13 ⟨by omega, by omega, by omega, by omega⟩ (by omega)).mono ?_
      rintro e w14 ⟨rfl, H14, o14⟩
      have l14 := below_only l13 o14 (Nat.le_refl _) (Nat.le_refl _)
      clear H13 l13 o14
      go_wp2_with fail
      refine (take_y _ M n n (M - n) M M _ H14 ⟨by omega, by omega, by omega, by omega⟩ (by omega) (by omega) (by omega)).mono ?_
      rintro e w15 ⟨rfl, H15, o15⟩
      have l15 := below_only l14 o15 (Nat.le_refl _) (Nat.le_refl _)
      clear H14 l14 o15
      go_wp2_with fail
      refine (room_d _ M M M 0 _ H15 ⟨by omega, by omega, by omega, by omega⟩ (by omega)).mono ?_
      rintro e w16 ⟨rfl, H16, o16⟩
      have l16 := below_only l15 o16 (Nat.le_refl _) (Nat.le_refl _)
      clear H15 l15 o16
      go_wp2_with fail
      refine (take_n _ M M M 1 _ H16 ⟨by omega, by omega, by omega, by omega⟩ (by omega)).mono ?_
      rintro e w17 ⟨rfl, H17, o17⟩
      have l17 := below_only l16 o17 (Nat.le_refl _) (Nat.le_refl _)
      clear H16 l16 o17
      go_wp2_with fail
      refine (take_y _ M M M 0 M M _ H17 ⟨by omega, by omega, by omega, by omega⟩ (by omega) (by omega) (by omega)).mono ?_
      rintro e w18 ⟨rfl, H18, o18⟩
      have l18 := below_only l17 o18 (Nat.le_refl _) (Nat.le_refl _)
      clear H17 l17 o18
      go_wp2_with fail
      refine (give_d _ M M M (-5) 0 M _ H18 ⟨by omega, by omega, by omega, by omega⟩ (by decide) (by decide) (by omega) (by omega)).mono ?_
      rintro e w19 ⟨rfl, H19, o19⟩
      have l19 := below_only l18 o19 (Nat.le_refl _) (Nat.le_refl _)
      clear H18 l18 o19
      go_wp2_with fail
      refine (give_d _ M M M 4611686018427387904 M 0 _ H19 ⟨by omega, by omega, by omega, by omega⟩ (by decide) (by decide) (by omega) (by omega)).mono ?_
      rintro e w20 ⟨rfl, H20, o20⟩
      have l20 := below_only l19 o20 (Nat.le_refl _) (Nat.le_refl _)
      clear H19 l19 o20
      go_wp2_with fail
      refine (held_d _ M 0 M _ H20 ⟨by omega, by omega, by omega, by omega⟩).mono ?_
      rintro e w21 ⟨rfl, H21, o21⟩
      have l21 := below_only l20 o21 (Nat.le_refl _) (Nat.le_refl _)
      clear H20 l20 o21
      go_wp2_with fail
      refine (room_d _ M 0 M M _ H21 ⟨by omega, by omega, by omega, by omega⟩ (by omega)).mono ?_
      rintro e w22 ⟨rfl, H22, o22⟩
      have l22 := below_only l21 o22 (Nat.le_refl _) (Nat.le_refl _)
      clear H21 l21 o22
      go_wp2_with fail
      refine (peak_d _ M 0 M _ H22).mono ?_
      rintro e w23 ⟨rfl, H23, o23⟩
      have l23 := below_only l22 o23 (Nat.le_refl _) (Nat.le_refl _)
      clear H22 l22 o23
      go_wp2_with fail
      go_ret
      exact ⟨rfl, l23⟩
    · have d1 : decide (n ≤ M) = false := by simp; omega
      refine (take_n _ M 0 0 n _ H10 ⟨by omega, by omega, by omega, by omega⟩ (by omega)).mono ?_
      rintro e w11 ⟨rfl, H11, o11⟩
      have l11 := below_only l10 o11 (Nat.le_refl _) (Nat.le_refl _)
      clear H10 l10 o11
      go_wp2_with fail
      refine (room_d _ M 0 0 M _ H11 ⟨by omega, by omega, by omega, by omega⟩ (by omega)).mono ?_
      rintro e w12 ⟨rfl, H12, o12⟩
      have l12 := below_only l11 o12 (Nat.le_refl _) (Nat.le_refl _)
      clear H11 l11 o12
      go_wp2_with fail
      refine (take_n _ M 0 0 (M + 1) _ H12 ⟨by omega, by omega, by omega, by omega⟩ (by omega)).mono ?_
      rintro e w13 ⟨rfl, H13, o13⟩
      have l13 := below_only l12 o13 (Nat.le_refl _) (Nat.le_refl _)
      clear H12 l12 o13
      go_wp2_with fail
      refine (take_n _ M 0 0 (-1) _ H13 ⟨by omega, by omega, by omega, by omega⟩ (by omega)).mono ?_
      rintro e w14 ⟨rfl, H14, o14⟩
      have l14 := below_only l13 o14 (Nat.le_refl _) (Nat.le_refl _)
      clear H13 l13 o14
      go_wp2_with fail
      refine (take_y _ M 0 0 M M M _ H14 ⟨by omega, by omega, by omega, by omega⟩ (by omega) (by omega) (by omega)).mono ?_
      rintro e w15 ⟨rfl, H15, o15⟩
      have l15 := below_only l14 o15 (Nat.le_refl _) (Nat.le_refl _)
      clear H14 l14 o15
      go_wp2_with fail
      refine (room_d _ M M M 0 _ H15 ⟨by omega, by omega, by omega, by omega⟩ (by omega)).mono ?_
      rintro e w16 ⟨rfl, H16, o16⟩
      have l16 := below_only l15 o16 (Nat.le_refl _) (Nat.le_refl _)
      clear H15 l15 o16
      go_wp2_with fail
      refine (take_n _ M M M 1 _ H16 ⟨by omega, by omega, by omega, by omega⟩ (by omega)).mono ?_
      rintro e w17 ⟨rfl, H17, o17⟩
      have l17 := below_only l16 o17 (Nat.le_refl _) (Nat.le_refl _)
      clear H16 l16 o17
      go_wp2_with fail
      refine (take_y _ M M M 0 M M _ H17 ⟨by omega, by omega, by omega, by omega⟩ (by omega) (by omega) (by omega)).mono ?_
      rintro e w18 ⟨rfl, H18, o18⟩
      have l18 := below_only l17 o18 (Nat.le_refl _) (Nat.le_refl _)
      clear H17 l17 o18
      go_wp2_with fail
      refine (give_d _ M M M (-5) 0 M _ H18 ⟨by omega, by omega, by omega, by omega⟩ (by decide) (by decide) (by omega) (by omega)).mono ?_
      rintro e w19 ⟨rfl, H19, o19⟩
      have l19 := below_only l18 o19 (Nat.le_refl _) (Nat.le_refl _)
      clear H18 l18 o19
      go_wp2_with fail
      refine (give_d _ M M M 4611686018427387904 M 0 _ H19 ⟨by omega, by omega, by omega, by omega⟩ (by decide) (by decide) (by omega) (by omega)).mono ?_
      rintro e w20 ⟨rfl, H20, o20⟩
      have l20 := below_only l19 o20 (Nat.le_refl _) (Nat.le_refl _)
      clear H19 l19 o20
      go_wp2_with fail
      refine (held_d _ M 0 M _ H20 ⟨by omega, by omega, by omega, by omega⟩).mono ?_
      rintro e w21 ⟨rfl, H21, o21⟩
      have l21 := below_only l20 o21 (Nat.le_refl _) (Nat.le_refl _)
      clear H20 l20 o21
      go_wp2_with fail
      refine (room_d _ M 0 M M _ H21 ⟨by omega, by omega, by omega, by omega⟩ (by omega)).mono ?_
      rintro e w22 ⟨rfl, H22, o22⟩
      have l22 := below_only l21 o22 (Nat.le_refl _) (Nat.le_refl _)
      clear H21 l21 o22
      go_wp2_with fail
      refine (peak_d _ M 0 M _ H22).mono ?_
      rintro e w23 ⟨rfl, H23, o23⟩
      have l23 := below_only l22 o23 (Nat.le_refl _) (Nat.le_refl _)
      clear H22 l22 o23
      go_wp2_with fail
      go_ret
      exact ⟨rfl, l23⟩
end Go.Proofs.Ytmgjeinjifjaaaa
