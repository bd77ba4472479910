/-
  The walk of MeterSplit.
-/
import Derived.Test.YtmgjeinjifjaaaaA
namespace Go.Proofs.Ytmgjeinjifjaaaa
open Go.RowKit

set_option maxHeartbeats 1000000 in
theorem split_walk (a0 a b : Int) (i0 : Int64 a0) (i1 : Int64 a) (i2 : Int64 b) (w : World) :
    Calls Try.prog 6 #[.int .i64 a0, .int .i64 a, .int .i64 b] w fun e w' => e = .returned (.bool true) ∧ Below w.heap.size w w' := by
  obtain ⟨p0, q0⟩ := i0
  obtain ⟨p1, q1⟩ := i1
  obtain ⟨p2, q2⟩ := i2
  go_enter Try.func6, Try.ntmps6
  go_wp2_with fail
  refine (new_any a0 _ p0 q0).mono ?_
  rintro e w1 ⟨rfl, rfl⟩
  have H8 : Hid (MAt (w.alloc (.cells #[.int .i64 (mclip a0), .int .i64 0, .int .i64 0] 61)) w.heap.size (mclip a0) 0 0) := b_new w _
  have l8 := (Below.refl w.heap.size w).alloc (Nat.le_refl _) (.cells #[.int .i64 (mclip a0), .int .i64 0, .int .i64 0] 61)
  generalize (w.alloc (.cells #[.int .i64 (mclip a0), .int .i64 0, .int .i64 0] 61)) = w1 at *
  go_wp2_with fail
  refine (new_any a0 _ p0 q0).mono ?_
  rintro e w2 ⟨rfl, rfl⟩
  have G9 : Hid (MAt (w1.alloc (.cells #[.int .i64 (mclip a0), .int .i64 0, .int .i64 0] 61)) w1.heap.size (mclip a0) 0 0) := b_new w1 _
  have H9 : Hid (MAt (w1.alloc (.cells #[.int .i64 (mclip a0), .int .i64 0, .int .i64 0] 61)) w.heap.size (mclip a0) 0 0) := b_alloc H8.out _
  have l9 := l8.alloc l8.size (.cells #[.int .i64 (mclip a0), .int .i64 0, .int .i64 0] 61)
  have hne : w.heap.size < w1.heap.size := b_lt H8.out
  obtain ⟨bb, hbb⟩ : ∃ bb, bb = w1.heap.size := ⟨_, rfl⟩
  rw [← hbb] at G9 hne ⊢
  clear hbb l8 H8
  generalize (w1.alloc (.cells #[.int .i64 (mclip a0), .int .i64 0, .int .i64 0] 61)) = w2 at *
  go_wp2_with fail
  refine (alive_any _).mono ?_
  rintro e w3 ⟨rfl, l7⟩
  have H10 := hid (show MAt w3 _ _ _ _ from b_below l7 H9.out (b_lt H9.out))
  have G10 := hid (show MAt w3 _ _ _ _ from b_below l7 G9.out (b_lt G9.out))
  have l10 := l9.trans (l7.mono l9.size)
  clear l7 l9 H9 G9
  go_wp2_with fail
  simp only [mclip] at H10 G10
  have km : 0 ≤ min (max a0 0) 1099511627776 ∧ min (max a0 0) 1099511627776 ≤ 1099511627776 := by omega
  have ka : 0 ≤ min (max a 0) 2199023255552 ∧ min (max a 0) 2199023255552 ≤ 2199023255552 := by omega
  have kb : 0 ≤ min (max b 0) 2199023255552 ∧ min (max b 0) 2199023255552 ≤ 2199023255552 := by omega
  generalize min (max a0 0) 1099511627776 = M at *
  generalize min (max a 0) 2199023255552 = x at *
  generalize min (max b 0) 2199023255552 = y at *
  obtain ⟨km0, km1⟩ := km
  obtain ⟨ka0, ka1⟩ := ka
  obtain ⟨kb0, kb1⟩ := kb
  clear p0 q0 p1 q1 p2 q2
  by_cases h0 : M < x
  · refine (take_n _ M 0 0 x _ H10 ⟨by omega, by omega, by omega, by omega⟩ (by omega)).mono ?_
    rintro e w11 ⟨rfl, H11, o11⟩
    have G11 := hid (G10.out.keep o11 (by omega))
    have l11 := below_only l10 o11 (Nat.le_refl _) (Nat.le_refl _)
    clear H10 G10 l10 o11
    go_wp2_with fail
    refine (take_n _ M 0 0 (x + y) _ G11 ⟨by omega, by omega, by omega, by omega⟩ (by omega)).mono ?_
    rintro e w12 ⟨rfl, G12, o12⟩
    have H12 := hid (H11.out.keep o12 (by omega))
    have l12 := below_only l11 o12 (Nat.le_of_lt hne) (Nat.le_refl _)
    clear H11 G11 l11 o12
    go_wp2_with fail
    refine (held_d _ M 0 0 _ H12 ⟨by omega, by omega, by omega, by omega⟩).mono ?_
    rintro e w13 ⟨rfl, H13, o13⟩
    have G13 := hid (G12.out.keep o13 (by omega))
    have l13 := below_only l12 o13 (Nat.le_refl _) (Nat.le_refl _)
    clear H12 G12 l12 o13
    go_wp2_with fail
    refine (held_d _ M 0 0 _ G13 ⟨by omega, by omega, by omega, by omega⟩).mono ?_
    rintro e w14 ⟨rfl, G14, o14⟩
    have H14 := hid (H13.out.keep o14 (by omega))
    have l14 := below_only l13 o14 (Nat.le_of_lt hne) (Nat.le_refl _)
    clear H13 G13 l13 o14
    go_wp2_with fail
    refine (room_d _ M 0 0 M _ H14 ⟨by omega, by omega, by omega, by omega⟩ (by omega)).mono ?_
    rintro e w15 ⟨rfl, H15, o15⟩
    have G15 := hid (G14.out.keep o15 (by omega))
    have l15 := below_only l14 o15 (Nat.le_refl _) (Nat.le_refl _)
    clear H14 G14 l14 o15
    go_wp2_with fail
    refine (room_d _ M 0 0 M _ G15 ⟨by omega, by omega, by omega, by omega⟩ (by omega)).mono ?_
    rintro e w16 ⟨rfl, G16, o16⟩
    have H16 := hid (H15.out.keep o16 (by omega))
    have l16 := below_only l15 o16 (Nat.le_of_lt hne) (Nat.le_refl _)
    clear H15 G15 l15 o16
    go_wp2_with fail
    refine (held_d _ M 0 0 _ H16 ⟨by omega, by omega, by omega, by omega⟩).mono ?_
    rintro e w17 ⟨rfl, H17, o17⟩
    have G17 := hid (G16.out.keep o17 (by omega))
    have l17 := below_only l16 o17 (Nat.le_refl _) (Nat.le_refl _)
    clear H16 G16 l16 o17
    go_wp2_with fail
    go_ret
    exact ⟨rfl, l17⟩
  · by_cases h1 : M - x < y
    · refine (take_y _ M 0 0 x x x _ H10 ⟨by omega, by omega, by omega, by omega⟩ (by omega) (by omega) (by omega)).mono ?_
      rintro e w11 ⟨rfl, H11, o11⟩
      have G11 := hid (G10.out.keep o11 (by omega))
      have l11 := below_only l10 o11 (Nat.le_refl _) (Nat.le_refl _)
      clear H10 G10 l10 o11
      go_wp2_with fail
      refine (take_n _ M x x y _ H11 ⟨by omega, by omega, by omega, by omega⟩ (by omega)).mono ?_
      rintro e w12 ⟨rfl, H12, o12⟩
      have G12 := hid (G11.out.keep o12 (by omega))
      have l12 := below_only l11 o12 (Nat.le_refl _) (Nat.le_refl _)
      clear H11 G11 l11 o12
      go_wp2_with fail
      refine (give_d _ M x x x x 0 _ H12 ⟨by omega, by omega, by omega, by omega⟩ (by omega) (by omega) (by omega) (by omega)).mono ?_
      rintro e w13 ⟨rfl, H13, o13⟩
      have G13 := hid (G12.out.keep o13 (by omega))
      have l13 := below_only l12 o13 (Nat.le_refl _) (Nat.le_refl _)
      clear H12 G12 l12 o13
      go_wp2_with fail
      refine (take_n _ M 0 0 (x + y) _ G13 ⟨by omega, by omega, by omega, by omega⟩ (by omega)).mono ?_
      rintro e w14 ⟨rfl, G14, o14⟩
      have H14 := hid (H13.out.keep o14 (by omega))
      have l14 := below_only l13 o14 (Nat.le_of_lt hne) (Nat.le_refl _)
      clear H13 G13 l13 o14
      go_wp2_with fail
      refine (held_d _ M 0 x _ H14 ⟨by omega, by omega, by omega, by omega⟩).mono ?_
      rintro e w15 ⟨rfl, H15, o15⟩
      have G15 := hid (G14.out.keep o15 (by omega))
      have l15 := below_only l14 o15 (Nat.le_refl _) (Nat.le_refl _)
      clear H14 G14 l14 o15
      go_wp2_with fail
      refine (held_d _ M 0 0 _ G15 ⟨by omega, by omega, by omega, by omega⟩).mono ?_
      rintro e w16 ⟨rfl, G16, o16⟩
      have H16 := hid (H15.out.keep o16 (by omega))
      have l16 := below_only l15 o16 (Nat.le_of_lt hne) (Nat.le_refl _)
      clear H15 G15 l15 o16
      go_wp2_with fail
      refine (room_d _ M 0 x M _ H16 ⟨by omega, by omega, by omega, by omega⟩ (by omega)).mono ?_
      rintro e w17 ⟨rfl, H17, o17⟩
      have G17 := hid (G16.out.keep o17 (by omega))
      have l17 := below_only l16 o17 (Nat.le_refl _) (Nat.le_refl _)
      clear H16 G16 l16 o17
      go_wp2_with fail
      refine (room_d _ M 0 0 M _ G17 ⟨by omega, by omega, by omega, by omega⟩ (by omega)).mono ?_
      rintro e w18 ⟨rfl, G18, o18⟩
      have H18 := hid (H17.out.keep o18 (by omega))
      have l18 := below_only l17 o18 (Nat.le_of_lt hne) (Nat.le_refl _)
      clear H17 G17 l17 o18
      go_wp2_with fail
      refine (held_d _ M 0 x _ H18 ⟨by omega, by omega, by omega, by omega⟩).mono ?_
      rintro e w19 ⟨rfl, H19, o19⟩
      have G19 := hid (G18.out.keep o19 (by omega))
      have l19 := below_only l18 o19 (Nat.le_refl _) (Nat.le_refl _)
      clear H18 G18 l18 o19
      go_wp2_with fail
      go_ret
      exact ⟨rfl, l19⟩
    · refine (take_y _ M 0 0 x x x _ H10 ⟨by omega, by omega, by omega, by omega⟩ (by omega) (by omega) (by omega)).mono ?_
      rintro e w11 ⟨rfl, H11, o11⟩
      have G11 := hid (G10.out.keep o11 (by omega))
      have l11 := below_only l10 o11 (Nat.le_refl _) (Nat.le_refl _)
      clear H10 G10 l10 o11
      go_wp2_with fail
      refine (take_y _ M x x y (x + y) (x + y) _ H11 ⟨by omega, by omega, by omega, by omega⟩ (by omega) (by omega) (by omega)).mono ?_
      rintro e w12 ⟨rfl, H12, o12⟩
      have G12 := hid (G11.out.keep o12 (by omega))
      have l12 := below_only l11 o12 (Nat.le_refl _) (Nat.le_refl _)
      clear H11 G11 l11 o12
      go_wp2_with fail
      refine (take_y _ M 0 0 (x + y) (x + y) (x + y) _ G12 ⟨by omega, by omega, by omega, by omega⟩ (by omega) (by omega) (by omega)).mono ?_
      rintro e w13 ⟨rfl, G13, o13⟩
      have H13 := hid (H12.out.keep o13 (by omega))
      have l13 := below_only l12 o13 (Nat.le_of_lt hne) (Nat.le_refl _)
      clear H12 G12 l12 o13
      go_wp2_with fail
      refine (held_d _ M (x + y) (x + y) _ H13 ⟨by omega, by omega, by omega, by omega⟩).mono ?_
      rintro e w14 ⟨rfl, H14, o14⟩
      have G14 := hid (G13.out.keep o14 (by omega))
      have l14 := below_only l13 o14 (Nat.le_refl _) (Nat.le_refl _)
      clear H13 G13 l13 o14
      go_wp2_with fail
      refine (held_d _ M (x + y) (x + y) _ G14 ⟨by omega, by omega, by omega, by omega⟩).mono ?_
      rintro e w15 ⟨rfl, G15, o15⟩
      have H15 := hid (H14.out.keep o15 (by omega))
      have l15 := below_only l14 o15 (Nat.le_of_lt hne) (Nat.le_refl _)
      clear H14 G14 l14 o15
      go_wp2_with fail
      refine (room_d _ M (x + y) (x + y) (M - (x + y)) _ H15 ⟨by omega, by omega, by omega, by omega⟩ (by omega)).mono ?_
      rintro e w16 ⟨rfl, H16, o16⟩
      have G16 := hid (G15.out.keep o16 (by omega))
      have l16 := below_only l15 o16 (Nat.le_refl _) (Nat.le_refl _)
      clear H15 G15 l15 o16
      go_wp2_with fail
      refine (room_d _ M (x + y) (x + y) (M - (x + y)) _ G16 ⟨by omega, by omega, by omega, by omega⟩ (by omega)).mono ?_
      rintro e w17 ⟨rfl, G17, o17⟩
      have H17 := hid (H16.out.keep o17 (by omega))
      have l17 := below_only l16 o17 (Nat.le_of_lt hne) (Nat.le_refl _)
      clear H16 G16 l16 o17
      go_wp2_with fail
      refine (give_d _ M (x + y) (x + y) x x y _ H17 ⟨by omega, by omega, by omega, by omega⟩ (by omega) (by omega) (by omega) (by omega)).mono ?_
      rintro e w18 ⟨rfl, H18, o18⟩
      have G18 := hid (G17.out.keep o18 (by omega))
      have l18 := below_only l17 o18 (Nat.le_refl _) (Nat.le_refl _)
      clear H17 G17 l17 o18
      go_wp2_with fail
      refine (give_d _ M y (x + y) y y 0 _ H18 ⟨by omega, by omega, by omega, by omega⟩ (by omega) (by omega) (by omega) (by omega)).mono ?_
      rintro e w19 ⟨rfl, H19, o19⟩
      have G19 := hid (G18.out.keep o19 (by omega))
      have l19 := below_only l18 o19 (Nat.le_refl _) (Nat.le_refl _)
      clear H18 G18 l18 o19
      go_wp2_with fail
      refine (give_d _ M (x + y) (x + y) (x + y) (x + y) 0 _ G19 ⟨by omega, by omega, by omega, by omega⟩ (by omega) (by omega) (by omega) (by omega)).mono ?_
      rintro e w20 ⟨rfl, G20, o20⟩
      have H20 := hid (H19.out.keep o20 (by omega))
      have l20 := below_only l19 o20 (Nat.le_of_lt hne) (Nat.le_refl _)
      clear H19 G19 l19 o20
      go_wp2_with fail
      refine (held_d _ M 0 (x + y) _ H20 ⟨by omega, by omega, by omega, by omega⟩).mono ?_
      rintro e w21 ⟨rfl, H21, o21⟩
      have G21 := hid (G20.out.keep o21 (by omega))
      have l21 := below_only l20 o21 (Nat.le_refl _) (Nat.le_refl _)
      clear H20 G20 l20 o21
      go_wp2_with fail
      refine (held_d _ M 0 (x + y) _ G21 ⟨by omega, by omega, by omega, by omega⟩).mono ?_
      rintro e w22 ⟨rfl, G22, o22⟩
      have H22 := hid (H21.out.keep o22 (by omega))
      have l22 := below_only l21 o22 (Nat.le_of_lt hne) (Nat.le_refl _)
      clear H21 G21 l21 o22
      go_wp2_with fail
      go_ret
      exact ⟨rfl, l22⟩
end Go.Proofs.Ytmgjeinjifjaaaa
