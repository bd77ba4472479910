/-
  The walk of BucketFull.
-/
import Derived.Test.YtegpabajbmgpjaaA
import Derived.Lib.MinMax
namespace Go.Proofs.Ytegpabajbmgpjaa
open Go.RowKit

theorem tok_same {r u t a now : Int} (o : Ok r u t a) (h : now ≤ a) : tokOf r u t a now = t ∧ nowOf a now = a := by
  obtain ⟨h1, h2, h3, h4, h5, h6, h7, h8⟩ := o
  have e : nowOf a now = a := by unfold nowOf; omega
  refine ⟨?_, e⟩
  unfold tokOf
  rw [e, Int.sub_self, Int.mul_zero]
  omega
theorem took_same {r u t a now n : Int} (o : Ok r u t a) (h : now ≤ a) (h0 : 0 ≤ n) (hn : n ≤ t) : tookB r u t a now n = true ∧ tookOf r u t a now n = t - n ∧ nowOf a now = a := by
  obtain ⟨e1, e2⟩ := tok_same o h
  unfold tookB tookOf
  rw [e1, if_pos ⟨h0, hn⟩]
  exact ⟨decide_eq_true ⟨h0, hn⟩, rfl, e2⟩
theorem took_not {r u t a now n : Int} (o : Ok r u t a) (h : now ≤ a) (hn : n < 0 ∨ t < n) : tookB r u t a now n = false ∧ tookOf r u t a now n = t ∧ nowOf a now = a := by
  obtain ⟨e1, e2⟩ := tok_same o h
  unfold tookB tookOf
  rw [e1, if_neg (by omega)]
  exact ⟨decide_eq_false (by omega), rfl, e2⟩

/-- What the law wants behind the wait. -/
def wantOf (r u n wt : Int) : Int := if 0 < r ∧ n ≤ wt then u else min u (u - n + r * wt)

theorem full_end {r u n wt : Int} (hr0 : 0 ≤ r) (hr1 : r ≤ 1048576) (hu0 : 0 ≤ u) (hu1 : u ≤ 1048576) (hn0 : 0 ≤ n) (hn1 : n ≤ u) (hw0 : 0 ≤ wt) (hw1 : wt ≤ 1073741824) :
    tokOf r u (u - n) 0 wt = wantOf r u n wt ∧ nowOf 0 wt = wt ∧ 0 ≤ r * wt ∧ r * wt ≤ 1125899906842624 ∧ 0 ≤ wantOf r u n wt ∧ wantOf r u n wt ≤ u := by
  have hp0 : 0 ≤ r * wt := Int.mul_nonneg hr0 hw0
  have hp1 : r * wt ≤ 1048576 * wt := Int.mul_le_mul_of_nonneg_right hr1 hw0
  have e : nowOf 0 wt = wt := by unfold nowOf; omega
  have ew : tokOf r u (u - n) 0 wt = wantOf r u n wt := by
    unfold tokOf wantOf
    rw [e, Int.sub_zero]
    split
    · rename_i hc
      have : 1 * wt ≤ r * wt := Int.mul_le_mul_of_nonneg_right (by omega) hw0
      omega
    · rfl
  refine ⟨ew, e, hp0, by omega, ?_, ?_⟩
  · unfold wantOf; split <;> omega
  · unfold wantOf; split <;> omega

/-- An int. -/
def Int64 (n : Int) : Prop := -9223372036854775808 ≤ n ∧ n ≤ 9223372036854775807

set_option maxHeartbeats 1000000 in
theorem full_walk (a0 a1 a2 a3 : Int) (w0 : Int64 a0) (w1 : Int64 a1) (w2 : Int64 a2) (w3 : Int64 a3) (w : World) :
    Calls Try.prog 5 #[.int .i64 a0, .int .i64 a1, .int .i64 a2, .int .i64 a3] w fun e w' => e = .returned (.bool true) ∧ Below w.heap.size w w' := by
  obtain ⟨p0, q0⟩ := w0
  obtain ⟨p1, q1⟩ := w1
  obtain ⟨p2, q2⟩ := w2
  obtain ⟨p3, q3⟩ := w3
  go_enter Try.func5, Try.ntmps5
  go_wp2_with fail
  refine (new_any a0 a1 _ p0 q0 p1 q1).mono ?_
  rintro e w1 ⟨rfl, rfl⟩
  have H0 : Hid (Bk (w.alloc (.cells #[.int .i64 (clip a0), .int .i64 (clip a1), .int .i64 (clip a1), .int .i64 0] 43)) w.heap.size (clip a0) (clip a1) (clip a1) 0) := b_new w _
  have l0 := (Below.refl w.heap.size w).alloc (Nat.le_refl _) (.cells #[.int .i64 (clip a0), .int .i64 (clip a1), .int .i64 (clip a1), .int .i64 0] 43)
  have ob := ok_new a0 a1
  generalize (w.alloc (.cells #[.int .i64 (clip a0), .int .i64 (clip a1), .int .i64 (clip a1), .int .i64 0] 43)) = w1 at *
  go_wp2_with fail
  refine (alive_any _).mono ?_
  rintro e w2 ⟨rfl, l1⟩
  have H1 : Hid (Bk w2 w.heap.size (clip a0) (clip a1) (clip a1) 0) := b_below l1 H0.out (b_lt H0.out)
  have l2 := l0.trans (l1.mono l0.size)
  clear l1 l0 H0
  go_wp2_with fail
  simp only [clip] at H1 ob
  have kr : 0 ≤ min (max a0 0) 1048576 ∧ min (max a0 0) 1048576 ≤ 1048576 := by omega
  have ku : 0 ≤ min (max a1 0) 1048576 ∧ min (max a1 0) 1048576 ≤ 1048576 := by omega
  have kn : 0 ≤ min (max a2 0) (min (max a1 0) 1048576) ∧ min (max a2 0) (min (max a1 0) 1048576) ≤ min (max a1 0) 1048576 := by omega
  have kw : 0 ≤ min (max a3 0) 1073741824 ∧ min (max a3 0) 1073741824 ≤ 1073741824 := by omega
  generalize min (max a2 0) (min (max a1 0) 1048576) = n at *
  generalize min (max a0 0) 1048576 = r at *
  generalize min (max a1 0) 1048576 = u at *
  generalize min (max a3 0) 1073741824 = wt at *
  obtain ⟨kr0, kr1⟩ := kr
  obtain ⟨ku0, ku1⟩ := ku
  obtain ⟨kn0, kn1⟩ := kn
  obtain ⟨kw0, kw1⟩ := kw
  clear p0 q0 p1 q1 p2 q2 p3 q3
  have okn : Ok r u (u - n) 0 := ⟨kr0, kr1, ku0, ku1, by omega, by omega, by omega, by omega⟩
  have H2 := H1
  refine (tokens_d _ r u u 0 0 u 0 _ H2 ob (tok_same ob (by omega))).mono ?_
  rintro e x3 ⟨rfl, H3, o3⟩
  have l3 := below_only l2 o3 (Nat.le_refl _) (Nat.le_refl _)
  clear H2 l2 o3
  go_wp2_with fail
  refine (take_d _ r u u 0 0 n (u - n) 0 true _ H3 ob (took_same ob (by omega) (by omega) (by omega))).mono ?_
  rintro e x4 ⟨rfl, H4, o4⟩
  have l4 := below_only l3 o4 (Nat.le_refl _) (Nat.le_refl _)
  clear H3 l3 o4
  go_wp2_with fail
  refine (take_d _ r u (u - n) 0 0 (u - n + 1) (u - n) 0 false _ H4 okn (took_not okn (by omega) (by omega))).mono ?_
  rintro e x5 ⟨rfl, H5, o5⟩
  have l5 := below_only l4 o5 (Nat.le_refl _) (Nat.le_refl _)
  clear H4 l4 o5
  go_wp2_with fail
  refine (take_d _ r u (u - n) 0 (-5) (-1) (u - n) 0 false _ H5 okn (took_not okn (by omega) (by omega))).mono ?_
  rintro e x6 ⟨rfl, H6, o6⟩
  have l6 := below_only l5 o6 (Nat.le_refl _) (Nat.le_refl _)
  clear H5 l5 o6
  go_wp2_with fail
  refine (tokens_d _ r u (u - n) 0 (-5) (u - n) 0 _ H6 okn (tok_same okn (by omega))).mono ?_
  rintro e x7 ⟨rfl, H7, o7⟩
  have l7 := below_only l6 o7 (Nat.le_refl _) (Nat.le_refl _)
  clear H6 l6 o7
  obtain ⟨f1, f2, f3, f4, f5, f6⟩ := full_end (n := n) kr0 kr1 ku0 ku1 kn0 kn1 kw0 kw1
  have F1 := hid f1
  have F2 := hid f2
  clear f1 f2
  by_cases hc : 0 < r ∧ n ≤ wt
  · obtain ⟨hc1, hc2⟩ := hc
    have fw : wantOf r u n wt = u := by unfold wantOf; rw [if_pos ⟨hc1, hc2⟩]
    rw [fw] at F1 f5 f6
    clear fw
    have okw : Ok r u u wt := ⟨kr0, kr1, ku0, ku1, by omega, by omega, by omega, by omega⟩
    go_wp2_with fail
    refine (tokens_d _ r u (u - n) 0 wt (u) wt _ H7 okn ⟨F1.out, F2.out⟩).mono ?_
    rintro e x8 ⟨rfl, H8, o8⟩
    have l8 := below_only l7 o8 (Nat.le_refl _) (Nat.le_refl _)
    clear H7 l7 o8
    go_wp2_with fail
    refine (tokens_d _ r u (u) wt (wt - 1) (u) wt _ H8 okw (tok_same okw (by omega))).mono ?_
    rintro e x9 ⟨rfl, H9, o9⟩
    have l9 := below_only l8 o9 (Nat.le_refl _) (Nat.le_refl _)
    clear H8 l8 o9
    go_wp2_with fail
    refine (take_d _ r u (u) wt wt (u) 0 wt true _ H9 okw (by rw [show (0 : Int) = u - (u) by omega]; exact took_same okw (by omega) (by omega) (by omega))).mono ?_
    rintro e x10 ⟨rfl, H10, o10⟩
    have l10 := below_only l9 o10 (Nat.le_refl _) (Nat.le_refl _)
    clear H9 l9 o10
    have okz : Ok r u 0 wt := ⟨kr0, kr1, ku0, ku1, by omega, by omega, by omega, by omega⟩
    go_wp2_with fail
    refine (tokens_d _ r u 0 wt wt 0 wt _ H10 okz (tok_same okz (by omega))).mono ?_
    rintro e x11 ⟨rfl, H11, o11⟩
    have l11 := below_only l10 o11 (Nat.le_refl _) (Nat.le_refl _)
    clear H10 l10 o11
    go_wp2_with fail
    go_ret
    exact ⟨rfl, l11⟩
  · have fw : wantOf r u n wt = min u (u - n + r * wt) := by unfold wantOf; rw [if_neg hc]
    rw [fw] at F1 f5 f6
    clear fw
    have okw : Ok r u (min u (u - n + r * wt)) wt := ⟨kr0, kr1, ku0, ku1, by omega, by omega, by omega, by omega⟩
    by_cases hc1 : 0 < r
    · have hc2 : wt < n := by omega
      clear hc
      go_wp2_with fail
      refine (tokens_d _ r u (u - n) 0 wt (min u (u - n + r * wt)) wt _ H7 okn ⟨F1.out, F2.out⟩).mono ?_
      rintro e x8 ⟨rfl, H8, o8⟩
      have l8 := below_only l7 o8 (Nat.le_refl _) (Nat.le_refl _)
      clear H7 l7 o8
      go_wp2_with fail
      refine (tokens_d _ r u (min u (u - n + r * wt)) wt (wt - 1) (min u (u - n + r * wt)) wt _ H8 okw (tok_same okw (by omega))).mono ?_
      rintro e x9 ⟨rfl, H9, o9⟩
      have l9 := below_only l8 o9 (Nat.le_refl _) (Nat.le_refl _)
      clear H8 l8 o9
      go_wp2_with fail
      refine (take_d _ r u (min u (u - n + r * wt)) wt wt (min u (u - n + r * wt)) 0 wt true _ H9 okw (by rw [show (0 : Int) = min u (u - n + r * wt) - (min u (u - n + r * wt)) by omega]; exact took_same okw (by omega) (by omega) (by omega))).mono ?_
      rintro e x10 ⟨rfl, H10, o10⟩
      have l10 := below_only l9 o10 (Nat.le_refl _) (Nat.le_refl _)
      clear H9 l9 o10
      have okz : Ok r u 0 wt := ⟨kr0, kr1, ku0, ku1, by omega, by omega, by omega, by omega⟩
      go_wp2_with fail
      refine (tokens_d _ r u 0 wt wt 0 wt _ H10 okz (tok_same okz (by omega))).mono ?_
      rintro e x11 ⟨rfl, H11, o11⟩
      have l11 := below_only l10 o11 (Nat.le_refl _) (Nat.le_refl _)
      clear H10 l10 o11
      go_wp2_with fail
      go_ret
      exact ⟨rfl, l11⟩
    · clear hc
      go_wp2_with fail
      refine (tokens_d _ r u (u - n) 0 wt (min u (u - n + r * wt)) wt _ H7 okn ⟨F1.out, F2.out⟩).mono ?_
      rintro e x8 ⟨rfl, H8, o8⟩
      have l8 := below_only l7 o8 (Nat.le_refl _) (Nat.le_refl _)
      clear H7 l7 o8
      go_wp2_with fail
      refine (tokens_d _ r u (min u (u - n + r * wt)) wt (wt - 1) (min u (u - n + r * wt)) wt _ H8 okw (tok_same okw (by omega))).mono ?_
      rintro e x9 ⟨rfl, H9, o9⟩
      have l9 := below_only l8 o9 (Nat.le_refl _) (Nat.le_refl _)
      clear H8 l8 o9
      go_wp2_with fail
      refine (take_d _ r u (min u (u - n + r * wt)) wt wt (min u (u - n + r * wt)) 0 wt true _ H9 okw (by rw [show (0 : Int) = min u (u - n + r * wt) - (min u (u - n + r * wt)) by omega]; exact took_same okw (by omega) (by omega) (by omega))).mono ?_
      rintro e x10 ⟨rfl, H10, o10⟩
      have l10 := below_only l9 o10 (Nat.le_refl _) (Nat.le_refl _)
      clear H9 l9 o10
      have okz : Ok r u 0 wt := ⟨kr0, kr1, ku0, ku1, by omega, by omega, by omega, by omega⟩
      go_wp2_with fail
      refine (tokens_d _ r u 0 wt wt 0 wt _ H10 okz (tok_same okz (by omega))).mono ?_
      rintro e x11 ⟨rfl, H11, o11⟩
      have l11 := below_only l10 o11 (Nat.le_refl _) (Nat.le_refl _)
      clear H10 l10 o11
      go_wp2_with fail
      go_ret
      exact ⟨rfl, l11⟩
end Go.Proofs.Ytegpabajbmgpjaa
