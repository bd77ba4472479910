/-
  The walk of MeterBounds.
-/
import Derived.Test.YtmgjeinjifjaaaaA
import Derived.Test.YtmgjeinjifjaaaaM
import Derived.Test.YtmgjeinjifjaaaaS
namespace Go.Proofs.Ytmgjeinjifjaaaa
open Go.RowKit

set_option maxHeartbeats 1000000 in
theorem bounds_walk (a0 : Int) (A : Option Addr) (len cap : Nat) (f : Nat → Int) (i0 : Int64 a0) (w : World) (hlc : len ≤ cap) (hcm : cap ≤ maxLen) (hel : Elems w A cap (fun i => .int .i64 (f i))) (hf : ∀ i, Int64 (f i)) :
    Calls Try.prog 4 #[.int .i64 a0, .slice A len cap] w fun e w' => e = .returned (.bool true) ∧ Below w.heap.size w w' := by
  obtain ⟨p0, q0⟩ := i0
  unfold maxLen at hcm
  have HE := hid hel
  have HF := hid hf
  clear hel hf
  go_enter Try.func4, Try.ntmps4
  go_wp2_with fail
  refine (new_any a0 _ p0 q0).mono ?_
  rintro e w1 ⟨rfl, rfl⟩
  have H8 : Hid (MAt (w.alloc (.cells #[.int .i64 (mclip a0), .int .i64 0, .int .i64 0] 61)) w.heap.size (mclip a0) 0 0) := b_new w _
  have l8 := (Below.refl w.heap.size w).alloc (Nat.le_refl _) (.cells #[.int .i64 (mclip a0), .int .i64 0, .int .i64 0] 61)
  generalize (w.alloc (.cells #[.int .i64 (mclip a0), .int .i64 0, .int .i64 0] 61)) = w1 at *
  go_wp2_with fail
  refine (alive_any _).mono ?_
  rintro e w2 ⟨rfl, l9⟩
  have H10 := hid (show MAt w2 _ _ _ _ from b_below l9 H8.out (b_lt H8.out))
  have l10 := l8.trans (l9.mono l8.size)
  clear l9 l8 H8
  go_upto_region 7 with (fail)
  simp only [mclip] at H10
  have km : 0 ≤ min (max a0 0) 1099511627776 ∧ min (max a0 0) 1099511627776 ≤ 1099511627776 := by omega
  generalize min (max a0 0) 1099511627776 = M at *
  obtain ⟨km0, km1⟩ := km
  clear p0 q0
  go_wp2_with fail
  go_loopw [6, 7, 23] (fun hv pv iv wr => ∃ (k : Nat) (H P : Int), k ≤ len ∧ iv = .int .i64 (k : Int) ∧ hv = .int .i64 H ∧ pv = .int .i64 P ∧ 0 ≤ H ∧ H ≤ P ∧ P ≤ M ∧ Hid (MAt wr w.heap.size M H P) ∧ Below w.heap.size w wr) (fun _ _ iv _ => len - (intOf iv).toNat)
  case atStart => exact ⟨0, 0, 0, Nat.zero_le _, rfl, rfl, rfl, Int.le_refl _, Int.le_refl _, km0, H10, l10⟩
  case round =>
    obtain ⟨k, H, P, hk, rfl, rfl, rfl, h0, hP, hM, HM, hl⟩ := hrel
    clear H10 l10
    by_cases hlt : k < len
    · obtain ⟨ab, aoff, rfl, hcell⟩ := (HE.out.below hl).at_ k (by omega)
      obtain ⟨n0, n1⟩ := HF.out k
      have ok : MOk M H P := ⟨h0, by omega, km1, by omega⟩
      generalize f k = n at *
      by_cases hev : (k : Int) % 2 = 0
      · have he : ((k : Int) % 2 == 0) = true := by simp [hev]
        have Hev := hid hev
        clear hev
        by_cases htk : 0 ≤ n ∧ n ≤ M - H
        · obtain ⟨t0, t1⟩ := htk
          go_wp2_with fail
          refine (take_y _ M H P n (H + n) (max P (H + n)) _ HM ok ⟨t0, t1⟩ rfl rfl).mono ?_
          rintro e w3 ⟨rfl, H3, o3⟩
          have l3 := below_only hl o3 (Nat.le_refl _) (Nat.le_refl _)
          clear HM hl o3
          go_wp2_with fail
          refine (held_d _ M (H + n) (max P (H + n)) _ H3 ⟨by omega, by omega, by omega, by omega⟩).mono ?_
          rintro e w4 ⟨rfl, H4, o4⟩
          have l4 := below_only l3 o4 (Nat.le_refl _) (Nat.le_refl _)
          clear H3 l3 o4
          go_wp2_with fail
          refine (peak_d _ M (H + n) (max P (H + n)) _ H4).mono ?_
          rintro e w5 ⟨rfl, H5, o5⟩
          have l5 := below_only l4 o5 (Nat.le_refl _) (Nat.le_refl _)
          clear H4 l4 o5
          go_wp2_with fail
          refine (room_d _ M (H + n) (max P (H + n)) (M - (H + n)) _ H5 ⟨by omega, by omega, by omega, by omega⟩ rfl).mono ?_
          rintro e w6 ⟨rfl, H6, o6⟩
          have l6 := below_only l5 o6 (Nat.le_refl _) (Nat.le_refl _)
          clear H5 l5 o6
          go_wp2_with fail
          go_roundw
          case rel => exact ⟨k + 1, H + n, max P (H + n), by omega, by go_num, rfl, rfl, by omega, by omega, by omega, H6, l6⟩
          case measure => simp [intOf]; omega
        · go_wp2_with fail
          refine (take_n _ M H P n _ HM ok (by omega)).mono ?_
          rintro e w3 ⟨rfl, H3, o3⟩
          have l3 := below_only hl o3 (Nat.le_refl _) (Nat.le_refl _)
          have e3 : max P H = P := by omega
          have H3' : Hid (MAt w3 w.heap.size M H (max P H)) := by rw [e3]; exact H3
          clear HM hl o3 H3 e3 htk
          go_wp2_with fail
          refine (held_d _ M H (max P H) _ H3' ⟨by omega, by omega, by omega, by omega⟩).mono ?_
          rintro e w4 ⟨rfl, H4, o4⟩
          have l4 := below_only l3 o4 (Nat.le_refl _) (Nat.le_refl _)
          clear H3' l3 o4
          go_wp2_with fail
          refine (peak_d _ M H (max P H) _ H4).mono ?_
          rintro e w5 ⟨rfl, H5, o5⟩
          have l5 := below_only l4 o5 (Nat.le_refl _) (Nat.le_refl _)
          clear H4 l4 o5
          go_wp2_with fail
          refine (room_d _ M H (max P H) (M - H) _ H5 ⟨by omega, by omega, by omega, by omega⟩ rfl).mono ?_
          rintro e w6 ⟨rfl, H6, o6⟩
          have l6 := below_only l5 o6 (Nat.le_refl _) (Nat.le_refl _)
          clear H5 l5 o6
          go_wp2_with fail
          go_roundw
          case rel => exact ⟨k + 1, H, max P H, by omega, by go_num, rfl, rfl, by omega, by omega, by omega, H6, l6⟩
          case measure => simp [intOf]; omega
      · have he : ((k : Int) % 2 == 0) = false := by simp [hev]
        have Hev := hid hev
        clear hev
        have hg : 0 ≤ min (max n 0) H ∧ min (max n 0) H ≤ H := by omega
        obtain ⟨g, hgg⟩ : ∃ g, g = min (max n 0) H := ⟨_, rfl⟩
        rw [← hgg] at hg
        obtain ⟨g0, g1⟩ := hg
        have Hg := hid hgg
        clear hgg
        go_wp2_with fail
        refine (give_d _ M H P n g (H - g) _ HM ok n0 n1 Hg.out.symm rfl).mono ?_
        rintro e w3 ⟨rfl, H3, o3⟩
        have l3 := below_only hl o3 (Nat.le_refl _) (Nat.le_refl _)
        have e3 : max P (H - g) = P := by omega
        have H3' : Hid (MAt w3 w.heap.size M (H - g) (max P (H - g))) := by rw [e3]; exact H3
        clear HM hl o3 H3 e3
        go_wp2_with fail
        refine (held_d _ M (H - g) (max P (H - g)) _ H3' ⟨by omega, by omega, by omega, by omega⟩).mono ?_
        rintro e w4 ⟨rfl, H4, o4⟩
        have l4 := below_only l3 o4 (Nat.le_refl _) (Nat.le_refl _)
        clear H3' l3 o4
        go_wp2_with fail
        refine (peak_d _ M (H - g) (max P (H - g)) _ H4).mono ?_
        rintro e w5 ⟨rfl, H5, o5⟩
        have l5 := below_only l4 o5 (Nat.le_refl _) (Nat.le_refl _)
        clear H4 l4 o5
        go_wp2_with fail
        refine (room_d _ M (H - g) (max P (H - g)) (M - (H - g)) _ H5 ⟨by omega, by omega, by omega, by omega⟩ rfl).mono ?_
        rintro e w6 ⟨rfl, H6, o6⟩
        have l6 := below_only l5 o6 (Nat.le_refl _) (Nat.le_refl _)
        clear H5 l5 o6
        go_wp2_with fail
        go_roundw
        case rel => exact ⟨k + 1, H - g, max P (H - g), by omega, by go_num, rfl, rfl, by omega, by omega, by omega, H6, l6⟩
        case measure => simp [intOf]; omega
    · go_wp2_with fail
      go_ret
      exact ⟨rfl, hl⟩
end Go.Proofs.Ytmgjeinjifjaaaa
