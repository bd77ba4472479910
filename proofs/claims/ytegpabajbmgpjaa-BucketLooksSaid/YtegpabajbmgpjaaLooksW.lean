/-
  The walk of BucketLooks.
-/
import Derived.Test.YtegpabajbmgpjaaFullW
import Derived.Test.YtegpabajbmgpjaaM
import Derived.Test.YtegpabajbmgpjaaS
import Derived.LoopTactic
namespace Go.Proofs.Ytegpabajbmgpjaa
open Go.RowKit

/-- A bucket that is looked at, at a time: as if it had been looked at only now. -/
theorem tok_look {r u c now d : Int} (hr0 : 0 ≤ r) (hd : 0 ≤ d) (hn0 : 0 ≤ now) (hn1 : now + d ≤ 1099511627776) :
    tokOf r u (min u (c + r * now)) now (now + d) = min u (c + r * (now + d)) ∧ nowOf now (now + d) = now + d := by
  have e : nowOf now (now + d) = now + d := by unfold nowOf; omega
  refine ⟨?_, e⟩
  unfold tokOf
  rw [e, show now + d - now = d by omega, Int.mul_add]
  have : 0 ≤ r * d := Int.mul_nonneg hr0 hd
  omega

theorem tok_look0 {r u c now : Int} (hn0 : 0 ≤ now) (hn1 : now ≤ 1099511627776) :
    tokOf r u c 0 now = min u (c + r * now) ∧ nowOf 0 now = now := by
  have e : nowOf 0 now = now := by unfold nowOf; omega
  refine ⟨?_, e⟩
  unfold tokOf
  rw [e, Int.sub_zero]

theorem ok_look {r u c now : Int} (hr0 : 0 ≤ r) (hr1 : r ≤ 1048576) (hu0 : 0 ≤ u) (hu1 : u ≤ 1048576) (hc0 : 0 ≤ c) (hn0 : 0 ≤ now) (hn1 : now ≤ 1099511627776) : Ok r u (min u (c + r * now)) now := by
  have : 0 ≤ r * now := Int.mul_nonneg hr0 hn0
  refine ⟨hr0, hr1, hu0, hu1, ?_, ?_, hn0, hn1⟩ <;> omega

set_option maxHeartbeats 1000000 in
theorem looks_walk (a0 a1 a2 : Int) (A : Option Addr) (len cap : Nat) (f : Nat → Int) (w0 : Int64 a0) (w1 : Int64 a1) (w2 : Int64 a2) (w : World) (hlc : len ≤ cap) (_hcm : cap ≤ maxLen) (hel : Elems w A cap (fun i => .int .i64 (f i))) :
    Calls Try.prog 6 #[.int .i64 a0, .int .i64 a1, .int .i64 a2, .slice A len cap] w fun e w' => e = .returned (.bool true) ∧ Below w.heap.size w w' := by
  obtain ⟨p0, q0⟩ := w0
  obtain ⟨p1, q1⟩ := w1
  obtain ⟨p2, q2⟩ := w2
  unfold maxLen at _hcm
  have HE := hid hel
  clear hel
  go_enter Try.func6, Try.ntmps6
  go_wp2_with fail
  refine (new_any a0 a1 _ p0 q0 p1 q1).mono ?_
  rintro e w1 ⟨rfl, rfl⟩
  have H0 : Hid (Bk (w.alloc (.cells #[.int .i64 (clip a0), .int .i64 (clip a1), .int .i64 (clip a1), .int .i64 0] 43)) w.heap.size (clip a0) (clip a1) (clip a1) 0) := b_new w _
  have l0 := (Below.refl w.heap.size w).alloc (Nat.le_refl _) (.cells #[.int .i64 (clip a0), .int .i64 (clip a1), .int .i64 (clip a1), .int .i64 0] 43)
  have ob := ok_new a0 a1
  generalize (w.alloc (.cells #[.int .i64 (clip a0), .int .i64 (clip a1), .int .i64 (clip a1), .int .i64 0] 43)) = w1 at *
  go_wp2_with fail
  refine (new_any a0 a1 _ p0 q0 p1 q1).mono ?_
  rintro e w2 ⟨rfl, rfl⟩
  have G1 : Hid (Bk (w1.alloc (.cells #[.int .i64 (clip a0), .int .i64 (clip a1), .int .i64 (clip a1), .int .i64 0] 43)) w1.heap.size (clip a0) (clip a1) (clip a1) 0) := b_new w1 _
  have H1 : Hid (Bk (w1.alloc (.cells #[.int .i64 (clip a0), .int .i64 (clip a1), .int .i64 (clip a1), .int .i64 0] 43)) w.heap.size (clip a0) (clip a1) (clip a1) 0) := b_alloc H0.out _
  have l1 := l0.alloc l0.size (.cells #[.int .i64 (clip a0), .int .i64 (clip a1), .int .i64 (clip a1), .int .i64 0] 43)
  have hne : w.heap.size < w1.heap.size := b_lt H0.out
  obtain ⟨bb, hbb⟩ : ∃ bb, bb = w1.heap.size := ⟨_, rfl⟩
  rw [← hbb] at G1 hne ⊢
  clear hbb l0 H0
  generalize (w1.alloc (.cells #[.int .i64 (clip a0), .int .i64 (clip a1), .int .i64 (clip a1), .int .i64 0] 43)) = w2 at *
  go_wp2_with fail
  refine (alive_any _).mono ?_
  rintro e w3 ⟨rfl, l3⟩
  have H2 := hid (show Bk w3 _ _ _ _ _ from b_below l3 H1.out (b_lt H1.out))
  have G2 := hid (show Bk w3 _ _ _ _ _ from b_below l3 G1.out (b_lt G1.out))
  have l2 := l1.trans (l3.mono l1.size)
  clear l3 l1 H1 G1
  by_cases hL : 40 < len
  · go_wp2_with fail
    go_ret
    exact ⟨rfl, l2⟩
  · have hd : decide ((40 : Int) < (len : Int)) = false := by simp; omega
    simp only [clip] at H2 G2 ob
    have kr : 0 ≤ min (max a0 0) 1048576 ∧ min (max a0 0) 1048576 ≤ 1048576 := by omega
    have ku : 0 ≤ min (max a1 0) 1048576 ∧ min (max a1 0) 1048576 ≤ 1048576 := by omega
    generalize min (max a0 0) 1048576 = r at *
    generalize min (max a1 0) 1048576 = u at *
    obtain ⟨kr0, kr1⟩ := kr
    obtain ⟨ku0, ku1⟩ := ku
    clear p0 q0 p1 q1
    go_wp2_with fail
    refine (tokens_d _ r u u 0 0 u 0 _ H2 ob (tok_same ob (by omega))).mono ?_
    rintro e x3 ⟨rfl, H3, o3⟩
    have G3 := hid (G2.out.keep o3 (by omega))
    have l3 := below_only l2 o3 (Nat.le_refl _) (Nat.le_refl _)
    clear H2 G2 l2 o3
    go_wp2_with fail
    have kn : 0 ≤ min (max a2 0) u ∧ min (max a2 0) u ≤ u := by omega
    generalize min (max a2 0) u = n at *
    obtain ⟨kn0, kn1⟩ := kn
    clear p2 q2
    have okn : Ok r u (u - n) 0 := ⟨kr0, kr1, ku0, ku1, by omega, by omega, by omega, by omega⟩
    refine (take_d _ r u u 0 0 n (u - n) 0 true _ H3 ob (took_same ob (by omega) (by omega) (by omega))).mono ?_
    rintro e x4 ⟨rfl, H4, o4⟩
    have G4 := hid (G3.out.keep o4 (by omega))
    have l4 := below_only l3 o4 (Nat.le_refl _) (Nat.le_refl _)
    clear H3 G3 l3 o4
    go_wp2_with fail
    refine (tokens_d _ r u u 0 0 u 0 _ G4 ob (tok_same ob (by omega))).mono ?_
    rintro e x5 ⟨rfl, G5, o5⟩
    have H5 := hid (H4.out.keep o5 (by omega))
    have l5 := below_only l4 o5 (Nat.le_of_lt hne) (Nat.le_refl _)
    clear H4 G4 l4 o5
    go_wp2_with fail
    refine (tokens_d _ r u (u - n) 0 0 (u - n) 0 _ H5 okn (tok_same okn (by omega))).mono ?_
    rintro e x6 ⟨rfl, H6, o6⟩
    have G6 := hid (G5.out.keep o6 (by omega))
    have l6 := below_only l5 o6 (Nat.le_refl _) (Nat.le_refl _)
    clear H5 G5 l5 o6
    have hs : (u == u - n + n) = true := by rw [show u - n + n = u by omega]; exact beq_self_eq_true u
    have hs2 : (u != u - n + n) = false := by rw [show u - n + n = u by omega]; exact bne_self_eq_false u
    go_wp2_with fail
    refine (take_d _ r u u 0 0 n (u - n) 0 true _ G6 ob (took_same ob (by omega) (by omega) (by omega))).mono ?_
    rintro e x7 ⟨rfl, G7, o7⟩
    have H7 := hid (H6.out.keep o7 (by omega))
    have l7 := below_only l6 o7 (Nat.le_of_lt hne) (Nat.le_refl _)
    clear H6 G6 l6 o7
    go_wp2_with fail
    go_loopw [11, 59] (fun nw i wr => ∃ (k : Nat) (T : Int), k ≤ len ∧ 0 ≤ T ∧ T ≤ 1024 * (k : Int) ∧ i = .int .i64 (k : Int) ∧ nw = .int .i64 T ∧ Hid (Bk wr w.heap.size r u (min u (u - n + r * T)) T) ∧ Hid (Bk wr bb r u (u - n) 0) ∧ Below w.heap.size w wr) (fun _ i _ => len - (intOf i).toNat)
    case atStart =>
      exact ⟨0, 0, Nat.zero_le _, Int.le_refl _, by omega, rfl, rfl, hid (H7.out.to (by rw [Int.mul_zero]; omega)), G7, l7⟩
    case round =>
      obtain ⟨k, T, hk, hT0, hT1, rfl, rfl, HA, HB, hl⟩ := hrel
      by_cases hlt : k < len
      · obtain ⟨ab, aoff, rfl, hcell⟩ := (HE.out.below hl).at_ k (by omega)
        have okA := ok_look (c := u - n) kr0 kr1 ku0 ku1 (by omega) hT0 (show T ≤ 1099511627776 by omega)
        go_wp2_with fail
        have hm : 0 ≤ f k % 1024 ∧ f k % 1024 < 1024 := by omega
        generalize f k % 1024 = dd at *
        obtain ⟨hm0, hm1⟩ := hm
        refine (tokens_d _ r u (min u (u - n + r * T)) T (T + dd) (min u (u - n + r * (T + dd))) (T + dd) _ HA okA (tok_look kr0 hm0 hT0 (by omega))).mono ?_
        rintro e x8 ⟨rfl, H8, o8⟩
        have G8 := hid (HB.out.keep o8 (by omega))
        have l8 := below_only hl o8 (Nat.le_refl _) (Nat.le_refl _)
        clear HA HB hl o8 okA
        go_wp2_with fail
        go_roundw
        case rel => exact ⟨k + 1, T + dd, by omega, by omega, by omega, by go_num, rfl, H8, G8, l8⟩
        case measure => simp [intOf]; omega
      · have okA := ok_look (c := u - n) kr0 kr1 ku0 ku1 (by omega) hT0 (show T ≤ 1099511627776 by omega)
        go_wp2_with fail
        refine (tokens_d _ r u (min u (u - n + r * T)) T T (min u (u - n + r * T)) T _ HA okA (tok_same okA (Int.le_refl _))).mono ?_
        rintro e x8 ⟨rfl, H8, o8⟩
        have G8 := hid (HB.out.keep o8 (by omega))
        have l8 := below_only hl o8 (Nat.le_refl _) (Nat.le_refl _)
        clear HA HB hl o8
        go_wp2_with fail
        refine (tokens_d _ r u (u - n) 0 T (min u (u - n + r * T)) T _ G8 okn (tok_look0 hT0 (by omega))).mono ?_
        rintro e x9 ⟨rfl, G9, o9⟩
        have H9 := hid (H8.out.keep o9 (by omega))
        have l9 := below_only l8 o9 (Nat.le_of_lt hne) (Nat.le_refl _)
        clear H8 G8 l8 o9
        go_wp2_with fail
        refine (tokens_d _ r u (min u (u - n + r * T)) T (T + 5) (min u (u - n + r * (T + 5))) (T + 5) _ H9 okA (tok_look kr0 (by omega) hT0 (by omega))).mono ?_
        rintro e x10 ⟨rfl, H10, o10⟩
        have G10 := hid (G9.out.keep o10 (by omega))
        have l10 := below_only l9 o10 (Nat.le_refl _) (Nat.le_refl _)
        clear H9 G9 l9 o10
        go_wp2_with fail
        refine (tokens_d _ r u (min u (u - n + r * T)) T (T + 5) (min u (u - n + r * (T + 5))) (T + 5) _ G10 okA (tok_look kr0 (by omega) hT0 (by omega))).mono ?_
        rintro e x11 ⟨rfl, G11, o11⟩
        have l11 := below_only l10 o11 (Nat.le_of_lt hne) (Nat.le_refl _)
        go_wp2_with fail
        go_ret
        exact ⟨rfl, l11⟩
end Go.Proofs.Ytegpabajbmgpjaa
