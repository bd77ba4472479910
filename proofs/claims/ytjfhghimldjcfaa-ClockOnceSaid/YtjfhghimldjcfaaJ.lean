/-
  The library's heap: down.
-/
import Derived.Test.YtjfhghimldjcfaaI
namespace Go.Proofs.Ytjfhghimldjcfaa
open Go.RowKit

set_option maxHeartbeats 2000000 in
theorem down_any (a : Addr) (A : Option Addr) (N cap : Nat) (q : Nat → Int × Int) (n : Nat) (w : World) (h : QAt w a A N cap q) (hnN : n ≤ N) (hd : DownInv q n 0) (hN : N ≤ 1099511627776) :
    Calls Try.prog 25 #[.iface 59 (.pointer (some a)), .int .i64 0, .int .i64 (n : Int)] w fun e w' => ∃ (b : Bool) (q' : Nat → Int × Int), e = .returned (.bool b) ∧ Hid (QAt w' a A N cap q') ∧ HeapQ q' n ∧ (∀ d, MemQ d q' n ↔ MemQ d q n) ∧ (∀ x, n ≤ x → q' x = q x) ∧ Only (ab A) w w' := by
  have H := hid h
  have HD := hid hd
  clear h hd
  go_enter Try.func25, Try.ntmps25
  go_wp2_with fail
  go_loopw [7] (fun iv wr => ∃ (i : Nat) (q' : Nat → Int × Int), iv = .int .i64 (i : Int) ∧ i ≤ n ∧ Hid (QAt wr a A N cap q') ∧ Hid (DownInv q' n i) ∧ Hid (∀ d, MemQ d q' n ↔ MemQ d q n) ∧ Hid (∀ x, n ≤ x → q' x = q x) ∧ Only (ab A) w wr) (fun iv _ => n - (intOf iv).toNat)
  case atStart => exact ⟨0, q, rfl, Nat.zero_le _, H, HD, hid (fun _ => Iff.rfl), hid (fun _ _ => rfl), Only.refl _ _⟩
  case round =>
    clear HD H
    obtain ⟨i, q', rfl, hi, HQ, HD, HM, HT, o⟩ := hrel
    obtain ⟨c1, hc1⟩ : ∃ c1, c1 = 2 * i + 1 := ⟨_, rfl⟩
    obtain ⟨c2, hc2⟩ : ∃ c2, c2 = c1 + 1 := ⟨_, rfl⟩
    have e1 : 2 * (i : Int) + 1 = (c1 : Int) := by omega
    have e2 : (c1 : Int) + 1 = (c2 : Int) := by omega
    have hb1 : c1 ≤ 4000000000000 := by omega
    have hb2 : c2 ≤ 4000000000000 := by omega
    by_cases h1 : c1 < n
    · have h1' : ¬ (n : Int) ≤ (c1 : Int) := by omega
      have hp1 : (c1 - 1) / 2 = i := by omega
      have hp2 : (c2 - 1) / 2 = i := by omega
      have hi1 : i < c1 := by omega
      have hi2 : i < c2 := by omega
      have HC : Hid (c2 = c1 + 1 ∧ c1 = 2 * i + 1) := hid ⟨hc2, hc1⟩
      have hin : i < N := by omega
      have hc1N : c1 < N := by omega
      have hp10 : 0 < c1 := by omega
      have hp20 : 0 < c2 := by omega
      clear hc1 hc2
      by_cases h2 : c2 < n
      · have hc2N : c2 < N := by omega
        have hc := HQ.out.cell
        have hm := m_less a _ _ hc
        clear hc
        go_wp2_with fail
        refine (less_any A N cap q' c2 c1 _ HQ.out.row hc2N hc1N).mono ?_
        rintro e w1 ⟨rfl, o1⟩
        have H1 := hid (HQ.out.same o1)
        have o3 := o.trans (o1.mono (fun _ h => h.elim))
        clear hm o1 o HQ
        by_cases hl : dlt (q' c2) (q' c1)
        · have hmin : Hid (∀ x, 0 < x → x < n → (x - 1) / 2 = i → ¬ dlt (q' x) (q' c2)) := hid (fun x hx1 hx2 hx3 => by
            obtain ⟨g1, g2⟩ := HC.out
            have hx : x = c1 ∨ x = c2 := by omega
            rcases hx with rfl | rfl
            · exact dlt_asymm hl
            · unfold dlt; omega)
          have hc := H1.out.cell
          have hm := m_less a _ _ hc
          clear hc
          go_wp2_with fail
          refine (less_any A N cap q' c2 i _ H1.out.row hc2N hin).mono ?_
          rintro e w2 ⟨rfl, o2⟩
          have H2 := hid (H1.out.same o2)
          have o4 := o3.trans (o2.mono (fun _ h => h.elim))
          clear hm o2 o3 H1
          by_cases hl3 : dlt (q' c2) (q' i)
          · have hl4 := hl3
            have hc := H2.out.cell
            have hm2 := m_swap a _ _ hc
            clear hc
            go_wp2_with fail
            refine (swap_any A N cap q' i c2 _ H2.out.row hin hc2N).mono ?_
            rintro e w3 ⟨rfl, hr, o5⟩
            have H3 := hid (H2.out.swap hr o5)
            have o6 := o4.trans o5
            clear hm2
            go_wp2_with fail
            go_roundw
            case rel => exact ⟨c2, _, rfl, by omega, H3, hid (down_step HD.out hp20 h2 hp2 hmin.out hl4), hid (fun d => (mem_swp (by omega) h2 d).trans (HM.out d)), hid (fun x hx => (swp_o q' (by omega) (by omega)).trans (HT.out x hx)), o6⟩
            case measure => simp [intOf]; omega
          · have hl4 := hl3
            go_wp2_with fail
            go_ret
            exact ⟨_, q', rfl, H2, down_done HD.out (fun x hx1 hx2 hx3 => dlt_neg (hmin.out x hx1 hx2 hx3) hl4), HM.out, HT.out, o4⟩
        · have hmin : Hid (∀ x, 0 < x → x < n → (x - 1) / 2 = i → ¬ dlt (q' x) (q' c1)) := hid (fun x hx1 hx2 hx3 => by
            obtain ⟨g1, g2⟩ := HC.out
            have hx : x = c1 ∨ x = c2 := by omega
            rcases hx with rfl | rfl
            · unfold dlt; omega
            · exact hl)
          have hc := H1.out.cell
          have hm := m_less a _ _ hc
          clear hc
          go_wp2_with fail
          refine (less_any A N cap q' c1 i _ H1.out.row hc1N hin).mono ?_
          rintro e w2 ⟨rfl, o2⟩
          have H2 := hid (H1.out.same o2)
          have o4 := o3.trans (o2.mono (fun _ h => h.elim))
          clear hm o2 o3 H1
          by_cases hl3 : dlt (q' c1) (q' i)
          · have hl4 := hl3
            have hc := H2.out.cell
            have hm2 := m_swap a _ _ hc
            clear hc
            go_wp2_with fail
            refine (swap_any A N cap q' i c1 _ H2.out.row hin hc1N).mono ?_
            rintro e w3 ⟨rfl, hr, o5⟩
            have H3 := hid (H2.out.swap hr o5)
            have o6 := o4.trans o5
            clear hm2
            go_wp2_with fail
            go_roundw
            case rel => exact ⟨c1, _, rfl, by omega, H3, hid (down_step HD.out hp10 h1 hp1 hmin.out hl4), hid (fun d => (mem_swp (by omega) h1 d).trans (HM.out d)), hid (fun x hx => (swp_o q' (by omega) (by omega)).trans (HT.out x hx)), o6⟩
            case measure => simp [intOf]; omega
          · have hl4 := hl3
            go_wp2_with fail
            go_ret
            exact ⟨_, q', rfl, H2, down_done HD.out (fun x hx1 hx2 hx3 => dlt_neg (hmin.out x hx1 hx2 hx3) hl4), HM.out, HT.out, o4⟩
      · have hmin : Hid (∀ x, 0 < x → x < n → (x - 1) / 2 = i → ¬ dlt (q' x) (q' c1)) := hid (fun x hx1 hx2 hx3 => by
          obtain ⟨g1, g2⟩ := HC.out
          obtain rfl : x = c1 := by omega
          unfold dlt; omega)
        have hc := HQ.out.cell
        have hm := m_less a _ _ hc
        clear hc
        go_wp2_with fail
        refine (less_any A N cap q' c1 i _ HQ.out.row hc1N hin).mono ?_
        rintro e w2 ⟨rfl, o2⟩
        have H2 := hid (HQ.out.same o2)
        have o4 := o.trans (o2.mono (fun _ h => h.elim))
        clear hm o2 o HQ
        by_cases hl3 : dlt (q' c1) (q' i)
        · have hl4 := hl3
          have hc := H2.out.cell
          have hm2 := m_swap a _ _ hc
          clear hc
          go_wp2_with fail
          refine (swap_any A N cap q' i c1 _ H2.out.row hin hc1N).mono ?_
          rintro e w3 ⟨rfl, hr, o5⟩
          have H3 := hid (H2.out.swap hr o5)
          have o6 := o4.trans o5
          clear hm2
          go_wp2_with fail
          go_roundw
          case rel => exact ⟨c1, _, rfl, by omega, H3, hid (down_step HD.out hp10 h1 hp1 hmin.out hl4), hid (fun d => (mem_swp (by omega) h1 d).trans (HM.out d)), hid (fun x hx => (swp_o q' (by omega) (by omega)).trans (HT.out x hx)), o6⟩
          case measure => simp [intOf]; omega
        · have hl4 := hl3
          go_wp2_with fail
          go_ret
          exact ⟨_, q', rfl, H2, down_done HD.out (fun x hx1 hx2 hx3 => dlt_neg (hmin.out x hx1 hx2 hx3) hl4), HM.out, HT.out, o4⟩
    · have h1' : (n : Int) ≤ (c1 : Int) := by omega
      have HC := hid hc1
      clear hc1 hc2
      go_wp2_with fail
      go_ret
      exact ⟨_, q', rfl, HQ, down_done HD.out (fun x hx1 hx2 hx3 => by have := HC.out; omega), HM.out, HT.out, o⟩
end Go.Proofs.Ytjfhghimldjcfaa
