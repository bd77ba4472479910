/-
  The walk of BucketBound.
-/
import Derived.Test.YtegpabajbmgpjaaBoundL
import Derived.Test.YtegpabajbmgpjaaO
import Derived.Test.YtegpabajbmgpjaaM
import Derived.Test.YtegpabajbmgpjaaS
import Derived.LoopTactic
import Derived.Deep.CutBlock
import Derived.Deep.DeepCutAuto
namespace Go.Proofs.Ytegpabajbmgpjaa
open Go.RowKit

theorem info3 : (Try.prog.info? 3).map (fun i => (i.zero, i.size, i.bytes)) = some (some (.int .i64 0), 1, 8) := by kernel_rfl

theorem tok_step {r u t a dd : Int} (hd0 : 0 ≤ dd) (ha : 0 ≤ a) (hle : a + dd ≤ 1099511627776) : tokOf r u t a (a + dd) = min u (t + r * (a + dd - a)) ∧ nowOf a (a + dd) = a + dd := by
  have e : nowOf a (a + dd) = a + dd := by unfold nowOf; omega
  refine ⟨?_, e⟩
  unfold tokOf
  rw [e]
theorem took_step {r u t a dd n : Int} (hd0 : 0 ≤ dd) (ha : 0 ≤ a) (hle : a + dd ≤ 1099511627776) (h0 : 0 ≤ n) (hn : n ≤ min u (t + r * (a + dd - a))) : tookB r u t a (a + dd) n = true ∧ tookOf r u t a (a + dd) n = min u (t + r * (a + dd - a)) - n ∧ nowOf a (a + dd) = a + dd := by
  obtain ⟨e1, e2⟩ := tok_step (r := r) (u := u) (t := t) hd0 ha hle
  unfold tookB tookOf
  rw [e1, if_pos ⟨h0, hn⟩]
  exact ⟨decide_eq_true ⟨h0, hn⟩, rfl, e2⟩
theorem nottook_step {r u t a dd n : Int} (hd0 : 0 ≤ dd) (ha : 0 ≤ a) (hle : a + dd ≤ 1099511627776) (hn : min u (t + r * (a + dd - a)) < n) : tookB r u t a (a + dd) n = false ∧ tookOf r u t a (a + dd) n = min u (t + r * (a + dd - a)) - 0 ∧ nowOf a (a + dd) = a + dd := by
  obtain ⟨e1, e2⟩ := tok_step (r := r) (u := u) (t := t) hd0 ha hle
  unfold tookB tookOf
  rw [e1, if_neg (by omega)]
  exact ⟨decide_eq_false (by omega), by omega, e2⟩
theorem snoc_map (T : List Int) (x : Int) : T.map (Value.int .i64) ++ [.int .i64 x] = (T ++ [x]).map (Value.int .i64) := by simp

/-- A cell of an owned list of numbers. -/
theorem own_int {w : World} {base g n cap : Nat} {xs : List Int} (h : w.ownsRow base 3 1 (.slice (some ⟨g, 0, none⟩) n cap) n (xs.map (Value.int .i64))) (i : Nat) (hi : i < n) : w.cell? ⟨g, i, none⟩ = some (.int .i64 (xs.getD i 0)) := by
  obtain ⟨v, hv, hc⟩ := own_cell h i hi
  rw [hc]
  rw [List.getElem?_map] at hv
  obtain ⟨x, hx, rfl⟩ := Option.map_eq_some_iff.1 hv
  rw [List.getD_eq_getElem?_getD, hx]
  rfl

set_option maxHeartbeats 2000000 in
theorem bound_walk (a0 a1 : Int) (A : Option Addr) (len cap : Nat) (f : Nat → Int) (A2 : Option Addr) (len2 cap2 : Nat) (f2 : Nat → Int) (w0 : Int64 a0) (w1 : Int64 a1) (w : World) (hlc : len ≤ cap) (hel : Elems w A cap (fun i => .int .i64 (f i))) (hlc2 : len2 ≤ cap2) (_hcm2 : cap2 ≤ maxLen) (hel2 : Elems w A2 cap2 (fun i => .int .i64 (f2 i))) :
    Calls Try.prog 4 #[.int .i64 a0, .int .i64 a1, .slice A len cap, .slice A2 len2 cap2] w fun e w' => e = .returned (.bool true) ∧ Below w.heap.size w w' := by
  obtain ⟨p0, q0⟩ := w0
  obtain ⟨p1, q1⟩ := w1
  unfold maxLen at _hcm2
  have HE := hid hel
  have HE2 := hid hel2
  clear hel hel2
  go_enter Try.func4, Try.ntmps4
  go_wp2_with fail
  refine (new_any a0 a1 _ p0 q0 p1 q1).mono ?_
  rintro e w1 ⟨rfl, rfl⟩
  have H0 : Hid (Bk (w.alloc (.cells #[.int .i64 (clip a0), .int .i64 (clip a1), .int .i64 (clip a1), .int .i64 0] 43)) w.heap.size (clip a0) (clip a1) (clip a1) 0) := b_new w _
  have l0 := (Below.refl w.heap.size w).alloc (Nat.le_refl _) (.cells #[.int .i64 (clip a0), .int .i64 (clip a1), .int .i64 (clip a1), .int .i64 0] 43)
  have ob := ok_new a0 a1
  generalize (w.alloc (.cells #[.int .i64 (clip a0), .int .i64 (clip a1), .int .i64 (clip a1), .int .i64 0] 43)) = w1 at *
  go_wp2_with fail
  refine (alive_any _).mono ?_
  rintro e w2 ⟨rfl, l1⟩
  have H1 := hid (show Bk w2 _ _ _ _ _ from b_below l1 H0.out (b_lt H0.out))
  have l2 := l0.trans (l1.mono l0.size)
  clear l1 l0 H0
  by_cases hL : 60 < len
  · go_wp2_with fail
    go_ret
    exact ⟨rfl, l2⟩
  · have hd : decide ((60 : Int) < (len : Int)) = false := by simp; omega
    go_upto_region 11 with (fail)
    simp only [clip] at H1 ob
    have kr : 0 ≤ min (max a0 0) 1048576 ∧ min (max a0 0) 1048576 ≤ 1048576 := by omega
    have ku : 0 ≤ min (max a1 0) 1048576 ∧ min (max a1 0) 1048576 ≤ 1048576 := by omega
    generalize min (max a0 0) 1048576 = r at *
    generalize min (max a1 0) 1048576 = u at *
    obtain ⟨kr0, kr1⟩ := kr
    obtain ⟨ku0, ku1⟩ := ku
    clear p0 q0 p1 q1
    have hb2 : w.heap.size < w2.heap.size := b_lt H1.out
    have OT := hid (own_keep (own_empty w2 (w.heap.size + 1) 3 (by omega)) ((Only.refl (fun _ => False) _).alloc (.cells #[] 3)) (fun h => h))
    have ON := hid (own_empty (w2.alloc (.cells #[] 3)) (w.heap.size + 1) 3 (by simp; omega))
    have HB := hid (show Bk _ _ _ _ _ _ from b_alloc (b_alloc H1.out (.cells #[] 3)) (.cells #[] 3))
    have l3 := (l2.alloc l2.size (.cells #[] 3)).alloc (by have := l2.size; simp; omega) (.cells #[] 3)
    simp only [World.size_alloc] at ON
    generalize ((w2.alloc (.cells #[] 3)).alloc (.cells #[] 3)) = w3 at *
    clear l2 H1
    go_wp2_with fail
    go_loopw [10, 11, 12, 41] (fun nw tv kv iv wr => ∃ (k : Nat) (t a : Int) (T N : List Int) (gT cT gN cN : Nat), k ≤ len ∧ T.length = k ∧ 0 ≤ a ∧ a ≤ 1024 * (k : Int) ∧ iv = .int .i64 (k : Int) ∧ nw = .int .i64 a ∧ tv = .slice (some ⟨gT, 0, none⟩) k cT ∧ kv = .slice (some ⟨gN, 0, none⟩) k cN ∧ Ok r u t a ∧ Bnd r u t a T N ∧ Hid (Bk wr w.heap.size r u t a) ∧ Hid (wr.ownsRow (w.heap.size + 1) 3 1 (.slice (some ⟨gT, 0, none⟩) k cT) k (T.map (Value.int .i64))) ∧ Hid (wr.ownsRow (w.heap.size + 1) 3 1 (.slice (some ⟨gN, 0, none⟩) k cN) k (N.map (Value.int .i64))) ∧ gT ≠ gN ∧ Below w.heap.size w wr) (fun _ _ _ iv _ => len - (intOf iv).toNat)
    case atStart =>
      exact ⟨0, _, 0, [], [], _, 0, _, 0, Nat.zero_le _, rfl, Int.le_refl _, by omega, rfl, rfl, rfl, rfl, ob, Bnd.start _ _ _ _, HB, OT, ON, by omega, l3⟩
    case round =>
      obtain ⟨k, t, a, T, N, gT, cT, gN, cN, hk, hTl, ha0, ha1, rfl, rfl, rfl, rfl, ok, bnd, HB1, OT1, ON1, hne, hl⟩ := hrel
      clear OT ON HB l3
      have OT := OT1
      clear OT1
      have sT := own_size OT.out
      have sN := own_size ON1.out
      have hwr := hl.size
      by_cases hlt : k < len
      · obtain ⟨ab, aoff, rfl, hcell⟩ := (HE.out.below hl).at_ k (by omega)
        have HTl := hid hTl
        clear hTl
        go_upto_region 15 with (fail)
        have hm : 0 ≤ f k % 1024 ∧ f k % 1024 < 1024 := by omega
        generalize f k % 1024 = dd at *
        obtain ⟨hm0, hm1⟩ := hm
        by_cases hk2 : k < len2
        · obtain ⟨ab2, aoff2, rfl, hcell2⟩ := (HE2.out.below hl).at_ k (by omega)
          go_upto_region 18 with (fail)
          have hmn : 0 ≤ f2 k % 1048576 ∧ f2 k % 1048576 < 1048576 := by omega
          generalize f2 k % 1048576 = n at *
          obtain ⟨hn0, hn1⟩ := hmn
          go_wp2_with (first | (at_builtin; refine app1 rfl _ _ 37 3 (.int .i64 0) 8 rfl Try.underlying37 info3 rfl (by decide) (w.heap.size + 1) gT k cT (T.map (Value.int .i64)) (.int .i64 (a + dd)) rfl rfl rfl OT.out (by omega) (by omega) ?_; intro gT1 cT1 w5 oT1 s5 hT1 hT2) | fail)
          rw [snoc_map] at oT1
          have HB5 := hid (HB1.out.keep s5 (by omega))
          have ON5 := hid (own_keep ON1.out s5 (by omega))
          have OT5 := hid oT1
          have l5 := s5.below hl (by rintro i rfl; omega) hl.size
          have hne5 : gT1 ≠ gN := by omega
          have hz5 := s5.size
          clear OT HB1 ON1 hl oT1 s5
          by_cases htk : n ≤ min u (t + r * (a + dd - a))
          · refine (take_d _ r u t a (a + dd) (n) (min u (t + r * (a + dd - a)) - (n)) (a + dd) true _ HB5 ok (took_step hm0 ha0 (by omega) (by omega) htk)).mono ?_
            rintro e w6 ⟨rfl, HB6, s6⟩
            have OT6 := hid (own_keep OT5.out s6 (by omega))
            have ON6 := hid (own_keep ON5.out s6 (by omega))
            have l6 := below_only l5 s6 (Nat.le_refl _) (Nat.le_refl _)
            have hz6 := s6.size
            clear HB5 OT5 ON5 l5 s6
            have ok6 := ok_took ok (a + dd) (n)
            have bnd6 := bnd.step kr0 ha0 (show a ≤ a + dd by omega) (show (0 : Int) ≤ n by omega) (show n ≤ (1048576 : Int) by omega) (by exact htk)
            go_wp2_with (first | (at_builtin; refine app1 rfl _ _ 37 3 (.int .i64 0) 8 rfl Try.underlying37 info3 rfl (by decide) (w.heap.size + 1) gN k cN (N.map (Value.int .i64)) (.int .i64 (n)) rfl rfl rfl ON6.out (by omega) (by omega) ?_; intro gN1 cN1 w7 oN1 s7 hN1 hN2) | fail)
            rw [snoc_map] at oN1
            have HB7 := hid (HB6.out.keep s7 (by omega))
            have OT7 := hid (own_keep OT6.out s7 (by omega))
            have l7 := s7.below l6 (by rintro i rfl; omega) l6.size
            have hne7 : gT1 ≠ gN1 := by omega
            have hT7 : (T ++ [a + dd]).length = k + 1 := by simp [HTl.out]
            clear HB6 OT6 ON6 l6 s7
            rw [(took_step hm0 ha0 (by omega) (by omega) htk).2.1, (tok_step (r := r) (u := u) (t := t) hm0 ha0 (by omega)).2] at ok6
            go_wp2_with fail
            go_roundw
            case rel => exact ⟨k + 1, _, a + dd, _, _, gT1, cT1, gN1, cN1, by omega, hT7, by omega, by omega, by go_num, rfl, rfl, rfl, ok6, bnd6, HB7, OT7, hid oN1, hne7, l7⟩
            case measure => simp [intOf]; omega
          · refine (take_d _ r u t a (a + dd) (n) (min u (t + r * (a + dd - a)) - (0)) (a + dd) false _ HB5 ok (nottook_step hm0 ha0 (by omega) (by omega))).mono ?_
            rintro e w6 ⟨rfl, HB6, s6⟩
            have OT6 := hid (own_keep OT5.out s6 (by omega))
            have ON6 := hid (own_keep ON5.out s6 (by omega))
            have l6 := below_only l5 s6 (Nat.le_refl _) (Nat.le_refl _)
            have hz6 := s6.size
            clear HB5 OT5 ON5 l5 s6
            have ok6 := ok_took ok (a + dd) (n)
            have bnd6 := bnd.step kr0 ha0 (show a ≤ a + dd by omega) (show (0 : Int) ≤ 0 by omega) (show 0 ≤ (1048576 : Int) by omega) (by have := (ok_next ok (a + dd)).t0; rw [(tok_step hm0 ha0 (by omega)).1] at this; exact this)
            go_wp2_with (first | (at_builtin; refine app1 rfl _ _ 37 3 (.int .i64 0) 8 rfl Try.underlying37 info3 rfl (by decide) (w.heap.size + 1) gN k cN (N.map (Value.int .i64)) (.int .i64 (0)) rfl rfl rfl ON6.out (by omega) (by omega) ?_; intro gN1 cN1 w7 oN1 s7 hN1 hN2) | fail)
            rw [snoc_map] at oN1
            have HB7 := hid (HB6.out.keep s7 (by omega))
            have OT7 := hid (own_keep OT6.out s7 (by omega))
            have l7 := s7.below l6 (by rintro i rfl; omega) l6.size
            have hne7 : gT1 ≠ gN1 := by omega
            have hT7 : (T ++ [a + dd]).length = k + 1 := by simp [HTl.out]
            clear HB6 OT6 ON6 l6 s7
            rw [(nottook_step hm0 ha0 (by omega) (by omega)).2.1, (tok_step (r := r) (u := u) (t := t) hm0 ha0 (by omega)).2] at ok6
            go_wp2_with fail
            go_roundw
            case rel => exact ⟨k + 1, _, a + dd, _, _, gT1, cT1, gN1, cN1, by omega, hT7, by omega, by omega, by go_num, rfl, rfl, rfl, ok6, bnd6, HB7, OT7, hid oN1, hne7, l7⟩
            case measure => simp [intOf]; omega
        · go_upto_region 18 with (fail)
          go_wp2_with (first | (at_builtin; refine app1 rfl _ _ 37 3 (.int .i64 0) 8 rfl Try.underlying37 info3 rfl (by decide) (w.heap.size + 1) gT k cT (T.map (Value.int .i64)) (.int .i64 (a + dd)) rfl rfl rfl OT.out (by omega) (by omega) ?_; intro gT1 cT1 w5 oT1 s5 hT1 hT2) | fail)
          rw [snoc_map] at oT1
          have HB5 := hid (HB1.out.keep s5 (by omega))
          have ON5 := hid (own_keep ON1.out s5 (by omega))
          have OT5 := hid oT1
          have l5 := s5.below hl (by rintro i rfl; omega) hl.size
          have hne5 : gT1 ≠ gN := by omega
          have hz5 := s5.size
          clear OT HB1 ON1 hl oT1 s5
          by_cases htk : 1 ≤ min u (t + r * (a + dd - a))
          · refine (take_d _ r u t a (a + dd) (1) (min u (t + r * (a + dd - a)) - (1)) (a + dd) true _ HB5 ok (took_step hm0 ha0 (by omega) (by omega) htk)).mono ?_
            rintro e w6 ⟨rfl, HB6, s6⟩
            have OT6 := hid (own_keep OT5.out s6 (by omega))
            have ON6 := hid (own_keep ON5.out s6 (by omega))
            have l6 := below_only l5 s6 (Nat.le_refl _) (Nat.le_refl _)
            have hz6 := s6.size
            clear HB5 OT5 ON5 l5 s6
            have ok6 := ok_took ok (a + dd) (1)
            have bnd6 := bnd.step kr0 ha0 (show a ≤ a + dd by omega) (show (0 : Int) ≤ 1 by omega) (show 1 ≤ (1048576 : Int) by omega) (by exact htk)
            go_wp2_with (first | (at_builtin; refine app1 rfl _ _ 37 3 (.int .i64 0) 8 rfl Try.underlying37 info3 rfl (by decide) (w.heap.size + 1) gN k cN (N.map (Value.int .i64)) (.int .i64 (1)) rfl rfl rfl ON6.out (by omega) (by omega) ?_; intro gN1 cN1 w7 oN1 s7 hN1 hN2) | fail)
            rw [snoc_map] at oN1
            have HB7 := hid (HB6.out.keep s7 (by omega))
            have OT7 := hid (own_keep OT6.out s7 (by omega))
            have l7 := s7.below l6 (by rintro i rfl; omega) l6.size
            have hne7 : gT1 ≠ gN1 := by omega
            have hT7 : (T ++ [a + dd]).length = k + 1 := by simp [HTl.out]
            clear HB6 OT6 ON6 l6 s7
            rw [(took_step hm0 ha0 (by omega) (by omega) htk).2.1, (tok_step (r := r) (u := u) (t := t) hm0 ha0 (by omega)).2] at ok6
            go_wp2_with fail
            go_roundw
            case rel => exact ⟨k + 1, _, a + dd, _, _, gT1, cT1, gN1, cN1, by omega, hT7, by omega, by omega, by go_num, rfl, rfl, rfl, ok6, bnd6, HB7, OT7, hid oN1, hne7, l7⟩
            case measure => simp [intOf]; omega
          · refine (take_d _ r u t a (a + dd) (1) (min u (t + r * (a + dd - a)) - (0)) (a + dd) false _ HB5 ok (nottook_step hm0 ha0 (by omega) (by omega))).mono ?_
            rintro e w6 ⟨rfl, HB6, s6⟩
            have OT6 := hid (own_keep OT5.out s6 (by omega))
            have ON6 := hid (own_keep ON5.out s6 (by omega))
            have l6 := below_only l5 s6 (Nat.le_refl _) (Nat.le_refl _)
            have hz6 := s6.size
            clear HB5 OT5 ON5 l5 s6
            have ok6 := ok_took ok (a + dd) (1)
            have bnd6 := bnd.step kr0 ha0 (show a ≤ a + dd by omega) (show (0 : Int) ≤ 0 by omega) (show 0 ≤ (1048576 : Int) by omega) (by have := (ok_next ok (a + dd)).t0; rw [(tok_step hm0 ha0 (by omega)).1] at this; exact this)
            go_wp2_with (first | (at_builtin; refine app1 rfl _ _ 37 3 (.int .i64 0) 8 rfl Try.underlying37 info3 rfl (by decide) (w.heap.size + 1) gN k cN (N.map (Value.int .i64)) (.int .i64 (0)) rfl rfl rfl ON6.out (by omega) (by omega) ?_; intro gN1 cN1 w7 oN1 s7 hN1 hN2) | fail)
            rw [snoc_map] at oN1
            have HB7 := hid (HB6.out.keep s7 (by omega))
            have OT7 := hid (own_keep OT6.out s7 (by omega))
            have l7 := s7.below l6 (by rintro i rfl; omega) l6.size
            have hne7 : gT1 ≠ gN1 := by omega
            have hT7 : (T ++ [a + dd]).length = k + 1 := by simp [HTl.out]
            clear HB6 OT6 ON6 l6 s7
            rw [(nottook_step hm0 ha0 (by omega) (by omega)).2.1, (tok_step (r := r) (u := u) (t := t) hm0 ha0 (by omega)).2] at ok6
            go_wp2_with fail
            go_roundw
            case rel => exact ⟨k + 1, _, a + dd, _, _, gT1, cT1, gN1, cN1, by omega, hT7, by omega, by omega, by go_num, rfl, rfl, rfl, ok6, bnd6, HB7, OT7, hid oN1, hne7, l7⟩
            case measure => simp [intOf]; omega
      · obtain rfl : k = len := by omega
        have HTl := hid hTl
        clear hTl HE HE2
        have hNl : N.length = k := bnd.len.symm.trans HTl.out
        have HNl := hid hNl
        clear hNl
        go_upto_region 23 with (fail)
        go_wp2_with fail
        go_loopw [77] (fun iv wr => ∃ i : Nat, i ≤ k ∧ iv = .int .i64 (i : Int) ∧ Hid (wr.ownsRow (w.heap.size + 1) 3 1 (.slice (some ⟨gT, 0, none⟩) k cT) k (T.map (Value.int .i64))) ∧ Hid (wr.ownsRow (w.heap.size + 1) 3 1 (.slice (some ⟨gN, 0, none⟩) k cN) k (N.map (Value.int .i64))) ∧ Below w.heap.size w wr) (fun iv _ => k - (intOf iv).toNat)
        case atStart => exact ⟨0, Nat.zero_le _, rfl, OT, ON1, hl⟩
        case round =>
          clear OT ON1 hl
          obtain ⟨i, hi, rfl, OT, ON, hl⟩ := hrel
          by_cases hik : i < k
          · obtain ⟨wo, hwo⟩ : ∃ wo : World, wo = wr := ⟨_, rfl⟩
            rw [← hwo]
            rw [← hwo] at OT ON hl
            clear hwo
            go_wp2_with fail
            go_loopw [17, 18] (fun sv kv wv => ∃ j : Nat, i ≤ j ∧ j ≤ k ∧ kv = .int .i64 (j : Int) ∧ sv = .int .i64 (psum N j - psum N i) ∧ Hid (wv.ownsRow (w.heap.size + 1) 3 1 (.slice (some ⟨gT, 0, none⟩) k cT) k (T.map (Value.int .i64))) ∧ Hid (wv.ownsRow (w.heap.size + 1) 3 1 (.slice (some ⟨gN, 0, none⟩) k cN) k (N.map (Value.int .i64))) ∧ Below w.heap.size w wv) (fun _ kv _ => k - (intOf kv).toNat)
            case atStart => exact ⟨i, Nat.le_refl _, by omega, rfl, by rw [Int.sub_self], OT, ON, hl⟩
            case round =>
              clear OT ON hl
              obtain ⟨j, hij, hj, rfl, rfl, OT, ON, hl⟩ := hrel
              by_cases hjk : j < k
              · have cN' := own_int ON.out j hjk
                have cTj := own_int OT.out j hjk
                have cTi := own_int OT.out i hik
                have bj := bnd.nb j (by rw [HNl.out]; exact hjk)
                have bs := psum_bd bnd.nb i j hij (by rw [HNl.out]; omega)
                have bs1 := psum_bd bnd.nb i (j + 1) (by omega) (by rw [HNl.out]; omega)
                have bl := bnd.all i j hij (by rw [HTl.out]; exact hjk)
                have bti := bnd.lo i (by rw [HTl.out]; exact hik)
                have btj := bnd.lo j (by rw [HTl.out]; exact hjk)
                have btm := bnd.up i j hij (by rw [HTl.out]; exact hjk)
                have bm := mul_bd kr0 kr1 (show 0 ≤ T.getD j 0 - T.getD i 0 by omega) (by omega)
                have es : psum N (j + 1) = psum N j + N.getD j 0 := rfl
                rw [es] at bs1 bl
                have ht := hid (show psum N (j + 1) - psum N i = psum N j - psum N i + N.getD j 0 by rw [es]; omega)
                clear es
                generalize N.getD j 0 = x at *
                generalize T.getD j 0 = tj at *
                generalize T.getD i 0 = ti at *
                obtain ⟨bj0, bj1⟩ := bj
                obtain ⟨bs10, bs11⟩ := bs1
                obtain ⟨bti0, bti1⟩ := bti
                obtain ⟨btj0, btj1⟩ := btj
                obtain ⟨bm0, bm1⟩ := bm
                go_upto_region 31 with (fail)
                have hgt : decide (u + r * (tj - ti) < psum N j - psum N i + x) = false := by simp; omega
                go_quiet (fail)
                go_wp2_with fail
                go_roundw
                case rel => exact ⟨j + 1, by omega, by omega, by go_num, by rw [ht.out], OT, ON, bl_drewN hl _⟩
                case measure => simp [intOf]; omega
              · go_wp2_with fail
                go_roundw
                case rel => exact ⟨i + 1, by omega, by go_num, OT, ON, hl⟩
                case measure => simp [intOf]; omega
          · go_wp2_with fail
            go_ret
            exact ⟨rfl, hl⟩
end Go.Proofs.Ytegpabajbmgpjaa
