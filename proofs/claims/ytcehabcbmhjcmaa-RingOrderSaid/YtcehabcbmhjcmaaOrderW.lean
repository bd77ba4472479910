/-
  The walk of RingOrder.
-/
import Derived.Test.YtcehabcbmhjcmaaB
import Derived.Test.YtcehabcbmhjcmaaM
namespace Go.Proofs.Ytcehabcbmhjcmaa
open Go.RowKit

theorem drop_take_app (l : List Int) (t j k : Nat) (htj : t ≤ j) (hj : j ≤ l.length) : (l.take j).drop t ++ (l.drop j).take k = (l.take (j + k)).drop t := by
  rw [List.take_add, List.drop_append_of_le_length (by rw [List.length_take]; omega)]
theorem take_drop_app (l : List Int) (t j m : Nat) (h : t + m ≤ j) : l.take t ++ ((l.take j).drop t).take m = l.take (t + m) := by
  rw [List.drop_take, List.take_take, Nat.min_eq_left (by omega), List.take_add]

set_option maxHeartbeats 1000000 in
theorem order_walk (A0 : Option Addr) (n c0 : Nat) (f : Nat → Int) (A1 : Option Addr) (np c1 : Nat) (f1 : Nat → Int) (A2 : Option Addr) (nt c2 : Nat) (f2 : Nat → Int) (w : World) (h0 : n ≤ c0 ∧ c0 ≤ maxLen) (h1 : np ≤ c1 ∧ c1 ≤ maxLen) (h2 : nt ≤ c2 ∧ c2 ≤ maxLen)
    (e0 : Elems w A0 c0 (fun i => .int .u8 (f i))) (e1 : Elems w A1 c1 (fun i => .int .i64 (f1 i))) (e2 : Elems w A2 c2 (fun i => .int .i64 (f2 i))) :
    Calls Try.prog 3 #[.slice A0 n c0, .slice A1 np c1, .slice A2 nt c2] w fun e w' => e = .returned (.bool true) ∧ Below w.heap.size w w' := by
  obtain ⟨h01, h02⟩ := h0
  obtain ⟨h11, h12⟩ := h1
  obtain ⟨h21, h22⟩ := h2
  unfold maxLen at h02 h12 h22
  obtain ⟨bl, hbl⟩ : ∃ bl : List Int, bl = (List.range n).map f := ⟨_, rfl⟩
  have hbn : bl.length = n := by rw [hbl]; simp
  have hE0 : Elems w A0 n (fun i => B8 bl (0 + i)) := by
    intro hp
    obtain ⟨b, off, e, hb, hc⟩ := e0 (by omega)
    refine ⟨b, off, e, hb, fun j hj => ?_⟩
    rw [hc j (by omega), hbl]
    simp [B8, hj]
  have E0 := hid hE0
  have E1 := hid e1
  have E2 := hid e2
  have BN := hid hbn
  clear hE0 e0 e1 e2 hbn hbl
  go_enter Try.func3, Try.ntmps3
  go_wp2_with fail
  refine (ls_meter 5000 5000 w _ (Only.refl _ _) (by decide) (by decide) rfl).mono ?_
  rintro e w1 ⟨rfl, H1, o1⟩
  go_wp2_with fail
  refine (alive_any _).mono ?_
  rintro e w2 ⟨rfl, l2⟩
  have H2 := hid (H1.out.same (S := fun _ => False) (Only.of_below l2) (fun _ h => h.elim))
  clear o1 H1 l2
  by_cases hn : n ≤ 5000
  · go_wp2_with fail
    refine (ls_new H2).mono ?_
    rintro e w3 ⟨rfl, H3, o3⟩
    clear H2 o3
    go_upto_region 8 with (fail)
    go_wp2_with fail
    go_loopw [9, 10, 29] (fun rv ov iv wr => ∃ (k j t rr : Nat) (A : Option Addr) (c : Nat) (Ao : Option Addr) (co : Nat) (L : Nat → List Int) (P : Int) (G : Nat → Prop), k ≤ np ∧ iv = .int .i64 (k : Int) ∧ rv = .slice A rr c ∧ ov = .slice Ao t co ∧ j + rr ≤ n ∧ n ≤ j + rr ∧ t ≤ j ∧ rr ≤ c ∧ Hid (Elems w A rr (fun i => B8 bl (j + i))) ∧ Hid (OwnB wr w.heap.size Ao co (bl.take t)) ∧ Hid (L 0 = (bl.take j).drop t) ∧ Hid (Ls w wr w.heap.size 1 (upd (fun _ => 0) 0 w2.heap.size) L 5000 ((j : Int) - (t : Int)) P G) ∧ Hid (∀ a, Ao = some a → ¬ G a.block)) (fun _ _ iv _ => np - (intOf iv).toNat)
    case atStart =>
      refine ⟨0, 0, 0, n, A0, c0, some ⟨w3.heap.size, 0, none⟩, 0, _, 0, _, Nat.zero_le _, rfl, rfl, rfl, by omega, by omega, Nat.le_refl _, h01, E0, ?_, hid rfl, hid (H3.out.alloc _), hid ?_⟩
      · exact World.ownsRow_made w3 #[] 0 H3.out.size (by simp [maxLen]) rfl
      · intro a ha
        cases ha
        exact fun hg => by have := H3.out.lt _ hg; simp at this
    case round =>
      obtain ⟨k, j, t, rr, A, c, Ao, co, L, P, G, hk, rfl, rfl, rfl, hjr1, hjr2, htj, hrc, hA, hO, hL, H, hG⟩ := hrel
      clear H3
      by_cases hlt : k < np
      · obtain ⟨ba, oa, rfl, ca⟩ := (E1.out.below H.out.below).at_ k (by omega)
        obtain ⟨x, hx⟩ : ∃ x : Nat, f1 k % 1024 % ((rr : Int) + 1) = (x : Int) := ⟨(f1 k % 1024 % ((rr : Int) + 1)).toNat, by have := Int.emod_nonneg (f1 k % 1024) (show (rr : Int) + 1 ≠ 0 by omega); omega⟩
        have hxr : x ≤ rr := by have := Int.emod_lt_of_pos (f1 k % 1024) (show 0 < (rr : Int) + 1 by omega); omega
        have hcut := run_h' A rr c x (by omega)
        have hcut0 := run_h A rr c x (by omega)
        have hdrop := cut_drop' A rr c x hxr
        have hdrop0 := cut_drop A rr c x hxr
        have hxs : ((bl.drop j).take x).length = x := by rw [List.length_take, List.length_drop, BN.out]; omega
        have hll : ((bl.take j).drop t).length = j - t := by rw [List.length_drop, List.length_take, BN.out]; omega
        have hsrc : Elems wr A x (B8 ((bl.drop j).take x)) := ((hA.out.head hxr).below H.out.below).congr (fun i hi => by
          unfold B8
          rw [List.getD_eq_getElem?_getD, List.getD_eq_getElem?_getD, List.getElem?_take_of_lt hi, List.getElem?_drop])
        have hsep : 0 < x → ∀ a, A = some a → ¬ G a.block := fun hp a ha hg => by
          obtain ⟨b, off, e, hb, _⟩ := hA.out (by omega)
          rw [e] at ha
          cases ha
          have := H.out.new.out _ hg
          simp only at this
          omega
        have HXS := hid hxs
        have HLL := hid hll
        have HS := hid hsrc
        have HSP := hid hsep
        clear hxs hll hsrc hsep
        go_wp2_with fail
        refine (ls_putm 0 w2.heap.size x _ ((bl.drop j).take x) A c (((j + x : Nat) : Int) - (t : Int)) _ H HXS.out (by decide) rfl hL.out (by omega) (by rw [HLL.out]; omega) (by omega) HS.out HSP.out (by omega) rfl).mono ?_
        rintro e w4 ⟨G4, rfl, H4, h4, o4⟩
        have hO4 := hid (hO.out.keepb o4 hG.out)
        have hG4 : Hid (∀ a, Ao = some a → ¬ G4 a.block) := hid (fun a ha hg => (h4.out _ hg).elim (hG.out a ha) (fun h => by have := (hO.out.blk a ha).2; omega))
        have hL4 : Hid (upd L 0 ((bl.take j).drop t ++ (bl.drop j).take x) 0 = (bl.take (j + x)).drop t) := hid (by rw [upd_at, drop_take_app bl t j x htj (by rw [BN.out]; omega)])
        clear hO hG hL H HS HSP h4 o4
        by_cases hk2 : k < nt
        case' pos =>
          obtain ⟨bb, ob, rfl, cb⟩ := (E2.out.below H4.out.below).at_ k (by omega)
          obtain ⟨y, hy⟩ : ∃ y : Nat, f2 k % 128 = (y : Int) := ⟨(f2 k % 128).toNat, by omega⟩
          obtain ⟨m, hm⟩ : ∃ m : Nat, (m : Int) = min (max (y : Int) 0) ((j + x - t : Nat) : Int) := ⟨min y (j + x - t), by omega⟩
          have hl4 : ((bl.take (j + x)).drop t).length = j + x - t := by rw [List.length_drop, List.length_take, BN.out]; omega
          have HL4 := hid hl4
          have HM := hid hm
          have hmj : t + m ≤ j + x := by omega
          clear hl4 hm
          go_wp2_with fail
          refine (ls_take 0 w2.heap.size ((bl.take (j + x)).drop t) y m (((j + x : Nat) : Int) - ((t + m : Nat) : Int)) H4 (by decide) rfl hL4.out (by rw [HL4.out]; exact HM.out) (by rw [HL4.out]; omega) (by omega)).mono ?_
          rintro e w5 ⟨AT, cT, rfl, hT, H5, o5⟩
          have hO5 := hid (hO4.out.keepb o5 hG4.out)
          have hTl : Hid ((((bl.take (j + x)).drop t).take m).length = m) := hid (by rw [List.length_take, HL4.out]; omega)
          have hQl : Hid ((bl.take t).length = t) := hid (by rw [List.length_take, BN.out]; omega)
          have hTd : Hid (w4.heap.size ≤ w5.heap.size) := hid o5.size
          have hGT : Hid (∀ i, G4 i → i < w4.heap.size) := hid H4.out.lt
          clear hO4 H4 o5
          go_wp2_with (first | (at_builtin; refine app_b rfl _ _ rfl w.heap.size t m co cT Ao AT (bl.take t) (((bl.take (j + x)).drop t).take m) hQl.out hTl.out rfl rfl hO5.out (hT.out.elems' hTl.out) (fun h => by have := hT.out.nil h; rw [hTl.out] at this; exact this) H5.out.size (by omega) ?_; intro A6 c6 w6 hO6 o6 hA6) | fail)
          have H6 := hid (H5.out.step (hid (H5.out.rs.out.keep o6 (fun i hi => by rintro ⟨a, ha, rfl⟩; exact hG4.out a ha hi))) o6 (fun i => by rintro ⟨a, ha, rfl⟩; exact .inr (hO5.out.blk a ha).1) (fun _ h => .inl h))
          have hO6' : Hid (OwnB w6 w.heap.size A6 c6 (bl.take (t + m))) := by rw [← take_drop_app bl t (j + x) m hmj]; exact hO6
          have hG6 : Hid (∀ a, A6 = some a → ¬ G4 a.block) := hid (fun a ha hg => by
            rcases hA6.out a ha with ⟨a0, h0, he⟩ | h0
            · exact hG4.out a0 h0 (he ▸ hg)
            · have := hGT.out _ hg; have := hTd.out; omega)
          have hL6 : Hid (upd (upd L 0 ((bl.take j).drop t ++ (bl.drop j).take x)) 0 (((bl.take (j + x)).drop t).drop m) 0 = (bl.take (j + x)).drop (t + m)) := hid (by rw [upd_at, List.drop_drop])
          have hlen6 : Hid ((upd (upd L 0 ((bl.take j).drop t ++ (bl.drop j).take x)) 0 (((bl.take (j + x)).drop t).drop m) 0).length = j + x - (t + m)) := hid (by rw [upd_at, List.length_drop, HL4.out]; omega)
          clear hO6 hO5 H5 hT hA6 o6 hTd hGT hG4
        case' neg =>
          have hmj : t ≤ j + x := by omega
          have H6 := H4
          have hO6' := hO4
          have hG6 := hG4
          have hL6 := hL4
          have hlen6 : Hid ((upd L 0 ((bl.take j).drop t ++ (bl.drop j).take x) 0).length = j + x - t) := hid (by rw [hL4.out, List.length_drop, List.length_take, BN.out]; omega)
          clear H4 hO4 hG4 hL4
        all_goals
          go_wp2_with fail
          refine (ls_held H6).mono ?_
          rintro e w7 ⟨rfl, rfl⟩
          go_wp2_with fail
          refine (ls_lenn 0 w2.heap.size _ H6 (by decide) rfl hlen6.out).mono ?_
          rintro e w7 ⟨rfl, rfl⟩
          go_wp2_with fail
          refine (ls_held H6).mono ?_
          rintro e w7 ⟨rfl, rfl⟩
          go_wp2_with fail
          go_roundw
          case rel =>
            have hA' := elems_drop hA.out hxr hrc
            refine ⟨k + 1, j + x, _, rr - x, dropA A c x, c - x, _, _, _, _, _, by omega, by simp, rfl, rfl, by omega, by omega, hmj, by omega, hid ?_, hO6', hL6, H6, hG6⟩
            exact hA'.congr (fun i _ => by rw [Nat.add_assoc])
          case measure => simp [intOf]; omega
      · obtain rfl : k = np := by omega
        have hxs : (bl.drop j).length = rr := by rw [List.length_drop, BN.out]; omega
        have hll : ((bl.take j).drop t).length = j - t := by rw [List.length_drop, List.length_take, BN.out]; omega
        have hdl : (bl.drop t).length = n - t := by rw [List.length_drop, BN.out]
        have hsrc : Elems wr A rr (B8 (bl.drop j)) := (hA.out.below H.out.below).congr (fun i hi => by
          unfold B8
          rw [List.getD_eq_getElem?_getD, List.getD_eq_getElem?_getD, List.getElem?_drop])
        have hsep : 0 < rr → ∀ a, A = some a → ¬ G a.block := fun hp a ha hg => by
          obtain ⟨b, off, e, hb, _⟩ := hA.out (by omega)
          rw [e] at ha
          cases ha
          have := H.out.new.out _ hg
          simp only at this
          omega
        have hQl : (bl.take t).length = t := by rw [List.length_take, BN.out]; omega
        have hTl : ((bl.drop t).take (n - t)).length = n - t := by rw [List.length_take, hdl]; omega
        have HXS := hid hxs
        have HLL := hid hll
        have HDL := hid hdl
        have HS := hid hsrc
        have HSP := hid hsep
        have HQL := hid hQl
        have HTL := hid hTl
        clear hxs hll hsrc hsep hdl hQl hTl
        go_wp2_with fail
        refine (ls_putm 0 w2.heap.size rr _ (bl.drop j) A c ((n - t : Nat) : Int) _ H HXS.out (by decide) rfl hL.out (by omega) (by rw [HLL.out]; omega) (by omega) HS.out HSP.out (by omega) rfl).mono ?_
        rintro e w4 ⟨G4, rfl, H4, h4, o4⟩
        have hO4 := hid (hO.out.keepb o4 hG.out)
        have hG4 : Hid (∀ a, Ao = some a → ¬ G4 a.block) := hid (fun a ha hg => (h4.out _ hg).elim (hG.out a ha) (fun h => by have := (hO.out.blk a ha).2; omega))
        have hL4 : Hid (upd L 0 ((bl.take j).drop t ++ bl.drop j) 0 = bl.drop t) := hid (by rw [upd_at, ← List.drop_append_of_le_length (by rw [List.length_take, BN.out]; omega), List.take_append_drop])
        clear hO hG hL H HS HSP h4 o4
        go_wp2_with fail
        refine (ls_take 0 w2.heap.size (bl.drop t) _ (n - t) 0 H4 (by decide) rfl hL4.out (by rw [HDL.out]; omega) (by rw [HDL.out]; omega) (by omega)).mono ?_
        rintro e w5 ⟨AT, cT, rfl, hT, H5, o5⟩
        have hO5 := hid (hO4.out.keepb o5 hG4.out)
        clear hO4 H4 o5
        go_wp2_with (first | (at_builtin; refine app_b rfl _ _ rfl w.heap.size t (n - t) co cT Ao AT (bl.take t) ((bl.drop t).take (n - t)) HQL.out HTL.out rfl rfl hO5.out (hT.out.elems' HTL.out) (fun h => by have := hT.out.nil h; rw [HTL.out] at this; exact this) H5.out.size (by omega) ?_; intro A6 c6 w6 hO6 o6 hA6) | fail)
        have H6 := hid (H5.out.step (hid (H5.out.rs.out.keep o6 (fun i hi => by rintro ⟨a, ha, rfl⟩; exact hG4.out a ha hi))) o6 (fun i => by rintro ⟨a, ha, rfl⟩; exact .inr (hO5.out.blk a ha).1) (fun _ h => .inl h))
        have hO6' : Hid (OwnB w6 w.heap.size A6 c6 bl) := by
          have : bl.take t ++ (bl.drop t).take (n - t) = bl := by rw [List.take_of_length_le (l := bl.drop t) (by rw [HDL.out]; omega), List.take_append_drop]
          rw [← this]; exact hO6
        clear hO6 hO5 H5 hT hA6 o6 hG4
        go_wp2_with fail
        refine (same_any2 bl A6 A0 (t + (n - t)) n c6 c0 _ (by omega) (hO6'.out.elems' (by rw [BN.out]; omega)) ((E0.out.below H6.out.below).congr (fun i _ => by rw [Nat.zero_add])) (by omega)).mono ?_
        rintro e w7 ⟨rfl, o7⟩
        have H7 := hid (H6.out.same o7 (fun _ h => h.elim))
        clear H6 o7
        go_wp2_with fail
        refine (ls_lenn 0 w2.heap.size 0 H7 (by decide) rfl (by rw [upd_at, List.length_drop, HDL.out]; omega)).mono ?_
        rintro e w8 ⟨rfl, rfl⟩
        go_wp2_with fail
        refine (ls_held H7).mono ?_
        rintro e w8 ⟨rfl, rfl⟩
        go_wp2_with fail
        refine (ls_take 0 w2.heap.size _ 5 0 0 H7 (by decide) rfl rfl (by rw [upd_at, List.length_drop, HDL.out]; omega) (by rw [upd_at, List.length_drop, HDL.out]; omega) (by omega)).mono ?_
        rintro e w8 ⟨A8, c8, rfl, hT8, H8, o8⟩
        go_wp2_with fail
        go_ret
        exact ⟨rfl, H8.out.below⟩
  · go_wp2_with fail
    go_ret
    exact ⟨rfl, H2.out.below⟩
end Go.Proofs.Ytcehabcbmhjcmaa
