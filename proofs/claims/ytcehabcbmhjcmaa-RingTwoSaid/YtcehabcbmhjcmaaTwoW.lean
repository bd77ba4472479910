/-
  The walk of RingTwo.
-/
import Derived.Test.YtcehabcbmhjcmaaB
import Derived.Test.YtcehabcbmhjcmaaC
namespace Go.Proofs.Ytcehabcbmhjcmaa
open Go.RowKit

/-- The bytes of a slice of the caller's, as a list. -/
def lst (f : Nat → Int) (n : Nat) : List Int := (List.range n).map f
theorem lst_len (f : Nat → Int) (n : Nat) : (lst f n).length = n := by simp [lst]
theorem lst_elems {w : World} {A : Option Addr} {n c : Nat} {f : Nat → Int} (h : Elems w A c (fun i => .int .u8 (f i))) (hn : n ≤ c) : Elems w A n (B8 (lst f n)) :=
  (h.head hn).congr (fun i hi => by simp [B8, lst, hi])

set_option maxHeartbeats 2000000 in
theorem two_walk (A0 : Option Addr) (np c0 : Nat) (V : Nat → Value) (PA : Nat → Option Addr) (pn pc : Nat → Nat) (pf : Nat → Nat → Int) (A1 : Option Addr) (nt c1 : Nat) (tf : Nat → Bool) (w : World) (h0 : np ≤ c0 ∧ c0 ≤ maxLen) (h1 : nt ≤ c1 ∧ c1 ≤ maxLen)
    (e0 : Elems w A0 c0 V) (hV : ∀ i, i < c0 → BytesAt w (V i) (PA i) (pn i) (pc i) (pf i)) (e1 : Elems w A1 c1 (fun i => .bool (tf i))) :
    Calls Try.prog 4 #[.slice A0 np c0, .slice A1 nt c1] w fun e w' => e = .returned (.bool true) ∧ Below w.heap.size w w' := by
  obtain ⟨h01, h02⟩ := h0
  obtain ⟨h11, h12⟩ := h1
  unfold maxLen at h02 h12
  have E0 := hid e0
  have E1 := hid e1
  have HV := hid hV
  clear e0 e1 hV
  go_enter Try.func4, Try.ntmps4
  go_wp2_with fail
  refine (alive_any _).mono ?_
  rintro e w1 ⟨rfl, l1⟩
  have o1 : Only (fun _ => False) w w1 := Only.of_below l1
  clear l1
  by_cases hn : np ≤ 40
  · go_wp2_with fail
    refine (ls_meter 1048576 1048576 w _ o1 (by decide) (by decide) rfl).mono ?_
    rintro e w2 ⟨rfl, H2, o2⟩
    clear o1 o2
    go_wp2_with fail
    refine (ls_new H2).mono ?_
    rintro e w3 ⟨rfl, H3, o3⟩
    clear o3
    go_wp2_with fail
    refine (ls_new H3).mono ?_
    rintro e w4 ⟨rfl, H4, o4⟩
    have hw3 : Hid (w2.heap.size < w3.heap.size) := hid (H3.out.lt _ (.inr rfl))
    clear H2 H3 o4
    go_upto_region 7 with (fail)
    go_wp2_with fail
    go_loopw [8, 9, 26] (fun xv yv iv wr => ∃ (k nx ny : Nat) (Ax : Option Addr) (cx : Nat) (Ay : Option Addr) (cy : Nat) (qx qy : List Int) (L : Nat → List Int) (P : Int) (G : Nat → Prop), k ≤ np ∧ iv = .int .i64 (k : Int) ∧ xv = .slice Ax nx cx ∧ yv = .slice Ay ny cy ∧ nx + ny ≤ 100 * k ∧ Hid (qx.length = nx) ∧ Hid (qy.length = ny) ∧ Hid (OwnB wr w.heap.size Ax cx qx) ∧ Hid (OwnB wr w.heap.size Ay cy qy) ∧ Hid (L 0 = qx) ∧ Hid (L 1 = qy) ∧ Hid (Ls w wr w1.heap.size 2 (upd (upd (fun _ => 0) 0 w2.heap.size) 1 w3.heap.size) L 1048576 ((nx : Int) + (ny : Int)) P G) ∧ Hid (∀ a, Ax = some a → ¬ G a.block) ∧ Hid (∀ a, Ay = some a → ¬ G a.block) ∧ Hid (∀ a b, Ax = some a → Ay = some b → a.block ≠ b.block)) (fun _ _ iv _ => np - (intOf iv).toNat)
    case atStart =>
      have hs4 := H4.out.lt
      refine ⟨0, 0, 0, some ⟨w4.heap.size, 0, none⟩, 0, some ⟨w4.heap.size + 1, 0, none⟩, 0, [], [], _, 0, _, Nat.zero_le _, rfl, rfl, rfl, by omega, hid rfl, hid rfl, ?_, ?_, hid rfl, hid rfl, hid ((H4.out.alloc _).alloc _), hid ?_, hid ?_, hid ?_⟩
      · exact (World.ownsRow_made w4 #[] 0 H4.out.size (by simp [maxLen]) rfl).alloc _
      · have := World.ownsRow_made (base := w.heap.size) (e := 5) (size := 1) (w4.alloc (.cells #[] 5)) #[] 0 (by simp; have := H4.out.size; omega) (by simp [maxLen]) rfl
        rw [show (w4.alloc (.cells #[] 5)).heap.size = w4.heap.size + 1 by simp] at this
        exact this
      · intro a ha
        cases ha
        exact fun hg => by have := hs4 _ hg; simp only at this; omega
      · intro a ha
        cases ha
        exact fun hg => by have := hs4 _ hg; simp only at this; omega
      · intro a b ha hb
        cases ha
        cases hb
        simp
    case round =>
      obtain ⟨k, nx, ny, Ax, cx, Ay, cy, qx, qy, L, P, G, hk, rfl, rfl, rfl, hsum, hqx, hqy, hOx, hOy, hLx, hLy, H, hGx, hGy, hxy⟩ := hrel
      clear H4
      by_cases hlt : k < np
      · obtain ⟨ba, oa, rfl, ca⟩ := (E0.out.below H.out.below).at_ k (by omega)
        obtain ⟨hv, hp1, hp2, hpe, hpn⟩ := HV.out k (by omega)
        rw [hv] at ca
        generalize PA k = A at *
        generalize pf k = f at *
        generalize pn k = n at *
        generalize pc k = c at *
        by_cases hn100 : n ≤ 100
        · have hP := hid (lst_elems hpe hp1)
          have hPl := hid (lst_len f n)
          have hsep : Hid (∀ a, A = some a → 0 < n → ¬ G a.block) := hid (fun a ha hp hg => by
            obtain ⟨b, off, e, hb, _⟩ := hpe (by omega)
            rw [e] at ha
            cases ha
            have := H.out.new.out _ hg
            simp only at this
            omega)
          have hpn' : A = none → c = 0 ∧ n = 0 := hpn
          have hcs : (k < nt ∧ tf k = true) ∨ (k < nt ∧ tf k = false) ∨ ¬ k < nt := by
            by_cases h1 : k < nt
            · cases h2 : tf k
              · exact .inr (.inl ⟨h1, rfl⟩)
              · exact .inl ⟨h1, rfl⟩
            · exact .inr (.inr h1)
          clear hpe hv
          rcases hcs with ⟨ht1, ht2⟩ | ⟨ht1, ht2⟩ | ht1
          case' inl =>
            obtain ⟨bt, ot, rfl, ct⟩ := (E1.out.below H.out.below).at_ k (by omega)
            simp only [ht2] at ct
            obtain ⟨mx, hmx⟩ : ∃ mx, Hid (mx = nx + n) := ⟨_, rfl⟩
            go_wp2_with (first | (at_builtin; refine app_b rfl _ _ rfl w.heap.size nx n cx c Ax A qx (lst f n) hqx.out hPl.out rfl rfl hOx.out (hP.out.below H.out.below) hpn H.out.size (by omega) ?_; intro A6 c6 w6 hO6 o6 hA6) | fail)
            have H6 := hid (H.out.step (hid (H.out.rs.out.keep o6 (fun i hi => by rintro ⟨a, ha, rfl⟩; exact hGx.out a ha hi))) o6 (fun i => by rintro ⟨a, ha, rfl⟩; exact .inr (hOx.out.blk a ha).1) (fun _ h => .inl h))
            have hOt := hid (hOy.out.keepb o6 (fun b hb => by rintro ⟨a, ha, he⟩; exact hxy.out a b ha hb he))
            have hGlt : Hid (∀ i, G i → i < wr.heap.size) := hid H.out.lt
            have hsz6 : Hid (wr.heap.size ≤ w6.heap.size) := hid o6.size
            have hG6 : Hid (∀ a, A6 = some a → ¬ G a.block) := hid (fun a ha hg => by
              rcases hA6.out a ha with ⟨a0, h0, he⟩ | h0
              · exact hGx.out a0 h0 (he ▸ hg)
              · have := hGlt.out _ hg; omega)
            have hxy6 : Hid (∀ a b, A6 = some a → Ay = some b → a.block ≠ b.block) := hid (fun a b ha hb he => by
              rcases hA6.out a ha with ⟨a0, h0, h1⟩ | h0
              · exact hxy.out a0 b h0 hb (h1.trans he)
              · have := (hOy.out.blk b hb).2; omega)
            clear hOx hOy o6 H
            go_wp2_with fail
            refine (ls_putm 0 w2.heap.size n _ (lst f n) A c (((nx + n : Nat) : Int) + (ny : Int)) _ H6 hPl.out (by decide) rfl hLx.out (by omega) (by rw [hqx.out]; omega) hp1 (hP.out.below H6.out.below) (fun h0 a ha => hsep.out a ha h0) (by omega) rfl).mono ?_
            rintro e w7 ⟨G7, rfl, H7, h7, o7⟩
            have hOx7 := hid (hO6.out.keepb o7 hG6.out)
            have hOy7 := hid (hOt.out.keepb o7 hGy.out)
            have hGx7 : Hid (∀ a, A6 = some a → ¬ G7 a.block) := hid (fun a ha hg => (h7.out _ hg).elim (hG6.out a ha) (fun h => by have := (hO6.out.blk a ha).2; omega))
            have hGy7 : Hid (∀ a, Ay = some a → ¬ G7 a.block) := hid (fun a ha hg => (h7.out _ hg).elim (hGy.out a ha) (fun h => by have := (hOt.out.blk a ha).2; omega))
            have hLx7 : Hid (upd L 0 (qx ++ lst f n) 0 = qx ++ lst f n) := hid (upd_at _ _ _)
            have hLy7 : Hid (upd L 0 (qx ++ lst f n) 1 = qy) := hid ((upd_ne _ _ (by decide)).trans hLy.out)
            have hqx7 : Hid ((qx ++ lst f n).length = nx + n) := hid (by rw [List.length_append, hqx.out, hPl.out])
            have hqy7 := hqy
            have hxy7 : Hid (∀ a b, A6 = some a → Ay = some b → a.block ≠ b.block) := hid (hxy6.out)
            have hqm : Hid ((qx ++ lst f n).length = mx) := hid (by rw [hqx7.out]; exact hmx.out.symm)
            clear hO6 hOt H6 h7 o7 hG6 hxy6 hGlt hsz6 hA6 hqx hqy hLx hLy hGx hGy hxy
          case' inr.inl =>
            obtain ⟨bt, ot, rfl, ct⟩ := (E1.out.below H.out.below).at_ k (by omega)
            simp only [ht2] at ct
          case' inr.inl | inr.inr =>
            obtain ⟨mx, hmx⟩ : ∃ mx, Hid (mx = nx) := ⟨_, rfl⟩
            go_wp2_with (first | (at_builtin; refine app_b rfl _ _ rfl w.heap.size ny n cy c Ay A qy (lst f n) hqy.out hPl.out rfl rfl hOy.out (hP.out.below H.out.below) hpn H.out.size (by omega) ?_; intro A6 c6 w6 hO6 o6 hA6) | fail)
            have H6 := hid (H.out.step (hid (H.out.rs.out.keep o6 (fun i hi => by rintro ⟨a, ha, rfl⟩; exact hGy.out a ha hi))) o6 (fun i => by rintro ⟨a, ha, rfl⟩; exact .inr (hOy.out.blk a ha).1) (fun _ h => .inl h))
            have hOt := hid (hOx.out.keepb o6 (fun b hb => by rintro ⟨a, ha, he⟩; exact hxy.out b a hb ha he.symm))
            have hGlt : Hid (∀ i, G i → i < wr.heap.size) := hid H.out.lt
            have hsz6 : Hid (wr.heap.size ≤ w6.heap.size) := hid o6.size
            have hG6 : Hid (∀ a, A6 = some a → ¬ G a.block) := hid (fun a ha hg => by
              rcases hA6.out a ha with ⟨a0, h0, he⟩ | h0
              · exact hGy.out a0 h0 (he ▸ hg)
              · have := hGlt.out _ hg; omega)
            have hxy6 : Hid (∀ a b, A6 = some a → Ax = some b → a.block ≠ b.block) := hid (fun a b ha hb he => by
              rcases hA6.out a ha with ⟨a0, h0, h1⟩ | h0
              · exact hxy.out b a0 hb h0 (h1.trans he).symm
              · have := (hOx.out.blk b hb).2; omega)
            clear hOy hOx o6 H
            go_wp2_with fail
            refine (ls_putm 1 w3.heap.size n _ (lst f n) A c ((nx : Int) + ((ny + n : Nat) : Int)) _ H6 hPl.out (by decide) rfl hLy.out (by omega) (by rw [hqy.out]; omega) hp1 (hP.out.below H6.out.below) (fun h0 a ha => hsep.out a ha h0) (by omega) rfl).mono ?_
            rintro e w7 ⟨G7, rfl, H7, h7, o7⟩
            have hOy7 := hid (hO6.out.keepb o7 hG6.out)
            have hOx7 := hid (hOt.out.keepb o7 hGx.out)
            have hGy7 : Hid (∀ a, A6 = some a → ¬ G7 a.block) := hid (fun a ha hg => (h7.out _ hg).elim (hG6.out a ha) (fun h => by have := (hO6.out.blk a ha).2; omega))
            have hGx7 : Hid (∀ a, Ax = some a → ¬ G7 a.block) := hid (fun a ha hg => (h7.out _ hg).elim (hGx.out a ha) (fun h => by have := (hOt.out.blk a ha).2; omega))
            have hLy7 : Hid (upd L 1 (qy ++ lst f n) 1 = qy ++ lst f n) := hid (upd_at _ _ _)
            have hLx7 : Hid (upd L 1 (qy ++ lst f n) 0 = qx) := hid ((upd_ne _ _ (by decide)).trans hLx.out)
            have hqy7 : Hid ((qy ++ lst f n).length = ny + n) := hid (by rw [List.length_append, hqy.out, hPl.out])
            have hqx7 := hqx
            have hxy7 : Hid (∀ a b, Ax = some a → A6 = some b → a.block ≠ b.block) := hid (fun a b ha hb he => hxy6.out b a hb ha he.symm)
            have hqm : Hid (qx.length = mx) := hid (by rw [hqx7.out]; exact hmx.out.symm)
            clear hO6 hOt H6 h7 o7 hG6 hxy6 hGlt hsz6 hA6 hqy hqx hLy hLx hGy hGx hxy
          all_goals
            go_wp2_with fail
            refine (ls_peek 0 w2.heap.size _ _ mx H7 (by decide) rfl hLx7.out (by rw [hqm.out]; have := hmx.out; omega) (by rw [hqm.out]; have := hmx.out; omega)).mono ?_
            rintro e w8 ⟨A8, c8, rfl, hO8, H8, o8⟩
            have hOx8 := hid (hOx7.out.keepb o8 (fun _ _ h => h))
            have hOy8 := hid (hOy7.out.keepb o8 (fun _ _ h => h))
            have hE8 := hO8.out.elems' (n := mx) (by rw [List.length_take, hqm.out]; omega)
            rw [List.take_of_length_le (by rw [hqm.out]; omega)] at hE8
            have HE8 := hid hE8
            clear hE8 hO8 hOx7 hOy7 o8 H7
            go_wp2_with fail
            refine (same_any2 _ A8 _ mx _ c8 _ _ (by have := hmx.out; omega) HE8.out (hOx8.out.elems' hqx7.out) (by have := hmx.out; omega)).mono ?_
            rintro e w9 ⟨rfl, o9⟩
            have H9 := hid (H8.out.same o9 (fun _ h => h.elim))
            have hOx9 := hid (hOx8.out.keepb o9 (fun _ _ h => h))
            have hOy9 := hid (hOy8.out.keepb o9 (fun _ _ h => h))
            clear H8 hOx8 hOy8 o9 HE8
            go_wp2_with fail
            refine (ls_held H9).mono ?_
            rintro e w10 ⟨rfl, rfl⟩
            go_wp2_with fail
            go_roundw
            case rel => exact ⟨k + 1, _, _, _, _, _, _, _, _, _, _, _, by omega, by simp, rfl, rfl, by omega, hqx7, hqy7, hOx9, hOy9, hLx7, hLy7, H9, hGx7, hGy7, hxy7⟩
            case measure => simp [intOf]; omega
        · go_wp2_with fail
          go_ret
          exact ⟨rfl, H.out.below⟩
      · obtain rfl : k = np := by omega
        go_wp2_with fail
        refine (ls_take 1 w3.heap.size _ _ ny (nx : Int) H (by decide) rfl hLy.out (by rw [hqy.out]; omega) (by rw [hqy.out]; omega) (by omega)).mono ?_
        rintro e w8 ⟨A8, c8, rfl, hO8, H8, o8⟩
        have hOx8 := hid (hOx.out.keepb o8 hGx.out)
        have hOy8 := hid (hOy.out.keepb o8 hGy.out)
        have hE8 := hO8.out.elems' (n := ny) (by rw [List.length_take, hqy.out]; omega)
        rw [List.take_of_length_le (by rw [hqy.out]; omega)] at hE8
        have HE8 := hid hE8
        have hLx8 : Hid (upd L 1 (qy.drop ny) 0 = qx) := hid ((upd_ne _ _ (by decide)).trans hLx.out)
        have hLy8 : Hid ((upd L 1 (qy.drop ny) 1).length = 0) := hid (by rw [upd_at, List.length_drop, hqy.out]; omega)
        clear hE8 hO8 hOx hOy o8 H
        go_wp2_with fail
        refine (same_any2 _ A8 _ ny _ c8 _ _ rfl HE8.out (hOy8.out.elems' hqy.out) (by omega)).mono ?_
        rintro e w9 ⟨rfl, o9⟩
        have H9 := hid (H8.out.same o9 (fun _ h => h.elim))
        have hOx9 := hid (hOx8.out.keepb o9 (fun _ _ h => h))
        clear H8 hOx8 hOy8 o9 HE8
        go_wp2_with fail
        refine (ls_held H9).mono ?_
        rintro e w10 ⟨rfl, rfl⟩
        go_wp2_with fail
        refine (ls_lenn 0 w2.heap.size nx H9 (by decide) rfl (by rw [hLx8.out]; exact hqx.out)).mono ?_
        rintro e w10 ⟨rfl, rfl⟩
        go_wp2_with fail
        refine (ls_take 0 w2.heap.size _ _ nx 0 H9 (by decide) rfl hLx8.out (by rw [hqx.out]; omega) (by rw [hqx.out]; omega) (by omega)).mono ?_
        rintro e w11 ⟨A11, c11, rfl, hO11, H11, o11⟩
        have hOx11 := hid (hOx9.out.keepb o11 hGx.out)
        have hE11 := hO11.out.elems' (n := nx) (by rw [List.length_take, hqx.out]; omega)
        rw [List.take_of_length_le (by rw [hqx.out]; omega)] at hE11
        have HE11 := hid hE11
        have hLy11 : Hid ((upd (upd L 1 (qy.drop ny)) 0 (qx.drop nx) 1).length = 0) := hid (by rw [upd_ne _ _ (by decide)]; exact hLy8.out)
        clear hE11 hO11 hOx9 o11 H9
        go_wp2_with fail
        refine (same_any2 _ A11 _ nx _ c11 _ _ rfl HE11.out (hOx11.out.elems' hqx.out) (by omega)).mono ?_
        rintro e w12 ⟨rfl, o12⟩
        have H12 := hid (H11.out.same o12 (fun _ h => h.elim))
        clear H11 hOx11 o12 HE11
        go_wp2_with fail
        refine (ls_held H12).mono ?_
        rintro e w13 ⟨rfl, rfl⟩
        go_wp2_with fail
        refine (ls_lenn 1 w3.heap.size 0 H12 (by decide) rfl hLy11.out).mono ?_
        rintro e w13 ⟨rfl, rfl⟩
        go_wp2_with fail
        go_ret
        exact ⟨rfl, H12.out.below⟩
  · go_wp2_with fail
    go_ret
    exact ⟨rfl, o1.to_below (fun _ h => h.elim)⟩
end Go.Proofs.Ytcehabcbmhjcmaa
