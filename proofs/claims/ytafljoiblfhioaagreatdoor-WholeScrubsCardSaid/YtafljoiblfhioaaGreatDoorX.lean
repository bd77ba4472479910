/-
  The reader of the package chunk: data, trailer.
-/
import Derived.Test.YtafljoiblfhioaaGreatDoorW
import Derived.Lib.SmallJoins
namespace Go.Proofs.YtafljoiblfhioaaGreatDoor
open Go.RowKit

theorem dataF_len (r : List UInt8) (n : Nat) : ((dataF r n).2.1 = 0 → (dataF r n).2.2.1 = false → n + 2 ≤ r.length ∧ (dataF r n).1 = r.take n ∧ (dataF r n).2.2.2 = n + 2) ∧ ((dataF r n).2.1 = 0 ∨ (dataF r n).2.1 = 20) := by
  unfold dataF
  split
  · simp
  · split
    · simp
    · rename_i h
      simp
      omega
set_option maxRecDepth 100000 in
set_option maxHeartbeats 2000000 in
theorem rdata_any (g : Nat) (A : Option Addr) (n c : Nat) (b : List UInt8) (at_ : Nat) (w : World) (d : Nat) (H : Rd w g A n c b at_ false) (hn : n ≤ 1000000000) (hd : d ≤ 1000000000) (hgw : g < w.heap.size) :
    Calls Tryz.prog 83 #[.pointer (some ⟨g, 0, none⟩), .int .i64 (d : Int)] w fun e w' => ∃ A' c', e = .returned (.tuple #[.slice A' (dataF (b.drop at_) d).1.length c', .int .i64 (dataF (b.drop at_) d).2.1]) ∧
      Bs w' A' (dataF (b.drop at_) d).1.length c' (dataF (b.drop at_) d).1 ∧ (∀ i, ab A' i → i ≠ g) ∧ Rd w' g A n c b (at_ + (dataF (b.drop at_) d).2.2.2) (dataF (b.drop at_) d).2.2.1 ∧ Only (fun i => i = g) w w' := by
  have hle := H.le
  have hc := H.bs.le
  have hbl := H.bs.len
  obtain ⟨r, hr⟩ : ∃ r, b.drop at_ = r := ⟨_, rfl⟩
  have hrl : r.length = n - at_ := by rw [← hr, List.length_drop, hbl]
  have hF : dataF r d = (if (d < r.length ∧ r[d]? ≠ some 13) ∨ (d + 1 < r.length ∧ r[d + 1]? ≠ some 10) then ([], 20, false, 0)
    else if r.length < d + 2 then ([], 0, true, 0)
    else (r.take d, 0, false, d + 2)) := rfl
  have hB := H.bs.drop at_ hle
  rw [hr] at hB ⊢
  rw [hrl] at hF
  replace hF := hid hF
  replace hr := hid hr
  replace hbl := hid hbl
  obtain ⟨⟨c0, c1, c2⟩, f0, f1, f2⟩ := cells3 H.row
  have sl1 := run_l A n c at_ hle
  have sl1' := run_l' A n c at_ hle
  obtain ⟨A1, hA1⟩ : ∃ A1, dropA A c at_ = A1 := ⟨_, rfl⟩
  have hA1g : Hid (∀ i, ab A1 i → i ≠ g) := hid (by
    rintro i ⟨a, rfl, rfl⟩
    unfold dropA at hA1
    split at hA1
    · subst hA1
      exact H.ne _ ⟨_, rfl, rfl⟩
    · obtain ⟨a0, h0, rfl⟩ := Option.map_eq_some_iff.1 hA1
      subst h0
      exact H.ne _ ⟨a0, rfl, by simp [Addr.add]; split <;> rfl⟩)
  rw [hA1] at hB sl1 sl1'
  clear hA1
  have kc := fun (w : World) (C : Array Value) (n c g : Nat) (hg : g = w.heap.size) => Joins.run_convert_bytes_const_at (P := Tryz.prog) w 22 5 C n c g hg Tryz.underlying22 Tryz.underlying5
  go_enter Tryz.func83, Tryz.ntmps83
  go_upto_region 1 with (fail)
  go_quiet (fail)
  clear c0 c1 c2 f0 f1 f2 sl1 sl1'
  have H1 := H.same (Only.drewN (Only.refl (fun _ => False) w) nq)
  have O1 := Only.drewN (Only.refl (fun i => i = g) w) nq
  have hB1 := hB.same (Only.drewN (Only.refl (fun _ => False) w) nq)
  clear H hB
  generalize w.drewN nq = w1 at H1 O1 hB1 ⊢
  go_upto_region 3 with (fail)
  clear kc
  have O2 : Only (fun _ => False) w1 (w1.alloc (.cells #[.int .u8 13, .int .u8 10] 5 (2, 3))) := (Only.refl _ _).alloc _
  have hrow2 := b_new w1 (.cells #[.int .u8 13, .int .u8 10] 5 (2, 3))
  replace O1 := O1.trans' O2 (fun _ h => h.elim)
  replace H1 := H1.same O2
  replace hB1 := hB1.same O2
  clear O2
  obtain ⟨g2, hg2⟩ : ∃ g2, w1.heap.size = g2 := ⟨_, rfl⟩
  rw [hg2] at hrow2
  have e0 := b_cell hrow2 0
  have e1 := b_cell hrow2 1
  simp only [List.getElem?_toArray, List.getElem?_cons_zero, List.getElem?_cons_succ] at e0 e1
  generalize w1.alloc (.cells #[.int .u8 13, .int .u8 10] 5 (2, 3)) = w2 at H1 O1 hB1 hrow2 e0 e1 ⊢
  rw [hg2]
  clear hrow2 hg2
  replace O1 := hid O1
  replace H1 := hid H1
  obtain ⟨m, hm⟩ : ∃ m, n - at_ = m := ⟨_, rfl⟩
  have hmn : m ≤ n := by omega
  have hmle : at_ + m ≤ n := by omega
  obtain ⟨c2, hc2⟩ : ∃ c2, c - at_ = c2 := ⟨_, rfl⟩
  have hmc : m ≤ c2 := by omega
  rw [hm] at hF hrl
  rw [hm, hc2] at hB1
  rw [hm, hc2]
  clear hm hc2
  replace hrl := hid hrl
  go_loopw [21] (fun iv wr => ∃ k : Nat, k ≤ 2 ∧ iv = .int .i64 (k : Int) ∧ wr = w2 ∧ Hid (0 < k → ¬ (d < m ∧ r[d]? ≠ some 13)) ∧ Hid (1 < k → ¬ (d + 1 < m ∧ r[d + 1]? ≠ some 10))) (fun iv _ => 2 - (intOf iv).toNat)
  case atStart => exact ⟨0, by omega, rfl, rfl, hid (by omega), hid (by omega)⟩
  case round =>
    obtain ⟨k, hk, rfl, rfl, hx, hy⟩ := hrel
    rcases (show k = 0 ∨ k = 1 ∨ k = 2 by omega) with rfl | rfl | rfl
    · clear hx hy
      by_cases h1 : d < m
      · obtain ⟨p, hp⟩ : ∃ p, r[d]? = some p := ⟨_, List.getElem?_eq_getElem (by rw [hrl.out]; exact h1)⟩
        obtain ⟨q, off, rfl, hb, q0⟩ := hB1.at_ d p hp
        by_cases hpe : p = 13
        · subst hpe
          rw [show ((13 : UInt8).toNat : Int) = 13 from rfl] at q0
          have hn1 : Hid (¬ (d < m ∧ r[d]? ≠ some 13)) := hid (fun h => h.2 hp)
          replace hp := hid hp
          go_wp2_with fail
          go_roundw
          case rel => exact ⟨1, by omega, by simp, by simp, hid (fun _ => hn1.out), hid (by omega)⟩
          case measure => simp [intOf]
        · have hres : Hid (dataF r d = ([], 20, false, 0)) := hid (by rw [hF.out, if_pos (.inl ⟨h1, by rw [hp]; simpa using hpe⟩)])
          have v := u8_ne p 13 hpe
          change ¬ (p.toNat : Int) = 13 at v
          have v2 : ((p.toNat : Int) != 13) = true := by simpa using v
          replace hp := hid hp
          replace hpe := hid hpe
          clear hF
          go_wp2_with fail
          go_ret2
          refine ⟨none, 0, by rw [hres.out]; rfl, by rw [hres.out]; exact Bs.empty _, ?_, by rw [hres.out]; exact H1.out, O1.out⟩
          rintro i ⟨a, h, _⟩
          cases h
      · have hn1 : Hid (¬ (d < m ∧ r[d]? ≠ some 13)) := hid (fun h => h1 h.1)
        go_wp2_with fail
        go_roundw
        case rel => exact ⟨1, by omega, by simp, by simp, hid (fun _ => hn1.out), hid (by omega)⟩
        case measure => simp [intOf]
    · have hx' := hx.out (by omega)
      clear hx hy
      replace hx' := hid hx'
      by_cases h1 : d + 1 < m
      · obtain ⟨p, hp⟩ : ∃ p, r[d + 1]? = some p := ⟨_, List.getElem?_eq_getElem (by rw [hrl.out]; exact h1)⟩
        obtain ⟨q, off, rfl, hb, q0⟩ := hB1.at_ (d + 1) p hp
        have h1i : (d : Int) + 1 < m := by omega
        by_cases hpe : p = 10
        · subst hpe
          rw [show ((10 : UInt8).toNat : Int) = 10 from rfl] at q0
          have hn1 : Hid (¬ (d + 1 < m ∧ r[d + 1]? ≠ some 10)) := hid (fun h => h.2 hp)
          replace hp := hid hp
          go_wp2_with fail
          go_roundw
          case rel => exact ⟨2, by omega, by simp, by simp, hid (fun _ => hx'.out), hid (fun _ => hn1.out)⟩
          case measure => simp [intOf]
        · have hres : Hid (dataF r d = ([], 20, false, 0)) := hid (by rw [hF.out, if_pos (.inr ⟨h1, by rw [hp]; simpa using hpe⟩)])
          have v := u8_ne p 10 hpe
          change ¬ (p.toNat : Int) = 10 at v
          have v2 : ((p.toNat : Int) != 10) = true := by simpa using v
          replace hp := hid hp
          replace hpe := hid hpe
          clear hF
          go_wp2_with fail
          go_ret2
          refine ⟨none, 0, by rw [hres.out]; rfl, by rw [hres.out]; exact Bs.empty _, ?_, by rw [hres.out]; exact H1.out, O1.out⟩
          rintro i ⟨a, h, _⟩
          cases h
      · have hn1 : Hid (¬ (d + 1 < m ∧ r[d + 1]? ≠ some 10)) := hid (fun h => h1 h.1)
        have h1i : ¬ (d : Int) + 1 < m := by omega
        go_wp2_with fail
        go_roundw
        case rel => exact ⟨2, by omega, by simp, by simp, hid (fun _ => hx'.out), hid (fun _ => hn1.out)⟩
        case measure => simp [intOf]
    · have hx' := hx.out (by omega)
      have hy' := hy.out (by omega)
      have hF2 := hF.out
      rw [if_neg (fun h => h.elim hx' hy')] at hF2
      clear hF hx hy hx' hy'
      obtain ⟨⟨c0, c1, c3⟩, f0, f1, f2⟩ := cells3 H1.out.row
      by_cases hlm : m < d + 2
      · have hres : Hid (dataF r d = ([], 0, true, 0)) := hid (by rw [hF2, if_pos hlm])
        have hi : (m : Int) < (d : Int) + 2 := by omega
        have H2 := hid (H1.out.set2 true)
        have O2 := hid (O1.out.setCell (p := ⟨g, 2, none⟩) (.inl rfl) (.bool true))
        clear hF2
        go_wp2_with fail
        go_ret2
        refine ⟨none, 0, by rw [hres.out]; rfl, by rw [hres.out]; exact Bs.empty _, ?_, by rw [hres.out]; exact H2.out, O2.out⟩
        rintro i ⟨a, h, _⟩
        cases h
      · have hres : Hid (dataF r d = (r.take d, 0, false, d + 2)) := hid (by rw [hF2, if_neg hlm])
        have hi : ¬ (m : Int) < (d : Int) + 2 := by omega
        have H2 := H1.out.set1 (at_ + (d + 2)) (by omega)
        rw [show ((at_ + (d + 2) : Nat) : Int) = (at_ : Int) + ((d : Int) + 2) by omega] at H2
        have O2 := hid (O1.out.setCell (p := ⟨g, 1, none⟩) (.inl rfl) (.int .i64 ((at_ : Int) + ((d : Int) + 2))))
        have hB2 := hid ((hB1.take d (by omega)).keep (S := fun i => i = g) ((Only.refl (fun i => i = g) wr).setCell (p := ⟨g, 1, none⟩) (.inl rfl) (.int .i64 ((at_ : Int) + ((d : Int) + 2)))) (fun i hi => hA1g.out i hi))
        have hlt : Hid ((r.take d).length = d) := hid (by rw [List.length_take, hrl.out]; omega)
        have sl1 := run_h A1 m c2 d (by omega)
        have sl1' := run_h' A1 m c2 d (by omega)
        replace H2 := hid H2
        clear hF2
        go_wp2_with fail
        go_ret2
        refine ⟨A1, c2, by rw [hres.out, hlt.out]; rfl, by rw [hres.out, hlt.out]; exact hB2.out, hA1g.out, by rw [hres.out]; exact H2.out, O2.out⟩
end Go.Proofs.YtafljoiblfhioaaGreatDoor
