/-
  The library's heap.Push and heap.Pop.
-/
import Derived.Test.YtjfhghimldjcfaaN
namespace Go.Proofs.Ytjfhghimldjcfaa
open Go.RowKit

set_option maxHeartbeats 1000000 in
theorem hpush_any (a : Addr) (A : Option Addr) (n cap : Nat) (q : Nat → Int × Int) (d : Int × Int) (w : World) (h : QAt w a A n cap q) (hh : HeapQ q n) (hn : n ≤ 1000000) :
    Calls Try.prog 20 #[.iface 59 (.pointer (some a)), .iface 57 (.agg #[.int .i64 d.1, .int .i64 d.2])] w fun e w' => ∃ A' cap' q', e = .returned (.tuple #[]) ∧ Hid (QAt w' a A' (n + 1) cap' q') ∧ HeapQ q' (n + 1) ∧ (∀ x, MemQ x q' (n + 1) ↔ MemQ x q n ∨ x = d) ∧ Hid (∀ i, ab A' i → ab A i ∨ w.heap.size ≤ i) ∧ Hid (Rowed w w' a (.slice A' (n + 1) cap')) ∧ Only (fun i => ab A i ∨ i = a.block) w w' := by
  have H := hid h
  have HH := hid hh
  have HD : Hid (∀ x, MemQ x (fun x => if x = n then d else q x) (n + 1) ↔ MemQ x q n ∨ x = d) := hid (fun x => by
    constructor
    · rintro ⟨y, hy, rfl⟩
      by_cases hyn : y = n
      · exact .inr (by simp [hyn])
      · exact .inl ⟨y, by omega, by simp [hyn]⟩
    · rintro (⟨y, hy, rfl⟩ | rfl)
      · exact ⟨y, by omega, by simp [show y ≠ n by omega]⟩
      · exact ⟨n, by omega, by simp⟩)
  clear h hh
  obtain ⟨N, hN⟩ : ∃ N, n + 1 = N := ⟨_, rfl⟩
  rw [hN]
  have HN := hid hN
  clear hN
  have mp := m_push a
  go_enter Try.func20, Try.ntmps20
  go_wp2_with fail
  refine (qpush_any a A n cap q d _ H.out hn).mono ?_
  rintro e w1 ⟨A1, cap1, rfl, H1, hA1, R1, o1⟩
  have hN := HN.out
  rw [hN] at H1 R1
  have eN : (N : Int) - 1 = (n : Int) := by omega
  have eN3 : N - 1 = n := by omega
  have b2 : N ≤ 1000001 := by omega
  have hnN : n < N := by omega
  clear hN mp
  have hc := H1.out.cell
  have hm := m_len a _ _ hc
  clear hc
  go_wp2_with fail
  refine (len_any A1 N cap1 _).mono ?_
  rintro e w2 ⟨rfl, rfl⟩
  clear hm
  go_wp2_with fail
  refine (up_any a A1 N cap1 _ n _ H1.out hnN (HN.out ▸ heap_push HH.out d) (by omega)).mono ?_
  rintro e w2 ⟨q2, rfl, H2, hh2, hm2, o2⟩
  go_wp2_with fail
  go_returns
  refine ⟨A1, cap1, q2, rfl, H2, hh2, fun x => (hm2 x).trans ?_, hA1, hid (R1.out.before o2 H1.out.ne), o1.trans' o2 (fun i hi => (hA1.out i hi).imp .inl id)⟩
  rw [← HN.out]
  exact HD.out x

set_option maxHeartbeats 1000000 in
theorem hpop_any (a : Addr) (A : Option Addr) (n cap : Nat) (q : Nat → Int × Int) (w : World) (h : QAt w a A (n + 1) cap q) (hh : HeapQ q (n + 1)) (hn : n ≤ 1000000) :
    Calls Try.prog 23 #[.iface 59 (.pointer (some a))] w fun e w' => ∃ q' d, e = .returned (.iface 57 d) ∧ Hid (QAt w' a A n cap q') ∧ HeapQ q' n ∧ (∀ x, MemQ x q (n + 1) ↔ MemQ x q' n ∨ x = q 0) ∧ Hid (Rowed w w' a (.slice A n cap)) ∧ Only (fun i => ab A i ∨ i = a.block) w w' := by
  obtain ⟨N, hN⟩ : ∃ N, n + 1 = N := ⟨_, rfl⟩
  rw [hN] at h hh ⊢
  have H := hid h
  have HH := hid hh
  clear h hh
  have eN : (N : Int) - 1 = (n : Int) := by omega
  have eN3 : N - 1 = n := by omega
  have b2 : N ≤ 1000001 := by omega
  have hnN : n < N := by omega
  have h0N : 0 < N := by omega
  have HN := hid hN
  clear hN
  have hc := H.out.cell
  have hm := m_len a _ _ hc
  have hm2 := m_swap a _ _ hc
  clear hc
  go_enter Try.func23, Try.ntmps23
  go_wp2_with fail
  refine (len_any A N cap _).mono ?_
  rintro e w2 ⟨rfl, rfl⟩
  go_wp2_with fail
  refine (swap_any A N cap q 0 n _ H.out.row h0N hnN).mono ?_
  rintro e w1 ⟨rfl, hr, o1⟩
  have H1 := hid (H.out.swap hr o1)
  clear hm hm2
  go_wp2_with fail
  refine (down_any a A N cap _ n _ H1.out (by omega) (heap_pop (HN.out ▸ HH.out)) (by omega)).mono ?_
  rintro e w2 ⟨b, q2, rfl, H2, hh2, hm2, ht2, o2⟩
  have mp := m_pop a
  have HM2 := hid hm2
  have HT2 := hid ht2
  have HH2 := hid hh2
  clear hm2 ht2 hh2
  go_wp2_with fail
  refine (qpop_any a A n cap q2 _ (HN.out ▸ H2.out) hn).mono ?_
  rintro e w3 ⟨rfl, H3, R3, o3⟩
  clear mp
  go_wp2_with fail
  go_ret
  exact ⟨q2, _, rfl, H3, HH2.out, fun x => by rw [← HN.out]; exact mem_pop HM2.out x, hid (R3.out.after (o1.trans o2) H2.out.ne), ((o1.trans o2).mono (fun _ h => .inl h)).trans (o3.mono (fun _ h => .inr h))⟩
end Go.Proofs.Ytjfhghimldjcfaa
