/-
  The queue behind heap.Interface: which function a call leads to; up, down.
-/
import Derived.Test.YtjfhghimldjcfaaP
namespace Go.Proofs.Ytjfhghimldjcfaa
open Go.RowKit

theorem m_val (name : String) (f : Nat) (a : Addr) (v : Value) (w : World) (h : w.cell? a = some v)
    (e : (method 193 59 (.pointer (some a)) name).run Try.prog w = ((load a) >>= fun v => pure (f, v)).run Try.prog w) :
    (method 193 59 (.pointer (some a)) name).run Try.prog w = .ok (f, v) w := by
  rw [e]
  simp [h, Result.andThen]
theorem m_less (a : Addr) (v : Value) (w : World) (h : w.cell? a = some v) : (method 193 59 (.pointer (some a)) "Less").run Try.prog w = .ok (43, v) w := m_val _ _ a v w h (by kernel_rfl)
theorem m_len (a : Addr) (v : Value) (w : World) (h : w.cell? a = some v) : (method 193 59 (.pointer (some a)) "Len").run Try.prog w = .ok (42, v) w := m_val _ _ a v w h (by kernel_rfl)
theorem m_swap (a : Addr) (v : Value) (w : World) (h : w.cell? a = some v) : (method 193 59 (.pointer (some a)) "Swap").run Try.prog w = .ok (44, v) w := m_val _ _ a v w h (by kernel_rfl)
theorem m_push (a : Addr) (w : World) : (method 193 59 (.pointer (some a)) "Push").run Try.prog w = .ok (51, .pointer (some a)) w := by kernel_rfl
theorem m_pop (a : Addr) (w : World) : (method 193 59 (.pointer (some a)) "Pop").run Try.prog w = .ok (50, .pointer (some a)) w := by kernel_rfl

/-- The block of a slice. -/
def ab (A : Option Addr) (i : Nat) : Prop := ∃ b, A = some b ∧ b.block = i
/-- The clock's queue in the heap: its cell and its row. -/
structure QAt (w : World) (a : Addr) (A : Option Addr) (n cap : Nat) (q : Nat → Int × Int) : Prop where
  cell : w.cell? a = some (.slice A n cap)
  lt : a.block < w.heap.size
  row : QRow w A n cap q
  ne : ¬ ab A a.block
  free : w.frozen? a = false
theorem QAt.swap {w w' : World} {a : Addr} {A : Option Addr} {n cap : Nat} {q q' : Nat → Int × Int} (h : QAt w a A n cap q) (hr : QRow w' A n cap q') (o : Only (ab A) w w') : QAt w' a A n cap q' :=
  ⟨(o.cell h.lt h.ne).trans h.cell, Nat.lt_of_lt_of_le h.lt o.size, hr, h.ne, (World.frozen?_of_block (o.block a.block h.lt h.ne)).trans h.free⟩
theorem QAt.same {w w' : World} {a : Addr} {A : Option Addr} {n cap : Nat} {q : Nat → Int × Int} (h : QAt w a A n cap q) (o : Only (fun _ => False) w w') : QAt w' a A n cap q :=
  ⟨(o.cell h.lt (fun h => h)).trans h.cell, Nat.lt_of_lt_of_le h.lt o.size, h.row.keep o (fun _ _ h => h), h.ne, (World.frozen?_of_block (o.block a.block h.lt (fun h => h))).trans h.free⟩

set_option maxHeartbeats 1000000 in
theorem up_any (a : Addr) (A : Option Addr) (n cap : Nat) (q : Nat → Int × Int) (j : Nat) (w : World) (h : QAt w a A n cap q) (hj : j < n) (hu : UpInv q n j) (hn : n ≤ 1099511627776) :
    Calls Try.prog 24 #[.iface 59 (.pointer (some a)), .int .i64 (j : Int)] w fun e w' => ∃ q', e = .returned (.tuple #[]) ∧ Hid (QAt w' a A n cap q') ∧ HeapQ q' n ∧ (∀ d, MemQ d q' n ↔ MemQ d q n) ∧ Only (ab A) w w' := by
  have H := hid h
  have HU := hid hu
  clear h hu
  go_enter Try.func24, Try.ntmps24
  go_wp2_with fail
  go_loopw [1] (fun jv wr => ∃ (j : Nat) (q' : Nat → Int × Int), jv = .int .i64 (j : Int) ∧ j < n ∧ Hid (QAt wr a A n cap q') ∧ Hid (UpInv q' n j) ∧ Hid (∀ d, MemQ d q' n ↔ MemQ d q n) ∧ Only (ab A) w wr) (fun jv _ => (intOf jv).toNat)
  case atStart => exact ⟨j, q, rfl, hj, H, HU, hid (fun _ => Iff.rfl), Only.refl _ _⟩
  case round =>
    clear HU H
    obtain ⟨j, q', rfl, hj, HQ, HU, HM, o⟩ := hrel
    by_cases h0 : j = 0
    · subst h0
      go_wp2_with fail
      go_returns
      exact ⟨q', rfl, HQ, up_done HU.out (.inl rfl), HM.out, o⟩
    · obtain ⟨p, hp⟩ : ∃ p, p = (j - 1) / 2 := ⟨_, rfl⟩
      have hpi : ((j : Int) - 1) / 2 = (p : Int) := by omega
      have hpi2 : ((j - 1 : Nat) : Int) / 2 = (p : Int) := by omega
      have hpj : ¬ (p : Int) = (j : Int) := by omega
      have hpn : p < n := by omega
      have hplt : p < j := by omega
      have HP := hid hp
      clear hp
      have hc := HQ.out.cell
      have hm := m_less a _ _ hc
      clear hc
      go_wp2_with fail
      refine (less_any A n cap q' j p _ HQ.out.row hj hpn).mono ?_
      rintro e w1 ⟨rfl, o1⟩
      have H1 := hid (HQ.out.same o1)
      clear hm
      by_cases hl : dlt (q' j) (q' p)
      · have hl2 := hl
        have hc := H1.out.cell
        have hm2 := m_swap a _ _ hc
        clear hc
        go_wp2_with fail
        refine (swap_any A n cap q' p j _ H1.out.row hpn hj).mono ?_
        rintro e w2 ⟨rfl, hr, o2⟩
        have H2 := hid (H1.out.swap hr o2)
        clear hm2
        go_wp2_with fail
        go_roundw
        case rel => exact ⟨p, _, rfl, hpn, H2, hid (up_step HU.out (by omega) hj HP.out hl2), hid (fun d => (mem_swp hpn hj d).trans (HM.out d)), (o.trans (o1.mono (fun _ h => h.elim))).trans o2⟩
        case measure => simp [intOf]; omega
      · have hl2 := hl
        go_wp2_with fail
        go_returns
        exact ⟨q', rfl, H1, up_done HU.out (.inr (HP.out ▸ hl2)), HM.out, o.trans (o1.mono (fun _ h => h.elim))⟩
end Go.Proofs.Ytjfhghimldjcfaa
