/-
  The references' Join and with.
-/
import Derived.Test.YtcehabcbmhjcmaaE
import Derived.Test.YtcehabcbmhjcmaaB
import Derived.Test.YtcehabcbmhjcmaaO
namespace Go.Proofs.Ytcehabcbmhjcmaa
open Go.RowKit

/-- append(out, x) of one byte. -/
theorem app_1 {ops : Array Oper} {rest : List Oper} {o : Oper} {a : Act} {Q : Exit → Act → World → Prop} {W : World} (hgd : o.guard = none) (s x : Operand)
    (ho : o.op = .call { callee := .builtin .append, args := #[s, x], argTypes := #[22, 22] })
    (base n cap : Nat) (A : Option Addr) (q : List Int) (y : Int) (hq : q.length = n) (hs : a.eval s = .slice A n cap) (hx : a.eval x = .slice (some ⟨W.heap.size, 0, none⟩) 1 1)
    (HO : OwnB W base A cap q) (hbase : base ≤ W.heap.size) (hl : n + 1 ≤ 140737488355328)
    (h : ∀ A' cap' w1, Hid (OwnB w1 base A' cap' (q ++ [y])) → Only (fun i => ∃ a, A = some a ∧ a.block = i) W w1 → wpList Try.prog ops Q rest (a.put o.dst (.slice A' (n + 1) cap')) w1) :
    wpList Try.prog ops Q (o :: rest) a (W.alloc (.cells #[.int .u8 y] 5)) := by
  have e : (#[Value.int .u8 y] : Array Value) = (u8s [y]).toArray := rfl
  refine app_b hgd s x ho base n 1 cap 1 A (some ⟨W.heap.size, 0, none⟩) q [y] hq rfl hs hx (HO.keep ((Only.refl (fun _ => False) W).alloc _) (fun _ _ h => h)) ?_ (fun h => by cases h) (by simp; omega) hl (fun A' cap' w1 h1 h2 _ => h A' cap' w1 h1 (((Only.refl _ _).alloc _).trans h2))
  rw [e]
  exact elems_row (b_new W _)

set_option maxHeartbeats 1000000 in
theorem join_any (qa qb : List Int) (A B : Option Addr) (na nb ca cb : Nat) (w : World) (ha : qa.length = na) (hb : qb.length = nb) (hA : Elems w A na (B8 qa)) (hB : Elems w B nb (B8 qb)) (hl : na + nb ≤ 1099511627776) :
    Calls Try.prog 28 #[.slice A na ca, .slice B nb cb] w fun e w' => ∃ A' c', e = .returned (.slice A' (na + nb) c') ∧ Hid (OwnB w' w.heap.size A' c' (qa ++ qb)) ∧ Only (fun _ => False) w w' := by
  have HA := hid hA
  have HB := hid hB
  have LA := hid ha
  have LB := hid hb
  clear hA hB ha hb
  go_enter Try.func28, Try.ntmps28
  go_wp2_with fail
  go_loopw [5, 6] (fun ov iv wr => ∃ (k : Nat) (A' : Option Addr) (c' : Nat), k ≤ na ∧ iv = .int .i64 (k : Int) ∧ ov = .slice A' k c' ∧ Hid (OwnB wr w.heap.size A' c' (qa.take k)) ∧ Only (fun _ => False) w wr) (fun _ iv _ => na - (intOf iv).toNat)
  case atStart => exact ⟨0, _, 0, Nat.zero_le _, rfl, rfl, World.ownsRow_made w #[] 0 (Nat.le_refl _) (by simp [maxLen]) rfl, (Only.refl _ _).alloc _⟩
  case round =>
    obtain ⟨k, A', c', hk, rfl, rfl, hO, o⟩ := hrel
    by_cases hlt : k < na
    · obtain ⟨b, off, rfl, hc⟩ := (HA.out.same o).at_ k hlt
      unfold B8 at hc
      have hkl : (qa.take k).length = k := by rw [List.length_take, LA.out]; omega
      have HKL := hid hkl
      clear hkl
      go_wp2_with (first | (at_builtin; refine app_1 rfl _ _ rfl w.heap.size k c' A' (qa.take k) (qa.getD k 0) HKL.out rfl rfl hO.out o.size (by omega) ?_; intro A6 c6 w6 hO6 o6) | fail)
      have o7 : Only (fun _ => False) w w6 := o.trans' o6 (fun i => by rintro ⟨a, ha, rfl⟩; exact .inr (hO.out.blk a ha).1)
      have hO7 : Hid (OwnB w6 w.heap.size A6 c6 (qa.take (k + 1))) := by
        rw [List.take_add_one, show qa[k]?.toList = [qa.getD k 0] by rw [List.getD_eq_getElem?_getD, List.getElem?_eq_getElem (by rw [LA.out]; omega)]; rfl]
        exact hO6
      clear hO6 o6 hO o
      go_roundw
      case rel => exact ⟨k + 1, A6, c6, by omega, by simp, rfl, hO7, o7⟩
      case measure => simp [intOf]; omega
    · obtain rfl : k = na := by omega
      have hO' : Hid (OwnB wr w.heap.size A' c' qa) := by
        have := hO.out
        rw [List.take_of_length_le (by rw [LA.out]; omega)] at this
        exact this
      clear hO
      go_wp2_with fail
      go_loopw [5, 7] (fun ov iv wr => ∃ (j : Nat) (A' : Option Addr) (c' : Nat), j ≤ nb ∧ iv = .int .i64 (j : Int) ∧ ov = .slice A' (k + j) c' ∧ Hid (OwnB wr w.heap.size A' c' (qa ++ qb.take j)) ∧ Only (fun _ => False) w wr) (fun _ iv _ => nb - (intOf iv).toNat)
      case atStart => exact ⟨0, A', c', Nat.zero_le _, rfl, rfl, by rw [List.take_zero, List.append_nil]; exact hO', o⟩
      case round =>
        clear hO' o
        obtain ⟨j, A', c', hj, rfl, rfl, hO, o⟩ := hrel
        by_cases hlt2 : j < nb
        · obtain ⟨b, off, rfl, hc⟩ := (HB.out.same o).at_ j hlt2
          unfold B8 at hc
          have hkl : (qa ++ qb.take j).length = k + j := by rw [List.length_append, List.length_take, LA.out, LB.out]; omega
          have HKL := hid hkl
          clear hkl
          go_wp2_with (first | (at_builtin; refine app_1 rfl _ _ rfl w.heap.size (k + j) c' A' (qa ++ qb.take j) (qb.getD j 0) HKL.out rfl rfl hO.out o.size (by omega) ?_; intro A6 c6 w6 hO6 o6) | fail)
          have o7 : Only (fun _ => False) w w6 := o.trans' o6 (fun i => by rintro ⟨a, ha, rfl⟩; exact .inr (hO.out.blk a ha).1)
          have hO7 : Hid (OwnB w6 w.heap.size A6 c6 (qa ++ qb.take (j + 1))) := by
            rw [List.take_add_one, show qb[j]?.toList = [qb.getD j 0] by rw [List.getD_eq_getElem?_getD, List.getElem?_eq_getElem (by rw [LB.out]; omega)]; rfl, ← List.append_assoc]
            exact hO6
          clear hO6 o6 hO o
          go_roundw
          case rel => exact ⟨j + 1, A6, c6, by omega, by simp, by simp [Nat.add_assoc], hO7, o7⟩
          case measure => simp [intOf]; omega
        · obtain rfl : j = nb := by omega
          have hO' : Hid (OwnB wr w.heap.size A' c' (qa ++ qb)) := by
            have := hO.out
            rw [List.take_of_length_le (by rw [LB.out]; omega)] at this
            exact this
          clear hO
          go_wp2_with fail
          go_ret
          exact ⟨A', c', rfl, hO', o⟩
end Go.Proofs.Ytcehabcbmhjcmaa
