/-
  The references' rows of rings: with.
-/
import Derived.Test.YtcehabcbmhjcmaaF
namespace Go.Proofs.Ytcehabcbmhjcmaa
open Go.RowKit

theorem info22 : (Try.prog.info? 22).map (fun i => (i.zero, i.size, i.bytes)) = some (some (.slice none 0 0), 1, 24) := by kernel_rfl

/-- A row of n slices of bytes that begins at cell 0 of block g. -/
def RowAt (w : World) (g : Nat) (n : Nat) (X : Nat → Value) : Prop := g < w.heap.size ∧ ∀ i, i < n → w.cell? ⟨g, i, none⟩ = some (X i)
theorem RowAt.keep {S : Nat → Prop} {w w' : World} {g n : Nat} {X : Nat → Value} (h : RowAt w g n X) (o : Only S w w') (hs : ¬ S g) : RowAt w' g n X :=
  ⟨Nat.lt_of_lt_of_le h.1 o.size, fun i hi => (o.cell (p := ⟨g, i, none⟩) h.1 hs).trans (h.2 i hi)⟩

/-- What with puts into place i. -/
def wi (k : Nat) (X : Nat → Value) (v : Value) (i : Nat) : Value := if i = k then v else X i

set_option maxHeartbeats 1000000 in
theorem with_any (g : Nat) (n c k : Nat) (X : Nat → Value) (Ab : Option Addr) (nb cb : Nat) (w : World) (hR : RowAt w g n X) (hX : ∀ i, i < n → ∃ A m c, X i = .slice A m c) (hn : n ≤ 1000) :
    Calls Try.prog 27 #[.slice (some ⟨g, 0, none⟩) n c, .int .i64 (k : Int), .slice Ab nb cb] w fun e w' => ∃ g' c', e = .returned (.slice (some ⟨g', 0, none⟩) n c') ∧ Hid (RowAt w' g' n (wi k X (.slice Ab nb cb))) ∧ w.heap.size ≤ g' ∧ Only (fun _ => False) w w' := by
  have HR := hid hR
  have HX := hid hX
  clear hR hX
  obtain ⟨i0, hi0, hzz⟩ := Option.map_eq_some_iff.1 info22
  go_enter Try.func27, Try.ntmps27
  go_wp2_with fail
  go_loopw [7, 8] (fun ov iv wr => ∃ (j : Nat) (g' : Nat) (c' : Nat), j ≤ n ∧ iv = .int .i64 (j : Int) ∧ ov = .slice (some ⟨g', 0, none⟩) j c' ∧ Hid (wr.ownsRow w.heap.size 22 1 (.slice (some ⟨g', 0, none⟩) j c') j ((List.range j).map (wi k X (.slice Ab nb cb)))) ∧ Only (fun _ => False) w wr) (fun _ iv _ => n - (intOf iv).toNat)
  case atStart => exact ⟨0, w.heap.size, 0, Nat.zero_le _, rfl, rfl, own_empty w w.heap.size _ (Nat.le_refl _), (Only.refl _ _).alloc _⟩
  case round =>
    obtain ⟨j, g', c', hj, rfl, rfl, hO, o⟩ := hrel
    by_cases hlt : j < n
    · have hcell := (HR.out.keep o (fun h => h)).2 j hlt
      obtain ⟨A, m, cx, hXj⟩ := HX.out j hlt
      rw [hXj] at hcell
      have hgb := own_size hO.out
      by_cases hjk : j = k
      · have hb : ((j : Int) == (k : Int)) = true := by simp [hjk]
        have hwi : wi k X (.slice Ab nb cb) j = .slice Ab nb cb := if_pos hjk
        have HW := hid hwi
        clear hjk hwi
        go_wp2_with (first | (at_builtin; refine app1 rfl _ _ 34 22 (.slice none 0 0) 24 rfl Try.underlying34 info22 rfl (by omega) w.heap.size g' j c' _ (.slice Ab nb cb) rfl rfl rfl hO.out o.size (by omega) ?_; intro g6 c6 w6 hO6 o6 _ _) | fail)
        have o7 : Only (fun _ => False) w w6 := o.trans' o6 (fun i hi => .inr (hi ▸ hgb.1))
        have hO7 : Hid (w6.ownsRow w.heap.size 22 1 (.slice (some ⟨g6, 0, none⟩) (j + 1) c6) (j + 1) ((List.range (j + 1)).map (wi k X (.slice Ab nb cb)))) := by
          rw [List.range_succ, List.map_append, List.map_singleton, HW.out]
          exact hO6
        clear hO6 o6 hO o
        go_roundw
        case rel => exact ⟨j + 1, g6, c6, by omega, by simp, rfl, hO7, o7⟩
        case measure => simp [intOf]; omega
      · have hb : ((j : Int) == (k : Int)) = false := by simp; omega
        have hwi : wi k X (.slice Ab nb cb) j = .slice A m cx := (if_neg hjk).trans hXj
        have HW := hid hwi
        clear hjk hwi
        go_wp2_with (first | (at_builtin; refine app1 rfl _ _ 34 22 (.slice none 0 0) 24 rfl Try.underlying34 info22 rfl (by omega) w.heap.size g' j c' _ (.slice A m cx) rfl rfl rfl hO.out o.size (by omega) ?_; intro g6 c6 w6 hO6 o6 _ _) | fail)
        have o7 : Only (fun _ => False) w w6 := o.trans' o6 (fun i hi => .inr (hi ▸ hgb.1))
        have hO7 : Hid (w6.ownsRow w.heap.size 22 1 (.slice (some ⟨g6, 0, none⟩) (j + 1) c6) (j + 1) ((List.range (j + 1)).map (wi k X (.slice Ab nb cb)))) := by
          rw [List.range_succ, List.map_append, List.map_singleton, HW.out]
          exact hO6
        clear hO6 o6 hO o
        go_roundw
        case rel => exact ⟨j + 1, g6, c6, by omega, by simp, rfl, hO7, o7⟩
        case measure => simp [intOf]; omega
    · obtain rfl : j = n := by omega
      have hgb := own_size hO.out
      go_wp2_with fail
      go_ret
      refine ⟨g', c', rfl, ⟨hgb.2.1, fun i hi => ?_⟩, hgb.1, o⟩
      obtain ⟨v, hv, hc⟩ := own_cell hO.out i hi
      rw [hc, ← hv]
      simp [hi]
end Go.Proofs.Ytcehabcbmhjcmaa
