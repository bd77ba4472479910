/-
  The law's own example.
-/
import Derived.Test.YtcehabcbmhjcmaaN
import Derived.Lib.SmallJoins
import Derived.Laws.BytesArg
namespace Go.Proofs.Ytcehabcbmhjcmaa
open Go.RowKit

theorem str_own {w : World} {base : Nat} {A : Option Addr} {c m : Nat} {q : List Int} (h : OwnB w base A c q) (hm : q.length = m) (h0 : 0 < m) :
    (convert 22 9 (.slice A m c)).run Try.prog w = .ok (.string (strOfNums q)) w := by
  subst hm
  obtain ⟨b, off, rfl, hl, hc⟩ := h.elems h0
  exact run_convert_bytes_arg w _ 5 Try.underlying22 Try.underlying5 b off _ c q rfl hc _ Try.underlying9

set_option maxHeartbeats 1000000 in
theorem alive_any (w : World) : Calls Try.prog 8 #[] w fun e w' => e = .returned (.bool true) ∧ Below w.heap.size w w' := by
  have kc := fun (w : World) (C : Array Value) (n c g : Nat) (hg : g = w.heap.size) => Joins.run_convert_bytes_const_at (P := Try.prog) w 22 5 C n c g hg Try.underlying22 Try.underlying5
  go_enter Try.func8, Try.ntmps8
  go_wp2_with fail
  refine (ls_meter 10 10 w _ (Only.refl _ _) (by decide) (by decide) rfl).mono ?_
  rintro e w1 ⟨rfl, H1, o1⟩
  go_wp2_with fail
  refine (ls_new H1).mono ?_
  rintro e w2 ⟨rfl, H2, o2⟩
  clear o1 o2 H1
  go_wp2_with fail
  refine (ls_putrow 0 w1.heap.size [] [97, 98, 99, 100, 101, 102] 6 6 6 _ _ H2 (by decide) rfl rfl (by decide) (by decide) (by decide) rfl rfl).mono ?_
  rintro e w3 ⟨G3, rfl, H3, h3, o3⟩
  clear H2 h3 o3
  go_wp2_with fail
  refine (ls_take 0 w1.heap.size [97, 98, 99, 100, 101, 102] 2 2 4 H3 (by decide) rfl rfl (by decide) (by decide) rfl).mono ?_
  rintro e w4 ⟨A4, c4, rfl, O4, H4, o4⟩
  have s4 := str_own O4.out (m := 2) rfl (by decide)
  have t4 : (strOfNums [97, 98]).toList = [97, 98] := ByteArray.toList_eq _
  clear H3 o4
  go_wp2_with fail
  refine (ls_putnorow 0 w1.heap.size [48, 49, 50, 51, 52, 53, 54] 7 _ _ H4 (by decide) rfl (by decide)).mono ?_
  rintro e w5 ⟨rfl, H5, o5⟩
  clear H4 O4 s4 o5
  go_wp2_with fail
  refine (ls_putrow 0 w1.heap.size [99, 100, 101, 102] [48, 49, 50, 51, 52, 53] 6 10 10 _ _ H5 (by decide) rfl rfl (by decide) (by decide) (by decide) rfl rfl).mono ?_
  rintro e w6 ⟨G6, rfl, H6, h6, o6⟩
  clear H5 h6 o6
  go_wp2_with fail
  refine (ls_peek 0 w1.heap.size [99, 100, 101, 102, 48, 49, 50, 51, 52, 53] 5 5 H6 (by decide) rfl rfl (by decide) (by decide)).mono ?_
  rintro e w7 ⟨A7, c7, rfl, O7, H7, o7⟩
  have s7 := str_own O7.out (m := 5) rfl (by decide)
  have t7 : (strOfNums [99, 100, 101, 102, 48]).toList = [99, 100, 101, 102, 48] := ByteArray.toList_eq _
  clear H6 o7
  go_wp2_with fail
  refine (ls_len 0 w1.heap.size [99, 100, 101, 102, 48, 49, 50, 51, 52, 53] H7 (by decide) rfl rfl).mono ?_
  rintro e w8 ⟨rfl, rfl⟩
  go_wp2_with fail
  refine (ls_held H7).mono ?_
  rintro e w9 ⟨rfl, rfl⟩
  go_wp2_with fail
  go_ret
  exact ⟨rfl, H7.out.below⟩
end Go.Proofs.Ytcehabcbmhjcmaa
