/-
  The contracts of the meter's functions.
-/
import Derived.Test.YtcehabcbmhjcmaaProg
import Derived.Test.YtcehabcbmhjcmaaK
import Derived.WalkKit
import Derived.WalkLawsBesides
import Derived.KernelRfl
import Derived.Outline
import Derived.Lib.MinMax
import Derived.Laws.LoneSync
import Derived.Deep.QuietTactic
import Derived.BigQuiet
import Derived.LoopTactic
import Derived.Deep.CutBlock
import Derived.Deep.DeepCutAuto
namespace Go.Proofs.Ytcehabcbmhjcmaa
open Go.RowKit

theorem ret_i {k : IntKind} {a b : Int} (h : a = b) : Ending.returned (.int k a) = .returned (.int k b) := by rw [h]
theorem ret_b {a b : Bool} (h : a = b) : Ending.returned (.bool a) = .returned (.bool b) := by rw [h]
/-- An int. -/
def Int64 (n : Int) : Prop := -9223372036854775808 ≤ n ∧ n ≤ 9223372036854775807

theorem load_any (a : Addr) (x : Int) (w : World) (hc : w.cell? a = some (.int .i64 x)) :
    Calls Try.prog 24 #[.pointer (some a)] w fun e w' => e = .returned (.int .i64 x) ∧ w = w' := by
  have hl := run_call_load (P := Try.prog) Try.func33 (by kernel_rfl) (by kernel_rfl) (by kernel_rfl) .i64 (by kernel_rfl) hc
  go_enter Try.func24, Try.ntmps24
  go_wp2
  go_ret
  exact ⟨rfl, rfl⟩

theorem cas_any (a : Addr) (x y : Int) (w : World) (hc : w.cell? a = some (.int .i64 x)) (hf : w.frozen? a = false) :
    Calls Try.prog 31 #[.pointer (some a), .int .i64 x, .int .i64 y] w fun e w' => e = .returned (.bool true) ∧ w' = w.setCell a (.int .i64 y) := by
  have hl := run_call_cas_hit (P := Try.prog) Try.func34 (by kernel_rfl) (by kernel_rfl) (by kernel_rfl) .i64 (by kernel_rfl) (y := y) hc hf
  go_enter Try.func31, Try.ntmps31
  go_wp2
  go_ret
  exact ⟨rfl, rfl⟩

/-- A number within the meter's bounds. -/
def mclip (n : Int) : Int := min (max n 0) 1099511627776
theorem mclip_bd (n : Int) : 0 ≤ mclip n ∧ mclip n ≤ 1099511627776 := by unfold mclip; omega

theorem new_any (n : Int) (w : World) (_h0 : -9223372036854775808 ≤ n) (_h1 : n ≤ 9223372036854775807) :
    Calls Try.prog 7 #[.int .i64 n] w fun e w' => e = .returned (.pointer (some ⟨w.heap.size, 0, none⟩)) ∧ w' = w.alloc (.cells #[.int .i64 (mclip n), .int .i64 0, .int .i64 0] 58) := by
  go_enter Try.func7, Try.ntmps7
  go_wp2
  go_ret
  exact ⟨rfl, rfl⟩

/-- The meter in block b: at most M, H held, P at most so far. -/
def MAt (w : World) (b : Nat) (M H P : Int) : Prop := w.heap[b]? = some (.cells #[.int .i64 M, .int .i64 H, .int .i64 P] 58 (0, 0))
theorem MAt.cells {w : World} {b : Nat} {M H P : Int} (h : MAt w b M H P) : w.cell? ⟨b, 0, none⟩ = some (.int .i64 M) ∧ w.cell? ⟨b, 1, none⟩ = some (.int .i64 H) ∧ w.cell? ⟨b, 2, none⟩ = some (.int .i64 P) := ⟨b_cell h 0, b_cell h 1, b_cell h 2⟩
theorem MAt.free {w : World} {b : Nat} {M H P : Int} (h : MAt w b M H P) (i : Nat) : w.frozen? ⟨b, i, none⟩ = false := b_free h i
theorem MAt.keep {S : Nat → Prop} {w w' : World} {b : Nat} {M H P : Int} (h : MAt w b M H P) (o : Only S w w') (hs : ¬ S b) : MAt w' b M H P := o.keep h hs
theorem MAt.set1 {w : World} {b : Nat} {M H P : Int} (h : MAt w b M H P) (x : Int) : MAt (w.setCell ⟨b, 1, none⟩ (.int .i64 x)) b M x P := b_set h 1 _
theorem MAt.set2 {w : World} {b : Nat} {M H P : Int} (h : MAt w b M H P) (x : Int) : MAt (w.setCell ⟨b, 2, none⟩ (.int .i64 x)) b M H x := b_set h 2 _
theorem o_put {a w : World} {b : Nat} (h : Only (· = b) a w) (i : Nat) (u : Value) : Only (· = b) a (w.setCell ⟨b, i, none⟩ u) := h.setCell (.inl rfl) u
theorem below_only {B b : Nat} {W w w' : World} (hb : Below B W w) (h : Only (· = b) w w') (hB : B ≤ b) (hW : B ≤ W.heap.size) : Below B W w' :=
  h.below hb (by rintro k rfl; exact hB) (Nat.le_trans hW hb.size)

/-- Within its bounds. -/
structure MOk (M H P : Int) : Prop where
  h0 : 0 ≤ H
  hm : H ≤ M
  m1 : M ≤ 1099511627776
  p0 : 0 ≤ P

theorem rise_up (b : Nat) (M H P now : Int) (w : World) (h : MAt w b M H P) (hn : P < now) :
    Calls Try.prog 32 #[.pointer (some ⟨b, 0, none⟩), .int .i64 now] w fun e w' => e = .returned (.tuple #[]) ∧ w' = w.setCell ⟨b, 2, none⟩ (.int .i64 now) := by
  obtain ⟨c0, c1, c2⟩ := h.cells
  have f2 := h.free 2
  go_enter Try.func32, Try.ntmps32
  go_wp2_with fail
  refine wp_loop_rounds 1 ?_
  rw [rounds_succ]
  go_wp2_with (first | (go_at_call 24; refine (load_any _ P _ c2).mono ?_; rintro e w1 ⟨rfl, rfl⟩) | (go_at_call 31; refine (cas_any _ P now _ c2 f2).mono ?_; rintro e w1 ⟨rfl, rfl⟩))
  refine bodyPost_ret (results_none rfl _ _ _) rfl ?_
  exact ⟨rfl, rfl⟩

theorem rise_no (b : Nat) (M H P now : Int) (w : World) (h : MAt w b M H P) (hn : now ≤ P) :
    Calls Try.prog 32 #[.pointer (some ⟨b, 0, none⟩), .int .i64 now] w fun e w' => e = .returned (.tuple #[]) ∧ w' = w := by
  obtain ⟨c0, c1, c2⟩ := h.cells
  go_enter Try.func32, Try.ntmps32
  go_wp2_with fail
  refine wp_loop_rounds 1 ?_
  rw [rounds_succ]
  go_wp2_with (first | (go_at_call 24; refine (load_any _ P _ c2).mono ?_; rintro e w1 ⟨rfl, rfl⟩))
  refine bodyPost_ret (results_none rfl _ _ _) rfl ?_
  exact ⟨rfl, rfl⟩

/-- Rise: the peak is at least this. -/
theorem rise_any (b : Nat) (M H P now : Int) (w : World) (h : Hid (MAt w b M H P)) :
    Calls Try.prog 32 #[.pointer (some ⟨b, 0, none⟩), .int .i64 now] w fun e w' => e = .returned (.tuple #[]) ∧ Hid (MAt w' b M H (max P now)) ∧ Only (· = b) w w' := by
  by_cases hn : P < now
  · refine (rise_up b M H P now w h hn).mono fun e w' ⟨h1, h2⟩ => ⟨h1, ?_, ?_⟩
    · rw [h2, show max P now = now by omega]; exact h.out.set2 now
    · rw [h2]; exact o_put (Only.refl _ _) _ _
  · refine (rise_no b M H P now w h (by omega)).mono fun e w' ⟨h1, h2⟩ => ⟨h1, ?_, ?_⟩
    · rw [h2, show max P now = P by omega]; exact h
    · rw [h2]; exact Only.refl _ _

theorem take_no (b : Nat) (M H P n : Int) (w : World) (h : Hid (MAt w b M H P)) (o : MOk M H P) (hn : n < 0 ∨ M - H < n) :
    Calls Try.prog 22 #[.pointer (some ⟨b, 0, none⟩), .int .i64 n] w fun e w' => e = .returned (.bool false) ∧ w' = w := by
  obtain ⟨c0, c1, c2⟩ := h.out.cells
  obtain ⟨o1, o2, o3, o4⟩ := o
  by_cases h0 : n < 0
  · clear hn
    go_enter Try.func22, Try.ntmps22
    go_wp2_with fail
    refine wp_loop_rounds 1 ?_
    rw [rounds_succ]
    go_wp2_with (first | (go_at_call 24; refine (load_any _ H _ c1).mono ?_; rintro e w1 ⟨rfl, rfl⟩))
    go_ret
    exact ⟨rfl, rfl⟩
  · have hn' : M - H < n := by omega
    clear hn
    go_enter Try.func22, Try.ntmps22
    go_wp2_with fail
    refine wp_loop_rounds 1 ?_
    rw [rounds_succ]
    go_wp2_with (first | (go_at_call 24; refine (load_any _ H _ c1).mono ?_; rintro e w1 ⟨rfl, rfl⟩))
    go_ret
    exact ⟨rfl, rfl⟩

theorem take_yes (b : Nat) (M H P n : Int) (w : World) (h : Hid (MAt w b M H P)) (o : MOk M H P) (h0 : 0 ≤ n) (hn : n ≤ M - H) :
    Calls Try.prog 22 #[.pointer (some ⟨b, 0, none⟩), .int .i64 n] w fun e w' => e = .returned (.bool true) ∧ Hid (MAt w' b M (H + n) (max P (H + n))) ∧ Only (· = b) w w' := by
  obtain ⟨c0, c1, c2⟩ := h.out.cells
  have f1 := h.out.free 1
  obtain ⟨o1, o2, o3, o4⟩ := o
  go_enter Try.func22, Try.ntmps22
  go_wp2_with fail
  refine wp_loop_rounds 1 ?_
  rw [rounds_succ]
  go_wp2_with (first | (go_at_call 24; refine (load_any _ H _ c1).mono ?_; rintro e w1 ⟨rfl, rfl⟩) | (go_at_call 31; refine (cas_any _ H (H + n) _ c1 f1).mono ?_; rintro e w1 ⟨rfl, rfl⟩) | (go_at_call 32; refine (rise_any b M (H + n) P (H + n) _ (hid (h.out.set1 _))).mono ?_; rintro e w2 ⟨rfl, h2, o2⟩))
  go_ret
  exact ⟨rfl, h2, (o_put (Only.refl _ _) _ _).trans o2⟩

theorem give_any (b : Nat) (M H P n : Int) (w : World) (h : Hid (MAt w b M H P)) (o : MOk M H P) (hn0 : -9223372036854775808 ≤ n) (hn1 : n ≤ 9223372036854775807) :
    Calls Try.prog 23 #[.pointer (some ⟨b, 0, none⟩), .int .i64 n] w fun e w' => e = .returned (.int .i64 (min (max n 0) H)) ∧ Hid (MAt w' b M (H - min (max n 0) H) P) ∧ Only (· = b) w w' := by
  obtain ⟨c0, c1, c2⟩ := h.out.cells
  have f1 := h.out.free 1
  obtain ⟨o1, o2, o3, o4⟩ := o
  go_enter Try.func23, Try.ntmps23
  go_wp2_with fail
  refine wp_loop_rounds 1 ?_
  rw [rounds_succ]
  go_wp2_with (first | (go_at_call 24; refine (load_any _ H _ c1).mono ?_; rintro e w1 ⟨rfl, rfl⟩) | (go_at_call 31; refine (cas_any _ H (H - min (max n 0) H) _ c1 f1).mono ?_; rintro e w1 ⟨rfl, rfl⟩))
  go_ret
  exact ⟨rfl, hid (h.out.set1 _), o_put (Only.refl _ _) _ _⟩

theorem held_any (b : Nat) (M H P : Int) (w : World) (h : Hid (MAt w b M H P)) (o : MOk M H P) :
    Calls Try.prog 12 #[.pointer (some ⟨b, 0, none⟩)] w fun e w' => e = .returned (.int .i64 H) ∧ w = w' := by
  obtain ⟨c0, c1, c2⟩ := h.out.cells
  obtain ⟨o1, o2, o3, o4⟩ := o
  go_enter Try.func12, Try.ntmps12
  go_wp2_with (first | (go_at_call 24; refine (load_any _ H _ c1).mono ?_; rintro e w1 ⟨rfl, rfl⟩))
  go_ret
  exact ⟨rfl, rfl⟩

theorem peak_any (b : Nat) (M H P : Int) (w : World) (h : Hid (MAt w b M H P)) :
    Calls Try.prog 20 #[.pointer (some ⟨b, 0, none⟩)] w fun e w' => e = .returned (.int .i64 P) ∧ w = w' := by
  obtain ⟨c0, c1, c2⟩ := h.out.cells
  go_enter Try.func20, Try.ntmps20
  go_wp2_with (first | (go_at_call 24; refine (load_any _ P _ c2).mono ?_; rintro e w1 ⟨rfl, rfl⟩))
  go_ret
  exact ⟨rfl, rfl⟩

theorem room_any (b : Nat) (M H P : Int) (w : World) (h : Hid (MAt w b M H P)) (o : MOk M H P) :
    Calls Try.prog 21 #[.pointer (some ⟨b, 0, none⟩)] w fun e w' => e = .returned (.int .i64 (M - H)) ∧ ∃ n, w' = w.drewN n := by
  obtain ⟨c0, c1, c2⟩ := h.out.cells
  obtain ⟨o1, o2, o3, o4⟩ := o
  go_enter Try.func21, Try.ntmps21
  go_wp2_with fail
  go_quiet ((go_at_call 24; exact Calls.quiet_of_same ((load_any _ H _ (by exact c1)).mono fun _ _ ⟨h1, h2⟩ => ⟨h1, h2.symm⟩)))
  go_wp2_with fail
  go_ret
  exact ⟨rfl, _, rfl⟩

theorem room_d (b : Nat) (M H P x : Int) (w : World) (h : Hid (MAt w b M H P)) (o : MOk M H P) (e : M - H = x) :
    Calls Try.prog 21 #[.pointer (some ⟨b, 0, none⟩)] w fun e w' => e = .returned (.int .i64 x) ∧ Hid (MAt w' b M H P) ∧ Only (· = b) w w' := by
  subst e
  exact (room_any b M H P w h o).mono fun _ w' ⟨h1, n, h2⟩ => ⟨h1, by rw [h2]; exact h, by rw [h2]; exact (Only.refl _ _).drewN n⟩
theorem held_d (b : Nat) (M H P : Int) (w : World) (h : Hid (MAt w b M H P)) (o : MOk M H P) :
    Calls Try.prog 12 #[.pointer (some ⟨b, 0, none⟩)] w fun e w' => e = .returned (.int .i64 H) ∧ Hid (MAt w' b M H P) ∧ Only (· = b) w w' :=
  (held_any b M H P w h o).mono fun _ _ ⟨h1, h2⟩ => ⟨h1, h2 ▸ h, h2 ▸ Only.refl _ _⟩
theorem peak_d (b : Nat) (M H P : Int) (w : World) (h : Hid (MAt w b M H P)) :
    Calls Try.prog 20 #[.pointer (some ⟨b, 0, none⟩)] w fun e w' => e = .returned (.int .i64 P) ∧ Hid (MAt w' b M H P) ∧ Only (· = b) w w' :=
  (peak_any b M H P w h).mono fun _ _ ⟨h1, h2⟩ => ⟨h1, h2 ▸ h, h2 ▸ Only.refl _ _⟩
theorem take_y (b : Nat) (M H P n H' P' : Int) (w : World) (h : Hid (MAt w b M H P)) (o : MOk M H P) (h0 : 0 ≤ n ∧ n ≤ M - H) (e1 : H + n = H') (e2 : max P H' = P') :
    Calls Try.prog 22 #[.pointer (some ⟨b, 0, none⟩), .int .i64 n] w fun e w' => e = .returned (.bool true) ∧ Hid (MAt w' b M H' P') ∧ Only (· = b) w w' := by
  subst e1 e2
  exact take_yes b M H P n w h o h0.1 h0.2
theorem take_n (b : Nat) (M H P n : Int) (w : World) (h : Hid (MAt w b M H P)) (o : MOk M H P) (hn : n < 0 ∨ M - H < n) :
    Calls Try.prog 22 #[.pointer (some ⟨b, 0, none⟩), .int .i64 n] w fun e w' => e = .returned (.bool false) ∧ Hid (MAt w' b M H P) ∧ Only (· = b) w w' :=
  (take_no b M H P n w h o hn).mono fun _ _ ⟨h1, h2⟩ => ⟨h1, h2.symm ▸ h, h2.symm ▸ Only.refl _ _⟩
theorem give_d (b : Nat) (M H P n g H' : Int) (w : World) (h : Hid (MAt w b M H P)) (o : MOk M H P) (hn0 : -9223372036854775808 ≤ n) (hn1 : n ≤ 9223372036854775807) (e1 : min (max n 0) H = g) (e2 : H - g = H') :
    Calls Try.prog 23 #[.pointer (some ⟨b, 0, none⟩), .int .i64 n] w fun e w' => e = .returned (.int .i64 g) ∧ Hid (MAt w' b M H' P) ∧ Only (· = b) w w' := by
  subst e1 e2
  exact give_any b M H P n w h o hn0 hn1
end Go.Proofs.Ytcehabcbmhjcmaa
