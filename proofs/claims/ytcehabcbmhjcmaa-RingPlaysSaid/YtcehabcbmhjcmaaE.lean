/-
  The references' meter, in the ring's seat.
-/
import Derived.Test.YtcehabcbmhjcmaaN
namespace Go.Proofs.Ytcehabcbmhjcmaa
open Go.RowKit

theorem between_any (n lo hi r : Int) (w : World) (hr : r = if n < lo then lo else if hi < n then hi else n) :
    Calls Try.prog 29 #[.int .i64 n, .int .i64 lo, .int .i64 hi] w fun e w' => e = .returned (.int .i64 r) ∧ w = w' := by
  have HR := hid hr
  clear hr
  by_cases h1 : n < lo
  · go_enter Try.func29, Try.ntmps29
    go_wp2
    go_ret
    exact ⟨ret_i (by rw [HR.out]; (repeat' split) <;> omega), rfl⟩
  · by_cases h2 : hi < n
    · go_enter Try.func29, Try.ntmps29
      go_wp2
      go_ret
      exact ⟨ret_i (by rw [HR.out]; (repeat' split) <;> omega), rfl⟩
    · go_enter Try.func29, Try.ntmps29
      go_wp2
      go_ret
      exact ⟨ret_i (by rw [HR.out]; (repeat' split) <;> omega), rfl⟩

/-- The world under a name, with what is known of it. -/
theorem st {B : Nat} {a w : World} (b i : Nat) (h : Below B a w) (hp : B ≤ b) (u : Value) : Below B a (w.setCell ⟨b, i, none⟩ u) := h.setCell hp u

/-- The reference's meter, as a value. -/
def Agg (H P M : Int) : Value := .agg #[.int .i64 H, .int .i64 P, .int .i64 M]

theorem refNew_any (x : Int) (w : World) :
    Calls Try.prog 25 #[.int .i64 x] w fun e w' => e = .returned (Agg 0 0 (mclip x)) ∧ Below w.heap.size w w' := by
  go_enter Try.func25, Try.ntmps25
  go_wp2_with fail
  refine (between_any x 0 1099511627776 (mclip x) _ (by unfold mclip; split <;> (try split) <;> omega)).mono ?_
  rintro e w1 ⟨rfl, rfl⟩
  go_wp2_with fail
  exact bodyPost_ret (v := Agg 0 0 (mclip x)) (by simp [results, Try.results25, go_sem, Agg]) rfl ⟨rfl, (Below.refl _ _).alloc (Nat.le_refl _) _⟩

theorem refTake_no (H P M n : Int) (w : World) (o : MOk M H P) (hn : n < 0 ∨ M - H < n) :
    Calls Try.prog 26 #[Agg H P M, .int .i64 n] w fun e w' => e = .returned (.tuple #[Agg H P M, .bool false]) ∧ Below w.heap.size w w' := by
  obtain ⟨o1, o2, o3, o4⟩ := o
  unfold Agg
  by_cases h0 : n < 0
  · clear hn
    go_enter Try.func26, Try.ntmps26
    go_wp2_with fail
    refine bodyPost_ret (v := .tuple #[Agg H P M, .bool false]) (by simp [results, Try.results26, go_sem, Agg]) rfl ⟨rfl, ?_⟩
    exact ((Below.refl _ _).alloc (Nat.le_refl _) _).alloc (by simp) _
  · have hn' : M - H < n := by omega
    clear hn
    go_enter Try.func26, Try.ntmps26
    go_wp2_with fail
    refine bodyPost_ret (v := .tuple #[Agg H P M, .bool false]) (by simp [results, Try.results26, go_sem, Agg]) rfl ⟨rfl, ?_⟩
    exact ((Below.refl _ _).alloc (Nat.le_refl _) _).alloc (by simp) _

set_option maxHeartbeats 400000 in
theorem refTake_yes (H P M n : Int) (w : World) (o : MOk M H P) (h0 : 0 ≤ n) (hn : n ≤ M - H) :
    Calls Try.prog 26 #[Agg H P M, .int .i64 n] w fun e w' => e = .returned (.tuple #[Agg (H + n) (max P (H + n)) M, .bool true]) ∧ Below w.heap.size w w' := by
  obtain ⟨o1, o2, o3, o4⟩ := o
  unfold Agg
  by_cases hp : P < H + n
  · rw [show max P (H + n) = H + n by omega]
    go_enter Try.func26, Try.ntmps26
    go_wp2_with fail
    refine bodyPost_ret (v := .tuple #[Agg (H + n) (H + n) M, .bool true]) (by simp [results, Try.results26, go_sem, Agg]) rfl ⟨rfl, ?_⟩
    exact ((Below.refl _ _).alloc (Nat.le_refl _) _).alloc (by simp) _
  · rw [show max P (H + n) = P by omega]
    go_enter Try.func26, Try.ntmps26
    go_wp2_with fail
    refine bodyPost_ret (v := .tuple #[Agg (H + n) P M, .bool true]) (by simp [results, Try.results26, go_sem, Agg]) rfl ⟨rfl, ?_⟩
    exact ((Below.refl _ _).alloc (Nat.le_refl _) _).alloc (by simp) _

set_option maxHeartbeats 400000 in
theorem refGive_any (H P M n g : Int) (w : World) (o : MOk M H P) (hg : g = min (max n 0) H) :
    Calls Try.prog 30 #[Agg H P M, .int .i64 n] w fun e w' => e = .returned (.tuple #[Agg (H - g) P M, .int .i64 g]) ∧ Below w.heap.size w w' := by
  obtain ⟨o1, o2, o3, o4⟩ := o
  have hgb : 0 ≤ g ∧ g ≤ H := by omega
  obtain ⟨g0, g1⟩ := hgb
  have hgd : g = if n < 0 then 0 else if H < n then H else n := by (repeat' split) <;> omega
  have HG := hid hgd
  clear hg hgd
  unfold Agg
  go_enter Try.func30, Try.ntmps30
  go_wp2_with fail
  refine (between_any n 0 H g _ HG.out).mono ?_
  rintro e w1 ⟨rfl, rfl⟩
  go_wp2_with fail
  refine bodyPost_ret (v := .tuple #[Agg (H - g) P M, .int .i64 g]) (by simp [results, Try.results30, go_sem, Agg]) rfl ⟨rfl, ?_⟩
  exact ((Below.refl _ _).alloc (Nat.le_refl _) _).alloc (by simp) _
end Go.Proofs.Ytcehabcbmhjcmaa
