/-
  The clock's queue: the library's Compare and Or, Less, Len, Swap.
-/
import Derived.Test.YtjfhghimldjcfaaO
import Derived.Test.YtjfhghimldjcfaaS
import Derived.Deep.RegionHeld3
import Derived.Test.YtjfhghimldjcfaaProg
import Derived.WalkLawsBesides
import Derived.KernelRfl
import Derived.Outline
import Derived.Lib.MinMax
import Derived.Deep.QuietTactic
import Derived.Deep.DeepCutAuto
import Derived.Deep.CutBlock
import Derived.LoopTactic
import Derived.Deep.AppendLies
import Derived.Handy
import Derived.WalkKit
namespace Go.Proofs.Ytjfhghimldjcfaa
open Go.RowKit

def cmp3 (x y : Int) : Int := if x < y then -1 else if y < x then 1 else 0
theorem nan64 (x : Int) (w : World) : Calls Try.prog 48 #[.int .i64 x] w fun e w' => e = .returned (.bool false) ∧ w = w' := by
  go_enter Try.func48, Try.ntmps48
  go_wp2
  go_ret
  exact ⟨by simp, rfl⟩
theorem nanint (x : Int) (w : World) : Calls Try.prog 49 #[.int .i64 x] w fun e w' => e = .returned (.bool false) ∧ w = w' := by
  go_enter Try.func49, Try.ntmps49
  go_wp2
  go_ret
  exact ⟨by simp, rfl⟩
theorem cmp64 (x y : Int) (w : World) : Calls Try.prog 46 #[.int .i64 x, .int .i64 y] w fun e w' => e = .returned (.int .i64 (cmp3 x y)) ∧ w = w' := by
  go_enter Try.func46, Try.ntmps46
  go_wp2_with fail
  refine (nan64 x w).mono ?_
  rintro e w1 ⟨rfl, rfl⟩
  go_wp2_with fail
  refine (nan64 y w).mono ?_
  rintro e w1 ⟨rfl, rfl⟩
  by_cases h1 : x < y
  · go_wp2_with fail
    go_ret
    exact ⟨by simp [cmp3, h1], rfl⟩
  · by_cases h2 : y < x
    · go_wp2_with fail
      go_ret
      exact ⟨by simp [cmp3, h1, h2], rfl⟩
    · go_wp2_with fail
      go_ret
      exact ⟨by unfold cmp3; rw [if_neg (by omega), if_neg (by omega)]; rfl, rfl⟩
theorem cmpint (x y : Int) (w : World) : Calls Try.prog 47 #[.int .i64 x, .int .i64 y] w fun e w' => e = .returned (.int .i64 (cmp3 x y)) ∧ w = w' := by
  go_enter Try.func47, Try.ntmps47
  go_wp2_with fail
  refine (nanint x w).mono ?_
  rintro e w1 ⟨rfl, rfl⟩
  go_wp2_with fail
  refine (nanint y w).mono ?_
  rintro e w1 ⟨rfl, rfl⟩
  by_cases h1 : x < y
  · go_wp2_with fail
    go_ret
    exact ⟨by simp [cmp3, h1], rfl⟩
  · by_cases h2 : y < x
    · go_wp2_with fail
      go_ret
      exact ⟨by simp [cmp3, h1, h2], rfl⟩
    · go_wp2_with fail
      go_ret
      exact ⟨by unfold cmp3; rw [if_neg (by omega), if_neg (by omega)]; rfl, rfl⟩

/-- Or of two numbers that lie in one block. -/
theorem or_any (x y : Int) (g c : Nat) (w : World) (h0 : w.cell? ⟨g, 0, none⟩ = some (.int .i64 x)) (h1 : w.cell? ⟨g, 1, none⟩ = some (.int .i64 y)) :
    Calls Try.prog 45 #[.slice (some ⟨g, 0, none⟩) 2 c] w fun e w' => e = .returned (.int .i64 (if x = 0 then y else x)) ∧ Only (fun _ => False) w w' := by
  go_enter Try.func45, Try.ntmps45
  go_wp2_with fail
  go_loopw [8] (fun iv wr => ∃ k : Nat, k ≤ 2 ∧ iv = .int .i64 (k : Int) ∧ wr = w ∧ (1 ≤ k → x = 0) ∧ (2 ≤ k → y = 0)) (fun iv _ => 2 - (intOf iv).toNat)
  case atStart => exact ⟨0, by omega, rfl, rfl, by omega, by omega⟩
  case round =>
    obtain ⟨k, hk, rfl, rfl, hx, hy⟩ := hrel
    have hks : k = 0 ∨ k = 1 ∨ k = 2 := by omega
    rcases hks with rfl | rfl | rfl
    · by_cases h : x = 0
      · subst h
        go_wp2_with fail
        go_roundw
        case rel => exact ⟨1, by omega, by simp, by simp, by simp, by omega⟩
        case measure => simp [intOf]
      · go_wp2_with fail
        go_ret
        exact ⟨by simp, Only.refl _ _⟩
    · obtain rfl := hx (by omega)
      by_cases h : y = 0
      · subst h
        go_wp2_with fail
        go_roundw
        case rel => exact ⟨2, by omega, by simp, by simp, by simp, by simp⟩
        case measure => simp [intOf]
      · go_wp2_with fail
        go_ret
        exact ⟨by simp, Only.refl _ _⟩
    · obtain rfl := hx (by omega)
      obtain rfl := hy (by omega)
      go_wp2_with fail
      go_ret
      exact ⟨by simp, Only.refl _ _⟩
end Go.Proofs.Ytjfhghimldjcfaa
