/-
  path, set, drop, up of the package conf; Name of the package table.
-/
import Derived.Test.YtafljoiblfhioaaGreatDoorSg
namespace Go.Proofs.YtafljoiblfhioaaGreatDoor
open Go.RowKit

set_option maxRecDepth 100000 in
set_option maxHeartbeats 1000000 in
theorem path_any (s : ByteArray) (hs : s.size ≤ 9223372036854775807) (w : World) : Calls Tryz.prog 41 #[.string s] w fun e w' => e = .returned (.bool (pathF s.data.toList)) ∧ w = w' := by
  have hF : pathF s.data.toList = (target s.data.toList && (s.data.toList.head? == some 47 && decide (s.data.toList.length ≤ 100))) := rfl
  rw [show s.data.toList.length = s.size by simp] at hF
  have hne : target s.data.toList = true → 0 < s.size := by
    intro h
    unfold target at h
    simp only [Bool.and_eq_true, Bool.not_eq_true'] at h
    have := h.1
    rw [List.isEmpty_eq_false_iff, ← List.length_pos_iff] at this
    simpa using this
  have ht := target_any s hs w
  obtain ⟨b, hb⟩ : ∃ b, target s.data.toList = b := ⟨_, rfl⟩
  rw [hb] at hF hne ht
  clear hb
  replace hF := hid hF
  go_enter Tryz.func41, Tryz.ntmps41
  go_wp2_with fail
  refine ht.mono ?_
  rintro e w1 ⟨rfl, rfl⟩
  clear ht
  cases b
  · go_wp2_with fail
    go_ret
    exact ⟨by rw [hF.out]; rfl, rfl⟩
  · have hpos := hne rfl
    have h0 := at_str s 0 hpos
    have hh : s.data.toList.head? = some s[0] := by rw [List.head?_eq_getElem?]; exact h0
    rw [hh] at hF
    clear hne h0 hh
    obtain ⟨c, hc⟩ : ∃ c, s[0] = c := ⟨_, rfl⟩
    rw [hc] at hF
    by_cases h1 : c = 47
    · subst h1
      by_cases h2 : s.size ≤ 100
      · go_wp2_with fail
        go_ret
        exact ⟨by rw [hF.out]; first | (simp [h2, hc]; done) | (simp [h2, hc]; omega), rfl⟩
      · go_wp2_with fail
        go_ret
        exact ⟨by rw [hF.out]; first | (simp [h2, hc]; done) | (simp [h2, hc]; omega), rfl⟩
    · have h1' : ¬ (c.toNat : Int) = 47 := fun h => h1 (UInt8.toNat_inj.1 (by rw [show (47 : UInt8).toNat = 47 from rfl]; omega))
      go_wp2_with fail
      go_ret
      exact ⟨by rw [hF.out]; first | (simp [h1, hc]; done) | (simp [h1, hc, h1']; done), rfl⟩

set_option maxRecDepth 100000 in
theorem up1_any (s : ByteArray) (hs : s.size ≤ 9223372036854775807) (w : World) : Calls Tryz.prog 72 #[.string s] w fun e w' => e = .returned (.bool (aimBad s.data.toList)) ∧ Only (fun _ => False) w w' := by
  have hF : aimBad s.data.toList = (!target s.data.toList || decide (40 < s.data.toList.length)) := rfl
  rw [show s.data.toList.length = s.size by simp] at hF
  have ht := target_any s hs w
  obtain ⟨b, hb⟩ : ∃ b, target s.data.toList = b := ⟨_, rfl⟩
  rw [hb] at hF ht
  clear hb
  replace hF := hid hF
  go_enter Tryz.func72, Tryz.ntmps72
  go_wp2_with fail
  refine ht.mono ?_
  rintro e w1 ⟨rfl, rfl⟩
  clear ht
  cases b
  · go_wp2_with fail
    go_ret
    exact ⟨by rw [hF.out]; rfl, Only.refl _ _⟩
  · by_cases h2 : 40 < s.size
    · go_wp2_with fail
      go_ret
      exact ⟨by rw [hF.out]; first | (simp [h2]; done) | (simp [h2]; omega), Only.refl _ _⟩
    · go_wp2_with fail
      go_ret
      exact ⟨by rw [hF.out]; first | (simp [h2]; done) | (simp [h2]; omega), Only.refl _ _⟩
theorem up1_enters (args : Array Value) (w : World) : (callFunc 72 args).run Tryz.prog w = .ok (.enter 72 args) w := Go.Proofs.enters_of Tryz.func72 (by kernel_rfl) rfl args w

set_option maxRecDepth 100000 in
theorem drop_any (s : ByteArray) (hs : s.size ≤ 9223372036854775807) (w : World) : Calls Tryz.prog 43 #[.string s] w fun e w' => e = .returned (.bool (dropF s.data.toList)) ∧ Only (fun _ => False) w w' := by
  have hF : dropF s.data.toList = (token s.data.toList && (decide (s.data.toList.length ≤ 100) && !keptF s.data.toList)) := rfl
  rw [show s.data.toList.length = s.size by simp] at hF
  have ht := token_any s hs w
  have hk := fun w => kept_any s hs w
  obtain ⟨b, hb⟩ : ∃ b, token s.data.toList = b := ⟨_, rfl⟩
  rw [hb] at hF ht
  clear hb
  obtain ⟨b2, hb2⟩ : ∃ b, keptF s.data.toList = b := ⟨_, rfl⟩
  rw [hb2] at hF hk
  clear hb2
  replace hF := hid hF
  go_enter Tryz.func43, Tryz.ntmps43
  go_wp2_with fail
  refine ht.mono ?_
  rintro e w1 ⟨rfl, rfl⟩
  clear ht
  cases b
  · go_wp2_with fail
    go_ret
    exact ⟨by rw [hF.out]; rfl, Only.refl _ _⟩
  · by_cases h2 : s.size ≤ 100
    · go_wp2_with fail
      refine (hk _).mono ?_
      rintro e w2 ⟨rfl, O2⟩
      clear hk
      go_wp2_with fail
      go_ret
      exact ⟨by rw [hF.out]; simp [h2], O2⟩
    · go_wp2_with fail
      go_ret
      exact ⟨by rw [hF.out]; first | (simp [h2]; done) | (simp [h2]; omega), Only.refl _ _⟩
end Go.Proofs.YtafljoiblfhioaaGreatDoor
