/-
  The walk of RingFull.
-/
import Derived.Test.YtcehabcbmhjcmaaW
import Derived.Test.YtcehabcbmhjcmaaM
namespace Go.Proofs.Ytcehabcbmhjcmaa
open Go.RowKit

def Z (m : Nat) : List Int := List.replicate m 0
theorem Z_len (m : Nat) : (Z m).length = m := List.length_replicate
theorem made_Z (m : Nat) : madeCells (Value.int .u8 0).cells (m * 1) = (u8s (Z m)).toArray := by
  apply Array.ext
  · rw [size_madeCells]; simp [u8s_len, Z_len]
  · intro i h1 h2
    rw [size_madeCells] at h1
    have h3 := u8s_get (Z m) i (by rw [Z_len]; omega)
    have h4 : (u8s (Z m)).toArray[i]? = some ((u8s (Z m)).toArray[i]) := Array.getElem?_eq_getElem h2
    rw [List.getElem?_toArray, h3] at h4
    rw [← Option.some.inj h4]
    have h5 : i < m := by omega
    simp [madeCells, Value.cells, Nat.mod_one, Z, h5]
theorem mk_row (m : Nat) (c : Int) (hc : c = m) (hm : m ≤ 100000) (W : World) :
    (Instr.makeSlice 22 (.int .i64 c) (.int .i64 c)).run Try.prog W = .ok (.slice (some ⟨W.heap.size, 0, none⟩) m m) (W.alloc (.cells (u8s (Z m)).toArray 5)) := by
  subst hc
  obtain ⟨i, hi, hz⟩ := Option.map_eq_some_iff.1 info5
  simp only [Prod.mk.injEq] at hz
  obtain ⟨hz0, hz1, hz2⟩ := hz
  have := run_makeSlice (P := Try.prog) W 22 5 i _ Try.underlying22 hi hz0 .i64 .i64 m m (by omega) (by omega) (by rw [hz1]; omega) (by rw [hz2]; omega) (by omega)
  rw [this, hz1, Int.toNat_natCast, made_Z]
section
variable {W w : World} {mb n : Nat} {rb : Nat → Nat} {L : Nat → List Int} {M H P : Int} {G : Nat → Prop}
theorem ls_putz (k r m : Nat) (l : List Int) (H' P' : Int) (h : Hid (Ls W w mb n rb L M H P G)) (hk : k < n) (hr : rb k = r) (hl : L k = l) (hroom : (m : Int) ≤ M - H) (hlH : (l.length : Int) ≤ H) (eH : H + m = H') (eP : max P H' = P') :
    Calls Try.prog 10 #[.pointer (some ⟨r, 0, none⟩), .slice (some ⟨w.heap.size, 0, none⟩) m m] (w.alloc (.cells (u8s (Z m)).toArray 5)) fun e w' => ∃ G', e = .returned (.bool true) ∧ Hid (Ls W w' mb n rb (upd L k (l ++ Z m)) M H' P' G') ∧ Hid (∀ i, G' i → G i ∨ w.heap.size ≤ i) ∧ Only G w w' := by
  have := ls_putrow k r l (Z m) m H' P' 5 (0, 0) h hk hr hl (by rw [Z_len]; exact hroom) hlH (by rw [Z_len]; omega) (by rw [Z_len]; exact eH) eP
  rwa [Z_len] at this
theorem ls_putzno (k r m : Nat) (h : Hid (Ls W w mb n rb L M H P G)) (hk : k < n) (hr : rb k = r) (hno : M - H < m) :
    Calls Try.prog 10 #[.pointer (some ⟨r, 0, none⟩), .slice (some ⟨w.heap.size, 0, none⟩) m m] (w.alloc (.cells (u8s (Z m)).toArray 5)) fun e w' => e = .returned (.bool false) ∧ Hid (Ls W w' mb n rb L M H P G) ∧ Only (fun _ => False) w w' := by
  have := ls_putnorow k r (Z m) m 5 (0, 0) h hk hr (by rw [Z_len]; exact hno)
  rwa [Z_len] at this
theorem ls_lenm (k r m : Nat) (h : Hid (Ls W w mb n rb L M H P G)) (hk : k < n) (hr : rb k = r) (hm : (L k).length = m) :
    Calls Try.prog 13 #[.pointer (some ⟨r, 0, none⟩)] w fun e w' => e = .returned (.int .i64 (m : Int)) ∧ w = w' := hm ▸ ls_len k r _ h hk hr rfl
theorem ls_dropm (k r m : Nat) (H' : Int) (h : Hid (Ls W w mb n rb L M H P G)) (hk : k < n) (hr : rb k = r) (hm : (L k).length = m) (hlH : (m : Int) ≤ H) (eH : H - m = H') :
    Calls Try.prog 19 #[.pointer (some ⟨r, 0, none⟩)] w fun e w' => e = .returned (.int .i64 (m : Int)) ∧ Hid (Ls W w' mb n rb (upd L k []) M H' P G) ∧ Only G w w' := by
  subst hm
  exact ls_drop k r _ H' h hk hr rfl hlH eH
end

set_option maxHeartbeats 1000000 in
theorem full_walk (a0 a1 : Int) (w : World) :
    Calls Try.prog 6 #[.int .i64 a0, .int .i64 a1] w fun e w' => e = .returned (.bool true) ∧ Below w.heap.size w w' := by
  obtain ⟨x, hx⟩ : ∃ x : Nat, a0 % 1024 = (x : Int) := ⟨(a0 % 1024).toNat, by omega⟩
  obtain ⟨y, hy⟩ : ∃ y : Nat, a1 % 1024 = (y : Int) := ⟨(a1 % 1024).toNat, by omega⟩
  have hx1 : x < 1024 := by omega
  have hy1 : y < 1024 := by omega
  obtain ⟨z, hz⟩ : ∃ z, z = if y ≤ x then y else 0 := ⟨_, rfl⟩
  obtain ⟨d, hd⟩ : ∃ d, x = z + d := ⟨x - z, by split at hz <;> omega⟩
  have hz1 : z ≤ 1024 := by omega
  have hd1 : d ≤ 1024 := by omega
  have HZ := hid hz
  have HD := hid hd
  clear hz hd
  have mky := mk_row y _ rfl (by omega)
  have mkz := mk_row z _ rfl (by omega)
  have mkd := mk_row d _ rfl (by omega)
  have mkd1 := mk_row (d + 1) ((d : Int) + 1) (by omega) (by omega)
  go_enter Try.func6, Try.ntmps6
  go_wp2_with fail
  refine (alive_any _).mono ?_
  rintro e w1 ⟨rfl, l1⟩
  have o1 : Only (fun _ => False) w w1 := Only.of_below l1
  clear l1
  go_wp2_with fail
  refine (ls_meter x x w _ o1 (by omega) (by omega) (by unfold mclip; omega)).mono ?_
  rintro e w2 ⟨rfl, H2, o2⟩
  clear o1 o2
  go_wp2_with fail
  refine (ls_new H2).mono ?_
  rintro e w3 ⟨rfl, H3, o3⟩
  clear H2 o3
  go_wp2_with fail
  refine (ls_new H3).mono ?_
  rintro e w4 ⟨rfl, H4, o4⟩
  clear H3 o4
  have HX := hid hx1
  have HY := hid hy1
  have HZ1 := hid hz1
  clear hx1 hy1 hz1
  rcases Nat.lt_or_ge x y with hyx | hyx
  case' inl =>
    have hz0 : Hid (z = 0) := by have := HZ.out; rwa [if_neg (by omega)] at this
    go_wp2_with fail
    refine (ls_putzno 0 w2.heap.size y H4 (by decide) rfl (by omega)).mono ?_
    rintro e w5 ⟨rfl, H5, o5⟩
    have S5 : ∃ G L, Hid (Ls w w5 w1.heap.size 2 (upd (upd (fun _ => 0) 0 w2.heap.size) 1 w3.heap.size) L x z z G) ∧ Hid ((L 0).length = z) ∧ Hid (L 1 = []) := ⟨_, _, by rw [hz0.out]; exact H5, hid (by rw [hz0.out]; rfl), hid rfl⟩
    clear H4 H5 o5 hz0
    have hle : ¬ (y : Int) ≤ x := by omega
  case' inr =>
    have hz0 : Hid (z = y) := by have := HZ.out; rwa [if_pos hyx] at this
    go_wp2_with fail
    refine (ls_putz 0 w2.heap.size y [] y y H4 (by decide) rfl rfl (by omega) (by simp) (by omega) (by omega)).mono ?_
    rintro e w5 ⟨G5, rfl, H5, h5, o5⟩
    have S5 : ∃ G L, Hid (Ls w w5 w1.heap.size 2 (upd (upd (fun _ => 0) 0 w2.heap.size) 1 w3.heap.size) L x z z G) ∧ Hid ((L 0).length = z) ∧ Hid (L 1 = []) := ⟨_, _, by rw [hz0.out]; exact H5, hid (by rw [hz0.out]; exact Z_len y), hid rfl⟩
    clear H4 H5 o5 h5 hz0
    have hle : (y : Int) ≤ x := by omega
  all_goals
    obtain ⟨G5, L, H5, hL0, hL1⟩ := S5
    go_wp2_with fail
    refine (ls_room d H5 (by have := HD.out; omega)).mono ?_
    rintro e w6 ⟨rfl, n6, rfl⟩
    have H6 := hid (H5.out.drewN n6)
    generalize w5.drewN n6 = w6 at *
    clear H5 n6 hle hyx
    go_wp2_with fail
    refine (ls_putzno 1 w3.heap.size (d + 1) H6 (by decide) rfl (by have := HD.out; omega)).mono ?_
    rintro e w7 ⟨rfl, H7, o7⟩
    clear H6 o7
    go_wp2_with fail
    refine (ls_putz 1 w3.heap.size d [] x x H7 (by decide) rfl hL1.out (by have := HD.out; omega) (by simp) (by have := HD.out; omega) (by have := HD.out; omega)).mono ?_
    rintro e w8 ⟨G8, rfl, H8, h8, o8⟩
    clear H7 h8 o8
    go_wp2_with fail
    refine (ls_putnorow 0 w2.heap.size [1] 1 5 (0, 0) H8 (by decide) rfl (by simp)).mono ?_
    rintro e w9 ⟨rfl, H9, o9⟩
    clear H8 o9
    go_wp2_with fail
    refine (ls_lenm 0 w2.heap.size z H9 (by decide) rfl (by exact hL0.out)).mono ?_
    rintro e w10 ⟨rfl, rfl⟩
    go_wp2_with fail
    refine (ls_dropm 0 w2.heap.size z d H9 (by decide) rfl (by exact hL0.out) (by have := HD.out; omega) (by have := HD.out; omega)).mono ?_
    rintro e w11 ⟨rfl, H11, o11⟩
    clear H9 o11
    go_wp2_with fail
    refine (ls_room z H11 (by have := HD.out; omega)).mono ?_
    rintro e w12 ⟨rfl, n12, rfl⟩
    have H12 := hid (H11.out.drewN n12)
    generalize w11.drewN n12 = w12 at *
    clear H11 n12
    go_wp2_with fail
    refine (ls_putz 1 w3.heap.size z _ x x H12 (by decide) rfl rfl (by have := HD.out; omega) (by simp [upd, Z_len]) (by have := HD.out; omega) (by have := HD.out; omega)).mono ?_
    rintro e w13 ⟨G13, rfl, H13, h13, o13⟩
    clear H12 h13 o13
    go_wp2_with fail
    refine (ls_lenm 1 w3.heap.size x H13 (by decide) rfl (by have := HD.out; simp [upd, Z_len]; omega)).mono ?_
    rintro e w14 ⟨rfl, rfl⟩
    go_wp2_with fail
    refine (ls_room 0 H13 (by omega)).mono ?_
    rintro e w15 ⟨rfl, n15, rfl⟩
    have H15 := hid (H13.out.drewN n15)
    generalize w13.drewN n15 = w15 at *
    clear H13 n15
    go_wp2_with fail
    refine (ls_dropm 1 w3.heap.size x 0 H15 (by decide) rfl (by have := HD.out; simp [upd, Z_len]; omega) (by omega) (by omega)).mono ?_
    rintro e w16 ⟨rfl, H16, o16⟩
    clear H15 o16
    go_wp2_with fail
    refine (ls_held H16).mono ?_
    rintro e w17 ⟨rfl, rfl⟩
    go_wp2_with fail
    refine (ls_peak H16).mono ?_
    rintro e w18 ⟨rfl, rfl⟩
    go_wp2_with fail
    go_ret
    exact ⟨rfl, H16.out.below⟩
end Go.Proofs.Ytcehabcbmhjcmaa
