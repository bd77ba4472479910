/-
  Same, Trim, number, Decimal, Hex of the package sign.
-/
import Derived.Test.YtafljoiblfhioaaGreatDoorBa
import Derived.Shelf.Strings.SlTrimAscii
namespace Go.Proofs.YtafljoiblfhioaaGreatDoor
open Go.RowKit

def same (a b : List UInt8) : Bool := a.length == b.length && fold a == fold b
theorem fold_len (l : List UInt8) : (fold l).length = l.length := by simp [fold]
def blanks : List UInt8 := [32, 9]
def trim (l : List UInt8) : List UInt8 := Lib.trimS l blanks
theorem trim_any (s : ByteArray) (hs : s.size ≤ 9223372036854775807) (w : World) : Calls Tryz.prog 31 #[.string s] w fun e w' => e = .returned (.string (B (trim s.data.toList))) ∧ Only (fun _ => False) w w' := by
  go_enter Tryz.func31, Tryz.ntmps31
  go_wp2_with fail
  refine (Any.strings_Trim_laid Tryz.lays160 (by kernel_rfl) s ⟨#[32, 9]⟩ w hs (by decide) (ascii_of_all (by decide))).mono ?_
  rintro e w1 ⟨rfl, hb⟩
  go_wp2_with fail
  go_ret
  exact ⟨rfl, Only.of_below hb⟩

set_option maxRecDepth 100000 in
theorem same_any (a b : ByteArray) (ha : a.size ≤ 9223372036854775807) (hb : b.size ≤ 9223372036854775807) (w : World) : Calls Tryz.prog 54 #[.string a, .string b] w fun e w' => e = .returned (.bool (same a.data.toList b.data.toList)) ∧ Only (fun _ => False) w w' := by
  go_enter Tryz.func54, Tryz.ntmps54
  by_cases h : (a.size : Int) = b.size
  · go_wp2_with fail
    refine (fold_any _ ha _).mono ?_
    rintro e w1 ⟨rfl, O1⟩
    go_wp2_with fail
    refine (fold_any _ hb _).mono ?_
    rintro e w2 ⟨rfl, O2⟩
    go_wp2_with fail
    go_ret
    refine ⟨?_, O1.trans O2⟩
    have h2 : a.data.toList.length = b.data.toList.length := by simp; omega
    simp [same, h2]
  · go_wp2_with fail
    go_ret
    refine ⟨?_, Only.refl _ _⟩
    have h2 : ¬ a.data.toList.length = b.data.toList.length := by simp; omega
    simp only [same]
    rw [show (a.data.toList.length == b.data.toList.length) = false by simpa using h2]
    simp

def hexes : List UInt8 := [48, 49, 50, 51, 52, 53, 54, 55, 56, 57, 97, 98, 99, 100, 101, 102]
def dig (c : UInt8) : Int := Lib.indexByte hexes (lowC c)
def numGo (base most : Nat) : Nat → Int → List UInt8 → Option Int
  | _, n, [] => some n
  | i, n, c :: t => if dig c < 0 ∨ (base : Int) ≤ dig c then none else numGo base most (i + 1) (if i < most then wrap64 (wrap64 (n * base) + dig c) else n) t
def number (base most : Nat) (l : List UInt8) : Int × Bool :=
  match numGo base most 0 0 l with
  | none => (0, false)
  | some n => if l.isEmpty || decide (most < l.length) then (0, false) else (n, true)

theorem one_at (s : ByteArray) (k : Nat) (h : k < s.size) : (s.extract k (k + 1)).data.toList = [s[k]] := by
  rw [ByteArray.data_extract, Array.toList_extract, List.extract_eq_take_drop, show k + 1 - k = 1 by omega]
  rw [List.drop_eq_getElem_cons (by simpa using h)]
  simp
  rfl

theorem dig_call (c : UInt8) (w : World) : Calls Tryz.prog 66 #[.string ⟨#[48, 49, 50, 51, 52, 53, 54, 55, 56, 57, 97, 98, 99, 100, 101, 102]⟩, .int .u8 (lowC c).toNat] w fun e w' => e = .returned (.int .i64 (dig c)) ∧ w' = w := by
  refine (Tryz.strings_IndexByte _ _ w).mono ?_
  rintro e w1 ⟨rfl, rfl⟩
  exact ⟨by simp [dig, hexes], rfl⟩

set_option maxRecDepth 100000 in
theorem number_any (base most : Nat) (s : ByteArray) (hs : s.size ≤ 9223372036854775807) (hm : most ≤ 100) (hb : base ≤ 100) (w : World) :
    Calls Tryz.prog 93 #[.string s, .int .i64 base, .int .i64 most] w fun e w' => e = .returned (.tuple #[.int .i64 (number base most s.data.toList).1, .bool (number base most s.data.toList).2]) ∧ Only (fun _ => False) w w' := by
  have he := not_empty s
  go_enter Tryz.func93, Tryz.ntmps93
  go_wp2_with fail
  go_loopw [8, 13] (fun nv iv wr => ∃ (k : Nat) (n : Int), k ≤ s.size ∧ nv = .int .i64 n ∧ iv = .int .i64 (k : Int) ∧ Only (fun _ => False) w wr ∧ Hid (numGo base most k n (s.data.toList.drop k) = numGo base most 0 0 s.data.toList)) (fun _ iv _ => s.size - (intOf iv).toNat)
  case atStart => exact ⟨0, 0, by omega, rfl, rfl, Only.refl _ _, hid rfl⟩
  case round =>
    obtain ⟨k, n, hk, rfl, rfl, O, hn⟩ := hrel
    by_cases hlt : k < s.size
    · have hx := one_at s k hlt
      have hfx : B (fold [s[k]]) = B [lowC s[k]] := rfl
      go_wp2_with fail
      refine (fold_any _ (by simp; omega) _).mono ?_
      rintro e w1 ⟨rfl, O1⟩
      rw [hx, hfx]
      go_wp2_with fail
      refine (dig_call s[k] w1).mono ?_
      rintro e w2 ⟨rfl, rfl⟩
      clear hx hfx
      have hd : s.data.toList.drop k = s[k] :: s.data.toList.drop (k + 1) := by
        rw [List.drop_eq_getElem_cons (by simpa using hlt)]
        rfl
      rw [hd] at hn
      clear hd
      generalize s[k] = c at hn ⊢
      by_cases h1 : dig c < 0
      · go_wp2_with fail
        go_ret2
        have : numGo base most 0 0 s.data.toList = none := by rw [← hn.out]; simp [numGo, h1]
        exact ⟨by simp [number, this], O.trans O1⟩
      · by_cases h2 : (base : Int) ≤ dig c
        · go_wp2_with fail
          go_ret2
          have : numGo base most 0 0 s.data.toList = none := by rw [← hn.out]; simp [numGo, h2]
          exact ⟨by simp [number, this], O.trans O1⟩
        · have hn' : Hid (numGo base most (k + 1) (if k < most then wrap64 (wrap64 (n * base) + dig c) else n) (s.data.toList.drop (k + 1)) = numGo base most 0 0 s.data.toList) := by
            have := hn.out
            rw [numGo, if_neg (by omega)] at this
            exact this
          clear hn
          by_cases h3 : k < most
          · rw [if_pos h3] at hn'
            go_wp2_with fail
            go_roundw
            case rel => exact ⟨k + 1, _, by omega, rfl, by simp, O.trans O1, hn'⟩
            case measure => simp [intOf]; omega
          · rw [if_neg h3] at hn'
            go_wp2_with fail
            go_roundw
            case rel => exact ⟨k + 1, _, by omega, rfl, by simp, O.trans O1, hn'⟩
            case measure => simp [intOf]; omega
    · have hN : numGo base most 0 0 s.data.toList = some n := by
        rw [← hn.out, List.drop_of_length_le (by simp; omega)]
        rfl
      cases h : s.data.toList.isEmpty
      · rw [h] at he
        by_cases h4 : most < s.size
        · go_wp2_with fail
          go_ret2
          exact ⟨by simp [number, hN, h4], O⟩
        · go_wp2_with fail
          go_ret2
          exact ⟨by simp [number, hN, h4, h], O⟩
      · rw [h] at he
        go_wp2_with fail
        go_ret2
        exact ⟨by simp [number, hN, h], O⟩
theorem decimal_any (s : ByteArray) (hs : s.size ≤ 9223372036854775807) (w : World) :
    Calls Tryz.prog 58 #[.string s] w fun e w' => e = .returned (.tuple #[.int .i64 (number 10 18 s.data.toList).1, .bool (number 10 18 s.data.toList).2]) ∧ Only (fun _ => False) w w' := by
  go_enter Tryz.func58, Tryz.ntmps58
  go_wp2_with fail
  refine (number_any 10 18 s hs (by decide) (by decide) _).mono ?_
  rintro e w1 ⟨rfl, O1⟩
  go_wp2_with fail
  go_ret2
  exact ⟨rfl, O1⟩
theorem hex_any (s : ByteArray) (hs : s.size ≤ 9223372036854775807) (w : World) :
    Calls Tryz.prog 115 #[.string s] w fun e w' => e = .returned (.tuple #[.int .i64 (number 16 15 s.data.toList).1, .bool (number 16 15 s.data.toList).2]) ∧ Only (fun _ => False) w w' := by
  go_enter Tryz.func115, Tryz.ntmps115
  go_wp2_with fail
  refine (number_any 16 15 s hs (by decide) (by decide) _).mono ?_
  rintro e w1 ⟨rfl, O1⟩
  go_wp2_with fail
  go_ret2
  exact ⟨rfl, O1⟩
end Go.Proofs.YtafljoiblfhioaaGreatDoor
