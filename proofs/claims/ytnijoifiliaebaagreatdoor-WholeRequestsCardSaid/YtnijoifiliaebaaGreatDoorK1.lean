/-
  HexText of the package sign: digits of the base 16.
-/
import Derived.Test.YtnijoifiliaebaaGreatDoorH
import Derived.Laws.BitsAllLaws
namespace Go.Proofs.YtnijoifiliaebaaGreatDoor
open Go.RowKit

def hexD (d : Nat) : UInt8 := hexes.getD d 0
def hexT (n : Nat) : List UInt8 := if n < 16 then [hexD n] else hexT (n / 16) ++ [hexD (n % 16)]
termination_by n
decreasing_by omega

theorem tz64_any (w : World) (h : w.cell? ⟨5, 15, none⟩ = some (.int .u8 4)) : Calls Tryz.prog 109 #[.int .u64 16] w fun e w' => e = .returned (.int .i64 4) ∧ w' = w := by
  have hx : IntKind.u64.wrap (bits .and .u64 16 (IntKind.u64.wrap (-16)) * 285870213051353865) / 288230376151711744 = 15 := by decide +kernel
  go_enter Tryz.func109, Tryz.ntmps109
  go_wp2_with fail
  go_ret
  exact ⟨rfl, rfl⟩
theorem tz_any (w : World) (h : w.cell? ⟨5, 15, none⟩ = some (.int .u8 4)) : Calls Tryz.prog 100 #[.int .u64 16] w fun e w' => e = .returned (.int .i64 4) ∧ w' = w := by
  go_enter Tryz.func100, Tryz.ntmps100
  go_wp2_with fail
  refine (tz64_any w h).mono ?_
  rintro e w1 ⟨rfl, rfl⟩
  go_wp2_with fail
  go_ret
  exact ⟨rfl, rfl⟩
theorem pow2_any (w : World) : Calls Tryz.prog 99 #[.int .i64 16] w fun e w' => e = .returned (.bool true) ∧ w' = w := by
  have hx : bits .and .i64 16 15 = 0 := by decide +kernel
  go_enter Tryz.func99, Tryz.ntmps99
  go_wp2_with fail
  go_ret
  exact ⟨rfl, rfl⟩
theorem and15 (n : Nat) : bits .and .u64 (n : Int) 15 = (n : Int) % 16 := by
  show IntKind.u64.wrap ((BitVec.ofInt 64 n &&& BitVec.ofInt 64 15).toNat : Int) = _
  have e : (BitVec.ofInt 64 15).toNat = 2 ^ 4 - 1 := by decide
  have em : (BitVec.ofInt 64 (n : Int)).toNat = n % 18446744073709551616 := by
    rw [BitVec.toNat_ofInt]; omega
  rw [BitVec.toNat_and, e, Nat.and_two_pow_sub_one_eq_mod, em]
  rw [IntKind.wrap_u64]
  omega
/-- The digits so far, in the array from place i on. -/
def ArrAt (w : World) (g i : Nat) (t : List UInt8) : Prop := i + t.length = 65 ∧ ∃ cs : Array Value, w.heap[g]? = some (.cells cs 125 (0, 0)) ∧ cs.size = 65 ∧ cs.toList.drop i = t.map byteV
theorem ArrAt.put {w : World} {g i : Nat} {t : List UInt8} (h : ArrAt w g (i + 1) t) (c : UInt8) : ArrAt (w.setCell ⟨g, i, none⟩ (byteV c)) g i (c :: t) := by
  obtain ⟨h0, cs, h1, h2, h3⟩ := h
  refine ⟨by simp; omega, cs.setIfInBounds i (byteV c), b_set h1 i _, by simpa using h2, ?_⟩
  have hi : i < cs.toList.length := by simp; omega
  rw [Array.toList_setIfInBounds, List.drop_eq_getElem_cons (by simpa using hi), List.getElem_set_self, List.drop_set_of_lt (by omega), h3]
  rfl
theorem ArrAt.cell {w : World} {g i : Nat} {t : List UInt8} (h : ArrAt w g i t) (j : Nat) (hj : j < 65) : ∃ v, w.cell? ⟨g, j, none⟩ = some v := by
  obtain ⟨h0, cs, h1, h2, h3⟩ := h
  exact ⟨cs[j]'(by omega), by rw [b_cell h1, Array.getElem?_eq_getElem]⟩
theorem ArrAt.free {w : World} {g i : Nat} {t : List UInt8} (h : ArrAt w g i t) (j : Nat) : w.frozen? ⟨g, j, none⟩ = false := by
  obtain ⟨h0, cs, h1, h2, h3⟩ := h
  exact b_free h1 j
theorem ArrAt.str {w : World} {g i : Nat} {t : List UInt8} (h : ArrAt w g i t) (cap n : Nat) (hn : n = t.length) : (convert 24 9 (.slice (some ⟨g, i, none⟩) n cap)).run Tryz.prog w = .ok (.string (B t)) w := by
  subst hn
  obtain ⟨h0, cs, h1, h2, h3⟩ := h
  refine run_convert_bytes_back w 24 9 5 ⟨g, i, none⟩ cap t Tryz.underlying24 Tryz.underlying5 Tryz.underlying9 (fun j hj => ?_)
  rw [Go.WideShapes.add_plain, b_cell h1]
  have : (cs.toList.drop i)[j]? = (t.map byteV)[j]? := by rw [h3]
  rw [List.getElem?_drop] at this
  rw [← Array.getElem?_toList, this]
  simp [hj, byteV]
theorem arr_slice (g k : Nat) (hk : k < 65) (w : World) : (Instr.sliceAt 125 (.pointer (some ⟨g, 0, none⟩)) (some (.int .i64 (k : Int))) none none).run Tryz.prog w = .ok (.slice (some ⟨g, k, none⟩) (65 - k) (65 - k)) w := by
  have hl : Tryz.prog.arrayLen 125 = 65 := by kernel_rfl
  have he : Tryz.prog.elem 125 = 5 := by kernel_rfl
  rw [run_sliceAt_array_l w 125 ⟨g, 0, none⟩ (by rw [hl, he]; exact Tryz.underlying125) .i64 k (by omega) (by rw [hl]; omega), hl, he]
  simp [go_sem, slicedAt]
  omega
def digits36 : ByteArray := ⟨#[48, 49, 50, 51, 52, 53, 54, 55, 56, 57, 97, 98, 99, 100, 101, 102, 103, 104, 105, 106, 107, 108, 109, 110, 111, 112, 113, 114, 115, 116, 117, 118, 119, 120, 121, 122]⟩
theorem hexD_tab : ∀ d : Fin 16, digits36[d.val]'(Nat.lt_of_lt_of_le d.isLt (by decide)) = hexD d.val := by decide
theorem hexD_at (u : Nat) (w : World) : (Instr.index 9 (.string ⟨#[48, 49, 50, 51, 52, 53, 54, 55, 56, 57, 97, 98, 99, 100, 101, 102, 103, 104, 105, 106, 107, 108, 109, 110, 111, 112, 113, 114, 115, 116, 117, 118, 119, 120, 121, 122]⟩) (.int .u64 ((u : Int) % 16))).run Tryz.prog w = .ok (.int .u8 ((hexD (u % 16)).toNat : Int)) w := by
  have e : ((u : Int) % 16) = ((u % 16 : Nat) : Int) := by omega
  rw [e]
  have hd : u % 16 < 16 := Nat.mod_lt _ (by decide)
  generalize u % 16 = d at hd ⊢
  show (Instr.index 9 (.string digits36) (.int .u64 (d : Int))).run Tryz.prog w = _
  rw [run_index_string w 9 digits36 .u64 d Tryz.underlying9]
  have h1 : 0 ≤ (d : Int) ∧ (d : Int) < (digits36.size : Nat) := ⟨by omega, by show (d : Int) < (36 : Nat); omega⟩
  rw [dif_pos h1]
  congr 2
  exact congrArg (fun c : UInt8 => (c.toNat : Int)) (hexD_tab ⟨d, hd⟩)

set_option maxRecDepth 100000 in
set_option maxHeartbeats 1000000 in
theorem bits_any (n : Nat) (hn : n < 1000000000000) (w : World) (h : w.cell? ⟨5, 15, none⟩ = some (.int .u8 4)) (hb : 5 < w.heap.size) :
    Calls Tryz.prog 77 #[.slice none 0 0, .int .u64 n, .int .i64 16, .bool false, .bool false] w fun e w' => e = .returned (.tuple #[.slice none 0 0, .string (B (hexT n))]) ∧ Only (fun _ => False) w w' := by
  go_enter Tryz.func77, Tryz.ntmps77
  go_upto_region 7 with (fail)
  go_wp2_with fail
  refine (pow2_any _).mono ?_
  rintro e w1 ⟨rfl, rfl⟩
  have O1 : Only (fun _ => False) w (w.alloc (.cells Tryz.zeroCells125 125)) := (Only.refl _ w).alloc _
  have h1 := (O1.cell (p := ⟨5, 15, none⟩) hb (fun h => h)).trans h
  have H1 : ArrAt (w.alloc (.cells Tryz.zeroCells125 125)) w.heap.size 65 [] := ⟨rfl, _, b_new _ _, by kernel_rfl, by kernel_rfl⟩
  obtain ⟨w1, hw1⟩ : ∃ w1, w.alloc (.cells Tryz.zeroCells125 125) = w1 := ⟨_, rfl⟩
  rw [hw1] at O1 h1 H1 ⊢
  clear hw1
  obtain ⟨g, hg⟩ : ∃ g, w.heap.size = g := ⟨_, rfl⟩
  rw [hg] at H1 ⊢
  replace hg := hid hg
  go_wp2_with fail
  refine (tz_any w1 h1).mono ?_
  rintro e w2 ⟨rfl, rfl⟩
  go_wp2_with fail
  go_loopw [1, 13] (fun uv iv wr => ∃ (u i : Nat) (t : List UInt8), uv = .int .u64 (u : Int) ∧ iv = .int .i64 (i : Int) ∧ u ≤ n ∧ Hid (hexT n = hexT u ++ t) ∧ Hid (16 ^ t.length * u ≤ n ∧ (t ≠ [] → 1 ≤ u)) ∧ ArrAt wr g i t ∧ Only (fun _ => False) w wr) (fun uv _ _ => (intOf uv).toNat)
  case atStart => exact ⟨n, 65, [], rfl, rfl, Nat.le_refl _, hid (by simp), hid (by simp), H1, O1⟩
  case round =>
    clear H1 O1 h1
    obtain ⟨u, i, t, rfl, rfl, hun, ht, hbd, H, O⟩ := hrel
    have hil := H.1
    have hlen : t.length ≤ 10 := by
      by_cases hl : t.length ≤ 10
      · exact hl
      · exfalso
        have h2 := hbd.out.1
        have h3 := hbd.out.2 (by rintro rfl; simp at hl)
        have h4 : 16 ^ 11 ≤ 16 ^ t.length := Nat.pow_le_pow_right (by decide) (by omega)
        have h5 : 16 ^ t.length * 1 ≤ 16 ^ t.length * u := Nat.mul_le_mul_left _ h3
        omega
    obtain ⟨k, rfl⟩ : ∃ k, i = k + 1 := ⟨i - 1, by omega⟩
    have hk : k < 65 := by omega
    have hk54 : 54 ≤ k := by omega
    obtain ⟨v0, hc0⟩ := H.cell k hk
    have hf0 := H.free k
    have hOk : ∀ v, Only (fun _ => False) w (wr.setCell ⟨g, k, none⟩ v) := fun v => O.setCell (.inr (by rw [hg.out]; exact Nat.le_refl _)) v
    replace hOk := hid hOk
    clear hlen hil
    by_cases h16 : 16 ≤ u
    · have hidx := hexD_at u
      have ha := and15 u
      have hput := H.put (hexD (u % 16))
      unfold byteV at hput
      have ht2 : Hid (hexT n = hexT (u / 16) ++ (hexD (u % 16) :: t)) := hid (by rw [ht.out, hexT, if_neg (by omega)]; simp)
      have hb2 : Hid (16 ^ (hexD (u % 16) :: t).length * (u / 16) ≤ n ∧ (hexD (u % 16) :: t ≠ [] → 1 ≤ u / 16)) := hid ⟨by
        rw [List.length_cons, Nat.pow_succ, Nat.mul_assoc]
        exact Nat.le_trans (Nat.mul_le_mul_left _ (by omega)) hbd.out.1, fun _ => by omega⟩
      generalize hexD (u % 16) :: t = t' at hput ht2 hb2
      generalize (hexD (u % 16)).toNat = z at *
      go_wp2_with fail
      go_roundw
      case rel => exact ⟨u / 16, k, t', by simp, by simp, by omega, ht2, hb2, hput, hOk.out _⟩
      case measure => simp [intOf]; omega
    · have hum : u % 16 = u := Nat.mod_eq_of_lt (by omega)
      have hum' : (u : Int) % 16 = (u : Int) := by omega
      have hidx := hexD_at u
      rw [hum, hum'] at hidx
      have hput := H.put (hexD u)
      have ht2 : Hid (hexT n = hexD u :: t) := hid (by rw [ht.out, hexT, if_pos (by omega)]; rfl)
      have hstr := hput.str
      have hpl := hput.1
      unfold byteV at hput hstr
      generalize hexD u :: t = t' at hput ht2 hstr hpl
      generalize (hexD u).toNat = z at *
      have hstr' := fun cap => hstr cap (65 - k) (by omega)
      have hsl := arr_slice g k (by omega)
      clear hum hum' hstr hpl hput
      go_wp2_with fail
      go_ret2
      exact ⟨by rw [ht2.out]; rfl, hOk.out _⟩
theorem fmt16i_any (n : Nat) (hn : n < 1000000000000) (w : World) (hG : Gl w) : Calls Tryz.prog 48 #[.int .i64 n, .int .i64 16] w fun e w' => e = .returned (.string (B (hexT n))) ∧ Only (fun _ => False) w w' := by
  go_enter Tryz.func48, Tryz.ntmps48
  go_wp2_with fail
  refine (bits_any n hn w hG.tab (by have := hG.size; omega)).mono ?_
  rintro e w1 ⟨rfl, O1⟩
  go_wp2_with fail
  go_ret
  exact ⟨rfl, O1⟩
theorem fmt16_any (n : Nat) (hn : n < 1000000000000) (w : World) (hG : Gl w) : Calls Tryz.prog 25 #[.int .i64 n, .int .i64 16] w fun e w' => e = .returned (.string (B (hexT n))) ∧ Only (fun _ => False) w w' := by
  go_enter Tryz.func25, Tryz.ntmps25
  go_wp2_with fail
  refine (fmt16i_any n hn w hG).mono ?_
  rintro e w1 ⟨rfl, O1⟩
  go_wp2_with fail
  go_ret
  exact ⟨rfl, O1⟩
theorem hexText_any (n : Nat) (hn : n < 1000000000000) (w : World) (hG : Gl w) : Calls Tryz.prog 33 #[.int .i64 n] w fun e w' => e = .returned (.string (B (hexT n))) ∧ Only (fun _ => False) w w' := by
  go_enter Tryz.func33, Tryz.ntmps33
  go_wp2_with fail
  refine (fmt16_any n hn w hG).mono ?_
  rintro e w1 ⟨rfl, O1⟩
  go_wp2_with fail
  go_ret
  exact ⟨rfl, O1⟩
theorem only_grow (w : World) (k : Nat) (os : Array Obj) : Only (fun _ => False) w (Go.Sort.grow (w.drewN k) os) :=
  ⟨rfl, rfl, rfl, by simp [Go.Sort.grow], fun i hi _ => by simp [Go.Sort.grow, World.drewN, Array.getElem?_append_left hi]⟩
theorem text_any (n : Nat) (hn : n ≤ 9223372036854775807) (w : World) (hG : Gl w) : Calls Tryz.prog 9 #[.int .i64 n] w fun e w' => e = .returned (.string (B (Lib.decDigits n))) ∧ Only (fun _ => False) w w' := by
  go_enter Tryz.func9, Tryz.ntmps9
  go_wp2_with fail
  refine (Tryz.strconv_FormatInt_10 n (by omega) (by omega) w hG.pow).mono ?_
  rintro e w1 ⟨rfl, k, os, rfl⟩
  have hi : Lib.itoa (n : Int) = Lib.decDigits n := by unfold Lib.itoa; rw [if_neg (by omega)]; rfl
  rw [hi]
  go_wp2_with fail
  go_ret
  exact ⟨rfl, only_grow w k os⟩
end Go.Proofs.YtnijoifiliaebaaGreatDoor
