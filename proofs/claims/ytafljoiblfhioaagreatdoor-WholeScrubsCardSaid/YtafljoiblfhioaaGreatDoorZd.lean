/-
  soundHttp.
-/
import Derived.Test.YtafljoiblfhioaaGreatDoorZb
import Derived.Lib.SmallJoins
namespace Go.Proofs.YtafljoiblfhioaaGreatDoor
open Go.RowKit

def soundB : List UInt8 := [80, 85, 84, 32, 47, 97, 32, 72, 84, 84, 80, 47, 49, 46, 49, 13, 10, 72, 111, 115, 116, 58, 32, 104, 13, 10, 84, 114, 97, 110, 115, 102, 101, 114, 45, 69, 110, 99, 111, 100, 105, 110, 103, 58, 32, 99, 104, 117, 110, 107, 101, 100, 13, 10, 13, 10, 50, 13, 10, 97, 98, 13, 10, 48, 13, 10, 13, 10]
theorem sound_req : requestF soundB = (([80, 85, 84], [47, 97], 1), [([72, 111, 115, 116], [104]), ([84, 114, 97, 110, 115, 102, 101, 114, 45, 69, 110, 99, 111, 100, 105, 110, 103], [99, 104, 117, 110, 107, 101, 100])], [97, 98], 68, 0) := by decide +kernel
theorem sound_parse : parseV [97, 58, 32, 98] = (([97], [98]), 0) := by decide +kernel
theorem sound_line : reqF [71, 69, 84, 32, 47, 32, 72, 84, 84, 80, 47, 49, 46, 49] = (([71, 69, 84], [47], 1), 0) := by decide +kernel
theorem sound_seven : Lib.decDigits 7 = [55] := by decide +kernel
def soundC : Array Value := (bV soundB).toArray
theorem sound_call (w : World) (hG : Gl w) (C : Array Value) (hC : C = soundC) : Calls Tryz.prog 7 #[.slice (some ⟨w.heap.size, 0, none⟩) 68 68] (w.alloc (.cells C 5 (68, 69))) fun e w' => ∃ F cf D cd, e = .returned (.tuple #[.agg #[.string (B [80, 85, 84]), .string (B [47, 97]), .int .i64 1, .slice F 2 cf, .slice D 2 cd], .int .i64 68, .int .i64 0]) ∧
      OwnB w' (w.heap.size + 1) D cd [97, 98] ∧ Only (fun _ => False) w w' := by
  subst hC
  have O1 : Only (fun _ => False) w (w.alloc (.cells soundC 5 (68, 69))) := (Only.refl _ w).alloc _
  have hB : Bs (w.alloc (.cells soundC 5 (68, 69))) (some ⟨w.heap.size, 0, none⟩) 68 68 soundB := by
    refine ⟨rfl, Nat.le_refl _, fun _ => ⟨w.heap.size, 0, rfl, by simp, fun j u hu => ?_⟩, fun h => by cases h⟩
    rw [b_cell' (b_new w _), Nat.zero_add]
    simpa [soundC] using hu
  refine (request_any (some ⟨w.heap.size, 0, none⟩) 68 68 soundB _ hB (by rintro i ⟨a, h, rfl⟩; cases h; simp) (by omega) (hG.same O1)).mono ?_
  rintro e w' ⟨F, cf, D, cd, rfl, hF, hD, O2⟩
  rw [sound_req] at hD ⊢
  refine ⟨F, cf, D, cd, rfl, ?_, O1.trans O2⟩
  have hz : (w.alloc (.cells soundC 5 (68, 69))).heap.size = w.heap.size + 1 := by simp
  rw [hz] at hD
  exact hD

set_option maxRecDepth 100000 in
set_option maxHeartbeats 2000000 in
theorem sound_any (w : World) (hG : Gl w) : Calls Tryz.prog 5 #[] w fun e w' => e = .returned (.bool true) ∧ Only (fun _ => False) w w' := by
  have kc := fun (w : World) (C : Array Value) (n c g : Nat) (hg : g = w.heap.size) => Joins.run_convert_bytes_const_at (P := Tryz.prog) w 22 5 C n c g hg Tryz.underlying22 Tryz.underlying5
  go_enter Tryz.func5, Tryz.ntmps5
  go_wp2_with fail
  refine (sound_call w hG _ (by kernel_rfl)).mono ?_
  rintro e w1 ⟨F, cf, D, cd, rfl, hD, O1⟩
  clear kc
  replace hD := hid hD
  have H1 := b_new w1 (.cells #[.string (B [80, 85, 84]), .string (B [47, 97]), .int .i64 1, .slice F 2 cf, .slice D 2 cd] 33)
  have O2 := O1.alloc (.cells #[.string (B [80, 85, 84]), .string (B [47, 97]), .int .i64 1, .slice F 2 cf, .slice D 2 cd] 33)
  have hD2 := hid (Own.same hD.out ((Only.refl _ w1).alloc (.cells #[.string (B [80, 85, 84]), .string (B [47, 97]), .int .i64 1, .slice F 2 cf, .slice D 2 cd] 33)))
  have hP := fun W (h : Gl W) => parse_any ⟨#[97, 58, 32, 98]⟩ (by decide) W h
  rw [show (⟨#[97, 58, 32, 98]⟩ : ByteArray).data.toList = [97, 58, 32, 98] from rfl, sound_parse] at hP
  have hL := fun W (h : Gl W) => req_any ⟨#[71, 69, 84, 32, 47, 32, 72, 84, 84, 80, 47, 49, 46, 49]⟩ (by decide) W h
  rw [show (⟨#[71, 69, 84, 32, 47, 32, 72, 84, 84, 80, 47, 49, 46, 49]⟩ : ByteArray).data.toList = [71, 69, 84, 32, 47, 32, 72, 84, 84, 80, 47, 49, 46, 49] from rfl, sound_line] at hL
  have hT := fun W (h : Gl W) => text_any 7 (by decide) W h
  rw [sound_seven] at hT
  unfold reqV at hL
  simp only [] at hP hL
  replace hP := hid hP
  replace hL := hid hL
  replace hT := hid hT
  clear hD
  go_upto_region 2 with (fail)
  generalize w1.alloc (.cells #[.string (B [80, 85, 84]), .string (B [47, 97]), .int .i64 1, .slice F 2 cf, .slice D 2 cd] 33) = w2 at *
  generalize w1.heap.size = g1 at *
  go_wp2_with fail
  refine (hP.out _ (hG.same O2)).mono ?_
  rintro e w3 ⟨rfl, O3⟩
  replace O2 := O2.trans O3
  replace H1 := O3.keep H1 (fun h => h)
  replace hD2 := hid (Own.same hD2.out O3)
  have H3 := b_new w3 (.cells #[.string (B [97]), .string (B [98])] 39)
  replace H1 := b_alloc H1 (.cells #[.string (B [97]), .string (B [98])] 39)
  replace O2 := O2.alloc (.cells #[.string (B [97]), .string (B [98])] 39)
  replace hD2 := hid (Own.same hD2.out ((Only.refl _ w3).alloc (.cells #[.string (B [97]), .string (B [98])] 39)))
  clear O3 hP
  go_upto_region 3 with (fail)
  generalize w3.alloc (.cells #[.string (B [97]), .string (B [98])] 39) = w4 at *
  generalize w3.heap.size = g3 at *
  go_wp2_with fail
  refine (hL.out _ (hG.same O2)).mono ?_
  rintro e w5 ⟨rfl, O3⟩
  replace O2 := O2.trans O3
  replace H1 := O3.keep H1 (fun h => h)
  replace H3 := O3.keep H3 (fun h => h)
  replace hD2 := hid (Own.same hD2.out O3)
  have H5 := b_new w5 (.cells #[.string (B [71, 69, 84]), .string (B [47]), .int .i64 1, .slice none 0 0, .slice none 0 0] 33)
  replace H1 := b_alloc H1 (.cells #[.string (B [71, 69, 84]), .string (B [47]), .int .i64 1, .slice none 0 0, .slice none 0 0] 33)
  replace H3 := b_alloc H3 (.cells #[.string (B [71, 69, 84]), .string (B [47]), .int .i64 1, .slice none 0 0, .slice none 0 0] 33)
  replace O2 := O2.alloc (.cells #[.string (B [71, 69, 84]), .string (B [47]), .int .i64 1, .slice none 0 0, .slice none 0 0] 33)
  replace hD2 := hid (Own.same hD2.out ((Only.refl _ w5).alloc (.cells #[.string (B [71, 69, 84]), .string (B [47]), .int .i64 1, .slice none 0 0, .slice none 0 0] 33)))
  clear O3 hL
  go_upto_region 4 with (fail)
  generalize w5.alloc (.cells #[.string (B [71, 69, 84]), .string (B [47]), .int .i64 1, .slice none 0 0, .slice none 0 0] 33) = w6 at *
  generalize w5.heap.size = g5 at *
  obtain ⟨⟨c0, c1, c2, c3, c4⟩, _⟩ := cells5 H1
  obtain ⟨d0, d1, _, _⟩ := cells2 H3
  obtain ⟨⟨e0, e1, e2, e3, e4⟩, _⟩ := cells5 H5
  have hbs : Bs w6 D 2 cd [97, 98] := OwnB.bs (base := w.heap.size + 1) hD2.out
  have st := hbs.str
  replace hbs := hid hbs
  have q1 : ((B [97, 98]).toList == ([97, 98] : List UInt8)) = true := by rw [ByteArray.toList_eq]; rfl
  have q2 : ((B [98]).toList == ([98] : List UInt8)) = true := by rw [ByteArray.toList_eq]; rfl
  have q3 : ((B [71, 69, 84]).toList == ([71, 69, 84] : List UInt8)) = true := by rw [ByteArray.toList_eq]; rfl
  have q4 : ((B [55]).toList == ([55] : List UInt8)) = true := by rw [ByteArray.toList_eq]; rfl
  go_wp2_with fail
  refine (hT.out _ (hG.same O2)).mono ?_
  rintro e w7 ⟨rfl, O3⟩
  go_wp2_with fail
  go_ret
  exact ⟨rfl, O2.trans O3⟩
end Go.Proofs.YtafljoiblfhioaaGreatDoor
