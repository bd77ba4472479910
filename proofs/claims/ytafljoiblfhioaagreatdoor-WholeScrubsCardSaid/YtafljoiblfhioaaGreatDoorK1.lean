/-
  Text of the package sign; []byte of a text.
-/
import Derived.Test.YtafljoiblfhioaaGreatDoorI
import Derived.Laws.BitsAllLaws
import Derived.Laws.Concat
namespace Go.Proofs.YtafljoiblfhioaaGreatDoor
open Go.RowKit

theorem B_app (x y : List UInt8) : B (x ++ y) = B x ++ B y := by
  apply ByteArray.ext
  simp [B, ByteArray.data_append]
theorem B_eta (s : ByteArray) : B s.data.toList = s := rfl


theorem own_conv (w : World) (s : ByteArray) (base cap : Nat) (hb : base ≤ w.heap.size) (h1 : s.size ≤ cap) (h2 : cap ≤ maxLen) :
    OwnB (w.alloc (.cells (bytesRow s cap) 5 ((bytesRow s cap).size, (bytesRow s cap).size + 1))) base (some ⟨w.heap.size, 0, none⟩) cap s.data.toList := by
  have hsz : (bytesRow s cap).size = cap := by simp [bytesRow]; omega
  refine ⟨by rw [bV_len]; omega, .inr ⟨w.heap.size, _, _, rfl, hb, b_new _ _, .inl (Nat.le_refl _), by simpa using h1, h2, by rw [hsz]; omega, ?_⟩⟩
  simp [bytesRow, bV, byteV]


theorem B_size (l : List UInt8) : (B l).size = l.length := rfl
theorem only_grow (w : World) (k : Nat) (os : Array Obj) : Only (fun _ => False) w (Go.Sort.grow (w.drewN k) os) :=
  ⟨rfl, rfl, rfl, by simp [Go.Sort.grow], fun i hi _ => by simp [Go.Sort.grow, World.drewN, Array.getElem?_append_left hi]⟩
theorem text_any (n : Nat) (hn : n ≤ 9223372036854775807) (w : World) (hG : Gl w) : Calls Tryz.prog 14 #[.int .i64 n] w fun e w' => e = .returned (.string (B (Lib.decDigits n))) ∧ Only (fun _ => False) w w' := by
  go_enter Tryz.func14, Tryz.ntmps14
  go_wp2_with fail
  refine (Tryz.strconv_FormatInt_10 n (by omega) (by omega) w hG.pow).mono ?_
  rintro e w1 ⟨rfl, k, os, rfl⟩
  have hi : Lib.itoa (n : Int) = Lib.decDigits n := by unfold Lib.itoa; rw [if_neg (by omega)]; rfl
  rw [hi]
  go_wp2_with fail
  go_ret
  exact ⟨rfl, only_grow w k os⟩
end Go.Proofs.YtafljoiblfhioaaGreatDoor
