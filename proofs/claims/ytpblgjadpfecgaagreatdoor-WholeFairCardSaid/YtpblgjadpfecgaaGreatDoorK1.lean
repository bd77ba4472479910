/-
  Text of the package sign; []byte of a text.
-/
import Derived.Test.YtpblgjadpfecgaaGreatDoorI
import Derived.Laws.BitsAllLaws
import Derived.Laws.Concat
set_option linter.unusedSimpArgs false
set_option linter.unusedVariables false
namespace Go.Proofs.YtpblgjadpfecgaaGreatDoor
open Go.RowKit

theorem B_app (x y : List UInt8) : B (x ++ y) = B x ++ B y := by
  apply ByteArray.ext
  simp [B, ByteArray.data_append]
theorem B_eta (s : ByteArray) : B s.data.toList = s := rfl


theorem own_conv (w : World) (s : ByteArray) (base cap : Nat) (hb : base ≤ w.heap.size) (h1 : s.size ≤ cap) (h2 : cap ≤ maxLen) :
    OwnB (w.alloc (.cells (bytesRow s cap) 5 ((bytesRow s cap).size, (bytesRow s cap).size + 1))) base (some ⟨w.heap.size, 0, none⟩) cap s.data.toList := by
  have hsz : (bytesRow s cap).size = cap := by simp [bytesRow]; omega
  refine ⟨by rw [bV_len]; omega, .inr ⟨w.heap.size, _, _, rfl, hb, b_new _ _, .inl (Nat.le_refl _), by simpa using h1, h2, by rw [hsz]; omega, ?_⟩⟩
  simp [bytesRow, bV, byteV]


theorem B_size (l : List UInt8) : (B l).size = l.length := rfl
theorem only_grow (w : World) (k : Nat) (os : Array Obj) : Only (fun _ => False) w (Go.Sort.grow (w.drewN k) os) :=
  ⟨rfl, rfl, rfl, by simp [Go.Sort.grow], fun i hi _ => by simp [Go.Sort.grow, World.drewN, Array.getElem?_append_left hi]⟩
theorem text_any (n : Nat) (hn : n ≤ 9223372036854775807) (w : World) (hG : Gl w) : Calls Tryz.prog 46 #[.int .i64 n] w fun e w' => e = .returned (.string (B (Lib.decDigits n))) ∧ Only (fun _ => False) w w' := by
  go_enter Tryz.func46, Tryz.ntmps46
  go_wp2_with fail
  refine (Tryz.strconv_FormatInt_10 n (by omega) (by omega) w hG.pow).mono ?_
  rintro e w1 ⟨rfl, k, os, rfl⟩
  have hi : Lib.itoa (n : Int) = Lib.decDigits n := by unfold Lib.itoa; rw [if_neg (by omega)]; rfl
  rw [hi]
  go_wp2_with fail
  go_ret
  exact ⟨rfl, only_grow w k os⟩
end Go.Proofs.YtpblgjadpfecgaaGreatDoor
/-
  Slices of bytes that are read: their cuts. Encode of the package chunk.
-/
namespace Go.Proofs.YtpblgjadpfecgaaGreatDoor
open Go.RowKit

theorem size5 (W : World) : (sizeOf 5).run Tryz.prog W = .ok 1 W := by simp [go_sem]
theorem elem24 : Tryz.prog.elem 30 = 5 := by kernel_rfl
theorem und24 : Tryz.prog.underlying 30 = some (.slice (Tryz.prog.elem 30)) := by rw [elem24]; exact Tryz.underlying30
def dropA (A : Option Addr) (cap k : Nat) : Option Addr := if cap = k then A else A.map (·.add k)
theorem run_h (A : Option Addr) (n c k : Nat) (h : k ≤ c) (W : World) :
    (Instr.slice 30 (.slice A n c) none (some (.int .i64 (k : Int))) none).run Tryz.prog W = .ok (.slice A k c) W := by
  rw [run_slice_h (P := Tryz.prog) W 30 A n c und24 .i64 (k : Int) (by omega) (by omega), elem24, size5]
  simp only [Result.andThen, sliced, Int.toNat_natCast, Nat.sub_zero, Nat.zero_mul]
  cases A <;> simp [Addr.add_zero']
theorem run_h' (A : Option Addr) (n c k : Nat) (h : k ≤ c) (W : World) :
    (Instr.sliceAt 30 (.slice A n c) none (some (.int .i64 (k : Int))) none).run Tryz.prog W = .ok (.slice A k c) W := by
  rw [run_sliceAt_slice W 30 _ _ _ _ und24]
  exact run_h A n c k h W
theorem run_l (A : Option Addr) (n c k : Nat) (h : k ≤ n) (W : World) :
    (Instr.slice 30 (.slice A n c) (some (.int .i64 (k : Int))) none none).run Tryz.prog W = .ok (.slice (dropA A c k) (n - k) (c - k)) W := by
  rw [run_slice_l (P := Tryz.prog) W 30 A n c und24 .i64 (k : Int) (by omega) (by omega), elem24, size5]
  simp only [Result.andThen, sliced, dropA, Int.toNat_natCast, Nat.mul_one]
theorem run_l' (A : Option Addr) (n c k : Nat) (h : k ≤ n) (W : World) :
    (Instr.sliceAt 30 (.slice A n c) (some (.int .i64 (k : Int))) none none).run Tryz.prog W = .ok (.slice (dropA A c k) (n - k) (c - k)) W := by
  rw [run_sliceAt_slice W 30 _ _ _ _ und24]
  exact run_l A n c k h W
theorem run_lh (A : Option Addr) (n c k m : Nat) (h : k ≤ m) (hm : m ≤ c) (W : World) :
    (Instr.slice 30 (.slice A n c) (some (.int .i64 (k : Int))) (some (.int .i64 (m : Int))) none).run Tryz.prog W = .ok (.slice (dropA A c k) (m - k) (c - k)) W := by
  rw [run_slice_lh (P := Tryz.prog) W 30 A n c und24 .i64 .i64 (k : Int) (m : Int) (by omega) (by omega) (by omega), elem24, size5]
  simp only [Result.andThen, sliced, dropA, Int.toNat_natCast, Nat.mul_one]
theorem run_lh' (A : Option Addr) (n c k m : Nat) (h : k ≤ m) (hm : m ≤ c) (W : World) :
    (Instr.sliceAt 30 (.slice A n c) (some (.int .i64 (k : Int))) (some (.int .i64 (m : Int))) none).run Tryz.prog W = .ok (.slice (dropA A c k) (m - k) (c - k)) W := by
  rw [run_sliceAt_slice W 30 _ _ _ _ und24]
  exact run_lh A n c k m h hm W

/-- The slice of n bytes at A holds l. -/
structure Bs (w : World) (A : Option Addr) (n c : Nat) (l : List UInt8) : Prop where
  len : l.length = n
  le : n ≤ c
  row : Row w A (bV l)
  nil : A = none → n = 0 ∧ c = 0
section
variable {w w' : World} {A : Option Addr} {n c : Nat} {l : List UInt8}
theorem Bs.same (h : Bs w A n c l) (o : Only (fun _ => False) w w') : Bs w' A n c l := ⟨h.len, h.le, h.row.same o, h.nil⟩
theorem Bs.keep {S : Nat → Prop} (h : Bs w A n c l) (o : Only S w w') (hs : ∀ i, ab A i → ¬ S i) : Bs w' A n c l := ⟨h.len, h.le, h.row.keep o hs, h.nil⟩
theorem Bs.take (h : Bs w A n c l) (k : Nat) (hk : k ≤ n) : Bs w A k c (l.take k) :=
  ⟨by rw [List.length_take, h.len]; omega, Nat.le_trans hk h.le, by have := h.row.take k; simpa [bV, List.map_take] using this, fun e => by obtain ⟨h1, h2⟩ := h.nil e; omega⟩
theorem Bs.drop (h : Bs w A n c l) (k : Nat) (hk : k ≤ n) : Bs w (dropA A c k) (n - k) (c - k) (l.drop k) := by
  have hle := h.le
  refine ⟨by rw [List.length_drop, h.len], by omega, fun hne => ?_, fun e => ?_⟩
  · have hkn : k < n := by
      rcases Nat.lt_or_ge k n with h1 | h1
      · exact h1
      · exfalso
        apply hne
        rw [List.drop_of_length_le (by rw [h.len]; exact h1)]
        rfl
    obtain ⟨b, off, rfl, _⟩ := h.row (by intro e; have := congrArg List.length e; rw [bV_len, h.len] at this; simp at this; omega)
    have := h.row.drop k
    have e1 : dropA (some ⟨b, off, none⟩) c k = some ⟨b, off + k, none⟩ := by
      unfold dropA
      rw [if_neg (by omega)]
      simp [Go.WideShapes.add_plain]
    rw [e1]
    have e2 : bV (l.drop k) = (bV l).drop k := by simp [bV, List.map_drop]
    rw [e2] at hne ⊢
    exact this hne
  · have : A = none := by
      unfold dropA at e
      split at e
      · exact e
      · simpa using e
    obtain ⟨h1, h2⟩ := h.nil this
    omega
theorem Bs.at_ (h : Bs w A n c l) (k : Nat) (p : UInt8) (hp : l[k]? = some p) : ∃ b off, A = some ⟨b, off, none⟩ ∧ b < w.heap.size ∧ w.cell? ⟨b, off + k, none⟩ = some (.int .u8 (p.toNat : Int)) := byt_at h.row k p hp
theorem Bs.empty (w : World) : Bs w none 0 0 [] := ⟨rfl, Nat.le_refl _, Row.nil _ _, fun _ => ⟨rfl, rfl⟩⟩
theorem OwnB.bs {base : Nat} (h : OwnB w base A c l) : Bs w A l.length c l := ⟨rfl, h.cap.1, h.row, fun e => by
  subst e
  rcases h.2 with ⟨_, h1, h2⟩ | ⟨g, cur, fz, h1, _⟩
  · exact ⟨h1, h2⟩
  · cases h1⟩
theorem OwnB.bs' {base n : Nat} (h : OwnB w base A c l) (hn : l.length = n) : Bs w A n c l := by subst hn; exact h.bs
end

def lenOfV : Value → Nat
  | .slice _ n _ => n
  | _ => 0
@[simp] theorem lenOfV_slice (A : Option Addr) (n c : Nat) : lenOfV (.slice A n c) = n := rfl

end Go.Proofs.YtpblgjadpfecgaaGreatDoor
