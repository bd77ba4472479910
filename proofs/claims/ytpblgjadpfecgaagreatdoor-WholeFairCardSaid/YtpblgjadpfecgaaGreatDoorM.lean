/-
  '&' on int with a mask of low bits is the rest of a division: rules for the walk.
-/
import Derived.Laws.BitsAllLaws
import Derived.WalkKit
namespace Go.Proofs.YtpblgjadpfecgaaGreatDoor

theorem and_mask (k : Nat) (hk : k ≤ 62) (n : Int) : bits .and .i64 n ((2 ^ k - 1 : Nat) : Int) = n % ((2 ^ k : Nat) : Int) := by
  show IntKind.i64.wrap ((BitVec.ofInt 64 n &&& BitVec.ofInt 64 ((2 ^ k - 1 : Nat) : Int)).toNat : Int) = _
  have hp : 2 ^ k ≤ 2 ^ 62 := Nat.pow_le_pow_right (by decide) hk
  have h0 : 0 < 2 ^ k := Nat.two_pow_pos k
  have e : (BitVec.ofInt 64 ((2 ^ k - 1 : Nat) : Int)).toNat = 2 ^ k - 1 := by
    rw [BitVec.ofInt_natCast, BitVec.toNat_ofNat]
    exact Nat.mod_eq_of_lt (by omega)
  have em : ((BitVec.ofInt 64 n).toNat : Int) = n % 18446744073709551616 := by
    rw [BitVec.toNat_ofInt]
    omega
  rw [BitVec.toNat_and, e, Nat.and_two_pow_sub_one_eq_mod]
  have hd : ((2 ^ k : Nat) : Int) ∣ 18446744073709551616 := by
    refine Int.natCast_dvd_natCast.2 ?_
    exact Nat.pow_dvd_pow 2 (show k ≤ 64 by omega)
  have hlt : (BitVec.ofInt 64 n).toNat % 2 ^ k < 2 ^ k := Nat.mod_lt _ h0
  have hw : IntKind.i64.wrap (((BitVec.ofInt 64 n).toNat % 2 ^ k : Nat) : Int) = (((BitVec.ofInt 64 n).toNat % 2 ^ k : Nat) : Int) := by
    rw [IntKind.wrap_i64]
    omega
  rw [hw, Int.natCast_emod, em, Int.emod_emod_of_dvd n hd]

theorem and_1 (n : Int) : bits .and .i64 n 1 = n % 2 := and_mask 1 (by decide) n
theorem and_15 (n : Int) : bits .and .i64 n 15 = n % 16 := and_mask 4 (by decide) n
theorem and_31 (n : Int) : bits .and .i64 n 31 = n % 32 := and_mask 5 (by decide) n
theorem and_63 (n : Int) : bits .and .i64 n 63 = n % 64 := and_mask 6 (by decide) n
theorem and_127 (n : Int) : bits .and .i64 n 127 = n % 128 := and_mask 7 (by decide) n
theorem and_255 (n : Int) : bits .and .i64 n 255 = n % 256 := and_mask 8 (by decide) n
theorem and_511 (n : Int) : bits .and .i64 n 511 = n % 512 := and_mask 9 (by decide) n
theorem and_1023 (n : Int) : bits .and .i64 n 1023 = n % 1024 := and_mask 10 (by decide) n
theorem and_65535 (n : Int) : bits .and .i64 n 65535 = n % 65536 := and_mask 16 (by decide) n
theorem and_1048575 (n : Int) : bits .and .i64 n 1048575 = n % 1048576 := and_mask 20 (by decide) n
attribute [go_sem] and_1 and_15 and_31 and_63 and_127 and_255 and_511 and_1023 and_65535 and_1048575
end Go.Proofs.YtpblgjadpfecgaaGreatDoor
