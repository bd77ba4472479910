/-
  Bytes of a message: alnum, Token, Value, Target of the package sign.
-/
import Derived.Test.YtafljoiblfhioaaGreatDoorK
import Derived.Test.YtafljoiblfhioaaGreatDoorSh
import Derived.WalkLawsBesides
import Derived.KernelRfl
import Derived.Outline
import Derived.Deep.QuietTactic
import Derived.LoopTactic
import Derived.Handy
import Derived.WalkKit
import Derived.Laws.DeepStrings4
namespace Go.Proofs.YtafljoiblfhioaaGreatDoor
open Go.RowKit

abbrev B (l : List UInt8) : ByteArray := ⟨l.toArray⟩

def alnumC (c : UInt8) : Bool := (97 ≤ c && c ≤ 122) || (65 ≤ c && c ≤ 90) || (48 ≤ c && c ≤ 57)
def others : List UInt8 := [33, 35, 36, 37, 38, 39, 42, 43, 45, 46, 94, 95, 96, 124, 126]
def tokC (c : UInt8) : Bool := alnumC c || others.contains c
def valC (c : UInt8) : Bool := (32 ≤ c && c != 127) || c == 9
def tgtC (c : UInt8) : Bool := 33 ≤ c && c ≤ 126
def token (l : List UInt8) : Bool := !l.isEmpty && l.all tokC
def target (l : List UInt8) : Bool := !l.isEmpty && l.all tgtC

theorem indexByte_contains (l : List UInt8) (c : UInt8) : decide (0 ≤ Lib.indexByte l c) = l.contains c := by
  induction l with
  | nil => rfl
  | cons b l ih =>
    have h1 := Lib.indexByte_ge l c
    unfold Lib.indexByte
    by_cases h : b = c
    · subst h; simp
    · have hb : (c == b) = false := by simp; exact fun e => h e.symm
      rw [List.contains_cons, hb, Bool.false_or, ← ih, if_neg (by simpa using h)]
      split
      · rename_i hm
        have : Lib.indexByte l c = -1 := by simpa using hm
        rw [this]
      · rename_i hm
        have hm' : Lib.indexByte l c ≠ -1 := by simpa using hm
        congr 1
        exact propext ⟨fun _ => by omega, fun _ => by omega⟩

theorem rb {a b : Bool} (h : a = true ↔ b = true) : (Ending.returned (.bool a) : Ending) = .returned (.bool b) := by rw [Bool.eq_iff_iff.2 h]

theorem alnum_any (c : UInt8) (w : World) : Calls Tryz.prog 65 #[.int .u8 c.toNat] w fun e w' => e = .returned (.bool (alnumC c)) ∧ w = w' := by
  have h : alnumC c = ((decide ((97 : Int) ≤ c.toNat) && decide ((c.toNat : Int) ≤ 122)) || (decide ((65 : Int) ≤ c.toNat) && decide ((c.toNat : Int) ≤ 90)) || (decide ((48 : Int) ≤ c.toNat) && decide ((c.toNat : Int) ≤ 57))) := by
    unfold alnumC
    simp only [UInt8.le_iff_toNat_le]
    norm_cast
  rw [h]
  clear h
  generalize (c.toNat : Int) = n
  go_enter Tryz.func65, Tryz.ntmps65
  go_wp2
  all_goals
    go_ret
    refine ⟨rb ?_, rfl⟩
    first | (simp; done) | (simp; omega) | (simp [*]; done) | (simp [*]; omega)

theorem tok1_any (c : UInt8) (w : World) : Calls Tryz.prog 64 #[.int .u8 c.toNat] w fun e w' => e = .returned (.bool (tokC c)) ∧ w = w' := by
  have hI := fun w => Tryz.strings_IndexByte ⟨#[33, 35, 36, 37, 38, 39, 42, 43, 45, 46, 94, 95, 96, 124, 126]⟩ (c.toNat : Int) w
  have hc : Lib.indexByte [33, 35, 36, 37, 38, 39, 42, 43, 45, 46, 94, 95, 96, 124, 126] ((c.toNat : Int).toNat.toUInt8) = Lib.indexByte others c := by
    simp [others]
  have hC := indexByte_contains others c
  go_enter Tryz.func64, Tryz.ntmps64
  go_wp2_with fail
  refine (alnum_any c w).mono ?_
  rintro e w1 ⟨rfl, rfl⟩
  cases ha : alnumC c
  · go_wp2_with fail
    refine (hI w).mono ?_
    rintro e w1 ⟨rfl, rfl⟩
    go_wp2_with fail
    go_ret
    refine ⟨rb ?_, rfl⟩
    simp only [tokC, ha, Bool.false_or, ← hC]
    simp [others]
    exact ⟨fun h => decide_eq_true h, fun h => of_decide_eq_true h⟩
  · go_wp2_with fail
    go_ret
    exact ⟨by simp [tokC, ha], rfl⟩
theorem val1_any (c : UInt8) (w : World) : Calls Tryz.prog 103 #[.int .u8 c.toNat] w fun e w' => e = .returned (.bool (valC c)) ∧ w = w' := by
  have h : valC c = (decide ((32 : Int) ≤ c.toNat) && !decide ((c.toNat : Int) = 127) || decide ((c.toNat : Int) = 9)) := by
    unfold valC
    have h1 : (c != 127) = !decide ((c.toNat : Int) = 127) := by
      rw [Bool.eq_iff_iff]; simp [← UInt8.toNat_inj]; omega
    have h2 : (c == 9) = decide ((c.toNat : Int) = 9) := by
      rw [Bool.eq_iff_iff]; simp [← UInt8.toNat_inj]; omega
    rw [h1, h2]
    simp only [UInt8.le_iff_toNat_le]
    norm_cast
  rw [h]
  clear h
  generalize (c.toNat : Int) = n
  go_enter Tryz.func103, Tryz.ntmps103
  go_wp2
  all_goals
    go_ret
    refine ⟨rb ?_, rfl⟩
    first | (simp; done) | (simp; omega) | (simp [*]; done) | (simp [*]; omega)
theorem tgt1_any (c : UInt8) (w : World) : Calls Tryz.prog 105 #[.int .u8 c.toNat] w fun e w' => e = .returned (.bool (tgtC c)) ∧ w = w' := by
  have h : tgtC c = (decide ((33 : Int) ≤ c.toNat) && decide ((c.toNat : Int) ≤ 126)) := by
    unfold tgtC
    simp only [UInt8.le_iff_toNat_le]
    norm_cast
  rw [h]
  clear h
  generalize (c.toNat : Int) = n
  go_enter Tryz.func105, Tryz.ntmps105
  go_wp2
  all_goals
    go_ret
    refine ⟨rb ?_, rfl⟩
    first | (simp; done) | (simp; omega) | (simp [*]; done) | (simp [*]; omega)

theorem all_upto (p : UInt8 → Bool) (l : List UInt8) (k : Nat) (h : ∀ i, i < k → ∀ c, l[i]? = some c → p c = true) (hk : l.length ≤ k) : l.all p = true := by
  rw [List.all_eq_true]
  intro c hc
  obtain ⟨i, hi, rfl⟩ := List.mem_iff_getElem.1 hc
  exact h i (by omega) _ (List.getElem?_eq_getElem hi)
theorem all_not (p : UInt8 → Bool) (l : List UInt8) (k : Nat) (c : UInt8) (hc : l[k]? = some c) (h : p c = false) : l.all p = false := by
  rw [List.all_eq_false]
  exact ⟨c, List.mem_of_getElem? hc, by simp [h]⟩
theorem at_str (s : ByteArray) (k : Nat) (h : k < s.size) : s.data.toList[k]? = some s[k] := by
  rw [Array.getElem?_toList, Array.getElem?_eq_getElem h]
  rfl

set_option maxRecDepth 100000 in
/-- 'all' with a function whose calls turn nothing. -/
theorem all_tok (s : ByteArray) (hs : s.size ≤ 9223372036854775807) (w : World) :
    Calls Tryz.prog 63 #[.string s, .func (.func 64) #[] #[]] w fun e w' => e = .returned (.bool (s.data.toList.all tokC)) ∧ w = w' := by
  go_enter Tryz.func63, Tryz.ntmps63
  go_wp2_with fail
  go_loopw [8] (fun iv wr => ∃ k : Nat, k ≤ s.size ∧ iv = .int .i64 (k : Int) ∧ wr = w ∧ Hid (∀ i, i < k → ∀ c, s.data.toList[i]? = some c → tokC c = true)) (fun iv _ => s.size - (intOf iv).toNat)
  case atStart => exact ⟨0, by omega, rfl, rfl, hid (by omega)⟩
  case round =>
    obtain ⟨k, hk, rfl, rfl, hx⟩ := hrel
    by_cases hlt : k < s.size
    · go_wp2_with fail
      refine (tok1_any _ _).mono ?_
      rintro e w1 ⟨rfl, rfl⟩
      cases hb : tokC (s[k])
      · go_wp2_with fail
        go_ret
        exact ⟨by rw [all_not tokC _ k _ (at_str s k hlt) hb]; rfl, rfl⟩
      · go_wp2_with fail
        go_roundw
        case rel => 
          refine ⟨k + 1, by omega, by simp, by simp, hid fun i hi c hc => ?_⟩
          by_cases hik : i = k
          · subst hik
            rw [at_str s i hlt] at hc
            cases hc
            exact hb
          · exact hx i (by omega) c hc
        case measure =>
          simp [intOf]
          omega
    · go_wp2_with fail
      go_ret
      exact ⟨by rw [all_upto tokC _ k hx (by simpa using (show s.size ≤ k by omega))]; rfl, rfl⟩
set_option maxRecDepth 100000 in
/-- 'all' with a function whose calls turn nothing. -/
theorem all_val (s : ByteArray) (hs : s.size ≤ 9223372036854775807) (w : World) :
    Calls Tryz.prog 63 #[.string s, .func (.func 103) #[] #[]] w fun e w' => e = .returned (.bool (s.data.toList.all valC)) ∧ w = w' := by
  go_enter Tryz.func63, Tryz.ntmps63
  go_wp2_with fail
  go_loopw [8] (fun iv wr => ∃ k : Nat, k ≤ s.size ∧ iv = .int .i64 (k : Int) ∧ wr = w ∧ Hid (∀ i, i < k → ∀ c, s.data.toList[i]? = some c → valC c = true)) (fun iv _ => s.size - (intOf iv).toNat)
  case atStart => exact ⟨0, by omega, rfl, rfl, hid (by omega)⟩
  case round =>
    obtain ⟨k, hk, rfl, rfl, hx⟩ := hrel
    by_cases hlt : k < s.size
    · go_wp2_with fail
      refine (val1_any _ _).mono ?_
      rintro e w1 ⟨rfl, rfl⟩
      cases hb : valC (s[k])
      · go_wp2_with fail
        go_ret
        exact ⟨by rw [all_not valC _ k _ (at_str s k hlt) hb]; rfl, rfl⟩
      · go_wp2_with fail
        go_roundw
        case rel => 
          refine ⟨k + 1, by omega, by simp, by simp, hid fun i hi c hc => ?_⟩
          by_cases hik : i = k
          · subst hik
            rw [at_str s i hlt] at hc
            cases hc
            exact hb
          · exact hx i (by omega) c hc
        case measure =>
          simp [intOf]
          omega
    · go_wp2_with fail
      go_ret
      exact ⟨by rw [all_upto valC _ k hx (by simpa using (show s.size ≤ k by omega))]; rfl, rfl⟩
set_option maxRecDepth 100000 in
/-- 'all' with a function whose calls turn nothing. -/
theorem all_tgt (s : ByteArray) (hs : s.size ≤ 9223372036854775807) (w : World) :
    Calls Tryz.prog 63 #[.string s, .func (.func 105) #[] #[]] w fun e w' => e = .returned (.bool (s.data.toList.all tgtC)) ∧ w = w' := by
  go_enter Tryz.func63, Tryz.ntmps63
  go_wp2_with fail
  go_loopw [8] (fun iv wr => ∃ k : Nat, k ≤ s.size ∧ iv = .int .i64 (k : Int) ∧ wr = w ∧ Hid (∀ i, i < k → ∀ c, s.data.toList[i]? = some c → tgtC c = true)) (fun iv _ => s.size - (intOf iv).toNat)
  case atStart => exact ⟨0, by omega, rfl, rfl, hid (by omega)⟩
  case round =>
    obtain ⟨k, hk, rfl, rfl, hx⟩ := hrel
    by_cases hlt : k < s.size
    · go_wp2_with fail
      refine (tgt1_any _ _).mono ?_
      rintro e w1 ⟨rfl, rfl⟩
      cases hb : tgtC (s[k])
      · go_wp2_with fail
        go_ret
        exact ⟨by rw [all_not tgtC _ k _ (at_str s k hlt) hb]; rfl, rfl⟩
      · go_wp2_with fail
        go_roundw
        case rel => 
          refine ⟨k + 1, by omega, by simp, by simp, hid fun i hi c hc => ?_⟩
          by_cases hik : i = k
          · subst hik
            rw [at_str s i hlt] at hc
            cases hc
            exact hb
          · exact hx i (by omega) c hc
        case measure =>
          simp [intOf]
          omega
    · go_wp2_with fail
      go_ret
      exact ⟨by rw [all_upto tgtC _ k hx (by simpa using (show s.size ≤ k by omega))]; rfl, rfl⟩

theorem not_empty (s : ByteArray) : (s.toList == ([] : List UInt8)) = s.data.toList.isEmpty := by
  rw [ByteArray.toList_eq]
  cases s.data.toList <;> rfl
set_option maxRecDepth 100000 in
theorem token_any (s : ByteArray) (hs : s.size ≤ 9223372036854775807) (w : World) : Calls Tryz.prog 33 #[.string s] w fun e w' => e = .returned (.bool (token s.data.toList)) ∧ w = w' := by
  have he := not_empty s
  go_enter Tryz.func33, Tryz.ntmps33
  cases h : s.data.toList.isEmpty
  · rw [h] at he
    go_wp2_with fail
    refine (all_tok _ hs _).mono ?_
    rintro e w1 ⟨rfl, rfl⟩
    go_wp2_with fail
    go_ret
    exact ⟨by simp [token, h], rfl⟩
  · rw [h] at he
    go_wp2_with fail
    go_ret
    exact ⟨by simp [token, h], rfl⟩
theorem target_any (s : ByteArray) (hs : s.size ≤ 9223372036854775807) (w : World) : Calls Tryz.prog 67 #[.string s] w fun e w' => e = .returned (.bool (target s.data.toList)) ∧ w = w' := by
  have he := not_empty s
  go_enter Tryz.func67, Tryz.ntmps67
  cases h : s.data.toList.isEmpty
  · rw [h] at he
    go_wp2_with fail
    refine (all_tgt _ hs _).mono ?_
    rintro e w1 ⟨rfl, rfl⟩
    go_wp2_with fail
    go_ret
    exact ⟨by simp [target, h], rfl⟩
  · rw [h] at he
    go_wp2_with fail
    go_ret
    exact ⟨by simp [target, h], rfl⟩
theorem value_any (s : ByteArray) (hs : s.size ≤ 9223372036854775807) (w : World) : Calls Tryz.prog 62 #[.string s] w fun e w' => e = .returned (.bool (s.data.toList.all valC)) ∧ w = w' := by
  go_enter Tryz.func62, Tryz.ntmps62
  go_wp2_with fail
  refine (all_val _ hs _).mono ?_
  rintro e w1 ⟨rfl, rfl⟩
  go_wp2_with fail
  go_ret
  exact ⟨by simp, rfl⟩
end Go.Proofs.YtafljoiblfhioaaGreatDoor
