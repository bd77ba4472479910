/-
  Host of the package line; hosts of the package http.
-/
import Derived.Test.YtafljoiblfhioaaGreatDoorI
import Derived.Laws.RangeAny
import Derived.Laws.Slices
import Derived.Laws.Strings3
namespace Go.Proofs.YtafljoiblfhioaaGreatDoor
open Go.RowKit

def digs : List UInt8 := [48, 49, 50, 51, 52, 53, 54, 55, 56, 57]
def hostCut (l : List UInt8) : List UInt8 :=
  if 0 ≤ Lib.lastIndexByte (B l) 58 ∧ (Lib.trimS (l.drop ((Lib.lastIndexByte (B l) 58).toNat + 1)) digs).isEmpty = true then l.take (Lib.lastIndexByte (B l) 58).toNat else l
def hostC (c : UInt8) : Bool := (48 ≤ c && c ≤ 57) || (97 ≤ c && c ≤ 122) || c == 45 || c == 46
def hostF (l : List UInt8) : List UInt8 × Bool :=
  let s := hostCut (fold l)
  if s.isEmpty || decide (64 < s.length) || !s.all hostC then ([], false) else (s, true)

theorem hostC_spec (c : UInt8) : hostC c = true ↔ ((48 ≤ (c.toNat : Int) ∧ (c.toNat : Int) ≤ 57) ∨ (97 ≤ (c.toNat : Int) ∧ (c.toNat : Int) ≤ 122) ∨ (c.toNat : Int) = 45 ∨ (c.toNat : Int) = 46) := by
  unfold hostC
  simp only [Bool.or_eq_true, Bool.and_eq_true, decide_eq_true_eq, UInt8.le_iff_toNat_le, beq_iff_eq, ← UInt8.toNat_inj]
  have h1 : (48 : UInt8).toNat = 48 := rfl
  have h2 : (57 : UInt8).toNat = 57 := rfl
  have h3 : (97 : UInt8).toNat = 97 := rfl
  have h4 : (122 : UInt8).toNat = 122 := rfl
  have h5 : (45 : UInt8).toNat = 45 := rfl
  have h6 : (46 : UInt8).toNat = 46 := rfl
  rw [h1, h2, h3, h4, h5, h6]
  omega

set_option maxRecDepth 100000 in
set_option maxHeartbeats 1000000 in
theorem host_any (s : ByteArray) (hs : s.size < 4294967281) (w : World) :
    Calls Tryz.prog 78 #[.string s] w fun e w' => e = .returned (.tuple #[.string (B (hostF s.data.toList).1), .bool (hostF s.data.toList).2]) ∧ Only (fun _ => False) w w' := by
  have hF : hostF s.data.toList = (if (hostCut (fold s.data.toList)).isEmpty || decide (64 < (hostCut (fold s.data.toList)).length) || !(hostCut (fold s.data.toList)).all hostC then ([], false) else (hostCut (fold s.data.toList), true)) := rfl
  replace hF := hid hF
  go_enter Tryz.func78, Tryz.ntmps78
  go_wp2_with fail
  refine (fold_any s (by omega) w).mono ?_
  rintro e w1 ⟨rfl, O1⟩
  have hfl : (fold s.data.toList).length = s.size := by simp [fold]
  obtain ⟨l, hl⟩ : ∃ l, fold s.data.toList = l := ⟨_, rfl⟩
  rw [hl] at hF hfl ⊢
  clear hl
  have hls : (B l).size = l.length := rfl
  have hlen : l.length < 4294967281 := by omega
  replace hfl := hid hfl
  go_wp2_with fail
  refine (Tryz.strings_LastIndexByte (B l) 58 (by rw [hls]; omega) w1).mono ?_
  rintro e w2 ⟨rfl, rfl⟩
  have hcut : hostCut l = (if 0 ≤ Lib.lastIndexByte (B l) 58 ∧ (Lib.trimS (l.drop ((Lib.lastIndexByte (B l) 58).toNat + 1)) digs).isEmpty = true then l.take (Lib.lastIndexByte (B l) 58).toNat else l) := rfl
  rcases Lib.lastIndexByte_spec (B l) 58 with ⟨hi, hno⟩ | ⟨i, hi1, hi, hno⟩
  case' inl =>
    clear hno
    rw [hi] at hcut ⊢
    have hcut' : Hid (hostCut l = (B l).data.toList) := hid (by rw [hcut]; simp)
    have hsz : (B l).size ≤ l.length := Nat.le_refl _
    clear hcut hi hls
    obtain ⟨s2, hs2⟩ : ∃ s2, B l = s2 := ⟨_, rfl⟩
    rw [hs2] at hcut' hsz ⊢
    clear hs2
    generalize w2 = w3 at O1 ⊢
    have O2 := O1
    clear O1
    go_upto_region 5 with (fail)
  case' inr =>
    clear hno
    rw [hls] at hi1
    rw [hi] at hcut ⊢
    have he : ((B l).extract (i + 1) l.length).data.toList = l.drop (i + 1) := by
      rw [ByteArray.data_extract, Array.toList_extract, List.extract_eq_take_drop]
      show List.take _ (List.drop (i + 1) l) = _
      rw [List.take_of_length_le (by simp)]
    have he2 : ((B l).extract 0 i).data.toList = l.take i := by
      rw [ByteArray.data_extract, Array.toList_extract, List.extract_eq_take_drop]
      rfl
    have he3 : ((B l).extract 0 i).size = i := by
      rw [ByteArray.size_extract, hls]; omega
    have het := empty_list (Lib.trimS (l.drop (i + 1)) digs)
    have hzz : ((B l).extract (i + 1) l.length).size ≤ 9223372036854775807 := by rw [ByteArray.size_extract, hls]; omega
    simp only [Int.toNat_natCast] at hcut
    replace he2 := hid he2
    replace he3 := hid he3
    replace he := hid he
    cases htr : (Lib.trimS (l.drop (i + 1)) digs).isEmpty
    case' false =>
      have hcut' : Hid (hostCut l = (B l).data.toList) := hid (by rw [hcut, if_neg]; rw [htr]; simp)
      rw [htr] at het
      clear hcut hi
      replace htr := hid htr
      go_wp2_with fail
      refine (Any.strings_Trim_laid Tryz.lays160 (by kernel_rfl) _ ⟨#[48, 49, 50, 51, 52, 53, 54, 55, 56, 57]⟩ w2 hzz (by decide) (ascii_of_all (by decide))).mono ?_
      rintro e w3 ⟨rfl, O2'⟩
      rw [he.out, show (⟨#[48, 49, 50, 51, 52, 53, 54, 55, 56, 57]⟩ : ByteArray).data.toList = digs from rfl]
      have O2 := O1.trans (Only.of_below (S := fun _ => False) O2')
      clear O1 O2'
      go_upto_region 5 with (fail)
      have hsz : (B l).size ≤ l.length := Nat.le_refl _
      replace hcut' : Hid (hostCut l = (B l).data.toList) := hcut'
      clear hls het hzz he he2 he3 htr
      obtain ⟨s2, hs2⟩ : ∃ s2, B l = s2 := ⟨_, rfl⟩
      rw [hs2] at hcut' hsz ⊢
      clear hs2
    case' true =>
      have hcut' : Hid (hostCut l = ((B l).extract 0 i).data.toList) := hid (by rw [hcut, if_pos ⟨by omega, htr⟩, he2.out])
      have hsz : ((B l).extract 0 i).size ≤ l.length := by rw [he3.out]; omega
      obtain ⟨s2, hs2⟩ : ∃ s2, (B l).extract 0 i = s2 := ⟨_, rfl⟩
      rw [hs2] at hcut' hsz
      rw [htr] at het
      clear hcut hi
      replace htr := hid htr
      go_wp2_with fail
      refine (Any.strings_Trim_laid Tryz.lays160 (by kernel_rfl) _ ⟨#[48, 49, 50, 51, 52, 53, 54, 55, 56, 57]⟩ w2 hzz (by decide) (ascii_of_all (by decide))).mono ?_
      rintro e w3 ⟨rfl, O2'⟩
      rw [he.out, show (⟨#[48, 49, 50, 51, 52, 53, 54, 55, 56, 57]⟩ : ByteArray).data.toList = digs from rfl]
      have O2 := O1.trans (Only.of_below (S := fun _ => False) O2')
      clear O1 O2'
      go_upto_region 5 with (fail)
      clear hls het hzz he he2 he3 htr hs2
  all_goals
    have hne := not_empty s2
    have hs2l : s2.data.toList.length = s2.size := by simp
    replace hs2l := hid hs2l
    cases hE : s2.data.toList.isEmpty
    case' true =>
      have hres : Hid (hostF s.data.toList = ([], false)) := hid (by rw [hF.out, hcut'.out, hE]; rfl)
      rw [hE] at hne
      replace hE := hid hE
      go_wp2_with fail
      go_ret2
      exact ⟨by rw [hres.out]; rfl, O2⟩
    case' false =>
    rw [hE] at hne
    by_cases h64 : 64 < (s2.size : Int)
    case pos =>
      have hres : Hid (hostF s.data.toList = ([], false)) := hid (by
        rw [hF.out, hcut'.out, hE, hs2l.out]
        have : decide (64 < s2.size) = true := decide_eq_true (by omega)
        rw [this]
        rfl)
      replace hE := hid hE
      go_wp2_with fail
      go_ret2
      exact ⟨by rw [hres.out]; rfl, O2⟩
    case' neg =>
      have hF2 : Hid (hostF s.data.toList = if s2.data.toList.all hostC then (s2.data.toList, true) else ([], false)) := hid (by
        rw [hF.out, hcut'.out, hE, hs2l.out]
        have : decide (64 < s2.size) = false := decide_eq_false (by omega)
        rw [this]
        cases s2.data.toList.all hostC <;> rfl)
      replace hE := hid hE
      clear hF hcut' hsz
      go_wp2_with fail
  all_goals
    have O3 : ∀ pos, Only (fun _ => False) w (w3.iter s2 pos) := fun pos => O2.alloc _
    replace O3 := hid O3
    go_loopw [6] (fun _ w' => ∃ pos, pos ≤ s2.size ∧ w' = w3.iter s2 pos ∧ Hid (∀ i, i < pos → ∀ c, s2.data.toList[i]? = some c → hostC c = true)) (fun _ w' => s2.size - w'.iterPos w3.heap.size)
    case atStart => exact ⟨0, by omega, rfl, hid (by omega)⟩
    case round =>
      obtain ⟨pos, hpos, rfl, hall⟩ := hrel
      by_cases hlt : pos < s2.size
      · by_cases ha : (s2[pos]'hlt).toNat < 128
        · have hnx : ∀ ty, (Instr.next (.pointer (some ⟨w3.heap.size, 0, none⟩)) true ty).run Tryz.prog (w3.iter s2 pos) = _ := fun ty => run_next_ascii w3 s2 pos ty hlt ha
          have hsp := hostC_spec (s2[pos]'hlt)
          have hat := at_str s2 pos hlt
          generalize s2[pos]'hlt = c at hnx hsp hat ha
          replace hat := hid hat
          cases hC : hostC c
          · have hno : Hid (s2.data.toList.all hostC = false) := hid (all_not hostC _ pos c hat.out hC)
            rw [hC] at hsp
            have hn : (c.toNat : Int) < 45 ∨ (c.toNat : Int) = 47 ∨ (57 < (c.toNat : Int) ∧ (c.toNat : Int) < 97) ∨ 122 < (c.toNat : Int) := by
              have hq : ¬ ((48 ≤ (c.toNat : Int) ∧ (c.toNat : Int) ≤ 57) ∨ (97 ≤ (c.toNat : Int) ∧ (c.toNat : Int) ≤ 122) ∨ (c.toNat : Int) = 45 ∨ (c.toNat : Int) = 46) := fun h => Bool.false_ne_true (hsp.2 h)
              omega
            clear hsp hC
            generalize (c.toNat : Int) = n at *
            have e1 : (n != 45) = true := by simp; omega
            have e2 : (n != 46) = true := by simp; omega
            rcases hn with hn | hn | ⟨hn1, hn2⟩ | hn
            all_goals
              go_wp2_with fail
              go_ret2
              exact ⟨by rw [hF2.out, hno.out]; rfl, O3.out _⟩
          · have hyes : Hid (∀ i, i < pos + 1 → ∀ c, s2.data.toList[i]? = some c → hostC c = true) := hid (by
              intro i hi c' hc'
              by_cases hip : i = pos
              · subst hip
                rw [hat.out] at hc'
                cases hc'
                exact hC
              · exact hall.out i (by omega) c' hc')
            have hn := hsp.1 hC
            clear hsp hC
            generalize (c.toNat : Int) = n at *
            rcases hn with ⟨hn1, hn2⟩ | ⟨hn1, hn2⟩ | rfl | rfl
            all_goals
              go_wp2_with fail
              go_roundw
              case rel => exact ⟨pos + 1, by omega, rfl, hyes⟩
              case measure => simp; omega
        · have hnx : ∀ ty, (Instr.next (.pointer (some ⟨w3.heap.size, 0, none⟩)) true ty).run Tryz.prog (w3.iter s2 pos) = _ := fun ty => run_next_any w3 s2 pos ty hlt
          have hn := (decode_high s2 pos hlt (by omega)).1
          have hsp := hostC_spec (s2[pos]'hlt)
          have hno : Hid (s2.data.toList.all hostC = false) := hid (all_not hostC _ pos _ (at_str s2 pos hlt) (by
            cases hC : hostC (s2[pos]'hlt) with
            | false => rfl
            | true => rw [hC] at hsp; have := hsp.1 rfl; omega))
          have hn' : 128 ≤ ((Utf8.decode s2 pos).1 : Int) := by omega
          clear hn hsp ha
          generalize ((Utf8.decode s2 pos).1 : Int) = n at *
          have e1 : (n != 45) = true := by simp; omega
          have e2 : (n != 46) = true := by simp; omega
          go_wp2_with fail
          go_ret2
          exact ⟨by rw [hF2.out, hno.out]; rfl, O3.out _⟩
      · have hnx : ∀ ty, (Instr.next (.pointer (some ⟨w3.heap.size, 0, none⟩)) true ty).run Tryz.prog (w3.iter s2 pos) = _ := fun ty => run_next_end w3 s2 pos ty hlt
        have hyes : Hid (s2.data.toList.all hostC = true) := hid (all_upto hostC _ pos hall.out (by rw [hs2l.out]; omega))
        go_wp2_with fail
        go_ret2
        exact ⟨by rw [hF2.out, hyes.out]; rfl, O3.out _⟩
end Go.Proofs.YtafljoiblfhioaaGreatDoor
