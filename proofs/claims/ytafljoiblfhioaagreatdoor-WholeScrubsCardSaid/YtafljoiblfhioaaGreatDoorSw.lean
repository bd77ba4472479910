/-
  set, up of the package conf; Name of the package table.
-/
import Derived.Test.YtafljoiblfhioaaGreatDoorSv
namespace Go.Proofs.YtafljoiblfhioaaGreatDoor
open Go.RowKit

set_option maxRecDepth 100000 in
theorem set_any (n v : ByteArray) (hn : n.size ≤ 9223372036854775807) (w : World) : Calls Tryz.prog 42 #[.agg #[.string n, .string v]] w fun e w' => e = .returned (.bool (setF (n.data.toList, v.data.toList))) ∧ Only (fun _ => False) w w' := by
  have hF : setF (n.data.toList, v.data.toList) = (right n.data.toList v.data.toList && !keptF n.data.toList) := rfl
  have hk := fun w => kept_any n hn w
  have hr := fun (W : World) (A : Option Addr) (hR : Row W A (fV [(n.data.toList, v.data.toList)])) => right_all [(n.data.toList, v.data.toList)] A 1 W hR (by simp)
  rw [show [(n.data.toList, v.data.toList)].all (fun p => right p.1 p.2) = right n.data.toList v.data.toList by simp] at hr
  obtain ⟨b, hb⟩ : ∃ b, right n.data.toList v.data.toList = b := ⟨_, rfl⟩
  rw [hb] at hF hr
  clear hb
  obtain ⟨b2, hb2⟩ : ∃ b, keptF n.data.toList = b := ⟨_, rfl⟩
  rw [hb2] at hF hk
  clear hb2
  replace hF := hid hF
  go_enter Tryz.func42, Tryz.ntmps42
  go_upto_region 1 with (fail)
  have H := b_new w (.cells #[.string n, .string v] 39)
  have OA := (Only.refl (fun _ => False) w).alloc (.cells #[.string n, .string v] 39)
  generalize w.alloc (.cells #[.string n, .string v] 39) = w1 at *
  obtain ⟨c0, c1, _, _⟩ := cells2 H
  have H2 := b_new w1 (.cells #[.string n, .string v] 39)
  have HR : Row (w1.alloc (.cells #[.string n, .string v] 39)) (some ⟨w1.heap.size, 0, none⟩) (fV [(n.data.toList, v.data.toList)]) := by
    intro _
    refine ⟨w1.heap.size, 0, rfl, b_lt H2, fun j u hu => ?_⟩
    rw [b_cell H2, Nat.zero_add]
    simpa [fV] using hu
  have hr' := hr _ _ HR
  clear hr HR H2
  go_wp2_with fail
  refine hr'.mono ?_
  rintro e w2 ⟨rfl, O2⟩
  clear hr'
  have O1 := (Only.refl (fun _ => False) w1).alloc (.cells #[.string n, .string v] 39)
  have H3 := (O1.trans O2).keep H (fun h => h)
  have O := OA.trans (O1.trans O2)
  clear O1 O2 OA c0 c1 H
  obtain ⟨c0, c1, _, _⟩ := cells2 H3
  cases b
  · go_wp2_with fail
    go_ret
    exact ⟨by rw [hF.out]; rfl, O⟩
  · go_wp2_with fail
    refine (hk _).mono ?_
    rintro e w3 ⟨rfl, O3⟩
    clear hk
    go_wp2_with fail
    go_ret
    exact ⟨by rw [hF.out]; simp, O.trans O3⟩

theorem nameC_spec (c : UInt8) : nameC c = true ↔ ((97 ≤ (c.toNat : Int) ∧ (c.toNat : Int) ≤ 122) ∨ (48 ≤ (c.toNat : Int) ∧ (c.toNat : Int) ≤ 57) ∨ (c.toNat : Int) = 45) := by
  unfold nameC
  simp only [Bool.or_eq_true, Bool.and_eq_true, decide_eq_true_eq, beq_iff_eq, UInt8.le_iff_toNat_le, ← UInt8.toNat_inj]
  rw [show (97 : UInt8).toNat = 97 from rfl, show (122 : UInt8).toNat = 122 from rfl, show (48 : UInt8).toNat = 48 from rfl, show (57 : UInt8).toNat = 57 from rfl, show (45 : UInt8).toNat = 45 from rfl]
  omega
set_option maxRecDepth 100000 in
set_option maxHeartbeats 1000000 in
theorem name_any (s : ByteArray) (hs : s.size ≤ 9223372036854775807) (w : World) : Calls Tryz.prog 71 #[.string s] w fun e w' => e = .returned (.bool (nameF s.data.toList)) ∧ w = w' := by
  by_cases h0 : s.size = 0
  · have hF : nameF s.data.toList = false := by
      rw [List.eq_nil_of_length_eq_zero (show s.data.toList.length = 0 by simpa using h0)]
      rfl
    have he : (s.toList == ([] : List UInt8)) = true := by rw [not_empty, List.isEmpty_iff, ← List.length_eq_zero_iff]; simpa using h0
    replace hF := hid hF
    go_enter Tryz.func71, Tryz.ntmps71
    go_wp2_with fail
    go_ret
    exact ⟨by rw [hF.out]; rfl, rfl⟩
  have hpos : 0 < s.size := by omega
  have hc0 := at_str s 0 hpos
  have he : (s.toList == ([] : List UInt8)) = false := by
    rw [not_empty, List.isEmpty_eq_false_iff, ← List.length_pos_iff]
    simpa using hpos
  have hF : nameF s.data.toList = (decide (s.size ≤ 30) && (((97 : UInt8) ≤ s[0]'hpos && s[0]'hpos ≤ 122) && s.data.toList.all nameC)) := by
    have hl : s.data.toList.length = s.size := by simp
    cases hd : s.data.toList with
    | nil => rw [hd] at hc0; cases hc0
    | cons a t =>
      rw [hd] at hc0 hl
      simp only [List.getElem?_cons_zero, Option.some.injEq] at hc0
      rw [hc0] at hl ⊢
      unfold nameF
      simp only
      rw [hl]
  replace hF := hid hF
  clear hc0
  have hle : ∀ c : UInt8, (97 ≤ c ↔ 97 ≤ (c.toNat : Int)) ∧ (c ≤ 122 ↔ (c.toNat : Int) ≤ 122) := fun c => by
    rw [UInt8.le_iff_toNat_le, UInt8.le_iff_toNat_le, show (97 : UInt8).toNat = 97 from rfl, show (122 : UInt8).toNat = 122 from rfl]
    omega
  have hl0 := hle (s[0]'hpos)
  clear hle
  replace hl0 := hid hl0
  go_enter Tryz.func71, Tryz.ntmps71
  by_cases h1 : s.size ≤ 30
  · by_cases h2 : (97 : Int) ≤ (s[0].toNat : Int)
    · by_cases h3 : (s[0].toNat : Int) ≤ 122
      · go_wp2_with fail
        go_loopw [24] (fun iv wr => ∃ k : Nat, k ≤ s.size ∧ iv = .int .i64 (k : Int) ∧ wr = w ∧ Hid (∀ i, i < k → ∀ c, s.data.toList[i]? = some c → nameC c = true)) (fun iv _ => s.size - (intOf iv).toNat)
        case atStart => exact ⟨0, by omega, rfl, rfl, hid (by omega)⟩
        case round =>
          obtain ⟨k, hk, rfl, rfl, hx⟩ := hrel
          by_cases hlt : k < s.size
          · have hck := at_str s k hlt
            obtain ⟨c, hc⟩ : ∃ c, s[k] = c := ⟨_, rfl⟩
            rw [hc] at hck
            have hsp := nameC_spec c
            replace hck := hid hck
            cases hb : nameC c
            · rw [hb] at hsp
              have hn : ¬ ((97 ≤ (c.toNat : Int) ∧ (c.toNat : Int) ≤ 122) ∨ (48 ≤ (c.toNat : Int) ∧ (c.toNat : Int) ≤ 57) ∨ (c.toNat : Int) = 45) := fun h => by cases hsp.2 h
              clear hsp
              have hall : Hid (s.data.toList.all nameC = false) := hid (all_not nameC _ k c hck.out hb)
              replace hb := hid hb
              have hbr : ((c.toNat : Int) < 45 ∨ (45 < (c.toNat : Int) ∧ (c.toNat : Int) < 48)) ∨ (57 < (c.toNat : Int) ∧ (c.toNat : Int) < 97) ∨ 122 < (c.toNat : Int) := by omega
              clear hn
              rcases hbr with (q | ⟨q, q'⟩) | ⟨q, q'⟩ | q
              · go_wp2_with fail
                go_ret
                exact ⟨by rw [hF.out, hall.out]; simp, rfl⟩
              · go_wp2_with fail
                go_ret
                exact ⟨by rw [hF.out, hall.out]; simp, rfl⟩
              · go_wp2_with fail
                go_ret
                exact ⟨by rw [hF.out, hall.out]; simp, rfl⟩
              · have q45 : ((c.toNat : Int) != 45) = true := by rw [bne_iff_ne]; omega
                go_wp2_with fail
                go_ret
                exact ⟨by rw [hF.out, hall.out]; simp, rfl⟩
            · have hbr := hsp.1 hb
              have hx' : Hid (∀ i, i < k + 1 → ∀ c, s.data.toList[i]? = some c → nameC c = true) := hid (by
                intro i hi d hd
                by_cases hik : i = k
                · subst hik
                  rw [hck.out] at hd
                  cases hd
                  exact hb
                · exact hx.out i (by omega) d hd)
              clear hsp
              replace hb := hid hb
              rcases hbr with ⟨q, q'⟩ | ⟨q, q'⟩ | q
              · go_wp2_with fail
                go_roundw
                case rel => exact ⟨k + 1, by omega, by simp, by first | rfl | trivial, hx'⟩
                case measure => simp [intOf]; omega
              · go_wp2_with fail
                go_roundw
                case rel => exact ⟨k + 1, by omega, by simp, by first | rfl | trivial, hx'⟩
                case measure => simp [intOf]; omega
              · go_wp2_with fail
                go_roundw
                case rel => exact ⟨k + 1, by omega, by simp, by first | rfl | trivial, hx'⟩
                case measure => simp [intOf]; omega
          · have hall : Hid (s.data.toList.all nameC = true) := hid (all_upto nameC _ k hx.out (by simpa using (show s.size ≤ k by omega)))
            go_wp2_with fail
            go_ret
            exact ⟨by rw [hF.out, hall.out, decide_eq_true h1, decide_eq_true (hl0.out.1.2 h2), decide_eq_true (hl0.out.2.2 h3)]; rfl, rfl⟩
      · have hz : Hid (decide (s[0]'hpos ≤ 122) = false) := hid (decide_eq_false (fun h => by have := hl0.out.2.1 h; omega))
        go_wp2_with fail
        go_ret
        exact ⟨by rw [hF.out, hz.out]; simp, rfl⟩
    · have hz : Hid (decide ((97 : UInt8) ≤ s[0]'hpos) = false) := hid (decide_eq_false (fun h => by have := hl0.out.1.1 h; omega))
      go_wp2_with fail
      go_ret
      exact ⟨by rw [hF.out, hz.out]; simp, rfl⟩
  · go_wp2_with fail
    go_ret
    exact ⟨by rw [hF.out, decide_eq_false h1]; rfl, rfl⟩

set_option maxRecDepth 100000 in
theorem up_any (u : UpM) (h1 : u.1.1.length ≤ 9223372036854775807) (h2 : u.1.2.length ≤ 9223372036854775807) (h3 : ∀ s ∈ u.1.2, s.length ≤ 9223372036854775807) (w : World) (hR : Row w u.2.1 (sV u.1.2)) :
    Calls Tryz.prog 40 #[.agg #[.string (B u.1.1), .slice u.2.1 u.1.2.length u.2.2]] w fun e w' => e = .returned (.bool (upF u.1)) ∧ Only (fun _ => False) w w' := by
  have hF : upF u.1 = (nameF u.1.1 && !u.1.2.any aimBad) := rfl
  have hn := fun w => name_any (B u.1.1) (by simpa [ByteArray.size] using h1) w
  rw [show (B u.1.1).data.toList = u.1.1 from rfl] at hn
  have hc := fun W (o : Only (fun _ => False) w W) => contains_str0 72 up1_enters aimBad u.1.2 u.2.1 u.2.2 W (hR.same o) h2 (fun s hs W _ => up1_any (B s) (by simpa [ByteArray.size] using h3 s hs) W)
  obtain ⟨b, hb⟩ : ∃ b, nameF u.1.1 = b := ⟨_, rfl⟩
  rw [hb] at hF hn
  clear hb
  obtain ⟨b2, hb2⟩ : ∃ b, u.1.2.any aimBad = b := ⟨_, rfl⟩
  rw [hb2] at hF hc
  clear hb2
  obtain ⟨n, hnn⟩ : ∃ n, u.1.2.length = n := ⟨_, rfl⟩
  rw [hnn] at hc ⊢
  clear hnn h2
  replace hF := hid hF
  go_enter Tryz.func40, Tryz.ntmps40
  go_upto_region 1 with (fail)
  have H := b_new w (.cells #[.string (B u.1.1), .slice u.2.1 n u.2.2] 52)
  have OA := (Only.refl (fun _ => False) w).alloc (.cells #[.string (B u.1.1), .slice u.2.1 n u.2.2] 52)
  generalize w.alloc (.cells #[.string (B u.1.1), .slice u.2.1 n u.2.2] 52) = w1 at *
  obtain ⟨c0, c1, _, _⟩ := cells2 H
  go_wp2_with fail
  refine (hn _).mono ?_
  rintro e w2 ⟨rfl, rfl⟩
  clear hn
  cases b
  · go_wp2_with fail
    go_ret
    exact ⟨by rw [hF.out]; rfl, OA⟩
  · have hc' := hc _ OA
    clear hc
    go_wp2_with fail
    refine hc'.mono ?_
    rintro e w3 ⟨rfl, O3⟩
    clear hc'
    go_wp2_with fail
    go_ret
    exact ⟨by rw [hF.out]; simp, OA.trans O3⟩
end Go.Proofs.YtafljoiblfhioaaGreatDoor
