/-
  Fields: Get of the package field.
-/
import Derived.Test.YtafljoiblfhioaaGreatDoorF
namespace Go.Proofs.YtafljoiblfhioaaGreatDoor
open Go.RowKit

def getF (fs : List FD) (name : List UInt8) : List (List UInt8) := (fs.filter (fun p => same p.1 name)).map (·.2)
/-- Texts of a length that the walk takes. -/
def SmallS (ss : List (List UInt8)) : Prop := ss.length ≤ 1000000000 ∧ ∀ s ∈ ss, s.length < 4294967281
def SmallF (fs : List FD) : Prop := fs.length ≤ 1000000 ∧ ∀ p ∈ fs, p.1.length < 4294967281 ∧ p.2.length < 4294967281

theorem getF_take (fs : List FD) (name : List UInt8) (k : Nat) (p : FD) (hp : fs[k]? = some p) : getF (fs.take (k + 1)) name = getF (fs.take k) name ++ (if same p.1 name then [p.2] else []) := by
  unfold getF
  rw [List.take_add_one, hp]
  simp only [Option.toList_some, List.filter_append, List.map_append]
  congr 1
  by_cases h : same p.1 name = true
  · simp [h]
  · simp [h]
theorem getF_len (fs : List FD) (name : List UInt8) : (getF fs name).length ≤ fs.length := by
  simp [getF]
  exact List.length_filter_le _ _
theorem getF_small (fs : List FD) (name : List UInt8) (h : SmallF fs) : SmallS (getF fs name) := by
  refine ⟨Nat.le_trans (getF_len fs name) (by have := h.1; omega), fun s hs => ?_⟩
  obtain ⟨p, hp, rfl⟩ := List.mem_map.1 hs
  exact (h.2 p (List.mem_filter.1 hp).1).2

theorem fld_at {w : World} {A : Option Addr} {fs : List FD} (h : Row w A (fV fs)) (k : Nat) (p : FD) (hp : fs[k]? = some p) :
    ∃ b off, A = some ⟨b, off, none⟩ ∧ b < w.heap.size ∧ w.cell? ⟨b, off + k * 2, none⟩ = some (.string (B p.1)) ∧ w.cell? ⟨b, off + k * 2 + 1, none⟩ = some (.string (B p.2)) := by
  obtain ⟨hp1, hp2⟩ := fV_at fs k p hp
  obtain ⟨b, off, rfl, hb, c0⟩ := h.at_ _ _ hp1
  obtain ⟨b', off', e, _, c1⟩ := h.at_ _ _ hp2
  cases e
  exact ⟨b, off, rfl, hb, c0, c1⟩
theorem str_at {w : World} {A : Option Addr} {ss : List (List UInt8)} (h : Row w A (sV ss)) (k : Nat) (p : List UInt8) (hp : ss[k]? = some p) :
    ∃ b off, A = some ⟨b, off, none⟩ ∧ b < w.heap.size ∧ w.cell? ⟨b, off + k, none⟩ = some (.string (B p)) := h.at_ _ _ (sV_at ss k p hp)
theorem byt_at {w : World} {A : Option Addr} {l : List UInt8} (h : Row w A (bV l)) (k : Nat) (p : UInt8) (hp : l[k]? = some p) :
    ∃ b off, A = some ⟨b, off, none⟩ ∧ b < w.heap.size ∧ w.cell? ⟨b, off + k, none⟩ = some (.int .u8 (p.toNat : Int)) := h.at_ _ _ (bV_at l k p hp)

set_option maxRecDepth 100000 in
set_option maxHeartbeats 1000000 in
theorem get_any (fs : List FD) (name : ByteArray) (A : Option Addr) (c : Nat) (w : World) (hR : Row w A (fV fs)) (hS : SmallF fs) (hn : name.size < 4294967281) :
    Calls Tryz.prog 77 #[.slice A fs.length c, .string name] w fun e w' => ∃ A' c', e = .returned (.slice A' (getF fs name.data.toList).length c') ∧ OwnS w' w.heap.size A' c' (getF fs name.data.toList) ∧ Only (fun _ => False) w w' := by
  obtain ⟨n, hnn⟩ : ∃ n, fs.length = n := ⟨_, rfl⟩
  rw [hnn]
  have hn6 := hS.1
  rw [hnn] at hn6
  replace hnn := hid hnn
  replace hS := hid hS
  go_enter Tryz.func77, Tryz.ntmps77
  go_wp2_with fail
  go_loopw [5, 10] (fun ov iv wr => ∃ (k m : Nat) (A' : Option Addr) (c' : Nat), k ≤ n ∧ ov = .slice A' m c' ∧ iv = .int .i64 (k : Int) ∧ Hid ((getF (fs.take k) name.data.toList).length = m) ∧ OwnS wr w.heap.size A' c' (getF (fs.take k) name.data.toList) ∧ Only (fun _ => False) w wr) (fun _ iv _ => n - (intOf iv).toNat)
  case atStart => exact ⟨0, 0, none, 0, by omega, rfl, rfl, rfl, Own.nil _ _ _ _, Only.refl _ _⟩
  case round =>
    obtain ⟨k, m, A', c', hk, rfl, rfl, hm, HO, O⟩ := hrel
    by_cases hlt : k < n
    · obtain ⟨p, hp⟩ : ∃ p, fs[k]? = some p := ⟨_, List.getElem?_eq_getElem (by rw [hnn.out]; exact hlt)⟩
      obtain ⟨b, off, rfl, hb, c0, c1⟩ := fld_at (hR.same O) k p hp
      have hpm := hS.out.2 p (List.mem_of_getElem? hp)
      have hgt := getF_take fs name.data.toList k p hp
      have hz1 : (B p.1).size ≤ 9223372036854775807 := by simp [ByteArray.size]; omega
      replace hpm := hid hpm
      replace hgt := hid hgt
      go_wp2_with fail
      refine (same_any _ _ hz1 (by omega) _).mono ?_
      rintro e w2 ⟨rfl, O2⟩
      rw [show (B p.1).data.toList = p.1 from rfl]
      have O1 : Only (fun _ => False) wr (wr.alloc (.cells #[.string (B p.1), .string (B p.2)] 39)) := (Only.refl _ wr).alloc _
      have hf := O2.keep (b_new wr (.cells #[.string (B p.1), .string (B p.2)] 39)) (fun h => h)
      have d1 : w2.cell? ⟨wr.heap.size, 1, none⟩ = some (.string (B p.2)) := b_cell hf 1
      have O12 := O1.trans O2
      have HO2 := hid (Own.same HO O12)
      have hs2 := Nat.le_trans O.size O12.size
      clear hf O1 O2
      cases hsm : same p.1 name.data.toList
      · have hgt' : getF (fs.take (k + 1)) name.data.toList = getF (fs.take k) name.data.toList := by rw [hgt.out, hsm]; simp
        replace hsm := hid hsm
        go_wp2_with fail
        go_roundw
        case rel => exact ⟨k + 1, m, A', c', by omega, rfl, by simp, by unfold Hid; rw [hgt']; exact hm.out, by rw [hgt']; exact HO2.out, O.trans O12⟩
        case measure => simp [intOf]; omega
      · have hgt' : getF (fs.take (k + 1)) name.data.toList = getF (fs.take k) name.data.toList ++ [(B p.2).data.toList] := by rw [hgt.out, hsm]; rfl
        have hml : m ≤ k := by
          rw [← hm.out]
          refine Nat.le_trans (getF_len _ _) ?_
          simp
          omega
        replace hsm := hid hsm
        replace hgt' := hid hgt'
        go_wp2_with (first | (at_builtin; refine app_s rfl _ _ rfl w.heap.size m c' A' _ (B p.2) hm.out rfl rfl HO2.out hs2 (by omega) ?_; intro A3 c3 w3 h3 h3' o3) | fail)
        have hbl := HO2.out.blk
        have O3 := (O.trans O12).trans' o3 (fun i hi => .inr (hbl i hi).1)
        go_roundw
        case rel => exact ⟨k + 1, m + 1, A3, c3, by omega, rfl, by simp, hid (by rw [hgt'.out, List.length_append, hm.out]; rfl), by rw [hgt'.out]; exact h3.out, O3⟩
        case measure => simp [intOf]; omega
    · have hk' : k = n := by omega
      subst hk'
      have hfull : getF (fs.take k) name.data.toList = getF fs name.data.toList := by rw [List.take_of_length_le (by rw [hnn.out]; exact Nat.le_refl _)]
      rw [hfull] at hm HO
      clear hfull
      go_wp2_with fail
      go_ret
      exact ⟨A', c', by rw [hm.out]; rfl, HO, O⟩
end Go.Proofs.YtafljoiblfhioaaGreatDoor
