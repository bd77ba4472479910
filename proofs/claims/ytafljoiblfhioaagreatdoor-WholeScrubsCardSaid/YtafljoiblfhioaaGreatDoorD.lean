/-
  Fields: right, Line of the package field.
-/
import Derived.Test.YtafljoiblfhioaaGreatDoorC
import Derived.Deep.RegionHeld3
import Derived.BigQuiet
import Derived.Laws.ResultCell
namespace Go.Proofs.YtafljoiblfhioaaGreatDoor
open Go.RowKit

def right (n v : List UInt8) : Bool := decide (n.length ≤ 100) && (token n && (decide (v.length ≤ 1000) && (v.all valC && (trim v == v))))

set_option maxRecDepth 100000 in
set_option maxHeartbeats 1000000 in
theorem right_any (n v : ByteArray) (w : World) : Calls Tryz.prog 32 #[.agg #[.string n, .string v]] w fun e w' => e = .returned (.bool (right n.data.toList v.data.toList)) ∧ Only (fun _ => False) w w' := by
  obtain ⟨wb, hwb⟩ : ∃ wb, w.alloc (.cells #[.string n, .string v] 39) = wb := ⟨_, rfl⟩
  have O0 : Only (fun _ => False) w wb := by rw [← hwb]; exact (Only.refl _ w).alloc _
  have hb : wb.heap[w.heap.size]? = some (.cells #[.string n, .string v] 39) := by rw [← hwb]; exact b_new _ _
  have hwl := b_lt hb
  have c0 := b_cell hb 0
  have c1 := b_cell hb 1
  simp only [List.getElem?_toArray, List.getElem?_cons_zero, List.getElem?_cons_succ] at c0 c1
  obtain ⟨g, hg⟩ : ∃ g, w.heap.size = g := ⟨_, rfl⟩
  rw [hg] at hb c0 c1 hwl
  have hQ : right n.data.toList v.data.toList = (decide (n.data.toList.length ≤ 100) && (token n.data.toList && (decide (v.data.toList.length ≤ 1000) && (v.data.toList.all valC && (trim v.data.toList == v.data.toList))))) := rfl
  rw [show n.data.toList.length = n.size by simp, show v.data.toList.length = v.size by simp] at hQ
  rw [show decide (n.size ≤ 100) = decide ((n.size : Int) ≤ 100) from decide_eq_decide.2 (by omega), show decide (v.size ≤ 1000) = decide ((v.size : Int) ≤ 1000) from decide_eq_decide.2 (by omega)] at hQ
  replace hQ := hid hQ
  go_enter Tryz.func32, Tryz.ntmps32
  go_upto_region 1 with (fail)
  clear hwb hg
  cases d1 : decide ((n.size : Int) ≤ 100)
  · go_quiet (fail)
    go_wp2_with fail
    go_ret
    refine ⟨?_, O0.drewN nq⟩
    rw [hQ.out]
    simp only [d1, Bool.false_and]
    rfl
  have hs1 : n.size ≤ 9223372036854775807 := by have := of_decide_eq_true d1; omega
  cases d2 : token n.data.toList
  · go_quiet ((go_at_call 33; exact Calls.quiet_of_same ((token_any n hs1 _).mono fun _ _ ⟨h1, h2⟩ => ⟨h1, h2.symm⟩)))
    go_wp2_with fail
    go_ret
    refine ⟨?_, O0.drewN nq⟩
    rw [hQ.out]
    simp only [d1, d2, Bool.false_and, Bool.true_and]
    rfl
  cases d3 : decide ((v.size : Int) ≤ 1000)
  · go_quiet ((go_at_call 33; exact Calls.quiet_of_same ((token_any n hs1 _).mono fun _ _ ⟨h1, h2⟩ => ⟨h1, h2.symm⟩)))
    go_wp2_with fail
    go_ret
    refine ⟨?_, O0.drewN nq⟩
    rw [hQ.out]
    simp only [d1, d2, d3, Bool.false_and, Bool.true_and]
    rfl
  have hs2 : v.size ≤ 9223372036854775807 := by have := of_decide_eq_true d3; omega
  cases d4 : v.data.toList.all valC
  · go_quiet ((first | (go_at_call 33; exact Calls.quiet_of_same ((token_any n hs1 _).mono fun _ _ ⟨h1, h2⟩ => ⟨h1, h2.symm⟩)) | (go_at_call 62; exact Calls.quiet_of_same ((value_any v hs2 _).mono fun _ _ ⟨h1, h2⟩ => ⟨h1, h2.symm⟩))))
    go_wp2_with fail
    go_ret
    refine ⟨?_, O0.drewN nq⟩
    rw [hQ.out]
    simp only [d1, d2, d3, d4, Bool.false_and, Bool.true_and]
    rfl
  replace hQ := hQ.out
  simp only [d1, d2, d3, d4, Bool.true_and] at hQ
  replace hQ := hid hQ
  go_region_held3 (fun w' => w'.cell? ⟨g, 0, none⟩ = some (.string n) ∧ w'.cell? ⟨g, 1, none⟩ = some (.string v)) (go_keep)
    (first
      | (go_at_call 33; refine (token_any n hs1 _).mono ?_; rintro e w1 ⟨rfl, rfl⟩; rw [d2])
      | (go_at_call 62; refine (value_any v hs2 _).mono ?_; rintro e w1 ⟨rfl, rfl⟩; rw [d4])
      | (go_at_call 31; refine (trim_any v hs2 _).mono ?_; rintro e w1 ⟨rfl, o1⟩; have o2 : Only (fun _ => False) wb w1 := ⟨o1.os, o1.tape, o1.output, o1.size, o1.block⟩; have e0 := (o2.cell (p := ⟨g, 0, none⟩) hwl (fun h => h)).trans c0; have e1 := (o2.cell (p := ⟨g, 1, none⟩) hwl (fun h => h)).trans c1))
  go_wp2_with fail
  go_ret
  refine ⟨?_, O0.trans o2⟩
  rw [hQ.out, ByteArray.toList_eq]
  rfl
end Go.Proofs.YtafljoiblfhioaaGreatDoor
