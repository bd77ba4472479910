/-
  Parse and Right of the package field.
-/
import Derived.Test.YtafljoiblfhioaaGreatDoorT
import Derived.Deep.RegionHeld3
namespace Go.Proofs.YtafljoiblfhioaaGreatDoor
open Go.RowKit

def parseV (l : List UInt8) : FD × Int := match parseF l with
  | none => (([], []), 20)
  | some p => (p, 0)
theorem load_fld {W : World} {g : Nat} {t : TypeId} {fr : Nat × Nat} {a b : Value} (h : W.heap[g]? = some (.cells #[a, b] t fr)) : (loadVar 39 ⟨g, 0, none⟩).run Tryz.prog W = .ok (.agg #[a, b]) W :=
  run_loadVar_row W g t _ _ fr _ h Tryz.underlying39 rfl (by kernel_rfl)
theorem ret_fld1 {fn : Func} {R : Ending → World → Prop} {tmps : Array Value} {W : World} (hf : fn.results = #[.cell 2 39, .tmp 3]) {g : Nat} {t : TypeId} {fr : Nat × Nat} {a b v : Value}
    (hrow : W.heap[g]? = some (.cells #[a, b] t fr)) (h2 : tmps.getD 2 undef = .pointer (some ⟨g, 0, none⟩)) (h3 : tmps.getD 3 undef = v) (hR : R (.returned (.tuple #[.agg #[a, b], v])) W) : bodyPost Tryz.prog fn R .ret ⟨tmps, []⟩ W :=
  bodyPost_ret (v := .tuple #[.agg #[a, b], v]) (by
    rw [results_cell_tmp hf]
    simp only
    rw [h2, h3]
    simp [asAddr, load_fld hrow]) rfl hR
theorem Only.set2 {S : Nat → Prop} {w W : World} (h : Only S w W) {g : Nat} (hg : S g ∨ w.heap.size ≤ g) (a b : Value) :
    Only S w ((W.setCell ⟨g, 0, none⟩ a).setCell ⟨g, 1, none⟩ b) := (h.setCell (p := ⟨g, 0, none⟩) hg a).setCell (p := ⟨g, 1, none⟩) hg b
theorem set2_row {W : World} {g : Nat} {t : TypeId} {x0 x1 : Value} (h : W.heap[g]? = some (.cells #[x0, x1] t (0, 0))) (a b : Value) :
    ((W.setCell ⟨g, 0, none⟩ a).setCell ⟨g, 1, none⟩ b).heap[g]? = some (.cells #[a, b] t (0, 0)) := b_set (b_set h 0 a) 1 b

theorem cells2 {W : World} {g : Nat} {t : TypeId} {a b : Value} (h : W.heap[g]? = some (.cells #[a, b] t (0, 0))) : W.cell? ⟨g, 0, none⟩ = some a ∧ W.cell? ⟨g, 1, none⟩ = some b ∧ W.frozen? ⟨g, 0, none⟩ = false ∧ W.frozen? ⟨g, 1, none⟩ = false :=
  ⟨b_cell h 0, b_cell h 1, b_free h 0, b_free h 1⟩
theorem cells5 {W : World} {g : Nat} {t : TypeId} {a b c d e : Value} (h : W.heap[g]? = some (.cells #[a, b, c, d, e] t (0, 0))) : (W.cell? ⟨g, 0, none⟩ = some a ∧ W.cell? ⟨g, 1, none⟩ = some b ∧ W.cell? ⟨g, 2, none⟩ = some c ∧ W.cell? ⟨g, 3, none⟩ = some d ∧ W.cell? ⟨g, 4, none⟩ = some e) ∧
    (W.frozen? ⟨g, 0, none⟩ = false ∧ W.frozen? ⟨g, 1, none⟩ = false ∧ W.frozen? ⟨g, 2, none⟩ = false ∧ W.frozen? ⟨g, 3, none⟩ = false ∧ W.frozen? ⟨g, 4, none⟩ = false) :=
  ⟨⟨b_cell h 0, b_cell h 1, b_cell h 2, b_cell h 3, b_cell h 4⟩, b_free h 0, b_free h 1, b_free h 2, b_free h 3, b_free h 4⟩
set_option maxRecDepth 100000 in
set_option maxHeartbeats 1000000 in
theorem parse_any (s : ByteArray) (hs : s.size < 4294967281) (w : World) (hG : Gl w) :
    Calls Tryz.prog 12 #[.string s] w fun e w' => e = .returned (.tuple #[.agg #[.string (B (parseV s.data.toList).1.1), .string (B (parseV s.data.toList).1.2)], .int .i64 (parseV s.data.toList).2]) ∧ Only (fun _ => False) w w' := by
  have hF : parseF s.data.toList = if (Lib.cut s.data.toList [58]).2.2 = true ∧ right (Lib.cut s.data.toList [58]).1 (trim (Lib.cut s.data.toList [58]).2.1) = true then some ((Lib.cut s.data.toList [58]).1, trim (Lib.cut s.data.toList [58]).2.1) else none := rfl
  have hln : (Lib.cut s.data.toList [58]).2.1.length ≤ s.data.toList.length := by
    unfold Lib.cut
    split
    · simp
    · simp
  rw [show s.data.toList.length = s.size by simp] at hln
  replace hF := hid hF
  obtain ⟨m, hm⟩ := hG.max
  have O0 : Only (fun _ => False) w (w.alloc (.cells #[.string ⟨#[]⟩, .string ⟨#[]⟩] 39)) := (Only.refl _ w).alloc _
  have hm0 := (O0.cell (p := ⟨0, 0, none⟩) (by have := hG.size; show 0 < _; omega) (fun h => h)).trans hm
  have hrow := b_new w (.cells #[.string ⟨#[]⟩, .string ⟨#[]⟩] 39)
  go_enter Tryz.func12, Tryz.ntmps12
  go_wp2_with fail
  refine (Tryz.strings_Cut s ⟨#[58]⟩ m _ hs hm0).mono ?_
  rintro e w1 ⟨rfl, nq, rfl⟩
  rw [show (⟨#[58]⟩ : ByteArray).data.toList = [58] from rfl]
  generalize Lib.cut s.data.toList [58] = cc at *
  obtain ⟨n, v, ok⟩ := cc
  replace O0 := O0.drewN nq
  replace hrow := b_drewN hrow nq
  generalize (w.alloc (.cells #[.string ⟨#[]⟩, .string ⟨#[]⟩] 39)).drewN nq = w1 at O0 hrow ⊢
  obtain ⟨g, hg⟩ : ∃ g, w.heap.size = g := ⟨_, rfl⟩
  rw [hg] at hrow ⊢
  clear hm0 hm
  have hvz : (B v).size ≤ 9223372036854775807 := by simp [ByteArray.size]; simp at hln; omega
  simp only [] at hF ⊢
  go_wp2_with fail
  refine (trim_any (B v) hvz _).mono ?_
  rintro e w2 ⟨rfl, O2⟩
  rw [show (B v).data.toList = v from rfl]
  replace O0 := O0.trans O2
  replace hrow := O2.keep hrow (fun h => h)
  clear O2 hvz hln
  obtain ⟨v2, hv2⟩ : ∃ v2, trim v = v2 := ⟨_, rfl⟩
  rw [hv2] at hF ⊢
  clear hv2
  have hgl := b_lt hrow
  have hg2 : w2.heap.size ≠ g := by omega
  have hgw : w.heap.size ≤ w2.heap.size := by omega
  obtain ⟨c0, c1, f0, f1⟩ := cells2 hrow
  cases ok
  · have hres : Hid (parseV s.data.toList = (([], []), 20)) := hid (by unfold parseV; rw [hF.out]; simp)
    clear hF
    go_wp2_with fail
    exact ret_fld1 Tryz.results12 (b_alloc (set2_row hrow ..) _) rfl rfl ⟨by rw [hres.out]; rfl, (O0.set2 (.inr (by omega)) ..).alloc _⟩
  · have hres : Hid (parseV s.data.toList = if right n v2 then ((n, v2), 0) else (([], []), 20)) := hid (by
      unfold parseV
      rw [hF.out]
      cases right n v2 <;> simp)
    clear hF
    go_wp2_with fail
    refine (right_any (B n) (B v2) _).mono ?_
    rintro e w3 ⟨rfl, O3⟩
    rw [show (B n).data.toList = n from rfl, show (B v2).data.toList = v2 from rfl]
    have O4 := (O0.alloc (.cells #[.string (B n), .string (B v2)] 39)).trans O3
    have hrow3 := O3.keep (b_alloc hrow (.cells #[.string (B n), .string (B v2)] 39)) (fun h => h)
    have hnew := O3.keep (b_new w2 (.cells #[.string (B n), .string (B v2)] 39)) (fun h => h)
    clear c0 c1 f0 f1 O0 O3 hrow
    obtain ⟨c0, c1, f0, f1⟩ := cells2 hrow3
    obtain ⟨d0, d1, _, _⟩ := cells2 hnew
    cases hrr : right n v2
    · have hres2 : Hid (parseV s.data.toList = (([], []), 20)) := hid (by rw [hres.out, hrr]; rfl)
      clear hres hrr
      go_wp2_with fail
      exact ret_fld1 Tryz.results12 (set2_row hrow3 ..) rfl rfl ⟨by rw [hres2.out]; rfl, O4.set2 (.inr (by omega)) ..⟩
    · have hres2 : Hid (parseV s.data.toList = ((n, v2), 0)) := hid (by rw [hres.out, hrr]; rfl)
      clear hres hrr
      go_wp2_with fail
      exact ret_fld1 Tryz.results12 (set2_row hrow3 ..) rfl rfl ⟨by rw [hres2.out]; rfl, O4.set2 (.inr (by omega)) ..⟩

theorem right1_any (n v : ByteArray) (w : World) : Calls Tryz.prog 111 #[.agg #[.string n, .string v]] w fun e w' => e = .returned (.bool (!right n.data.toList v.data.toList)) ∧ Only (fun _ => False) w w' := by
  go_enter Tryz.func111, Tryz.ntmps111
  go_wp2_with fail
  refine (right_any n v _).mono ?_
  rintro e w1 ⟨rfl, O1⟩
  have O := ((Only.refl (fun _ => False) w).alloc (.cells #[.string n, .string v] 39)).trans O1
  clear O1
  obtain ⟨b, hb⟩ : ∃ b, right n.data.toList v.data.toList = b := ⟨_, rfl⟩
  rw [hb]
  replace hb := hid hb
  go_wp2_with fail
  go_ret
  exact ⟨by rw [hb.out]; rfl, O⟩
set_option maxRecDepth 100000 in
set_option maxHeartbeats 1000000 in
theorem index_right (fs : List FD) (A : Option Addr) (c : Nat) (w : World) (hR : Row w A (fV fs)) (hn : fs.length ≤ 1000000) :
    Calls Tryz.prog 134 #[.slice A fs.length c, .func (.func 111) #[] #[]] w fun e w' => ∃ z : Int, e = .returned (.int .i64 z) ∧ (decide (0 ≤ z) = !fs.all (fun p => right p.1 p.2)) ∧ Only (fun _ => False) w w' := by
  obtain ⟨n, hnn⟩ : ∃ n, fs.length = n := ⟨_, rfl⟩
  rw [hnn] at hn ⊢
  replace hnn := hid hnn
  go_enter Tryz.func134, Tryz.ntmps134
  go_wp2_with fail
  go_loopw [8] (fun iv wr => ∃ k : Nat, k ≤ n ∧ iv = .int .i64 (k : Int) ∧ Hid (∀ i, i < k → ∀ p, fs[i]? = some p → right p.1 p.2 = true) ∧ Only (fun _ => False) w wr) (fun iv _ => n - (intOf iv).toNat)
  case atStart => exact ⟨0, by omega, rfl, hid (by omega), Only.refl _ _⟩
  case round =>
    obtain ⟨k, hk, rfl, hx, O⟩ := hrel
    by_cases hlt : k < n
    · obtain ⟨p, hp⟩ : ∃ p, fs[k]? = some p := ⟨_, List.getElem?_eq_getElem (by rw [hnn.out]; exact hlt)⟩
      obtain ⟨b, off, rfl, hb, c0, c1⟩ := fld_at (hR.same O) k p hp
      go_wp2_with fail
      refine (right1_any _ _ _).mono ?_
      rintro e w2 ⟨rfl, O2⟩
      rw [show (B p.1).data.toList = p.1 from rfl, show (B p.2).data.toList = p.2 from rfl]
      have O3 := O.trans O2
      have hx' : right p.1 p.2 = true → Hid (∀ i, i < k + 1 → ∀ p, fs[i]? = some p → right p.1 p.2 = true) := fun h => hid (by
        intro i hi q hq
        by_cases hik : i = k
        · subst hik
          rw [hp] at hq
          cases hq
          exact h
        · exact hx.out i (by omega) q hq)
      have hy : right p.1 p.2 = false → Hid (fs.all (fun p => right p.1 p.2) = false) := fun h => hid (by
        rw [List.all_eq_false]
        exact ⟨p, List.mem_of_getElem? hp, by rw [h]; decide⟩)
      replace hp := hid hp
      clear c0 c1 O2 O
      cases hr : right p.1 p.2
      · replace hy := hy hr
        clear hx' hr
        go_wp2_with fail
        go_ret
        exact ⟨k, rfl, by rw [hy.out]; simp, O3⟩
      · replace hx' := hx' hr
        clear hy hr
        go_wp2_with fail
        go_roundw
        case rel => exact ⟨k + 1, by omega, by simp, hx', O3⟩
        case measure => simp [intOf]; omega
    · have hall : Hid (fs.all (fun p => right p.1 p.2) = true) := hid (by
        rw [List.all_eq_true]
        intro p hp
        obtain ⟨i, hi, rfl⟩ := List.mem_iff_getElem.1 hp
        exact hx.out i (by rw [hnn.out] at hi; omega) _ (List.getElem?_eq_getElem hi))
      clear hx
      go_wp2_with fail
      go_ret
      exact ⟨-1, rfl, by rw [hall.out]; rfl, O⟩
theorem contains_right (fs : List FD) (A : Option Addr) (c : Nat) (w : World) (hR : Row w A (fV fs)) (hn : fs.length ≤ 1000000) :
    Calls Tryz.prog 110 #[.slice A fs.length c, .func (.func 111) #[] #[]] w fun e w' => e = .returned (.bool (!fs.all (fun p => right p.1 p.2))) ∧ Only (fun _ => False) w w' := by
  go_enter Tryz.func110, Tryz.ntmps110
  go_wp2_with fail
  refine (index_right fs A c w hR hn).mono ?_
  rintro e w1 ⟨z, rfl, hz, O1⟩
  replace hz := hid hz
  go_wp2_with fail
  go_ret
  exact ⟨by rw [← hz.out]; rfl, O1⟩
theorem right_all (fs : List FD) (A : Option Addr) (c : Nat) (w : World) (hR : Row w A (fV fs)) (hn : fs.length ≤ 40) :
    Calls Tryz.prog 73 #[.slice A fs.length c] w fun e w' => e = .returned (.bool (fs.all (fun p => right p.1 p.2))) ∧ Only (fun _ => False) w w' := by
  have hn' : (fs.length : Int) ≤ 40 := by omega
  obtain ⟨n, hnn⟩ : ∃ n, fs.length = n := ⟨_, rfl⟩
  have hc := fun w (hR : Row w A (fV fs)) => contains_right fs A c w hR (by omega)
  rw [hnn] at hn' hc ⊢
  clear hnn hn
  go_enter Tryz.func73, Tryz.ntmps73
  go_wp2_with fail
  refine (hc _ hR).mono ?_
  rintro e w1 ⟨rfl, O1⟩
  obtain ⟨b, hb⟩ : ∃ b, fs.all (fun p => right p.1 p.2) = b := ⟨_, rfl⟩
  rw [hb]
  replace hb := hid hb
  go_wp2_with fail
  go_ret
  exact ⟨by rw [hb.out]; simp, O1⟩
end Go.Proofs.YtafljoiblfhioaaGreatDoor
