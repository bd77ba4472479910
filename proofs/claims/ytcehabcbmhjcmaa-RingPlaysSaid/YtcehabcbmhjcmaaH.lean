/-
  The references' rings: Put, Take, New.
-/
import Derived.Test.YtcehabcbmhjcmaaG
import Derived.Deep.RegionHeld3
namespace Go.Proofs.Ytcehabcbmhjcmaa
open Go.RowKit

/-- The reference's rings: the row of three slices, and their bytes; their blocks lie in Z. -/
def RefR (w : World) (Z : Nat → Prop) (v : Value) (ls : Nat → List Int) : Prop :=
  ∃ g c X, v = .slice (some ⟨g, 0, none⟩) 3 c ∧ Z g ∧ RowAt w g 3 X ∧ ∀ i, i < 3 → ∃ A c, X i = .slice A (ls i).length c ∧ (ls i).length ≤ c ∧ Elems w A (ls i).length (B8 (ls i)) ∧ ∀ a, A = some a → Z a.block
theorem RefR.keep {S Z : Nat → Prop} {w w' : World} {v : Value} {ls : Nat → List Int} (h : RefR w Z v ls) (o : Only S w w') (hs : ∀ i, Z i → ¬ S i) : RefR w' Z v ls := by
  obtain ⟨g, c, X, hv, hg, hr, hx⟩ := h
  refine ⟨g, c, X, hv, hg, hr.keep o (hs g hg), fun i hi => ?_⟩
  obtain ⟨A, cc, h1, h2, h3, h4⟩ := hx i hi
  exact ⟨A, cc, h1, h2, h3.only o (fun a ha => hs _ (h4 a ha)), h4⟩

def XV (H P M : Int) (v : Value) : Value := .agg #[.int .i64 H, .int .i64 P, .int .i64 M, v]

set_option maxHeartbeats 1000000 in
theorem put3_yes (H P M : Int) (Z : Nat → Prop) (v : Value) (ls : Nat → List Int) (k : Nat) (bs : List Int) (Ab : Option Addr) (nb cb : Nat) (w : World) (ok : MOk M H P) (hk : k < 3) (hb : bs.length = nb) (hroom : H + nb ≤ M) (hl : (ls k).length ≤ H)
    (hZ : ∀ i, Z i → i < w.heap.size) (hR : RefR w Z v ls) (hB : Elems w Ab nb (B8 bs)) :
    Calls Try.prog 17 #[XV H P M v, .int .i64 (k : Int), .slice Ab nb cb] w fun e w' => ∃ v', e = .returned (.tuple #[XV (H + nb) (max P (H + nb)) M v', .bool true]) ∧ Hid (RefR w' (fun i => Z i ∨ (w.heap.size ≤ i ∧ i < w'.heap.size)) v' (upd ls k (ls k ++ bs))) ∧ Only (fun _ => False) w w' := by
  obtain ⟨g, c, X, rfl, hg, hr, hx⟩ := hR
  obtain ⟨A, cA, hXk, hAc, hAE, hAZ⟩ := hx k hk
  have HB := hid hB
  have HE := hid hAE
  have HX := hid hx
  have HRW := hid hr
  have HBL := hid hb
  have HZ := hid hZ
  clear hZ
  clear hB hAE hx hr hb
  unfold XV
  go_enter Try.func17, Try.ntmps17
  go_wp2_with fail
  have x1 : ((w.alloc (.cells #[.int .i64 H, .int .i64 P, .int .i64 M, .slice (some ⟨g, 0, none⟩) 3 c] 42)).alloc (.cells #[.int .i64 0, .int .i64 0, .int .i64 0, .slice none 0 0] 42)).heap[w.heap.size]? = some (.cells #[.int .i64 H, .int .i64 P, .int .i64 M, .slice (some ⟨g, 0, none⟩) 3 c] 42 (0, 0)) := b_alloc (b_new w _) _
  have r1 : ((w.alloc (.cells #[.int .i64 H, .int .i64 P, .int .i64 M, .slice (some ⟨g, 0, none⟩) 3 c] 42)).alloc (.cells #[.int .i64 0, .int .i64 0, .int .i64 0, .slice none 0 0] 42)).heap[w.heap.size + 1]? = some (.cells #[.int .i64 0, .int .i64 0, .int .i64 0, .slice none 0 0] 42 (0, 0)) := by
    have := b_new (w.alloc (.cells #[.int .i64 H, .int .i64 P, .int .i64 M, .slice (some ⟨g, 0, none⟩) 3 c] 42)) (.cells #[.int .i64 0, .int .i64 0, .int .i64 0, .slice none 0 0] 42)
    simpa using this
  have o1 : Only (fun _ => False) w ((w.alloc (.cells #[.int .i64 H, .int .i64 P, .int .i64 M, .slice (some ⟨g, 0, none⟩) 3 c] 42)).alloc (.cells #[.int .i64 0, .int .i64 0, .int .i64 0, .slice none 0 0] 42)) := ((Only.refl _ _).alloc _).alloc _
  have X1 := hid x1
  have R1 := hid r1
  clear x1 r1
  generalize ((w.alloc (.cells #[.int .i64 H, .int .i64 P, .int .i64 M, .slice (some ⟨g, 0, none⟩) 3 c] 42)).alloc (.cells #[.int .i64 0, .int .i64 0, .int .i64 0, .slice none 0 0] 42)) = w1 at *
  refine (refTake_yes H P M nb w1 ok (by omega) (by omega)).mono ?_
  rintro e w2 ⟨rfl, l2⟩
  have X2 := hid (b_below l2 X1.out (b_lt X1.out))
  have R2 := hid (b_below l2 R1.out (b_lt R1.out))
  have o2 : Only (fun _ => False) w w2 := o1.trans (Only.of_below l2)
  clear X1 R1 o1 l2
  unfold Agg
  generalize hP : max P (H + (nb : Int)) = P' at *
  have HP := hid hP
  clear hP
  go_upto_region 4 with (fail)
  have hx2 := b_lt X2.out
  have hr2 := b_lt R2.out
  refine fold (F := fun W' => Hid (W'.heap[w.heap.size]? = some (.cells #[.int .i64 H, .int .i64 P, .int .i64 M, .slice (some ⟨g, 0, none⟩) 3 c] 42 (0, 0))) ∧ Hid (W'.heap[w.heap.size + 1]? = some (.cells #[.int .i64 0, .int .i64 0, .int .i64 0, .slice none 0 0] 42 (0, 0))) ∧ Hid (W'.heap[w2.heap.size]? = some (.cells #[.int .i64 (H + nb), .int .i64 P', .int .i64 M] 40 (0, 0))) ∧ Only (fun _ => False) w W') ⟨hid (b_alloc X2.out _), hid (b_alloc R2.out _), hid (b_new w2 _), o2.alloc _⟩ ?_
  clear X2 R2 o2
  rintro w3 ⟨X3, R3, M3, o3⟩
  have hx3 := b_cell X3.out 3
  have m0 := b_cell M3.out 0
  have m1 := b_cell M3.out 1
  have m2 := b_cell M3.out 2
  have hgk : w3.cell? ⟨g, k, none⟩ = some (.slice A (ls k).length cA) := ((HRW.out.keep o3 (fun h => h)).2 k hk).trans (congrArg some hXk)
  simp only [List.getElem?_toArray, List.getElem?_cons_zero, List.getElem?_cons_succ] at hx3 m0 m1 m2
  have f0 := b_free R3.out 0
  have f1 := b_free R3.out 1
  have f2 := b_free R3.out 2
  have f3 := b_free R3.out 3
  have HXK : Hid (∀ i, i < 3 → ∃ A m c, X i = .slice A m c) := hid (fun i hi => by obtain ⟨A, cc, h1, _⟩ := HX.out i hi; exact ⟨A, _, cc, h1⟩)
  have hAx : Hid (Elems w3 A (ls k).length (B8 (ls k))) := hid (HE.out.same o3)
  have hBx : Hid (Elems w3 Ab nb (B8 bs)) := hid (HB.out.same o3)
  have hRx : Hid (RowAt w3 g 3 X) := hid (HRW.out.keep o3 (fun h => h))
  have O3 := hid o3
  have KX := hid hx3
  have K0 := hid m0
  have K1 := hid m1
  have K2 := hid m2
  have KG := hid hgk
  have hz3 : w2.heap.size < w3.heap.size := b_lt M3.out
  have hzg : g < w.heap.size := HRW.out.1
  have q1 : ¬ w2.heap.size = w.heap.size + 1 := by omega
  have q2 : ¬ w.heap.size + 1 = w2.heap.size := by omega
  have q3 : ¬ g = w.heap.size + 1 := by omega
  have q4 : ¬ w.heap.size + 1 = g := by omega
  have q5 : (0 : Int) ≤ (k : Int) := by omega
  have q6 : (k : Int) < 3 := by omega
  clear o3
  go_region_held3 (fun w' => w'.cell? ⟨w.heap.size, 3, none⟩ = some (.slice (some ⟨g, 0, none⟩) 3 c) ∧ w'.cell? ⟨w2.heap.size, 0, none⟩ = some (.int .i64 (H + nb)) ∧ w'.cell? ⟨w2.heap.size, 1, none⟩ = some (.int .i64 P') ∧ w'.cell? ⟨w2.heap.size, 2, none⟩ = some (.int .i64 M) ∧ w'.cell? ⟨g, k, none⟩ = some (.slice A (ls k).length cA)) (go_keep)
    (first
      | (go_at_call 28; refine (join_any (ls k) bs A Ab (ls k).length nb cA cb _ rfl HBL.out (by exact hAx.out) (by exact hBx.out) (by have := ok.hm; have := ok.m1; omega)).mono ?_; rintro e w4 ⟨AJ, cJ, rfl, hJ, o4⟩; have o34 : Only (fun _ => False) w3 w4 := ⟨o4.os, o4.tape, o4.output, o4.size, o4.block⟩; have O34 := hid o34; have d0 := (o34.cell (p := ⟨w.heap.size, 3, none⟩) (by show w.heap.size < _; omega) (fun h => h)).trans hx3; have d1 := (o34.cell (p := ⟨w2.heap.size, 0, none⟩) hz3 (fun h => h)).trans m0; have d2 := (o34.cell (p := ⟨w2.heap.size, 1, none⟩) hz3 (fun h => h)).trans m1; have d3 := (o34.cell (p := ⟨w2.heap.size, 2, none⟩) hz3 (fun h => h)).trans m2; have d4 := (o34.cell (p := ⟨g, k, none⟩) (by show g < _; omega) (fun h => h)).trans hgk)
      | (go_at_call 27; refine (with_any g 3 c k X AJ ((ls k).length + nb) cJ _ (by exact hRx.out.keep O34.out (fun h => h)) HXK.out (by omega)).mono ?_; rintro e w5 ⟨g5, c5, rfl, h5, hg5, o5⟩; have o45 : Only (fun _ => False) w4 w5 := ⟨o5.os, o5.tape, o5.output, o5.size, o5.block⟩; have o35 := O34.out.trans o45; have O35 := hid o35; have O45 := hid o45; have d0 := (o35.cell (p := ⟨w.heap.size, 3, none⟩) (by show w.heap.size < _; omega) (fun h => h)).trans KX.out; have d1 := (o35.cell (p := ⟨w2.heap.size, 0, none⟩) hz3 (fun h => h)).trans K0.out; have d2 := (o35.cell (p := ⟨w2.heap.size, 1, none⟩) hz3 (fun h => h)).trans K1.out; have d3 := (o35.cell (p := ⟨w2.heap.size, 2, none⟩) hz3 (fun h => h)).trans K2.out; have d4 := (o35.cell (p := ⟨g, k, none⟩) (by show g < _; omega) (fun h => h)).trans KG.out; have f5 := b_free (O35.out.keep R3.out (fun h => h)) 0; have f6 := b_free (O35.out.keep R3.out (fun h => h)) 1; have f7 := b_free (O35.out.keep R3.out (fun h => h)) 2; have f8 := b_free (O35.out.keep R3.out (fun h => h)) 3; have e5 := b_cell (O35.out.keep R3.out (fun h => h)) 0; have e6 := b_cell (O35.out.keep R3.out (fun h => h)) 1; have e7 := b_cell (O35.out.keep R3.out (fun h => h)) 2; have e8 := b_cell (O35.out.keep R3.out (fun h => h)) 3))
  have row5 := O35.out.keep R3.out (fun h => h)
  have row6 : ((((w5.setCell ⟨w.heap.size + 1, 0, none⟩ (.int .i64 (H + nb))).setCell ⟨w.heap.size + 1, 1, none⟩ (.int .i64 P')).setCell ⟨w.heap.size + 1, 2, none⟩ (.int .i64 M)).setCell ⟨w.heap.size + 1, 3, none⟩ (.slice (some ⟨g5, 0, none⟩) 3 c5)).heap[w.heap.size + 1]? = some (.cells #[.int .i64 (H + nb), .int .i64 P', .int .i64 M, .slice (some ⟨g5, 0, none⟩) 3 c5] 42 (0, 0)) := b_set (b_set (b_set (b_set row5 0 _) 1 _) 2 _) 3 _
  have o6 : Only (· = w.heap.size + 1) w5 ((((w5.setCell ⟨w.heap.size + 1, 0, none⟩ (.int .i64 (H + nb))).setCell ⟨w.heap.size + 1, 1, none⟩ (.int .i64 P')).setCell ⟨w.heap.size + 1, 2, none⟩ (.int .i64 M)).setCell ⟨w.heap.size + 1, 3, none⟩ (.slice (some ⟨g5, 0, none⟩) 3 c5)) := o_put (o_put (o_put (o_put (Only.refl _ _) _ _) _ _) _ _) _ _
  have R6 := hid row6
  have O6 := hid o6
  clear row5 row6 o6 R3 M3 X3
  generalize ((((w5.setCell ⟨w.heap.size + 1, 0, none⟩ (.int .i64 (H + nb))).setCell ⟨w.heap.size + 1, 1, none⟩ (.int .i64 P')).setCell ⟨w.heap.size + 1, 2, none⟩ (.int .i64 M)).setCell ⟨w.heap.size + 1, 3, none⟩ (.slice (some ⟨g5, 0, none⟩) 3 c5)) = w6 at *
  have a0 := b_cell R6.out 0
  have a1 := b_cell R6.out 1
  have a2 := b_cell R6.out 2
  have a3 := b_cell R6.out 3
  simp only [List.getElem?_toArray, List.getElem?_cons_zero, List.getElem?_cons_succ] at a0 a1 a2 a3
  go_wp2_with fail
  have z3 := O3.out.size
  have z4 := O34.out.size
  have z5 := O45.out.size
  have z6 := O6.out.size
  have zg5 := h5.out.1
  refine bodyPost_ret (v := .tuple #[.agg #[.int .i64 (H + nb), .int .i64 P', .int .i64 M, .slice (some ⟨g5, 0, none⟩) 3 c5], .bool true]) (by simp [results, Try.results17, go_sem, a0, a1, a2, a3]) rfl ⟨.slice (some ⟨g5, 0, none⟩) 3 c5, by rw [HP.out], hid ?_, ?_⟩
  · refine ⟨g5, c5, _, rfl, .inr ⟨by omega, by omega⟩, h5.out.keep O6.out (by omega), fun i hi => ?_⟩
    by_cases hik : i = k
    · subst hik
      have hJb := hJ.out.blk
      refine ⟨AJ, cJ, ?_, ?_, ?_, ?_⟩
      · rw [upd_at, List.length_append, HBL.out]; exact if_pos rfl
      · rw [upd_at]; exact hJ.out.cap
      · rw [upd_at]
        refine ((hJ.out.elems' rfl).same O45.out).only O6.out (fun a ha => ?_)
        have := (hJb a ha).1
        have e3 : w3.drew.heap.size = w3.heap.size := rfl
        omega
      · intro a ha
        have := hJb a ha
        have e3 : w3.drew.heap.size = w3.heap.size := rfl
        exact .inr ⟨by omega, by omega⟩
    · obtain ⟨A', cc, h1, h2, h3, h4⟩ := HX.out i hi
      refine ⟨A', cc, ?_, ?_, ?_, fun a ha => .inl (h4 a ha)⟩
      · rw [upd_ne _ _ hik]; exact (if_neg hik).trans h1
      · rw [upd_ne _ _ hik]; exact h2
      · rw [upd_ne _ _ hik]
        refine (((h3.same O3.out).same O35.out)).only O6.out (fun a ha => ?_)
        have := HZ.out _ (h4 a ha)
        omega
  · exact (O3.out.trans O35.out).trans' O6.out (fun i hi => .inr (by omega))

theorem put3_no (H P M : Int) (v : Value) (k : Nat) (Ab : Option Addr) (nb cb : Nat) (w : World) (ok : MOk M H P) (hv : ∃ A n c, v = .slice A n c) (hno : M - H < nb) :
    Calls Try.prog 17 #[XV H P M v, .int .i64 (k : Int), .slice Ab nb cb] w fun e w' => e = .returned (.tuple #[XV H P M v, .bool false]) ∧ Only (fun _ => False) w w' := by
  obtain ⟨A, n, c, rfl⟩ := hv
  unfold XV
  go_enter Try.func17, Try.ntmps17
  go_wp2_with fail
  have x1 : ((w.alloc (.cells #[.int .i64 H, .int .i64 P, .int .i64 M, .slice A n c] 42)).alloc (.cells #[.int .i64 0, .int .i64 0, .int .i64 0, .slice none 0 0] 42)).heap[w.heap.size]? = some (.cells #[.int .i64 H, .int .i64 P, .int .i64 M, .slice A n c] 42 (0, 0)) := b_alloc (b_new w _) _
  have r1 : ((w.alloc (.cells #[.int .i64 H, .int .i64 P, .int .i64 M, .slice A n c] 42)).alloc (.cells #[.int .i64 0, .int .i64 0, .int .i64 0, .slice none 0 0] 42)).heap[w.heap.size + 1]? = some (.cells #[.int .i64 0, .int .i64 0, .int .i64 0, .slice none 0 0] 42 (0, 0)) := by
    have := b_new (w.alloc (.cells #[.int .i64 H, .int .i64 P, .int .i64 M, .slice A n c] 42)) (.cells #[.int .i64 0, .int .i64 0, .int .i64 0, .slice none 0 0] 42)
    simpa using this
  have o1 : Only (fun _ => False) w ((w.alloc (.cells #[.int .i64 H, .int .i64 P, .int .i64 M, .slice A n c] 42)).alloc (.cells #[.int .i64 0, .int .i64 0, .int .i64 0, .slice none 0 0] 42)) := ((Only.refl _ _).alloc _).alloc _
  have X1 := hid x1
  have R1 := hid r1
  clear x1 r1
  generalize ((w.alloc (.cells #[.int .i64 H, .int .i64 P, .int .i64 M, .slice A n c] 42)).alloc (.cells #[.int .i64 0, .int .i64 0, .int .i64 0, .slice none 0 0] 42)) = w1 at *
  refine (refTake_no H P M nb w1 ok (.inr hno)).mono ?_
  rintro e w2 ⟨rfl, l2⟩
  have X2 := hid (b_below l2 X1.out (b_lt X1.out))
  have R2 := hid (b_below l2 R1.out (b_lt R1.out))
  have o2 : Only (fun _ => False) w w2 := o1.trans (Only.of_below l2)
  clear X1 R1 o1 l2
  unfold Agg
  go_upto_region 3 with (fail)
  have hx2 := b_lt X2.out
  have hr2 := b_lt R2.out
  refine fold (F := fun W' => Hid (W'.heap[w.heap.size]? = some (.cells #[.int .i64 H, .int .i64 P, .int .i64 M, .slice A n c] 42 (0, 0))) ∧ Hid (W'.heap[w.heap.size + 1]? = some (.cells #[.int .i64 0, .int .i64 0, .int .i64 0, .slice none 0 0] 42 (0, 0))) ∧ Only (fun _ => False) w W') ⟨hid (b_alloc X2.out _), hid (b_alloc R2.out _), o2.alloc _⟩ ?_
  clear X2 R2 o2
  rintro w3 ⟨X3, R3, o3⟩
  have x0 := b_cell X3.out 0
  have x1 := b_cell X3.out 1
  have x2 := b_cell X3.out 2
  have x3 := b_cell X3.out 3
  have f0 := b_free R3.out 0
  have f1 := b_free R3.out 1
  have f2 := b_free R3.out 2
  have f3 := b_free R3.out 3
  have e0 := b_cell R3.out 0
  have e1 := b_cell R3.out 1
  have e2 := b_cell R3.out 2
  have e3 := b_cell R3.out 3
  simp only [List.getElem?_toArray, List.getElem?_cons_zero, List.getElem?_cons_succ] at x0 x1 x2 x3 e0 e1 e2 e3
  go_wp2_with fail
  have row6 : ((((w3.setCell ⟨w.heap.size + 1, 0, none⟩ (.int .i64 H)).setCell ⟨w.heap.size + 1, 1, none⟩ (.int .i64 P)).setCell ⟨w.heap.size + 1, 2, none⟩ (.int .i64 M)).setCell ⟨w.heap.size + 1, 3, none⟩ (.slice A n c)).heap[w.heap.size + 1]? = some (.cells #[.int .i64 H, .int .i64 P, .int .i64 M, .slice A n c] 42 (0, 0)) := b_set (b_set (b_set (b_set R3.out 0 _) 1 _) 2 _) 3 _
  have o6 : Only (· = w.heap.size + 1) w3 ((((w3.setCell ⟨w.heap.size + 1, 0, none⟩ (.int .i64 H)).setCell ⟨w.heap.size + 1, 1, none⟩ (.int .i64 P)).setCell ⟨w.heap.size + 1, 2, none⟩ (.int .i64 M)).setCell ⟨w.heap.size + 1, 3, none⟩ (.slice A n c)) := o_put (o_put (o_put (o_put (Only.refl _ _) _ _) _ _) _ _) _ _
  generalize ((((w3.setCell ⟨w.heap.size + 1, 0, none⟩ (.int .i64 H)).setCell ⟨w.heap.size + 1, 1, none⟩ (.int .i64 P)).setCell ⟨w.heap.size + 1, 2, none⟩ (.int .i64 M)).setCell ⟨w.heap.size + 1, 3, none⟩ (.slice A n c)) = w6 at *
  have a0 := b_cell row6 0
  have a1 := b_cell row6 1
  have a2 := b_cell row6 2
  have a3 := b_cell row6 3
  simp only [List.getElem?_toArray, List.getElem?_cons_zero, List.getElem?_cons_succ] at a0 a1 a2 a3
  refine bodyPost_ret (v := .tuple #[.agg #[.int .i64 H, .int .i64 P, .int .i64 M, .slice A n c], .bool false]) (by simp [results, Try.results17, go_sem, a0, a1, a2, a3]) rfl ⟨rfl, o3.trans' o6 (fun i hi => .inr (by omega))⟩
end Go.Proofs.Ytcehabcbmhjcmaa
