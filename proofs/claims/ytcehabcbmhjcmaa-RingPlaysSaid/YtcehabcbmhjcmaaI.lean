/-
  The references' rings: Take.
-/
import Derived.Test.YtcehabcbmhjcmaaH
namespace Go.Proofs.Ytcehabcbmhjcmaa
open Go.RowKit

theorem two_rows (w : World) (o1 o2 : Obj) : ((w.alloc o1).alloc o2).heap[w.heap.size]? = some o1 ∧ ((w.alloc o1).alloc o2).heap[w.heap.size + 1]? = some o2 := by
  refine ⟨b_alloc (b_new w o1) _, ?_⟩
  have := b_new (w.alloc o1) o2
  simpa using this

set_option maxHeartbeats 1000000 in
theorem take3_any (H P M : Int) (Z : Nat → Prop) (v : Value) (ls : Nat → List Int) (k : Nat) (n : Int) (m : Nat) (w : World) (ok : MOk M H P) (hk : k < 3) (hm : (m : Int) = min (max n 0) ((ls k).length : Int)) (hl : (ls k).length ≤ H)
    (hZ : ∀ i, Z i → i < w.heap.size) (hR : RefR w Z v ls) :
    Calls Try.prog 18 #[XV H P M v, .int .i64 (k : Int), .int .i64 n] w fun e w' => ∃ v' A c, e = .returned (.tuple #[XV (H - m) P M v', .slice A m c]) ∧ Hid (RefR w' (fun i => Z i ∨ (w.heap.size ≤ i ∧ i < w'.heap.size)) v' (upd ls k ((ls k).drop m))) ∧ Hid (Elems w' A m (B8 ((ls k).take m))) ∧ Hid (∀ a, A = some a → Z a.block) ∧ Only (fun _ => False) w w' := by
  obtain ⟨g, c, X, rfl, hg, hr, hx⟩ := hR
  obtain ⟨A, cA, hXk, hAc, hAE, hAZ⟩ := hx k hk
  obtain ⟨ll, hll⟩ : ∃ ll, ll = (ls k).length := ⟨_, rfl⟩
  have hml : m ≤ ll := by omega
  have hmn : (m : Int) = if n < 0 then 0 else if (ll : Int) < n then (ll : Int) else n := by rw [hll]; (repeat' split) <;> omega
  have hgv : (m : Int) = min (max (m : Int) 0) H := by omega
  have hacl : ll ≤ cA := by omega
  rw [← hll] at hXk
  have LL := hid hll
  have HE := hid hAE
  have HX := hid hx
  have HRW := hid hr
  have HZ := hid hZ
  have HAZ := hid hAZ
  have HMN := hid hmn
  have HGV := hid hgv
  clear hAE hx hr hZ hAZ hm hmn hgv hAc hl hll
  have hcut := run_h' A ll cA m (by omega)
  have hcut0 := run_h A ll cA m (by omega)
  have hdrop := cut_drop' A ll cA m hml
  have hdrop0 := cut_drop A ll cA m hml
  unfold XV
  have q5 : (0 : Int) ≤ (k : Int) := by omega
  have q6 : (k : Int) < 3 := by omega
  go_enter Try.func18, Try.ntmps18
  go_upto_region 1 with (fail)
  refine fold (F := fun W' => Hid (W'.heap[w.heap.size]? = some (.cells #[.int .i64 H, .int .i64 P, .int .i64 M, .slice (some ⟨g, 0, none⟩) 3 c] 42 (0, 0))) ∧ Hid (W'.heap[w.heap.size + 1]? = some (.cells #[.int .i64 0, .int .i64 0, .int .i64 0, .slice none 0 0] 42 (0, 0))) ∧ Only (fun _ => False) w W') ⟨hid (two_rows _ _ _).1, hid (two_rows _ _ _).2, ((Only.refl _ _).alloc _).alloc _⟩ ?_
  rintro w1 ⟨X1, R1, o1⟩
  have x0 := b_cell X1.out 0
  have x1 := b_cell X1.out 1
  have x2 := b_cell X1.out 2
  have x3 := b_cell X1.out 3
  simp only [List.getElem?_toArray, List.getElem?_cons_zero, List.getElem?_cons_succ] at x0 x1 x2 x3
  have hgk : w1.cell? ⟨g, k, none⟩ = some (.slice A ll cA) := ((HRW.out.keep o1 (fun h => h)).2 k hk).trans (congrArg some hXk)
  go_wp2_with fail
  refine (between_any n 0 ll m _ HMN.out).mono ?_
  rintro e w2 ⟨rfl, rfl⟩
  go_wp2_with fail
  refine (refGive_any H P M m m _ ok HGV.out).mono ?_
  rintro e w2 ⟨rfl, l2⟩
  have X2 := hid (b_below l2 X1.out (b_lt X1.out))
  have R2 := hid (b_below l2 R1.out (b_lt R1.out))
  have o2 : Only (fun _ => False) w w2 := o1.trans (Only.of_below l2)
  clear X1 R1 o1 l2 x0 x1 x2 x3 hgk
  unfold Agg
  go_upto_region 4 with (fail)
  have hx2 := b_lt X2.out
  have hr2 := b_lt R2.out
  refine fold (F := fun W' => Hid (W'.heap[w.heap.size]? = some (.cells #[.int .i64 H, .int .i64 P, .int .i64 M, .slice (some ⟨g, 0, none⟩) 3 c] 42 (0, 0))) ∧ Hid (W'.heap[w.heap.size + 1]? = some (.cells #[.int .i64 0, .int .i64 0, .int .i64 0, .slice none 0 0] 42 (0, 0))) ∧ Hid (W'.heap[w2.heap.size]? = some (.cells #[.int .i64 (H - m), .int .i64 P, .int .i64 M] 40 (0, 0))) ∧ Only (fun _ => False) w W') ⟨hid (b_alloc X2.out _), hid (b_alloc R2.out _), hid (b_new w2 _), o2.alloc _⟩ ?_
  clear X2 R2 o2
  rintro w3 ⟨X3, R3, M3, o3⟩
  have hx3 := b_cell X3.out 3
  have m0 := b_cell M3.out 0
  have m1 := b_cell M3.out 1
  have m2 := b_cell M3.out 2
  have hgk : w3.cell? ⟨g, k, none⟩ = some (.slice A ll cA) := ((HRW.out.keep o3 (fun h => h)).2 k hk).trans (congrArg some hXk)
  simp only [List.getElem?_toArray, List.getElem?_cons_zero, List.getElem?_cons_succ] at hx3 m0 m1 m2
  have HXK : Hid (∀ i, i < 3 → ∃ A m c, X i = .slice A m c) := hid (fun i hi => by obtain ⟨A, cc, h1, _⟩ := HX.out i hi; exact ⟨A, _, cc, h1⟩)
  have hRx : Hid (RowAt w3 g 3 X) := hid (HRW.out.keep o3 (fun h => h))
  have O3 := hid o3
  have KX := hid hx3
  have K0 := hid m0
  have K1 := hid m1
  have K2 := hid m2
  have KG := hid hgk
  have hz3 : w2.heap.size < w3.heap.size := b_lt M3.out
  have hzg : g < w.heap.size := HRW.out.1
  have q1 : ¬ w2.heap.size = w.heap.size + 1 := by omega
  have q2 : ¬ w.heap.size + 1 = w2.heap.size := by omega
  have q3 : ¬ g = w.heap.size + 1 := by omega
  have q4 : ¬ w.heap.size + 1 = g := by omega
  clear o3
  go_region_held3 (fun w' => w'.cell? ⟨w.heap.size, 3, none⟩ = some (.slice (some ⟨g, 0, none⟩) 3 c) ∧ w'.cell? ⟨w2.heap.size, 0, none⟩ = some (.int .i64 (H - m)) ∧ w'.cell? ⟨w2.heap.size, 1, none⟩ = some (.int .i64 P) ∧ w'.cell? ⟨w2.heap.size, 2, none⟩ = some (.int .i64 M) ∧ w'.cell? ⟨g, k, none⟩ = some (.slice A ll cA)) (go_keep)
    (first
      | (go_at_call 27; refine (with_any g 3 c k X (dropA A cA m) (ll - m) (cA - m) _ (by exact hRx.out) HXK.out (by omega)).mono ?_; rintro e w5 ⟨g5, c5, rfl, h5, hg5, o5⟩; have hg6 : w3.heap.size ≤ g5 := hg5; have o35 : Only (fun _ => False) w3 w5 := ⟨o5.os, o5.tape, o5.output, o5.size, o5.block⟩; have O35 := hid o35; have d0 := (o35.cell (p := ⟨w.heap.size, 3, none⟩) (by show w.heap.size < _; omega) (fun h => h)).trans KX.out; have d1 := (o35.cell (p := ⟨w2.heap.size, 0, none⟩) hz3 (fun h => h)).trans K0.out; have d2 := (o35.cell (p := ⟨w2.heap.size, 1, none⟩) hz3 (fun h => h)).trans K1.out; have d3 := (o35.cell (p := ⟨w2.heap.size, 2, none⟩) hz3 (fun h => h)).trans K2.out; have d4 := (o35.cell (p := ⟨g, k, none⟩) (by show g < _; omega) (fun h => h)).trans KG.out; have f5 := b_free (O35.out.keep R3.out (fun h => h)) 0; have f6 := b_free (O35.out.keep R3.out (fun h => h)) 1; have f7 := b_free (O35.out.keep R3.out (fun h => h)) 2; have f8 := b_free (O35.out.keep R3.out (fun h => h)) 3; have e5 := b_cell (O35.out.keep R3.out (fun h => h)) 0; have e6 := b_cell (O35.out.keep R3.out (fun h => h)) 1; have e7 := b_cell (O35.out.keep R3.out (fun h => h)) 2; have e8 := b_cell (O35.out.keep R3.out (fun h => h)) 3))
  have row6 : ((((w5.setCell ⟨w.heap.size + 1, 0, none⟩ (.int .i64 (H - m))).setCell ⟨w.heap.size + 1, 1, none⟩ (.int .i64 P)).setCell ⟨w.heap.size + 1, 2, none⟩ (.int .i64 M)).setCell ⟨w.heap.size + 1, 3, none⟩ (.slice (some ⟨g5, 0, none⟩) 3 c5)).heap[w.heap.size + 1]? = some (.cells #[.int .i64 (H - m), .int .i64 P, .int .i64 M, .slice (some ⟨g5, 0, none⟩) 3 c5] 42 (0, 0)) := b_set (b_set (b_set (b_set (O35.out.keep R3.out (fun h => h)) 0 _) 1 _) 2 _) 3 _
  have o6 : Only (· = w.heap.size + 1) w5 ((((w5.setCell ⟨w.heap.size + 1, 0, none⟩ (.int .i64 (H - m))).setCell ⟨w.heap.size + 1, 1, none⟩ (.int .i64 P)).setCell ⟨w.heap.size + 1, 2, none⟩ (.int .i64 M)).setCell ⟨w.heap.size + 1, 3, none⟩ (.slice (some ⟨g5, 0, none⟩) 3 c5)) := o_put (o_put (o_put (o_put (Only.refl _ _) _ _) _ _) _ _) _ _
  have R6 := hid row6
  have O6 := hid o6
  clear row6 o6 R3 M3 X3
  generalize ((((w5.setCell ⟨w.heap.size + 1, 0, none⟩ (.int .i64 (H - m))).setCell ⟨w.heap.size + 1, 1, none⟩ (.int .i64 P)).setCell ⟨w.heap.size + 1, 2, none⟩ (.int .i64 M)).setCell ⟨w.heap.size + 1, 3, none⟩ (.slice (some ⟨g5, 0, none⟩) 3 c5)) = w6 at *
  have a0 := b_cell R6.out 0
  have a1 := b_cell R6.out 1
  have a2 := b_cell R6.out 2
  have a3 := b_cell R6.out 3
  simp only [List.getElem?_toArray, List.getElem?_cons_zero, List.getElem?_cons_succ] at a0 a1 a2 a3
  go_wp2_with fail
  have z3 := O3.out.size
  have z5 := O35.out.size
  have z6 := O6.out.size
  have zg5 := h5.out.1
  have hsep : ∀ a, A = some a → ¬ a.block = w.heap.size + 1 := fun a ha e => by have := HZ.out _ (HAZ.out a ha); omega
  have hE6 : Elems w6 A ll (B8 (ls k)) := by
    have := ((HE.out.same O3.out).same O35.out).only O6.out hsep
    rwa [← LL.out] at this
  refine bodyPost_ret (v := .tuple #[.agg #[.int .i64 (H - m), .int .i64 P, .int .i64 M, .slice (some ⟨g5, 0, none⟩) 3 c5], .slice A m cA]) (by simp [results, Try.results18, go_sem, a0, a1, a2, a3]) rfl ⟨.slice (some ⟨g5, 0, none⟩) 3 c5, A, cA, rfl, hid ?_, hid ?_, HAZ, ?_⟩
  · refine ⟨g5, c5, _, rfl, .inr ⟨by omega, by omega⟩, h5.out.keep O6.out (by omega), fun i hi => ?_⟩
    by_cases hik : i = k
    · subst hik
      have hdl : ((ls i).drop m).length = ll - m := by rw [List.length_drop, LL.out]
      refine ⟨dropA A cA m, cA - m, ?_, ?_, ?_, ?_⟩
      · rw [upd_at, hdl]; exact if_pos rfl
      · rw [upd_at, hdl]; omega
      · rw [upd_at, hdl]
        exact (elems_drop hE6 hml hacl).congr (fun j hj => by
          unfold B8
          rw [List.getD_eq_getElem?_getD, List.getD_eq_getElem?_getD, List.getElem?_drop])
      · intro a ha
        obtain ⟨a', ha', e⟩ := dropA_block ha
        exact .inl (e ▸ HAZ.out a' ha')
    · obtain ⟨A', cc, h1, h2, h3, h4⟩ := HX.out i hi
      refine ⟨A', cc, ?_, ?_, ?_, fun a ha => .inl (h4 a ha)⟩
      · rw [upd_ne _ _ hik]; exact (if_neg hik).trans h1
      · rw [upd_ne _ _ hik]; exact h2
      · rw [upd_ne _ _ hik]
        refine (((h3.same O3.out).same O35.out)).only O6.out (fun a ha => ?_)
        have := HZ.out _ (h4 a ha)
        omega
  · exact (hE6.head hml).congr (fun j hj => by
      unfold B8
      rw [List.getD_eq_getElem?_getD, List.getD_eq_getElem?_getD, List.getElem?_take_of_lt hj])
  · exact (O3.out.trans O35.out).trans' O6.out (fun i hi => .inr (by omega))
end Go.Proofs.Ytcehabcbmhjcmaa
