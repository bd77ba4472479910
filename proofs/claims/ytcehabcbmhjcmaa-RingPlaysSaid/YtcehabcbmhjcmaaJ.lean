/-
  The references' rings: New.
-/
import Derived.Test.YtcehabcbmhjcmaaI
namespace Go.Proofs.Ytcehabcbmhjcmaa
open Go.RowKit

set_option maxHeartbeats 1000000 in
theorem new3_any (x M : Int) (w : World) (e : mclip x = M) :
    Calls Try.prog 16 #[.int .i64 x, .int .i64 3] w fun e w' => ∃ v, e = .returned (XV 0 0 M v) ∧ Hid (RefR w' (fun i => w.heap.size ≤ i ∧ i < w'.heap.size) v (fun _ => [])) ∧ Only (fun _ => False) w w' := by
  subst e
  generalize hMM : mclip x = M
  obtain ⟨i0, hi0, hzz⟩ := Option.map_eq_some_iff.1 info22
  simp only [Prod.mk.injEq] at hzz
  obtain ⟨hz0, hz1, hz2⟩ := hzz
  have HI := hid hi0
  have HZ0 := hid hz0
  have HZ1 := hid hz1
  have HZ2 := hid hz2
  have HM := hid hMM
  clear hi0 hz0 hz1 hz2 hMM
  unfold XV
  go_enter Try.func16, Try.ntmps16
  go_wp2_with fail
  refine (refNew_any x _).mono ?_
  rintro e w1 ⟨rfl, l1⟩
  have R1 := hid (b_below l1 (b_new w (.cells #[.int .i64 0, .int .i64 0, .int .i64 0, .slice none 0 0] 42)) (b_lt (b_new w _)))
  have o1 : Only (fun _ => False) w w1 := ((Only.refl _ _).alloc _).trans (Only.of_below l1)
  clear l1
  unfold Agg
  rw [HM.out]
  go_upto_region 2 with (fail)
  obtain ⟨ob, hob⟩ : ∃ ob, ob = w1.heap.size := ⟨_, rfl⟩
  have hr1 := b_lt R1.out
  rw [← hob] at hr1 ⊢
  refine fold (F := fun W' => Hid (W'.heap[ob]? = some (.cells #[.int .i64 0, .int .i64 0, .int .i64 M, .slice none 0 0] 42 (0, 0))) ∧ Hid (W'.heap[w.heap.size]? = some (.cells #[.int .i64 0, .int .i64 0, .int .i64 0, .slice none 0 0] 42 (0, 0))) ∧ Only (fun _ => False) w W') ⟨hid (by subst hob; exact b_new w1 _), hid (b_alloc R1.out _), o1.alloc _⟩ ?_
  clear R1 o1 hob
  rintro w2 ⟨X2, R2, o2⟩
  go_wp2_with fail
  go_loopw [6] (fun iv wr => ∃ (j : Nat) (A : Option Addr) (c : Nat) (xs : List Value), j ≤ 3 ∧ iv = .int .i64 (j : Int) ∧ Hid (wr.heap[ob]? = some (.cells #[.int .i64 0, .int .i64 0, .int .i64 M, .slice A j c] 42 (0, 0))) ∧ Hid (wr.heap[w.heap.size]? = some (.cells #[.int .i64 0, .int .i64 0, .int .i64 0, .slice none 0 0] 42 (0, 0))) ∧ Hid (wr.ownsRow (ob + 1) 22 1 (.slice A j c) j xs) ∧ Hid (∀ u, u ∈ xs → ∃ b, w.heap.size ≤ b ∧ b < wr.heap.size ∧ u = .slice (some ⟨b, 0, none⟩) 0 0) ∧ Only (fun _ => False) w wr) (fun iv _ => 3 - (intOf iv).toNat)
  case atStart => exact ⟨0, none, 0, [], by omega, rfl, X2, R2, World.ownsRow_nil _ _ _ _, hid (fun u h => by cases h), o2⟩
  case round =>
    clear X2 R2 o2
    obtain ⟨j, A, c, xs, hj, rfl, X3, R3, HO, HXS, o⟩ := hrel
    have x3 := b_cell X3.out 3
    simp only [List.getElem?_toArray, List.getElem?_cons_zero, List.getElem?_cons_succ] at x3
    have hxl := b_lt X3.out
    by_cases hlt : j < 3
    · have hbb : ∀ a, A = some a → ob + 1 ≤ a.block := fun a ha => (HO.out.lt a.block (by rw [ha]; rfl)).1
      have HBB := hid hbb
      clear hbb
      go_wp2_with (first | (at_builtin; refine wpList_append_lies _ rfl _ _ 34 rfl (ob + 1) 22 i0 (.slice none 0 0) 1 24 Try.underlying34 HI.out HZ0.out HZ1.out HZ2.out rfl (by omega) (.slice A j c) j xs rfl ((HO.out.alloc _).alloc _) ⟨wr.heap.size + 1, 0, none⟩ 1 1 [.slice (some ⟨wr.heap.size, 0, none⟩) 0 0] rfl rfl (World.news_of_block (two_rows _ _ _).2) (by simp [Value.oneCell']) (by omega) (by unfold maxLen; omega) (by omega) (by simp; omega) _ rfl ?_; intro g6 c6 w6 hown hgr hat hlt6; have o6 : Only (fun i => ∃ a, A = some a ∧ a.block = i) wr w6 := (((Only.refl _ _).alloc _).alloc _).grown hgr (fun k hk => by cases A with | none => simp [Value.ownBlock] at hk | some aA => simp [Value.ownBlock] at hk; exact .inl ⟨aA, rfl, hk⟩); have X6 := hid (o6.keep X3.out (by rintro ⟨a, ha, e⟩; have := HBB.out a ha; omega)); have f6 := b_free X6.out 3; have e6 := b_cell X6.out 3; have HOW := hid hown; have hsz6 := hgr.size; have HSZ6 := hid hsz6; clear hsz6; clear hown hgr hat) | fail)
      have hR6 := hid (o6.keep R3.out (by rintro ⟨a, ha, e⟩; have := HBB.out a ha; omega))
      have hg6 : ob + 1 ≤ g6 := (HOW.out.lt g6 rfl).1
      have o7 : Only (fun _ => False) w (w6.setCell ⟨ob, 3, none⟩ (.slice (some ⟨g6, 0, none⟩) (j + 1) c6)) := (o.trans' o6 (fun i => by rintro ⟨a, ha, rfl⟩; have := HBB.out a ha; exact .inr (by omega))).setCell (p := ⟨ob, 3, none⟩) (.inr (by show w.heap.size ≤ ob; omega)) _
      have hs := o.size
      have o8 : wr.heap.size < w6.heap.size := by have := HSZ6.out; simp at this; omega
      go_roundw
      case rel =>
        refine ⟨j + 1, some ⟨g6, 0, none⟩, c6, xs ++ [.slice (some ⟨wr.heap.size, 0, none⟩) 0 0], by omega, by simp, hid (b_set X6.out 3 _), hid (b_far hR6.out (by show w.heap.size ≠ ob; omega) _), own_keep HOW.out (o_put (Only.refl _ _) 3 _) (by omega), hid (fun u hu => ?_), o7⟩
        rcases List.mem_append.1 hu with hu | hu
        · obtain ⟨b, h1, h2, h3⟩ := HXS.out u hu
          exact ⟨b, h1, by have := o6.size; simp; omega, h3⟩
        · rw [List.mem_singleton] at hu
          exact ⟨_, hs, by have := own_size HOW.out; have := o8; simp; omega, hu⟩
      case measure => simp [intOf]; omega
    · obtain rfl : j = 3 := by omega
      have y0 := b_cell X3.out 0
      have y1 := b_cell X3.out 1
      have y2 := b_cell X3.out 2
      have f0 := b_free R3.out 0
      have f1 := b_free R3.out 1
      have f2 := b_free R3.out 2
      have f3 := b_free R3.out 3
      have e0 := b_cell R3.out 0
      have e1 := b_cell R3.out 1
      have e2 := b_cell R3.out 2
      have e3 := b_cell R3.out 3
      simp only [List.getElem?_toArray, List.getElem?_cons_zero, List.getElem?_cons_succ] at y0 y1 y2 e0 e1 e2 e3
      go_wp2_with fail
      obtain ⟨g, cap, hv, hgb, hgl⟩ := HO.out.form (by omega)
      simp only [Value.slice.injEq] at hv
      obtain ⟨rfl, _, rfl⟩ := hv
      have row6 : ((((wr.setCell ⟨w.heap.size, 0, none⟩ (.int .i64 0)).setCell ⟨w.heap.size, 1, none⟩ (.int .i64 0)).setCell ⟨w.heap.size, 2, none⟩ (.int .i64 M)).setCell ⟨w.heap.size, 3, none⟩ (.slice (some ⟨g, 0, none⟩) 3 c)).heap[w.heap.size]? = some (.cells #[.int .i64 0, .int .i64 0, .int .i64 M, .slice (some ⟨g, 0, none⟩) 3 c] 42 (0, 0)) := b_set (b_set (b_set (b_set R3.out 0 _) 1 _) 2 _) 3 _
      have o6 : Only (· = w.heap.size) wr ((((wr.setCell ⟨w.heap.size, 0, none⟩ (.int .i64 0)).setCell ⟨w.heap.size, 1, none⟩ (.int .i64 0)).setCell ⟨w.heap.size, 2, none⟩ (.int .i64 M)).setCell ⟨w.heap.size, 3, none⟩ (.slice (some ⟨g, 0, none⟩) 3 c)) := o_put (o_put (o_put (o_put (Only.refl _ _) _ _) _ _) _ _) _ _
      generalize ((((wr.setCell ⟨w.heap.size, 0, none⟩ (.int .i64 0)).setCell ⟨w.heap.size, 1, none⟩ (.int .i64 0)).setCell ⟨w.heap.size, 2, none⟩ (.int .i64 M)).setCell ⟨w.heap.size, 3, none⟩ (.slice (some ⟨g, 0, none⟩) 3 c)) = w6 at *
      have a0 := b_cell row6 0
      have a1 := b_cell row6 1
      have a2 := b_cell row6 2
      have a3 := b_cell row6 3
      simp only [List.getElem?_toArray, List.getElem?_cons_zero, List.getElem?_cons_succ] at a0 a1 a2 a3
      refine bodyPost_ret (v := .agg #[.int .i64 0, .int .i64 0, .int .i64 M, .slice (some ⟨g, 0, none⟩) 3 c]) (by simp [results, Try.results16, go_sem, a0, a1, a2, a3]) rfl ⟨_, rfl, hid ?_, o.trans' o6 (fun i hi => .inr (by omega))⟩
      have hO6 := own_keep HO.out o6 (by omega)
      refine ⟨g, c, fun i => xs.getD i .nilIface, rfl, ⟨by omega, (own_size hO6).2.1⟩, ⟨(own_size hO6).2.1, fun i hi => ?_⟩, fun i hi => ?_⟩
      · obtain ⟨u, hu, hc⟩ := own_cell hO6 i hi
        rw [hc]
        show some u = some (xs.getD i .nilIface)
        rw [List.getD_eq_getElem?_getD, hu]; rfl
      · obtain ⟨u, hu, _⟩ := own_cell hO6 i hi
        obtain ⟨b, hb, hb2, rfl⟩ := HXS.out u (List.mem_of_getElem? hu)
        refine ⟨some ⟨b, 0, none⟩, 0, ?_, Nat.le_refl _, fun h => absurd h (by simp), fun a ha => by cases ha; exact ⟨hb, by have := o6.size; show b < w6.heap.size; omega⟩⟩
        show xs.getD i .nilIface = _
        rw [List.getD_eq_getElem?_getD, hu]; rfl
end Go.Proofs.Ytcehabcbmhjcmaa
