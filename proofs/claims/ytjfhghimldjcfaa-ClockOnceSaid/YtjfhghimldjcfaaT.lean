/-
  The reference's clock: without, Drop, Set.
-/
import Derived.Test.YtjfhghimldjcfaaR
namespace Go.Proofs.Ytjfhghimldjcfaa
open Go.RowKit

theorem take_snoc {α : Type} (S : List α) (k : Nat) (z : α) (hk : k < S.length) : S.take (k + 1) = S.take k ++ [S.getD k z] := by
  rw [List.take_add_one, List.getD_eq_getElem?_getD, List.getElem?_eq_getElem hk]; rfl
theorem rem_app (id : Int) (S T : List (Int × Int)) : rem id (S ++ T) = rem id S ++ rem id T := by simp [rem]
theorem has_app (id : Int) (S T : List (Int × Int)) : hasS (S ++ T) id = (hasS S id || hasS T id) := by simp [hasS]
theorem rem_one (id : Int) (d : Int × Int) : rem id [d] = if d.2 = id then [] else [d] := by
  unfold rem; by_cases h : d.2 = id <;> simp [h]
theorem has_one (id : Int) (d : Int × Int) : hasS [d] id = decide (d.2 = id) := by simp [hasS]

set_option maxHeartbeats 1000000 in
theorem without_any (S : List (Int × Int)) (id : Int) (A : Option Addr) (n c base : Nat) (w : World) (hn : S.length = n) (h : OwnD w base A c S) (hl : n ≤ 1000000) :
    Calls Try.prog 21 #[.slice A n c, .int .i64 id] w fun e w' => ∃ A' m c', e = .returned (.tuple #[.slice A' m c', .bool (hasS S id)]) ∧ (rem id S).length = m ∧ Hid (OwnD w' w.heap.size A' c' (rem id S)) ∧ Only (fun _ => False) w w' := by
  have HO := hid h
  have HN := hid hn
  have hlen := h.cap
  rw [hn] at hlen
  obtain ⟨hl1, hl2⟩ := hlen
  unfold maxLen at hl2
  clear h hn
  go_enter Try.func21, Try.ntmps21
  go_wp2_with fail
  go_loopw [6, 7, 8] (fun ov fv iv wr => ∃ (k m : Nat) (fo : Bool) (B : Option Addr) (cB : Nat), k ≤ n ∧ iv = .int .i64 (k : Int) ∧ fv = .bool fo ∧ ov = .slice B m cB ∧ Hid (hasS (S.take k) id = fo) ∧ Hid ((rem id (S.take k)).length = m) ∧ m ≤ k ∧ Hid (OwnD wr w.heap.size B cB (rem id (S.take k))) ∧ Only (fun _ => False) w wr) (fun _ _ iv _ => n - (intOf iv).toNat)
  case atStart => exact ⟨0, 0, false, _, 0, Nat.zero_le _, rfl, rfl, rfl, hid rfl, hid rfl, by omega, hid (World.ownsRow_made w #[] 0 (Nat.le_refl _) (by simp [maxLen]) rfl), (Only.refl _ _).alloc _⟩
  case round =>
    obtain ⟨k, m, fo, B, cB, hk, rfl, rfl, rfl, hf, hm, hmk, HB, o⟩ := hrel
    by_cases hlt : k < n
    · obtain ⟨g, rfl, hg, ca, cb⟩ := (HO.out.keep o (fun _ _ h => h)).at_ k (by rw [HN.out]; exact hlt)
      have htk := take_snoc S k (0, 0) (by rw [HN.out]; exact hlt)
      obtain ⟨d, hd⟩ : ∃ d, S.getD k (0, 0) = d := ⟨_, rfl⟩
      rw [hd] at ca cb htk
      obtain ⟨d1, d2⟩ := d
      simp only at ca cb
      have HTK := hid htk
      clear htk hd
      by_cases he : d2 = id
      · subst he
        have hf2 : Hid (hasS (S.take (k + 1)) d2 = true) := hid (by rw [HTK.out, has_app, has_one]; simp)
        have hr2 : rem d2 (S.take (k + 1)) = rem d2 (S.take k) := by rw [HTK.out, rem_app, rem_one]; simp
        have HR2 := hid hr2
        clear hr2
        go_wp2_with fail
        go_roundw
        case rel => exact ⟨k + 1, m, true, B, cB, by omega, by simp, rfl, rfl, hf2, hid (by rw [HR2.out]; exact hm.out), by omega, hid (by rw [HR2.out]; exact HB.out), o⟩
        case measure => simp [intOf]; omega
      · have hf2 : Hid (hasS (S.take (k + 1)) id = fo) := hid (by rw [HTK.out, has_app, has_one, hf.out]; simp [he])
        have hr2 : rem id (S.take (k + 1)) = rem id (S.take k) ++ [(d1, d2)] := by rw [HTK.out, rem_app, rem_one]; simp [he]
        have HR2 := hid hr2
        clear hr2
        go_wp2_with (first | (at_builtin; refine app_d rfl _ _ rfl w.heap.size m cB B (rem id (S.take k)) d2 d1 hm.out rfl rfl HB.out o.size (by omega) ?_; intro B4 c4 w4 hO4 hB4 o4) | fail)
        have O4 := o.trans' o4 (fun i hi => .inr (HB.out.blk i hi).1)
        clear o o4
        go_roundw
        case rel => exact ⟨k + 1, m + 1, fo, B4, c4, by omega, by simp, rfl, rfl, hf2, hid (by rw [HR2.out, List.length_append, hm.out]; rfl), by omega, hid (by rw [HR2.out]; exact hO4.out), O4⟩
        case measure => simp [intOf]; omega
    · obtain rfl : k = n := by omega
      have hall : S.take k = S := by rw [← HN.out, List.take_length]
      rw [hall] at hf hm HB
      have hf' := hf.out
      have hm' := hm.out
      clear hall hf
      go_wp2_with fail
      go_ret2
      exact ⟨B, m, cB, by rw [hf']; rfl, hm', HB, o⟩

def RC (now : Int) (A : Option Addr) (n c : Nat) : Value := .agg #[.int .i64 now, .slice A n c]
set_option maxHeartbeats 1000000 in
theorem rdrop_any (now : Int) (S : List (Int × Int)) (id : Int) (A : Option Addr) (n c base : Nat) (w : World) (hn : S.length = n) (h : OwnD w base A c S) (hl : n ≤ 1000000) :
    Calls Try.prog 14 #[RC now A n c, .int .i64 id] w fun e w' => ∃ A' m c', e = .returned (.tuple #[RC now A' m c', .bool (hasS S id)]) ∧ (rem id S).length = m ∧ Hid (OwnD w' w.heap.size A' c' (rem id S)) ∧ Only (fun _ => False) w w' := by
  have HO := hid h
  clear h
  unfold RC
  go_enter Try.func14, Try.ntmps14
  go_upto_region 1 with (fail)
  refine fold (F := fun W' => Hid (W'.heap[w.heap.size]? = some (.cells #[.int .i64 now, .slice A n c] 28 (0, 0))) ∧ Hid (W'.heap[w.heap.size + 1]? = some (.cells #[.int .i64 0, .slice none 0 0] 28 (0, 0))) ∧ Only (fun _ => False) w W' ∧ Hid (w.heap.size + 2 ≤ W'.heap.size)) ⟨hid (two_rows _ _ _).1, hid (two_rows _ _ _).2, ((Only.refl _ _).alloc _).alloc _, hid (by simp)⟩ ?_
  rintro w1 ⟨X1, R1, o1, HSZ⟩
  have x1 := b_cell X1.out 1
  simp only [List.getElem?_toArray, List.getElem?_cons_zero, List.getElem?_cons_succ] at x1
  go_wp2_with fail
  refine (without_any S id A n c base _ hn (HO.out.keep o1 (fun _ _ h => h)) hl).mono ?_
  rintro e w2 ⟨A', m, c', rfl, hm, H2, o2⟩
  obtain ⟨hs, hhs⟩ : ∃ hs, hasS S id = hs := ⟨_, rfl⟩
  rw [hhs]
  have X2 := hid (o2.keep X1.out (fun h => h))
  have R2 := hid (o2.keep R1.out (fun h => h))
  have O2 := o1.trans o2
  have hs1 := o1.size
  have HHS := hid hhs
  clear X1 R1 x1 o1 o2 hhs
  have y1 := b_free X2.out 1
  have x0 := b_cell X2.out 0
  have x1 := b_cell X2.out 1
  have z0 := b_free R2.out 0
  have z1 := b_free R2.out 1
  have e0 := b_cell R2.out 0
  have e1 := b_cell R2.out 1
  simp only [List.getElem?_toArray, List.getElem?_cons_zero, List.getElem?_cons_succ] at x0 x1 e0 e1
  go_upto_region 3 with (fail)
  have oo := o_put (Only.refl _ w2) (b := w.heap.size) 1 (.slice A' m c')
  refine fold (F := fun W' => Hid (W'.heap[w.heap.size]? = some (.cells #[.int .i64 now, .slice A' m c'] 28 (0, 0))) ∧ Hid (W'.heap[w.heap.size + 1]? = some (.cells #[.int .i64 0, .slice none 0 0] 28 (0, 0))) ∧ Hid (OwnD W' w.heap.size A' c' (rem id S)) ∧ Hid (∀ i, ab A' i → w.heap.size + 2 ≤ i) ∧ Only (fun _ => False) w W') ⟨hid (b_set X2.out 1 _), hid (oo.keep R2.out (by omega)), hid ((H2.out.mono hs1).keep oo (fun i hi => ?_)), hid (fun i hi => ?_), O2.trans' oo (fun i hi => .inr (by omega))⟩ ?_
  · have := (H2.out.blk i hi).1
    have := HSZ.out
    omega
  · have := (H2.out.blk i hi).1
    have := HSZ.out
    omega
  rintro w3 ⟨X3, R3, H3, hA3, O3⟩
  clear X2 R2 H2 O2 oo y1 x0 x1 z0 z1 e0 e1
  have x0 := b_cell X3.out 0
  have x1 := b_cell X3.out 1
  have z0 := b_free R3.out 0
  have z1 := b_free R3.out 1
  have e0 := b_cell R3.out 0
  have e1 := b_cell R3.out 1
  simp only [List.getElem?_toArray, List.getElem?_cons_zero, List.getElem?_cons_succ] at x0 x1 e0 e1
  go_wp2_with fail
  have row6 : ((w3.setCell ⟨w.heap.size + 1, 0, none⟩ (.int .i64 now)).setCell ⟨w.heap.size + 1, 1, none⟩ (.slice A' m c')).heap[w.heap.size + 1]? = some (.cells #[.int .i64 now, .slice A' m c'] 28 (0, 0)) := b_set (b_set R3.out 0 _) 1 _
  have o6 : Only (· = w.heap.size + 1) w3 ((w3.setCell ⟨w.heap.size + 1, 0, none⟩ (.int .i64 now)).setCell ⟨w.heap.size + 1, 1, none⟩ (.slice A' m c')) := o_put (o_put (Only.refl _ _) _ _) _ _
  generalize ((w3.setCell ⟨w.heap.size + 1, 0, none⟩ (.int .i64 now)).setCell ⟨w.heap.size + 1, 1, none⟩ (.slice A' m c')) = w6 at *
  have a0 := b_cell row6 0
  have a1 := b_cell row6 1
  simp only [List.getElem?_toArray, List.getElem?_cons_zero, List.getElem?_cons_succ] at a0 a1
  refine bodyPost_ret (v := .tuple #[.agg #[.int .i64 now, .slice A' m c'], .bool hs]) (by simp [results, Try.results14, go_sem, a0, a1]) rfl ⟨A', m, c', by rw [HHS.out], hm, hid (H3.out.keep o6 (fun i hi e => by have := hA3.out i hi; omega)), O3.trans' o6 (fun i hi => .inr (by omega))⟩
end Go.Proofs.Ytjfhghimldjcfaa
