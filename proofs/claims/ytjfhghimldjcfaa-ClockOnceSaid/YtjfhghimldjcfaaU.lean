/-
  The reference's clock: Set. (Printed by a program: the two ways of the clip are alike.)
-/
import Derived.Test.YtjfhghimldjcfaaT
namespace Go.Proofs.Ytjfhghimldjcfaa
open Go.RowKit

theorem ins_none (d : Int × Int) : ∀ l, (∀ x ∈ l, ¬ dlt d x) → ins d l = l ++ [d]
  | [], _ => rfl
  | y :: l, h => by
    unfold ins
    rw [if_neg (h y (List.mem_cons_self ..)), ins_none d l (fun x hx => h x (List.mem_cons_of_mem _ hx))]
    simp
theorem ins_stop (d z : Int × Int) (hz : dlt d z) : ∀ l, (∀ x ∈ l, ¬ dlt d x) → ins d (l ++ [z]) = l ++ [d] ++ [z]
  | [], _ => by simp [ins, hz]
  | y :: l, h => by
    have := ins_stop d z hz l (fun x hx => h x (List.mem_cons_of_mem _ hx))
    simp only [List.cons_append]
    unfold ins
    rw [if_neg (h y (List.mem_cons_self ..)), this]
theorem ins_more (d z : Int × Int) : ∀ l, (∃ y ∈ l, dlt d y) → ins d (l ++ [z]) = ins d l ++ [z]
  | [], h => by obtain ⟨y, hy, _⟩ := h; cases hy
  | y :: l, h => by
    simp only [List.cons_append]
    unfold ins
    by_cases hd : dlt d y
    · simp [hd]
    · rw [if_neg hd, if_neg hd, ins_more d z l (by
        obtain ⟨x, hx, hdx⟩ := h
        rcases List.mem_cons.1 hx with rfl | hx
        · exact absurd hdx hd
        · exact ⟨x, hx, hdx⟩)]
      rfl
/-- Set's list in the midst of its loop. -/
def SetSt (d : Int × Int) (R : List (Int × Int)) (i : Nat) (dn : Bool) (O : List (Int × Int)) : Prop :=
  (dn = false ∧ O = R.take i ∧ ∀ x ∈ R.take i, ¬ dlt d x) ∨ (dn = true ∧ O = ins d (R.take i) ∧ ∃ y ∈ R.take i, dlt d y)
theorem SetSt.more {d : Int × Int} {R : List (Int × Int)} {i : Nat} {O : List (Int × Int)} (h : SetSt d R i true O) (hi : i < R.length) : SetSt d R (i + 1) true (O ++ [R.getD i (0, 0)]) := by
  rcases h with ⟨h, _⟩ | ⟨_, rfl, y, hy, hd⟩
  · cases h
  · rw [SetSt, take_snoc R i (0, 0) hi]
    exact .inr ⟨rfl, (ins_more d _ _ ⟨y, hy, hd⟩).symm, y, List.mem_append_left _ hy, hd⟩
theorem SetSt.hit {d : Int × Int} {R : List (Int × Int)} {i : Nat} {O : List (Int × Int)} (h : SetSt d R i false O) (hi : i < R.length) (hd : dlt d (R.getD i (0, 0))) : SetSt d R (i + 1) true (O ++ [d] ++ [R.getD i (0, 0)]) := by
  rcases h with ⟨_, rfl, hn⟩ | ⟨h, _⟩
  · rw [SetSt, take_snoc R i (0, 0) hi]
    exact .inr ⟨rfl, (ins_stop d _ hd _ hn).symm, _, List.mem_append_right _ (List.mem_singleton.2 rfl), hd⟩
  · cases h
theorem SetSt.miss {d : Int × Int} {R : List (Int × Int)} {i : Nat} {O : List (Int × Int)} (h : SetSt d R i false O) (hi : i < R.length) (hd : ¬ dlt d (R.getD i (0, 0))) : SetSt d R (i + 1) false (O ++ [R.getD i (0, 0)]) := by
  rcases h with ⟨_, rfl, hn⟩ | ⟨h, _⟩
  · rw [SetSt, take_snoc R i (0, 0) hi]
    refine .inl ⟨rfl, rfl, fun x hx => ?_⟩
    rcases List.mem_append.1 hx with hx | hx
    · exact hn x hx
    · rw [List.mem_singleton.1 hx]; exact hd
  · cases h
theorem SetSt.endF {d : Int × Int} {R : List (Int × Int)} {O : List (Int × Int)} (h : SetSt d R R.length false O) : O ++ [d] = ins d R := by
  rcases h with ⟨_, rfl, hn⟩ | ⟨h, _⟩
  · rw [List.take_length] at hn ⊢; exact (ins_none d R hn).symm
  · cases h
theorem SetSt.endT {d : Int × Int} {R : List (Int × Int)} {O : List (Int × Int)} (h : SetSt d R R.length true O) : O = ins d R := by
  rcases h with ⟨h, _⟩ | ⟨_, rfl, _⟩
  · cases h
  · rw [List.take_length]

set_option maxHeartbeats 8000000 in
theorem rset_any (now : Int) (S : List (Int × Int)) (id at_ : Int) (A : Option Addr) (n c base : Nat) (w : World) (hn : S.length = n) (h : OwnD w base A c S) (hl : n ≤ 100000) :
    Calls Try.prog 13 #[RC now A n c, .int .i64 id, .int .i64 at_] w fun e w' => ∃ A' m c', e = .returned (RC now A' m c') ∧ (ins (min at_ 1099511627776, id) (rem id S)).length = m ∧ Hid (OwnD w' w.heap.size A' c' (ins (min at_ 1099511627776, id) (rem id S))) ∧ Only (fun _ => False) w w' := by
  have HO := hid h
  have HNN := hid hn
  clear h hn
  obtain ⟨R, hR⟩ : ∃ R, rem id S = R := ⟨_, rfl⟩
  rw [hR]
  have HRR := hid hR
  clear hR
  unfold RC
  go_enter Try.func13, Try.ntmps13
  by_cases hat : 1099511627776 < at_
  · have hmin : min at_ 1099511627776 = 1099511627776 := by omega
    rw [hmin]
    clear hmin
    go_upto_region 4 with (fail)
    refine fold (F := fun W' => Hid (W'.heap[w.heap.size]? = some (.cells #[.int .i64 now, .slice A n c] 28 (0, 0))) ∧ Hid (W'.heap[w.heap.size + 1]? = some (.cells #[.int .i64 0, .slice none 0 0] 28 (0, 0))) ∧ Hid (W'.heap[w.heap.size + 1 + 1]? = some (.cells #[.int .i64 id, .int .i64 1099511627776] 45 (0, 0))) ∧ Only (fun _ => False) w W' ∧ Hid (w.heap.size + 3 ≤ W'.heap.size)) ⟨hid (b_alloc (two_rows _ _ _).1 _), hid (b_alloc (two_rows _ _ _).2 _), hid ?_, (((Only.refl _ _).alloc _).alloc _).alloc _, hid (by simp)⟩ ?_
    · have := b_new ((w.alloc (.cells #[.int .i64 now, .slice A n c] 28)).alloc (.cells #[.int .i64 0, .slice none 0 0] 28)) (.cells #[.int .i64 id, .int .i64 1099511627776] 45 (0, 0))
      simpa using this
    rintro w1 ⟨X1, R1, D1, o1, HSZ⟩
    have x1 := b_cell X1.out 1
    simp only [List.getElem?_toArray, List.getElem?_cons_zero, List.getElem?_cons_succ] at x1
    go_wp2_with fail
    refine (without_any S id A n c base _ HNN.out (HO.out.keep o1 (fun _ _ h => h)) (by omega)).mono ?_
    rintro e w2 ⟨A1, m1, c1, rfl, hm1, HR, o2⟩
    rw [HRR.out] at hm1 HR
    have hmn : m1 ≤ n := by rw [← hm1, ← HRR.out, ← HNN.out]; exact List.length_filter_le _ _
    obtain ⟨hs, hhs⟩ : ∃ hs, hasS S id = hs := ⟨_, rfl⟩
    rw [hhs]
    have HM1 := hid hm1
    have X2 := hid (o2.keep X1.out (fun h => h))
    have R2 := hid (o2.keep R1.out (fun h => h))
    have D2 := hid (o2.keep D1.out (fun h => h))
    have O2 := o1.trans o2
    have hs12 := o2.size
    have hrc := HR.out.cap
    rw [hm1] at hrc
    obtain ⟨hrc1, hrc2⟩ := hrc
    unfold maxLen at hrc2
    have HS2 : Hid (w.heap.size + 3 ≤ w2.heap.size) := hid (by have := HSZ.out; omega)
    clear X1 R1 D1 x1 o1 o2 hhs hm1 hs12
    go_wp2_with fail
    go_loopw [10, 11, 12] (fun ov dv iv wr => ∃ (i : Nat) (dn : Bool) (g : Nat) (B : Option Addr) (cB : Nat) (O : List (Int × Int)), i ≤ m1 ∧ iv = .int .i64 (i : Int) ∧ dv = .bool dn ∧ ov = .slice B g cB ∧ Hid (O.length = g) ∧ g ≤ i + 1 ∧ (dn = false → g ≤ i) ∧ Hid (SetSt (1099511627776, id) R i dn O) ∧ Hid (OwnD wr w2.heap.size B cB O) ∧ Hid (OwnD wr w1.heap.size A1 c1 R) ∧ Hid (wr.heap[w.heap.size]? = some (.cells #[.int .i64 now, .slice A n c] 28 (0, 0))) ∧ Hid (wr.heap[w.heap.size + 1]? = some (.cells #[.int .i64 0, .slice none 0 0] 28 (0, 0))) ∧ Hid (wr.heap[w.heap.size + 1 + 1]? = some (.cells #[.int .i64 id, .int .i64 1099511627776] 45 (0, 0))) ∧ Only (fun _ => False) w wr ∧ Hid (w2.heap.size ≤ wr.heap.size)) (fun _ _ iv _ => m1 - (intOf iv).toNat)
    case atStart =>
      have oA : Only (fun _ => False) w2 (w2.alloc (.cells #[] 45)) := (Only.refl _ w2).alloc _
      exact ⟨0, false, 0, _, 0, [], Nat.zero_le _, rfl, rfl, rfl, hid rfl, by omega, (fun _ => by omega), hid (.inl ⟨rfl, by simp, by simp⟩), hid (World.ownsRow_made w2 #[] 0 (Nat.le_refl _) (by simp [maxLen]) rfl), hid (HR.out.keep oA (fun _ _ h => h)), hid (oA.keep X2.out (fun h => h)), hid (oA.keep R2.out (fun h => h)), hid (oA.keep D2.out (fun h => h)), O2.trans oA, hid (by simp)⟩
    case round =>
      have hA1 : Hid (∀ j, ab A1 j → j < w2.heap.size) := hid (fun j hj => (HR.out.blk j hj).2)
      clear HR X2 R2 D2 O2
      obtain ⟨i, dn, g, B, cB, O, hi, rfl, rfl, rfl, hg, hgi, hgf, hst, HB, HR, X, Rr, D, o, hsz⟩ := hrel
      have hBb : Hid (∀ j, ab B j → w2.heap.size ≤ j) := hid (fun j hj => (HB.out.blk j hj).1)
      have hgf : dn = false → g ≤ i := hgf
      by_cases hlt : i < m1
      · obtain ⟨ga, rfl, hga, ca, cb⟩ := HR.out.at_ i (by rw [HM1.out]; exact hlt)
        obtain ⟨z, hz⟩ : ∃ z, R.getD i (0, 0) = z := ⟨_, rfl⟩
        have hiR : i < R.length := by rw [HM1.out]; exact hlt
        obtain ⟨z1, z2⟩ := z
        rw [hz] at ca cb
        simp only at ca cb
        have HZ := hid hz
        have HIR := hid hiR
        have e0 := b_cell D.out 0
        have e1 := b_cell D.out 1
        simp only [List.getElem?_toArray, List.getElem?_cons_zero, List.getElem?_cons_succ] at e0 e1
        have hDl := b_lt D.out
        clear hz hiR
        cases dn with
        | true =>
          have hst2 : Hid (SetSt (1099511627776, id) R (i + 1) true (O ++ [(z1, z2)])) := hid (by rw [← HZ.out]; exact hst.out.more HIR.out)
          go_upto_region 10 with (fail)
          go_region
          have HBd : Hid (OwnD wr.drew w2.heap.size B cB O) := hid (HB.out.keep (T := fun _ => False) ((Only.refl _ _).drew) (fun _ _ h => h))
          go_wp2_with (first | (at_builtin; refine app_d rfl _ _ rfl w2.heap.size g cB B O z2 z1 hg.out rfl rfl HBd.out hsz.out (by omega) ?_; intro B4 c4 w4 hO4 hB4 o4') | fail)
          have o4 : Only (ab B) wr w4 := ⟨o4'.os, o4'.tape, o4'.output, o4'.size, o4'.block⟩
          have hf := hBb.out
          have hs2 := HS2.out
          have O4 := o.trans' o4 (fun j hj => .inr (by have := hf j hj; omega))
          go_roundw
          case rel => exact ⟨i + 1, true, g + 1, B4, c4, _, by omega, by simp, rfl, rfl, hid (by rw [List.length_append, hg.out]; rfl), by omega, (fun h => by cases h), hst2, hO4, hid (HR.out.keep o4 (fun j hj hb => by have := hf j hb; have := hA1.out j hj; omega)), hid (o4.keep X.out (fun hb => by have := hf _ hb; omega)), hid (o4.keep Rr.out (fun hb => by have := hf _ hb; omega)), hid (o4.keep D.out (fun hb => by have := hf _ hb; omega)), O4, hid (Nat.le_trans hsz.out o4.size)⟩
          case measure => simp [intOf]; omega
        | false =>
          have hgf' := hgf rfl
          by_cases hd : dlt (1099511627776, id) (z1, z2)
          · have hdec : Hid (decide (dlt (1099511627776, id) (z1, z2)) = true) := hid (decide_eq_true hd)
            have hst2 : Hid (SetSt (1099511627776, id) R (i + 1) true (O ++ [(1099511627776, id)] ++ [(z1, z2)])) := hid (by rw [← HZ.out]; exact hst.out.hit HIR.out (by rw [HZ.out]; exact hd))
            clear hd
            go_upto_region 10 with (fail)
            go_region_held3 (fun w' => w'.cell? ⟨w.heap.size + 1 + 1, 0, none⟩ = some (.int .i64 id) ∧ w'.cell? ⟨w.heap.size + 1 + 1, 1, none⟩ = some (.int .i64 1099511627776) ∧ w'.cell? ⟨ga, i * 2, none⟩ = some (.int .i64 z2) ∧ w'.cell? ⟨ga, i * 2 + 1, none⟩ = some (.int .i64 z1)) (go_keep)
              (first | (go_at_call 22; refine (ahead_any (1099511627776, id) (z1, z2) _).mono ?_; rintro e w5 ⟨rfl, o5'⟩; rw [hdec.out]; have o5 : Only (fun _ => False) wr w5 := ⟨o5'.os, o5'.tape, o5'.output, o5'.size, o5'.block⟩; have f0 := (o5.cell (p := ⟨w.heap.size + 1 + 1, 0, none⟩) hDl (fun h => h)).trans e0; have f1 := (o5.cell (p := ⟨w.heap.size + 1 + 1, 1, none⟩) hDl (fun h => h)).trans e1; have f2 := (o5.cell (p := ⟨ga, i * 2, none⟩) hga (fun h => h)).trans ca; have f3 := (o5.cell (p := ⟨ga, i * 2 + 1, none⟩) hga (fun h => h)).trans cb))
            have HB5 := hid (HB.out.keep o5 (fun _ _ h => h))
            have hs5 := Nat.le_trans hsz.out o5.size
            clear o5' e0 e1 ca cb
            go_upto_region 13 with ((first | (at_builtin; refine app_d rfl _ _ rfl w2.heap.size g cB B O id 1099511627776 hg.out rfl rfl HB5.out hs5 (by omega) ?_; intro B6 c6 w6 hO6 hB6 o6) | fail))
            have hf := hBb.out
            have hs2 := HS2.out
            have o56 : Only (ab B) wr w6 := (o5.mono (fun _ h => h.elim)).trans o6
            have hs6 := Nat.le_trans hs5 o6.size
            have hf6 : ∀ j, ab B6 j → w2.heap.size ≤ j := fun j hj => (hO6.out.blk j hj).1
            have HR6 := hid (HR.out.keep o56 (fun j hj hb => by have := hf j hb; have := hA1.out j hj; omega))
            obtain ⟨ga', ega, hga6, ca6, cb6⟩ := HR6.out.at_ i (by rw [HM1.out]; exact hlt)
            cases ega
            rw [HZ.out] at ca6 cb6
            simp only at ca6 cb6
            have X6 := hid (o56.keep X.out (fun hb => by have := hf _ hb; omega))
            have Rr6 := hid (o56.keep Rr.out (fun hb => by have := hf _ hb; omega))
            have D6 := hid (o56.keep D.out (fun hb => by have := hf _ hb; omega))
            have O6 := o.trans' o56 (fun j hj => .inr (by have := hf j hj; omega))
            have hg6 : Hid ((O ++ [(1099511627776, id)]).length = g + 1) := hid (by rw [List.length_append, hg.out]; rfl)
            clear f0 f1 f2 f3 o5 o6 o56 HB5 HB HR X Rr D
            go_wp2_with (first | (at_builtin; refine app_d rfl _ _ rfl w2.heap.size (g + 1) c6 B6 (O ++ [(1099511627776, id)]) z2 z1 hg6.out rfl rfl hO6.out hs6 (by omega) ?_; intro B7 c7 w7 hO7 hB7 o7) | fail)
            have O7 := O6.trans' o7 (fun j hj => .inr (by have := hf6 j hj; omega))
            go_roundw
            case rel => exact ⟨i + 1, true, g + 1 + 1, B7, c7, _, by omega, by simp, rfl, rfl, hid (by rw [List.length_append, hg6.out]; rfl), by omega, (fun h => by cases h), hst2, hO7, hid (HR6.out.keep o7 (fun j hj hb => by have := hf6 j hb; have := hA1.out j hj; omega)), hid (o7.keep X6.out (fun hb => by have := hf6 _ hb; omega)), hid (o7.keep Rr6.out (fun hb => by have := hf6 _ hb; omega)), hid (o7.keep D6.out (fun hb => by have := hf6 _ hb; omega)), O7, hid (Nat.le_trans hs6 o7.size)⟩
            case measure => simp [intOf]; omega
          · have hdec : Hid (decide (dlt (1099511627776, id) (z1, z2)) = false) := hid (decide_eq_false hd)
            have hst2 : Hid (SetSt (1099511627776, id) R (i + 1) false (O ++ [(z1, z2)])) := hid (by rw [← HZ.out]; exact hst.out.miss HIR.out (by rw [HZ.out]; exact hd))
            clear hd
            go_upto_region 10 with (fail)
            go_region_held3 (fun w' => w'.cell? ⟨w.heap.size + 1 + 1, 0, none⟩ = some (.int .i64 id) ∧ w'.cell? ⟨w.heap.size + 1 + 1, 1, none⟩ = some (.int .i64 1099511627776) ∧ w'.cell? ⟨ga, i * 2, none⟩ = some (.int .i64 z2) ∧ w'.cell? ⟨ga, i * 2 + 1, none⟩ = some (.int .i64 z1)) (go_keep)
              (first | (go_at_call 22; refine (ahead_any (1099511627776, id) (z1, z2) _).mono ?_; rintro e w5 ⟨rfl, o5'⟩; rw [hdec.out]; have o5 : Only (fun _ => False) wr w5 := ⟨o5'.os, o5'.tape, o5'.output, o5'.size, o5'.block⟩; have f0 := (o5.cell (p := ⟨w.heap.size + 1 + 1, 0, none⟩) hDl (fun h => h)).trans e0; have f1 := (o5.cell (p := ⟨w.heap.size + 1 + 1, 1, none⟩) hDl (fun h => h)).trans e1; have f2 := (o5.cell (p := ⟨ga, i * 2, none⟩) hga (fun h => h)).trans ca; have f3 := (o5.cell (p := ⟨ga, i * 2 + 1, none⟩) hga (fun h => h)).trans cb))
            have HB5 := hid (HB.out.keep o5 (fun _ _ h => h))
            have hs5 := Nat.le_trans hsz.out o5.size
            clear o5' e0 e1 ca cb
            go_wp2_with (first | (at_builtin; refine app_d rfl _ _ rfl w2.heap.size g cB B O z2 z1 hg.out rfl rfl HB5.out hs5 (by omega) ?_; intro B6 c6 w6 hO6 hB6 o6) | fail)
            have hf := hBb.out
            have hs2 := HS2.out
            have o56 : Only (ab B) wr w6 := (o5.mono (fun _ h => h.elim)).trans o6
            have O6 := o.trans' o56 (fun j hj => .inr (by have := hf j hj; omega))
            clear f0 f1 f2 f3
            go_roundw
            case rel => exact ⟨i + 1, false, g + 1, B6, c6, _, by omega, by simp, rfl, rfl, hid (by rw [List.length_append, hg.out]; rfl), by omega, (fun _ => by omega), hst2, hO6, hid (HR.out.keep o56 (fun j hj hb => by have := hf j hb; have := hA1.out j hj; omega)), hid (o56.keep X.out (fun hb => by have := hf _ hb; omega)), hid (o56.keep Rr.out (fun hb => by have := hf _ hb; omega)), hid (o56.keep D.out (fun hb => by have := hf _ hb; omega)), O6, hid (Nat.le_trans hs5 o6.size)⟩
            case measure => simp [intOf]; omega
      · obtain rfl : i = m1 := by omega
        have hf := hBb.out
        have hs2 := HS2.out
        have hst' := hst
        rw [← HM1.out] at hst'
        have e0 := b_cell D.out 0
        have e1 := b_cell D.out 1
        simp only [List.getElem?_toArray, List.getElem?_cons_zero, List.getElem?_cons_succ] at e0 e1
        have y1 := b_free X.out 1
        have x1 := b_cell X.out 1
        simp only [List.getElem?_toArray, List.getElem?_cons_zero, List.getElem?_cons_succ] at x1
        cases dn with
        | true =>
          have hfin := hid hst'.out.endT
          go_upto_region 16 with (fail)
          refine fold (F := fun W' => ∃ (B4 : Option Addr) (g4 c4 : Nat), (Value.slice B g cB = .slice B4 g4 c4) ∧ W' = wr) ⟨B, g, cB, rfl, rfl⟩ ?_
          rintro w4 ⟨B4, g4, c4, hv, rfl⟩
          cases hv
          have HB4 : Hid (OwnD w4 w2.heap.size B cB (ins (1099511627776, id) R)) := hid (by rw [← hfin.out]; exact HB.out)
          have hg4 : Hid ((ins (1099511627776, id) R).length = g) := hid (by rw [← hfin.out]; exact hg.out)
          clear HB hg hst hst' hfin e0 e1
          have x0 := b_cell X.out 0
          have z0 := b_free Rr.out 0
          have z1' := b_free Rr.out 1
          have r0 := b_cell Rr.out 0
          have r1 := b_cell Rr.out 1
          simp only [List.getElem?_toArray, List.getElem?_cons_zero, List.getElem?_cons_succ] at x0 r0 r1
          go_upto_region 17 with (fail)
          have oo := o_put (Only.refl _ w4) (b := w.heap.size) 1 (.slice B g cB)
          refine fold (F := fun W' => Hid (W'.heap[w.heap.size]? = some (.cells #[.int .i64 now, .slice B g cB] 28 (0, 0))) ∧ Hid (W'.heap[w.heap.size + 1]? = some (.cells #[.int .i64 0, .slice none 0 0] 28 (0, 0))) ∧ Hid (OwnD W' w2.heap.size B cB (ins (1099511627776, id) R)) ∧ Only (fun _ => False) w W') ⟨hid (b_set X.out 1 _), hid (oo.keep Rr.out (by omega)), hid (HB4.out.keep oo (fun j hj e => by have := (HB4.out.blk j hj).1; omega)), o.trans' oo (fun j hj => .inr (by omega))⟩ ?_
          rintro w7 ⟨X7, R7, HB7, O7⟩
          clear x0 x1 y1 z0 z1' r0 r1 oo
          have x0 := b_cell X7.out 0
          have x1 := b_cell X7.out 1
          have z0 := b_free R7.out 0
          have z1' := b_free R7.out 1
          have r0 := b_cell R7.out 0
          have r1 := b_cell R7.out 1
          simp only [List.getElem?_toArray, List.getElem?_cons_zero, List.getElem?_cons_succ] at x0 x1 r0 r1
          go_wp2_with fail
          have row6 : ((w7.setCell ⟨w.heap.size + 1, 0, none⟩ (.int .i64 now)).setCell ⟨w.heap.size + 1, 1, none⟩ (.slice B g cB)).heap[w.heap.size + 1]? = some (.cells #[.int .i64 now, .slice B g cB] 28 (0, 0)) := b_set (b_set R7.out 0 _) 1 _
          have o8 : Only (· = w.heap.size + 1) w7 ((w7.setCell ⟨w.heap.size + 1, 0, none⟩ (.int .i64 now)).setCell ⟨w.heap.size + 1, 1, none⟩ (.slice B g cB)) := o_put (o_put (Only.refl _ _) _ _) _ _
          generalize ((w7.setCell ⟨w.heap.size + 1, 0, none⟩ (.int .i64 now)).setCell ⟨w.heap.size + 1, 1, none⟩ (.slice B g cB)) = w8 at *
          have a0 := b_cell row6 0
          have a1 := b_cell row6 1
          simp only [List.getElem?_toArray, List.getElem?_cons_zero, List.getElem?_cons_succ] at a0 a1
          refine bodyPost_ret (v := .agg #[.int .i64 now, .slice B g cB]) (by simp [results, Try.results13, go_sem, a0, a1]) rfl ⟨B, g, cB, rfl, hg4.out, hid ((HB7.out.mono (by omega)).keep o8 (fun j hj e => by have := (HB7.out.blk j hj).1; omega)), O7.trans' o8 (fun j hj => .inr (by omega))⟩
        | false =>
          have hfin := hid hst'.out.endF
          go_upto_region 16 with ((first | (at_builtin; refine app_d rfl _ _ rfl w2.heap.size g cB B O id 1099511627776 hg.out rfl rfl HB.out hsz.out (by omega) ?_; intro B6 c6 w6 hO6 hB6 o6) | fail))
          have hf6 : ∀ j, ab B6 j → w2.heap.size ≤ j := fun j hj => (hO6.out.blk j hj).1
          have X6 := hid (o6.keep X.out (fun hb => by have := hf _ hb; omega))
          have Rr6 := hid (o6.keep Rr.out (fun hb => by have := hf _ hb; omega))
          have O6 := o.trans' o6 (fun j hj => .inr (by have := hf j hj; omega))
          have HB4 : Hid (OwnD w6 w2.heap.size B6 c6 (ins (1099511627776, id) R)) := hid (by rw [← hfin.out]; exact hO6.out)
          have hg4 : Hid ((ins (1099511627776, id) R).length = g + 1) := hid (by rw [← hfin.out, List.length_append, hg.out]; rfl)
          clear HB hg hst hst' hfin e0 e1 y1 x1 X Rr D o hf o6 HR
          have y1 := b_free X6.out 1
          have x1 := b_cell X6.out 1
          simp only [List.getElem?_toArray, List.getElem?_cons_zero, List.getElem?_cons_succ] at x1
          have x0 := b_cell X6.out 0
          have z0 := b_free Rr6.out 0
          have z1' := b_free Rr6.out 1
          have r0 := b_cell Rr6.out 0
          have r1 := b_cell Rr6.out 1
          simp only [List.getElem?_toArray, List.getElem?_cons_zero, List.getElem?_cons_succ] at x0 r0 r1
          go_upto_region 17 with (fail)
          have oo := o_put (Only.refl _ w6) (b := w.heap.size) 1 (.slice B6 (g + 1) c6)
          refine fold (F := fun W' => Hid (W'.heap[w.heap.size]? = some (.cells #[.int .i64 now, .slice B6 (g + 1) c6] 28 (0, 0))) ∧ Hid (W'.heap[w.heap.size + 1]? = some (.cells #[.int .i64 0, .slice none 0 0] 28 (0, 0))) ∧ Hid (OwnD W' w2.heap.size B6 c6 (ins (1099511627776, id) R)) ∧ Only (fun _ => False) w W') ⟨hid (b_set X6.out 1 _), hid (oo.keep Rr6.out (by omega)), hid (HB4.out.keep oo (fun j hj e => by have := (HB4.out.blk j hj).1; omega)), O6.trans' oo (fun j hj => .inr (by omega))⟩ ?_
          rintro w7 ⟨X7, R7, HB7, O7⟩
          clear x0 x1 y1 z0 z1' r0 r1 oo
          have x0 := b_cell X7.out 0
          have x1 := b_cell X7.out 1
          have z0 := b_free R7.out 0
          have z1' := b_free R7.out 1
          have r0 := b_cell R7.out 0
          have r1 := b_cell R7.out 1
          simp only [List.getElem?_toArray, List.getElem?_cons_zero, List.getElem?_cons_succ] at x0 x1 r0 r1
          go_wp2_with fail
          have row6 : ((w7.setCell ⟨w.heap.size + 1, 0, none⟩ (.int .i64 now)).setCell ⟨w.heap.size + 1, 1, none⟩ (.slice B6 (g + 1) c6)).heap[w.heap.size + 1]? = some (.cells #[.int .i64 now, .slice B6 (g + 1) c6] 28 (0, 0)) := b_set (b_set R7.out 0 _) 1 _
          have o8 : Only (· = w.heap.size + 1) w7 ((w7.setCell ⟨w.heap.size + 1, 0, none⟩ (.int .i64 now)).setCell ⟨w.heap.size + 1, 1, none⟩ (.slice B6 (g + 1) c6)) := o_put (o_put (Only.refl _ _) _ _) _ _
          generalize ((w7.setCell ⟨w.heap.size + 1, 0, none⟩ (.int .i64 now)).setCell ⟨w.heap.size + 1, 1, none⟩ (.slice B6 (g + 1) c6)) = w8 at *
          have a0 := b_cell row6 0
          have a1 := b_cell row6 1
          simp only [List.getElem?_toArray, List.getElem?_cons_zero, List.getElem?_cons_succ] at a0 a1
          refine bodyPost_ret (v := .agg #[.int .i64 now, .slice B6 (g + 1) c6]) (by simp [results, Try.results13, go_sem, a0, a1]) rfl ⟨B6, (g + 1), c6, rfl, hg4.out, hid ((HB7.out.mono (by omega)).keep o8 (fun j hj e => by have := (HB7.out.blk j hj).1; omega)), O7.trans' o8 (fun j hj => .inr (by omega))⟩
  · have hmin : min at_ 1099511627776 = at_ := by omega
    rw [hmin]
    clear hmin
    go_upto_region 4 with (fail)
    refine fold (F := fun W' => Hid (W'.heap[w.heap.size]? = some (.cells #[.int .i64 now, .slice A n c] 28 (0, 0))) ∧ Hid (W'.heap[w.heap.size + 1]? = some (.cells #[.int .i64 0, .slice none 0 0] 28 (0, 0))) ∧ Hid (W'.heap[w.heap.size + 1 + 1]? = some (.cells #[.int .i64 id, .int .i64 at_] 45 (0, 0))) ∧ Only (fun _ => False) w W' ∧ Hid (w.heap.size + 3 ≤ W'.heap.size)) ⟨hid (b_alloc (two_rows _ _ _).1 _), hid (b_alloc (two_rows _ _ _).2 _), hid ?_, (((Only.refl _ _).alloc _).alloc _).alloc _, hid (by simp)⟩ ?_
    · have := b_new ((w.alloc (.cells #[.int .i64 now, .slice A n c] 28)).alloc (.cells #[.int .i64 0, .slice none 0 0] 28)) (.cells #[.int .i64 id, .int .i64 at_] 45 (0, 0))
      simpa using this
    rintro w1 ⟨X1, R1, D1, o1, HSZ⟩
    have x1 := b_cell X1.out 1
    simp only [List.getElem?_toArray, List.getElem?_cons_zero, List.getElem?_cons_succ] at x1
    go_wp2_with fail
    refine (without_any S id A n c base _ HNN.out (HO.out.keep o1 (fun _ _ h => h)) (by omega)).mono ?_
    rintro e w2 ⟨A1, m1, c1, rfl, hm1, HR, o2⟩
    rw [HRR.out] at hm1 HR
    have hmn : m1 ≤ n := by rw [← hm1, ← HRR.out, ← HNN.out]; exact List.length_filter_le _ _
    obtain ⟨hs, hhs⟩ : ∃ hs, hasS S id = hs := ⟨_, rfl⟩
    rw [hhs]
    have HM1 := hid hm1
    have X2 := hid (o2.keep X1.out (fun h => h))
    have R2 := hid (o2.keep R1.out (fun h => h))
    have D2 := hid (o2.keep D1.out (fun h => h))
    have O2 := o1.trans o2
    have hs12 := o2.size
    have hrc := HR.out.cap
    rw [hm1] at hrc
    obtain ⟨hrc1, hrc2⟩ := hrc
    unfold maxLen at hrc2
    have HS2 : Hid (w.heap.size + 3 ≤ w2.heap.size) := hid (by have := HSZ.out; omega)
    clear X1 R1 D1 x1 o1 o2 hhs hm1 hs12
    go_wp2_with fail
    go_loopw [10, 11, 12] (fun ov dv iv wr => ∃ (i : Nat) (dn : Bool) (g : Nat) (B : Option Addr) (cB : Nat) (O : List (Int × Int)), i ≤ m1 ∧ iv = .int .i64 (i : Int) ∧ dv = .bool dn ∧ ov = .slice B g cB ∧ Hid (O.length = g) ∧ g ≤ i + 1 ∧ (dn = false → g ≤ i) ∧ Hid (SetSt (at_, id) R i dn O) ∧ Hid (OwnD wr w2.heap.size B cB O) ∧ Hid (OwnD wr w1.heap.size A1 c1 R) ∧ Hid (wr.heap[w.heap.size]? = some (.cells #[.int .i64 now, .slice A n c] 28 (0, 0))) ∧ Hid (wr.heap[w.heap.size + 1]? = some (.cells #[.int .i64 0, .slice none 0 0] 28 (0, 0))) ∧ Hid (wr.heap[w.heap.size + 1 + 1]? = some (.cells #[.int .i64 id, .int .i64 at_] 45 (0, 0))) ∧ Only (fun _ => False) w wr ∧ Hid (w2.heap.size ≤ wr.heap.size)) (fun _ _ iv _ => m1 - (intOf iv).toNat)
    case atStart =>
      have oA : Only (fun _ => False) w2 (w2.alloc (.cells #[] 45)) := (Only.refl _ w2).alloc _
      exact ⟨0, false, 0, _, 0, [], Nat.zero_le _, rfl, rfl, rfl, hid rfl, by omega, (fun _ => by omega), hid (.inl ⟨rfl, by simp, by simp⟩), hid (World.ownsRow_made w2 #[] 0 (Nat.le_refl _) (by simp [maxLen]) rfl), hid (HR.out.keep oA (fun _ _ h => h)), hid (oA.keep X2.out (fun h => h)), hid (oA.keep R2.out (fun h => h)), hid (oA.keep D2.out (fun h => h)), O2.trans oA, hid (by simp)⟩
    case round =>
      have hA1 : Hid (∀ j, ab A1 j → j < w2.heap.size) := hid (fun j hj => (HR.out.blk j hj).2)
      clear HR X2 R2 D2 O2
      obtain ⟨i, dn, g, B, cB, O, hi, rfl, rfl, rfl, hg, hgi, hgf, hst, HB, HR, X, Rr, D, o, hsz⟩ := hrel
      have hBb : Hid (∀ j, ab B j → w2.heap.size ≤ j) := hid (fun j hj => (HB.out.blk j hj).1)
      have hgf : dn = false → g ≤ i := hgf
      by_cases hlt : i < m1
      · obtain ⟨ga, rfl, hga, ca, cb⟩ := HR.out.at_ i (by rw [HM1.out]; exact hlt)
        obtain ⟨z, hz⟩ : ∃ z, R.getD i (0, 0) = z := ⟨_, rfl⟩
        have hiR : i < R.length := by rw [HM1.out]; exact hlt
        obtain ⟨z1, z2⟩ := z
        rw [hz] at ca cb
        simp only at ca cb
        have HZ := hid hz
        have HIR := hid hiR
        have e0 := b_cell D.out 0
        have e1 := b_cell D.out 1
        simp only [List.getElem?_toArray, List.getElem?_cons_zero, List.getElem?_cons_succ] at e0 e1
        have hDl := b_lt D.out
        clear hz hiR
        cases dn with
        | true =>
          have hst2 : Hid (SetSt (at_, id) R (i + 1) true (O ++ [(z1, z2)])) := hid (by rw [← HZ.out]; exact hst.out.more HIR.out)
          go_upto_region 10 with (fail)
          go_region
          have HBd : Hid (OwnD wr.drew w2.heap.size B cB O) := hid (HB.out.keep (T := fun _ => False) ((Only.refl _ _).drew) (fun _ _ h => h))
          go_wp2_with (first | (at_builtin; refine app_d rfl _ _ rfl w2.heap.size g cB B O z2 z1 hg.out rfl rfl HBd.out hsz.out (by omega) ?_; intro B4 c4 w4 hO4 hB4 o4') | fail)
          have o4 : Only (ab B) wr w4 := ⟨o4'.os, o4'.tape, o4'.output, o4'.size, o4'.block⟩
          have hf := hBb.out
          have hs2 := HS2.out
          have O4 := o.trans' o4 (fun j hj => .inr (by have := hf j hj; omega))
          go_roundw
          case rel => exact ⟨i + 1, true, g + 1, B4, c4, _, by omega, by simp, rfl, rfl, hid (by rw [List.length_append, hg.out]; rfl), by omega, (fun h => by cases h), hst2, hO4, hid (HR.out.keep o4 (fun j hj hb => by have := hf j hb; have := hA1.out j hj; omega)), hid (o4.keep X.out (fun hb => by have := hf _ hb; omega)), hid (o4.keep Rr.out (fun hb => by have := hf _ hb; omega)), hid (o4.keep D.out (fun hb => by have := hf _ hb; omega)), O4, hid (Nat.le_trans hsz.out o4.size)⟩
          case measure => simp [intOf]; omega
        | false =>
          have hgf' := hgf rfl
          by_cases hd : dlt (at_, id) (z1, z2)
          · have hdec : Hid (decide (dlt (at_, id) (z1, z2)) = true) := hid (decide_eq_true hd)
            have hst2 : Hid (SetSt (at_, id) R (i + 1) true (O ++ [(at_, id)] ++ [(z1, z2)])) := hid (by rw [← HZ.out]; exact hst.out.hit HIR.out (by rw [HZ.out]; exact hd))
            clear hd
            go_upto_region 10 with (fail)
            go_region_held3 (fun w' => w'.cell? ⟨w.heap.size + 1 + 1, 0, none⟩ = some (.int .i64 id) ∧ w'.cell? ⟨w.heap.size + 1 + 1, 1, none⟩ = some (.int .i64 at_) ∧ w'.cell? ⟨ga, i * 2, none⟩ = some (.int .i64 z2) ∧ w'.cell? ⟨ga, i * 2 + 1, none⟩ = some (.int .i64 z1)) (go_keep)
              (first | (go_at_call 22; refine (ahead_any (at_, id) (z1, z2) _).mono ?_; rintro e w5 ⟨rfl, o5'⟩; rw [hdec.out]; have o5 : Only (fun _ => False) wr w5 := ⟨o5'.os, o5'.tape, o5'.output, o5'.size, o5'.block⟩; have f0 := (o5.cell (p := ⟨w.heap.size + 1 + 1, 0, none⟩) hDl (fun h => h)).trans e0; have f1 := (o5.cell (p := ⟨w.heap.size + 1 + 1, 1, none⟩) hDl (fun h => h)).trans e1; have f2 := (o5.cell (p := ⟨ga, i * 2, none⟩) hga (fun h => h)).trans ca; have f3 := (o5.cell (p := ⟨ga, i * 2 + 1, none⟩) hga (fun h => h)).trans cb))
            have HB5 := hid (HB.out.keep o5 (fun _ _ h => h))
            have hs5 := Nat.le_trans hsz.out o5.size
            clear o5' e0 e1 ca cb
            go_upto_region 13 with ((first | (at_builtin; refine app_d rfl _ _ rfl w2.heap.size g cB B O id at_ hg.out rfl rfl HB5.out hs5 (by omega) ?_; intro B6 c6 w6 hO6 hB6 o6) | fail))
            have hf := hBb.out
            have hs2 := HS2.out
            have o56 : Only (ab B) wr w6 := (o5.mono (fun _ h => h.elim)).trans o6
            have hs6 := Nat.le_trans hs5 o6.size
            have hf6 : ∀ j, ab B6 j → w2.heap.size ≤ j := fun j hj => (hO6.out.blk j hj).1
            have HR6 := hid (HR.out.keep o56 (fun j hj hb => by have := hf j hb; have := hA1.out j hj; omega))
            obtain ⟨ga', ega, hga6, ca6, cb6⟩ := HR6.out.at_ i (by rw [HM1.out]; exact hlt)
            cases ega
            rw [HZ.out] at ca6 cb6
            simp only at ca6 cb6
            have X6 := hid (o56.keep X.out (fun hb => by have := hf _ hb; omega))
            have Rr6 := hid (o56.keep Rr.out (fun hb => by have := hf _ hb; omega))
            have D6 := hid (o56.keep D.out (fun hb => by have := hf _ hb; omega))
            have O6 := o.trans' o56 (fun j hj => .inr (by have := hf j hj; omega))
            have hg6 : Hid ((O ++ [(at_, id)]).length = g + 1) := hid (by rw [List.length_append, hg.out]; rfl)
            clear f0 f1 f2 f3 o5 o6 o56 HB5 HB HR X Rr D
            go_wp2_with (first | (at_builtin; refine app_d rfl _ _ rfl w2.heap.size (g + 1) c6 B6 (O ++ [(at_, id)]) z2 z1 hg6.out rfl rfl hO6.out hs6 (by omega) ?_; intro B7 c7 w7 hO7 hB7 o7) | fail)
            have O7 := O6.trans' o7 (fun j hj => .inr (by have := hf6 j hj; omega))
            go_roundw
            case rel => exact ⟨i + 1, true, g + 1 + 1, B7, c7, _, by omega, by simp, rfl, rfl, hid (by rw [List.length_append, hg6.out]; rfl), by omega, (fun h => by cases h), hst2, hO7, hid (HR6.out.keep o7 (fun j hj hb => by have := hf6 j hb; have := hA1.out j hj; omega)), hid (o7.keep X6.out (fun hb => by have := hf6 _ hb; omega)), hid (o7.keep Rr6.out (fun hb => by have := hf6 _ hb; omega)), hid (o7.keep D6.out (fun hb => by have := hf6 _ hb; omega)), O7, hid (Nat.le_trans hs6 o7.size)⟩
            case measure => simp [intOf]; omega
          · have hdec : Hid (decide (dlt (at_, id) (z1, z2)) = false) := hid (decide_eq_false hd)
            have hst2 : Hid (SetSt (at_, id) R (i + 1) false (O ++ [(z1, z2)])) := hid (by rw [← HZ.out]; exact hst.out.miss HIR.out (by rw [HZ.out]; exact hd))
            clear hd
            go_upto_region 10 with (fail)
            go_region_held3 (fun w' => w'.cell? ⟨w.heap.size + 1 + 1, 0, none⟩ = some (.int .i64 id) ∧ w'.cell? ⟨w.heap.size + 1 + 1, 1, none⟩ = some (.int .i64 at_) ∧ w'.cell? ⟨ga, i * 2, none⟩ = some (.int .i64 z2) ∧ w'.cell? ⟨ga, i * 2 + 1, none⟩ = some (.int .i64 z1)) (go_keep)
              (first | (go_at_call 22; refine (ahead_any (at_, id) (z1, z2) _).mono ?_; rintro e w5 ⟨rfl, o5'⟩; rw [hdec.out]; have o5 : Only (fun _ => False) wr w5 := ⟨o5'.os, o5'.tape, o5'.output, o5'.size, o5'.block⟩; have f0 := (o5.cell (p := ⟨w.heap.size + 1 + 1, 0, none⟩) hDl (fun h => h)).trans e0; have f1 := (o5.cell (p := ⟨w.heap.size + 1 + 1, 1, none⟩) hDl (fun h => h)).trans e1; have f2 := (o5.cell (p := ⟨ga, i * 2, none⟩) hga (fun h => h)).trans ca; have f3 := (o5.cell (p := ⟨ga, i * 2 + 1, none⟩) hga (fun h => h)).trans cb))
            have HB5 := hid (HB.out.keep o5 (fun _ _ h => h))
            have hs5 := Nat.le_trans hsz.out o5.size
            clear o5' e0 e1 ca cb
            go_wp2_with (first | (at_builtin; refine app_d rfl _ _ rfl w2.heap.size g cB B O z2 z1 hg.out rfl rfl HB5.out hs5 (by omega) ?_; intro B6 c6 w6 hO6 hB6 o6) | fail)
            have hf := hBb.out
            have hs2 := HS2.out
            have o56 : Only (ab B) wr w6 := (o5.mono (fun _ h => h.elim)).trans o6
            have O6 := o.trans' o56 (fun j hj => .inr (by have := hf j hj; omega))
            clear f0 f1 f2 f3
            go_roundw
            case rel => exact ⟨i + 1, false, g + 1, B6, c6, _, by omega, by simp, rfl, rfl, hid (by rw [List.length_append, hg.out]; rfl), by omega, (fun _ => by omega), hst2, hO6, hid (HR.out.keep o56 (fun j hj hb => by have := hf j hb; have := hA1.out j hj; omega)), hid (o56.keep X.out (fun hb => by have := hf _ hb; omega)), hid (o56.keep Rr.out (fun hb => by have := hf _ hb; omega)), hid (o56.keep D.out (fun hb => by have := hf _ hb; omega)), O6, hid (Nat.le_trans hs5 o6.size)⟩
            case measure => simp [intOf]; omega
      · obtain rfl : i = m1 := by omega
        have hf := hBb.out
        have hs2 := HS2.out
        have hst' := hst
        rw [← HM1.out] at hst'
        have e0 := b_cell D.out 0
        have e1 := b_cell D.out 1
        simp only [List.getElem?_toArray, List.getElem?_cons_zero, List.getElem?_cons_succ] at e0 e1
        have y1 := b_free X.out 1
        have x1 := b_cell X.out 1
        simp only [List.getElem?_toArray, List.getElem?_cons_zero, List.getElem?_cons_succ] at x1
        cases dn with
        | true =>
          have hfin := hid hst'.out.endT
          go_upto_region 16 with (fail)
          refine fold (F := fun W' => ∃ (B4 : Option Addr) (g4 c4 : Nat), (Value.slice B g cB = .slice B4 g4 c4) ∧ W' = wr) ⟨B, g, cB, rfl, rfl⟩ ?_
          rintro w4 ⟨B4, g4, c4, hv, rfl⟩
          cases hv
          have HB4 : Hid (OwnD w4 w2.heap.size B cB (ins (at_, id) R)) := hid (by rw [← hfin.out]; exact HB.out)
          have hg4 : Hid ((ins (at_, id) R).length = g) := hid (by rw [← hfin.out]; exact hg.out)
          clear HB hg hst hst' hfin e0 e1
          have x0 := b_cell X.out 0
          have z0 := b_free Rr.out 0
          have z1' := b_free Rr.out 1
          have r0 := b_cell Rr.out 0
          have r1 := b_cell Rr.out 1
          simp only [List.getElem?_toArray, List.getElem?_cons_zero, List.getElem?_cons_succ] at x0 r0 r1
          go_upto_region 17 with (fail)
          have oo := o_put (Only.refl _ w4) (b := w.heap.size) 1 (.slice B g cB)
          refine fold (F := fun W' => Hid (W'.heap[w.heap.size]? = some (.cells #[.int .i64 now, .slice B g cB] 28 (0, 0))) ∧ Hid (W'.heap[w.heap.size + 1]? = some (.cells #[.int .i64 0, .slice none 0 0] 28 (0, 0))) ∧ Hid (OwnD W' w2.heap.size B cB (ins (at_, id) R)) ∧ Only (fun _ => False) w W') ⟨hid (b_set X.out 1 _), hid (oo.keep Rr.out (by omega)), hid (HB4.out.keep oo (fun j hj e => by have := (HB4.out.blk j hj).1; omega)), o.trans' oo (fun j hj => .inr (by omega))⟩ ?_
          rintro w7 ⟨X7, R7, HB7, O7⟩
          clear x0 x1 y1 z0 z1' r0 r1 oo
          have x0 := b_cell X7.out 0
          have x1 := b_cell X7.out 1
          have z0 := b_free R7.out 0
          have z1' := b_free R7.out 1
          have r0 := b_cell R7.out 0
          have r1 := b_cell R7.out 1
          simp only [List.getElem?_toArray, List.getElem?_cons_zero, List.getElem?_cons_succ] at x0 x1 r0 r1
          go_wp2_with fail
          have row6 : ((w7.setCell ⟨w.heap.size + 1, 0, none⟩ (.int .i64 now)).setCell ⟨w.heap.size + 1, 1, none⟩ (.slice B g cB)).heap[w.heap.size + 1]? = some (.cells #[.int .i64 now, .slice B g cB] 28 (0, 0)) := b_set (b_set R7.out 0 _) 1 _
          have o8 : Only (· = w.heap.size + 1) w7 ((w7.setCell ⟨w.heap.size + 1, 0, none⟩ (.int .i64 now)).setCell ⟨w.heap.size + 1, 1, none⟩ (.slice B g cB)) := o_put (o_put (Only.refl _ _) _ _) _ _
          generalize ((w7.setCell ⟨w.heap.size + 1, 0, none⟩ (.int .i64 now)).setCell ⟨w.heap.size + 1, 1, none⟩ (.slice B g cB)) = w8 at *
          have a0 := b_cell row6 0
          have a1 := b_cell row6 1
          simp only [List.getElem?_toArray, List.getElem?_cons_zero, List.getElem?_cons_succ] at a0 a1
          refine bodyPost_ret (v := .agg #[.int .i64 now, .slice B g cB]) (by simp [results, Try.results13, go_sem, a0, a1]) rfl ⟨B, g, cB, rfl, hg4.out, hid ((HB7.out.mono (by omega)).keep o8 (fun j hj e => by have := (HB7.out.blk j hj).1; omega)), O7.trans' o8 (fun j hj => .inr (by omega))⟩
        | false =>
          have hfin := hid hst'.out.endF
          go_upto_region 16 with ((first | (at_builtin; refine app_d rfl _ _ rfl w2.heap.size g cB B O id at_ hg.out rfl rfl HB.out hsz.out (by omega) ?_; intro B6 c6 w6 hO6 hB6 o6) | fail))
          have hf6 : ∀ j, ab B6 j → w2.heap.size ≤ j := fun j hj => (hO6.out.blk j hj).1
          have X6 := hid (o6.keep X.out (fun hb => by have := hf _ hb; omega))
          have Rr6 := hid (o6.keep Rr.out (fun hb => by have := hf _ hb; omega))
          have O6 := o.trans' o6 (fun j hj => .inr (by have := hf j hj; omega))
          have HB4 : Hid (OwnD w6 w2.heap.size B6 c6 (ins (at_, id) R)) := hid (by rw [← hfin.out]; exact hO6.out)
          have hg4 : Hid ((ins (at_, id) R).length = g + 1) := hid (by rw [← hfin.out, List.length_append, hg.out]; rfl)
          clear HB hg hst hst' hfin e0 e1 y1 x1 X Rr D o hf o6 HR
          have y1 := b_free X6.out 1
          have x1 := b_cell X6.out 1
          simp only [List.getElem?_toArray, List.getElem?_cons_zero, List.getElem?_cons_succ] at x1
          have x0 := b_cell X6.out 0
          have z0 := b_free Rr6.out 0
          have z1' := b_free Rr6.out 1
          have r0 := b_cell Rr6.out 0
          have r1 := b_cell Rr6.out 1
          simp only [List.getElem?_toArray, List.getElem?_cons_zero, List.getElem?_cons_succ] at x0 r0 r1
          go_upto_region 17 with (fail)
          have oo := o_put (Only.refl _ w6) (b := w.heap.size) 1 (.slice B6 (g + 1) c6)
          refine fold (F := fun W' => Hid (W'.heap[w.heap.size]? = some (.cells #[.int .i64 now, .slice B6 (g + 1) c6] 28 (0, 0))) ∧ Hid (W'.heap[w.heap.size + 1]? = some (.cells #[.int .i64 0, .slice none 0 0] 28 (0, 0))) ∧ Hid (OwnD W' w2.heap.size B6 c6 (ins (at_, id) R)) ∧ Only (fun _ => False) w W') ⟨hid (b_set X6.out 1 _), hid (oo.keep Rr6.out (by omega)), hid (HB4.out.keep oo (fun j hj e => by have := (HB4.out.blk j hj).1; omega)), O6.trans' oo (fun j hj => .inr (by omega))⟩ ?_
          rintro w7 ⟨X7, R7, HB7, O7⟩
          clear x0 x1 y1 z0 z1' r0 r1 oo
          have x0 := b_cell X7.out 0
          have x1 := b_cell X7.out 1
          have z0 := b_free R7.out 0
          have z1' := b_free R7.out 1
          have r0 := b_cell R7.out 0
          have r1 := b_cell R7.out 1
          simp only [List.getElem?_toArray, List.getElem?_cons_zero, List.getElem?_cons_succ] at x0 x1 r0 r1
          go_wp2_with fail
          have row6 : ((w7.setCell ⟨w.heap.size + 1, 0, none⟩ (.int .i64 now)).setCell ⟨w.heap.size + 1, 1, none⟩ (.slice B6 (g + 1) c6)).heap[w.heap.size + 1]? = some (.cells #[.int .i64 now, .slice B6 (g + 1) c6] 28 (0, 0)) := b_set (b_set R7.out 0 _) 1 _
          have o8 : Only (· = w.heap.size + 1) w7 ((w7.setCell ⟨w.heap.size + 1, 0, none⟩ (.int .i64 now)).setCell ⟨w.heap.size + 1, 1, none⟩ (.slice B6 (g + 1) c6)) := o_put (o_put (Only.refl _ _) _ _) _ _
          generalize ((w7.setCell ⟨w.heap.size + 1, 0, none⟩ (.int .i64 now)).setCell ⟨w.heap.size + 1, 1, none⟩ (.slice B6 (g + 1) c6)) = w8 at *
          have a0 := b_cell row6 0
          have a1 := b_cell row6 1
          simp only [List.getElem?_toArray, List.getElem?_cons_zero, List.getElem?_cons_succ] at a0 a1
          refine bodyPost_ret (v := .agg #[.int .i64 now, .slice B6 (g + 1) c6]) (by simp [results, Try.results13, go_sem, a0, a1]) rfl ⟨B6, (g + 1), c6, rfl, hg4.out, hid ((HB7.out.mono (by omega)).keep o8 (fun j hj e => by have := (HB7.out.blk j hj).1; omega)), O7.trans' o8 (fun j hj => .inr (by omega))⟩
end Go.Proofs.Ytjfhghimldjcfaa
