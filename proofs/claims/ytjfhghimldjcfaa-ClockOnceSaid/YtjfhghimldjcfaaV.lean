/-
  The reference's clock: Pass.
-/
import Derived.Test.YtjfhghimldjcfaaU
namespace Go.Proofs.Ytjfhghimldjcfaa
open Go.RowKit

theorem btw_any (x : Int) (w : World) : Calls Try.prog 18 #[.int .i64 x, .int .i64 0, .int .i64 1099511627776] w fun e w' => e = .returned (.int .i64 (min (max x 0) 1099511627776)) ∧ w = w' := by
  go_enter Try.func18, Try.ntmps18
  by_cases h1 : x < 0
  · have e : min (max x 0) 1099511627776 = 0 := by omega
    rw [e]
    clear e
    go_wp2_with fail
    go_ret
    exact ⟨rfl, rfl⟩
  · by_cases h2 : 1099511627776 < x
    · have e : min (max x 0) 1099511627776 = 1099511627776 := by omega
      rw [e]
      clear e
      go_wp2_with fail
      go_ret
      exact ⟨rfl, rfl⟩
    · have e : min (max x 0) 1099511627776 = x := by omega
      rw [e]
      clear e
      go_wp2_with fail
      go_ret
      exact ⟨rfl, rfl⟩
theorem OwnI.mono {w : World} {base base' : Nat} {A : Option Addr} {c : Nat} {q : List Int} (h : OwnI w base A c q) (hb : base' ≤ base) : OwnI w base' A c q :=
  ⟨h.1, h.2.imp (fun h => h) (fun ⟨g, cap, cur, hv, h1, r⟩ => ⟨g, cap, cur, hv, Nat.le_trans hb h1, r⟩)⟩
def late (now : Int) (d : Int × Int) : Bool := !due now d
theorem fil_srt {now : Int} : ∀ {S : List (Int × Int)}, Srt S → S.filter (due now) = S.takeWhile (due now) ∧ S.filter (late now) = S.dropWhile (due now)
  | [], _ => ⟨rfl, rfl⟩
  | d :: S, h => by
    have p := List.pairwise_cons.1 h
    by_cases hd : due now d = true
    · have ih := fil_srt (now := now) p.2
      simp [hd, late, ih.1, ← ih.2]
    · have hnone : ∀ x ∈ d :: S, due now x = false := fun x hx => by
        have hd' : ¬ d.1 ≤ now := by simpa [due] using hd
        rcases List.mem_cons.1 hx with rfl | hx
        · simp [due]; omega
        · have := p.1 x hx
          simp only [due, decide_eq_false_iff_not]
          unfold dlt at this
          omega
      constructor
      · rw [List.filter_eq_nil_iff.2 (fun x hx => by simp [hnone x hx])]
        simp [hd]
      · rw [List.filter_eq_self.2 (fun x hx => by simp [late, hnone x hx])]
        simp [hd]

set_option maxHeartbeats 8000000 in
theorem rpass_any (now : Int) (S : List (Int × Int)) (x : Int) (A : Option Addr) (n c base : Nat) (w : World) (hnow : 0 ≤ now ∧ now ≤ 1099511627776) (hn : S.length = n) (h : OwnD w base A c S) (hl : n ≤ 100000) :
    Calls Try.prog 9 #[RC now A n c, .int .i64 x] w fun e w' => ∃ A' m c' B g cB, e = .returned (.tuple #[RC (passed now x) A' m c', .slice B g cB]) ∧ (S.filter (late (passed now x))).length = m ∧ (S.filter (due (passed now x))).length = g ∧ Hid (OwnD w' w.heap.size A' c' (S.filter (late (passed now x)))) ∧ Hid (OwnI w' w.heap.size B cB (ids (S.filter (due (passed now x))))) ∧ Only (fun _ => False) w w' := by
  have HO := hid h
  have HNN := hid hn
  have hcap := h.cap
  rw [hn] at hcap
  obtain ⟨hc1, hc2⟩ := hcap
  unfold maxLen at hc2
  obtain ⟨hnow0, hnow1⟩ := hnow
  clear h hn
  obtain ⟨dn, hdn⟩ : ∃ dn, min (max x 0) 1099511627776 = dn := ⟨_, rfl⟩
  have hdn0 : 0 ≤ dn := by omega
  have hdn1 : dn ≤ 1099511627776 := by omega
  obtain ⟨nw, hnw⟩ : ∃ nw, passed now x = nw := ⟨_, rfl⟩
  have hnw' : min (now + dn) 1099511627776 = nw := by rw [← hnw, ← hdn]; rfl
  rw [hnw]
  have HDN := hid hdn
  clear hdn hnw
  unfold RC
  go_enter Try.func9, Try.ntmps9
  go_upto_region 1 with (fail)
  refine fold (F := fun W' => Hid (W'.heap[w.heap.size]? = some (.cells #[.int .i64 now, .slice A n c] 28 (0, 0))) ∧ Hid (W'.heap[w.heap.size + 1]? = some (.cells #[.int .i64 0, .slice none 0 0] 28 (0, 0))) ∧ Only (fun _ => False) w W' ∧ Hid (w.heap.size + 2 ≤ W'.heap.size)) ⟨hid (two_rows _ _ _).1, hid (two_rows _ _ _).2, ((Only.refl _ _).alloc _).alloc _, hid (by simp)⟩ ?_
  rintro w1 ⟨X1, R1, o1, HSZ⟩
  go_wp2_with fail
  refine (btw_any x _).mono ?_
  rintro e w2 ⟨rfl, rfl⟩
  rw [HDN.out]
  have x0 := b_cell X1.out 0
  have y0 := b_free X1.out 0
  simp only [List.getElem?_toArray, List.getElem?_cons_zero] at x0
  by_cases hclip : 1099511627776 < now + dn
  focus
    have hnwE : nw = 1099511627776 := by omega
    go_upto_region 5 with (fail)
    have oo := o_put (o_put (Only.refl _ w1) (b := w.heap.size) 0 (.int .i64 (now + dn))) 0 (.int .i64 1099511627776)
    refine fold (F := fun W' => Hid (W'.heap[w.heap.size]? = some (.cells #[.int .i64 nw, .slice A n c] 28 (0, 0))) ∧ Hid (W'.heap[w.heap.size + 1]? = some (.cells #[.int .i64 0, .slice none 0 0] 28 (0, 0))) ∧ Only (fun _ => False) w W' ∧ Hid (w.heap.size + 2 ≤ W'.heap.size)) ⟨hid (by rw [hnwE]; exact b_set (b_set X1.out 0 _) 0 _), hid (oo.keep R1.out (by omega)), o1.trans' oo (fun j hj => .inr (by omega)), hid (Nat.le_trans HSZ.out oo.size)⟩ ?_
    rintro w3 ⟨X3, R3, o3, HSZ3⟩
    clear oo x0 y0 X1 R1 o1 HSZ hclip
  rotate_left
  focus
    have hnwE : nw = now + dn := by omega
    go_upto_region 5 with (fail)
    have oo := o_put (Only.refl _ w1) (b := w.heap.size) 0 (.int .i64 (now + dn))
    refine fold (F := fun W' => Hid (W'.heap[w.heap.size]? = some (.cells #[.int .i64 nw, .slice A n c] 28 (0, 0))) ∧ Hid (W'.heap[w.heap.size + 1]? = some (.cells #[.int .i64 0, .slice none 0 0] 28 (0, 0))) ∧ Only (fun _ => False) w W' ∧ Hid (w.heap.size + 2 ≤ W'.heap.size)) ⟨hid (by rw [hnwE]; exact b_set X1.out 0 _), hid (oo.keep R1.out (by omega)), o1.trans' oo (fun j hj => .inr (by omega)), hid (Nat.le_trans HSZ.out oo.size)⟩ ?_
    rintro w3 ⟨X3, R3, o3, HSZ3⟩
    clear oo x0 y0 X1 R1 o1 HSZ hclip
  all_goals
    have HNW := hid hnwE
    clear hnwE hnw'
    have hs3 := o3.size
    go_wp2_with fail
    go_loopw [7, 8, 9] (fun ov rv iv wr => ∃ (i g m : Nat) (B A' : Option Addr) (cB c' : Nat), i ≤ n ∧ iv = .int .i64 (i : Int) ∧ ov = .slice B g cB ∧ rv = .slice A' m c' ∧ Hid (((S.take i).filter (due nw)).length = g) ∧ Hid (((S.take i).filter (late nw)).length = m) ∧ g ≤ i ∧ m ≤ i ∧ Hid (OwnI wr w3.heap.size B cB (ids ((S.take i).filter (due nw)))) ∧ Hid (OwnD wr w3.heap.size A' c' ((S.take i).filter (late nw))) ∧ Hid (∀ j, ab B j → ¬ ab A' j) ∧ Hid (OwnD wr base A c S) ∧ Hid (wr.heap[w.heap.size]? = some (.cells #[.int .i64 nw, .slice A n c] 28 (0, 0))) ∧ Hid (wr.heap[w.heap.size + 1]? = some (.cells #[.int .i64 0, .slice none 0 0] 28 (0, 0))) ∧ Only (fun _ => False) w wr ∧ Hid (w3.heap.size ≤ wr.heap.size)) (fun _ _ iv _ => n - (intOf iv).toNat)
    case atStart =>
      have oA : Only (fun _ => False) w3 ((w3.alloc (.cells #[] 3)).alloc (.cells #[] 45)) := ((Only.refl _ w3).alloc _).alloc _
      refine ⟨0, 0, 0, _, _, 0, 0, Nat.zero_le _, rfl, rfl, rfl, hid rfl, hid rfl, Nat.le_refl _, Nat.le_refl _, hid ?_, hid ?_, hid ?_, hid ((HO.out.keep o3 (fun _ _ h => h)).keep oA (fun _ _ h => h)), hid (oA.keep X3.out (fun h => h)), hid (oA.keep R3.out (fun h => h)), o3.trans oA, hid (by simp; omega)⟩
      · exact OwnI.keep (S := fun _ => False) (w := w3.alloc (.cells #[] 3)) (World.ownsRow_made w3 #[] 0 (Nat.le_refl _) (by simp [maxLen]) rfl) ((Only.refl _ _).alloc _) (fun _ _ h => h)
      · exact OwnD.mono (base := (w3.alloc (.cells #[] 3)).heap.size) (by have := World.ownsRow_made (w3.alloc (.cells #[] 3)) #[] 0 (Nat.le_refl _) (by simp [maxLen]) rfl (e := 45) (size := 2); simpa [OwnD, ds] using this) (by simp)
      · rintro j ⟨a, ha, rfl⟩ ⟨b, hb, hab⟩
        cases ha; cases hb; simp at hab
    case round =>
      have HX0 := hid (HO.out.blk)
      clear X3 R3 o3
      obtain ⟨i, g, m, B, A', cB, c', hi, rfl, rfl, rfl, hg, hm, hgi, hmi, HB, HA, hBA, HS, X, R, o, hsz⟩ := hrel
      have hBb : ∀ j, ab B j → w3.heap.size ≤ j := fun j hj => (HB.out.blk j hj).1
      have hAb : ∀ j, ab A' j → w3.heap.size ≤ j := fun j hj => (HA.out.blk j hj).1
      have x0 := b_cell X.out 0
      have x1 := b_cell X.out 1
      simp only [List.getElem?_toArray, List.getElem?_cons_zero, List.getElem?_cons_succ] at x0 x1
      by_cases hlt : i < n
      · obtain ⟨ga, rfl, hga, ca, cb⟩ := HS.out.at_ i (by rw [HNN.out]; exact hlt)
        have htk := take_snoc S i (0, 0) (by rw [HNN.out]; exact hlt)
        obtain ⟨z, hz⟩ : ∃ z, S.getD i (0, 0) = z := ⟨_, rfl⟩
        rw [hz] at ca cb htk
        obtain ⟨z1, z2⟩ := z
        simp only at ca cb
        have HTK := hid htk
        clear htk hz
        have hSb : Hid (∀ j, ab (some ⟨ga, 0, none⟩) j → j < w.heap.size) := hid (fun j hj => (HX0.out j hj).2)
        have hsz3 := HSZ3.out
        by_cases hdue : z1 ≤ nw
        · have hF1 : (S.take (i + 1)).filter (due nw) = (S.take i).filter (due nw) ++ [(z1, z2)] := by rw [HTK.out]; simp [List.filter_append, due, hdue]
          have hF2 : (S.take (i + 1)).filter (late nw) = (S.take i).filter (late nw) := by rw [HTK.out]; simp [List.filter_append, late, due, hdue]
          have HF := hid (⟨hF1, hF2⟩ : _ ∧ _)
          clear hF1 hF2
          go_upto_region 10 with (fail)
          go_region
          have HBd : Hid (OwnI wr.drew w3.heap.size B cB (ids ((S.take i).filter (due nw)))) := hid (HB.out.keep (S := fun _ => False) ((Only.refl _ _).drew) (fun _ _ h => h))
          have hgl : Hid ((ids ((S.take i).filter (due nw))).length = g) := hid (by rw [ids_len, hg.out])
          go_wp2_with (first | (at_builtin; refine app_i rfl _ _ rfl w3.heap.size g cB B (ids ((S.take i).filter (due nw))) z2 hgl.out rfl rfl HBd.out hsz.out (by omega) ?_; intro B4 c4 w4 hO4 hB4 o4') | fail)
          have o4 : Only (ab B) wr w4 := ⟨o4'.os, o4'.tape, o4'.output, o4'.size, o4'.block⟩
          have hAlt : ∀ j, ab A' j → j < wr.heap.size := fun j hj => (HA.out.blk j hj).2
          go_roundw
          case rel => exact ⟨i + 1, g + 1, m, B4, A', c4, c', by omega, by simp, rfl, rfl, hid (by rw [HF.out.1, List.length_append, hg.out]; rfl), hid (by rw [HF.out.2, hm.out]), by omega, by omega, hid (by rw [HF.out.1]; simpa [ids] using hO4.out), hid (by rw [HF.out.2]; exact HA.out.keep o4 (fun j hj hb => hBA.out j hb hj)), hid (fun j hj hA => (hB4.out j hj).elim (fun hb => hBA.out j hb hA) (fun hb => by have := hAlt j hA; have : wr.heap.size ≤ j := hb; omega)), hid (HS.out.keep o4 (fun j hj hb => by have := hBb j hb; have := hSb.out j hj; omega)), hid (o4.keep X.out (fun hb => by have := hBb _ hb; omega)), hid (o4.keep R.out (fun hb => by have := hBb _ hb; omega)), o.trans' o4 (fun j hj => .inr (by have := hBb j hj; omega)), hid (Nat.le_trans hsz.out o4.size)⟩
          case measure => simp [intOf]; omega
        · have hF1 : (S.take (i + 1)).filter (due nw) = (S.take i).filter (due nw) := by rw [HTK.out]; simp [List.filter_append, due, hdue]
          have hF2 : (S.take (i + 1)).filter (late nw) = (S.take i).filter (late nw) ++ [(z1, z2)] := by rw [HTK.out]; simp [List.filter_append, late, due, hdue]
          have HF := hid (⟨hF1, hF2⟩ : _ ∧ _)
          clear hF1 hF2
          go_upto_region 10 with (fail)
          go_region
          have HAd : Hid (OwnD wr.drew w3.heap.size A' c' ((S.take i).filter (late nw))) := hid (HA.out.keep (T := fun _ => False) ((Only.refl _ _).drew) (fun _ _ h => h))
          go_wp2_with (first | (at_builtin; refine app_d rfl _ _ rfl w3.heap.size m c' A' ((S.take i).filter (late nw)) z2 z1 hm.out rfl rfl HAd.out hsz.out (by omega) ?_; intro B4 c4 w4 hO4 hB4 o4') | fail)
          have o4 : Only (ab A') wr w4 := ⟨o4'.os, o4'.tape, o4'.output, o4'.size, o4'.block⟩
          have hBlt : ∀ j, ab B j → j < wr.heap.size := fun j hj => (HB.out.blk j hj).2
          go_roundw
          case rel => exact ⟨i + 1, g, m + 1, B, B4, cB, c4, by omega, by simp, rfl, rfl, hid (by rw [HF.out.1, hg.out]), hid (by rw [HF.out.2, List.length_append, hm.out]; rfl), by omega, by omega, hid (by rw [HF.out.1]; exact HB.out.keep o4 (fun j hj hb => hBA.out j hj hb)), hid (by rw [HF.out.2]; exact hO4.out), hid (fun j hj hA => (hB4.out j hA).elim (fun hb => hBA.out j hj hb) (fun hb => by have := hBlt j hj; have : wr.heap.size ≤ j := hb; omega)), hid (HS.out.keep o4 (fun j hj hb => by have := hAb j hb; have := hSb.out j hj; omega)), hid (o4.keep X.out (fun hb => by have := hAb _ hb; omega)), hid (o4.keep R.out (fun hb => by have := hAb _ hb; omega)), o.trans' o4 (fun j hj => .inr (by have := hAb j hj; omega)), hid (Nat.le_trans hsz.out o4.size)⟩
          case measure => simp [intOf]; omega
      · obtain rfl : i = n := by omega
        have hall : S.take i = S := by rw [← HNN.out, List.take_length]
        rw [hall] at hg hm HB HA
        clear hall
        have hsz3 := HSZ3.out
        have y1 := b_free X.out 1
        go_upto_region 14 with (fail)
        have oo := o_put (Only.refl _ wr) (b := w.heap.size) 1 (.slice A' m c')
        refine fold (F := fun W' => Hid (W'.heap[w.heap.size]? = some (.cells #[.int .i64 nw, .slice A' m c'] 28 (0, 0))) ∧ Hid (W'.heap[w.heap.size + 1]? = some (.cells #[.int .i64 0, .slice none 0 0] 28 (0, 0))) ∧ Hid (OwnD W' w3.heap.size A' c' (S.filter (late nw))) ∧ Hid (OwnI W' w3.heap.size B cB (ids (S.filter (due nw)))) ∧ Only (fun _ => False) w W') ⟨hid (b_set X.out 1 _), hid (oo.keep R.out (by omega)), hid (HA.out.keep oo (fun j hj e => by have := hAb j hj; omega)), hid (HB.out.keep oo (fun j hj e => by have := hBb j hj; omega)), o.trans' oo (fun j hj => .inr (by omega))⟩ ?_
        rintro w7 ⟨X7, R7, HA7, HB7, O7⟩
        clear x0 x1 y1 oo X R HA HB o HS
        have x0 := b_cell X7.out 0
        have x1 := b_cell X7.out 1
        have z0 := b_free R7.out 0
        have z1' := b_free R7.out 1
        have r0 := b_cell R7.out 0
        have r1 := b_cell R7.out 1
        simp only [List.getElem?_toArray, List.getElem?_cons_zero, List.getElem?_cons_succ] at x0 x1 r0 r1
        go_wp2_with fail
        have row6 : ((w7.setCell ⟨w.heap.size + 1, 0, none⟩ (.int .i64 nw)).setCell ⟨w.heap.size + 1, 1, none⟩ (.slice A' m c')).heap[w.heap.size + 1]? = some (.cells #[.int .i64 nw, .slice A' m c'] 28 (0, 0)) := b_set (b_set R7.out 0 _) 1 _
        have o8 : Only (· = w.heap.size + 1) w7 ((w7.setCell ⟨w.heap.size + 1, 0, none⟩ (.int .i64 nw)).setCell ⟨w.heap.size + 1, 1, none⟩ (.slice A' m c')) := o_put (o_put (Only.refl _ _) _ _) _ _
        generalize ((w7.setCell ⟨w.heap.size + 1, 0, none⟩ (.int .i64 nw)).setCell ⟨w.heap.size + 1, 1, none⟩ (.slice A' m c')) = w8 at *
        have a0 := b_cell row6 0
        have a1 := b_cell row6 1
        simp only [List.getElem?_toArray, List.getElem?_cons_zero, List.getElem?_cons_succ] at a0 a1
        refine bodyPost_ret (v := .tuple #[.agg #[.int .i64 nw, .slice A' m c'], .slice B g cB]) (by simp [results, Try.results9, go_sem, a0, a1]) rfl ⟨A', m, c', B, g, cB, rfl, hm.out, hg.out, hid ((HA7.out.mono (by omega)).keep o8 (fun j hj e => by have := hAb j hj; omega)), hid (OwnI.mono (HB7.out.keep o8 (fun j hj e => by have := hBb j hj; omega)) (by omega)), O7.trans' o8 (fun j hj => .inr (by omega))⟩
end Go.Proofs.Ytjfhghimldjcfaa
