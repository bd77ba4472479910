/-
  The walk of RingPlays. (In work.)
-/
import Derived.Test.YtcehabcbmhjcmaaX
namespace Go.Proofs.Ytcehabcbmhjcmaa
open Go.RowKit

def RB3 (a b c : Nat) : Nat → Nat := upd (upd (upd (fun _ => 0) 0 a) 1 b) 2 c

set_option maxRecDepth 100000 in
set_option maxHeartbeats 20000000 in
theorem plays_walk (a0 : Int) (i0 : Int64 a0) (A0 : Option Addr) (len cap : Nat) (kd rg nn : Nat → Int) (BV : Nat → Value) (BA : Nat → Option Addr) (bn bc : Nat → Nat) (bf : Nat → Nat → Int) (w : World) (hlc : len ≤ cap) (hcm : cap ≤ maxLen)
    (hel : 0 < cap → ∃ b off, A0 = some ⟨b, off, none⟩ ∧ b < w.heap.size ∧ ∀ i, i < cap → w.cell? ⟨b, off + i * 4, none⟩ = some (.int .i64 (kd i)) ∧ w.cell? ⟨b, off + i * 4 + 1, none⟩ = some (.int .i64 (rg i)) ∧ w.cell? ⟨b, off + i * 4 + 2, none⟩ = some (.int .i64 (nn i)) ∧ w.cell? ⟨b, off + i * 4 + 3, none⟩ = some (BV i))
    (hB : ∀ i, i < cap → BytesAt w (BV i) (BA i) (bn i) (bc i) (bf i)) :
    Calls Try.prog 5 #[.int .i64 a0, .slice A0 len cap] w fun e w' => e = .returned (.bool true) ∧ Below w.heap.size w w' := by
  obtain ⟨p0, q0⟩ := i0
  unfold maxLen at hcm
  have HE := hid hel
  have HB := hid hB
  clear hel hB
  obtain ⟨M, hM⟩ : ∃ M, mclip a0 = M := ⟨_, rfl⟩
  have HM := hid hM
  clear hM
  go_enter Try.func5, Try.ntmps5
  go_wp2_with fail
  refine (ls_meter a0 M w _ (Only.refl _ _) p0 q0 HM.out).mono ?_
  rintro e w1 ⟨rfl, H1, o1⟩
  clear o1
  go_wp2_with fail
  refine (alive_any _).mono ?_
  rintro e w2 ⟨rfl, l2⟩
  have H2 := hid (H1.out.same (S := fun _ => False) (Only.of_below l2) (fun _ h => h.elim))
  clear H1 l2
  go_wp2_with fail
  refine (ls_new H2).mono ?_
  rintro e w3 ⟨rfl, H3, o3⟩
  go_wp2_with fail
  refine (ls_new H3).mono ?_
  rintro e w4 ⟨rfl, H4, o4⟩
  go_wp2_with fail
  refine (ls_new H4).mono ?_
  rintro e w5 ⟨rfl, H5, o5⟩
  have HG5 : ∃ G, Hid (Ls w w5 w.heap.size 3 (RB3 w2.heap.size w3.heap.size w4.heap.size) (fun _ => []) M 0 0 G) := by
    have e : upd (upd (upd (fun _ => []) 0 []) (0 + 1) []) (0 + 1 + 1) [] = fun _ => ([] : List Int) := by
      funext i
      unfold upd
      repeat' split
      all_goals rfl
    have := H5
    rw [e] at this
    exact ⟨_, this⟩
  clear H2 H3 H4 H5 o3 o4 o5
  obtain ⟨G5, H5⟩ := HG5
  go_upto_region 5 with (fail)
  refine fold (F := fun W' => Hid (Ls w W' w.heap.size 3 (RB3 w2.heap.size w3.heap.size w4.heap.size) (fun _ => []) M 0 0 G5) ∧ Hid (W'.heap[w5.heap.size]? = some (.cells #[.pointer (some ⟨w2.heap.size, 0, none⟩), .pointer (some ⟨w3.heap.size, 0, none⟩), .pointer (some ⟨w4.heap.size, 0, none⟩)] 27 (0, 0))) ∧ Only (fun _ => False) w5 W') ⟨hid (H5.out.alloc _), hid (b_new w5 _), (Only.refl _ _).alloc _⟩ ?_
  rintro w6 ⟨H6, R6, o6⟩
  go_wp2_with fail
  refine (new3_any a0 M _ HM.out).mono ?_
  rintro e w7 ⟨v, rfl, V7, o7⟩
  obtain ⟨gv, cv, hv⟩ : ∃ g c, v = .slice (some ⟨g, 0, none⟩) 3 c := by obtain ⟨g, c, X, hv, _⟩ := V7.out; exact ⟨g, c, hv⟩
  subst hv
  unfold XV
  go_upto_region 7 with (fail)
  have g5 := H5.out.lt
  have g6 := H6.out.size
  have s5 := H5.out.size
  have s7 := o7.size
  have s6 := o6.size
  have r6 := b_lt R6.out
  refine fold (F := fun W' => ∃ Z, Hid (PSt w W' w.heap.size w7.heap.size w5.heap.size (RB3 w2.heap.size w3.heap.size w4.heap.size) M (fun _ => []) 0 0 (.slice (some ⟨gv, 0, none⟩) 3 cv) G5 Z)) ⟨fun i => w6.heap.size ≤ i ∧ i < w7.heap.size, hid ⟨hid (((H6.out.same o7 (fun _ h => h.elim)).alloc _)), hid (b_new w7 _), hid ?_, hid (b_alloc (o7.keep R6.out (fun h => h)) _), hid (fun i hi => ⟨fun hg => by have := g5 i hg; omega, by simp; omega, by omega, by omega⟩), hid ⟨fun hg => by have := g5 _ hg; omega, fun hg => by have := g5 _ hg; omega, by omega, by omega, by omega⟩, hid (by simp)⟩⟩ ?_
  · exact (V7.out.keep (S := fun _ => False) ((Only.refl _ _).alloc _) (fun _ _ h => h))
  clear H5 H6 R6 o6 o7 V7 g5 g6 s5 s7 s6 r6
  rintro w8 ⟨Z, S8⟩
  go_wp2_with fail
  obtain ⟨xb, hxb⟩ : ∃ xb, xb = w7.heap.size := ⟨_, rfl⟩
  obtain ⟨rsb, hrsb⟩ : ∃ rsb, rsb = w5.heap.size := ⟨_, rfl⟩
  obtain ⟨rb, hrb⟩ : ∃ rb, rb = RB3 w2.heap.size w3.heap.size w4.heap.size := ⟨_, rfl⟩
  rw [← hxb, ← hrsb, ← hrb] at S8
  rw [← hxb, ← hrsb]
  clear hxb hrsb hrb
  go_loopw [8, 45] (fun uv iv wr => ∃ (k : Nat) (u : Int) (L : Nat → List Int) (H P : Int) (v : Value) (G Z : Nat → Prop), k ≤ len ∧ iv = .int .i64 (k : Int) ∧ uv = .int .i64 u ∧ 0 ≤ u ∧ u ≤ 20000 ∧ Hid (PSt w wr w.heap.size xb rsb rb M L H P v G Z)) (fun _ iv _ => len - (intOf iv).toNat)
  case atStart => exact ⟨0, 0, _, 0, 0, _, _, Z, Nat.zero_le _, rfl, rfl, by omega, by omega, S8⟩
  case round =>
    clear S8
    obtain ⟨k, u, L, H, P, v, G, Z, hk, rfl, rfl, hu0, hu1, HS⟩ := hrel
    by_cases hlt : k < len
    · obtain ⟨ba, oa, rfl, hba, hcell⟩ := HE.out (by omega)
      obtain ⟨c0, c1, c2, c3⟩ := hcell k (by omega)
      obtain ⟨hbv, hb1, hb2, hbe, hbn⟩ := HB.out k (by omega)
      have hbl := HS.out.ls.out.below
      have C0 := (hbl.cell (p := ⟨ba, oa + k * 4, none⟩) hba).trans c0
      have C1 := (hbl.cell (p := ⟨ba, oa + k * 4 + 1, none⟩) hba).trans c1
      have C2 := (hbl.cell (p := ⟨ba, oa + k * 4 + 2, none⟩) hba).trans c2
      have C3 := (hbl.cell (p := ⟨ba, oa + k * 4 + 3, none⟩) hba).trans c3
      rw [hbv] at C3
      clear c0 c1 c2 c3 hcell hbv
      obtain ⟨kk, hkk⟩ : ∃ kk : Nat, rg k % 1024 % 3 = (kk : Int) := ⟨(rg k % 1024 % 3).toNat, by omega⟩
      have hkk3 : kk < 3 := by omega
      have hlb : (bn k : Int) ≤ 9223372036854775807 := by unfold maxLen at hb2; omega
      generalize hbk : bn k = n at *
      generalize BA k = A at *
      generalize bc k = c at *
      generalize bf k = f at *
      have hmin : 0 ≤ min (n : Int) 20000 := by omega
      by_cases hus : 20000 < u + (min (n : Int) 20000 + 10)
      · go_wp2_with fail
        go_ret
        exact ⟨rfl, HS.out.ls.out.below.alloc HS.out.ls.out.size _⟩
      · go_upto_region 14 with (fail)
        rw [hkk]
        have hsw := HS.out.ls.out.size
        refine fold (F := fun W' => Hid (PSt w W' w.heap.size xb rsb rb M L H P v G Z) ∧ Hid (W'.heap[wr.heap.size]? = some (.cells #[.int .i64 (kd k), .int .i64 (rg k), .int .i64 (nn k), .slice A n c] 45 (0, 0)))) ⟨hid (HS.out.same (S := fun _ => False) ((Only.refl _ _).alloc _) (fun _ h => h.elim)), hid (b_new wr _)⟩ ?_
        have HGW : Hid ((∀ i, G i → i < wr.heap.size) ∧ xb < wr.heap.size) := hid ⟨HS.out.ls.out.lt, b_lt HS.out.xr.out⟩
        clear C0 C1 C2 C3 hbl HS hkk hba
        rintro w9 ⟨S9, B9⟩
        have b0 := b_cell B9.out 0
        have b1 := b_cell B9.out 1
        have b2 := b_cell B9.out 2
        have b3 := b_cell B9.out 3
        simp only [List.getElem?_toArray, List.getElem?_cons_zero, List.getElem?_cons_succ] at b0 b1 b2 b3
        generalize kd k = kind at *
        have hkinds : kind = 1 ∨ kind = 2 ∨ kind = 3 ∨ kind = 4 ∨ (¬ kind = 1 ∧ ¬ kind = 2 ∧ ¬ kind = 3 ∧ ¬ kind = 4) := by omega
        rcases hkinds with rfl | rfl | rfl | rfl | hkn
        case' inl =>
          obtain ⟨hmet, hok⟩ := S9.out.ls.out.met
          have q5 : (0 : Int) ≤ (kk : Int) := by omega
          have q6 : (kk : Int) < 3 := by omega
          have hsum := S9.out.sum.out
          have hlk : ((L kk).length : Int) ≤ H := by
            match kk, hkk3 with
            | 0, _ => omega
            | 1, _ => omega
            | 2, _ => omega
          have hn2 : n ≤ 20000 := by omega
          obtain ⟨bs, hbs⟩ : ∃ bs, bs = lst f n := ⟨_, rfl⟩
          have HLK := hid hlk
          have BL : Hid (bs.length = n) := hid (by rw [hbs, lst_len])
          have HE0 : Hid (Elems w9 A n (B8 bs)) := hid (by rw [hbs]; exact (lst_elems hbe hb1).below S9.out.ls.out.below)
          have HBN := hid hbn
          obtain ⟨b, H', P', L', hpa⟩ := putAs M H P L kk bs n
          have hb9 := b_lt B9.out
          have hb9n : ¬ wr.heap.size = w9.heap.size := by omega
          have hb9m : ¬ w9.heap.size = wr.heap.size := by omega
          have HPA := hid hpa
          clear hbn hbe hbs hpa hlk hsum hmet
          go_upto_region 17 with ((first | (at_builtin; refine app_b rfl _ _ rfl w9.heap.size 0 n 0 c (some ⟨w9.heap.size, 0, none⟩) A [] bs rfl BL.out rfl rfl (World.ownsRow_made w9 #[] 0 (Nat.le_refl _) (by simp [maxLen]) rfl) (HE0.out.same ((Only.refl _ _).alloc _)) HBN.out (by simp) (by omega) ?_; intro A6 c6 w6 hO6 o6 hA6) | fail))
          have o9 : Only (fun _ => False) w9 w6 := ((Only.refl _ _).alloc _).trans' o6 (fun i => by rintro ⟨a, ha, rfl⟩; cases ha; exact .inr (Nat.le_refl _))
          have hO : Hid (OwnB w6 w9.heap.size A6 c6 bs) := hO6
          have S6 := hid (S9.out.same o9 (fun _ h => h.elim))
          have E6 := hid (HE0.out.same o9)
          have B6 := hid (o9.keep B9.out (fun h => h))
          have W6 : Hid (W8 w6 w9.heap.size A6 n) := hid (hO.out.w8 BL.out)
          have hbk : Hid (∀ a, A6 = some a → w9.heap.size ≤ a.block ∧ a.block < w6.heap.size) := hid hO.out.blk
          have EO : Hid (Elems w6 A6 n (B8 bs)) := hid (hO.out.elems' BL.out)
          have hnc : n ≤ c6 := by have := hO.out.cap; rw [BL.out] at this; exact this
          have hg9 : Hid ((∀ i, G i → i < w9.heap.size) ∧ (∀ i, Z i → i < w9.heap.size) ∧ xb < w9.heap.size ∧ rsb < w9.heap.size) := hid ⟨S9.out.ls.out.lt, fun i hi => (S9.out.zg.out i hi).2.1, b_lt S9.out.xr.out, b_lt S9.out.rs.out⟩
          have O9 := hid o9
          clear hO6 o6 hA6 HE0 o9
          obtain ⟨gv, cv, X, hv, hgz, hrow, hx⟩ := S6.out.rr.out
          subst hv
          have x0 := b_cell S6.out.xr.out 0
          have x1 := b_cell S6.out.xr.out 1
          have x2 := b_cell S6.out.xr.out 2
          have x3 := b_cell S6.out.xr.out 3
          have b13 := b_cell B6.out 3
          simp only [List.getElem?_toArray, List.getElem?_cons_zero, List.getElem?_cons_succ] at x0 x1 x2 x3 b13
          clear hx hrow b0 b1 b2 b3
          have HZ6 : Hid (∀ i, Z i → i < w6.heap.size) := hid (fun i hi => (S6.out.zg.out i hi).2.1)
          have HRR := S6.out.rr
          go_wp2_with fail
          refine (put3_any b H P M H' P' Z _ L L' kk bs A n c _ HPA.out hok hkk3 BL.out HLK.out HZ6.out HRR.out E6.out).mono ?_
          rintro e wa ⟨va, rfl, hRa, oa⟩
          obtain ⟨g2, cc2, hv2⟩ := hRa.out.form
          subst hv2
          unfold XV
          go_upto_region 18 with (fail)
          have sa := oa.size
          refine fold (F := fun W' => ∃ nb, nb = wa.heap.size ∧ Hid (W'.heap[nb]? = some (.cells #[.int .i64 H', .int .i64 P', .int .i64 M, .slice (some ⟨g2, 0, none⟩) 3 cc2] 42 (0, 0))) ∧ Hid (RefR W' (fun i => Z i ∨ (w6.heap.size ≤ i ∧ i < wa.heap.size)) (.slice (some ⟨g2, 0, none⟩) 3 cc2) L') ∧ Only (fun _ => False) w6 W') ⟨_, rfl, hid (b_new wa _), hid (hRa.out.keep (S := fun _ => False) ((Only.refl _ _).alloc _) (fun _ _ h => h)), oa.alloc _⟩ ?_
          rintro wb ⟨nb, hnb, NBR, RB, ob⟩
          rw [← hnb]
          rw [← hnb] at RB sa
          clear hnb hRa oa
          have LB := hid (S6.out.ls.out.same ob (fun _ h => h.elim))
          have XR := hid (ob.keep S6.out.xr.out (fun h => h))
          have RR := hid (ob.keep S6.out.rs.out (fun h => h))
          have EA := hid (EO.out.same ob)
          have WB := hid (W6.out.keep ob (fun _ h => h.elim))
          have sb := b_lt NBR.out
          have s69 := O9.out.size
          clear ob x0 x1 x2 x3 b13
          have nx : xb ≠ nb := by have := hg9.out.2.2.1; omega
          have nr : rsb ≠ nb := by have := hg9.out.2.2.2; omega
          have e0 := b_cell NBR.out 0
          have e1 := b_cell NBR.out 1
          have e2 := b_cell NBR.out 2
          have e3 := b_cell NBR.out 3
          have y0 := b_free XR.out 0
          have y1 := b_free XR.out 1
          have y2 := b_free XR.out 2
          have y3 := b_free XR.out 3
          have w0 := b_cell XR.out 0
          have w1' := b_cell XR.out 1
          have w2' := b_cell XR.out 2
          have w3' := b_cell XR.out 3
          simp only [List.getElem?_toArray, List.getElem?_cons_zero, List.getElem?_cons_succ] at e0 e1 e2 e3 w0 w1' w2' w3'
          go_upto_region 19 with (fail)
          refine fold (F := fun W' => Hid (MSt w W' w.heap.size xb rsb rb M L L' H P H' P' (.slice (some ⟨g2, 0, none⟩) 3 cc2) G (fun i => Z i ∨ (w6.heap.size ≤ i ∧ i < nb))) ∧ Hid (W8 W' w9.heap.size A6 n) ∧ Hid (Elems W' A6 n (B8 bs)) ∧ w6.heap.size ≤ W'.heap.size) ?_ ?_
          · have oo : Only (· = xb) wb _ := o_put (o_put (o_put (o_put (Only.refl _ wb) 0 (.int .i64 H')) 1 (.int .i64 P')) 2 (.int .i64 M)) 3 (.slice (some ⟨g2, 0, none⟩) 3 cc2)
            obtain ⟨gx1, gx2, gx3, gx4, gx5⟩ := S9.out.gx.out
            obtain ⟨h91, h92, h93, h94⟩ := hg9.out
            refine ⟨hid ⟨hid (LB.out.step (hid (LB.out.rs.out.keep oo (fun i hi e => gx1 (e ▸ hi)))) oo (fun i hi => .inr (hi ▸ gx4)) (fun _ h => .inl h)), hid (b_set (b_set (b_set (b_set XR.out 0 _) 1 _) 2 _) 3 _), hid (RB.out.keep oo (fun i hi e => ?_)), hid (oo.keep RR.out (fun e => gx3 e.symm)), hid (fun i hi => ?_), S9.out.gx⟩, hid (WB.out.keep oo (fun i hi => by omega)), hid (EA.out.only oo (fun a ha e => by have := (hbk.out a ha).1; omega)), by have := oo.size; omega⟩
            · rcases hi with hi | hi
              · exact (S9.out.zg.out i hi).2.2.1 e
              · omega
            · have hs := oo.size
              rcases hi with hi | hi
              · obtain ⟨a1, a2, a3, a4⟩ := S9.out.zg.out i hi
                exact ⟨a1, by omega, a3, a4⟩
              · exact ⟨fun hg => by have := h91 _ hg; omega, by omega, by omega, by omega⟩
          rintro wc ⟨MC, WC, EC, sc⟩
          have pk := MC.out.ptr kk hkk3
          have MLS := MC.out.ls
          have hsep : 0 < n → ∀ a, A6 = some a → ¬ G a.block := fun _ a ha hg => by have := (hbk.out a ha).1; have := hg9.out.1 _ hg; omega
          have HSEP := hid hsep
          clear RB EA EO LB XR RR sb nx nr e0 e1 e2 e3 y0 y1 y2 y3 w0 w1' w2' w3' NBR WB S6 E6 B6 W6 hsep
          go_wp2_with fail
          refine (ls_put_any b kk (rb kk) n bs A6 c6 HPA.out MLS BL.out hkk3 rfl HLK.out hnc EC.out HSEP.out).mono ?_
          rintro e wd ⟨G', rfl, LD, hG', od⟩
          have SD := hid (MC.out.ring LD hG'.out od (HPA.out.sum BL.out hkk3 S9.out.sum.out))
          have WD : Hid (W8 wd w9.heap.size A6 n) := hid (WC.out.keep od (fun i hi => hg9.out.1 i hi))
          have hg1 : Hid (∀ a, A6 = some a → ¬ G' a.block ∧ ¬ (Z a.block ∨ (w6.heap.size ≤ a.block ∧ a.block < nb)) ∧ a.block ≠ xb ∧ a.block ≠ rsb ∧ w.heap.size ≤ a.block) := hid (fun a ha => by
            obtain ⟨hb1, hb2⟩ := hbk.out a ha
            obtain ⟨h91, h92, h93, h94⟩ := hg9.out
            exact ⟨fun hg => (hG'.out _ hg).elim (fun hg => by have := h91 _ hg; omega) (fun hg => by omega), fun hz => hz.elim (fun hz => by have := h92 _ hz; omega) (fun hz => by omega), by omega, by omega, by have := S9.out.ls.out.size; omega⟩)
          clear EC LD od MC MLS pk WC HSEP
          go_wp2_with fail
          go_loopw [89] (fun iv wq => ∃ i : Nat, i ≤ n ∧ iv = .int .i64 (i : Int) ∧ Hid (PSt w wq w.heap.size xb rsb rb M L' H' P' (.slice (some ⟨g2, 0, none⟩) 3 cc2) G' (fun i => Z i ∨ (w6.heap.size ≤ i ∧ i < nb))) ∧ Hid (W8 wq w9.heap.size A6 n)) (fun iv _ => n - (intOf iv).toNat)
          case atStart => exact ⟨0, Nat.zero_le _, rfl, SD, WD⟩
          case' round =>
            obtain ⟨i, hi, rfl, SQ, WQ⟩ := hrel
            by_cases hlt' : i < n
            focus
              obtain ⟨ga, xa, rfl, hba, hga, hca, hfa⟩ := WQ.out.at_ i hlt'
              go_wp2_with fail
              go_roundw
              case rel => exact ⟨i + 1, by omega, by simp, hid (SQ.out.same (S := (· = ga)) (o_put (Only.refl _ _) _ _) (fun j hj => hj ▸ hg1.out _ rfl)), hid (WQ.out.set i _)⟩
              case measure => simp [intOf]; omega
            obtain rfl : i = n := by omega
            go_upto_region 52 with (fail)
            have S10 : Hid (∃ L H P v G Z, PSt w wr w.heap.size xb rsb rb M L H P v G Z) := hid ⟨_, _, _, _, _, _, SQ.out⟩
            clear SD WD SQ WQ hg1 q5 q6 hok hi hlt'
        case' inr.inl =>
          obtain ⟨gv, cv, X, hv, hgz, hrow, hx⟩ := S9.out.rr.out
          subst hv
          obtain ⟨hmet, hok⟩ := S9.out.ls.out.met
          have x0 := b_cell S9.out.xr.out 0
          have x1 := b_cell S9.out.xr.out 1
          have x2 := b_cell S9.out.xr.out 2
          have x3 := b_cell S9.out.xr.out 3
          simp only [List.getElem?_toArray, List.getElem?_cons_zero, List.getElem?_cons_succ] at x0 x1 x2 x3
          have q5 : (0 : Int) ≤ (kk : Int) := by omega
          have q6 : (kk : Int) < 3 := by omega
          have hsum := S9.out.sum.out
          have hlk : ((L kk).length : Int) ≤ H := by
            match kk, hkk3 with
            | 0, _ => omega
            | 1, _ => omega
            | 2, _ => omega
          obtain ⟨m, hm⟩ : ∃ m : Nat, (m : Int) = min (max (nn k) 0) ((L kk).length : Int) := ⟨(min (max (nn k) 0) ((L kk).length : Int)).toNat, by omega⟩
          have hml : m ≤ (L kk).length := by omega
          have hm40 : m ≤ 1099511627776 := by have := hok.hm; have := hok.m1; omega
          have hlen : ((L kk).take m).length = m := by rw [List.length_take]; omega
          have HMM := hid hm
          have HLK := hid hlk
          have HLEN := hid hlen
          have hZl : Hid (∀ i, Z i → i < w9.heap.size) := hid (fun i hi => (S9.out.zg.out i hi).2.1)
          have HRR := S9.out.rr
          clear hx hrow hmet hm hlk hsum hlen
          go_wp2_with fail
          refine (take3_any H P M Z _ L kk _ m _ hok hkk3 HMM.out HLK.out hZl.out HRR.out).mono ?_
          rintro e wa ⟨va, Aa, ca, rfl, hRa, hEa, hZa, oa⟩
          obtain ⟨g2, cc2, hv2⟩ := hRa.out.form
          subst hv2
          unfold XV
          go_upto_region 28 with (fail)
          have sa := oa.size
          refine fold (F := fun W' => ∃ nb, nb = wa.heap.size ∧ Hid (W'.heap[nb]? = some (.cells #[.int .i64 (H - m), .int .i64 P, .int .i64 M, .slice (some ⟨g2, 0, none⟩) 3 cc2] 42 (0, 0))) ∧ Hid (RefR W' (fun i => Z i ∨ (w9.heap.size ≤ i ∧ i < wa.heap.size)) (.slice (some ⟨g2, 0, none⟩) 3 cc2) (upd L kk ((L kk).drop m))) ∧ Hid (Elems W' Aa m (B8 ((L kk).take m))) ∧ Only (fun _ => False) w9 W') ⟨_, rfl, hid (b_new wa _), hid (hRa.out.keep (S := fun _ => False) ((Only.refl _ _).alloc _) (fun _ _ h => h)), hid (hEa.out.same ((Only.refl _ _).alloc _)), oa.alloc _⟩ ?_
          rintro wb ⟨nb, hnb, NBR, RB, EB, ob⟩
          rw [← hnb]
          rw [← hnb] at RB sa
          clear hnb hRa hEa oa
          have OB := hid ob
          have LB := hid (S9.out.ls.out.same ob (fun _ h => h.elim))
          have XR := hid (ob.keep S9.out.xr.out (fun h => h))
          have RR := hid (ob.keep S9.out.rs.out (fun h => h))
          have BR := hid (ob.keep B9.out (fun h => h))
          have sb := b_lt NBR.out
          clear ob x0 x1 x2 x3 b0 b1 b2 b3
          have nx : xb ≠ nb := by have := b_lt S9.out.xr.out; omega
          have nr : rsb ≠ nb := by have := b_lt S9.out.rs.out; omega
          have e0 := b_cell NBR.out 0
          have e1 := b_cell NBR.out 1
          have e2 := b_cell NBR.out 2
          have e3 := b_cell NBR.out 3
          have y0 := b_free XR.out 0
          have y1 := b_free XR.out 1
          have y2 := b_free XR.out 2
          have y3 := b_free XR.out 3
          have w0 := b_cell XR.out 0
          have w1' := b_cell XR.out 1
          have w2' := b_cell XR.out 2
          have w3' := b_cell XR.out 3
          simp only [List.getElem?_toArray, List.getElem?_cons_zero, List.getElem?_cons_succ] at e0 e1 e2 e3 w0 w1' w2' w3'
          go_upto_region 29 with (fail)
          refine fold (F := fun W' => Hid (MSt w W' w.heap.size xb rsb rb M L (upd L kk ((L kk).drop m)) H P (H - m) P (.slice (some ⟨g2, 0, none⟩) 3 cc2) G (fun i => Z i ∨ (w9.heap.size ≤ i ∧ i < nb))) ∧ Hid (Elems W' Aa m (B8 ((L kk).take m))) ∧ Hid (W'.heap[wr.heap.size]? = some (.cells #[.int .i64 2, .int .i64 (rg k), .int .i64 (nn k), .slice A n c] 45 (0, 0)))) ?_ ?_
          · have oo : Only (· = xb) wb _ := o_put (o_put (o_put (o_put (Only.refl _ wb) 0 (.int .i64 (H - m))) 1 (.int .i64 P)) 2 (.int .i64 M)) 3 (.slice (some ⟨g2, 0, none⟩) 3 cc2)
            obtain ⟨gx1, gx2, gx3, gx4, gx5⟩ := S9.out.gx.out
            have bx := b_lt S9.out.xr.out
            have bs := b_lt S9.out.rs.out
            refine ⟨hid ⟨hid (LB.out.step (hid (LB.out.rs.out.keep oo (fun i hi e => gx1 (e ▸ hi)))) oo (fun i hi => .inr (hi ▸ gx4)) (fun _ h => .inl h)), hid (b_set (b_set (b_set (b_set XR.out 0 _) 1 _) 2 _) 3 _), hid (RB.out.keep oo (fun i hi e => ?_)), hid (oo.keep RR.out (fun e => gx3 e.symm)), hid (fun i hi => ?_), S9.out.gx⟩, hid (EB.out.only oo (fun a ha e => (S9.out.zg.out _ (hZa.out a ha)).2.2.1 e)), hid (oo.keep BR.out (fun e => by have := HGW.out.2; omega))⟩
            · rcases hi with hi | hi
              · exact (S9.out.zg.out i hi).2.2.1 e
              · omega
            · have hs := oo.size
              rcases hi with hi | hi
              · obtain ⟨a1, a2, a3, a4⟩ := S9.out.zg.out i hi
                exact ⟨a1, by omega, a3, a4⟩
              · exact ⟨fun hg => by have := S9.out.ls.out.lt _ hg; omega, by omega, by omega, by omega⟩
          rintro wc ⟨MC, EC, BC⟩
          have pk := MC.out.ptr kk hkk3
          have bk2 := b_cell BC.out 2
          simp only [List.getElem?_toArray, List.getElem?_cons_zero, List.getElem?_cons_succ] at bk2
          have K0 := hid pk
          have K1 := hid bk2
          have hrl : rsb < wc.heap.size := b_lt MC.out.rs.out
          have hbl9 : wr.heap.size < wc.heap.size := b_lt BC.out
          have hgr : ¬ G rsb := MC.out.gx.out.2.1
          have hgb : ¬ G wr.heap.size := fun hg => by have := HGW.out.1 _ hg; omega
          clear RB EB OB LB XR RR BR sb nx nr e0 e1 e2 e3 y0 y1 y2 y3 w0 w1' w2' w3' NBR BC
          go_region_held3 (fun w' => w'.cell? ⟨rsb, kk, none⟩ = some (.pointer (some ⟨rb kk, 0, none⟩)) ∧ w'.cell? ⟨wr.heap.size, 2, none⟩ = some (.int .i64 (nn k))) (go_keep)
            (first
              | (go_at_call 11; refine (ls_take_at kk (rb kk) _ _ m (H - m) MC.out.ls (by exact ⟨rfl, rfl, rfl, Nat.le_refl _, fun _ _ _ => rfl⟩) hkk3 rfl rfl HMM.out HLK.out rfl).mono ?_; rintro e wd ⟨Ac, cc, rfl, OD, LD, od⟩; have ODD := hid od; have d0 := (od.cell (p := ⟨rsb, kk, none⟩) hrl hgr).trans K0.out; have d1 := (od.cell (p := ⟨wr.heap.size, 2, none⟩) hbl9 hgb).trans K1.out))
          clear d0 d1 pk bk2 od
          have SD := hid (MC.out.ring LD (fun _ h => .inl h) ODD.out (by
            have hs := S9.out.sum.out
            match kk, hkk3, hml with
            | 0, _, hml => simp [upd]; omega
            | 1, _, hml => simp [upd]; omega
            | 2, _, hml => simp [upd]; omega))
          have ED := hid (EC.out.only ODD.out (fun a ha => (MC.out.zg.out _ (.inl (hZa.out a ha))).1))
          have hg1 : Hid (∀ i, wc.heap.size ≤ i → ¬ G i ∧ ¬ (Z i ∨ (w9.heap.size ≤ i ∧ i < nb)) ∧ i ≠ xb ∧ i ≠ rsb ∧ w.heap.size ≤ i) := hid (fun i hi => ⟨fun hg => by have := MC.out.ls.out.lt _ hg; omega, fun hz => by have := (MC.out.zg.out i hz).2.1; omega, by have := b_lt MC.out.xr.out; omega, by have := b_lt MC.out.rs.out; omega, by have := MC.out.ls.out.size; omega⟩)
          clear EC LD ODD MC K0 K1
          go_wp2_with fail
          refine (same_any2 ((L kk).take m) _ _ m m _ _ _ rfl (OD.out.elems' HLEN.out) ED.out hm40).mono ?_
          rintro e we ⟨rfl, oe⟩
          have SE := hid (SD.out.same oe (fun _ h => h.elim))
          have WE := hid ((OD.out.w8 HLEN.out).keep oe (fun _ h => h.elim))
          clear OD oe ED SD
          go_wp2_with fail
          go_loopw [123] (fun iv wq => ∃ i : Nat, i ≤ m ∧ iv = .int .i64 (i : Int) ∧ Hid (PSt w wq w.heap.size xb rsb rb M (upd L kk ((L kk).drop m)) (H - m) P (.slice (some ⟨g2, 0, none⟩) 3 cc2) G (fun i => Z i ∨ (w9.heap.size ≤ i ∧ i < nb))) ∧ Hid (W8 wq wc.heap.size Ac m)) (fun iv _ => m - (intOf iv).toNat)
          case atStart => exact ⟨0, Nat.zero_le _, rfl, SE, WE⟩
          case' round =>
            obtain ⟨i, hi, rfl, SQ, WQ⟩ := hrel
            by_cases hlt' : i < m
            focus
              obtain ⟨ga, xa, rfl, hba, hga, hca, hfa⟩ := WQ.out.at_ i hlt'
              go_wp2_with fail
              go_roundw
              case rel => exact ⟨i + 1, by omega, by simp, hid (SQ.out.same (S := (· = ga)) (o_put (Only.refl _ _) _ _) (fun j hj => hj ▸ hg1.out _ hba)), hid (WQ.out.set i _)⟩
              case measure => simp [intOf]; omega
            obtain rfl : i = m := by omega
            go_upto_region 52 with (fail)
            have S10 : Hid (∃ L H P v G Z, PSt w wr w.heap.size xb rsb rb M L H P v G Z) := hid ⟨_, _, _, _, _, _, SQ.out⟩
            clear SE WE SQ WQ hg1 q5 q6 hok hi hlt'
        case' inr.inr.inl =>
          obtain ⟨gv, cv, X, hv, hgz, hrow, hx⟩ := S9.out.rr.out
          subst hv
          obtain ⟨hmet, hok⟩ := S9.out.ls.out.met
          have x0 := b_cell S9.out.xr.out 0
          have x1 := b_cell S9.out.xr.out 1
          have x2 := b_cell S9.out.xr.out 2
          have x3 := b_cell S9.out.xr.out 3
          simp only [List.getElem?_toArray, List.getElem?_cons_zero, List.getElem?_cons_succ] at x0 x1 x2 x3
          have q5 : (0 : Int) ≤ (kk : Int) := by omega
          have q6 : (kk : Int) < 3 := by omega
          have hsum := S9.out.sum.out
          have hlk : ((L kk).length : Int) ≤ H := by
            match kk, hkk3 with
            | 0, _ => omega
            | 1, _ => omega
            | 2, _ => omega
          obtain ⟨m, hm⟩ : ∃ m : Nat, (m : Int) = min (max (nn k) 0) ((L kk).length : Int) := ⟨(min (max (nn k) 0) ((L kk).length : Int)).toNat, by omega⟩
          have hml : m ≤ (L kk).length := by omega
          have hm40 : m ≤ 1099511627776 := by have := hok.hm; have := hok.m1; omega
          have hlen : ((L kk).take m).length = m := by rw [List.length_take]; omega
          have HMM := hid hm
          have HLK := hid hlk
          have HLEN := hid hlen
          have hZl : Hid (∀ i, Z i → i < w9.heap.size) := hid (fun i hi => (S9.out.zg.out i hi).2.1)
          have HRR := S9.out.rr
          clear hx hrow hmet hm hlk hsum hlen
          go_wp2_with fail
          refine (take3_any H P M Z _ L kk _ m _ hok hkk3 HMM.out HLK.out hZl.out HRR.out).mono ?_
          rintro e wa ⟨va, Aa, ca, rfl, hRa, hEa, hZa, oa⟩
          obtain ⟨g2, cc2, hv2⟩ := hRa.out.form
          subst hv2
          unfold XV
          go_upto_region 39 with (fail)
          refine fold (F := fun W' => Hid (PSt w W' w.heap.size xb rsb rb M L H P (.slice (some ⟨gv, 0, none⟩) 3 cv) G Z) ∧ Hid (Elems W' Aa m (B8 ((L kk).take m))) ∧ Only (fun _ => False) w9 W') ⟨hid (S9.out.same (oa.alloc _) (fun _ h => h.elim)), hid (hEa.out.same ((Only.refl _ _).alloc _)), oa.alloc _⟩ ?_
          rintro wb ⟨SB, EB, ob⟩
          have pk := SB.out.ptr kk hkk3
          have bk2 := (ob.cell (p := ⟨wr.heap.size, 2, none⟩) (b_lt B9.out) (fun h => h)).trans b2
          have K0 := hid pk
          have K1 := hid bk2
          have hrl : rsb < wb.heap.size := b_lt SB.out.rs.out
          have hbl9 : wr.heap.size < wb.heap.size := Nat.lt_of_lt_of_le (b_lt B9.out) ob.size
          clear hRa hEa hZa oa ob x0 x1 x2 x3
          go_region_held3 (fun w' => w'.cell? ⟨rsb, kk, none⟩ = some (.pointer (some ⟨rb kk, 0, none⟩)) ∧ w'.cell? ⟨wr.heap.size, 2, none⟩ = some (.int .i64 (nn k))) (go_keep)
            (first
              | (go_at_call 15; refine (ls_peek_at kk (rb kk) _ _ m SB.out.ls (by exact ⟨rfl, rfl, rfl, Nat.le_refl _, fun _ _ _ => rfl⟩) hkk3 rfl rfl HMM.out HLK.out).mono ?_; rintro e wc ⟨Ac, cc, rfl, OC, oc⟩; have OCC := hid oc; have d0 := (oc.cell (p := ⟨rsb, kk, none⟩) hrl (fun h => h)).trans K0.out; have d1 := (oc.cell (p := ⟨wr.heap.size, 2, none⟩) hbl9 (fun h => h)).trans K1.out))
          clear d0 d1 pk bk2 oc
          go_wp2_with fail
          refine (same_any2 ((L kk).take m) _ _ m m _ _ _ rfl (OC.out.elems' HLEN.out) (EB.out.same OCC.out) hm40).mono ?_
          rintro e wd ⟨rfl, od⟩
          have SD := hid (SB.out.same (OCC.out.trans od) (fun _ h => h.elim))
          have WD := hid ((OC.out.w8 HLEN.out).keep od (fun _ h => h.elim))
          have hg1 : Hid (∀ i, wb.heap.size ≤ i → ¬ G i ∧ ¬ Z i ∧ i ≠ xb ∧ i ≠ rsb ∧ w.heap.size ≤ i) := hid (fun i hi => ⟨fun hg => by have := SB.out.ls.out.lt _ hg; omega, fun hz => by have := (SB.out.zg.out i hz).2.1; omega, by have := b_lt SB.out.xr.out; omega, by have := b_lt SB.out.rs.out; omega, by have := SB.out.ls.out.size; omega⟩)
          clear OC OCC od EB SB K0 K1
          go_wp2_with fail
          go_loopw [156] (fun iv wq => ∃ i : Nat, i ≤ m ∧ iv = .int .i64 (i : Int) ∧ Hid (PSt w wq w.heap.size xb rsb rb M L H P (.slice (some ⟨gv, 0, none⟩) 3 cv) G Z) ∧ Hid (W8 wq wb.heap.size Ac m)) (fun iv _ => m - (intOf iv).toNat)
          case atStart => exact ⟨0, Nat.zero_le _, rfl, SD, WD⟩
          case' round =>
            obtain ⟨i, hi, rfl, SQ, WQ⟩ := hrel
            by_cases hlt' : i < m
            focus
              obtain ⟨ga, xa, rfl, hba, hga, hca, hfa⟩ := WQ.out.at_ i hlt'
              go_wp2_with fail
              go_roundw
              case rel => exact ⟨i + 1, by omega, by simp, hid (SQ.out.same (S := (· = ga)) (o_put (Only.refl _ _) _ _) (fun j hj => hj ▸ hg1.out _ hba)), hid (WQ.out.set i _)⟩
              case measure => simp [intOf]; omega
            obtain rfl : i = m := by omega
            go_upto_region 52 with (fail)
            have S10 : Hid (∃ L H P v G Z, PSt w wr w.heap.size xb rsb rb M L H P v G Z) := hid ⟨_, _, _, _, _, _, SQ.out⟩
            clear SD WD SQ WQ hg1 q5 q6 hok hi hlt' 
        case' inr.inr.inr.inl =>
          obtain ⟨gv, cv, X, hv, hgz, hrow, hx⟩ := S9.out.rr.out
          obtain ⟨Ak, ck, hXk, _⟩ := hx kk hkk3
          subst hv
          obtain ⟨hmet, hok⟩ := S9.out.ls.out.met
          have x0 := b_cell S9.out.xr.out 0
          have x1 := b_cell S9.out.xr.out 1
          have x2 := b_cell S9.out.xr.out 2
          have x3 := b_cell S9.out.xr.out 3
          simp only [List.getElem?_toArray, List.getElem?_cons_zero, List.getElem?_cons_succ] at x0 x1 x2 x3
          have xk := hrow.2 kk hkk3
          rw [hXk] at xk
          have xp := S9.out.ptr kk hkk3
          have q5 : (0 : Int) ≤ (kk : Int) := by omega
          have q6 : (kk : Int) < 3 := by omega
          have hsum := S9.out.sum.out
          have hlk : ((L kk).length : Int) ≤ H := by
            match kk, hkk3 with
            | 0, _ => omega
            | 1, _ => omega
            | 2, _ => omega
          have hZl : Hid (∀ i, Z i → i < w9.heap.size) := hid (fun i hi => (S9.out.zg.out i hi).2.1)
          have HRR := S9.out.rr
          have n1 : ¬ xb = w9.heap.size := by have := b_lt S9.out.xr.out; omega
          have n2 : ¬ w9.heap.size = xb := fun e => n1 e.symm
          have n3 : ¬ gv = w9.heap.size := by have := hZl.out _ hgz; omega
          have n4 : ¬ w9.heap.size = gv := fun e => n3 e.symm
          have HLK := hid hlk
          obtain ⟨lk, hlkn⟩ : ∃ lk, lk = (L kk).length := ⟨_, rfl⟩
          clear hx hrow hXk hmet hsum hlk
          go_upto_region 48 with (fail)
          have KX0 := hid x0
          have KX1 := hid x1
          have KX2 := hid x2
          have KX3 := hid x3
          have KXK := hid xk
          have hxl := b_lt S9.out.xr.out
          have hgl : gv < w9.heap.size := hZl.out _ hgz
          have HOA : Hid (Only (fun _ => False) w9 (w9.alloc (.cells #[.int .i64 0, .int .i64 0, .int .i64 0, .slice none 0 0] 42))) := hid ((Only.refl _ _).alloc _)
          have HRA := hid (HRR.out.keep HOA.out (fun _ _ h => h))
          have HZA : Hid (∀ i, Z i → i < (w9.alloc (.cells #[.int .i64 0, .int .i64 0, .int .i64 0, .slice none 0 0] 42)).heap.size) := hid (fun i hi => by have := hZl.out i hi; simp; omega)
          have HNB := hid (b_new w9 (.cells #[.int .i64 0, .int .i64 0, .int .i64 0, .slice none 0 0] 42))
          go_region_held3 (fun w' => w'.cell? ⟨xb, 0, none⟩ = some (.int .i64 H) ∧ w'.cell? ⟨xb, 1, none⟩ = some (.int .i64 P) ∧ w'.cell? ⟨xb, 2, none⟩ = some (.int .i64 M) ∧ w'.cell? ⟨xb, 3, none⟩ = some (.slice (some ⟨gv, 0, none⟩) 3 cv) ∧ w'.cell? ⟨gv, kk, none⟩ = some (.slice Ak (L kk).length ck)) (go_keep)
            (first
              | (go_at_call 18; refine (take3_any H P M Z _ L kk _ (L kk).length _ hok hkk3 (by omega) HLK.out (by exact HZA.out) (by exact HRA.out)).mono ?_; rintro e wa ⟨va, Aa, ca, rfl, hRa, hEa, hZa, oa9⟩; obtain ⟨g2, cc2, hv2⟩ := hRa.out.form; subst hv2; unfold XV; have o1a : Only (fun _ => False) (w9.alloc (.cells #[.int .i64 0, .int .i64 0, .int .i64 0, .slice none 0 0] 42)) wa := ⟨oa9.os, oa9.tape, oa9.output, oa9.size, oa9.block⟩; have O1A := hid o1a; have o9a := HOA.out.trans o1a; have O9A := hid o9a; have z0 := b_cell (O1A.out.keep HNB.out (fun h => h)) 0; have z1 := b_cell (O1A.out.keep HNB.out (fun h => h)) 1; have z2 := b_cell (O1A.out.keep HNB.out (fun h => h)) 2; have z3 := b_cell (O1A.out.keep HNB.out (fun h => h)) 3; have y0 := b_free (O1A.out.keep HNB.out (fun h => h)) 0; have y1 := b_free (O1A.out.keep HNB.out (fun h => h)) 1; have y2 := b_free (O1A.out.keep HNB.out (fun h => h)) 2; have y3 := b_free (O1A.out.keep HNB.out (fun h => h)) 3; have d0 := (o9a.cell (p := ⟨xb, 0, none⟩) hxl (fun h => h)).trans KX0.out; have d1 := (o9a.cell (p := ⟨xb, 1, none⟩) hxl (fun h => h)).trans KX1.out; have d2 := (o9a.cell (p := ⟨xb, 2, none⟩) hxl (fun h => h)).trans KX2.out; have d3 := (o9a.cell (p := ⟨xb, 3, none⟩) hxl (fun h => h)).trans KX3.out; have d4 := (o9a.cell (p := ⟨gv, kk, none⟩) hgl (fun h => h)).trans KXK.out)
              | (go_at_call 18; refine (take3_any H P M Z _ L kk _ (L kk).length _ hok hkk3 (by omega) HLK.out (by exact hZl.out) (by exact HRR.out)).mono ?_; rintro e wa ⟨va, Aa, ca, rfl, hRa, hEa, hZa, oa9⟩; obtain ⟨g2, cc2, hv2⟩ := hRa.out.form; subst hv2; unfold XV; have o9a : Only (fun _ => False) w9 wa := ⟨oa9.os, oa9.tape, oa9.output, oa9.size, oa9.block⟩; have O9A := hid o9a; have n5 : ¬ xb = wa.heap.size := (by have := o9a.size; omega); have n6 : ¬ wa.heap.size = xb := (fun e => n5 e.symm); have n7 : ¬ gv = wa.heap.size := (by have := o9a.size; omega); have n8 : ¬ wa.heap.size = gv := (fun e => n7 e.symm); have d0 := (o9a.cell (p := ⟨xb, 0, none⟩) hxl (fun h => h)).trans KX0.out; have d1 := (o9a.cell (p := ⟨xb, 1, none⟩) hxl (fun h => h)).trans KX1.out; have d2 := (o9a.cell (p := ⟨xb, 2, none⟩) hxl (fun h => h)).trans KX2.out; have d3 := (o9a.cell (p := ⟨xb, 3, none⟩) hxl (fun h => h)).trans KX3.out; have d4 := (o9a.cell (p := ⟨gv, kk, none⟩) hgl (fun h => h)).trans KXK.out))
          focus
            go_upto_region 49 with (fail)
            refine fold (F := fun W' => Hid (W'.heap[wa.heap.size]? = some (.cells #[.int .i64 (H - ((L kk).length : Nat)), .int .i64 P, .int .i64 M, .slice (some ⟨g2, 0, none⟩) 3 cc2] 42 (0, 0))) ∧ Only (· = wa.heap.size) wa W') ⟨hid (b_new wa _), (Only.refl _ _).alloc _⟩ ?_
            rintro wb ⟨NBR, oab⟩
            obtain ⟨nb, hnb⟩ : ∃ nb, nb = wa.heap.size := ⟨_, rfl⟩
            have hZ' : ∃ Z', Hid (RefR wb Z' (.slice (some ⟨g2, 0, none⟩) 3 cc2) (upd L kk [])) ∧ Hid (∀ i, Z' i → (Z i ∨ w9.heap.size ≤ i) ∧ i < wa.heap.size) := by
              rw [List.drop_length] at hRa
              refine ⟨_, hid (hRa.out.keep oab (fun i hi => ?_)), hid (fun i hi => ?_)⟩
              · rcases hi with hi | hi
                · have := hZl.out i hi; have := O9A.out.size; omega
                · have := hi.2; omega
              · rcases hi with hi | hi
                · exact ⟨.inl hi, Nat.lt_of_lt_of_le (hZl.out i hi) O9A.out.size⟩
                · exact ⟨.inr (by have := hi.1; simp at this; omega), hi.2⟩
            have hnb9 : w9.heap.size ≤ nb := by rw [hnb]; first | exact Nat.le_refl _ | exact O9A.out.size
            rw [← hnb] at NBR oab ⊢
          rotate_left
          focus
            go_upto_region 49 with (fail)
            refine fold (F := fun W' => Hid (W'.heap[w9.heap.size]? = some (.cells #[.int .i64 (H - ((L kk).length : Nat)), .int .i64 P, .int .i64 M, .slice (some ⟨g2, 0, none⟩) 3 cc2] 42 (0, 0))) ∧ Only (· = w9.heap.size) wa W') ⟨hid (b_set (b_set (b_set (b_set (O1A.out.keep HNB.out (fun h => h)) 0 _) 1 _) 2 _) 3 _), o_put (o_put (o_put (o_put (Only.refl _ _) _ _) _ _) _ _) _ _⟩ ?_
            rintro wb ⟨NBR, oab⟩
            obtain ⟨nb, hnb⟩ : ∃ nb, nb = w9.heap.size := ⟨_, rfl⟩
            have hZ' : ∃ Z', Hid (RefR wb Z' (.slice (some ⟨g2, 0, none⟩) 3 cc2) (upd L kk [])) ∧ Hid (∀ i, Z' i → (Z i ∨ w9.heap.size ≤ i) ∧ i < wa.heap.size) := by
              rw [List.drop_length] at hRa
              refine ⟨_, hid (hRa.out.keep oab (fun i hi => ?_)), hid (fun i hi => ?_)⟩
              · rcases hi with hi | hi
                · have := hZl.out i hi; omega
                · have := hi.1; simp at this; omega
              · rcases hi with hi | hi
                · exact ⟨.inl hi, Nat.lt_of_lt_of_le (hZl.out i hi) O9A.out.size⟩
                · exact ⟨.inr (by have := hi.1; simp at this; omega), hi.2⟩
            have hnb9 : w9.heap.size ≤ nb := by rw [hnb]; first | exact Nat.le_refl _ | exact O9A.out.size
            rw [← hnb] at NBR oab ⊢
          all_goals
            clear hnb hRa d0 d1 d2 d3 d4
            have e0 := b_cell NBR.out 0
            have e1 := b_cell NBR.out 1
            have e2 := b_cell NBR.out 2
            have e3 := b_cell NBR.out 3
            simp only [List.getElem?_toArray, List.getElem?_cons_zero, List.getElem?_cons_succ] at e0 e1 e2 e3
            have nx : xb ≠ nb := by have := b_lt S9.out.xr.out; omega
            have nr : rsb ≠ nb := by have := b_lt S9.out.rs.out; omega
            have XR := hid (oab.keep (O9A.out.keep S9.out.xr.out (fun h => h)) nx)
            have RR := hid (oab.keep (O9A.out.keep S9.out.rs.out (fun h => h)) nr)
            have o9b : Only (fun _ => False) w9 wb := O9A.out.trans' oab (fun i hi => .inr (by omega))
            have LB := hid (S9.out.ls.out.same o9b (fun _ h => h.elim))
            have y0 := b_free XR.out 0
            have y1 := b_free XR.out 1
            have y2 := b_free XR.out 2
            have y3 := b_free XR.out 3
            have w0 := b_cell XR.out 0
            have w1' := b_cell XR.out 1
            have w2' := b_cell XR.out 2
            have w3' := b_cell XR.out 3
            simp only [List.getElem?_toArray, List.getElem?_cons_zero, List.getElem?_cons_succ] at w0 w1' w2' w3'
            obtain ⟨Z', hR', hZ'⟩ := hZ'
            have sb := oab.size
            have sa := O9A.out.size
            go_upto_region 50 with (fail)
            refine fold (F := fun W' => Hid (MSt w W' w.heap.size xb rsb rb M L (upd L kk []) H P (H - ((L kk).length : Nat)) P (.slice (some ⟨g2, 0, none⟩) 3 cc2) G Z')) (hid ?_) ?_
            · have oo : Only (· = xb) wb _ := o_put (o_put (o_put (o_put (Only.refl _ wb) 0 (.int .i64 (H - ((L kk).length : Nat)))) 1 (.int .i64 P)) 2 (.int .i64 M)) 3 (.slice (some ⟨g2, 0, none⟩) 3 cc2)
              obtain ⟨gx1, gx2, gx3, gx4, gx5⟩ := S9.out.gx.out
              refine ⟨hid (LB.out.step (hid (LB.out.rs.out.keep oo (fun i hi e => gx1 (e ▸ hi)))) oo (fun i hi => .inr (hi ▸ gx4)) (fun _ h => .inl h)), hid (b_set (b_set (b_set (b_set XR.out 0 _) 1 _) 2 _) 3 _), hid (hR'.out.keep oo (fun i hi e => ?_)), hid (oo.keep RR.out (fun e => gx3 e.symm)), hid (fun i hi => ?_), S9.out.gx⟩
              · obtain ⟨h1, h2⟩ := hZ'.out i hi
                rcases h1 with h1 | h1
                · exact (S9.out.zg.out i h1).2.2.1 e
                · have := b_lt S9.out.xr.out; omega
              · obtain ⟨h1, h2⟩ := hZ'.out i hi
                have hs := oo.size
                rcases h1 with h1 | h1
                · obtain ⟨a1, a2, a3, a4⟩ := S9.out.zg.out i h1
                  exact ⟨a1, by omega, a3, a4⟩
                · have b1 := b_lt S9.out.xr.out
                  have b2 := b_lt S9.out.rs.out
                  exact ⟨fun hg => by have := S9.out.ls.out.lt _ hg; omega, by omega, by omega, by omega⟩
            rintro wc MC
            have xq := MC.out.ptr kk hkk3
            have LK := MC.out.ls
            have hlk := HLK.out
            clear nx nr y0 y1 y2 y3 w0 w1' w2' w3' e0 e1 e2 e3 x0 x1 x2 x3 xk xp sb sa hok
            go_wp2_with fail
            refine (ls_drop kk (rb kk) _ _ LK hkk3 rfl rfl hlk rfl).mono ?_
            rintro e wd ⟨rfl, LD, oD⟩
            have SD := hid (MC.out.ring LD (fun _ h => .inl h) oD (by
              have hs := S9.out.sum.out
              match kk, hkk3 with
              | 0, _ => simp [upd]; omega
              | 1, _ => simp [upd]; omega
              | 2, _ => simp [upd]; omega))
            clear LD oD MC LK xq hlk
            go_upto_region 52 with (fail)
            have S10 : Hid (∃ L H P v G Z, PSt w wd w.heap.size xb rsb rb M L H P v G Z) := hid ⟨_, _, _, _, _, _, SD.out⟩
            clear SD q5 q6 hnb9 NBR oab hZ' hR' XR RR LB o9b
        case' inr.inr.inr.inr =>
          obtain ⟨hn1, hn2, hn3, hn4⟩ := hkn
          have hb1' : (kind == 1) = false := by simp [hn1]
          have hb2' : (kind == 2) = false := by simp [hn2]
          have hb3' : (kind == 3) = false := by simp [hn3]
          have hb4' : (kind == 4) = false := by simp [hn4]
          go_upto_region 52 with (fail)
          have S10 : Hid (∃ L H P v G Z, PSt w w9 w.heap.size xb rsb rb M L H P v G Z) := hid ⟨_, _, _, _, _, _, S9.out⟩
        all_goals
          try clear b0 b1 b2 b3
          clear S9 B9
          obtain ⟨L, H, P, v, G, Z, S⟩ := S10.out
          have HS := hid S
          clear S S10
          obtain ⟨gv, cv, X, hv, _, hrow, hx⟩ := HS.out.rr.out
          obtain ⟨Ak, ck, hXk, _⟩ := hx kk hkk3
          subst hv
          have x0 := b_cell HS.out.xr.out 0
          have x1 := b_cell HS.out.xr.out 1
          have x3 := b_cell HS.out.xr.out 3
          simp only [List.getElem?_toArray, List.getElem?_cons_zero, List.getElem?_cons_succ] at x0 x1 x3
          have xk := hrow.2 kk hkk3
          rw [hXk] at xk
          have xp := HS.out.ptr kk hkk3
          have q5 : (0 : Int) ≤ (kk : Int) := by omega
          have q6 : (kk : Int) < 3 := by omega
          clear hx hrow hXk
          obtain ⟨hmet, hok⟩ := HS.out.ls.out.met
          have HMET := hid hmet
          have hc2 := HS.out.ls.out.cell2 kk hkk3
          clear hmet
          go_quiet ((first
            | (go_at_call 12; exact Calls.quiet_of_same ((held_any _ M H P _ (by exact HMET) hok).mono fun _ _ ⟨h1, h2⟩ => ⟨h1, h2.symm⟩))
            | (go_at_call 20; exact Calls.quiet_of_same ((peak_any _ M H P _ (by exact HMET)).mono fun _ _ ⟨h1, h2⟩ => ⟨h1, h2.symm⟩))
            | (go_at_call 13; exact Calls.quiet_of_same ((len_cell (rb kk) ((L kk).length : Int) _ (by exact hc2)).mono fun _ _ ⟨h1, h2⟩ => ⟨h1, h2.symm⟩))))
          go_wp2_with fail
          go_roundw
          case rel => exact ⟨k + 1, _, L, H, P, _, G, Z, by omega, by simp, rfl, by omega, by omega, hid (HS.out.same (S := fun _ => False) ((Only.refl _ _).drewN _) (fun _ h => h.elim))⟩
          case measure => simp [intOf]; omega
    · obtain rfl : k = len := by omega
      go_wp2_with fail
      go_ret
      exact ⟨rfl, HS.out.ls.out.below⟩
end Go.Proofs.Ytcehabcbmhjcmaa
