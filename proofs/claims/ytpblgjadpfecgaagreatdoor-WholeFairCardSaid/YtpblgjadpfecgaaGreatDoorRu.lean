/-
  The contract of Put.
-/
import Derived.Test.YtpblgjadpfecgaaGreatDoorRk
namespace Go.Proofs.YtpblgjadpfecgaaGreatDoor.Rg
open Go.RowKit

theorem ringPut_no (rb mb : Nat) (l bs : List Int) (F : Nat → Prop) (A : Option Addr) (c : Nat) (M H P : Int) (w : World) (h : Hid (Ring w rb mb l F)) (hM : Hid (MAt w mb M H P)) (ok : MOk M H P) (hno : M - H < bs.length) :
    Calls Tryz.prog 51 #[.pointer (some ⟨rb, 0, none⟩), .slice A bs.length c] w fun e w' => e = .returned (.bool false) ∧ w' = w := by
  have c0 : w.cell? ⟨rb, 0, none⟩ = some (.pointer (some ⟨mb, 0, none⟩)) := by
    obtain ⟨A, cap, ss, hR⟩ := h.out
    exact hR.cells.1
  go_enter Tryz.func51, Tryz.ntmps51
  go_wp2_with fail
  refine (take_no mb M H P (bs.length : Int) _ hM ok (.inr hno)).mono ?_
  rintro e w1 ⟨rfl, rfl⟩
  go_wp2_with fail
  go_ret
  exact ⟨rfl, rfl⟩

def slLen : Value → Nat
  | .slice _ n _ => n
  | _ => 0

/-- The state in the middle of Put. -/
def PutSt (w0 : World) (rb mb nn : Nat) (F : Nat → Prop) (l : List Int) (w : World) : Prop :=
  ∃ F' A cap ss, RingRaw w rb mb nn F' A cap ss ∧ liveAll ss = l ∧ (∀ i, F' i → F i ∨ w0.heap.size ≤ i)

/-- The state behind the choice of a segment. -/
def St7 (w0 : World) (rb mb nn : Nat) (F : Nat → Prop) (l : List Int) (M H P : Int) (w : World) : Prop :=
  ∃ F2 A2 cap2 a p c0 f t, Hid (RingLast w rb mb nn F2 A2 cap2 a ⟨p, c0, f, t⟩) ∧ Hid (liveAll a ++ (Seg.mk p c0 f t).live = l) ∧ Hid (∀ i, F2 i → F i ∨ w0.heap.size ≤ i) ∧ Hid (MAt w mb M H P) ∧ Only (fun i => F i ∨ i = mb) w0 w

/-- Nothing of what was there has turned but the ring's blocks and the meter's. -/
def OnlyR (F : Nat → Prop) (mb : Nat) (w w' : World) : Prop := Only (fun i => F i ∨ i = mb) w w'

set_option maxRecDepth 100000 in
set_option maxHeartbeats 2000000 in
theorem ringPut_yes (rb mb : Nat) (l bs : List Int) (F : Nat → Prop) (A0 : Option Addr) (c : Nat) (M H P : Int) (w : World) (h : Hid (Ring w rb mb l F)) (hM : Hid (MAt w mb M H P)) (ok : MOk M H P) (hFm : ¬ F mb)
    (hroom : (bs.length : Int) ≤ M - H) (hlH : (l.length : Int) ≤ H) (hbc : bs.length ≤ c) (hsrc : Hid (Elems w A0 bs.length (fun i => .int .u8 (bs.getD i 0)))) (hsep : Hid (0 < bs.length → ∀ a, A0 = some a → ¬ F a.block ∧ a.block ≠ mb)) :
    Calls Tryz.prog 51 #[.pointer (some ⟨rb, 0, none⟩), .slice A0 bs.length c] w fun e w' => ∃ F', e = .returned (.bool true) ∧ Hid (Ring w' rb mb (l ++ bs) F') ∧ (∀ i, F' i → F i ∨ w.heap.size ≤ i) ∧ Hid (MAt w' mb M (H + bs.length) (max P (H + bs.length))) ∧ Only (fun i => F i ∨ i = mb) w w' := by
  have hl : l.length + bs.length ≤ 1099511627776 := by have := ok.hm; have := ok.m1; omega
  have c0 : w.cell? ⟨rb, 0, none⟩ = some (.pointer (some ⟨mb, 0, none⟩)) := by
    obtain ⟨A, cap, ss, hR⟩ := h.out
    exact hR.cells.1
  go_enter Tryz.func51, Tryz.ntmps51
  go_wp2_with fail
  refine (take_y mb M H P (bs.length : Int) (H + bs.length) (max P (H + bs.length)) _ hM ok ⟨by omega, hroom⟩ rfl rfl).mono ?_
  rintro e w1 ⟨rfl, hM1, o1⟩
  obtain ⟨A, cap, ss, hR0⟩ := h.out
  have hrm : ∀ i, F i → ¬ i = mb := fun i hi e => hFm (e ▸ hi)
  have hR1 := hR0.keep o1 hrm
  obtain ⟨r0, r1, r2⟩ := hR1.cells
  have rf2 := hR1.free 2
  have HR := hid hR1
  have HR0 := hid hR0
  clear hR1 hR0 c0
  go_upto_region 3 with (fail)
  have hsum : (l.length : Int) + (bs.length : Int) = ((l.length + bs.length : Nat) : Int) := by omega
  have HS := hid hsum
  have hT0 : Hid (PutSt w rb mb (l.length + bs.length) F (l ++ bs.take 0) (w1.setCell ⟨rb, 2, none⟩ (.int .i64 ((l.length : Int) + (bs.length : Int))))) := by
    refine ⟨F, A, cap, ss, ?_, by rw [HR.out.live]; simp, fun i hi => .inl hi⟩
    exact HR.out.raw.put (o_put (Only.refl _ _) _ _) (by rw [HS.out]; exact HR.out.raw.set2 _) HR.out.segs HR.out.ownA (fun s h => h) HR.out.nodup
  have hM2 : Hid (MAt (w1.setCell ⟨rb, 2, none⟩ (.int .i64 ((l.length : Int) + (bs.length : Int)))) mb M (H + bs.length) (max P (H + bs.length))) := b_far hM1.out (fun e => hrm _ HR.out.own e.symm) _
  have ho2 : OnlyR F mb w (w1.setCell ⟨rb, 2, none⟩ (.int .i64 ((l.length : Int) + (bs.length : Int)))) := (o1.mono (fun i h => .inr h)).setCell (.inl (.inl HR.out.own)) _
  have hFlt := HR0.out.lt
  have hmlt : mb < w.heap.size := b_lt hM.out
  have HFlt := hid hFlt
  clear hFlt hsum hM hM1 o1 h HR0 r1
  go_wp2_with fail
  go_loopw [1] (fun bv wr => ∃ (j : Nat) (Aj : Option Addr) (cj : Nat), j ≤ bs.length ∧ bv = .slice Aj (bs.length - j) cj ∧ bs.length - j ≤ cj ∧ Hid (Elems w Aj (bs.length - j) (fun i => .int .u8 (bs.getD (j + i) 0))) ∧ Hid (j < bs.length → ∀ a, Aj = some a → ¬ F a.block ∧ a.block ≠ mb) ∧ Hid (PutSt w rb mb (l.length + bs.length) F (l ++ bs.take j) wr) ∧ Hid (MAt wr mb M (H + bs.length) (max P (H + bs.length))) ∧ OnlyR F mb w wr) (fun bv _ => slLen bv)
  case atStart => exact ⟨0, A0, c, Nat.zero_le _, rfl, hbc, hid (by simpa using hsrc.out), hsep, hT0, hM2, ho2⟩
  case round =>
    obtain ⟨j, Aj, cj, hj, rfl, hjc, hE, hsepj, hT, hMr, o⟩ := hrel
    clear hT0 hM2 ho2
    by_cases hlt : j < bs.length
    · obtain ⟨F', A', cap', ss', hR, hlv, hFF⟩ := hT.out
      obtain ⟨r0, r1, r2⟩ := hR.cells
      rcases List.eq_nil_or_concat ss' with rfl | ⟨a, s, hcc⟩
      · simp only [List.length_nil] at r1
        have HFF := hid hFF
        have HRR := hid hR
        clear hT hFF hR
        go_upto_region 5 with (fail)
        go_quiet (fail)
        go_upto_region 6 with (fail)
        refine fold (F := fun W' => Hid (RingRaw W' rb mb (l.length + bs.length) F' A' cap' ([] : List Seg)) ∧ Hid (MAt W' mb M (H + bs.length) (max P (H + bs.length))) ∧ OnlyR F mb w W') ⟨HRR.out.keep (S := fun _ => False) ((Only.refl _ _).drewN _) (fun _ _ h => h), hMr, Only.drewN o _⟩ ?_
        clear HRR hMr o r0 r1 r2
        rintro wY ⟨HRR, hMY, oY⟩
        obtain ⟨r0, r1, r2⟩ := HRR.out.cells
        have r1f := HRR.out.free 1
        have hAlt : ∀ i, ablock A' i → i < wY.heap.size := fun i hi => HRR.out.lt i (HRR.out.ownA i hi)
        have hArb := HRR.out.arb
        have hrbl : rb < wY.heap.size := b_lt HRR.out.row
        have HAlt := hid hAlt
        have HArb := hid hArb
        have hbnd := HRR.out.segs.bd
        have hslen : (([] : List Seg).map Seg.b).length = 0 := by simp
        rw [hslen] at hbnd
        unfold maxLen at hbnd
        obtain ⟨hbnd1, hbnd2⟩ := hbnd
        have hsmall : (0 + 1) * 8 ≤ 140737488355328 := by
          have h1 := segs_le ([] : List Seg) (fun s hs => (HRR.out.each s hs).1)
          rw [hlv, List.length_append, List.length_take] at h1
          have h2 : ([] : List Seg).length = 0 := by simp
          omega
        have HLV0 := hid hlv
        have hzs := zeroSeg
        simp only [List.length_nil] at r1
        clear hAlt hArb hlv
        go_wp2_with (first | (at_builtin; refine segs_app rfl _ _ rfl A' cap' wY.heap.size (wY.heap.size + 1) 0 (([] : List Seg).map Seg.b) hslen rfl rfl ((HRR.out.segs.keep (S := fun _ => False) ((Only.refl _ _).alloc _) (fun _ _ h => h)).keep (S := fun _ => False) ((Only.refl _ _).alloc _) (fun _ _ h => h)) (new2 _ _ _) hsmall ?_; intro A2 cap2 w5 hS5 o5 hA5; have k5 : w5.heap[rb]? = _ := o5.keep (b_alloc (b_alloc HRR.out.row _) _) HArb.out; have r5 := b_cell k5 1; have f5 := b_free k5 1) | fail)
        have hrl := HRR.out.lt _ HRR.out.own
        have oW : Only (fun i => ablock A' i ∨ i = rb) wY w5 := (((Only.refl _ _).alloc _).alloc _).trans (o5.mono (fun i h => .inl h))
        have oW2 : Only (fun i => ablock A' i ∨ i = rb) wY (w5.setCell ⟨rb, 1, none⟩ (.slice A2 (0 + 1) cap2)) := oW.setCell (.inl (.inr rfl)) _
        have hpA : ¬ ablock A' wY.heap.size := fun h => by have := HAlt.out _ h; omega
        have hl5 : SegIn (w5.setCell ⟨rb, 1, none⟩ (.slice A2 (0 + 1) cap2)) ⟨wY.heap.size, List.replicate 64 0, 0, 0⟩ := b_far (o5.keep (b_alloc (b_new wY _) _) hpA) (by show wY.heap.size ≠ rb; omega) _
        have hlast := RingRaw.fresh (w2 := w5) HRR.out (c := List.replicate 64 0) (by simp) oW2 (Nat.le_refl _) hl5 (o_put (Only.refl _ _) _ _) hS5 (fun i hi => (hA5 i hi).elim .inl (fun h => .inr (by simp at h; omega))) (b_set k5 1 _)
        refine fold (F := fun W' => St7 w rb mb (l.length + bs.length) F (l ++ bs.take j) M (H + bs.length) (max P (H + bs.length)) W') ⟨_, A2, cap2, ([] : List Seg), wY.heap.size, List.replicate 64 0, 0, 0, hlast, ?_, ?_, hMY.out.keep oW2 ?_, ?_⟩ ?_
        · show _ ++ (Seg.mk wY.heap.size (List.replicate 64 0) 0 0).live = _
          have : (Seg.mk wY.heap.size (List.replicate 64 0) 0 0).live = [] := rfl
          rw [this, List.append_nil]; exact HLV0.out
        · intro i hi
          have hwy : w.heap.size ≤ wY.heap.size := oY.size
          rcases hi with hi | rfl | hi
          · exact HFF.out i hi
          · exact .inr hwy
          · rcases hA5 i hi with h | h
            · exact HFF.out i (HRR.out.ownA i h)
            · simp at h; exact .inr (by omega)
        · intro h
          have hm : F' mb := h.elim (fun h => HRR.out.ownA _ h) (fun h => h ▸ HRR.out.own)
          rcases HFF.out _ hm with h | h
          · exact hFm h
          · omega
        · refine Only.trans' oY oW2 (fun i hi => ?_)
          have hm : F' i := hi.elim (fun h => HRR.out.ownA _ h) (fun h => h ▸ HRR.out.own)
          exact (HFF.out _ hm).elim (fun h => .inl (.inl h)) (fun h => .inr h)
        clear hlast hl5 hpA oW oW2 hrl hA5 hS5 o5 k5 r5 f5 r0 r1 r2 r1f HRR hMY oY HLV0 hzs HFF
        rintro wX ⟨F2, A2, cap2, a, p, c0, f, t, HL, HLV, HFF, hMX, oX⟩
        obtain ⟨s0, s1, s2⟩ : wX.cell? ⟨rb, 0, none⟩ = some (ptr mb) ∧ wX.cell? ⟨rb, 1, none⟩ = some (.slice A2 (a.length + 1) cap2) ∧ wX.cell? ⟨rb, 2, none⟩ = some (.int .i64 ((l.length + bs.length : Nat) : Int)) := ⟨b_cell HL.out.row 0, b_cell HL.out.row 1, b_cell HL.out.row 2⟩
        obtain ⟨g, off, rfl, cp⟩ := HL.out.segs.at_ a.length p (by simp)
        have hbd := HL.out.segs.bd
        simp only [List.length_append, List.length_map, List.length_cons, List.length_nil] at hbd
        unfold maxLen at hbd
        obtain ⟨hbd1, hbd2⟩ := hbd
        have ct := HL.out.last.cell_to HL.out.len
        have cfr := HL.out.last.free 65
        have hft : f ≤ t := HL.out.ft
        have ht64 : t < 64 := HL.out.room
        simp only at ct cfr
        unfold ptr at cp
        obtain ⟨xs, hxs⟩ : ∃ xs, xs = (bs.drop j).take (min (64 - t) (bs.length - j)) := ⟨_, rfl⟩
        have hxl : xs.length = min (64 - t) (bs.length - j) := by rw [hxs, List.length_take, List.length_drop]; omega
        have hxp : 0 < xs.length := by omega
        have hsrcX : ∃ ad, Aj = some ad ∧ ∀ i v, (u8s xs)[i]? = some v → wX.cell? (ad.add i) = some v := by
          obtain ⟨sb, soff, rfl, hsb, hcell⟩ := hE.out (by omega)
          refine ⟨_, rfl, fun i v hv => ?_⟩
          have hi : i < xs.length := by have := (List.getElem?_eq_some_iff.1 hv).1; rwa [u8s_len] at this
          obtain ⟨nf, nm⟩ := hsepj.out (by omega) _ rfl
          rw [Go.WideShapes.add_plain]
          have e1 := oX.cell (p := ⟨sb, soff + i, none⟩) hsb (fun h => h.elim nf nm)
          rw [e1, hcell i (by omega), ← hv, u8s_get xs i hi, hxs]
          show some (Value.int .u8 (bs.getD (j + i) 0)) = _
          rw [List.getD_eq_getElem?_getD, List.getD_eq_getElem?_getD, List.getElem?_take_of_lt (by omega), List.getElem?_drop]
        have hcut := cut_l p t ht64
        have hk : xs.length ≤ bs.length - j := by omega
        have hcd := cut_drop Aj (bs.length - j) cj xs.length hk
        have hcd' := cut_drop' Aj (bs.length - j) cj xs.length hk
        have HX := hid hxs
        have HXl := hid hxl
        have HSX := hid hsrcX
        have htx : t + xs.length ≤ 64 := by omega
        clear hxs hxl hsrcX
        go_quiet (fail)
        go_upto_region 8 with (fail)
        go_region_held3 (fun w' => w'.cell? ⟨p, 65, none⟩ = some (.int .i64 (t : Int))) (go_keep)
          (first | (refine step_copy1 (by rfl) _ _ (by rfl) p f t c0 xs (64 - t) (bs.length - j) cj Aj (by rfl) (by rfl) (by exact HL.out.last) HL.out.len (Nat.le_of_lt ht64) HXl.out (by exact HSX.out) ?_; intro w9 hin9 o9; have d1 := hin9.cell_to (splice_len c0 t xs HL.out.len htx)))
        have HIN9 := hid hin9
        have d2 := hin9.free 65
        simp only at d1 d2
        clear hin9
        go_wp2_with fail
        go_roundw
        case rel =>
          have hpF : F p ∨ w.heap.size ≤ p := HFF.out _ HL.out.ownL
          have hpm : mb ≠ p := by
            intro e
            rcases hpF with h | h
            · exact hFm (e ▸ h)
            · omega
          have oo : Only (· = p) wX (w9.setCell ⟨p, 65, none⟩ (.int .i64 ((t : Int) + (xs.length : Int)))) := by
            refine o_put ?_ _ _
            exact (((Only.refl _ _).drewN _).drew).trans o9
          have hin2 := SegIn.set_to HIN9.out (splice_len c0 t xs HL.out.len htx) (t + xs.length)
          rw [Int.natCast_add] at hin2
          refine ⟨j + xs.length, dropA Aj cj xs.length, cj - xs.length, by omega, by rw [show bs.length - (j + xs.length) = bs.length - j - xs.length by omega], by omega, hid ?_, hid ?_, hid ⟨F2, _, cap2, a ++ [⟨p, splice c0 t xs, f, t + xs.length⟩], HL.out.done oo rfl ⟨splice_len c0 t xs HL.out.len htx, by show f < t + xs.length; omega, htx⟩ hin2, ?_, HFF.out⟩, hMX.out.keep oo hpm, Only.trans' oX oo (fun i hi => hpF.elim (fun h => .inl (.inl (hi ▸ h))) (fun h => .inr (hi ▸ h)))⟩
          · have := elems_drop hE.out hk hjc
            rw [show bs.length - (j + xs.length) = bs.length - j - xs.length by omega]
            intro hp
            obtain ⟨b, off, e1, e2, e3⟩ := this hp
            exact ⟨b, off, e1, e2, fun i hi => by
              rw [e3 i hi]
              show some (Value.int .u8 (bs.getD (j + (xs.length + i)) 0)) = some (Value.int .u8 (bs.getD (j + xs.length + i) 0))
              rw [Nat.add_assoc]⟩
          · intro hjx x hx
            obtain ⟨x', hx', e⟩ := dropA_block hx
            rw [← e]; exact hsepj.out (by omega) _ hx'
          · rw [liveAll_snoc, live_put c0 f t p xs HL.out.len hft htx, ← List.append_assoc, HLV.out, List.append_assoc]
            congr 1
            rw [List.take_add]
            congr 1
            rw [HXl.out]
            exact HX.out
        case measure => simp [slLen]; omega
      · rw [List.concat_eq_append] at hcc
        subst hcc
        obtain ⟨hok, hin⟩ := hR.each s (by simp)
        obtain ⟨p, c0, f, t⟩ := s
        by_cases ht : t = 64
        · obtain rfl : t = 64 := ht
          have ct0 := hin.cell_to hok.len
          obtain ⟨g0, off0, hA0, cp0⟩ := hR.segs.at_ a.length p (by simp)
          have hbd0 := hR.segs.bd
          simp only [List.length_append, List.length_map, List.length_cons, List.length_nil] at hbd0
          unfold maxLen at hbd0
          obtain ⟨hbd01, hbd02⟩ := hbd0
          simp only [List.length_append, List.length_cons, List.length_nil, Nat.zero_add] at r1
          simp only at ct0
          have ct1 : wr.cell? ⟨p, 65, none⟩ = some (.int .i64 64) := ct0
          clear ct0
          subst hA0
          unfold ptr at cp0
          have g0' : ((a.length : Int) + 1 == 0) = false := by simp; omega
          clear hok hin
          have HFF := hid hFF
          have HRR := hid hR
          clear hT hFF hR
          go_upto_region 5 with (fail)
          go_quiet (fail)
          go_upto_region 6 with (fail)
          refine fold (F := fun W' => Hid (RingRaw W' rb mb (l.length + bs.length) F' (some ⟨g0, off0, none⟩) cap' (a ++ [Seg.mk p c0 f 64])) ∧ Hid (MAt W' mb M (H + bs.length) (max P (H + bs.length))) ∧ OnlyR F mb w W') ⟨HRR.out.keep (S := fun _ => False) ((Only.refl _ _).drewN _) (fun _ _ h => h), hMr, Only.drewN o _⟩ ?_
          clear HRR hMr o r0 r1 r2 ct1 cp0 g0' hbd01 hbd02
          rintro wY ⟨HRR, hMY, oY⟩
          obtain ⟨r0, r1, r2⟩ := HRR.out.cells
          have r1f := HRR.out.free 1
          have hAlt : ∀ i, ablock (some ⟨g0, off0, none⟩) i → i < wY.heap.size := fun i hi => HRR.out.lt i (HRR.out.ownA i hi)
          have hArb := HRR.out.arb
          have hrbl : rb < wY.heap.size := b_lt HRR.out.row
          have HAlt := hid hAlt
          have HArb := hid hArb
          have hbnd := HRR.out.segs.bd
          have hslen : ((a ++ [Seg.mk p c0 f 64]).map Seg.b).length = a.length + 1 := by simp
          rw [hslen] at hbnd
          unfold maxLen at hbnd
          obtain ⟨hbnd1, hbnd2⟩ := hbnd
          have hsmall : (a.length + 1 + 1) * 8 ≤ 140737488355328 := by
            have h1 := segs_le (a ++ [Seg.mk p c0 f 64]) (fun s hs => (HRR.out.each s hs).1)
            have h3 : (liveAll (a ++ [Seg.mk p c0 f 64])).length = l.length + min j bs.length := by rw [hlv, List.length_append, List.length_take]
            have h2 : (a ++ [Seg.mk p c0 f 64]).length = a.length + 1 := by simp
            omega
          have HLV0 := hid hlv
          have hzs := zeroSeg
          simp only [List.length_append, List.length_cons, List.length_nil, Nat.zero_add] at r1
          clear hAlt hArb hlv
          go_wp2_with (first | (at_builtin; refine segs_app rfl _ _ rfl (some ⟨g0, off0, none⟩) cap' wY.heap.size (wY.heap.size + 1) (a.length + 1) ((a ++ [Seg.mk p c0 f 64]).map Seg.b) hslen rfl rfl ((HRR.out.segs.keep (S := fun _ => False) ((Only.refl _ _).alloc _) (fun _ _ h => h)).keep (S := fun _ => False) ((Only.refl _ _).alloc _) (fun _ _ h => h)) (new2 _ _ _) hsmall ?_; intro A2 cap2 w5 hS5 o5 hA5; have k5 : w5.heap[rb]? = _ := o5.keep (b_alloc (b_alloc HRR.out.row _) _) HArb.out; have r5 := b_cell k5 1; have f5 := b_free k5 1) | fail)
          have hrl := HRR.out.lt _ HRR.out.own
          have oW : Only (fun i => ablock (some ⟨g0, off0, none⟩) i ∨ i = rb) wY w5 := (((Only.refl _ _).alloc _).alloc _).trans (o5.mono (fun i h => .inl h))
          have oW2 : Only (fun i => ablock (some ⟨g0, off0, none⟩) i ∨ i = rb) wY (w5.setCell ⟨rb, 1, none⟩ (.slice A2 (a.length + 1 + 1) cap2)) := oW.setCell (.inl (.inr rfl)) _
          have hpA : ¬ ablock (some ⟨g0, off0, none⟩) wY.heap.size := fun h => by have := HAlt.out _ h; omega
          have hl5 : SegIn (w5.setCell ⟨rb, 1, none⟩ (.slice A2 (a.length + 1 + 1) cap2)) ⟨wY.heap.size, List.replicate 64 0, 0, 0⟩ := b_far (o5.keep (b_alloc (b_new wY _) _) hpA) (by show wY.heap.size ≠ rb; omega) _
          have hlast := RingRaw.fresh (w2 := w5) HRR.out (c := List.replicate 64 0) (by simp) oW2 (Nat.le_refl _) hl5 (o_put (Only.refl _ _) _ _) hS5 (fun i hi => (hA5 i hi).elim .inl (fun h => .inr (by simp at h; omega))) (by rw [show (a ++ [Seg.mk p c0 f 64]).length + 1 = a.length + 1 + 1 by simp]; exact b_set k5 1 _)
          refine fold (F := fun W' => St7 w rb mb (l.length + bs.length) F (l ++ bs.take j) M (H + bs.length) (max P (H + bs.length)) W') ⟨_, A2, cap2, (a ++ [Seg.mk p c0 f 64]), wY.heap.size, List.replicate 64 0, 0, 0, hlast, ?_, ?_, hMY.out.keep oW2 ?_, ?_⟩ ?_
          · show _ ++ (Seg.mk wY.heap.size (List.replicate 64 0) 0 0).live = _
            have : (Seg.mk wY.heap.size (List.replicate 64 0) 0 0).live = [] := rfl
            rw [this, List.append_nil]; exact HLV0.out
          · intro i hi
            have hwy : w.heap.size ≤ wY.heap.size := oY.size
            rcases hi with hi | rfl | hi
            · exact HFF.out i hi
            · exact .inr hwy
            · rcases hA5 i hi with h | h
              · exact HFF.out i (HRR.out.ownA i h)
              · simp at h; exact .inr (by omega)
          · intro h
            have hm : F' mb := h.elim (fun h => HRR.out.ownA _ h) (fun h => h ▸ HRR.out.own)
            rcases HFF.out _ hm with h | h
            · exact hFm h
            · omega
          · refine Only.trans' oY oW2 (fun i hi => ?_)
            have hm : F' i := hi.elim (fun h => HRR.out.ownA _ h) (fun h => h ▸ HRR.out.own)
            exact (HFF.out _ hm).elim (fun h => .inl (.inl h)) (fun h => .inr h)
          clear hlast hl5 hpA oW oW2 hrl hA5 hS5 o5 k5 r5 f5 r0 r1 r2 r1f HRR hMY oY HLV0 hzs HFF
          clear hbnd1 hbnd2 hslen hsmall
          rintro wX ⟨F2, A2, cap2, a, p, c0, f, t, HL, HLV, HFF, hMX, oX⟩
          obtain ⟨s0, s1, s2⟩ : wX.cell? ⟨rb, 0, none⟩ = some (ptr mb) ∧ wX.cell? ⟨rb, 1, none⟩ = some (.slice A2 (a.length + 1) cap2) ∧ wX.cell? ⟨rb, 2, none⟩ = some (.int .i64 ((l.length + bs.length : Nat) : Int)) := ⟨b_cell HL.out.row 0, b_cell HL.out.row 1, b_cell HL.out.row 2⟩
          obtain ⟨g, off, rfl, cp⟩ := HL.out.segs.at_ a.length p (by simp)
          have hbd := HL.out.segs.bd
          simp only [List.length_append, List.length_map, List.length_cons, List.length_nil] at hbd
          unfold maxLen at hbd
          obtain ⟨hbd1, hbd2⟩ := hbd
          have ct := HL.out.last.cell_to HL.out.len
          have cfr := HL.out.last.free 65
          have hft : f ≤ t := HL.out.ft
          have ht64 : t < 64 := HL.out.room
          simp only at ct cfr
          unfold ptr at cp
          obtain ⟨xs, hxs⟩ : ∃ xs, xs = (bs.drop j).take (min (64 - t) (bs.length - j)) := ⟨_, rfl⟩
          have hxl : xs.length = min (64 - t) (bs.length - j) := by rw [hxs, List.length_take, List.length_drop]; omega
          have hxp : 0 < xs.length := by omega
          have hsrcX : ∃ ad, Aj = some ad ∧ ∀ i v, (u8s xs)[i]? = some v → wX.cell? (ad.add i) = some v := by
            obtain ⟨sb, soff, rfl, hsb, hcell⟩ := hE.out (by omega)
            refine ⟨_, rfl, fun i v hv => ?_⟩
            have hi : i < xs.length := by have := (List.getElem?_eq_some_iff.1 hv).1; rwa [u8s_len] at this
            obtain ⟨nf, nm⟩ := hsepj.out (by omega) _ rfl
            rw [Go.WideShapes.add_plain]
            have e1 := oX.cell (p := ⟨sb, soff + i, none⟩) hsb (fun h => h.elim nf nm)
            rw [e1, hcell i (by omega), ← hv, u8s_get xs i hi, hxs]
            show some (Value.int .u8 (bs.getD (j + i) 0)) = _
            rw [List.getD_eq_getElem?_getD, List.getD_eq_getElem?_getD, List.getElem?_take_of_lt (by omega), List.getElem?_drop]
          have hcut := cut_l p t ht64
          have hk : xs.length ≤ bs.length - j := by omega
          have hcd := cut_drop Aj (bs.length - j) cj xs.length hk
          have hcd' := cut_drop' Aj (bs.length - j) cj xs.length hk
          have HX := hid hxs
          have HXl := hid hxl
          have HSX := hid hsrcX
          have htx : t + xs.length ≤ 64 := by omega
          clear hxs hxl hsrcX
          go_quiet (fail)
          go_upto_region 8 with (fail)
          go_region_held3 (fun w' => w'.cell? ⟨p, 65, none⟩ = some (.int .i64 (t : Int))) (go_keep)
            (first | (refine step_copy1 (by rfl) _ _ (by rfl) p f t c0 xs (64 - t) (bs.length - j) cj Aj (by rfl) (by rfl) (by exact HL.out.last) HL.out.len (Nat.le_of_lt ht64) HXl.out (by exact HSX.out) ?_; intro w9 hin9 o9; have d1 := hin9.cell_to (splice_len c0 t xs HL.out.len htx)))
          have HIN9 := hid hin9
          have d2 := hin9.free 65
          simp only at d1 d2
          clear hin9
          go_wp2_with fail
          go_roundw
          case rel =>
            have hpF : F p ∨ w.heap.size ≤ p := HFF.out _ HL.out.ownL
            have hpm : mb ≠ p := by
              intro e
              rcases hpF with h | h
              · exact hFm (e ▸ h)
              · omega
            have oo : Only (· = p) wX (w9.setCell ⟨p, 65, none⟩ (.int .i64 ((t : Int) + (xs.length : Int)))) := by
              refine o_put ?_ _ _
              exact (((Only.refl _ _).drewN _).drew).trans o9
            have hin2 := SegIn.set_to HIN9.out (splice_len c0 t xs HL.out.len htx) (t + xs.length)
            rw [Int.natCast_add] at hin2
            refine ⟨j + xs.length, dropA Aj cj xs.length, cj - xs.length, by omega, by rw [show bs.length - (j + xs.length) = bs.length - j - xs.length by omega], by omega, hid ?_, hid ?_, hid ⟨F2, _, cap2, a ++ [⟨p, splice c0 t xs, f, t + xs.length⟩], HL.out.done oo rfl ⟨splice_len c0 t xs HL.out.len htx, by show f < t + xs.length; omega, htx⟩ hin2, ?_, HFF.out⟩, hMX.out.keep oo hpm, Only.trans' oX oo (fun i hi => hpF.elim (fun h => .inl (.inl (hi ▸ h))) (fun h => .inr (hi ▸ h)))⟩
            · have := elems_drop hE.out hk hjc
              rw [show bs.length - (j + xs.length) = bs.length - j - xs.length by omega]
              intro hp
              obtain ⟨b, off, e1, e2, e3⟩ := this hp
              exact ⟨b, off, e1, e2, fun i hi => by
                rw [e3 i hi]
                show some (Value.int .u8 (bs.getD (j + (xs.length + i)) 0)) = some (Value.int .u8 (bs.getD (j + xs.length + i) 0))
                rw [Nat.add_assoc]⟩
            · intro hjx x hx
              obtain ⟨x', hx', e⟩ := dropA_block hx
              rw [← e]; exact hsepj.out (by omega) _ hx'
            · rw [liveAll_snoc, live_put c0 f t p xs HL.out.len hft htx, ← List.append_assoc, HLV.out, List.append_assoc]
              congr 1
              rw [List.take_add]
              congr 1
              rw [HXl.out]
              exact HX.out
          case measure => simp [slLen]; omega
        · have hlast := RingRaw.last (a := a) (s := ⟨p, c0, f, t⟩) hR (by show t < 64; have := hok.t64; simp only at this; omega)
          have HL := hid hlast
          have HLV : Hid (liveAll a ++ (Seg.mk p c0 f t).live = l ++ bs.take j) := by rw [← liveAll_snoc]; exact hlv
          clear hlv
          obtain ⟨wX, hwX⟩ : ∃ wX, wX = wr := ⟨_, rfl⟩
          have hMX := hMr
          have oX := o
          have HFF := hid hFF
          have ct0 := hin.cell_to hok.len
          obtain ⟨g0, off0, hA0, cp0⟩ := hR.segs.at_ a.length p (by simp)
          have hbd0 := hR.segs.bd
          simp only [List.length_append, List.length_map, List.length_cons, List.length_nil] at hbd0
          unfold maxLen at hbd0
          obtain ⟨hbd01, hbd02⟩ := hbd0
          simp only [List.length_append, List.length_cons, List.length_nil] at r1
          simp only at ct0
          subst hA0
          unfold ptr at cp0
          have g0' : ((a.length : Int) + 1 == 0) = false := by simp; omega
          have g1' : ((t : Int) == 64) = false := by simp; omega
          clear hR hT hok hin hlast hFF o hMr hwX wX
          go_upto_region 5 with (fail)
          go_quiet (fail)
          go_upto_region 7 with (fail)
          refine fold (F := fun W' => St7 w rb mb (l.length + bs.length) F (l ++ bs.take j) M (H + bs.length) (max P (H + bs.length)) W') ⟨F', _, cap', a, p, c0, f, t, HL.out.same ((Only.refl _ _).drewN _), HLV, HFF, hMX, Only.drewN oX _⟩ ?_
          clear HL hMX oX r0 r1 r2 ct0 cp0 g0' g1' ht HLV HFF
          rintro wX ⟨F2, A2, cap2, a, p, c0, f, t, HL, HLV, HFF, hMX, oX⟩
          obtain ⟨s0, s1, s2⟩ : wX.cell? ⟨rb, 0, none⟩ = some (ptr mb) ∧ wX.cell? ⟨rb, 1, none⟩ = some (.slice A2 (a.length + 1) cap2) ∧ wX.cell? ⟨rb, 2, none⟩ = some (.int .i64 ((l.length + bs.length : Nat) : Int)) := ⟨b_cell HL.out.row 0, b_cell HL.out.row 1, b_cell HL.out.row 2⟩
          obtain ⟨g, off, rfl, cp⟩ := HL.out.segs.at_ a.length p (by simp)
          have hbd := HL.out.segs.bd
          simp only [List.length_append, List.length_map, List.length_cons, List.length_nil] at hbd
          unfold maxLen at hbd
          obtain ⟨hbd1, hbd2⟩ := hbd
          have ct := HL.out.last.cell_to HL.out.len
          have cfr := HL.out.last.free 65
          have hft : f ≤ t := HL.out.ft
          have ht64 : t < 64 := HL.out.room
          simp only at ct cfr
          unfold ptr at cp
          obtain ⟨xs, hxs⟩ : ∃ xs, xs = (bs.drop j).take (min (64 - t) (bs.length - j)) := ⟨_, rfl⟩
          have hxl : xs.length = min (64 - t) (bs.length - j) := by rw [hxs, List.length_take, List.length_drop]; omega
          have hxp : 0 < xs.length := by omega
          have hsrcX : ∃ ad, Aj = some ad ∧ ∀ i v, (u8s xs)[i]? = some v → wX.cell? (ad.add i) = some v := by
            obtain ⟨sb, soff, rfl, hsb, hcell⟩ := hE.out (by omega)
            refine ⟨_, rfl, fun i v hv => ?_⟩
            have hi : i < xs.length := by have := (List.getElem?_eq_some_iff.1 hv).1; rwa [u8s_len] at this
            obtain ⟨nf, nm⟩ := hsepj.out (by omega) _ rfl
            rw [Go.WideShapes.add_plain]
            have e1 := oX.cell (p := ⟨sb, soff + i, none⟩) hsb (fun h => h.elim nf nm)
            rw [e1, hcell i (by omega), ← hv, u8s_get xs i hi, hxs]
            show some (Value.int .u8 (bs.getD (j + i) 0)) = _
            rw [List.getD_eq_getElem?_getD, List.getD_eq_getElem?_getD, List.getElem?_take_of_lt (by omega), List.getElem?_drop]
          have hcut := cut_l p t ht64
          have hk : xs.length ≤ bs.length - j := by omega
          have hcd := cut_drop Aj (bs.length - j) cj xs.length hk
          have hcd' := cut_drop' Aj (bs.length - j) cj xs.length hk
          have HX := hid hxs
          have HXl := hid hxl
          have HSX := hid hsrcX
          have htx : t + xs.length ≤ 64 := by omega
          clear hxs hxl hsrcX
          go_quiet (fail)
          go_upto_region 8 with (fail)
          go_region_held3 (fun w' => w'.cell? ⟨p, 65, none⟩ = some (.int .i64 (t : Int))) (go_keep)
            (first | (refine step_copy1 (by rfl) _ _ (by rfl) p f t c0 xs (64 - t) (bs.length - j) cj Aj (by rfl) (by rfl) (by exact HL.out.last) HL.out.len (Nat.le_of_lt ht64) HXl.out (by exact HSX.out) ?_; intro w9 hin9 o9; have d1 := hin9.cell_to (splice_len c0 t xs HL.out.len htx)))
          have HIN9 := hid hin9
          have d2 := hin9.free 65
          simp only at d1 d2
          clear hin9
          go_wp2_with fail
          go_roundw
          case rel =>
            have hpF : F p ∨ w.heap.size ≤ p := HFF.out _ HL.out.ownL
            have hpm : mb ≠ p := by
              intro e
              rcases hpF with h | h
              · exact hFm (e ▸ h)
              · omega
            have oo : Only (· = p) wX (w9.setCell ⟨p, 65, none⟩ (.int .i64 ((t : Int) + (xs.length : Int)))) := by
              refine o_put ?_ _ _
              exact (((Only.refl _ _).drewN _).drew).trans o9
            have hin2 := SegIn.set_to HIN9.out (splice_len c0 t xs HL.out.len htx) (t + xs.length)
            rw [Int.natCast_add] at hin2
            refine ⟨j + xs.length, dropA Aj cj xs.length, cj - xs.length, by omega, by rw [show bs.length - (j + xs.length) = bs.length - j - xs.length by omega], by omega, hid ?_, hid ?_, hid ⟨F2, _, cap2, a ++ [⟨p, splice c0 t xs, f, t + xs.length⟩], HL.out.done oo rfl ⟨splice_len c0 t xs HL.out.len htx, by show f < t + xs.length; omega, htx⟩ hin2, ?_, HFF.out⟩, hMX.out.keep oo hpm, Only.trans' oX oo (fun i hi => hpF.elim (fun h => .inl (.inl (hi ▸ h))) (fun h => .inr (hi ▸ h)))⟩
            · have := elems_drop hE.out hk hjc
              rw [show bs.length - (j + xs.length) = bs.length - j - xs.length by omega]
              intro hp
              obtain ⟨b, off, e1, e2, e3⟩ := this hp
              exact ⟨b, off, e1, e2, fun i hi => by
                rw [e3 i hi]
                show some (Value.int .u8 (bs.getD (j + (xs.length + i)) 0)) = some (Value.int .u8 (bs.getD (j + xs.length + i) 0))
                rw [Nat.add_assoc]⟩
            · intro hjx x hx
              obtain ⟨x', hx', e⟩ := dropA_block hx
              rw [← e]; exact hsepj.out (by omega) _ hx'
            · rw [liveAll_snoc, live_put c0 f t p xs HL.out.len hft htx, ← List.append_assoc, HLV.out, List.append_assoc]
              congr 1
              rw [List.take_add]
              congr 1
              rw [HXl.out]
              exact HX.out
          case measure => simp [slLen]; omega
    · obtain ⟨F', A', cap', ss', hR, hlv, hFF⟩ := hT.out
      have e : l ++ bs.take j = l ++ bs := by rw [List.take_of_length_le (by omega)]
      rw [e] at hlv
      have e2 : l.length + bs.length = (l ++ bs).length := by rw [List.length_append]
      rw [e2] at hR
      have hRn := hid (hR.ring hlv)
      have HFn := hid hFF
      clear hR hFF hlv e e2
      go_wp2_with fail
      go_ret
      exact ⟨F', rfl, hRn, HFn.out, hMr, o⟩
end Go.Proofs.YtpblgjadpfecgaaGreatDoor.Rg
