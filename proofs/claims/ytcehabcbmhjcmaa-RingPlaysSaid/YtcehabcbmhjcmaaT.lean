/-
  The contract of Take (and of Drop).
-/
import Derived.Test.YtcehabcbmhjcmaaR
namespace Go.Proofs.Ytcehabcbmhjcmaa
open Go.RowKit

theorem elem59 : Try.prog.elem 59 = 66 := by simp [Program.elem, Try.underlying59]
theorem size66 (W : World) : (sizeOf 66).run Try.prog W = .ok 1 W := by kernel_rfl
/-- segs[1:] -/
theorem cut_tail (A : Option Addr) (n c : Nat) (h : 1 ≤ n) (W : World) :
    (Instr.slice 59 (.slice A n c) (some (.int .i64 1)) none none).run Try.prog W = .ok (.slice (tailA A c) (n - 1) (c - 1)) W := by
  have ht : Try.prog.underlying 59 = some (.slice (Try.prog.elem 59)) := by rw [elem59, Try.underlying59]
  have := run_slice_l (P := Try.prog) W 59 A n c ht .i64 1 (by omega) (by omega)
  rw [this, elem59, size66]
  simp only [Result.andThen, sliced, tailA]
  rfl
theorem cut_tail' (A : Option Addr) (n c : Nat) (h : 1 ≤ n) (W : World) :
    (Instr.sliceAt 59 (.slice A n c) (some (.int .i64 1)) none none).run Try.prog W = .ok (.slice (tailA A c) (n - 1) (c - 1)) W := by
  have ht : Try.prog.underlying 59 = some (.slice (Try.prog.elem 59)) := by rw [elem59, Try.underlying59]
  rw [run_sliceAt_slice W 59 _ _ _ _ ht]
  exact cut_tail A n c h W

theorem RingRaw.set1 {w : World} {rb mb nn : Nat} {F : Nat → Prop} {A A' : Option Addr} {cap cap' : Nat} {ss : List Seg} (h : RingRaw w rb mb nn F A cap ss) (n' : Nat) : (w.setCell ⟨rb, 1, none⟩ (.slice A' n' cap')).heap[rb]? = some (.cells #[ptr mb, .slice A' n' cap', .int .i64 (nn : Int)] 61 (0, 0)) := b_set h.row 1 _
theorem RingRaw.set2 {w : World} {rb mb nn : Nat} {F : Nat → Prop} {A : Option Addr} {cap : Nat} {ss : List Seg} (h : RingRaw w rb mb nn F A cap ss) (n' : Nat) : (w.setCell ⟨rb, 2, none⟩ (.int .i64 (n' : Int))).heap[rb]? = some (.cells #[ptr mb, .slice A ss.length cap, .int .i64 (n' : Int)] 61 (0, 0)) := b_set h.row 2 _

/-- The state in the middle of Take: what is left to be taken away. -/
def TakeSt (w0 : World) (rb mb nn : Nat) (F : Nat → Prop) (rest : List Int) (left : Nat) (w : World) : Prop :=
  ∃ A cap ss, RingRaw w rb mb nn F A cap ss ∧ left ≤ (liveAll ss).length ∧ (liveAll ss).drop left = rest ∧ Only F w0 w

set_option maxHeartbeats 1000000 in
theorem ringTake_any (rb mb : Nat) (l : List Int) (F : Nat → Prop) (n : Int) (m : Nat) (M H P : Int) (w : World) (h : Hid (Ring w rb mb l F)) (hM : Hid (MAt w mb M H P)) (ok : MOk M H P) (hFm : ¬ F mb) (hm : (m : Int) = min (max n 0) (l.length : Int)) (hlH : (l.length : Int) ≤ H) :
    Calls Try.prog 11 #[.pointer (some ⟨rb, 0, none⟩), .int .i64 n] w fun e w' => ∃ A c, e = .returned (.slice A m c) ∧ OwnB w' w.heap.size A c (l.take m) ∧ Hid (Ring w' rb mb (l.drop m) F) ∧ Hid (MAt w' mb M (H - m) P) ∧ Only (fun i => F i ∨ i = mb) w w' := by
  have hl : l.length ≤ 1099511627776 := by have := ok.hm; have := ok.m1; omega
  have hml : m ≤ l.length := by omega
  have hmH : (m : Int) ≤ H := by omega
  have hFlt : ∀ i, F i → i < w.heap.size := by obtain ⟨A, cap, ss, hR⟩ := h.out; exact hR.lt
  have hmlt : mb < w.heap.size := b_lt hM.out
  have HFlt := hid hFlt
  have HM := hid hm
  clear hFlt hm
  go_enter Try.func11, Try.ntmps11
  go_wp2_with fail
  refine (peek_any rb mb l F n m _ h HM.out hl).mono ?_
  rintro e w1 ⟨Ao, cO, rfl, hO, o1⟩
  have HO := hid hO
  clear hO
  obtain ⟨A0, cap0, ss0, hR0⟩ := h.out
  have hT0 : Hid (TakeSt w rb mb l.length F (l.drop m) m w1) := ⟨A0, cap0, ss0, (hR0.keep o1 (fun _ _ h => h)).raw, by rw [hR0.live]; exact hml, by rw [hR0.live], o1.mono (fun _ h => h.elim)⟩
  have hM1 := hid (show MAt w1 mb M H P from hM.out.keep o1 (fun h => h))
  clear hR0 h hM o1
  go_wp2_with fail
  go_loopw [6] (fun lv wr => ∃ left : Nat, left ≤ m ∧ lv = .int .i64 (left : Int) ∧ Hid (TakeSt w rb mb l.length F (l.drop m) left wr) ∧ Hid (OwnB wr w.heap.size Ao cO (l.take m)) ∧ Hid (MAt wr mb M H P)) (fun lv _ => (intOf lv).toNat)
  case atStart => exact ⟨m, Nat.le_refl _, rfl, hT0, HO, hM1⟩
  case round =>
    obtain ⟨left, hlm, rfl, hT, HO1, hM2⟩ := hrel
    clear hT0 hM1
    obtain ⟨A, cap, ss, hR, hle, hdr, o⟩ := hT.out
    obtain ⟨c0, c1, c2⟩ := hR.cells
    by_cases hpos : 0 < left
    · obtain ⟨s, r, rfl⟩ := liveAll_pos (fun s hs => (hR.each s hs).1) (show 0 < (liveAll ss).length by omega)
      obtain ⟨hok, hin⟩ := hR.each s (by simp)
      obtain ⟨g, off, rfl, cp⟩ := hR.segs.at_ 0 s.b rfl
      have hsb := hR.segs.bd
      simp only [List.map_cons, List.length_cons, List.length_map] at hsb
      unfold maxLen at hsb
      obtain ⟨hsb1, hsb2⟩ := hsb
      have cf := hin.cell_from hok.len
      have ct := hin.cell_to hok.len
      have ff := hin.free 64
      obtain ⟨k1, k2, k3⟩ := hok
      have HK1 := hid k1
      have HIN := hid hin
      have HR := hid hR
      have HDR := hid hdr
      have HLE := hid hle
      clear k1 hin hR hdr hle hT
      unfold ptr at cp
      obtain ⟨pb, c, f, t⟩ := s
      simp only [List.length_cons] at cf ct ff k2 k3 cp c1
      simp only [Nat.add_zero] at cp
      have e1 : IntKind.i64.wrap ((t : Int) - (f : Int)) = (t : Int) - (f : Int) := IntWalk.i64_in _ (by omega)
      have hpF : F pb := HR.out.ownS ⟨pb, c, f, t⟩ (by simp)
      have hrF : F rb := HR.out.own
      have hlive : (Seg.mk pb c f t).live.length = t - f := live_len HK1.out k3
      have hall : (liveAll (⟨pb, c, f, t⟩ :: r)).length = t - f + (liveAll r).length := by
        show ((Seg.mk pb c f t).live ++ liveAll r).length = _
        rw [List.length_append, hlive]
      by_cases hcase : t - f ≤ left
      · have e4 : min (left : Int) ((t : Int) - (f : Int)) = (t : Int) - (f : Int) := by omega
        have e5 : (f : Int) + ((t : Int) - (f : Int)) = (t : Int) := by omega
        have hset := SegIn.set_from HIN.out HK1.out t
        have hc1 := hset.cell_from HK1.out
        have hc2 := hset.cell_to HK1.out
        have HE5 := hid e5
        have HS1 := hid hc1
        have HS2 := hid hc2
        have HL := hid hlive
        have HA := hid hall
        clear hset hc1 hc2 e5 hlive hall
        go_upto_region 5 with (fail)
        go_quiet (fail)
        go_upto_region 7 with (fail)
        simp only [HE5.out]
        refine fold (F := fun W' => Only (· = pb) wr W' ∧ W'.cell? ⟨pb, 64, none⟩ = some (.int .i64 (t : Int)) ∧ W'.cell? ⟨pb, 65, none⟩ = some (.int .i64 (t : Int))) ⟨by repeat (first | exact Only.refl _ _ | apply Only.drewN | apply Only.drew | apply o_put), HS1.out, HS2.out⟩ ?_
        rintro w5 ⟨o5, d0, d1⟩
        have hne : rb ≠ pb := ty_ne HR.out.row HIN.out (by decide)
        have r1 : w5.cell? ⟨rb, 1, none⟩ = some (.slice (some ⟨g, off, none⟩) (r.length + 1) cap) := (o5.cell (p := ⟨rb, 1, none⟩) (b_lt HR.out.row) hne).trans c1
        have r1f : w5.frozen? ⟨rb, 1, none⟩ = false := b_free (o5.keep HR.out.row hne) 1
        have hcut := cut_tail (some ⟨g, off, none⟩) (r.length + 1) cap (by omega)
        have hcut' := cut_tail' (some ⟨g, off, none⟩) (r.length + 1) cap (by omega)
        simp only [Nat.add_sub_cancel] at hcut hcut'
        clear cf ct ff c0 c1 c2 cp HS1 HS2
        go_upto_region 8 with (fail)
        go_quiet (fail)
        have heq : ((t : Int) == (t : Int)) = true := by simp
        go_wp2_with fail
        go_roundw
        case rel =>
          have hb1 := HL.out
          have hb2 := HA.out
          have hle := HLE.out
          have hdr := HDR.out
          refine ⟨left - (t - f), by omega, by congr 1; omega, hid ⟨tailA (some ⟨g, off, none⟩) cap, cap - 1, r, RingRaw.behead HR.out ?_ (b_set (o5.keep HR.out.row hne) 1 _), by omega, ?_, ?_⟩, HO1.out.keep (S := fun i => i = pb ∨ i = rb) ?_ ?_, hM2.out.keep (S := fun i => i = pb ∨ i = rb) ?_ ?_⟩
          · repeat (first | exact o5.mono (fun i h => .inl h) | apply Only.drewN | apply Only.drew | refine Only.setCell ?_ (.inl (.inr rfl)) _)
          · rw [← hdr]
            show _ = ((Seg.mk pb c f t).live ++ liveAll r).drop left
            rw [drop_past _ _ _ (by rw [hb1]; exact hcase), hb1]
          · refine o.trans (b := wr) ?_
            repeat (first | exact o5.mono (fun i h => h ▸ hpF) | apply Only.drewN | apply Only.drew | refine Only.setCell ?_ (.inl hrF) _)
          · repeat (first | exact o5.mono (fun i h => .inl h) | apply Only.drewN | apply Only.drew | refine Only.setCell ?_ (.inl (.inr rfl)) _)
          · intro i hi h
            have h1 := HFlt.out _ hpF
            have h2 := HFlt.out _ hrF
            rcases h with h | h <;> omega
          · repeat (first | exact o5.mono (fun i h => .inl h) | apply Only.drewN | apply Only.drew | refine Only.setCell ?_ (.inl (.inr rfl)) _)
          · intro h
            rcases h with h | h
            · exact hFm (h ▸ hpF)
            · exact hFm (h ▸ hrF)
        case measure => simp [intOf]; omega
      · have e4 : min (left : Int) ((t : Int) - (f : Int)) = (left : Int) := by omega
        have hset := SegIn.set_from HIN.out HK1.out (f + left)
        rw [Int.natCast_add] at hset
        have hc1 := hset.cell_from HK1.out
        have hc2 := hset.cell_to HK1.out
        simp only [Int.natCast_add] at hc1
        have HS0 := hid hset
        have HS1 := hid hc1
        have HS2 := hid hc2
        have HL := hid hlive
        have HA := hid hall
        clear hset hc1 hc2 hlive hall
        go_upto_region 5 with (fail)
        go_quiet (fail)
        go_upto_region 7 with (fail)
        refine fold (F := fun W' => Only (· = pb) wr W' ∧ W'.cell? ⟨pb, 64, none⟩ = some (.int .i64 ((f : Int) + (left : Int))) ∧ W'.cell? ⟨pb, 65, none⟩ = some (.int .i64 (t : Int)) ∧ Hid (SegIn W' ⟨pb, c, f + left, t⟩)) ⟨by repeat (first | exact Only.refl _ _ | apply Only.drewN | apply Only.drew | apply o_put), HS1.out, HS2.out, HS0.out⟩ ?_
        rintro w5 ⟨o5, d0, d1, HS5⟩
        clear cf ct ff c0 c1 c2 cp HS0 HS1 HS2
        go_upto_region 8 with (fail)
        have heq : ((f : Int) + (left : Int) == (t : Int)) = false := by simp; omega
        go_quiet (fail)
        go_wp2_with fail
        go_roundw
        case rel =>
          have hb1 := HL.out
          have hb2 := HA.out
          have hle := HLE.out
          have hdr := HDR.out
          refine ⟨0, by omega, by first | rfl | (congr 1; omega), hid ⟨some ⟨g, off, none⟩, cap, ⟨pb, c, f + left, t⟩ :: r, RingRaw.seg (a := []) HR.out (s' := ⟨pb, c, f + left, t⟩) ?_ rfl ⟨HK1.out, by show f + left < t; omega, k3⟩ HS5.out, Nat.zero_le _, ?_, ?_⟩, HO1.out.keep (S := (· = pb)) ?_ ?_, hM2.out.keep (S := (· = pb)) ?_ ?_⟩
          · repeat (first | exact o5 | apply Only.drewN | apply Only.drew)
          · rw [← hdr]
            show (Seg.mk pb c (f + left) t).live ++ liveAll r = ((Seg.mk pb c f t).live ++ liveAll r).drop left
            rw [live_take, List.drop_append_of_le_length (by rw [hb1]; omega)]
          · refine o.trans (b := wr) ?_
            repeat (first | exact o5.mono (fun i h => h ▸ hpF) | apply Only.drewN | apply Only.drew)
          · repeat (first | exact o5 | apply Only.drewN | apply Only.drew)
          · intro i hi h
            have h1 := HFlt.out _ hpF
            omega
          · repeat (first | exact o5 | apply Only.drewN | apply Only.drew)
          · intro h
            exact hFm (h ▸ hpF)
        case measure => simp [intOf]; omega
    · obtain rfl : left = 0 := by omega
      have f2 := hR.free 2
      have HR := hid hR
      have HDR := hid hdr
      clear hR hdr hT
      rw [List.drop_zero] at HDR
      have hlen : (l.length : Int) - (m : Int) = ((l.drop m).length : Int) := by rw [List.length_drop]; omega
      have HLn := hid hlen
      have hrm : mb ≠ rb := fun e => hFm (e ▸ HR.out.own)
      have hrmb : Hid (MAt (wr.setCell ⟨rb, 2, none⟩ (.int .i64 ((l.length : Int) - (m : Int)))) mb M H P) := b_far hM2.out hrm _
      clear hlen
      unfold ptr at c0
      go_wp2_with fail
      refine (give_d mb M H P (m : Int) m (H - m) _ hrmb ok (by omega) (by omega) (by omega) rfl).mono ?_
      rintro e w6 ⟨rfl, hM6, o6⟩
      go_wp2_with fail
      go_ret
      have oo : Only (· = rb) wr (wr.setCell ⟨rb, 2, none⟩ (.int .i64 ((l.length : Int) - (m : Int)))) := o_put (Only.refl _ _) _ _
      have hR5 : RingRaw (wr.setCell ⟨rb, 2, none⟩ (.int .i64 ((l.length : Int) - (m : Int)))) rb mb (l.drop m).length F A cap ss :=
        HR.out.put oo (by rw [HLn.out]; exact HR.out.set2 _) HR.out.segs HR.out.ownA (fun s h => h) HR.out.nodup
      refine ⟨Ao, cO, rfl, ?_, ?_, hM6, ?_⟩
      · refine (HO1.out.keep oo ?_).keep o6 ?_
        · intro i hi h
          have := HFlt.out _ HR.out.own
          omega
        · intro i hi h
          omega
      · exact (hR5.keep o6 (fun i hi h => hFm (h ▸ hi))).ring HDR.out
      · exact ((o.mono (fun i h => .inl h)).trans (oo.mono (fun i h => .inl (h ▸ HR.out.own)))).trans (o6.mono (fun i h => .inr h))

theorem ringDrop_any (rb mb : Nat) (l : List Int) (F : Nat → Prop) (M H P : Int) (w : World) (h : Hid (Ring w rb mb l F)) (hM : Hid (MAt w mb M H P)) (ok : MOk M H P) (hFm : ¬ F mb) (hlH : (l.length : Int) ≤ H) :
    Calls Try.prog 19 #[.pointer (some ⟨rb, 0, none⟩)] w fun e w' => e = .returned (.int .i64 (l.length : Int)) ∧ Hid (Ring w' rb mb [] F) ∧ Hid (MAt w' mb M (H - l.length) P) ∧ Only (fun i => F i ∨ i = mb) w w' := by
  have hl : l.length ≤ 1099511627776 := by have := ok.hm; have := ok.m1; omega
  have c2 : w.cell? ⟨rb, 2, none⟩ = some (.int .i64 (l.length : Int)) := by
    obtain ⟨A, cap, ss, hR⟩ := h.out
    exact hR.cells.2.2
  go_enter Try.func19, Try.ntmps19
  go_wp2_with fail
  refine (ringTake_any rb mb l F (l.length : Int) l.length M H P _ h hM ok hFm (by omega) hlH).mono ?_
  rintro e w1 ⟨A, c, rfl, hO, hR, hM1, o1⟩
  have HO := hid hO
  clear hO
  go_wp2_with fail
  go_ret
  rw [List.drop_length] at hR
  exact ⟨rfl, hR, hM1, o1⟩
end Go.Proofs.Ytcehabcbmhjcmaa
