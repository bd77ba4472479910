/-
  The contract of Peek.
-/
import Derived.Test.YtpblgjadpfecgaaGreatDoorRa
import Derived.Deep.RegionHeld3
import Derived.Deep.AppendLies
import Derived.ArgAppend
import Derived.Laws.CopyOwn
namespace Go.Proofs.YtpblgjadpfecgaaGreatDoor.Rg
open Go.RowKit

theorem fold {F : World → Prop} {P : Program} {c : Code} {Q : Exit → Act → World → Prop} {a : Act} {W : World} (hf : F W) (h : ∀ W', F W' → Code.wp P c Q a W') : Code.wp P c Q a W := h W hf
theorem info5 : (Tryz.prog.info? 5).map (fun i => (i.zero, i.size, i.bytes)) = some (some (.int .u8 0), 1, 1) := by kernel_rfl

theorem arr64 : Tryz.prog.underlying 190 = some (.array (Tryz.prog.arrayLen 190) (Tryz.prog.elem 190)) := by simp [Program.arrayLen, Program.elem, Tryz.underlying190]
theorem arr64n : Tryz.prog.arrayLen 190 = 64 := by simp [Program.arrayLen, Tryz.underlying190]
theorem arr64e : Tryz.prog.elem 190 = 5 := by simp [Program.elem, Tryz.underlying190]
theorem size5 (W : World) : (sizeOf 5).run Tryz.prog W = .ok 1 W := by kernel_rfl
theorem cut_lh (p f h : Nat) (h1 : f < 64) (h2 : f ≤ h) (h3 : h ≤ 64) (W : World) :
    (Instr.sliceAt 190 (.pointer (some ⟨p, 0, none⟩)) (some (.int .i64 (f : Int))) (some (.int .i64 (h : Int))) none).run Tryz.prog W = .ok (.slice (some ⟨p, f, none⟩) (h - f) (64 - f)) W := by
  rw [run_sliceAt_array_lh W 190 _ arr64 _ _ _ _ (by omega) (by omega) (by rw [arr64n]; omega), arr64e, size5]
  simp only [Result.andThen, slicedAt, arr64n, Int.toNat_natCast]
  rw [if_neg (by omega), Go.WideShapes.add_plain, Nat.zero_add, Nat.mul_one]
theorem cut_l (p f : Nat) (h1 : f < 64) (W : World) :
    (Instr.sliceAt 190 (.pointer (some ⟨p, 0, none⟩)) (some (.int .i64 (f : Int))) none none).run Tryz.prog W = .ok (.slice (some ⟨p, f, none⟩) (64 - f) (64 - f)) W := by
  rw [run_sliceAt_array_l W 190 _ arr64 _ _ (by omega) (by rw [arr64n]; omega), arr64e, size5]
  simp only [Result.andThen, slicedAt, arr64n, Int.toNat_natCast]
  rw [if_neg (by omega), Go.WideShapes.add_plain, Nat.zero_add, Nat.mul_one]

theorem ringNew_any (mb : Nat) (w : World) :
    Calls Tryz.prog 49 #[.pointer (some ⟨mb, 0, none⟩)] w fun e w' => e = .returned (.pointer (some ⟨w.heap.size, 0, none⟩)) ∧ Hid (Ring w' w.heap.size mb [] (· = w.heap.size)) ∧ Only (fun _ => False) w w' := by
  go_enter Tryz.func49, Tryz.ntmps49
  go_wp2
  go_ret
  refine ⟨rfl, ⟨none, 0, [], ?_⟩, (Only.refl _ _).alloc _⟩
  refine ⟨b_new w _, .inl ⟨rfl, rfl, rfl⟩, (fun s h => by cases h), List.nodup_nil, rfl, rfl, (fun i (h : False) => h.elim), (fun s h => by cases h), fun i h => ?_⟩
  subst h
  simp

theorem ringLen_any (rb mb : Nat) (l : List Int) (F : Nat → Prop) (w : World) (h : Hid (Ring w rb mb l F)) :
    Calls Tryz.prog 65 #[.pointer (some ⟨rb, 0, none⟩)] w fun e w' => e = .returned (.int .i64 (l.length : Int)) ∧ w = w' := by
  obtain ⟨A, cap, ss, hR⟩ := h.out
  obtain ⟨c0, c1, c2⟩ := hR.cells
  have H := hid hR
  clear hR h
  go_enter Tryz.func65, Tryz.ntmps65
  go_wp2
  go_ret
  exact ⟨rfl, rfl⟩

/-- A slice of bytes that the call owns. -/
def OwnB (w : World) (base : Nat) (A : Option Addr) (c : Nat) (q : List Int) : Prop := w.ownsRow base 5 1 (.slice A q.length c) q.length (u8s q)
theorem OwnB.keep {S : Nat → Prop} {w w' : World} {base : Nat} {A : Option Addr} {c : Nat} {q : List Int} (h : OwnB w base A c q) (o : Only S w w') (hs : ∀ i, base ≤ i → ¬ S i) : OwnB w' base A c q := by
  refine ⟨h.1, ?_⟩
  rcases h.2 with hv | ⟨g, cap, cur, hv, hb, hg, r⟩
  · exact .inl hv
  · exact .inr ⟨g, cap, cur, hv, hb, o.keep hg (hs g hb), r⟩

set_option maxRecDepth 100000 in
set_option maxHeartbeats 1000000 in
theorem peek_any (rb mb : Nat) (l : List Int) (F : Nat → Prop) (n : Int) (m : Nat) (w : World) (h : Hid (Ring w rb mb l F)) (hm : (m : Int) = min (max n 0) (l.length : Int)) (hl : l.length ≤ 1099511627776) :
    Calls Tryz.prog 64 #[.pointer (some ⟨rb, 0, none⟩), .int .i64 n] w fun e w' => ∃ A c, e = .returned (.slice A m c) ∧ OwnB w' w.heap.size A c (l.take m) ∧ Only (fun _ => False) w w' := by
  obtain ⟨A, cap, ss, hR⟩ := h.out
  obtain ⟨c0, c1, c2⟩ := hR.cells
  have hsl : ss.length ≤ cap ∧ cap ≤ maxLen := by
    rcases hR.segs with ⟨_, h1, h2⟩ | ⟨g, off, cur, _, _, h1, h2, _⟩
    · have : ss.length = 0 := by simpa using congrArg List.length h1
      subst h2; exact ⟨by omega, Nat.zero_le _⟩
    · exact ⟨by simpa using h1, h2⟩
  unfold maxLen at hsl
  obtain ⟨hs1, hs2⟩ := hsl
  have hml : m ≤ l.length := by omega
  have HR := hid hR
  have HM := hid hm
  clear hR h hm
  go_enter Tryz.func64, Tryz.ntmps64
  go_upto_region 2 with (fail)
  rw [← HM.out]
  go_wp2_with fail
  go_loopw [5, 20] (fun ov iv wr => ∃ (i : Nat) (q : List Int) (Ao : Option Addr) (cO : Nat), i ≤ ss.length ∧ iv = .int .i64 (i : Int) ∧ ov = .slice Ao q.length cO ∧ q.length ≤ m ∧ Hid (q = (liveAll (ss.take i)).take m) ∧ Hid (OwnB wr w.heap.size Ao cO q) ∧ Only (fun _ => False) w wr) (fun _ iv _ => ss.length - (intOf iv).toNat)
  case atStart => exact ⟨0, [], none, 0, Nat.zero_le _, rfl, rfl, Nat.zero_le _, hid (by simp [liveAll]), World.ownsRow_nil _ _ _ _, Only.refl _ _⟩
  case round =>
    obtain ⟨i, q, Ao, cO, hi, rfl, rfl, hqm, HQ, HO, o⟩ := hrel
    by_cases hlt : i < ss.length
    · have hR1 := HR.out.keep o (fun _ _ h => h)
      have hsi : ss[i]? = some ss[i] := List.getElem?_eq_getElem hlt
      obtain ⟨hok, hin⟩ := hR1.each _ (List.getElem_mem hlt)
      obtain ⟨g, off, rfl, cp⟩ := hR1.segs.at_ i (ss[i]).b (by rw [List.getElem?_map, hsi]; rfl)
      have HSI := hid hsi
      have HIN := hid hin
      have cf := hin.cell_from hok.len
      have ct := hin.cell_to hok.len
      obtain ⟨k1, k2, k3⟩ := hok
      have HK1 := hid k1
      clear hsi hin hR1 k1
      have hpb : (ss[i]).b < w.heap.size := HR.out.lt _ (HR.out.ownS _ (List.getElem_mem hlt))
      unfold ptr at cp
      generalize ss[i] = s at *
      obtain ⟨pb, c, f, t⟩ := s
      simp only at cf ct k2 k3 cp hpb
      by_cases hful : q.length = m
      · have HF := hid hful
        have hf1 : ((m : Int) == (q.length : Int)) = true := by simp [hful]
        clear hful
        go_wp2_with fail
        go_ret
        have e : q = l.take m := by
          have := take_full (ss := ss) (m := m) (i := i) (by rw [← HQ.out]; exact HF.out)
          rw [HQ.out, this, HR.out.live]
        refine ⟨Ao, cO, by show Ending.returned (Value.slice Ao q.length cO) = _; rw [HF.out], ?_, o⟩
        rw [← e]; exact HO.out
      · have hf1 : ((m : Int) == (q.length : Int)) = false := by simp; omega
        have hful' : q.length < m := by omega
        go_upto_region 7 with (fail)
        have e1 : IntKind.i64.wrap ((f : Int) + (m : Int)) = (f : Int) + (m : Int) := IntWalk.i64_in _ (by omega)
        have e2 : IntKind.i64.wrap ((f : Int) + (m : Int) - (q.length : Int)) = (f : Int) + (m : Int) - (q.length : Int) := IntWalk.i64_in _ (by omega)
        obtain ⟨hh, hhd⟩ : ∃ hh : Nat, hh = min t (f + (m - q.length)) := ⟨_, rfl⟩
        have e3 : min (t : Int) ((f : Int) + (m : Int) - (q.length : Int)) = (hh : Int) := by omega
        have b1 : f < hh := by omega
        have b2 : hh ≤ 64 := by omega
        have hcut := cut_lh pb f hh (by omega) (by omega) b2
        have HH := hid hhd
        obtain ⟨X, hX⟩ : ∃ X, X = u8s ((c.drop f).take (hh - f)) := ⟨_, rfl⟩
        have hXl : X.length = hh - f := by rw [hX, u8s_len, List.length_take, List.length_drop, HK1.out]; omega
        have hnw : ∀ j v, X[j]? = some v → wr.cell? ((⟨pb, f, none⟩ : Addr).add j) = some v := by
          intro j v hv
          rw [Go.WideShapes.add_plain]
          have hj : j < hh - f := by rw [← hXl]; exact (List.getElem?_eq_some_iff.1 hv).1
          have hb := HIN.out.cell_byte (f + j) (by show f + j < c.length; rw [HK1.out]; omega)
          rw [hb]
          rw [hX, u8s_get _ _ (by rw [List.length_take, List.length_drop, HK1.out]; omega)] at hv
          rw [← hv, List.getD_eq_getElem?_getD, List.getD_eq_getElem?_getD, List.getElem?_take_of_lt hj, List.getElem?_drop]
        have h1c : ∀ v ∈ X, v.oneCell' = true := by
          intro v hv
          rw [hX] at hv
          obtain ⟨x, _, rfl⟩ := List.mem_map.1 hv
          rfl
        have HX := hid hX
        have HXl := hid hXl
        have HN := hid hnw
        have H1 := hid h1c
        obtain ⟨i0, hi0, hz0, hz1, hz2⟩ := info_parts info5
        have osz := o.size
        clear hhd hX hXl hnw h1c
        go_region_held3 (fun w' => w'.cell? ⟨pb, 64, none⟩ = some (.int .i64 (f : Int)) ∧ w'.cell? ⟨pb, 65, none⟩ = some (.int .i64 (t : Int))) (go_keep)
          (first | (refine step_append_lies _ (by rfl) _ _ _ (by rfl) w.heap.size 5 i0 _ 1 1 Tryz.underlying30 hi0 hz0 hz1 hz2 rfl (by omega) (.slice Ao q.length cO) q.length (u8s q) (by rfl) (by exact HO.out) ⟨pb, f, none⟩ (hh - f) (64 - f) X (by rfl) (by rw [Nat.mul_one]; exact HXl.out) (by exact HN.out) H1.out (by omega) (by unfold maxLen; omega) (by omega) (by exact osz) _ rfl ?_; intro g2 cp2 w2 hown hgr hat hlt2; have o2 : Only (fun k => w.heap.size ≤ k) wr.drew w2 := (Only.refl _ _).grown hgr (fun k hk => .inl (HO.out.lt k hk).1); have d0 : w2.cell? ⟨pb, 64, none⟩ = some (.int .i64 (f : Int)) := (o2.cell (p := ⟨pb, 64, none⟩) (Nat.lt_of_lt_of_le hpb osz) (Nat.not_le.2 hpb)).trans cf; have d1 : w2.cell? ⟨pb, 65, none⟩ = some (.int .i64 (t : Int)) := (o2.cell (p := ⟨pb, 65, none⟩) (Nat.lt_of_lt_of_le hpb osz) (Nat.not_le.2 hpb)).trans ct))
        clear d0 d1 hat hgr
        have o3 : Only (fun _ => False) w w2 := (o.drew.trans' o2 (fun i hi => .inr hi))
        have hq2 : q ++ (c.drop f).take (hh - f) = (liveAll (ss.take (i + 1))).take m := by
          have hl0 : (liveAll (ss.take i)).length = q.length := by
            have h1 := congrArg List.length HQ.out
            rw [List.length_take] at h1
            omega
          rw [take_step HSI.out, ← HQ.out, hl0]
          congr 2
          have := HH.out
          show hh - f = min (m - q.length) (t - f)
          omega
        have hq3 : (q ++ (c.drop f).take (hh - f)).length = q.length + (hh - f) := by
          rw [List.length_append, List.length_take, List.length_drop, HK1.out]; omega
        have hO2 : OwnB w2 w.heap.size (some ⟨g2, 0, none⟩) cp2 (q ++ (c.drop f).take (hh - f)) := by
          unfold OwnB
          rw [hq3, u8s_append, ← HX.out]
          exact hown
        have HQ2 := hid hq2
        have HQ3 := hid hq3
        have HO2 := hid hO2
        clear hq2 hq3 hO2 hown
        go_wp2_with fail
        go_roundw
        case rel => exact ⟨i + 1, q ++ (c.drop f).take (hh - f), _, _, by omega, by go_num, by rw [HQ3.out], by rw [HQ3.out]; have := HH.out; omega, HQ2, HO2, o3⟩
        case measure => simp [intOf]; omega
    · obtain rfl : i = ss.length := by omega
      have e : q = l.take m := by
        rw [HQ.out, take_all (Nat.le_refl _), HR.out.live]
      have e2 : q.length = m := by rw [e, List.length_take]; omega
      have E := hid e
      have E2 := hid e2
      clear e e2
      go_wp2_with fail
      go_ret
      refine ⟨Ao, cO, by show Ending.returned (Value.slice Ao q.length cO) = _; rw [E2.out], ?_, o⟩
      rw [← E.out]; exact HO.out
end Go.Proofs.YtpblgjadpfecgaaGreatDoor.Rg
/-
  The contract of Take (and of Drop).
-/
namespace Go.Proofs.YtpblgjadpfecgaaGreatDoor.Rg
open Go.RowKit

theorem elem59 : Tryz.prog.elem 187 = 193 := by simp [Program.elem, Tryz.underlying187]
theorem size66 (W : World) : (sizeOf 193).run Tryz.prog W = .ok 1 W := by kernel_rfl
/-- segs[1:] -/
theorem cut_tail (A : Option Addr) (n c : Nat) (h : 1 ≤ n) (W : World) :
    (Instr.slice 187 (.slice A n c) (some (.int .i64 1)) none none).run Tryz.prog W = .ok (.slice (tailA A c) (n - 1) (c - 1)) W := by
  have ht : Tryz.prog.underlying 187 = some (.slice (Tryz.prog.elem 187)) := by rw [elem59, Tryz.underlying187]
  have := run_slice_l (P := Tryz.prog) W 187 A n c ht .i64 1 (by omega) (by omega)
  rw [this, elem59, size66]
  simp only [Result.andThen, sliced, tailA]
  rfl
theorem cut_tail' (A : Option Addr) (n c : Nat) (h : 1 ≤ n) (W : World) :
    (Instr.sliceAt 187 (.slice A n c) (some (.int .i64 1)) none none).run Tryz.prog W = .ok (.slice (tailA A c) (n - 1) (c - 1)) W := by
  have ht : Tryz.prog.underlying 187 = some (.slice (Tryz.prog.elem 187)) := by rw [elem59, Tryz.underlying187]
  rw [run_sliceAt_slice W 187 _ _ _ _ ht]
  exact cut_tail A n c h W

theorem RingRaw.set1 {w : World} {rb mb nn : Nat} {F : Nat → Prop} {A A' : Option Addr} {cap cap' : Nat} {ss : List Seg} (h : RingRaw w rb mb nn F A cap ss) (n' : Nat) : (w.setCell ⟨rb, 1, none⟩ (.slice A' n' cap')).heap[rb]? = some (.cells #[ptr mb, .slice A' n' cap', .int .i64 (nn : Int)] 189 (0, 0)) := b_set h.row 1 _
theorem RingRaw.set2 {w : World} {rb mb nn : Nat} {F : Nat → Prop} {A : Option Addr} {cap : Nat} {ss : List Seg} (h : RingRaw w rb mb nn F A cap ss) (n' : Nat) : (w.setCell ⟨rb, 2, none⟩ (.int .i64 (n' : Int))).heap[rb]? = some (.cells #[ptr mb, .slice A ss.length cap, .int .i64 (n' : Int)] 189 (0, 0)) := b_set h.row 2 _

/-- The state in the middle of Take: what is left to be taken away. -/
def TakeSt (w0 : World) (rb mb nn : Nat) (F : Nat → Prop) (rest : List Int) (left : Nat) (w : World) : Prop :=
  ∃ A cap ss, RingRaw w rb mb nn F A cap ss ∧ left ≤ (liveAll ss).length ∧ (liveAll ss).drop left = rest ∧ Only F w0 w

set_option maxHeartbeats 1000000 in
theorem ringTake_any (rb mb : Nat) (l : List Int) (F : Nat → Prop) (n : Int) (m : Nat) (M H P : Int) (w : World) (h : Hid (Ring w rb mb l F)) (hM : Hid (MAt w mb M H P)) (ok : MOk M H P) (hFm : ¬ F mb) (hm : (m : Int) = min (max n 0) (l.length : Int)) (hlH : (l.length : Int) ≤ H) :
    Calls Tryz.prog 99 #[.pointer (some ⟨rb, 0, none⟩), .int .i64 n] w fun e w' => ∃ A c, e = .returned (.slice A m c) ∧ OwnB w' w.heap.size A c (l.take m) ∧ Hid (Ring w' rb mb (l.drop m) F) ∧ Hid (MAt w' mb M (H - m) P) ∧ Only (fun i => F i ∨ i = mb) w w' := by
  have hl : l.length ≤ 1099511627776 := by have := ok.hm; have := ok.m1; omega
  have hml : m ≤ l.length := by omega
  have hmH : (m : Int) ≤ H := by omega
  have hFlt : ∀ i, F i → i < w.heap.size := by obtain ⟨A, cap, ss, hR⟩ := h.out; exact hR.lt
  have hmlt : mb < w.heap.size := b_lt hM.out
  have HFlt := hid hFlt
  have HM := hid hm
  clear hFlt hm
  go_enter Tryz.func99, Tryz.ntmps99
  go_wp2_with fail
  refine (peek_any rb mb l F n m _ h HM.out hl).mono ?_
  rintro e w1 ⟨Ao, cO, rfl, hO, o1⟩
  have HO := hid hO
  clear hO
  obtain ⟨A0, cap0, ss0, hR0⟩ := h.out
  have hT0 : Hid (TakeSt w rb mb l.length F (l.drop m) m w1) := ⟨A0, cap0, ss0, (hR0.keep o1 (fun _ _ h => h)).raw, by rw [hR0.live]; exact hml, by rw [hR0.live], o1.mono (fun _ h => h.elim)⟩
  have hM1 := hid (show MAt w1 mb M H P from hM.out.keep o1 (fun h => h))
  clear hR0 h hM o1
  go_wp2_with fail
  go_loopw [6] (fun lv wr => ∃ left : Nat, left ≤ m ∧ lv = .int .i64 (left : Int) ∧ Hid (TakeSt w rb mb l.length F (l.drop m) left wr) ∧ Hid (OwnB wr w.heap.size Ao cO (l.take m)) ∧ Hid (MAt wr mb M H P)) (fun lv _ => (intOf lv).toNat)
  case atStart => exact ⟨m, Nat.le_refl _, rfl, hT0, HO, hM1⟩
  case round =>
    obtain ⟨left, hlm, rfl, hT, HO1, hM2⟩ := hrel
    clear hT0 hM1
    obtain ⟨A, cap, ss, hR, hle, hdr, o⟩ := hT.out
    obtain ⟨c0, c1, c2⟩ := hR.cells
    by_cases hpos : 0 < left
    · obtain ⟨s, r, rfl⟩ := liveAll_pos (fun s hs => (hR.each s hs).1) (show 0 < (liveAll ss).length by omega)
      obtain ⟨hok, hin⟩ := hR.each s (by simp)
      obtain ⟨g, off, rfl, cp⟩ := hR.segs.at_ 0 s.b rfl
      have hsb := hR.segs.bd
      simp only [List.map_cons, List.length_cons, List.length_map] at hsb
      unfold maxLen at hsb
      obtain ⟨hsb1, hsb2⟩ := hsb
      have cf := hin.cell_from hok.len
      have ct := hin.cell_to hok.len
      have ff := hin.free 64
      obtain ⟨k1, k2, k3⟩ := hok
      have HK1 := hid k1
      have HIN := hid hin
      have HR := hid hR
      have HDR := hid hdr
      have HLE := hid hle
      clear k1 hin hR hdr hle hT
      unfold ptr at cp
      obtain ⟨pb, c, f, t⟩ := s
      simp only [List.length_cons] at cf ct ff k2 k3 cp c1
      simp only [Nat.add_zero] at cp
      have e1 : IntKind.i64.wrap ((t : Int) - (f : Int)) = (t : Int) - (f : Int) := IntWalk.i64_in _ (by omega)
      have hpF : F pb := HR.out.ownS ⟨pb, c, f, t⟩ (by simp)
      have hrF : F rb := HR.out.own
      have hlive : (Seg.mk pb c f t).live.length = t - f := live_len HK1.out k3
      have hall : (liveAll (⟨pb, c, f, t⟩ :: r)).length = t - f + (liveAll r).length := by
        show ((Seg.mk pb c f t).live ++ liveAll r).length = _
        rw [List.length_append, hlive]
      by_cases hcase : t - f ≤ left
      · have e4 : min (left : Int) ((t : Int) - (f : Int)) = (t : Int) - (f : Int) := by omega
        have e5 : (f : Int) + ((t : Int) - (f : Int)) = (t : Int) := by omega
        have hset := SegIn.set_from HIN.out HK1.out t
        have hc1 := hset.cell_from HK1.out
        have hc2 := hset.cell_to HK1.out
        have HE5 := hid e5
        have HS1 := hid hc1
        have HS2 := hid hc2
        have HL := hid hlive
        have HA := hid hall
        clear hset hc1 hc2 e5 hlive hall
        go_upto_region 5 with (fail)
        go_quiet (fail)
        go_upto_region 7 with (fail)
        simp only [HE5.out]
        refine fold (F := fun W' => Only (· = pb) wr W' ∧ W'.cell? ⟨pb, 64, none⟩ = some (.int .i64 (t : Int)) ∧ W'.cell? ⟨pb, 65, none⟩ = some (.int .i64 (t : Int))) ⟨by repeat (first | exact Only.refl _ _ | apply Only.drewN | apply Only.drew | apply o_put), HS1.out, HS2.out⟩ ?_
        rintro w5 ⟨o5, d0, d1⟩
        have hne : rb ≠ pb := ty_ne HR.out.row HIN.out (by decide)
        have r1 : w5.cell? ⟨rb, 1, none⟩ = some (.slice (some ⟨g, off, none⟩) (r.length + 1) cap) := (o5.cell (p := ⟨rb, 1, none⟩) (b_lt HR.out.row) hne).trans c1
        have r1f : w5.frozen? ⟨rb, 1, none⟩ = false := b_free (o5.keep HR.out.row hne) 1
        have hcut := cut_tail (some ⟨g, off, none⟩) (r.length + 1) cap (by omega)
        have hcut' := cut_tail' (some ⟨g, off, none⟩) (r.length + 1) cap (by omega)
        simp only [Nat.add_sub_cancel] at hcut hcut'
        clear cf ct ff c0 c1 c2 cp HS1 HS2
        go_upto_region 8 with (fail)
        go_quiet (fail)
        have heq : ((t : Int) == (t : Int)) = true := by simp
        go_wp2_with fail
        go_roundw
        case rel =>
          have hb1 := HL.out
          have hb2 := HA.out
          have hle := HLE.out
          have hdr := HDR.out
          refine ⟨left - (t - f), by omega, by congr 1; omega, hid ⟨tailA (some ⟨g, off, none⟩) cap, cap - 1, r, RingRaw.behead HR.out ?_ (b_set (o5.keep HR.out.row hne) 1 _), by omega, ?_, ?_⟩, HO1.out.keep (S := fun i => i = pb ∨ i = rb) ?_ ?_, hM2.out.keep (S := fun i => i = pb ∨ i = rb) ?_ ?_⟩
          · repeat (first | exact o5.mono (fun i h => .inl h) | apply Only.drewN | apply Only.drew | refine Only.setCell ?_ (.inl (.inr rfl)) _)
          · rw [← hdr]
            show _ = ((Seg.mk pb c f t).live ++ liveAll r).drop left
            rw [drop_past _ _ _ (by rw [hb1]; exact hcase), hb1]
          · refine o.trans (b := wr) ?_
            repeat (first | exact o5.mono (fun i h => h ▸ hpF) | apply Only.drewN | apply Only.drew | refine Only.setCell ?_ (.inl hrF) _)
          · repeat (first | exact o5.mono (fun i h => .inl h) | apply Only.drewN | apply Only.drew | refine Only.setCell ?_ (.inl (.inr rfl)) _)
          · intro i hi h
            have h1 := HFlt.out _ hpF
            have h2 := HFlt.out _ hrF
            rcases h with h | h <;> omega
          · repeat (first | exact o5.mono (fun i h => .inl h) | apply Only.drewN | apply Only.drew | refine Only.setCell ?_ (.inl (.inr rfl)) _)
          · intro h
            rcases h with h | h
            · exact hFm (h ▸ hpF)
            · exact hFm (h ▸ hrF)
        case measure => simp [intOf]; omega
      · have e4 : min (left : Int) ((t : Int) - (f : Int)) = (left : Int) := by omega
        have hset := SegIn.set_from HIN.out HK1.out (f + left)
        rw [Int.natCast_add] at hset
        have hc1 := hset.cell_from HK1.out
        have hc2 := hset.cell_to HK1.out
        simp only [Int.natCast_add] at hc1
        have HS0 := hid hset
        have HS1 := hid hc1
        have HS2 := hid hc2
        have HL := hid hlive
        have HA := hid hall
        clear hset hc1 hc2 hlive hall
        go_upto_region 5 with (fail)
        go_quiet (fail)
        go_upto_region 7 with (fail)
        refine fold (F := fun W' => Only (· = pb) wr W' ∧ W'.cell? ⟨pb, 64, none⟩ = some (.int .i64 ((f : Int) + (left : Int))) ∧ W'.cell? ⟨pb, 65, none⟩ = some (.int .i64 (t : Int)) ∧ Hid (SegIn W' ⟨pb, c, f + left, t⟩)) ⟨by repeat (first | exact Only.refl _ _ | apply Only.drewN | apply Only.drew | apply o_put), HS1.out, HS2.out, HS0.out⟩ ?_
        rintro w5 ⟨o5, d0, d1, HS5⟩
        clear cf ct ff c0 c1 c2 cp HS0 HS1 HS2
        go_upto_region 8 with (fail)
        have heq : ((f : Int) + (left : Int) == (t : Int)) = false := by simp; omega
        go_quiet (fail)
        go_wp2_with fail
        go_roundw
        case rel =>
          have hb1 := HL.out
          have hb2 := HA.out
          have hle := HLE.out
          have hdr := HDR.out
          refine ⟨0, by omega, by first | rfl | (congr 1; omega), hid ⟨some ⟨g, off, none⟩, cap, ⟨pb, c, f + left, t⟩ :: r, RingRaw.seg (a := []) HR.out (s' := ⟨pb, c, f + left, t⟩) ?_ rfl ⟨HK1.out, by show f + left < t; omega, k3⟩ HS5.out, Nat.zero_le _, ?_, ?_⟩, HO1.out.keep (S := (· = pb)) ?_ ?_, hM2.out.keep (S := (· = pb)) ?_ ?_⟩
          · repeat (first | exact o5 | apply Only.drewN | apply Only.drew)
          · rw [← hdr]
            show (Seg.mk pb c (f + left) t).live ++ liveAll r = ((Seg.mk pb c f t).live ++ liveAll r).drop left
            rw [live_take, List.drop_append_of_le_length (by rw [hb1]; omega)]
          · refine o.trans (b := wr) ?_
            repeat (first | exact o5.mono (fun i h => h ▸ hpF) | apply Only.drewN | apply Only.drew)
          · repeat (first | exact o5 | apply Only.drewN | apply Only.drew)
          · intro i hi h
            have h1 := HFlt.out _ hpF
            omega
          · repeat (first | exact o5 | apply Only.drewN | apply Only.drew)
          · intro h
            exact hFm (h ▸ hpF)
        case measure => simp [intOf]; omega
    · obtain rfl : left = 0 := by omega
      have f2 := hR.free 2
      have HR := hid hR
      have HDR := hid hdr
      clear hR hdr hT
      rw [List.drop_zero] at HDR
      have hlen : (l.length : Int) - (m : Int) = ((l.drop m).length : Int) := by rw [List.length_drop]; omega
      have HLn := hid hlen
      have hrm : mb ≠ rb := fun e => hFm (e ▸ HR.out.own)
      have hrmb : Hid (MAt (wr.setCell ⟨rb, 2, none⟩ (.int .i64 ((l.length : Int) - (m : Int)))) mb M H P) := b_far hM2.out hrm _
      clear hlen
      unfold ptr at c0
      go_wp2_with fail
      refine (give_d mb M H P (m : Int) m (H - m) _ hrmb ok (by omega) (by omega) (by omega) rfl).mono ?_
      rintro e w6 ⟨rfl, hM6, o6⟩
      go_wp2_with fail
      go_ret
      have oo : Only (· = rb) wr (wr.setCell ⟨rb, 2, none⟩ (.int .i64 ((l.length : Int) - (m : Int)))) := o_put (Only.refl _ _) _ _
      have hR5 : RingRaw (wr.setCell ⟨rb, 2, none⟩ (.int .i64 ((l.length : Int) - (m : Int)))) rb mb (l.drop m).length F A cap ss :=
        HR.out.put oo (by rw [HLn.out]; exact HR.out.set2 _) HR.out.segs HR.out.ownA (fun s h => h) HR.out.nodup
      refine ⟨Ao, cO, rfl, ?_, ?_, hM6, ?_⟩
      · refine (HO1.out.keep oo ?_).keep o6 ?_
        · intro i hi h
          have := HFlt.out _ HR.out.own
          omega
        · intro i hi h
          omega
      · exact (hR5.keep o6 (fun i hi h => hFm (h ▸ hi))).ring HDR.out
      · exact ((o.mono (fun i h => .inl h)).trans (oo.mono (fun i h => .inl (h ▸ HR.out.own)))).trans (o6.mono (fun i h => .inr h))

theorem ringDrop_any (rb mb : Nat) (l : List Int) (F : Nat → Prop) (M H P : Int) (w : World) (h : Hid (Ring w rb mb l F)) (hM : Hid (MAt w mb M H P)) (ok : MOk M H P) (hFm : ¬ F mb) (hlH : (l.length : Int) ≤ H) :
    Calls Tryz.prog 171 #[.pointer (some ⟨rb, 0, none⟩)] w fun e w' => e = .returned (.int .i64 (l.length : Int)) ∧ Hid (Ring w' rb mb [] F) ∧ Hid (MAt w' mb M (H - l.length) P) ∧ Only (fun i => F i ∨ i = mb) w w' := by
  have hl : l.length ≤ 1099511627776 := by have := ok.hm; have := ok.m1; omega
  have c2 : w.cell? ⟨rb, 2, none⟩ = some (.int .i64 (l.length : Int)) := by
    obtain ⟨A, cap, ss, hR⟩ := h.out
    exact hR.cells.2.2
  go_enter Tryz.func171, Tryz.ntmps171
  go_wp2_with fail
  refine (ringTake_any rb mb l F (l.length : Int) l.length M H P _ h hM ok hFm (by omega) hlH).mono ?_
  rintro e w1 ⟨A, c, rfl, hO, hR, hM1, o1⟩
  have HO := hid hO
  clear hO
  go_wp2_with fail
  go_ret
  rw [List.drop_length] at hR
  exact ⟨rfl, hR, hM1, o1⟩
end Go.Proofs.YtpblgjadpfecgaaGreatDoor.Rg
/-
  append on a ring's array of segments.
-/
namespace Go.Proofs.YtpblgjadpfecgaaGreatDoor.Rg
open Go.RowKit

theorem info66 : (Tryz.prog.info? 193).map (fun i => (i.zero, i.size, i.bytes)) = some (some (.pointer none), 1, 8) := by kernel_rfl

theorem segs_app {ops : Array Oper} {rest : List Oper} {o : Oper} {a : Act} {Q : Exit → Act → World → Prop} {W : World} (hgd : o.guard = none) (s x : Operand)
    (ho : o.op = .call { callee := .builtin .append, args := #[s, x], argTypes := #[187, 187] })
    (A : Option Addr) (cap p xb n : Nat) (ps : List Nat) (hn : ps.length = n) (hs : a.eval s = .slice A n cap) (hx : a.eval x = .slice (some ⟨xb, 0, none⟩) 1 1)
    (hS : SegsAt W A cap ps) (hxb : W.heap[xb]? = some (.cells #[ptr p] 193 (0, 0))) (hl : (n + 1) * 8 ≤ 140737488355328)
    (h : ∀ A' cap' W', SegsAt W' A' cap' (ps ++ [p]) → Only (ablock A) W W' → (∀ i, ablock A' i → ablock A i ∨ W.heap.size ≤ i) → wpList Tryz.prog ops Q rest (a.put o.dst (.slice A' (n + 1) cap')) W') :
    wpList Tryz.prog ops Q (o :: rest) a W := by
  subst hn
  obtain ⟨i0, hi, hz0, hz1, hz2⟩ := info_parts info66
  have hnews : ∀ j u, ([ptr p] : List Value)[j]? = some u → W.cell? ((⟨xb, 0, none⟩ : Addr).add j) = some u := by
    intro j u hu
    have hj : j = 0 := by
      have := (List.getElem?_eq_some_iff.1 hu).1
      simp at this
      exact this
    subst hj
    rw [Go.WideShapes.add_plain, b_cell hxb]
    simpa using hu
  -- what is owned in a new block reads as the list
  have grown : ∀ (v' : Value) (w' : World), (∃ olds : List Value, olds.length = ps.length ∧ (∀ (i q : Nat), ps[i]? = some q → olds[i]? = some (ptr q)) ∧ w'.ownsRow W.heap.size 193 1 v' (ps.length + 1) (olds ++ [ptr p])) → W.grownBy w' none → wpList Tryz.prog ops Q rest (a.put o.dst v') w' := by
    rintro v' w' ⟨olds, hol, holds, hown⟩ hg
    rcases hown.2 with ⟨_, h0⟩ | ⟨g, c', cur, rfl, hb, hgg, hle, hcm, hcs, htake⟩
    · omega
    · refine h (some ⟨g, 0, none⟩) c' w' (.inr ⟨g, 0, cur, rfl, hgg, by simpa using hle, hcm, by omega, fun i q hq => ?_⟩) ((Only.refl _ _).grown hg (fun k hk => by cases hk)) (fun i hi => .inr ?_)
      · rw [Nat.mul_one] at htake
        have hi : i < ps.length + 1 := by have := (List.getElem?_eq_some_iff.1 hq).1; simpa using this
        have e : cur.toList[i]? = (olds ++ [ptr p])[i]? := by rw [← htake, List.getElem?_take_of_lt hi]
        rw [Nat.zero_add, ← Array.getElem?_toList, e]
        by_cases hc : i < ps.length
        · rw [List.getElem?_append_left (by omega)]
          rw [List.getElem?_append_left hc] at hq
          exact holds i q hq
        · obtain rfl : i = ps.length := by omega
          rw [List.getElem?_append_right (by omega), hol, Nat.sub_self]
          rw [List.getElem?_append_right (by omega), Nat.sub_self] at hq
          simp at hq
          simp [hq]
      · have : g = i := hi
        omega
  rcases hS with ⟨rfl, rfl, rfl⟩ | ⟨g, off, cur, rfl, hg, h1, h2, h3, hc⟩
  · refine wpList_append_grows W hgd s x 187 ho 193 i0 (.pointer none) 1 8 Tryz.underlying187 hi hz0 hz1 hz2 rfl (by omega) none 0 0 [] hs (fun _ => ⟨rfl, rfl⟩) rfl (fun b hb => by cases hb) ⟨xb, 0, none⟩ 1 1 [ptr p] hx rfl hnews (by simp [ptr]; rfl) (by omega) (by simp [maxLen]) (by omega) ?_
    intro v' w' hown hgr
    exact grown v' w' ⟨[], rfl, fun i q hq => by simp at hq, hown⟩ hgr
  · obtain ⟨olds, hol, holds⟩ : ∃ olds : List Value, olds.length = ps.length ∧ ∀ (i q : Nat), ps[i]? = some q → olds[i]? = some (ptr q) := ⟨ps.map ptr, by simp, fun i q hq => by simp [hq]⟩
    have hmem : ∀ j u, olds[j]? = some u → W.cell? ⟨g, off + j, none⟩ = some u := by
      intro j u hu
      have hj : j < ps.length := by rw [← hol]; exact (List.getElem?_eq_some_iff.1 hu).1
      have e := holds j ps[j] (List.getElem?_eq_getElem hj)
      rw [b_cell hg, hc j ps[j] (List.getElem?_eq_getElem hj), ← e, hu]
    refine wpList_append_arg W hgd s x 187 ho 193 i0 (.pointer none) 1 8 Tryz.underlying187 hi hz0 hz1 hz2 rfl (by omega) g off ps.length cap olds hs (by omega) hmem ⟨xb, 0, none⟩ 1 1 [ptr p] hx rfl hnews (by simp [ptr]; rfl) ?_ (by unfold maxLen at h2 ⊢; omega) hl ?_ ?_
    · intro hr j hj
      simp at hj
      subst hj
      rw [b_cell hg]
      refine ⟨?_, b_free hg _⟩
      simp
      omega
    · intro hr
      refine h (some ⟨g, off, none⟩) cap _ (.inr ⟨g, off, cur.setIfInBounds (off + ps.length * 1) (ptr p), rfl, b_set hg _ _, by simpa using hr, h2, by simpa using h3, fun i q hq => ?_⟩) ((Only.refl _ _).setCell (p := ⟨g, off + ps.length * 1, none⟩) (.inl rfl) _) (fun i hi => .inl hi)
      by_cases hc' : i < ps.length
      · rw [List.getElem?_append_left hc'] at hq
        rw [Array.getElem?_setIfInBounds_ne (by omega)]
        exact hc i q hq
      · have hi : i < ps.length + 1 := by have := (List.getElem?_eq_some_iff.1 hq).1; simpa using this
        obtain rfl : i = ps.length := by omega
        rw [List.getElem?_append_right (by omega), Nat.sub_self] at hq
        simp at hq
        subst hq
        rw [Nat.mul_one, Array.getElem?_setIfInBounds_self_of_lt (by omega)]
    · intro hr v' w' hown hgr
      exact grown v' w' ⟨olds, hol, holds, hown⟩ hgr

theorem segRow_splice (c : List Int) (f t : Nat) (xs : List Int) (h : c.length = 64) (hx : t + xs.length ≤ 64) :
    (segRow c f t).take t ++ (u8s xs ++ (segRow c f t).drop (t + (u8s xs).length)) = segRow (splice c t xs) f t := by
  unfold segRow splice
  rw [u8s_len, List.take_append_of_le_length (by rw [u8s_len, h]; omega), List.drop_append_of_le_length (by rw [u8s_len, h]; omega), u8s_append, u8s_append]
  unfold u8s
  rw [List.map_take, List.map_drop]
  simp only [List.append_assoc]

/-- copy into a segment's row. -/
theorem step_copy1 {ops : Array Oper} {o : Oper} {a : Act} {W : World} {K : Act → World → Prop} {Q : Exit → Act → World → Prop} {E : Prop} (hgd : o.guard = none) (d s : Operand)
    (ho : o.op = .call { callee := .builtin .copy, args := #[d, s], argTypes := #[30, 30] })
    (p f t : Nat) (c : List Int) (xs : List Int) (dCap sLen sCap : Nat) (A : Option Addr) (hd : a.eval d = .slice (some ⟨p, t, none⟩) (64 - t) dCap) (hs : a.eval s = .slice A sLen sCap)
    (hin : SegIn W ⟨p, c, f, t⟩) (hc : c.length = 64) (ht : t ≤ 64) (hk : xs.length = min (64 - t) sLen)
    (hsrc : ∃ ad, A = some ad ∧ ∀ j v, (u8s xs)[j]? = some v → W.cell? (ad.add j) = some v)
    (h : ∀ W', SegIn W' ⟨p, splice c t xs, f, t⟩ → Only (· = p) W W' → K (a.put o.dst (.int .i64 (xs.length : Int))) W') :
    if Region.wanted o (yielded ops a.tmps) = true then Oper.wp Tryz.prog o a W K Q else E := by
  have hw : Region.wanted o (yielded ops a.tmps) = true := by simp [Region.wanted, hgd]
  rw [if_pos hw]
  obtain ⟨ad, rfl, hcell⟩ := hsrc
  have hrun := run_copy_row (P := Tryz.prog) W 30 30 o.type 5 p t (64 - t) dCap ad sLen sCap (segRow c f t).toArray 192 (u8s xs) Tryz.underlying30 (by kernel_rfl) hin (by rw [u8s_len, hk]; exact Nat.min_comm _ _) hcell (by rw [u8s_len]; simp [segRow_len c f t hc]; omega) (by
    intro v hv
    obtain ⟨x, _, rfl⟩ := List.mem_map.1 hv
    rfl)
  unfold Oper.wp
  simp [execOp, ho, resolve, invoke, builtin, hd, hs, hrun, Result.andThen]
  have hx : t + xs.length ≤ 64 := by omega
  have e := segRow_splice c f t xs hc hx
  rw [u8s_len] at e ⊢
  refine h _ ?_ ?_
  · have := setRow_heap W p _ ((segRow c f t).take t ++ (u8s xs ++ (segRow c f t).drop (t + xs.length))).toArray 192 (0, 0) hin
    unfold SegIn
    rw [← e]
    exact this
  · exact ⟨rfl, rfl, rfl, by simp [World.setRow], fun i hi hne => setRow_other W p i _ hne⟩

/-- A ring whose last segment has room (it may be empty). -/
structure RingLast (w : World) (rb mb : Nat) (nn : Nat) (F : Nat → Prop) (A : Option Addr) (cap : Nat) (a : List Seg) (s : Seg) : Prop where
  row : w.heap[rb]? = some (.cells #[ptr mb, .slice A (a.length + 1) cap, .int .i64 (nn : Int)] 189 (0, 0))
  segs : SegsAt w A cap (a.map Seg.b ++ [s.b])
  each : ∀ x ∈ a, x.Ok ∧ SegIn w x
  last : SegIn w s
  len : s.c.length = 64
  ft : s.f ≤ s.t
  room : s.t < 64
  nodup : (a.map Seg.b ++ [s.b]).Nodup
  own : F rb
  ownA : ∀ i, ablock A i → F i
  ownS : ∀ x ∈ a, F x.b
  ownL : F s.b
  lt : ∀ i, F i → i < w.heap.size

theorem RingRaw.last {w : World} {rb mb nn : Nat} {F : Nat → Prop} {A : Option Addr} {cap : Nat} {a : List Seg} {s : Seg} (h : RingRaw w rb mb nn F A cap (a ++ [s])) (hr : s.t < 64) : RingLast w rb mb nn F A cap a s := by
  have hs := h.each s (by simp)
  refine ⟨?_, ?_, fun x hx => h.each x (by simp [hx]), hs.2, hs.1.len, Nat.le_of_lt hs.1.ft, hr, ?_, h.own, h.ownA, fun x hx => h.ownS x (by simp [hx]), h.ownS s (by simp), h.lt⟩
  · have := h.row; rwa [List.length_append] at this
  · have := h.segs; rwa [List.map_append] at this
  · have := h.nodup; rwa [List.map_append] at this

theorem RingLast.done {w w' : World} {rb mb nn : Nat} {F : Nat → Prop} {A : Option Addr} {cap : Nat} {a : List Seg} {s s' : Seg} (h : RingLast w rb mb nn F A cap a s) (o : Only (· = s.b) w w') (hb : s'.b = s.b) (hok : s'.Ok) (hin : SegIn w' s') : RingRaw w' rb mb nn F A cap (a ++ [s']) := by
  have n1 : rb ≠ s.b := ty_ne h.row h.last (by decide)
  have hnd : ∀ x ∈ a, x.b ≠ s.b := by
    have := h.nodup
    rw [List.nodup_append] at this
    intro x hx e
    exact this.2.2 _ (List.mem_map_of_mem hx) _ (by simp) e
  refine ⟨?_, ?_, ?_, ?_, h.own, h.ownA, ?_, fun i hi => Nat.lt_of_lt_of_le (h.lt i hi) o.size⟩
  · rw [List.length_append]; exact o.keep h.row n1
  · rw [List.map_append]
    show SegsAt w' A cap (a.map Seg.b ++ [s'.b])
    rw [hb]
    refine h.segs.keep o (fun i hi e => ?_)
    rcases h.segs with ⟨rfl, _, _⟩ | ⟨g, off, cur, rfl, hg, _⟩
    · exact hi
    · have e1 : g = i := hi
      exact ty_ne hg h.last (by decide) (e1.trans e)
  · intro x hx
    rcases List.mem_append.1 hx with hx | hx
    · exact ⟨(h.each x hx).1, (h.each x hx).2.keep o (hnd x hx)⟩
    · simp at hx; subst hx; exact ⟨hok, hin⟩
  · rw [List.map_append]
    show (a.map Seg.b ++ [s'.b]).Nodup
    rw [hb]; exact h.nodup
  · intro x hx
    rcases List.mem_append.1 hx with hx | hx
    · exact h.ownS x hx
    · simp at hx; subst hx; rw [hb]; exact h.ownL

theorem RingLast.same {w w' : World} {rb mb nn : Nat} {F : Nat → Prop} {A : Option Addr} {cap : Nat} {a : List Seg} {s : Seg} (h : RingLast w rb mb nn F A cap a s) (o : Only (fun _ => False) w w') : RingLast w' rb mb nn F A cap a s :=
  ⟨o.keep h.row (fun e => e), h.segs.keep o (fun _ _ e => e), fun x hx => ⟨(h.each x hx).1, (h.each x hx).2.keep o (fun e => e)⟩, h.last.keep o (fun e => e), h.len, h.ft, h.room, h.nodup, h.own, h.ownA, h.ownS, h.ownL, fun i hi => Nat.lt_of_lt_of_le (h.lt i hi) o.size⟩

/-- A new segment behind. -/
theorem RingRaw.fresh {w w2 w' : World} {rb mb nn : Nat} {F : Nat → Prop} {A A' : Option Addr} {cap cap' p : Nat} {ss : List Seg} {c : List Int} (h : RingRaw w rb mb nn F A cap ss) (hc : c.length = 64)
    (o : Only (fun i => ablock A i ∨ i = rb) w w') (hp : w.heap.size ≤ p) (hlast : SegIn w' ⟨p, c, 0, 0⟩) (o2 : Only (· = rb) w2 w') (hsegs : SegsAt w2 A' cap' (ss.map Seg.b ++ [p])) (hA : ∀ i, ablock A' i → ablock A i ∨ w.heap.size ≤ i)
    (hrow : w'.heap[rb]? = some (.cells #[ptr mb, .slice A' (ss.length + 1) cap', .int .i64 (nn : Int)] 189 (0, 0))) :
    RingLast w' rb mb nn (fun i => F i ∨ i = p ∨ ablock A' i) A' cap' ss ⟨p, c, 0, 0⟩ := by
  have hsz := o.size
  have hsegs' : SegsAt w' A' cap' (ss.map Seg.b ++ [p]) := hsegs.keep o2 (fun i hi e => by
    rcases hA i hi with h1 | h1
    · rcases h.segs with ⟨rfl, _, _⟩ | ⟨g, off, cur, rfl, hg, _⟩
      · exact h1
      · have e1 : g = i := h1
        exact ty_ne hg h.row (by decide) (e1.trans e)
    · have := h.lt _ h.own
      omega)
  refine ⟨hrow, hsegs', fun x hx => ?_, hlast, hc, Nat.le_refl _, by show 0 < 64; omega, ?_, .inl h.own, fun i hi => .inr (.inr hi), fun x hx => .inl (h.ownS x hx), .inr (.inl rfl), fun i hi => ?_⟩
  · have := h.each x hx
    refine ⟨this.1, this.2.keep o (fun e => ?_)⟩
    rcases e with e | e
    · rcases h.segs with ⟨rfl, _, _⟩ | ⟨g, off, cur, rfl, hg, _⟩
      · exact e
      · have e1 : g = x.b := e
        exact ty_ne hg this.2 (by decide) e1
    · exact ty_ne this.2 h.row (by decide) e
  · rw [List.nodup_append]
    refine ⟨h.nodup, by simp, fun x hx y hy e => ?_⟩
    simp at hy
    obtain ⟨s, hs, rfl⟩ := List.mem_map.1 hx
    have := h.lt _ (h.ownS s hs)
    omega
  · rcases hi with hi | rfl | hi
    · exact Nat.lt_of_lt_of_le (h.lt i hi) hsz
    · exact b_lt hlast
    · rcases hsegs' with ⟨rfl, _, _⟩ | ⟨g, off, cur, rfl, hg, _⟩
      · exact hi.elim
      · have e1 : g = i := hi
        subst e1
        exact b_lt hg

/-- The cells of a segment that has just been made. -/
def ZS : Array Value := (segRow (List.replicate 64 0) 0 0).toArray
theorem zeroSeg (W : World) : (zeroValue 192).run Tryz.prog W = .ok (.agg ZS) W := by kernel_rfl
theorem new2 (w : World) (o1 o2 : Obj) : ((w.alloc o1).alloc o2).heap[w.heap.size + 1]? = some o2 := by
  have := b_new (w.alloc o1) o2
  rwa [World.size_alloc] at this

theorem RingRaw.arb {w : World} {rb mb nn : Nat} {F : Nat → Prop} {A : Option Addr} {cap : Nat} {ss : List Seg} (h : RingRaw w rb mb nn F A cap ss) : ¬ ablock A rb := by
  intro hi
  rcases h.segs with ⟨rfl, _, _⟩ | ⟨g, off, cur, rfl, hg, _⟩
  · exact hi
  · exact ty_ne hg h.row (by decide) hi
/-- Nonempty segments are no more than bytes. -/
theorem segs_le (ss : List Seg) (hs : ∀ s ∈ ss, s.Ok) : ss.length ≤ (liveAll ss).length := by
  induction ss with
  | nil => simp
  | cons s r ih =>
    have h1 := ih (fun x hx => hs x (by simp [hx]))
    have h2 := hs s (by simp)
    show r.length + 1 ≤ (s.live ++ liveAll r).length
    rw [List.length_append, live_len h2.len h2.t64]
    have := h2.ft
    omega

/-- The rest of a slice. -/
def dropA (A : Option Addr) (cap k : Nat) : Option Addr := if cap = k then A else A.map (·.add k)
theorem dropA_block {A : Option Addr} {c k : Nat} {a : Addr} (h : dropA A c k = some a) : ∃ a', A = some a' ∧ a'.block = a.block := by
  unfold dropA at h
  split at h
  · exact ⟨a, h, rfl⟩
  · obtain ⟨a', ha, rfl⟩ := Option.map_eq_some_iff.1 h
    refine ⟨a', ha, ?_⟩
    unfold Addr.add
    split <;> rfl
theorem elem22 : Tryz.prog.elem 30 = 5 := by simp [Program.elem, Tryz.underlying30]
theorem cut_drop (A : Option Addr) (n c k : Nat) (h : k ≤ n) (W : World) :
    (Instr.slice 30 (.slice A n c) (some (.int .i64 (k : Int))) none none).run Tryz.prog W = .ok (.slice (dropA A c k) (n - k) (c - k)) W := by
  have ht : Tryz.prog.underlying 30 = some (.slice (Tryz.prog.elem 30)) := by rw [elem22, Tryz.underlying30]
  rw [run_slice_l (P := Tryz.prog) W 30 A n c ht .i64 (k : Int) (by omega) (by omega), elem22, size5]
  simp only [Result.andThen, sliced, dropA, Int.toNat_natCast, Nat.mul_one]
theorem cut_drop' (A : Option Addr) (n c k : Nat) (h : k ≤ n) (W : World) :
    (Instr.sliceAt 30 (.slice A n c) (some (.int .i64 (k : Int))) none none).run Tryz.prog W = .ok (.slice (dropA A c k) (n - k) (c - k)) W := by
  have ht : Tryz.prog.underlying 30 = some (.slice (Tryz.prog.elem 30)) := by rw [elem22, Tryz.underlying30]
  rw [run_sliceAt_slice W 30 _ _ _ _ ht]
  exact cut_drop A n c k h W
theorem elems_drop {w : World} {A : Option Addr} {n c k : Nat} {V : Nat → Value} (h : Elems w A n V) (hk : k ≤ n) (hc : n ≤ c) : Elems w (dropA A c k) (n - k) (fun i => V (k + i)) := by
  intro hp
  obtain ⟨b, off, rfl, hb, hcell⟩ := h (by omega)
  refine ⟨b, off + k, ?_, hb, fun j hj => ?_⟩
  · unfold dropA
    rw [if_neg (by omega)]
    simp [Go.WideShapes.add_plain]
  · rw [Nat.add_assoc]; exact hcell (k + j) (by omega)
end Go.Proofs.YtpblgjadpfecgaaGreatDoor.Rg
