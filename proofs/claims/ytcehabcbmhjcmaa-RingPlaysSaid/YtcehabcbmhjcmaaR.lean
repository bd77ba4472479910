/-
  The contract of Peek.
-/
import Derived.Test.YtcehabcbmhjcmaaP
import Derived.Deep.RegionHeld3
import Derived.Deep.AppendLies
namespace Go.Proofs.Ytcehabcbmhjcmaa
open Go.RowKit

theorem fold {F : World → Prop} {P : Program} {c : Code} {Q : Exit → Act → World → Prop} {a : Act} {W : World} (hf : F W) (h : ∀ W', F W' → Code.wp P c Q a W') : Code.wp P c Q a W := h W hf
theorem info5 : (Try.prog.info? 5).map (fun i => (i.zero, i.size, i.bytes)) = some (some (.int .u8 0), 1, 1) := by kernel_rfl

theorem arr64 : Try.prog.underlying 63 = some (.array (Try.prog.arrayLen 63) (Try.prog.elem 63)) := by simp [Program.arrayLen, Program.elem, Try.underlying63]
theorem arr64n : Try.prog.arrayLen 63 = 64 := by simp [Program.arrayLen, Try.underlying63]
theorem arr64e : Try.prog.elem 63 = 5 := by simp [Program.elem, Try.underlying63]
theorem size5 (W : World) : (sizeOf 5).run Try.prog W = .ok 1 W := by kernel_rfl
theorem cut_lh (p f h : Nat) (h1 : f < 64) (h2 : f ≤ h) (h3 : h ≤ 64) (W : World) :
    (Instr.sliceAt 63 (.pointer (some ⟨p, 0, none⟩)) (some (.int .i64 (f : Int))) (some (.int .i64 (h : Int))) none).run Try.prog W = .ok (.slice (some ⟨p, f, none⟩) (h - f) (64 - f)) W := by
  rw [run_sliceAt_array_lh W 63 _ arr64 _ _ _ _ (by omega) (by omega) (by rw [arr64n]; omega), arr64e, size5]
  simp only [Result.andThen, slicedAt, arr64n, Int.toNat_natCast]
  rw [if_neg (by omega), Go.WideShapes.add_plain, Nat.zero_add, Nat.mul_one]
theorem cut_l (p f : Nat) (h1 : f < 64) (W : World) :
    (Instr.sliceAt 63 (.pointer (some ⟨p, 0, none⟩)) (some (.int .i64 (f : Int))) none none).run Try.prog W = .ok (.slice (some ⟨p, f, none⟩) (64 - f) (64 - f)) W := by
  rw [run_sliceAt_array_l W 63 _ arr64 _ _ (by omega) (by rw [arr64n]; omega), arr64e, size5]
  simp only [Result.andThen, slicedAt, arr64n, Int.toNat_natCast]
  rw [if_neg (by omega), Go.WideShapes.add_plain, Nat.zero_add, Nat.mul_one]

theorem ringNew_any (mb : Nat) (w : World) :
    Calls Try.prog 9 #[.pointer (some ⟨mb, 0, none⟩)] w fun e w' => e = .returned (.pointer (some ⟨w.heap.size, 0, none⟩)) ∧ Hid (Ring w' w.heap.size mb [] (· = w.heap.size)) ∧ Only (fun _ => False) w w' := by
  go_enter Try.func9, Try.ntmps9
  go_wp2
  go_ret
  refine ⟨rfl, ⟨none, 0, [], ?_⟩, (Only.refl _ _).alloc _⟩
  refine ⟨b_new w _, .inl ⟨rfl, rfl, rfl⟩, (fun s h => by cases h), List.nodup_nil, rfl, rfl, (fun i (h : False) => h.elim), (fun s h => by cases h), fun i h => ?_⟩
  subst h
  simp

theorem ringLen_any (rb mb : Nat) (l : List Int) (F : Nat → Prop) (w : World) (h : Hid (Ring w rb mb l F)) :
    Calls Try.prog 13 #[.pointer (some ⟨rb, 0, none⟩)] w fun e w' => e = .returned (.int .i64 (l.length : Int)) ∧ w = w' := by
  obtain ⟨A, cap, ss, hR⟩ := h.out
  obtain ⟨c0, c1, c2⟩ := hR.cells
  have H := hid hR
  clear hR h
  go_enter Try.func13, Try.ntmps13
  go_wp2
  go_ret
  exact ⟨rfl, rfl⟩

/-- A slice of bytes that the call owns. -/
def OwnB (w : World) (base : Nat) (A : Option Addr) (c : Nat) (q : List Int) : Prop := w.ownsRow base 5 1 (.slice A q.length c) q.length (u8s q)
theorem OwnB.keep {S : Nat → Prop} {w w' : World} {base : Nat} {A : Option Addr} {c : Nat} {q : List Int} (h : OwnB w base A c q) (o : Only S w w') (hs : ∀ i, base ≤ i → ¬ S i) : OwnB w' base A c q := by
  refine ⟨h.1, ?_⟩
  rcases h.2 with hv | ⟨g, cap, cur, hv, hb, hg, r⟩
  · exact .inl hv
  · exact .inr ⟨g, cap, cur, hv, hb, o.keep hg (hs g hb), r⟩

set_option maxHeartbeats 1000000 in
theorem peek_any (rb mb : Nat) (l : List Int) (F : Nat → Prop) (n : Int) (m : Nat) (w : World) (h : Hid (Ring w rb mb l F)) (hm : (m : Int) = min (max n 0) (l.length : Int)) (hl : l.length ≤ 1099511627776) :
    Calls Try.prog 15 #[.pointer (some ⟨rb, 0, none⟩), .int .i64 n] w fun e w' => ∃ A c, e = .returned (.slice A m c) ∧ OwnB w' w.heap.size A c (l.take m) ∧ Only (fun _ => False) w w' := by
  obtain ⟨A, cap, ss, hR⟩ := h.out
  obtain ⟨c0, c1, c2⟩ := hR.cells
  have hsl : ss.length ≤ cap ∧ cap ≤ maxLen := by
    rcases hR.segs with ⟨_, h1, h2⟩ | ⟨g, off, cur, _, _, h1, h2, _⟩
    · have : ss.length = 0 := by simpa using congrArg List.length h1
      subst h2; exact ⟨by omega, Nat.zero_le _⟩
    · exact ⟨by simpa using h1, h2⟩
  unfold maxLen at hsl
  obtain ⟨hs1, hs2⟩ := hsl
  have hml : m ≤ l.length := by omega
  have HR := hid hR
  have HM := hid hm
  clear hR h hm
  go_enter Try.func15, Try.ntmps15
  go_upto_region 2 with (fail)
  rw [← HM.out]
  go_wp2_with fail
  go_loopw [5, 20] (fun ov iv wr => ∃ (i : Nat) (q : List Int) (Ao : Option Addr) (cO : Nat), i ≤ ss.length ∧ iv = .int .i64 (i : Int) ∧ ov = .slice Ao q.length cO ∧ q.length ≤ m ∧ Hid (q = (liveAll (ss.take i)).take m) ∧ Hid (OwnB wr w.heap.size Ao cO q) ∧ Only (fun _ => False) w wr) (fun _ iv _ => ss.length - (intOf iv).toNat)
  case atStart => exact ⟨0, [], none, 0, Nat.zero_le _, rfl, rfl, Nat.zero_le _, hid (by simp [liveAll]), World.ownsRow_nil _ _ _ _, Only.refl _ _⟩
  case round =>
    obtain ⟨i, q, Ao, cO, hi, rfl, rfl, hqm, HQ, HO, o⟩ := hrel
    by_cases hlt : i < ss.length
    · have hR1 := HR.out.keep o (fun _ _ h => h)
      have hsi : ss[i]? = some ss[i] := List.getElem?_eq_getElem hlt
      obtain ⟨hok, hin⟩ := hR1.each _ (List.getElem_mem hlt)
      obtain ⟨g, off, rfl, cp⟩ := hR1.segs.at_ i (ss[i]).b (by rw [List.getElem?_map, hsi]; rfl)
      have HSI := hid hsi
      have HIN := hid hin
      have cf := hin.cell_from hok.len
      have ct := hin.cell_to hok.len
      obtain ⟨k1, k2, k3⟩ := hok
      have HK1 := hid k1
      clear hsi hin hR1 k1
      have hpb : (ss[i]).b < w.heap.size := HR.out.lt _ (HR.out.ownS _ (List.getElem_mem hlt))
      unfold ptr at cp
      generalize ss[i] = s at *
      obtain ⟨pb, c, f, t⟩ := s
      simp only at cf ct k2 k3 cp hpb
      by_cases hful : q.length = m
      · have HF := hid hful
        have hf1 : ((m : Int) == (q.length : Int)) = true := by simp [hful]
        clear hful
        go_wp2_with fail
        go_ret
        have e : q = l.take m := by
          have := take_full (ss := ss) (m := m) (i := i) (by rw [← HQ.out]; exact HF.out)
          rw [HQ.out, this, HR.out.live]
        refine ⟨Ao, cO, by show Ending.returned (Value.slice Ao q.length cO) = _; rw [HF.out], ?_, o⟩
        rw [← e]; exact HO.out
      · have hf1 : ((m : Int) == (q.length : Int)) = false := by simp; omega
        have hful' : q.length < m := by omega
        go_upto_region 7 with (fail)
        have e1 : IntKind.i64.wrap ((f : Int) + (m : Int)) = (f : Int) + (m : Int) := IntWalk.i64_in _ (by omega)
        have e2 : IntKind.i64.wrap ((f : Int) + (m : Int) - (q.length : Int)) = (f : Int) + (m : Int) - (q.length : Int) := IntWalk.i64_in _ (by omega)
        obtain ⟨hh, hhd⟩ : ∃ hh : Nat, hh = min t (f + (m - q.length)) := ⟨_, rfl⟩
        have e3 : min (t : Int) ((f : Int) + (m : Int) - (q.length : Int)) = (hh : Int) := by omega
        have b1 : f < hh := by omega
        have b2 : hh ≤ 64 := by omega
        have hcut := cut_lh pb f hh (by omega) (by omega) b2
        have HH := hid hhd
        obtain ⟨X, hX⟩ : ∃ X, X = u8s ((c.drop f).take (hh - f)) := ⟨_, rfl⟩
        have hXl : X.length = hh - f := by rw [hX, u8s_len, List.length_take, List.length_drop, HK1.out]; omega
        have hnw : ∀ j v, X[j]? = some v → wr.cell? ((⟨pb, f, none⟩ : Addr).add j) = some v := by
          intro j v hv
          rw [Go.WideShapes.add_plain]
          have hj : j < hh - f := by rw [← hXl]; exact (List.getElem?_eq_some_iff.1 hv).1
          have hb := HIN.out.cell_byte (f + j) (by show f + j < c.length; rw [HK1.out]; omega)
          rw [hb]
          rw [hX, u8s_get _ _ (by rw [List.length_take, List.length_drop, HK1.out]; omega)] at hv
          rw [← hv, List.getD_eq_getElem?_getD, List.getD_eq_getElem?_getD, List.getElem?_take_of_lt hj, List.getElem?_drop]
        have h1c : ∀ v ∈ X, v.oneCell' = true := by
          intro v hv
          rw [hX] at hv
          obtain ⟨x, _, rfl⟩ := List.mem_map.1 hv
          rfl
        have HX := hid hX
        have HXl := hid hXl
        have HN := hid hnw
        have H1 := hid h1c
        obtain ⟨i0, hi0, hz0, hz1, hz2⟩ := info_parts info5
        have osz := o.size
        clear hhd hX hXl hnw h1c
        go_region_held3 (fun w' => w'.cell? ⟨pb, 64, none⟩ = some (.int .i64 (f : Int)) ∧ w'.cell? ⟨pb, 65, none⟩ = some (.int .i64 (t : Int))) (go_keep)
          (first | (refine step_append_lies _ (by rfl) _ _ _ (by rfl) w.heap.size 5 i0 _ 1 1 Try.underlying22 hi0 hz0 hz1 hz2 rfl (by omega) (.slice Ao q.length cO) q.length (u8s q) (by rfl) (by exact HO.out) ⟨pb, f, none⟩ (hh - f) (64 - f) X (by rfl) (by rw [Nat.mul_one]; exact HXl.out) (by exact HN.out) H1.out (by omega) (by unfold maxLen; omega) (by omega) (by exact osz) _ rfl ?_; intro g2 cp2 w2 hown hgr hat hlt2; have o2 : Only (fun k => w.heap.size ≤ k) wr.drew w2 := (Only.refl _ _).grown hgr (fun k hk => .inl (HO.out.lt k hk).1); have d0 : w2.cell? ⟨pb, 64, none⟩ = some (.int .i64 (f : Int)) := (o2.cell (p := ⟨pb, 64, none⟩) (Nat.lt_of_lt_of_le hpb osz) (Nat.not_le.2 hpb)).trans cf; have d1 : w2.cell? ⟨pb, 65, none⟩ = some (.int .i64 (t : Int)) := (o2.cell (p := ⟨pb, 65, none⟩) (Nat.lt_of_lt_of_le hpb osz) (Nat.not_le.2 hpb)).trans ct))
        clear d0 d1 hat hgr
        have o3 : Only (fun _ => False) w w2 := (o.drew.trans' o2 (fun i hi => .inr hi))
        have hq2 : q ++ (c.drop f).take (hh - f) = (liveAll (ss.take (i + 1))).take m := by
          have hl0 : (liveAll (ss.take i)).length = q.length := by
            have h1 := congrArg List.length HQ.out
            rw [List.length_take] at h1
            omega
          rw [take_step HSI.out, ← HQ.out, hl0]
          congr 2
          have := HH.out
          show hh - f = min (m - q.length) (t - f)
          omega
        have hq3 : (q ++ (c.drop f).take (hh - f)).length = q.length + (hh - f) := by
          rw [List.length_append, List.length_take, List.length_drop, HK1.out]; omega
        have hO2 : OwnB w2 w.heap.size (some ⟨g2, 0, none⟩) cp2 (q ++ (c.drop f).take (hh - f)) := by
          unfold OwnB
          rw [hq3, u8s_append, ← HX.out]
          exact hown
        have HQ2 := hid hq2
        have HQ3 := hid hq3
        have HO2 := hid hO2
        clear hq2 hq3 hO2 hown
        go_wp2_with fail
        go_roundw
        case rel => exact ⟨i + 1, q ++ (c.drop f).take (hh - f), _, _, by omega, by go_num, by rw [HQ3.out], by rw [HQ3.out]; have := HH.out; omega, HQ2, HO2, o3⟩
        case measure => simp [intOf]; omega
    · obtain rfl : i = ss.length := by omega
      have e : q = l.take m := by
        rw [HQ.out, take_all (Nat.le_refl _), HR.out.live]
      have e2 : q.length = m := by rw [e, List.length_take]; omega
      have E := hid e
      have E2 := hid e2
      clear e e2
      go_wp2_with fail
      go_ret
      refine ⟨Ao, cO, by show Ending.returned (Value.slice Ao q.length cO) = _; rw [E2.out], ?_, o⟩
      rw [← E.out]; exact HO.out
end Go.Proofs.Ytcehabcbmhjcmaa
