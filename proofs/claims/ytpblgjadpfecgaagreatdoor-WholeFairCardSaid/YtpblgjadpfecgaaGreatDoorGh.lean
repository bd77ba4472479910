/-
  The example: a name; a connection that is there.
-/
import Derived.Test.YtpblgjadpfecgaaGreatDoorGd
import Derived.Test.YtpblgjadpfecgaaGreatDoorGf
import Derived.Lib.SmallJoins
set_option linter.unusedSimpArgs false
set_option linter.unusedVariables false
namespace Go.Proofs.YtpblgjadpfecgaaGreatDoor
open Go.RowKit Go.Maps

set_option maxRecDepth 100000 in
theorem name_t (w : World) : Calls Tryz.prog 13 #[.string ⟨#[116]⟩] w fun e w' => e = .returned (.bool true) ∧ w' = w := by
  go_enter Tryz.func13, Tryz.ntmps13
  go_wp2_with fail
  refine wp_loop_rounds 2 ?_
  rw [rounds_succ]
  go_wp2_with fail
  rw [rounds_succ]
  go_wp2_with fail
  go_ret
  exact ⟨rfl, rfl⟩
theorem hasc_any {w : World} {d : CellD} {s : St} {G : Nat → Prop} (h : Hid (CellIn w d s G)) (hm : 0 < s.m) (h4 : s.m ≤ 4) :
    Calls Tryz.prog 11 #[.pointer (some ⟨d.cb, 0, none⟩), .int .i64 1] w fun e w' => e = .returned (.bool true) ∧ w' = w := by
  have c9 := h.out.c9
  have hlk := h.out.map.look2 0 hm (by omega)
  rw [show (((0 : Nat) : Int) + 1) = 1 from rfl] at hlk
  generalize d.cb = cb at c9 ⊢
  go_enter Tryz.func11, Tryz.ntmps11
  go_wp2_with fail
  go_ret
  exact ⟨rfl, rfl⟩
def ex27 : List UInt8 := [71, 69, 84, 32, 47, 32, 72, 84, 84, 80, 47, 49, 46, 49, 13, 10, 72, 111, 115, 116, 58, 32, 104, 13, 10, 13, 10]
def exR : Nat → List UInt8
  | 0 => []
  | _ + 1 => ex27
def mGet : ByteArray := ⟨#[71, 69, 84]⟩
def tRoot : ByteArray := ⟨#[47]⟩
theorem fit_root : Fit mGet tRoot := ⟨⟨by decide +kernel, by decide⟩, ⟨by decide +kernel, by decide⟩⟩
theorem many_ex : Many exR mGet.data.toList tRoot.data.toList 27 1 where
  zero := rfl
  next := fun i hi => by
    obtain rfl : i = 0 := by omega
    exact (by decide +kernel : requestF ex27 = (([71, 69, 84], [47], 1), hostFs, [], 27, 0))
  drop := fun i hi => by
    obtain rfl : i = 0 := by omega
    rfl
  len := fun i hi => by
    rcases Nat.eq_zero_or_pos i with rfl | h
    · rfl
    · obtain rfl : i = 1 := by omega
      rfl
  pos := by decide
  big := by decide
def ex27V : Array Value := #[.int .u8 71, .int .u8 69, .int .u8 84, .int .u8 32, .int .u8 47, .int .u8 32, .int .u8 72, .int .u8 84, .int .u8 84, .int .u8 80, .int .u8 47, .int .u8 49, .int .u8 46, .int .u8 49, .int .u8 13, .int .u8 10, .int .u8 72, .int .u8 111, .int .u8 115, .int .u8 116, .int .u8 58, .int .u8 32, .int .u8 104, .int .u8 13, .int .u8 10, .int .u8 13, .int .u8 10]
theorem bs_ex {w : World} {g c : Nat} {fz : Nat × Nat} (h : w.heap[g]? = some (.cells ex27V 5 fz)) (hc : 27 ≤ c) : Bs w (some ⟨g, 0, none⟩) 27 c (exR 1) :=
  ⟨rfl, hc, fun _ => ⟨g, 0, rfl, b_lt h, fun j u hu => by
    rw [b_cell' h, Nat.zero_add]
    have e : bV (exR 1) = ex27V.toList := rfl
    rw [e] at hu
    simpa using hu⟩, fun e => by cases e⟩

set_option maxRecDepth 100000 in
set_option maxHeartbeats 4000000 in
theorem sound_any (w : World) (hG : Gl w) : Calls Tryz.prog 4 #[] w fun e w' => e = .returned (.bool true) ∧ Only (fun _ => False) w w' := by
  have hsl := fun (W : World) => slotOf_any W 2000 100 5 2256 6 101 (by decide) (by decide) (by decide)
  have kc := fun (w : World) (C : Array Value) (n c g : Nat) (hg : g = w.heap.size) => Joins.run_convert_bytes_const_at (P := Tryz.prog) w 30 5 C n c g hg Tryz.underlying30 Tryz.underlying5
  replace hsl := hid hsl
  replace hG := hid hG
  go_enter Tryz.func4, Tryz.ntmps4
  go_wp2_with fail
  refine (hsl.out _).mono ?_
  rintro e w1 ⟨rfl, hH1, O1⟩
  have hnw := cellNew_any w1 (w.heap.size + 1) 1 2256 6 101 (row_of (l := sV [[104]]) hH1) (by decide) (by decide) (by decide) (hG.out.same O1)
  replace hnw := hid hnw
  clear hH1
  go_wp2_with fail
  refine hnw.out.mono ?_
  rintro e w2 ⟨d, rfl, C2, hfx, hZ, O2⟩
  have O12 := O1.trans O2
  have hZw := hid (show ∀ i, Zb d (s0 2256 6) (· = d.mb) i → w.heap.size ≤ i from fun i hi => by have := hZ.out i hi; have := O1.size; omega)
  replace O12 := hid O12
  clear hnw hsl O1 O2 hZ hfx
  obtain ⟨cb, hcb⟩ : ∃ cb, d.cb = cb := ⟨_, rfl⟩
  rw [hcb]
  replace hcb := hid hcb
  have hbn := b_new w2 (.cells ex27V 5 (27, 28))
  have Ob := (Only.refl (fun _ => False) w2).alloc (.cells ex27V 5 (27, 28))
  have Tb := Turn.quiet C2.out Ob
  have hado := adopt_any exR mGet tRoot 27 1 0 (some ⟨w2.heap.size, 0, none⟩) 27 27 1000 (hid Tb.cell) many_ex rfl (by decide) (by decide) (by decide) fit_root (bs_ex hbn (by decide)) (fun i hi => by
    obtain ⟨a, ha, rfl⟩ := hi
    cases ha
    exact ⟨fun hz => by have h1 : w2.heap.size < w2.heap.size := C2.out.Zlt _ hz; omega, b_lt hbn⟩) (by decide) (by decide) rfl (by decide) (by decide) rfl
  rw [hcb.out, show ((((s0 2256 6).n : Int)) + 1) = 1 from rfl] at hado
  unfold ex27V at hado
  replace hado := hid hado
  replace Tb := hid Tb
  replace Ob := hid Ob
  clear hbn
  go_wp2_with fail
  refine hado.out.mono ?_
  rintro e w4 ⟨s4, G4, OA, oc, os, rfl, T4, A4, hol, hR, hlog⟩
  obtain ⟨A, c, ho, hB⟩ := hlog.out 0 (by decide)
  rw [show entB (0 + 0 + 1) ((s0 2256 6).n + 1) mGet.data.toList tRoot.data.toList = exL ++ [10] from ex_entB] at ho hB
  replace ho : os[0]? = some (7, 0, A, 23, c) := ho
  replace hB : Bs w4 A 23 c (exL ++ [10]) := hB
  have C4 := T4.out.cell
  have hm4 : s4.m = 1 := A4.out.m_
  have hH4 : s4.H = 45 := A4.out.H_
  have hhas := hasc_any (hid C4) (by omega) (by omega)
  have hhel := heldc_any (hid C4)
  rw [hcb.out] at hhas hhel
  rw [hH4] at hhel
  obtain ⟨v0, v1, v2, v3, v4, v5⟩ := oV_at os 0 _ ho
  obtain ⟨b, off, rfl, hb, hc⟩ := hR (fun e => by rw [e] at v0; cases v0)
  have d0 := hc _ _ v0
  have d1 := hc _ _ v1
  have d2 := hc _ _ v2
  have d3 := hc _ _ v3
  have d4 := hc _ _ v4
  have d5 := hc _ _ v5
  simp only [Nat.zero_mul, Nat.zero_add, Nat.add_zero] at d0 d1 d2 d3 d4 d5
  have O4 := O12.out.trans' (Tb.out.trans T4.out).only (fun i hi => .inr (by have := hZw.out i hi; omega))
  have hrd := eread_ex A c w4 hB (hG.out.same O4)
  unfold entV at hrd
  replace hrd := hid hrd
  replace hhas := hid hhas
  replace hhel := hid hhel
  replace O4 := hid O4
  clear hado hlog hR hc v0 v1 v2 v3 v4 v5 ho hol hm4 hH4 C4
  go_wp2_with (first | (go_at_call 11; refine hhas.out.mono ?_; rintro e w5 ⟨rfl, rfl⟩) | (go_at_call 8; refine hhel.out.mono ?_; rintro e w5 ⟨rfl, rfl⟩) | (go_at_call 12; refine hrd.out.mono ?_; rintro e w6 ⟨rfl, O6⟩) | (go_at_call 13; refine (name_t _).mono ?_; rintro e w7 ⟨rfl, rfl⟩) | fail)
  go_ret
  exact ⟨rfl, (O4.out.trans O6).alloc _⟩
end Go.Proofs.YtpblgjadpfecgaaGreatDoor
