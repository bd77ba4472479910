/-
  The gateway's own answer 404.
-/
import Derived.Test.YtpblgjadpfecgaaGreatDoorFl
import Derived.Test.YtpblgjadpfecgaaGreatDoorFf
import Derived.Test.YtpblgjadpfecgaaGreatDoorU
import Derived.Test.YtpblgjadpfecgaaGreatDoorP1
import Derived.Deep.RegionHeld3
set_option linter.unusedSimpArgs false
set_option linter.unusedVariables false
namespace Go.Proofs.YtpblgjadpfecgaaGreatDoor
open Go.RowKit

theorem ret_fld {fn : Func} {R : Ending → World → Prop} {tmps : Array Value} {W : World} (hf : fn.results = #[.cell 2 197]) {g : Nat} {t : TypeId} {fr : Nat × Nat} {a b : Value}
    (hrow : W.heap[g]? = some (.cells #[a, b] t fr)) (h2 : tmps.getD 2 undef = .pointer (some ⟨g, 0, none⟩)) (hR : R (.returned (.agg #[a, b])) W) : bodyPost Tryz.prog fn R .ret ⟨tmps, []⟩ W :=
  bodyPost_ret (v := .agg #[a, b]) (results_cell_row hf tmps W g t _ fr _ h2 hrow Tryz.underlying197 rfl (by kernel_rfl)) rfl hR
theorem ret_resp {fn : Func} {R : Ending → World → Prop} {tmps : Array Value} {W : World} {p : Tmp} (hf : fn.results = #[.cell p 139]) {g : Nat} {t : TypeId} {fr : Nat × Nat} {a b c d e : Value}
    (hrow : W.heap[g]? = some (.cells #[a, b, c, d, e] t fr)) (h2 : tmps.getD p undef = .pointer (some ⟨g, 0, none⟩)) (hR : R (.returned (.agg #[a, b, c, d, e])) W) : bodyPost Tryz.prog fn R .ret ⟨tmps, []⟩ W :=
  bodyPost_ret (v := .agg #[a, b, c, d, e]) (results_cell_row hf tmps W g t _ fr _ h2 hrow Tryz.underlying139 rfl (by kernel_rfl)) rfl hR

set_option maxRecDepth 100000 in
theorem slength_any (n : Nat) (hn : n ≤ 9223372036854775807) (w : World) (hG : Gl w) : Calls Tryz.prog 92 #[.int .i64 n] w fun e w' => e = .returned (.agg #[.string (B sCL), .string (B (Lib.decDigits n))]) ∧ Only (fun _ => False) w w' := by
  go_enter Tryz.func92, Tryz.ntmps92
  go_wp2_with fail
  have OA : Only (fun _ => False) w (w.alloc (.cells #[.string ⟨#[]⟩, .string ⟨#[]⟩] 197)) := (Only.refl _ w).alloc _
  refine (text_any n hn _ (hG.same OA)).mono ?_
  rintro e w1 ⟨rfl, O1⟩
  have hrow := O1.keep (b_new w (.cells #[.string ⟨#[]⟩, .string ⟨#[]⟩] 197)) (fun h => h)
  have O := OA.trans O1
  clear OA O1
  obtain ⟨c0, c1, f0, f1⟩ := cells2 hrow
  go_wp2_with fail
  exact ret_fld Tryz.results92 (set2_row hrow ..) rfl ⟨rfl, O.set2 (.inr (by omega)) ..⟩

/-- Not Found -/
def sNF : ByteArray := ⟨#[78, 111, 116, 32, 70, 111, 117, 110, 100]⟩
def f404 : List FD := [(sCL, [48])]
theorem reason_404 (w : World) : Calls Tryz.prog 94 #[.int .i64 404] w fun e w' => e = .returned (.string sNF) ∧ w' = w := by
  go_enter Tryz.func94, Tryz.ntmps94
  go_wp2_with fail
  go_ret
  exact ⟨rfl, rfl⟩

set_option maxRecDepth 100000 in
theorem sown_404 (w : World) (hG : Gl w) : Calls Tryz.prog 53 #[.int .i64 404, .bool false] w fun e w' => ∃ A, e = .returned (.agg #[.int .i64 404, .string sNF, .int .i64 1, .slice A 1 1, .slice none 0 0]) ∧ Row w' A (fV f404) ∧ Only (fun _ => False) w w' := by
  have d0 : Lib.decDigits 0 = [48] := by decide +kernel
  have hl := fun (W : World) (o : Only (fun _ => False) w W) => slength_any 0 (by omega) W (hG.same o)
  rw [d0] at hl
  replace hl := hid hl
  clear d0
  obtain ⟨g, hg⟩ : ∃ g, w.heap.size = g := ⟨_, rfl⟩
  obtain ⟨w0, hw0⟩ : ∃ w0, w.alloc (.cells #[.int .i64 0, .string ⟨#[]⟩, .int .i64 0, .slice none 0 0, .slice none 0 0] 139) = w0 := ⟨_, rfl⟩
  have O0 : Only (fun _ => False) w w0 := by rw [← hw0]; exact (Only.refl _ w).alloc _
  have hrow : w0.heap[w.heap.size]? = some (.cells #[.int .i64 0, .string ⟨#[]⟩, .int .i64 0, .slice none 0 0, .slice none 0 0] 139 (0, 0)) := by rw [← hw0]; exact b_new _ _
  rw [hg] at hrow
  replace hrow := hid hrow
  go_enter Tryz.func53, Tryz.ntmps53
  go_upto_region 1 with (fail)
  clear hw0
  replace hg := hid hg
  go_wp2_with fail
  refine (hl.out _ (by exact O0)).mono ?_
  rintro e w1 ⟨rfl, O1⟩
  have hr1 := hid (O1.keep hrow.out (fun h => h))
  replace O1 := O0.trans O1
  go_upto_region 2 with (fail)
  have O2 := O1.alloc (.cells #[.string (B sCL), .string (B [48])] 197)
  have HA := row_of (l := fV f404) (b_new w1 (.cells #[.string (B sCL), .string (B [48])] 197))
  have hr2 := hid (((Only.refl (fun _ => False) w1).alloc (.cells #[.string (B sCL), .string (B [48])] 197)).keep hr1.out (fun h => h))
  have hg1 : g + 1 ≤ w1.heap.size := b_lt hr1.out
  obtain ⟨g1, hg1'⟩ : ∃ g1, w1.heap.size = g1 := ⟨_, rfl⟩
  rw [hg1'] at HA hg1 ⊢
  clear hg1'
  generalize w1.alloc (.cells #[.string (B sCL), .string (B [48])] 197) = w2 at *
  clear hrow hr1 O1 O0 hl
  go_wp2_with fail
  refine (reason_404 w2).mono ?_
  rintro e w3 ⟨rfl, rfl⟩
  obtain ⟨⟨c0, c1, c2, c3, c4⟩, f0, f1, f2, f3, f4⟩ := cells5 hr2.out
  replace HA := hid HA
  go_wp2_with fail
  have OS := (Only.refl (· = g) w3).set5 (.inl rfl) (.int .i64 404) (.string sNF) (.int .i64 1) (.slice (some ⟨g1, 0, none⟩) 1 1) (.slice none 0 0)
  exact ret_resp Tryz.results53 (set5_row hr2.out ..) rfl ⟨some ⟨g1, 0, none⟩, rfl, HA.out.keep OS (by rintro i ⟨b, hb, rfl⟩; cases hb; show ¬ g1 = g; omega), O2.set5 (.inr (by have := hg.out; omega)) ..⟩

/-- HTTP/1.1 404 Not Found -/
def sl404 : List UInt8 := [72, 84, 84, 80, 47, 49, 46, 49, 32, 52, 48, 52, 32, 78, 111, 116, 32, 70, 111, 117, 110, 100, 13, 10]
set_option maxRecDepth 100000 in
theorem status_404 (A : Option Addr) (w : World) (hG : Gl w) : Calls Tryz.prog 91 #[.agg #[.int .i64 404, .string sNF, .int .i64 1, .slice A 1 1, .slice none 0 0]] w fun e w' => e = .returned (.string (B sl404)) ∧ Only (fun _ => False) w w' := by
  have d1 : Lib.decDigits 1 = [49] := by decide +kernel
  have d2 : Lib.decDigits 404 = [52, 48, 52] := by decide +kernel
  have h1 := fun (W : World) (h : Gl W) => text_any 1 (by omega) W h
  have h2 := fun (W : World) (h : Gl W) => text_any 404 (by omega) W h
  rw [d1] at h1
  rw [d2] at h2
  replace h1 := hid h1
  replace h2 := hid h2
  clear d1 d2
  obtain ⟨wb, hwb⟩ : ∃ wb, w.alloc (.cells #[.int .i64 404, .string sNF, .int .i64 1, .slice A 1 1, .slice none 0 0] 139) = wb := ⟨_, rfl⟩
  have O0 : Only (fun _ => False) w wb := by rw [← hwb]; exact (Only.refl _ w).alloc _
  have hb : wb.heap[w.heap.size]? = some (.cells #[.int .i64 404, .string sNF, .int .i64 1, .slice A 1 1, .slice none 0 0] 139) := by rw [← hwb]; exact b_new _ _
  obtain ⟨g, hg⟩ : ∃ g, w.heap.size = g := ⟨_, rfl⟩
  rw [hg] at hb
  obtain ⟨⟨c0, c1, c2, c3, c4⟩, _⟩ := cells5 hb
  have hgl := b_lt hb
  have hGb := hG.same O0
  have hs : ((B [52, 48, 52]).size : Int) = 3 := rfl
  have hsN : sNF.size = 9 := rfl
  go_enter Tryz.func91, Tryz.ntmps91
  go_upto_region 1 with (fail)
  clear hwb hg
  go_wp2_with fail
  refine (h2.out _ hGb).mono ?_
  rintro e w1 ⟨rfl, O1⟩
  have e1 := (O1.cell (p := ⟨g, 1, none⟩) hgl (fun h => h)).trans c1
  have e2 := (O1.cell (p := ⟨g, 2, none⟩) hgl (fun h => h)).trans c2
  have hG1 := hGb.same O1
  clear c0 c1 c2 c3 c4 hb
  go_wp2_with fail
  refine wp_loop_rounds 1 ?_
  rw [rounds_succ]
  go_wp2_with fail
  go_upto_region 4 with (fail)
  go_region_held3 (fun w' => w'.cell? ⟨g, 1, none⟩ = some (.string sNF) ∧ w'.cell? ⟨g, 2, none⟩ = some (.int .i64 1)) (go_keep)
    (first | (go_at_call 46; refine (h1.out _ (hG1.same (by exact ⟨rfl, rfl, rfl, Nat.le_refl _, fun _ _ _ => rfl⟩))).mono ?_; rintro e w2 ⟨rfl, o2⟩; have O2 : Only (fun _ => False) w1 w2 := ⟨o2.os, o2.tape, o2.output, o2.size, o2.block⟩; have e11 := (O2.cell (p := ⟨g, 1, none⟩) (Nat.lt_of_lt_of_le hgl O1.size) (fun h => h)).trans e1; have e12 := (O2.cell (p := ⟨g, 2, none⟩) (Nat.lt_of_lt_of_le hgl O1.size) (fun h => h)).trans e2))
  go_wp2_with fail
  go_ret
  exact ⟨rfl, (O0.trans O1).trans O2⟩

/-- HTTP/1.1 404 Not Found, Content-Length: 0 -/
def own404 : List UInt8 := [72, 84, 84, 80, 47, 49, 46, 49, 32, 52, 48, 52, 32, 78, 111, 116, 32, 70, 111, 117, 110, 100, 13, 10, 67, 111, 110, 116, 101, 110, 116, 45, 76, 101, 110, 103, 116, 104, 58, 32, 48, 13, 10, 13, 10]
theorem small404 : SmallF f404 := ⟨by decide, fun p hp => by
  simp only [f404, List.mem_singleton] at hp
  subst hp
  decide⟩
theorem own404_is : writeF (B sl404).data.toList f404 [] = own404 := by decide +kernel
set_option maxRecDepth 100000 in
theorem wresp_404 (A : Option Addr) (w : World) (hA : Row w A (fV f404)) (hG : Gl w) : Calls Tryz.prog 52 #[.agg #[.int .i64 404, .string sNF, .int .i64 1, .slice A 1 1, .slice none 0 0]] w fun e w' => ∃ A' c', e = .returned (.slice A' 45 c') ∧ OwnB w' w.heap.size A' c' own404 ∧ Only (fun _ => False) w w' := by
  obtain ⟨wb, hwb⟩ : ∃ wb, w.alloc (.cells #[.int .i64 404, .string sNF, .int .i64 1, .slice A 1 1, .slice none 0 0] 139) = wb := ⟨_, rfl⟩
  have O0 : Only (fun _ => False) w wb := by rw [← hwb]; exact (Only.refl _ w).alloc _
  have hb : wb.heap[w.heap.size]? = some (.cells #[.int .i64 404, .string sNF, .int .i64 1, .slice A 1 1, .slice none 0 0] 139) := by rw [← hwb]; exact b_new _ _
  obtain ⟨g, hg⟩ : ∃ g, w.heap.size = g := ⟨_, rfl⟩
  rw [hg] at hb
  obtain ⟨⟨c0, c1, c2, c3, c4⟩, _⟩ := cells5 hb
  have hgl := b_lt hb
  have hst := fun (W : World) (o : Only (fun _ => False) wb W) => status_404 A W ((hG.same O0).same o)
  have hwr := fun (W : World) (o : Only (fun _ => False) wb W) => write_any (B sl404) f404 [] A none 1 0 W (by decide) ((hA.same O0).same o) small404 (by decide) (Row.nil _ _) (fun _ => ⟨rfl, rfl⟩) (by decide)
  rw [own404_is] at hwr
  simp only [show f404.length = 1 from rfl, show own404.length = 45 from rfl, List.length_nil] at hwr
  replace hst := hid hst
  replace hwr := hid hwr
  replace c0 := cell_all hgl _ _ c0
  replace c1 := cell_all hgl _ _ c1
  replace c2 := cell_all hgl _ _ c2
  replace c3 := cell_all hgl _ _ c3
  replace c4 := cell_all hgl _ _ c4
  have P0 := Only.refl (fun _ => False) wb
  go_enter Tryz.func52, Tryz.ntmps52
  go_upto_region 1 with (fail)
  clear hwb
  replace hg := hid hg
  go_region_held3 (fun w' => Only (fun _ => False) wb w') (repeat (first | assumption | refine Only.drew ?_ | refine Only.alloc ?_ _))
    (first | (go_at_call 91; refine (hst.out _ P0.drew).mono ?_; rintro e w1 ⟨rfl, O1⟩; have P1 := P0.drew.trans O1) | (go_at_call 90; refine (hwr.out _ P1).mono ?_; rintro e w2 ⟨A', c', rfl, HO, O2⟩; have P2 := P1.trans O2))
  go_wp2_with fail
  go_ret
  exact ⟨A', c', rfl, Own.weak HO (Nat.le_trans O0.size P1.size), O0.trans P2⟩

theorem own_404 (w : World) (hG : Gl w) : Calls Tryz.prog 25 #[.int .i64 404, .bool false] w fun e w' => ∃ A' c', e = .returned (.slice A' 45 c') ∧ OwnB w' w.heap.size A' c' own404 ∧ Only (fun _ => False) w w' := by
  go_enter Tryz.func25, Tryz.ntmps25
  go_wp2_with fail
  refine (sown_404 w hG).mono ?_
  rintro e w1 ⟨A, rfl, HA, O1⟩
  go_wp2_with fail
  refine (wresp_404 A w1 HA (hG.same O1)).mono ?_
  rintro e w2 ⟨A', c', rfl, HO, O2⟩
  go_wp2_with fail
  go_ret
  exact ⟨A', c', rfl, Own.weak HO O1.size, O1.trans O2⟩
end Go.Proofs.YtpblgjadpfecgaaGreatDoor
/-
  A record of the log: its numbers, whether it is right.
-/
namespace Go.Proofs.YtpblgjadpfecgaaGreatDoor
open Go.RowKit

/-- A record's value. -/
def entV (seq at_ took conn : Int) (m t : ByteArray) (code up down : Int) : Value := .agg #[.int .i64 seq, .int .i64 at_, .int .i64 took, .int .i64 conn, .string m, .string t, .int .i64 code, .int .i64 up, .int .i64 down]
/-- Its numbers. -/
def numV (seq at_ took conn code up down : Int) : Array Value := #[.int .i64 seq, .int .i64 1, .int .i64 1125899906842624, .int .i64 at_, .int .i64 0, .int .i64 1125899906842624, .int .i64 took, .int .i64 0, .int .i64 1125899906842624, .int .i64 conn, .int .i64 1, .int .i64 2147483647,
  .int .i64 code, .int .i64 0, .int .i64 999, .int .i64 up, .int .i64 0, .int .i64 1125899906842624, .int .i64 down, .int .i64 0, .int .i64 1125899906842624]

def numZ : Array Value := #[.int .i64 0, .int .i64 0, .int .i64 0, .int .i64 0, .int .i64 0, .int .i64 0, .int .i64 0, .int .i64 0, .int .i64 0, .int .i64 0, .int .i64 0, .int .i64 0, .int .i64 0, .int .i64 0, .int .i64 0, .int .i64 0, .int .i64 0, .int .i64 0, .int .i64 0, .int .i64 0, .int .i64 0]
theorem num_one (seq at_ took conn code up down : Int) : (numV seq at_ took conn code up down).all (·.oneCell') = true := by simp [numV, Value.oneCell']
set_option maxRecDepth 100000 in
set_option maxHeartbeats 1000000 in
theorem numbers_any (seq at_ took conn : Int) (m t : ByteArray) (code up down : Int) (w : World) : Calls Tryz.prog 85 #[entV seq at_ took conn m t code up down] w fun e w' => e = .returned (.agg (numV seq at_ took conn code up down)) ∧ Only (fun _ => False) w w' := by
  unfold entV
  obtain ⟨w1, hw1⟩ : ∃ w1, w.alloc (.cells #[.int .i64 seq, .int .i64 at_, .int .i64 took, .int .i64 conn, .string m, .string t, .int .i64 code, .int .i64 up, .int .i64 down] 43) = w1 := ⟨_, rfl⟩
  have O1 : Only (fun _ => False) w w1 := by rw [← hw1]; exact (Only.refl _ w).alloc _
  have h1 : w1.heap[w.heap.size]? = some (.cells #[.int .i64 seq, .int .i64 at_, .int .i64 took, .int .i64 conn, .string m, .string t, .int .i64 code, .int .i64 up, .int .i64 down] 43 (0, 0)) := by rw [← hw1]; exact b_new _ _
  obtain ⟨w2, hw2⟩ : ∃ w2, w1.alloc (.cells numZ 185) = w2 := ⟨_, rfl⟩
  have O2 : Only (fun _ => False) w1 w2 := by rw [← hw2]; exact (Only.refl _ w1).alloc _
  have h2 : w2.heap[w1.heap.size]? = some (.cells numZ 185 (0, 0)) := by rw [← hw2]; exact b_new _ _
  replace h1 := O2.keep h1 (fun h => h)
  obtain ⟨g, hg⟩ : ∃ g, w.heap.size = g := ⟨_, rfl⟩
  obtain ⟨g2, hg2⟩ : ∃ g2, w1.heap.size = g2 := ⟨_, rfl⟩
  have hs : w1.heap.size = w.heap.size + 1 := by rw [← hw1]; simp
  rw [hg] at h1
  rw [hg2] at h2
  have c0 := b_cell h1 0
  have c1 := b_cell h1 1
  have c2 := b_cell h1 2
  have c3 := b_cell h1 3
  have c6 := b_cell h1 6
  have c7 := b_cell h1 7
  have c8 := b_cell h1 8
  simp only [List.getElem?_toArray, List.getElem?_cons_zero, List.getElem?_cons_succ] at c0 c1 c2 c3 c6 c7 c8
  have hs' := hid (show g2 = g + 1 by omega)
  replace hs := hid hs
  go_enter Tryz.func85, Tryz.ntmps85
  go_upto_region 1 with (fail)
  have e2 : w1.alloc (.cells #[.int .i64 0, .int .i64 0, .int .i64 0, .int .i64 0, .int .i64 0, .int .i64 0, .int .i64 0, .int .i64 0, .int .i64 0, .int .i64 0, .int .i64 0, .int .i64 0, .int .i64 0, .int .i64 0, .int .i64 0, .int .i64 0, .int .i64 0, .int .i64 0, .int .i64 0, .int .i64 0, .int .i64 0] 185) = w2 := hw2
  try rw [e2]
  clear e2 hw1 hw2
  replace hg := hid hg
  replace hg2 := hid hg2
  replace h1 := hid h1
  replace h2 := hid h2
  refine wp_region_lit ?_
  iterate 66 go_step
  refine wpList_store_row rfl 185 (.tmp 2) (.tmp 24) rfl g2 (numV seq at_ took conn code up down) ?_ ?_ 185 _ h2.out (by kernel_rfl) rfl (num_one ..) ?_
  · rfl
  · rfl
  simp only [Act.put]
  have h3 := hid (setRow_heap w2 g2 _ (numV seq at_ took conn code up down) _ _ h2.out)
  have oF : Only (fun i => i = g2) w2 (w2.setRow g2 (numV seq at_ took conn code up down)) := only_setRow w2 g2 _ rfl
  generalize w2.setRow g2 (numV seq at_ took conn code up down) = w3 at *
  clear c0 c1 c2 c3 c6 c7 c8
  go_wp2_with fail
  refine bodyPost_ret (v := .agg (numV seq at_ took conn code up down)) (results_cell_row Tryz.results85 _ w3 g2 185 _ (0, 0) _ rfl h3.out Tryz.underlying185 rfl (by kernel_rfl)) rfl ⟨rfl, (O1.trans O2).trans' oF (fun i hi => .inr (by have := hs.out; have := hg.out; have := hg2.out; omega))⟩
theorem num_at0 (a b c d e f g : Int) (W : World) : (Instr.index 185 (.agg (numV a b c d e f g)) (.int .i64 0)).run Tryz.prog W = .ok (.agg #[.int .i64 a, .int .i64 1, .int .i64 1125899906842624]) W := by kernel_rfl
theorem num_at1 (a b c d e f g : Int) (W : World) : (Instr.index 185 (.agg (numV a b c d e f g)) (.int .i64 1)).run Tryz.prog W = .ok (.agg #[.int .i64 b, .int .i64 0, .int .i64 1125899906842624]) W := by kernel_rfl
theorem num_at2 (a b c d e f g : Int) (W : World) : (Instr.index 185 (.agg (numV a b c d e f g)) (.int .i64 2)).run Tryz.prog W = .ok (.agg #[.int .i64 c, .int .i64 0, .int .i64 1125899906842624]) W := by kernel_rfl
theorem num_at3 (a b c d e f g : Int) (W : World) : (Instr.index 185 (.agg (numV a b c d e f g)) (.int .i64 3)).run Tryz.prog W = .ok (.agg #[.int .i64 d, .int .i64 1, .int .i64 2147483647]) W := by kernel_rfl
theorem num_at4 (a b c d e f g : Int) (W : World) : (Instr.index 185 (.agg (numV a b c d e f g)) (.int .i64 4)).run Tryz.prog W = .ok (.agg #[.int .i64 e, .int .i64 0, .int .i64 999]) W := by kernel_rfl
theorem num_at5 (a b c d e f g : Int) (W : World) : (Instr.index 185 (.agg (numV a b c d e f g)) (.int .i64 5)).run Tryz.prog W = .ok (.agg #[.int .i64 f, .int .i64 0, .int .i64 1125899906842624]) W := by kernel_rfl
theorem num_at6 (a b c d e f g : Int) (W : World) : (Instr.index 185 (.agg (numV a b c d e f g)) (.int .i64 6)).run Tryz.prog W = .ok (.agg #[.int .i64 g, .int .i64 0, .int .i64 1125899906842624]) W := by kernel_rfl

set_option maxRecDepth 100000 in
set_option maxHeartbeats 4000000 in
/-- A record of a request that was told 404 is right. -/
theorem right_404 (seq conn : Int) (m t : ByteArray) (w : World) (hq : 1 ≤ seq ∧ seq ≤ 1000000) (hc : 1 ≤ conn ∧ conn ≤ 1000000) (hm : token m.data.toList = true ∧ m.size ≤ 20) (ht : target t.data.toList = true ∧ t.size ≤ 512) :
    Calls Tryz.prog 47 #[entV seq 0 0 conn m t 404 0 45] w fun e w' => e = .returned (.bool true) ∧ Only (fun _ => False) w w' := by
  have q1 : ¬ seq < 1 := by omega
  have q2 : ¬ 1125899906842624 < seq := by omega
  have q3 : ¬ conn < 1 := by omega
  have q4 : ¬ 2147483647 < conn := by omega
  have m1 : (m.size : Int) ≤ 20 := by omega
  have t1 : (t.size : Int) ≤ 512 := by omega
  have hnum := fun W => numbers_any seq 0 0 conn m t 404 0 45 W
  have htok := fun W => token_any m (by omega) W
  have htgt := fun W => target_any t (by omega) W
  rw [hm.1] at htok
  rw [ht.1] at htgt
  have i0 := num_at0 seq 0 0 conn 404 0 45
  have i1 := num_at1 seq 0 0 conn 404 0 45
  have i2 := num_at2 seq 0 0 conn 404 0 45
  have i3 := num_at3 seq 0 0 conn 404 0 45
  have i4 := num_at4 seq 0 0 conn 404 0 45
  have i5 := num_at5 seq 0 0 conn 404 0 45
  have i6 := num_at6 seq 0 0 conn 404 0 45
  unfold numV at i0 i1 i2 i3 i4 i5 i6
  unfold entV numV at hnum
  unfold entV
  obtain ⟨wb, hwb⟩ : ∃ wb, w.alloc (.cells #[.int .i64 seq, .int .i64 0, .int .i64 0, .int .i64 conn, .string m, .string t, .int .i64 404, .int .i64 0, .int .i64 45] 43) = wb := ⟨_, rfl⟩
  have O0 : Only (fun _ => False) w wb := by rw [← hwb]; exact (Only.refl _ w).alloc _
  have hb : wb.heap[w.heap.size]? = some (.cells #[.int .i64 seq, .int .i64 0, .int .i64 0, .int .i64 conn, .string m, .string t, .int .i64 404, .int .i64 0, .int .i64 45] 43) := by rw [← hwb]; exact b_new _ _
  obtain ⟨g, hg⟩ : ∃ g, w.heap.size = g := ⟨_, rfl⟩
  rw [hg] at hb
  have hgl := b_lt hb
  have c0 := b_cell hb 0
  have c1 := b_cell hb 1
  have c2 := b_cell hb 2
  have c3 := b_cell hb 3
  have c4 := b_cell hb 4
  have c5 := b_cell hb 5
  have c6 := b_cell hb 6
  have c7 := b_cell hb 7
  have c8 := b_cell hb 8
  simp only [List.getElem?_toArray, List.getElem?_cons_zero, List.getElem?_cons_succ] at c0 c1 c2 c3 c4 c5 c6 c7 c8
  replace hnum := hid hnum
  replace htok := hid htok
  replace htgt := hid htgt
  go_enter Tryz.func47, Tryz.ntmps47
  go_upto_region 1 with (fail)
  clear hwb
  replace hg := hid hg
  go_wp2_with fail
  refine (hnum.out wb).mono ?_
  rintro e w1 ⟨rfl, O1⟩
  replace c4 := (O1.cell (p := ⟨g, 4, none⟩) hgl (fun h => h)).trans c4
  replace c5 := (O1.cell (p := ⟨g, 5, none⟩) hgl (fun h => h)).trans c5
  have hgl1 := Nat.lt_of_lt_of_le hgl O1.size
  clear c0 c1 c2 c3 c6 c7 c8 hnum hb
  have O2 := O0.trans O1
  go_wp2_with fail
  go_loopw [7] (fun iv wr => ∃ k : Nat, k ≤ 7 ∧ iv = .int .i64 (k : Int) ∧ Only (fun _ => False) w1 wr) (fun iv _ => 7 - (intOf iv).toNat)
  case atStart => exact ⟨0, by omega, rfl, Only.refl _ _⟩
  case round =>
    obtain ⟨k, hk, rfl, O⟩ := hrel
    replace c4 := (O.cell (p := ⟨g, 4, none⟩) hgl1 (fun h => h)).trans c4
    replace c5 := (O.cell (p := ⟨g, 5, none⟩) hgl1 (fun h => h)).trans c5
    rcases (show k = 0 ∨ k = 1 ∨ k = 2 ∨ k = 3 ∨ k = 4 ∨ k = 5 ∨ k = 6 ∨ k = 7 by omega) with rfl | rfl | rfl | rfl | rfl | rfl | rfl | rfl
    case inr.inr.inr.inr.inr.inr.inr =>
      go_wp2_with fail
      refine (htok.out wr).mono ?_
      rintro e w3 ⟨rfl, rfl⟩
      go_wp2_with fail
      refine (htgt.out wr).mono ?_
      rintro e w4 ⟨rfl, rfl⟩
      go_wp2_with fail
      go_ret
      exact ⟨rfl, O2.trans O⟩
    all_goals
      go_wp2_with fail
      go_roundw
      case rel => first | exact ⟨1, by omega, rfl, O.alloc _⟩ | exact ⟨2, by omega, rfl, O.alloc _⟩ | exact ⟨3, by omega, rfl, O.alloc _⟩ | exact ⟨4, by omega, rfl, O.alloc _⟩ | exact ⟨5, by omega, rfl, O.alloc _⟩ | exact ⟨6, by omega, rfl, O.alloc _⟩ | exact ⟨7, by omega, rfl, O.alloc _⟩
      case measure => simp [intOf]
end Go.Proofs.YtpblgjadpfecgaaGreatDoor
