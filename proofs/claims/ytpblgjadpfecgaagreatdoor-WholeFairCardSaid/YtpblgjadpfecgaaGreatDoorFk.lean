/-
  A cell: a request is taken; none is routed: it is told 404.
-/
import Derived.Test.YtpblgjadpfecgaaGreatDoorFj
import Derived.Test.YtpblgjadpfecgaaGreatDoorSc
set_option linter.unusedSimpArgs false
set_option linter.unusedVariables false
namespace Go.Proofs.YtpblgjadpfecgaaGreatDoor
open Go.RowKit

def hostFs : List FD := [(sHost, [104])]
theorem hostFs_small : SmallF hostFs := ⟨by decide, fun p hp => by
  simp only [hostFs, List.mem_singleton] at hp
  subst hp
  decide⟩
theorem has_no : hasF hostFs [67, 111, 110, 110, 101, 99, 116, 105, 111, 110] [99, 108, 111, 115, 101] = false := by decide +kernel
theorem get_host : getF hostFs sHost = [[104]] := by decide +kernel
theorem host_h : hostF [104] = ([104], true) := by decide +kernel

/-- The connection isn't closed behind such a request. -/
theorem closes_no (F : Option Addr) (cf : Nat) (w : World) (hR : Row w F (fV hostFs)) (hG : Gl w) :
    Calls Tryz.prog 102 #[.slice F 1 cf, .int .i64 1] w fun e w' => e = .returned (.bool false) ∧ Only (fun _ => False) w w' := by
  have hh := has_any hostFs ⟨#[67, 111, 110, 110, 101, 99, 116, 105, 111, 110]⟩ ⟨#[99, 108, 111, 115, 101]⟩ F cf w hR hostFs_small (by decide) (by decide) (by decide) hG
  rw [show hasF hostFs (⟨#[67, 111, 110, 110, 101, 99, 116, 105, 111, 110]⟩ : ByteArray).data.toList (⟨#[99, 108, 111, 115, 101]⟩ : ByteArray).data.toList = false from has_no] at hh
  replace hh := hid (show Calls Tryz.prog 157 #[.slice F 1 cf, .string ⟨#[67, 111, 110, 110, 101, 99, 116, 105, 111, 110]⟩, .string ⟨#[99, 108, 111, 115, 101]⟩] w fun e w' => e = .returned (.bool false) ∧ Only (fun _ => False) w w' from hh)
  go_enter Tryz.func102, Tryz.ntmps102
  go_wp2_with fail
  refine hh.out.mono ?_
  rintro e w1 ⟨rfl, O1⟩
  go_wp2_with fail
  go_ret
  exact ⟨rfl, O1⟩

set_option maxRecDepth 100000 in
/-- The host of such a request. -/
theorem hhost_h (m t : ByteArray) (mi : Int) (F D : Option Addr) (cf nd cd : Nat) (w : World) (hR : Row w F (fV hostFs)) :
    Calls Tryz.prog 103 #[.agg #[.string m, .string t, .int .i64 mi, .slice F 1 cf, .slice D nd cd]] w fun e w' => e = .returned (.string ⟨#[104]⟩) ∧ Only (fun _ => False) w w' := by
  obtain ⟨wb, hwb⟩ : ∃ wb, w.alloc (.cells #[.string m, .string t, .int .i64 mi, .slice F 1 cf, .slice D nd cd] 149) = wb := ⟨_, rfl⟩
  have O0 : Only (fun _ => False) w wb := by rw [← hwb]; exact (Only.refl _ w).alloc _
  have hb : wb.heap[w.heap.size]? = some (.cells #[.string m, .string t, .int .i64 mi, .slice F 1 cf, .slice D nd cd] 149) := by rw [← hwb]; exact b_new _ _
  obtain ⟨g, hg⟩ : ∃ g, w.heap.size = g := ⟨_, rfl⟩
  rw [hg] at hb
  obtain ⟨⟨c0, c1, c2, c3, c4⟩, _⟩ := cells5 hb
  have hget := get_any hostFs ⟨#[72, 111, 115, 116]⟩ F cf wb (hR.same O0) hostFs_small (by decide)
  rw [show getF hostFs (⟨#[72, 111, 115, 116]⟩ : ByteArray).data.toList = [[104]] from get_host] at hget
  replace hget := hid (show Calls Tryz.prog 159 #[.slice F 1 cf, .string ⟨#[72, 111, 115, 116]⟩] wb fun e w' => ∃ A' c', e = .returned (.slice A' 1 c') ∧ OwnS w' wb.heap.size A' c' [[104]] ∧ Only (fun _ => False) wb w' from hget)
  go_enter Tryz.func103, Tryz.ntmps103
  go_upto_region 1 with (fail)
  clear hwb hg
  go_wp2_with fail
  refine hget.out.mono ?_
  rintro e w1 ⟨A, c, rfl, HO, O1⟩
  obtain ⟨b, off, rfl, hbl, s0⟩ := str_at HO.row 0 _ rfl
  have hlh := host_any (B [104]) (by decide) w1
  rw [show hostF (B [104]).data.toList = ([104], true) from host_h] at hlh
  replace hlh := hid hlh
  simp only [Nat.add_zero] at s0
  clear c0 c1 c2 c3 c4 hget
  go_wp2_with fail
  refine wp_loop_rounds 1 ?_
  rw [rounds_succ]
  go_wp2_with fail
  refine hlh.out.mono ?_
  rintro e w2 ⟨rfl, O2⟩
  go_wp2_with fail
  go_ret
  exact ⟨rfl, (O0.trans O1).trans O2⟩

theorem match_nil (t : ByteArray) (w : World) :
    Calls Tryz.prog 106 #[.slice none 0 0, .string t] w fun e w' => e = .returned (.int .i64 (-1)) ∧ w' = w := by
  go_enter Tryz.func106, Tryz.ntmps106
  go_wp2_with fail
  refine wp_loop_rounds 1 ?_
  rw [rounds_succ]
  go_wp2_with fail
  go_ret
  exact ⟨rfl, rfl⟩

section
variable {w : World} {d : CellD} {s : St} {G : Nat → Prop}
/-- The host is the tenant's. -/
theorem contains_h (h : Hid (CellIn w d s G)) :
    Calls Tryz.prog 104 #[.slice (some ⟨d.hk, 0, none⟩) 1 d.hc, .string ⟨#[104]⟩] w fun e w' => e = .returned (.bool true) ∧ w' = w := by
  obtain ⟨cs, f, h1, h2⟩ := h.out.host
  have := Tryz.slices_Contains_string d.hk 0 1 d.hc [⟨#[104]⟩] ⟨#[104]⟩ w (by decide) (by decide) (fun j hj => by
    obtain rfl : j = 0 := by simpa using hj
    rw [b_cell' h1, h2]
    rfl)
  rw [show Lib.containsS (([⟨#[104]⟩] : List ByteArray).take 1) ⟨#[104]⟩ = true by decide] at this
  exact this
/-- A token is taken. -/
theorem btake (tok' : Int) (h : Hid (CellIn w d s G)) (h1 : 1 ≤ s.tok) (e : s.tok - 1 = tok') :
    Calls Tryz.prog 105 #[.pointer (some ⟨d.bb, 0, none⟩), .int .i64 0, .int .i64 1] w fun e w' => e = .returned (.bool true) ∧ Hid (Turn w w' d s { s with tok := tok' } G G) := by
  have ok := h.out.bok
  have hb := ok.tu
  have e1 : Bk.nowOf 0 0 = 0 := by decide
  have e2 : Bk.tokOf 3 d.burst s.tok 0 0 = s.tok := by unfold Bk.tokOf; rw [e1]; omega
  refine (Bk.take_d d.bb 3 d.burst s.tok 0 0 1 tok' 0 true w (hid h.out.buck) ok ⟨?_, ?_, e1⟩).mono ?_
  · unfold Bk.tookB
    rw [e2]
    exact decide_eq_true (by omega)
  · unfold Bk.tookOf
    rw [e2, if_pos (by omega)]
    exact e
  · rintro e w' ⟨rfl, hB, O⟩
    exact ⟨rfl, hid (Turn.bucket h.out O hB.out (by constructor <;> first | exact ok.r0 | exact ok.r1 | exact ok.u0 | exact ok.u1 | exact ok.a0 | exact ok.a1 | (have := ok.tu; omega)))⟩
end
end Go.Proofs.YtpblgjadpfecgaaGreatDoor
/-
  A cell: a request is taken and told 404.
-/
namespace Go.Proofs.YtpblgjadpfecgaaGreatDoor
open Go.RowKit

/-- What has turned when a request of connection k has been told 404. -/
def St.told (s : St) (k q1 : Nat) (m t : List UInt8) (A : Option Addr) (c : Nat) (OA' : Option Addr) (oc' : Nat) (H' P' : Int) : St :=
  { s with seq := q1, OA := OA', oc := oc', os := s.os ++ [(7, 0, A, (entB q1 (k + 1) m t).length, c)], busy := Rg.upd s.busy k false, L := Rg.upd s.L (2 * k + 1) (s.L (2 * k + 1) ++ i8 own404), H := H', P := P' }

set_option maxRecDepth 100000 in
set_option maxHeartbeats 1000000 in
theorem fail_404 {w : World} {d : CellD} {s : St} {G : Nat → Prop} (j k q q1 : Nat) (m t : ByteArray) (H' : Int) (h : Hid (CellIn w d s G)) (hj : JobAt w j ((k : Int) + 1) m t) (hjz : ¬ Zb d s G j) (hq : s.seq = q) (hq1 : q1 = q + 1) (hqb : q1 ≤ 1000000) (hk : k < s.m) (hm : s.m ≤ 4) (hf : Fit m t) (hos : s.os.length ≤ 1000000)
    (hroom : (45 : Int) ≤ s.M - s.H) (hlH : ((s.L (2 * k + 1)).length : Int) ≤ s.H) (eH : s.H + 45 = H') :
    Calls Tryz.prog 59 #[.pointer (some ⟨d.cb, 0, none⟩), .pointer (some ⟨j, 0, none⟩), .int .i64 404, .bool false] w fun e w' => ∃ A c OA' oc' P' G', e = .returned (.tuple #[]) ∧
      Hid (Turn w w' d s (s.told k q1 m.data.toList t.data.toList A c OA' oc' H' P') G G') ∧
      Hid (DatOk w' (Zb d (s.told k q1 m.data.toList t.data.toList A c OA' oc' H' P') G') (7, 0, A, (entB q1 (k + 1) m.data.toList t.data.toList).length, c) (entB q1 (k + 1) m.data.toList t.data.toList)) := by
  have hov := fun (W : World) (o : Only (fun _ => False) w W) (B' : Option Addr) (cB : Nat) (hB : OwnB W w.heap.size B' cB own404) => over_404 j k q q1 m t B' cB _ H' (hid (h.out.same o (fun _ h => h.elim))) (hj.keep o (fun h => h)) hjz hq hq1 hqb hk hm hf hos rfl hroom hlH eH (OwnB.bs' hB rfl) (fun i hi => ⟨fun hz => by have := h.out.Zlt i hz; have := (hB.blk i hi).1; omega, (hB.blk i hi).2⟩)
  have how := own_404 w h.out.gl
  generalize d.cb = cb at hov ⊢
  replace hov := hid hov
  replace how := hid how
  replace eH := hid eH
  replace hq := hid hq
  replace hq1 := hid hq1
  go_enter Tryz.func59, Tryz.ntmps59
  go_wp2_with fail
  refine how.out.mono ?_
  rintro e w1 ⟨B', cB, rfl, HB, O1⟩
  have hov1 := hid (hov.out w1 O1 B' cB HB)
  clear hov how HB
  go_wp2_with fail
  refine hov1.out.mono ?_
  rintro e w2 ⟨A, c, OA', oc', P', G', rfl, T, D⟩
  go_wp2_with fail
  go_end0
  exact ⟨A, c, OA', oc', P', G', rfl, hid ((Turn.quiet h.out O1).trans T.out), D⟩

set_option maxRecDepth 100000 in
set_option maxHeartbeats 2000000 in
theorem admit_404 {w : World} {d : CellD} {s : St} {G : Nat → Prop} (k q q1 : Nat) (m t : ByteArray) (F D : Option Addr) (cf nd cd : Nat) (H' tok' : Int) (h : Hid (CellIn w d s G)) (hF : Row w F (fV hostFs)) (hFz : ∀ i, ab F i → ¬ Zb d s G i) (hq : s.seq = q) (hq1 : q1 = q + 1) (hqb : q1 ≤ 1000000) (hk : k < s.m) (hm : s.m ≤ 4) (hf : Fit m t) (hos : s.os.length ≤ 1000000)
    (hroom : (45 : Int) ≤ s.M - s.H) (hlH : ((s.L (2 * k + 1)).length : Int) ≤ s.H) (eH : s.H + 45 = H') (htok : 1 ≤ s.tok) (etok : s.tok - 1 = tok') :
    Calls Tryz.prog 60 #[.pointer (some ⟨d.cb, 0, none⟩), .int .i64 ((k : Int) + 1), .agg #[.string m, .string t, .int .i64 1, .slice F 1 cf, .slice D nd cd]] w fun e w' => ∃ A c OA' oc' P' G', e = .returned (.tuple #[]) ∧
      Hid (Turn w w' d s (St.told { s with tok := tok' } k q1 m.data.toList t.data.toList A c OA' oc' H' P') G G') ∧
      Hid (DatOk w' (Zb d (St.told { s with tok := tok' } k q1 m.data.toList t.data.toList A c OA' oc' H' P') G') (7, 0, A, (entB q1 (k + 1) m.data.toList t.data.toList).length, c) (entB q1 (k + 1) m.data.toList t.data.toList)) := by
  obtain ⟨w1, hw1⟩ : ∃ w1, w.alloc (.cells #[.string m, .string t, .int .i64 1, .slice F 1 cf, .slice D nd cd] 149) = w1 := ⟨_, rfl⟩
  have O1 : Only (fun _ => False) w w1 := by rw [← hw1]; exact (Only.refl _ w).alloc _
  have R1 : w1.heap[w.heap.size]? = some (.cells #[.string m, .string t, .int .i64 1, .slice F 1 cf, .slice D nd cd] 149 (0, 0)) := by rw [← hw1]; exact b_new _ _
  have hZ := h.out.Zlt
  obtain ⟨g, hg⟩ : ∃ g, w.heap.size = g := ⟨_, rfl⟩
  rw [hg] at R1 hZ
  have hfr := fresh_any ((k : Int) + 1) m t (hid (h.out.same O1 (fun _ h => h.elim)))
  obtain ⟨cb, hcb⟩ : ∃ cb, d.cb = cb := ⟨_, rfl⟩
  rw [hcb] at hfr ⊢
  obtain ⟨⟨a0, a1, a2, a3, a4⟩, _⟩ := cells5 R1
  replace R1 := hid R1
  replace hfr := hid hfr
  replace hcb := hid hcb
  replace hZ := hid hZ
  have hFl : ∀ i, ab F i → i < g := fun i hi => by have := hF.lt (by simp [hostFs, fV]) i hi; omega
  replace hFl := hid hFl
  replace hF := hid hF
  replace hFz := hid hFz
  replace eH := hid eH
  replace hq := hid hq
  replace hq1 := hid hq1
  replace etok := hid etok
  go_enter Tryz.func60, Tryz.ntmps60
  go_upto_region 1 with (fail)
  clear hw1
  replace hg := hid hg
  go_wp2_with fail
  refine hfr.out.mono ?_
  rintro e w2 ⟨j, r1, r2, rfl, hjw, J2, O2⟩
  have hjg : g < j := by have := b_lt R1.out; omega
  have R2 := O2.keep R1.out (fun h => h)
  have O2' := O1.trans O2
  have hcl := closes_no F cf w2 (hF.out.same O2') (h.out.gl.same O2')
  obtain ⟨⟨b0, b1, b2, b3, b4⟩, _⟩ := cells5 R2
  have jf := b_free J2 4
  have j4 : w2.cell? ⟨j, 4, none⟩ = some (.bool false) := b_cell J2 4
  replace hcl := hid hcl
  replace R2 := hid R2
  replace J2 := hid J2
  clear a0 a1 a2 a3 a4 hfr O1
  go_wp2_with fail
  refine hcl.out.mono ?_
  rintro e w3 ⟨rfl, O3⟩
  have J3 := O3.keep J2.out (fun h => h)
  have R3 := O3.keep R2.out (fun h => h)
  have j43 : w3.cell? ⟨j, 4, none⟩ = some (.bool false) := b_cell J3 4
  have jf3 := b_free J3 4
  replace J3 := hid J3
  replace R3 := hid R3
  have O3' := O2'.trans O3
  clear b0 b1 b2 b3 b4 jf j4 J2 R2 hcl O3 O2 O2'
  go_upto_region 3 with (fail)
  have T4 : Turn w (w3.setCell ⟨j, 4, none⟩ (.bool false)) d s s G G := (Turn.quiet h.out O3').mine (g := j) ((Only.refl (· = j) w3).setCell (p := ⟨j, 4, none⟩) (.inl rfl) _) (fun hz => by have := hZ.out j hz; omega) h.out (by have := hg.out; omega)
  have J4 : JobAt (w3.setCell ⟨j, 4, none⟩ (.bool false)) j ((k : Int) + 1) m t := ⟨r1, r2, b_set J3.out 4 (.bool false)⟩
  have R4 : (w3.setCell ⟨j, 4, none⟩ (.bool false)).heap[g]? = _ := b_far R3.out (p := ⟨j, 4, none⟩) (by show g ≠ j; omega) _
  have F4 := (hF.out.same O3').keep ((Only.refl (· = j) w3).setCell (p := ⟨j, 4, none⟩) (.inl rfl) (.bool false)) (fun i hi e => by
    subst e
    have := (hFl.out i hi)
    omega)
  have hs4 : w3.heap.size = (w3.setCell ⟨j, 4, none⟩ (.bool false)).heap.size := by simp [World.setCell]
  have hjl := b_lt J3.out
  clear R3 J3 j43 jf3
  generalize w3.setCell ⟨j, 4, none⟩ (.bool false) = w4 at *
  have C4 := T4.cell
  have hho := hhost_h m t 1 F D cf nd cd w4 F4
  obtain ⟨⟨a0, a1, a2, a3, a4⟩, _⟩ := cells5 R4
  replace hho := hid hho
  replace R4 := hid R4
  replace C4 := hid C4
  replace T4 := hid T4
  replace J4 := hid J4
  go_wp2_with fail
  refine hho.out.mono ?_
  rintro e w5 ⟨rfl, O5⟩
  have T5 := T4.out.trans (Turn.quiet C4.out O5)
  have C5 := T5.cell
  have R5 := O5.keep R4.out (fun h => h)
  have J5 := J4.out.keep O5 (fun h => h)
  have hct := contains_h (hid C5)
  have c1 := C5.c1
  rw [hcb.out] at c1
  clear a0 a1 a2 a3 a4 hho R4 C4 T4 J4 F4 O5
  replace hct := hid hct
  replace C5 := hid C5
  replace T5 := hid T5
  replace R5 := hid R5
  replace J5 := hid J5
  go_wp2_with fail
  refine hct.out.mono ?_
  rintro e w6 ⟨rfl, rfl⟩
  have c14 := C5.out.c14
  have c15 := C5.out.c15
  rw [hcb.out] at c14 c15
  have hnow := now_any (w := w6.drew) (d := d) (s := s) (G := G) (hid (C5.out.same (S := fun _ => False) ((Only.refl _ w6).drew) (fun _ h => h.elim)))
  have htk := btake (w := w6.drew) (d := d) (s := s) (G := G) tok' (hid (C5.out.same (S := fun _ => False) ((Only.refl _ w6).drew) (fun _ h => h.elim))) htok etok.out
  replace hnow := hid hnow
  replace htk := hid htk
  clear c1 hct
  go_upto_region 6 with (fail)
  go_region_held3 (fun w' => w'.cell? ⟨cb, 14, none⟩ = some (.pointer (some ⟨d.bb, 0, none⟩)) ∧ w'.cell? ⟨cb, 15, none⟩ = some (.pointer (some ⟨d.kb, 0, none⟩))) (go_keep)
    (first | (go_at_call 55; refine hnow.out.mono ?_; rintro e w7 ⟨rfl, rfl⟩) | (go_at_call 105; refine htk.out.mono ?_; rintro e w8 ⟨rfl, T8⟩; have c14' := T8.out.cell.c14; have c15' := T8.out.cell.c15; rw [hcb.out] at c14' c15'))
  have T8' := T5.out.trans ((Turn.quiet C5.out ((Only.refl _ w6).drew)).trans T8.out)
  have hjz : ¬ Zb d s G j := fun hz => by have := hZ.out j hz; omega
  have hgz : ¬ Zb d s G g := fun hz => by have := hZ.out g hz; omega
  have J8 := (J5.out.keep (S := fun _ => False) ((Only.refl _ w6).drew) (fun h => h)).keep T8.out.only hjz
  have R8 := T8.out.only.keep (((Only.refl (fun _ => False) w6).drew).keep R5.out (fun h => h)) hgz
  have C8 := T8'.cell
  have c18 := C8.c18
  rw [hcb.out] at c18
  obtain ⟨⟨a0, a1, a2, a3, a4⟩, _⟩ := cells5 R8
  have j4 := J8.cells.2.2.2.2.1
  have hfl := fail_404 (w := w8.drew) (d := d) (s := { s with tok := tok' }) (G := G) j k q q1 m t H' (hid (C8.same (S := fun _ => False) ((Only.refl _ w8).drew) (fun _ h => h.elim))) (J8.keep (S := fun _ => False) ((Only.refl _ w8).drew) (fun h => h)) hjz hq.out hq1.out hqb hk hm hf hos hroom hlH eH.out
  rw [hcb.out] at hfl
  have hmt := match_nil t w8.drew
  replace hfl := hid hfl
  replace hmt := hid hmt
  replace C8 := hid C8
  replace T8' := hid T8'
  clear c14' c15' c14 c15 T8 T5 C5 R5 J5 R8 J8 hnow htk a0 a2 a3 a4
  go_wp2_with fail
  go_upto_region 8 with (fail)
  go_region_held3 (fun w' => w'.cell? ⟨cb, 18, none⟩ = some (.slice none 0 0) ∧ w'.cell? ⟨g, 1, none⟩ = some (.string t)) (go_keep)
    (first | (go_at_call 106; refine hmt.out.mono ?_; rintro e w9 ⟨rfl, rfl⟩))
  go_wp2_with fail
  refine hfl.out.mono ?_
  rintro e w9 ⟨A, c, OA', oc', P', G', rfl, T9, D9⟩
  go_wp2_with fail
  refine bodyPost_ret (results_none rfl _ _ _) rfl ?_
  exact ⟨A, c, OA', oc', P', G', rfl, hid (T8'.out.trans ((Turn.quiet C8.out ((Only.refl _ w8).drew)).trans T9.out)), D9⟩
end Go.Proofs.YtpblgjadpfecgaaGreatDoor
