/-
  A cell: a record is written, a request ends with own bytes.
-/
import Derived.Test.YtpblgjadpfecgaaGreatDoorFi
import Derived.Test.YtpblgjadpfecgaaGreatDoorFe
import Derived.Test.YtpblgjadpfecgaaGreatDoorFf
set_option linter.unusedSimpArgs false
set_option linter.unusedVariables false
namespace Go.Proofs.YtpblgjadpfecgaaGreatDoor
open Go.RowKit

/-- A job of which little is known. -/
def jobV (id : Int) (m t : ByteArray) (r1 r2 : Nat) : Array Value := #[.int .i64 id, .string m, .string t, .int .i64 0, .bool false, .string ⟨#[]⟩, .slice none 0 0, .pointer (some ⟨r1, 0, none⟩), .pointer (some ⟨r2, 0, none⟩), .bool false, .int .i64 0, .int .i64 0, .string ⟨#[]⟩]
def JobAt (w : World) (j : Nat) (id : Int) (m t : ByteArray) : Prop := ∃ r1 r2, w.heap[j]? = some (.cells (jobV id m t r1 r2) 147 (0, 0))
theorem JobAt.keep {S : Nat → Prop} {w w' : World} {j : Nat} {id : Int} {m t : ByteArray} (h : JobAt w j id m t) (o : Only S w w') (hs : ¬ S j) : JobAt w' j id m t := by
  obtain ⟨r1, r2, h⟩ := h
  exact ⟨r1, r2, o.keep h hs⟩
theorem JobAt.lt {w : World} {j : Nat} {id : Int} {m t : ByteArray} (h : JobAt w j id m t) : j < w.heap.size := by
  obtain ⟨r1, r2, h⟩ := h
  exact b_lt h
theorem JobAt.cells {w : World} {j : Nat} {id : Int} {m t : ByteArray} (h : JobAt w j id m t) : w.cell? ⟨j, 0, none⟩ = some (.int .i64 id) ∧ w.cell? ⟨j, 1, none⟩ = some (.string m) ∧ w.cell? ⟨j, 2, none⟩ = some (.string t) ∧ w.cell? ⟨j, 3, none⟩ = some (.int .i64 0) ∧ w.cell? ⟨j, 4, none⟩ = some (.bool false) ∧ w.cell? ⟨j, 11, none⟩ = some (.int .i64 0) := by
  obtain ⟨r1, r2, h⟩ := h
  exact ⟨b_cell h 0, b_cell h 1, b_cell h 2, b_cell h 3, b_cell h 4, b_cell h 11⟩
/-- A job's row is none of what turns. -/
theorem JobAt.ofT {w : World} {j : Nat} {id : Int} {m t : ByteArray} (h : JobAt w j id m t) : OfT w j 147 := by
  obtain ⟨r1, r2, h⟩ := h
  exact ⟨_, _, h⟩

/-- The words of a request, as a record wants them. -/
structure Fit (m t : ByteArray) : Prop where
  m : token m.data.toList = true ∧ m.size ≤ 20
  t : target t.data.toList = true ∧ t.size ≤ 512

set_option maxRecDepth 100000 in
set_option maxHeartbeats 2000000 in
theorem record_404 {w : World} {d : CellD} {s : St} {G : Nat → Prop} (j k q q1 : Nat) (m t : ByteArray) (h : Hid (CellIn w d s G)) (hj : JobAt w j ((k : Int) + 1) m t) (hjz : ¬ Zb d s G j) (hq : s.seq = q) (hq1 : q1 = q + 1) (hqb : q1 ≤ 1000000) (hk : k < 1000) (hf : Fit m t) (hos : s.os.length ≤ 1000000) :
    Calls Tryz.prog 26 #[.pointer (some ⟨d.cb, 0, none⟩), .pointer (some ⟨j, 0, none⟩), .int .i64 404, .int .i64 45] w fun e w' => ∃ A c OA' oc', e = .returned (.tuple #[]) ∧
      Hid (Turn w w' d s { s with seq := q1, OA := OA', oc := oc', os := s.os ++ [(7, 0, A, (entB q1 (k + 1) m.data.toList t.data.toList).length, c)] } G G) ∧
      Hid (DatOk w' (Zb d { s with seq := q1, OA := OA', oc := oc', os := s.os ++ [(7, 0, A, (entB q1 (k + 1) m.data.toList t.data.toList).length, c)] } G) (7, 0, A, (entB q1 (k + 1) m.data.toList t.data.toList).length, c) (entB q1 (k + 1) m.data.toList t.data.toList)) := by
  have h25 := h.out.c25
  rw [hq] at h25
  have hf25 := h.out.cf 25
  have hcl := b_lt h.out.row
  have hjl := hj.lt
  have hjne : j ≠ d.cb := fun e => hjz (.inr (.inl e))
  have T1 : Turn w (w.setCell ⟨d.cb, 25, none⟩ (.int .i64 (q1 : Int))) d s { s with seq := q1 } G G := by
    have oo := (Only.refl (· = d.cb) w).setCell (p := ⟨d.cb, 25, none⟩) (.inl rfl) (.int .i64 (q1 : Int))
    exact Turn.own (seq' := q1) (OA' := s.OA) (oc' := s.oc) (os' := s.os) h.out oo (b_set h.out.row 25 _) (h.out.outs.keep oo (fun i hi e => (h.out.t7 hi).ne h.out.t1 (by decide) e)) (fun _ h => h)
  have hj1 := hj.keep ((Only.refl (· = d.cb) w).setCell (p := ⟨d.cb, 25, none⟩) (.inl rfl) (.int .i64 (q1 : Int))) hjne
  obtain ⟨cb, hcb⟩ : ∃ cb, d.cb = cb := ⟨_, rfl⟩
  rw [hcb] at h25 hf25 hcl hjne T1 hj1 ⊢
  have e1 : IntKind.i64.wrap ((q : Int) + 1) = (q1 : Int) := by rw [IntWalk.i64_in _ (by omega)]; omega
  have hwr := fun (W : World) (hG : Gl W) => ewrite_404 q1 (k + 1) m t W (by omega) (by omega) hf.m hf.t hG
  simp only [Int.natCast_add, Int.cast_ofNat_Int] at hwr
  unfold entV at hwr
  obtain ⟨bs, hbs⟩ : ∃ bs, entB q1 (k + 1) m.data.toList t.data.toList = bs := ⟨_, rfl⟩
  rw [hbs] at hwr ⊢
  obtain ⟨nb, hnb⟩ : ∃ nb, bs.length = nb := ⟨_, rfl⟩
  rw [hnb] at hwr ⊢
  clear hbs
  replace hwr := hid hwr
  replace hnb := hid hnb
  replace T1 := hid T1
  replace hj1 := hid hj1
  replace hcb := hid hcb
  clear hj
  replace hq := hid hq
  replace hq1 := hid hq1
  go_enter Tryz.func26, Tryz.ntmps26
  go_upto_region 1 with (fail)
  generalize w.setCell ⟨cb, 25, none⟩ (.int .i64 (q1 : Int)) = w1 at T1 hj1 ⊢
  have C1 := T1.out.cell
  have c25 := C1.c25
  have c15 := C1.c15
  have hnow := fun (W : World) (o : Only (fun _ => False) w1 W) => now_any (hid (C1.same o (fun _ h => h.elim)))
  obtain ⟨j0, j1, j2, j3, j4, j10⟩ := hj1.out.cells
  have hcl1 := b_lt C1.row
  have hjl1 := hj1.out.lt
  have hG1 := C1.gl
  rw [hcb.out] at c25 c15 hcl1
  simp only at c25
  replace c25 := cell_all hcl1 _ _ c25
  replace c15 := cell_all hcl1 _ _ c15
  replace j0 := cell_all hjl1 _ _ j0
  replace j1 := cell_all hjl1 _ _ j1
  replace j2 := cell_all hjl1 _ _ j2
  replace j3 := cell_all hjl1 _ _ j3
  replace j10 := cell_all hjl1 _ _ j10
  clear j4 h25 hf25 hcl hjl e1
  have P0 := Only.refl (fun _ => False) w1
  replace C1 := hid C1
  replace hnow := hid hnow
  replace hG1 := hid hG1
  go_region_held3 (fun w' => Only (fun _ => False) w1 w') (repeat (first | assumption | refine Only.drew ?_ | refine Only.alloc ?_ _))
    (first | (go_at_call 55; refine (hnow.out _ P0.drew).mono ?_; rintro e w2 ⟨rfl, rfl⟩) | (go_at_call 54; refine (hwr.out _ (hG1.out.same P0.drew)).mono ?_; rintro e w3 ⟨A, c, rfl, HO, O3⟩; have P3 := P0.drew.trans O3))
  have T3 := T1.out.trans (Turn.quiet C1.out P3)
  have D3 : DatOk w3 (Zb d { s with seq := q1 } G) (7, 0, A, nb, c) bs := ⟨OwnB.bs' HO hnb.out, fun i hi => ⟨fun hz => by
    have h1 := (HO.blk i hi).1
    have h2 := C1.out.Zlt i hz
    have h3 : w1.drew.heap.size = w1.heap.size := rfl
    omega, (HO.blk i hi).2⟩⟩
  have hout := out_any (s := { s with seq := q1 }) 7 0 A nb c (hid T3.cell) hos
  rw [hcb.out] at hout
  simp only at hout
  replace hout := hid hout
  replace T3 := hid T3
  replace D3 := hid D3
  clear c25 c15 j0 j1 j2 j3 j10 HO O3 P3 P0 hwr hnow hG1 C1 hj1
  go_wp2_with fail
  refine hout.out.mono ?_
  rintro e w4 ⟨OA', oc', rfl, T4⟩
  go_wp2_with fail
  go_end0
  exact ⟨A, c, OA', oc', rfl, hid (T3.out.trans T4.out), hid (D3.out.turn T4.out)⟩

set_option maxRecDepth 100000 in
set_option maxHeartbeats 2000000 in
/-- A request ends: it is told 404. -/
theorem over_404 {w : World} {d : CellD} {s : St} {G : Nat → Prop} (j k q q1 : Nat) (m t : ByteArray) (B' : Option Addr) (cB : Nat) (l : List Int) (H' : Int) (h : Hid (CellIn w d s G)) (hj : JobAt w j ((k : Int) + 1) m t) (hjz : ¬ Zb d s G j) (hq : s.seq = q) (hq1 : q1 = q + 1) (hqb : q1 ≤ 1000000) (hk : k < s.m) (hm : s.m ≤ 4) (hf : Fit m t) (hos : s.os.length ≤ 1000000)
    (hl : s.L (2 * k + 1) = l) (hroom : (45 : Int) ≤ s.M - s.H) (hlH : (l.length : Int) ≤ s.H) (eH : s.H + 45 = H') (hB : Bs w B' 45 cB own404) (hBz : ∀ i, ab B' i → ¬ Zb d s G i ∧ i < w.heap.size) :
    Calls Tryz.prog 101 #[.pointer (some ⟨d.cb, 0, none⟩), .pointer (some ⟨j, 0, none⟩), .int .i64 404, .slice B' 45 cB, .bool false] w fun e w' => ∃ A c OA' oc' P' G', e = .returned (.tuple #[]) ∧
      Hid (Turn w w' d s { s with seq := q1, OA := OA', oc := oc', os := s.os ++ [(7, 0, A, (entB q1 (k + 1) m.data.toList t.data.toList).length, c)], busy := Rg.upd s.busy k false, L := Rg.upd s.L (2 * k + 1) (l ++ i8 own404), H := H', P := P' } G G') ∧
      Hid (DatOk w' (Zb d { s with seq := q1, OA := OA', oc := oc', os := s.os ++ [(7, 0, A, (entB q1 (k + 1) m.data.toList t.data.toList).length, c)], busy := Rg.upd s.busy k false, L := Rg.upd s.L (2 * k + 1) (l ++ i8 own404), H := H', P := P' } G') (7, 0, A, (entB q1 (k + 1) m.data.toList t.data.toList).length, c) (entB q1 (k + 1) m.data.toList t.data.toList)) := by
  have hkn : k < s.n := Nat.lt_of_lt_of_le hk h.out.mn
  have hfg := forget_any j ((k : Int) + 1) h hj.cells.1 (by omega) (by omega)
  have hjl := hj.lt
  have hjl0 := hjl
  obtain ⟨cb, hcb⟩ : ∃ cb, d.cb = cb := ⟨_, rfl⟩
  rw [hcb] at hfg ⊢
  obtain ⟨bs, hbs⟩ : ∃ bs, entB q1 (k + 1) m.data.toList t.data.toList = bs := ⟨_, rfl⟩
  rw [hbs]
  replace hbs := hid hbs
  replace hfg := hid hfg
  replace hcb := hid hcb
  replace hq := hid hq
  replace hq1 := hid hq1
  replace hl := hid hl
  replace eH := hid eH
  go_enter Tryz.func101, Tryz.ntmps101
  go_wp2_with fail
  refine hfg.out.mono ?_
  rintro e w1 ⟨rfl, O1⟩
  have C1 := h.out.same O1 (fun _ h => h.elim)
  have T1 := Turn.quiet h.out O1
  have hj1 := hj.keep O1 (fun h => h)
  have hB1 := hB.same O1
  have hrec := record_404 j k q q1 m t (hid C1) hj1 hjz hq.out hq1.out hqb (by omega) hf hos
  rw [hcb.out] at hrec
  rw [hbs.out] at hrec
  clear hfg hj
  replace hrec := hid hrec
  replace hj1 := hid hj1
  replace hB1 := hid hB1
  replace T1 := hid T1
  replace C1 := hid C1
  replace hB := hid hB
  replace hBz := hid hBz
  go_wp2_with fail
  refine hrec.out.mono ?_
  rintro e w2 ⟨A, c, OA', oc', rfl, T2, D2⟩
  have hB2 := hB1.out.keep T2.out.only (fun i hi => (hBz.out i hi).1)
  have hj2 := hj1.out.keep T2.out.only hjz
  have C2 := T2.out.cell
  have hnz : ∀ i, ab B' i → ¬ Zb d { s with seq := q1, OA := OA', oc := oc', os := s.os ++ [(7, 0, A, bs.length, c)] } G i := fun i hi hz => by
    rcases T2.out.new i hz with hz | hz
    · exact (hBz.out i hi).1 hz
    · have := (hBz.out i hi).2; have := O1.size; omega
  have hsay := fun (W : World) (o : Only (fun _ => False) w2 W) => say_any (w := W) (s := { s with seq := q1, OA := OA', oc := oc', os := s.os ++ [(7, 0, A, bs.length, c)] }) k l own404 B' 45 cB H' (hid (C2.same o (fun _ h => h.elim))) hkn hl.out hroom hlH (hB2.same o) hnz eH.out
  have hlk := fun (W : World) (o : Only (fun _ => False) w2 W) => (C2.map.keep o (fun h => h)).look k hk (by show s.m ≤ 1000; omega)
  obtain ⟨j0, _⟩ := hj2.cells
  have c9 := C2.c9
  have hcl2 := b_lt C2.row
  have hjl2 := hj2.lt
  rw [hcb.out] at c9 hcl2
  simp only at hsay hlk
  have hlk1 := hlk w2.drew ((Only.refl _ w2).drew)
  generalize hxk : s.xb k = x at hsay hlk hlk1
  clear hrec hj1 hB1 hcl2 hjl hlk hxk
  replace hsay := hid hsay
  replace C2 := hid C2
  replace hB2 := hid hB2
  replace hnz := hid hnz
  have hjd := hid (hj2.keep (S := fun _ => False) ((Only.refl _ w2).drew) (fun h => h))
  clear hj2
  have hjz2 : Hid (¬ Zb d { s with seq := q1, OA := OA', oc := oc', os := s.os ++ [(7, 0, A, bs.length, c)] } G j) := hid (fun hz => by
    rcases T2.out.new j hz with hz | hz
    · exact hjz hz
    · have := hjl0; have := O1.size; omega)
  go_upto_region 2 with (fail)
  go_region_held3 (fun w' => w'.cell? ⟨cb, 9, none⟩ = some (.map (some d.cm)) ∧ w'.cell? ⟨j, 0, none⟩ = some (.int .i64 ((k : Int) + 1))) (go_keep)
    (first | (go_at_call 158; refine (hsay.out _ ((Only.refl _ w2).drew)).mono ?_; rintro e w3 ⟨P', G', rfl, T3⟩; have c9' := T3.out.cell.c9; rw [hcb.out] at c9'; have j0' := (hjd.out.keep T3.out.only hjz2.out).cells.1))
  have T23 := T2.out.trans ((Turn.quiet C2.out ((Only.refl _ w2).drew)).trans T3.out)
  have D3 := (D2.out.turn ((Turn.quiet C2.out ((Only.refl _ w2).drew)).trans T3.out))
  replace T23 := hid T23
  replace D3 := hid D3
  clear hsay hB2 hnz hlk1 c9 j0
  go_wp2_with fail
  go_end0
  exact ⟨A, c, OA', oc', P', G', rfl, hid (T1.out.trans T23.out), D3⟩
end Go.Proofs.YtpblgjadpfecgaaGreatDoor
