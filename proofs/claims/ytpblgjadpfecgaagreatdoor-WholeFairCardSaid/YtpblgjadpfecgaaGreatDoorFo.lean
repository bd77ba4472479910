/-
  A cell: a connection is taken; its requests are told.
-/
import Derived.Test.YtpblgjadpfecgaaGreatDoorFn
set_option linter.unusedSimpArgs false
set_option linter.unusedVariables false
namespace Go.Proofs.YtpblgjadpfecgaaGreatDoor
open Go.RowKit

/-- What has been done is handed out; it lies where it lay. -/
theorem told_own {w : World} {d : CellD} {s : St} {G : Nat → Prop} (h : Hid (CellIn w d s G)) :
    Calls Tryz.prog 29 #[.pointer (some ⟨d.cb, 0, none⟩)] w fun e w' => e = .returned (.slice s.OA s.os.length s.oc) ∧ Hid (Turn w w' d s { s with OA := none, oc := 0, os := [] } G G) ∧ Own w' 0 40 6 s.OA s.os.length s.oc (oV s.os) := by
  have h1 := h.out.c26
  have hf := h.out.cf 26
  go_enter Tryz.func29, Tryz.ntmps29
  go_wp2_with fail
  go_ret
  have oo := (Only.refl (· = d.cb) w).setCell (p := ⟨d.cb, 26, none⟩) (.inl rfl) (.slice none 0 0)
  refine ⟨rfl, hid (Turn.own (seq' := s.seq) h.out oo ?_ (Own.nil _ _ _ _) (fun i hi => by obtain ⟨b, hb, _⟩ := hi; cases hb)), h.out.outs.keep oo (fun i hi e => (h.out.t7 hi).ne h.out.t1 (by decide) e)⟩
  exact b_set h.out.row 26 _

/-- What has turned when a connection has been taken and its M0 requests have been told. -/
structure Adopted (s s' : St) (win : Int) (M0 : Nat) : Prop where
  n_ : s'.n = s.n + 1
  m_ : s'.m = s.m + 1
  M_ : s'.M = s.M
  cr : s'.cr = s.cr
  any : s'.any = s.any
  last : s'.last = s.last
  os : s'.os = []
  OA : s'.OA = none
  oth : ∀ j, j < s.n → s'.busy j = s.busy j ∧ s'.win j = s.win j ∧ s'.L (2 * j) = s.L (2 * j) ∧ s'.L (2 * j + 1) = s.L (2 * j + 1)
  new : s'.busy s.n = false ∧ s'.win s.n = win ∧ s'.L (2 * s.n) = i8 [] ∧ (s'.L (2 * s.n + 1)).length = 45 * M0
  H_ : s'.H = s.H + ((45 * M0 : Nat) : Int)
  seq : s'.seq = s.seq + M0
  tok : s'.tok = s.tok - M0

set_option maxRecDepth 100000 in
set_option maxHeartbeats 4000000 in
theorem adopt_any {w : World} {d : CellD} {s : St} {G : Nat → Prop} (R : Nat → List UInt8) (m t : ByteArray) (n M0 q : Nat) (A : Option Addr) (c nb : Nat) (win : Int) (h : Hid (CellIn w d s G)) (hR : Many R m.data.toList t.data.toList n M0) (hmn : s.m = s.n) (hm : s.n < 4) (hM0 : 0 < M0) (hM : M0 ≤ 16) (hf : Fit m t)
    (hB : Bs w A nb c (R M0)) (hBz : ∀ i, ab A i → ¬ Zb d s G i ∧ i < w.heap.size) (hwin : 0 ≤ win ∧ win ≤ 1073741824) (hroom : s.H + ((n * M0 : Nat) : Int) + ((45 * M0 : Nat) : Int) ≤ s.M) (hq : s.seq = (q : Int)) (hqb : q ≤ 900000) (htok : (M0 : Int) ≤ s.tok) (hos : s.os = []) :
    Calls Tryz.prog 7 #[.pointer (some ⟨d.cb, 0, none⟩), .int .i64 ((s.n : Int) + 1), .slice A nb c, .int .i64 win] w fun e w' => ∃ s' G' OA' oc' os', e = .returned (.slice OA' M0 oc') ∧ Hid (Turn w w' d s s' G G') ∧ Hid (Adopted s s' win M0) ∧ os'.length = M0 ∧ Row w' OA' (oV os') ∧
      Hid (∀ r, r < M0 → ∃ A c, os'[r]? = some (7, 0, A, (entB (q + r + 1) (s.n + 1) m.data.toList t.data.toList).length, c) ∧ Bs w' A (entB (q + r + 1) (s.n + 1) m.data.toList t.data.toList).length c (entB (q + r + 1) (s.n + 1) m.data.toList t.data.toList)) := by
  have c8 := h.out.c8
  have hnw := connNew_any h
  obtain ⟨cb, hcb⟩ : ∃ cb, d.cb = cb := ⟨_, rfl⟩
  rw [hcb] at c8 ⊢
  obtain ⟨k, hk⟩ : ∃ k, s.n = k := ⟨_, rfl⟩
  rw [hk]
  replace hcb := hid hcb
  replace hnw := hid hnw
  replace hk := hid hk
  replace hmn := hid hmn
  replace hos := hid hos
  replace hq := hid hq
  replace hR := hid hR
  replace hf := hid hf
  replace hB := hid hB
  replace hBz := hid hBz
  go_enter Tryz.func7, Tryz.ntmps7
  go_wp2_with fail
  refine hnw.out.mono ?_
  rintro e w1 ⟨x, r1, r2, G1, rfl, T1⟩
  have C1 := T1.out.cell
  have hx : (s.more x r1 r2).xb k = x := by rw [← hk.out]; exact Rg.upd_at _ _ _
  have hwd := window_any (s := s.more x r1 r2) k win (hid C1) (by show k < s.n + 1; have := hk.out; omega) (by rw [← hk.out]; exact Rg.upd_at _ _ _) hwin.1 hwin.2
  rw [hx] at hwd
  have hB1 := hB.out.keep T1.out.only (fun i hi => (hBz.out i hi).1)
  have hz1 : ∀ i, ab A i → ¬ Zb d (s.more x r1 r2) G1 i ∧ i < w1.heap.size := fun i hi => ⟨fun hz => by
    rcases T1.out.new i hz with hz | hz
    · exact (hBz.out i hi).1 hz
    · have := (hBz.out i hi).2; omega, Nat.lt_of_lt_of_le (hBz.out i hi).2 T1.out.only.size⟩
  replace hx := hid hx
  replace hwd := hid hwd
  replace C1 := hid C1
  replace hB1 := hid hB1
  replace hz1 := hid hz1
  clear hnw c8
  go_wp2_with fail
  refine hwd.out.mono ?_
  rintro e w2 ⟨rfl, T2⟩
  have C2 := T2.out.cell
  have T12 := T1.out.trans T2.out
  have hB2 := hB1.out.keep T2.out.only (fun i hi => (hz1.out i hi).1)
  have hz2 : ∀ i, ab A i → ¬ Zb d { s.more x r1 r2 with win := Rg.upd (s.more x r1 r2).win k win } G1 i := fun i hi hz => by
    rcases T2.out.new i hz with hz | hz
    · exact (hz1.out i hi).1 hz
    · have := (hz1.out i hi).2; omega
  have hH0 := h.out.mok.h0
  have hlk : (s.more x r1 r2).L (2 * k) = [] := by
    rw [← hk.out]
    show Rg.upd (Rg.upd s.L (2 * s.n) []) (2 * s.n + 1) [] (2 * s.n) = []
    rw [Rg.upd_ne _ _ (by omega), Rg.upd_at]
  have hnb : (nb : Int) = ((n * M0 : Nat) : Int) := by rw [← hB.out.len, hR.out.len M0 (Nat.le_refl _)]
  have hfd := fun (W : World) (o : Only (fun _ => False) w2 W) => feed_any (w := W) (s := { s.more x r1 r2 with win := Rg.upd (s.more x r1 r2).win k win }) k [] (R M0) A nb c (s.H + nb) (hid (C2.same o (fun _ h => h.elim))) (by show k < s.n + 1; have := hk.out; omega) hlk (by show (nb : Int) ≤ s.M - s.H; omega) (by show ((([] : List Int).length : Nat) : Int) ≤ s.H; simp; omega) (hB2.same o) (fun i hi hg => hz2 i hi (.inl hg)) rfl
  simp only [show (St.more s x r1 r2).xb = Rg.upd s.xb s.n x from rfl] at hfd hx
  rw [hx.out] at hfd
  have c9 := C2.c9
  have c3 := C2.c3
  rw [hcb.out] at c9 c3
  have hln := fun ty => (C2.map.keep ((Only.refl (fun _ => False) w2).drew) (fun h => h)).len ty
  simp only [show (St.more s x r1 r2).m = s.m from rfl] at hln
  rw [hmn.out, hk.out] at hln
  have hk4 : (k : Int) < 4 := by have := hk.out; omega
  have hk4' : decide ((4 : Int) ≤ k) = false := decide_eq_false (by omega)
  replace hfd := hid hfd
  replace C2 := hid C2
  replace T12 := hid T12
  replace hnb := hid hnb
  replace hlk := hid hlk
  clear T1 T2 hwd C1 hB1 hz1 hB2 hz2
  go_upto_region 3 with (fail)
  go_region_held3 (fun w' => w'.cell? ⟨cb, 9, none⟩ = some (.map (some d.cm)) ∧ w'.cell? ⟨cb, 3, none⟩ = some (.int .i64 4) ∧ ∀ ty, (Builtin.len_ #[51] ty #[.map (some d.cm)]).run Tryz.prog w' = .ok (.int .i64 k) w') (go_keep)
    (first | (go_at_call 24; refine (hfd.out _ ((Only.refl _ w2).drew)).mono ?_; rintro e w3 ⟨P3, G3, rfl, T3⟩; have c9' := T3.out.cell.c9; have c3' := T3.out.cell.c3; have hln' := fun ty => T3.out.cell.map.len ty; simp only [show (St.more s x r1 r2).m = s.m from rfl] at hln'; rw [hcb.out] at c9' c3'; rw [hmn.out, hk.out] at hln'))
  have T3' := T12.out.trans ((Turn.quiet C2.out ((Only.refl _ w2).drew)).trans T3.out)
  have C3 := T3'.cell
  have HM := C3.map
  simp only [show (St.more s x r1 r2).m = s.m from rfl, show (St.more s x r1 r2).xb = Rg.upd s.xb s.n x from rfl] at HM
  rw [hmn.out, hk.out] at HM
  replace HM := hid HM
  replace T3' := hid T3'
  replace C3 := hid C3
  have hk1 : k ≤ 1000 := by omega
  clear hln c9 c3 hfd T3 T12 C2
  go_wp2_with (first | (at_mapUpdate; refine mapc_put _ rfl _ _ _ rfl d.cm k (Rg.upd s.xb k x) rfl rfl (by rw [Rg.upd_at]; rfl) HM.out hk1 ?_; intro w4 h4 o4) | fail)
  have hsm : s.m = k := hmn.out.trans hk.out
  have h4' : MapC w4 d.cm (s.m + 1) (Rg.upd s.xb s.n x) := by rw [hsm, hk.out]; exact h4.out
  have T34 := Turn.mapped C3.out (by show s.m < s.n + 1; have := hmn.out; omega) o4 h4'
  have T4 := T3'.out.trans T34
  have C4 := T4.cell
  have n2 : 2 * k ≠ 2 * s.n + 1 := by have := hk.out; omega
  have hgo := goes_404 R m t n M0 k q (hid C4) hR.out (by show k < s.m + 1; omega) (by show s.m + 1 ≤ 4; have := hk.out; omega) hM hf.out
    (by show Rg.upd _ (2 * k) ([] ++ i8 (R M0)) (2 * k) = _; rw [Rg.upd_at, List.nil_append])
    (by show Rg.upd s.busy s.n false k = false; rw [hk.out, Rg.upd_at])
    (by
      show ((n * M0 + (Rg.upd (Rg.upd (Rg.upd s.L (2 * s.n) []) (2 * s.n + 1) []) (2 * k) _ (2 * k + 1)).length : Nat) : Int) ≤ s.H + nb
      rw [Rg.upd_ne _ _ (by omega), hk.out, Rg.upd_at]
      have := hnb.out
      simp only [List.length_nil]
      omega)
    (by show s.H + nb + ((45 * M0 : Nat) : Int) ≤ s.M; have := hnb.out; omega) hq.out hqb htok (by show s.os.length ≤ 900000; rw [hos.out]; simp)
  rw [hcb.out] at hgo
  replace hgo := hid hgo
  replace T4 := hid T4
  clear C4 T34 C3 T3' HM h4 h4' o4
  go_wp2_with fail
  refine hgo.out.mono ?_
  rintro e w5 ⟨s5, G5, rfl, T5, W5⟩
  have C5 := T5.out.cell
  have htd := told_own (hid C5)
  have hol : s5.os.length = M0 := by
    have := W5.out.osl
    rw [this]
    show s.os.length + M0 = M0
    rw [hos.out]
    simp
  rw [hcb.out, hol] at htd
  replace htd := hid htd
  replace C5 := hid C5
  replace hol := hid hol
  clear hgo
  go_wp2_with fail
  refine htd.out.mono ?_
  rintro e w6 ⟨rfl, T6, O6⟩
  go_wp2_with fail
  go_ret
  refine ⟨_, G5, s5.OA, s5.oc, s5.os, rfl, hid ((T4.out.trans T5.out).trans T6.out), hid ?_, hol.out, O6.row, hid (fun r hr => ?_)⟩
  · have W := W5.out
    have hkk := hk.out
    refine ⟨W.n_, W.m_, W.M_, W.cr, W.any, W.last, rfl, rfl, fun j hj => ⟨?_, ?_, ?_, ?_⟩, ⟨?_, ?_, ?_, ?_⟩, ?_, ?_, ?_⟩
    · show s5.busy j = s.busy j
      rw [W.oth j (by omega)]
      exact Rg.upd_ne _ _ (by omega)
    · show s5.win j = s.win j
      rw [W.win]
      show Rg.upd (Rg.upd s.win s.n 0) k win j = _
      rw [Rg.upd_ne _ _ (by omega), Rg.upd_ne _ _ (by omega)]
    · show s5.L (2 * j) = s.L (2 * j)
      rw [W.L _ (by omega) (by omega)]
      show Rg.upd (Rg.upd (Rg.upd s.L (2 * s.n) []) (2 * s.n + 1) []) (2 * k) _ (2 * j) = _
      rw [Rg.upd_ne _ _ (by omega), Rg.upd_ne _ _ (by omega), Rg.upd_ne _ _ (by omega)]
    · show s5.L (2 * j + 1) = s.L (2 * j + 1)
      rw [W.L _ (by omega) (by omega)]
      show Rg.upd (Rg.upd (Rg.upd s.L (2 * s.n) []) (2 * s.n + 1) []) (2 * k) _ (2 * j + 1) = _
      rw [Rg.upd_ne _ _ (by omega), Rg.upd_ne _ _ (by omega), Rg.upd_ne _ _ (by omega)]
    · rw [hkk]; exact W.busy
    · show s5.win s.n = win
      rw [W.win, hkk]
      exact Rg.upd_at _ _ _
    · show s5.L (2 * s.n) = i8 []
      rw [hkk, W.inn, Nat.sub_self, hR.out.zero]
    · show (s5.L (2 * s.n + 1)).length = 45 * M0
      rw [hkk, W.out]
      show (Rg.upd (Rg.upd (Rg.upd s.L (2 * s.n) []) (2 * s.n + 1) []) (2 * k) _ (2 * k + 1)).length + _ = _
      rw [Rg.upd_ne _ _ (by omega), hkk, Rg.upd_at]
      simp
    · show s5.H = _
      rw [W.H_]
      show s.H + nb + ((45 * M0 : Nat) : Int) - ((n * M0 : Nat) : Int) = _
      have := hnb.out
      omega
    · show s5.seq = _
      rw [W.seq, hq.out]
      omega
    · show s5.tok = _
      exact W.tok
  · obtain ⟨A1, c1, h1, h2⟩ := W5.out.log r hr
    refine ⟨A1, c1, ?_, (h2.turn T6.out).1⟩
    rw [← h1]
    show s5.os[r]? = s5.os[s.os.length + r]?
    rw [hos.out]
    simp
end Go.Proofs.YtpblgjadpfecgaaGreatDoor
