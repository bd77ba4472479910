/-
  A cell: a connection goes on; a connection is taken.
-/
import Derived.Test.YtpblgjadpfecgaaGreatDoorFk
set_option linter.unusedSimpArgs false
set_option linter.unusedVariables false
namespace Go.Proofs.YtpblgjadpfecgaaGreatDoor
open Go.RowKit

/-- Requests that stand one behind the other. -/
structure Many (R : Nat → List UInt8) (m t : List UInt8) (n M : Nat) : Prop where
  zero : R 0 = []
  next : ∀ i, i < M → requestF (R (i + 1)) = ((m, t, 1), hostFs, [], n, 0)
  drop : ∀ i, i < M → (R (i + 1)).drop n = R i
  len : ∀ i, i ≤ M → (R i).length = n * i
  pos : 0 < n
  big : n * M ≤ 100000

/-- What holds when i requests of connection k have been told. -/
structure Went (w' : World) (d : CellD) (s s' : St) (G' : Nat → Prop) (R : Nat → List UInt8) (m t : List UInt8) (n M0 k q i : Nat) : Prop where
  n_ : s'.n = s.n
  m_ : s'.m = s.m
  xb : s'.xb = s.xb
  rg : s'.rg = s.rg
  M_ : s'.M = s.M
  win : s'.win = s.win
  cr : s'.cr = s.cr
  last : s'.last = s.last
  any : s'.any = s.any
  busy : s'.busy k = false
  oth : ∀ j, j ≠ k → s'.busy j = s.busy j
  inn : s'.L (2 * k) = i8 (R (M0 - i))
  out : (s'.L (2 * k + 1)).length = (s.L (2 * k + 1)).length + 45 * i
  L : ∀ j, j ≠ 2 * k → j ≠ 2 * k + 1 → s'.L j = s.L j
  H_ : s'.H = s.H + ((45 * i : Nat) : Int) - ((n * i : Nat) : Int)
  seq : s'.seq = ((q + i : Nat) : Int)
  tok : s'.tok = s.tok - i
  osl : s'.os.length = s.os.length + i
  log : ∀ r, r < i → ∃ A c, s'.os[s.os.length + r]? = some (7, 0, A, (entB (q + r + 1) (k + 1) m t).length, c) ∧ DatOk w' (Zb d s' G') (7, 0, A, (entB (q + r + 1) (k + 1) m t).length, c) (entB (q + r + 1) (k + 1) m t)

theorem Went.quiet {w1 w2 : World} {d : CellD} {s s' : St} {G1 : Nat → Prop} {R : Nat → List UInt8} {m t : List UInt8} {n M0 k q i : Nat} (h : Went w1 d s s' G1 R m t n M0 k q i) (T : Turn w1 w2 d s' s' G1 G1) : Went w2 d s s' G1 R m t n M0 k q i :=
  ⟨h.n_, h.m_, h.xb, h.rg, h.M_, h.win, h.cr, h.last, h.any, h.busy, h.oth, h.inn, h.out, h.L, h.H_, h.seq, h.tok, h.osl, fun r hr => by
    obtain ⟨A1, c1, h1, h2⟩ := h.log r hr
    exact ⟨A1, c1, h1, h2.turn T⟩⟩
/-- The request is taken out of what has come. -/
def St.next (s : St) (k n : Nat) (l : List UInt8) : St := { s with busy := Rg.upd s.busy k true, L := Rg.upd s.L (2 * k) (i8 (l.drop n)), H := s.H - n }

theorem Went.step {w1 w2 : World} {d : CellD} {s s' : St} {G1 G2 : Nat → Prop} {R : Nat → List UInt8} {m t : List UInt8} {n M0 k q i : Nat} {A : Option Addr} {c : Nat} {OA' : Option Addr} {oc' : Nat} {P' : Int} {l : List UInt8} (hl : R (M0 - i) = l) (h : Went w1 d s s' G1 R m t n M0 k q i) (hR : Many R m t n M0) (hi : i < M0)
    (T : Turn w1 w2 d s' (St.told { (s'.next k n l) with tok := s'.tok - 1 } k (q + i + 1) m t A c OA' oc' (s'.H - n + 45) P') G1 G2)
    (D : DatOk w2 (Zb d (St.told { (s'.next k n l) with tok := s'.tok - 1 } k (q + i + 1) m t A c OA' oc' (s'.H - n + 45) P') G2) (7, 0, A, (entB (q + i + 1) (k + 1) m t).length, c) (entB (q + i + 1) (k + 1) m t)) :
    Went w2 d s (St.told { (s'.next k n l) with tok := s'.tok - 1 } k (q + i + 1) m t A c OA' oc' (s'.H - n + 45) P') G2 R m t n M0 k q (i + 1) where
  n_ := h.n_
  m_ := h.m_
  xb := h.xb
  rg := h.rg
  M_ := h.M_
  win := h.win
  cr := h.cr
  last := h.last
  any := h.any
  busy := Rg.upd_at _ _ _
  oth := fun j hj => by
    show Rg.upd (Rg.upd s'.busy k true) k false j = _
    rw [Rg.upd_ne _ _ hj, Rg.upd_ne _ _ hj, h.oth j hj]
  inn := by
    show Rg.upd (Rg.upd s'.L (2 * k) _) (2 * k + 1) _ (2 * k) = _
    rw [Rg.upd_ne _ _ (by omega), Rg.upd_at]
    have := hR.drop (M0 - i - 1) (by omega)
    rw [show M0 - i - 1 + 1 = M0 - i by omega, hl] at this
    rw [this]
    rfl
  out := by
    show (Rg.upd (Rg.upd s'.L (2 * k) _) (2 * k + 1) _ (2 * k + 1)).length = _
    rw [Rg.upd_at, List.length_append, i8_len]
    show (Rg.upd s'.L (2 * k) _ (2 * k + 1)).length + 45 = _
    rw [Rg.upd_ne _ _ (by omega), h.out]
    omega
  L := fun j h0 h1 => by
    show Rg.upd (Rg.upd s'.L (2 * k) _) (2 * k + 1) _ j = _
    rw [Rg.upd_ne _ _ h1, Rg.upd_ne _ _ h0, h.L j h0 h1]
  H_ := by
    show s'.H - n + 45 = _
    rw [h.H_, Nat.mul_succ, Nat.mul_succ]
    omega
  seq := rfl
  tok := by
    show s'.tok - 1 = _
    rw [h.tok]
    omega
  osl := by
    show (s'.os ++ [_]).length = _
    rw [List.length_append, h.osl]
    rfl
  log := fun r hr => by
    rcases Nat.lt_or_ge r i with hlt | hge
    · obtain ⟨A1, c1, h1, h2⟩ := h.log r hlt
      refine ⟨A1, c1, ?_, h2.turn T⟩
      show (s'.os ++ [_])[_]? = _
      rw [List.getElem?_append_left (by rw [h.osl]; omega)]
      exact h1
    · obtain rfl : r = i := by omega
      refine ⟨A, c, ?_, D⟩
      show (s'.os ++ [_])[_]? = _
      rw [← h.osl, List.getElem?_append_right (Nat.le_refl _), Nat.sub_self]
      rfl

/-- How many bytes a ring has, in its row. -/
theorem CellIn.rlen {w : World} {d : CellD} {s : St} {G : Nat → Prop} (h : CellIn w d s G) (k : Nat) (hk : k < 2 * s.n) : w.cell? ⟨s.rg k, 2, none⟩ = some (.int .i64 ((s.L k).length : Int)) := by
  obtain ⟨F, h⟩ := h.rs.out
  obtain ⟨A, cap, ss, hR⟩ := h.ring k hk
  exact hR.cells.2.2
def lenAt (w : World) (r : Nat) : Nat := match w.cell? ⟨r, 2, none⟩ with
  | some (.int .i64 x) => x.toNat
  | _ => 0
theorem CellIn.lenAt {w : World} {d : CellD} {s : St} {G : Nat → Prop} (h : CellIn w d s G) (k : Nat) (hk : k < 2 * s.n) : lenAt w (s.rg k) = (s.L k).length := by
  unfold Go.Proofs.YtpblgjadpfecgaaGreatDoor.lenAt
  rw [h.rlen k hk]
  exact Int.toNat_natCast _

set_option maxRecDepth 100000 in
set_option maxHeartbeats 4000000 in
theorem goes_404 {w : World} {d : CellD} {s : St} {G : Nat → Prop} (R : Nat → List UInt8) (m t : ByteArray) (n M0 k q : Nat) (h : Hid (CellIn w d s G)) (hR : Many R m.data.toList t.data.toList n M0) (hk : k < s.m) (hm : s.m ≤ 4) (hM : M0 ≤ 16) (hf : Fit m t)
    (hin : s.L (2 * k) = i8 (R M0)) (hbusy : s.busy k = false) (hsum : ((n * M0 + (s.L (2 * k + 1)).length : Nat) : Int) ≤ s.H) (hroom : s.H + ((45 * M0 : Nat) : Int) ≤ s.M) (hq : s.seq = (q : Int)) (hqb : q ≤ 900000) (htok : (M0 : Int) ≤ s.tok) (hos : s.os.length ≤ 900000) :
    Calls Tryz.prog 30 #[.pointer (some ⟨d.cb, 0, none⟩), .int .i64 ((k : Int) + 1)] w fun e w' => ∃ s' G', e = .returned (.tuple #[]) ∧ Hid (Turn w w' d s s' G G') ∧ Hid (Went w' d s s' G' R m.data.toList t.data.toList n M0 k q M0) := by
  have hkn : k < s.n := Nat.lt_of_lt_of_le hk h.out.mn
  obtain ⟨cb, hcb⟩ : ∃ cb, d.cb = cb := ⟨_, rfl⟩
  rw [hcb]
  have W0 : Went w d s s G R m.data.toList t.data.toList n M0 k q 0 := ⟨rfl, rfl, rfl, rfl, rfl, rfl, rfl, rfl, rfl, hbusy, fun _ _ => rfl, by rw [Nat.sub_zero]; exact hin, by omega, fun _ _ _ => rfl, by simp, by rw [hq]; rfl, by simp, rfl, fun r hr => absurd hr (Nat.not_lt_zero r)⟩
  replace hcb := hid hcb
  replace hR := hid hR
  replace hin := hid hin
  replace hbusy := hid hbusy
  replace hq := hid hq
  replace W0 := hid W0
  replace hf := hid hf
  go_enter Tryz.func30, Tryz.ntmps30
  go_wp2_with fail
  go_loopw [] (fun wr => ∃ (i : Nat) (s' : St) (G' : Nat → Prop), i ≤ M0 ∧ Hid (Turn w wr d s s' G G') ∧ Hid (Went wr d s s' G' R m.data.toList t.data.toList n M0 k q i)) (fun wr => lenAt wr (s.rg (2 * k)))
  case atStart => exact ⟨0, s, G, Nat.zero_le _, hid (Turn.refl h.out), W0⟩
  case round =>
    obtain ⟨i, s', G', hi, T, Wt⟩ := hrel
    have C := T.out.cell
    have hkn' : k < s'.n := by rw [Wt.out.n_]; exact hkn
    have hkm' : k < s'.m := by rw [Wt.out.m_]; exact hk
    have hm' : s'.m ≤ 4 := by rw [Wt.out.m_]; exact hm
    have c9 := C.c9
    rw [hcb.out] at c9
    have hlk := C.map.look2 k hkm' (by omega)
    have hbz := Wt.out.busy
    have hL := Wt.out.inn
    by_cases hlt : i < M0
    case neg =>
      obtain rfl : i = M0 := by omega
      rw [Nat.sub_self, hR.out.zero] at hL
      have hnx := next_none k (hid C) hkn' hL hbz
      have hwt := fun (W : World) (o : Only (fun _ => False) wr W) => waits_any k (hid (C.same o (fun _ h => h.elim))) hkn' hL hbz
      generalize s'.xb k = x at hlk hnx hwt
      replace C := hid C
      replace hL := hid hL
      replace hbz := hid hbz
      replace hnx := hid hnx
      replace hwt := hid hwt
      go_wp2_with fail
      refine hnx.out.mono ?_
      rintro e w2 ⟨rfl, O2⟩
      go_wp2_with fail
      refine (hwt.out _ (O2.alloc _)).mono ?_
      rintro e w3 ⟨rfl, O3⟩
      go_wp2_with fail
      refine bodyPost_ret (results_none rfl _ _ _) rfl ?_
      have O := (O2.alloc _).trans O3
      exact ⟨s', G', rfl, hid (T.out.trans (Turn.quiet C.out O)), hid (Wt.out.quiet (Turn.quiet C.out O))⟩
    obtain ⟨l, hl⟩ : ∃ l, R (M0 - i) = l := ⟨_, rfl⟩
    have hX := hR.out.next (M0 - i - 1) (by omega)
    rw [show M0 - i - 1 + 1 = M0 - i by omega, hl] at hX
    have hlen := hR.out.len (M0 - i) (by omega)
    rw [hl] at hlen
    have hdl := hR.out.drop (M0 - i - 1) (by omega)
    rw [show M0 - i - 1 + 1 = M0 - i by omega, hl] at hdl
    have hlen2 := hR.out.len (M0 - i - 1) (by omega)
    have hpos := hR.out.pos
    have hbigR := hR.out.big
    have hsp : n * (M0 - i) = n * (M0 - i - 1) + n := by rw [← Nat.mul_succ, Nat.succ_eq_add_one, show M0 - i - 1 + 1 = M0 - i by omega]
    have hsp2 : n * M0 = n * (M0 - i) + n * i := by rw [← Nat.mul_add]; congr 1; omega
    have hH := Wt.out.H_
    have hout := Wt.out.out
    have htk' := Wt.out.tok
    have hM' := Wt.out.M_
    have hos' := Wt.out.osl
    have hsq := Wt.out.seq
    rw [hl] at hL
    have hnx := next_some k l m.data.toList t.data.toList 1 hostFs [] n l.length (hid C) hkn' hL rfl (by omega) hbz hX hpos (by omega) (by omega)
    rw [B_eta, B_eta] at hnx
    simp only [show hostFs.length = 1 from rfl, List.length_nil] at hnx
    generalize hxk : s'.xb k = x at hlk hnx
    replace hnx := hid hnx
    replace hL := hid hL
    replace hbz := hid hbz
    replace hl := hid hl
    replace hX := hid hX
    replace hxk := hid hxk
    replace hH := hid hH
    replace hout := hid hout
    replace htk' := hid htk'
    replace hM' := hid hM'
    replace hos' := hid hos'
    replace hsq := hid hsq
    replace hlen := hid hlen
    replace hlen2 := hid hlen2
    replace hdl := hid hdl
    replace hsp := hid hsp
    replace hsp2 := hid hsp2
    replace C := hid C
    go_wp2_with fail
    refine hnx.out.mono ?_
    rintro e w2 ⟨F, cf, D, cd, rfl, HF, HFb, T2⟩
    have o3 := (Only.refl (fun _ => False) w2).alloc (.cells #[.string m, .string t, .int .i64 1, .slice F 1 cf, .slice D 0 cd] 149)
    have C3 := T2.out.cell.same o3 (fun _ h => h.elim)
    have hadm := admit_404 k (q + i) (q + i + 1) m t F D cf 0 cd (s'.H - n + 45) (s'.tok - 1) (hid C3) (HF.same o3) (fun i hi hz => by
        have h1 := (HFb i hi).1
        have h2 := C.out.Zlt i hz
        omega) hsq.out rfl (by omega) hkm' hm' hf.out (by have := hos'.out; show s'.os.length ≤ 1000000; omega) (by
        have := hH.out
        have := hM'.out
        have : 45 * i + 45 ≤ 45 * M0 := by omega
        show (45 : Int) ≤ s'.M - (s'.H - n)
        omega) (by
        have h1 := hH.out
        have h2 := hout.out
        have h3 := hsp.out
        have h4 := hsp2.out
        show ((Rg.upd s'.L (2 * k) _ (2 * k + 1)).length : Int) ≤ s'.H - n
        rw [Rg.upd_ne _ _ (by omega)]
        omega) rfl (by have := htk'.out; show 1 ≤ s'.tok; omega) rfl
    rw [hcb.out] at hadm
    replace hadm := hid hadm
    replace C3 := hid C3
    replace o3 := hid o3
    clear hnx HF HFb
    go_upto_region 3 with (fail)
    go_wp2_with fail
    refine hadm.out.mono ?_
    rintro e w4 ⟨A, c, OA', oc', P', G4, rfl, T4, D4⟩
    have T24 := T2.out.trans ((Turn.quiet T2.out.cell o3.out).trans T4.out)
    have Wt4 := Wt.out.step hl.out hR.out hlt T24 D4.out
    have C4 := T24.cell
    have c10 := C4.c10
    rw [hcb.out] at c10
    have hjl := jobs_look C4.job (x := (k : Int) + 1) (by omega) (by omega)
    have hqn : ∀ W, (binOp BinOp.neq 77 (.pointer none) (.pointer none)).run Tryz.prog W = .ok (.bool false) W := fun W => by kernel_rfl
    have hm4 : lenAt w4 (s.rg (2 * k)) < lenAt wr (s.rg (2 * k)) := by
      have h1 : lenAt w4 (s'.rg (2 * k)) = (i8 (R (M0 - (i + 1)))).length := (C4.lenAt (2 * k) (by show 2 * k < 2 * s'.n; omega)).trans (congrArg List.length Wt4.inn)
      have h2 : lenAt wr (s'.rg (2 * k)) = (i8 (R (M0 - i))).length := (C.out.lenAt (2 * k) (by omega)).trans (congrArg List.length Wt.out.inn)
      rw [Wt.out.rg, i8_len] at h1 h2
      rw [h1, h2, hl.out]
      have e : M0 - (i + 1) = M0 - i - 1 := by omega
      rw [e, hlen2.out, hlen.out]
      have := hsp.out
      omega
    replace T24 := hid T24
    replace Wt4 := hid Wt4
    replace hm4 := hid hm4
    clear C4 T4 D4 hadm C3 o3 T2
    go_wp2_with fail
    go_roundw
    case rel => exact ⟨i + 1, _, G4, hlt, hid (T.out.trans T24.out), Wt4⟩
    case measure => exact hm4.out
end Go.Proofs.YtpblgjadpfecgaaGreatDoor
