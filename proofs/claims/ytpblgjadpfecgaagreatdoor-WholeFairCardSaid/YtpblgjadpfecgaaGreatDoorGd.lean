/-
  WholeFair, plain: connections that are taken; rounds.
-/
import Derived.Test.YtpblgjadpfecgaaGreatDoorGc
set_option linter.unusedSimpArgs false
set_option linter.unusedVariables false
namespace Go.Proofs.YtpblgjadpfecgaaGreatDoor
open Go.RowKit Go.Maps

/-- i connections have been taken; all their requests, sum of them, have been told. -/
structure Ad (s : St) (i sum : Nat) : Prop where
  n_ : s.n = i
  op : Opens s
  os : s.os = []
  M_ : s.M = 60256
  cr : s.cr = 0
  seq : s.seq = (sum : Int)
  tok : s.tok = 64 - (sum : Int)
  le : sum ≤ 16 * i
  tots : tot (fsOf i (wt s)) = 45 * sum
theorem Ad.start : Ad (s0 60256 64) 0 0 := ⟨rfl, ⟨rfl, by decide, fun k hk => absurd hk (Nat.not_lt_zero k), rfl, by decide⟩, rfl, rfl, rfl, rfl, rfl, by decide, rfl⟩
theorem Ad.step {s s' : St} {i sum M0 : Nat} (h : Ad s i sum) (a : Adopted s s' 1073741824 M0) (h1 : M0 ≤ 16) (hi : i < 4) : Ad s' (i + 1) (sum + M0) := by
  have hn := h.n_
  have e1 : ∀ k, k < i → wt s' k = wt s k := fun k hk => by
    show (s'.L (2 * k + 1)).length = (s.L (2 * k + 1)).length
    rw [(a.oth k (by omega)).2.2.2]
  have e2 : wt s' i = 45 * M0 := by
    show (s'.L (2 * i + 1)).length = _
    have := a.new.2.2.2
    rw [hn] at this
    exact this
  have ht : tot (fsOf (i + 1) (wt s')) = 45 * (sum + M0) := by
    rw [fsOf_succ, tot_app, tot_fsOf_ext (wt s) (wt s') i e1, h.tots, e2]
    simp only [tot]
    omega
  have hle := h.le
  refine ⟨by rw [a.n_, hn], ⟨by rw [a.m_, a.n_, h.op.mn], by rw [a.n_]; omega, fun k hk => ?_, ?_, ?_⟩, a.os, by rw [a.M_]; exact h.M_, by rw [a.cr]; exact h.cr, by rw [a.seq, h.seq]; omega, by rw [a.tok, h.tok]; omega, by omega, ht⟩
  · rw [a.n_, hn] at hk
    by_cases e : k = i
    · subst e
      have := a.new.2.1
      rw [hn] at this
      rw [e2, this]
      omega
    · rw [e1 k (by omega), (a.oth k (by omega)).2.1]
      exact h.op.len k (by omega)
  · rw [a.n_, hn, ht, a.H_, h.op.sum, hn, h.tots]
    omega
  · rw [a.n_, hn, ht]
    omega

/-- Rounds have been: what is written in all, and the credit. -/
structure Rn (s : St) (q k total : Nat) : Prop where
  op : Opens s
  os : s.os = []
  cr : ∃ c : Nat, s.cr = c ∧ c < 64 ∧ total + c = k * q
theorem Ad.rounds {s : St} {i sum : Nat} (h : Ad s i sum) (q : Nat) : Rn s q 0 0 := ⟨h.op, h.os, 0, h.cr, by decide, by simp⟩
/-- A round: what is written, what is left. -/
theorem Rn.step {s s' : St} {q k total cr : Nat} {gs : List (Nat × Nat)} (h : Rn s q k total) (hc : s.cr = (cr : Int)) (r : Rounded s s' q cr gs) :
    tot gs < q + 64 ∧ s'.H = s.H - (tot gs : Nat) ∧ (s'.H ≠ 0 → Rn s' q (k + 1) (total + tot gs) ∧ k * q + q < total + tot gs + 64) := by
  obtain ⟨c, hc', hlt, hsum⟩ := h.cr
  obtain rfl : c = cr := by rw [hc] at hc'; omega
  obtain ⟨cr', h1, G⟩ := r.cr
  have ht := r.tots
  have hs := h.op.sum
  have hs' := r.op.sum
  rw [r.n_] at hs'
  have hf := G.fin
  refine ⟨by omega, by omega, fun hne => ?_⟩
  have hb : tot gs + cr' = c + q ∧ cr' < 64 := by
    rcases hf with ⟨e, _⟩ | ⟨_, e1, e2⟩
    · exfalso; apply hne; omega
    · exact ⟨e2, e1⟩
  have he : (k + 1) * q = k * q + q := Nat.succ_mul k q
  exact ⟨⟨r.op, r.os, cr', h1, hb.2, by omega⟩, by omega⟩
end Go.Proofs.YtpblgjadpfecgaaGreatDoor
/-
  WholeFair: the walk.
-/
namespace Go.Proofs.YtpblgjadpfecgaaGreatDoor
open Go.RowKit Go.Maps

theorem reqs_app : ∀ m, reqs m ++ reqB = reqs (m + 1)
  | 0 => by simp [reqs]
  | m + 1 => by
    show (reqB ++ reqs m) ++ reqB = reqB ++ reqs (m + 1)
    rw [List.append_assoc, reqs_app m]
def mGET : ByteArray := ⟨#[71, 69, 84]⟩
def tNone : ByteArray := ⟨#[47, 110, 111, 110, 101]⟩
theorem fit_none : Fit mGET tNone := ⟨⟨by decide +kernel, by decide⟩, ⟨by decide +kernel, by decide⟩⟩
theorem many_reqs (M0 : Nat) (h : M0 ≤ 16) : Many reqs mGET.data.toList tNone.data.toList 31 M0 :=
  ⟨rfl, fun i hi => by rw [reqs_first i (by omega)]; rfl, fun i _ => reqs_drop i, fun i _ => reqs_len i, by decide, by omega⟩
theorem Elems.turned {S : Nat → Prop} {w w' : World} {A : Option Addr} {n : Nat} {V : Nat → Value} (h : Elems w A n V) (o : Only S w w') (hz : ∀ b, ab A b → ¬ S b ∨ n = 0) : Elems w' A n V := by
  intro hn
  obtain ⟨b, off, e, hl, hc⟩ := h hn
  refine ⟨b, off, e, Nat.lt_of_lt_of_le hl o.size, fun j hj => ?_⟩
  have hb : ¬ S b := (hz b ⟨_, e, rfl⟩).resolve_right (by omega)
  exact (o.cell (p := ⟨b, off + j, none⟩) hl hb).trans (hc j hj)
def reqS : ByteArray := ⟨#[71, 69, 84, 32, 47, 110, 111, 110, 101, 32, 72, 84, 84, 80, 47, 49, 46, 49, 13, 10, 72, 111, 115, 116, 58, 32, 104, 13, 10, 13, 10]⟩
def Lv1 (w2 : World) (d : CellD) (G : Nat → Prop) (n : Nat) (iv : Value) (wr : World) : Prop :=
  ∃ (i sum : Nat) (si : St) (Gi : Nat → Prop), i ≤ n ∧ iv = .int .i64 (i : Int) ∧ Hid (Turn w2 wr d (s0 60256 64) si G Gi) ∧ Hid (Ad si i sum)
def Lv2 (wr : World) (M0 : Nat) (bv kv : Value) (wq : World) : Prop :=
  ∃ (k : Nat) (B : Option Addr) (bc : Nat), k ≤ M0 ∧ bv = .slice B (31 * k) bc ∧ kv = .int .i64 (k : Int) ∧ Hid (OwnB wq wr.heap.size B bc (reqs k)) ∧ Hid (Only (fun _ => False) wr wq)
def Lv3 (w2 : World) (d : CellD) (G : Nat → Prop) (q R : Nat) (tv kv : Value) (wr : World) : Prop :=
  ∃ (k total : Nat) (sk : St) (Gk : Nat → Prop), k ≤ R ∧ total ≤ k * q ∧ tv = .int .i64 (total : Int) ∧ kv = .int .i64 ((k : Int) + 1) ∧ Hid (Turn w2 wr d (s0 60256 64) sk G Gk) ∧ Hid (Rn sk q k total)

set_option maxRecDepth 100000 in
set_option maxHeartbeats 8000000 in
theorem fair_walk (hs : ∀ W, Gl W → Calls Tryz.prog 4 #[] W fun e w' => e = .returned (.bool true) ∧ Only (fun _ => False) W w') (x r : Int) (A : Option Addr) (n c : Nat) (f : Nat → Int) (w : World) (hG : Gl w) (hA : Elems w A n (fun i => .int .i64 (f i))) (hn : n ≤ 9223372036854775807) :
    Calls Tryz.prog 3 #[.int .i64 x, .slice A n c, .int .i64 r] w fun e w' => e = .returned (.bool true) ∧ Only (fun _ => False) w w' := by
  replace hA := hid hA
  replace hG := hid hG
  replace hs := hid hs
  go_enter Tryz.func3, Tryz.ntmps3
  go_wp2_with fail
  refine (hs.out w hG.out).mono ?_
  rintro e w1 ⟨rfl, O1⟩
  by_cases hn4 : 4 < n
  · have hn4' : (4 : Int) < n := by omega
    go_wp2_with fail
    go_ret
    exact ⟨rfl, O1⟩
  have hn4' : ¬ (4 : Int) < n := by omega
  obtain ⟨q, hq⟩ : ∃ q : Nat, 1 + x % 1024 = (q : Int) := ⟨(1 + x % 1024).toNat, by omega⟩
  have hq1 : 1 ≤ q ∧ q ≤ 1024 := by omega
  have hsl := fun (W : World) => slotOf_any W 60000 x 63 60256 64 q (by decide) (by decide) hq
  replace hsl := hid hsl
  replace hq := hid hq
  go_wp2_with fail
  refine (hsl.out _).mono ?_
  rintro e w2 ⟨rfl, hH2, O2⟩
  unfold slotV
  go_upto_region 6 with (fail)
  have hg2 := b_new w2 (.cells #[.string sT, .slice (some ⟨w1.heap.size + 1, 0, none⟩) 1 1, .int .i64 60256, .int .i64 4, .int .i64 4, .int .i64 3, .int .i64 64, .int .i64 (q : Int)] 26)
  have O3 := ((O1.trans O2).alloc (.cells #[.string sT, .slice (some ⟨w1.heap.size + 1, 0, none⟩) 1 1, .int .i64 60256, .int .i64 4, .int .i64 4, .int .i64 3, .int .i64 64, .int .i64 (q : Int)] 26))
  have hH3 := b_alloc hH2 (.cells #[.string sT, .slice (some ⟨w1.heap.size + 1, 0, none⟩) 1 1, .int .i64 60256, .int .i64 4, .int .i64 4, .int .i64 3, .int .i64 64, .int .i64 (q : Int)] 26)
  have hgl := b_lt hg2
  obtain ⟨g, hg⟩ : ∃ g, w2.heap.size = g := ⟨_, rfl⟩
  obtain ⟨hk, hhk⟩ : ∃ hk, w1.heap.size + 1 = hk := ⟨_, rfl⟩
  have hgw : w.heap.size ≤ g := by have := (O1.trans O2).size; omega
  rw [hhk] at hg2 hH3 O3 hgl ⊢
  rw [hg] at hg2 hgl ⊢
  generalize w2.alloc (.cells #[.string sT, .slice (some ⟨hk, 0, none⟩) 1 1, .int .i64 60256, .int .i64 4, .int .i64 4, .int .i64 3, .int .i64 64, .int .i64 (q : Int)] 26) = w3 at hg2 O3 hH3 hgl ⊢
  generalize decide ((4 : Int) < n) = bz
  have hnw := cellNew_any w3 hk 1 60256 64 q (row_of (l := sV [[104]]) hH3) (by decide) (by decide) (by omega) (hG.out.same O3)
  obtain ⟨u0, u1, u2, u3, u4, u5, u6, u7⟩ : w3.cell? ⟨g, 0, none⟩ = some (.string sT) ∧ w3.cell? ⟨g, 1, none⟩ = some (.slice (some ⟨hk, 0, none⟩) 1 1) ∧ w3.cell? ⟨g, 2, none⟩ = some (.int .i64 60256) ∧ w3.cell? ⟨g, 3, none⟩ = some (.int .i64 4) ∧ w3.cell? ⟨g, 4, none⟩ = some (.int .i64 4) ∧ w3.cell? ⟨g, 5, none⟩ = some (.int .i64 3) ∧ w3.cell? ⟨g, 6, none⟩ = some (.int .i64 64) ∧ w3.cell? ⟨g, 7, none⟩ = some (.int .i64 (q : Int)) := ⟨b_cell hg2 0, b_cell hg2 1, b_cell hg2 2, b_cell hg2 3, b_cell hg2 4, b_cell hg2 5, b_cell hg2 6, b_cell hg2 7⟩
  replace hnw := hid hnw
  replace hg2 := hid hg2
  replace O3 := hid O3
  clear hg hhk hH2 hH3 O1 O2 hsl hs
  go_wp2_with fail
  refine hnw.out.mono ?_
  rintro e w4 ⟨d, rfl, C4, ⟨_, _, hdq⟩, hZ, O4⟩
  have hg4 := O4.keep hg2.out (fun h => h)
  have O34 := O3.out.trans O4
  have hZw := hid (show ∀ i, Zb d (s0 60256 64) (· = d.mb) i → w.heap.size ≤ i from fun i hi => by have := hZ.out i hi; have := O3.out.size; omega)
  have hgz : ¬ Zb d (s0 60256 64) (· = d.mb) g := fun hz => by have := hZ.out g hz; omega
  have hA4 : Elems w4 A n (fun i => .int .i64 (f i)) := hA.out.below (Only.to_below O34 (fun _ h => h.elim))
  have hAz : ∀ b, ab A b → ¬ Zb d (s0 60256 64) (· = d.mb) b ∨ n = 0 := fun b hb => by
    rcases Nat.eq_zero_or_pos n with h0 | h0
    · exact .inr h0
    · obtain ⟨b', off, e, hl, _⟩ := hA.out h0
      obtain ⟨b'', e', rfl⟩ := hb
      rw [e] at e'
      cases e'
      exact .inl (fun hz => by have h1 : w3.heap.size ≤ b' := hZ.out _ hz; have := O3.out.size; omega)
  replace hg4 := hid hg4
  replace O34 := hid O34
  replace hA4 := hid hA4
  replace hAz := hid hAz
  replace hgz := hid hgz
  replace hdq := hid hdq
  clear u0 u1 u2 u3 u4 u5 u6 u7 hnw hg2 O3 O4
  generalize hcb : d.cb = cb
  replace hcb := hid hcb
  go_wp2_with fail
  go_loopw [28] (fun iv wr => Lv1 w4 d (· = d.mb) n iv wr) (fun iv _ => n - (intOf iv).toNat)
  case atStart => exact ⟨0, 0, _, _, Nat.zero_le _, rfl, hid (Turn.refl C4.out), hid Ad.start⟩
  case round =>
    unfold Lv1 at hrel
    obtain ⟨i, sum, si, Gi, hi, rfl, Ti, Ai⟩ := hrel
    obtain ⟨wo, rfl⟩ : ∃ wo, wo = wr := ⟨_, rfl⟩
    by_cases hlt : i < n
    · have hlt' : (i : Int) < n := by omega
      obtain ⟨m0, hm0⟩ : ∃ m0 : Nat, f i % 16 = (m0 : Int) := ⟨(f i % 16).toNat, by omega⟩
      have hm16 : m0 < 16 := by omega
      obtain ⟨ib, ioff, rfl, hic⟩ := (hA4.out.turned Ti.out.only hAz.out).at_ i hlt
      have hha := b_new wo (.cells #[] 5)
      replace hha := hid hha
      go_wp2_with fail
      have hO0 : OwnB (wo.alloc (.cells #[] 5)) wo.heap.size (some ⟨wo.heap.size, 0, none⟩) 0 (reqs 0) := ⟨rfl, .inr ⟨wo.heap.size, #[], (0, 0), rfl, Nat.le_refl _, hha.out, .inr rfl, Nat.le_refl _, by simp [maxLen], rfl, rfl⟩⟩
      go_loopw [11, 12] (fun bv kv wq => Lv2 wo (m0 + 1) bv kv wq) (fun _ kv _ => m0 + 1 - (intOf kv).toNat)
      case atStart => exact ⟨0, _, 0, Nat.zero_le _, rfl, rfl, hid hO0, hid ((Only.refl _ wo).alloc _)⟩
      case round =>
        unfold Lv2 at hrel
        obtain ⟨k, B, bc, hk, rfl, rfl, HB, OB⟩ := hrel
        by_cases hlk : k ≤ m0
        · have hlk' : (k : Int) ≤ m0 := by omega
          have hbs := OB.out.size
          go_wp2_with (first | (at_builtin; refine app_bs rfl _ _ rfl wo.heap.size (31 * k) bc B (reqs k) reqS (reqs_len k) rfl rfl HB.out hbs (by show 31 * k + 31 ≤ _; omega) ?_; intro B' bc' w5 h5 h5' o5) | fail)
          go_roundw
          case rel => exact ⟨k + 1, B', bc', by omega, rfl, rfl, hid (by rw [← reqs_app]; exact h5.out), hid (OB.out.trans' o5 (fun j hj => .inr (HB.out.blk j hj).1))⟩
          case measure => simp [intOf]; omega
        · obtain rfl : k = m0 + 1 := by omega
          have hlk' : ¬ ((m0 : Int) + 1 ≤ m0) := by omega
          have Tw := Ti.out.trans (Turn.quiet Ti.out.cell OB.out)
          have hin : ((i : Int) + 1) = ((si.n : Int) + 1) := by rw [Ai.out.n_]
          have hMM := Tw.cell.rs.out.okM
          have hado := adopt_any reqs mGET tNone 31 (m0 + 1) sum B bc (31 * (m0 + 1)) 1073741824 (hid Tw.cell) (many_reqs _ (by omega)) Ai.out.op.mn (by rw [Ai.out.n_]; omega) (by omega) (by omega) fit_none (OwnB.bs' HB.out (reqs_len _)) (fun j hj => ⟨fun hz => by have h1 := (HB.out.blk j hj).1; have h2 := Ti.out.cell.Zlt j hz; omega, (HB.out.blk j hj).2⟩) (by omega) (by
            have h1 := Ai.out.op.sum
            have h2 := Ai.out.tots
            have h3 := Ai.out.le
            rw [Ai.out.n_, h2] at h1
            rw [h1, Ai.out.M_]
            omega) Ai.out.seq (by have := Ai.out.le; omega) (by rw [Ai.out.tok]; have := Ai.out.le; omega) Ai.out.os
          rw [← hin, hcb.out] at hado
          replace hado := hid hado
          replace Tw := hid Tw
          replace hin := hid hin
          clear hMM
          go_wp2_with fail
          refine hado.out.mono ?_
          rintro e w6 ⟨s6, G6, OA, oc, os, rfl, T6, A6, _, _, _⟩
          have T7 := hid (Tw.out.trans T6.out)
          have A7 := hid (Ai.out.step A6.out (by omega) (by omega))
          clear T6 A6 hado Tw
          go_wp2_with fail
          go_roundw
          case rel => exact ⟨i + 1, _, s6, G6, by omega, rfl, T7, A7⟩
          case measure => simp [intOf]; omega
    · obtain rfl : i = n := by omega
      obtain ⟨R, hR⟩ : ∃ R : Nat, r % 128 = (R : Int) := ⟨(r % 128).toNat, by omega⟩
      have hR128 : R < 128 := by omega
      have R0 := Ai.out.rounds q
      replace R0 := hid R0
      go_wp2_with fail
      go_loopw [13, 14] (fun tv kv wr => Lv3 w4 d (· = d.mb) q R tv kv wr) (fun _ kv _ => R + 1 - (intOf kv).toNat)
      case atStart => exact ⟨0, 0, si, Gi, Nat.zero_le _, Nat.zero_le _, rfl, rfl, Ti, R0⟩
      case round =>
        unfold Lv3 at hrel
        obtain ⟨k, total, sk, Gk, hk, htq, rfl, rfl, Tk, Rk⟩ := hrel
        obtain ⟨wk, rfl⟩ : ∃ wk, wk = wr := ⟨_, rfl⟩
        by_cases hlt : k < R
        · have hlt' : (k : Int) + 1 ≤ R := by omega
          obtain ⟨cr, hcr, hcrb, hsum⟩ := Rk.out.cr
          have hd := heldc_any (hid Tk.out.cell)
          have hdo := do_any q cr (hid Tk.out.cell) Rk.out.op Rk.out.os hdq.out (by omega) hcr hcrb
          have hsm := Rk.out.op.small
          have hsH := Rk.out.op.sum
          have hkq : k * q ≤ 127 * 1024 := Nat.mul_le_mul (by omega) hq1.2
          obtain ⟨p, hp⟩ : ∃ p : Nat, k * q + q = p := ⟨_, rfl⟩
          have hp2 : p ≤ 1000000 := by omega
          have hmul : ((k : Int) + 1) * (q : Int) = (p : Int) := by
            rw [← hp]
            simp [Int.add_mul]
          have htot : total ≤ 1000000 := by omega
          unfold evRound at hdo
          obtain ⟨Hk, hHk⟩ : ∃ Hk, sk.H = Hk := ⟨_, rfl⟩
          have hHb : 0 ≤ Hk ∧ Hk ≤ 1000000 := by omega
          rw [hcb.out] at hd hdo
          rw [hHk] at hd
          replace hd := hid hd
          replace hdo := hid hdo
          replace hcr := hid hcr
          replace hsum := hid hsum
          replace hsH := hid hsH
          replace hHk := hid hHk
          replace hp := hid hp
          go_wp2_with fail
          refine hd.out.mono ?_
          rintro e w5 ⟨rfl, rfl⟩
          clear hd
          go_wp2_with fail
          refine hdo.out.mono ?_
          rintro e w6 ⟨s6, G6, gs, OA, oc, os, rfl, T6, R6, HR, HW⟩
          obtain ⟨hstep1, hstep2, hstep3⟩ := Rk.out.step hcr.out R6.out
          have hts := R6.out.tots
          have hgt : tot gs ≤ 1000000 := by omega
          obtain ⟨cr', hcr'1, hGr⟩ := R6.out.cr
          have hgl := len_tot gs (fun g hg => (hGr.each g hg).1)
          have hwr := written_any gs os OA oc w6 HR HW hgt (by omega)
          obtain ⟨tg, htg⟩ : ∃ tg, tot gs = tg := ⟨_, rfl⟩
          rw [htg] at hwr hstep1 hstep2 hstep3 hgt hts
          replace hwr := hid hwr
          replace hstep2 := hid hstep2
          replace hstep3 := hid hstep3
          clear hdo hcr'1 hGr hgl htg hts
          go_wp2_with fail
          refine hwr.out.mono ?_
          rintro e w7 ⟨rfl, O7⟩
          have T7 := (Tk.out.trans T6.out).trans (Turn.quiet T6.out.cell O7)
          have hg7 := T7.only.keep hg4.out hgz.out
          have q7 := b_cell hg7 7
          have hd7 := heldc_any (hid T7.cell)
          obtain ⟨H6, hH6⟩ : ∃ H6, s6.H = H6 := ⟨_, rfl⟩
          rw [hH6, hcb.out] at hd7
          have e6 : Hk - (tg : Int) = H6 := by have := hstep2.out; have := hHk.out; omega
          have h6b : 0 ≤ H6 ∧ H6 ≤ 1000000 := by
            have h1 := R6.out.op.sum
            have h2 := R6.out.op.small
            omega
          have hnq : ¬ ((q : Int) + 64 ≤ tg) := by omega
          replace T7 := hid T7
          replace hg7 := hid hg7
          replace hd7 := hid hd7
          replace hH6 := hid hH6
          clear hwr
          by_cases hz : H6 = 0
          · subst hz
            go_wp2_with (first | (go_at_call 8; refine hd7.out.mono ?_; rintro e w8 ⟨rfl, rfl⟩) | fail)
            go_ret
            refine ⟨rfl, O34.out.trans' T7.out.only (fun j hj => .inr (by have := hZw.out j hj; omega))⟩
          · obtain ⟨hR7, hbd⟩ := hstep3.out (by rw [hH6.out]; exact hz)
            have hbd' : ¬ ((total : Int) + tg < (p : Int) - 64) := by have := hp.out; omega
            have hzb : (H6 == 0) = false := by rw [beq_eq_false_iff_ne]; exact hz
            replace hR7 := hid hR7
            replace hz := hid hz
            clear hbd hstep3
            go_wp2_with (first | (go_at_call 8; refine hd7.out.mono ?_; rintro e w8 ⟨rfl, rfl⟩) | fail)
            go_roundw
            case rel => exact ⟨k + 1, total + tg, s6, G6, by omega, (by have := hR7.out.cr; obtain ⟨c7, _, _, h7⟩ := this; omega), rfl, rfl, T7, hR7⟩
            case measure => simp [intOf]; omega
        · obtain rfl : k = R := by omega
          have hlt' : ¬ ((k : Int) + 1 ≤ k) := by omega
          go_wp2_with fail
          go_ret
          exact ⟨rfl, O34.out.trans' Tk.out.only (fun j hj => .inr (by have := hZw.out j hj; omega))⟩
end Go.Proofs.YtpblgjadpfecgaaGreatDoor
