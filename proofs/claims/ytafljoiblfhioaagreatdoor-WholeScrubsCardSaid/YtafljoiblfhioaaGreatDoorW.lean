/-
  The reader of the package chunk: line, size.
-/
import Derived.Test.YtafljoiblfhioaaGreatDoorU
import Derived.BigQuiet
namespace Go.Proofs.YtafljoiblfhioaaGreatDoor
open Go.RowKit

theorem cutGo_le (most : Nat) (whole : List UInt8) : ∀ (l : List UInt8) (i : Nat), (cutGo most whole i l).2.1 ≤ i + l.length ∧ ((cutGo most whole i l).2.1 ≠ 0 → i + 2 ≤ (cutGo most whole i l).2.1) ∧ (cutGo most whole i l).1.length ≤ whole.length ∧ ((cutGo most whole i l).2.1 ≠ 0 → (cutGo most whole i l).2.2 = 0) ∧ 0 ≤ (cutGo most whole i l).2.2 ∧ (cutGo most whole i l).2.2 ≤ 20
  | [], i => by rw [cutGo_nil]; simp
  | c :: t, i => by
    rw [cutGo_cons]
    split
    · simp
    · split
      · cases t with
        | nil => simp
        | cons d t =>
          simp only []
          split
          · refine ⟨?_, fun _ => Nat.le_refl _, ?_, fun _ => rfl, by simp, by simp⟩
            · simp only [List.length_cons]; omega
            · simp only [List.length_take]; omega
          · simp
      · split
        · simp
        · obtain ⟨h1, h2, h3, h4⟩ := cutGo_le most whole t (i + 1)
          refine ⟨by simp only [List.length_cons]; omega, fun h => by have := h2 h; omega, h3, h4⟩
theorem cutF_le (l : List UInt8) (most : Nat) : (cutF l most).2.1 ≤ l.length ∧ ((cutF l most).2.1 ≠ 0 → 2 ≤ (cutF l most).2.1) ∧ (cutF l most).1.length ≤ l.length ∧ ((cutF l most).2.1 ≠ 0 → (cutF l most).2.2 = 0) ∧ 0 ≤ (cutF l most).2.2 ∧ (cutF l most).2.2 ≤ 20 := by
  have := cutGo_le most l l 0
  simpa [cutF] using this

theorem cells3 {W : World} {g : Nat} {t : TypeId} {a b c : Value} (h : W.heap[g]? = some (.cells #[a, b, c] t (0, 0))) : (W.cell? ⟨g, 0, none⟩ = some a ∧ W.cell? ⟨g, 1, none⟩ = some b ∧ W.cell? ⟨g, 2, none⟩ = some c) ∧ W.frozen? ⟨g, 0, none⟩ = false ∧ W.frozen? ⟨g, 1, none⟩ = false ∧ W.frozen? ⟨g, 2, none⟩ = false :=
  ⟨⟨b_cell h 0, b_cell h 1, b_cell h 2⟩, b_free h 0, b_free h 1, b_free h 2⟩
/-- The reader lies at g: over the bytes b, at a place; more: more are needed. -/
structure Rd (w : World) (g : Nat) (A : Option Addr) (n c : Nat) (b : List UInt8) (at_ : Nat) (more : Bool) : Prop where
  row : w.heap[g]? = some (.cells #[.slice A n c, .int .i64 (at_ : Int), .bool more] 119 (0, 0))
  bs : Bs w A n c b
  le : at_ ≤ n
  ne : ∀ i, ab A i → i ≠ g
section
variable {w w' : World} {g : Nat} {A : Option Addr} {n c : Nat} {b : List UInt8} {at_ : Nat} {more : Bool}
theorem Rd.same (h : Rd w g A n c b at_ more) (o : Only (fun _ => False) w w') : Rd w' g A n c b at_ more := ⟨o.keep h.row (fun h => h), h.bs.same o, h.le, h.ne⟩
theorem Rd.set1 (h : Rd w g A n c b at_ more) (k : Nat) (hk : k ≤ n) : Rd (w.setCell ⟨g, 1, none⟩ (.int .i64 (k : Int))) g A n c b k more :=
  ⟨b_set h.row 1 _, h.bs.keep (S := fun i => i = g) ((Only.refl (fun i => i = g) w).setCell (.inl rfl) _) (fun i hi => h.ne i hi), hk, h.ne⟩
theorem Rd.set2 (h : Rd w g A n c b at_ more) (m : Bool) : Rd (w.setCell ⟨g, 2, none⟩ (.bool m)) g A n c b at_ m :=
  ⟨b_set h.row 2 _, h.bs.keep (S := fun i => i = g) ((Only.refl (fun i => i = g) w).setCell (.inl rfl) _) (fun i hi => h.ne i hi), h.le, h.ne⟩
end
set_option maxRecDepth 100000 in
set_option maxHeartbeats 1000000 in
theorem rline_any (g : Nat) (A : Option Addr) (n c : Nat) (b : List UInt8) (at_ : Nat) (more : Bool) (w : World) (H : Rd w g A n c b at_ more) (hn : n ≤ 1000000000) :
    Calls Tryz.prog 114 #[.pointer (some ⟨g, 0, none⟩)] w fun e w' => e = .returned (.tuple #[.string (B (cutF (b.drop at_) 256).1), .int .i64 (cutF (b.drop at_) 256).2.2]) ∧
      Rd w' g A n c b (at_ + (cutF (b.drop at_) 256).2.1) (decide ((cutF (b.drop at_) 256).2.1 = 0) && decide ((cutF (b.drop at_) 256).2.2 = 0)) ∧ Only (fun i => i = g) w w' := by
  have hle := H.le
  have hc := H.bs.le
  have hbl := H.bs.len
  have hcut := fun w1 (hb : Bs w1 (dropA A c at_) (n - at_) (c - at_) (b.drop at_)) => cut_any (b.drop at_) 256 (dropA A c at_) (n - at_) (c - at_) w1 hb (by omega) (by omega)
  have hcl := cutF_le (b.drop at_) 256
  have hdl : (b.drop at_).length = n - at_ := by rw [List.length_drop, hbl]
  obtain ⟨x, hx⟩ : ∃ x, cutF (b.drop at_) 256 = x := ⟨_, rfl⟩
  rw [hx] at hcl ⊢
  simp only [hx] at hcut
  obtain ⟨s, k, er⟩ := x
  rw [hdl] at hcl
  simp only [] at hcl hcut ⊢
  obtain ⟨k1, k2, _, k3, k4, k5⟩ := hcl
  clear hx hdl
  have hHB := hid (H.bs.drop at_ hle)
  replace hbl := hid hbl
  obtain ⟨⟨c0, c1, c2⟩, f0, f1, f2⟩ := cells3 H.row
  have sl1 := run_l A n c at_ hle
  have sl1' := run_l' A n c at_ hle
  replace k2 := hid k2
  replace k3 := hid k3
  replace hcut := hid hcut
  have e1 : IntKind.i64.wrap ((at_ : Int) + (k : Int)) = ((at_ + k : Nat) : Int) := by
    rw [IntKind.wrap_i64]; omega
  go_enter Tryz.func114, Tryz.ntmps114
  go_upto_region 1 with (fail)
  go_quiet ((go_at_call 76; exact Calls.quiet_of_same ((hcut.out _ (hHB.out.same (by exact ⟨rfl, rfl, rfl, Nat.le_refl _, fun _ _ _ => rfl⟩))).mono fun _ _ ⟨h1, h2⟩ => ⟨h1, h2.symm⟩)))
  clear c0 c1 c2 f0 f1 f2 sl1 sl1'
  have H1 := H.same (Only.drewN (Only.refl (fun _ => False) w) nq)
  have O1 := Only.drewN (Only.refl (fun i => i = g) w) nq
  generalize w.drewN nq = w1 at H1 O1 ⊢
  obtain ⟨⟨c0, c1, c2⟩, f0, f1, f2⟩ := cells3 H1.row
  have O2 : ∀ u v, Only (fun i => i = g) w ((w1.setCell ⟨g, 1, none⟩ u).setCell ⟨g, 2, none⟩ v) := fun u v => (O1.setCell (p := ⟨g, 1, none⟩) (.inl rfl) u).setCell (p := ⟨g, 2, none⟩) (.inl rfl) v
  have H2 : ∀ m, Rd ((w1.setCell ⟨g, 1, none⟩ (.int .i64 ((at_ : Int) + (k : Int)))).setCell ⟨g, 2, none⟩ (.bool m)) g A n c b (at_ + k) m := fun m => by
    have := (H1.set1 (at_ + k) (by omega)).set2 m
    rw [show (((at_ + k : Nat) : Int)) = (at_ : Int) + (k : Int) by omega] at this
    exact this
  replace O2 := hid O2
  replace H2 := hid H2
  clear e1
  by_cases hk : k = 0
  · subst hk
    by_cases her : er = 0
    · subst her
      go_wp2_with fail
      go_ret2
      exact ⟨rfl, by simpa using H2.out true, by simpa using O2.out _ _⟩
    · have her' : (er == 0) = false := by simpa using her
      replace her := hid her
      go_wp2_with fail
      go_ret2
      exact ⟨rfl, by simpa [her.out] using H2.out false, by simpa using O2.out _ _⟩
  · have hk' : ((k : Int) == 0) = false := by simpa using hk
    have hk2 : decide (k = 0) = false := by simpa using hk
    replace hk := hid hk
    replace hk2 := hid hk2
    go_wp2_with fail
    go_ret2
    exact ⟨rfl, by rw [hk2.out, Bool.false_and]; exact H2.out false, O2.out _ _⟩

theorem Gl.keep {S : Nat → Prop} {w w' : World} (h : Gl w) (o : Only S w w') (hs : ∀ i, i < 6 → ¬ S i) : Gl w' := by
  obtain ⟨m, hm⟩ := h.max
  have hz := h.size
  exact ⟨⟨m, (o.cell (by show 0 < _; omega) (hs 0 (by omega))).trans hm⟩, Nat.le_trans hz o.size, by
    have hp := h.pow
    unfold Lib.TabIs World.var? at hp ⊢
    rw [pow_glob] at hp ⊢
    simp only [Option.bind_some] at hp ⊢
    rw [o.block 1 (by omega) (hs 1 (by omega))]
    exact hp, (o.cell (by show 5 < _; omega) (hs 5 (by omega))).trans h.tab⟩
theorem Gl.g {w w' : World} {g : Nat} (h : Gl w) (hg : 6 ≤ g) (o : Only (fun i => i = g) w w') : Gl w' := h.keep o (fun i hi e => by omega)

theorem trimRight_any (s : ByteArray) (hs : s.size ≤ 9223372036854775807) (w : World) : Calls Tryz.prog 116 #[.string s, .string ⟨#[32, 9]⟩] w fun e w' => e = .returned (.string (B (Lib.trimRightS s.data.toList blanks))) ∧ Only (fun _ => False) w w' :=
  (Any.strings_TrimRight_laid Tryz.lays162 (by kernel_rfl) s ⟨#[32, 9]⟩ w hs (by decide) (ascii_of_all (by decide))).mono fun _ _ ⟨h1, h2⟩ => ⟨h1, Only.of_below h2⟩
theorem trimRightS_len (l cs : List UInt8) : (Lib.trimRightS l cs).length ≤ l.length := by
  unfold Lib.trimRightS
  rw [List.length_reverse]
  exact Nat.le_trans (List.dropWhile_sublist _).length_le (by simp)
theorem cut_len (l p : List UInt8) : (Lib.cut l p).1.length ≤ l.length ∧ (Lib.cut l p).2.1.length ≤ l.length := by
  unfold Lib.cut
  split
  · simp; omega
  · simp

set_option maxRecDepth 100000 in
set_option maxHeartbeats 1000000 in
theorem rsize_any (g : Nat) (A : Option Addr) (n c : Nat) (b : List UInt8) (at_ : Nat) (more : Bool) (w : World) (H : Rd w g A n c b at_ more) (hn : n ≤ 1000000000) (hG : Gl w) (hg : 6 ≤ g) :
    Calls Tryz.prog 82 #[.pointer (some ⟨g, 0, none⟩)] w fun e w' => e = .returned (.tuple #[.int .i64 (sizeF (b.drop at_)).1, .int .i64 (sizeF (b.drop at_)).2.1]) ∧
      Rd w' g A n c b (at_ + (sizeF (b.drop at_)).2.2.2) (sizeF (b.drop at_)).2.2.1 ∧ Only (fun i => i = g) w w' := by
  have hF : sizeF (b.drop at_) = (
    if (cutF (b.drop at_) 256).2.2 ≠ 0 then (0, (cutF (b.drop at_) 256).2.2, false, (cutF (b.drop at_) 256).2.1)
    else if (cutF (b.drop at_) 256).2.1 = 0 then (0, 0, true, 0)
    else if (number 16 15 (Lib.trimRightS (Lib.cut (cutF (b.drop at_) 256).1 [59]).1 blanks)).2 = true ∧ (Lib.cut (cutF (b.drop at_) 256).1 [59]).2.1.all valC = true then ((number 16 15 (Lib.trimRightS (Lib.cut (cutF (b.drop at_) 256).1 [59]).1 blanks)).1, 0, false, (cutF (b.drop at_) 256).2.1)
    else (0, 30, false, (cutF (b.drop at_) 256).2.1)) := rfl
  have hL := rline_any g A n c b at_ more w H hn
  have hcl := (cutF_le (b.drop at_) 256).2.2.1
  have hdl : (b.drop at_).length ≤ n := by rw [List.length_drop, H.bs.len]; omega
  obtain ⟨x, hx⟩ : ∃ x, cutF (b.drop at_) 256 = x := ⟨_, rfl⟩
  rw [hx] at hF hL hcl
  obtain ⟨s, k, er⟩ := x
  simp only [] at hF hL hcl
  have hsl : s.length ≤ n := by omega
  clear hx hcl hdl
  replace hF := hid hF
  go_enter Tryz.func82, Tryz.ntmps82
  go_wp2_with fail
  refine hL.mono ?_
  rintro e w1 ⟨rfl, H1, O1⟩
  clear hL
  by_cases her : er = 0
  case neg =>
    have her' : (er != 0) = true := by simpa using her
    have hres : Hid (sizeF (b.drop at_) = (0, er, false, k)) := hid (by rw [hF.out, if_pos her])
    rw [show decide (er = 0) = false by simpa using her, Bool.and_false] at H1
    clear hF
    replace her := hid her
    go_wp2_with fail
    go_ret2
    exact ⟨by rw [hres.out]; rfl, by rw [hres.out]; exact H1, O1⟩
  subst her
  by_cases hk : k = 0
  · subst hk
    have hres : Hid (sizeF (b.drop at_) = (0, 0, true, 0)) := hid (by rw [hF.out, if_neg (by simp), if_pos rfl])
    clear hF
    simp only [decide_true, Bool.and_self] at H1
    obtain ⟨⟨c0, c1, c2⟩, f0, f1, f2⟩ := cells3 H1.row
    go_wp2_with fail
    go_ret2
    exact ⟨by rw [hres.out]; rfl, by rw [hres.out]; exact H1, O1⟩
  rw [show decide (k = 0) = false by simpa using hk, Bool.false_and] at H1
  have hF2 := hF.out
  rw [if_neg (by simp), if_neg hk] at hF2
  replace hF2 := hid hF2
  clear hF
  obtain ⟨⟨c0, c1, c2⟩, f0, f1, f2⟩ := cells3 H1.row
  have hG1 := hG.g hg O1
  obtain ⟨m, hm⟩ := hG1.max
  have hsz : (B s).size < 4294967281 := by rw [B_size]; omega
  go_wp2_with fail
  refine (Tryz.strings_Cut (B s) ⟨#[59]⟩ m _ hsz hm).mono ?_
  rintro e w2 ⟨rfl, nq, rfl⟩
  rw [show (⟨#[59]⟩ : ByteArray).data.toList = [59] from rfl, show (B s).data.toList = s from rfl]
  have hcl := cut_len s [59]
  generalize Lib.cut s [59] = cc at *
  obtain ⟨s1, s2, ok⟩ := cc
  simp only [] at hF2 hcl ⊢
  have O2 := O1.drewN nq
  have H2 := H1.same (Only.drewN (Only.refl (fun _ => False) w1) nq)
  clear O1 H1 c0 c1 c2 f0 f1 f2 hm hG1
  generalize w1.drewN nq = w2 at O2 H2 ⊢
  have hs1 : (B s1).size ≤ 9223372036854775807 := by rw [B_size]; omega
  have hs2 : (B s2).size ≤ 9223372036854775807 := by rw [B_size]; omega
  have htl := trimRightS_len s1 blanks
  go_wp2_with fail
  refine (trimRight_any (B s1) hs1 _).mono ?_
  rintro e w3 ⟨rfl, O3⟩
  rw [show (B s1).data.toList = s1 from rfl]
  generalize Lib.trimRightS s1 blanks = s3 at *
  have hs3 : (B s3).size ≤ 9223372036854775807 := by rw [B_size]; omega
  replace O2 := O2.trans' O3 (fun _ h => h.elim)
  replace H2 := H2.same O3
  clear O3
  go_wp2_with fail
  refine (hex_any (B s3) hs3 _).mono ?_
  rintro e w4 ⟨rfl, O4⟩
  rw [show (B s3).data.toList = s3 from rfl]
  replace O2 := O2.trans' O4 (fun _ h => h.elim)
  replace H2 := H2.same O4
  clear O4
  generalize number 16 15 s3 = q at *
  obtain ⟨z, ok2⟩ := q
  simp only [] at hF2 ⊢
  cases ok2
  · have hres : Hid (sizeF (b.drop at_) = (0, 30, false, k)) := hid (by rw [hF2.out, if_neg (by simp)])
    go_wp2_with fail
    go_ret2
    exact ⟨by rw [hres.out]; rfl, by rw [hres.out]; exact H2, O2⟩
  · go_wp2_with fail
    refine (value_any (B s2) hs2 _).mono ?_
    rintro e w5 ⟨rfl, rfl⟩
    rw [show (B s2).data.toList = s2 from rfl]
    cases hv : s2.all valC
    · have hres : Hid (sizeF (b.drop at_) = (0, 30, false, k)) := hid (by rw [hF2.out, if_neg (by rw [hv]; simp)])
      replace hv := hid hv
      go_wp2_with fail
      go_ret2
      exact ⟨by rw [hres.out]; rfl, by rw [hres.out]; exact H2, O2⟩
    · have hres : Hid (sizeF (b.drop at_) = (z, 0, false, k)) := hid (by rw [hF2.out, if_pos (by simp [hv])])
      replace hv := hid hv
      go_wp2_with fail
      go_ret2
      exact ⟨by rw [hres.out]; rfl, by rw [hres.out]; exact H2, O2⟩
end Go.Proofs.YtafljoiblfhioaaGreatDoor
