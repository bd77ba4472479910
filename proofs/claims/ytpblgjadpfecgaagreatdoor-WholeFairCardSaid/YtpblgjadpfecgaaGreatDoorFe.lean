/-
  A client's connection: the next request; whether it waits.
-/
import Derived.Test.YtpblgjadpfecgaaGreatDoorFd
import Derived.Test.YtpblgjadpfecgaaGreatDoorZb
import Derived.Test.YtpblgjadpfecgaaGreatDoorFa
set_option linter.unusedSimpArgs false
set_option linter.unusedVariables false
namespace Go.Proofs.YtpblgjadpfecgaaGreatDoor
open Go.RowKit

set_option maxRecDepth 100000 in
set_option maxHeartbeats 2000000 in
/-- The next request: there is one. -/
theorem next_some {w : World} {d : CellD} {s : St} {G : Nat → Prop} (k : Nat) (bs m t : List UInt8) (mi : Int) (fs : List FD) (body : List UInt8) (n nb : Nat) (h : Hid (CellIn w d s G)) (hk : k < s.n) (hl : s.L (2 * k) = i8 bs) (hnb : bs.length = nb) (hlH : (nb : Int) ≤ s.H)
    (hbusy : s.busy k = false) (hX : requestF bs = ((m, t, mi), fs, body, n, 0)) (hn0 : 0 < n) (hn1 : n ≤ nb) (hbig : nb ≤ 1000000000) :
    Calls Tryz.prog 56 #[.pointer (some ⟨s.xb k, 0, none⟩)] w fun e w' => ∃ F cf D cd, e = .returned (.tuple #[.agg #[.string (B m), .string (B t), .int .i64 mi, .slice F fs.length cf, .slice D body.length cd], .int .i64 0]) ∧
      Row w' F (fV fs) ∧ (∀ i, ab F i → w.heap.size ≤ i ∧ i < w'.heap.size) ∧ Hid (Turn w w' d s { s with busy := Rg.upd s.busy k true, L := Rg.upd s.L (2 * k) (i8 (bs.drop n)), H := s.H - n } G G) := by
  obtain ⟨w0, hw0⟩ : ∃ w0, w.alloc (.cells #[.string ⟨#[]⟩, .string ⟨#[]⟩, .int .i64 0, .slice none 0 0, .slice none 0 0] 149) = w0 := ⟨_, rfl⟩
  have O0 : Only (fun _ => False) w w0 := by rw [← hw0]; exact (Only.refl _ w).alloc _
  have hrow : w0.heap[w.heap.size]? = some (.cells #[.string ⟨#[]⟩, .string ⟨#[]⟩, .int .i64 0, .slice none 0 0, .slice none 0 0] 149 (0, 0)) := by rw [← hw0]; exact b_new _ _
  have C0 := h.out.same O0 (fun _ h => h.elim)
  have h3 := C0.x3 hk
  rw [hbusy] at h3
  have hcl := closing_any k (hid C0) hk
  have hal := all_any k bs nb (hid C0) hk hl hnb hlH
  have hgz : ∀ i, Zb d s G i → i < w.heap.size := h.out.Zlt
  have hgk : ∀ i, Kb d i → i < w.heap.size := h.out.Klt
  obtain ⟨x, hx⟩ : ∃ x, s.xb k = x := ⟨_, rfl⟩
  rw [hx] at h3 hcl hal ⊢
  obtain ⟨g, hg⟩ : ∃ g, w.heap.size = g := ⟨_, rfl⟩
  rw [hg] at hrow hgz hgk
  replace hx := hid hx
  replace hcl := hid hcl
  replace hal := hid hal
  replace hgz := hid hgz
  replace hgk := hid hgk
  replace hX := hid hX
  replace hrow := hid hrow
  go_enter Tryz.func56, Tryz.ntmps56
  go_upto_region 1 with (fail)
  clear hw0
  replace hg := hid hg
  go_wp2_with fail
  refine hcl.out.mono ?_
  rintro e w1 ⟨rfl, rfl⟩
  go_wp2_with fail
  refine hal.out.mono ?_
  rintro e w2 ⟨A, c, rfl, HB, HA, O2⟩
  have hreq := request_any A nb c bs w2 HB HA hbig (C0.gl.same O2)
  rw [hX.out] at hreq
  simp only [] at hreq
  replace hreq := hid hreq
  clear h3 hcl hal
  go_wp2_with fail
  refine hreq.out.mono ?_
  rintro e w3 ⟨F, cf, D, cd, rfl, HF, HD, O3⟩
  obtain ⟨nf, hnf⟩ : ∃ nf, fs.length = nf := ⟨_, rfl⟩
  obtain ⟨nd, hnd⟩ : ∃ nd, body.length = nd := ⟨_, rfl⟩
  rw [hnf, hnd]
  have hFr := HF.row
  have hFb := HF.blk
  replace hnf := hid hnf
  replace hnd := hid hnd
  clear hreq HF HD HB HA
  go_upto_region 4 with (fail)
  have O4 := ((O0.trans O2).trans O3).alloc (.cells #[.string (B m), .string (B t), .int .i64 mi, .slice F nf cf, .slice D nd cd] 149)
  have H4 := b_new w3 (.cells #[.string (B m), .string (B t), .int .i64 mi, .slice F nf cf, .slice D nd cd] 149)
  have hr4 := ((O2.trans O3).alloc (.cells #[.string (B m), .string (B t), .int .i64 mi, .slice F nf cf, .slice D nd cd] 149)).keep hrow.out (fun h => h)
  have hFr4 := hFr.same ((Only.refl _ w3).alloc (.cells #[.string (B m), .string (B t), .int .i64 mi, .slice F nf cf, .slice D nd cd] 149))
  have hs3 : g + 1 ≤ w3.heap.size := by have := b_lt hrow.out; have := O2.size; have := O3.size; omega
  have hFb4 : ∀ i, ab F i → g + 1 ≤ i ∧ i < w3.heap.size := fun i hi => ⟨by have := (hFb i hi).1; have := b_lt hrow.out; have := O2.size; omega, (hFb i hi).2⟩
  have hs4 : (w3.alloc (.cells #[.string (B m), .string (B t), .int .i64 mi, .slice F nf cf, .slice D nd cd] 149)).heap.size = w3.heap.size + 1 := by simp
  obtain ⟨g4, hg4⟩ : ∃ g4, w3.heap.size = g4 := ⟨_, rfl⟩
  rw [hg4] at H4 hs3 hFb4 hs4 ⊢
  clear hFr hFb hrow hg4
  generalize w3.alloc (.cells #[.string (B m), .string (B t), .int .i64 mi, .slice F nf cf, .slice D nd cd] 149) = w4 at *
  clear O0 O2 O3 C0 w3 w2 w1
  have C4 := h.out.same O4 (fun _ h => h.elim)
  have h0 := C4.x0 (k := k) hk
  rw [hx.out] at h0
  have htk := Rg.rs_take (2 * k) _ (i8 bs) (n : Int) n (s.H - n) C4.rs (by omega) rfl hl (by rw [i8_len, hnb]; omega) (by rw [i8_len, hnb]; exact hlH) rfl
  rw [i8_drop] at htk
  have hnz : ((n : Int) == 0) = false := by rw [beq_eq_false_iff_ne]; omega
  replace htk := hid htk
  replace H4 := hid H4
  replace hr4 := hid hr4
  replace C4 := hid C4
  replace hFr4 := hid hFr4
  replace hFb4 := hid hFb4
  replace hl := hid hl
  replace hnb := hid hnb
  replace hbusy := hid hbusy
  go_wp2_with fail
  refine htk.out.mono ?_
  rintro e w5 ⟨A2, c2, rfl, _, R, O5⟩
  have T5 : Turn w w5 d s { s with L := Rg.upd s.L (2 * k) (i8 (bs.drop n)), H := s.H - n } G G := (Turn.quiet h.out O4).trans (Turn.rings C4.out R O5 (fun _ h => .inl h))
  have hGg : ∀ i, g ≤ i → ¬ G i := fun i hi hG => by have := hgz.out i (.inl hG); omega
  have H5 := O5.keep H4.out (hGg g4 (by omega))
  have hr5 := O5.keep hr4.out (hGg g (by omega))
  have hF5 := hFr4.out.keep O5 (fun i hi => hGg i (by have := (hFb4.out i hi).1; omega))
  have C5 := T5.cell
  have x3 := C5.x3 (k := k) hk
  have x4 := C5.x4 (k := k) hk
  have xf := C5.xf (k := k) hk
  have xrow := C5.con k hk
  simp only at x3 x4 xf xrow
  rw [hx.out] at x3 x4 xf xrow
  have xf3 := xf 3
  have xf4 := xf 4
  have hs5 := O5.size
  clear htk h0 R O5 H4 hr4 hFr4 C4 xf
  replace C5 := hid C5
  replace T5 := hid T5
  replace xrow := hid xrow
  replace H5 := hid H5
  replace hr5 := hid hr5
  replace hF5 := hid hF5
  replace hGg := hid hGg
  go_upto_region 11 with (fail)
  have T6 : Turn w ((w5.setCell ⟨x, 3, none⟩ (.bool true)).setCell ⟨x, 4, none⟩ (.bool false)) d s { s with busy := Rg.upd s.busy k true, L := Rg.upd s.L (2 * k) (i8 (bs.drop n)), H := s.H - n } G G := by
    refine T5.out.trans (Turn.conn (k := k) (win' := s.win) C5.out hk (((Only.refl (· = s.xb k) w5).setCell (p := ⟨x, 3, none⟩) (.inl hx.out.symm) _).setCell (p := ⟨x, 4, none⟩) (.inl hx.out.symm) _) (fun j hj => ⟨Rg.upd_ne _ _ hj, rfl⟩) ?_)
    have := b_set (b_set xrow.out 3 (.bool true)) 4 (.bool false)
    show _ = _
    simp only
    rw [hx.out, this]
    unfold connRow
    simp only [Rg.upd_at]
    rfl
  have O6 : Only (· = x) w5 ((w5.setCell ⟨x, 3, none⟩ (.bool true)).setCell ⟨x, 4, none⟩ (.bool false)) := ((Only.refl (· = x) w5).setCell (p := ⟨x, 3, none⟩) (.inl rfl) _).setCell (p := ⟨x, 4, none⟩) (.inl rfl) _
  generalize (w5.setCell ⟨x, 3, none⟩ (.bool true)).setCell ⟨x, 4, none⟩ (.bool false) = w6 at T6 O6 ⊢
  have hxg : x < g := hgz.out x (.inr (.inr (.inr (.inr (.inr (.inl ⟨k, hk, hx.out.symm⟩))))))
  have H6 := O6.keep H5.out (by omega)
  have hr6 := O6.keep hr5.out (by omega)
  have hF6 := hF5.out.keep O6 (fun i hi e => by have := (hFb4.out i hi).1; omega)
  have hs6 := O6.size
  clear x3 x4 xf3 xf4 xrow H5 hr5 hF5 C5 T5 O6
  obtain ⟨⟨a0, a1, a2, a3, a4⟩, _⟩ := cells5 H6
  obtain ⟨⟨b0, b1, b2, b3, b4⟩, f0, f1, f2, f3, f4⟩ := cells5 hr6
  have hne : g ≠ g4 := by omega
  have hne2 : g4 ≠ g := by omega
  replace H6 := hid H6
  replace T6 := hid T6
  replace hF6 := hid hF6
  replace hr6 := hid hr6
  go_wp2_with fail
  have OS := (Only.refl (· = g) w6).set5 (.inl rfl) (.string (B m)) (.string (B t)) (.int .i64 mi) (.slice F nf cf) (.slice D nd cd)
  refine ret_req1 Tryz.results56 (set5_row hr6.out ..) rfl rfl ⟨F, cf, D, cd, by rw [hnf.out, hnd.out]; rfl, hF6.out.keep OS (fun i hi e => ?_), fun i hi => ⟨by have := (hFb4.out i hi).1; have := hg.out; omega, by have := (hFb4.out i hi).2; have := OS.size; omega⟩, hid (T6.out.mine OS ?_ h.out (by have := hg.out; omega))⟩
  · have := (hFb4.out i hi).1; omega
  · intro hz
    have := hgz.out g hz
    omega

set_option maxRecDepth 100000 in
set_option maxHeartbeats 2000000 in
/-- The next request: nothing has come. -/
theorem next_none {w : World} {d : CellD} {s : St} {G : Nat → Prop} (k : Nat) (h : Hid (CellIn w d s G)) (hk : k < s.n) (hl : s.L (2 * k) = i8 []) (hbusy : s.busy k = false) :
    Calls Tryz.prog 56 #[.pointer (some ⟨s.xb k, 0, none⟩)] w fun e w' => e = .returned (.tuple #[.agg #[.string ⟨#[]⟩, .string ⟨#[]⟩, .int .i64 0, .slice none 0 0, .slice none 0 0], .int .i64 (-1)]) ∧ Only (fun _ => False) w w' := by
  obtain ⟨w0, hw0⟩ : ∃ w0, w.alloc (.cells #[.string ⟨#[]⟩, .string ⟨#[]⟩, .int .i64 0, .slice none 0 0, .slice none 0 0] 149) = w0 := ⟨_, rfl⟩
  have O0 : Only (fun _ => False) w w0 := by rw [← hw0]; exact (Only.refl _ w).alloc _
  have hrow : w0.heap[w.heap.size]? = some (.cells #[.string ⟨#[]⟩, .string ⟨#[]⟩, .int .i64 0, .slice none 0 0, .slice none 0 0] 149 (0, 0)) := by rw [← hw0]; exact b_new _ _
  have C0 := h.out.same O0 (fun _ h => h.elim)
  have h3 := C0.x3 hk
  rw [hbusy] at h3
  have hcl := closing_any k (hid C0) hk
  have hH := h.out.mok.h0
  have hal := all_any k [] 0 (hid C0) hk hl rfl (by show ((0 : Nat) : Int) ≤ s.H; omega)
  obtain ⟨x, hx⟩ : ∃ x, s.xb k = x := ⟨_, rfl⟩
  rw [hx] at h3 hcl hal ⊢
  obtain ⟨g, hg⟩ : ∃ g, w.heap.size = g := ⟨_, rfl⟩
  rw [hg] at hrow
  replace hx := hid hx
  replace hcl := hid hcl
  replace hal := hid hal
  replace hrow := hid hrow
  go_enter Tryz.func56, Tryz.ntmps56
  go_upto_region 1 with (fail)
  clear hw0
  replace hg := hid hg
  go_wp2_with fail
  refine hcl.out.mono ?_
  rintro e w1 ⟨rfl, rfl⟩
  go_wp2_with fail
  refine hal.out.mono ?_
  rintro e w2 ⟨A, c, rfl, HB, HA, O2⟩
  have hreq := request_any A 0 c [] w2 HB HA (by omega) (C0.gl.same O2)
  rw [req_none] at hreq
  unfold rl0 at hreq
  simp only [] at hreq
  replace hreq := hid hreq
  clear h3 hcl hal
  go_wp2_with fail
  refine hreq.out.mono ?_
  rintro e w3 ⟨F, cf, D, cd, rfl, HF, HD, O3⟩
  have hr3 := hid ((O2.trans O3).keep hrow.out (fun h => h))
  have OT := (O0.trans O2).trans O3
  clear hreq HF HD HB HA hrow
  go_upto_region 4 with (fail)
  have O4 := OT.alloc (.cells #[.string (B []), .string (B []), .int .i64 0, .slice F 0 cf, .slice D 0 cd] 149)
  have hr4 := ((Only.refl (fun _ => False) w3).alloc (.cells #[.string (B []), .string (B []), .int .i64 0, .slice F 0 cf, .slice D 0 cd] 149)).keep hr3.out (fun h => h)
  generalize w3.alloc (.cells #[.string (B []), .string (B []), .int .i64 0, .slice F 0 cf, .slice D 0 cd] 149) = w4 at *
  clear O0 O2 O3 OT hr3 C0
  obtain ⟨⟨b0, b1, b2, b3, b4⟩, f0, f1, f2, f3, f4⟩ := cells5 hr4
  replace hr4 := hid hr4
  go_wp2_with fail
  exact ret_req1 Tryz.results56 (set5_row hr4.out ..) rfl rfl ⟨rfl, O4.set5 (.inr (by have := hg.out; omega)) ..⟩

theorem open_none : openF [] = (rl0, [], 0, 0, false, 0) := by decide +kernel
/-- Nothing has come: nobody waits to be told to go on. -/
theorem hwaits_none (A : Option Addr) (c : Nat) (w : World) (hB : Bs w A 0 c []) (hA : ∀ i, ab A i → i < w.heap.size) (hG : Gl w) :
    Calls Tryz.prog 100 #[.slice A 0 c] w fun e w' => e = .returned (.bool false) ∧ Only (fun _ => False) w w' := by
  have hop := open_any A 0 c [] w hB hA (by omega) hG
  rw [open_none] at hop
  unfold rl0 at hop
  simp only [List.length_nil] at hop
  replace hop := hid hop
  go_enter Tryz.func100, Tryz.ntmps100
  go_wp2_with fail
  refine hop.out.mono ?_
  rintro e w1 ⟨F, cf, rfl, HF, O1⟩
  go_wp2_with fail
  go_ret
  exact ⟨rfl, O1.alloc _⟩
theorem waits_any {w : World} {d : CellD} {s : St} {G : Nat → Prop} (k : Nat) (h : Hid (CellIn w d s G)) (hk : k < s.n) (hl : s.L (2 * k) = i8 []) (hbusy : s.busy k = false) :
    Calls Tryz.prog 57 #[.pointer (some ⟨s.xb k, 0, none⟩)] w fun e w' => e = .returned (.bool false) ∧ Only (fun _ => False) w w' := by
  have h3 := h.out.x3 hk
  have h4 := h.out.x4 hk
  rw [hbusy] at h3
  have hcl := closing_any k h hk
  have hH := h.out.mok.h0
  have hal := all_any k [] 0 h hk hl rfl (by show ((0 : Nat) : Int) ≤ s.H; omega)
  generalize s.xb k = x at h3 h4 hcl hal ⊢
  replace hcl := hid hcl
  replace hal := hid hal
  go_enter Tryz.func57, Tryz.ntmps57
  go_wp2_with fail
  refine hcl.out.mono ?_
  rintro e w1 ⟨rfl, rfl⟩
  go_wp2_with fail
  refine hal.out.mono ?_
  rintro e w2 ⟨A, c, rfl, HB, HA, O2⟩
  have hw := hwaits_none A c w2 HB HA (h.out.gl.same O2)
  replace hw := hid hw
  go_wp2_with fail
  refine hw.out.mono ?_
  rintro e w3 ⟨rfl, O3⟩
  go_wp2_with fail
  go_ret
  exact ⟨rfl, O2.trans O3⟩
end Go.Proofs.YtpblgjadpfecgaaGreatDoor
