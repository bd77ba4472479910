/-
  A client's connection: what its functions do in a cell.
-/
import Derived.Test.YtpblgjadpfecgaaGreatDoorFc
import Derived.Deep.RegionHeld3
import Derived.BigQuiet
set_option linter.unusedSimpArgs false
set_option linter.unusedVariables false
namespace Go.Proofs.YtpblgjadpfecgaaGreatDoor
open Go.RowKit

/-- Bytes as a ring holds them. -/
def i8 (l : List UInt8) : List Int := l.map (fun c => (c.toNat : Int))
theorem i8_len (l : List UInt8) : (i8 l).length = l.length := List.length_map _
theorem i8_app (a b : List UInt8) : i8 (a ++ b) = i8 a ++ i8 b := List.map_append
theorem i8_drop (l : List UInt8) (k : Nat) : (i8 l).drop k = i8 (l.drop k) := by simp [i8, List.map_drop]
theorem i8_take (l : List UInt8) (k : Nat) : (i8 l).take k = i8 (l.take k) := by simp [i8, List.map_take]
theorem u8s_i8 (l : List UInt8) : Rg.u8s (i8 l) = bV l := by simp [Rg.u8s, i8, bV, byteV]
theorem i8_at (l : List UInt8) (i : Nat) (c : UInt8) (h : l[i]? = some c) : (i8 l).getD i 0 = (c.toNat : Int) := by
  rw [List.getD_eq_getElem?_getD]
  simp [i8, h]
theorem Bs.elems {w : World} {A : Option Addr} {n c : Nat} {l : List UInt8} (h : Bs w A n c l) : Elems w A (i8 l).length (fun i => .int .u8 ((i8 l).getD i 0)) := by
  intro hp
  rw [i8_len] at hp
  obtain ⟨b, off, rfl, hb, hc⟩ := h.row (by
    intro e
    have h1 := congrArg List.length e
    rw [bV_len] at h1
    have : ([] : List Value).length = 0 := rfl
    omega)
  refine ⟨b, off, rfl, hb, fun j hj => ?_⟩
  rw [i8_len] at hj
  have h1 : l[j]? = some l[j] := List.getElem?_eq_getElem hj
  show _ = some (Value.int .u8 ((i8 l).getD j 0))
  rw [hc j _ (bV_at l j _ h1), i8_at l j _ h1]
  rfl
theorem rgOwn_bs {w : World} {base : Nat} {A : Option Addr} {c n : Nat} {l : List UInt8} (h : Rg.OwnB w base A c (i8 l)) (hn : l.length = n) : Bs w A n c l := by
  subst hn
  have hc := h.cap
  rw [i8_len] at hc
  refine ⟨rfl, hc, fun hne => ?_, fun e => ?_⟩
  · have hl : 0 < l.length := by
      rcases Nat.eq_zero_or_pos l.length with h0 | h0
      · exact absurd (by rw [List.eq_nil_of_length_eq_zero h0]; rfl) hne
      · exact h0
    rcases h.2 with ⟨hv, h0⟩ | ⟨g, cap, cur, hv, hb, hg, hn, hcm, hcs, hx⟩
    · rw [i8_len] at h0; omega
    · simp only [Value.slice.injEq] at hv
      obtain ⟨rfl, _, rfl⟩ := hv
      refine ⟨g, 0, rfl, b_lt hg, fun j u hu => ?_⟩
      rw [b_cell hg, Nat.zero_add]
      rw [← u8s_i8, ← hx, Nat.mul_one, List.getElem?_take] at hu
      split at hu
      · simpa using hu
      · cases hu
  · subst e
    rcases h.2 with ⟨hv, h0⟩ | ⟨g, cap, cur, hv, _⟩
    · simp only [Value.slice.injEq] at hv
      rw [i8_len] at h0
      exact ⟨h0, hv.2.2⟩
    · simp at hv
theorem rgOwn_blk {w : World} {base : Nat} {A : Option Addr} {c : Nat} {l : List Int} (h : Rg.OwnB w base A c l) : ∀ i, ab A i → base ≤ i ∧ i < w.heap.size := by
  rintro i ⟨a, ha, rfl⟩
  exact h.blk a ha

section
variable {w : World} {d : CellD} {s : St} {G : Nat → Prop}
theorem CellIn.x0 (h : CellIn w d s G) {k : Nat} (hk : k < s.n) : w.cell? ⟨s.xb k, 0, none⟩ = some (.pointer (some ⟨s.rg (2 * k), 0, none⟩)) := b_cell (h.con k hk) 0
theorem CellIn.x1 (h : CellIn w d s G) {k : Nat} (hk : k < s.n) : w.cell? ⟨s.xb k, 1, none⟩ = some (.pointer (some ⟨s.rg (2 * k + 1), 0, none⟩)) := b_cell (h.con k hk) 1
theorem CellIn.x2 (h : CellIn w d s G) {k : Nat} (hk : k < s.n) : w.cell? ⟨s.xb k, 2, none⟩ = some (.int .i64 (s.win k)) := b_cell (h.con k hk) 2
theorem CellIn.x3 (h : CellIn w d s G) {k : Nat} (hk : k < s.n) : w.cell? ⟨s.xb k, 3, none⟩ = some (.bool (s.busy k)) := b_cell (h.con k hk) 3
theorem CellIn.x4 (h : CellIn w d s G) {k : Nat} (hk : k < s.n) : w.cell? ⟨s.xb k, 4, none⟩ = some (.bool false) := b_cell (h.con k hk) 4
theorem CellIn.x8 (h : CellIn w d s G) {k : Nat} (hk : k < s.n) : w.cell? ⟨s.xb k, 8, none⟩ = some (.int .u32 0) := b_cell (h.con k hk) 8
theorem CellIn.xf (h : CellIn w d s G) {k : Nat} (hk : k < s.n) (i : Nat) : w.frozen? ⟨s.xb k, i, none⟩ = false := b_free (h.con k hk) i
/-- The bounds of what is held. -/
theorem CellIn.mok (h : CellIn w d s G) : Rg.MOk s.M s.H s.P := h.rs.out.okM
end

theorem closed_at (b : Nat) (w : World) (h : w.cell? ⟨b, 8, none⟩ = some (.int .u32 0)) :
    Calls Tryz.prog 88 #[.pointer (some ⟨b, 5, none⟩)] w fun e w' => e = .returned (.bool false) ∧ w' = w := by
  have hl := run_call_load (P := Tryz.prog) Tryz.func209 (by kernel_rfl) (by kernel_rfl) (by kernel_rfl) .u32 (by kernel_rfl) h
  go_enter Tryz.func88, Tryz.ntmps88
  go_wp2_with (first | (go_at_call 145; go_in))
  go_ret
  exact ⟨rfl, rfl⟩
theorem closing_any {w : World} {d : CellD} {s : St} {G : Nat → Prop} (k : Nat) (h : Hid (CellIn w d s G)) (hk : k < s.n) :
    Calls Tryz.prog 50 #[.pointer (some ⟨s.xb k, 0, none⟩)] w fun e w' => e = .returned (.bool false) ∧ w' = w := by
  have h8 := h.out.x8 hk
  generalize s.xb k = x at h8 ⊢
  go_enter Tryz.func50, Tryz.ntmps50
  go_wp2_with fail
  refine (closed_at x w h8).mono ?_
  rintro e w1 ⟨rfl, rfl⟩
  go_wp2_with fail
  go_ret
  exact ⟨rfl, rfl⟩

/-- A new connection. -/
def St.more (s : St) (x r1 r2 : Nat) : St :=
  { s with n := s.n + 1, xb := Rg.upd s.xb s.n x, rg := Rg.upd (Rg.upd s.rg (2 * s.n) r1) (2 * s.n + 1) r2, L := Rg.upd (Rg.upd s.L (2 * s.n) []) (2 * s.n + 1) [], busy := Rg.upd s.busy s.n false, win := Rg.upd s.win s.n 0 }
theorem connNew_any {w : World} {d : CellD} {s : St} {G : Nat → Prop} (h : Hid (CellIn w d s G)) :
    Calls Tryz.prog 22 #[.pointer (some ⟨d.mb, 0, none⟩)] w fun e w' => ∃ x r1 r2 G', e = .returned (.pointer (some ⟨x, 0, none⟩)) ∧ Hid (Turn w w' d s (s.more x r1 r2) G G') := by
  go_enter Tryz.func22, Tryz.ntmps22
  go_wp2_with fail
  refine (Rg.rs_new h.out.rs).mono ?_
  rintro e w1 ⟨rfl, R1, O1⟩
  go_wp2_with fail
  refine (Rg.rs_new R1).mono ?_
  rintro e w2 ⟨rfl, R2, O2⟩
  go_wp2_with fail
  go_ret
  refine ⟨w2.heap.size, w.heap.size, w1.heap.size, fun i => (G i ∨ i = w.heap.size) ∨ i = w1.heap.size, rfl, ?_⟩
  have hs1 : w.heap.size < w1.heap.size := by
    have := R1.out.lt w.heap.size (.inr rfl)
    exact this
  have hs2 : w1.heap.size < w2.heap.size := by
    have := R2.out.lt w1.heap.size (.inr rfl)
    exact this
  have n1 : 2 * s.n ≠ 2 * s.n + 1 := by omega
  refine hid (Turn.more h.out ((O1.trans O2).alloc _) (hid (R2.out.alloc _)) (fun i hi => ?_) ?_ (fun j hj => ?_) ?_)
  · rw [Rg.upd_at]
    have hlt := R2.out.lt i hi
    rcases hi with (hi | hi) | hi
    · exact .inl hi
    · exact .inr ⟨by omega, by omega⟩
    · exact .inr ⟨by omega, by omega⟩
  · rw [Rg.upd_at]; omega
  · refine ⟨Rg.upd_ne _ _ (by omega), ?_, ?_, Rg.upd_ne _ _ (by omega), Rg.upd_ne _ _ (by omega)⟩
    · rw [Rg.upd_ne _ _ (by omega), Rg.upd_ne _ _ (by omega)]
    · rw [Rg.upd_ne _ _ (by omega), Rg.upd_ne _ _ (by omega)]
  · rw [Rg.upd_at, b_new]
    unfold connRow
    simp only [Rg.upd_at, Rg.upd_ne _ _ n1]

/-- Window, of a new connection. -/
theorem window_any {w : World} {d : CellD} {s : St} {G : Nat → Prop} (k : Nat) (x : Int) (h : Hid (CellIn w d s G)) (hk : k < s.n) (h0 : s.win k = 0) (hx0 : 0 ≤ x) (hx1 : x ≤ 1073741824) :
    Calls Tryz.prog 23 #[.pointer (some ⟨s.xb k, 0, none⟩), .int .i64 x] w fun e w' => e = .returned (.tuple #[]) ∧ Hid (Turn w w' d s { s with win := Rg.upd s.win k x } G G) := by
  have h2 := h.out.x2 hk
  rw [h0] at h2
  have hf := h.out.xf hk 2
  have hr := h.out.con k hk
  obtain ⟨b, hb⟩ : ∃ b, s.xb k = b := ⟨_, rfl⟩
  rw [hb] at h2 hf ⊢
  have m1 : max x 0 = x := by omega
  have m2 : min x 1073741824 = x := by omega
  go_enter Tryz.func23, Tryz.ntmps23
  go_wp2_with fail
  go_end0
  refine ⟨rfl, hid ?_⟩
  refine Turn.conn (k := k) (busy' := s.busy) h.out hk ((Only.refl _ _).setCell (.inl hb.symm) _) (fun j hj => ⟨rfl, Rg.upd_ne _ _ hj⟩) ?_
  have := b_set hr 2 (.int .i64 x)
  rw [hb] at this ⊢
  rw [this]
  unfold connRow
  simp only [Rg.upd_at]
  rfl

/-- Feed: there is room. -/
theorem feed_any {w : World} {d : CellD} {s : St} {G : Nat → Prop} (k : Nat) (l : List Int) (bs : List UInt8) (A : Option Addr) (n c : Nat) (H' : Int) (h : Hid (CellIn w d s G)) (hk : k < s.n) (hl : s.L (2 * k) = l) (hroom : (n : Int) ≤ s.M - s.H) (hlH : (l.length : Int) ≤ s.H)
    (hB : Bs w A n c bs) (hsep : ∀ i, ab A i → ¬ G i) (eH : s.H + n = H') :
    Calls Tryz.prog 24 #[.pointer (some ⟨s.xb k, 0, none⟩), .slice A n c] w fun e w' => ∃ P' G', e = .returned (.bool true) ∧ Hid (Turn w w' d s { s with L := Rg.upd s.L (2 * k) (l ++ i8 bs), H := H', P := P' } G G') := by
  have h0 := h.out.x0 hk
  have hcl := closing_any k h hk
  have hp := Rg.rs_put (2 * k) _ l (i8 bs) A c H' _ h.out.rs (by omega) rfl hl (by rw [i8_len, hB.len]; exact hroom) hlH (by rw [i8_len, hB.len]; exact hB.le) hB.elems (fun _ a ha => hsep _ ⟨a, ha, rfl⟩) (by rw [i8_len, hB.len]; exact eH) rfl
  rw [i8_len, hB.len] at hp
  generalize s.xb k = x at h0 hcl ⊢
  replace hp := hid hp
  replace hcl := hid hcl
  go_enter Tryz.func24, Tryz.ntmps24
  go_wp2_with fail
  refine hcl.out.mono ?_
  rintro e w1 ⟨rfl, rfl⟩
  go_wp2_with fail
  refine hp.out.mono ?_
  rintro e w2 ⟨G', rfl, R, hG, O⟩
  go_wp2_with fail
  go_ret
  exact ⟨_, G', rfl, hid (Turn.rings h.out R O hG.out)⟩

/-- What has come. -/
theorem all_any {w : World} {d : CellD} {s : St} {G : Nat → Prop} (k : Nat) (bs : List UInt8) (n : Nat) (h : Hid (CellIn w d s G)) (hk : k < s.n) (hl : s.L (2 * k) = i8 bs) (hn : bs.length = n) (hlH : (n : Int) ≤ s.H) :
    Calls Tryz.prog 97 #[.pointer (some ⟨s.xb k, 0, none⟩)] w fun e w' => ∃ A c, e = .returned (.slice A n c) ∧ Bs w' A n c bs ∧ (∀ i, ab A i → i < w'.heap.size) ∧ Only (fun _ => False) w w' := by
  have h0 := h.out.x0 hk
  have hlen := fun (W : World) (o : Only (fun _ => False) w W) => Rg.rs_len (2 * k) _ (i8 bs) (hid (h.out.rs.out.same o (fun _ h => h.elim))) (by omega) rfl hl
  rw [i8_len, hn] at hlen
  have hpk := fun (W : World) (o : Only (fun _ => False) w W) => Rg.rs_peek (2 * k) _ (i8 bs) (n : Int) n (hid (h.out.rs.out.same o (fun _ h => h.elim))) (by omega) rfl hl (by rw [i8_len]; omega) (by rw [i8_len, hn]; exact hlH)
  have hxl := b_lt (h.out.con k hk)
  generalize s.xb k = x at h0 hxl ⊢
  generalize s.rg (2 * k) = r at h0 hlen hpk ⊢
  replace hlen := hid hlen
  replace hpk := hid hpk
  go_enter Tryz.func97, Tryz.ntmps97
  go_upto_region 1 with (fail)
  go_region_held3 (fun w' => w'.cell? ⟨x, 0, none⟩ = some (.pointer (some ⟨r, 0, none⟩))) (go_keep)
    (first | (go_at_call 65; refine (hlen.out _ (by exact ⟨rfl, rfl, rfl, Nat.le_refl _, fun _ _ _ => rfl⟩)).mono ?_; rintro e w1 ⟨rfl, rfl⟩) | (go_at_call 64; refine (hpk.out _ (by exact ⟨rfl, rfl, rfl, Nat.le_refl _, fun _ _ _ => rfl⟩)).mono ?_; rintro e w1 ⟨A, c, rfl, HB, _, O⟩; have h1 : w1.cell? ⟨x, 0, none⟩ = some (.pointer (some ⟨r, 0, none⟩)) := (O.cell (p := ⟨x, 0, none⟩) hxl (fun h => h)).trans h0))
  go_wp2_with fail
  go_ret
  refine ⟨A, c, rfl, rgOwn_bs (by have := HB.out; rwa [List.take_of_length_le (by rw [i8_len]; omega)] at this) hn, fun i hi => (rgOwn_blk HB.out i hi).2, ?_⟩
  exact (Only.refl _ w).drew.trans O

/-- How much could be written. -/
theorem want_any {w : World} {d : CellD} {s : St} {G : Nat → Prop} (k m : Nat) (h : Hid (CellIn w d s G)) (hk : k < s.n) (hl : (s.L (2 * k + 1)).length = m) (hw : (m : Int) ≤ s.win k) :
    Calls Tryz.prog 76 #[.pointer (some ⟨s.xb k, 0, none⟩)] w fun e w' => e = .returned (.int .i64 m) ∧ Only (fun _ => False) w w' := by
  have h1 := h.out.x1 hk
  have h2 := h.out.x2 hk
  have hlen := fun (W : World) (o : Only (fun _ => False) w W) => Rg.rs_len (2 * k + 1) _ _ (hid (h.out.rs.out.same o (fun _ h => h.elim))) (by omega) rfl rfl
  rw [hl] at hlen
  generalize s.xb k = x at h1 h2 ⊢
  generalize s.rg (2 * k + 1) = r at h1 hlen ⊢
  generalize s.win k = z at h2 hw ⊢
  have hm : min (m : Int) z = m := by omega
  replace hlen := hid hlen
  replace hl := hid hl
  go_enter Tryz.func76, Tryz.ntmps76
  go_upto_region 1 with (fail)
  go_region_held3 (fun w' => w'.cell? ⟨x, 1, none⟩ = some (.pointer (some ⟨r, 0, none⟩)) ∧ w'.cell? ⟨x, 2, none⟩ = some (.int .i64 z)) (go_keep)
    (first | (go_at_call 65; refine (hlen.out _ (by exact ⟨rfl, rfl, rfl, Nat.le_refl _, fun _ _ _ => rfl⟩)).mono ?_; rintro e w1 ⟨rfl, rfl⟩))
  go_wp2_with fail
  go_ret
  exact ⟨rfl, (Only.refl _ w).drew⟩

/-- Is all over? It isn't closing. -/
theorem done_any {w : World} {d : CellD} {s : St} {G : Nat → Prop} (k : Nat) (h : Hid (CellIn w d s G)) (hk : k < s.n) :
    Calls Tryz.prog 79 #[.pointer (some ⟨s.xb k, 0, none⟩)] w fun e w' => e = .returned (.bool false) ∧ w' = w := by
  have hcl := closing_any k h hk
  generalize s.xb k = x at hcl ⊢
  replace hcl := hid hcl
  go_enter Tryz.func79, Tryz.ntmps79
  go_wp2_with fail
  refine hcl.out.mono ?_
  rintro e w1 ⟨rfl, rfl⟩
  go_wp2_with fail
  go_ret
  exact ⟨rfl, rfl⟩

/-- A response is said; nothing closes. -/
theorem say_any {w : World} {d : CellD} {s : St} {G : Nat → Prop} (k : Nat) (l : List Int) (bs : List UInt8) (A : Option Addr) (n c : Nat) (H' : Int) (h : Hid (CellIn w d s G)) (hk : k < s.n) (hl : s.L (2 * k + 1) = l) (hroom : (n : Int) ≤ s.M - s.H) (hlH : (l.length : Int) ≤ s.H)
    (hB : Bs w A n c bs) (hsep : ∀ i, ab A i → ¬ Zb d s G i) (eH : s.H + n = H') :
    Calls Tryz.prog 158 #[.pointer (some ⟨s.xb k, 0, none⟩), .slice A n c, .bool false] w fun e w' => ∃ P' G', e = .returned (.bool true) ∧ Hid (Turn w w' d s { s with busy := Rg.upd s.busy k false, L := Rg.upd s.L (2 * k + 1) (l ++ i8 bs), H := H', P := P' } G G') := by
  have hf := h.out.xf hk 3
  have hr := h.out.con k hk
  have h3 := h.out.x3 hk
  obtain ⟨x, hx⟩ : ∃ x, s.xb k = x := ⟨_, rfl⟩
  rw [hx] at hf h3 ⊢
  go_enter Tryz.func158, Tryz.ntmps158
  go_upto_region 2 with (fail)
  have T1 : Turn w (w.setCell ⟨x, 3, none⟩ (.bool false)) d s { s with busy := Rg.upd s.busy k false } G G := by
    refine Turn.conn (k := k) (win' := s.win) h.out hk ((Only.refl _ _).setCell (.inl hx.symm) _) (fun j hj => ⟨Rg.upd_ne _ _ hj, rfl⟩) ?_
    have := b_set hr 3 (.bool false)
    rw [hx] at this ⊢
    rw [this]
    unfold connRow
    simp only [Rg.upd_at]
    rfl
  generalize w.setCell ⟨x, 3, none⟩ (.bool false) = w1 at T1 ⊢
  have C1 := T1.cell
  have h1 := C1.x1 (k := k) hk
  simp only at h1
  rw [hx] at h1
  have hB1 := hB.keep T1.only hsep
  have hp := Rg.rs_put (2 * k + 1) _ l (i8 bs) A c H' _ C1.rs (by show 2 * k + 1 < 2 * s.n; omega) rfl hl (by rw [i8_len, hB.len]; exact hroom) hlH (by rw [i8_len, hB.len]; exact hB.le) hB1.elems (fun _ a ha hg => hsep _ ⟨a, ha, rfl⟩ (.inl hg)) (by rw [i8_len, hB.len]; exact eH) rfl
  rw [i8_len, hB.len] at hp
  simp only at hp
  replace hp := hid hp
  replace T1 := hid T1
  replace C1 := hid C1
  clear hf hr h3
  go_wp2_with fail
  refine hp.out.mono ?_
  rintro e w2 ⟨G', rfl, R, hG, O⟩
  go_wp2_with fail
  go_ret
  exact ⟨_, G', rfl, hid (T1.out.trans (Turn.rings C1.out R O hG.out))⟩

/-- Bytes are written. -/
theorem cwrite_any {w : World} {d : CellD} {s : St} {G : Nat → Prop} (k m n : Nat) (h : Hid (CellIn w d s G)) (hk : k < s.n) (hl : (s.L (2 * k + 1)).length = m) (hw : (m : Int) ≤ s.win k) (hw1 : s.win k ≤ 1073741824) (hn : n ≤ m) (hlH : (m : Int) ≤ s.H) :
    Calls Tryz.prog 78 #[.pointer (some ⟨s.xb k, 0, none⟩), .int .i64 n] w fun e w' => ∃ A c, e = .returned (.slice A n c) ∧ Hid (Turn w w' d s { s with L := Rg.upd s.L (2 * k + 1) ((s.L (2 * k + 1)).drop n), H := s.H - n, win := Rg.upd s.win k (s.win k - n) } G G) := by
  have h1 := h.out.x1 hk
  have hxl := b_lt (h.out.con k hk)
  have hwant := fun (W : World) (o : Only (fun _ => False) w W) => want_any k m (hid (h.out.same o (fun _ h => h.elim))) hk hl hw
  have htk := fun (W : World) (o : Only (fun _ => False) w W) => Rg.rs_take (2 * k + 1) _ _ (n : Int) n (s.H - n) (hid (h.out.rs.out.same o (fun _ h => h.elim))) (by omega) rfl rfl (by rw [hl]; omega) (by rw [hl]; exact hlH) rfl
  have hnG : ¬ G (s.xb k) := fun hg => (h.out.nG _ hg).1 (.inr (.inr (.inr (.inr (.inl ⟨k, hk, rfl⟩)))))
  obtain ⟨x, hx⟩ : ∃ x, s.xb k = x := ⟨_, rfl⟩
  rw [hx] at h1 hxl hnG ⊢
  rw [hx] at hwant
  obtain ⟨r, hr⟩ : ∃ r, s.rg (2 * k + 1) = r := ⟨_, rfl⟩
  rw [hr] at h1 htk
  have m1 : max (n : Int) 0 = n := by omega
  have m2 : min (n : Int) (m : Int) = n := by omega
  replace hwant := hid hwant
  replace htk := hid htk
  replace hl := hid hl
  replace hx := hid hx
  replace hr := hid hr
  have hlt1 : ∀ W : World, Only (fun _ => False) w.drew W → x < W.heap.size := fun W o => Nat.lt_of_lt_of_le hxl o.size
  go_enter Tryz.func78, Tryz.ntmps78
  go_upto_region 1 with (fail)
  go_region_held3 (fun w' => w'.cell? ⟨x, 1, none⟩ = some (.pointer (some ⟨r, 0, none⟩))) (go_keep)
    (first | (go_at_call 76; refine (hwant.out _ (by exact ⟨rfl, rfl, rfl, Nat.le_refl _, fun _ _ _ => rfl⟩)).mono ?_; rintro e w1 ⟨rfl, O1⟩; have h1 : w1.cell? ⟨x, 1, none⟩ = some (.pointer (some ⟨r, 0, none⟩)) := (O1.cell (p := ⟨x, 1, none⟩) hxl (fun h => h)).trans h1) | (go_at_call 99; refine (htk.out _ ((Only.refl _ w).drew.trans O1)).mono ?_; rintro e w2 ⟨A, c, rfl, HB, R, O2⟩; have h1 : w2.cell? ⟨x, 1, none⟩ = some (.pointer (some ⟨r, 0, none⟩)) := (O2.cell (p := ⟨x, 1, none⟩) (hlt1 _ O1) hnG).trans h1))
  all_goals (
    have T2 : Turn w w2 d s { s with L := Rg.upd s.L (2 * k + 1) ((s.L (2 * k + 1)).drop n), H := s.H - n } G G :=
      (Turn.quiet h.out ((Only.refl _ w).drew.trans O1)).trans (Turn.rings (h.out.same ((Only.refl _ w).drew.trans O1) (fun _ h => h.elim)) R O2 (fun _ h => .inl h))
    have C2 := T2.cell
    have h2 := C2.x2 (k := k) hk
    have hf := C2.xf (k := k) hk 2
    have hrow := C2.con k hk
    simp only at h2 hf hrow
    rw [hx.out] at h2 hf
    have mw : IntKind.i64.wrap (s.win k - (n : Int)) = s.win k - n := IntWalk.i64_in _ (by omega)
    clear HB R O2 h1
    replace T2 := hid T2
    replace C2 := hid C2
    replace hrow := hid hrow
    go_wp2_with fail
    go_ret
    refine ⟨A, c, rfl, hid (T2.out.trans ?_)⟩
    refine Turn.conn (k := k) (busy' := s.busy) C2.out hk ((Only.refl _ _).setCell (.inl hx.out.symm) _) (fun j hj => ⟨rfl, Rg.upd_ne _ _ hj⟩) ?_
    have := b_set hrow.out 2 (.int .i64 (s.win k - n))
    simp only
    rw [hx.out] at this ⊢
    rw [this]
    unfold connRow
    simp only [Rg.upd_at]
    rfl)
end Go.Proofs.YtpblgjadpfecgaaGreatDoor
