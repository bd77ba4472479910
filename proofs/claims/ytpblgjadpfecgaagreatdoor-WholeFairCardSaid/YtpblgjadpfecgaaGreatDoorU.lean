/-
  Parse and Right of the package field.
-/
import Derived.Test.YtpblgjadpfecgaaGreatDoorP1
import Derived.Deep.RegionHeld3
import Derived.BigQuiet
import Derived.Lib.SmallJoins
set_option linter.unusedSimpArgs false
set_option linter.unusedVariables false
namespace Go.Proofs.YtpblgjadpfecgaaGreatDoor
open Go.RowKit

def parseV (l : List UInt8) : FD × Int := match parseF l with
  | none => (([], []), 20)
  | some p => (p, 0)
theorem load_fld {W : World} {g : Nat} {t : TypeId} {fr : Nat × Nat} {a b : Value} (h : W.heap[g]? = some (.cells #[a, b] t fr)) : (loadVar 197 ⟨g, 0, none⟩).run Tryz.prog W = .ok (.agg #[a, b]) W :=
  run_loadVar_row W g t _ _ fr _ h Tryz.underlying197 rfl (by kernel_rfl)
theorem ret_fld1 {fn : Func} {R : Ending → World → Prop} {tmps : Array Value} {W : World} (hf : fn.results = #[.cell 2 197, .tmp 3]) {g : Nat} {t : TypeId} {fr : Nat × Nat} {a b v : Value}
    (hrow : W.heap[g]? = some (.cells #[a, b] t fr)) (h2 : tmps.getD 2 undef = .pointer (some ⟨g, 0, none⟩)) (h3 : tmps.getD 3 undef = v) (hR : R (.returned (.tuple #[.agg #[a, b], v])) W) : bodyPost Tryz.prog fn R .ret ⟨tmps, []⟩ W :=
  bodyPost_ret (v := .tuple #[.agg #[a, b], v]) (by
    rw [results_cell_tmp hf]
    simp only
    rw [h2, h3]
    simp [asAddr, load_fld hrow]) rfl hR
theorem Only.set2 {S : Nat → Prop} {w W : World} (h : Only S w W) {g : Nat} (hg : S g ∨ w.heap.size ≤ g) (a b : Value) :
    Only S w ((W.setCell ⟨g, 0, none⟩ a).setCell ⟨g, 1, none⟩ b) := (h.setCell (p := ⟨g, 0, none⟩) hg a).setCell (p := ⟨g, 1, none⟩) hg b
theorem set2_row {W : World} {g : Nat} {t : TypeId} {x0 x1 : Value} (h : W.heap[g]? = some (.cells #[x0, x1] t (0, 0))) (a b : Value) :
    ((W.setCell ⟨g, 0, none⟩ a).setCell ⟨g, 1, none⟩ b).heap[g]? = some (.cells #[a, b] t (0, 0)) := b_set (b_set h 0 a) 1 b

theorem cells2 {W : World} {g : Nat} {t : TypeId} {a b : Value} (h : W.heap[g]? = some (.cells #[a, b] t (0, 0))) : W.cell? ⟨g, 0, none⟩ = some a ∧ W.cell? ⟨g, 1, none⟩ = some b ∧ W.frozen? ⟨g, 0, none⟩ = false ∧ W.frozen? ⟨g, 1, none⟩ = false :=
  ⟨b_cell h 0, b_cell h 1, b_free h 0, b_free h 1⟩
theorem cells5 {W : World} {g : Nat} {t : TypeId} {a b c d e : Value} (h : W.heap[g]? = some (.cells #[a, b, c, d, e] t (0, 0))) : (W.cell? ⟨g, 0, none⟩ = some a ∧ W.cell? ⟨g, 1, none⟩ = some b ∧ W.cell? ⟨g, 2, none⟩ = some c ∧ W.cell? ⟨g, 3, none⟩ = some d ∧ W.cell? ⟨g, 4, none⟩ = some e) ∧
    (W.frozen? ⟨g, 0, none⟩ = false ∧ W.frozen? ⟨g, 1, none⟩ = false ∧ W.frozen? ⟨g, 2, none⟩ = false ∧ W.frozen? ⟨g, 3, none⟩ = false ∧ W.frozen? ⟨g, 4, none⟩ = false) :=
  ⟨⟨b_cell h 0, b_cell h 1, b_cell h 2, b_cell h 3, b_cell h 4⟩, b_free h 0, b_free h 1, b_free h 2, b_free h 3, b_free h 4⟩
set_option maxRecDepth 100000 in
set_option maxHeartbeats 1000000 in
theorem parse_any (s : ByteArray) (hs : s.size < 4294967281) (w : World) (hG : Gl w) :
    Calls Tryz.prog 236 #[.string s] w fun e w' => e = .returned (.tuple #[.agg #[.string (B (parseV s.data.toList).1.1), .string (B (parseV s.data.toList).1.2)], .int .i64 (parseV s.data.toList).2]) ∧ Only (fun _ => False) w w' := by
  have hF : parseF s.data.toList = if (Lib.cut s.data.toList [58]).2.2 = true ∧ right (Lib.cut s.data.toList [58]).1 (trim (Lib.cut s.data.toList [58]).2.1) = true then some ((Lib.cut s.data.toList [58]).1, trim (Lib.cut s.data.toList [58]).2.1) else none := rfl
  have hln : (Lib.cut s.data.toList [58]).2.1.length ≤ s.data.toList.length := by
    unfold Lib.cut
    split
    · simp
    · simp
  rw [show s.data.toList.length = s.size by simp] at hln
  replace hF := hid hF
  obtain ⟨m, hm⟩ := hG.max
  have O0 : Only (fun _ => False) w (w.alloc (.cells #[.string ⟨#[]⟩, .string ⟨#[]⟩] 197)) := (Only.refl _ w).alloc _
  have hm0 := (O0.cell (p := ⟨0, 0, none⟩) (by have := hG.size; show 0 < _; omega) (fun h => h)).trans hm
  have hrow := b_new w (.cells #[.string ⟨#[]⟩, .string ⟨#[]⟩] 197)
  go_enter Tryz.func236, Tryz.ntmps236
  go_wp2_with fail
  refine (Tryz.strings_Cut s ⟨#[58]⟩ m _ hs hm0).mono ?_
  rintro e w1 ⟨rfl, nq, rfl⟩
  rw [show (⟨#[58]⟩ : ByteArray).data.toList = [58] from rfl]
  generalize Lib.cut s.data.toList [58] = cc at *
  obtain ⟨n, v, ok⟩ := cc
  replace O0 := O0.drewN nq
  replace hrow := b_drewN hrow nq
  generalize (w.alloc (.cells #[.string ⟨#[]⟩, .string ⟨#[]⟩] 197)).drewN nq = w1 at O0 hrow ⊢
  obtain ⟨g, hg⟩ : ∃ g, w.heap.size = g := ⟨_, rfl⟩
  rw [hg] at hrow ⊢
  clear hm0 hm
  have hvz : (B v).size ≤ 9223372036854775807 := by simp [ByteArray.size]; simp at hln; omega
  simp only [] at hF ⊢
  go_wp2_with fail
  refine (trim_any (B v) hvz _).mono ?_
  rintro e w2 ⟨rfl, O2⟩
  rw [show (B v).data.toList = v from rfl]
  replace O0 := O0.trans O2
  replace hrow := O2.keep hrow (fun h => h)
  clear O2 hvz hln
  obtain ⟨v2, hv2⟩ : ∃ v2, trim v = v2 := ⟨_, rfl⟩
  rw [hv2] at hF ⊢
  clear hv2
  have hgl := b_lt hrow
  have hg2 : w2.heap.size ≠ g := by omega
  have hgw : w.heap.size ≤ w2.heap.size := by omega
  obtain ⟨c0, c1, f0, f1⟩ := cells2 hrow
  cases ok
  · have hres : Hid (parseV s.data.toList = (([], []), 20)) := hid (by unfold parseV; rw [hF.out]; simp)
    clear hF
    go_wp2_with fail
    exact ret_fld1 Tryz.results236 (b_alloc (set2_row hrow ..) _) rfl rfl ⟨by rw [hres.out]; rfl, (O0.set2 (.inr (by omega)) ..).alloc _⟩
  · have hres : Hid (parseV s.data.toList = if right n v2 then ((n, v2), 0) else (([], []), 20)) := hid (by
      unfold parseV
      rw [hF.out]
      cases right n v2 <;> simp)
    clear hF
    go_wp2_with fail
    refine (right_any (B n) (B v2) _).mono ?_
    rintro e w3 ⟨rfl, O3⟩
    rw [show (B n).data.toList = n from rfl, show (B v2).data.toList = v2 from rfl]
    have O4 := (O0.alloc (.cells #[.string (B n), .string (B v2)] 197)).trans O3
    have hrow3 := O3.keep (b_alloc hrow (.cells #[.string (B n), .string (B v2)] 197)) (fun h => h)
    have hnew := O3.keep (b_new w2 (.cells #[.string (B n), .string (B v2)] 197)) (fun h => h)
    clear c0 c1 f0 f1 O0 O3 hrow
    obtain ⟨c0, c1, f0, f1⟩ := cells2 hrow3
    obtain ⟨d0, d1, _, _⟩ := cells2 hnew
    cases hrr : right n v2
    · have hres2 : Hid (parseV s.data.toList = (([], []), 20)) := hid (by rw [hres.out, hrr]; rfl)
      clear hres hrr
      go_wp2_with fail
      exact ret_fld1 Tryz.results236 (set2_row hrow3 ..) rfl rfl ⟨by rw [hres2.out]; rfl, O4.set2 (.inr (by omega)) ..⟩
    · have hres2 : Hid (parseV s.data.toList = ((n, v2), 0)) := hid (by rw [hres.out, hrr]; rfl)
      clear hres hrr
      go_wp2_with fail
      exact ret_fld1 Tryz.results236 (set2_row hrow3 ..) rfl rfl ⟨by rw [hres2.out]; rfl, O4.set2 (.inr (by omega)) ..⟩

theorem right1_any (n v : ByteArray) (w : World) : Calls Tryz.prog 322 #[.agg #[.string n, .string v]] w fun e w' => e = .returned (.bool (!right n.data.toList v.data.toList)) ∧ Only (fun _ => False) w w' := by
  go_enter Tryz.func322, Tryz.ntmps322
  go_wp2_with fail
  refine (right_any n v _).mono ?_
  rintro e w1 ⟨rfl, O1⟩
  have O := ((Only.refl (fun _ => False) w).alloc (.cells #[.string n, .string v] 197)).trans O1
  clear O1
  obtain ⟨b, hb⟩ : ∃ b, right n.data.toList v.data.toList = b := ⟨_, rfl⟩
  rw [hb]
  replace hb := hid hb
  go_wp2_with fail
  go_ret
  exact ⟨by rw [hb.out]; rfl, O⟩
set_option maxRecDepth 100000 in
set_option maxHeartbeats 1000000 in
theorem index_right (fs : List FD) (A : Option Addr) (c : Nat) (w : World) (hR : Row w A (fV fs)) (hn : fs.length ≤ 1000000) :
    Calls Tryz.prog 329 #[.slice A fs.length c, .func (.func 322) #[] #[]] w fun e w' => ∃ z : Int, e = .returned (.int .i64 z) ∧ (decide (0 ≤ z) = !fs.all (fun p => right p.1 p.2)) ∧ Only (fun _ => False) w w' := by
  obtain ⟨n, hnn⟩ : ∃ n, fs.length = n := ⟨_, rfl⟩
  rw [hnn] at hn ⊢
  replace hnn := hid hnn
  go_enter Tryz.func329, Tryz.ntmps329
  go_wp2_with fail
  go_loopw [8] (fun iv wr => ∃ k : Nat, k ≤ n ∧ iv = .int .i64 (k : Int) ∧ Hid (∀ i, i < k → ∀ p, fs[i]? = some p → right p.1 p.2 = true) ∧ Only (fun _ => False) w wr) (fun iv _ => n - (intOf iv).toNat)
  case atStart => exact ⟨0, by omega, rfl, hid (by omega), Only.refl _ _⟩
  case round =>
    obtain ⟨k, hk, rfl, hx, O⟩ := hrel
    by_cases hlt : k < n
    · obtain ⟨p, hp⟩ : ∃ p, fs[k]? = some p := ⟨_, List.getElem?_eq_getElem (by rw [hnn.out]; exact hlt)⟩
      obtain ⟨b, off, rfl, hb, c0, c1⟩ := fld_at (hR.same O) k p hp
      go_wp2_with fail
      refine (right1_any _ _ _).mono ?_
      rintro e w2 ⟨rfl, O2⟩
      rw [show (B p.1).data.toList = p.1 from rfl, show (B p.2).data.toList = p.2 from rfl]
      have O3 := O.trans O2
      have hx' : right p.1 p.2 = true → Hid (∀ i, i < k + 1 → ∀ p, fs[i]? = some p → right p.1 p.2 = true) := fun h => hid (by
        intro i hi q hq
        by_cases hik : i = k
        · subst hik
          rw [hp] at hq
          cases hq
          exact h
        · exact hx.out i (by omega) q hq)
      have hy : right p.1 p.2 = false → Hid (fs.all (fun p => right p.1 p.2) = false) := fun h => hid (by
        rw [List.all_eq_false]
        exact ⟨p, List.mem_of_getElem? hp, by rw [h]; decide⟩)
      replace hp := hid hp
      clear c0 c1 O2 O
      cases hr : right p.1 p.2
      · replace hy := hy hr
        clear hx' hr
        go_wp2_with fail
        go_ret
        exact ⟨k, rfl, by rw [hy.out]; simp, O3⟩
      · replace hx' := hx' hr
        clear hy hr
        go_wp2_with fail
        go_roundw
        case rel => exact ⟨k + 1, by omega, by simp, hx', O3⟩
        case measure => simp [intOf]; omega
    · have hall : Hid (fs.all (fun p => right p.1 p.2) = true) := hid (by
        rw [List.all_eq_true]
        intro p hp
        obtain ⟨i, hi, rfl⟩ := List.mem_iff_getElem.1 hp
        exact hx.out i (by rw [hnn.out] at hi; omega) _ (List.getElem?_eq_getElem hi))
      clear hx
      go_wp2_with fail
      go_ret
      exact ⟨-1, rfl, by rw [hall.out]; rfl, O⟩
theorem contains_right (fs : List FD) (A : Option Addr) (c : Nat) (w : World) (hR : Row w A (fV fs)) (hn : fs.length ≤ 1000000) :
    Calls Tryz.prog 321 #[.slice A fs.length c, .func (.func 322) #[] #[]] w fun e w' => e = .returned (.bool (!fs.all (fun p => right p.1 p.2))) ∧ Only (fun _ => False) w w' := by
  go_enter Tryz.func321, Tryz.ntmps321
  go_wp2_with fail
  refine (index_right fs A c w hR hn).mono ?_
  rintro e w1 ⟨z, rfl, hz, O1⟩
  replace hz := hid hz
  go_wp2_with fail
  go_ret
  exact ⟨by rw [← hz.out]; rfl, O1⟩
theorem right_all (fs : List FD) (A : Option Addr) (c : Nat) (w : World) (hR : Row w A (fV fs)) (hn : fs.length ≤ 40) :
    Calls Tryz.prog 300 #[.slice A fs.length c] w fun e w' => e = .returned (.bool (fs.all (fun p => right p.1 p.2))) ∧ Only (fun _ => False) w w' := by
  have hn' : (fs.length : Int) ≤ 40 := by omega
  obtain ⟨n, hnn⟩ : ∃ n, fs.length = n := ⟨_, rfl⟩
  have hc := fun w (hR : Row w A (fV fs)) => contains_right fs A c w hR (by omega)
  rw [hnn] at hn' hc ⊢
  clear hnn hn
  go_enter Tryz.func300, Tryz.ntmps300
  go_wp2_with fail
  refine (hc _ hR).mono ?_
  rintro e w1 ⟨rfl, O1⟩
  obtain ⟨b, hb⟩ : ∃ b, fs.all (fun p => right p.1 p.2) = b := ⟨_, rfl⟩
  rw [hb]
  replace hb := hid hb
  go_wp2_with fail
  go_ret
  exact ⟨by rw [hb.out]; simp, O1⟩
end Go.Proofs.YtpblgjadpfecgaaGreatDoor
/-
  The reader of the package chunk: line, size.
-/
namespace Go.Proofs.YtpblgjadpfecgaaGreatDoor
open Go.RowKit

theorem cutGo_le (most : Nat) (whole : List UInt8) : ∀ (l : List UInt8) (i : Nat), (cutGo most whole i l).2.1 ≤ i + l.length ∧ ((cutGo most whole i l).2.1 ≠ 0 → i + 2 ≤ (cutGo most whole i l).2.1) ∧ (cutGo most whole i l).1.length ≤ whole.length ∧ ((cutGo most whole i l).2.1 ≠ 0 → (cutGo most whole i l).2.2 = 0) ∧ 0 ≤ (cutGo most whole i l).2.2 ∧ (cutGo most whole i l).2.2 ≤ 20
  | [], i => by rw [cutGo_nil]; simp
  | c :: t, i => by
    rw [cutGo_cons]
    split
    · simp
    · split
      · cases t with
        | nil => simp
        | cons d t =>
          simp only []
          split
          · refine ⟨?_, fun _ => Nat.le_refl _, ?_, fun _ => rfl, by simp, by simp⟩
            · simp only [List.length_cons]; omega
            · simp only [List.length_take]; omega
          · simp
      · split
        · simp
        · obtain ⟨h1, h2, h3, h4⟩ := cutGo_le most whole t (i + 1)
          refine ⟨by simp only [List.length_cons]; omega, fun h => by have := h2 h; omega, h3, h4⟩
theorem cutF_le (l : List UInt8) (most : Nat) : (cutF l most).2.1 ≤ l.length ∧ ((cutF l most).2.1 ≠ 0 → 2 ≤ (cutF l most).2.1) ∧ (cutF l most).1.length ≤ l.length ∧ ((cutF l most).2.1 ≠ 0 → (cutF l most).2.2 = 0) ∧ 0 ≤ (cutF l most).2.2 ∧ (cutF l most).2.2 ≤ 20 := by
  have := cutGo_le most l l 0
  simpa [cutF] using this

theorem cells3 {W : World} {g : Nat} {t : TypeId} {a b c : Value} (h : W.heap[g]? = some (.cells #[a, b, c] t (0, 0))) : (W.cell? ⟨g, 0, none⟩ = some a ∧ W.cell? ⟨g, 1, none⟩ = some b ∧ W.cell? ⟨g, 2, none⟩ = some c) ∧ W.frozen? ⟨g, 0, none⟩ = false ∧ W.frozen? ⟨g, 1, none⟩ = false ∧ W.frozen? ⟨g, 2, none⟩ = false :=
  ⟨⟨b_cell h 0, b_cell h 1, b_cell h 2⟩, b_free h 0, b_free h 1, b_free h 2⟩
/-- The reader lies at g: over the bytes b, at a place; more: more are needed. -/
structure Rd (w : World) (g : Nat) (A : Option Addr) (n c : Nat) (b : List UInt8) (at_ : Nat) (more : Bool) : Prop where
  row : w.heap[g]? = some (.cells #[.slice A n c, .int .i64 (at_ : Int), .bool more] 376 (0, 0))
  bs : Bs w A n c b
  le : at_ ≤ n
  ne : ∀ i, ab A i → i ≠ g
section
variable {w w' : World} {g : Nat} {A : Option Addr} {n c : Nat} {b : List UInt8} {at_ : Nat} {more : Bool}
theorem Rd.same (h : Rd w g A n c b at_ more) (o : Only (fun _ => False) w w') : Rd w' g A n c b at_ more := ⟨o.keep h.row (fun h => h), h.bs.same o, h.le, h.ne⟩
theorem Rd.set1 (h : Rd w g A n c b at_ more) (k : Nat) (hk : k ≤ n) : Rd (w.setCell ⟨g, 1, none⟩ (.int .i64 (k : Int))) g A n c b k more :=
  ⟨b_set h.row 1 _, h.bs.keep (S := fun i => i = g) ((Only.refl (fun i => i = g) w).setCell (.inl rfl) _) (fun i hi => h.ne i hi), hk, h.ne⟩
theorem Rd.set2 (h : Rd w g A n c b at_ more) (m : Bool) : Rd (w.setCell ⟨g, 2, none⟩ (.bool m)) g A n c b at_ m :=
  ⟨b_set h.row 2 _, h.bs.keep (S := fun i => i = g) ((Only.refl (fun i => i = g) w).setCell (.inl rfl) _) (fun i hi => h.ne i hi), h.le, h.ne⟩
end
set_option maxRecDepth 100000 in
set_option maxHeartbeats 1000000 in
theorem rline_any (g : Nat) (A : Option Addr) (n c : Nat) (b : List UInt8) (at_ : Nat) (more : Bool) (w : World) (H : Rd w g A n c b at_ more) (hn : n ≤ 1000000000) :
    Calls Tryz.prog 313 #[.pointer (some ⟨g, 0, none⟩)] w fun e w' => e = .returned (.tuple #[.string (B (cutF (b.drop at_) 256).1), .int .i64 (cutF (b.drop at_) 256).2.2]) ∧
      Rd w' g A n c b (at_ + (cutF (b.drop at_) 256).2.1) (decide ((cutF (b.drop at_) 256).2.1 = 0) && decide ((cutF (b.drop at_) 256).2.2 = 0)) ∧ Only (fun i => i = g) w w' := by
  have hle := H.le
  have hc := H.bs.le
  have hbl := H.bs.len
  have hcut := fun w1 (hb : Bs w1 (dropA A c at_) (n - at_) (c - at_) (b.drop at_)) => cut_any (b.drop at_) 256 (dropA A c at_) (n - at_) (c - at_) w1 hb (by omega) (by omega)
  have hcl := cutF_le (b.drop at_) 256
  have hdl : (b.drop at_).length = n - at_ := by rw [List.length_drop, hbl]
  obtain ⟨x, hx⟩ : ∃ x, cutF (b.drop at_) 256 = x := ⟨_, rfl⟩
  rw [hx] at hcl ⊢
  simp only [hx] at hcut
  obtain ⟨s, k, er⟩ := x
  rw [hdl] at hcl
  simp only [] at hcl hcut ⊢
  obtain ⟨k1, k2, _, k3, k4, k5⟩ := hcl
  clear hx hdl
  have hHB := hid (H.bs.drop at_ hle)
  replace hbl := hid hbl
  obtain ⟨⟨c0, c1, c2⟩, f0, f1, f2⟩ := cells3 H.row
  have sl1 := run_l A n c at_ hle
  have sl1' := run_l' A n c at_ hle
  replace k2 := hid k2
  replace k3 := hid k3
  replace hcut := hid hcut
  have e1 : IntKind.i64.wrap ((at_ : Int) + (k : Int)) = ((at_ + k : Nat) : Int) := by
    rw [IntKind.wrap_i64]; omega
  go_enter Tryz.func313, Tryz.ntmps313
  go_upto_region 1 with (fail)
  go_quiet ((go_at_call 235; exact Calls.quiet_of_same ((hcut.out _ (hHB.out.same (by exact ⟨rfl, rfl, rfl, Nat.le_refl _, fun _ _ _ => rfl⟩))).mono fun _ _ ⟨h1, h2⟩ => ⟨h1, h2.symm⟩)))
  clear c0 c1 c2 f0 f1 f2 sl1 sl1'
  have H1 := H.same (Only.drewN (Only.refl (fun _ => False) w) nq)
  have O1 := Only.drewN (Only.refl (fun i => i = g) w) nq
  generalize w.drewN nq = w1 at H1 O1 ⊢
  obtain ⟨⟨c0, c1, c2⟩, f0, f1, f2⟩ := cells3 H1.row
  have O2 : ∀ u v, Only (fun i => i = g) w ((w1.setCell ⟨g, 1, none⟩ u).setCell ⟨g, 2, none⟩ v) := fun u v => (O1.setCell (p := ⟨g, 1, none⟩) (.inl rfl) u).setCell (p := ⟨g, 2, none⟩) (.inl rfl) v
  have H2 : ∀ m, Rd ((w1.setCell ⟨g, 1, none⟩ (.int .i64 ((at_ : Int) + (k : Int)))).setCell ⟨g, 2, none⟩ (.bool m)) g A n c b (at_ + k) m := fun m => by
    have := (H1.set1 (at_ + k) (by omega)).set2 m
    rw [show (((at_ + k : Nat) : Int)) = (at_ : Int) + (k : Int) by omega] at this
    exact this
  replace O2 := hid O2
  replace H2 := hid H2
  clear e1
  by_cases hk : k = 0
  · subst hk
    by_cases her : er = 0
    · subst her
      go_wp2_with fail
      go_ret2
      exact ⟨rfl, by simpa using H2.out true, by simpa using O2.out _ _⟩
    · have her' : (er == 0) = false := by simpa using her
      replace her := hid her
      go_wp2_with fail
      go_ret2
      exact ⟨rfl, by simpa [her.out] using H2.out false, by simpa using O2.out _ _⟩
  · have hk' : ((k : Int) == 0) = false := by simpa using hk
    have hk2 : decide (k = 0) = false := by simpa using hk
    replace hk := hid hk
    replace hk2 := hid hk2
    go_wp2_with fail
    go_ret2
    exact ⟨rfl, by rw [hk2.out, Bool.false_and]; exact H2.out false, O2.out _ _⟩

theorem Gl.keep {S : Nat → Prop} {w w' : World} (h : Gl w) (o : Only S w w') (hs : ∀ i, i < 6 → ¬ S i) : Gl w' := by
  obtain ⟨m, hm⟩ := h.max
  have hz := h.size
  exact ⟨⟨m, (o.cell (by show 0 < _; omega) (hs 0 (by omega))).trans hm⟩, Nat.le_trans hz o.size, by
    have hp := h.pow
    unfold Lib.TabIs World.var? at hp ⊢
    rw [pow_glob] at hp ⊢
    simp only [Option.bind_some] at hp ⊢
    rw [o.block 1 (by omega) (hs 1 (by omega))]
    exact hp, (o.cell (by show 5 < _; omega) (hs 5 (by omega))).trans h.tab⟩
theorem Gl.g {w w' : World} {g : Nat} (h : Gl w) (hg : 6 ≤ g) (o : Only (fun i => i = g) w w') : Gl w' := h.keep o (fun i hi e => by omega)

theorem trimRight_any (s : ByteArray) (hs : s.size ≤ 9223372036854775807) (w : World) : Calls Tryz.prog 315 #[.string s, .string ⟨#[32, 9]⟩] w fun e w' => e = .returned (.string (B (Lib.trimRightS s.data.toList blanks))) ∧ Only (fun _ => False) w w' :=
  (Any.strings_TrimRight_laid Tryz.lays162 (by kernel_rfl) s ⟨#[32, 9]⟩ w hs (by decide) (ascii_of_all (by decide))).mono fun _ _ ⟨h1, h2⟩ => ⟨h1, Only.of_below h2⟩
theorem trimRightS_len (l cs : List UInt8) : (Lib.trimRightS l cs).length ≤ l.length := by
  unfold Lib.trimRightS
  rw [List.length_reverse]
  exact Nat.le_trans (List.dropWhile_sublist _).length_le (by simp)
theorem cut_len (l p : List UInt8) : (Lib.cut l p).1.length ≤ l.length ∧ (Lib.cut l p).2.1.length ≤ l.length := by
  unfold Lib.cut
  split
  · simp; omega
  · simp

set_option maxRecDepth 100000 in
set_option maxHeartbeats 1000000 in
theorem rsize_any (g : Nat) (A : Option Addr) (n c : Nat) (b : List UInt8) (at_ : Nat) (more : Bool) (w : World) (H : Rd w g A n c b at_ more) (hn : n ≤ 1000000000) (hG : Gl w) (hg : 6 ≤ g) :
    Calls Tryz.prog 278 #[.pointer (some ⟨g, 0, none⟩)] w fun e w' => e = .returned (.tuple #[.int .i64 (sizeF (b.drop at_)).1, .int .i64 (sizeF (b.drop at_)).2.1]) ∧
      Rd w' g A n c b (at_ + (sizeF (b.drop at_)).2.2.2) (sizeF (b.drop at_)).2.2.1 ∧ Only (fun i => i = g) w w' := by
  have hF : sizeF (b.drop at_) = (
    if (cutF (b.drop at_) 256).2.2 ≠ 0 then (0, (cutF (b.drop at_) 256).2.2, false, (cutF (b.drop at_) 256).2.1)
    else if (cutF (b.drop at_) 256).2.1 = 0 then (0, 0, true, 0)
    else if (number 16 15 (Lib.trimRightS (Lib.cut (cutF (b.drop at_) 256).1 [59]).1 blanks)).2 = true ∧ (Lib.cut (cutF (b.drop at_) 256).1 [59]).2.1.all valC = true then ((number 16 15 (Lib.trimRightS (Lib.cut (cutF (b.drop at_) 256).1 [59]).1 blanks)).1, 0, false, (cutF (b.drop at_) 256).2.1)
    else (0, 30, false, (cutF (b.drop at_) 256).2.1)) := rfl
  have hL := rline_any g A n c b at_ more w H hn
  have hcl := (cutF_le (b.drop at_) 256).2.2.1
  have hdl : (b.drop at_).length ≤ n := by rw [List.length_drop, H.bs.len]; omega
  obtain ⟨x, hx⟩ : ∃ x, cutF (b.drop at_) 256 = x := ⟨_, rfl⟩
  rw [hx] at hF hL hcl
  obtain ⟨s, k, er⟩ := x
  simp only [] at hF hL hcl
  have hsl : s.length ≤ n := by omega
  clear hx hcl hdl
  replace hF := hid hF
  go_enter Tryz.func278, Tryz.ntmps278
  go_wp2_with fail
  refine hL.mono ?_
  rintro e w1 ⟨rfl, H1, O1⟩
  clear hL
  by_cases her : er = 0
  case neg =>
    have her' : (er != 0) = true := by simpa using her
    have hres : Hid (sizeF (b.drop at_) = (0, er, false, k)) := hid (by rw [hF.out, if_pos her])
    rw [show decide (er = 0) = false by simpa using her, Bool.and_false] at H1
    clear hF
    replace her := hid her
    go_wp2_with fail
    go_ret2
    exact ⟨by rw [hres.out]; rfl, by rw [hres.out]; exact H1, O1⟩
  subst her
  by_cases hk : k = 0
  · subst hk
    have hres : Hid (sizeF (b.drop at_) = (0, 0, true, 0)) := hid (by rw [hF.out, if_neg (by simp), if_pos rfl])
    clear hF
    simp only [decide_true, Bool.and_self] at H1
    obtain ⟨⟨c0, c1, c2⟩, f0, f1, f2⟩ := cells3 H1.row
    go_wp2_with fail
    go_ret2
    exact ⟨by rw [hres.out]; rfl, by rw [hres.out]; exact H1, O1⟩
  rw [show decide (k = 0) = false by simpa using hk, Bool.false_and] at H1
  have hF2 := hF.out
  rw [if_neg (by simp), if_neg hk] at hF2
  replace hF2 := hid hF2
  clear hF
  obtain ⟨⟨c0, c1, c2⟩, f0, f1, f2⟩ := cells3 H1.row
  have hG1 := hG.g hg O1
  obtain ⟨m, hm⟩ := hG1.max
  have hsz : (B s).size < 4294967281 := by rw [B_size]; omega
  go_wp2_with fail
  refine (Tryz.strings_Cut (B s) ⟨#[59]⟩ m _ hsz hm).mono ?_
  rintro e w2 ⟨rfl, nq, rfl⟩
  rw [show (⟨#[59]⟩ : ByteArray).data.toList = [59] from rfl, show (B s).data.toList = s from rfl]
  have hcl := cut_len s [59]
  generalize Lib.cut s [59] = cc at *
  obtain ⟨s1, s2, ok⟩ := cc
  simp only [] at hF2 hcl ⊢
  have O2 := O1.drewN nq
  have H2 := H1.same (Only.drewN (Only.refl (fun _ => False) w1) nq)
  clear O1 H1 c0 c1 c2 f0 f1 f2 hm hG1
  generalize w1.drewN nq = w2 at O2 H2 ⊢
  have hs1 : (B s1).size ≤ 9223372036854775807 := by rw [B_size]; omega
  have hs2 : (B s2).size ≤ 9223372036854775807 := by rw [B_size]; omega
  have htl := trimRightS_len s1 blanks
  go_wp2_with fail
  refine (trimRight_any (B s1) hs1 _).mono ?_
  rintro e w3 ⟨rfl, O3⟩
  rw [show (B s1).data.toList = s1 from rfl]
  generalize Lib.trimRightS s1 blanks = s3 at *
  have hs3 : (B s3).size ≤ 9223372036854775807 := by rw [B_size]; omega
  replace O2 := O2.trans' O3 (fun _ h => h.elim)
  replace H2 := H2.same O3
  clear O3
  go_wp2_with fail
  refine (hex_any (B s3) hs3 _).mono ?_
  rintro e w4 ⟨rfl, O4⟩
  rw [show (B s3).data.toList = s3 from rfl]
  replace O2 := O2.trans' O4 (fun _ h => h.elim)
  replace H2 := H2.same O4
  clear O4
  generalize number 16 15 s3 = q at *
  obtain ⟨z, ok2⟩ := q
  simp only [] at hF2 ⊢
  cases ok2
  · have hres : Hid (sizeF (b.drop at_) = (0, 30, false, k)) := hid (by rw [hF2.out, if_neg (by simp)])
    go_wp2_with fail
    go_ret2
    exact ⟨by rw [hres.out]; rfl, by rw [hres.out]; exact H2, O2⟩
  · go_wp2_with fail
    refine (value_any (B s2) hs2 _).mono ?_
    rintro e w5 ⟨rfl, rfl⟩
    rw [show (B s2).data.toList = s2 from rfl]
    cases hv : s2.all valC
    · have hres : Hid (sizeF (b.drop at_) = (0, 30, false, k)) := hid (by rw [hF2.out, if_neg (by rw [hv]; simp)])
      replace hv := hid hv
      go_wp2_with fail
      go_ret2
      exact ⟨by rw [hres.out]; rfl, by rw [hres.out]; exact H2, O2⟩
    · have hres : Hid (sizeF (b.drop at_) = (z, 0, false, k)) := hid (by rw [hF2.out, if_pos (by simp [hv])])
      replace hv := hid hv
      go_wp2_with fail
      go_ret2
      exact ⟨by rw [hres.out]; rfl, by rw [hres.out]; exact H2, O2⟩
end Go.Proofs.YtpblgjadpfecgaaGreatDoor
/-
  The reader of the package chunk: data, trailer.
-/
namespace Go.Proofs.YtpblgjadpfecgaaGreatDoor
open Go.RowKit

theorem dataF_len (r : List UInt8) (n : Nat) : ((dataF r n).2.1 = 0 → (dataF r n).2.2.1 = false → n + 2 ≤ r.length ∧ (dataF r n).1 = r.take n ∧ (dataF r n).2.2.2 = n + 2) ∧ ((dataF r n).2.1 = 0 ∨ (dataF r n).2.1 = 20) := by
  unfold dataF
  split
  · simp
  · split
    · simp
    · rename_i h
      simp
      omega
set_option maxRecDepth 100000 in
set_option maxHeartbeats 2000000 in
theorem rdata_any (g : Nat) (A : Option Addr) (n c : Nat) (b : List UInt8) (at_ : Nat) (w : World) (d : Nat) (H : Rd w g A n c b at_ false) (hn : n ≤ 1000000000) (hd : d ≤ 1000000000) (hgw : g < w.heap.size) :
    Calls Tryz.prog 279 #[.pointer (some ⟨g, 0, none⟩), .int .i64 (d : Int)] w fun e w' => ∃ A' c', e = .returned (.tuple #[.slice A' (dataF (b.drop at_) d).1.length c', .int .i64 (dataF (b.drop at_) d).2.1]) ∧
      Bs w' A' (dataF (b.drop at_) d).1.length c' (dataF (b.drop at_) d).1 ∧ (∀ i, ab A' i → i ≠ g) ∧ Rd w' g A n c b (at_ + (dataF (b.drop at_) d).2.2.2) (dataF (b.drop at_) d).2.2.1 ∧ Only (fun i => i = g) w w' := by
  have hle := H.le
  have hc := H.bs.le
  have hbl := H.bs.len
  obtain ⟨r, hr⟩ : ∃ r, b.drop at_ = r := ⟨_, rfl⟩
  have hrl : r.length = n - at_ := by rw [← hr, List.length_drop, hbl]
  have hF : dataF r d = (if (d < r.length ∧ r[d]? ≠ some 13) ∨ (d + 1 < r.length ∧ r[d + 1]? ≠ some 10) then ([], 20, false, 0)
    else if r.length < d + 2 then ([], 0, true, 0)
    else (r.take d, 0, false, d + 2)) := rfl
  have hB := H.bs.drop at_ hle
  rw [hr] at hB ⊢
  rw [hrl] at hF
  replace hF := hid hF
  replace hr := hid hr
  replace hbl := hid hbl
  obtain ⟨⟨c0, c1, c2⟩, f0, f1, f2⟩ := cells3 H.row
  have sl1 := run_l A n c at_ hle
  have sl1' := run_l' A n c at_ hle
  obtain ⟨A1, hA1⟩ : ∃ A1, dropA A c at_ = A1 := ⟨_, rfl⟩
  have hA1g : Hid (∀ i, ab A1 i → i ≠ g) := hid (by
    rintro i ⟨a, rfl, rfl⟩
    unfold dropA at hA1
    split at hA1
    · subst hA1
      exact H.ne _ ⟨_, rfl, rfl⟩
    · obtain ⟨a0, h0, rfl⟩ := Option.map_eq_some_iff.1 hA1
      subst h0
      exact H.ne _ ⟨a0, rfl, by simp [Addr.add]; split <;> rfl⟩)
  rw [hA1] at hB sl1 sl1'
  clear hA1
  have kc := fun (w : World) (C : Array Value) (n c g : Nat) (hg : g = w.heap.size) => Joins.run_convert_bytes_const_at (P := Tryz.prog) w 30 5 C n c g hg Tryz.underlying30 Tryz.underlying5
  go_enter Tryz.func279, Tryz.ntmps279
  go_upto_region 1 with (fail)
  go_quiet (fail)
  clear c0 c1 c2 f0 f1 f2 sl1 sl1'
  have H1 := H.same (Only.drewN (Only.refl (fun _ => False) w) nq)
  have O1 := Only.drewN (Only.refl (fun i => i = g) w) nq
  have hB1 := hB.same (Only.drewN (Only.refl (fun _ => False) w) nq)
  clear H hB
  generalize w.drewN nq = w1 at H1 O1 hB1 ⊢
  go_upto_region 3 with (fail)
  clear kc
  have O2 : Only (fun _ => False) w1 (w1.alloc (.cells #[.int .u8 13, .int .u8 10] 5 (2, 3))) := (Only.refl _ _).alloc _
  have hrow2 := b_new w1 (.cells #[.int .u8 13, .int .u8 10] 5 (2, 3))
  replace O1 := O1.trans' O2 (fun _ h => h.elim)
  replace H1 := H1.same O2
  replace hB1 := hB1.same O2
  clear O2
  obtain ⟨g2, hg2⟩ : ∃ g2, w1.heap.size = g2 := ⟨_, rfl⟩
  rw [hg2] at hrow2
  have e0 := b_cell hrow2 0
  have e1 := b_cell hrow2 1
  simp only [List.getElem?_toArray, List.getElem?_cons_zero, List.getElem?_cons_succ] at e0 e1
  generalize w1.alloc (.cells #[.int .u8 13, .int .u8 10] 5 (2, 3)) = w2 at H1 O1 hB1 hrow2 e0 e1 ⊢
  rw [hg2]
  clear hrow2 hg2
  replace O1 := hid O1
  replace H1 := hid H1
  obtain ⟨m, hm⟩ : ∃ m, n - at_ = m := ⟨_, rfl⟩
  have hmn : m ≤ n := by omega
  have hmle : at_ + m ≤ n := by omega
  obtain ⟨c2, hc2⟩ : ∃ c2, c - at_ = c2 := ⟨_, rfl⟩
  have hmc : m ≤ c2 := by omega
  rw [hm] at hF hrl
  rw [hm, hc2] at hB1
  rw [hm, hc2]
  clear hm hc2
  replace hrl := hid hrl
  go_loopw [21] (fun iv wr => ∃ k : Nat, k ≤ 2 ∧ iv = .int .i64 (k : Int) ∧ wr = w2 ∧ Hid (0 < k → ¬ (d < m ∧ r[d]? ≠ some 13)) ∧ Hid (1 < k → ¬ (d + 1 < m ∧ r[d + 1]? ≠ some 10))) (fun iv _ => 2 - (intOf iv).toNat)
  case atStart => exact ⟨0, by omega, rfl, rfl, hid (by omega), hid (by omega)⟩
  case round =>
    obtain ⟨k, hk, rfl, rfl, hx, hy⟩ := hrel
    rcases (show k = 0 ∨ k = 1 ∨ k = 2 by omega) with rfl | rfl | rfl
    · clear hx hy
      by_cases h1 : d < m
      · obtain ⟨p, hp⟩ : ∃ p, r[d]? = some p := ⟨_, List.getElem?_eq_getElem (by rw [hrl.out]; exact h1)⟩
        obtain ⟨q, off, rfl, hb, q0⟩ := hB1.at_ d p hp
        by_cases hpe : p = 13
        · subst hpe
          rw [show ((13 : UInt8).toNat : Int) = 13 from rfl] at q0
          have hn1 : Hid (¬ (d < m ∧ r[d]? ≠ some 13)) := hid (fun h => h.2 hp)
          replace hp := hid hp
          go_wp2_with fail
          go_roundw
          case rel => exact ⟨1, by omega, by simp, by simp, hid (fun _ => hn1.out), hid (by omega)⟩
          case measure => simp [intOf]
        · have hres : Hid (dataF r d = ([], 20, false, 0)) := hid (by rw [hF.out, if_pos (.inl ⟨h1, by rw [hp]; simpa using hpe⟩)])
          have v := u8_ne p 13 hpe
          change ¬ (p.toNat : Int) = 13 at v
          have v2 : ((p.toNat : Int) != 13) = true := by simpa using v
          replace hp := hid hp
          replace hpe := hid hpe
          clear hF
          go_wp2_with fail
          go_ret2
          refine ⟨none, 0, by rw [hres.out]; rfl, by rw [hres.out]; exact Bs.empty _, ?_, by rw [hres.out]; exact H1.out, O1.out⟩
          rintro i ⟨a, h, _⟩
          cases h
      · have hn1 : Hid (¬ (d < m ∧ r[d]? ≠ some 13)) := hid (fun h => h1 h.1)
        go_wp2_with fail
        go_roundw
        case rel => exact ⟨1, by omega, by simp, by simp, hid (fun _ => hn1.out), hid (by omega)⟩
        case measure => simp [intOf]
    · have hx' := hx.out (by omega)
      clear hx hy
      replace hx' := hid hx'
      by_cases h1 : d + 1 < m
      · obtain ⟨p, hp⟩ : ∃ p, r[d + 1]? = some p := ⟨_, List.getElem?_eq_getElem (by rw [hrl.out]; exact h1)⟩
        obtain ⟨q, off, rfl, hb, q0⟩ := hB1.at_ (d + 1) p hp
        have h1i : (d : Int) + 1 < m := by omega
        by_cases hpe : p = 10
        · subst hpe
          rw [show ((10 : UInt8).toNat : Int) = 10 from rfl] at q0
          have hn1 : Hid (¬ (d + 1 < m ∧ r[d + 1]? ≠ some 10)) := hid (fun h => h.2 hp)
          replace hp := hid hp
          go_wp2_with fail
          go_roundw
          case rel => exact ⟨2, by omega, by simp, by simp, hid (fun _ => hx'.out), hid (fun _ => hn1.out)⟩
          case measure => simp [intOf]
        · have hres : Hid (dataF r d = ([], 20, false, 0)) := hid (by rw [hF.out, if_pos (.inr ⟨h1, by rw [hp]; simpa using hpe⟩)])
          have v := u8_ne p 10 hpe
          change ¬ (p.toNat : Int) = 10 at v
          have v2 : ((p.toNat : Int) != 10) = true := by simpa using v
          replace hp := hid hp
          replace hpe := hid hpe
          clear hF
          go_wp2_with fail
          go_ret2
          refine ⟨none, 0, by rw [hres.out]; rfl, by rw [hres.out]; exact Bs.empty _, ?_, by rw [hres.out]; exact H1.out, O1.out⟩
          rintro i ⟨a, h, _⟩
          cases h
      · have hn1 : Hid (¬ (d + 1 < m ∧ r[d + 1]? ≠ some 10)) := hid (fun h => h1 h.1)
        have h1i : ¬ (d : Int) + 1 < m := by omega
        go_wp2_with fail
        go_roundw
        case rel => exact ⟨2, by omega, by simp, by simp, hid (fun _ => hx'.out), hid (fun _ => hn1.out)⟩
        case measure => simp [intOf]
    · have hx' := hx.out (by omega)
      have hy' := hy.out (by omega)
      have hF2 := hF.out
      rw [if_neg (fun h => h.elim hx' hy')] at hF2
      clear hF hx hy hx' hy'
      obtain ⟨⟨c0, c1, c3⟩, f0, f1, f2⟩ := cells3 H1.out.row
      by_cases hlm : m < d + 2
      · have hres : Hid (dataF r d = ([], 0, true, 0)) := hid (by rw [hF2, if_pos hlm])
        have hi : (m : Int) < (d : Int) + 2 := by omega
        have H2 := hid (H1.out.set2 true)
        have O2 := hid (O1.out.setCell (p := ⟨g, 2, none⟩) (.inl rfl) (.bool true))
        clear hF2
        go_wp2_with fail
        go_ret2
        refine ⟨none, 0, by rw [hres.out]; rfl, by rw [hres.out]; exact Bs.empty _, ?_, by rw [hres.out]; exact H2.out, O2.out⟩
        rintro i ⟨a, h, _⟩
        cases h
      · have hres : Hid (dataF r d = (r.take d, 0, false, d + 2)) := hid (by rw [hF2, if_neg hlm])
        have hi : ¬ (m : Int) < (d : Int) + 2 := by omega
        have H2 := H1.out.set1 (at_ + (d + 2)) (by omega)
        rw [show ((at_ + (d + 2) : Nat) : Int) = (at_ : Int) + ((d : Int) + 2) by omega] at H2
        have O2 := hid (O1.out.setCell (p := ⟨g, 1, none⟩) (.inl rfl) (.int .i64 ((at_ : Int) + ((d : Int) + 2))))
        have hB2 := hid ((hB1.take d (by omega)).keep (S := fun i => i = g) ((Only.refl (fun i => i = g) wr).setCell (p := ⟨g, 1, none⟩) (.inl rfl) (.int .i64 ((at_ : Int) + ((d : Int) + 2)))) (fun i hi => hA1g.out i hi))
        have hlt : Hid ((r.take d).length = d) := hid (by rw [List.length_take, hrl.out]; omega)
        have sl1 := run_h A1 m c2 d (by omega)
        have sl1' := run_h' A1 m c2 d (by omega)
        replace H2 := hid H2
        clear hF2
        go_wp2_with fail
        go_ret2
        refine ⟨A1, c2, by rw [hres.out, hlt.out]; rfl, by rw [hres.out, hlt.out]; exact hB2.out, hA1g.out, by rw [hres.out]; exact H2.out, O2.out⟩
end Go.Proofs.YtpblgjadpfecgaaGreatDoor
