/-
  Flows: slices of pairs of numbers; Clone, SortStableFunc, CompactFunc at flows that rise.
-/
import Derived.Test.YtpblgjadpfecgaaGreatDoorFf
import Derived.Test.YtpblgjadpfecgaaGreatDoorFa
import Derived.Lib.SliceRun
set_option linter.unusedSimpArgs false
set_option linter.unusedVariables false
namespace Go.Proofs.YtpblgjadpfecgaaGreatDoor
open Go.RowKit

def gV : List (Nat × Nat) → List Value
  | [] => []
  | p :: t => .int .i64 (p.1 : Int) :: .int .i64 (p.2 : Int) :: gV t
theorem gV_len : ∀ (a : List (Nat × Nat)), (gV a).length = a.length * 2
  | [] => rfl
  | p :: t => by simp [gV, gV_len t]; omega
theorem gV_app : ∀ (a b : List (Nat × Nat)), gV (a ++ b) = gV a ++ gV b
  | [], _ => rfl
  | p :: t, b => by simp [gV, gV_app t b]
theorem gV_one : ∀ (l : List (Nat × Nat)), ∀ u ∈ gV l, u.oneCell' = true
  | [], u, h => by cases h
  | p :: t, u, h => by
    simp only [gV, List.mem_cons] at h
    rcases h with rfl | rfl | h
    · rfl
    · rfl
    · exact gV_one t u h
theorem gV_at : ∀ (l : List (Nat × Nat)) (i : Nat) (p : Nat × Nat), l[i]? = some p → (gV l)[i * 2]? = some (.int .i64 (p.1 : Int)) ∧ (gV l)[i * 2 + 1]? = some (.int .i64 (p.2 : Int))
  | q :: t, 0, p, h => by
    simp at h
    subst h
    exact ⟨rfl, rfl⟩
  | q :: t, i + 1, p, h => by
    have := gV_at t i p (by simpa using h)
    rw [show (i + 1) * 2 = i * 2 + 1 + 1 by omega]
    simpa [gV] using this
theorem flow_at {w : World} {A : Option Addr} {l : List (Nat × Nat)} (h : Row w A (gV l)) (k : Nat) (p : Nat × Nat) (hp : l[k]? = some p) :
    ∃ b off, A = some ⟨b, off, none⟩ ∧ b < w.heap.size ∧ w.cell? ⟨b, off + k * 2, none⟩ = some (.int .i64 (p.1 : Int)) ∧ w.cell? ⟨b, off + k * 2 + 1, none⟩ = some (.int .i64 (p.2 : Int)) := by
  obtain ⟨hp1, hp2⟩ := gV_at l k p hp
  obtain ⟨b, off, rfl, hb, c0⟩ := h.at_ _ _ hp1
  obtain ⟨b', off', e, _, c1⟩ := h.at_ _ _ hp2
  cases e
  exact ⟨b, off, rfl, hb, c0, c1⟩
/-- The connections rise. -/
def Up (l : List (Nat × Nat)) : Prop := ∀ i p r, l[i]? = some p → l[i + 1]? = some r → p.1 < r.1
theorem info_flow : (Tryz.prog.info? 174).map (fun i => (i.zero, i.size, i.bytes)) = some (some (.agg #[.int .i64 0, .int .i64 0]), 2, 16) := by kernel_rfl
theorem info_grant : (Tryz.prog.info? 178).map (fun i => (i.zero, i.size, i.bytes)) = some (some (.agg #[.int .i64 0, .int .i64 0]), 2, 16) := by kernel_rfl
def OwnG (w : World) (base : Nat) (e : TypeId) (A : Option Addr) (c : Nat) (l : List (Nat × Nat)) : Prop := Own w base e 2 A l.length c (gV l)

theorem clone_flow (A : Option Addr) (n c : Nat) (l : List (Nat × Nat)) (w : World) (hl : l.length = n) (hR : Row w A (gV l)) (hnil : A = none → n = 0 ∧ c = 0) (hn : n ≤ 1000) :
    Calls Tryz.prog 190 #[.slice A n c] w fun e w' => ∃ A' c', e = .returned (.slice A' n c') ∧ OwnG w' w.heap.size 174 A' c' l ∧ Only (fun _ => False) w w' := by
  have heq := fun w => Lib.run_eql_slice_nil (P := Tryz.prog) w 172 174 A n c 0 0 Tryz.underlying172
  cases A with
  | none =>
    obtain ⟨rfl, rfl⟩ := hnil rfl
    obtain rfl : l = [] := List.eq_nil_of_length_eq_zero hl
    simp only [Option.isNone_none] at heq
    go_enter Tryz.func190, Tryz.ntmps190
    go_wp2_with fail
    go_ret
    exact ⟨none, 0, rfl, Own.nil _ _ _ _, Only.refl _ _⟩
  | some a =>
    simp only [Option.isNone_some] at heq
    replace hl := hid hl
    replace hR := hid hR
    go_enter Tryz.func190, Tryz.ntmps190
    go_wp2_with (first | (at_builtin; refine app_rows rfl _ _ 172 174 (.agg #[.int .i64 0, .int .i64 0]) 2 16 Tryz.underlying172 info_flow rfl (by omega) (by omega) rfl w.heap.size 0 0 n c (some ⟨w.heap.size, 0, none⟩) (some a) [] (gV l) rfl rfl ?_ ?_ ?_ (gV_one l) (by intro h; cases h) (by simp) (by omega) ?_; (exact ⟨rfl, .inr ⟨w.heap.size, #[], (0, 0), rfl, Nat.le_refl _, b_new _ _, .inr rfl, Nat.le_refl _, by decide, rfl, rfl⟩⟩); (exact hR.out.same ((Only.refl _ w).alloc _)); (rw [gV_len, hl.out]); intro A' c' w1 h1 h2 o) | fail)
    go_ret
    simp only [Nat.zero_add, List.nil_append] at h1
    refine ⟨A', c', rfl, ?_, ((Only.refl _ w).alloc _).trans' o (fun i hi => .inr (by obtain ⟨b, hb, e⟩ := hi; cases hb; exact Nat.le_of_eq e))⟩
    unfold OwnG
    rw [hl.out]
    exact h1

/-- cmp of two flows, the first behind the second. -/
theorem cmp_up (a x b y : Nat) (w : World) (h : b < a) (ha : a ≤ 1000000) :
    Calls Tryz.prog 192 #[.agg #[.int .i64 (a : Int), .int .i64 (x : Int)], .agg #[.int .i64 (b : Int), .int .i64 (y : Int)]] w fun e w' => e = .returned (.int .i64 1) ∧ Only (fun _ => False) w w' := by
  have h1 : ¬ (a : Int) < b := by omega
  have h2 : (b : Int) < a := by omega
  go_enter Tryz.func192, Tryz.ntmps192
  go_wp2_with fail
  refine (Tryz.cmp_Compare_int _ _ _).mono ?_
  rintro e w1 ⟨rfl, rfl⟩
  have hc : Lib.compareInt (a : Int) (b : Int) = 1 := by
    unfold Lib.compareInt
    rw [if_neg (by omega), if_pos (by omega)]
  rw [hc]
  go_wp2_with fail
  go_ret
  exact ⟨rfl, ((Only.refl _ w).alloc _).alloc _⟩
/-- Two flows of other connections. -/
theorem same_no (a x b y : Nat) (w : World) (h : b < a) :
    Calls Tryz.prog 195 #[.agg #[.int .i64 (a : Int), .int .i64 (x : Int)], .agg #[.int .i64 (b : Int), .int .i64 (y : Int)]] w fun e w' => e = .returned (.bool false) ∧ Only (fun _ => False) w w' := by
  have h1 : ((a : Int) == (b : Int)) = false := by rw [beq_eq_false_iff_ne]; omega
  go_enter Tryz.func195, Tryz.ntmps195
  go_wp2_with fail
  go_ret
  exact ⟨rfl, ((Only.refl _ w).alloc _).alloc _⟩
/-- A flow that wants nothing. -/
theorem none_any (a x : Nat) (w : World) :
    Calls Tryz.prog 197 #[.agg #[.int .i64 (a : Int), .int .i64 (x : Int)]] w fun e w' => e = .returned (.bool (decide (x = 0))) ∧ Only (fun _ => False) w w' := by
  have h1 : decide ((x : Int) ≤ 0) = decide (x = 0) := by
    apply Bool.eq_iff_iff.2
    simp only [decide_eq_true_eq]
    omega
  go_enter Tryz.func197, Tryz.ntmps197
  go_wp2_with fail
  go_ret
  exact ⟨by rw [← h1]; rfl, (Only.refl _ w).alloc _⟩

set_option maxHeartbeats 1000000 in
/-- Flows that rise stay as they stand. -/
theorem insertion_up (A : Option Addr) (n c : Nat) (l : List (Nat × Nat)) (w : World) (hl : l.length = n) (hR : Row w A (gV l)) (hu : Up l) (hb : ∀ p ∈ l, p.1 ≤ 1000000) (hn : n ≤ 1000) (hc : n ≤ c) :
    Calls Tryz.prog 307 #[.slice A n c, .int .i64 0, .int .i64 (n : Int), .func (.func 192) #[] #[]] w fun e w' => e = .returned (.tuple #[]) ∧ Only (fun _ => False) w w' := by
  replace hl := hid hl
  replace hu := hid hu
  replace hb := hid hb
  go_enter Tryz.func307, Tryz.ntmps307
  go_wp2_with fail
  go_loopw [8] (fun iv wr => ∃ i : Nat, 1 ≤ i ∧ i ≤ n + 1 ∧ iv = .int .i64 (i : Int) ∧ Only (fun _ => False) w wr) (fun iv _ => n + 1 - (intOf iv).toNat)
  case atStart => exact ⟨1, by omega, by omega, rfl, Only.refl _ _⟩
  case round =>
    obtain ⟨i, h1, h2, rfl, O⟩ := hrel
    by_cases hlt : i < n
    · obtain ⟨p, hp⟩ : ∃ p, l[i]? = some p := ⟨_, List.getElem?_eq_getElem (by rw [hl.out]; exact hlt)⟩
      obtain ⟨r, hr⟩ : ∃ r, l[i - 1]? = some r := ⟨_, List.getElem?_eq_getElem (by rw [hl.out]; omega)⟩
      obtain ⟨b, off, rfl, hbl, c0, c1⟩ := flow_at (hR.same O) i p hp
      obtain ⟨b', off', e, _, d0, d1⟩ := flow_at (hR.same O) (i - 1) r hr
      cases e
      have hlt2 : r.1 < p.1 := hu.out (i - 1) r p hr (by rw [show i - 1 + 1 = i by omega]; exact hp)
      have hcm := fun W => cmp_up p.1 p.2 r.1 r.2 W hlt2 (hb.out p (List.mem_of_getElem? hp))
      have hi0 : decide (0 < i) = true := decide_eq_true (by omega)
      have hw1 : IntKind.i64.wrap ((i : Int) - 1) = ((i - 1 : Nat) : Int) := by rw [IntWalk.i64_in _ (by omega)]; omega
      replace hcm := hid hcm
      have hin : (i : Int) < n := by omega
      have hin1 : ((i - 1 : Nat) : Int) < n := by omega
      have P0 := Only.refl (fun _ => False) wr
      replace c0 := cell_all hbl _ _ c0
      replace c1 := cell_all hbl _ _ c1
      replace d0 := cell_all hbl _ _ d0
      replace d1 := cell_all hbl _ _ d1
      go_wp2_with fail
      refine wp_loop_rounds 1 ?_
      rw [rounds_succ]
      go_upto_region 4 with (fail)
      go_region_held3 (fun w' => Only (fun _ => False) wr w') (repeat (first | assumption | refine Only.drew ?_ | refine Only.alloc ?_ _))
        (first | (go_at_call 192; refine (hcm.out _).mono ?_; rintro e w2 ⟨rfl, O2⟩; have P2 := P0.drew.trans O2))
      go_wp2_with fail
      go_roundw
      case rel => exact ⟨i + 1, by omega, by omega, by simp, O.trans P2⟩
      case measure => simp [intOf]; omega
    · have hie : decide ((i : Int) < n) = false := decide_eq_false (by omega)
      go_wp2_with fail
      go_end0
      exact ⟨rfl, O⟩

theorem stable_up (A : Option Addr) (n c : Nat) (l : List (Nat × Nat)) (w : World) (hl : l.length = n) (hR : Row w A (gV l)) (hu : Up l) (hb : ∀ p ∈ l, p.1 ≤ 1000000) (hn : n < 20) (hc : n ≤ c) :
    Calls Tryz.prog 191 #[.slice A n c, .func (.func 192) #[] #[]] w fun e w' => e = .returned (.tuple #[]) ∧ Only (fun _ => False) w w' := by
  have hin := insertion_up A n c l w hl hR hu hb (by omega) hc
  have h1 : Calls Tryz.prog 261 #[.slice A n c, .int .i64 (n : Int), .func (.func 192) #[] #[]] w fun e w' => e = .returned (.tuple #[]) ∧ Only (fun _ => False) w w' := by
    have e1 : ¬ (20 : Int) ≤ n := by omega
    have e2 : ¬ (20 : Int) < n := by omega
    have e3 : decide ((20 : Int) ≤ n) = false := decide_eq_false e1
    have e4 : decide ((20 : Int) < n) = false := decide_eq_false e2
    replace hin := hid hin
    go_enter Tryz.func261, Tryz.ntmps261
    go_wp2_with fail
    refine wp_loop_rounds 1 ?_
    rw [rounds_succ]
    go_wp2_with fail
    refine hin.out.mono ?_
    rintro e w1 ⟨rfl, O1⟩
    go_wp2_with fail
    refine wp_loop_rounds 1 ?_
    rw [rounds_succ]
    go_wp2_with fail
    go_end0
    exact ⟨rfl, O1⟩
  replace h1 := hid h1
  go_enter Tryz.func191, Tryz.ntmps191
  go_wp2_with fail
  refine h1.out.mono ?_
  rintro e w1 ⟨rfl, O1⟩
  go_wp2_with fail
  go_end0
  exact ⟨rfl, O1⟩

set_option maxHeartbeats 1000000 in
theorem compact_up (A : Option Addr) (n c : Nat) (l : List (Nat × Nat)) (w : World) (hl : l.length = n) (hR : Row w A (gV l)) (hu : Up l) (hn : n ≤ 1000) (hc : n ≤ c) :
    Calls Tryz.prog 194 #[.slice A n c, .func (.func 195) #[] #[]] w fun e w' => e = .returned (.slice A n c) ∧ Only (fun _ => False) w w' := by
  by_cases h2 : n < 2
  · have h2i : (n : Int) < 2 := by omega
    go_enter Tryz.func194, Tryz.ntmps194
    go_wp2_with fail
    go_ret
    exact ⟨rfl, Only.refl _ _⟩
  have h2i : ¬ (n : Int) < 2 := by omega
  replace hl := hid hl
  replace hu := hid hu
  go_enter Tryz.func194, Tryz.ntmps194
  go_wp2_with fail
  go_loopw [5] (fun iv wr => ∃ i : Nat, 1 ≤ i ∧ i ≤ n ∧ iv = .int .i64 (i : Int) ∧ Only (fun _ => False) w wr) (fun iv _ => n - (intOf iv).toNat)
  case atStart => exact ⟨1, by omega, by omega, rfl, Only.refl _ _⟩
  case round =>
    obtain ⟨i, h1, h3, rfl, O⟩ := hrel
    by_cases hlt : i < n
    · obtain ⟨p, hp⟩ : ∃ p, l[i]? = some p := ⟨_, List.getElem?_eq_getElem (by rw [hl.out]; exact hlt)⟩
      obtain ⟨r, hr⟩ : ∃ r, l[i - 1]? = some r := ⟨_, List.getElem?_eq_getElem (by rw [hl.out]; omega)⟩
      obtain ⟨b, off, rfl, hbl, c0, c1⟩ := flow_at (hR.same O) i p hp
      obtain ⟨b', off', e, _, d0, d1⟩ := flow_at (hR.same O) (i - 1) r hr
      cases e
      have hlt2 : r.1 < p.1 := hu.out (i - 1) r p hr (by rw [show i - 1 + 1 = i by omega]; exact hp)
      have hcm := fun W => same_no p.1 p.2 r.1 r.2 W hlt2
      have hw1 : IntKind.i64.wrap ((i : Int) - 1) = ((i - 1 : Nat) : Int) := by rw [IntWalk.i64_in _ (by omega)]; omega
      have hin : (i : Int) < n := by omega
      have hin1 : ((i - 1 : Nat) : Int) < n := by omega
      have P0 := Only.refl (fun _ => False) wr
      replace hcm := hid hcm
      replace c0 := cell_all hbl _ _ c0
      replace c1 := cell_all hbl _ _ c1
      replace d0 := cell_all hbl _ _ d0
      replace d1 := cell_all hbl _ _ d1
      go_upto_region 6 with (fail)
      go_region_held3 (fun w' => Only (fun _ => False) wr w') (repeat (first | assumption | refine Only.drew ?_ | refine Only.alloc ?_ _))
        (first | (go_at_call 195; refine (hcm.out _).mono ?_; rintro e w2 ⟨rfl, O2⟩; have P2 := P0.drew.trans O2))
      go_wp2_with fail
      go_roundw
      case rel => exact ⟨i + 1, by omega, by omega, by simp, O.trans P2⟩
      case measure => simp [intOf]; omega
    · have hie : decide ((i : Int) < n) = false := decide_eq_false (by omega)
      go_wp2_with fail
      go_ret
      exact ⟨rfl, O⟩
end Go.Proofs.YtpblgjadpfecgaaGreatDoor
/-
  Flows: rows of one's own that turn.
-/
namespace Go.Proofs.YtpblgjadpfecgaaGreatDoor
open Go.RowKit

theorem size_sc (b : Nat) : ∀ (vs : List Value) (o : Nat) (w : World), (w.setCells b o vs).heap.size = w.heap.size
  | [], _, _ => rfl
  | v :: r, o, w => by rw [World.setCells, size_sc b r]; simp [World.setCell]
theorem isSome_sc (b : Nat) : ∀ (vs : List Value) (o : Nat) (w : World) (x : Addr), (w.cell? x).isSome = true → ((w.setCells b o vs).cell? x).isSome = true
  | [], _, _, _, h => h
  | v :: r, o, w, x, h => by
    rw [World.setCells]
    refine isSome_sc b r _ _ x ?_
    by_cases e : (⟨b, o, none⟩ : Addr) = x
    · subst e
      obtain ⟨u, hu⟩ := Option.isSome_iff_exists.1 h
      rw [World.cell?_setCell_same _ _ _ hu]
      rfl
    · rw [World.cell?_setCell_other _ _ _ _ e]
      exact h
theorem only_sc {S : Nat → Prop} (b : Nat) (hb : S b) : ∀ (vs : List Value) (o : Nat) (w : World), Only S w (w.setCells b o vs)
  | [], _, w => Only.refl _ _
  | v :: r, o, w => ((Only.refl S w).setCell (p := ⟨b, o, none⟩) (.inl hb) v).trans (only_sc b hb r (o + 1) _)
/-- Flows in a block of one's own, with room for c. -/
structure FR (w : World) (g c : Nat) (l : List (Nat × Nat)) : Prop where
  lt : g < w.heap.size
  le : l.length ≤ c
  at_ : ∀ j u, (gV l)[j]? = some u → w.cell? ⟨g, j, none⟩ = some u
  room : ∀ j, j < c * 2 → (w.cell? ⟨g, j, none⟩).isSome = true ∧ w.frozen? ⟨g, j, none⟩ = false
theorem OwnG.fr {w : World} {base c g : Nat} {t : TypeId} {l : List (Nat × Nat)} (h : OwnG w base t (some ⟨g, 0, none⟩) c l) : FR w g c l := by
  rcases h.2 with ⟨h0, _⟩ | ⟨g', cur, fz, h0, hb, hg, hcl, hn, hcm, hcs, hx⟩
  · cases h0
  · cases h0
    refine ⟨b_lt hg, hn, fun j u hu => ?_, fun j hj => ⟨?_, ?_⟩⟩
    · rw [b_cell' hg]
      rw [← hx, List.getElem?_take] at hu
      split at hu
      · simpa using hu
      · cases hu
    · rw [b_cell' hg, Array.getElem?_eq_getElem (by omega)]
      rfl
    · simp only [World.frozen?, hg, Bool.and_eq_false_iff, decide_eq_false_iff_not]
      rcases hcl with hcl | hcl
      · left; omega
      · right; omega
section
variable {w w' : World} {g c : Nat} {l : List (Nat × Nat)}
theorem FR.keep {S : Nat → Prop} (h : FR w g c l) (o : Only S w w') (hs : ¬ S g) : FR w' g c l :=
  ⟨Nat.lt_of_lt_of_le h.lt o.size, h.le, fun j u hu => (o.cell (p := ⟨g, j, none⟩) h.lt hs).trans (h.at_ j u hu), fun j hj => by
    rw [o.cell (p := ⟨g, j, none⟩) h.lt hs, World.frozen?_of_block (o.block g h.lt hs)]
    exact h.room j hj⟩
theorem FR.same (h : FR w g c l) (o : Only (fun _ => False) w w') : FR w' g c l := h.keep o (fun h => h)
theorem FR.row (h : FR w g c l) : Row w (some ⟨g, 0, none⟩) (gV l) := fun _ => ⟨g, 0, rfl, h.lt, fun j u hu => by rw [Nat.zero_add]; exact h.at_ j u hu⟩
theorem FR.flow (h : FR w g c l) (k : Nat) (p : Nat × Nat) (hp : l[k]? = some p) : w.cell? ⟨g, k * 2, none⟩ = some (.int .i64 (p.1 : Int)) ∧ w.cell? ⟨g, k * 2 + 1, none⟩ = some (.int .i64 (p.2 : Int)) :=
  ⟨h.at_ _ _ (gV_at l k p hp).1, h.at_ _ _ (gV_at l k p hp).2⟩
theorem FR.take (h : FR w g c l) (k : Nat) : FR w g c (l.take k) :=
  ⟨h.lt, by rw [List.length_take]; have := h.le; omega, fun j u hu => h.at_ j u (by
    have e : gV l = gV (l.take k) ++ gV (l.drop k) := by rw [← gV_app, List.take_append_drop]
    rw [e, List.getElem?_append_left (List.getElem?_eq_some_iff.1 hu).1]
    exact hu), h.room⟩
/-- The same block, its cells written anew. -/
theorem FR.write {l' : List (Nat × Nat)} (h : FR w g c l) (o : Nat) (vs : List Value) (hl : l'.length ≤ c) (hv : o + vs.length ≤ c * 2) (hin : ∀ j u, o ≤ j → j < o + vs.length → (gV l')[j]? = some u → vs[j - o]? = some u) (hout : ∀ j u, (j < o ∨ o + vs.length ≤ j) → (gV l')[j]? = some u → (gV l)[j]? = some u) : FR (w.setCells g o vs) g c l' := by
  refine ⟨by rw [size_sc]; exact h.lt, hl, fun j u hu => ?_, fun j hj => ⟨?_, ?_⟩⟩
  · by_cases hj : o ≤ j ∧ j < o + vs.length
    · have h1 := hin j u hj.1 hj.2 hu
      have h2 := World.cell?_setCells_in g vs o w (fun t ht => (h.room (o + t) (by omega)).1) (j - o) (by omega)
      rw [show o + (j - o) = j by omega] at h2
      rw [h2, ← h1, List.getElem?_eq_getElem (by omega)]
    · rw [World.cell?_setCells_out g vs o w ⟨g, j, none⟩ (fun _ _ => by show j < o ∨ o + vs.length ≤ j; omega)]
      exact h.at_ j u (hout j u (by omega) hu)
  · exact isSome_sc g vs o w _ (h.room j hj).1
  · rw [World.frozen?_setCells]
    exact (h.room j hj).2
end

theorem gV_set (l : List (Nat × Nat)) (i : Nat) (p : Nat × Nat) (hi : i < l.length) : gV (l.set i p) = gV (l.take i) ++ (.int .i64 (p.1 : Int) :: .int .i64 (p.2 : Int) :: gV (l.drop (i + 1))) := by
  rw [List.set_eq_take_append_cons_drop, if_pos hi, gV_app]
  rfl
theorem gV_split (l : List (Nat × Nat)) (i : Nat) (q : Nat × Nat) (hq : l[i]? = some q) : gV l = gV (l.take i) ++ (.int .i64 (q.1 : Int) :: .int .i64 (q.2 : Int) :: gV (l.drop (i + 1))) := by
  obtain ⟨hi, e⟩ := List.getElem?_eq_some_iff.1 hq
  have h1 := gV_set l i q hi
  rw [← h1]
  congr 1
  rw [← e]
  exact (List.set_getElem_self hi).symm
section
variable {w : World} {g c : Nat} {l : List (Nat × Nat)}
theorem FR.set2 (h : FR w g c l) (i : Nat) (q p : Nat × Nat) (hq : l[i]? = some q) : FR ((w.setCell ⟨g, i * 2, none⟩ (.int .i64 (p.1 : Int))).setCell ⟨g, i * 2 + 1, none⟩ (.int .i64 (p.2 : Int))) g c (l.set i p) := by
  have hi := (List.getElem?_eq_some_iff.1 hq).1
  have hlen : (gV (l.take i)).length = i * 2 := by rw [gV_len, List.length_take]; congr 1; omega
  refine h.write (i * 2) [.int .i64 (p.1 : Int), .int .i64 (p.2 : Int)] (by rw [List.length_set]; exact h.le) (by have := h.le; simp; omega) (fun j u h1 h2 hu => ?_) (fun j u hj hu => ?_)
  · rw [gV_set l i p hi, List.getElem?_append_right (by omega), hlen] at hu
    have h2' : j < i * 2 + 2 := h2
    rcases (show j - i * 2 = 0 ∨ j - i * 2 = 1 by omega) with e | e
    · rw [e] at hu ⊢; exact hu
    · rw [e] at hu ⊢; exact hu
  · rw [gV_set l i p hi] at hu
    rw [gV_split l i q hq]
    have hj' : j < i * 2 ∨ i * 2 + 2 ≤ j := hj
    rcases hj' with hj | hj
    · rw [List.getElem?_append_left (by omega)] at hu ⊢
      exact hu
    · rw [List.getElem?_append_right (by omega), hlen] at hu ⊢
      rw [show j - i * 2 = (j - i * 2 - 2) + 1 + 1 by omega] at hu ⊢
      simpa using hu
theorem FR.set1 (h : FR w g c l) (i : Nat) (q : Nat × Nat) (x : Nat) (hq : l[i]? = some q) : FR (w.setCell ⟨g, i * 2 + 1, none⟩ (.int .i64 (x : Int))) g c (l.set i (q.1, x)) := by
  have hi := (List.getElem?_eq_some_iff.1 hq).1
  have hlen : (gV (l.take i)).length = i * 2 := by rw [gV_len, List.length_take]; congr 1; omega
  refine h.write (i * 2 + 1) [.int .i64 (x : Int)] (by rw [List.length_set]; exact h.le) (by have := h.le; simp; omega) (fun j u h1 h2 hu => ?_) (fun j u hj hu => ?_)
  · rw [gV_set l i _ hi, List.getElem?_append_right (by omega), hlen] at hu
    have h2' : j < i * 2 + 1 + 1 := h2
    obtain rfl : j = i * 2 + 1 := by omega
    rw [show i * 2 + 1 - i * 2 = 1 by omega] at hu
    rw [Nat.sub_self]
    exact hu
  · rw [gV_set l i _ hi] at hu
    rw [gV_split l i q hq]
    have hj' : j < i * 2 + 1 ∨ i * 2 + 1 + 1 ≤ j := hj
    rcases hj' with hj | hj
    · rcases Nat.lt_or_ge j (i * 2) with hj2 | hj2
      · rw [List.getElem?_append_left (by omega)] at hu ⊢
        exact hu
      · obtain rfl : j = i * 2 := by omega
        rw [List.getElem?_append_right (by omega), hlen, Nat.sub_self] at hu ⊢
        exact hu
    · rw [List.getElem?_append_right (by omega), hlen] at hu ⊢
      rw [show j - i * 2 = (j - i * 2 - 2) + 1 + 1 by omega] at hu ⊢
      simpa using hu
end

theorem sizeFl (W : World) : (sizeOf 174).run Tryz.prog W = .ok 2 W := by kernel_rfl
theorem elemFl : Tryz.prog.elem 172 = 174 := by kernel_rfl
theorem undFl : Tryz.prog.underlying 172 = some (.slice (Tryz.prog.elem 172)) := by rw [elemFl]; exact Tryz.underlying172
def dropG (A : Option Addr) (cap k : Nat) : Option Addr := if cap = k then A else A.map (·.add (k * 2))
theorem fl_h' (A : Option Addr) (n c k : Nat) (h : k ≤ c) (W : World) :
    (Instr.sliceAt 172 (.slice A n c) none (some (.int .i64 (k : Int))) none).run Tryz.prog W = .ok (.slice A k c) W := by
  rw [run_sliceAt_slice W 172 _ _ _ _ undFl]
  rw [run_slice_h (P := Tryz.prog) W 172 A n c undFl .i64 (k : Int) (by omega) (by omega), elemFl, sizeFl]
  simp only [Result.andThen, sliced, Int.toNat_natCast, Nat.sub_zero, Nat.zero_mul]
  cases A <;> simp [Addr.add_zero']
theorem fl_l' (A : Option Addr) (n c k : Nat) (h : k ≤ n) (W : World) :
    (Instr.sliceAt 172 (.slice A n c) (some (.int .i64 (k : Int))) none none).run Tryz.prog W = .ok (.slice (dropG A c k) (n - k) (c - k)) W := by
  rw [run_sliceAt_slice W 172 _ _ _ _ undFl]
  rw [run_slice_l (P := Tryz.prog) W 172 A n c undFl .i64 (k : Int) (by omega) (by omega), elemFl, sizeFl]
  simp only [Result.andThen, sliced, dropG, Int.toNat_natCast]
theorem fl_lh' (A : Option Addr) (n c k m : Nat) (h : k ≤ m) (hm : m ≤ c) (W : World) :
    (Instr.sliceAt 172 (.slice A n c) (some (.int .i64 (k : Int))) (some (.int .i64 (m : Int))) none).run Tryz.prog W = .ok (.slice (dropG A c k) (m - k) (c - k)) W := by
  rw [run_sliceAt_slice W 172 _ _ _ _ undFl]
  rw [run_slice_lh (P := Tryz.prog) W 172 A n c undFl .i64 .i64 (k : Int) (m : Int) (by omega) (by omega) (by omega), elemFl, sizeFl]
  simp only [Result.andThen, sliced, dropG, Int.toNat_natCast]
theorem fl_lhm' (A : Option Addr) (n c k m x : Nat) (h : k ≤ m) (hm : m ≤ x) (hx : x ≤ c) (W : World) :
    (Instr.sliceAt 172 (.slice A n c) (some (.int .i64 (k : Int))) (some (.int .i64 (m : Int))) (some (.int .i64 (x : Int)))).run Tryz.prog W = .ok (.slice (if x = k then A else A.map (·.add (k * 2))) (m - k) (x - k)) W := by
  rw [run_sliceAt_slice W 172 _ _ _ _ undFl]
  rw [run_slice_lhm (P := Tryz.prog) W 172 A n c undFl .i64 .i64 .i64 (k : Int) (m : Int) (x : Int) (by omega) (by omega) (by omega) (by omega), elemFl, sizeFl]
  simp only [Result.andThen, sliced, Int.toNat_natCast]
theorem dropG_ex (g c k : Nat) : ∃ ad, dropG (some ⟨g, 0, none⟩) c k = some ad ∧ (k < c → ad = ⟨g, k * 2, none⟩) := by
  unfold dropG
  split
  · exact ⟨_, rfl, fun h => by omega⟩
  · refine ⟨_, rfl, fun _ => ?_⟩
    simp [Go.WideShapes.add_plain]
theorem dropG_some (g c k : Nat) (h : k < c) : dropG (some ⟨g, 0, none⟩) c k = some ⟨g, k * 2, none⟩ := by
  unfold dropG
  rw [if_neg (by omega)]
  simp [Go.WideShapes.add_plain]
theorem zeroFl (w : World) : (zeroValue 174).run Tryz.prog w = .ok (.agg #[.int .i64 0, .int .i64 0]) w := by kernel_rfl
/-- clear of flows. -/
theorem clear_flow (w : World) (ty : TypeId) (g o n c : Nat) (hn : 0 < n) (hr : ∀ j, j < n * 2 → (w.cell? ⟨g, o + j, none⟩).isSome = true ∧ w.frozen? ⟨g, o + j, none⟩ = false) :
    (Builtin.clear_ #[172] ty #[.slice (some ⟨g, o, none⟩) n c]).run Tryz.prog w = .ok (.tuple #[]) (w.setCells g o (List.replicate (n * 2) (.int .i64 0))) := by
  have hzc : (Builtin.zeroCells (Value.agg #[.int .i64 0, .int .i64 0]).cells n).toList = List.replicate (n * 2) (.int .i64 0) := by
    show (Builtin.zeroCells #[.int .i64 0, .int .i64 0] n).toList = _
    apply List.ext_getElem
    · simp [Builtin.zeroCells]
    · intro i h1 h2
      simp only [Builtin.zeroCells, Array.toList_map, List.getElem_map, List.getElem_replicate]
      have : ∀ k, k < 2 → (#[Value.int .i64 0, .int .i64 0] : Array Value)[k]! = .int .i64 0 := by
        intro k hk
        match k, hk with
        | 0, _ => rfl
        | 1, _ => rfl
      exact this _ (Nat.mod_lt _ (by decide))
  have hst := run_storeCells_cells (P := Tryz.prog) g o (List.replicate (n * 2) (.int .i64 0)) 0 w (by simpa using fun j hj => (hr j hj).1) (by simpa using fun j hj => (hr j hj).2) (by intro v hv'; rw [List.eq_of_mem_replicate hv']; rfl)
  simp only [Nat.add_zero] at hst
  obtain ⟨m, rfl⟩ : ∃ m, n = m + 1 := ⟨n - 1, by omega⟩
  simp [Builtin.clear_, run_underlying Tryz.underlying172, zeroFl, hzc, hst]
end Go.Proofs.YtpblgjadpfecgaaGreatDoor
