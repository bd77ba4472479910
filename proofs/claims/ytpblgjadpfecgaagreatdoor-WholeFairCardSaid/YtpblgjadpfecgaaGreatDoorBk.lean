/-
  The contracts of the bucket's functions: what fill, Take and Tokens come to, for every bucket within its bounds.
-/
import Derived.Test.YtpblgjadpfecgaaGreatDoorProg
import Derived.Test.YtpblgjadpfecgaaGreatDoorK
import Derived.WalkKit
import Derived.WalkLawsBesides
import Derived.KernelRfl
import Derived.Outline
import Derived.Deep.QuietTactic
import Derived.BigQuiet
import Derived.BigRegion
import Derived.RegionTactic
namespace Go.Proofs.YtpblgjadpfecgaaGreatDoor.Bk
open Go.RowKit

/-- A number within bounds. -/
def clip (n : Int) : Int := min (max n 0) 1048576
theorem clip_bd (n : Int) : 0 ≤ clip n ∧ clip n ≤ 1048576 := by unfold clip; omega

theorem ret_i {k : IntKind} {a b : Int} (h : a = b) : Ending.returned (.int k a) = .returned (.int k b) := by rw [h]
theorem ret_b {a b : Bool} (h : a = b) : Ending.returned (.bool a) = .returned (.bool b) := by rw [h]

theorem within_any (n : Int) (w : World) (h0 : -9223372036854775808 ≤ n) (h1 : n ≤ 9223372036854775807) :
    Calls Tryz.prog 48 #[.int .i64 n] w fun e w' => e = .returned (.int .i64 (clip n)) ∧ w = w' := by
  go_enter Tryz.func48, Tryz.ntmps48
  go_wp2
  all_goals
    go_ret
    refine ⟨ret_i ?_, rfl⟩
    show _ = clip _
    unfold clip
    first | omega | (split at * <;> omega)

/-- The bucket in block b. -/
def Bk (w : World) (b : Nat) (r u t a : Int) : Prop := w.heap[b]? = some (.cells #[.int .i64 r, .int .i64 u, .int .i64 t, .int .i64 a] 113 (0, 0))
theorem Bk.cell {w : World} {b : Nat} {r u t a : Int} (h : Bk w b r u t a) (i : Nat) : w.cell? ⟨b, i, none⟩ = (#[.int .i64 r, .int .i64 u, .int .i64 t, .int .i64 a] : Array Value)[i]? := b_cell h i
theorem Bk.frozen {w : World} {b : Nat} {r u t a : Int} (h : Bk w b r u t a) (i : Nat) : w.frozen? ⟨b, i, none⟩ = false := b_free h i
theorem Bk.keep {S : Nat → Prop} {w w' : World} {b : Nat} {r u t a : Int} (h : Bk w b r u t a) (o : Only S w w') (hs : ¬ S b) : Bk w' b r u t a := o.keep h hs
theorem Bk.drew {w : World} {b : Nat} {r u t a : Int} (h : Bk w b r u t a) : Bk w.drew b r u t a := h
theorem Bk.put {w : World} {b : Nat} {r u t a : Int} (h : Bk w b r u t a) (x y : Int) : Bk ((w.setCell ⟨b, 2, none⟩ (.int .i64 x)).setCell ⟨b, 3, none⟩ (.int .i64 y)) b r u x y := b_set (b_set h 2 _) 3 _
theorem Bk.put2 {w : World} {b : Nat} {r u t a : Int} (h : Bk w b r u t a) (x : Int) : Bk (w.setCell ⟨b, 2, none⟩ (.int .i64 x)) b r u x a := b_set h 2 _

theorem Bk.to {w : World} {b : Nat} {r u t t' a : Int} (h : Bk w b r u t a) (e : t = t') : Bk w b r u t' a := e ▸ h
theorem o_put {a w : World} {b : Nat} (h : Only (· = b) a w) (i : Nat) (u : Value) : Only (· = b) a (w.setCell ⟨b, i, none⟩ u) := h.setCell (.inl rfl) u

/-- Within its bounds. -/
structure Ok (r u t a : Int) : Prop where
  r0 : 0 ≤ r
  r1 : r ≤ 1048576
  u0 : 0 ≤ u
  u1 : u ≤ 1048576
  t0 : 0 ≤ t
  tu : t ≤ u
  a0 : 0 ≤ a
  a1 : a ≤ 1099511627776

/-- The time of a bucket behind a look at a time. -/
def nowOf (a now : Int) : Int := min (max now a) 1099511627776
/-- The tokens then. -/
def tokOf (r u t a now : Int) : Int := min u (t + r * (nowOf a now - a))
def tookOf (r u t a now n : Int) : Int := if 0 ≤ n ∧ n ≤ tokOf r u t a now then tokOf r u t a now - n else tokOf r u t a now
def tookB (r u t a now n : Int) : Bool := decide (0 ≤ n ∧ n ≤ tokOf r u t a now)

theorem mul_bd {r d : Int} (hr0 : 0 ≤ r) (hr1 : r ≤ 1048576) (hd0 : 0 ≤ d) (hd1 : d ≤ 1099511627776) : 0 ≤ r * d ∧ r * d ≤ 1152921504606846976 := by
  refine ⟨Int.mul_nonneg hr0 hd0, ?_⟩
  have h1 : r * d ≤ 1048576 * d := Int.mul_le_mul_of_nonneg_right hr1 hd0
  omega

theorem ok_next {r u t a : Int} (h : Ok r u t a) (now : Int) : Ok r u (tokOf r u t a now) (nowOf a now) := by
  obtain ⟨h1, h2, h3, h4, h5, h6, h7, h8⟩ := h
  have hn : a ≤ nowOf a now ∧ nowOf a now ≤ 1099511627776 := by unfold nowOf; omega
  have hm := mul_bd h1 h2 (show 0 ≤ nowOf a now - a by omega) (by omega)
  refine ⟨h1, h2, h3, h4, ?_, ?_, by omega, by omega⟩
  all_goals (unfold tokOf; omega)

theorem ok_took {r u t a : Int} (h : Ok r u t a) (now n : Int) : Ok r u (tookOf r u t a now n) (nowOf a now) := by
  obtain ⟨h1, h2, h3, h4, h5, h6, h7, h8⟩ := ok_next h now
  refine ⟨h1, h2, h3, h4, ?_, ?_, h7, h8⟩
  all_goals (unfold tookOf; split <;> omega)

set_option maxHeartbeats 400000 in
theorem fill_lo (b : Nat) (r u t a now : Int) (w : World) (h : Bk w b r u t a) (o : Ok r u t a) (hn : now < a) :
    Calls Tryz.prog 161 #[.pointer (some ⟨b, 0, none⟩), .int .i64 now] w fun e w' => e = .returned (.tuple #[]) ∧ Bk w' b r u (tokOf r u t a now) (nowOf a now) ∧ Only (· = b) w w' := by
  obtain ⟨h1, h2, h3, h4, h5, h6, h7, h8⟩ := o
  have hm := mul_bd h1 h2 (show 0 ≤ a - a by omega) (by omega)
  have c0 : w.cell? ⟨b, 0, none⟩ = some (.int .i64 r) := h.cell 0
  have c1 : w.cell? ⟨b, 1, none⟩ = some (.int .i64 u) := h.cell 1
  have c2 : w.cell? ⟨b, 2, none⟩ = some (.int .i64 t) := h.cell 2
  have c3 : w.cell? ⟨b, 3, none⟩ = some (.int .i64 a) := h.cell 3
  have f2 := h.frozen 2
  have f3 := h.frozen 3
  have H := hid h
  have hnow : nowOf a now = a := by unfold nowOf; omega
  have htok : tokOf r u t a now = min u (t) := by unfold tokOf; rw [hnow]; simp
  have Hn := hid hnow
  have Ht := hid htok
  clear h hnow htok
  go_enter Tryz.func161, Tryz.ntmps161
  go_wp2
  go_region
  all_goals go_wp2
  all_goals go_end0
  all_goals
    rw [Hn.out, Ht.out]
    refine ⟨rfl, Bk.to (H.out.put _ _).drew ?_, (o_put (o_put (Only.refl _ _) _ _) _ _).drew⟩
    omega

set_option maxHeartbeats 400000 in
theorem fill_mid (b : Nat) (r u t a now : Int) (w : World) (h : Bk w b r u t a) (o : Ok r u t a) (hn0 : a ≤ now) (hn1 : now ≤ 1099511627776) :
    Calls Tryz.prog 161 #[.pointer (some ⟨b, 0, none⟩), .int .i64 now] w fun e w' => e = .returned (.tuple #[]) ∧ Bk w' b r u (tokOf r u t a now) (nowOf a now) ∧ Only (· = b) w w' := by
  obtain ⟨h1, h2, h3, h4, h5, h6, h7, h8⟩ := o
  have hm := mul_bd h1 h2 (show 0 ≤ now - a by omega) (by omega)
  have c0 : w.cell? ⟨b, 0, none⟩ = some (.int .i64 r) := h.cell 0
  have c1 : w.cell? ⟨b, 1, none⟩ = some (.int .i64 u) := h.cell 1
  have c2 : w.cell? ⟨b, 2, none⟩ = some (.int .i64 t) := h.cell 2
  have c3 : w.cell? ⟨b, 3, none⟩ = some (.int .i64 a) := h.cell 3
  have f2 := h.frozen 2
  have f3 := h.frozen 3
  have H := hid h
  have hnow : nowOf a now = now := by unfold nowOf; omega
  have htok : tokOf r u t a now = min u (t + r * (now - a)) := by unfold tokOf; rw [hnow]
  have Hn := hid hnow
  have Ht := hid htok
  clear h hnow htok
  go_enter Tryz.func161, Tryz.ntmps161
  go_wp2
  go_region
  all_goals go_wp2
  all_goals go_end0
  all_goals
    rw [Hn.out, Ht.out]
    refine ⟨rfl, Bk.to (H.out.put _ _).drew ?_, (o_put (o_put (Only.refl _ _) _ _) _ _).drew⟩
    omega

set_option maxHeartbeats 400000 in
theorem fill_hi (b : Nat) (r u t a now : Int) (w : World) (h : Bk w b r u t a) (o : Ok r u t a) (hn0 : 1099511627776 < now) :
    Calls Tryz.prog 161 #[.pointer (some ⟨b, 0, none⟩), .int .i64 now] w fun e w' => e = .returned (.tuple #[]) ∧ Bk w' b r u (tokOf r u t a now) (nowOf a now) ∧ Only (· = b) w w' := by
  obtain ⟨h1, h2, h3, h4, h5, h6, h7, h8⟩ := o
  have hm := mul_bd h1 h2 (show 0 ≤ 1099511627776 - a by omega) (by omega)
  have c0 : w.cell? ⟨b, 0, none⟩ = some (.int .i64 r) := h.cell 0
  have c1 : w.cell? ⟨b, 1, none⟩ = some (.int .i64 u) := h.cell 1
  have c2 : w.cell? ⟨b, 2, none⟩ = some (.int .i64 t) := h.cell 2
  have c3 : w.cell? ⟨b, 3, none⟩ = some (.int .i64 a) := h.cell 3
  have f2 := h.frozen 2
  have f3 := h.frozen 3
  have H := hid h
  have hnow : nowOf a now = 1099511627776 := by unfold nowOf; omega
  have htok : tokOf r u t a now = min u (t + r * (1099511627776 - a)) := by unfold tokOf; rw [hnow]
  have Hn := hid hnow
  have Ht := hid htok
  clear h hnow htok
  go_enter Tryz.func161, Tryz.ntmps161
  go_wp2
  go_region
  all_goals go_wp2
  all_goals go_end0
  all_goals
    rw [Hn.out, Ht.out]
    refine ⟨rfl, Bk.to (H.out.put _ _).drew ?_, (o_put (o_put (Only.refl _ _) _ _) _ _).drew⟩
    omega

theorem fill_any (b : Nat) (r u t a now : Int) (w : World) (h : Bk w b r u t a) (o : Ok r u t a) :
    Calls Tryz.prog 161 #[.pointer (some ⟨b, 0, none⟩), .int .i64 now] w fun e w' => e = .returned (.tuple #[]) ∧ Bk w' b r u (tokOf r u t a now) (nowOf a now) ∧ Only (· = b) w w' := by
  by_cases h1 : now < a
  · exact fill_lo b r u t a now w h o h1
  · by_cases h2 : now ≤ 1099511627776
    · exact fill_mid b r u t a now w h o (by omega) h2
    · exact fill_hi b r u t a now w h o (by omega)

theorem take_no (b : Nat) (r u t a now n : Int) (w : World) (h : Bk w b r u t a) (o : Ok r u t a) (hn : n < 0 ∨ tokOf r u t a now < n) :
    Calls Tryz.prog 105 #[.pointer (some ⟨b, 0, none⟩), .int .i64 now, .int .i64 n] w fun e w' => e = .returned (.bool false) ∧ Bk w' b r u (tokOf r u t a now) (nowOf a now) ∧ Only (· = b) w w' := by
  have hk := ok_next o now
  have b1 := hk.t0
  have b2 := hk.tu
  have b3 := hk.u1
  have H := hid h
  clear h hk
  by_cases h0 : n < 0
  · clear hn
    go_enter Tryz.func105, Tryz.ntmps105
    go_wp2_with (go_at_call 161; refine (fill_any b r u t a now _ H.out o).mono ?_; rintro e w1 ⟨rfl, hb, ho⟩; have c2 : w1.cell? ⟨b, 2, none⟩ = some (.int .i64 (tokOf r u t a now)) := hb.cell 2; have HB := hid hb; clear hb)
    go_ret
    exact ⟨rfl, HB.out, ho⟩
  · have hn' : tokOf r u t a now < n := by omega
    clear hn
    go_enter Tryz.func105, Tryz.ntmps105
    go_wp2_with (go_at_call 161; refine (fill_any b r u t a now _ H.out o).mono ?_; rintro e w1 ⟨rfl, hb, ho⟩; have c2 : w1.cell? ⟨b, 2, none⟩ = some (.int .i64 (tokOf r u t a now)) := hb.cell 2; have HB := hid hb; clear hb)
    go_ret
    exact ⟨rfl, HB.out, ho⟩

theorem take_yes (b : Nat) (r u t a now n : Int) (w : World) (h : Bk w b r u t a) (o : Ok r u t a) (h0 : 0 ≤ n) (hn : n ≤ tokOf r u t a now) :
    Calls Tryz.prog 105 #[.pointer (some ⟨b, 0, none⟩), .int .i64 now, .int .i64 n] w fun e w' => e = .returned (.bool true) ∧ Bk w' b r u (tokOf r u t a now - n) (nowOf a now) ∧ Only (· = b) w w' := by
  have hk := ok_next o now
  have b1 := hk.t0
  have b2 := hk.tu
  have b3 := hk.u1
  have H := hid h
  clear h hk
  go_enter Tryz.func105, Tryz.ntmps105
  go_wp2_with (go_at_call 161; refine (fill_any b r u t a now _ H.out o).mono ?_; rintro e w1 ⟨rfl, hb, ho⟩; have c2 : w1.cell? ⟨b, 2, none⟩ = some (.int .i64 (tokOf r u t a now)) := hb.cell 2; have f2 : w1.frozen? ⟨b, 2, none⟩ = false := hb.frozen 2; have HB := hid hb; clear hb)
  go_ret
  exact ⟨rfl, HB.out.put2 _, o_put ho _ _⟩

theorem take_any (b : Nat) (r u t a now n : Int) (w : World) (h : Bk w b r u t a) (o : Ok r u t a) :
    Calls Tryz.prog 105 #[.pointer (some ⟨b, 0, none⟩), .int .i64 now, .int .i64 n] w fun e w' => e = .returned (.bool (tookB r u t a now n)) ∧ Bk w' b r u (tookOf r u t a now n) (nowOf a now) ∧ Only (· = b) w w' := by
  by_cases hc : 0 ≤ n ∧ n ≤ tokOf r u t a now
  · refine (take_yes b r u t a now n w h o hc.1 hc.2).mono fun e w' ⟨h1, h2, h3⟩ => ⟨?_, ?_, h3⟩
    · rw [h1]; unfold tookB; simp [hc]
    · unfold tookOf; rw [if_pos hc]; exact h2
  · refine (take_no b r u t a now n w h o (by omega)).mono fun e w' ⟨h1, h2, h3⟩ => ⟨?_, ?_, h3⟩
    · rw [h1]; unfold tookB; rw [decide_eq_false hc]
    · unfold tookOf; rw [if_neg hc]; exact h2

/-- The bucket with given bounds, full, at time 0. -/
theorem new_any (x y : Int) (w : World) (hx0 : -9223372036854775808 ≤ x) (hx1 : x ≤ 9223372036854775807) (hy0 : -9223372036854775808 ≤ y) (hy1 : y ≤ 9223372036854775807) :
    Calls Tryz.prog 18 #[.int .i64 x, .int .i64 y] w fun e w' => e = .returned (.pointer (some ⟨w.heap.size, 0, none⟩)) ∧ w' = w.alloc (.cells #[.int .i64 (clip x), .int .i64 (clip y), .int .i64 (clip y), .int .i64 0] 113) := by
  go_enter Tryz.func18, Tryz.ntmps18
  go_wp2_with fail
  refine (within_any x _ hx0 hx1).mono ?_
  rintro e w1 ⟨rfl, rfl⟩
  go_wp2_with fail
  refine (within_any y _ hy0 hy1).mono ?_
  rintro e w1 ⟨rfl, rfl⟩
  go_wp2_with fail
  refine (within_any y _ hy0 hy1).mono ?_
  rintro e w1 ⟨rfl, rfl⟩
  go_wp2_with fail
  go_ret
  exact ⟨rfl, rfl⟩

theorem ok_new (x y : Int) : Ok (clip x) (clip y) (clip y) 0 := by
  have := clip_bd x
  have := clip_bd y
  constructor <;> omega

theorem take_c (b : Nat) (r u t a now n t' a' : Int) (q : Bool) (w : World) (h : Hid (Bk w b r u t a)) (o : Ok r u t a) (e1 : tookB r u t a now n = q) (e2 : tookOf r u t a now n = t') (e3 : nowOf a now = a') :
    Calls Tryz.prog 105 #[.pointer (some ⟨b, 0, none⟩), .int .i64 now, .int .i64 n] w fun e w' => e = .returned (.bool q) ∧ Hid (Bk w' b r u t' a') ∧ Only (· = b) w w' := by
  subst e1 e2 e3
  exact take_any b r u t a now n w h o
theorem take_d (b : Nat) (r u t a now n t' a' : Int) (q : Bool) (w : World) (h : Hid (Bk w b r u t a)) (o : Ok r u t a) (e : tookB r u t a now n = q ∧ tookOf r u t a now n = t' ∧ nowOf a now = a') :
    Calls Tryz.prog 105 #[.pointer (some ⟨b, 0, none⟩), .int .i64 now, .int .i64 n] w fun e w' => e = .returned (.bool q) ∧ Hid (Bk w' b r u t' a') ∧ Only (· = b) w w' :=
  take_c b r u t a now n t' a' q w h o e.1 e.2.1 e.2.2
theorem below_only {B b : Nat} {W w w' : World} (hb : Below B W w) (h : Only (· = b) w w') (hB : B ≤ b) (hW : B ≤ W.heap.size) : Below B W w' :=
  h.below hb (by rintro k rfl; exact hB) (Nat.le_trans hW hb.size)

end Go.Proofs.YtpblgjadpfecgaaGreatDoor.Bk
