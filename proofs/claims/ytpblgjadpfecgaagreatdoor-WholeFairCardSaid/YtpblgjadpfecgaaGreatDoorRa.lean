/-
  The contracts of the meter's functions.
-/
import Derived.Test.YtpblgjadpfecgaaGreatDoorProg
import Derived.Test.YtpblgjadpfecgaaGreatDoorK
import Derived.WalkKit
import Derived.WalkLawsBesides
import Derived.KernelRfl
import Derived.Outline
import Derived.Lib.MinMax
import Derived.Laws.LoneSync
import Derived.Deep.QuietTactic
import Derived.BigQuiet
import Derived.LoopTactic
import Derived.Deep.CutBlock
import Derived.Deep.DeepCutAuto
import Derived.Laws.CopyOwn
import Derived.Test.YtpblgjadpfecgaaGreatDoorS
namespace Go.Proofs.YtpblgjadpfecgaaGreatDoor.Rg
open Go.RowKit

theorem ret_i {k : IntKind} {a b : Int} (h : a = b) : Ending.returned (.int k a) = .returned (.int k b) := by rw [h]
theorem ret_b {a b : Bool} (h : a = b) : Ending.returned (.bool a) = .returned (.bool b) := by rw [h]
/-- An int. -/
def Int64 (n : Int) : Prop := -9223372036854775808 ≤ n ∧ n ≤ 9223372036854775807

theorem load_any (a : Addr) (x : Int) (w : World) (hc : w.cell? a = some (.int .i64 x)) :
    Calls Tryz.prog 61 #[.pointer (some a)] w fun e w' => e = .returned (.int .i64 x) ∧ w = w' := by
  have hl := run_call_load (P := Tryz.prog) Tryz.func112 (by kernel_rfl) (by kernel_rfl) (by kernel_rfl) .i64 (by kernel_rfl) hc
  go_enter Tryz.func61, Tryz.ntmps61
  go_wp2
  go_ret
  exact ⟨rfl, rfl⟩

theorem cas_any (a : Addr) (x y : Int) (w : World) (hc : w.cell? a = some (.int .i64 x)) (hf : w.frozen? a = false) :
    Calls Tryz.prog 146 #[.pointer (some a), .int .i64 x, .int .i64 y] w fun e w' => e = .returned (.bool true) ∧ w' = w.setCell a (.int .i64 y) := by
  have hl := run_call_cas_hit (P := Tryz.prog) Tryz.func210 (by kernel_rfl) (by kernel_rfl) (by kernel_rfl) .i64 (by kernel_rfl) (y := y) hc hf
  go_enter Tryz.func146, Tryz.ntmps146
  go_wp2
  go_ret
  exact ⟨rfl, rfl⟩

/-- A number within the meter's bounds. -/
def mclip (n : Int) : Int := min (max n 0) 1099511627776
theorem mclip_bd (n : Int) : 0 ≤ mclip n ∧ mclip n ≤ 1099511627776 := by unfold mclip; omega

theorem new_any (n : Int) (w : World) (_h0 : -9223372036854775808 ≤ n) (_h1 : n ≤ 9223372036854775807) :
    Calls Tryz.prog 15 #[.int .i64 n] w fun e w' => e = .returned (.pointer (some ⟨w.heap.size, 0, none⟩)) ∧ w' = w.alloc (.cells #[.int .i64 (mclip n), .int .i64 0, .int .i64 0] 103) := by
  go_enter Tryz.func15, Tryz.ntmps15
  go_wp2
  go_ret
  exact ⟨rfl, rfl⟩

/-- The meter in block b: at most M, H held, P at most so far. -/
def MAt (w : World) (b : Nat) (M H P : Int) : Prop := w.heap[b]? = some (.cells #[.int .i64 M, .int .i64 H, .int .i64 P] 103 (0, 0))
theorem MAt.cells {w : World} {b : Nat} {M H P : Int} (h : MAt w b M H P) : w.cell? ⟨b, 0, none⟩ = some (.int .i64 M) ∧ w.cell? ⟨b, 1, none⟩ = some (.int .i64 H) ∧ w.cell? ⟨b, 2, none⟩ = some (.int .i64 P) := ⟨b_cell h 0, b_cell h 1, b_cell h 2⟩
theorem MAt.free {w : World} {b : Nat} {M H P : Int} (h : MAt w b M H P) (i : Nat) : w.frozen? ⟨b, i, none⟩ = false := b_free h i
theorem MAt.keep {S : Nat → Prop} {w w' : World} {b : Nat} {M H P : Int} (h : MAt w b M H P) (o : Only S w w') (hs : ¬ S b) : MAt w' b M H P := o.keep h hs
theorem MAt.set1 {w : World} {b : Nat} {M H P : Int} (h : MAt w b M H P) (x : Int) : MAt (w.setCell ⟨b, 1, none⟩ (.int .i64 x)) b M x P := b_set h 1 _
theorem MAt.set2 {w : World} {b : Nat} {M H P : Int} (h : MAt w b M H P) (x : Int) : MAt (w.setCell ⟨b, 2, none⟩ (.int .i64 x)) b M H x := b_set h 2 _
theorem o_put {a w : World} {b : Nat} (h : Only (· = b) a w) (i : Nat) (u : Value) : Only (· = b) a (w.setCell ⟨b, i, none⟩ u) := h.setCell (.inl rfl) u
theorem below_only {B b : Nat} {W w w' : World} (hb : Below B W w) (h : Only (· = b) w w') (hB : B ≤ b) (hW : B ≤ W.heap.size) : Below B W w' :=
  h.below hb (by rintro k rfl; exact hB) (Nat.le_trans hW hb.size)

/-- Within its bounds. -/
structure MOk (M H P : Int) : Prop where
  h0 : 0 ≤ H
  hm : H ≤ M
  m1 : M ≤ 1099511627776
  p0 : 0 ≤ P

theorem rise_up (b : Nat) (M H P now : Int) (w : World) (h : MAt w b M H P) (hn : P < now) :
    Calls Tryz.prog 147 #[.pointer (some ⟨b, 0, none⟩), .int .i64 now] w fun e w' => e = .returned (.tuple #[]) ∧ w' = w.setCell ⟨b, 2, none⟩ (.int .i64 now) := by
  obtain ⟨c0, c1, c2⟩ := h.cells
  have f2 := h.free 2
  go_enter Tryz.func147, Tryz.ntmps147
  go_wp2_with fail
  refine wp_loop_rounds 1 ?_
  rw [rounds_succ]
  go_wp2_with (first | (go_at_call 61; refine (load_any _ P _ c2).mono ?_; rintro e w1 ⟨rfl, rfl⟩) | (go_at_call 146; refine (cas_any _ P now _ c2 f2).mono ?_; rintro e w1 ⟨rfl, rfl⟩))
  refine bodyPost_ret (results_none rfl _ _ _) rfl ?_
  exact ⟨rfl, rfl⟩

theorem rise_no (b : Nat) (M H P now : Int) (w : World) (h : MAt w b M H P) (hn : now ≤ P) :
    Calls Tryz.prog 147 #[.pointer (some ⟨b, 0, none⟩), .int .i64 now] w fun e w' => e = .returned (.tuple #[]) ∧ w' = w := by
  obtain ⟨c0, c1, c2⟩ := h.cells
  go_enter Tryz.func147, Tryz.ntmps147
  go_wp2_with fail
  refine wp_loop_rounds 1 ?_
  rw [rounds_succ]
  go_wp2_with (first | (go_at_call 61; refine (load_any _ P _ c2).mono ?_; rintro e w1 ⟨rfl, rfl⟩))
  refine bodyPost_ret (results_none rfl _ _ _) rfl ?_
  exact ⟨rfl, rfl⟩

/-- Rise: the peak is at least this. -/
theorem rise_any (b : Nat) (M H P now : Int) (w : World) (h : Hid (MAt w b M H P)) :
    Calls Tryz.prog 147 #[.pointer (some ⟨b, 0, none⟩), .int .i64 now] w fun e w' => e = .returned (.tuple #[]) ∧ Hid (MAt w' b M H (max P now)) ∧ Only (· = b) w w' := by
  by_cases hn : P < now
  · refine (rise_up b M H P now w h hn).mono fun e w' ⟨h1, h2⟩ => ⟨h1, ?_, ?_⟩
    · rw [h2, show max P now = now by omega]; exact h.out.set2 now
    · rw [h2]; exact o_put (Only.refl _ _) _ _
  · refine (rise_no b M H P now w h (by omega)).mono fun e w' ⟨h1, h2⟩ => ⟨h1, ?_, ?_⟩
    · rw [h2, show max P now = P by omega]; exact h
    · rw [h2]; exact Only.refl _ _

theorem take_no (b : Nat) (M H P n : Int) (w : World) (h : Hid (MAt w b M H P)) (o : MOk M H P) (hn : n < 0 ∨ M - H < n) :
    Calls Tryz.prog 89 #[.pointer (some ⟨b, 0, none⟩), .int .i64 n] w fun e w' => e = .returned (.bool false) ∧ w' = w := by
  obtain ⟨c0, c1, c2⟩ := h.out.cells
  obtain ⟨o1, o2, o3, o4⟩ := o
  by_cases h0 : n < 0
  · clear hn
    go_enter Tryz.func89, Tryz.ntmps89
    go_wp2_with fail
    refine wp_loop_rounds 1 ?_
    rw [rounds_succ]
    go_wp2_with (first | (go_at_call 61; refine (load_any _ H _ c1).mono ?_; rintro e w1 ⟨rfl, rfl⟩))
    go_ret
    exact ⟨rfl, rfl⟩
  · have hn' : M - H < n := by omega
    clear hn
    go_enter Tryz.func89, Tryz.ntmps89
    go_wp2_with fail
    refine wp_loop_rounds 1 ?_
    rw [rounds_succ]
    go_wp2_with (first | (go_at_call 61; refine (load_any _ H _ c1).mono ?_; rintro e w1 ⟨rfl, rfl⟩))
    go_ret
    exact ⟨rfl, rfl⟩

theorem take_yes (b : Nat) (M H P n : Int) (w : World) (h : Hid (MAt w b M H P)) (o : MOk M H P) (h0 : 0 ≤ n) (hn : n ≤ M - H) :
    Calls Tryz.prog 89 #[.pointer (some ⟨b, 0, none⟩), .int .i64 n] w fun e w' => e = .returned (.bool true) ∧ Hid (MAt w' b M (H + n) (max P (H + n))) ∧ Only (· = b) w w' := by
  obtain ⟨c0, c1, c2⟩ := h.out.cells
  have f1 := h.out.free 1
  obtain ⟨o1, o2, o3, o4⟩ := o
  go_enter Tryz.func89, Tryz.ntmps89
  go_wp2_with fail
  refine wp_loop_rounds 1 ?_
  rw [rounds_succ]
  go_wp2_with (first | (go_at_call 61; refine (load_any _ H _ c1).mono ?_; rintro e w1 ⟨rfl, rfl⟩) | (go_at_call 146; refine (cas_any _ H (H + n) _ c1 f1).mono ?_; rintro e w1 ⟨rfl, rfl⟩) | (go_at_call 147; refine (rise_any b M (H + n) P (H + n) _ (hid (h.out.set1 _))).mono ?_; rintro e w2 ⟨rfl, h2, o2⟩))
  go_ret
  exact ⟨rfl, h2, (o_put (Only.refl _ _) _ _).trans o2⟩

theorem give_any (b : Nat) (M H P n : Int) (w : World) (h : Hid (MAt w b M H P)) (o : MOk M H P) (hn0 : -9223372036854775808 ≤ n) (hn1 : n ≤ 9223372036854775807) :
    Calls Tryz.prog 156 #[.pointer (some ⟨b, 0, none⟩), .int .i64 n] w fun e w' => e = .returned (.int .i64 (min (max n 0) H)) ∧ Hid (MAt w' b M (H - min (max n 0) H) P) ∧ Only (· = b) w w' := by
  obtain ⟨c0, c1, c2⟩ := h.out.cells
  have f1 := h.out.free 1
  obtain ⟨o1, o2, o3, o4⟩ := o
  go_enter Tryz.func156, Tryz.ntmps156
  go_wp2_with fail
  refine wp_loop_rounds 1 ?_
  rw [rounds_succ]
  go_wp2_with (first | (go_at_call 61; refine (load_any _ H _ c1).mono ?_; rintro e w1 ⟨rfl, rfl⟩) | (go_at_call 146; refine (cas_any _ H (H - min (max n 0) H) _ c1 f1).mono ?_; rintro e w1 ⟨rfl, rfl⟩))
  go_ret
  exact ⟨rfl, hid (h.out.set1 _), o_put (Only.refl _ _) _ _⟩

theorem held_any (b : Nat) (M H P : Int) (w : World) (h : Hid (MAt w b M H P)) (o : MOk M H P) :
    Calls Tryz.prog 31 #[.pointer (some ⟨b, 0, none⟩)] w fun e w' => e = .returned (.int .i64 H) ∧ w = w' := by
  obtain ⟨c0, c1, c2⟩ := h.out.cells
  obtain ⟨o1, o2, o3, o4⟩ := o
  go_enter Tryz.func31, Tryz.ntmps31
  go_wp2_with (first | (go_at_call 61; refine (load_any _ H _ c1).mono ?_; rintro e w1 ⟨rfl, rfl⟩))
  go_ret
  exact ⟨rfl, rfl⟩

theorem held_d (b : Nat) (M H P : Int) (w : World) (h : Hid (MAt w b M H P)) (o : MOk M H P) :
    Calls Tryz.prog 31 #[.pointer (some ⟨b, 0, none⟩)] w fun e w' => e = .returned (.int .i64 H) ∧ Hid (MAt w' b M H P) ∧ Only (· = b) w w' :=
  (held_any b M H P w h o).mono fun _ _ ⟨h1, h2⟩ => ⟨h1, h2 ▸ h, h2 ▸ Only.refl _ _⟩
theorem take_y (b : Nat) (M H P n H' P' : Int) (w : World) (h : Hid (MAt w b M H P)) (o : MOk M H P) (h0 : 0 ≤ n ∧ n ≤ M - H) (e1 : H + n = H') (e2 : max P H' = P') :
    Calls Tryz.prog 89 #[.pointer (some ⟨b, 0, none⟩), .int .i64 n] w fun e w' => e = .returned (.bool true) ∧ Hid (MAt w' b M H' P') ∧ Only (· = b) w w' := by
  subst e1 e2
  exact take_yes b M H P n w h o h0.1 h0.2
theorem take_n (b : Nat) (M H P n : Int) (w : World) (h : Hid (MAt w b M H P)) (o : MOk M H P) (hn : n < 0 ∨ M - H < n) :
    Calls Tryz.prog 89 #[.pointer (some ⟨b, 0, none⟩), .int .i64 n] w fun e w' => e = .returned (.bool false) ∧ Hid (MAt w' b M H P) ∧ Only (· = b) w w' :=
  (take_no b M H P n w h o hn).mono fun _ _ ⟨h1, h2⟩ => ⟨h1, h2.symm ▸ h, h2.symm ▸ Only.refl _ _⟩
theorem give_d (b : Nat) (M H P n g H' : Int) (w : World) (h : Hid (MAt w b M H P)) (o : MOk M H P) (hn0 : -9223372036854775808 ≤ n) (hn1 : n ≤ 9223372036854775807) (e1 : min (max n 0) H = g) (e2 : H - g = H') :
    Calls Tryz.prog 156 #[.pointer (some ⟨b, 0, none⟩), .int .i64 n] w fun e w' => e = .returned (.int .i64 g) ∧ Hid (MAt w' b M H' P) ∧ Only (· = b) w w' := by
  subst e1 e2
  exact give_any b M H P n w h o hn0 hn1
end Go.Proofs.YtpblgjadpfecgaaGreatDoor.Rg
/-
  A ring's segments as data: what they hold, what a put, a peek and a take make of them.
-/
namespace Go.Proofs.YtpblgjadpfecgaaGreatDoor.Rg

/-- A segment: its block, its 64 bytes, from where to where they are live. -/
structure Seg where
  b : Nat
  c : List Int
  f : Nat
  t : Nat

def Seg.live (s : Seg) : List Int := (s.c.take s.t).drop s.f
/-- Live bytes of all. -/
def liveAll : List Seg → List Int
  | [] => []
  | s :: ss => s.live ++ liveAll ss

/-- A segment's bounds. -/
structure Seg.Ok (s : Seg) : Prop where
  len : s.c.length = 64
  ft : s.f < s.t
  t64 : s.t ≤ 64

theorem live_len {s : Seg} (h : s.c.length = 64) (ht : s.t ≤ 64) : s.live.length = s.t - s.f := by
  unfold Seg.live
  rw [List.length_drop, List.length_take, h]
  omega
theorem liveAll_append (a b : List Seg) : liveAll (a ++ b) = liveAll a ++ liveAll b := by
  induction a with
  | nil => rfl
  | cons s a ih => show s.live ++ liveAll (a ++ b) = _; rw [ih]; exact (List.append_assoc _ _ _).symm
theorem liveAll_snoc (a : List Seg) (s : Seg) : liveAll (a ++ [s]) = liveAll a ++ s.live := by
  rw [liveAll_append]; simp [liveAll]

/-- Bytes laid behind the live ones. -/
theorem live_put (c : List Int) (f t : Nat) (b : Nat) (xs : List Int) (h : c.length = 64) (hft : f ≤ t) (hx : t + xs.length ≤ 64) :
    (Seg.mk b (splice c t xs) f (t + xs.length)).live = (Seg.mk b c f t).live ++ xs := by
  unfold Seg.live splice
  simp only
  have e : (c.take t ++ (xs ++ c.drop (t + xs.length))).take (t + xs.length) = c.take t ++ xs := by
    rw [← List.append_assoc, List.take_append_of_le_length (by simp; omega)]
    exact List.take_of_length_le (by simp; omega)
  rw [e, List.drop_append_of_le_length (by simp; omega)]
theorem splice_len (c : List Int) (t : Nat) (xs : List Int) (h : c.length = 64) (hx : t + xs.length ≤ 64) : (splice c t xs).length = 64 := by
  rw [length_splice c t xs (by omega), h]

/-- The front moved on. -/
theorem live_take (c : List Int) (f t : Nat) (b k : Nat) : (Seg.mk b c (f + k) t).live = (Seg.mk b c f t).live.drop k := by
  unfold Seg.live
  simp only
  rw [List.drop_drop]

/-- The bytes between from and a place, as they are read. -/
theorem live_part (s : Seg) (j : Nat) : s.live.take j = (s.c.drop s.f).take (min j (s.t - s.f)) := by
  unfold Seg.live
  rw [List.drop_take, List.take_take]

theorem drop_past {α : Type} (a b : List α) (k : Nat) (h : a.length ≤ k) : (a ++ b).drop k = b.drop (k - a.length) := by
  rw [List.drop_append, List.drop_of_length_le h, List.nil_append]

theorem liveAll_pos {ss : List Seg} (h : ∀ s ∈ ss, s.Ok) (hp : 0 < (liveAll ss).length) : ∃ s r, ss = s :: r := by
  cases ss with
  | nil => simp [liveAll] at hp
  | cons s r => exact ⟨s, r, rfl⟩

/-- One more segment is read. -/
theorem take_step {ss : List Seg} {i m : Nat} {s : Seg} (hi : ss[i]? = some s) :
    (liveAll (ss.take (i + 1))).take m = (liveAll (ss.take i)).take m ++ (s.c.drop s.f).take (min (m - (liveAll (ss.take i)).length) (s.t - s.f)) := by
  have e : ss.take (i + 1) = ss.take i ++ [s] := by
    rw [List.take_add_one, hi]; rfl
  rw [e, liveAll_snoc, List.take_append, ← live_part]
theorem take_all {ss : List Seg} {m : Nat} {i : Nat} (hi : ss.length ≤ i) : (liveAll (ss.take i)).take m = (liveAll ss).take m := by
  rw [List.take_of_length_le hi]
theorem take_full {ss : List Seg} {m i : Nat} (h : ((liveAll (ss.take i)).take m).length = m) : (liveAll (ss.take i)).take m = (liveAll ss).take m := by
  have e : liveAll ss = liveAll (ss.take i) ++ liveAll (ss.drop i) := by rw [← liveAll_append, List.take_append_drop]
  rw [e, List.take_append_of_le_length]
  rw [List.length_take] at h
  omega
end Go.Proofs.YtpblgjadpfecgaaGreatDoor.Rg
/-
  A ring in memory: its struct, the array of its segments' pointers, the segments; which blocks are its own.
-/
namespace Go.Proofs.YtpblgjadpfecgaaGreatDoor.Rg
open Go.RowKit

def u8s (l : List Int) : List Value := l.map (Value.int .u8)
theorem u8s_len (l : List Int) : (u8s l).length = l.length := List.length_map _
theorem u8s_append (a b : List Int) : u8s (a ++ b) = u8s a ++ u8s b := List.map_append
theorem u8s_get (l : List Int) (i : Nat) (h : i < l.length) : (u8s l)[i]? = some (.int .u8 (l.getD i 0)) := by
  unfold u8s
  rw [List.getElem?_map, List.getD_eq_getElem?_getD, List.getElem?_eq_getElem h]
  rfl

/-- A segment's cells. -/
def segRow (c : List Int) (f t : Nat) : List Value := u8s c ++ [.int .i64 (f : Int), .int .i64 (t : Int)]
theorem segRow_len (c : List Int) (f t : Nat) (h : c.length = 64) : (segRow c f t).length = 66 := by unfold segRow; rw [List.length_append, u8s_len, h]; rfl
theorem segRow_byte (c : List Int) (f t i : Nat) (hi : i < c.length) : (segRow c f t)[i]? = some (.int .u8 (c.getD i 0)) := by
  unfold segRow
  rw [List.getElem?_append_left (by rw [u8s_len]; exact hi), u8s_get c i hi]
theorem segRow_from (c : List Int) (f t : Nat) (h : c.length = 64) : (segRow c f t)[64]? = some (.int .i64 (f : Int)) := by
  unfold segRow
  rw [List.getElem?_append_right (by rw [u8s_len, h]; omega), u8s_len, h]; rfl
theorem segRow_to (c : List Int) (f t : Nat) (h : c.length = 64) : (segRow c f t)[65]? = some (.int .i64 (t : Int)) := by
  unfold segRow
  rw [List.getElem?_append_right (by rw [u8s_len, h]; omega), u8s_len, h]; rfl

/-- A segment in memory. -/
def SegIn (w : World) (s : Seg) : Prop := w.heap[s.b]? = some (.cells (segRow s.c s.f s.t).toArray 192 (0, 0))
theorem SegIn.keep {S : Nat → Prop} {w w' : World} {s : Seg} (h : SegIn w s) (o : Only S w w') (hs : ¬ S s.b) : SegIn w' s := o.keep h hs
theorem SegIn.cell_byte {w : World} {s : Seg} (h : SegIn w s) (i : Nat) (hi : i < s.c.length) : w.cell? ⟨s.b, i, none⟩ = some (.int .u8 (s.c.getD i 0)) := by
  rw [b_cell h i, List.getElem?_toArray, segRow_byte _ _ _ _ hi]
theorem SegIn.cell_from {w : World} {s : Seg} (h : SegIn w s) (hl : s.c.length = 64) : w.cell? ⟨s.b, 64, none⟩ = some (.int .i64 (s.f : Int)) := by
  rw [b_cell h 64, List.getElem?_toArray, segRow_from _ _ _ hl]
theorem SegIn.cell_to {w : World} {s : Seg} (h : SegIn w s) (hl : s.c.length = 64) : w.cell? ⟨s.b, 65, none⟩ = some (.int .i64 (s.t : Int)) := by
  rw [b_cell h 65, List.getElem?_toArray, segRow_to _ _ _ hl]
theorem SegIn.free {w : World} {s : Seg} (h : SegIn w s) (i : Nat) : w.frozen? ⟨s.b, i, none⟩ = false := b_free h i
theorem SegIn.set_from {w : World} {b : Nat} {c : List Int} {f t : Nat} (h : SegIn w ⟨b, c, f, t⟩) (hl : c.length = 64) (f' : Nat) : SegIn (w.setCell ⟨b, 64, none⟩ (.int .i64 (f' : Int))) ⟨b, c, f', t⟩ := by
  have := b_set h 64 (.int .i64 (f' : Int))
  have e : (segRow c f t).toArray.setIfInBounds 64 (.int .i64 (f' : Int)) = (segRow c f' t).toArray := by
    apply Array.ext'
    unfold segRow
    simp only [List.setIfInBounds_toArray]
    rw [List.set_append_right _ _ (by rw [u8s_len, hl]; omega), u8s_len, hl]
    rfl
  unfold SegIn
  rw [← e]; exact this
theorem SegIn.set_to {w : World} {b : Nat} {c : List Int} {f t : Nat} (h : SegIn w ⟨b, c, f, t⟩) (hl : c.length = 64) (t' : Nat) : SegIn (w.setCell ⟨b, 65, none⟩ (.int .i64 (t' : Int))) ⟨b, c, f, t'⟩ := by
  have := b_set h 65 (.int .i64 (t' : Int))
  have e : (segRow c f t).toArray.setIfInBounds 65 (.int .i64 (t' : Int)) = (segRow c f t').toArray := by
    apply Array.ext'
    unfold segRow
    simp only [List.setIfInBounds_toArray]
    rw [List.set_append_right _ _ (by rw [u8s_len, hl]; omega), u8s_len, hl]
    rfl
  unfold SegIn
  rw [← e]; exact this

def ptr (b : Nat) : Value := .pointer (some ⟨b, 0, none⟩)

/-- The segments' pointers: the slice's address A, its capacity. -/
def SegsAt (w : World) (A : Option Addr) (cap : Nat) (ps : List Nat) : Prop :=
  (A = none ∧ ps = [] ∧ cap = 0) ∨
  ∃ g off cur, A = some ⟨g, off, none⟩ ∧ w.heap[g]? = some (.cells cur 193 (0, 0)) ∧ ps.length ≤ cap ∧ cap ≤ maxLen ∧ off + cap ≤ cur.size ∧ ∀ i p, ps[i]? = some p → cur[off + i]? = some (ptr p)

def ablock : Option Addr → Nat → Prop
  | some a, i => a.block = i
  | none, _ => False

/-- A ring in block rb, of the meter in block mb, that holds l; F: its own blocks. -/
structure RingIn (w : World) (rb mb : Nat) (l : List Int) (F : Nat → Prop) (A : Option Addr) (cap : Nat) (ss : List Seg) : Prop where
  row : w.heap[rb]? = some (.cells #[ptr mb, .slice A ss.length cap, .int .i64 (l.length : Int)] 189 (0, 0))
  segs : SegsAt w A cap (ss.map Seg.b)
  each : ∀ s ∈ ss, s.Ok ∧ SegIn w s
  nodup : (ss.map Seg.b).Nodup
  live : liveAll ss = l
  own : F rb
  ownA : ∀ i, ablock A i → F i
  ownS : ∀ s ∈ ss, F s.b
  lt : ∀ i, F i → i < w.heap.size

def Ring (w : World) (rb mb : Nat) (l : List Int) (F : Nat → Prop) : Prop := ∃ A cap ss, RingIn w rb mb l F A cap ss

theorem SegsAt.keep {S : Nat → Prop} {w w' : World} {A : Option Addr} {cap : Nat} {ps : List Nat} (h : SegsAt w A cap ps) (o : Only S w w') (hs : ∀ i, ablock A i → ¬ S i) : SegsAt w' A cap ps := by
  rcases h with h | ⟨g, off, cur, rfl, hg, r⟩
  · exact .inl h
  · exact .inr ⟨g, off, cur, rfl, o.keep hg (hs g rfl), r⟩
theorem RingIn.keep {S : Nat → Prop} {w w' : World} {rb mb : Nat} {l : List Int} {F : Nat → Prop} {A : Option Addr} {cap : Nat} {ss : List Seg} (h : RingIn w rb mb l F A cap ss) (o : Only S w w') (hs : ∀ i, F i → ¬ S i) : RingIn w' rb mb l F A cap ss :=
  ⟨o.keep h.row (hs _ h.own), h.segs.keep o (fun i hi => hs i (h.ownA i hi)), fun s hm => ⟨(h.each s hm).1, (h.each s hm).2.keep o (hs _ (h.ownS s hm))⟩, h.nodup, h.live, h.own, h.ownA, h.ownS, fun i hi => Nat.lt_of_lt_of_le (h.lt i hi) o.size⟩
theorem Ring.keep {S : Nat → Prop} {w w' : World} {rb mb : Nat} {l : List Int} {F : Nat → Prop} (h : Ring w rb mb l F) (o : Only S w w') (hs : ∀ i, F i → ¬ S i) : Ring w' rb mb l F := by
  obtain ⟨A, cap, ss, h⟩ := h
  exact ⟨A, cap, ss, h.keep o hs⟩
theorem Ring.drewN {w : World} {rb mb : Nat} {l : List Int} {F : Nat → Prop} (h : Ring w rb mb l F) (n : Nat) : Ring (w.drewN n) rb mb l F := h.keep ((Only.refl (fun _ => False) w).drewN n) (fun _ _ h => h)

/-- The ring's own three cells. -/
theorem RingIn.cells {w : World} {rb mb : Nat} {l : List Int} {F : Nat → Prop} {A : Option Addr} {cap : Nat} {ss : List Seg} (h : RingIn w rb mb l F A cap ss) :
    w.cell? ⟨rb, 0, none⟩ = some (ptr mb) ∧ w.cell? ⟨rb, 1, none⟩ = some (.slice A ss.length cap) ∧ w.cell? ⟨rb, 2, none⟩ = some (.int .i64 (l.length : Int)) := ⟨b_cell h.row 0, b_cell h.row 1, b_cell h.row 2⟩
theorem RingIn.free {w : World} {rb mb : Nat} {l : List Int} {F : Nat → Prop} {A : Option Addr} {cap : Nat} {ss : List Seg} (h : RingIn w rb mb l F A cap ss) (i : Nat) : w.frozen? ⟨rb, i, none⟩ = false := b_free h.row i

/-- Blocks of different types are different. -/
theorem ty_ne {w : World} {g h : Nat} {c c' : Array Value} {t t' : TypeId} {f f' : Nat × Nat} (hg : w.heap[g]? = some (.cells c t f)) (hh : w.heap[h]? = some (.cells c' t' f')) (hne : t ≠ t') : g ≠ h := by
  rintro rfl
  rw [hg] at hh
  simp only [Option.some.injEq, Obj.cells.injEq] at hh
  exact hne hh.2.1

/-- The pointer of a segment, in the array. -/
theorem SegsAt.at_ {w : World} {A : Option Addr} {cap : Nat} {ps : List Nat} (h : SegsAt w A cap ps) (i p : Nat) (hi : ps[i]? = some p) : ∃ g off, A = some ⟨g, off, none⟩ ∧ w.cell? ⟨g, off + i, none⟩ = some (ptr p) := by
  rcases h with ⟨_, rfl, _⟩ | ⟨g, off, cur, rfl, hg, _, _, _, hc⟩
  · simp at hi
  · exact ⟨g, off, rfl, by rw [b_cell hg, hc i p hi]⟩

/-- The same, the count of bytes and what lives apart: in the middle of a call. -/
structure RingRaw (w : World) (rb mb : Nat) (nn : Nat) (F : Nat → Prop) (A : Option Addr) (cap : Nat) (ss : List Seg) : Prop where
  row : w.heap[rb]? = some (.cells #[ptr mb, .slice A ss.length cap, .int .i64 (nn : Int)] 189 (0, 0))
  segs : SegsAt w A cap (ss.map Seg.b)
  each : ∀ s ∈ ss, s.Ok ∧ SegIn w s
  nodup : (ss.map Seg.b).Nodup
  own : F rb
  ownA : ∀ i, ablock A i → F i
  ownS : ∀ s ∈ ss, F s.b
  lt : ∀ i, F i → i < w.heap.size
theorem RingIn.raw {w : World} {rb mb : Nat} {l : List Int} {F : Nat → Prop} {A : Option Addr} {cap : Nat} {ss : List Seg} (h : RingIn w rb mb l F A cap ss) : RingRaw w rb mb l.length F A cap ss :=
  ⟨h.row, h.segs, h.each, h.nodup, h.own, h.ownA, h.ownS, h.lt⟩
theorem RingRaw.ring {w : World} {rb mb : Nat} {l : List Int} {F : Nat → Prop} {A : Option Addr} {cap : Nat} {ss : List Seg} (h : RingRaw w rb mb l.length F A cap ss) (e : liveAll ss = l) : Ring w rb mb l F :=
  ⟨A, cap, ss, h.row, h.segs, h.each, h.nodup, e, h.own, h.ownA, h.ownS, h.lt⟩
theorem RingRaw.keep {S : Nat → Prop} {w w' : World} {rb mb nn : Nat} {F : Nat → Prop} {A : Option Addr} {cap : Nat} {ss : List Seg} (h : RingRaw w rb mb nn F A cap ss) (o : Only S w w') (hs : ∀ i, F i → ¬ S i) : RingRaw w' rb mb nn F A cap ss :=
  ⟨o.keep h.row (hs _ h.own), h.segs.keep o (fun i hi => hs i (h.ownA i hi)), fun s hm => ⟨(h.each s hm).1, (h.each s hm).2.keep o (hs _ (h.ownS s hm))⟩, h.nodup, h.own, h.ownA, h.ownS, fun i hi => Nat.lt_of_lt_of_le (h.lt i hi) o.size⟩
theorem RingRaw.cells {w : World} {rb mb nn : Nat} {F : Nat → Prop} {A : Option Addr} {cap : Nat} {ss : List Seg} (h : RingRaw w rb mb nn F A cap ss) :
    w.cell? ⟨rb, 0, none⟩ = some (ptr mb) ∧ w.cell? ⟨rb, 1, none⟩ = some (.slice A ss.length cap) ∧ w.cell? ⟨rb, 2, none⟩ = some (.int .i64 (nn : Int)) := ⟨b_cell h.row 0, b_cell h.row 1, b_cell h.row 2⟩
theorem RingRaw.free {w : World} {rb mb nn : Nat} {F : Nat → Prop} {A : Option Addr} {cap : Nat} {ss : List Seg} (h : RingRaw w rb mb nn F A cap ss) (i : Nat) : w.frozen? ⟨rb, i, none⟩ = false := b_free h.row i
/-- The bounds of the array of pointers. -/
theorem SegsAt.bd {w : World} {A : Option Addr} {cap : Nat} {ps : List Nat} (h : SegsAt w A cap ps) : ps.length ≤ cap ∧ cap ≤ maxLen := by
  rcases h with ⟨_, rfl, rfl⟩ | ⟨g, off, cur, _, _, h1, h2, _⟩
  · exact ⟨Nat.le_refl _, Nat.zero_le _⟩
  · exact ⟨h1, h2⟩
/-- The address behind the first one. -/
def tailA (A : Option Addr) (cap : Nat) : Option Addr := if cap = 1 then A else A.map (·.add 1)
theorem SegsAt.tail {w : World} {A : Option Addr} {cap p : Nat} {ps : List Nat} (h : SegsAt w A cap (p :: ps)) : SegsAt w (tailA A cap) (cap - 1) ps ∧ ∀ i, ablock (tailA A cap) i → ablock A i := by
  rcases h with ⟨_, h1, _⟩ | ⟨g, off, cur, rfl, hg, h1, h2, h3, hc⟩
  · cases h1
  · simp at h1
    unfold tailA
    by_cases hcap : cap = 1
    · rw [if_pos hcap]
      refine ⟨.inr ⟨g, off, cur, rfl, hg, by omega, by omega, by omega, fun i q hi => ?_⟩, fun i h => h⟩
      have : i < ps.length := (List.getElem?_eq_some_iff.1 hi).1
      omega
    · rw [if_neg hcap]
      refine ⟨.inr ⟨g, off + 1, cur, by simp [Addr.add], hg, by omega, by omega, by omega, fun i q hi => ?_⟩, fun i h => h⟩
      have := hc (i + 1) q (by simpa using hi)
      rwa [show off + (i + 1) = off + 1 + i by omega] at this

/-- A store into one segment's block. -/
theorem RingRaw.seg {w w' : World} {rb mb nn : Nat} {F : Nat → Prop} {A : Option Addr} {cap : Nat} {s s' : Seg} {a r : List Seg} (h : RingRaw w rb mb nn F A cap (a ++ s :: r)) (o : Only (· = s.b) w w') (hb : s'.b = s.b) (hok : s'.Ok) (hin : SegIn w' s') : RingRaw w' rb mb nn F A cap (a ++ s' :: r) := by
  have hs := h.each s (by simp)
  have n1 : rb ≠ s.b := ty_ne h.row hs.2 (by decide)
  have hnd : ∀ x ∈ a ++ r, x.b ≠ s.b := by
    have := h.nodup
    simp only [List.map_append, List.map_cons] at this
    rw [List.nodup_append] at this
    obtain ⟨_, h2, h3⟩ := this
    rw [List.nodup_cons] at h2
    intro x hx e
    rcases List.mem_append.1 hx with hx | hx
    · exact h3 _ (List.mem_map_of_mem hx) _ (by simp) e
    · exact h2.1 (e ▸ List.mem_map_of_mem hx)
  have em : (a ++ s' :: r).map Seg.b = (a ++ s :: r).map Seg.b := by simp [hb]
  have el : (a ++ s' :: r).length = (a ++ s :: r).length := by simp
  refine ⟨?_, ?_, ?_, ?_, h.own, h.ownA, ?_, fun i hi => Nat.lt_of_lt_of_le (h.lt i hi) o.size⟩
  · rw [el]; exact o.keep h.row n1
  · rw [em]
    refine h.segs.keep o (fun i hi e => ?_)
    rcases h.segs with ⟨rfl, _, _⟩ | ⟨g, off, cur, rfl, hg, _⟩
    · exact hi
    · have e1 : g = i := hi
      exact ty_ne hg hs.2 (by decide) (e1.trans e)
  · intro x hx
    rcases List.mem_append.1 hx with hx | hx
    · have := h.each x (by simp [hx])
      exact ⟨this.1, this.2.keep o (hnd x (by simp [hx]))⟩
    · rcases List.mem_cons.1 hx with rfl | hx
      · exact ⟨hok, hin⟩
      · have := h.each x (by simp [hx])
        exact ⟨this.1, this.2.keep o (hnd x (by simp [hx]))⟩
  · rw [em]; exact h.nodup
  · intro x hx
    rcases List.mem_append.1 hx with hx | hx
    · exact h.ownS x (by simp [hx])
    · rcases List.mem_cons.1 hx with rfl | hx
      · rw [hb]; exact h.ownS s (by simp)
      · exact h.ownS x (by simp [hx])

/-- The ring's own row, written. -/
theorem RingRaw.put {w w' : World} {rb mb nn nn' : Nat} {F : Nat → Prop} {A A' : Option Addr} {cap cap' : Nat} {ss ss' : List Seg} (h : RingRaw w rb mb nn F A cap ss) (o : Only (· = rb) w w') (hrow : w'.heap[rb]? = some (.cells #[ptr mb, .slice A' ss'.length cap', .int .i64 (nn' : Int)] 189 (0, 0)))
    (hseg : SegsAt w A' cap' (ss'.map Seg.b)) (hA : ∀ i, ablock A' i → F i) (hsub : ∀ s ∈ ss', s ∈ ss) (hnd : (ss'.map Seg.b).Nodup) : RingRaw w' rb mb nn' F A' cap' ss' := by
  refine ⟨hrow, hseg.keep o (fun i hi e => ?_), fun s hs => ?_, hnd, h.own, hA, fun s hs => h.ownS s (hsub s hs), fun i hi => Nat.lt_of_lt_of_le (h.lt i hi) o.size⟩
  · rcases hseg with ⟨rfl, _, _⟩ | ⟨g, off, cur, rfl, hg, _⟩
    · exact hi
    · have e1 : g = i := hi
      exact ty_ne hg h.row (by decide) (e1.trans e)
  · have := h.each s (hsub s hs)
    exact ⟨this.1, this.2.keep o (fun e => ty_ne h.row this.2 (by decide) e.symm)⟩

/-- The first segment gone. -/
theorem RingRaw.behead {w w' : World} {rb mb nn : Nat} {F : Nat → Prop} {A : Option Addr} {cap : Nat} {s : Seg} {r : List Seg} (h : RingRaw w rb mb nn F A cap (s :: r)) (o : Only (fun i => i = s.b ∨ i = rb) w w')
    (hrow : w'.heap[rb]? = some (.cells #[ptr mb, .slice (tailA A cap) r.length (cap - 1), .int .i64 (nn : Int)] 189 (0, 0))) : RingRaw w' rb mb nn F (tailA A cap) (cap - 1) r := by
  have hs := h.each s (by simp)
  have hnd := h.nodup
  simp only [List.map_cons, List.nodup_cons] at hnd
  obtain ⟨ht, hta⟩ := h.segs.tail
  refine ⟨hrow, ht.keep o (fun i hi e => ?_), fun x hx => ?_, hnd.2, h.own, fun i hi => h.ownA i (hta i hi), fun x hx => h.ownS x (by simp [hx]), fun i hi => Nat.lt_of_lt_of_le (h.lt i hi) o.size⟩
  · have hi' := hta i hi
    rcases h.segs with ⟨rfl, _, _⟩ | ⟨g, off, cur, rfl, hg, _⟩
    · exact hi'
    · have e1 : g = i := hi'
      rcases e with e | e
      · exact ty_ne hg hs.2 (by decide) (e1.trans e)
      · exact ty_ne hg h.row (by decide) (e1.trans e)
  · have := h.each x (by simp [hx])
    refine ⟨this.1, this.2.keep o (fun e => ?_)⟩
    rcases e with e | e
    · exact hnd.1 (e ▸ List.mem_map_of_mem hx)
    · exact ty_ne this.2 h.row (by decide) e
end Go.Proofs.YtpblgjadpfecgaaGreatDoor.Rg
