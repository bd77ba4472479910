/-
  A ring's segments as data: what they hold, what a put, a peek and a take make of them.
-/
import Derived.Laws.CopyOwn
namespace Go.Proofs.Ytcehabcbmhjcmaa

/-- A segment: its block, its 64 bytes, from where to where they are live. -/
structure Seg where
  b : Nat
  c : List Int
  f : Nat
  t : Nat

def Seg.live (s : Seg) : List Int := (s.c.take s.t).drop s.f
/-- Live bytes of all. -/
def liveAll : List Seg → List Int
  | [] => []
  | s :: ss => s.live ++ liveAll ss

/-- A segment's bounds. -/
structure Seg.Ok (s : Seg) : Prop where
  len : s.c.length = 64
  ft : s.f < s.t
  t64 : s.t ≤ 64

theorem live_len {s : Seg} (h : s.c.length = 64) (ht : s.t ≤ 64) : s.live.length = s.t - s.f := by
  unfold Seg.live
  rw [List.length_drop, List.length_take, h]
  omega
theorem liveAll_append (a b : List Seg) : liveAll (a ++ b) = liveAll a ++ liveAll b := by
  induction a with
  | nil => rfl
  | cons s a ih => show s.live ++ liveAll (a ++ b) = _; rw [ih]; exact (List.append_assoc _ _ _).symm
theorem liveAll_snoc (a : List Seg) (s : Seg) : liveAll (a ++ [s]) = liveAll a ++ s.live := by
  rw [liveAll_append]; simp [liveAll]

/-- Bytes laid behind the live ones. -/
theorem live_put (c : List Int) (f t : Nat) (b : Nat) (xs : List Int) (h : c.length = 64) (hft : f ≤ t) (hx : t + xs.length ≤ 64) :
    (Seg.mk b (splice c t xs) f (t + xs.length)).live = (Seg.mk b c f t).live ++ xs := by
  unfold Seg.live splice
  simp only
  have e : (c.take t ++ (xs ++ c.drop (t + xs.length))).take (t + xs.length) = c.take t ++ xs := by
    rw [← List.append_assoc, List.take_append_of_le_length (by simp; omega)]
    exact List.take_of_length_le (by simp; omega)
  rw [e, List.drop_append_of_le_length (by simp; omega)]
theorem splice_len (c : List Int) (t : Nat) (xs : List Int) (h : c.length = 64) (hx : t + xs.length ≤ 64) : (splice c t xs).length = 64 := by
  rw [length_splice c t xs (by omega), h]

/-- The front moved on. -/
theorem live_take (c : List Int) (f t : Nat) (b k : Nat) : (Seg.mk b c (f + k) t).live = (Seg.mk b c f t).live.drop k := by
  unfold Seg.live
  simp only
  rw [List.drop_drop]

/-- The bytes between from and a place, as they are read. -/
theorem live_part (s : Seg) (j : Nat) : s.live.take j = (s.c.drop s.f).take (min j (s.t - s.f)) := by
  unfold Seg.live
  rw [List.drop_take, List.take_take]

theorem drop_past {α : Type} (a b : List α) (k : Nat) (h : a.length ≤ k) : (a ++ b).drop k = b.drop (k - a.length) := by
  rw [List.drop_append, List.drop_of_length_le h, List.nil_append]

theorem liveAll_pos {ss : List Seg} (h : ∀ s ∈ ss, s.Ok) (hp : 0 < (liveAll ss).length) : ∃ s r, ss = s :: r := by
  cases ss with
  | nil => simp [liveAll] at hp
  | cons s r => exact ⟨s, r, rfl⟩

/-- One more segment is read. -/
theorem take_step {ss : List Seg} {i m : Nat} {s : Seg} (hi : ss[i]? = some s) :
    (liveAll (ss.take (i + 1))).take m = (liveAll (ss.take i)).take m ++ (s.c.drop s.f).take (min (m - (liveAll (ss.take i)).length) (s.t - s.f)) := by
  have e : ss.take (i + 1) = ss.take i ++ [s] := by
    rw [List.take_add_one, hi]; rfl
  rw [e, liveAll_snoc, List.take_append, ← live_part]
theorem take_all {ss : List Seg} {m : Nat} {i : Nat} (hi : ss.length ≤ i) : (liveAll (ss.take i)).take m = (liveAll ss).take m := by
  rw [List.take_of_length_le hi]
theorem take_full {ss : List Seg} {m i : Nat} (h : ((liveAll (ss.take i)).take m).length = m) : (liveAll (ss.take i)).take m = (liveAll ss).take m := by
  have e : liveAll ss = liveAll (ss.take i) ++ liveAll (ss.drop i) := by rw [← liveAll_append, List.take_append_drop]
  rw [e, List.take_append_of_le_length]
  rw [List.length_take] at h
  omega
end Go.Proofs.Ytcehabcbmhjcmaa
