/-
  A round's state of RingPlays.
-/
import Derived.Test.YtcehabcbmhjcmaaJ
import Derived.Test.YtcehabcbmhjcmaaC
import Derived.Test.YtcehabcbmhjcmaaM
import Derived.Deep.RegionHeld3
namespace Go.Proofs.Ytcehabcbmhjcmaa
open Go.RowKit

def lst (f : Nat → Int) (n : Nat) : List Int := (List.range n).map f
theorem lst_len (f : Nat → Int) (n : Nat) : (lst f n).length = n := by simp [lst]
theorem lst_elems {w : World} {A : Option Addr} {n c : Nat} {f : Nat → Int} (h : Elems w A c (fun i => .int .u8 (f i))) (hn : n ≤ c) : Elems w A n (B8 (lst f n)) :=
  (h.head hn).congr (fun i hi => by simp [B8, lst, hi])

/-- A round's state: the rings and the reference hold the same bytes. -/
structure PSt (w wr : World) (mb xb rsb : Nat) (rb : Nat → Nat) (M : Int) (L : Nat → List Int) (H P : Int) (v : Value) (G Z : Nat → Prop) : Prop where
  ls : Hid (Ls w wr mb 3 rb L M H P G)
  xr : Hid (wr.heap[xb]? = some (.cells #[.int .i64 H, .int .i64 P, .int .i64 M, v] 42 (0, 0)))
  rr : Hid (RefR wr Z v L)
  rs : Hid (wr.heap[rsb]? = some (.cells #[.pointer (some ⟨rb 0, 0, none⟩), .pointer (some ⟨rb 1, 0, none⟩), .pointer (some ⟨rb 2, 0, none⟩)] 27 (0, 0)))
  zg : Hid (∀ i, Z i → ¬ G i ∧ i < wr.heap.size ∧ i ≠ xb ∧ i ≠ rsb)
  gx : Hid (¬ G xb ∧ ¬ G rsb ∧ xb ≠ rsb ∧ w.heap.size ≤ xb ∧ w.heap.size ≤ rsb)
  sum : Hid (((L 0).length : Int) + (L 1).length + (L 2).length = H)

theorem PSt.same {w wr w' : World} {mb xb rsb : Nat} {rb : Nat → Nat} {M : Int} {L : Nat → List Int} {H P : Int} {v : Value} {G Z S : Nat → Prop} (h : PSt w wr mb xb rsb rb M L H P v G Z) (o : Only S wr w') (hs : ∀ i, S i → ¬ G i ∧ ¬ Z i ∧ i ≠ xb ∧ i ≠ rsb ∧ w.heap.size ≤ i) : PSt w w' mb xb rsb rb M L H P v G Z :=
  ⟨hid (h.ls.out.step (hid (h.ls.out.rs.out.keep o (fun i hi s => (hs i s).1 hi))) o (fun i hi => .inr (hs i hi).2.2.2.2) (fun _ h => .inl h)),
   hid (o.keep h.xr.out (fun s => (hs _ s).2.2.1 rfl)), hid (h.rr.out.keep o (fun i hi s => (hs i s).2.1 hi)), hid (o.keep h.rs.out (fun s => (hs _ s).2.2.2.1 rfl)),
   hid (fun i hi => by obtain ⟨a, b, c⟩ := h.zg.out i hi; exact ⟨a, Nat.lt_of_lt_of_le b o.size, c⟩), h.gx, h.sum⟩
theorem PSt.ptr {w wr : World} {mb xb rsb : Nat} {rb : Nat → Nat} {M : Int} {L : Nat → List Int} {H P : Int} {v : Value} {G Z : Nat → Prop} (h : PSt w wr mb xb rsb rb M L H P v G Z) (k : Nat) (hk : k < 3) : wr.cell? ⟨rsb, k, none⟩ = some (.pointer (some ⟨rb k, 0, none⟩)) := by
  have h0 := b_cell h.rs.out k
  match k, hk with
  | 0, _ => exact h0
  | 1, _ => exact h0
  | 2, _ => exact h0

theorem len_cell (r : Nat) (x : Int) (w : World) (c2 : w.cell? ⟨r, 2, none⟩ = some (.int .i64 x)) :
    Calls Try.prog 13 #[.pointer (some ⟨r, 0, none⟩)] w fun e w' => e = .returned (.int .i64 x) ∧ w = w' := by
  go_enter Try.func13, Try.ntmps13
  go_wp2
  go_ret
  exact ⟨rfl, rfl⟩
theorem Ls.met {W w : World} {mb n : Nat} {rb : Nat → Nat} {L : Nat → List Int} {M H P : Int} {G : Nat → Prop} (h : Ls W w mb n rb L M H P G) : MAt w mb M H P ∧ MOk M H P := by
  obtain ⟨F, h⟩ := h.rs.out
  exact ⟨h.met, h.ok⟩
theorem Ls.cell2 {W w : World} {mb n : Nat} {rb : Nat → Nat} {L : Nat → List Int} {M H P : Int} {G : Nat → Prop} (h : Ls W w mb n rb L M H P G) (k : Nat) (hk : k < n) : w.cell? ⟨rb k, 2, none⟩ = some (.int .i64 ((L k).length : Int)) := by
  obtain ⟨F, h⟩ := h.rs.out
  obtain ⟨A, cap, ss, hR⟩ := h.ring k hk
  exact hR.cells.2.2

theorem RefR.form {w : World} {Z : Nat → Prop} {v : Value} {ls : Nat → List Int} (h : RefR w Z v ls) : ∃ g c, v = .slice (some ⟨g, 0, none⟩) 3 c := by
  obtain ⟨g, c, X, hv, _⟩ := h
  exact ⟨g, c, hv⟩


/-- Behind the reference's call: the reference holds L', the rings still L. -/
structure MSt (w wr : World) (mb xb rsb : Nat) (rb : Nat → Nat) (M : Int) (L L' : Nat → List Int) (H P H' P' : Int) (v : Value) (G Z : Nat → Prop) : Prop where
  ls : Hid (Ls w wr mb 3 rb L M H P G)
  xr : Hid (wr.heap[xb]? = some (.cells #[.int .i64 H', .int .i64 P', .int .i64 M, v] 42 (0, 0)))
  rr : Hid (RefR wr Z v L')
  rs : Hid (wr.heap[rsb]? = some (.cells #[.pointer (some ⟨rb 0, 0, none⟩), .pointer (some ⟨rb 1, 0, none⟩), .pointer (some ⟨rb 2, 0, none⟩)] 27 (0, 0)))
  zg : Hid (∀ i, Z i → ¬ G i ∧ i < wr.heap.size ∧ i ≠ xb ∧ i ≠ rsb)
  gx : Hid (¬ G xb ∧ ¬ G rsb ∧ xb ≠ rsb ∧ w.heap.size ≤ xb ∧ w.heap.size ≤ rsb)
theorem MSt.ring {w wr wd : World} {mb xb rsb : Nat} {rb : Nat → Nat} {M : Int} {L L' : Nat → List Int} {H P H' P' : Int} {v : Value} {G G' Z : Nat → Prop} (h : MSt w wr mb xb rsb rb M L L' H P H' P' v G Z)
    (hls : Hid (Ls w wd mb 3 rb L' M H' P' G')) (hG : ∀ i, G' i → G i ∨ wr.heap.size ≤ i) (o : Only G wr wd) (hs : ((L' 0).length : Int) + (L' 1).length + (L' 2).length = H') : PSt w wd mb xb rsb rb M L' H' P' v G' Z := by
  have hx := b_lt h.xr.out
  have hr := b_lt h.rs.out
  obtain ⟨g1, g2, g3, g4, g5⟩ := h.gx.out
  refine ⟨hls, hid (o.keep h.xr.out g1), hid (h.rr.out.keep o (fun i hi => (h.zg.out i hi).1)), hid (o.keep h.rs.out g2), hid (fun i hi => ?_), hid ⟨fun hg => (hG _ hg).elim g1 (fun h => by omega), fun hg => (hG _ hg).elim g2 (fun h => by omega), g3, g4, g5⟩, hid hs⟩
  obtain ⟨a, b, c⟩ := h.zg.out i hi
  exact ⟨fun hg => (hG _ hg).elim a (fun h => by omega), Nat.lt_of_lt_of_le b o.size, c⟩
theorem MSt.ptr {w wr : World} {mb xb rsb : Nat} {rb : Nat → Nat} {M : Int} {L L' : Nat → List Int} {H P H' P' : Int} {v : Value} {G Z : Nat → Prop} (h : MSt w wr mb xb rsb rb M L L' H P H' P' v G Z) (k : Nat) (hk : k < 3) : wr.cell? ⟨rsb, k, none⟩ = some (.pointer (some ⟨rb k, 0, none⟩)) := by
  have h0 := b_cell h.rs.out k
  match k, hk with
  | 0, _ => exact h0
  | 1, _ => exact h0
  | 2, _ => exact h0
end Go.Proofs.Ytcehabcbmhjcmaa
