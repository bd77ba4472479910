/-
  A slice of bytes in a cell of the caller's.
-/
import Derived.Test.YtcehabcbmhjcmaaS
namespace Go.Proofs.Ytcehabcbmhjcmaa
open Go.ChangeShapes Go.WideShapes Go.Deep Go.RowKit

/-- What a cell of type []uint8 holds: a slice whose bytes are f. -/
def BytesAt (w : World) (v : Value) (A : Option Addr) (n c : Nat) (f : Nat → Int) : Prop := v = .slice A n c ∧ n ≤ c ∧ c ≤ maxLen ∧ Elems w A c (fun i => .int .u8 (f i)) ∧ (A = none → c = 0 ∧ n = 0)
section
variable {H : Type} {enc : TypeId × Value → H} {P : Program} {w : World} {base : Nat} {held : Bool}
theorem pick_bytes {N : Nat} {t e : TypeId} {V : Nat → Value} (ht : P.underlying t = some (.slice e)) (he : P.underlying e = some (.int .u8)) (hc : P.cellsOf e = 1)
    (h : ∀ i, i < N → ∃ (m : Nat) (x : DataW H × List MemPlace), DataW.trod enc P w base (fun _ => true) held m t [V i] = some x) :
    ∃ (A : Nat → Option Addr) (n c : Nat → Nat) (f : Nat → Nat → Int), ∀ i, i < N → BytesAt w (V i) (A i) (n i) (c i) (f i) := by
  have hv : ∀ i, ∃ q : Option Addr × Nat × Nat × (Nat → Int), i < N → BytesAt w (V i) q.1 q.2.1 q.2.2.1 q.2.2.2 := by
    intro i
    by_cases hi : i < N
    · obtain ⟨m, x, hx⟩ := h i hi
      rcases open_slice1 ht hc hx with ⟨hcs, _⟩ | ⟨a, len, cap, m, n', V', D, Pl, hcs, _, hl, hm, hmm, _, hh⟩
      · exact ⟨(none, 0, 0, fun _ => 0), fun _ => ⟨by simpa using hcs, Nat.le_refl _, by simp [maxLen], fun h => absurd h (by simp), fun _ => ⟨rfl, rfl⟩⟩⟩
      · have hmc : m = cap := by simpa using hmm
        subst hmc
        obtain ⟨f, hf, _⟩ := pick_int (c := m) (V := V') he (fun j hj => ⟨n', _, (hh j hj).2⟩)
        refine ⟨(some a, len, m, f), fun _ => ⟨by simpa using hcs, hl, hm, fun h0 => ?_, fun h => by cases h⟩⟩
        obtain ⟨b, off, spot⟩ := a
        have hspot : spot = none := by simpa [Addr.add] using World.cell?_spot (hh 0 h0).1
        subst hspot
        refine ⟨b, off, rfl, World.block_lt_of_cell? w _ (hh 0 h0).1, fun j hj => ?_⟩
        rw [← Go.WideShapes.add_plain, (hh j hj).1, hf j hj]
    · exact ⟨(none, 0, 0, fun _ => 0), fun h => absurd h hi⟩
  exact ⟨fun i => (Classical.choose (hv i)).1, fun i => (Classical.choose (hv i)).2.1, fun i => (Classical.choose (hv i)).2.2.1, fun i => (Classical.choose (hv i)).2.2.2, fun i => Classical.choose_spec (hv i)⟩
end
end Go.Proofs.Ytcehabcbmhjcmaa
