/-
  Slices that came in, opened: what the walk needs of their elements' cells.
-/
import Derived.Deep.Slices
import Derived.Deep.Fields
import Derived.OpenShut
import Derived.Below
namespace Go.Proofs.YtpblgjadpfecgaaGreatDoor
open Go.ChangeShapes Go.WideShapes Go.Deep Go.RowKit

/-- Element j of a slice's memory is one cell that holds V j. -/
def Elems (w : World) (A : Option Addr) (n : Nat) (V : Nat → Value) : Prop :=
  0 < n → ∃ b off, A = some ⟨b, off, none⟩ ∧ b < w.heap.size ∧ ∀ j, j < n → w.cell? ⟨b, off + j, none⟩ = some (V j)

theorem Elems.below {w w' : World} {A : Option Addr} {n : Nat} {V : Nat → Value} (h : Elems w A n V) (hb : Below w.heap.size w w') : Elems w' A n V := by
  intro hn
  obtain ⟨b, off, e, hl, hc⟩ := h hn
  exact ⟨b, off, e, Nat.lt_of_lt_of_le hl hb.size, fun j hj => (hb.cell (p := ⟨b, off + j, none⟩) hl).trans (hc j hj)⟩
theorem Elems.at_ {w : World} {A : Option Addr} {n : Nat} {V : Nat → Value} (h : Elems w A n V) (k : Nat) (hk : k < n) : ∃ b off, A = some ⟨b, off, none⟩ ∧ w.cell? ⟨b, off + k, none⟩ = some (V k) := by
  obtain ⟨b, off, e, _, hc⟩ := h (by omega)
  exact ⟨b, off, e, hc k hk⟩

section
variable {H : Type} {enc : TypeId × Value → H} {P : Program} {w : World} {base : Nat} {held : Bool}

theorem open_one {t e : TypeId} {v : Value} {d : DataW H} {p : List MemPlace} {b0 : Nat} {rc : Reach} (ht : P.underlying t = some (.slice e)) (hc : P.cellsOf e = 1) (y : Value.okWide P w rc b0 t v)
    (r : DataW.Trod enc P w base (fun _ => true) held t v d p) :
    ∃ (A : Option Addr) (n c : Nat) (V : Nat → Value), v = .slice A n c ∧ n ≤ c ∧ c ≤ maxLen ∧ Elems w A c V ∧ (A = none → c = 0) ∧ ∀ i, i < c → ∃ (m : Nat) (x : DataW H × List MemPlace), DataW.trod enc P w base (fun _ => true) held m e [V i] = some x := by
  obtain ⟨A, n, c, rfl⟩ := okWide_slice ht y
  obtain ⟨fuel, hf⟩ := r
  rcases open_slice1 ht hc hf with ⟨hcs, hx⟩ | ⟨a, len, cap, m, n', V, D, Pl, hcs, _, hl, hm, hmm, hx, hi⟩
  · simp [Value.cells] at hcs
    obtain ⟨rfl, rfl, rfl⟩ := hcs
    exact ⟨none, 0, 0, fun _ => .nilIface, rfl, Nat.le_refl _, by simp [maxLen], fun h => absurd h (by omega), fun _ => rfl, fun i h => absurd h (by omega)⟩
  · simp [Value.cells] at hcs
    obtain ⟨rfl, rfl, rfl⟩ := hcs
    have hmc : m = c := by simpa using hmm
    subst hmc
    refine ⟨some a, n, m, V, rfl, hl, hm, fun h0 => ?_, (fun h => by cases h), fun i h => ⟨n', _, (hi i h).2⟩⟩
    obtain ⟨b, off, spot⟩ := a
    have hspot : spot = none := by simpa [Addr.add] using World.cell?_spot (hi 0 h0).1
    subst hspot
    refine ⟨b, off, rfl, ?_, fun j hj => by rw [← Go.WideShapes.add_plain]; exact (hi j hj).1⟩
    have := (hi 0 h0).1
    exact World.block_lt_of_cell? w _ this

theorem open_nums {t e : TypeId} {k : IntKind} {v : Value} {d : DataW H} {p : List MemPlace} {b0 : Nat} {rc : Reach} (ht : P.underlying t = some (.slice e)) (he : P.underlying e = some (.int k)) (hc : P.cellsOf e = 1) (y : Value.okWide P w rc b0 t v)
    (r : DataW.Trod enc P w base (fun _ => true) held t v d p) :
    ∃ (A : Option Addr) (n c : Nat) (f : Nat → Int), v = .slice A n c ∧ n ≤ c ∧ c ≤ maxLen ∧ Elems w A c (fun i => .int k (f i)) ∧ (A = none → c = 0) ∧ ∀ i, (Lit.int k (f i)).wf = true := by
  obtain ⟨A, n, c, V, rfl, h1, h2, h3, h4, h5⟩ := open_one ht hc y r
  have hv : ∀ i, ∃ q, (i < c → V i = .int k q) ∧ (Lit.int k q).wf = true := by
    intro i
    by_cases hi : i < c
    · obtain ⟨m, x, hx⟩ := h5 i hi
      obtain ⟨q, hq, _, hw⟩ := DataW.trod_int he hx
      exact ⟨q, fun _ => by simpa using hq, hw⟩
    · exact ⟨0, fun h => absurd h hi, by cases k <;> rfl⟩
  refine ⟨A, n, c, fun i => Classical.choose (hv i), rfl, h1, h2, fun h0 => ?_, h4, fun i => (Classical.choose_spec (hv i)).2⟩
  obtain ⟨b, off, e1, e2, e3⟩ := h3 h0
  exact ⟨b, off, e1, e2, fun j hj => by rw [e3 j hj, (Classical.choose_spec (hv j)).1 hj]⟩

theorem open_bools {t e : TypeId} {v : Value} {d : DataW H} {p : List MemPlace} {b0 : Nat} {rc : Reach} (ht : P.underlying t = some (.slice e)) (he : P.underlying e = some .bool) (hc : P.cellsOf e = 1) (y : Value.okWide P w rc b0 t v)
    (r : DataW.Trod enc P w base (fun _ => true) held t v d p) :
    ∃ (A : Option Addr) (n c : Nat) (f : Nat → Bool), v = .slice A n c ∧ n ≤ c ∧ c ≤ maxLen ∧ Elems w A c (fun i => .bool (f i)) ∧ (A = none → c = 0) := by
  obtain ⟨A, n, c, V, rfl, h1, h2, h3, h4, h5⟩ := open_one ht hc y r
  have hv : ∀ i, ∃ q, (i < c → V i = .bool q) := by
    intro i
    by_cases hi : i < c
    · obtain ⟨m, x, hx⟩ := h5 i hi
      obtain ⟨q, hq, _⟩ := DataW.trod_bool he hx
      exact ⟨q, fun _ => by simpa using hq⟩
    · exact ⟨false, fun h => absurd h hi⟩
  refine ⟨A, n, c, fun i => Classical.choose (hv i), rfl, h1, h2, fun h0 => ?_, h4⟩
  obtain ⟨b, off, e1, e2, e3⟩ := h3 h0
  exact ⟨b, off, e1, e2, fun j hj => by rw [e3 j hj, Classical.choose_spec (hv j) hj]⟩

/-- A slice of structs whose fields are one cell each: the cells, and each field's own reading. -/
theorem open_structs {t e : TypeId} {fs : Array Field} {v : Value} {d : DataW H} {p : List MemPlace} {b0 : Nat} {rc : Reach} (ht : P.underlying t = some (.slice e)) (he : P.underlying e = some (.struct fs))
    (hone : oneCellFields P fs = true) (hC : P.cellsOf e = fs.size) (hpos : 0 < fs.size) (y : Value.okWide P w rc b0 t v) (r : DataW.Trod enc P w base (fun _ => true) held t v d p) :
    ∃ (A : Option Addr) (n c : Nat) (V : Nat → Nat → Value), v = .slice A n c ∧ n ≤ c ∧ c ≤ maxLen ∧ (A = none → c = 0) ∧
      (0 < c → ∃ b off, A = some ⟨b, off, none⟩ ∧ b < w.heap.size ∧ ∀ i j, i < c → j < fs.size → w.cell? ⟨b, off + (i * fs.size + j), none⟩ = some (V i j)) ∧
      ∀ i j f, i < c → fs[j]? = some f → ∃ (m : Nat) (x : DataW H × List MemPlace), DataW.trod enc P w base (fun _ => true) held m f.type [V i j] = some x := by
  obtain ⟨A, n, c, rfl⟩ := okWide_slice ht y
  obtain ⟨fuel, hf⟩ := r
  rcases open_slice ht hf with ⟨hcs, hx⟩ | ⟨a, len, cap, m, n', D, Pl, hcs, _, hl, hm, hmm, hx, hi⟩
  · simp [Value.cells] at hcs
    obtain ⟨rfl, rfl, rfl⟩ := hcs
    exact ⟨none, 0, 0, fun _ _ => .nilIface, rfl, Nat.le_refl _, by simp [maxLen], fun _ => rfl, fun h => absurd h (by omega), fun i _ _ h => absurd h (by omega)⟩
  · simp [Value.cells] at hcs
    obtain ⟨rfl, rfl, rfl⟩ := hcs
    have hmc : m = c := by simpa using hmm
    subst hmc
    rw [hC] at hi
    have each : ∀ i, i < m → ∃ g : Nat → Value, (∀ j, j < fs.size → w.cell? (a.add (i * fs.size + j)) = some (g j)) ∧ ∀ j f, fs[j]? = some f → ∃ (m : Nat) (x : DataW H × List MemPlace), DataW.trod enc P w base (fun _ => true) held m f.type [g j] = some x := by
      intro i him
      obtain ⟨cs', hc, ht'⟩ := hi i him
      obtain ⟨ys, k, _, _, _, hyl, hfj⟩ := DataW.trod_struct he ht'
      obtain ⟨_, hcl, hat⟩ := World.cells?_some hc
      refine ⟨fun j => cs'.getD j .nilIface, fun j hj => ?_, fun j f hj => ?_⟩
      · show _ = some (cs'.getD j .nilIface)
        rw [← Go.Deep.add_add, hat j hj, List.getD_eq_getElem?_getD, List.getElem?_eq_getElem (by omega)]
        rfl
      · obtain ⟨ho, hk⟩ := hone_of hone j f hj
        have hjl : j < fs.size := (Array.getElem?_eq_some_iff.1 hj).1
        have h1 := hfj j f hj
        rw [ho, hk] at h1
        have h2 : (cs'.drop j).take 1 = [cs'.getD j .nilIface] := by
          rw [List.drop_eq_getElem_cons (by omega), List.getD_eq_getElem?_getD, List.getElem?_eq_getElem (by omega)]
          rfl
        rw [h2, List.getElem?_eq_getElem (by omega)] at h1
        exact ⟨_, _, h1⟩
    have hch : ∀ i, ∃ g : Nat → Value, i < m → (∀ j, j < fs.size → w.cell? (a.add (i * fs.size + j)) = some (g j)) ∧ ∀ j f, fs[j]? = some f → ∃ (m : Nat) (x : DataW H × List MemPlace), DataW.trod enc P w base (fun _ => true) held m f.type [g j] = some x := by
      intro i
      by_cases him : i < m
      · obtain ⟨g, hg⟩ := each i him
        exact ⟨g, fun _ => hg⟩
      · exact ⟨fun _ => .nilIface, fun h => absurd h him⟩
    refine ⟨some a, n, m, fun i => Classical.choose (hch i), rfl, hl, hm, (fun h => by cases h), fun h0 => ?_, fun i j f him hj => (Classical.choose_spec (hch i) him).2 j f hj⟩
    have first := (Classical.choose_spec (hch 0) h0).1 0 hpos
    obtain ⟨b, off, spot⟩ := a
    have hspot : spot = none := by simpa [Addr.add] using World.cell?_spot first
    subst hspot
    refine ⟨b, off, rfl, ?_, fun i j him hj => by rw [← Go.WideShapes.add_plain]; exact (Classical.choose_spec (hch i) him).1 j hj⟩
    rw [Go.WideShapes.add_plain] at first
    exact World.block_lt_of_cell? w _ first

theorem pick_int {c : Nat} {t : TypeId} {k : IntKind} {V : Nat → Value} (he : P.underlying t = some (.int k)) (h : ∀ i, i < c → ∃ (m : Nat) (x : DataW H × List MemPlace), DataW.trod enc P w base (fun _ => true) held m t [V i] = some x) :
    ∃ f : Nat → Int, (∀ i, i < c → V i = .int k (f i)) ∧ ∀ i, (Lit.int k (f i)).wf = true := by
  have hv : ∀ i, ∃ q, (i < c → V i = .int k q) ∧ (Lit.int k q).wf = true := by
    intro i
    by_cases hi : i < c
    · obtain ⟨m, x, hx⟩ := h i hi
      obtain ⟨q, hq, _, hw⟩ := DataW.trod_int he hx
      exact ⟨q, fun _ => by simpa using hq, hw⟩
    · exact ⟨0, fun h => absurd h hi, by cases k <;> rfl⟩
  exact ⟨fun i => Classical.choose (hv i), fun i => (Classical.choose_spec (hv i)).1, fun i => (Classical.choose_spec (hv i)).2⟩
theorem pick_bool {c : Nat} {t : TypeId} {V : Nat → Value} (he : P.underlying t = some .bool) (h : ∀ i, i < c → ∃ (m : Nat) (x : DataW H × List MemPlace), DataW.trod enc P w base (fun _ => true) held m t [V i] = some x) :
    ∃ f : Nat → Bool, ∀ i, i < c → V i = .bool (f i) := by
  have hv : ∀ i, ∃ q, (i < c → V i = .bool q) := by
    intro i
    by_cases hi : i < c
    · obtain ⟨m, x, hx⟩ := h i hi
      obtain ⟨q, hq, _⟩ := DataW.trod_bool he hx
      exact ⟨q, fun _ => by simpa using hq⟩
    · exact ⟨false, fun h => absurd h hi⟩
  exact ⟨fun i => Classical.choose (hv i), fun i => Classical.choose_spec (hv i)⟩
end
end Go.Proofs.YtpblgjadpfecgaaGreatDoor
