/-
  The statement WholeScrubs, proved: whatever the input, the law returns true and its arguments read as before; its card is tied to the program's text. Conditions: those of the row (the listed variables hold what the program's text lays; the card ties that).
-/
import Derived.Test.YtafljoiblfhioaaGreatDoorRows
import Derived.Test.YtafljoiblfhioaaGreatDoorCards
import Derived.Test.YtafljoiblfhioaaGreatDoorTie
import Derived.Test.YtafljoiblfhioaaGreatDoorSan
import Derived.WalkKit
import Derived.ProofKit
import Derived.OpenShut
import Derived.ShutString
import Derived.ChangeOld
import Derived.Below
import Derived.LaidMore
import Derived.MakeChecks
import Derived.Lay
import Derived.SevenTiedAt
import Derived.Stop.Joined
import Derived.Test.YtafljoiblfhioaaGreatDoorSg
import Derived.Test.YtafljoiblfhioaaGreatDoorS
import Derived.SizedLaws
import Derived.HandedShaped
import Derived.Shelf.Vars
import Derived.Lib.LaidU8
import Derived.Lib.LaidTab
namespace Go.Proofs.YtafljoiblfhioaaGreatDoor
open Go.ChangeShapes Go.WideShapes Go.Deep Go.RowKit

theorem fV_get : ∀ (l : List FD) (j : Nat) (u : Value), (fV l)[j]? = some u → ∃ p, l[j / 2]? = some p ∧ ((j % 2 = 0 ∧ u = .string (B p.1)) ∨ (j % 2 = 1 ∧ u = .string (B p.2)))
  | [], j, u, h => by simp [fV] at h
  | p :: t, 0, u, h => ⟨p, rfl, .inl ⟨rfl, by simpa [fV] using h.symm⟩⟩
  | p :: t, 1, u, h => ⟨p, rfl, .inr ⟨rfl, by simpa [fV] using h.symm⟩⟩
  | p :: t, j + 2, u, h => by
    obtain ⟨q, h1, h2⟩ := fV_get t j u (by simpa [fV] using h)
    refine ⟨q, by rw [show (j + 2) / 2 = j / 2 + 1 by omega]; simpa using h1, ?_⟩
    rw [show (j + 2) % 2 = j % 2 by omega]
    exact h2
theorem uV_get : ∀ (l : List UpM) (j : Nat) (u : Value), (uV l)[j]? = some u → ∃ p, l[j / 2]? = some p ∧ ((j % 2 = 0 ∧ u = .string (B p.1.1)) ∨ (j % 2 = 1 ∧ u = .slice p.2.1 p.1.2.length p.2.2))
  | [], j, u, h => by simp [uV] at h
  | p :: t, 0, u, h => ⟨p, rfl, .inl ⟨rfl, by simpa [uV] using h.symm⟩⟩
  | p :: t, 1, u, h => ⟨p, rfl, .inr ⟨rfl, by simpa [uV] using h.symm⟩⟩
  | p :: t, j + 2, u, h => by
    obtain ⟨q, h1, h2⟩ := uV_get t j u (by simpa [uV] using h)
    refine ⟨q, by rw [show (j + 2) / 2 = j / 2 + 1 by omega]; simpa using h1, ?_⟩
    rw [show (j + 2) % 2 = j % 2 by omega]
    exact h2
theorem rV_get : ∀ (l : List RtD) (j : Nat) (u : Value), (rV l)[j]? = some u → ∃ p, l[j / 3]? = some p ∧ ((j % 3 = 0 ∧ u = .string (B p.1)) ∨ (j % 3 = 1 ∧ u = .string (B p.2.1)) ∨ (j % 3 = 2 ∧ u = .string (B p.2.2)))
  | [], j, u, h => by simp [rV] at h
  | p :: t, 0, u, h => ⟨p, rfl, .inl ⟨rfl, by simpa [rV] using h.symm⟩⟩
  | p :: t, 1, u, h => ⟨p, rfl, .inr (.inl ⟨rfl, by simpa [rV] using h.symm⟩)⟩
  | p :: t, 2, u, h => ⟨p, rfl, .inr (.inr ⟨rfl, by simpa [rV] using h.symm⟩)⟩
  | p :: t, j + 3, u, h => by
    obtain ⟨q, h1, h2⟩ := rV_get t j u (by simpa [rV] using h)
    refine ⟨q, by rw [show (j + 3) / 3 = j / 3 + 1 by omega]; simpa using h1, ?_⟩
    rw [show (j + 3) % 3 = j % 3 by omega]
    exact h2

/-- Cells of k each, c of them. -/
def Cells (w : World) (A : Option Addr) (c k : Nat) (V : Nat → Nat → Value) : Prop :=
  0 < c → ∃ b off, A = some ⟨b, off, none⟩ ∧ b < w.heap.size ∧ ∀ i j, i < c → j < k → w.cell? ⟨b, off + (i * k + j), none⟩ = some (V i j)
theorem row_f {w : World} {A : Option Addr} {n c : Nat} {V : Nat → Nat → Value} (h : Cells w A c 2 V) (hn : n ≤ c) (f : Nat → FD) (hV : ∀ i, i < n → V i 0 = .string (B (f i).1) ∧ V i 1 = .string (B (f i).2)) : Row w A (fV ((List.range n).map f)) := by
  intro hne
  have h0 : 0 < n := by
    rcases Nat.eq_zero_or_pos n with h | h
    · subst h
      exact absurd rfl hne
    · exact h
  obtain ⟨b, off, rfl, hb, hc⟩ := h (by omega)
  refine ⟨b, off, rfl, hb, fun j u hu => ?_⟩
  obtain ⟨p, hp, hx⟩ := fV_get _ _ _ hu
  have hj : j / 2 < n := by
    have := (List.getElem?_eq_some_iff.1 hp).1
    simpa using this
  simp only [List.getElem?_map, List.getElem?_range hj, Option.map_some, Option.some.injEq] at hp
  subst hp
  obtain ⟨v0, v1⟩ := hV _ hj
  have hcc := hc (j / 2) (j % 2) (by omega) (by omega)
  rw [show j / 2 * 2 + j % 2 = j by omega] at hcc
  rw [hcc]
  rcases hx with ⟨e, rfl⟩ | ⟨e, rfl⟩
  · rw [e, v0]
  · rw [e, v1]
theorem row_u {w : World} {A : Option Addr} {n c : Nat} {V : Nat → Nat → Value} (h : Cells w A c 2 V) (hn : n ≤ c) (f : Nat → UpM) (hV : ∀ i, i < n → V i 0 = .string (B (f i).1.1) ∧ V i 1 = .slice (f i).2.1 (f i).1.2.length (f i).2.2) : Row w A (uV ((List.range n).map f)) := by
  intro hne
  have h0 : 0 < n := by
    rcases Nat.eq_zero_or_pos n with h | h
    · subst h
      exact absurd rfl hne
    · exact h
  obtain ⟨b, off, rfl, hb, hc⟩ := h (by omega)
  refine ⟨b, off, rfl, hb, fun j u hu => ?_⟩
  obtain ⟨p, hp, hx⟩ := uV_get _ _ _ hu
  have hj : j / 2 < n := by
    have := (List.getElem?_eq_some_iff.1 hp).1
    simpa using this
  simp only [List.getElem?_map, List.getElem?_range hj, Option.map_some, Option.some.injEq] at hp
  subst hp
  obtain ⟨v0, v1⟩ := hV _ hj
  have hcc := hc (j / 2) (j % 2) (by omega) (by omega)
  rw [show j / 2 * 2 + j % 2 = j by omega] at hcc
  rw [hcc]
  rcases hx with ⟨e, rfl⟩ | ⟨e, rfl⟩
  · rw [e, v0]
  · rw [e, v1]
theorem row_r {w : World} {A : Option Addr} {n c : Nat} {V : Nat → Nat → Value} (h : Cells w A c 3 V) (hn : n ≤ c) (f : Nat → RtD) (hV : ∀ i, i < n → V i 0 = .string (B (f i).1) ∧ V i 1 = .string (B (f i).2.1) ∧ V i 2 = .string (B (f i).2.2)) : Row w A (rV ((List.range n).map f)) := by
  intro hne
  have h0 : 0 < n := by
    rcases Nat.eq_zero_or_pos n with h | h
    · subst h
      exact absurd rfl hne
    · exact h
  obtain ⟨b, off, rfl, hb, hc⟩ := h (by omega)
  refine ⟨b, off, rfl, hb, fun j u hu => ?_⟩
  obtain ⟨p, hp, hx⟩ := rV_get _ _ _ hu
  have hj : j / 3 < n := by
    have := (List.getElem?_eq_some_iff.1 hp).1
    simpa using this
  simp only [List.getElem?_map, List.getElem?_range hj, Option.map_some, Option.some.injEq] at hp
  subst hp
  obtain ⟨v0, v1, v2⟩ := hV _ hj
  have hcc := hc (j / 3) (j % 3) (by omega) (by omega)
  rw [show j / 3 * 3 + j % 3 = j by omega] at hcc
  rw [hcc]
  rcases hx with ⟨e, rfl⟩ | ⟨e, rfl⟩ | ⟨e, rfl⟩
  · rw [e, v0]
  · rw [e, v1]
  · rw [e, v2]

section
variable {H : Type} {enc : TypeId × Value → H} {P : Program} {w : World} {base : Nat} {held : Bool}
/-- The fields of a struct, each one cell. -/
theorem flds_of_trod {t : TypeId} {fs : Array Field} {cs : List Value} {m : Nat} {x : DataW H × List MemPlace} (ht : P.underlying t = some (.struct fs)) (hone : oneCellFields P fs = true) (hC : P.cellsOf t = fs.size)
    (h : DataW.trod enc P w base (fun _ => true) held m t cs = some x) : ∃ (g : Nat → Value) (k : Nat), cs.length = fs.size ∧ (∀ j, j < fs.size → cs[j]? = some (g j)) ∧ ∀ j f, fs[j]? = some f → ∃ x : DataW H × List MemPlace, DataW.trod enc P w base (fun _ => true) held k f.type [g j] = some x := by
  obtain ⟨ys, k, _, _, hcl, hyl, hfj⟩ := DataW.trod_struct ht h
  rw [hC] at hcl
  refine ⟨fun j => cs.getD j .nilIface, k, hcl, fun j hj => ?_, fun j f hj => ?_⟩
  · show cs[j]? = some (cs.getD j .nilIface)
    rw [List.getD_eq_getElem?_getD, List.getElem?_eq_getElem (by omega)]
    rfl
  · obtain ⟨ho, hk⟩ := hone_of hone j f hj
    have hjl : j < fs.size := (Array.getElem?_eq_some_iff.1 hj).1
    have h1 := hfj j f hj
    rw [ho, hk] at h1
    have h2 : (cs.drop j).take 1 = [cs.getD j .nilIface] := by
      rw [List.drop_eq_getElem_cons (by omega), List.getD_eq_getElem?_getD, List.getElem?_eq_getElem (by omega)]
      rfl
    rw [h2, List.getElem?_eq_getElem (by omega)] at h1
    exact ⟨_, h1⟩
/-- A slice of such structs. -/
theorem rows_of_trod {t e : TypeId} {fs : Array Field} {v : Value} {m0 : Nat} {x0 : DataW H × List MemPlace} (ht : P.underlying t = some (.slice e)) (he : P.underlying e = some (.struct fs))
    (hone : oneCellFields P fs = true) (hC : P.cellsOf e = fs.size) (hpos : 0 < fs.size) (hf : DataW.trod enc P w base (fun _ => true) held m0 t [v] = some x0) :
    ∃ (A : Option Addr) (n c : Nat) (V : Nat → Nat → Value), v = .slice A n c ∧ n ≤ c ∧ c ≤ maxLen ∧ (A = none → n = 0 ∧ c = 0) ∧ Cells w A c fs.size V ∧
      ∀ i j f, i < c → fs[j]? = some f → ∃ (m : Nat) (x : DataW H × List MemPlace), DataW.trod enc P w base (fun _ => true) held m f.type [V i j] = some x := by
  rcases open_slice ht hf with ⟨hcs, hx⟩ | ⟨a, len, cap, m, n', D, Pl, hcs, _, hl, hm, hmm, hx, hi⟩
  · refine ⟨none, 0, 0, fun _ _ => .nilIface, by simpa using hcs, Nat.le_refl _, by simp [maxLen], fun _ => ⟨rfl, rfl⟩, fun h => absurd h (by omega), fun i _ _ h => absurd h (by omega)⟩
  · have hmc : m = cap := by simpa using hmm
    subst hmc
    rw [hC] at hi
    have each : ∀ i, i < m → ∃ g : Nat → Value, (∀ j, j < fs.size → w.cell? (a.add (i * fs.size + j)) = some (g j)) ∧ ∀ j f, fs[j]? = some f → ∃ (m : Nat) (x : DataW H × List MemPlace), DataW.trod enc P w base (fun _ => true) held m f.type [g j] = some x := by
      intro i him
      obtain ⟨cs', hc, ht'⟩ := hi i him
      obtain ⟨_, hcl, hat⟩ := World.cells?_some hc
      obtain ⟨g, k, hlen, hg, htr⟩ := flds_of_trod he hone hC ht'
      refine ⟨g, fun j hj => ?_, fun j f hj => ⟨k, htr j f hj⟩⟩
      rw [← Go.Deep.add_add, hat j hj, hg j hj]
    have hch : ∀ i, ∃ g : Nat → Value, i < m → (∀ j, j < fs.size → w.cell? (a.add (i * fs.size + j)) = some (g j)) ∧ ∀ j f, fs[j]? = some f → ∃ (m : Nat) (x : DataW H × List MemPlace), DataW.trod enc P w base (fun _ => true) held m f.type [g j] = some x := by
      intro i
      by_cases him : i < m
      · obtain ⟨g, hg⟩ := each i him
        exact ⟨g, fun _ => hg⟩
      · exact ⟨fun _ => .nilIface, fun h => absurd h him⟩
    refine ⟨some a, len, m, fun i => Classical.choose (hch i), by simpa using hcs, hl, hm, (fun h => by cases h), fun h0 => ?_, fun i j f him hj => (Classical.choose_spec (hch i) him).2 j f hj⟩
    have first := (Classical.choose_spec (hch 0) h0).1 0 hpos
    obtain ⟨b, off, spot⟩ := a
    have hspot : spot = none := by simpa [Addr.add] using World.cell?_spot first
    subst hspot
    refine ⟨b, off, rfl, ?_, fun i j him hj => by rw [← Go.WideShapes.add_plain]; exact (Classical.choose_spec (hch i) him).1 j hj⟩
    rw [Go.WideShapes.add_plain] at first
    exact World.block_lt_of_cell? w _ first
/-- A text that came in. -/
theorem str_of_trod {t : TypeId} {v : Value} {m : Nat} {x : DataW H × List MemPlace} (ht : P.underlying t = some .string) (h : DataW.trod enc P w base (fun _ => true) held m t [v] = some x) : ∃ l : List UInt8, v = .string (B l) ∧ l.length ≤ 9223372036854775807 := by
  obtain ⟨s, e, _, z⟩ := DataW.trod_string ht h
  simp only [List.cons.injEq, and_true] at e
  refine ⟨s.data.toList, by rw [B_eta]; exact e, ?_⟩
  unfold maxLen at z
  have : s.data.toList.length = s.size := rfl
  omega
/-- A slice of bytes that came in. -/
theorem bytes_of_trod {t e : TypeId} {v : Value} {m : Nat} {x : DataW H × List MemPlace} (ht : P.underlying t = some (.slice e)) (he : P.underlying e = some (.int .u8)) (hc : P.cellsOf e = 1)
    (h : DataW.trod enc P w base (fun _ => true) held m t [v] = some x) : ∃ (A : Option Addr) (n c : Nat) (l : List UInt8), v = .slice A n c ∧ Bs w A n c l := by
  rcases open_slice1 ht hc h with ⟨hcs, _⟩ | ⟨a, len, cap, m, n', V, D, Pl, hcs, _, hl, hm, hmm, _, hh⟩
  · exact ⟨none, 0, 0, [], by simpa using hcs, Bs.empty w⟩
  · have hmc : m = cap := by simpa using hmm
    subst hmc
    have hv : ∀ i, ∃ q : UInt8, i < m → V i = .int .u8 (q.toNat : Int) := by
      intro i
      by_cases hi : i < m
      · obtain ⟨q, hq, _, hw⟩ := DataW.trod_int he (hh i hi).2
        simp only [List.cons.injEq, and_true] at hq
        refine ⟨UInt8.ofNat q.toNat, fun _ => ?_⟩
        rw [hq]
        have hb := bounds_u8 hw
        congr 1
        simp [UInt8.toNat_ofNat']
        omega
      · exact ⟨0, fun h => absurd h hi⟩
    refine ⟨some a, len, m, (List.range len).map (fun i => Classical.choose (hv i)), by simpa using hcs, ⟨by simp, hl, fun hne => ?_, fun h => by cases h⟩⟩
    have h0 : 0 < len := by
      rcases Nat.eq_zero_or_pos len with h | h
      · subst h
        exact absurd rfl hne
      · exact h
    obtain ⟨b, off, spot⟩ := a
    have hspot : spot = none := by simpa [Addr.add] using World.cell?_spot (hh 0 (by omega)).1
    subst hspot
    refine ⟨b, off, rfl, World.block_lt_of_cell? w _ (hh 0 (by omega)).1, fun j u hu => ?_⟩
    have hj : j < len := by
      have := (List.getElem?_eq_some_iff.1 hu).1
      simpa [bV] using this
    simp only [bV, List.map_map, List.getElem?_map, List.getElem?_range hj, Option.map_some, Function.comp, Option.some.injEq] at hu
    rw [← hu, ← Go.WideShapes.add_plain, (hh j (by omega)).1]
    exact congrArg some (Classical.choose_spec (hv j) (by omega))
/-- A slice of texts. -/
theorem strs_of_trod {t e : TypeId} {v : Value} {m0 : Nat} {x0 : DataW H × List MemPlace} (ht : P.underlying t = some (.slice e)) (he : P.underlying e = some .string) (hc : P.cellsOf e = 1) (h : DataW.trod enc P w base (fun _ => true) held m0 t [v] = some x0) :
    ∃ (A : Option Addr) (c : Nat) (l : List (List UInt8)), v = .slice A l.length c ∧ l.length ≤ 9223372036854775807 ∧ (A = none → l.length = 0) ∧ Row w A (sV l) ∧ ∀ s ∈ l, s.length ≤ 9223372036854775807 := by
  rcases open_slice1 ht hc h with ⟨hcs, _⟩ | ⟨a, len, cap, m, n', V, D, Pl, hcs, _, hl, hm, hmm, _, hh⟩
  · exact ⟨none, 0, [], by simpa using hcs, by simp, fun _ => rfl, fun h => absurd rfl h, fun s hs => by cases hs⟩
  · have hmc : m = cap := by simpa using hmm
    subst hmc
    have hv : ∀ i, ∃ l : List UInt8, i < m → (V i = .string (B l) ∧ l.length ≤ 9223372036854775807) := by
      intro i
      by_cases hi : i < m
      · obtain ⟨l, hl⟩ := str_of_trod he (hh i hi).2
        exact ⟨l, fun _ => hl⟩
      · exact ⟨[], fun h => absurd h hi⟩
    refine ⟨some a, m, (List.range len).map (fun i => Classical.choose (hv i)), by simpa using hcs, by unfold maxLen at hm; simp; omega, (fun h => by cases h), fun hne => ?_, fun s hs => ?_⟩
    · have h0 : 0 < len := by
        rcases Nat.eq_zero_or_pos len with h | h
        · subst h
          exact absurd rfl hne
        · exact h
      obtain ⟨b, off, spot⟩ := a
      have hspot : spot = none := by simpa [Addr.add] using World.cell?_spot (hh 0 (by omega)).1
      subst hspot
      refine ⟨b, off, rfl, World.block_lt_of_cell? w _ (hh 0 (by omega)).1, fun j u hu => ?_⟩
      have hj : j < len := by
        have := (List.getElem?_eq_some_iff.1 hu).1
        simpa [sV] using this
      simp only [sV, List.map_map, List.getElem?_map, List.getElem?_range hj, Option.map_some, Function.comp, Option.some.injEq] at hu
      rw [← hu, ← Go.WideShapes.add_plain, (hh j (by omega)).1]
      exact congrArg some (Classical.choose_spec (hv j) (by omega)).1
    · obtain ⟨i, hi', rfl⟩ := List.mem_map.1 hs
      exact (Classical.choose_spec (hv i) (by have := List.mem_range.1 hi'; omega)).2
end

set_option maxRecDepth 100000 in
/-- A configuration. -/
theorem conf_of_trod {H : Type} {enc : TypeId × Value → H} {w : World} {base : Nat} {held : Bool} {v : Value} {d : DataW H} {p : List MemPlace} {b0 : Nat} {rc : Reach} (y : Value.okWide Tryz.prog w rc b0 28 v) (r : DataW.Trod enc Tryz.prog w base (fun _ => true) held 28 v d p) :
    ∃ x : CM, v = .agg x.row ∧ x.Ok w ∧ (x.SA = none → x.set.length = 0 ∧ x.sc = 0) ∧ (x.DA = none → x.drop.length = 0) := by
  obtain ⟨cs, rfl, _⟩ := okWide_struct Tryz.underlying28 y
  obtain ⟨fuel, hf⟩ := r
  have hcs : (Value.agg cs).cells = cs := rfl
  rw [hcs] at hf
  obtain ⟨g, k, hlen, hg, htr⟩ := flds_of_trod Tryz.underlying28 (by kernel_rfl) (by kernel_rfl) hf
  obtain ⟨_, t0⟩ := htr 0 _ rfl
  obtain ⟨_, t1⟩ := htr 1 _ rfl
  obtain ⟨_, t2⟩ := htr 2 _ rfl
  obtain ⟨_, t3⟩ := htr 3 _ rfl
  obtain ⟨_, t4⟩ := htr 4 _ rfl
  obtain ⟨_, t5⟩ := htr 5 _ rfl
  obtain ⟨_, t6⟩ := htr 6 _ rfl
  obtain ⟨_, t7⟩ := htr 7 _ rfl
  obtain ⟨A0, n0, c0, V0, e0, hn0, hm0, hz0, hc0, hv0⟩ := rows_of_trod Tryz.underlying23 Tryz.underlying52 (by kernel_rfl) (by kernel_rfl) (by decide) t0
  obtain ⟨A1, n1, c1, V1, e1, hn1, hm1, hz1, hc1, hv1⟩ := rows_of_trod Tryz.underlying24 Tryz.underlying54 (by kernel_rfl) (by kernel_rfl) (by decide) t1
  obtain ⟨A2, n2, c2, V2, e2, hn2, hm2, hz2, hc2, hv2⟩ := rows_of_trod Tryz.underlying25 Tryz.underlying39 (by kernel_rfl) (by kernel_rfl) (by decide) t2
  obtain ⟨A3, c3, l3, e3, hl3, hz3, hr3, hs3⟩ := strs_of_trod Tryz.underlying26 Tryz.underlying9 (by kernel_rfl) t3
  obtain ⟨z4, e4, _, _⟩ := DataW.trod_int Tryz.underlying3 t4
  obtain ⟨z5, e5, _, _⟩ := DataW.trod_int Tryz.underlying3 t5
  obtain ⟨z6, e6, _, _⟩ := DataW.trod_int Tryz.underlying3 t6
  obtain ⟨z7, e7, _, _⟩ := DataW.trod_int Tryz.underlying3 t7
  have hu : ∀ i, ∃ u : UpM, i < c0 → (V0 i 0 = .string (B u.1.1) ∧ V0 i 1 = .slice u.2.1 u.1.2.length u.2.2) ∧ Row w u.2.1 (sV u.1.2) ∧ u.1.1.length ≤ 9223372036854775807 ∧ u.1.2.length ≤ 9223372036854775807 ∧ ∀ s ∈ u.1.2, s.length ≤ 9223372036854775807 := by
    intro i
    by_cases hi : i < c0
    · obtain ⟨_, _, q0⟩ := hv0 i 0 _ hi rfl
      obtain ⟨_, _, q1⟩ := hv0 i 1 _ hi rfl
      obtain ⟨s0, f0, hs0⟩ := str_of_trod Tryz.underlying9 q0
      obtain ⟨A, c, l, f1, hl, _, hr, hs⟩ := strs_of_trod Tryz.underlying26 Tryz.underlying9 (by kernel_rfl) q1
      exact ⟨((s0, l), A, c), fun _ => ⟨⟨f0, f1⟩, hr, hs0, hl, hs⟩⟩
    · exact ⟨(([], []), none, 0), fun h => absurd h hi⟩
  have hr : ∀ i, ∃ u : RtD, i < c1 → (V1 i 0 = .string (B u.1) ∧ V1 i 1 = .string (B u.2.1) ∧ V1 i 2 = .string (B u.2.2)) ∧ u.1.length ≤ 9223372036854775807 ∧ u.2.1.length ≤ 9223372036854775807 ∧ u.2.2.length ≤ 9223372036854775807 := by
    intro i
    by_cases hi : i < c1
    · obtain ⟨_, _, q0⟩ := hv1 i 0 _ hi rfl
      obtain ⟨_, _, q1⟩ := hv1 i 1 _ hi rfl
      obtain ⟨_, _, q2⟩ := hv1 i 2 _ hi rfl
      obtain ⟨s0, f0, hs0⟩ := str_of_trod Tryz.underlying9 q0
      obtain ⟨s1, f1, hs1⟩ := str_of_trod Tryz.underlying9 q1
      obtain ⟨s2, f2, hs2⟩ := str_of_trod Tryz.underlying9 q2
      exact ⟨(s0, s1, s2), fun _ => ⟨⟨f0, f1, f2⟩, hs0, hs1, hs2⟩⟩
    · exact ⟨([], [], []), fun h => absurd h hi⟩
  have hff : ∀ i, ∃ u : FD, i < c2 → (V2 i 0 = .string (B u.1) ∧ V2 i 1 = .string (B u.2)) ∧ u.1.length ≤ 9223372036854775807 := by
    intro i
    by_cases hi : i < c2
    · obtain ⟨_, _, q0⟩ := hv2 i 0 _ hi rfl
      obtain ⟨_, _, q1⟩ := hv2 i 1 _ hi rfl
      obtain ⟨s0, f0, hs0⟩ := str_of_trod Tryz.underlying9 q0
      obtain ⟨s1, f1, hs1⟩ := str_of_trod Tryz.underlying9 q1
      exact ⟨(s0, s1), fun _ => ⟨⟨f0, f1⟩, hs0⟩⟩
    · exact ⟨([], []), fun h => absurd h hi⟩
  obtain ⟨us, hus⟩ := Classical.axiomOfChoice hu
  obtain ⟨rs, hrs⟩ := Classical.axiomOfChoice hr
  obtain ⟨fs, hfs⟩ := Classical.axiomOfChoice hff
  unfold maxLen at hm0 hm1 hm2
  simp only [List.cons.injEq, and_true] at e4 e5 e6 e7
  refine ⟨⟨(List.range n0).map us, (List.range n1).map rs, (List.range n2).map fs, l3, A0, c0, A1, c1, A2, c2, A3, c3, z4, z5, z6, z7⟩, ?_, ⟨row_u hc0 hn0 us (fun i hi => (hus i (by omega)).1), fun u hu => ?_, row_r hc1 hn1 rs (fun i hi => (hrs i (by omega)).1), fun u hu => ?_, row_f hc2 hn2 fs (fun i hi => (hfs i (by omega)).1), fun u hu => ?_, hr3, hs3, by simp; omega, by simp; omega, by simp; omega, hl3⟩, fun h => by simpa using hz2 h, hz3⟩
  · unfold CM.row
    congr 1
    apply Array.toList_inj.1
    have hl8 : cs.toList.length = 8 := hlen
    apply List.ext_getElem?
    intro j
    by_cases hj : j < 8
    · have hgj : cs.toList[j]? = some (g j) := hg j hj
      rw [hgj]
      simp only [List.length_map, List.length_range]
      rw [← e0, ← e1, ← e2, ← e3, ← e4, ← e5, ← e6, ← e7]
      match j, hj with
      | 0, _ => rfl
      | 1, _ => rfl
      | 2, _ => rfl
      | 3, _ => rfl
      | 4, _ => rfl
      | 5, _ => rfl
      | 6, _ => rfl
      | 7, _ => rfl
    · rw [List.getElem?_eq_none (by omega), List.getElem?_eq_none (by simp; omega)]
  · obtain ⟨i, hi', rfl⟩ := List.mem_map.1 hu
    exact (hus i (by have := List.mem_range.1 hi'; omega)).2
  · obtain ⟨i, hi', rfl⟩ := List.mem_map.1 hu
    exact (hrs i (by have := List.mem_range.1 hi'; omega)).2
  · obtain ⟨i, hi', rfl⟩ := List.mem_map.1 hu
    exact (hfs i (by have := List.mem_range.1 hi'; omega)).2
theorem has_lt {P : Program} {w : World} {r : Reach} {base : Nat} {a : Addr} {e : TypeId} {n : Nat} (h : w.has P r base a e n) : a.block < w.heap.size ∧ a.spot = none := by
  obtain ⟨_, hs, row, cells, hsh, _⟩ := h
  refine ⟨?_, hs⟩
  apply Classical.byContradiction
  intro hn
  have : w.heap[a.block]? = none := Array.getElem?_eq_none (by omega)
  unfold World.shape? at hsh
  rw [this] at hsh
  simp at hsh
set_option maxRecDepth 100000 in
/-- A slice of bytes that came in. -/
theorem open_bytes {H : Type} {enc : TypeId × Value → H} {w : World} {base : Nat} {held : Bool} {v : Value} {d : DataW H} {p : List MemPlace} {b0 : Nat} {rc : Reach} (y : Value.okWide Tryz.prog w rc b0 22 v) (r : DataW.Trod enc Tryz.prog w base (fun _ => true) held 22 v d p) :
    ∃ (A : Option Addr) (n c : Nat) (l : List UInt8), v = .slice A n c ∧ Bs w A n c l ∧ ∀ i, ab A i → i < w.heap.size := by
  obtain ⟨A0, n0, c0, rfl⟩ := okWide_slice Tryz.underlying22 y
  obtain ⟨fuel, h⟩ := r
  have h' : DataW.trod enc Tryz.prog w base (fun _ => true) held fuel 22 [.slice A0 n0 c0] = some (d, p) := h
  obtain ⟨A, n, c, l, e, hB⟩ := bytes_of_trod Tryz.underlying22 Tryz.underlying5 (by kernel_rfl) h'
  cases e
  refine ⟨A0, n0, c0, l, rfl, hB, fun i hi => ?_⟩
  obtain ⟨a, rfl, rfl⟩ := hi
  simp only [Value.okWide, Tryz.underlying22, Cell.okWide, Cell.ok] at y
  exact (has_lt y.2.2).1
end Go.Proofs.YtafljoiblfhioaaGreatDoor
namespace Go.Proofs.YtafljoiblfhioaaGreatDoor.wholeScrubs
open Go.ChangeShapes Go.WideShapes Go.ChangeAt Go.RowKit
set_option linter.unusedVariables false

theorem own : ownKnob Tryz.prog.godebug = none := by kernel_rfl
theorem laidOut : laidOutB Tryz.prog = true := by kernel_rfl

/-- What the listed variables hold, and the library's own one. -/
theorem gl_of {W : World} (hL0 : laidMetH Tryz.prog Rows.wholeScrubsRow.laid W) (hsh : W.ShapedOpen Tryz.prog) : Gl W := by
  rw [MakeChecks.laidMetH_plain _ _ _ (by kernel_rfl)] at hL0
  obtain ⟨m, hm⟩ := cell_of_shapedOpen_int (P := Tryz.prog) (g := 0) (t := 3) (zero := #[.int .i64 0]) hsh (of_decide_eq_true (by kernel_rfl)) (by kernel_rfl) rfl (by kernel_rfl) (by kernel_rfl) Tryz.underlying3
  obtain ⟨g1, t1, cs1, f1, p1, hg1, ht1, hv1, hd1⟩ := Lib.laidMet.reads hL0 (n := "internal/strconv.uint64pow10") (d := Rows.laid_internal_strconv_uint64pow10) (by simp [Rows.wholeScrubsRow])
  obtain ⟨g2, t2, cs2, f2, p2, hg2, ht2, hv2, hd2⟩ := Lib.laidMet.reads hL0 (n := "math/bits.deBruijn64tab") (d := Rows.laid_math_bits_deBruijn64tab) (by simp [Rows.wholeScrubsRow])
  have e1 : (Rows.laid_internal_strconv_uint64pow10 : DataW Unit) = Lib.tabData .u64 Lib.pow10Tab := by kernel_rfl
  have e2 : (Rows.laid_math_bits_deBruijn64tab : DataW Unit) = Lib.tabData .u8 [0, 1, 56, 2, 57, 49, 28, 3, 61, 58, 42, 50, 38, 29, 17, 4, 62, 47, 59, 36, 45, 43, 51, 22, 53, 39, 33, 30, 24, 18, 12, 5, 63, 55, 48, 27, 60, 41, 37, 16, 46, 35, 44, 21, 52, 32, 23, 11, 54, 26, 40, 15, 34, 20, 31, 10, 25, 14, 19, 9, 13, 8, 7, 6] := by kernel_rfl
  have hn1 : Tryz.prog.globalNamed "internal/strconv.uint64pow10" = some 1 := by kernel_rfl
  have hn2 : Tryz.prog.globalNamed "math/bits.deBruijn64tab" = some 5 := by kernel_rfl
  obtain rfl := Option.some.inj (hn1.symm.trans hg1)
  obtain rfl := Option.some.inj (hn2.symm.trans hg2)
  obtain rfl := Option.some.inj ((show (Tryz.prog.globals[1]?).map (·.type) = some 153 by kernel_rfl).symm.trans ht1)
  obtain rfl := Option.some.inj ((show (Tryz.prog.globals[5]?).map (·.type) = some 170 by kernel_rfl).symm.trans ht2)
  rw [e1] at hd1
  rw [e2] at hd2
  have c1 := Lib.cells_of_tab (show Tryz.prog.underlying 153 = some (.array 20 139) by kernel_rfl) (show Tryz.prog.underlying 139 = some (.int .u64) by kernel_rfl) (by kernel_rfl) (by kernel_rfl) hd1
  have c2 := Lib.cells_of_tab (show Tryz.prog.underlying 170 = some (.array 64 5) by kernel_rfl) (show Tryz.prog.underlying 5 = some (.int .u8) by kernel_rfl) (by kernel_rfl) (by kernel_rfl) hd2
  have htab : W.cell? ⟨5, 15, none⟩ = some (.int .u8 4) := by
    rw [World.var?_cell hn2 hv2 15, ← Array.getElem?_toList, c2]
    rfl
  refine ⟨⟨m, hm⟩, ?_, ?_, htab⟩
  · have := World.block_lt_of_cell? W _ htab
    exact this
  · unfold Lib.TabIs
    rw [hv1, ← c1]

/-- The wrap that hands on the row's condition, the world's shape and the reach. -/
theorem wrap {H : Type} {enc : TypeId × Value → H} {a : Assume} {C : Checked} {os : Os} {f : FuncId} {fn : Func} {s : ChangeSpec} {conds : List PathCond} {apart fresh handsOn again : Bool} {X : World → Array Value → Prop}
    (hX : ∀ (w w' : World) (args : Array Value), w.heap = w'.heap → X w args → X w' args)
    (own : ownKnob C.prog.godebug = none) (started : os.Started) (noInit : C.prog.inits.idxOf? f = none) (hfn : C.prog.funcs[f]? = some fn)
    (witness : ∃ (w : World) (tape : Tape) (i : Input), w.os = os ∧ (w.forCall tape i).Shaped C.prog ∧ i.vars = [] ∧ Input.okWide C.prog (w.forCall tape i) .any w.heap.size f i ∧
      ((s.pre enc C.prog fn conds apart (w.forCall tape i).memory i.args ∧ X (w.forCall tape i).memory i.args) ∧ sizedMet enc C.prog fn (OpenSpec.ofChange s) apart (w.forCall tape i).memory i.args) ∧ a.holds C.prog (lone (Frame.enter C.prog f i.args .normal) [] (w.forCall tape i)))
    (contract : ∀ (W : World) (base : Nat) (args : Array Value) (ds gs : List (DataW H)) (before : List MemPlace),
      (∀ (j : Nat) t v, fn.params[j]? = some t → args[j]? = some v → Value.okWide C.prog W .any base t v) →
      DataW.Whole enc C.prog fn.params.toList s.vars apart W args.toList ds gs before →
      (DataW.weightsEach C.prog (fn.params.toList ++ s.plain.varTypes C.prog) (ds ++ gs)).all (· ≤ reachBytes) = true → X W args → W.ShapedOpen C.prog →
      Calls C.prog f args W fun e W' => ∃ v, e = .returned v ∧ s.post enc C.prog fn apart fresh handsOn again W args v W') :
    ReturnsInHanded a C os f .any (fun w args => (s.pre enc C.prog fn conds apart w args ∧ X w args) ∧ sizedMet enc C.prog fn (OpenSpec.ofChange s) apart w args) (s.post enc C.prog fn apart fresh handsOn again) := by
  refine returnsInHanded_of_calls own started noInit witness (fun w tape i _ hsh _ hok hpre _ => ?_)
  obtain ⟨_, _, _, fn', hfn', _, _, _, _, hval⟩ := hok
  obtain rfl : fn' = fn := Option.some.inj (hfn'.symm.trans hfn)
  obtain ⟨⟨⟨ds, gs, before, hw, _⟩, hx⟩, hz⟩ := hpre
  refine (contract (w.forCall tape i) w.heap.size i.args ds gs before hval (DataW.Whole.of_heap (w' := w.forCall tape i) (by rfl) hw) (hz.weights hw) (hX _ _ _ (by rfl) hx) hsh).mono ?_
  rintro e W' ⟨v, rfl, hp⟩
  exact ChangeSpec.post_blind hp

set_option maxRecDepth 100000 in
theorem lifted (os : Os) (started : os.Started) (H : Type) (enc : TypeId × Value → H) :
    ReturnsInHanded {} Tryz.checked os 3 .any (fun w args => (Rows.wholeScrubsSpec.pre enc Tryz.prog Tryz.f3 Rows.wholeScrubsRow.domain false w args ∧ laidMetH Tryz.prog Rows.wholeScrubsRow.laid w) ∧ sizedMet enc Tryz.prog Tryz.f3 (OpenSpec.ofChange Rows.wholeScrubsSpec) false w args)
      (Rows.wholeScrubsSpec.post enc Tryz.prog Tryz.f3 false true false false) := by
  refine wrap (C := Tryz.checked) (X := fun w _ => laidMetH Tryz.prog Rows.wholeScrubsRow.laid w) (fun _ _ _ hh h => h.of_heap hh) own started (by kernel_rfl) Tryz.func3
    (ChangeSpec.witness_shaped (enc := enc) (C := Tryz.checked) (os := os) (X := fun w _ => laidMetH Tryz.prog Rows.wholeScrubsRow.laid w) false (World.laidAll Tryz.prog os Rows.wholeScrubsRow.laid) #[.slice none 0 0, .agg #[.slice none 0 0, .slice none 0 0, .slice none 0 0, .slice none 0 0, .int .i64 0, .int .i64 0, .int .i64 0, .int .i64 0], .int .i64 0, .int .i64 0] 8 (World.laidAll_os _ _ _)
      (World.shaped_of_ZipB (by kernel_rfl) (by kernel_rfl)) (by kernel_rfl) (by kernel_rfl) (by kernel_rfl)
      (by rw [MakeChecks.laidMetH_plain _ _ _ (by kernel_rfl)]; exact laidMet_laidAll _ (by kernel_rfl) (by kernel_rfl))) ?_
  intro W base args ds gs before hval0 hW hsz0 hL hsh
  have hval : ∀ (j : Nat) t v, Tryz.f3.params[j]? = some t → args[j]? = some v → Value.okWide Tryz.prog W .any base t v := hval0
  have hsz : (DataW.weightsEach Tryz.prog (Tryz.f3.params.toList ++ Rows.wholeScrubsSpec.plain.varTypes Tryz.prog) (ds ++ gs)).all (· ≤ reachBytes) = true := hsz0
  have hW' := hW
  obtain ⟨p, q, hA0, hV, rfl, hfz, hnd⟩ := hW
  have hA : DataW.TrodAll enc Tryz.prog W 0 (fun _ => true) true Tryz.f3.params.toList args.toList ds p := hA0
  rw [Tryz.params3] at hA hval hsz
  obtain ⟨v0, vs0, d0, ds0, p0, q0, hargs, rfl, rfl, h0, r0⟩ := trodAll_cons hA
  obtain ⟨v1, vs1, d1, ds1, p1, q1, rfl, rfl, rfl, h1, r1⟩ := trodAll_cons r0
  obtain ⟨v2, vs2, d2, ds2, p2, q2, rfl, rfl, rfl, h2, r2⟩ := trodAll_cons r1
  obtain ⟨v3, vs3, d3, ds3, p3, q3, rfl, rfl, rfl, h3, r3⟩ := trodAll_cons r2
  obtain ⟨rfl, rfl, rfl⟩ := trodAll_nil r3
  obtain rfl : args = #[v0, v1, v2, v3] := by cases args; simp_all
  obtain ⟨rfl, rfl⟩ := trodVars_none hV
  have k0 := h0
  have k1 := h1
  have y0 := hval 0 22 v0 rfl rfl
  have y1 := hval 1 28 v1 rfl rfl
  have lt0 : ∀ x ∈ p0, x.block < W.heap.size := by obtain ⟨m, hm⟩ := k0; exact DataW.trod_lt m _ _ _ hm
  have lt1 : ∀ x ∈ p1, x.block < W.heap.size := by obtain ⟨m, hm⟩ := k1; exact DataW.trod_lt m _ _ _ hm
  obtain ⟨a2, rfl, rfl, rfl, w2⟩ := open_int Tryz.underlying3 (hval 2 3 v2 rfl rfl) h2
  obtain ⟨a3, rfl, rfl, rfl, w3⟩ := open_int Tryz.underlying3 (hval 3 3 v3 rfl rfl) h3
  obtain ⟨A, n, c, b, rfl, hB, hAb⟩ := open_bytes y0 h0
  obtain ⟨x, rfl, hX, hSn, hDn⟩ := conf_of_trod y1 h1
  clear hA0 hval0
  refine (scrubs_walk A n c b x a2 a3 W hB hAb hX hSn hDn (gl_of hL hsh)).mono fun e W' ⟨he, o⟩ => ?_
  have bel : Below W.heap.size W W' := o.to_below (fun _ h => h.elim)
  subst he
  exact ⟨_, rfl, _, _, _, [], _, [], hW', trodAll_mk1 (shut_bool Tryz.underlying4 _), (trodAll_cons_mk (Below.trod laidOut (by kernel_rfl) (of_decide_eq_true (by kernel_rfl)) k0 bel lt0) (trodAll_cons_mk (Below.trod laidOut (by kernel_rfl) (of_decide_eq_true (by kernel_rfl)) k1 bel lt1) (trodAll_cons_mk (shut_int Tryz.underlying3 w2) (trodAll_cons_mk (shut_int Tryz.underlying3 w3) trodAll_mk0)))), rfl, bel.frame _, fun h => by cases h⟩

theorem row : Rows.WholeScrubsSaid :=
  OpenClaim.holds_of_wide 3 Tryz.f3 rfl rfl rfl rfl rfl rfl rfl ⟨rfl, rfl, rfl, rfl, rfl⟩ rfl rfl rfl rfl rfl (by kernel_rfl) Tryz.func3 (by kernel_rfl)
    (of_decide_eq_true (by kernel_rfl)) (by unfold Func.isWrapper; first | (rw [if_pos (by decide +kernel)]; kernel_rfl) | (rw [if_neg (by decide +kernel)]; exact ⟨rfl, rfl⟩))
    (fun os started H enc _ => lifted os started H enc)

theorem card : Rows.WholeScrubsCardSaid :=
  Claim7.holds_tied_plain_at .later [] [.data, .data, .data, .data, .pinned] true (true, "e2248e9e7d76579e99b1e4ed1e13e97875b76c5f97cf0eb09df4be51c97c8f74") false row (fun _ h => by cases h) (by kernel_rfl) (fun _ h => by cases h) wholeScrubs_row_tie rfl ⟨rfl, rfl⟩ (by kernel_rfl) rfl
    (fun f fn hf hfn => by
      obtain rfl : f = 3 := Option.some.inj ((show Tryz.prog.funcNamed "tollbar/tollbartop.WholeScrubs" = some 3 by kernel_rfl).symm.trans hf) |>.symm
      obtain rfl : fn = Tryz.f3 := (Option.some.inj (Tryz.func3.symm.trans hfn)).symm
      exact ⟨by kernel_rfl, fun j t ht => by
        rw [Tryz.params3] at ht
        have hm : t ∈ [22, 28, 3, 3] := by simpa using Array.mem_of_getElem? ht
        have hall : ([22, 28, 3, 3].all fun u => !Tryz.prog.wantsStandIn u) = true := by kernel_rfl
        exact (show Tryz.prog.wantsStandIn t = false by simpa using List.all_eq_true.1 hall t hm)⟩)
    (by kernel_rfl)
end Go.Proofs.YtafljoiblfhioaaGreatDoor.wholeScrubs
namespace Go.Proofs.YtafljoiblfhioaaGreatDoor
/-- The statement. -/
theorem wholeScrubs_holds : Rows.WholeScrubsCardSaid := wholeScrubs.card
#print axioms wholeScrubs_holds
end Go.Proofs.YtafljoiblfhioaaGreatDoor
