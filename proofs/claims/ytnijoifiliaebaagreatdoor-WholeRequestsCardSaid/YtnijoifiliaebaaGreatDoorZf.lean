/-
  The asks that came in, opened; what the listed variables hold.
-/
import Derived.Test.YtnijoifiliaebaaGreatDoorZe
import Derived.Test.YtnijoifiliaebaaGreatDoorS
import Derived.SizedLaws
import Derived.OpenShut
import Derived.HandedShaped
import Derived.Shelf.Vars
import Derived.Lib.LaidU8
import Derived.Lib.LaidTab
namespace Go.Proofs.YtnijoifiliaebaaGreatDoor
open Go.ChangeShapes Go.WideShapes Go.Deep Go.RowKit

section
variable {H : Type} {enc : TypeId × Value → H} {P : Program} {w : World} {base : Nat} {held : Bool}
theorem weightsAll_mem {e : TypeId} : ∀ {l : List (DataW H)} {d : DataW H} {n : Nat}, d ∈ l → n ∈ d.weights P e → n ∈ DataW.weightsAll P e l
  | x :: l, d, n, hd, hn => by
    simp only [DataW.weightsAll, List.mem_append]
    rcases List.mem_cons.1 hd with rfl | hd
    · exact .inl hn
    · exact .inr (weightsAll_mem hd hn)
  | [], _, _, hd, _ => by cases hd
/-- A slice of bytes that came in. -/
theorem bytes_of_trod {t e : TypeId} {v : Value} {m : Nat} {x : DataW H × List MemPlace} (ht : P.underlying t = some (.slice e)) (he : P.underlying e = some (.int .u8)) (hc : P.cellsOf e = 1)
    (h : DataW.trod enc P w base (fun _ => true) held m t [v] = some x) : ∃ (A : Option Addr) (n c : Nat) (l : List UInt8), v = .slice A n c ∧ Bs w A n c l := by
  rcases open_slice1 ht hc h with ⟨hcs, _⟩ | ⟨a, len, cap, m, n', V, D, Pl, hcs, _, hl, hm, hmm, _, hh⟩
  · exact ⟨none, 0, 0, [], by simpa using hcs, Bs.empty w⟩
  · have hmc : m = cap := by simpa using hmm
    subst hmc
    have hv : ∀ i, ∃ q : UInt8, i < m → V i = .int .u8 (q.toNat : Int) := by
      intro i
      by_cases hi : i < m
      · obtain ⟨q, hq, _, hw⟩ := DataW.trod_int he (hh i hi).2
        simp only [List.cons.injEq, and_true] at hq
        refine ⟨UInt8.ofNat q.toNat, fun _ => ?_⟩
        rw [hq]
        have hb := bounds_u8 hw
        congr 1
        simp [UInt8.toNat_ofNat']
        omega
      · exact ⟨0, fun h => absurd h hi⟩
    refine ⟨some a, len, m, (List.range len).map (fun i => Classical.choose (hv i)), by simpa using hcs, ⟨by simp, hl, fun hne => ?_, fun h => by cases h⟩⟩
    have h0 : 0 < len := by
      rcases Nat.eq_zero_or_pos len with h | h
      · subst h
        exact absurd rfl hne
      · exact h
    obtain ⟨b, off, spot⟩ := a
    have hspot : spot = none := by simpa [Addr.add] using World.cell?_spot (hh 0 (by omega)).1
    subst hspot
    refine ⟨b, off, rfl, World.block_lt_of_cell? w _ (hh 0 (by omega)).1, fun j u hu => ?_⟩
    have hj : j < len := by
      have := (List.getElem?_eq_some_iff.1 hu).1
      simpa [bV] using this
    simp only [bV, List.map_map, List.getElem?_map, List.getElem?_range hj, Option.map_some, Function.comp, Option.some.injEq] at hu
    rw [← hu, ← Go.WideShapes.add_plain, (hh j (by omega)).1]
    exact congrArg some (Classical.choose_spec (hv j) (by omega))

set_option maxRecDepth 100000 in
theorem open_asks {v : Value} {d d1 : DataW H} {p : List MemPlace} {b0 : Nat} {rc : Reach} (y : Value.okWide Tryz.prog w rc b0 22 v) (r : DataW.Trod enc Tryz.prog w base (fun _ => true) held 22 v d p)
    (hsz : (DataW.weightsEach Tryz.prog [22, 3] [d, d1]).all (· ≤ reachBytes) = true) :
    ∃ (A : Option Addr) (c : Nat) (ds : List AskD), v = .slice A ds.length c ∧ Asks w A ds := by
  have hC : Tryz.prog.cellsOf 27 = 6 := by kernel_rfl
  have hc5 : Tryz.prog.cellsOf 5 = 1 := by kernel_rfl
  have hone : oneCellFields Tryz.prog (#[
        { name := "Method", type := 9, offset := 0, embedded := false, tag := "", pkgPath := "", byteOffset := 0 },
        { name := "Path", type := 9, offset := 1, embedded := false, tag := "", pkgPath := "", byteOffset := 16 },
        { name := "Name", type := 9, offset := 2, embedded := false, tag := "", pkgPath := "", byteOffset := 32 },
        { name := "Value", type := 9, offset := 3, embedded := false, tag := "", pkgPath := "", byteOffset := 48 },
        { name := "Body", type := 24, offset := 4, embedded := false, tag := "", pkgPath := "", byteOffset := 64 },
        { name := "Size", type := 3, offset := 5, embedded := false, tag := "", pkgPath := "", byteOffset := 88 }] : Array Field) = true := by kernel_rfl
  obtain ⟨A, n, c, rfl⟩ := okWide_slice Tryz.underlying22 y
  obtain ⟨fuel, hf⟩ := r
  rcases open_slice Tryz.underlying22 hf with ⟨hcs, hx⟩ | ⟨a, len, cap, m, n', D, Pl, hcs, _, hl, hm, hmm, hx, hi⟩
  · simp [Value.cells] at hcs
    obtain ⟨rfl, rfl, rfl⟩ := hcs
    exact ⟨none, 0, [], rfl, fun h => absurd h (by simp), fun d hd => by cases hd⟩
  · simp [Value.cells] at hcs
    obtain ⟨rfl, rfl, rfl⟩ := hcs
    have hmc : m = c := by simpa using hmm
    subst hmc
    rw [hC] at hi
    have each : ∀ i, i < n → ∃ q : AskD, q.Ok w ∧ w.cell? (a.add (i * 6)) = some (.string q.m) ∧ w.cell? (a.add (i * 6 + 1)) = some (.string q.p) ∧ w.cell? (a.add (i * 6 + 2)) = some (.string q.n) ∧ w.cell? (a.add (i * 6 + 3)) = some (.string q.v) ∧ w.cell? (a.add (i * 6 + 4)) = some (.slice q.A q.bn q.bc) ∧ w.cell? (a.add (i * 6 + 5)) = some (.int .i64 q.size) := by
      intro i him
      obtain ⟨cs', hc, ht'⟩ := hi i (by omega)
      obtain ⟨ys, k, _, hye, _, hyl, hfj⟩ := DataW.trod_struct Tryz.underlying27 ht'
      obtain ⟨_, hcl, hat⟩ := World.cells?_some hc
      have hcell : ∀ j, j < 6 → w.cell? (a.add (i * 6 + j)) = some (cs'.getD j .nilIface) := fun j hj => by
        rw [← Go.Deep.add_add, hat j hj, List.getD_eq_getElem?_getD, List.getElem?_eq_getElem (by omega)]
        rfl
      have hfld : ∀ (j : Nat) (f : Field), j < 6 → (#[
        { name := "Method", type := 9, offset := 0, embedded := false, tag := "", pkgPath := "", byteOffset := 0 },
        { name := "Path", type := 9, offset := 1, embedded := false, tag := "", pkgPath := "", byteOffset := 16 },
        { name := "Name", type := 9, offset := 2, embedded := false, tag := "", pkgPath := "", byteOffset := 32 },
        { name := "Value", type := 9, offset := 3, embedded := false, tag := "", pkgPath := "", byteOffset := 48 },
        { name := "Body", type := 24, offset := 4, embedded := false, tag := "", pkgPath := "", byteOffset := 64 },
        { name := "Size", type := 3, offset := 5, embedded := false, tag := "", pkgPath := "", byteOffset := 88 }] : Array Field)[j]? = some f →
          ∃ x, ys[j]? = some x ∧ DataW.trod enc Tryz.prog w base (fun _ => true) held k f.type [cs'.getD j .nilIface] = some x := fun j f hj hfm => by
        obtain ⟨ho, hk⟩ := hone_of hone j f hfm
        have h1 := hfj j f hfm
        rw [ho, hk] at h1
        have h2 : (cs'.drop j).take 1 = [cs'.getD j .nilIface] := by
          rw [List.drop_eq_getElem_cons (by omega), List.getD_eq_getElem?_getD, List.getElem?_eq_getElem (by omega)]
          rfl
        rw [h2] at h1
        have hj2 : j < ys.length := by rw [hyl]; exact hj
        exact ⟨ys[j], List.getElem?_eq_getElem hj2, by rw [h1, List.getElem?_eq_getElem hj2]⟩
      obtain ⟨x0, _, t0⟩ := hfld 0 _ (by omega) rfl
      obtain ⟨x1, y1, t1⟩ := hfld 1 _ (by omega) rfl
      obtain ⟨x2, _, t2⟩ := hfld 2 _ (by omega) rfl
      obtain ⟨x3, _, t3⟩ := hfld 3 _ (by omega) rfl
      obtain ⟨x4, _, t4⟩ := hfld 4 _ (by omega) rfl
      obtain ⟨x5, _, t5⟩ := hfld 5 _ (by omega) rfl
      obtain ⟨s0, e0, _, z0⟩ := DataW.trod_string Tryz.underlying9 t0
      obtain ⟨s1, e1, ex1, z1⟩ := DataW.trod_string Tryz.underlying9 t1
      obtain ⟨s2, e2, _, z2⟩ := DataW.trod_string Tryz.underlying9 t2
      obtain ⟨s3, e3, _, z3⟩ := DataW.trod_string Tryz.underlying9 t3
      obtain ⟨A4, n4, c4, l4, e4, B4⟩ := bytes_of_trod Tryz.underlying24 Tryz.underlying5 hc5 t4
      obtain ⟨z5, e5, _, w5⟩ := DataW.trod_int Tryz.underlying3 t5
      simp only [List.cons.injEq, and_true] at e0 e1 e2 e3 e5
      have hb5 := bounds_i64 w5
      have hp : s1.size ≤ reachBytes := by
        have hDi : D i ∈ (List.range n).map D := List.mem_map.2 ⟨i, List.mem_range.2 him, rfl⟩
        have hDe : D i = .agg (ys.map (·.1)) := (Prod.mk.inj hye).1
        have hw1 : s1.data.toList.length ∈ (D i).weights Tryz.prog 27 := by
          rw [hDe]
          simp only [DataW.weights, Tryz.underlying27]
          refine DataW.weights_mem_each (j := 1) (t := 9) (d := x1.1) rfl ?_ _ ?_
          · rw [List.getElem?_map, y1]; rfl
          · rw [ex1]; simp [DataW.weights]
        have hd : d = .slice ((List.range n).map D) ((List.range (m - n)).map fun j => D (n + j)) := (Prod.mk.inj hx).1
        have hw2 : s1.data.toList.length ∈ d.weights Tryz.prog 22 := by
          rw [hd]
          simp only [DataW.weights, Tryz.underlying22]
          exact List.mem_cons_of_mem _ (List.mem_append_left _ (weightsAll_mem hDi hw1))
        have := List.all_eq_true.1 hsz _ (DataW.weights_mem_each (j := 0) (t := 22) (d := d) rfl rfl _ hw2)
        simpa using this
      refine ⟨⟨s0, s1, s2, s3, A4, n4, c4, l4, z5⟩, ⟨B4, by unfold maxLen at z0; simp only; omega, by unfold reachBytes at hp; simp only; omega, hb5.1, hb5.2⟩, ?_, ?_, ?_, ?_, ?_, ?_⟩
      · have := hcell 0 (by omega); rw [Nat.add_zero, e0] at this; exact this
      · rw [hcell 1 (by omega), e1]
      · rw [hcell 2 (by omega), e2]
      · rw [hcell 3 (by omega), e3]
      · rw [hcell 4 (by omega), e4]
      · rw [hcell 5 (by omega), e5]
    have hch : ∀ i, ∃ q : AskD, i < n → (q.Ok w ∧ w.cell? (a.add (i * 6)) = some (.string q.m) ∧ w.cell? (a.add (i * 6 + 1)) = some (.string q.p) ∧ w.cell? (a.add (i * 6 + 2)) = some (.string q.n) ∧ w.cell? (a.add (i * 6 + 3)) = some (.string q.v) ∧ w.cell? (a.add (i * 6 + 4)) = some (.slice q.A q.bn q.bc) ∧ w.cell? (a.add (i * 6 + 5)) = some (.int .i64 q.size)) := by
      intro i
      by_cases him : i < n
      · obtain ⟨q, hq⟩ := each i him
        exact ⟨q, fun _ => hq⟩
      · exact ⟨⟨⟨#[]⟩, ⟨#[]⟩, ⟨#[]⟩, ⟨#[]⟩, none, 0, 0, [], 0⟩, fun h => absurd h him⟩
    refine ⟨some a, m, (List.range n).map (fun i => Classical.choose (hch i)), by simp, fun h0 => ?_, fun q hq => ?_⟩
    · have h0' : 0 < n := by simpa using h0
      have first := (Classical.choose_spec (hch 0) h0').2.1
      obtain ⟨b, off, spot⟩ := a
      have hspot : spot = none := by simpa [Addr.add] using World.cell?_spot first
      subst hspot
      refine ⟨b, off, rfl, ?_, fun i q hq => ?_⟩
      · obtain ⟨u, hu⟩ : ∃ u, w.cell? ((⟨b, off, none⟩ : Addr).add (0 * 6)) = some u := ⟨_, first⟩
        rw [Go.WideShapes.add_plain] at hu
        exact World.block_lt_of_cell? w _ hu
      · have hin : i < n := by
          have := (List.getElem?_eq_some_iff.1 hq).1
          simpa using this
        simp only [List.getElem?_map, List.getElem?_range hin, Option.map_some, Option.some.injEq] at hq
        have hs := (Classical.choose_spec (hch i) hin).2
        rw [hq] at hs
        simpa only [Go.WideShapes.add_plain, Nat.add_assoc] using hs
    · obtain ⟨i, hi', rfl⟩ := List.mem_map.1 hq
      exact (Classical.choose_spec (hch i) (List.mem_range.1 hi')).1
end
end Go.Proofs.YtnijoifiliaebaaGreatDoor
