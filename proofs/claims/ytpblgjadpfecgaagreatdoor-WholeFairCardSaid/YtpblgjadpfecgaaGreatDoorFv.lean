/-
  WholeFair, plain: wants; a cell whose connections are only written.
-/
import Derived.Test.YtpblgjadpfecgaaGreatDoorFu
import Derived.Test.YtpblgjadpfecgaaGreatDoorFo
import Derived.Shelf.SlIterI.Nil
import Derived.Shelf.SortM.Plain
import Derived.Shelf.SortM.SortNone
set_option linter.unusedSimpArgs false
set_option linter.unusedVariables false
namespace Go.Proofs.YtpblgjadpfecgaaGreatDoor
open Go.RowKit Go.Maps

/-- The flows of n connections that want f. -/
def fsOf (n : Nat) (f : Nat → Nat) : List (Nat × Nat) := (List.range n).map (fun k => (k + 1, f k))
theorem fsOf_succ (n : Nat) (f : Nat → Nat) : fsOf (n + 1) f = fsOf n f ++ [(n + 1, f n)] := by simp [fsOf, List.range_succ]
theorem fsOf_len (n : Nat) (f : Nat → Nat) : (fsOf n f).length = n := by simp [fsOf]
theorem fsOf_mem {n : Nat} {f : Nat → Nat} {p : Nat × Nat} (h : p ∈ fsOf n f) : ∃ k, k < n ∧ p = (k + 1, f k) := by
  simp only [fsOf, List.mem_map, List.mem_range] at h
  obtain ⟨k, hk, rfl⟩ := h
  exact ⟨k, hk, rfl⟩
theorem got_out (f : Nat → Nat) (id : Nat) : ∀ n : Nat, (∀ k, k < n → k + 1 ≠ id) → got (fsOf n f) id = 0
  | 0, _ => rfl
  | n + 1, h => by
    rw [fsOf_succ, got_app, got_out f id n (fun k hk => h k (by omega))]
    simp [got, h n (by omega)]
theorem got_fsOf (f : Nat → Nat) (k : Nat) : ∀ n : Nat, k < n → got (fsOf n f) (k + 1) = f k
  | 0, h => by omega
  | n + 1, h => by
    rw [fsOf_succ, got_app]
    by_cases e : k = n
    · subst e
      rw [got_out f (k + 1) k (fun j hj => by omega)]
      simp [got]
    · rw [got_fsOf f k n (by omega)]
      have : n ≠ k := fun h => e h.symm
      simp [got, this]
theorem tot_fsOf_ext (f f' : Nat → Nat) : ∀ n : Nat, (∀ j, j < n → f' j = f j) → fsOf n f' = fsOf n f
  | 0, _ => rfl
  | n + 1, h => by rw [fsOf_succ, fsOf_succ, tot_fsOf_ext f f' n (fun j hj => h j (by omega)), h n (by omega)]
theorem tot_upd (f f' : Nat → Nat) (k a : Nat) : ∀ n : Nat, k < n → f' k + a = f k → (∀ j, j ≠ k → f' j = f j) → tot (fsOf n f') + a = tot (fsOf n f)
  | 0, h, _, _ => by omega
  | n + 1, h, e, ho => by
    rw [fsOf_succ, fsOf_succ, tot_app, tot_app]
    by_cases hk : k = n
    · subst hk
      rw [tot_fsOf_ext f f' k (fun j hj => ho j (by omega))]
      simp only [tot]
      omega
    · have := tot_upd f f' k a n (by omega) e ho
      rw [ho n (by omega)]
      omega
theorem up_fsOf (n : Nat) (f : Nat → Nat) : Up (fsOf n f) := by
  intro i p r hp hr
  have e : ∀ (i : Nat) (p : Nat × Nat), (fsOf n f)[i]? = some p → p.1 = i + 1 := fun i p h => by
    simp only [fsOf, List.getElem?_map, Option.map_eq_some_iff] at h
    obtain ⟨a, ha, rfl⟩ := h
    rw [List.getElem?_eq_some_iff] at ha
    obtain ⟨hi, ha⟩ := ha
    simp at ha
    simp [ha]
  rw [e _ _ hp, e _ _ hr]
  omega

/-- How many bytes a connection has to write. -/
def wt (s : St) (k : Nat) : Nat := (s.L (2 * k + 1)).length
/-- All connections' windows are open; what is held is what is to be written. -/
structure Opens (s : St) : Prop where
  mn : s.m = s.n
  n4 : s.n ≤ 4
  len : ∀ k, k < s.n → (wt s k : Int) ≤ s.win k ∧ s.win k ≤ 1073741824
  sum : s.H = (tot (fsOf s.n (wt s)) : Nat)
  small : tot (fsOf s.n (wt s)) ≤ 1000000
def St.wrote (s : St) (k n : Nat) : St := { s with L := Rg.upd s.L (2 * k + 1) ((s.L (2 * k + 1)).drop n), H := s.H - n, win := Rg.upd s.win k (s.win k - n) }
theorem wrote_at (s : St) (k n : Nat) : wt (s.wrote k n) k = wt s k - n := by
  show (Rg.upd s.L (2 * k + 1) ((s.L (2 * k + 1)).drop n) (2 * k + 1)).length = _
  rw [Rg.upd_at, List.length_drop]
  rfl
theorem wrote_ne (s : St) (k n j : Nat) (h : j ≠ k) : wt (s.wrote k n) j = wt s j := by
  show (Rg.upd s.L (2 * k + 1) ((s.L (2 * k + 1)).drop n) (2 * j + 1)).length = _
  rw [Rg.upd_ne _ _ (by omega)]
  rfl
theorem Opens.wrote {s : St} {k n : Nat} (h : Opens s) (hk : k < s.n) (hn : n ≤ wt s k) : Opens (s.wrote k n) ∧ tot (fsOf s.n (wt (s.wrote k n))) + n = tot (fsOf s.n (wt s)) := by
  have ht := tot_upd (wt s) (wt (s.wrote k n)) k n s.n hk (by rw [wrote_at]; omega) (fun j hj => wrote_ne s k n j hj)
  refine ⟨⟨h.mn, h.n4, fun j hj => ?_, ?_, ?_⟩, ht⟩
  · by_cases e : j = k
    · subst e
      have := h.len j hk
      rw [wrote_at]
      show _ ≤ Rg.upd s.win j (s.win j - n) j ∧ Rg.upd s.win j (s.win j - n) j ≤ _
      rw [Rg.upd_at]
      omega
    · rw [wrote_ne _ _ _ _ e]
      show _ ≤ Rg.upd s.win k (s.win k - n) j ∧ Rg.upd s.win k (s.win k - n) j ≤ _
      rw [Rg.upd_ne _ _ e]
      exact h.len j hj
  · show s.H - n = _
    have := h.sum
    show s.H - n = ((tot (fsOf s.n (wt (s.wrote k n))) : Nat) : Int)
    omega
  · show tot (fsOf s.n (wt (s.wrote k n))) ≤ _
    have := h.small
    omega

/-- The keys of a map of connections. -/
def idsL (n : Nat) : List Int := (List.range n).map (fun k : Nat => (k : Int) + 1)
theorem idsL_len (n : Nat) : (idsL n).length = n := by simp [idsL]
theorem idsL_at {n i : Nat} (h : i < n) : (idsL n)[i]? = some ((i : Int) + 1) := by simp [idsL, h]
theorem idsL_mem (n : Nat) (x : Int) : x ∈ idsL n ↔ ∃ k : Nat, k < n ∧ x = k + 1 := by
  simp only [idsL, List.mem_map, List.mem_range]
  constructor
  · rintro ⟨k, hk, rfl⟩; exact ⟨k, hk, rfl⟩
  · rintro ⟨k, hk, rfl⟩; exact ⟨k, hk, rfl⟩
theorem idsL_up (n : Nat) : (idsL n).Pairwise (fun a b => decide (a ≤ b) = true) := by
  unfold idsL
  rw [List.pairwise_map]
  exact (List.pairwise_lt_range (n := n)).imp (fun h => by simp; omega)
theorem idsL_nodup (n : Nat) : (idsL n).Nodup := by
  unfold idsL
  rw [List.Nodup, List.pairwise_map]
  exact (List.pairwise_lt_range (n := n)).imp (fun h => by omega)
theorem idsL_sort (n : Nat) : (idsL n).mergeSort leI = idsL n := List.mergeSort_of_pairwise (idsL_up n)
theorem MapC.keys {w : World} {b n : Nat} {xb : Nat → Nat} (h : MapC w b n xb) : ∃ D : DataW Unit, w.ownsMap Tryz.prog 3 cR b n D ∧ Maps.size D = n ∧ ∀ ss : List Int, ss.Perm (intKeys D) → ss.length = n ∧ ss.mergeSort leI = idsL n := by
  obtain ⟨D, h1, h2, h3, h4⟩ := h
  obtain ⟨es, hD, hpw, _⟩ := h1.entries lawK
  obtain ⟨es', hD', hko⟩ := h1.keysOf
  obtain rfl : es = es' := by rw [hD] at hD'; simpa using hD'
  subst hD
  have hp := perm_intKeys hpw (fun p hp => by obtain ⟨v, hv⟩ := hko p hp; obtain ⟨x, _, hx, _⟩ := Maps.keyOf_i64 Tryz.underlying3 hv; exact ⟨x, hx⟩) (idsL_nodup n) (fun x => by rw [idsL_mem, h4])
  refine ⟨_, h1, h2, fun ss hs => ⟨?_, ?_⟩⟩
  · rw [(hs.trans hp.symm).length_eq, idsL_len]
  · rw [mergeSort_of_perm_i (hs.trans hp.symm), idsL_sort]
end Go.Proofs.YtpblgjadpfecgaaGreatDoor
/-
  The keys of a map of connections, sorted.
-/
namespace Go.Proofs.YtpblgjadpfecgaaGreatDoor
open Go.RowKit Go.Maps Go.Sort Go.Shelf

theorem sorts_in (m : Nat) : AnyZI.SortsIn Tryz.prog Tryz.sortedA_ren Fence.wide m :=
  ⟨fun blk off cap ss W hH hblk hsz => callsIn_wide.2 (AnyM.slices_Sort_int Tryz.sortA blk off cap ss W hH hblk hsz),
   fun p cap W => callsIn_wide.2 (AnyM.slices_Sort_int_none Tryz.sortA p cap W)⟩

theorem keys_any (b : Nat) (w : World) :
    Calls Tryz.prog 75 #[.map (some b)] w fun e w' => e = .returned (.func (.func 129) #[] #[.pointer (some ⟨w.heap.size, 0, none⟩)]) ∧ w' = w.alloc (.cells #[.map (some b)] 51) :=
  (callsIn_wide (n := 6)).1 (AnyZI.keys_in Tryz.keysA Fence.wide 6 trivial rfl (some b) w)

set_option maxHeartbeats 1000000 in
theorem sorted_any (b n Bm : Nat) (xb : Nat → Nat) (w : World) (hM : MapC w b n xb) (hB : w.cell? ⟨Bm, 0, none⟩ = some (.map (some b))) (hn : n ≤ 1000) :
    Calls Tryz.prog 74 #[.func (.func 129) #[] #[.pointer (some ⟨Bm, 0, none⟩)]] w fun e w' => ∃ A c, e = .returned (.slice A n c) ∧ Row w' A ((idsL n).map encZ) ∧ (∀ i, ab A i → w.heap.size ≤ i ∧ i < w'.heap.size) ∧ Only (fun _ => False) w w' := by
  obtain ⟨D, h1, h2, h3⟩ := hM.keys
  have hseq : SeqGives Fence.wide 3 Tryz.prog 129 #[.pointer (some ⟨Bm, 0, none⟩)] encZ (fun ss => ss.Perm (intKeys D)) (Maps.size D) w :=
    AnyZI.keys_gives (ρ := Tryz.keysA_ren) { Tryz.keysA with } Fence.wide _ trivial rfl (by omega) Bm b n D _ (cell_lt0 hB) hB h1
  have cS := AnyZI.sorted_in Tryz.sortedA Fence.wide 6 trivial trivial trivial trivial rfl (by omega) (sorts_in _) (enters_of Tryz.func128 (by kernel_rfl) rfl) 129 #[.pointer (some ⟨Bm, 0, none⟩)] trivial (enters_of Tryz.func129 (by kernel_rfl) rfl) _ _ (by rw [h2]; unfold maxLen; omega) (by rw [h2]; omega) _ hseq
  refine ((callsIn_wide (n := 6)).1 cS).mono ?_
  rintro e w' ⟨v, ss, rfl, hS, hrow, _, hb⟩
  obtain ⟨hl, hs⟩ := h3 ss hS
  have hs' : (ss.mergeSort fun x y => decide (x ≤ y)) = idsL n := hs
  rw [hs', hl] at hrow
  have hO : ∃ A c, v = .slice A n c ∧ Own w' w.heap.size 3 1 A n c ((idsL n).map encZ) := by
    rcases hrow with ⟨r1, ⟨rfl, r2⟩ | ⟨g, cap, cur, rfl, r2, r3, r4, r5, r6, r7⟩⟩
    · subst r2
      exact ⟨none, 0, rfl, Own.nil _ _ _ _⟩
    · exact ⟨some ⟨g, 0, none⟩, cap, rfl, r1, .inr ⟨g, cur, (0, 0), rfl, r2, r3, .inr rfl, r4, r5, r6, r7⟩⟩
  obtain ⟨A, c, rfl, hO⟩ := hO
  exact ⟨A, c, rfl, hO.row, hO.blk, Only.of_below hb⟩
end Go.Proofs.YtpblgjadpfecgaaGreatDoor
