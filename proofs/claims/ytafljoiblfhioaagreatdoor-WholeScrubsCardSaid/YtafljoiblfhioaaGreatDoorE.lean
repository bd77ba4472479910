/-
  Rows that a call owns and appends to, their run-time mark behind their cells or none; rows that are read.
-/
import Derived.Test.YtafljoiblfhioaaGreatDoorD
import Derived.Maps.AppendAt
import Derived.Deep.Upon
import Derived.Lib.AppendStr
import Derived.Lib.FrozenHead
namespace Go.Proofs.YtafljoiblfhioaaGreatDoor
open Go.RowKit

def ab (A : Option Addr) (i : Nat) : Prop := ∃ b, A = some b ∧ b.block = i
/-- No cell below n is frozen. -/
def Clr (fz : Nat × Nat) (n : Nat) : Prop := n ≤ fz.1 ∨ fz.2 = 0

def Own (w : World) (base : Nat) (e : TypeId) (k : Nat) (A : Option Addr) (n c : Nat) (xs : List Value) : Prop :=
  xs.length = n * k ∧ ((A = none ∧ n = 0 ∧ c = 0) ∨ ∃ g cur fz, A = some ⟨g, 0, none⟩ ∧ base ≤ g ∧ w.heap[g]? = some (.cells cur e fz) ∧ Clr fz cur.size ∧ n ≤ c ∧ c ≤ maxLen ∧ cur.size = c * k ∧ cur.toList.take (n * k) = xs)

/-- What lies behind an address. -/
def Row (w : World) (A : Option Addr) (xs : List Value) : Prop :=
  xs ≠ [] → ∃ b off, A = some ⟨b, off, none⟩ ∧ b < w.heap.size ∧ ∀ j u, xs[j]? = some u → w.cell? ⟨b, off + j, none⟩ = some u

theorem Row.keep {S : Nat → Prop} {w w' : World} {A : Option Addr} {xs : List Value} (h : Row w A xs) (o : Only S w w') (hs : ∀ i, ab A i → ¬ S i) : Row w' A xs := by
  intro hn
  obtain ⟨b, off, rfl, hb, hc⟩ := h hn
  exact ⟨b, off, rfl, Nat.lt_of_lt_of_le hb o.size, fun j u hu => (o.cell (p := ⟨b, off + j, none⟩) hb (hs b ⟨_, rfl, rfl⟩)).trans (hc j u hu)⟩
theorem Row.same {w w' : World} {A : Option Addr} {xs : List Value} (h : Row w A xs) (o : Only (fun _ => False) w w') : Row w' A xs := h.keep o (fun _ _ h => h)
theorem Row.nil (w : World) (A : Option Addr) : Row w A [] := fun h => absurd rfl h
theorem Row.left {w : World} {A : Option Addr} {xs ys : List Value} (h : Row w A (xs ++ ys)) : Row w A xs := by
  intro hn
  obtain ⟨b, off, rfl, hb, hc⟩ := h (by simp [hn])
  exact ⟨b, off, rfl, hb, fun j u hu => hc j u (by rw [List.getElem?_append_left (List.getElem?_eq_some_iff.1 hu).1]; exact hu)⟩
theorem Row.take {w : World} {A : Option Addr} {xs : List Value} (h : Row w A xs) (k : Nat) : Row w A (xs.take k) :=
  Row.left (ys := xs.drop k) (by rw [List.take_append_drop]; exact h)
theorem Row.drop {w : World} {b off : Nat} {xs : List Value} (h : Row w (some ⟨b, off, none⟩) xs) (k : Nat) : Row w (some ⟨b, off + k, none⟩) (xs.drop k) := by
  intro hn
  obtain ⟨b', off', e, hb, hc⟩ := h (fun hx => hn (by rw [hx]; simp))
  cases e
  refine ⟨b, off + k, rfl, hb, fun j u hu => ?_⟩
  rw [List.getElem?_drop] at hu
  rw [Nat.add_assoc]
  exact hc _ _ hu
theorem Row.lt {w : World} {A : Option Addr} {xs : List Value} (h : Row w A xs) (hn : xs ≠ []) : ∀ i, ab A i → i < w.heap.size := by
  rintro i ⟨a, rfl, rfl⟩
  obtain ⟨b, off, e, hb, _⟩ := h hn
  cases e
  exact hb
theorem Row.at_ {w : World} {A : Option Addr} {xs : List Value} (h : Row w A xs) (j : Nat) (u : Value) (hu : xs[j]? = some u) : ∃ b off, A = some ⟨b, off, none⟩ ∧ b < w.heap.size ∧ w.cell? ⟨b, off + j, none⟩ = some u := by
  obtain ⟨b, off, e, hb, hc⟩ := h (by rintro rfl; cases hu)
  exact ⟨b, off, e, hb, hc j u hu⟩

section
variable {w w' : World} {base : Nat} {e : TypeId} {k : Nat} {A : Option Addr} {n c : Nat} {xs : List Value}
theorem Own.nil (w : World) (base : Nat) (e : TypeId) (k : Nat) : Own w base e k none 0 0 [] := ⟨by simp, .inl ⟨rfl, rfl, rfl⟩⟩
theorem Own.blk (h : Own w base e k A n c xs) : ∀ i, ab A i → base ≤ i ∧ i < w.heap.size := by
  rintro i ⟨a, rfl, rfl⟩
  rcases h.2 with ⟨hv, _⟩ | ⟨g, cur, fz, hv, hb, hg, _⟩
  · cases hv
  · cases hv
    exact ⟨hb, b_lt hg⟩
theorem Own.keep {S : Nat → Prop} (h : Own w base e k A n c xs) (o : Only S w w') (hs : ∀ i, ab A i → ¬ S i) : Own w' base e k A n c xs := by
  refine ⟨h.1, ?_⟩
  rcases h.2 with hv | ⟨g, cur, fz, rfl, hb, hg, r⟩
  · exact .inl hv
  · exact .inr ⟨g, cur, fz, rfl, hb, o.keep hg (hs _ ⟨_, rfl, rfl⟩), r⟩
theorem Own.same (h : Own w base e k A n c xs) (o : Only (fun _ => False) w w') : Own w' base e k A n c xs := h.keep o (fun _ _ h => h)
theorem Own.row (h : Own w base e k A n c xs) : Row w A xs := by
  intro hn
  rcases h.2 with ⟨rfl, rfl, rfl⟩ | ⟨g, cur, fz, rfl, hb, hg, _, hnc, hcm, hcs, hx⟩
  · exact absurd (List.eq_nil_of_length_eq_zero (by simpa using h.1)) hn
  · refine ⟨g, 0, rfl, b_lt hg, fun j u hu => ?_⟩
    rw [b_cell' hg, Nat.zero_add]
    rw [← hx, List.getElem?_take] at hu
    split at hu
    · simpa using hu
    · cases hu
theorem Own.cap (h : Own w base e k A n c xs) : n ≤ c ∧ c ≤ maxLen := by
  rcases h.2 with ⟨rfl, rfl, rfl⟩ | ⟨g, cur, fz, rfl, hb, hg, _, hnc, hcm, hcs, hx⟩
  · simp [maxLen]
  · exact ⟨hnc, hcm⟩
theorem Own.some_of (h : Own w base e k A n c xs) (hn : 0 < n) : ∃ g, A = some ⟨g, 0, none⟩ ∧ base ≤ g ∧ g < w.heap.size := by
  rcases h.2 with ⟨rfl, rfl, rfl⟩ | ⟨g, cur, fz, rfl, hb, hg, _, hnc, hcm, hcs, hx⟩
  · omega
  · exact ⟨g, rfl, hb, b_lt hg⟩
theorem Own.weak {base' : Nat} (h : Own w base e k A n c xs) (hb : base' ≤ base) : Own w base' e k A n c xs := by
  refine ⟨h.1, ?_⟩
  rcases h.2 with hv | ⟨g, cur, fz, rfl, hb', r⟩
  · exact .inl hv
  · exact .inr ⟨g, cur, fz, rfl, Nat.le_trans hb hb', r⟩
end

theorem run_storeX (P : Program) (g o : Nat) (t : TypeId) (fz : Nat × Nat) : ∀ (vs : List Value) (i : Nat) (cur : Array Value) (w : World), w.heap[g]? = some (.cells cur t fz) → Clr fz cur.size → o + i + vs.length ≤ cur.size → (∀ v ∈ vs, v.oneCell' = true) →
    (storeCells ⟨g, o, none⟩ vs i).run P w = .ok () (w.setRow g (cur.toList.take (o + i) ++ vs ++ cur.toList.drop (o + i + vs.length)).toArray)
  | [], i, cur, w, hg, _, _, _ => by
    simp only [storeCells, List.append_nil, List.length_nil, Nat.add_zero, List.take_append_drop, Array.toArray_toList]
    rw [setRow_self w g cur t fz hg]
    rfl
  | v :: rest, i, cur, w, hg, hfz, hl, h1 => by
    have hi : o + i < cur.size := by simp at hl; omega
    have hadd : (⟨g, o, none⟩ : Addr).add i = ⟨g, o + i, none⟩ := by unfold Addr.add; split <;> simp_all
    have hcell : w.cell? ⟨g, o + i, none⟩ = some cur[o + i] := by simp [World.cell?, hg, hi]
    have hfro : w.frozen? ⟨g, o + i, none⟩ = false := by
      obtain ⟨lo, hi'⟩ := fz
      simp only [World.frozen?, hg, Bool.and_eq_false_iff, decide_eq_false_iff_not]
      rcases hfz with hfz | hfz
      · left; simp only at hfz; omega
      · right; simp only at hfz; omega
    have hst : (store ((⟨g, o, none⟩ : Addr).add i) v).run P w = .ok () (w.setRow g (cur.setIfInBounds (o + i) v)) := by
      rw [hadd, run_store P w _ v _ (h1 v (by simp)), hcell]
      simp [hfro, setCell_eq_setRow w g (o + i) cur t fz v hg]
    have ih := run_storeX P g o t fz rest (i + 1) (cur.setIfInBounds (o + i) v) (w.setRow g (cur.setIfInBounds (o + i) v)) (setRow_heap w g cur _ t _ hg) (by simpa using hfz) (by simp at hl ⊢; omega) (fun x hx => h1 x (by simp [hx]))
    simp only [storeCells, Sem.run_bind, hst, Result.andThen_ok, ih, setRow_setRow]
    congr 3
    have e := list_seg_step cur.toList (o + i) v rest (by simp at hl ⊢; omega)
    simpa [Array.toList_setIfInBounds, Nat.add_assoc] using e

section
variable {P : Program} (w : World)

theorem only_setRow {S : Nat → Prop} (w : World) (g : Nat) (cs : Array Value) (hg : S g) : Only S w (w.setRow g cs) :=
  ⟨rfl, rfl, rfl, by simp, fun k _ hk => setRow_other w g k _ (fun e => hk (by rw [e]; exact hg))⟩

/-- append(b, s...), s a string. -/
theorem run_app_str (base : Nat) (t u ty e : TypeId) (i : TypeInfo) (ht : P.underlying t = some (.slice e)) (hu : P.underlying u = some .string) (hi : P.info? e = some i) (hz : i.zero = some (.int .u8 0))
    (hsize : i.size = 1) (hby : i.bytes = 1) (A : Option Addr) (n c : Nat) (xs : List Value) (hown : Own w base e 1 A n c xs) (s : ByteArray)
    (hbytes : n + s.size ≤ 140737488355328) (hbase : base ≤ w.heap.size) :
    ∃ A' c' w', (Builtin.append_ #[t, u] ty #[.slice A n c, .string s]).run P w = .ok (.slice A' (n + s.size) c') w' ∧ Own w' base e 1 A' (n + s.size) c' (xs ++ Lib.strCells s) ∧ Only (ab A) w w' ∧ (∀ i, ab A' i → ab A i ∨ w.heap.size ≤ i) := by
  have hxl : xs.length = n := by simpa using hown.1
  have h63 : n + s.size ≤ maxLen := by simp only [maxLen]; omega
  have hlen : (xs ++ Lib.strCells s).length = (n + s.size) * 1 := by rw [List.length_append, hxl, Lib.strCells_length, Nat.mul_one]
  have grown : ∀ (old : Nat), old < n + s.size →
      Own (w.drew.alloc (.cells (xs.toArray ++ (Lib.strCells s).toArray ++ Builtin.zeroCells (Value.int .u8 0).cells (grownCap w (n + s.size) old e - (n + s.size))) e)) base e 1
        (some ⟨w.heap.size, 0, none⟩) (n + s.size) (grownCap w (n + s.size) old e) (xs ++ Lib.strCells s) ∧
      Only (ab A) w (w.drew.alloc (.cells (xs.toArray ++ (Lib.strCells s).toArray ++ Builtin.zeroCells (Value.int .u8 0).cells (grownCap w (n + s.size) old e - (n + s.size))) e)) := by
    intro old ho
    have hge := grownCap_ge w (n + s.size) old e
    have hcm : grownCap w (n + s.size) old e ≤ maxLen := grownCap_le_maxLen w (n + s.size) old e h63
    refine ⟨⟨hlen, .inr ⟨w.heap.size, _, (0, 0), rfl, hbase, heap_alloc_new w.drew _, .inr rfl, hge, hcm, ?_, ?_⟩⟩, (Only.refl _ w).drew.alloc _⟩
    · have hz1 : (Value.int IntKind.u8 0).cells.size = 1 := rfl
      simp only [Array.size_append, List.size_toArray, size_zeroCells, hz1, hxl, Lib.strCells_length]
      omega
    · simp only [Array.toList_append, List.append_assoc]
      rw [← List.append_assoc, ← hlen]
      exact List.take_left
  rcases hown.2 with ⟨rfl, rfl, rfl⟩ | ⟨g, cur, fz, rfl, hbg, hg, hfz, hnc, hcm, hcs, htake⟩
  · have hx : xs = [] := List.eq_nil_of_length_eq_zero hxl
    subst hx
    by_cases hm : s.size = 0
    · have hn : Lib.strCells s = [] := List.eq_nil_of_length_eq_zero (by rw [Lib.strCells_length]; exact hm)
      refine ⟨none, 0, w, ?_, by rw [hm, hn]; exact Own.nil w base e 1, Only.refl _ _, fun i hi => .inl hi⟩
      have hf := Lib.run_firstCells_string (P := P) w 1 s
      rw [hm] at hf
      simp [Builtin.append_, run_underlying ht, run_underlying hu, sizeOf, typeInfo, hi, hsize, Builtin.lenOf, hm, hf]
    · have hr := run_append_nil_string (P := P) w t u ty e i (.int .u8 0) ht hu hi hz s (by omega) (by omega) (by rw [hby]; omega)
      have hgr := grown 0 (by omega)
      simp only [Nat.zero_add, List.nil_append, Array.empty_append] at hgr ⊢
      have e1 : (s.data.map fun b => Value.int .u8 b.toNat) = (Lib.strCells s).toArray := by
        apply Array.ext'
        simp [Lib.strCells]
      rw [e1] at hr
      exact ⟨_, _, _, hr, hgr.1, hgr.2, by rintro i ⟨b, hb, rfl⟩; cases hb; exact .inr (Nat.le_refl _)⟩
  · by_cases hroom : n + s.size ≤ c
    · have hcs' : cur.size = c := by simpa using hcs
      have hf := Lib.run_firstCells_string (P := P) w 1 s
      have hst := run_storeX P g n e fz (Lib.strCells s) 0 cur w hg hfz (by simp only [Lib.strCells_length]; omega) (Lib.strCells_oneCell s)
      simp only [Nat.add_zero, Lib.strCells_length] at hst
      have hr : (Builtin.append_ #[t, u] ty #[.slice (some ⟨g, 0, none⟩) n c, .string s]).run P w =
          .ok (.slice (some ⟨g, 0, none⟩) (n + s.size) c) (w.setRow g (cur.toList.take n ++ Lib.strCells s ++ cur.toList.drop (n + s.size)).toArray) := by
        simp [Builtin.append_, run_underlying ht, run_underlying hu, sizeOf, typeInfo, hi, hsize, Builtin.lenOf, hroom, hf, Addr.add_lit, hst]
      refine ⟨_, _, _, hr, ⟨hlen, .inr ⟨g, _, fz, rfl, hbg, setRow_heap w g cur _ e _ hg, ?_, hroom, hcm, ?_, ?_⟩⟩, only_setRow w g _ ⟨_, rfl, rfl⟩, fun i hi => .inl hi⟩
      · have : (cur.toList.take n ++ Lib.strCells s ++ cur.toList.drop (n + s.size)).toArray.size = cur.size := by
          simp only [List.size_toArray, List.length_append, List.length_take, List.length_drop, Array.length_toList, Lib.strCells_length]
          omega
        rw [this]
        exact hfz
      · simp only [List.size_toArray, List.length_append, List.length_take, List.length_drop, Array.length_toList, Lib.strCells_length]
        omega
      · have ht' : cur.toList.take n = xs := by simpa using htake
        rw [ht', ← hlen]
        exact List.take_left
    · have holds : ∀ j u, xs[j]? = some u → w.cell? ((⟨g, 0, none⟩ : Addr).add j) = some u := fun j u hu => by
        obtain ⟨b, off, e1, _, h1⟩ := hown.row.at_ j u hu
        cases e1
        rw [Go.WideShapes.add_plain]
        exact h1
      have hr := Lib.run_append_grow_string (P := P) w t u ty e i (.int .u8 0) ht hu hi hz ⟨g, 0, none⟩ n c xs (by rw [hsize]; simpa using hxl) holds s (by omega) (by omega) (by rw [hby]; exact growslice_fits (by omega) (by omega))
      have hgr := grown c (by omega)
      exact ⟨_, _, _, hr, hgr.1, hgr.2, by rintro i ⟨b, hb, rfl⟩; cases hb; exact .inr (Nat.le_refl _)⟩

/-- append(s, xs...), xs cells that lie somewhere. -/
theorem run_app_row (base : Nat) (t ty e : TypeId) (i : TypeInfo) (z : Value) (size bytes : Nat) (ht : P.underlying t = some (.slice e)) (hi : P.info? e = some i) (hz : i.zero = some z)
    (hsize : i.size = size) (hby : i.bytes = bytes) (hzs : z.cells.size = size) (hsz : 0 < size)
    (A : Option Addr) (n c : Nat) (xs : List Value) (hown : Own w base e size A n c xs)
    (S : Option Addr) (m cc : Nat) (news : List Value) (hl : news.length = m * size) (hnews : Row w S news) (hnil : S = none → m = 0 ∧ cc = 0) (h1 : ∀ u ∈ news, u.oneCell' = true)
    (h63 : n + m ≤ maxLen) (hbytes : (n + m) * bytes ≤ 140737488355328) (hbase : base ≤ w.heap.size) :
    ∃ A' c' w', (Builtin.append_ #[t, t] ty #[.slice A n c, .slice S m cc]).run P w = .ok (.slice A' (n + m) c') w' ∧ Own w' base e size A' (n + m) c' (xs ++ news) ∧ Only (ab A) w w' ∧ (∀ i, ab A' i → ab A i ∨ w.heap.size ≤ i) := by
  subst hsize
  subst hby
  have hsmall : n + m ≤ 9223372036854775807 := by simp only [maxLen] at h63; omega
  have hlen : (xs ++ news).length = (n + m) * i.size := by rw [List.length_append, hown.1, hl, Nat.add_mul]
  have grown : ∀ (old : Nat), old < n + m →
      Own (w.drew.alloc (.cells (xs.toArray ++ news.toArray ++ Builtin.zeroCells z.cells (grownCap w (n + m) old e - (n + m))) e)) base e i.size
        (some ⟨w.heap.size, 0, none⟩) (n + m) (grownCap w (n + m) old e) (xs ++ news) ∧
      Only (ab A) w (w.drew.alloc (.cells (xs.toArray ++ news.toArray ++ Builtin.zeroCells z.cells (grownCap w (n + m) old e - (n + m))) e)) := by
    intro old ho
    have hge := grownCap_ge w (n + m) old e
    have hcm : grownCap w (n + m) old e ≤ maxLen := grownCap_le_maxLen w (n + m) old e h63
    refine ⟨⟨hlen, .inr ⟨w.heap.size, _, (0, 0), rfl, hbase, heap_alloc_new w.drew _, .inr rfl, hge, hcm, ?_, ?_⟩⟩, (Only.refl _ w).drew.alloc _⟩
    · simp only [Array.size_append, List.size_toArray, size_zeroCells, hzs, hown.1, hl]
      rw [← Nat.add_mul, ← Nat.add_mul]
      congr 1
      omega
    · simp only [Array.toList_append, List.append_assoc]
      rw [← List.append_assoc, ← hlen]
      exact List.take_left
  by_cases hS : S = none
  · obtain ⟨rfl, rfl⟩ := hnil hS
    subst hS
    have hn0 : news = [] := List.eq_nil_of_length_eq_zero (by simpa using hl)
    subst hn0
    have hr := run_append_nothing (P := P) w t t ty e i ht hi A n c hown.cap.1 (.slice none 0 0) (Src.ofNil w ht 0) 
    exact ⟨A, c, w, hr, by simpa using hown, Only.refl _ _, fun _ h => .inl h⟩
  obtain ⟨a, ha⟩ : ∃ a, S = some a := by
    cases S with
    | none => exact absurd rfl hS
    | some a => exact ⟨a, rfl⟩
  subst ha
  have hnews' : ∀ j u, news[j]? = some u → w.cell? (a.add j) = some u := fun j u hu => by
    obtain ⟨b, off, e1, _, h1⟩ := hnews.at_ j u hu
    cases e1
    rw [Go.WideShapes.add_plain]
    exact h1
  rcases hown.2 with ⟨rfl, rfl, rfl⟩ | ⟨g, cur, fz, rfl, hbg, hg, hfz, hnc, hcm, hcs, htake⟩
  · have hx : xs = [] := List.eq_nil_of_length_eq_zero (by simpa using hown.1)
    subst hx
    by_cases hm : m = 0
    · subst hm
      have hn : news = [] := List.eq_nil_of_length_eq_zero (by simpa using hl)
      subst hn
      refine ⟨none, 0, w, ?_, Own.nil w base e i.size, Only.refl _ _, fun i hi => .inl hi⟩
      simp [Builtin.append_, run_underlying ht, sizeOf, typeInfo, hi, Builtin.lenOf, Builtin.firstCells, loadCells, loadCellsFrom]
    · have hr := run_append_nil (P := P) w t ty e i z ht hi hz a m cc news hl hnews' (by omega) (by omega) (by have hb := hbytes; simp only [Nat.zero_add] at hb; omega)
      have hgr := grown 0 (by omega)
      simp only [Nat.zero_add, List.nil_append, Array.empty_append] at hgr ⊢
      exact ⟨_, _, _, hr, hgr.1, hgr.2, by rintro i ⟨b, hb, rfl⟩; cases hb; exact .inr (Nat.le_refl _)⟩
  · by_cases hroom : n + m ≤ c
    · have hfit : n * i.size + news.length ≤ cur.size := by rw [hl, hcs, ← Nat.add_mul]; exact Nat.mul_le_mul_right _ hroom
      have hf := run_firstCells_some (P := P) w i.size m a m cc news hl hnews'
      have hst := run_storeX P g (n * i.size) e fz news 0 cur w hg hfz (by simpa using hfit) h1
      simp only [Nat.add_zero] at hst
      have hr : (Builtin.append_ #[t, t] ty #[.slice (some ⟨g, 0, none⟩) n c, .slice (some a) m cc]).run P w =
          .ok (.slice (some ⟨g, 0, none⟩) (n + m) c) (w.setRow g (cur.toList.take (n * i.size) ++ news ++ cur.toList.drop (n * i.size + news.length)).toArray) := by
        simp [Builtin.append_, run_underlying ht, sizeOf, typeInfo, hi, Builtin.lenOf, hroom, hf, Addr.add_lit, hst]
      have hsz2 : (cur.toList.take (n * i.size) ++ news ++ cur.toList.drop (n * i.size + news.length)).toArray.size = cur.size := by
        simp only [List.size_toArray, List.length_append, List.length_take, List.length_drop, Array.length_toList]
        omega
      refine ⟨_, _, _, hr, ⟨hlen, .inr ⟨g, _, fz, rfl, hbg, setRow_heap w g cur _ e _ hg, by rw [hsz2]; exact hfz, hroom, hcm, by rw [hsz2]; exact hcs, ?_⟩⟩, only_setRow w g _ ⟨_, rfl, rfl⟩, fun i hi => .inl hi⟩
      rw [htake, ← hlen]
      exact List.take_left
    · have holds : ∀ j u, xs[j]? = some u → w.cell? ((⟨g, 0, none⟩ : Addr).add j) = some u := fun j u hu => by
        obtain ⟨b, off, e1, _, h1⟩ := hown.row.at_ j u hu
        cases e1
        rw [Go.WideShapes.add_plain]
        exact h1
      have hr := run_append_grow (P := P) w t ty e i z ht hi hz ⟨g, 0, none⟩ n c xs hown.1 holds a m cc news hl hnews' (by omega) (by omega) (growslice_fits (by omega) hbytes)
      have hgr := grown c (by omega)
      exact ⟨_, _, _, hr, hgr.1, hgr.2, by rintro i ⟨b, hb, rfl⟩; cases hb; exact .inr (Nat.le_refl _)⟩
end
end Go.Proofs.YtafljoiblfhioaaGreatDoor
