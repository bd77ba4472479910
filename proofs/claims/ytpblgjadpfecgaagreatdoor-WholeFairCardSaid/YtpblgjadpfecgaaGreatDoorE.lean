/-
  Rows that a call owns and appends to, their run-time mark behind their cells or none; rows that are read.
-/
import Derived.Test.YtpblgjadpfecgaaGreatDoorA
import Derived.Maps.AppendAt
import Derived.Deep.Upon
import Derived.Lib.AppendStr
import Derived.Lib.FrozenHead
set_option linter.unusedSimpArgs false
set_option linter.unusedVariables false
namespace Go.Proofs.YtpblgjadpfecgaaGreatDoor
open Go.RowKit

def ab (A : Option Addr) (i : Nat) : Prop := ∃ b, A = some b ∧ b.block = i
/-- No cell below n is frozen. -/
def Clr (fz : Nat × Nat) (n : Nat) : Prop := n ≤ fz.1 ∨ fz.2 = 0

def Own (w : World) (base : Nat) (e : TypeId) (k : Nat) (A : Option Addr) (n c : Nat) (xs : List Value) : Prop :=
  xs.length = n * k ∧ ((A = none ∧ n = 0 ∧ c = 0) ∨ ∃ g cur fz, A = some ⟨g, 0, none⟩ ∧ base ≤ g ∧ w.heap[g]? = some (.cells cur e fz) ∧ Clr fz cur.size ∧ n ≤ c ∧ c ≤ maxLen ∧ cur.size = c * k ∧ cur.toList.take (n * k) = xs)

/-- What lies behind an address. -/
def Row (w : World) (A : Option Addr) (xs : List Value) : Prop :=
  xs ≠ [] → ∃ b off, A = some ⟨b, off, none⟩ ∧ b < w.heap.size ∧ ∀ j u, xs[j]? = some u → w.cell? ⟨b, off + j, none⟩ = some u

theorem Row.keep {S : Nat → Prop} {w w' : World} {A : Option Addr} {xs : List Value} (h : Row w A xs) (o : Only S w w') (hs : ∀ i, ab A i → ¬ S i) : Row w' A xs := by
  intro hn
  obtain ⟨b, off, rfl, hb, hc⟩ := h hn
  exact ⟨b, off, rfl, Nat.lt_of_lt_of_le hb o.size, fun j u hu => (o.cell (p := ⟨b, off + j, none⟩) hb (hs b ⟨_, rfl, rfl⟩)).trans (hc j u hu)⟩
theorem Row.same {w w' : World} {A : Option Addr} {xs : List Value} (h : Row w A xs) (o : Only (fun _ => False) w w') : Row w' A xs := h.keep o (fun _ _ h => h)
theorem Row.nil (w : World) (A : Option Addr) : Row w A [] := fun h => absurd rfl h
theorem Row.left {w : World} {A : Option Addr} {xs ys : List Value} (h : Row w A (xs ++ ys)) : Row w A xs := by
  intro hn
  obtain ⟨b, off, rfl, hb, hc⟩ := h (by simp [hn])
  exact ⟨b, off, rfl, hb, fun j u hu => hc j u (by rw [List.getElem?_append_left (List.getElem?_eq_some_iff.1 hu).1]; exact hu)⟩
theorem Row.take {w : World} {A : Option Addr} {xs : List Value} (h : Row w A xs) (k : Nat) : Row w A (xs.take k) :=
  Row.left (ys := xs.drop k) (by rw [List.take_append_drop]; exact h)
theorem Row.drop {w : World} {b off : Nat} {xs : List Value} (h : Row w (some ⟨b, off, none⟩) xs) (k : Nat) : Row w (some ⟨b, off + k, none⟩) (xs.drop k) := by
  intro hn
  obtain ⟨b', off', e, hb, hc⟩ := h (fun hx => hn (by rw [hx]; simp))
  cases e
  refine ⟨b, off + k, rfl, hb, fun j u hu => ?_⟩
  rw [List.getElem?_drop] at hu
  rw [Nat.add_assoc]
  exact hc _ _ hu
theorem Row.lt {w : World} {A : Option Addr} {xs : List Value} (h : Row w A xs) (hn : xs ≠ []) : ∀ i, ab A i → i < w.heap.size := by
  rintro i ⟨a, rfl, rfl⟩
  obtain ⟨b, off, e, hb, _⟩ := h hn
  cases e
  exact hb
theorem Row.at_ {w : World} {A : Option Addr} {xs : List Value} (h : Row w A xs) (j : Nat) (u : Value) (hu : xs[j]? = some u) : ∃ b off, A = some ⟨b, off, none⟩ ∧ b < w.heap.size ∧ w.cell? ⟨b, off + j, none⟩ = some u := by
  obtain ⟨b, off, e, hb, hc⟩ := h (by rintro rfl; cases hu)
  exact ⟨b, off, e, hb, hc j u hu⟩

section
variable {w w' : World} {base : Nat} {e : TypeId} {k : Nat} {A : Option Addr} {n c : Nat} {xs : List Value}
theorem Own.nil (w : World) (base : Nat) (e : TypeId) (k : Nat) : Own w base e k none 0 0 [] := ⟨by simp, .inl ⟨rfl, rfl, rfl⟩⟩
theorem Own.blk (h : Own w base e k A n c xs) : ∀ i, ab A i → base ≤ i ∧ i < w.heap.size := by
  rintro i ⟨a, rfl, rfl⟩
  rcases h.2 with ⟨hv, _⟩ | ⟨g, cur, fz, hv, hb, hg, _⟩
  · cases hv
  · cases hv
    exact ⟨hb, b_lt hg⟩
theorem Own.keep {S : Nat → Prop} (h : Own w base e k A n c xs) (o : Only S w w') (hs : ∀ i, ab A i → ¬ S i) : Own w' base e k A n c xs := by
  refine ⟨h.1, ?_⟩
  rcases h.2 with hv | ⟨g, cur, fz, rfl, hb, hg, r⟩
  · exact .inl hv
  · exact .inr ⟨g, cur, fz, rfl, hb, o.keep hg (hs _ ⟨_, rfl, rfl⟩), r⟩
theorem Own.same (h : Own w base e k A n c xs) (o : Only (fun _ => False) w w') : Own w' base e k A n c xs := h.keep o (fun _ _ h => h)
theorem Own.row (h : Own w base e k A n c xs) : Row w A xs := by
  intro hn
  rcases h.2 with ⟨rfl, rfl, rfl⟩ | ⟨g, cur, fz, rfl, hb, hg, _, hnc, hcm, hcs, hx⟩
  · exact absurd (List.eq_nil_of_length_eq_zero (by simpa using h.1)) hn
  · refine ⟨g, 0, rfl, b_lt hg, fun j u hu => ?_⟩
    rw [b_cell' hg, Nat.zero_add]
    rw [← hx, List.getElem?_take] at hu
    split at hu
    · simpa using hu
    · cases hu
theorem Own.cap (h : Own w base e k A n c xs) : n ≤ c ∧ c ≤ maxLen := by
  rcases h.2 with ⟨rfl, rfl, rfl⟩ | ⟨g, cur, fz, rfl, hb, hg, _, hnc, hcm, hcs, hx⟩
  · simp [maxLen]
  · exact ⟨hnc, hcm⟩
theorem Own.some_of (h : Own w base e k A n c xs) (hn : 0 < n) : ∃ g, A = some ⟨g, 0, none⟩ ∧ base ≤ g ∧ g < w.heap.size := by
  rcases h.2 with ⟨rfl, rfl, rfl⟩ | ⟨g, cur, fz, rfl, hb, hg, _, hnc, hcm, hcs, hx⟩
  · omega
  · exact ⟨g, rfl, hb, b_lt hg⟩
theorem Own.weak {base' : Nat} (h : Own w base e k A n c xs) (hb : base' ≤ base) : Own w base' e k A n c xs := by
  refine ⟨h.1, ?_⟩
  rcases h.2 with hv | ⟨g, cur, fz, rfl, hb', r⟩
  · exact .inl hv
  · exact .inr ⟨g, cur, fz, rfl, Nat.le_trans hb hb', r⟩
end

theorem run_storeX (P : Program) (g o : Nat) (t : TypeId) (fz : Nat × Nat) : ∀ (vs : List Value) (i : Nat) (cur : Array Value) (w : World), w.heap[g]? = some (.cells cur t fz) → Clr fz cur.size → o + i + vs.length ≤ cur.size → (∀ v ∈ vs, v.oneCell' = true) →
    (storeCells ⟨g, o, none⟩ vs i).run P w = .ok () (w.setRow g (cur.toList.take (o + i) ++ vs ++ cur.toList.drop (o + i + vs.length)).toArray)
  | [], i, cur, w, hg, _, _, _ => by
    simp only [storeCells, List.append_nil, List.length_nil, Nat.add_zero, List.take_append_drop, Array.toArray_toList]
    rw [setRow_self w g cur t fz hg]
    rfl
  | v :: rest, i, cur, w, hg, hfz, hl, h1 => by
    have hi : o + i < cur.size := by simp at hl; omega
    have hadd : (⟨g, o, none⟩ : Addr).add i = ⟨g, o + i, none⟩ := by unfold Addr.add; split <;> simp_all
    have hcell : w.cell? ⟨g, o + i, none⟩ = some cur[o + i] := by simp [World.cell?, hg, hi]
    have hfro : w.frozen? ⟨g, o + i, none⟩ = false := by
      obtain ⟨lo, hi'⟩ := fz
      simp only [World.frozen?, hg, Bool.and_eq_false_iff, decide_eq_false_iff_not]
      rcases hfz with hfz | hfz
      · left; simp only at hfz; omega
      · right; simp only at hfz; omega
    have hst : (store ((⟨g, o, none⟩ : Addr).add i) v).run P w = .ok () (w.setRow g (cur.setIfInBounds (o + i) v)) := by
      rw [hadd, run_store P w _ v _ (h1 v (by simp)), hcell]
      simp [hfro, setCell_eq_setRow w g (o + i) cur t fz v hg]
    have ih := run_storeX P g o t fz rest (i + 1) (cur.setIfInBounds (o + i) v) (w.setRow g (cur.setIfInBounds (o + i) v)) (setRow_heap w g cur _ t _ hg) (by simpa using hfz) (by simp at hl ⊢; omega) (fun x hx => h1 x (by simp [hx]))
    simp only [storeCells, Sem.run_bind, hst, Result.andThen_ok, ih, setRow_setRow]
    congr 3
    have e := list_seg_step cur.toList (o + i) v rest (by simp at hl ⊢; omega)
    simpa [Array.toList_setIfInBounds, Nat.add_assoc] using e

section
variable {P : Program} (w : World)

theorem only_setRow {S : Nat → Prop} (w : World) (g : Nat) (cs : Array Value) (hg : S g) : Only S w (w.setRow g cs) :=
  ⟨rfl, rfl, rfl, by simp, fun k _ hk => setRow_other w g k _ (fun e => hk (by rw [e]; exact hg))⟩

/-- append(b, s...), s a string. -/
theorem run_app_str (base : Nat) (t u ty e : TypeId) (i : TypeInfo) (ht : P.underlying t = some (.slice e)) (hu : P.underlying u = some .string) (hi : P.info? e = some i) (hz : i.zero = some (.int .u8 0))
    (hsize : i.size = 1) (hby : i.bytes = 1) (A : Option Addr) (n c : Nat) (xs : List Value) (hown : Own w base e 1 A n c xs) (s : ByteArray)
    (hbytes : n + s.size ≤ 140737488355328) (hbase : base ≤ w.heap.size) :
    ∃ A' c' w', (Builtin.append_ #[t, u] ty #[.slice A n c, .string s]).run P w = .ok (.slice A' (n + s.size) c') w' ∧ Own w' base e 1 A' (n + s.size) c' (xs ++ Lib.strCells s) ∧ Only (ab A) w w' ∧ (∀ i, ab A' i → ab A i ∨ w.heap.size ≤ i) := by
  have hxl : xs.length = n := by simpa using hown.1
  have h63 : n + s.size ≤ maxLen := by simp only [maxLen]; omega
  have hlen : (xs ++ Lib.strCells s).length = (n + s.size) * 1 := by rw [List.length_append, hxl, Lib.strCells_length, Nat.mul_one]
  have grown : ∀ (old : Nat), old < n + s.size →
      Own (w.drew.alloc (.cells (xs.toArray ++ (Lib.strCells s).toArray ++ Builtin.zeroCells (Value.int .u8 0).cells (grownCap w (n + s.size) old e - (n + s.size))) e)) base e 1
        (some ⟨w.heap.size, 0, none⟩) (n + s.size) (grownCap w (n + s.size) old e) (xs ++ Lib.strCells s) ∧
      Only (ab A) w (w.drew.alloc (.cells (xs.toArray ++ (Lib.strCells s).toArray ++ Builtin.zeroCells (Value.int .u8 0).cells (grownCap w (n + s.size) old e - (n + s.size))) e)) := by
    intro old ho
    have hge := grownCap_ge w (n + s.size) old e
    have hcm : grownCap w (n + s.size) old e ≤ maxLen := grownCap_le_maxLen w (n + s.size) old e h63
    refine ⟨⟨hlen, .inr ⟨w.heap.size, _, (0, 0), rfl, hbase, heap_alloc_new w.drew _, .inr rfl, hge, hcm, ?_, ?_⟩⟩, (Only.refl _ w).drew.alloc _⟩
    · have hz1 : (Value.int IntKind.u8 0).cells.size = 1 := rfl
      simp only [Array.size_append, List.size_toArray, size_zeroCells, hz1, hxl, Lib.strCells_length]
      omega
    · simp only [Array.toList_append, List.append_assoc]
      rw [← List.append_assoc, ← hlen]
      exact List.take_left
  rcases hown.2 with ⟨rfl, rfl, rfl⟩ | ⟨g, cur, fz, rfl, hbg, hg, hfz, hnc, hcm, hcs, htake⟩
  · have hx : xs = [] := List.eq_nil_of_length_eq_zero hxl
    subst hx
    by_cases hm : s.size = 0
    · have hn : Lib.strCells s = [] := List.eq_nil_of_length_eq_zero (by rw [Lib.strCells_length]; exact hm)
      refine ⟨none, 0, w, ?_, by rw [hm, hn]; exact Own.nil w base e 1, Only.refl _ _, fun i hi => .inl hi⟩
      have hf := Lib.run_firstCells_string (P := P) w 1 s
      rw [hm] at hf
      simp [Builtin.append_, run_underlying ht, run_underlying hu, sizeOf, typeInfo, hi, hsize, Builtin.lenOf, hm, hf]
    · have hr := run_append_nil_string (P := P) w t u ty e i (.int .u8 0) ht hu hi hz s (by omega) (by omega) (by rw [hby]; omega)
      have hgr := grown 0 (by omega)
      simp only [Nat.zero_add, List.nil_append, Array.empty_append] at hgr ⊢
      have e1 : (s.data.map fun b => Value.int .u8 b.toNat) = (Lib.strCells s).toArray := by
        apply Array.ext'
        simp [Lib.strCells]
      rw [e1] at hr
      exact ⟨_, _, _, hr, hgr.1, hgr.2, by rintro i ⟨b, hb, rfl⟩; cases hb; exact .inr (Nat.le_refl _)⟩
  · by_cases hroom : n + s.size ≤ c
    · have hcs' : cur.size = c := by simpa using hcs
      have hf := Lib.run_firstCells_string (P := P) w 1 s
      have hst := run_storeX P g n e fz (Lib.strCells s) 0 cur w hg hfz (by simp only [Lib.strCells_length]; omega) (Lib.strCells_oneCell s)
      simp only [Nat.add_zero, Lib.strCells_length] at hst
      have hr : (Builtin.append_ #[t, u] ty #[.slice (some ⟨g, 0, none⟩) n c, .string s]).run P w =
          .ok (.slice (some ⟨g, 0, none⟩) (n + s.size) c) (w.setRow g (cur.toList.take n ++ Lib.strCells s ++ cur.toList.drop (n + s.size)).toArray) := by
        simp [Builtin.append_, run_underlying ht, run_underlying hu, sizeOf, typeInfo, hi, hsize, Builtin.lenOf, hroom, hf, Addr.add_lit, hst]
      refine ⟨_, _, _, hr, ⟨hlen, .inr ⟨g, _, fz, rfl, hbg, setRow_heap w g cur _ e _ hg, ?_, hroom, hcm, ?_, ?_⟩⟩, only_setRow w g _ ⟨_, rfl, rfl⟩, fun i hi => .inl hi⟩
      · have : (cur.toList.take n ++ Lib.strCells s ++ cur.toList.drop (n + s.size)).toArray.size = cur.size := by
          simp only [List.size_toArray, List.length_append, List.length_take, List.length_drop, Array.length_toList, Lib.strCells_length]
          omega
        rw [this]
        exact hfz
      · simp only [List.size_toArray, List.length_append, List.length_take, List.length_drop, Array.length_toList, Lib.strCells_length]
        omega
      · have ht' : cur.toList.take n = xs := by simpa using htake
        rw [ht', ← hlen]
        exact List.take_left
    · have holds : ∀ j u, xs[j]? = some u → w.cell? ((⟨g, 0, none⟩ : Addr).add j) = some u := fun j u hu => by
        obtain ⟨b, off, e1, _, h1⟩ := hown.row.at_ j u hu
        cases e1
        rw [Go.WideShapes.add_plain]
        exact h1
      have hr := Lib.run_append_grow_string (P := P) w t u ty e i (.int .u8 0) ht hu hi hz ⟨g, 0, none⟩ n c xs (by rw [hsize]; simpa using hxl) holds s (by omega) (by omega) (by rw [hby]; exact growslice_fits (by omega) (by omega))
      have hgr := grown c (by omega)
      exact ⟨_, _, _, hr, hgr.1, hgr.2, by rintro i ⟨b, hb, rfl⟩; cases hb; exact .inr (Nat.le_refl _)⟩

/-- append(s, xs...), xs cells that lie somewhere. -/
theorem run_app_row (base : Nat) (t ty e : TypeId) (i : TypeInfo) (z : Value) (size bytes : Nat) (ht : P.underlying t = some (.slice e)) (hi : P.info? e = some i) (hz : i.zero = some z)
    (hsize : i.size = size) (hby : i.bytes = bytes) (hzs : z.cells.size = size) (hsz : 0 < size)
    (A : Option Addr) (n c : Nat) (xs : List Value) (hown : Own w base e size A n c xs)
    (S : Option Addr) (m cc : Nat) (news : List Value) (hl : news.length = m * size) (hnews : Row w S news) (hnil : S = none → m = 0 ∧ cc = 0) (h1 : ∀ u ∈ news, u.oneCell' = true)
    (h63 : n + m ≤ maxLen) (hbytes : (n + m) * bytes ≤ 140737488355328) (hbase : base ≤ w.heap.size) :
    ∃ A' c' w', (Builtin.append_ #[t, t] ty #[.slice A n c, .slice S m cc]).run P w = .ok (.slice A' (n + m) c') w' ∧ Own w' base e size A' (n + m) c' (xs ++ news) ∧ Only (ab A) w w' ∧ (∀ i, ab A' i → ab A i ∨ w.heap.size ≤ i) := by
  subst hsize
  subst hby
  have hsmall : n + m ≤ 9223372036854775807 := by simp only [maxLen] at h63; omega
  have hlen : (xs ++ news).length = (n + m) * i.size := by rw [List.length_append, hown.1, hl, Nat.add_mul]
  have grown : ∀ (old : Nat), old < n + m →
      Own (w.drew.alloc (.cells (xs.toArray ++ news.toArray ++ Builtin.zeroCells z.cells (grownCap w (n + m) old e - (n + m))) e)) base e i.size
        (some ⟨w.heap.size, 0, none⟩) (n + m) (grownCap w (n + m) old e) (xs ++ news) ∧
      Only (ab A) w (w.drew.alloc (.cells (xs.toArray ++ news.toArray ++ Builtin.zeroCells z.cells (grownCap w (n + m) old e - (n + m))) e)) := by
    intro old ho
    have hge := grownCap_ge w (n + m) old e
    have hcm : grownCap w (n + m) old e ≤ maxLen := grownCap_le_maxLen w (n + m) old e h63
    refine ⟨⟨hlen, .inr ⟨w.heap.size, _, (0, 0), rfl, hbase, heap_alloc_new w.drew _, .inr rfl, hge, hcm, ?_, ?_⟩⟩, (Only.refl _ w).drew.alloc _⟩
    · simp only [Array.size_append, List.size_toArray, size_zeroCells, hzs, hown.1, hl]
      rw [← Nat.add_mul, ← Nat.add_mul]
      congr 1
      omega
    · simp only [Array.toList_append, List.append_assoc]
      rw [← List.append_assoc, ← hlen]
      exact List.take_left
  by_cases hS : S = none
  · obtain ⟨rfl, rfl⟩ := hnil hS
    subst hS
    have hn0 : news = [] := List.eq_nil_of_length_eq_zero (by simpa using hl)
    subst hn0
    have hr := run_append_nothing (P := P) w t t ty e i ht hi A n c hown.cap.1 (.slice none 0 0) (Src.ofNil w ht 0) 
    exact ⟨A, c, w, hr, by simpa using hown, Only.refl _ _, fun _ h => .inl h⟩
  obtain ⟨a, ha⟩ : ∃ a, S = some a := by
    cases S with
    | none => exact absurd rfl hS
    | some a => exact ⟨a, rfl⟩
  subst ha
  have hnews' : ∀ j u, news[j]? = some u → w.cell? (a.add j) = some u := fun j u hu => by
    obtain ⟨b, off, e1, _, h1⟩ := hnews.at_ j u hu
    cases e1
    rw [Go.WideShapes.add_plain]
    exact h1
  rcases hown.2 with ⟨rfl, rfl, rfl⟩ | ⟨g, cur, fz, rfl, hbg, hg, hfz, hnc, hcm, hcs, htake⟩
  · have hx : xs = [] := List.eq_nil_of_length_eq_zero (by simpa using hown.1)
    subst hx
    by_cases hm : m = 0
    · subst hm
      have hn : news = [] := List.eq_nil_of_length_eq_zero (by simpa using hl)
      subst hn
      refine ⟨none, 0, w, ?_, Own.nil w base e i.size, Only.refl _ _, fun i hi => .inl hi⟩
      simp [Builtin.append_, run_underlying ht, sizeOf, typeInfo, hi, Builtin.lenOf, Builtin.firstCells, loadCells, loadCellsFrom]
    · have hr := run_append_nil (P := P) w t ty e i z ht hi hz a m cc news hl hnews' (by omega) (by omega) (by have hb := hbytes; simp only [Nat.zero_add] at hb; omega)
      have hgr := grown 0 (by omega)
      simp only [Nat.zero_add, List.nil_append, Array.empty_append] at hgr ⊢
      exact ⟨_, _, _, hr, hgr.1, hgr.2, by rintro i ⟨b, hb, rfl⟩; cases hb; exact .inr (Nat.le_refl _)⟩
  · by_cases hroom : n + m ≤ c
    · have hfit : n * i.size + news.length ≤ cur.size := by rw [hl, hcs, ← Nat.add_mul]; exact Nat.mul_le_mul_right _ hroom
      have hf := run_firstCells_some (P := P) w i.size m a m cc news hl hnews'
      have hst := run_storeX P g (n * i.size) e fz news 0 cur w hg hfz (by simpa using hfit) h1
      simp only [Nat.add_zero] at hst
      have hr : (Builtin.append_ #[t, t] ty #[.slice (some ⟨g, 0, none⟩) n c, .slice (some a) m cc]).run P w =
          .ok (.slice (some ⟨g, 0, none⟩) (n + m) c) (w.setRow g (cur.toList.take (n * i.size) ++ news ++ cur.toList.drop (n * i.size + news.length)).toArray) := by
        simp [Builtin.append_, run_underlying ht, sizeOf, typeInfo, hi, Builtin.lenOf, hroom, hf, Addr.add_lit, hst]
      have hsz2 : (cur.toList.take (n * i.size) ++ news ++ cur.toList.drop (n * i.size + news.length)).toArray.size = cur.size := by
        simp only [List.size_toArray, List.length_append, List.length_take, List.length_drop, Array.length_toList]
        omega
      refine ⟨_, _, _, hr, ⟨hlen, .inr ⟨g, _, fz, rfl, hbg, setRow_heap w g cur _ e _ hg, by rw [hsz2]; exact hfz, hroom, hcm, by rw [hsz2]; exact hcs, ?_⟩⟩, only_setRow w g _ ⟨_, rfl, rfl⟩, fun i hi => .inl hi⟩
      rw [htake, ← hlen]
      exact List.take_left
    · have holds : ∀ j u, xs[j]? = some u → w.cell? ((⟨g, 0, none⟩ : Addr).add j) = some u := fun j u hu => by
        obtain ⟨b, off, e1, _, h1⟩ := hown.row.at_ j u hu
        cases e1
        rw [Go.WideShapes.add_plain]
        exact h1
      have hr := run_append_grow (P := P) w t ty e i z ht hi hz ⟨g, 0, none⟩ n c xs hown.1 holds a m cc news hl hnews' (by omega) (by omega) (growslice_fits (by omega) hbytes)
      have hgr := grown c (by omega)
      exact ⟨_, _, _, hr, hgr.1, hgr.2, by rintro i ⟨b, hb, rfl⟩; cases hb; exact .inr (Nat.le_refl _)⟩
end
end Go.Proofs.YtpblgjadpfecgaaGreatDoor
/-
  append, at the walk: bytes and a string; bytes; texts; fields.
-/
namespace Go.Proofs.YtpblgjadpfecgaaGreatDoor
open Go.RowKit

def bV (l : List UInt8) : List Value := l.map byteV
def sV (ss : List (List UInt8)) : List Value := ss.map fun s => .string (B s)
/-- A field: its name, its value. -/
abbrev FD := List UInt8 × List UInt8
def fV : List FD → List Value
  | [] => []
  | p :: t => .string (B p.1) :: .string (B p.2) :: fV t
theorem bV_app (a b : List UInt8) : bV (a ++ b) = bV a ++ bV b := by simp [bV]
theorem sV_app (a b : List (List UInt8)) : sV (a ++ b) = sV a ++ sV b := by simp [sV]
theorem fV_app : ∀ (a b : List FD), fV (a ++ b) = fV a ++ fV b
  | [], _ => rfl
  | p :: t, b => by simp [fV, fV_app t b]
theorem bV_len (a : List UInt8) : (bV a).length = a.length := by simp [bV]
theorem sV_len (a : List (List UInt8)) : (sV a).length = a.length := by simp [sV]
theorem fV_len : ∀ (a : List FD), (fV a).length = a.length * 2
  | [] => rfl
  | p :: t => by simp [fV, fV_len t]; omega
theorem bV_at (l : List UInt8) (i : Nat) (c : UInt8) (h : l[i]? = some c) : (bV l)[i]? = some (byteV c) := by simp [bV, h]
theorem sV_at (l : List (List UInt8)) (i : Nat) (c : List UInt8) (h : l[i]? = some c) : (sV l)[i]? = some (.string (B c)) := by simp [sV, h]
theorem fV_at : ∀ (l : List FD) (i : Nat) (c : FD), l[i]? = some c → (fV l)[i * 2]? = some (.string (B c.1)) ∧ (fV l)[i * 2 + 1]? = some (.string (B c.2))
  | p :: t, 0, c, h => by
    simp at h
    subst h
    exact ⟨rfl, rfl⟩
  | p :: t, i + 1, c, h => by
    have := fV_at t i c (by simpa using h)
    rw [show (i + 1) * 2 = i * 2 + 1 + 1 by omega]
    simpa [fV] using this
theorem bV_one (l : List UInt8) : ∀ u ∈ bV l, u.oneCell' = true := by
  intro u hu
  obtain ⟨b, _, rfl⟩ := List.mem_map.1 hu
  rfl
theorem sV_one (l : List (List UInt8)) : ∀ u ∈ sV l, u.oneCell' = true := by
  intro u hu
  obtain ⟨b, _, rfl⟩ := List.mem_map.1 hu
  rfl
theorem fV_one : ∀ (l : List FD), ∀ u ∈ fV l, u.oneCell' = true
  | [], u, h => by cases h
  | p :: t, u, h => by
    simp only [fV, List.mem_cons] at h
    rcases h with rfl | rfl | h
    · rfl
    · rfl
    · exact fV_one t u h
theorem strCells_bV (s : ByteArray) : Lib.strCells s = bV s.data.toList := rfl

theorem info_u8 : (Tryz.prog.info? 5).map (fun i => (i.zero, i.size, i.bytes)) = some (some (.int .u8 0), 1, 1) := by kernel_rfl
theorem info_str : (Tryz.prog.info? 9).map (fun i => (i.zero, i.size, i.bytes)) = some (some (.string ⟨#[]⟩), 1, 16) := by kernel_rfl
theorem info_fld : (Tryz.prog.info? 197).map (fun i => (i.zero, i.size, i.bytes)) = some (some (.agg #[.string ⟨#[]⟩, .string ⟨#[]⟩]), 2, 32) := by kernel_rfl
theorem info_split {P : Program} {e : TypeId} {z : Value} {a b : Nat} (h : (P.info? e).map (fun i => (i.zero, i.size, i.bytes)) = some (some z, a, b)) : ∃ i, P.info? e = some i ∧ i.zero = some z ∧ i.size = a ∧ i.bytes = b := by
  obtain ⟨i0, hi, hzz⟩ := Option.map_eq_some_iff.1 h
  simp only [Prod.mk.injEq] at hzz
  exact ⟨i0, hi, hzz.1, hzz.2.1, hzz.2.2⟩

/-- Bytes that the call owns, texts, fields. -/
def OwnB (w : World) (base : Nat) (A : Option Addr) (c : Nat) (l : List UInt8) : Prop := Own w base 5 1 A l.length c (bV l)
def OwnS (w : World) (base : Nat) (A : Option Addr) (c : Nat) (l : List (List UInt8)) : Prop := Own w base 9 1 A l.length c (sV l)
def OwnF (w : World) (base : Nat) (A : Option Addr) (c : Nat) (l : List FD) : Prop := Own w base 197 2 A l.length c (fV l)

section
variable {ops : Array Oper} {rest : List Oper} {o : Oper} {a : Act} {Q : Exit → Act → World → Prop} {W : World}

/-- append(out, s...), s a string. -/
theorem app_bs (hgd : o.guard = none) (sl x : Operand) (ho : o.op = .call { callee := .builtin .append, args := #[sl, x], argTypes := #[30, 9] })
    (base n cap : Nat) (A : Option Addr) (l : List UInt8) (s : ByteArray) (hl : l.length = n) (hs : a.eval sl = .slice A n cap) (hx : a.eval x = .string s)
    (HO : OwnB W base A cap l) (hbase : base ≤ W.heap.size) (hb : n + s.size ≤ 140737488355328)
    (h : ∀ A' cap' w1, Hid (OwnB w1 base A' cap' (l ++ s.data.toList)) → Hid (∀ i, ab A' i → ab A i ∨ W.heap.size ≤ i) → Only (ab A) W w1 → wpList Tryz.prog ops Q rest (a.put o.dst (.slice A' (n + s.size) cap')) w1) :
    wpList Tryz.prog ops Q (o :: rest) a W := by
  subst hl
  obtain ⟨i0, hi, hz0, hz1, hz2⟩ := info_split info_u8
  refine wpList_plain hgd fun K hK => ?_
  obtain ⟨A', c', w', hr, h2, h3, h4⟩ := run_app_str (P := Tryz.prog) W base 30 9 o.type 5 i0 Tryz.underlying30 Tryz.underlying9 hi hz0 hz1 hz2 A _ cap _ HO s hb hbase
  unfold Oper.wp execOp
  simp only [ho, resolve, invoke, builtin, Sem.run_bind, Sem.run_pure, Result.andThen_ok, List.map_toArray, List.map_cons, List.map_nil, hs, hx, hr]
  refine hK _ _ (h A' c' w' ?_ h4 h3)
  have e : (l ++ s.data.toList).length = l.length + s.size := by simp
  unfold OwnB Hid
  rw [e, bV_app]
  exact h2

/-- append(out, xs...). -/
theorem app_rows (hgd : o.guard = none) (sl x : Operand) (t e : TypeId) (z : Value) (k by_ : Nat) (ht : Tryz.prog.underlying t = some (.slice e)) (hinf : (Tryz.prog.info? e).map (fun i => (i.zero, i.size, i.bytes)) = some (some z, k, by_)) (hzk : z.cells.size = k) (hk : 0 < k) (hby : 0 < by_)
    (ho : o.op = .call { callee := .builtin .append, args := #[sl, x], argTypes := #[t, t] })
    (base n cap m c : Nat) (A S : Option Addr) (xs news : List Value) (hs : a.eval sl = .slice A n cap) (hx : a.eval x = .slice S m c)
    (HO : Own W base e k A n cap xs) (HS : Row W S news) (hln : news.length = m * k) (h1 : ∀ u ∈ news, u.oneCell' = true) (hnil : S = none → m = 0 ∧ c = 0) (hbase : base ≤ W.heap.size) (hb : (n + m) * by_ ≤ 140737488355328)
    (h : ∀ A' cap' w1, Own w1 base e k A' (n + m) cap' (xs ++ news) → Hid (∀ i, ab A' i → ab A i ∨ W.heap.size ≤ i) → Only (ab A) W w1 → wpList Tryz.prog ops Q rest (a.put o.dst (.slice A' (n + m) cap')) w1) :
    wpList Tryz.prog ops Q (o :: rest) a W := by
  obtain ⟨i0, hi, hz0, hz1, hz2⟩ := info_split hinf
  refine wpList_plain hgd fun K hK => ?_
  have h63 : n + m ≤ maxLen := by
    have : n + m ≤ (n + m) * by_ := Nat.le_mul_of_pos_right _ hby
    unfold maxLen
    omega
  obtain ⟨A', c', w', hr, h2, h3, h4⟩ := run_app_row (P := Tryz.prog) W base t o.type e i0 z k by_ ht hi hz0 hz1 hz2 hzk hk A n cap xs HO S m c news hln HS hnil h1 h63 hb hbase
  unfold Oper.wp execOp
  simp only [ho, resolve, invoke, builtin, Sem.run_bind, Sem.run_pure, Result.andThen_ok, List.map_toArray, List.map_cons, List.map_nil, hs, hx, hr]
  exact hK _ _ (h A' c' w' h2 h4 h3)

/-- append(out, xs...) of bytes. -/
theorem app_bb (hgd : o.guard = none) (sl x : Operand) (ho : o.op = .call { callee := .builtin .append, args := #[sl, x], argTypes := #[30, 30] })
    (base n cap m c : Nat) (A S : Option Addr) (l r : List UInt8) (hl : l.length = n) (hr : r.length = m) (hs : a.eval sl = .slice A n cap) (hx : a.eval x = .slice S m c)
    (HO : OwnB W base A cap l) (HS : Row W S (bV r)) (hnil : S = none → m = 0 ∧ c = 0) (hbase : base ≤ W.heap.size) (hb : n + m ≤ 140737488355328)
    (h : ∀ A' cap' w1, Hid (OwnB w1 base A' cap' (l ++ r)) → Hid (∀ i, ab A' i → ab A i ∨ W.heap.size ≤ i) → Only (ab A) W w1 → wpList Tryz.prog ops Q rest (a.put o.dst (.slice A' (n + m) cap')) w1) :
    wpList Tryz.prog ops Q (o :: rest) a W := by
  subst hl hr
  refine app_rows hgd sl x 30 5 (.int .u8 0) 1 1 Tryz.underlying30 info_u8 rfl (by omega) (by omega) ho base _ cap _ c A S _ _ hs hx HO HS (by rw [bV_len]; omega) (bV_one r) hnil hbase (by omega) ?_
  intro A' cap' w1 h2 h3 h4
  refine h A' cap' w1 ?_ h3 h4
  unfold OwnB Hid
  rw [List.length_append, bV_app]
  exact h2

/-- append(out, xs...) of texts. -/
theorem app_ss (hgd : o.guard = none) (sl x : Operand) (ho : o.op = .call { callee := .builtin .append, args := #[sl, x], argTypes := #[24, 24] })
    (base n cap m c : Nat) (A S : Option Addr) (l r : List (List UInt8)) (hl : l.length = n) (hr : r.length = m) (hs : a.eval sl = .slice A n cap) (hx : a.eval x = .slice S m c)
    (HO : OwnS W base A cap l) (HS : Row W S (sV r)) (hnil : S = none → m = 0 ∧ c = 0) (hbase : base ≤ W.heap.size) (hb : n + m ≤ 8796093022208)
    (h : ∀ A' cap' w1, Hid (OwnS w1 base A' cap' (l ++ r)) → Hid (∀ i, ab A' i → ab A i ∨ W.heap.size ≤ i) → Only (ab A) W w1 → wpList Tryz.prog ops Q rest (a.put o.dst (.slice A' (n + m) cap')) w1) :
    wpList Tryz.prog ops Q (o :: rest) a W := by
  subst hl hr
  refine app_rows hgd sl x 24 9 (.string ⟨#[]⟩) 1 16 Tryz.underlying24 info_str rfl (by omega) (by omega) ho base _ cap _ c A S _ _ hs hx HO HS (by rw [sV_len]; omega) (sV_one r) hnil hbase (by omega) ?_
  intro A' cap' w1 h2 h3 h4
  refine h A' cap' w1 ?_ h3 h4
  unfold OwnS Hid
  rw [List.length_append, sV_app]
  exact h2

/-- append(out, s), one text, which lies in a new block. -/
theorem app_s (hgd : o.guard = none) (sl x : Operand) (ho : o.op = .call { callee := .builtin .append, args := #[sl, x], argTypes := #[24, 24] })
    (base n cap : Nat) (A : Option Addr) (l : List (List UInt8)) (s : ByteArray) (hl : l.length = n) (hs : a.eval sl = .slice A n cap) (hx : a.eval x = .slice (some ⟨W.heap.size, 0, none⟩) 1 1)
    (HO : OwnS W base A cap l) (hbase : base ≤ W.heap.size) (hb : n + 1 ≤ 8796093022208)
    (h : ∀ A' cap' w1, Hid (OwnS w1 base A' cap' (l ++ [s.data.toList])) → Hid (∀ i, ab A' i → ab A i ∨ W.heap.size ≤ i) → Only (ab A) W w1 → wpList Tryz.prog ops Q rest (a.put o.dst (.slice A' (n + 1) cap')) w1) :
    wpList Tryz.prog ops Q (o :: rest) a (W.alloc (.cells #[.string s] 9)) := by
  have O1 : Only (fun _ => False) W (W.alloc (.cells #[.string s] 9)) := (Only.refl _ W).alloc _
  refine app_ss hgd sl x ho base n cap 1 1 A (some ⟨W.heap.size, 0, none⟩) l [s.data.toList] hl rfl hs hx (Own.same HO O1) ?_ (fun h => by cases h) (Nat.le_trans hbase O1.size) hb ?_
  · intro _
    refine ⟨W.heap.size, 0, rfl, by simp, fun j u hu => ?_⟩
    rw [b_cell (b_new W _), Nat.zero_add]
    simpa [sV] using hu
  · intro A' cap' w1 h2 h3 h4
    refine h A' cap' w1 h2 (hid fun i hi => ?_) ((O1.mono (T := ab A) (fun _ h => h.elim)).trans h4)
    rcases h3.out i hi with h | h
    · exact .inl h
    · simp at h
      exact .inr (by omega)

/-- append(fs, f), one field, which lies in a new block. -/
theorem app_f (hgd : o.guard = none) (sl x : Operand) (ho : o.op = .call { callee := .builtin .append, args := #[sl, x], argTypes := #[65, 65] })
    (base n cap : Nat) (A : Option Addr) (l : List FD) (s v : ByteArray) (hl : l.length = n) (hs : a.eval sl = .slice A n cap) (hx : a.eval x = .slice (some ⟨W.heap.size, 0, none⟩) 1 1)
    (HO : OwnF W base A cap l) (hbase : base ≤ W.heap.size) (hb : n + 1 ≤ 4398046511104)
    (h : ∀ A' cap' w1, Hid (OwnF w1 base A' cap' (l ++ [(s.data.toList, v.data.toList)])) → Hid (∀ i, ab A' i → ab A i ∨ W.heap.size ≤ i) → Only (ab A) W w1 → wpList Tryz.prog ops Q rest (a.put o.dst (.slice A' (n + 1) cap')) w1) :
    wpList Tryz.prog ops Q (o :: rest) a (W.alloc (.cells #[.string s, .string v] 197)) := by
  have O1 : Only (fun _ => False) W (W.alloc (.cells #[.string s, .string v] 197)) := (Only.refl _ W).alloc _
  subst hl
  refine app_rows hgd sl x 65 197 (.agg #[.string ⟨#[]⟩, .string ⟨#[]⟩]) 2 32 Tryz.underlying65 info_fld rfl (by omega) (by omega) ho base _ cap 1 1 A (some ⟨W.heap.size, 0, none⟩) _ (fV [(s.data.toList, v.data.toList)]) hs hx (Own.same HO O1) ?_ rfl (fV_one _) (fun h => by cases h) (Nat.le_trans hbase O1.size) (by omega) ?_
  · intro _
    refine ⟨W.heap.size, 0, rfl, by simp, fun j u hu => ?_⟩
    rw [b_cell (b_new W _), Nat.zero_add]
    simpa [fV] using hu
  · intro A' cap' w1 h2 h3 h4
    refine h A' cap' w1 ?_ (hid fun i hi => ?_) ((O1.mono (T := ab A) (fun _ h => h.elim)).trans h4)
    · unfold OwnF Hid
      rw [List.length_append, fV_app]
      exact h2
    · rcases h3.out i hi with h | h
      · exact .inl h
      · simp at h
        exact .inr (by omega)
end
end Go.Proofs.YtpblgjadpfecgaaGreatDoor
/-
  Fields: Get of the package field.
-/
namespace Go.Proofs.YtpblgjadpfecgaaGreatDoor
open Go.RowKit

def getF (fs : List FD) (name : List UInt8) : List (List UInt8) := (fs.filter (fun p => same p.1 name)).map (·.2)
/-- Texts of a length that the walk takes. -/
def SmallS (ss : List (List UInt8)) : Prop := ss.length ≤ 1000000000 ∧ ∀ s ∈ ss, s.length < 4294967281
def SmallF (fs : List FD) : Prop := fs.length ≤ 1000000 ∧ ∀ p ∈ fs, p.1.length < 4294967281 ∧ p.2.length < 4294967281

theorem getF_take (fs : List FD) (name : List UInt8) (k : Nat) (p : FD) (hp : fs[k]? = some p) : getF (fs.take (k + 1)) name = getF (fs.take k) name ++ (if same p.1 name then [p.2] else []) := by
  unfold getF
  rw [List.take_add_one, hp]
  simp only [Option.toList_some, List.filter_append, List.map_append]
  congr 1
  by_cases h : same p.1 name = true
  · simp [h]
  · simp [h]
theorem getF_len (fs : List FD) (name : List UInt8) : (getF fs name).length ≤ fs.length := by
  simp [getF]
  exact List.length_filter_le _ _
theorem getF_small (fs : List FD) (name : List UInt8) (h : SmallF fs) : SmallS (getF fs name) := by
  refine ⟨Nat.le_trans (getF_len fs name) (by have := h.1; omega), fun s hs => ?_⟩
  obtain ⟨p, hp, rfl⟩ := List.mem_map.1 hs
  exact (h.2 p (List.mem_filter.1 hp).1).2

theorem fld_at {w : World} {A : Option Addr} {fs : List FD} (h : Row w A (fV fs)) (k : Nat) (p : FD) (hp : fs[k]? = some p) :
    ∃ b off, A = some ⟨b, off, none⟩ ∧ b < w.heap.size ∧ w.cell? ⟨b, off + k * 2, none⟩ = some (.string (B p.1)) ∧ w.cell? ⟨b, off + k * 2 + 1, none⟩ = some (.string (B p.2)) := by
  obtain ⟨hp1, hp2⟩ := fV_at fs k p hp
  obtain ⟨b, off, rfl, hb, c0⟩ := h.at_ _ _ hp1
  obtain ⟨b', off', e, _, c1⟩ := h.at_ _ _ hp2
  cases e
  exact ⟨b, off, rfl, hb, c0, c1⟩
theorem str_at {w : World} {A : Option Addr} {ss : List (List UInt8)} (h : Row w A (sV ss)) (k : Nat) (p : List UInt8) (hp : ss[k]? = some p) :
    ∃ b off, A = some ⟨b, off, none⟩ ∧ b < w.heap.size ∧ w.cell? ⟨b, off + k, none⟩ = some (.string (B p)) := h.at_ _ _ (sV_at ss k p hp)
theorem byt_at {w : World} {A : Option Addr} {l : List UInt8} (h : Row w A (bV l)) (k : Nat) (p : UInt8) (hp : l[k]? = some p) :
    ∃ b off, A = some ⟨b, off, none⟩ ∧ b < w.heap.size ∧ w.cell? ⟨b, off + k, none⟩ = some (.int .u8 (p.toNat : Int)) := h.at_ _ _ (bV_at l k p hp)

set_option maxRecDepth 100000 in
set_option maxHeartbeats 1000000 in
theorem get_any (fs : List FD) (name : ByteArray) (A : Option Addr) (c : Nat) (w : World) (hR : Row w A (fV fs)) (hS : SmallF fs) (hn : name.size < 4294967281) :
    Calls Tryz.prog 159 #[.slice A fs.length c, .string name] w fun e w' => ∃ A' c', e = .returned (.slice A' (getF fs name.data.toList).length c') ∧ OwnS w' w.heap.size A' c' (getF fs name.data.toList) ∧ Only (fun _ => False) w w' := by
  obtain ⟨n, hnn⟩ : ∃ n, fs.length = n := ⟨_, rfl⟩
  rw [hnn]
  have hn6 := hS.1
  rw [hnn] at hn6
  replace hnn := hid hnn
  replace hS := hid hS
  go_enter Tryz.func159, Tryz.ntmps159
  go_wp2_with fail
  go_loopw [5, 10] (fun ov iv wr => ∃ (k m : Nat) (A' : Option Addr) (c' : Nat), k ≤ n ∧ ov = .slice A' m c' ∧ iv = .int .i64 (k : Int) ∧ Hid ((getF (fs.take k) name.data.toList).length = m) ∧ OwnS wr w.heap.size A' c' (getF (fs.take k) name.data.toList) ∧ Only (fun _ => False) w wr) (fun _ iv _ => n - (intOf iv).toNat)
  case atStart => exact ⟨0, 0, none, 0, by omega, rfl, rfl, rfl, Own.nil _ _ _ _, Only.refl _ _⟩
  case round =>
    obtain ⟨k, m, A', c', hk, rfl, rfl, hm, HO, O⟩ := hrel
    by_cases hlt : k < n
    · obtain ⟨p, hp⟩ : ∃ p, fs[k]? = some p := ⟨_, List.getElem?_eq_getElem (by rw [hnn.out]; exact hlt)⟩
      obtain ⟨b, off, rfl, hb, c0, c1⟩ := fld_at (hR.same O) k p hp
      have hpm := hS.out.2 p (List.mem_of_getElem? hp)
      have hgt := getF_take fs name.data.toList k p hp
      have hz1 : (B p.1).size ≤ 9223372036854775807 := by simp [ByteArray.size]; omega
      replace hpm := hid hpm
      replace hgt := hid hgt
      go_wp2_with fail
      refine (same_any _ _ hz1 (by omega) _).mono ?_
      rintro e w2 ⟨rfl, O2⟩
      rw [show (B p.1).data.toList = p.1 from rfl]
      have O1 : Only (fun _ => False) wr (wr.alloc (.cells #[.string (B p.1), .string (B p.2)] 197)) := (Only.refl _ wr).alloc _
      have hf := O2.keep (b_new wr (.cells #[.string (B p.1), .string (B p.2)] 197)) (fun h => h)
      have d1 : w2.cell? ⟨wr.heap.size, 1, none⟩ = some (.string (B p.2)) := b_cell hf 1
      have O12 := O1.trans O2
      have HO2 := hid (Own.same HO O12)
      have hs2 := Nat.le_trans O.size O12.size
      clear hf O1 O2
      cases hsm : same p.1 name.data.toList
      · have hgt' : getF (fs.take (k + 1)) name.data.toList = getF (fs.take k) name.data.toList := by rw [hgt.out, hsm]; simp
        replace hsm := hid hsm
        go_wp2_with fail
        go_roundw
        case rel => exact ⟨k + 1, m, A', c', by omega, rfl, by simp, by unfold Hid; rw [hgt']; exact hm.out, by rw [hgt']; exact HO2.out, O.trans O12⟩
        case measure => simp [intOf]; omega
      · have hgt' : getF (fs.take (k + 1)) name.data.toList = getF (fs.take k) name.data.toList ++ [(B p.2).data.toList] := by rw [hgt.out, hsm]; rfl
        have hml : m ≤ k := by
          rw [← hm.out]
          refine Nat.le_trans (getF_len _ _) ?_
          simp
          omega
        replace hsm := hid hsm
        replace hgt' := hid hgt'
        go_wp2_with (first | (at_builtin; refine app_s rfl _ _ rfl w.heap.size m c' A' _ (B p.2) hm.out rfl rfl HO2.out hs2 (by omega) ?_; intro A3 c3 w3 h3 h3' o3) | fail)
        have hbl := HO2.out.blk
        have O3 := (O.trans O12).trans' o3 (fun i hi => .inr (hbl i hi).1)
        go_roundw
        case rel => exact ⟨k + 1, m + 1, A3, c3, by omega, rfl, by simp, hid (by rw [hgt'.out, List.length_append, hm.out]; rfl), by rw [hgt'.out]; exact h3.out, O3⟩
        case measure => simp [intOf]; omega
    · have hk' : k = n := by omega
      subst hk'
      have hfull : getF (fs.take k) name.data.toList = getF fs name.data.toList := by rw [List.take_of_length_le (by rw [hnn.out]; exact Nat.le_refl _)]
      rw [hfull] at hm HO
      clear hfull
      go_wp2_with fail
      go_ret
      exact ⟨A', c', by rw [hm.out]; rfl, HO, O⟩
end Go.Proofs.YtpblgjadpfecgaaGreatDoor
