/-
  Bytes of a message: Fold, Same, Trim of the package sign.
-/
import Derived.Test.YtafljoiblfhioaaGreatDoorA
import Derived.Laws.IdiomStrings
namespace Go.Proofs.YtafljoiblfhioaaGreatDoor
open Go.RowKit

def lowC (c : UInt8) : UInt8 := if 65 ≤ c && c ≤ 90 then c + 32 else c
def fold (l : List UInt8) : List UInt8 := l.map lowC
def foldK (l : List UInt8) (k : Nat) : List UInt8 := (l.take k).map lowC ++ l.drop k
def byteV (c : UInt8) : Value := .int .u8 (c.toNat : Int)

theorem b_cell' {w : World} {g : Nat} {t : TypeId} {cs : Array Value} {f : Nat × Nat} (h : w.heap[g]? = some (.cells cs t f)) (i : Nat) : w.cell? ⟨g, i, none⟩ = cs[i]? := cell_of_row w g i cs t f h
theorem b_free' {w : World} {g : Nat} {t : TypeId} {cs : Array Value} {a b : Nat} (h : w.heap[g]? = some (.cells cs t (a, b))) (i : Nat) (hi : i < a) : w.frozen? ⟨g, i, none⟩ = false := by
  simp [World.frozen?, h]; omega
theorem b_set' {w : World} {g : Nat} {t : TypeId} {cs : Array Value} {f : Nat × Nat} (h : w.heap[g]? = some (.cells cs t f)) (i : Nat) (u : Value) : (w.setCell ⟨g, i, none⟩ u).heap[g]? = some (.cells (cs.setIfInBounds i u) t f) := by
  simp [World.setCell, Array.getElem?_modify, h]

theorem foldK_at (l : List UInt8) (k : Nat) (hk : k < l.length) : (foldK l k)[k]? = l[k]? := by
  unfold foldK
  rw [List.getElem?_append_right (by simp; omega)]
  simp
  congr 1
  omega
theorem foldK_set (l : List UInt8) (k : Nat) (hk : k < l.length) : (foldK l k).set k (lowC l[k]) = foldK l (k + 1) := by
  apply List.ext_getElem?
  intro i
  unfold foldK
  rw [List.getElem?_set]
  by_cases h : k = i
  · subst h
    have h1 : k < ((l.take k).map lowC ++ l.drop k).length := by simp; omega
    rw [if_pos rfl, if_pos h1, List.getElem?_append_left (by simp; omega)]
    simp [List.getElem?_take, List.getElem?_eq_getElem hk]
  · rw [if_neg h]
    by_cases h2 : i < k
    · rw [List.getElem?_append_left (by simp; omega), List.getElem?_append_left (by simp; omega)]
      simp [List.getElem?_take, h2, show i < k + 1 by omega]
    · rw [List.getElem?_append_right (by simp; omega), List.getElem?_append_right (by simp; omega)]
      simp
      congr 1
      omega
theorem foldK_same (l : List UInt8) (k : Nat) (hk : k < l.length) (h : lowC l[k] = l[k]) : foldK l k = foldK l (k + 1) := by
  rw [← foldK_set l k hk, h]
  apply List.ext_getElem?
  intro i
  rw [List.getElem?_set]
  split
  · rename_i h; subst h
    split
    · rw [foldK_at l k hk, List.getElem?_eq_getElem hk]
    · rename_i h2
      exfalso
      apply h2
      simp [foldK]; omega
  · rfl
theorem foldK_full (l : List UInt8) (k : Nat) (hk : l.length ≤ k) : foldK l k = fold l := by
  simp [foldK, fold, List.take_of_length_le hk, List.drop_of_length_le hk]
theorem foldK_len (l : List UInt8) (k : Nat) : (foldK l k).length = l.length := by simp [foldK]; omega


/-- A block that begins with the bytes l. -/
def BytesAt (w : World) (g : Nat) (l : List UInt8) : Prop := ∃ (pad : List Value) (fr : Nat × Nat), w.heap[g]? = some (.cells (l.map byteV ++ pad).toArray 5 fr) ∧ (l.length ≤ fr.1 ∨ fr = (0, 0))
theorem BytesAt.lt {w : World} {g : Nat} {l : List UInt8} (h : BytesAt w g l) : g < w.heap.size := by
  obtain ⟨pad, fr, h1, _⟩ := h
  exact b_lt h1
theorem BytesAt.cell {w : World} {g : Nat} {l : List UInt8} (h : BytesAt w g l) (i : Nat) (hi : i < l.length) : w.cell? ⟨g, i, none⟩ = some (byteV l[i]) := by
  obtain ⟨pad, fr, h1, _⟩ := h
  rw [b_cell' h1, List.getElem?_toArray, List.getElem?_append_left (by simpa using hi)]
  simp [hi]
theorem BytesAt.free {w : World} {g : Nat} {l : List UInt8} (h : BytesAt w g l) (i : Nat) (hi : i < l.length) : w.frozen? ⟨g, i, none⟩ = false := by
  obtain ⟨pad, fr, h1, h2⟩ := h
  rcases h2 with h2 | h2
  · exact b_free' h1 i (by omega)
  · subst h2
    exact b_free h1 i
theorem BytesAt.set {w : World} {g : Nat} {l : List UInt8} (h : BytesAt w g l) (i : Nat) (hi : i < l.length) (c : UInt8) : BytesAt (w.setCell ⟨g, i, none⟩ (byteV c)) g (l.set i c) := by
  obtain ⟨pad, fr, h1, h2⟩ := h
  refine ⟨pad, fr, ?_, by simpa using h2⟩
  rw [b_set' h1]
  congr 2
  apply Array.ext'
  simp only [Array.toList_setIfInBounds]
  rw [List.set_append_left _ _ (by simpa using hi), List.map_set]
theorem BytesAt.keep {w w' : World} {S : Nat → Prop} {g : Nat} {l : List UInt8} (h : BytesAt w g l) (o : Only S w w') (hs : ¬ S g) : BytesAt w' g l := by
  obtain ⟨pad, fr, h1, h2⟩ := h
  exact ⟨pad, fr, o.keep h1 hs, h2⟩
theorem BytesAt.new (w : World) (s : ByteArray) (cap : Nat) (t : TypeId) (ht : t = 5) : BytesAt (w.alloc (.cells (bytesRow s cap) t ((bytesRow s cap).size, (bytesRow s cap).size + 1))) w.heap.size s.data.toList := by
  subst ht
  refine ⟨List.replicate (cap - s.size) (.int .u8 0), _, by rw [b_new]; congr 2; apply Array.ext'; simp [bytesRow, byteV], .inl ?_⟩
  simp [bytesRow]
/-- string(b) of bytes that lie so. -/
theorem BytesAt.str {w : World} {g : Nat} {l : List UInt8} (h : BytesAt w g l) (cap : Nat) : (convert 22 9 (.slice (some ⟨g, 0, none⟩) l.length cap)).run Tryz.prog w = .ok (.string (B l)) w :=
  run_convert_bytes_back w 22 9 5 ⟨g, 0, none⟩ cap l Tryz.underlying22 Tryz.underlying5 Tryz.underlying9 (fun j hj => by
    rw [Go.WideShapes.add_plain, Nat.zero_add]
    exact h.cell j hj)

theorem lowC_pos (c : UInt8) (h1 : 65 ≤ (c.toNat : Int)) (h2 : (c.toNat : Int) ≤ 90) : lowC c = c + 32 := by
  unfold lowC
  rw [if_pos]
  simp [UInt8.le_iff_toNat_le]
  omega
theorem lowC_neg (c : UInt8) (h : (c.toNat : Int) < 65 ∨ 90 < (c.toNat : Int)) : lowC c = c := by
  unfold lowC
  rw [if_neg]
  simp [UInt8.le_iff_toNat_le]
  omega

theorem fold_any (s : ByteArray) (hs : s.size ≤ 9223372036854775807) (w : World) : Calls Tryz.prog 86 #[.string s] w fun e w' => e = .returned (.string (B (fold s.data.toList))) ∧ Only (fun _ => False) w w' := by
  have kc := fun w => run_bytes_of_string (P := Tryz.prog) w 9 22 5 s Tryz.underlying9 Tryz.underlying22 Tryz.underlying5
  go_enter Tryz.func86, Tryz.ntmps86
  go_wp2_with fail
  generalize grownCap w s.size 0 5 = cap
  clear kc
  have H0 : BytesAt ((w.alloc (.cells (bytesRow s cap) 5 ((bytesRow s cap).size, (bytesRow s cap).size + 1))).drew) w.heap.size s.data.toList := BytesAt.new w s cap 5 rfl
  have O0 := (((Only.refl (fun _ => False) w).alloc (.cells (bytesRow s cap) 5 ((bytesRow s cap).size, (bytesRow s cap).size + 1))).drew)
  generalize (w.alloc (.cells (bytesRow s cap) 5 ((bytesRow s cap).size, (bytesRow s cap).size + 1))).drew = w1 at H0 O0 ⊢
  have e0 : foldK s.data.toList 0 = s.data.toList := by simp [foldK]
  rw [← e0] at H0
  clear e0
  obtain ⟨g, hg⟩ : ∃ g, g = w.heap.size := ⟨_, rfl⟩
  rw [← hg] at H0
  have hsz : s.size = s.data.toList.length := by simp
  have hlen := foldK_len s.data.toList
  obtain ⟨l, hl⟩ : ∃ l, l = s.data.toList := ⟨_, rfl⟩
  rw [← hl] at H0 hsz hlen
  rw [← hg]
  replace hg := hid hg
  replace hl := hid hl
  replace hsz := hid hsz
  replace hlen := hid hlen
  go_loopw [10] (fun iv wr => ∃ k : Nat, k ≤ s.size ∧ iv = .int .i64 (k : Int) ∧ BytesAt wr g (foldK l k) ∧ Only (fun _ => False) w wr) (fun iv _ => s.size - (intOf iv).toNat)
  case atStart => exact ⟨0, by omega, rfl, H0, O0⟩
  case round =>
    clear H0 O0
    obtain ⟨k, hk, rfl, H, O⟩ := hrel
    by_cases hlt : k < s.size
    · have hkl : k < l.length := by have := hsz.out; omega
      have hc := H.cell k (by rw [hlen.out]; exact hkl)
      have hf := H.free k (by rw [hlen.out]; exact hkl)
      have hc' : (foldK l k)[k]'(by rw [hlen.out]; exact hkl) = l[k] := by
        have := foldK_at l k hkl
        rw [List.getElem?_eq_getElem (by rw [hlen.out]; exact hkl), List.getElem?_eq_getElem hkl] at this
        exact Option.some.inj this
      rw [hc'] at hc
      unfold byteV at hc
      clear hc'
      by_cases hb : 65 ≤ (l[k].toNat : Int) ∧ (l[k].toNat : Int) ≤ 90
      · obtain ⟨hb1, hb2⟩ := hb
        have hset := H.set k (by rw [hlen.out]; exact hkl) (lowC l[k])
        rw [foldK_set l k hkl] at hset
        have hO := O.setCell (p := ⟨g, k, none⟩) (.inr (by rw [hg.out]; exact Nat.le_refl _)) (byteV (lowC l[k]))
        have hv : byteV (lowC l[k]) = .int .u8 ((l[k].toNat : Int) + 97 - 65) := by
          rw [lowC_pos _ hb1 hb2]
          unfold byteV
          rw [UInt8.toNat_add]
          congr 1
          have : (32 : UInt8).toNat = 32 := rfl
          rw [this]
          omega
        rw [hv] at hset hO
        clear hv
        generalize (l[k].toNat : Int) = n at *
        go_wp2_with fail
        go_roundw
        case rel => exact ⟨k + 1, by omega, by simp, hset, hO⟩
        case measure => simp [intOf]; omega
      · have hb' : (l[k].toNat : Int) < 65 ∨ 90 < (l[k].toNat : Int) := by omega
        rw [foldK_same l k hkl (lowC_neg _ hb')] at H
        generalize (l[k].toNat : Int) = n at *
        rcases hb' with hb' | hb'
        all_goals
          go_wp2_with fail
          go_roundw
          case rel => exact ⟨k + 1, by omega, by simp, H, O⟩
          case measure => simp [intOf]; omega
    · have hk' : l.length ≤ k := by have := hsz.out; omega
      rw [foldK_full l k hk'] at H
      have hstr := H.str cap
      have hfl : (fold l).length = s.size := by have := hsz.out; simp [fold]; omega
      rw [hfl] at hstr
      clear hfl
      go_wp2_with fail
      go_ret
      refine ⟨?_, O⟩
      rw [← hl.out]
      rfl
end Go.Proofs.YtafljoiblfhioaaGreatDoor
