/-
  Bytes of a message: alnum, Token, Value, Target of the package sign.
-/
import Derived.Test.YtpblgjadpfecgaaGreatDoorK
import Derived.Test.YtpblgjadpfecgaaGreatDoorSh
import Derived.WalkLawsBesides
import Derived.KernelRfl
import Derived.Outline
import Derived.Deep.QuietTactic
import Derived.LoopTactic
import Derived.Handy
import Derived.WalkKit
import Derived.Laws.DeepStrings4
import Derived.Laws.IdiomStrings
import Derived.Shelf.Strings.SlTrimAscii
import Derived.Deep.RegionHeld3
import Derived.BigQuiet
import Derived.Laws.ResultCell
set_option linter.unusedSimpArgs false
set_option linter.unusedVariables false
namespace Go.Proofs.YtpblgjadpfecgaaGreatDoor
open Go.RowKit

abbrev B (l : List UInt8) : ByteArray := ⟨l.toArray⟩

def alnumC (c : UInt8) : Bool := (97 ≤ c && c ≤ 122) || (65 ≤ c && c ≤ 90) || (48 ≤ c && c ≤ 57)
def others : List UInt8 := [33, 35, 36, 37, 38, 39, 42, 43, 45, 46, 94, 95, 96, 124, 126]
def tokC (c : UInt8) : Bool := alnumC c || others.contains c
def valC (c : UInt8) : Bool := (32 ≤ c && c != 127) || c == 9
def tgtC (c : UInt8) : Bool := 33 ≤ c && c ≤ 126
def token (l : List UInt8) : Bool := !l.isEmpty && l.all tokC
def target (l : List UInt8) : Bool := !l.isEmpty && l.all tgtC

theorem indexByte_contains (l : List UInt8) (c : UInt8) : decide (0 ≤ Lib.indexByte l c) = l.contains c := by
  induction l with
  | nil => rfl
  | cons b l ih =>
    have h1 := Lib.indexByte_ge l c
    unfold Lib.indexByte
    by_cases h : b = c
    · subst h; simp
    · have hb : (c == b) = false := by simp; exact fun e => h e.symm
      rw [List.contains_cons, hb, Bool.false_or, ← ih, if_neg (by simpa using h)]
      split
      · rename_i hm
        have : Lib.indexByte l c = -1 := by simpa using hm
        rw [this]
      · rename_i hm
        have hm' : Lib.indexByte l c ≠ -1 := by simpa using hm
        congr 1
        exact propext ⟨fun _ => by omega, fun _ => by omega⟩

theorem rb {a b : Bool} (h : a = true ↔ b = true) : (Ending.returned (.bool a) : Ending) = .returned (.bool b) := by rw [Bool.eq_iff_iff.2 h]

theorem alnum_any (c : UInt8) (w : World) : Calls Tryz.prog 143 #[.int .u8 c.toNat] w fun e w' => e = .returned (.bool (alnumC c)) ∧ w = w' := by
  have h : alnumC c = ((decide ((97 : Int) ≤ c.toNat) && decide ((c.toNat : Int) ≤ 122)) || (decide ((65 : Int) ≤ c.toNat) && decide ((c.toNat : Int) ≤ 90)) || (decide ((48 : Int) ≤ c.toNat) && decide ((c.toNat : Int) ≤ 57))) := by
    unfold alnumC
    simp only [UInt8.le_iff_toNat_le]
    norm_cast
  rw [h]
  clear h
  generalize (c.toNat : Int) = n
  go_enter Tryz.func143, Tryz.ntmps143
  go_wp2
  all_goals
    go_ret
    refine ⟨rb ?_, rfl⟩
    first | (simp; done) | (simp; omega) | (simp [*]; done) | (simp [*]; omega)

theorem tok1_any (c : UInt8) (w : World) : Calls Tryz.prog 142 #[.int .u8 c.toNat] w fun e w' => e = .returned (.bool (tokC c)) ∧ w = w' := by
  have hI := fun w => Tryz.strings_IndexByte ⟨#[33, 35, 36, 37, 38, 39, 42, 43, 45, 46, 94, 95, 96, 124, 126]⟩ (c.toNat : Int) w
  have hc : Lib.indexByte [33, 35, 36, 37, 38, 39, 42, 43, 45, 46, 94, 95, 96, 124, 126] ((c.toNat : Int).toNat.toUInt8) = Lib.indexByte others c := by
    simp [others]
  have hC := indexByte_contains others c
  go_enter Tryz.func142, Tryz.ntmps142
  go_wp2_with fail
  refine (alnum_any c w).mono ?_
  rintro e w1 ⟨rfl, rfl⟩
  cases ha : alnumC c
  · go_wp2_with fail
    refine (hI w).mono ?_
    rintro e w1 ⟨rfl, rfl⟩
    go_wp2_with fail
    go_ret
    refine ⟨rb ?_, rfl⟩
    simp only [tokC, ha, Bool.false_or, ← hC]
    simp [others]
    exact ⟨fun h => decide_eq_true h, fun h => of_decide_eq_true h⟩
  · go_wp2_with fail
    go_ret
    exact ⟨by simp [tokC, ha], rfl⟩
theorem val1_any (c : UInt8) (w : World) : Calls Tryz.prog 298 #[.int .u8 c.toNat] w fun e w' => e = .returned (.bool (valC c)) ∧ w = w' := by
  have h : valC c = (decide ((32 : Int) ≤ c.toNat) && !decide ((c.toNat : Int) = 127) || decide ((c.toNat : Int) = 9)) := by
    unfold valC
    have h1 : (c != 127) = !decide ((c.toNat : Int) = 127) := by
      rw [Bool.eq_iff_iff]; simp [← UInt8.toNat_inj]; omega
    have h2 : (c == 9) = decide ((c.toNat : Int) = 9) := by
      rw [Bool.eq_iff_iff]; simp [← UInt8.toNat_inj]; omega
    rw [h1, h2]
    simp only [UInt8.le_iff_toNat_le]
    norm_cast
  rw [h]
  clear h
  generalize (c.toNat : Int) = n
  go_enter Tryz.func298, Tryz.ntmps298
  go_wp2
  all_goals
    go_ret
    refine ⟨rb ?_, rfl⟩
    first | (simp; done) | (simp; omega) | (simp [*]; done) | (simp [*]; omega)
theorem tgt1_any (c : UInt8) (w : World) : Calls Tryz.prog 144 #[.int .u8 c.toNat] w fun e w' => e = .returned (.bool (tgtC c)) ∧ w = w' := by
  have h : tgtC c = (decide ((33 : Int) ≤ c.toNat) && decide ((c.toNat : Int) ≤ 126)) := by
    unfold tgtC
    simp only [UInt8.le_iff_toNat_le]
    norm_cast
  rw [h]
  clear h
  generalize (c.toNat : Int) = n
  go_enter Tryz.func144, Tryz.ntmps144
  go_wp2
  all_goals
    go_ret
    refine ⟨rb ?_, rfl⟩
    first | (simp; done) | (simp; omega) | (simp [*]; done) | (simp [*]; omega)

theorem all_upto (p : UInt8 → Bool) (l : List UInt8) (k : Nat) (h : ∀ i, i < k → ∀ c, l[i]? = some c → p c = true) (hk : l.length ≤ k) : l.all p = true := by
  rw [List.all_eq_true]
  intro c hc
  obtain ⟨i, hi, rfl⟩ := List.mem_iff_getElem.1 hc
  exact h i (by omega) _ (List.getElem?_eq_getElem hi)
theorem all_not (p : UInt8 → Bool) (l : List UInt8) (k : Nat) (c : UInt8) (hc : l[k]? = some c) (h : p c = false) : l.all p = false := by
  rw [List.all_eq_false]
  exact ⟨c, List.mem_of_getElem? hc, by simp [h]⟩
theorem at_str (s : ByteArray) (k : Nat) (h : k < s.size) : s.data.toList[k]? = some s[k] := by
  rw [Array.getElem?_toList, Array.getElem?_eq_getElem h]
  rfl

set_option maxRecDepth 100000 in
/-- 'all' with a function whose calls turn nothing. -/
theorem all_tok (s : ByteArray) (hs : s.size ≤ 9223372036854775807) (w : World) :
    Calls Tryz.prog 141 #[.string s, .func (.func 142) #[] #[]] w fun e w' => e = .returned (.bool (s.data.toList.all tokC)) ∧ w = w' := by
  go_enter Tryz.func141, Tryz.ntmps141
  go_wp2_with fail
  go_loopw [8] (fun iv wr => ∃ k : Nat, k ≤ s.size ∧ iv = .int .i64 (k : Int) ∧ wr = w ∧ Hid (∀ i, i < k → ∀ c, s.data.toList[i]? = some c → tokC c = true)) (fun iv _ => s.size - (intOf iv).toNat)
  case atStart => exact ⟨0, by omega, rfl, rfl, hid (by omega)⟩
  case round =>
    obtain ⟨k, hk, rfl, rfl, hx⟩ := hrel
    by_cases hlt : k < s.size
    · go_wp2_with fail
      refine (tok1_any _ _).mono ?_
      rintro e w1 ⟨rfl, rfl⟩
      cases hb : tokC (s[k])
      · go_wp2_with fail
        go_ret
        exact ⟨by rw [all_not tokC _ k _ (at_str s k hlt) hb]; rfl, rfl⟩
      · go_wp2_with fail
        go_roundw
        case rel => 
          refine ⟨k + 1, by omega, by simp, by simp, hid fun i hi c hc => ?_⟩
          by_cases hik : i = k
          · subst hik
            rw [at_str s i hlt] at hc
            cases hc
            exact hb
          · exact hx i (by omega) c hc
        case measure =>
          simp [intOf]
          omega
    · go_wp2_with fail
      go_ret
      exact ⟨by rw [all_upto tokC _ k hx (by simpa using (show s.size ≤ k by omega))]; rfl, rfl⟩
set_option maxRecDepth 100000 in
/-- 'all' with a function whose calls turn nothing. -/
theorem all_val (s : ByteArray) (hs : s.size ≤ 9223372036854775807) (w : World) :
    Calls Tryz.prog 141 #[.string s, .func (.func 298) #[] #[]] w fun e w' => e = .returned (.bool (s.data.toList.all valC)) ∧ w = w' := by
  go_enter Tryz.func141, Tryz.ntmps141
  go_wp2_with fail
  go_loopw [8] (fun iv wr => ∃ k : Nat, k ≤ s.size ∧ iv = .int .i64 (k : Int) ∧ wr = w ∧ Hid (∀ i, i < k → ∀ c, s.data.toList[i]? = some c → valC c = true)) (fun iv _ => s.size - (intOf iv).toNat)
  case atStart => exact ⟨0, by omega, rfl, rfl, hid (by omega)⟩
  case round =>
    obtain ⟨k, hk, rfl, rfl, hx⟩ := hrel
    by_cases hlt : k < s.size
    · go_wp2_with fail
      refine (val1_any _ _).mono ?_
      rintro e w1 ⟨rfl, rfl⟩
      cases hb : valC (s[k])
      · go_wp2_with fail
        go_ret
        exact ⟨by rw [all_not valC _ k _ (at_str s k hlt) hb]; rfl, rfl⟩
      · go_wp2_with fail
        go_roundw
        case rel => 
          refine ⟨k + 1, by omega, by simp, by simp, hid fun i hi c hc => ?_⟩
          by_cases hik : i = k
          · subst hik
            rw [at_str s i hlt] at hc
            cases hc
            exact hb
          · exact hx i (by omega) c hc
        case measure =>
          simp [intOf]
          omega
    · go_wp2_with fail
      go_ret
      exact ⟨by rw [all_upto valC _ k hx (by simpa using (show s.size ≤ k by omega))]; rfl, rfl⟩
set_option maxRecDepth 100000 in
/-- 'all' with a function whose calls turn nothing. -/
theorem all_tgt (s : ByteArray) (hs : s.size ≤ 9223372036854775807) (w : World) :
    Calls Tryz.prog 141 #[.string s, .func (.func 144) #[] #[]] w fun e w' => e = .returned (.bool (s.data.toList.all tgtC)) ∧ w = w' := by
  go_enter Tryz.func141, Tryz.ntmps141
  go_wp2_with fail
  go_loopw [8] (fun iv wr => ∃ k : Nat, k ≤ s.size ∧ iv = .int .i64 (k : Int) ∧ wr = w ∧ Hid (∀ i, i < k → ∀ c, s.data.toList[i]? = some c → tgtC c = true)) (fun iv _ => s.size - (intOf iv).toNat)
  case atStart => exact ⟨0, by omega, rfl, rfl, hid (by omega)⟩
  case round =>
    obtain ⟨k, hk, rfl, rfl, hx⟩ := hrel
    by_cases hlt : k < s.size
    · go_wp2_with fail
      refine (tgt1_any _ _).mono ?_
      rintro e w1 ⟨rfl, rfl⟩
      cases hb : tgtC (s[k])
      · go_wp2_with fail
        go_ret
        exact ⟨by rw [all_not tgtC _ k _ (at_str s k hlt) hb]; rfl, rfl⟩
      · go_wp2_with fail
        go_roundw
        case rel => 
          refine ⟨k + 1, by omega, by simp, by simp, hid fun i hi c hc => ?_⟩
          by_cases hik : i = k
          · subst hik
            rw [at_str s i hlt] at hc
            cases hc
            exact hb
          · exact hx i (by omega) c hc
        case measure =>
          simp [intOf]
          omega
    · go_wp2_with fail
      go_ret
      exact ⟨by rw [all_upto tgtC _ k hx (by simpa using (show s.size ≤ k by omega))]; rfl, rfl⟩

theorem not_empty (s : ByteArray) : (s.toList == ([] : List UInt8)) = s.data.toList.isEmpty := by
  rw [ByteArray.toList_eq]
  cases s.data.toList <;> rfl
set_option maxRecDepth 100000 in
theorem token_any (s : ByteArray) (hs : s.size ≤ 9223372036854775807) (w : World) : Calls Tryz.prog 86 #[.string s] w fun e w' => e = .returned (.bool (token s.data.toList)) ∧ w = w' := by
  have he := not_empty s
  go_enter Tryz.func86, Tryz.ntmps86
  cases h : s.data.toList.isEmpty
  · rw [h] at he
    go_wp2_with fail
    refine (all_tok _ hs _).mono ?_
    rintro e w1 ⟨rfl, rfl⟩
    go_wp2_with fail
    go_ret
    exact ⟨by simp [token, h], rfl⟩
  · rw [h] at he
    go_wp2_with fail
    go_ret
    exact ⟨by simp [token, h], rfl⟩
theorem target_any (s : ByteArray) (hs : s.size ≤ 9223372036854775807) (w : World) : Calls Tryz.prog 87 #[.string s] w fun e w' => e = .returned (.bool (target s.data.toList)) ∧ w = w' := by
  have he := not_empty s
  go_enter Tryz.func87, Tryz.ntmps87
  cases h : s.data.toList.isEmpty
  · rw [h] at he
    go_wp2_with fail
    refine (all_tgt _ hs _).mono ?_
    rintro e w1 ⟨rfl, rfl⟩
    go_wp2_with fail
    go_ret
    exact ⟨by simp [target, h], rfl⟩
  · rw [h] at he
    go_wp2_with fail
    go_ret
    exact ⟨by simp [target, h], rfl⟩
theorem value_any (s : ByteArray) (hs : s.size ≤ 9223372036854775807) (w : World) : Calls Tryz.prog 238 #[.string s] w fun e w' => e = .returned (.bool (s.data.toList.all valC)) ∧ w = w' := by
  go_enter Tryz.func238, Tryz.ntmps238
  go_wp2_with fail
  refine (all_val _ hs _).mono ?_
  rintro e w1 ⟨rfl, rfl⟩
  go_wp2_with fail
  go_ret
  exact ⟨by simp, rfl⟩
end Go.Proofs.YtpblgjadpfecgaaGreatDoor
/-
  Bytes of a message: Fold, Same, Trim of the package sign.
-/
namespace Go.Proofs.YtpblgjadpfecgaaGreatDoor
open Go.RowKit

def lowC (c : UInt8) : UInt8 := if 65 ≤ c && c ≤ 90 then c + 32 else c
def fold (l : List UInt8) : List UInt8 := l.map lowC
def foldK (l : List UInt8) (k : Nat) : List UInt8 := (l.take k).map lowC ++ l.drop k
def byteV (c : UInt8) : Value := .int .u8 (c.toNat : Int)

theorem b_cell' {w : World} {g : Nat} {t : TypeId} {cs : Array Value} {f : Nat × Nat} (h : w.heap[g]? = some (.cells cs t f)) (i : Nat) : w.cell? ⟨g, i, none⟩ = cs[i]? := cell_of_row w g i cs t f h
theorem b_free' {w : World} {g : Nat} {t : TypeId} {cs : Array Value} {a b : Nat} (h : w.heap[g]? = some (.cells cs t (a, b))) (i : Nat) (hi : i < a) : w.frozen? ⟨g, i, none⟩ = false := by
  simp [World.frozen?, h]; omega
theorem b_set' {w : World} {g : Nat} {t : TypeId} {cs : Array Value} {f : Nat × Nat} (h : w.heap[g]? = some (.cells cs t f)) (i : Nat) (u : Value) : (w.setCell ⟨g, i, none⟩ u).heap[g]? = some (.cells (cs.setIfInBounds i u) t f) := by
  simp [World.setCell, Array.getElem?_modify, h]

theorem foldK_at (l : List UInt8) (k : Nat) (hk : k < l.length) : (foldK l k)[k]? = l[k]? := by
  unfold foldK
  rw [List.getElem?_append_right (by simp; omega)]
  simp
  congr 1
  omega
theorem foldK_set (l : List UInt8) (k : Nat) (hk : k < l.length) : (foldK l k).set k (lowC l[k]) = foldK l (k + 1) := by
  apply List.ext_getElem?
  intro i
  unfold foldK
  rw [List.getElem?_set]
  by_cases h : k = i
  · subst h
    have h1 : k < ((l.take k).map lowC ++ l.drop k).length := by simp; omega
    rw [if_pos rfl, if_pos h1, List.getElem?_append_left (by simp; omega)]
    simp [List.getElem?_take, List.getElem?_eq_getElem hk]
  · rw [if_neg h]
    by_cases h2 : i < k
    · rw [List.getElem?_append_left (by simp; omega), List.getElem?_append_left (by simp; omega)]
      simp [List.getElem?_take, h2, show i < k + 1 by omega]
    · rw [List.getElem?_append_right (by simp; omega), List.getElem?_append_right (by simp; omega)]
      simp
      congr 1
      omega
theorem foldK_same (l : List UInt8) (k : Nat) (hk : k < l.length) (h : lowC l[k] = l[k]) : foldK l k = foldK l (k + 1) := by
  rw [← foldK_set l k hk, h]
  apply List.ext_getElem?
  intro i
  rw [List.getElem?_set]
  split
  · rename_i h; subst h
    split
    · rw [foldK_at l k hk, List.getElem?_eq_getElem hk]
    · rename_i h2
      exfalso
      apply h2
      simp [foldK]; omega
  · rfl
theorem foldK_full (l : List UInt8) (k : Nat) (hk : l.length ≤ k) : foldK l k = fold l := by
  simp [foldK, fold, List.take_of_length_le hk, List.drop_of_length_le hk]
theorem foldK_len (l : List UInt8) (k : Nat) : (foldK l k).length = l.length := by simp [foldK]; omega


/-- A block that begins with the bytes l. -/
def BytesAt (w : World) (g : Nat) (l : List UInt8) : Prop := ∃ (pad : List Value) (fr : Nat × Nat), w.heap[g]? = some (.cells (l.map byteV ++ pad).toArray 5 fr) ∧ (l.length ≤ fr.1 ∨ fr = (0, 0))
theorem BytesAt.lt {w : World} {g : Nat} {l : List UInt8} (h : BytesAt w g l) : g < w.heap.size := by
  obtain ⟨pad, fr, h1, _⟩ := h
  exact b_lt h1
theorem BytesAt.cell {w : World} {g : Nat} {l : List UInt8} (h : BytesAt w g l) (i : Nat) (hi : i < l.length) : w.cell? ⟨g, i, none⟩ = some (byteV l[i]) := by
  obtain ⟨pad, fr, h1, _⟩ := h
  rw [b_cell' h1, List.getElem?_toArray, List.getElem?_append_left (by simpa using hi)]
  simp [hi]
theorem BytesAt.free {w : World} {g : Nat} {l : List UInt8} (h : BytesAt w g l) (i : Nat) (hi : i < l.length) : w.frozen? ⟨g, i, none⟩ = false := by
  obtain ⟨pad, fr, h1, h2⟩ := h
  rcases h2 with h2 | h2
  · exact b_free' h1 i (by omega)
  · subst h2
    exact b_free h1 i
theorem BytesAt.set {w : World} {g : Nat} {l : List UInt8} (h : BytesAt w g l) (i : Nat) (hi : i < l.length) (c : UInt8) : BytesAt (w.setCell ⟨g, i, none⟩ (byteV c)) g (l.set i c) := by
  obtain ⟨pad, fr, h1, h2⟩ := h
  refine ⟨pad, fr, ?_, by simpa using h2⟩
  rw [b_set' h1]
  congr 2
  apply Array.ext'
  simp only [Array.toList_setIfInBounds]
  rw [List.set_append_left _ _ (by simpa using hi), List.map_set]
theorem BytesAt.keep {w w' : World} {S : Nat → Prop} {g : Nat} {l : List UInt8} (h : BytesAt w g l) (o : Only S w w') (hs : ¬ S g) : BytesAt w' g l := by
  obtain ⟨pad, fr, h1, h2⟩ := h
  exact ⟨pad, fr, o.keep h1 hs, h2⟩
theorem BytesAt.new (w : World) (s : ByteArray) (cap : Nat) (t : TypeId) (ht : t = 5) : BytesAt (w.alloc (.cells (bytesRow s cap) t ((bytesRow s cap).size, (bytesRow s cap).size + 1))) w.heap.size s.data.toList := by
  subst ht
  refine ⟨List.replicate (cap - s.size) (.int .u8 0), _, by rw [b_new]; congr 2; apply Array.ext'; simp [bytesRow, byteV], .inl ?_⟩
  simp [bytesRow]
/-- string(b) of bytes that lie so. -/
theorem BytesAt.str {w : World} {g : Nat} {l : List UInt8} (h : BytesAt w g l) (cap : Nat) : (convert 30 9 (.slice (some ⟨g, 0, none⟩) l.length cap)).run Tryz.prog w = .ok (.string (B l)) w :=
  run_convert_bytes_back w 30 9 5 ⟨g, 0, none⟩ cap l Tryz.underlying30 Tryz.underlying5 Tryz.underlying9 (fun j hj => by
    rw [Go.WideShapes.add_plain, Nat.zero_add]
    exact h.cell j hj)

theorem lowC_pos (c : UInt8) (h1 : 65 ≤ (c.toNat : Int)) (h2 : (c.toNat : Int) ≤ 90) : lowC c = c + 32 := by
  unfold lowC
  rw [if_pos]
  simp [UInt8.le_iff_toNat_le]
  omega
theorem lowC_neg (c : UInt8) (h : (c.toNat : Int) < 65 ∨ 90 < (c.toNat : Int)) : lowC c = c := by
  unfold lowC
  rw [if_neg]
  simp [UInt8.le_iff_toNat_le]
  omega

theorem fold_any (s : ByteArray) (hs : s.size ≤ 9223372036854775807) (w : World) : Calls Tryz.prog 139 #[.string s] w fun e w' => e = .returned (.string (B (fold s.data.toList))) ∧ Only (fun _ => False) w w' := by
  have kc := fun w => run_bytes_of_string (P := Tryz.prog) w 9 30 5 s Tryz.underlying9 Tryz.underlying30 Tryz.underlying5
  go_enter Tryz.func139, Tryz.ntmps139
  go_wp2_with fail
  generalize grownCap w s.size 0 5 = cap
  clear kc
  have H0 : BytesAt ((w.alloc (.cells (bytesRow s cap) 5 ((bytesRow s cap).size, (bytesRow s cap).size + 1))).drew) w.heap.size s.data.toList := BytesAt.new w s cap 5 rfl
  have O0 := (((Only.refl (fun _ => False) w).alloc (.cells (bytesRow s cap) 5 ((bytesRow s cap).size, (bytesRow s cap).size + 1))).drew)
  generalize (w.alloc (.cells (bytesRow s cap) 5 ((bytesRow s cap).size, (bytesRow s cap).size + 1))).drew = w1 at H0 O0 ⊢
  have e0 : foldK s.data.toList 0 = s.data.toList := by simp [foldK]
  rw [← e0] at H0
  clear e0
  obtain ⟨g, hg⟩ : ∃ g, g = w.heap.size := ⟨_, rfl⟩
  rw [← hg] at H0
  have hsz : s.size = s.data.toList.length := by simp
  have hlen := foldK_len s.data.toList
  obtain ⟨l, hl⟩ : ∃ l, l = s.data.toList := ⟨_, rfl⟩
  rw [← hl] at H0 hsz hlen
  rw [← hg]
  replace hg := hid hg
  replace hl := hid hl
  replace hsz := hid hsz
  replace hlen := hid hlen
  go_loopw [10] (fun iv wr => ∃ k : Nat, k ≤ s.size ∧ iv = .int .i64 (k : Int) ∧ BytesAt wr g (foldK l k) ∧ Only (fun _ => False) w wr) (fun iv _ => s.size - (intOf iv).toNat)
  case atStart => exact ⟨0, by omega, rfl, H0, O0⟩
  case round =>
    clear H0 O0
    obtain ⟨k, hk, rfl, H, O⟩ := hrel
    by_cases hlt : k < s.size
    · have hkl : k < l.length := by have := hsz.out; omega
      have hc := H.cell k (by rw [hlen.out]; exact hkl)
      have hf := H.free k (by rw [hlen.out]; exact hkl)
      have hc' : (foldK l k)[k]'(by rw [hlen.out]; exact hkl) = l[k] := by
        have := foldK_at l k hkl
        rw [List.getElem?_eq_getElem (by rw [hlen.out]; exact hkl), List.getElem?_eq_getElem hkl] at this
        exact Option.some.inj this
      rw [hc'] at hc
      unfold byteV at hc
      clear hc'
      by_cases hb : 65 ≤ (l[k].toNat : Int) ∧ (l[k].toNat : Int) ≤ 90
      · obtain ⟨hb1, hb2⟩ := hb
        have hset := H.set k (by rw [hlen.out]; exact hkl) (lowC l[k])
        rw [foldK_set l k hkl] at hset
        have hO := O.setCell (p := ⟨g, k, none⟩) (.inr (by rw [hg.out]; exact Nat.le_refl _)) (byteV (lowC l[k]))
        have hv : byteV (lowC l[k]) = .int .u8 ((l[k].toNat : Int) + 97 - 65) := by
          rw [lowC_pos _ hb1 hb2]
          unfold byteV
          rw [UInt8.toNat_add]
          congr 1
          have : (32 : UInt8).toNat = 32 := rfl
          rw [this]
          omega
        rw [hv] at hset hO
        clear hv
        generalize (l[k].toNat : Int) = n at *
        go_wp2_with fail
        go_roundw
        case rel => exact ⟨k + 1, by omega, by simp, hset, hO⟩
        case measure => simp [intOf]; omega
      · have hb' : (l[k].toNat : Int) < 65 ∨ 90 < (l[k].toNat : Int) := by omega
        rw [foldK_same l k hkl (lowC_neg _ hb')] at H
        generalize (l[k].toNat : Int) = n at *
        rcases hb' with hb' | hb'
        all_goals
          go_wp2_with fail
          go_roundw
          case rel => exact ⟨k + 1, by omega, by simp, H, O⟩
          case measure => simp [intOf]; omega
    · have hk' : l.length ≤ k := by have := hsz.out; omega
      rw [foldK_full l k hk'] at H
      have hstr := H.str cap
      have hfl : (fold l).length = s.size := by have := hsz.out; simp [fold]; omega
      rw [hfl] at hstr
      clear hfl
      go_wp2_with fail
      go_ret
      refine ⟨?_, O⟩
      rw [← hl.out]
      rfl
end Go.Proofs.YtpblgjadpfecgaaGreatDoor
/-
  Same, Trim, number, Decimal, Hex of the package sign.
-/
namespace Go.Proofs.YtpblgjadpfecgaaGreatDoor
open Go.RowKit

def same (a b : List UInt8) : Bool := a.length == b.length && fold a == fold b
theorem fold_len (l : List UInt8) : (fold l).length = l.length := by simp [fold]
def blanks : List UInt8 := [32, 9]
def trim (l : List UInt8) : List UInt8 := Lib.trimS l blanks
theorem trim_any (s : ByteArray) (hs : s.size ≤ 9223372036854775807) (w : World) : Calls Tryz.prog 296 #[.string s] w fun e w' => e = .returned (.string (B (trim s.data.toList))) ∧ Only (fun _ => False) w w' := by
  go_enter Tryz.func296, Tryz.ntmps296
  go_wp2_with fail
  refine (Any.strings_Trim_laid Tryz.lays160 (by kernel_rfl) s ⟨#[32, 9]⟩ w hs (by decide) (ascii_of_all (by decide))).mono ?_
  rintro e w1 ⟨rfl, hb⟩
  go_wp2_with fail
  go_ret
  exact ⟨rfl, Only.of_below hb⟩

set_option maxRecDepth 100000 in
theorem same_any (a b : ByteArray) (ha : a.size ≤ 9223372036854775807) (hb : b.size ≤ 9223372036854775807) (w : World) : Calls Tryz.prog 224 #[.string a, .string b] w fun e w' => e = .returned (.bool (same a.data.toList b.data.toList)) ∧ Only (fun _ => False) w w' := by
  go_enter Tryz.func224, Tryz.ntmps224
  by_cases h : (a.size : Int) = b.size
  · go_wp2_with fail
    refine (fold_any _ ha _).mono ?_
    rintro e w1 ⟨rfl, O1⟩
    go_wp2_with fail
    refine (fold_any _ hb _).mono ?_
    rintro e w2 ⟨rfl, O2⟩
    go_wp2_with fail
    go_ret
    refine ⟨?_, O1.trans O2⟩
    have h2 : a.data.toList.length = b.data.toList.length := by simp; omega
    simp [same, h2]
  · go_wp2_with fail
    go_ret
    refine ⟨?_, Only.refl _ _⟩
    have h2 : ¬ a.data.toList.length = b.data.toList.length := by simp; omega
    simp only [same]
    rw [show (a.data.toList.length == b.data.toList.length) = false by simpa using h2]
    simp

def hexes : List UInt8 := [48, 49, 50, 51, 52, 53, 54, 55, 56, 57, 97, 98, 99, 100, 101, 102]
def dig (c : UInt8) : Int := Lib.indexByte hexes (lowC c)
def numGo (base most : Nat) : Nat → Int → List UInt8 → Option Int
  | _, n, [] => some n
  | i, n, c :: t => if dig c < 0 ∨ (base : Int) ≤ dig c then none else numGo base most (i + 1) (if i < most then wrap64 (wrap64 (n * base) + dig c) else n) t
def number (base most : Nat) (l : List UInt8) : Int × Bool :=
  match numGo base most 0 0 l with
  | none => (0, false)
  | some n => if l.isEmpty || decide (most < l.length) then (0, false) else (n, true)

theorem one_at (s : ByteArray) (k : Nat) (h : k < s.size) : (s.extract k (k + 1)).data.toList = [s[k]] := by
  rw [ByteArray.data_extract, Array.toList_extract, List.extract_eq_take_drop, show k + 1 - k = 1 by omega]
  rw [List.drop_eq_getElem_cons (by simpa using h)]
  simp
  rfl

theorem dig_call (c : UInt8) (w : World) : Calls Tryz.prog 138 #[.string ⟨#[48, 49, 50, 51, 52, 53, 54, 55, 56, 57, 97, 98, 99, 100, 101, 102]⟩, .int .u8 (lowC c).toNat] w fun e w' => e = .returned (.int .i64 (dig c)) ∧ w' = w := by
  refine (Tryz.strings_IndexByte _ _ w).mono ?_
  rintro e w1 ⟨rfl, rfl⟩
  exact ⟨by simp [dig, hexes], rfl⟩

set_option maxRecDepth 100000 in
theorem number_any (base most : Nat) (s : ByteArray) (hs : s.size ≤ 9223372036854775807) (hm : most ≤ 100) (hb : base ≤ 100) (w : World) :
    Calls Tryz.prog 83 #[.string s, .int .i64 base, .int .i64 most] w fun e w' => e = .returned (.tuple #[.int .i64 (number base most s.data.toList).1, .bool (number base most s.data.toList).2]) ∧ Only (fun _ => False) w w' := by
  have he := not_empty s
  go_enter Tryz.func83, Tryz.ntmps83
  go_wp2_with fail
  go_loopw [8, 13] (fun nv iv wr => ∃ (k : Nat) (n : Int), k ≤ s.size ∧ nv = .int .i64 n ∧ iv = .int .i64 (k : Int) ∧ Only (fun _ => False) w wr ∧ Hid (numGo base most k n (s.data.toList.drop k) = numGo base most 0 0 s.data.toList)) (fun _ iv _ => s.size - (intOf iv).toNat)
  case atStart => exact ⟨0, 0, by omega, rfl, rfl, Only.refl _ _, hid rfl⟩
  case round =>
    obtain ⟨k, n, hk, rfl, rfl, O, hn⟩ := hrel
    by_cases hlt : k < s.size
    · have hx := one_at s k hlt
      have hfx : B (fold [s[k]]) = B [lowC s[k]] := rfl
      go_wp2_with fail
      refine (fold_any _ (by simp; omega) _).mono ?_
      rintro e w1 ⟨rfl, O1⟩
      rw [hx, hfx]
      go_wp2_with fail
      refine (dig_call s[k] w1).mono ?_
      rintro e w2 ⟨rfl, rfl⟩
      clear hx hfx
      have hd : s.data.toList.drop k = s[k] :: s.data.toList.drop (k + 1) := by
        rw [List.drop_eq_getElem_cons (by simpa using hlt)]
        rfl
      rw [hd] at hn
      clear hd
      generalize s[k] = c at hn ⊢
      by_cases h1 : dig c < 0
      · go_wp2_with fail
        go_ret2
        have : numGo base most 0 0 s.data.toList = none := by rw [← hn.out]; simp [numGo, h1]
        exact ⟨by simp [number, this], O.trans O1⟩
      · by_cases h2 : (base : Int) ≤ dig c
        · go_wp2_with fail
          go_ret2
          have : numGo base most 0 0 s.data.toList = none := by rw [← hn.out]; simp [numGo, h2]
          exact ⟨by simp [number, this], O.trans O1⟩
        · have hn' : Hid (numGo base most (k + 1) (if k < most then wrap64 (wrap64 (n * base) + dig c) else n) (s.data.toList.drop (k + 1)) = numGo base most 0 0 s.data.toList) := by
            have := hn.out
            rw [numGo, if_neg (by omega)] at this
            exact this
          clear hn
          by_cases h3 : k < most
          · rw [if_pos h3] at hn'
            go_wp2_with fail
            go_roundw
            case rel => exact ⟨k + 1, _, by omega, rfl, by simp, O.trans O1, hn'⟩
            case measure => simp [intOf]; omega
          · rw [if_neg h3] at hn'
            go_wp2_with fail
            go_roundw
            case rel => exact ⟨k + 1, _, by omega, rfl, by simp, O.trans O1, hn'⟩
            case measure => simp [intOf]; omega
    · have hN : numGo base most 0 0 s.data.toList = some n := by
        rw [← hn.out, List.drop_of_length_le (by simp; omega)]
        rfl
      cases h : s.data.toList.isEmpty
      · rw [h] at he
        by_cases h4 : most < s.size
        · go_wp2_with fail
          go_ret2
          exact ⟨by simp [number, hN, h4], O⟩
        · go_wp2_with fail
          go_ret2
          exact ⟨by simp [number, hN, h4, h], O⟩
      · rw [h] at he
        go_wp2_with fail
        go_ret2
        exact ⟨by simp [number, hN, h], O⟩
theorem decimal_any (s : ByteArray) (hs : s.size ≤ 9223372036854775807) (w : World) :
    Calls Tryz.prog 45 #[.string s] w fun e w' => e = .returned (.tuple #[.int .i64 (number 10 18 s.data.toList).1, .bool (number 10 18 s.data.toList).2]) ∧ Only (fun _ => False) w w' := by
  go_enter Tryz.func45, Tryz.ntmps45
  go_wp2_with fail
  refine (number_any 10 18 s hs (by decide) (by decide) _).mono ?_
  rintro e w1 ⟨rfl, O1⟩
  go_wp2_with fail
  go_ret2
  exact ⟨rfl, O1⟩
theorem hex_any (s : ByteArray) (hs : s.size ≤ 9223372036854775807) (w : World) :
    Calls Tryz.prog 314 #[.string s] w fun e w' => e = .returned (.tuple #[.int .i64 (number 16 15 s.data.toList).1, .bool (number 16 15 s.data.toList).2]) ∧ Only (fun _ => False) w w' := by
  go_enter Tryz.func314, Tryz.ntmps314
  go_wp2_with fail
  refine (number_any 16 15 s hs (by decide) (by decide) _).mono ?_
  rintro e w1 ⟨rfl, O1⟩
  go_wp2_with fail
  go_ret2
  exact ⟨rfl, O1⟩
end Go.Proofs.YtpblgjadpfecgaaGreatDoor
/-
  Fields: right, Line of the package field.
-/
namespace Go.Proofs.YtpblgjadpfecgaaGreatDoor
open Go.RowKit

def right (n v : List UInt8) : Bool := decide (n.length ≤ 100) && (token n && (decide (v.length ≤ 1000) && (v.all valC && (trim v == v))))

set_option maxRecDepth 100000 in
set_option maxHeartbeats 1000000 in
theorem right_any (n v : ByteArray) (w : World) : Calls Tryz.prog 297 #[.agg #[.string n, .string v]] w fun e w' => e = .returned (.bool (right n.data.toList v.data.toList)) ∧ Only (fun _ => False) w w' := by
  obtain ⟨wb, hwb⟩ : ∃ wb, w.alloc (.cells #[.string n, .string v] 197) = wb := ⟨_, rfl⟩
  have O0 : Only (fun _ => False) w wb := by rw [← hwb]; exact (Only.refl _ w).alloc _
  have hb : wb.heap[w.heap.size]? = some (.cells #[.string n, .string v] 197) := by rw [← hwb]; exact b_new _ _
  have hwl := b_lt hb
  have c0 := b_cell hb 0
  have c1 := b_cell hb 1
  simp only [List.getElem?_toArray, List.getElem?_cons_zero, List.getElem?_cons_succ] at c0 c1
  obtain ⟨g, hg⟩ : ∃ g, w.heap.size = g := ⟨_, rfl⟩
  rw [hg] at hb c0 c1 hwl
  have hQ : right n.data.toList v.data.toList = (decide (n.data.toList.length ≤ 100) && (token n.data.toList && (decide (v.data.toList.length ≤ 1000) && (v.data.toList.all valC && (trim v.data.toList == v.data.toList))))) := rfl
  rw [show n.data.toList.length = n.size by simp, show v.data.toList.length = v.size by simp] at hQ
  rw [show decide (n.size ≤ 100) = decide ((n.size : Int) ≤ 100) from decide_eq_decide.2 (by omega), show decide (v.size ≤ 1000) = decide ((v.size : Int) ≤ 1000) from decide_eq_decide.2 (by omega)] at hQ
  replace hQ := hid hQ
  go_enter Tryz.func297, Tryz.ntmps297
  go_upto_region 1 with (fail)
  clear hwb hg
  cases d1 : decide ((n.size : Int) ≤ 100)
  · go_quiet (fail)
    go_wp2_with fail
    go_ret
    refine ⟨?_, O0.drewN nq⟩
    rw [hQ.out]
    simp only [d1, Bool.false_and]
    rfl
  have hs1 : n.size ≤ 9223372036854775807 := by have := of_decide_eq_true d1; omega
  cases d2 : token n.data.toList
  · go_quiet ((go_at_call 86; exact Calls.quiet_of_same ((token_any n hs1 _).mono fun _ _ ⟨h1, h2⟩ => ⟨h1, h2.symm⟩)))
    go_wp2_with fail
    go_ret
    refine ⟨?_, O0.drewN nq⟩
    rw [hQ.out]
    simp only [d1, d2, Bool.false_and, Bool.true_and]
    rfl
  cases d3 : decide ((v.size : Int) ≤ 1000)
  · go_quiet ((go_at_call 86; exact Calls.quiet_of_same ((token_any n hs1 _).mono fun _ _ ⟨h1, h2⟩ => ⟨h1, h2.symm⟩)))
    go_wp2_with fail
    go_ret
    refine ⟨?_, O0.drewN nq⟩
    rw [hQ.out]
    simp only [d1, d2, d3, Bool.false_and, Bool.true_and]
    rfl
  have hs2 : v.size ≤ 9223372036854775807 := by have := of_decide_eq_true d3; omega
  cases d4 : v.data.toList.all valC
  · go_quiet ((first | (go_at_call 86; exact Calls.quiet_of_same ((token_any n hs1 _).mono fun _ _ ⟨h1, h2⟩ => ⟨h1, h2.symm⟩)) | (go_at_call 238; exact Calls.quiet_of_same ((value_any v hs2 _).mono fun _ _ ⟨h1, h2⟩ => ⟨h1, h2.symm⟩))))
    go_wp2_with fail
    go_ret
    refine ⟨?_, O0.drewN nq⟩
    rw [hQ.out]
    simp only [d1, d2, d3, d4, Bool.false_and, Bool.true_and]
    rfl
  replace hQ := hQ.out
  simp only [d1, d2, d3, d4, Bool.true_and] at hQ
  replace hQ := hid hQ
  go_region_held3 (fun w' => w'.cell? ⟨g, 0, none⟩ = some (.string n) ∧ w'.cell? ⟨g, 1, none⟩ = some (.string v)) (go_keep)
    (first
      | (go_at_call 86; refine (token_any n hs1 _).mono ?_; rintro e w1 ⟨rfl, rfl⟩; rw [d2])
      | (go_at_call 238; refine (value_any v hs2 _).mono ?_; rintro e w1 ⟨rfl, rfl⟩; rw [d4])
      | (go_at_call 296; refine (trim_any v hs2 _).mono ?_; rintro e w1 ⟨rfl, o1⟩; have o2 : Only (fun _ => False) wb w1 := ⟨o1.os, o1.tape, o1.output, o1.size, o1.block⟩; have e0 := (o2.cell (p := ⟨g, 0, none⟩) hwl (fun h => h)).trans c0; have e1 := (o2.cell (p := ⟨g, 1, none⟩) hwl (fun h => h)).trans c1))
  go_wp2_with fail
  go_ret
  refine ⟨?_, O0.trans o2⟩
  rw [hQ.out, ByteArray.toList_eq]
  rfl
end Go.Proofs.YtpblgjadpfecgaaGreatDoor
