/-
  Cut of the package line.
-/
import Derived.Test.YtpblgjadpfecgaaGreatDoorK1
import Derived.Laws.ResultCell
import Derived.Laws.Rows
import Derived.Test.YtpblgjadpfecgaaGreatDoorI
import Derived.Laws.RangeAny
import Derived.Laws.Slices
import Derived.Laws.Strings3
set_option linter.unusedSimpArgs false
set_option linter.unusedVariables false
namespace Go.Proofs.YtpblgjadpfecgaaGreatDoor
open Go.RowKit

/-- The line with which bytes begin: the line, how many bytes it takes, an error's number. -/
def cutGo (most : Nat) (whole : List UInt8) : Nat → List UInt8 → List UInt8 × Nat × Int
  | _, [] => ([], 0, 0)
  | i, c :: t =>
    if c = 10 then ([], 0, 20)
    else if c = 13 then
      match t with
      | [] => ([], 0, 0)
      | d :: _ => if d = 10 then (whole.take i, i + 2, 0) else ([], 0, 20)
    else if most ≤ i then ([], 0, 2)
    else cutGo most whole (i + 1) t
theorem cutGo_cons (most : Nat) (whole : List UInt8) (i : Nat) (c : UInt8) (t : List UInt8) : cutGo most whole i (c :: t) =
    if c = 10 then (([], 0, 20) : List UInt8 × Nat × Int)
    else if c = 13 then
      match t with
      | [] => ([], 0, 0)
      | d :: _ => if d = 10 then (whole.take i, i + 2, 0) else ([], 0, 20)
    else if most ≤ i then ([], 0, 2)
    else cutGo most whole (i + 1) t := by
  rw [cutGo.eq_def]
theorem cutGo_nil (most : Nat) (whole : List UInt8) (i : Nat) : cutGo most whole i [] = ([], 0, 0) := by rw [cutGo.eq_def]
def cutF (b : List UInt8) (most : Nat) : List UInt8 × Nat × Int := cutGo most b 0 b

theorem u8_eq (c : UInt8) (k : UInt8) (h : c = k) : (c.toNat : Int) = (k.toNat : Int) := by rw [h]
theorem u8_ne (c : UInt8) (k : UInt8) (h : ¬ c = k) : ¬ (c.toNat : Int) = (k.toNat : Int) := fun e => h (UInt8.toNat_inj.1 (by omega))
theorem Bs.str {w : World} {A : Option Addr} {n c : Nat} {l : List UInt8} (h : Bs w A n c l) : (convert 30 9 (.slice A n c)).run Tryz.prog w = .ok (.string (B l)) w := by
  have hl := h.len
  subst hl
  cases A with
  | none =>
    obtain ⟨h1, _⟩ := h.nil rfl
    obtain rfl : l = [] := List.eq_nil_of_length_eq_zero h1
    rw [run_convert_bytes_string w 30 9 5 none _ _ Tryz.underlying30 Tryz.underlying5 Tryz.underlying9]
    rfl
  | some a =>
    refine run_convert_bytes_back w 30 9 5 a c l Tryz.underlying30 Tryz.underlying5 Tryz.underlying9 (fun j hj => ?_)
    obtain ⟨b, off, e, _, hc⟩ := h.at_ j _ (List.getElem?_eq_getElem hj)
    cases e
    rw [Go.WideShapes.add_plain]
    exact hc

set_option maxRecDepth 100000 in
set_option maxHeartbeats 2000000 in
theorem cut_any (b : List UInt8) (most : Nat) (A : Option Addr) (n c : Nat) (w : World) (hB : Bs w A n c b) (hn : n ≤ 1000000000) (hm : most ≤ 1000000000) :
    Calls Tryz.prog 235 #[.slice A n c, .int .i64 (most : Int)] w fun e w' => e = .returned (.tuple #[.string (B (cutF b most).1), .int .i64 ((cutF b most).2.1 : Int), .int .i64 (cutF b most).2.2]) ∧ w = w' := by
  obtain ⟨X, hX⟩ : ∃ X, cutF b most = X := ⟨_, rfl⟩
  rw [hX]
  have hmx : max (most : Int) 0 = most := by omega
  have hlen := hid hB.len
  have hle := hB.le
  go_enter Tryz.func235, Tryz.ntmps235
  go_wp2_with fail
  go_loopw [11] (fun iv wr => ∃ k : Nat, k ≤ n ∧ iv = .int .i64 (k : Int) ∧ wr = w ∧ Hid (cutGo most b k (b.drop k) = X)) (fun iv _ => n - (intOf iv).toNat)
  case atStart => exact ⟨0, by omega, rfl, rfl, hX⟩
  case round =>
    obtain ⟨k, hk, rfl, rfl, hgo⟩ := hrel
    by_cases hlt : k < n
    · obtain ⟨p, hp⟩ : ∃ p, b[k]? = some p := ⟨_, List.getElem?_eq_getElem (by rw [hlen.out]; exact hlt)⟩
      obtain ⟨g, off, rfl, hb, c0⟩ := hB.at_ k p hp
      have hd : b.drop k = p :: b.drop (k + 1) := by
        have hk' : k < b.length := by rw [hlen.out]; exact hlt
        rw [List.drop_eq_getElem_cons hk']
        rw [List.getElem?_eq_getElem hk'] at hp
        rw [Option.some.inj hp]
      have hgo' := hgo.out
      rw [hd, cutGo_cons] at hgo'
      clear hd hgo
      by_cases h10 : p = 10
      · rw [if_pos h10] at hgo'
        have v := u8_eq p 10 h10
        change (p.toNat : Int) = 10 at v
        replace hgo' := hid hgo'
        replace h10 := hid h10
        rw [v] at c0
        clear v
        go_wp2_with fail
        go_ret3
        exact ⟨by rw [← hgo'.out]; rfl, rfl⟩
      · rw [if_neg h10] at hgo'
        have v10 := u8_ne p 10 h10
        change ¬ (p.toNat : Int) = 10 at v10
        replace h10 := hid h10
        by_cases h13 : p = 13
        · rw [if_pos h13] at hgo'
          have v := u8_eq p 13 h13
          change (p.toNat : Int) = 13 at v
          replace h13 := hid h13
          rw [v] at c0
          clear v v10
          by_cases hk1 : k + 1 < n
          · obtain ⟨q, hq⟩ : ∃ q, b[k + 1]? = some q := ⟨_, List.getElem?_eq_getElem (by rw [hlen.out]; exact hk1)⟩
            obtain ⟨g', off', e, _, c1⟩ := hB.at_ (k + 1) q hq
            cases e
            have hd : b.drop (k + 1) = q :: b.drop (k + 1 + 1) := by
              have hk' : k + 1 < b.length := by rw [hlen.out]; exact hk1
              rw [List.drop_eq_getElem_cons hk']
              rw [List.getElem?_eq_getElem hk'] at hq
              rw [Option.some.inj hq]
            rw [hd] at hgo'
            clear hd
            simp only at hgo'
            by_cases hq10 : q = 10
            · rw [if_pos hq10] at hgo'
              have v := u8_eq q 10 hq10
              change (q.toNat : Int) = 10 at v
              replace hq10 := hid hq10
              rw [v] at c1
              clear v
              replace hgo' := hid hgo'
              have sl := run_h (some ⟨g, off, none⟩) n c k (by omega)
              have sl' := run_h' (some ⟨g, off, none⟩) n c k (by omega)
              have st := (hB.take k (by omega)).str
              go_wp2_with fail
              go_ret3
              exact ⟨by rw [← hgo'.out]; rfl, rfl⟩
            · rw [if_neg hq10] at hgo'
              have v := u8_ne q 10 hq10
              change ¬ (q.toNat : Int) = 10 at v
              replace hq10 := hid hq10
              replace hgo' := hid hgo'
              generalize (q.toNat : Int) = vq at *
              have vb : (vq != 10) = true := by simpa using v
              go_wp2_with fail
              go_ret3
              exact ⟨by rw [← hgo'.out]; rfl, rfl⟩
          · have hd : b.drop (k + 1) = [] := List.drop_of_length_le (by rw [hlen.out]; omega)
            rw [hd] at hgo'
            simp only at hgo'
            replace hgo' := hid hgo'
            have hkn : (k : Int) + 1 = n := by omega
            go_wp2_with fail
            go_ret3
            exact ⟨by rw [← hgo'.out]; rfl, rfl⟩
        · rw [if_neg h13] at hgo'
          have v13 := u8_ne p 13 h13
          change ¬ (p.toNat : Int) = 13 at v13
          replace h13 := hid h13
          generalize (p.toNat : Int) = v at *
          by_cases hmk : most ≤ k
          · rw [if_pos hmk] at hgo'
            replace hgo' := hid hgo'
            go_wp2_with fail
            go_ret3
            exact ⟨by rw [← hgo'.out]; rfl, rfl⟩
          · rw [if_neg hmk] at hgo'
            replace hgo' := hid hgo'
            go_wp2_with fail
            go_roundw
            case rel => exact ⟨k + 1, by omega, by simp, by simp, hgo'⟩
            case measure => simp [intOf]; omega
    · have hd : b.drop k = [] := List.drop_of_length_le (by rw [hlen.out]; omega)
      rw [hd, cutGo_nil] at hgo
      go_wp2_with fail
      go_ret3
      exact ⟨by rw [← hgo.out]; rfl, rfl⟩
end Go.Proofs.YtpblgjadpfecgaaGreatDoor
/-
  Request of the package line.
-/
namespace Go.Proofs.YtpblgjadpfecgaaGreatDoor
open Go.RowKit

def digitC (c : UInt8) : Bool := 48 ≤ c && c ≤ 57
theorem digit_any (c : UInt8) (w : World) : Calls Tryz.prog 312 #[.int .u8 c.toNat] w fun e w' => e = .returned (.bool (digitC c)) ∧ w = w' := by
  have h : digitC c = (decide ((48 : Int) ≤ c.toNat) && decide ((c.toNat : Int) ≤ 57)) := by
    unfold digitC
    simp only [UInt8.le_iff_toNat_le]
    norm_cast
  rw [h]
  clear h
  generalize (c.toNat : Int) = n
  go_enter Tryz.func312, Tryz.ntmps312
  go_wp2
  all_goals
    go_ret
    refine ⟨rb ?_, rfl⟩
    first | (simp; done) | (simp; omega) | (simp [*]; done) | (simp [*]; omega)

def v10 : List UInt8 := [72, 84, 84, 80, 47, 49, 46, 48]
def v11 : List UInt8 := [72, 84, 84, 80, 47, 49, 46, 49]
def minorF (s : List UInt8) : Int × Bool := if s == v10 then (0, true) else if s == v11 then (1, true) else (0, false)
theorem minor_any (s : ByteArray) (w : World) : Calls Tryz.prog 237 #[.string s] w fun e w' => e = .returned (.tuple #[.int .i64 (minorF s.data.toList).1, .bool (minorF s.data.toList).2]) ∧ w = w' := by
  have h1 : (s.toList == v10) = (s.data.toList == v10) := by rw [ByteArray.toList_eq]
  have h2 : (s.toList == v11) = (s.data.toList == v11) := by rw [ByteArray.toList_eq]
  unfold minorF
  rw [← h1, ← h2]
  clear h1 h2
  unfold v10 v11
  go_enter Tryz.func237, Tryz.ntmps237
  cases h1 : (s.toList == ([72, 84, 84, 80, 47, 49, 46, 48] : List UInt8))
  · cases h2 : (s.toList == ([72, 84, 84, 80, 47, 49, 46, 49] : List UInt8))
    · go_wp2_with fail
      go_ret2
      exact ⟨rfl, rfl⟩
    · go_wp2_with fail
      go_ret2
      exact ⟨rfl, rfl⟩
  · go_wp2_with fail
    go_ret2
    exact ⟨rfl, rfl⟩

def sHTTP : List UInt8 := [72, 84, 84, 80, 47]
def numbered3 : List UInt8 → Bool
  | [a, b, c] => digitC a && (b == 46 && digitC c)
  | _ => false
def numberedF (s : List UInt8) : Bool := Lib.hasPrefix s sHTTP && numbered3 (Lib.trimPrefix s sHTTP)
set_option maxRecDepth 100000 in
theorem numbered_any (s : ByteArray) (w : World) : Calls Tryz.prog 275 #[.string s] w fun e w' => e = .returned (.bool (numberedF s.data.toList)) ∧ w = w' := by
  have hF : numberedF s.data.toList = (Lib.hasPrefix s.data.toList sHTTP && numbered3 (Lib.trimPrefix s.data.toList sHTTP)) := rfl
  replace hF := hid hF
  go_enter Tryz.func275, Tryz.ntmps275
  go_wp2_with fail
  refine (Tryz.strings_CutPrefix s ⟨#[72, 84, 84, 80, 47]⟩ w).mono ?_
  rintro e w1 ⟨rfl, rfl⟩
  rw [show (⟨#[72, 84, 84, 80, 47]⟩ : ByteArray).data.toList = sHTTP from rfl]
  generalize Lib.hasPrefix s.data.toList sHTTP = hp at *
  generalize Lib.trimPrefix s.data.toList sHTTP = r at *
  cases hp
  · go_wp2_with fail
    go_ret
    exact ⟨by rw [hF.out]; rfl, rfl⟩
  match r, hF with
  | [], hF =>
    go_wp2_with fail
    go_ret
    exact ⟨by rw [hF.out]; rfl, rfl⟩
  | [a], hF =>
    go_wp2_with fail
    go_ret
    exact ⟨by rw [hF.out]; rfl, rfl⟩
  | [a, b], hF =>
    go_wp2_with fail
    go_ret
    exact ⟨by rw [hF.out]; rfl, rfl⟩
  | a :: b :: c :: d :: t, hF =>
    have hx : ¬ (((⟨(a :: b :: c :: d :: t).toArray⟩ : ByteArray)).size : Int) = 3 := by
      show ¬ (((a :: b :: c :: d :: t).length : Nat) : Int) = 3
      simp only [List.length_cons]
      omega
    obtain ⟨z, hz⟩ : ∃ z : ByteArray, ⟨(a :: b :: c :: d :: t).toArray⟩ = z := ⟨_, rfl⟩
    rw [hz] at hx ⊢
    clear hz
    go_wp2_with fail
    go_ret
    exact ⟨by rw [hF.out]; rfl, rfl⟩
  | [a, b, c], hF =>
    have hF' : Hid (numberedF s.data.toList = (digitC a && (b == 46 && digitC c))) := hid (by rw [hF.out]; rfl)
    clear hF
    go_wp2_with fail
    refine (digit_any a w1).mono ?_
    rintro e w2 ⟨rfl, rfl⟩
    cases ha : digitC a
    · have hR : Hid (numberedF s.data.toList = false) := hid (by rw [hF'.out, ha]; rfl)
      replace ha := hid ha
      go_wp2_with fail
      go_ret
      exact ⟨by rw [hR.out]; rfl, rfl⟩
    · by_cases hb : b = 46
      · subst hb
        replace ha := hid ha
        go_wp2_with fail
        refine (digit_any c w1).mono ?_
        rintro e w2 ⟨rfl, rfl⟩
        have hR : Hid (numberedF s.data.toList = digitC c) := hid (by rw [hF'.out, ha.out]; simp)
        generalize digitC c = z at *
        go_wp2_with fail
        go_ret
        exact ⟨by rw [hR.out]; rfl, rfl⟩
      · have hR : Hid (numberedF s.data.toList = false) := hid (by
          rw [hF'.out]
          have : (b == 46) = false := by simpa using hb
          rw [this]
          simp)
        have v := u8_ne b 46 hb
        change ¬ (b.toNat : Int) = 46 at v
        replace ha := hid ha
        replace hb := hid hb
        go_wp2_with fail
        go_ret
        exact ⟨by rw [hR.out]; rfl, rfl⟩

def sOPT : List UInt8 := [79, 80, 84, 73, 79, 78, 83]
/-- A request's target. -/
def targetF (m s : List UInt8) : Bool := target s && (s.head? == some 47 || (s == [42] && m == sOPT))
set_option maxRecDepth 100000 in
theorem lineTarget_any (m s : ByteArray) (hs : s.size ≤ 9223372036854775807) (w : World) : Calls Tryz.prog 274 #[.string m, .string s] w fun e w' => e = .returned (.bool (targetF m.data.toList s.data.toList)) ∧ w = w' := by
  have hF : targetF m.data.toList s.data.toList = (target s.data.toList && (s.data.toList.head? == some 47 || (s.toList == [42] && m.toList == ([79, 80, 84, 73, 79, 78, 83] : List UInt8)))) := by
    rw [ByteArray.toList_eq, ByteArray.toList_eq]; rfl
  replace hF := hid hF
  go_enter Tryz.func274, Tryz.ntmps274
  go_wp2_with fail
  refine (target_any s hs w).mono ?_
  rintro e w1 ⟨rfl, rfl⟩
  cases ht : target s.data.toList
  · have hR : Hid (targetF m.data.toList s.data.toList = false) := hid (by rw [hF.out, ht]; rfl)
    replace ht := hid ht
    go_wp2_with fail
    go_ret
    exact ⟨by rw [hR.out]; rfl, rfl⟩
  · have h0 : 0 < s.size := by
      rcases Nat.eq_zero_or_pos s.size with h | h
      · exfalso
        have : s.data.toList = [] := List.eq_nil_of_length_eq_zero (by simpa using h)
        rw [this] at ht
        cases ht
      · exact h
    have h0i : (0 : Int) < s.size := by omega
    have hh : s.data.toList.head? = some s[0] := by rw [List.head?_eq_getElem?]; exact at_str s 0 h0
    rw [hh, ht] at hF
    replace ht := hid ht
    clear hh
    by_cases hc : s[0] = 47
    · have hR : Hid (targetF m.data.toList s.data.toList = true) := hid (by rw [hF.out, hc]; rfl)
      have v := u8_eq s[0] 47 hc
      change (s[0].toNat : Int) = 47 at v
      replace hc := hid hc
      clear hF
      go_wp2_with fail
      go_ret
      exact ⟨by rw [hR.out]; rfl, rfl⟩
    · have hR : Hid (targetF m.data.toList s.data.toList = (s.toList == [42] && m.toList == ([79, 80, 84, 73, 79, 78, 83] : List UInt8))) := hid (by
        rw [hF.out]
        have : (some s[0] == some (47 : UInt8)) = false := by simpa using hc
        rw [this]
        rfl)
      have v := u8_ne s[0] 47 hc
      change ¬ (s[0].toNat : Int) = 47 at v
      replace hc := hid hc
      clear hF
      have vb : ((s[0].toNat : Int) == 47) = false := by simpa using v
      cases h1 : (s.toList == ([42] : List UInt8))
      · have hR2 : Hid (targetF m.data.toList s.data.toList = false) := hid (by rw [hR.out, h1]; rfl)
        clear hR
        go_wp2_with fail
        go_ret
        exact ⟨by rw [hR2.out]; rfl, rfl⟩
      · cases h2 : (m.toList == ([79, 80, 84, 73, 79, 78, 83] : List UInt8))
        · have hR2 : Hid (targetF m.data.toList s.data.toList = false) := hid (by rw [hR.out, h1, h2]; rfl)
          clear hR
          go_wp2_with fail
          go_ret
          exact ⟨by rw [hR2.out]; rfl, rfl⟩
        · have hR2 : Hid (targetF m.data.toList s.data.toList = true) := hid (by rw [hR.out, h1, h2]; rfl)
          clear hR
          go_wp2_with fail
          go_ret
          exact ⟨by rw [hR2.out]; rfl, rfl⟩

/-- A request's line: method, target, minor; a status. -/
def reqF (l : List UInt8) : (List UInt8 × List UInt8 × Int) × Int :=
  match splitC 32 l with
  | [m, t, v] =>
    if 20 < m.length ∨ token m = false ∨ targetF m t = false then (([], [], 0), 400)
    else if 512 < t.length then (([], [], 0), 414)
    else if numberedF v = false then (([], [], 0), 400)
    else if (minorF v).2 = false then (([], [], 0), 505)
    else ((m, t, (minorF v).1), 0)
  | _ => (([], [], 0), 400)
theorem Only.set5 {S : Nat → Prop} {w W : World} (h : Only S w W) {g : Nat} (hg : S g ∨ w.heap.size ≤ g) (a b c d e : Value) :
    Only S w (((((W.setCell ⟨g, 0, none⟩ a).setCell ⟨g, 1, none⟩ b).setCell ⟨g, 2, none⟩ c).setCell ⟨g, 3, none⟩ d).setCell ⟨g, 4, none⟩ e) :=
  ((((h.setCell (p := ⟨g, 0, none⟩) hg a).setCell (p := ⟨g, 1, none⟩) hg b).setCell (p := ⟨g, 2, none⟩) hg c).setCell (p := ⟨g, 3, none⟩) hg d).setCell (p := ⟨g, 4, none⟩) hg e
theorem set5_row {W : World} {g : Nat} {t : TypeId} {x0 x1 x2 x3 x4 : Value} (h : W.heap[g]? = some (.cells #[x0, x1, x2, x3, x4] t (0, 0))) (a b c d e : Value) :
    (((((W.setCell ⟨g, 0, none⟩ a).setCell ⟨g, 1, none⟩ b).setCell ⟨g, 2, none⟩ c).setCell ⟨g, 3, none⟩ d).setCell ⟨g, 4, none⟩ e).heap[g]? = some (.cells #[a, b, c, d, e] t (0, 0)) :=
  b_set (b_set (b_set (b_set (b_set h 0 a) 1 b) 2 c) 3 d) 4 e
theorem load_req {W : World} {g : Nat} {t : TypeId} {fr : Nat × Nat} {a b c d e : Value} (h : W.heap[g]? = some (.cells #[a, b, c, d, e] t fr)) : (loadVar 149 ⟨g, 0, none⟩).run Tryz.prog W = .ok (.agg #[a, b, c, d, e]) W :=
  run_loadVar_row W g t _ _ fr _ h Tryz.underlying149 rfl (by kernel_rfl)
/-- A return of a request and a number. -/
theorem ret_req1 {fn : Func} {R : Ending → World → Prop} {tmps : Array Value} {W : World} (hf : fn.results = #[.cell 2 149, .tmp 3]) {g : Nat} {t : TypeId} {fr : Nat × Nat} {a b c d e v : Value}
    (hrow : W.heap[g]? = some (.cells #[a, b, c, d, e] t fr)) (h2 : tmps.getD 2 undef = .pointer (some ⟨g, 0, none⟩)) (h3 : tmps.getD 3 undef = v) (hR : R (.returned (.tuple #[.agg #[a, b, c, d, e], v])) W) : bodyPost Tryz.prog fn R .ret ⟨tmps, []⟩ W :=
  bodyPost_ret (v := .tuple #[.agg #[a, b, c, d, e], v]) (by
    rw [results_cell_tmp hf]
    simp only
    rw [h2, h3]
    simp [asAddr, load_req hrow]) rfl hR
def reqV (x : List UInt8 × List UInt8 × Int) : Value := .agg #[.string (B x.1), .string (B x.2.1), .int .i64 x.2.2, .slice none 0 0, .slice none 0 0]
set_option maxRecDepth 100000 in
set_option maxHeartbeats 1000000 in
theorem req_any (s : ByteArray) (hs : s.size < 4294967281) (w : World) (hG : Gl w) :
    Calls Tryz.prog 214 #[.string s] w fun e w' => e = .returned (.tuple #[reqV (reqF s.data.toList).1, .int .i64 (reqF s.data.toList).2]) ∧ Only (fun _ => False) w w' := by
  have hF : reqF s.data.toList = (match splitC 32 s.data.toList with
    | [m, t, v] =>
      if 20 < m.length ∨ token m = false ∨ targetF m t = false then (([], [], 0), 400)
      else if 512 < t.length then (([], [], 0), 414)
      else if numberedF v = false then (([], [], 0), 400)
      else if (minorF v).2 = false then (([], [], 0), 505)
      else ((m, t, (minorF v).1), 0)
    | _ => (([], [], 0), 400)) := rfl
  have hsl : s.data.toList.length = s.size := by simp
  have hln := splitC_len 32 s.data.toList
  rw [hsl] at hln
  clear hsl
  go_enter Tryz.func214, Tryz.ntmps214
  go_wp2_with fail
  have O0 : Only (fun _ => False) w (w.alloc (.cells #[.string ⟨#[]⟩, .string ⟨#[]⟩, .int .i64 0, .slice none 0 0, .slice none 0 0] 149)) := (Only.refl _ w).alloc _
  refine (strSplit_any 32 s hs _ (hG.same O0)).mono ?_
  rintro e w1 ⟨A, c, rfl, HP, O1⟩
  obtain ⟨ps, hps⟩ : ∃ ps, splitC 32 s.data.toList = ps := ⟨_, rfl⟩
  rw [hps] at HP hF hln ⊢
  clear hps
  have HR : Row w1 A (sV ps) := HP.row
  have hnew : ∀ i, ab A i → i ≠ w.heap.size := fun i hi => by
    have := (HP.blk i hi).1
    simp at this
    omega
  replace hnew := hid hnew
  clear HP
  replace hF := hid hF
  have O01 := O0.trans O1
  have hrow := O1.keep (b_new w (.cells #[.string ⟨#[]⟩, .string ⟨#[]⟩, .int .i64 0, .slice none 0 0, .slice none 0 0] 149)) (fun h => h)
  obtain ⟨g, hg⟩ : ∃ g, w.heap.size = g := ⟨_, rfl⟩
  rw [hg] at hrow ⊢
  have hgl := b_lt hrow
  have c0 := b_cell hrow 0
  have c1 := b_cell hrow 1
  have c2 := b_cell hrow 2
  have c3 := b_cell hrow 3
  have c4 := b_cell hrow 4
  have f0 := b_free hrow 0
  have f1 := b_free hrow 1
  have f2 := b_free hrow 2
  have f3 := b_free hrow 3
  have f4 := b_free hrow 4
  simp only [List.getElem?_toArray, List.getElem?_cons_zero, List.getElem?_cons_succ] at c0 c1 c2 c3 c4
  clear O0 O1
  by_cases h3 : ps.length = 3
  case neg =>
    have hx : ¬ ((ps.length : Nat) : Int) = 3 := by omega
    have hres : Hid (reqF s.data.toList = (([], [], 0), 400)) := hid (by
      rw [hF.out]
      match ps, h3 with
      | [], _ => rfl
      | [_], _ => rfl
      | [_, _], _ => rfl
      | _ :: _ :: _ :: _ :: _, _ => rfl
      | [_, _, _], h => exact absurd rfl h)
    generalize ps.length = n at *
    have hbx : decide (¬ (n : Int) = 3) = true := by simpa using hx
    have hbx2 : ((n : Int) != 3) = true := by simpa using hx
    go_upto_region 2 with (fail)
    go_quiet (fail)
    go_wp2_with fail
    exact ret_req1 Tryz.results214 (set5_row (b_drewN hrow nq) ..) rfl rfl ⟨by rw [hres.out]; rfl, (O01.drewN nq).set5 (.inr (by omega)) ..⟩
  case pos =>
    match ps, h3 with
    | [m, t, v], _ =>
    obtain ⟨l1, l2, l3⟩ : m.length ≤ s.size ∧ t.length ≤ s.size ∧ v.length ≤ s.size := ⟨hln.2 m (by simp), hln.2 t (by simp), hln.2 v (by simp)⟩
    obtain ⟨b, off, e, hb, r0⟩ := str_at HR 0 m rfl
    have hbg : b ≠ g := by rw [← hg]; exact hnew.out b ⟨_, e, rfl⟩
    have hgb : g ≠ b := fun h => hbg h.symm
    obtain ⟨b', off', e', _, r1⟩ := str_at HR 1 t rfl
    rw [e] at e'
    cases e'
    obtain ⟨b', off', e', _, r2⟩ := str_at HR 2 v rfl
    rw [e] at e'
    cases e'
    subst e
    rw [Nat.add_zero] at r0
    clear HR hln h3
    obtain ⟨mb, hmb⟩ : ∃ mb, B m = mb := ⟨_, rfl⟩
    obtain ⟨tb, htb⟩ : ∃ tb, B t = tb := ⟨_, rfl⟩
    obtain ⟨vb, hvb⟩ : ∃ vb, B v = vb := ⟨_, rfl⟩
    rw [hmb] at r0
    rw [htb] at r1
    rw [hvb] at r2
    obtain rfl : m = mb.data.toList := by rw [← hmb]
    obtain rfl : t = tb.data.toList := by rw [← htb]
    obtain rfl : v = vb.data.toList := by rw [← hvb]
    clear hmb htb hvb
    replace hF := hF.out
    simp only [] at hF
    rw [show mb.data.toList.length = mb.size by simp, show tb.data.toList.length = tb.size by simp] at hF
    rw [show mb.data.toList.length = mb.size by simp] at l1
    rw [show tb.data.toList.length = tb.size by simp] at l2
    rw [show vb.data.toList.length = vb.size by simp] at l3
    have hm1 : mb.size ≤ 9223372036854775807 := by omega
    have ht1 : tb.size ≤ 9223372036854775807 := by omega
    have hlen : (((List.length [mb.data.toList, tb.data.toList, vb.data.toList] : Nat) : Int)) = 3 := rfl
    rw [show List.length [mb.data.toList, tb.data.toList, vb.data.toList] = 3 from rfl]
    clear hlen
    by_cases h20 : 20 < mb.size
    · have hres : Hid (reqF s.data.toList = (([], [], 0), 400)) := hid (by rw [hF, if_pos (.inl h20)])
      have hd : decide (20 < (mb.size : Int)) = true := by simp; omega
      clear hF
      go_upto_region 2 with (fail)
      go_quiet (fail)
      go_wp2_with fail
      exact ret_req1 Tryz.results214 (set5_row (b_drewN hrow nq) ..) rfl rfl ⟨by rw [hres.out]; rfl, (O01.drewN nq).set5 (.inr (by omega)) ..⟩
    have hd : decide (20 < (mb.size : Int)) = false := by simp; omega
    cases d1 : token mb.data.toList
    · have hres : Hid (reqF s.data.toList = (([], [], 0), 400)) := hid (by rw [hF, if_pos (.inr (.inl d1))])
      clear hF
      go_upto_region 2 with (fail)
      go_quiet ((go_at_call 86; exact Calls.quiet_of_same ((token_any mb hm1 _).mono fun _ _ ⟨h1, h2⟩ => ⟨h1, h2.symm⟩)))
      go_wp2_with fail
      exact ret_req1 Tryz.results214 (set5_row (b_drewN hrow nq) ..) rfl rfl ⟨by rw [hres.out]; rfl, (O01.drewN nq).set5 (.inr (by omega)) ..⟩
    cases d2 : targetF mb.data.toList tb.data.toList
    · have hres : Hid (reqF s.data.toList = (([], [], 0), 400)) := hid (by rw [hF, if_pos (.inr (.inr d2))])
      clear hF
      go_upto_region 2 with (fail)
      go_quiet ((first | (go_at_call 86; exact Calls.quiet_of_same ((token_any mb hm1 _).mono fun _ _ ⟨h1, h2⟩ => ⟨h1, h2.symm⟩)) | (go_at_call 274; exact Calls.quiet_of_same ((lineTarget_any mb tb ht1 _).mono fun _ _ ⟨h1, h2⟩ => ⟨h1, h2.symm⟩))))
      go_wp2_with fail
      exact ret_req1 Tryz.results214 (set5_row (b_drewN hrow nq) ..) rfl rfl ⟨by rw [hres.out]; rfl, (O01.drewN nq).set5 (.inr (by omega)) ..⟩
    rw [if_neg (by simp [d1, d2]; omega)] at hF
    replace hF := hid hF
    go_upto_region 2 with (fail)
    go_quiet ((first | (go_at_call 86; exact Calls.quiet_of_same ((token_any mb hm1 _).mono fun _ _ ⟨h1, h2⟩ => ⟨h1, h2.symm⟩)) | (go_at_call 274; exact Calls.quiet_of_same ((lineTarget_any mb tb ht1 _).mono fun _ _ ⟨h1, h2⟩ => ⟨h1, h2.symm⟩))))
    have O2 := O01.drewN nq
    replace hrow := b_drewN hrow nq
    replace d1 := hid d1
    replace d2 := hid d2
    go_wp2_with fail
    refine (minor_any vb _).mono ?_
    rintro e w2 ⟨rfl, rfl⟩
    by_cases h512 : 512 < tb.size
    · have hres : Hid (reqF s.data.toList = (([], [], 0), 414)) := hid (by rw [hF.out, if_pos h512])
      clear hF
      go_wp2_with fail
      exact ret_req1 Tryz.results214 (set5_row hrow ..) rfl rfl ⟨by rw [hres.out]; rfl, O2.set5 (.inr (by omega)) ..⟩
    have hF2 := hF.out
    rw [if_neg h512] at hF2
    replace hF2 := hid hF2
    clear hF
    go_wp2_with fail
    refine (numbered_any vb _).mono ?_
    rintro e w2 ⟨rfl, rfl⟩
    cases d3 : numberedF vb.data.toList
    · have hres : Hid (reqF s.data.toList = (([], [], 0), 400)) := hid (by rw [hF2.out, if_pos d3])
      clear hF2
      go_wp2_with fail
      exact ret_req1 Tryz.results214 (set5_row hrow ..) rfl rfl ⟨by rw [hres.out]; rfl, O2.set5 (.inr (by omega)) ..⟩
    have hF3 := hF2.out
    rw [if_neg (by rw [d3]; decide)] at hF3
    clear hF2
    cases d4 : (minorF vb.data.toList).2
    · have hres : Hid (reqF s.data.toList = (([], [], 0), 505)) := hid (by rw [hF3, if_pos d4])
      clear hF3
      go_wp2_with fail
      exact ret_req1 Tryz.results214 (set5_row hrow ..) rfl rfl ⟨by rw [hres.out]; rfl, O2.set5 (.inr (by omega)) ..⟩
    rw [if_neg (by rw [d4]; decide)] at hF3
    replace hF3 := hid hF3
    generalize (minorF vb.data.toList).1 = z at *
    go_upto_region 11 with (fail)
    go_region_held3 (fun w' => w'.cell? ⟨b, off, none⟩ = some (.string mb) ∧ w'.cell? ⟨b, off + 1, none⟩ = some (.string tb)) (go_keep) (fail)
    go_wp2_with fail
    exact ret_req1 Tryz.results214 (set5_row (b_drewN hrow 1) ..) rfl rfl ⟨by rw [hF3.out]; rfl, (O2.drewN 1).set5 (.inr (by omega)) ..⟩
end Go.Proofs.YtpblgjadpfecgaaGreatDoor
/-
  Host of the package line; hosts of the package http.
-/
namespace Go.Proofs.YtpblgjadpfecgaaGreatDoor
open Go.RowKit

def digs : List UInt8 := [48, 49, 50, 51, 52, 53, 54, 55, 56, 57]
def hostCut (l : List UInt8) : List UInt8 :=
  if 0 ≤ Lib.lastIndexByte (B l) 58 ∧ (Lib.trimS (l.drop ((Lib.lastIndexByte (B l) 58).toNat + 1)) digs).isEmpty = true then l.take (Lib.lastIndexByte (B l) 58).toNat else l
def hostC (c : UInt8) : Bool := (48 ≤ c && c ≤ 57) || (97 ≤ c && c ≤ 122) || c == 45 || c == 46
def hostF (l : List UInt8) : List UInt8 × Bool :=
  let s := hostCut (fold l)
  if s.isEmpty || decide (64 < s.length) || !s.all hostC then ([], false) else (s, true)

theorem hostC_spec (c : UInt8) : hostC c = true ↔ ((48 ≤ (c.toNat : Int) ∧ (c.toNat : Int) ≤ 57) ∨ (97 ≤ (c.toNat : Int) ∧ (c.toNat : Int) ≤ 122) ∨ (c.toNat : Int) = 45 ∨ (c.toNat : Int) = 46) := by
  unfold hostC
  simp only [Bool.or_eq_true, Bool.and_eq_true, decide_eq_true_eq, UInt8.le_iff_toNat_le, beq_iff_eq, ← UInt8.toNat_inj]
  have h1 : (48 : UInt8).toNat = 48 := rfl
  have h2 : (57 : UInt8).toNat = 57 := rfl
  have h3 : (97 : UInt8).toNat = 97 := rfl
  have h4 : (122 : UInt8).toNat = 122 := rfl
  have h5 : (45 : UInt8).toNat = 45 := rfl
  have h6 : (46 : UInt8).toNat = 46 := rfl
  rw [h1, h2, h3, h4, h5, h6]
  omega

set_option maxRecDepth 100000 in
set_option maxHeartbeats 1000000 in
theorem host_any (s : ByteArray) (hs : s.size < 4294967281) (w : World) :
    Calls Tryz.prog 160 #[.string s] w fun e w' => e = .returned (.tuple #[.string (B (hostF s.data.toList).1), .bool (hostF s.data.toList).2]) ∧ Only (fun _ => False) w w' := by
  have hF : hostF s.data.toList = (if (hostCut (fold s.data.toList)).isEmpty || decide (64 < (hostCut (fold s.data.toList)).length) || !(hostCut (fold s.data.toList)).all hostC then ([], false) else (hostCut (fold s.data.toList), true)) := rfl
  replace hF := hid hF
  go_enter Tryz.func160, Tryz.ntmps160
  go_wp2_with fail
  refine (fold_any s (by omega) w).mono ?_
  rintro e w1 ⟨rfl, O1⟩
  have hfl : (fold s.data.toList).length = s.size := by simp [fold]
  obtain ⟨l, hl⟩ : ∃ l, fold s.data.toList = l := ⟨_, rfl⟩
  rw [hl] at hF hfl ⊢
  clear hl
  have hls : (B l).size = l.length := rfl
  have hlen : l.length < 4294967281 := by omega
  replace hfl := hid hfl
  go_wp2_with fail
  refine (Tryz.strings_LastIndexByte (B l) 58 (by rw [hls]; omega) w1).mono ?_
  rintro e w2 ⟨rfl, rfl⟩
  have hcut : hostCut l = (if 0 ≤ Lib.lastIndexByte (B l) 58 ∧ (Lib.trimS (l.drop ((Lib.lastIndexByte (B l) 58).toNat + 1)) digs).isEmpty = true then l.take (Lib.lastIndexByte (B l) 58).toNat else l) := rfl
  rcases Lib.lastIndexByte_spec (B l) 58 with ⟨hi, hno⟩ | ⟨i, hi1, hi, hno⟩
  case' inl =>
    clear hno
    rw [hi] at hcut ⊢
    have hcut' : Hid (hostCut l = (B l).data.toList) := hid (by rw [hcut]; simp)
    have hsz : (B l).size ≤ l.length := Nat.le_refl _
    clear hcut hi hls
    obtain ⟨s2, hs2⟩ : ∃ s2, B l = s2 := ⟨_, rfl⟩
    rw [hs2] at hcut' hsz ⊢
    clear hs2
    generalize w2 = w3 at O1 ⊢
    have O2 := O1
    clear O1
    go_upto_region 5 with (fail)
  case' inr =>
    clear hno
    rw [hls] at hi1
    rw [hi] at hcut ⊢
    have he : ((B l).extract (i + 1) l.length).data.toList = l.drop (i + 1) := by
      rw [ByteArray.data_extract, Array.toList_extract, List.extract_eq_take_drop]
      show List.take _ (List.drop (i + 1) l) = _
      rw [List.take_of_length_le (by simp)]
    have he2 : ((B l).extract 0 i).data.toList = l.take i := by
      rw [ByteArray.data_extract, Array.toList_extract, List.extract_eq_take_drop]
      rfl
    have he3 : ((B l).extract 0 i).size = i := by
      rw [ByteArray.size_extract, hls]; omega
    have het := empty_list (Lib.trimS (l.drop (i + 1)) digs)
    have hzz : ((B l).extract (i + 1) l.length).size ≤ 9223372036854775807 := by rw [ByteArray.size_extract, hls]; omega
    simp only [Int.toNat_natCast] at hcut
    replace he2 := hid he2
    replace he3 := hid he3
    replace he := hid he
    cases htr : (Lib.trimS (l.drop (i + 1)) digs).isEmpty
    case' false =>
      have hcut' : Hid (hostCut l = (B l).data.toList) := hid (by rw [hcut, if_neg]; rw [htr]; simp)
      rw [htr] at het
      clear hcut hi
      replace htr := hid htr
      go_wp2_with fail
      refine (Any.strings_Trim_laid Tryz.lays160 (by kernel_rfl) _ ⟨#[48, 49, 50, 51, 52, 53, 54, 55, 56, 57]⟩ w2 hzz (by decide) (ascii_of_all (by decide))).mono ?_
      rintro e w3 ⟨rfl, O2'⟩
      rw [he.out, show (⟨#[48, 49, 50, 51, 52, 53, 54, 55, 56, 57]⟩ : ByteArray).data.toList = digs from rfl]
      have O2 := O1.trans (Only.of_below (S := fun _ => False) O2')
      clear O1 O2'
      go_upto_region 5 with (fail)
      have hsz : (B l).size ≤ l.length := Nat.le_refl _
      replace hcut' : Hid (hostCut l = (B l).data.toList) := hcut'
      clear hls het hzz he he2 he3 htr
      obtain ⟨s2, hs2⟩ : ∃ s2, B l = s2 := ⟨_, rfl⟩
      rw [hs2] at hcut' hsz ⊢
      clear hs2
    case' true =>
      have hcut' : Hid (hostCut l = ((B l).extract 0 i).data.toList) := hid (by rw [hcut, if_pos ⟨by omega, htr⟩, he2.out])
      have hsz : ((B l).extract 0 i).size ≤ l.length := by rw [he3.out]; omega
      obtain ⟨s2, hs2⟩ : ∃ s2, (B l).extract 0 i = s2 := ⟨_, rfl⟩
      rw [hs2] at hcut' hsz
      rw [htr] at het
      clear hcut hi
      replace htr := hid htr
      go_wp2_with fail
      refine (Any.strings_Trim_laid Tryz.lays160 (by kernel_rfl) _ ⟨#[48, 49, 50, 51, 52, 53, 54, 55, 56, 57]⟩ w2 hzz (by decide) (ascii_of_all (by decide))).mono ?_
      rintro e w3 ⟨rfl, O2'⟩
      rw [he.out, show (⟨#[48, 49, 50, 51, 52, 53, 54, 55, 56, 57]⟩ : ByteArray).data.toList = digs from rfl]
      have O2 := O1.trans (Only.of_below (S := fun _ => False) O2')
      clear O1 O2'
      go_upto_region 5 with (fail)
      clear hls het hzz he he2 he3 htr hs2
  all_goals
    have hne := not_empty s2
    have hs2l : s2.data.toList.length = s2.size := by simp
    replace hs2l := hid hs2l
    cases hE : s2.data.toList.isEmpty
    case' true =>
      have hres : Hid (hostF s.data.toList = ([], false)) := hid (by rw [hF.out, hcut'.out, hE]; rfl)
      rw [hE] at hne
      replace hE := hid hE
      go_wp2_with fail
      go_ret2
      exact ⟨by rw [hres.out]; rfl, O2⟩
    case' false =>
    rw [hE] at hne
    by_cases h64 : 64 < (s2.size : Int)
    case pos =>
      have hres : Hid (hostF s.data.toList = ([], false)) := hid (by
        rw [hF.out, hcut'.out, hE, hs2l.out]
        have : decide (64 < s2.size) = true := decide_eq_true (by omega)
        rw [this]
        rfl)
      replace hE := hid hE
      go_wp2_with fail
      go_ret2
      exact ⟨by rw [hres.out]; rfl, O2⟩
    case' neg =>
      have hF2 : Hid (hostF s.data.toList = if s2.data.toList.all hostC then (s2.data.toList, true) else ([], false)) := hid (by
        rw [hF.out, hcut'.out, hE, hs2l.out]
        have : decide (64 < s2.size) = false := decide_eq_false (by omega)
        rw [this]
        cases s2.data.toList.all hostC <;> rfl)
      replace hE := hid hE
      clear hF hcut' hsz
      go_wp2_with fail
  all_goals
    have O3 : ∀ pos, Only (fun _ => False) w (w3.iter s2 pos) := fun pos => O2.alloc _
    replace O3 := hid O3
    go_loopw [6] (fun _ w' => ∃ pos, pos ≤ s2.size ∧ w' = w3.iter s2 pos ∧ Hid (∀ i, i < pos → ∀ c, s2.data.toList[i]? = some c → hostC c = true)) (fun _ w' => s2.size - w'.iterPos w3.heap.size)
    case atStart => exact ⟨0, by omega, rfl, hid (by omega)⟩
    case round =>
      obtain ⟨pos, hpos, rfl, hall⟩ := hrel
      by_cases hlt : pos < s2.size
      · by_cases ha : (s2[pos]'hlt).toNat < 128
        · have hnx : ∀ ty, (Instr.next (.pointer (some ⟨w3.heap.size, 0, none⟩)) true ty).run Tryz.prog (w3.iter s2 pos) = _ := fun ty => run_next_ascii w3 s2 pos ty hlt ha
          have hsp := hostC_spec (s2[pos]'hlt)
          have hat := at_str s2 pos hlt
          generalize s2[pos]'hlt = c at hnx hsp hat ha
          replace hat := hid hat
          cases hC : hostC c
          · have hno : Hid (s2.data.toList.all hostC = false) := hid (all_not hostC _ pos c hat.out hC)
            rw [hC] at hsp
            have hn : (c.toNat : Int) < 45 ∨ (c.toNat : Int) = 47 ∨ (57 < (c.toNat : Int) ∧ (c.toNat : Int) < 97) ∨ 122 < (c.toNat : Int) := by
              have hq : ¬ ((48 ≤ (c.toNat : Int) ∧ (c.toNat : Int) ≤ 57) ∨ (97 ≤ (c.toNat : Int) ∧ (c.toNat : Int) ≤ 122) ∨ (c.toNat : Int) = 45 ∨ (c.toNat : Int) = 46) := fun h => Bool.false_ne_true (hsp.2 h)
              omega
            clear hsp hC
            generalize (c.toNat : Int) = n at *
            have e1 : (n != 45) = true := by simp; omega
            have e2 : (n != 46) = true := by simp; omega
            rcases hn with hn | hn | ⟨hn1, hn2⟩ | hn
            all_goals
              go_wp2_with fail
              go_ret2
              exact ⟨by rw [hF2.out, hno.out]; rfl, O3.out _⟩
          · have hyes : Hid (∀ i, i < pos + 1 → ∀ c, s2.data.toList[i]? = some c → hostC c = true) := hid (by
              intro i hi c' hc'
              by_cases hip : i = pos
              · subst hip
                rw [hat.out] at hc'
                cases hc'
                exact hC
              · exact hall.out i (by omega) c' hc')
            have hn := hsp.1 hC
            clear hsp hC
            generalize (c.toNat : Int) = n at *
            rcases hn with ⟨hn1, hn2⟩ | ⟨hn1, hn2⟩ | rfl | rfl
            all_goals
              go_wp2_with fail
              go_roundw
              case rel => exact ⟨pos + 1, by omega, rfl, hyes⟩
              case measure => simp; omega
        · have hnx : ∀ ty, (Instr.next (.pointer (some ⟨w3.heap.size, 0, none⟩)) true ty).run Tryz.prog (w3.iter s2 pos) = _ := fun ty => run_next_any w3 s2 pos ty hlt
          have hn := (decode_high s2 pos hlt (by omega)).1
          have hsp := hostC_spec (s2[pos]'hlt)
          have hno : Hid (s2.data.toList.all hostC = false) := hid (all_not hostC _ pos _ (at_str s2 pos hlt) (by
            cases hC : hostC (s2[pos]'hlt) with
            | false => rfl
            | true => rw [hC] at hsp; have := hsp.1 rfl; omega))
          have hn' : 128 ≤ ((Utf8.decode s2 pos).1 : Int) := by omega
          clear hn hsp ha
          generalize ((Utf8.decode s2 pos).1 : Int) = n at *
          have e1 : (n != 45) = true := by simp; omega
          have e2 : (n != 46) = true := by simp; omega
          go_wp2_with fail
          go_ret2
          exact ⟨by rw [hF2.out, hno.out]; rfl, O3.out _⟩
      · have hnx : ∀ ty, (Instr.next (.pointer (some ⟨w3.heap.size, 0, none⟩)) true ty).run Tryz.prog (w3.iter s2 pos) = _ := fun ty => run_next_end w3 s2 pos ty hlt
        have hyes : Hid (s2.data.toList.all hostC = true) := hid (all_upto hostC _ pos hall.out (by rw [hs2l.out]; omega))
        go_wp2_with fail
        go_ret2
        exact ⟨by rw [hF2.out, hyes.out]; rfl, O3.out _⟩
end Go.Proofs.YtpblgjadpfecgaaGreatDoor
/-
  Plain definitions: what a request's bytes are read as.
-/
namespace Go.Proofs.YtpblgjadpfecgaaGreatDoor
open Go.RowKit

/-- Method, target, minor. -/
abbrev RL := List UInt8 × List UInt8 × Int
def rl0 : RL := ([], [], 0)
def parseF (l : List UInt8) : Option FD :=
  if (Lib.cut l [58]).2.2 = true ∧ right (Lib.cut l [58]).1 (trim (Lib.cut l [58]).2.1) = true then some ((Lib.cut l [58]).1, trim (Lib.cut l [58]).2.1) else none

/-- What a head comes to: its first line, its fields, how many bytes it has, a status. -/
def headGo (full : Bool) : Nat → Nat → RL → List FD → List UInt8 → RL × List FD × Nat × Int
  | 0, _, q, _, _ => (q, [], 0, 0)
  | f + 1, at_, q, fs, r =>
    if (cutF r 2048).2.2 = 20 then (q, [], 0, 400)
    else if (cutF r 2048).2.1 = 0 then (q, [], 0, if full then 431 else 0)
    else if at_ = 0 then
      if (reqF (cutF r 2048).1).2 = 0 then headGo full f (at_ + (cutF r 2048).2.1) (reqF (cutF r 2048).1).1 fs (r.drop (cutF r 2048).2.1)
      else ((reqF (cutF r 2048).1).1, [], 0, (reqF (cutF r 2048).1).2)
    else if (cutF r 2048).1 = [] then (q, fs, at_ + (cutF r 2048).2.1, 0)
    else match parseF (cutF r 2048).1 with
      | none => (q, [], 0, 400)
      | some p => if fs.length = 40 then (q, [], 0, 431) else headGo full f (at_ + (cutF r 2048).2.1) q (fs ++ [p]) (r.drop (cutF r 2048).2.1)
def headF (b : List UInt8) : RL × List FD × Nat × Int := headGo (decide (2048 ≤ b.length)) (b.length + 1) 0 rl0 [] (b.take 2048)

def sHost : List UInt8 := [72, 111, 115, 116]
def hostsF (minor : Int) (fs : List FD) : Bool := match getF fs sHost with
  | [] => minor == 0
  | v :: t => (hostF v).2 && t.isEmpty
/-- A request's head: first line, fields, how many bytes it has, the body's length, whether it comes in chunks, a status. -/
def openF (b : List UInt8) : RL × List FD × Nat × Int × Bool × Int :=
  if (headF b).2.2.1 = 0 then (rl0, [], 0, 0, false, (headF b).2.2.2)
  else if hostsF (headF b).1.2.2 (headF b).2.1 = false then (rl0, [], 0, 0, false, 400)
  else ((headF b).1, (headF b).2.1, (headF b).2.2.1, (frameF (headF b).2.1 (headF b).1.2.2).1, (frameF (headF b).2.1 (headF b).1.2.2).2.1, (frameF (headF b).2.1 (headF b).1.2.2).2.2)

/-- The size of the next chunk: the size, an error, whether more is needed, how many bytes the line takes. -/
def sizeF (r : List UInt8) : Int × Int × Bool × Nat :=
  if (cutF r 256).2.2 ≠ 0 then (0, (cutF r 256).2.2, false, (cutF r 256).2.1)
  else if (cutF r 256).2.1 = 0 then (0, 0, true, 0)
  else if (number 16 15 (Lib.trimRightS (Lib.cut (cutF r 256).1 [59]).1 blanks)).2 = true ∧ (Lib.cut (cutF r 256).1 [59]).2.1.all valC = true then ((number 16 15 (Lib.trimRightS (Lib.cut (cutF r 256).1 [59]).1 blanks)).1, 0, false, (cutF r 256).2.1)
  else (0, 30, false, (cutF r 256).2.1)
/-- A chunk's bytes: the bytes, an error, whether more is needed, how many bytes they take. -/
def dataF (r : List UInt8) (n : Nat) : List UInt8 × Int × Bool × Nat :=
  if (n < r.length ∧ r[n]? ≠ some 13) ∨ (n + 1 < r.length ∧ r[n + 1]? ≠ some 10) then ([], 20, false, 0)
  else if r.length < n + 2 then ([], 0, true, 0)
  else (r.take n, 0, false, n + 2)
/-- The trailer lines: an error, whether more is needed, how many bytes they take. -/
def trailGo : Nat → Nat → Nat → List UInt8 → Int × Bool × Nat
  | 0, _, at_, _ => (0, false, at_)
  | f + 1, n, at_, r =>
    if (cutF r 256).2.2 ≠ 0 then ((cutF r 256).2.2, false, at_)
    else if (cutF r 256).2.1 = 0 then (0, true, at_)
    else if (cutF r 256).1 = [] then (0, false, at_ + (cutF r 256).2.1)
    else match parseF (cutF r 256).1 with
      | none => (20, false, at_)
      | some _ => if n = 40 then (3, false, at_) else trailGo f (n + 1) (at_ + (cutF r 256).2.1) (r.drop (cutF r 256).2.1)
/-- The body with which bytes begin: the body, how many bytes it takes, an error. -/
def decGo : Nat → Nat → Nat → List UInt8 → List UInt8 → List UInt8 × Nat × Int
  | 0, _, _, _, _ => ([], 0, 0)
  | f + 1, left, at_, out, r =>
    if (sizeF r).2.1 ≠ 0 then ([], 0, (sizeF r).2.1)
    else if (sizeF r).2.2.1 = true then ([], 0, 0)
    else if (sizeF r).1 = 0 then
      if (trailGo (r.length + 1) 0 (at_ + (sizeF r).2.2.2) (r.drop (sizeF r).2.2.2)).1 ≠ 0 then ([], 0, (trailGo (r.length + 1) 0 (at_ + (sizeF r).2.2.2) (r.drop (sizeF r).2.2.2)).1)
      else if (trailGo (r.length + 1) 0 (at_ + (sizeF r).2.2.2) (r.drop (sizeF r).2.2.2)).2.1 = true then ([], 0, 0)
      else (out, (trailGo (r.length + 1) 0 (at_ + (sizeF r).2.2.2) (r.drop (sizeF r).2.2.2)).2.2, 0)
    else if (left : Int) < (sizeF r).1 then ([], 0, 2)
    else if (dataF (r.drop (sizeF r).2.2.2) (sizeF r).1.toNat).2.1 ≠ 0 then ([], 0, (dataF (r.drop (sizeF r).2.2.2) (sizeF r).1.toNat).2.1)
    else if (dataF (r.drop (sizeF r).2.2.2) (sizeF r).1.toNat).2.2.1 = true then ([], 0, 0)
    else decGo f (left - (sizeF r).1.toNat) (at_ + (sizeF r).2.2.2 + ((sizeF r).1.toNat + 2)) (out ++ (dataF (r.drop (sizeF r).2.2.2) (sizeF r).1.toNat).1) (r.drop ((sizeF r).2.2.2 + ((sizeF r).1.toNat + 2)))
def decF (b : List UInt8) : List UInt8 × Nat × Int := decGo (b.length + 1) 4096 0 [] b
/-- The body behind a head: the body, how many bytes it takes (-1: it isn't whole), a status. -/
def bodyF (b : List UInt8) (size : Nat) (coded : Bool) : List UInt8 × Int × Int :=
  if coded = false then
    if b.length < size then ([], -1, 0) else (b.take size, (size : Int), 0)
  else if (decF b).2.2 = 2 then ([], -1, 413)
  else if (decF b).2.2 ≠ 0 then ([], -1, 400)
  else if (decF b).2.1 = 0 then ([], -1, 0)
  else ((decF b).1, ((decF b).2.1 : Int), 0)
/-- The request with which bytes begin: first line, fields, body, how many bytes it takes, a status. -/
def requestF (b : List UInt8) : RL × List FD × List UInt8 × Nat × Int :=
  if (openF b).2.2.1 = 0 ∨ (openF b).2.2.2.2.2 ≠ 0 then (rl0, [], [], 0, (openF b).2.2.2.2.2)
  else if (bodyF (b.drop (openF b).2.2.1) (openF b).2.2.2.1.toNat (openF b).2.2.2.2.1).2.1 < 0 then (rl0, [], [], 0, (bodyF (b.drop (openF b).2.2.1) (openF b).2.2.2.1.toNat (openF b).2.2.2.2.1).2.2)
  else ((openF b).1, (openF b).2.1, (bodyF (b.drop (openF b).2.2.1) (openF b).2.2.2.1.toNat (openF b).2.2.2.2.1).1, (openF b).2.2.1 + (bodyF (b.drop (openF b).2.2.1) (openF b).2.2.2.1.toNat (openF b).2.2.2.2.1).2.1.toNat, 0)
end Go.Proofs.YtpblgjadpfecgaaGreatDoor
