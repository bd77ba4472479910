/-
  numbers, right of the package conf.
-/
import Derived.Test.YtafljoiblfhioaaGreatDoorSw
namespace Go.Proofs.YtafljoiblfhioaaGreatDoor
open Go.RowKit

abbrev NumD := List UInt8 × Int × Int × Int
def nV : List NumD → List Value
  | [] => []
  | x :: t => .string (B x.1) :: .int .i64 x.2.1 :: .int .i64 x.2.2.1 :: .int .i64 x.2.2.2 :: nV t
theorem nV_at : ∀ (l : List NumD) (i : Nat) (c : NumD), l[i]? = some c → (nV l)[i * 4]? = some (.string (B c.1)) ∧ (nV l)[i * 4 + 1]? = some (.int .i64 c.2.1) ∧ (nV l)[i * 4 + 2]? = some (.int .i64 c.2.2.1) ∧ (nV l)[i * 4 + 3]? = some (.int .i64 c.2.2.2)
  | [], i, c, h => by simp at h
  | x :: t, 0, c, h => by
    simp at h
    subst h
    exact ⟨rfl, rfl, rfl, rfl⟩
  | x :: t, i + 1, c, h => by
    have := nV_at t i c (by simpa using h)
    rw [show (i + 1) * 4 = i * 4 + 4 by omega]
    simpa [nV] using this
theorem num_at {w : World} {A : Option Addr} {rs : List NumD} (h : Row w A (nV rs)) (k : Nat) (p : NumD) (hp : rs[k]? = some p) :
    ∃ b off, A = some ⟨b, off, none⟩ ∧ b < w.heap.size ∧ w.cell? ⟨b, off + k * 4, none⟩ = some (.string (B p.1)) ∧ w.cell? ⟨b, off + k * 4 + 1, none⟩ = some (.int .i64 p.2.1) ∧ w.cell? ⟨b, off + k * 4 + 2, none⟩ = some (.int .i64 p.2.2.1) ∧ w.cell? ⟨b, off + k * 4 + 3, none⟩ = some (.int .i64 p.2.2.2) := by
  obtain ⟨hp1, hp2, hp3, hp4⟩ := nV_at rs k p hp
  obtain ⟨b, off, rfl, hb, c0⟩ := h.at_ _ _ hp1
  obtain ⟨b', off', e, _, c1⟩ := h.at_ _ _ hp2
  cases e
  obtain ⟨b', off', e, _, c2⟩ := h.at_ _ _ hp3
  cases e
  obtain ⟨b', off', e, _, c3⟩ := h.at_ _ _ hp4
  cases e
  exact ⟨b, off, rfl, hb, c0, c1, c2, c3⟩
def numB (x : NumD) : Bool := numBad x.2

set_option maxRecDepth 100000 in
theorem rightx_any (x : NumD) (w : World) : Calls Tryz.prog 46 #[.agg #[.string (B x.1), .int .i64 x.2.1, .int .i64 x.2.2.1, .int .i64 x.2.2.2]] w fun e w' => e = .returned (.bool (numB x)) ∧ Only (fun _ => False) w w' := by
  obtain ⟨s, n, lo, hi⟩ := x
  have hF : numB (s, n, lo, hi) = (decide (n < lo) || decide (hi < n)) := rfl
  replace hF := hid hF
  have O := (Only.refl (fun _ => False) w).alloc (.cells #[.string (B s), .int .i64 n, .int .i64 lo, .int .i64 hi] 85)
  simp only
  go_enter Tryz.func46, Tryz.ntmps46
  by_cases h1 : n < lo
  · go_wp2_with fail
    go_ret
    exact ⟨by rw [hF.out]; simp [h1], O⟩
  · by_cases h2 : hi < n
    · go_wp2_with fail
      go_ret
      exact ⟨by rw [hF.out]; first | (simp [h1, h2]; done) | (simp [h1, h2]; omega), O⟩
    · go_wp2_with fail
      go_ret
      exact ⟨by rw [hF.out]; first | (simp [h1, h2]; done) | (simp [h1, h2]; omega), O⟩
theorem rightx_enters (args : Array Value) (w : World) : (callFunc 46 args).run Tryz.prog w = .ok (.enter 46 args) w := Go.Proofs.enters_of Tryz.func46 (by kernel_rfl) rfl args w
set_option maxRecDepth 100000 in
set_option maxHeartbeats 1000000 in
/-- IndexFunc over numbers, at whatever function whose calls turn nothing. -/
theorem index_num (K : FuncId) (eg : ∀ args w, (callFunc K args).run Tryz.prog w = .ok (.enter K args) w) (p : NumD → Bool) (ss : List NumD) (A : Option Addr) (c : Nat) (w : World) (hR : Row w A (nV ss)) (hn : ss.length ≤ 9223372036854775807)
    (hf : ∀ s ∈ ss, ∀ W, Only (fun _ => False) w W → Calls Tryz.prog K #[.agg #[.string (B s.1), .int .i64 s.2.1, .int .i64 s.2.2.1, .int .i64 s.2.2.2]] W fun e w' => e = .returned (.bool (p s)) ∧ Only (fun _ => False) W w') :
    Calls Tryz.prog 75 #[.slice A ss.length c, .func (.func K) #[] #[]] w fun e w' => ∃ z : Int, e = .returned (.int .i64 z) ∧ (decide (0 ≤ z) = ss.any p) ∧ Only (fun _ => False) w w' := by
  obtain ⟨n, hnn⟩ : ∃ n, ss.length = n := ⟨_, rfl⟩
  rw [hnn] at hn ⊢
  replace hnn := hid hnn
  go_enter Tryz.func75, Tryz.ntmps75
  go_wp2_with fail
  go_loopw [8] (fun iv wr => ∃ k : Nat, k ≤ n ∧ iv = .int .i64 (k : Int) ∧ Hid (∀ i, i < k → ∀ s, ss[i]? = some s → p s = false) ∧ Only (fun _ => False) w wr) (fun iv _ => n - (intOf iv).toNat)
  case atStart => exact ⟨0, by omega, rfl, hid (by omega), Only.refl _ _⟩
  case round =>
    obtain ⟨k, hk, rfl, hx, O⟩ := hrel
    by_cases hlt : k < n
    · obtain ⟨q, hq⟩ : ∃ q, ss[k]? = some q := ⟨_, List.getElem?_eq_getElem (by rw [hnn.out]; exact hlt)⟩
      obtain ⟨b, off, rfl, hb, c0, c1, c2, c3⟩ := num_at (hR.same O) k q hq
      have hc := fun W O => hf q (List.mem_of_getElem? hq) W O
      replace hq := hid hq
      go_wp2_with fail
      refine (hc _ O).mono ?_
      rintro e w2 ⟨rfl, O2⟩
      have O3 := O.trans O2
      have hx' : p q = false → Hid (∀ i, i < k + 1 → ∀ s, ss[i]? = some s → p s = false) := fun h => hid (by
        intro i hi s hs
        by_cases hik : i = k
        · subst hik
          rw [hq.out] at hs
          cases hs
          exact h
        · exact hx.out i (by omega) s hs)
      have hy : p q = true → Hid (ss.any p = true) := fun h => hid (List.any_eq_true.2 ⟨q, List.mem_of_getElem? hq.out, h⟩)
      clear c0 c1 c2 c3 O2 O hc
      cases hr : p q
      · replace hx' := hx' hr
        clear hy hr
        go_wp2_with fail
        go_roundw
        case rel => exact ⟨k + 1, by omega, by simp, hx', O3⟩
        case measure => simp [intOf]; omega
      · replace hy := hy hr
        clear hx' hr
        go_wp2_with fail
        go_ret
        exact ⟨k, rfl, by rw [hy.out]; simp, O3⟩
    · have hall : Hid (ss.any p = false) := hid (by
        rw [List.any_eq_false]
        intro s hs
        obtain ⟨i, hi, rfl⟩ := List.mem_iff_getElem.1 hs
        rw [hx.out i (by rw [hnn.out] at hi; omega) _ (List.getElem?_eq_getElem hi)]
        decide)
      clear hx
      go_wp2_with fail
      go_ret
      exact ⟨-1, rfl, by rw [hall.out]; rfl, O⟩
theorem contains_num (K : FuncId) (eg : ∀ args w, (callFunc K args).run Tryz.prog w = .ok (.enter K args) w) (p : NumD → Bool) (ss : List NumD) (A : Option Addr) (c : Nat) (w : World) (hR : Row w A (nV ss)) (hn : ss.length ≤ 9223372036854775807)
    (hf : ∀ s ∈ ss, ∀ W, Only (fun _ => False) w W → Calls Tryz.prog K #[.agg #[.string (B s.1), .int .i64 s.2.1, .int .i64 s.2.2.1, .int .i64 s.2.2.2]] W fun e w' => e = .returned (.bool (p s)) ∧ Only (fun _ => False) W w') :
    Calls Tryz.prog 44 #[.slice A ss.length c, .func (.func K) #[] #[]] w fun e w' => e = .returned (.bool (ss.any p)) ∧ Only (fun _ => False) w w' := by
  have hi := index_num K eg p ss A c w hR hn hf
  clear hf
  go_enter Tryz.func44, Tryz.ntmps44
  go_wp2_with fail
  refine hi.mono ?_
  rintro e w1 ⟨z, rfl, hz, O1⟩
  replace hz := hid hz
  go_wp2_with fail
  go_ret
  exact ⟨by rw [← hz.out]; rfl, O1⟩


def sTotal : List UInt8 := [116, 111, 116, 97, 108]
def sTries : List UInt8 := [116, 114, 105, 101, 115]
def sFails : List UInt8 := [102, 97, 105, 108, 115]
def sCool : List UInt8 := [99, 111, 111, 108]
def numsD (x : CM) : List NumD := [(sTotal, x.total, 1, 1048576), (sTries, x.tries, 0, 3), (sFails, x.fails, 1, 100), (sCool, x.cool, 0, 1048576)]
set_option maxRecDepth 100000 in
set_option maxHeartbeats 1000000 in
theorem numbers_any (x : CM) (w : World) : Calls Tryz.prog 45 #[.agg x.row] w fun e w' => ∃ A c, e = .returned (.slice A 4 c) ∧ Row w' A (nV (numsD x)) ∧ Only (fun _ => False) w w' := by
  obtain ⟨us, rs, set, drop, U, uc, R, rc, SA, sc, DA, dc, t1, t2, t3, t4⟩ := x
  unfold CM.row numsD
  simp only
  obtain ⟨nu, hnu⟩ : ∃ n, us.length = n := ⟨_, rfl⟩
  obtain ⟨nr, hnr⟩ : ∃ n, rs.length = n := ⟨_, rfl⟩
  obtain ⟨ns, hns⟩ : ∃ n, set.length = n := ⟨_, rfl⟩
  obtain ⟨nd, hnd⟩ : ∃ n, drop.length = n := ⟨_, rfl⟩
  rw [hnu, hnr, hns, hnd]
  clear hnu hnr hns hnd
  go_enter Tryz.func45, Tryz.ntmps45
  go_upto_region 1 with (fail)
  have H := b_new w (.cells #[.slice U nu uc, .slice R nr rc, .slice SA ns sc, .slice DA nd dc, .int .i64 t1, .int .i64 t2, .int .i64 t3, .int .i64 t4] 28)
  have OA := (Only.refl (fun _ => False) w).alloc (.cells #[.slice U nu uc, .slice R nr rc, .slice SA ns sc, .slice DA nd dc, .int .i64 t1, .int .i64 t2, .int .i64 t3, .int .i64 t4] 28)
  generalize w.alloc (.cells #[.slice U nu uc, .slice R nr rc, .slice SA ns sc, .slice DA nd dc, .int .i64 t1, .int .i64 t2, .int .i64 t3, .int .i64 t4] 28) = w1 at *
  obtain ⟨_, _, _, _, c4, c5, c6, c7⟩ := cells8 H
  go_wp2_with fail
  go_ret
  refine ⟨some ⟨w1.heap.size, 0, none⟩, 4, rfl, ?_, OA.alloc _⟩
  intro _
  refine ⟨w1.heap.size, 0, rfl, b_lt (b_new w1 _), fun j u hu => ?_⟩
  rw [b_cell (b_new w1 _), Nat.zero_add]
  rw [← List.getElem?_toArray] at hu
  exact hu
end Go.Proofs.YtafljoiblfhioaaGreatDoor
