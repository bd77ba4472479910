/-
  The plain law of BucketBound: of what is taken, from each call on, no more than burst and rate times the time between.
-/
import Derived.Test.YtegpabajbmgpjaaFullW
namespace Go.Proofs.Ytegpabajbmgpjaa

/-- The sum of the first k. -/
def psum (N : List Int) : Nat → Int
  | 0 => 0
  | k + 1 => psum N k + N.getD k 0

theorem getD_lt (l : List Int) (x : Int) (i : Nat) (h : i < l.length) : (l ++ [x]).getD i 0 = l.getD i 0 := by
  simp [List.getD_eq_getElem?_getD, List.getElem?_append_left h]
theorem getD_eq (l : List Int) (x : Int) : (l ++ [x]).getD l.length 0 = x := by
  simp [List.getD_eq_getElem?_getD]
theorem psum_snoc (N : List Int) (x : Int) (k : Nat) (h : k ≤ N.length) : psum (N ++ [x]) k = psum N k := by
  induction k with
  | zero => rfl
  | succ k ih => unfold psum; rw [ih (by omega), getD_lt N x k (by omega)]
theorem psum_all (N : List Int) (x : Int) : psum (N ++ [x]) (N.length + 1) = psum N N.length + x := by
  rw [psum, psum_snoc N x _ (Nat.le_refl _), getD_eq]

/-- What holds behind some calls. -/
structure Bnd (r u t a : Int) (T N : List Int) : Prop where
  len : T.length = N.length
  lo : ∀ i, i < T.length → 0 ≤ T.getD i 0 ∧ T.getD i 0 ≤ a
  up : ∀ i j, i ≤ j → j < T.length → T.getD i 0 ≤ T.getD j 0
  nb : ∀ i, i < N.length → 0 ≤ N.getD i 0 ∧ N.getD i 0 ≤ 1048576
  now : ∀ i, i < T.length → psum N N.length - psum N i + t ≤ u + r * (a - T.getD i 0)
  all : ∀ i j, i ≤ j → j < T.length → psum N (j + 1) - psum N i ≤ u + r * (T.getD j 0 - T.getD i 0)

theorem Bnd.start (r u t a : Int) : Bnd r u t a [] [] :=
  ⟨rfl, fun i h => absurd h (by simp), fun i j _ h => absurd h (by simp), fun i h => absurd h (by simp), fun i h => absurd h (by simp), fun i j _ h => absurd h (by simp)⟩

theorem Bnd.step {r u t a now x : Int} {T N : List Int} (h : Bnd r u t a T N) (_hr : 0 ≤ r) (ha : 0 ≤ a) (hnow : a ≤ now) (x0 : 0 ≤ x) (x1 : x ≤ 1048576) (hx : x ≤ min u (t + r * (now - a))) :
    Bnd r u (min u (t + r * (now - a)) - x) now (T ++ [now]) (N ++ [x]) := by
  obtain ⟨hl, hlo, hup, hnb, hn, hall⟩ := h
  have hT : (T ++ [now]).length = T.length + 1 := by simp
  have hN : (N ++ [x]).length = N.length + 1 := by simp
  have gT : (T ++ [now]).getD T.length 0 = now := getD_eq T now
  have key : ∀ i, i < T.length → r * (now - T.getD i 0) = r * (now - a) + r * (a - T.getD i 0) := by
    intro i _
    rw [← Int.mul_add]
    congr 1
    omega
  refine ⟨by rw [hT, hN, hl], ?_, ?_, ?_, ?_, ?_⟩
  · intro i hi
    rw [hT] at hi
    by_cases hc : i < T.length
    · rw [getD_lt T now i hc]; have := hlo i hc; omega
    · obtain rfl : i = T.length := by omega
      rw [gT]; omega
  · intro i j hij hj
    rw [hT] at hj
    by_cases hc : j < T.length
    · rw [getD_lt T now j hc, getD_lt T now i (by omega)]; exact hup i j hij hc
    · obtain rfl : j = T.length := by omega
      rw [gT]
      by_cases hc' : i < T.length
      · rw [getD_lt T now i hc']; have := hlo i hc'; omega
      · obtain rfl : i = T.length := by omega
        rw [gT]; exact Int.le_refl _
  · intro i hi
    rw [hN] at hi
    by_cases hc : i < N.length
    · rw [getD_lt N x i hc]; exact hnb i hc
    · obtain rfl : i = N.length := by omega
      rw [getD_eq]; exact ⟨x0, x1⟩
  · intro i hi
    rw [hT] at hi
    rw [hN, psum_all]
    by_cases hc : i < T.length
    · rw [getD_lt T now i hc, psum_snoc N x i (by omega), key i hc]
      have := hn i hc
      omega
    · obtain rfl : i = T.length := by omega
      rw [gT, hl, psum_snoc N x _ (Nat.le_refl _), Int.sub_self, Int.mul_zero]
      omega
  · intro i j hij hj
    rw [hT] at hj
    by_cases hc : j < T.length
    · rw [getD_lt T now j hc, getD_lt T now i (by omega), psum_snoc N x (j + 1) (by omega), psum_snoc N x i (by omega)]
      exact hall i j hij hc
    · obtain rfl : j = T.length := by omega
      rw [gT]
      have e : psum (N ++ [x]) (T.length + 1) = psum N N.length + x := by rw [hl]; exact psum_all N x
      rw [e]
      by_cases hc' : i < T.length
      · rw [getD_lt T now i hc', psum_snoc N x i (by omega), key i hc']
        have := hn i hc'
        omega
      · obtain rfl : i = T.length := by omega
        rw [gT, hl, psum_snoc N x _ (Nat.le_refl _), Int.sub_self, Int.mul_zero]
        omega

theorem psum_bd {N : List Int} (h : ∀ i, i < N.length → 0 ≤ N.getD i 0 ∧ N.getD i 0 ≤ 1048576) (i k : Nat) (hik : i ≤ k) (hk : k ≤ N.length) : 0 ≤ psum N k - psum N i ∧ psum N k - psum N i ≤ 1048576 * ((k : Int) - i) := by
  induction k with
  | zero =>
    obtain rfl : i = 0 := by omega
    simp
  | succ k ih =>
    by_cases hc : i = k + 1
    · subst hc; simp
    · have := ih (by omega) (by omega)
      have := h k (by omega)
      rw [psum]
      omega
end Go.Proofs.Ytegpabajbmgpjaa
