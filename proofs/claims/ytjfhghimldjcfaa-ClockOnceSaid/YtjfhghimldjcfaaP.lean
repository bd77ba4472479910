/-
  Heaps, in plain Lean: what a step up and a step down keep.
-/
import Derived.Test.YtjfhghimldjcfaaL
namespace Go.Proofs.Ytjfhghimldjcfaa

def HeapQ (q : Nat → Int × Int) (n : Nat) : Prop := ∀ i, 0 < i → i < n → ¬ dlt (q i) (q ((i - 1) / 2))
def UpInv (q : Nat → Int × Int) (n j : Nat) : Prop :=
  (∀ i, 0 < i → i < n → i ≠ j → ¬ dlt (q i) (q ((i - 1) / 2))) ∧ (∀ i, 0 < i → i < n → (i - 1) / 2 = j → 0 < j → ¬ dlt (q i) (q ((j - 1) / 2)))
def DownInv (q : Nat → Int × Int) (n i : Nat) : Prop :=
  (∀ x, 0 < x → x < n → (x - 1) / 2 ≠ i → ¬ dlt (q x) (q ((x - 1) / 2))) ∧ (∀ x, 0 < x → x < n → (x - 1) / 2 = i → 0 < i → ¬ dlt (q x) (q ((i - 1) / 2)))
def MemQ (d : Int × Int) (q : Nat → Int × Int) (n : Nat) : Prop := ∃ x, x < n ∧ q x = d

theorem dlt_asymm {a b : Int × Int} (h : dlt a b) : ¬ dlt b a := by unfold dlt at *; omega
theorem dlt_neg {a b c : Int × Int} (h1 : ¬ dlt a b) (h2 : ¬ dlt b c) : ¬ dlt a c := by unfold dlt at *; omega
theorem dlt_lt {a b c : Int × Int} (h1 : ¬ dlt a b) (h2 : dlt c b) : ¬ dlt a c := by unfold dlt at *; omega

theorem swp_l (q : Nat → Int × Int) (i k : Nat) : swp q i k i = q k := by simp [swp]
theorem swp_r (q : Nat → Int × Int) (i k : Nat) : swp q i k k = q i := by
  unfold swp
  by_cases h : k = i
  · subst h; simp
  · rw [if_neg h, if_pos rfl]
theorem swp_o (q : Nat → Int × Int) {i k x : Nat} (h1 : x ≠ i) (h2 : x ≠ k) : swp q i k x = q x := by unfold swp; rw [if_neg h1, if_neg h2]

theorem up_done {q : Nat → Int × Int} {n j : Nat} (h : UpInv q n j) (hj : j = 0 ∨ ¬ dlt (q j) (q ((j - 1) / 2))) : HeapQ q n := by
  intro i h0 h1
  by_cases hij : i = j
  · subst hij
    rcases hj with hj | hj
    · omega
    · exact hj
  · exact h.1 i h0 h1 hij
theorem up_step {q : Nat → Int × Int} {n j p : Nat} (h : UpInv q n j) (h0 : 0 < j) (hj : j < n) (hp : p = (j - 1) / 2) (hl : dlt (q j) (q p)) : UpInv (swp q p j) n p := by
  have hpj : p ≠ j := by omega
  refine ⟨fun i h1 h2 h3 => ?_, fun i h1 h2 h3 h4 => ?_⟩
  · by_cases hij : i = j
    · subst hij
      rw [swp_r, ← hp, swp_l]
      exact dlt_asymm hl
    · rw [swp_o q h3 hij]
      have hi := h.1 i h1 h2 hij
      by_cases hr : (i - 1) / 2 = p
      · rw [hr] at hi ⊢
        rw [swp_l]
        exact dlt_lt hi hl
      · by_cases hr2 : (i - 1) / 2 = j
        · rw [hr2, swp_r, hp]
          exact h.2 i h1 h2 hr2 h0
        · rw [swp_o q hr hr2]; exact hi
  · have hpp : swp q p j ((p - 1) / 2) = q ((p - 1) / 2) := swp_o q (by omega) (by omega)
    rw [hpp]
    have hpq := h.1 p h4 (by omega) hpj
    by_cases hij : i = j
    · subst hij
      rw [swp_r]
      exact hpq
    · rw [swp_o q (by omega) hij]
      have hi := h.1 i h1 h2 hij
      rw [h3] at hi
      exact dlt_neg hi hpq
theorem down_done {q : Nat → Int × Int} {n i : Nat} (h : DownInv q n i) (hc : ∀ x, 0 < x → x < n → (x - 1) / 2 = i → ¬ dlt (q x) (q i)) : HeapQ q n := by
  intro x h0 h1
  by_cases hx : (x - 1) / 2 = i
  · rw [hx]; exact hc x h0 h1 hx
  · exact h.1 x h0 h1 hx
theorem down_step {q : Nat → Int × Int} {n i c : Nat} (h : DownInv q n i) (h0 : 0 < c) (hc : c < n) (hp : (c - 1) / 2 = i) (hm : ∀ x, 0 < x → x < n → (x - 1) / 2 = i → ¬ dlt (q x) (q c)) (hl : dlt (q c) (q i)) : DownInv (swp q i c) n c := by
  have hic : i ≠ c := by omega
  refine ⟨fun x h1 h2 h3 => ?_, fun x h1 h2 h3 h4 => ?_⟩
  · by_cases hxc : x = c
    · subst hxc
      rw [swp_r, hp, swp_l]
      exact dlt_asymm hl
    · by_cases hxi : x = i
      · subst hxi
        rw [swp_l, swp_o q (by omega) (by omega)]
        exact h.2 c h0 hc hp h1
      · rw [swp_o q hxi hxc]
        by_cases hr : (x - 1) / 2 = i
        · rw [hr, swp_l]
          exact hm x h1 h2 hr
        · rw [swp_o q hr h3]
          exact h.1 x h1 h2 hr
  · rw [swp_o q (by omega) (by omega), hp, swp_l]
    have := h.1 x h1 h2 (by omega)
    rw [h3] at this
    exact this
theorem heap_min {q : Nat → Int × Int} {n : Nat} (h : HeapQ q n) : ∀ i, i < n → ¬ dlt (q i) (q 0) := by
  intro i
  induction i using Nat.strongRecOn with
  | _ i ih =>
    intro hi
    by_cases h0 : i = 0
    · subst h0; unfold dlt; omega
    · exact dlt_neg (h i (by omega) hi) (ih _ (by omega) (by omega))
theorem mem_swp {q : Nat → Int × Int} {n i k : Nat} (hi : i < n) (hk : k < n) (d : Int × Int) : MemQ d (swp q i k) n ↔ MemQ d q n := by
  constructor
  · rintro ⟨x, hx, rfl⟩
    by_cases h1 : x = i
    · subst h1; exact ⟨k, hk, (swp_l q x k).symm⟩
    · by_cases h2 : x = k
      · subst h2; exact ⟨i, hi, (swp_r q i x).symm⟩
      · exact ⟨x, hx, (swp_o q h1 h2).symm⟩
  · rintro ⟨x, hx, rfl⟩
    by_cases h1 : x = i
    · subst h1; exact ⟨k, hk, swp_r q x k⟩
    · by_cases h2 : x = k
      · subst h2; exact ⟨i, hi, swp_l q i x⟩
      · exact ⟨x, hx, swp_o q h1 h2⟩
theorem heap_pop {q : Nat → Int × Int} {n : Nat} (h : HeapQ q (n + 1)) : DownInv (swp q 0 n) n 0 := by
  refine ⟨fun x h1 h2 h3 => ?_, fun x h1 h2 h3 h4 => by omega⟩
  rw [swp_o q (by omega) (by omega), swp_o q h3 (by omega)]
  exact h x h1 (by omega)
theorem mem_pop {q q' : Nat → Int × Int} {n : Nat} (hm : ∀ d, MemQ d q' n ↔ MemQ d (swp q 0 n) n) (d : Int × Int) : MemQ d q (n + 1) ↔ MemQ d q' n ∨ d = q 0 := by
  rw [hm d, ← mem_swp (q := q) (i := 0) (k := n) (n := n + 1) (by omega) (by omega) d]
  constructor
  · rintro ⟨x, hx, rfl⟩
    by_cases h : x = n
    · subst h; exact .inr (swp_r q 0 x)
    · exact .inl ⟨x, by omega, rfl⟩
  · rintro (⟨x, hx, rfl⟩ | rfl)
    · exact ⟨x, by omega, rfl⟩
    · exact ⟨n, by omega, swp_r q 0 n⟩
theorem heap_push {q : Nat → Int × Int} {n : Nat} (h : HeapQ q n) (d : Int × Int) : UpInv (fun x => if x = n then d else q x) (n + 1) n := by
  refine ⟨fun i h1 h2 h3 => ?_, fun i h1 h2 h3 h4 => by omega⟩
  simp only [if_neg h3, if_neg (show (i - 1) / 2 ≠ n by omega)]
  exact h i h1 (by omega)
end Go.Proofs.Ytjfhghimldjcfaa
