/-
  Bounds of what is read and of what is scrubbed.
-/
import Derived.Test.YtafljoiblfhioaaGreatDoorZa
import Derived.Test.YtafljoiblfhioaaGreatDoorSb
namespace Go.Proofs.YtafljoiblfhioaaGreatDoor
open Go.RowKit

theorem dataF_le (r : List UInt8) (n : Nat) : (dataF r n).1.length ≤ n := by
  unfold dataF
  split
  · simp
  · split
    · simp
    · simp only [List.length_take]; omega
theorem decGo_len : ∀ (f left at_ : Nat) (out r : List UInt8), (decGo f left at_ out r).1.length ≤ out.length + left
  | 0, _, _, _, _ => by simp [decGo]
  | f + 1, left, at_, out, r => by
    unfold decGo
    split
    · simp
    split
    · simp
    split
    · split
      · simp
      split
      · simp
      · simp only []; omega
    split
    · simp
    split
    · simp
    split
    · simp
    have h1 := decGo_len f (left - (sizeF r).1.toNat) (at_ + (sizeF r).2.2.2 + ((sizeF r).1.toNat + 2)) (out ++ (dataF (r.drop (sizeF r).2.2.2) (sizeF r).1.toNat).1) (r.drop ((sizeF r).2.2.2 + ((sizeF r).1.toNat + 2)))
    have h2 := dataF_le (r.drop (sizeF r).2.2.2) (sizeF r).1.toNat
    rw [List.length_append] at h1
    omega
theorem bodyF_len (b : List UInt8) (size : Nat) (coded : Bool) : (bodyF b size coded).1.length ≤ b.length + 4096 := by
  unfold bodyF
  split
  · split
    · simp
    · simp only [List.length_take]; omega
  split
  · simp
  split
  · simp
  split
  · simp
  have h := decGo_len (b.length + 1) 4096 0 [] b
  unfold decF
  simp only [List.length_nil] at h
  simp only []
  omega
theorem fine_nil : Fine [] := ⟨by simp, fun p hp => by cases hp⟩
theorem req_fine (b : List UInt8) : Fine (requestF b).2.1 ∧ (requestF b).2.2.1.length ≤ b.length + 4096 := by
  unfold requestF
  split
  · exact ⟨fine_nil, by simp⟩
  split
  · exact ⟨fine_nil, by simp⟩
  refine ⟨?_, ?_⟩
  · show Fine (openF b).2.1
    unfold openF
    split
    · exact fine_nil
    split
    · exact fine_nil
    · exact (headF_ok b).1
  · have h := bodyF_len (b.drop (openF b).2.2.1) (openF b).2.2.2.1.toNat (openF b).2.2.2.2.1
    rw [List.length_drop] at h
    simp only []
    omega
theorem dec_short (n : Nat) : (Lib.decDigits n).length ≤ n + 1 := by
  induction n using Nat.strongRecOn with
  | _ n ih =>
    rw [Lib.decDigits]
    split
    · simp
    · rw [List.length_append]
      have := ih (n / 10) (by omega)
      simp only [List.length_cons, List.length_nil]
      omega
/-- What is scrubbed is no long list. -/
theorem scrub_small (m : List UInt8) (fs : List FD) (n : Nat) (set : List FD) (drop : List (List UInt8)) (host : List UInt8) (k : Nat) (hf : fs.length ≤ k) (hf2 : ∀ p ∈ fs, p.1.length ≤ 20000 ∧ p.2.length ≤ 20000) (hs : set.length ≤ 16) (hs2 : ∀ p ∈ set, p.1.length ≤ 20000 ∧ p.2.length ≤ 20000) (hn : n ≤ 10000) (hh : host.length ≤ 20000) :
    (scrubF m fs n set drop host).length ≤ k + 18 ∧ ∀ p ∈ scrubF m fs n set drop host, p.1.length ≤ 20000 ∧ p.2.length ≤ 20000 := by
  have hw : (withoutF (onwardF fs) (goneF set drop)).length ≤ fs.length := by
    unfold withoutF onwardF
    exact Nat.le_trans (List.length_filter_le _ _) (List.length_filter_le _ _)
  have hw2 : ∀ p ∈ withoutF (onwardF fs) (goneF set drop), p ∈ fs := by
    intro p hp
    unfold withoutF onwardF at hp
    exact (List.mem_filter.1 (List.mem_filter.1 hp).1).1
  have hd := dec_short n
  have hc : sCL.length ≤ 20000 := by decide
  have hh2 : sHost.length ≤ 20000 := by decide
  unfold scrubF
  constructor
  · simp only [List.length_append, List.length_cons]
    split <;> simp only [List.length_cons, List.length_nil] <;> omega
  · intro p hp
    rcases List.mem_append.1 hp with hp | hp
    · rcases List.mem_append.1 hp with hp | hp
      · rcases List.mem_cons.1 hp with rfl | hp
        · exact ⟨hh2, hh⟩
        · exact hf2 p (hw2 p hp)
      · exact hs2 p hp
    · split at hp
      · rw [List.mem_singleton] at hp
        subst hp
        exact ⟨hc, by show (Lib.decDigits n).length ≤ 20000; omega⟩
      · cases hp
theorem small_of {fs : List FD} {k : Nat} (hk : k ≤ 1000000) (h : fs.length ≤ k) (h2 : ∀ p ∈ fs, p.1.length ≤ 20000 ∧ p.2.length ≤ 20000) : SmallF fs := ⟨by omega, fun p hp => by have := h2 p hp; omega⟩
end Go.Proofs.YtafljoiblfhioaaGreatDoor
