/-
  The table of fields that are put in, laid in memory.
-/
import Derived.Test.YtafljoiblfhioaaGreatDoorSah
namespace Go.Proofs.YtafljoiblfhioaaGreatDoor
open Go.RowKit

set_option maxRecDepth 100000 in
theorem tab_ex (w : World) : ∃ w2, (((((((((w.alloc (.cells #[.string ⟨#[75, 101, 101, 112, 45, 65, 108, 105, 118, 101]⟩, .string ⟨#[53]⟩] 39)).alloc (.cells #[.string ⟨#[116, 69]⟩, .string ⟨#[116, 114, 97, 105, 108, 101, 114, 115]⟩] 39)).alloc (.cells #[.string ⟨#[85, 112, 103, 114, 97, 100, 101]⟩, .string ⟨#[120]⟩] 39)).alloc (.cells #[.string ⟨#[88, 45, 84, 111, 108, 108, 98, 97, 114, 45, 65]⟩, .string ⟨#[49]⟩] 39)).alloc (.cells #[.string ⟨#[67, 111, 110, 110, 101, 99, 116, 105, 111, 110]⟩, .string ⟨#[122, 122, 45, 49]⟩, .string ⟨#[90, 90, 45, 49]⟩, .string ⟨#[113]⟩] 39)).alloc (.cells #[.string ⟨#[86, 105, 97]⟩, .string ⟨#[118]⟩] 39)).alloc (.cells #[.string ⟨#[80, 114, 111, 120, 121, 45, 67, 111, 110, 110, 101, 99, 116, 105, 111, 110]⟩, .string ⟨#[99, 108, 111, 115, 101]⟩] 39)).alloc (.cells #[.string ⟨#[84, 114, 97, 105, 108, 101, 114]⟩, .string ⟨#[97]⟩] 39)).alloc (.cells #[.string ⟨#[69, 120, 112, 101, 99, 116]⟩, .string ⟨#[49, 48, 48, 45, 99, 111, 110, 116, 105, 110, 117, 101]⟩] 39)).alloc (.cells #[.slice (some ⟨w.heap.size, 0, none⟩) 1 1, .slice (some ⟨w.heap.size + 1, 0, none⟩) 1 1, .slice (some ⟨w.heap.size + 1 + 1, 0, none⟩) 1 1, .slice (some ⟨w.heap.size + 1 + 1 + 1, 0, none⟩) 1 1, .slice (some ⟨w.heap.size + 1 + 1 + 1 + 1, 0, none⟩) 2 2, .slice (some ⟨w.heap.size + 1 + 1 + 1 + 1 + 1, 0, none⟩) 1 1, .slice (some ⟨w.heap.size + 1 + 1 + 1 + 1 + 1 + 1, 0, none⟩) 1 1, .slice (some ⟨w.heap.size + 1 + 1 + 1 + 1 + 1 + 1 + 1, 0, none⟩) 1 1, .slice (some ⟨w.heap.size + 1 + 1 + 1 + 1 + 1 + 1 + 1 + 1, 0, none⟩) 1 1] 25) = w2 ∧ Only (fun _ => False) w w2 ∧ Tab w2 (w.heap.size + 1 + 1 + 1 + 1 + 1 + 1 + 1 + 1 + 1) ∧ w.heap.size + 1 + 1 + 1 + 1 + 1 + 1 + 1 + 1 + 1 < w2.heap.size := by
  have q0 : Only (fun _ => False) w w := Only.refl _ _
  have s0 : w.heap.size = w.heap.size := rfl
  have n0 := b_new w (.cells #[.string ⟨#[75, 101, 101, 112, 45, 65, 108, 105, 118, 101]⟩, .string ⟨#[53]⟩] 39)
  have q1 := q0.alloc (.cells #[.string ⟨#[75, 101, 101, 112, 45, 65, 108, 105, 118, 101]⟩, .string ⟨#[53]⟩] 39)
  have s1 : (w.alloc (.cells #[.string ⟨#[75, 101, 101, 112, 45, 65, 108, 105, 118, 101]⟩, .string ⟨#[53]⟩] 39)).heap.size = w.heap.size + 1 := by simp
  obtain ⟨w1, e1⟩ : ∃ x, w.alloc (.cells #[.string ⟨#[75, 101, 101, 112, 45, 65, 108, 105, 118, 101]⟩, .string ⟨#[53]⟩] 39) = x := ⟨_, rfl⟩
  rw [e1] at n0 q1 s1 ⊢
  have n1 := b_new w1 (.cells #[.string ⟨#[116, 69]⟩, .string ⟨#[116, 114, 97, 105, 108, 101, 114, 115]⟩] 39)
  rw [s1] at n1
  replace n0 := b_alloc n0 (.cells #[.string ⟨#[116, 69]⟩, .string ⟨#[116, 114, 97, 105, 108, 101, 114, 115]⟩] 39)
  have q2 := q1.alloc (.cells #[.string ⟨#[116, 69]⟩, .string ⟨#[116, 114, 97, 105, 108, 101, 114, 115]⟩] 39)
  have s2 : (w1.alloc (.cells #[.string ⟨#[116, 69]⟩, .string ⟨#[116, 114, 97, 105, 108, 101, 114, 115]⟩] 39)).heap.size = w.heap.size + 1 + 1 := by rw [← s1]; simp
  obtain ⟨w2, e2⟩ : ∃ x, w1.alloc (.cells #[.string ⟨#[116, 69]⟩, .string ⟨#[116, 114, 97, 105, 108, 101, 114, 115]⟩] 39) = x := ⟨_, rfl⟩
  rw [e2] at n0 n1 q2 s2 ⊢
  have n2 := b_new w2 (.cells #[.string ⟨#[85, 112, 103, 114, 97, 100, 101]⟩, .string ⟨#[120]⟩] 39)
  rw [s2] at n2
  replace n0 := b_alloc n0 (.cells #[.string ⟨#[85, 112, 103, 114, 97, 100, 101]⟩, .string ⟨#[120]⟩] 39)
  replace n1 := b_alloc n1 (.cells #[.string ⟨#[85, 112, 103, 114, 97, 100, 101]⟩, .string ⟨#[120]⟩] 39)
  have q3 := q2.alloc (.cells #[.string ⟨#[85, 112, 103, 114, 97, 100, 101]⟩, .string ⟨#[120]⟩] 39)
  have s3 : (w2.alloc (.cells #[.string ⟨#[85, 112, 103, 114, 97, 100, 101]⟩, .string ⟨#[120]⟩] 39)).heap.size = w.heap.size + 1 + 1 + 1 := by rw [← s2]; simp
  obtain ⟨w3, e3⟩ : ∃ x, w2.alloc (.cells #[.string ⟨#[85, 112, 103, 114, 97, 100, 101]⟩, .string ⟨#[120]⟩] 39) = x := ⟨_, rfl⟩
  rw [e3] at n0 n1 n2 q3 s3 ⊢
  have n3 := b_new w3 (.cells #[.string ⟨#[88, 45, 84, 111, 108, 108, 98, 97, 114, 45, 65]⟩, .string ⟨#[49]⟩] 39)
  rw [s3] at n3
  replace n0 := b_alloc n0 (.cells #[.string ⟨#[88, 45, 84, 111, 108, 108, 98, 97, 114, 45, 65]⟩, .string ⟨#[49]⟩] 39)
  replace n1 := b_alloc n1 (.cells #[.string ⟨#[88, 45, 84, 111, 108, 108, 98, 97, 114, 45, 65]⟩, .string ⟨#[49]⟩] 39)
  replace n2 := b_alloc n2 (.cells #[.string ⟨#[88, 45, 84, 111, 108, 108, 98, 97, 114, 45, 65]⟩, .string ⟨#[49]⟩] 39)
  have q4 := q3.alloc (.cells #[.string ⟨#[88, 45, 84, 111, 108, 108, 98, 97, 114, 45, 65]⟩, .string ⟨#[49]⟩] 39)
  have s4 : (w3.alloc (.cells #[.string ⟨#[88, 45, 84, 111, 108, 108, 98, 97, 114, 45, 65]⟩, .string ⟨#[49]⟩] 39)).heap.size = w.heap.size + 1 + 1 + 1 + 1 := by rw [← s3]; simp
  obtain ⟨w4, e4⟩ : ∃ x, w3.alloc (.cells #[.string ⟨#[88, 45, 84, 111, 108, 108, 98, 97, 114, 45, 65]⟩, .string ⟨#[49]⟩] 39) = x := ⟨_, rfl⟩
  rw [e4] at n0 n1 n2 n3 q4 s4 ⊢
  have n4 := b_new w4 (.cells #[.string ⟨#[67, 111, 110, 110, 101, 99, 116, 105, 111, 110]⟩, .string ⟨#[122, 122, 45, 49]⟩, .string ⟨#[90, 90, 45, 49]⟩, .string ⟨#[113]⟩] 39)
  rw [s4] at n4
  replace n0 := b_alloc n0 (.cells #[.string ⟨#[67, 111, 110, 110, 101, 99, 116, 105, 111, 110]⟩, .string ⟨#[122, 122, 45, 49]⟩, .string ⟨#[90, 90, 45, 49]⟩, .string ⟨#[113]⟩] 39)
  replace n1 := b_alloc n1 (.cells #[.string ⟨#[67, 111, 110, 110, 101, 99, 116, 105, 111, 110]⟩, .string ⟨#[122, 122, 45, 49]⟩, .string ⟨#[90, 90, 45, 49]⟩, .string ⟨#[113]⟩] 39)
  replace n2 := b_alloc n2 (.cells #[.string ⟨#[67, 111, 110, 110, 101, 99, 116, 105, 111, 110]⟩, .string ⟨#[122, 122, 45, 49]⟩, .string ⟨#[90, 90, 45, 49]⟩, .string ⟨#[113]⟩] 39)
  replace n3 := b_alloc n3 (.cells #[.string ⟨#[67, 111, 110, 110, 101, 99, 116, 105, 111, 110]⟩, .string ⟨#[122, 122, 45, 49]⟩, .string ⟨#[90, 90, 45, 49]⟩, .string ⟨#[113]⟩] 39)
  have q5 := q4.alloc (.cells #[.string ⟨#[67, 111, 110, 110, 101, 99, 116, 105, 111, 110]⟩, .string ⟨#[122, 122, 45, 49]⟩, .string ⟨#[90, 90, 45, 49]⟩, .string ⟨#[113]⟩] 39)
  have s5 : (w4.alloc (.cells #[.string ⟨#[67, 111, 110, 110, 101, 99, 116, 105, 111, 110]⟩, .string ⟨#[122, 122, 45, 49]⟩, .string ⟨#[90, 90, 45, 49]⟩, .string ⟨#[113]⟩] 39)).heap.size = w.heap.size + 1 + 1 + 1 + 1 + 1 := by rw [← s4]; simp
  obtain ⟨w5, e5⟩ : ∃ x, w4.alloc (.cells #[.string ⟨#[67, 111, 110, 110, 101, 99, 116, 105, 111, 110]⟩, .string ⟨#[122, 122, 45, 49]⟩, .string ⟨#[90, 90, 45, 49]⟩, .string ⟨#[113]⟩] 39) = x := ⟨_, rfl⟩
  rw [e5] at n0 n1 n2 n3 n4 q5 s5 ⊢
  have n5 := b_new w5 (.cells #[.string ⟨#[86, 105, 97]⟩, .string ⟨#[118]⟩] 39)
  rw [s5] at n5
  replace n0 := b_alloc n0 (.cells #[.string ⟨#[86, 105, 97]⟩, .string ⟨#[118]⟩] 39)
  replace n1 := b_alloc n1 (.cells #[.string ⟨#[86, 105, 97]⟩, .string ⟨#[118]⟩] 39)
  replace n2 := b_alloc n2 (.cells #[.string ⟨#[86, 105, 97]⟩, .string ⟨#[118]⟩] 39)
  replace n3 := b_alloc n3 (.cells #[.string ⟨#[86, 105, 97]⟩, .string ⟨#[118]⟩] 39)
  replace n4 := b_alloc n4 (.cells #[.string ⟨#[86, 105, 97]⟩, .string ⟨#[118]⟩] 39)
  have q6 := q5.alloc (.cells #[.string ⟨#[86, 105, 97]⟩, .string ⟨#[118]⟩] 39)
  have s6 : (w5.alloc (.cells #[.string ⟨#[86, 105, 97]⟩, .string ⟨#[118]⟩] 39)).heap.size = w.heap.size + 1 + 1 + 1 + 1 + 1 + 1 := by rw [← s5]; simp
  obtain ⟨w6, e6⟩ : ∃ x, w5.alloc (.cells #[.string ⟨#[86, 105, 97]⟩, .string ⟨#[118]⟩] 39) = x := ⟨_, rfl⟩
  rw [e6] at n0 n1 n2 n3 n4 n5 q6 s6 ⊢
  have n6 := b_new w6 (.cells #[.string ⟨#[80, 114, 111, 120, 121, 45, 67, 111, 110, 110, 101, 99, 116, 105, 111, 110]⟩, .string ⟨#[99, 108, 111, 115, 101]⟩] 39)
  rw [s6] at n6
  replace n0 := b_alloc n0 (.cells #[.string ⟨#[80, 114, 111, 120, 121, 45, 67, 111, 110, 110, 101, 99, 116, 105, 111, 110]⟩, .string ⟨#[99, 108, 111, 115, 101]⟩] 39)
  replace n1 := b_alloc n1 (.cells #[.string ⟨#[80, 114, 111, 120, 121, 45, 67, 111, 110, 110, 101, 99, 116, 105, 111, 110]⟩, .string ⟨#[99, 108, 111, 115, 101]⟩] 39)
  replace n2 := b_alloc n2 (.cells #[.string ⟨#[80, 114, 111, 120, 121, 45, 67, 111, 110, 110, 101, 99, 116, 105, 111, 110]⟩, .string ⟨#[99, 108, 111, 115, 101]⟩] 39)
  replace n3 := b_alloc n3 (.cells #[.string ⟨#[80, 114, 111, 120, 121, 45, 67, 111, 110, 110, 101, 99, 116, 105, 111, 110]⟩, .string ⟨#[99, 108, 111, 115, 101]⟩] 39)
  replace n4 := b_alloc n4 (.cells #[.string ⟨#[80, 114, 111, 120, 121, 45, 67, 111, 110, 110, 101, 99, 116, 105, 111, 110]⟩, .string ⟨#[99, 108, 111, 115, 101]⟩] 39)
  replace n5 := b_alloc n5 (.cells #[.string ⟨#[80, 114, 111, 120, 121, 45, 67, 111, 110, 110, 101, 99, 116, 105, 111, 110]⟩, .string ⟨#[99, 108, 111, 115, 101]⟩] 39)
  have q7 := q6.alloc (.cells #[.string ⟨#[80, 114, 111, 120, 121, 45, 67, 111, 110, 110, 101, 99, 116, 105, 111, 110]⟩, .string ⟨#[99, 108, 111, 115, 101]⟩] 39)
  have s7 : (w6.alloc (.cells #[.string ⟨#[80, 114, 111, 120, 121, 45, 67, 111, 110, 110, 101, 99, 116, 105, 111, 110]⟩, .string ⟨#[99, 108, 111, 115, 101]⟩] 39)).heap.size = w.heap.size + 1 + 1 + 1 + 1 + 1 + 1 + 1 := by rw [← s6]; simp
  obtain ⟨w7, e7⟩ : ∃ x, w6.alloc (.cells #[.string ⟨#[80, 114, 111, 120, 121, 45, 67, 111, 110, 110, 101, 99, 116, 105, 111, 110]⟩, .string ⟨#[99, 108, 111, 115, 101]⟩] 39) = x := ⟨_, rfl⟩
  rw [e7] at n0 n1 n2 n3 n4 n5 n6 q7 s7 ⊢
  have n7 := b_new w7 (.cells #[.string ⟨#[84, 114, 97, 105, 108, 101, 114]⟩, .string ⟨#[97]⟩] 39)
  rw [s7] at n7
  replace n0 := b_alloc n0 (.cells #[.string ⟨#[84, 114, 97, 105, 108, 101, 114]⟩, .string ⟨#[97]⟩] 39)
  replace n1 := b_alloc n1 (.cells #[.string ⟨#[84, 114, 97, 105, 108, 101, 114]⟩, .string ⟨#[97]⟩] 39)
  replace n2 := b_alloc n2 (.cells #[.string ⟨#[84, 114, 97, 105, 108, 101, 114]⟩, .string ⟨#[97]⟩] 39)
  replace n3 := b_alloc n3 (.cells #[.string ⟨#[84, 114, 97, 105, 108, 101, 114]⟩, .string ⟨#[97]⟩] 39)
  replace n4 := b_alloc n4 (.cells #[.string ⟨#[84, 114, 97, 105, 108, 101, 114]⟩, .string ⟨#[97]⟩] 39)
  replace n5 := b_alloc n5 (.cells #[.string ⟨#[84, 114, 97, 105, 108, 101, 114]⟩, .string ⟨#[97]⟩] 39)
  replace n6 := b_alloc n6 (.cells #[.string ⟨#[84, 114, 97, 105, 108, 101, 114]⟩, .string ⟨#[97]⟩] 39)
  have q8 := q7.alloc (.cells #[.string ⟨#[84, 114, 97, 105, 108, 101, 114]⟩, .string ⟨#[97]⟩] 39)
  have s8 : (w7.alloc (.cells #[.string ⟨#[84, 114, 97, 105, 108, 101, 114]⟩, .string ⟨#[97]⟩] 39)).heap.size = w.heap.size + 1 + 1 + 1 + 1 + 1 + 1 + 1 + 1 := by rw [← s7]; simp
  obtain ⟨w8, e8⟩ : ∃ x, w7.alloc (.cells #[.string ⟨#[84, 114, 97, 105, 108, 101, 114]⟩, .string ⟨#[97]⟩] 39) = x := ⟨_, rfl⟩
  rw [e8] at n0 n1 n2 n3 n4 n5 n6 n7 q8 s8 ⊢
  have n8 := b_new w8 (.cells #[.string ⟨#[69, 120, 112, 101, 99, 116]⟩, .string ⟨#[49, 48, 48, 45, 99, 111, 110, 116, 105, 110, 117, 101]⟩] 39)
  rw [s8] at n8
  replace n0 := b_alloc n0 (.cells #[.string ⟨#[69, 120, 112, 101, 99, 116]⟩, .string ⟨#[49, 48, 48, 45, 99, 111, 110, 116, 105, 110, 117, 101]⟩] 39)
  replace n1 := b_alloc n1 (.cells #[.string ⟨#[69, 120, 112, 101, 99, 116]⟩, .string ⟨#[49, 48, 48, 45, 99, 111, 110, 116, 105, 110, 117, 101]⟩] 39)
  replace n2 := b_alloc n2 (.cells #[.string ⟨#[69, 120, 112, 101, 99, 116]⟩, .string ⟨#[49, 48, 48, 45, 99, 111, 110, 116, 105, 110, 117, 101]⟩] 39)
  replace n3 := b_alloc n3 (.cells #[.string ⟨#[69, 120, 112, 101, 99, 116]⟩, .string ⟨#[49, 48, 48, 45, 99, 111, 110, 116, 105, 110, 117, 101]⟩] 39)
  replace n4 := b_alloc n4 (.cells #[.string ⟨#[69, 120, 112, 101, 99, 116]⟩, .string ⟨#[49, 48, 48, 45, 99, 111, 110, 116, 105, 110, 117, 101]⟩] 39)
  replace n5 := b_alloc n5 (.cells #[.string ⟨#[69, 120, 112, 101, 99, 116]⟩, .string ⟨#[49, 48, 48, 45, 99, 111, 110, 116, 105, 110, 117, 101]⟩] 39)
  replace n6 := b_alloc n6 (.cells #[.string ⟨#[69, 120, 112, 101, 99, 116]⟩, .string ⟨#[49, 48, 48, 45, 99, 111, 110, 116, 105, 110, 117, 101]⟩] 39)
  replace n7 := b_alloc n7 (.cells #[.string ⟨#[69, 120, 112, 101, 99, 116]⟩, .string ⟨#[49, 48, 48, 45, 99, 111, 110, 116, 105, 110, 117, 101]⟩] 39)
  have q9 := q8.alloc (.cells #[.string ⟨#[69, 120, 112, 101, 99, 116]⟩, .string ⟨#[49, 48, 48, 45, 99, 111, 110, 116, 105, 110, 117, 101]⟩] 39)
  have s9 : (w8.alloc (.cells #[.string ⟨#[69, 120, 112, 101, 99, 116]⟩, .string ⟨#[49, 48, 48, 45, 99, 111, 110, 116, 105, 110, 117, 101]⟩] 39)).heap.size = w.heap.size + 1 + 1 + 1 + 1 + 1 + 1 + 1 + 1 + 1 := by rw [← s8]; simp
  obtain ⟨w9, e9⟩ : ∃ x, w8.alloc (.cells #[.string ⟨#[69, 120, 112, 101, 99, 116]⟩, .string ⟨#[49, 48, 48, 45, 99, 111, 110, 116, 105, 110, 117, 101]⟩] 39) = x := ⟨_, rfl⟩
  rw [e9] at n0 n1 n2 n3 n4 n5 n6 n7 n8 q9 s9 ⊢
  have n9 := b_new w9 (.cells #[.slice (some ⟨w.heap.size, 0, none⟩) 1 1, .slice (some ⟨w.heap.size + 1, 0, none⟩) 1 1, .slice (some ⟨w.heap.size + 1 + 1, 0, none⟩) 1 1, .slice (some ⟨w.heap.size + 1 + 1 + 1, 0, none⟩) 1 1, .slice (some ⟨w.heap.size + 1 + 1 + 1 + 1, 0, none⟩) 2 2, .slice (some ⟨w.heap.size + 1 + 1 + 1 + 1 + 1, 0, none⟩) 1 1, .slice (some ⟨w.heap.size + 1 + 1 + 1 + 1 + 1 + 1, 0, none⟩) 1 1, .slice (some ⟨w.heap.size + 1 + 1 + 1 + 1 + 1 + 1 + 1, 0, none⟩) 1 1, .slice (some ⟨w.heap.size + 1 + 1 + 1 + 1 + 1 + 1 + 1 + 1, 0, none⟩) 1 1] 25)
  rw [s9] at n9
  replace n0 := b_alloc n0 (.cells #[.slice (some ⟨w.heap.size, 0, none⟩) 1 1, .slice (some ⟨w.heap.size + 1, 0, none⟩) 1 1, .slice (some ⟨w.heap.size + 1 + 1, 0, none⟩) 1 1, .slice (some ⟨w.heap.size + 1 + 1 + 1, 0, none⟩) 1 1, .slice (some ⟨w.heap.size + 1 + 1 + 1 + 1, 0, none⟩) 2 2, .slice (some ⟨w.heap.size + 1 + 1 + 1 + 1 + 1, 0, none⟩) 1 1, .slice (some ⟨w.heap.size + 1 + 1 + 1 + 1 + 1 + 1, 0, none⟩) 1 1, .slice (some ⟨w.heap.size + 1 + 1 + 1 + 1 + 1 + 1 + 1, 0, none⟩) 1 1, .slice (some ⟨w.heap.size + 1 + 1 + 1 + 1 + 1 + 1 + 1 + 1, 0, none⟩) 1 1] 25)
  replace n1 := b_alloc n1 (.cells #[.slice (some ⟨w.heap.size, 0, none⟩) 1 1, .slice (some ⟨w.heap.size + 1, 0, none⟩) 1 1, .slice (some ⟨w.heap.size + 1 + 1, 0, none⟩) 1 1, .slice (some ⟨w.heap.size + 1 + 1 + 1, 0, none⟩) 1 1, .slice (some ⟨w.heap.size + 1 + 1 + 1 + 1, 0, none⟩) 2 2, .slice (some ⟨w.heap.size + 1 + 1 + 1 + 1 + 1, 0, none⟩) 1 1, .slice (some ⟨w.heap.size + 1 + 1 + 1 + 1 + 1 + 1, 0, none⟩) 1 1, .slice (some ⟨w.heap.size + 1 + 1 + 1 + 1 + 1 + 1 + 1, 0, none⟩) 1 1, .slice (some ⟨w.heap.size + 1 + 1 + 1 + 1 + 1 + 1 + 1 + 1, 0, none⟩) 1 1] 25)
  replace n2 := b_alloc n2 (.cells #[.slice (some ⟨w.heap.size, 0, none⟩) 1 1, .slice (some ⟨w.heap.size + 1, 0, none⟩) 1 1, .slice (some ⟨w.heap.size + 1 + 1, 0, none⟩) 1 1, .slice (some ⟨w.heap.size + 1 + 1 + 1, 0, none⟩) 1 1, .slice (some ⟨w.heap.size + 1 + 1 + 1 + 1, 0, none⟩) 2 2, .slice (some ⟨w.heap.size + 1 + 1 + 1 + 1 + 1, 0, none⟩) 1 1, .slice (some ⟨w.heap.size + 1 + 1 + 1 + 1 + 1 + 1, 0, none⟩) 1 1, .slice (some ⟨w.heap.size + 1 + 1 + 1 + 1 + 1 + 1 + 1, 0, none⟩) 1 1, .slice (some ⟨w.heap.size + 1 + 1 + 1 + 1 + 1 + 1 + 1 + 1, 0, none⟩) 1 1] 25)
  replace n3 := b_alloc n3 (.cells #[.slice (some ⟨w.heap.size, 0, none⟩) 1 1, .slice (some ⟨w.heap.size + 1, 0, none⟩) 1 1, .slice (some ⟨w.heap.size + 1 + 1, 0, none⟩) 1 1, .slice (some ⟨w.heap.size + 1 + 1 + 1, 0, none⟩) 1 1, .slice (some ⟨w.heap.size + 1 + 1 + 1 + 1, 0, none⟩) 2 2, .slice (some ⟨w.heap.size + 1 + 1 + 1 + 1 + 1, 0, none⟩) 1 1, .slice (some ⟨w.heap.size + 1 + 1 + 1 + 1 + 1 + 1, 0, none⟩) 1 1, .slice (some ⟨w.heap.size + 1 + 1 + 1 + 1 + 1 + 1 + 1, 0, none⟩) 1 1, .slice (some ⟨w.heap.size + 1 + 1 + 1 + 1 + 1 + 1 + 1 + 1, 0, none⟩) 1 1] 25)
  replace n4 := b_alloc n4 (.cells #[.slice (some ⟨w.heap.size, 0, none⟩) 1 1, .slice (some ⟨w.heap.size + 1, 0, none⟩) 1 1, .slice (some ⟨w.heap.size + 1 + 1, 0, none⟩) 1 1, .slice (some ⟨w.heap.size + 1 + 1 + 1, 0, none⟩) 1 1, .slice (some ⟨w.heap.size + 1 + 1 + 1 + 1, 0, none⟩) 2 2, .slice (some ⟨w.heap.size + 1 + 1 + 1 + 1 + 1, 0, none⟩) 1 1, .slice (some ⟨w.heap.size + 1 + 1 + 1 + 1 + 1 + 1, 0, none⟩) 1 1, .slice (some ⟨w.heap.size + 1 + 1 + 1 + 1 + 1 + 1 + 1, 0, none⟩) 1 1, .slice (some ⟨w.heap.size + 1 + 1 + 1 + 1 + 1 + 1 + 1 + 1, 0, none⟩) 1 1] 25)
  replace n5 := b_alloc n5 (.cells #[.slice (some ⟨w.heap.size, 0, none⟩) 1 1, .slice (some ⟨w.heap.size + 1, 0, none⟩) 1 1, .slice (some ⟨w.heap.size + 1 + 1, 0, none⟩) 1 1, .slice (some ⟨w.heap.size + 1 + 1 + 1, 0, none⟩) 1 1, .slice (some ⟨w.heap.size + 1 + 1 + 1 + 1, 0, none⟩) 2 2, .slice (some ⟨w.heap.size + 1 + 1 + 1 + 1 + 1, 0, none⟩) 1 1, .slice (some ⟨w.heap.size + 1 + 1 + 1 + 1 + 1 + 1, 0, none⟩) 1 1, .slice (some ⟨w.heap.size + 1 + 1 + 1 + 1 + 1 + 1 + 1, 0, none⟩) 1 1, .slice (some ⟨w.heap.size + 1 + 1 + 1 + 1 + 1 + 1 + 1 + 1, 0, none⟩) 1 1] 25)
  replace n6 := b_alloc n6 (.cells #[.slice (some ⟨w.heap.size, 0, none⟩) 1 1, .slice (some ⟨w.heap.size + 1, 0, none⟩) 1 1, .slice (some ⟨w.heap.size + 1 + 1, 0, none⟩) 1 1, .slice (some ⟨w.heap.size + 1 + 1 + 1, 0, none⟩) 1 1, .slice (some ⟨w.heap.size + 1 + 1 + 1 + 1, 0, none⟩) 2 2, .slice (some ⟨w.heap.size + 1 + 1 + 1 + 1 + 1, 0, none⟩) 1 1, .slice (some ⟨w.heap.size + 1 + 1 + 1 + 1 + 1 + 1, 0, none⟩) 1 1, .slice (some ⟨w.heap.size + 1 + 1 + 1 + 1 + 1 + 1 + 1, 0, none⟩) 1 1, .slice (some ⟨w.heap.size + 1 + 1 + 1 + 1 + 1 + 1 + 1 + 1, 0, none⟩) 1 1] 25)
  replace n7 := b_alloc n7 (.cells #[.slice (some ⟨w.heap.size, 0, none⟩) 1 1, .slice (some ⟨w.heap.size + 1, 0, none⟩) 1 1, .slice (some ⟨w.heap.size + 1 + 1, 0, none⟩) 1 1, .slice (some ⟨w.heap.size + 1 + 1 + 1, 0, none⟩) 1 1, .slice (some ⟨w.heap.size + 1 + 1 + 1 + 1, 0, none⟩) 2 2, .slice (some ⟨w.heap.size + 1 + 1 + 1 + 1 + 1, 0, none⟩) 1 1, .slice (some ⟨w.heap.size + 1 + 1 + 1 + 1 + 1 + 1, 0, none⟩) 1 1, .slice (some ⟨w.heap.size + 1 + 1 + 1 + 1 + 1 + 1 + 1, 0, none⟩) 1 1, .slice (some ⟨w.heap.size + 1 + 1 + 1 + 1 + 1 + 1 + 1 + 1, 0, none⟩) 1 1] 25)
  replace n8 := b_alloc n8 (.cells #[.slice (some ⟨w.heap.size, 0, none⟩) 1 1, .slice (some ⟨w.heap.size + 1, 0, none⟩) 1 1, .slice (some ⟨w.heap.size + 1 + 1, 0, none⟩) 1 1, .slice (some ⟨w.heap.size + 1 + 1 + 1, 0, none⟩) 1 1, .slice (some ⟨w.heap.size + 1 + 1 + 1 + 1, 0, none⟩) 2 2, .slice (some ⟨w.heap.size + 1 + 1 + 1 + 1 + 1, 0, none⟩) 1 1, .slice (some ⟨w.heap.size + 1 + 1 + 1 + 1 + 1 + 1, 0, none⟩) 1 1, .slice (some ⟨w.heap.size + 1 + 1 + 1 + 1 + 1 + 1 + 1, 0, none⟩) 1 1, .slice (some ⟨w.heap.size + 1 + 1 + 1 + 1 + 1 + 1 + 1 + 1, 0, none⟩) 1 1] 25)
  have q10 := q9.alloc (.cells #[.slice (some ⟨w.heap.size, 0, none⟩) 1 1, .slice (some ⟨w.heap.size + 1, 0, none⟩) 1 1, .slice (some ⟨w.heap.size + 1 + 1, 0, none⟩) 1 1, .slice (some ⟨w.heap.size + 1 + 1 + 1, 0, none⟩) 1 1, .slice (some ⟨w.heap.size + 1 + 1 + 1 + 1, 0, none⟩) 2 2, .slice (some ⟨w.heap.size + 1 + 1 + 1 + 1 + 1, 0, none⟩) 1 1, .slice (some ⟨w.heap.size + 1 + 1 + 1 + 1 + 1 + 1, 0, none⟩) 1 1, .slice (some ⟨w.heap.size + 1 + 1 + 1 + 1 + 1 + 1 + 1, 0, none⟩) 1 1, .slice (some ⟨w.heap.size + 1 + 1 + 1 + 1 + 1 + 1 + 1 + 1, 0, none⟩) 1 1] 25)
  have s10 : (w9.alloc (.cells #[.slice (some ⟨w.heap.size, 0, none⟩) 1 1, .slice (some ⟨w.heap.size + 1, 0, none⟩) 1 1, .slice (some ⟨w.heap.size + 1 + 1, 0, none⟩) 1 1, .slice (some ⟨w.heap.size + 1 + 1 + 1, 0, none⟩) 1 1, .slice (some ⟨w.heap.size + 1 + 1 + 1 + 1, 0, none⟩) 2 2, .slice (some ⟨w.heap.size + 1 + 1 + 1 + 1 + 1, 0, none⟩) 1 1, .slice (some ⟨w.heap.size + 1 + 1 + 1 + 1 + 1 + 1, 0, none⟩) 1 1, .slice (some ⟨w.heap.size + 1 + 1 + 1 + 1 + 1 + 1 + 1, 0, none⟩) 1 1, .slice (some ⟨w.heap.size + 1 + 1 + 1 + 1 + 1 + 1 + 1 + 1, 0, none⟩) 1 1] 25)).heap.size = w.heap.size + 1 + 1 + 1 + 1 + 1 + 1 + 1 + 1 + 1 + 1 := by rw [← s9]; simp
  obtain ⟨w10, e10⟩ : ∃ x, w9.alloc (.cells #[.slice (some ⟨w.heap.size, 0, none⟩) 1 1, .slice (some ⟨w.heap.size + 1, 0, none⟩) 1 1, .slice (some ⟨w.heap.size + 1 + 1, 0, none⟩) 1 1, .slice (some ⟨w.heap.size + 1 + 1 + 1, 0, none⟩) 1 1, .slice (some ⟨w.heap.size + 1 + 1 + 1 + 1, 0, none⟩) 2 2, .slice (some ⟨w.heap.size + 1 + 1 + 1 + 1 + 1, 0, none⟩) 1 1, .slice (some ⟨w.heap.size + 1 + 1 + 1 + 1 + 1 + 1, 0, none⟩) 1 1, .slice (some ⟨w.heap.size + 1 + 1 + 1 + 1 + 1 + 1 + 1, 0, none⟩) 1 1, .slice (some ⟨w.heap.size + 1 + 1 + 1 + 1 + 1 + 1 + 1 + 1, 0, none⟩) 1 1] 25) = x := ⟨_, rfl⟩
  rw [e10] at n0 n1 n2 n3 n4 n5 n6 n7 n8 n9 q10 s10 ⊢
  refine ⟨w10, rfl, q10, fun j hj => ?_, by omega⟩
  match j, hj with
  | 0, _ => exact ⟨w.heap.size, 1, [([75, 101, 101, 112, 45, 65, 108, 105, 118, 101], [53])], b_cell n9 0, rfl, row_new n0 rfl, by decide, by decide⟩
  | 1, _ => exact ⟨w.heap.size + 1, 1, [([116, 69], [116, 114, 97, 105, 108, 101, 114, 115])], b_cell n9 1, rfl, row_new n1 rfl, by decide, by decide⟩
  | 2, _ => exact ⟨w.heap.size + 1 + 1, 1, [([85, 112, 103, 114, 97, 100, 101], [120])], b_cell n9 2, rfl, row_new n2 rfl, by decide, by decide⟩
  | 3, _ => exact ⟨w.heap.size + 1 + 1 + 1, 1, [([88, 45, 84, 111, 108, 108, 98, 97, 114, 45, 65], [49])], b_cell n9 3, rfl, row_new n3 rfl, by decide, by decide⟩
  | 4, _ => exact ⟨w.heap.size + 1 + 1 + 1 + 1, 2, [([67, 111, 110, 110, 101, 99, 116, 105, 111, 110], [122, 122, 45, 49]), ([90, 90, 45, 49], [113])], b_cell n9 4, rfl, row_new n4 rfl, by decide, by decide⟩
  | 5, _ => exact ⟨w.heap.size + 1 + 1 + 1 + 1 + 1, 1, [([86, 105, 97], [118])], b_cell n9 5, rfl, row_new n5 rfl, by decide, by decide⟩
  | 6, _ => exact ⟨w.heap.size + 1 + 1 + 1 + 1 + 1 + 1, 1, [([80, 114, 111, 120, 121, 45, 67, 111, 110, 110, 101, 99, 116, 105, 111, 110], [99, 108, 111, 115, 101])], b_cell n9 6, rfl, row_new n6 rfl, by decide, by decide⟩
  | 7, _ => exact ⟨w.heap.size + 1 + 1 + 1 + 1 + 1 + 1 + 1, 1, [([84, 114, 97, 105, 108, 101, 114], [97])], b_cell n9 7, rfl, row_new n7 rfl, by decide, by decide⟩
  | 8, _ => exact ⟨w.heap.size + 1 + 1 + 1 + 1 + 1 + 1 + 1 + 1, 1, [([69, 120, 112, 101, 99, 116], [49, 48, 48, 45, 99, 111, 110, 116, 105, 110, 117, 101])], b_cell n9 8, rfl, row_new n8 rfl, by decide, by decide⟩
  | j + 9, hj => exact absurd hj (by omega)
end Go.Proofs.YtafljoiblfhioaaGreatDoor
