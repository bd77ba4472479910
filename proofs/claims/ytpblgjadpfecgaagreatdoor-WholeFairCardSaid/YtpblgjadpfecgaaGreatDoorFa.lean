/-
  WholeFair, plain: what is granted; the requests that are sent.
-/
import Derived.Test.YtpblgjadpfecgaaGreatDoorP1
set_option linter.unusedSimpArgs false
set_option linter.unusedVariables false
namespace Go.Proofs.YtpblgjadpfecgaaGreatDoor
open Go.RowKit

/-- How much of a connection stands in a list of grants, or of wants. -/
def got : List (Nat × Nat) → Nat → Nat
  | [], _ => 0
  | p :: t, id => (if p.1 = id then p.2 else 0) + got t id
def tot : List (Nat × Nat) → Nat
  | [] => 0
  | p :: t => p.2 + tot t
theorem got_app : ∀ (a b : List (Nat × Nat)) (id : Nat), got (a ++ b) id = got a id + got b id
  | [], b, id => by simp [got]
  | p :: t, b, id => by simp only [List.cons_append, got, got_app t b id]; omega
theorem tot_app : ∀ (a b : List (Nat × Nat)), tot (a ++ b) = tot a + tot b
  | [], b => by simp [tot]
  | p :: t, b => by simp only [List.cons_append, tot, tot_app t b]; omega
theorem got_le_tot : ∀ (a : List (Nat × Nat)) (id : Nat), got a id ≤ tot a
  | [], _ => Nat.le_refl _
  | p :: t, id => by
    have := got_le_tot t id
    simp only [got, tot]
    split <;> omega
/-- Flows whose wants are as those of other ones, connection by connection. -/
theorem got_at : ∀ (l : List (Nat × Nat)) (i : Nat) (p : Nat × Nat) (id : Nat), l[i]? = some p → got l id = got (l.take i) id + ((if p.1 = id then p.2 else 0) + got (l.drop (i + 1)) id)
  | [], i, p, id, h => by simp at h
  | q :: t, 0, p, id, h => by
    simp at h
    subst h
    simp [got]
  | q :: t, i + 1, p, id, h => by
    have := got_at t i p id (by simpa using h)
    simp only [List.take_succ_cons, List.drop_succ_cons, got]
    omega
theorem tot_at : ∀ (l : List (Nat × Nat)) (i : Nat) (p : Nat × Nat), l[i]? = some p → tot l = tot (l.take i) + (p.2 + tot (l.drop (i + 1)))
  | [], i, p, h => by simp at h
  | q :: t, 0, p, h => by
    simp at h
    subst h
    simp [tot]
  | q :: t, i + 1, p, h => by
    have := tot_at t i p (by simpa using h)
    simp only [List.take_succ_cons, List.drop_succ_cons, tot]
    omega
/-- GET /none HTTP/1.1, Host: h -/
def reqB : List UInt8 := [71, 69, 84, 32, 47, 110, 111, 110, 101, 32, 72, 84, 84, 80, 47, 49, 46, 49, 13, 10, 72, 111, 115, 116, 58, 32, 104, 13, 10, 13, 10]
def reqs : Nat → List UInt8
  | 0 => []
  | m + 1 => reqB ++ reqs m
theorem reqs_len : ∀ m, (reqs m).length = 31 * m
  | 0 => rfl
  | m + 1 => by simp only [reqs, List.length_append, reqs_len m]; show 31 + _ = _; omega
theorem reqs_drop (m : Nat) : (reqs (m + 1)).drop 31 = reqs m := by
  show (reqB ++ reqs m).drop 31 = reqs m
  exact List.drop_left' rfl
theorem reqs_first : ∀ m, m < 16 → requestF (reqs (m + 1)) = (([71, 69, 84], [47, 110, 111, 110, 101], 1), [(sHost, [104])], [], 31, 0)
  | 0, _ => by decide +kernel
  | 1, _ => by decide +kernel
  | 2, _ => by decide +kernel
  | 3, _ => by decide +kernel
  | 4, _ => by decide +kernel
  | 5, _ => by decide +kernel
  | 6, _ => by decide +kernel
  | 7, _ => by decide +kernel
  | 8, _ => by decide +kernel
  | 9, _ => by decide +kernel
  | 10, _ => by decide +kernel
  | 11, _ => by decide +kernel
  | 12, _ => by decide +kernel
  | 13, _ => by decide +kernel
  | 14, _ => by decide +kernel
  | 15, _ => by decide +kernel
  | m + 16, h => absurd h (by omega)
theorem req_none : requestF [] = (rl0, [], [], 0, 0) := by decide +kernel
end Go.Proofs.YtpblgjadpfecgaaGreatDoor
/-
  WholeFair, plain: what a round grants.
-/
namespace Go.Proofs.YtpblgjadpfecgaaGreatDoor
open Go.RowKit

/-- What a round grants of flows fs, at a quantum q, from a credit cr to a credit cr'. -/
structure Grants (fs : List (Nat × Nat)) (q cr cr' : Nat) (gs : List (Nat × Nat)) : Prop where
  each : ∀ g ∈ gs, 0 < g.2 ∧ g.2 ≤ 64 ∧ ∃ p ∈ fs, p.1 = g.1
  le : ∀ id, got gs id ≤ got fs id
  fin : (tot gs = tot fs ∧ cr' = 0 ∧ (tot gs = 0 ∨ tot gs ≤ cr + q)) ∨ (tot gs < tot fs ∧ cr' < 64 ∧ tot gs + cr' = cr + q)

/-- In the middle of a round: what is left, what is granted. -/
structure Mid (fs left gs : List (Nat × Nat)) (c0 c : Nat) : Prop where
  pos : ∀ p ∈ left, 0 < p.2
  sub : ∀ p ∈ left, ∃ r ∈ fs, r.1 = p.1
  each : ∀ g ∈ gs, 0 < g.2 ∧ g.2 ≤ 64 ∧ ∃ p ∈ fs, p.1 = g.1
  sum : ∀ id, got gs id + got left id = got fs id
  all : tot gs + tot left = tot fs
  cred : tot gs + c = c0
  len : left.length ≤ fs.length

theorem got_filter (l : List (Nat × Nat)) (id : Nat) : got (l.filter (fun p => 0 < p.2)) id = got l id := by
  induction l with
  | nil => rfl
  | cons p t ih =>
    by_cases h : 0 < p.2
    · rw [List.filter_cons_of_pos (by simpa using h)]
      simp only [got, ih]
    · rw [List.filter_cons_of_neg (by simpa using h)]
      simp only [got, ih]
      split <;> omega
theorem tot_filter (l : List (Nat × Nat)) : tot (l.filter (fun p => 0 < p.2)) = tot l := by
  induction l with
  | nil => rfl
  | cons p t ih =>
    by_cases h : 0 < p.2
    · rw [List.filter_cons_of_pos (by simpa using h)]
      simp only [tot, ih]
    · rw [List.filter_cons_of_neg (by simpa using h)]
      simp only [tot, ih]
      omega
theorem Mid.start (fs : List (Nat × Nat)) (c : Nat) : Mid fs (fs.filter (fun p => 0 < p.2)) [] c c where
  pos := fun p hp => by simpa using (List.mem_filter.1 hp).2
  sub := fun p hp => ⟨p, (List.mem_filter.1 hp).1, rfl⟩
  each := fun g hg => by cases hg
  sum := fun id => by simp [got, got_filter]
  all := by simp [tot, tot_filter]
  cred := by simp [tot]
  len := List.length_filter_le _ _
/-- The flow in place i is granted m of its want; it stays. -/
theorem Mid.part {fs left gs : List (Nat × Nat)} {c0 c i m : Nat} {p : Nat × Nat} (h : Mid fs left gs c0 c) (hp : left[i]? = some p) (hm : m < p.2) (h0 : 0 < m) (h64 : m ≤ 64) (hc : m ≤ c) :
    Mid fs (left.set i (p.1, p.2 - m)) (gs ++ [(p.1, m)]) c0 (c - m) := by
  have hi : i < left.length := (List.getElem?_eq_some_iff.1 hp).1
  have hmem := List.mem_of_getElem? hp
  have e : left.set i (p.1, p.2 - m) = left.take i ++ (p.1, p.2 - m) :: left.drop (i + 1) := by rw [List.set_eq_take_append_cons_drop, if_pos hi]
  refine ⟨fun r hr => ?_, fun r hr => ?_, fun g hg => ?_, fun id => ?_, ?_, ?_, by rw [List.length_set]; exact h.len⟩
  · rcases List.mem_or_eq_of_mem_set hr with hr | rfl
    · exact h.pos r hr
    · show 0 < p.2 - m; omega
  · rcases List.mem_or_eq_of_mem_set hr with hr | rfl
    · exact h.sub r hr
    · exact h.sub p hmem
  · rcases List.mem_append.1 hg with hg | hg
    · exact h.each g hg
    · simp only [List.mem_singleton] at hg
      subst hg
      exact ⟨h0, h64, h.sub p hmem⟩
  · have := h.sum id
    rw [got_at left i p id hp] at this
    rw [e, got_app, got_app]
    simp only [got]
    by_cases h1 : p.1 = id
    · simp only [h1, if_true] at this ⊢; omega
    · simp only [if_neg h1] at this ⊢; omega
  · have := h.all
    rw [tot_at left i p hp] at this
    rw [e, tot_app, tot_app]
    simp only [tot]
    omega
  · have := h.cred
    rw [tot_app]
    simp only [tot]
    omega
/-- The flow in place i is granted all its want; it goes. -/
theorem Mid.full {fs left gs : List (Nat × Nat)} {c0 c i : Nat} {p : Nat × Nat} (h : Mid fs left gs c0 c) (hp : left[i]? = some p) (h64 : p.2 ≤ 64) (hc : p.2 ≤ c) :
    Mid fs (left.take i ++ left.drop (i + 1)) (gs ++ [(p.1, p.2)]) c0 (c - p.2) := by
  have hi : i < left.length := (List.getElem?_eq_some_iff.1 hp).1
  have hmem := List.mem_of_getElem? hp
  have hsub : ∀ r ∈ left.take i ++ left.drop (i + 1), r ∈ left := fun r hr => by
    rcases List.mem_append.1 hr with hr | hr
    · exact List.mem_of_mem_take hr
    · exact List.mem_of_mem_drop hr
  refine ⟨fun r hr => h.pos r (hsub r hr), fun r hr => h.sub r (hsub r hr), fun g hg => ?_, fun id => ?_, ?_, ?_, ?_⟩
  · rcases List.mem_append.1 hg with hg | hg
    · exact h.each g hg
    · simp only [List.mem_singleton] at hg
      subst hg
      exact ⟨h.pos p hmem, h64, h.sub p hmem⟩
  · have := h.sum id
    rw [got_at left i p id hp] at this
    rw [got_app, got_app]
    simp only [got]
    omega
  · have := h.all
    rw [tot_at left i p hp] at this
    rw [tot_app, tot_app]
    simp only [tot]
    omega
  · have := h.cred
    rw [tot_app]
    simp only [tot]
    omega
  · have := h.len
    simp only [List.length_append, List.length_take, List.length_drop]
    omega
theorem tot_pos {l : List (Nat × Nat)} (h : l ≠ []) (hp : ∀ p ∈ l, 0 < p.2) : 0 < tot l := by
  cases l with
  | nil => exact absurd rfl h
  | cons p t =>
    have := hp p (by simp)
    simp only [tot]
    omega
/-- The round ends: nothing is left. -/
theorem Mid.done {fs gs : List (Nat × Nat)} {q cr c : Nat} (h : Mid fs [] gs (cr + q) c) : Grants fs q cr 0 gs :=
  ⟨h.each, fun id => by have := h.sum id; simp only [got] at this; omega, .inl ⟨by have := h.all; simp only [tot] at this; omega, rfl, .inr (by have := h.cred; omega)⟩⟩
theorem Mid.none {fs gs : List (Nat × Nat)} {c0 c q cr : Nat} (h : Mid fs [] gs c0 c) (hg : gs = []) : Grants fs q cr 0 gs :=
  ⟨h.each, fun id => by have := h.sum id; simp only [got] at this; omega, .inl ⟨by have := h.all; simp only [tot] at this; omega, rfl, .inl (by subst hg; rfl)⟩⟩
/-- The round ends: there is not enough credit. -/
theorem Mid.stop {fs left gs : List (Nat × Nat)} {q cr c : Nat} (h : Mid fs left gs (cr + q) c) (hl : left ≠ []) (hc : c < 64) : Grants fs q cr c gs :=
  ⟨h.each, fun id => by have := h.sum id; omega, .inr ⟨by have := h.all; have := tot_pos hl h.pos; omega, hc, h.cred⟩⟩
end Go.Proofs.YtpblgjadpfecgaaGreatDoor
/-
  Right fields.
-/
namespace Go.Proofs.YtpblgjadpfecgaaGreatDoor
open Go.RowKit

theorem right_parts {n v : List UInt8} (h : right n v = true) : n.length ≤ 100 ∧ token n = true ∧ v.length ≤ 1000 ∧ v.all valC = true ∧ trim v = v := by
  unfold right at h
  simp only [Bool.and_eq_true, decide_eq_true_eq, beq_iff_eq] at h
  exact ⟨h.1, h.2.1, h.2.2.1, h.2.2.2.1, h.2.2.2.2⟩
/-- A field's line without its end. -/

def Rights (fs : List FD) : Prop := ∀ p ∈ fs, right p.1 p.2 = true
end Go.Proofs.YtpblgjadpfecgaaGreatDoor
