/-
  The queue's row; Less, Len.
-/
import Derived.Test.YtjfhghimldjcfaaQ
namespace Go.Proofs.Ytjfhghimldjcfaa
open Go.RowKit

theorem o_put {a w : World} {b : Nat} (h : Only (· = b) a w) (i : Nat) (u : Value) : Only (· = b) a (w.setCell ⟨b, i, none⟩ u) := h.setCell (.inl rfl) u
/-- One stands ahead of another. -/
def dlt (a b : Int × Int) : Prop := a.1 < b.1 ∨ (a.1 = b.1 ∧ a.2 < b.2)
instance (a b : Int × Int) : Decidable (dlt a b) := by unfold dlt; infer_instance

/-- n numbers with their moments in a block: those of q. -/
def QRow (w : World) (A : Option Addr) (n cap : Nat) (q : Nat → Int × Int) : Prop :=
  (A = none ∧ n = 0 ∧ cap = 0) ∨ ∃ g cs, A = some ⟨g, 0, none⟩ ∧ w.heap[g]? = some (.cells cs 57 (0, 0)) ∧ n ≤ cap ∧ cap ≤ maxLen ∧ cs.size = cap * 2 ∧ ∀ x, x < n → cs[x * 2]? = some (.int .i64 (q x).1) ∧ cs[x * 2 + 1]? = some (.int .i64 (q x).2)
theorem QRow.at_ {w : World} {A : Option Addr} {n cap : Nat} {q : Nat → Int × Int} (h : QRow w A n cap q) (x : Nat) (hx : x < n) : ∃ g, A = some ⟨g, 0, none⟩ ∧ g < w.heap.size := by
  rcases h with ⟨_, h0, _⟩ | ⟨g, cs, hA, hg, _⟩
  · omega
  · exact ⟨g, hA, b_lt hg⟩
theorem QRow.cells {w : World} {g : Nat} {n cap : Nat} {q : Nat → Int × Int} (h : QRow w (some ⟨g, 0, none⟩) n cap q) (x : Nat) (hx : x < n) : w.cell? ⟨g, x * 2, none⟩ = some (.int .i64 (q x).1) ∧ w.cell? ⟨g, x * 2 + 1, none⟩ = some (.int .i64 (q x).2) := by
  rcases h with ⟨h0, _⟩ | ⟨g', cs, hA, hg, _, _, _, hc⟩
  · cases h0
  · cases hA
    exact ⟨(b_cell hg _).trans (hc x hx).1, (b_cell hg _).trans (hc x hx).2⟩
theorem QRow.keep {S : Nat → Prop} {w w' : World} {A : Option Addr} {n cap : Nat} {q : Nat → Int × Int} (h : QRow w A n cap q) (o : Only S w w') (hs : ∀ a, A = some a → ¬ S a.block) : QRow w' A n cap q := by
  rcases h with h | ⟨g, cs, rfl, hg, r⟩
  · exact .inl h
  · exact .inr ⟨g, cs, rfl, o.keep hg (hs _ rfl), r⟩
theorem QRow.len {w : World} {A : Option Addr} {n cap : Nat} {q : Nat → Int × Int} (h : QRow w A n cap q) : n ≤ cap ∧ cap ≤ maxLen := by
  rcases h with ⟨_, rfl, rfl⟩ | ⟨g, cs, hA, hg, h1, h2, _⟩
  · exact ⟨Nat.le_refl _, by simp [maxLen]⟩
  · exact ⟨h1, h2⟩

theorem QRow.congr {w : World} {A : Option Addr} {n cap : Nat} {q q' : Nat → Int × Int} (h : QRow w A n cap q) (e : ∀ x, x < n → q' x = q x) : QRow w A n cap q' := by
  rcases h with h | ⟨g, cs, h1, h2, h3, h4, h5, h6⟩
  · exact .inl h
  · exact .inr ⟨g, cs, h1, h2, h3, h4, h5, fun x hx => by rw [e x hx]; exact h6 x hx⟩
theorem QRow.put {w : World} {g n cap : Nat} {q : Nat → Int × Int} (h : QRow w (some ⟨g, 0, none⟩) n cap q) (i : Nat) (d : Int × Int) :
    QRow ((w.setCell ⟨g, i * 2, none⟩ (.int .i64 d.1)).setCell ⟨g, i * 2 + 1, none⟩ (.int .i64 d.2)) (some ⟨g, 0, none⟩) n cap (fun x => if x = i then d else q x) := by
  rcases h with ⟨h0, _⟩ | ⟨g', cs, hA, hg, h1, h2, h3, h4⟩
  · cases h0
  · cases hA
    refine .inr ⟨g, _, rfl, b_set (b_set hg _ _) _ _, h1, h2, by simpa using h3, fun x hx => ?_⟩
    obtain ⟨c0, c1⟩ := h4 x hx
    have l0 := (Array.getElem?_eq_some_iff.1 c0).1
    have l1 := (Array.getElem?_eq_some_iff.1 c1).1
    by_cases hxi : x = i
    · subst hxi
      simp only [↓reduceIte]
      constructor
      · rw [Array.getElem?_setIfInBounds_ne (by omega), Array.getElem?_setIfInBounds_self_of_lt l0]
      · rw [Array.getElem?_setIfInBounds_self_of_lt (by simpa using l1)]
    · simp only [if_neg hxi]
      constructor
      · rw [Array.getElem?_setIfInBounds_ne (by omega), Array.getElem?_setIfInBounds_ne (by omega)]; exact c0
      · rw [Array.getElem?_setIfInBounds_ne (by omega), Array.getElem?_setIfInBounds_ne (by omega)]; exact c1

theorem or_lt (a b : Int × Int) : decide ((if cmp3 a.1 b.1 = 0 then cmp3 a.2 b.2 else cmp3 a.1 b.1) < 0) = decide (dlt a b) := by
  have : ((if cmp3 a.1 b.1 = 0 then cmp3 a.2 b.2 else cmp3 a.1 b.1) < 0) ↔ dlt a b := by
    unfold cmp3 dlt
    (repeat' split) <;> omega
  exact decide_eq_decide.2 this

set_option maxHeartbeats 1000000 in
theorem less_any (A : Option Addr) (n cap : Nat) (q : Nat → Int × Int) (i k : Nat) (w : World) (h : QRow w A n cap q) (hi : i < n) (hk : k < n) :
    Calls Try.prog 43 #[.slice A n cap, .int .i64 (i : Int), .int .i64 (k : Int)] w fun e w' => e = .returned (.bool (decide (dlt (q i) (q k)))) ∧ Only (fun _ => False) w w' := by
  obtain ⟨g, rfl, hg⟩ := h.at_ i hi
  obtain ⟨a0, a1⟩ := h.cells i hi
  obtain ⟨b0, b1⟩ := h.cells k hk
  obtain ⟨hl1, hl2⟩ := h.len
  unfold maxLen at hl2
  clear h
  rw [← or_lt]
  generalize q i = x at *
  generalize q k = y at *
  obtain ⟨x0, x1⟩ := x
  obtain ⟨y0, y1⟩ := y
  simp only at a0 a1 b0 b1 ⊢
  obtain ⟨c0, hc0⟩ : ∃ c0, cmp3 x0 y0 = c0 := ⟨_, rfl⟩
  obtain ⟨c1, hc1⟩ : ∃ c1, cmp3 x1 y1 = c1 := ⟨_, rfl⟩
  rw [hc0, hc1]
  obtain ⟨oo, hoo⟩ : ∃ oo, (if c0 = 0 then c1 else c0) = oo := ⟨_, rfl⟩
  rw [hoo]
  have HOO := hid hoo
  clear hoo
  have HC0 := hid hc0
  have HC1 := hid hc1
  clear hc0 hc1
  go_enter Try.func43, Try.ntmps43
  go_upto_region 1 with (fail)
  go_region_held3 (fun w' => w'.cell? ⟨g, i * 2, none⟩ = some (.int .i64 x0) ∧ w'.cell? ⟨g, i * 2 + 1, none⟩ = some (.int .i64 x1) ∧ w'.cell? ⟨g, k * 2, none⟩ = some (.int .i64 y0) ∧ w'.cell? ⟨g, k * 2 + 1, none⟩ = some (.int .i64 y1)) (go_keep)
    (first
      | (go_at_call 46; refine (cmp64 x0 y0 _).mono ?_; rintro e w1 ⟨rfl, rfl⟩; rw [HC0.out])
      | (go_at_call 47; refine (cmpint x1 y1 _).mono ?_; rintro e w1 ⟨rfl, rfl⟩; rw [HC1.out])
      | (go_at_call 45; refine (or_any c0 c1 _ _ _ (b_cell (b_new _ _) 0) (b_cell (b_new _ _) 1)).mono ?_; rintro e w1 ⟨rfl, o1⟩; rw [HOO.out]; have o2 : Only (fun _ => False) w w1 := Only.trans (b := w.alloc (.cells #[.int .i64 c0, .int .i64 c1] 3)) ((Only.refl _ w).alloc _) ⟨o1.os, o1.tape, o1.output, o1.size, o1.block⟩; have d0 := (o2.cell (p := ⟨g, i * 2, none⟩) hg (fun h => h)).trans a0; have d1 := (o2.cell (p := ⟨g, i * 2 + 1, none⟩) hg (fun h => h)).trans a1; have d2 := (o2.cell (p := ⟨g, k * 2, none⟩) hg (fun h => h)).trans b0; have d3 := (o2.cell (p := ⟨g, k * 2 + 1, none⟩) hg (fun h => h)).trans b1))
  clear o1 d0 d1 d2 d3
  go_wp2_with fail
  go_ret
  exact ⟨rfl, o2⟩

theorem len_any (A : Option Addr) (n cap : Nat) (w : World) : Calls Try.prog 42 #[.slice A n cap] w fun e w' => e = .returned (.int .i64 (n : Int)) ∧ w = w' := by
  go_enter Try.func42, Try.ntmps42
  go_wp2
  go_ret
  exact ⟨rfl, rfl⟩

/-- Two of q in each other's place. -/
def swp (q : Nat → Int × Int) (i k : Nat) (x : Nat) : Int × Int := if x = i then q k else if x = k then q i else q x

set_option maxHeartbeats 1000000 in
theorem swap_any (A : Option Addr) (n cap : Nat) (q : Nat → Int × Int) (i k : Nat) (w : World) (h : QRow w A n cap q) (hi : i < n) (hk : k < n) :
    Calls Try.prog 44 #[.slice A n cap, .int .i64 (i : Int), .int .i64 (k : Int)] w fun e w' => e = .returned (.tuple #[]) ∧ QRow w' A n cap (swp q i k) ∧ Only (fun b => ∃ a, A = some a ∧ a.block = b) w w' := by
  obtain ⟨g, rfl, hg⟩ := h.at_ i hi
  obtain ⟨a0, a1⟩ := h.cells i hi
  obtain ⟨b0, b1⟩ := h.cells k hk
  obtain ⟨hl1, hl2⟩ := h.len
  unfold maxLen at hl2
  obtain ⟨cs, hrow, hsz, hc⟩ : ∃ cs, w.heap[g]? = some (.cells cs 57 (0, 0)) ∧ cs.size = cap * 2 ∧ ∀ x, x < n → cs[x * 2]? = some (.int .i64 (q x).1) ∧ cs[x * 2 + 1]? = some (.int .i64 (q x).2) := by
    rcases h with ⟨h0, _⟩ | ⟨g', cs, hA, hg, _, _, h3, h4⟩
    · cases h0
    · cases hA; exact ⟨cs, hg, h3, h4⟩
  have y0 := b_free hrow (i * 2)
  have y1 := b_free hrow (i * 2 + 1)
  have y2 := b_free hrow (k * 2)
  have y3 := b_free hrow (k * 2 + 1)
  have HC := hid hc
  have HROW := hid hrow
  have HH := hid h
  clear h hc hrow
  by_cases hik : i = k
  · subst hik
    go_enter Try.func44, Try.ntmps44
    go_region
    have h2 := (HH.out.put i (q i)).put i (q i)
    have oo : Only (· = g) w _ := o_put (o_put (o_put (o_put (Only.refl _ w) (i * 2) (.int .i64 (q i).1)) (i * 2 + 1) (.int .i64 (q i).2)) (i * 2) (.int .i64 (q i).1)) (i * 2 + 1) (.int .i64 (q i).2)
    go_returns
    exact ⟨rfl, (h2.congr (fun x hx => by unfold swp; (repeat' split) <;> simp_all)).keep (S := fun _ => False) ((Only.refl _ _).drew) (fun _ _ h => h), (oo.mono (fun j hj => ⟨_, rfl, hj.symm⟩)).drew⟩
  · have n1 : ¬ k = i := fun e => hik e.symm
    have n2 : ¬ i * 2 = k * 2 := by omega
    have n3 : ¬ k * 2 = i * 2 := by omega
    have n4 : ¬ i * 2 + 1 = k * 2 := by omega
    have n5 : ¬ k * 2 = i * 2 + 1 := by omega
    have n6 : ¬ i * 2 = k * 2 + 1 := by omega
    have n7 : ¬ k * 2 + 1 = i * 2 := by omega
    go_enter Try.func44, Try.ntmps44
    go_region
    have h2 := (HH.out.put i (q k)).put k (q i)
    have oo : Only (· = g) w _ := o_put (o_put (o_put (o_put (Only.refl _ w) (i * 2) (.int .i64 (q k).1)) (i * 2 + 1) (.int .i64 (q k).2)) (k * 2) (.int .i64 (q i).1)) (k * 2 + 1) (.int .i64 (q i).2)
    go_returns
    exact ⟨rfl, (h2.congr (fun x hx => by unfold swp; (repeat' split) <;> simp_all)).keep (S := fun _ => False) ((Only.refl _ _).drew) (fun _ _ h => h), (oo.mono (fun j hj => ⟨_, rfl, hj.symm⟩)).drew⟩
end Go.Proofs.Ytjfhghimldjcfaa
