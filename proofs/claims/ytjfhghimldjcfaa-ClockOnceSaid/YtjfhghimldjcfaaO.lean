/-
  A slice that the call owns and appends to: where it lies, what has turned.
-/
import Derived.Test.YtjfhghimldjcfaaK
import Derived.Deep.AppendLies
namespace Go.Proofs.Ytjfhghimldjcfaa
open Go.RowKit

section
variable {P : Program} {ops : Array Oper} {rest : List Oper} {o : Oper} {a : Act} {Q : Exit → Act → World → Prop} {W : World}

/-- append(s, y), one element of one cell, which the walk has just laid in a new block. -/
theorem app1 (hgd : o.guard = none) (s x : Operand) (t e : TypeId) (z : Value) (bytes : Nat)
    (ho : o.op = .call { callee := .builtin .append, args := #[s, x], argTypes := #[t, t] })
    (ht : P.underlying t = some (.slice e)) (hinfo : (P.info? e).map (fun i => (i.zero, i.size, i.bytes)) = some (some z, 1, bytes)) (hz : z.cells.size = 1) (hb0 : 0 < bytes)
    (base g n cap : Nat) (xs : List Value) (y : Value) (hs : a.eval s = .slice (some ⟨g, 0, none⟩) n cap) (hx : a.eval x = .slice (some ⟨W.heap.size, 0, none⟩) 1 1) (h1 : y.oneCell' = true)
    (HO : W.ownsRow base e 1 (.slice (some ⟨g, 0, none⟩) n cap) n xs) (hbase : base ≤ W.heap.size) (hl : (n + 1) * bytes ≤ 140737488355328)
    (h : ∀ g' cap' w1, w1.ownsRow base e 1 (.slice (some ⟨g', 0, none⟩) (n + 1) cap') (n + 1) (xs ++ [y]) → Only (· = g) W w1 → (g' = g ∨ W.heap.size ≤ g') → g' < w1.heap.size → wpList P ops Q rest (a.put o.dst (.slice (some ⟨g', 0, none⟩) (n + 1) cap')) w1) :
    wpList P ops Q (o :: rest) a (W.alloc (.cells #[y] e)) := by
  obtain ⟨i0, hi, hzz⟩ := Option.map_eq_some_iff.1 hinfo
  simp only [Prod.mk.injEq] at hzz
  obtain ⟨hz0, hz1, hz2⟩ := hzz
  have hlen : n + 1 ≤ 140737488355328 := Nat.le_trans (Nat.le_mul_of_pos_right _ hb0) hl
  refine wpList_append_lies (W.alloc (.cells #[y] e)) hgd s x t ho base e i0 z 1 bytes ht hi hz0 hz1 hz2 hz (by omega) _ n xs hs (HO.alloc _) ⟨W.heap.size, 0, none⟩ 1 1 [y] hx rfl
    (World.news_of_block (cs := #[y]) (t := e) (fr := (0, 0)) (heap_alloc_new W _)) (by simpa using h1) (by omega) (by simp only [maxLen]; omega) hl (by simp; omega) _ rfl ?_
  intro g' cap' w1 hown hg hat hlt
  refine h g' cap' w1 hown (((Only.refl _ W).alloc _).grown hg (fun k hk => .inl ?_)) ?_ hlt
  · simp [Value.ownBlock] at hk
    exact hk.symm
  · rcases hat with hat | hat
    · simp [Value.ownBlock] at hat
      exact .inl hat.symm
    · right
      simp at hat
      omega
end

/-- What is owned stays so while other blocks turn. -/
theorem own_keep {w w' : World} {S : Nat → Prop} {base g n cap : Nat} {e : TypeId} {xs : List Value} (h : w.ownsRow base e 1 (.slice (some ⟨g, 0, none⟩) n cap) n xs) (o : Only S w w') (hs : ¬ S g) : w'.ownsRow base e 1 (.slice (some ⟨g, 0, none⟩) n cap) n xs := by
  refine ⟨h.1, ?_⟩
  rcases h.2 with ⟨hv, _⟩ | ⟨g', cap', cur, hv, hb, hg, r⟩
  · cases hv
  · simp at hv
    obtain ⟨rfl, rfl⟩ := hv
    exact .inr ⟨g, cap, cur, rfl, hb, o.keep hg hs, r⟩
theorem own_size {w : World} {base g n cap : Nat} {e : TypeId} {xs : List Value} (h : w.ownsRow base e 1 (.slice (some ⟨g, 0, none⟩) n cap) n xs) : base ≤ g ∧ g < w.heap.size ∧ n ≤ cap ∧ xs.length = n := by
  rcases h.2 with ⟨hv, _⟩ | ⟨g', cap', cur, hv, hb, hg, hn, r⟩
  · cases hv
  · simp at hv
    obtain ⟨rfl, rfl⟩ := hv
    exact ⟨hb, b_lt hg, hn, by simpa using h.1⟩
/-- Its cells. -/
theorem own_cell {w : World} {base g n cap : Nat} {e : TypeId} {xs : List Value} (h : w.ownsRow base e 1 (.slice (some ⟨g, 0, none⟩) n cap) n xs) (i : Nat) (hi : i < n) : ∃ v, xs[i]? = some v ∧ w.cell? ⟨g, i, none⟩ = some v := by
  have hl := own_size h
  have hx : xs[i]? = some (xs[i]'(by omega)) := List.getElem?_eq_getElem (by omega)
  refine ⟨_, hx, ?_⟩
  have := h.cells (g := g) rfl i _ hx
  rwa [Go.WideShapes.add_plain, Nat.zero_add] at this
/-- The literal []T{}. -/
theorem own_empty (w : World) (base : Nat) (e : TypeId) (hb : base ≤ w.heap.size) : (w.alloc (.cells #[] e)).ownsRow base e 1 (.slice (some ⟨w.heap.size, 0, none⟩) 0 0) 0 [] :=
  World.ownsRow_made w #[] 0 hb (by simp [maxLen]) rfl
end Go.Proofs.Ytjfhghimldjcfaa
