/-
  WholeScrubs: what its walk needs: steps of regions that draw their order; the table of fields.
-/
import Derived.Test.YtafljoiblfhioaaGreatDoorSag
import Derived.Test.YtafljoiblfhioaaGreatDoorSe
import Derived.Test.YtafljoiblfhioaaGreatDoorM
import Derived.Deep.AppendLies
import Derived.Deep.RegionLaw
namespace Go.Proofs.YtafljoiblfhioaaGreatDoor
open Go.RowKit

/-- append(fs, gs...), at a step of a region that draws its order. -/
theorem step_ff {ops : Array Oper} {o : Oper} {a : Act} {W : World} {K : Act → World → Prop} {Q : Exit → Act → World → Prop} {E : Prop} (hgd : o.guard = none) (sl x : Operand) (ho : o.op = .call { callee := .builtin .append, args := #[sl, x], argTypes := #[25, 25] })
    (base n cap m c : Nat) (A S : Option Addr) (l r : List FD) (hl : l.length = n) (hr : r.length = m) (hs : a.eval sl = .slice A n cap) (hx : a.eval x = .slice S m c)
    (HO : OwnF W base A cap l) (HS : Row W S (fV r)) (hnil : S = none → m = 0 ∧ c = 0) (hbase : base ≤ W.heap.size) (hb : n + m ≤ 100000)
    (h : ∀ A' cap' w1, Hid (OwnF w1 base A' cap' (l ++ r)) → Hid (∀ i, ab A' i → ab A i ∨ W.heap.size ≤ i) → Only (ab A) W w1 → K (a.put o.dst (.slice A' (n + m) cap')) w1) :
    if Region.wanted o (yielded ops a.tmps) = true then Oper.wp Tryz.prog o a W K Q else E := by
  have hw : Region.wanted o (yielded ops a.tmps) = true := by simp [Region.wanted, hgd]
  rw [if_pos hw]
  subst hl hr
  obtain ⟨i0, hi, hz0, hz1, hz2⟩ := info_split info_fld
  obtain ⟨A', c', w', hrun, h2, h3, h4⟩ := run_app_row (P := Tryz.prog) W base 25 o.type 39 i0 (.agg #[.string ⟨#[]⟩, .string ⟨#[]⟩]) 2 32 Tryz.underlying25 hi hz0 hz1 hz2 rfl (by omega) A _ cap _ HO S r.length c _ (fV_len r) HS hnil (fV_one r) (by unfold maxLen; omega) (by omega) hbase
  unfold Oper.wp execOp
  simp only [ho, resolve, invoke, builtin, Sem.run_bind, Sem.run_pure, Result.andThen_ok, List.map_toArray, List.map_cons, List.map_nil, hs, hx, hrun]
  refine h A' c' w' ?_ (hid h4) h3
  unfold OwnF Hid
  rw [List.length_append, fV_app]
  exact h2
theorem own_empty {w : World} {g base : Nat} (hb : base ≤ g) (H : w.heap[g]? = some (.cells #[] 39 (0, 0))) : OwnF w base (some ⟨g, 0, none⟩) 0 [] :=
  ⟨rfl, .inr ⟨g, #[], (0, 0), rfl, hb, H, .inr rfl, Nat.le_refl _, by decide, rfl, rfl⟩⟩
/-- The table of fields that are put in. -/
def Tab (w : World) (g : Nat) : Prop := ∀ j, j < 9 → ∃ a k add, w.cell? ⟨g, j, none⟩ = some (.slice (some ⟨a, 0, none⟩) k k) ∧ add.length = k ∧ Row w (some ⟨a, 0, none⟩) (fV add) ∧ add ∈ moreL ∧ k ≤ 2
theorem Tab.same {w w' : World} {g : Nat} (h : Tab w g) (hg : g < w.heap.size) (o : Only (fun _ => False) w w') : Tab w' g := fun j hj => by
  obtain ⟨a, k, add, h1, h2, h3, h4, h5⟩ := h j hj
  exact ⟨a, k, add, (o.cell (p := ⟨g, j, none⟩) hg (fun h => h)).trans h1, h2, h3.same o, h4, h5⟩
theorem row_new {w : World} {g : Nat} {l : List FD} {cs : Array Value} {f : Nat × Nat} (H : w.heap[g]? = some (.cells cs 39 f)) (h : fV l = cs.toList) : Row w (some ⟨g, 0, none⟩) (fV l) := by
  intro _
  refine ⟨g, 0, rfl, b_lt H, fun j u hu => ?_⟩
  rw [b_cell' H, Nat.zero_add]
  rw [h] at hu
  simpa using hu
end Go.Proofs.YtafljoiblfhioaaGreatDoor
