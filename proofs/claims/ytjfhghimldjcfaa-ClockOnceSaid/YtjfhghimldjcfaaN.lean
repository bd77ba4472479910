/-
  The queue's own Push and Pop; the library's heap.Push and heap.Pop.
-/
import Derived.Test.YtjfhghimldjcfaaJ
import Derived.Deep.RegionLaw
namespace Go.Proofs.Ytjfhghimldjcfaa
open Go.RowKit

theorem infoDue : (Try.prog.info? 57).map (fun i => (i.zero, i.size, i.bytes)) = some (some (.agg #[.int .i64 0, .int .i64 0]), 2, 16) := by kernel_rfl
theorem info_parts {t : TypeId} {z : Option Value} {s b : Nat} (h : (Try.prog.info? t).map (fun i => (i.zero, i.size, i.bytes)) = some (z, s, b)) : ∃ i0, Try.prog.info? t = some i0 ∧ i0.zero = z ∧ i0.size = s ∧ i0.bytes = b := by
  obtain ⟨i0, hi, hzz⟩ := Option.map_eq_some_iff.1 h
  simp only [Prod.mk.injEq] at hzz
  exact ⟨i0, hi, hzz.1, hzz.2.1, hzz.2.2⟩

theorem fold {F : World → Prop} {P : Program} {c : Code} {Q : Exit → Act → World → Prop} {a : Act} {W : World} (hf : F W) (h : ∀ W', F W' → Code.wp P c Q a W') : Code.wp P c Q a W := h W hf
theorem o_set (w : World) (p : Addr) (u : Value) : Only (· = p.block) w (w.setCell p u) := (Only.refl (· = p.block) w).setCell (p := p) (.inl rfl) u
/-- The cell at a holds v now; its block's other cells are as they were. -/
def Rowed (w w' : World) (a : Addr) (v : Value) : Prop := a.spot = none → ∀ cs t, w.heap[a.block]? = some (.cells cs t (0, 0)) → w'.heap[a.block]? = some (.cells (cs.setIfInBounds a.off v) t (0, 0))
theorem rowed_set (w : World) (a : Addr) (v : Value) : Rowed w (w.setCell a v) a v := fun hs cs t h => by simp [World.setCell, Array.getElem?_modify, h, hs]
theorem Rowed.after {S : Nat → Prop} {w w1 w2 : World} {a : Addr} {v : Value} (h : Rowed w1 w2 a v) (o : Only S w w1) (hs : ¬ S a.block) : Rowed w w2 a v := fun e cs t hr => h e cs t (o.keep hr hs)
theorem Rowed.before {S : Nat → Prop} {w w1 w2 : World} {a : Addr} {v : Value} (h : Rowed w w1 a v) (o : Only S w1 w2) (hs : ¬ S a.block) : Rowed w w2 a v := fun e cs t hr => o.keep (h e cs t hr) hs
theorem QRow.own {w : World} {A : Option Addr} {n cap : Nat} {q : Nat → Int × Int} (h : QRow w A n cap q) :
    ∃ xs, w.ownsRow 0 57 2 (.slice A n cap) n xs ∧ xs.length = n * 2 ∧ ∀ x, x < n → xs[x * 2]? = some (.int .i64 (q x).1) ∧ xs[x * 2 + 1]? = some (.int .i64 (q x).2) := by
  rcases h with ⟨rfl, rfl, rfl⟩ | ⟨g, cs, rfl, hg, h1, h2, h3, h4⟩
  · exact ⟨[], ⟨rfl, .inl ⟨rfl, rfl⟩⟩, rfl, fun x hx => by omega⟩
  · have hl : (cs.toList.take (n * 2)).length = n * 2 := by rw [List.length_take, Array.length_toList]; omega
    refine ⟨cs.toList.take (n * 2), ⟨hl, .inr ⟨g, cap, cs, rfl, Nat.zero_le _, hg, h1, h2, h3, rfl⟩⟩, hl, fun x hx => ?_⟩
    obtain ⟨c0, c1⟩ := h4 x hx
    rw [List.getElem?_take_of_lt (by omega), List.getElem?_take_of_lt (by omega)]
    simpa using ⟨c0, c1⟩
theorem QRow.of_own {w : World} {g n cap : Nat} {q : Nat → Int × Int} {xs : List Value} {d : Int × Int} (h : w.ownsRow 0 57 2 (.slice (some ⟨g, 0, none⟩) (n + 1) cap) (n + 1) (xs ++ [.int .i64 d.1, .int .i64 d.2])) (hl : xs.length = n * 2)
    (hx : ∀ x, x < n → xs[x * 2]? = some (.int .i64 (q x).1) ∧ xs[x * 2 + 1]? = some (.int .i64 (q x).2)) : QRow w (some ⟨g, 0, none⟩) (n + 1) cap (fun x => if x = n then d else q x) := by
  obtain ⟨_, ⟨h0, _⟩ | ⟨g', cap', cs, e, _, hg, h1, h2, h3, h4⟩⟩ := h
  · simp at h0
  · simp only [Value.slice.injEq, Option.some.injEq, Addr.mk.injEq, true_and, and_true] at e
    obtain ⟨rfl, rfl⟩ := e
    refine .inr ⟨g, cs, rfl, hg, h1, h2, h3, fun x hxn => ?_⟩
    have get : ∀ j, j < (n + 1) * 2 → cs[j]? = (xs ++ [Value.int .i64 d.1, .int .i64 d.2])[j]? := fun j hj => by
      rw [← h4, List.getElem?_take_of_lt hj]; simp
    rw [get _ (by omega), get _ (by omega)]
    by_cases hn : x = n
    · subst hn
      simp only [↓reduceIte]
      rw [List.getElem?_append_right (by omega), List.getElem?_append_right (by omega), hl]
      simp
    · simp only [if_neg hn]
      rw [List.getElem?_append_left (by omega), List.getElem?_append_left (by omega)]
      exact hx x (by omega)

set_option maxHeartbeats 1000000 in
theorem qpush_any (a : Addr) (A : Option Addr) (n cap : Nat) (q : Nat → Int × Int) (d : Int × Int) (w : World) (h : QAt w a A n cap q) (hn : n ≤ 1000000) :
    Calls Try.prog 51 #[.pointer (some a), .iface 57 (.agg #[.int .i64 d.1, .int .i64 d.2])] w fun e w' => ∃ A' cap', e = .returned (.tuple #[]) ∧ Hid (QAt w' a A' (n + 1) cap' (fun x => if x = n then d else q x)) ∧ Hid (∀ i, ab A' i → ab A i ∨ w.heap.size ≤ i) ∧ Hid (Rowed w w' a (.slice A' (n + 1) cap')) ∧ Only (fun i => ab A i ∨ i = a.block) w w' := by
  obtain ⟨xs, hown, hxl, hxx⟩ := h.row.own
  obtain ⟨i0, hi0, hz0, hz1, hz2⟩ := info_parts infoDue
  have hc := h.cell
  have hf := h.free
  have hlt := h.lt
  have hne := h.ne
  have HOWN := hid hown
  have HXX := hid hxx
  have HXL := hid hxl
  have HQ := hid h
  have HI := hid hi0
  have HZ0 := hid hz0
  have HZ1 := hid hz1
  have HZ2 := hid hz2
  clear hown hxx hxl h hi0 hz0 hz1 hz2
  obtain ⟨d1, d2⟩ := d
  simp only
  have hta : ∀ w, (Instr.typeAssert (.iface 57 (.agg #[.int .i64 d1, .int .i64 d2])) 20 57 false).run Try.prog w = .ok (.agg #[.int .i64 d1, .int .i64 d2]) w := fun w => by kernel_rfl
  go_enter Try.func51, Try.ntmps51
  go_region_law
    (first | (refine step_append_lies _ (by rfl) _ _ _ (by rfl) 0 57 i0 _ 2 16 Try.underlying52 HI.out HZ0.out HZ1.out HZ2.out rfl (by omega) (.slice A n cap) n xs (by rfl) (by exact HOWN.out.alloc _) ⟨w.heap.size, 0, none⟩ 1 1 [.int .i64 d1, .int .i64 d2] (by rfl) rfl (by exact World.news_of_block (heap_alloc_new w _)) (by simp [Value.oneCell']) (by omega) (by unfold maxLen; omega) (by omega) (by omega) _ rfl ?_; intro g2 cp2 w2 hown2 hgr hat hlt2; have o2 : Only (ab A) w w2 := (((Only.refl _ w).alloc (.cells #[.int .i64 d1, .int .i64 d2] 57)).drew).grown hgr (fun k hk => by cases A with | none => simp [Value.ownBlock] at hk | some aA => simp [Value.ownBlock] at hk; exact .inl ⟨aA, rfl, hk⟩); have hd0 := (o2.cell hlt hne).trans hc; have hd1 := (World.frozen?_of_block (o2.block a.block hlt hne)).trans hf))
  all_goals clear HZ0 HZ1 HZ2 HI HQ HOWN
  all_goals
    have hrow := QRow.of_own (d := (d1, d2)) hown2 HXL.out HXX.out
    have hcell : (w2.setCell a (.slice (some ⟨g2, 0, none⟩) (n + 1) cp2)).cell? a = some (.slice (some ⟨g2, 0, none⟩) (n + 1) cp2) := World.cell?_setCell_same' w2 a _ (by rw [hd0]; rfl)
    have hsz := o2.size
    have hgg : ab A g2 ∨ w.heap.size ≤ g2 := by
      rcases hat with hat | hat
      · cases A with
        | none => simp [Value.ownBlock] at hat
        | some aA => simp [Value.ownBlock] at hat; exact .inl ⟨aA, rfl, hat⟩
      · simp at hat; exact .inr (by omega)
    have hgn : g2 ≠ a.block := fun e => by
      rcases hgg with h | h
      · exact hne (e ▸ h)
      · omega
    have os : Only (· = a.block) w2 (w2.setCell a (.slice (some ⟨g2, 0, none⟩) (n + 1) cp2)) := o_set w2 a _
    go_returns
    exact ⟨some ⟨g2, 0, none⟩, cp2, rfl, hid ⟨hcell, Nat.lt_of_lt_of_le hlt (Nat.le_trans hsz os.size), hrow.keep os (fun b hb => by cases hb; exact hgn), fun ⟨b, hb, e⟩ => by cases hb; exact hgn e, by rw [World.frozen?_setCell]; exact hd1⟩, hid (fun i ⟨b, hb, e⟩ => by cases hb; exact e ▸ hgg), hid ((rowed_set w2 a _).after o2 hne), (o2.mono (fun i h => .inl h)).setCell (p := a) (.inl (.inr rfl)) _⟩

theorem elemQ : Try.prog.elem 52 = 57 := by simp [Program.elem, Try.underlying52]
theorem sizeDue (W : World) : (sizeOf 57).run Try.prog W = .ok 2 W := by kernel_rfl
theorem qcut (A : Option Addr) (n c k : Nat) (h : k ≤ c) (W : World) :
    (Instr.slice 52 (.slice A n c) none (some (.int .i64 (k : Int))) none).run Try.prog W = .ok (.slice A k c) W := by
  have ht : Try.prog.underlying 52 = some (.slice (Try.prog.elem 52)) := by rw [elemQ, Try.underlying52]
  rw [run_slice_h (P := Try.prog) W 52 A n c ht .i64 (k : Int) (by omega) (by omega), elemQ, sizeDue]
  simp only [Result.andThen, sliced, Int.toNat_natCast, Nat.sub_zero, Nat.zero_mul]
  cases A <;> simp [Addr.add_zero']
theorem qcut' (A : Option Addr) (n c k : Nat) (h : k ≤ c) (W : World) :
    (Instr.sliceAt 52 (.slice A n c) none (some (.int .i64 (k : Int))) none).run Try.prog W = .ok (.slice A k c) W := by
  have ht : Try.prog.underlying 52 = some (.slice (Try.prog.elem 52)) := by rw [elemQ, Try.underlying52]
  rw [run_sliceAt_slice W 52 _ _ _ _ ht]
  exact qcut A n c k h W
theorem QRow.less {w : World} {A : Option Addr} {n m cap : Nat} {q : Nat → Int × Int} (h : QRow w A n cap q) (hm : m ≤ n) : QRow w A m cap q := by
  rcases h with ⟨rfl, rfl, rfl⟩ | ⟨g, cs, h1, h2, h3, h4, h5, h6⟩
  · exact .inl ⟨rfl, by omega, rfl⟩
  · exact .inr ⟨g, cs, h1, h2, by omega, h4, h5, fun x hx => h6 x (by omega)⟩

set_option maxHeartbeats 1000000 in
theorem qpop_any (a : Addr) (A : Option Addr) (n cap : Nat) (q : Nat → Int × Int) (w : World) (h : QAt w a A (n + 1) cap q) (hn : n ≤ 1000000) :
    Calls Try.prog 50 #[.pointer (some a)] w fun e w' => e = .returned (.iface 57 (.agg #[.int .i64 (q n).1, .int .i64 (q n).2])) ∧ Hid (QAt w' a A n cap q) ∧ Hid (Rowed w w' a (.slice A n cap)) ∧ Only (· = a.block) w w' := by
  obtain ⟨g, rfl, hg⟩ := h.row.at_ n (by omega)
  obtain ⟨c0, c1⟩ := h.row.cells n (by omega)
  obtain ⟨hl1, hl2⟩ := h.row.len
  unfold maxLen at hl2
  have hc := h.cell
  have hf := h.free
  have hlt := h.lt
  have hne := h.ne
  have HQ := hid h
  clear h
  obtain ⟨x0, hx0⟩ : ∃ x0, (q n).1 = x0 := ⟨_, rfl⟩
  obtain ⟨x1, hx1⟩ : ∃ x1, (q n).2 = x1 := ⟨_, rfl⟩
  rw [hx0] at c0 ⊢
  rw [hx1] at c1 ⊢
  clear hx0 hx1
  obtain ⟨N, hN⟩ : ∃ N, n + 1 = N := ⟨_, rfl⟩
  rw [hN] at hc HQ hl1
  have eN : (N : Int) - 1 = (n : Int) := by omega
  have eN3 : N - 1 = n := by omega
  have hw : IntKind.i64.wrap ((N : Int) - 1) = (n : Int) := by rw [IntKind.wrap_i64]; omega
  have b0 : (0 : Int) ≤ (n : Int) := by omega
  have b1 : (n : Int) < (N : Int) := by omega
  have b2 : N ≤ 1000001 := by omega
  have HN := hid hN
  clear hN
  have kc := qcut ((some ⟨g, 0, none⟩)) N cap n (by omega)
  have kc' := qcut' ((some ⟨g, 0, none⟩)) N cap n (by omega)
  have nw1 := World.new_ne w a hc
  have nw2 := World.new_ne w ⟨g, n * 2, none⟩ c0
  have nw3 := World.new_ne w ⟨g, n * 2 + 1, none⟩ c1
  go_enter Try.func50, Try.ntmps50
  go_upto_region 1 with (fail)
  go_region
  go_upto_region 2 with (fail)
  refine fold (F := fun W' => Hid (QAt W' a (some ⟨g, 0, none⟩) N cap q) ∧ Hid (W'.heap[w.heap.size]? = some (.cells #[.int .i64 x0, .int .i64 x1] 57 (0, 0))) ∧ Only (fun _ => False) w W') ⟨hid (HQ.out.same (((Only.refl _ _).alloc _).drew)), hid (b_drew (b_new w _)), ((Only.refl _ _).alloc _).drew⟩ ?_
  rintro w1 ⟨H1, B1, o1⟩
  clear nw1 nw2 nw3 c0 c1 hc hf HQ
  have hc := H1.out.cell
  have hf := H1.out.free
  go_region
  go_upto_region 3 with (fail)
  have os := (o_set w1 a (.slice (some ⟨g, 0, none⟩) n cap)).drew
  refine fold (F := fun W' => Hid (QAt W' a (some ⟨g, 0, none⟩) n cap q) ∧ Hid (W'.heap[w.heap.size]? = some (.cells #[.int .i64 x0, .int .i64 x1] 57 (0, 0))) ∧ Hid (Rowed w W' a (.slice (some ⟨g, 0, none⟩) n cap)) ∧ Only (· = a.block) w W') ⟨hid ⟨?_, ?_, ?_, hne, ?_⟩, hid (os.keep B1.out (by omega)), hid (((rowed_set w1 a _).before (S := fun _ => False) ((Only.refl _ _).drew) (fun h => h)).after o1 (fun h => h)), (o1.mono (fun _ h => h.elim)).trans os⟩ ?_
  · exact World.cell?_setCell_same' w1 a _ (by rw [hc]; rfl)
  · exact Nat.lt_of_lt_of_le hlt (Nat.le_trans o1.size os.size)
  · exact (H1.out.row.less (by omega)).keep os (fun b hb e => hne ⟨b, hb, e⟩)
  · show (w1.setCell a _).frozen? a = false
    rw [World.frozen?_setCell]; exact hf
  rintro w2 ⟨H2, B2, R2, o2⟩
  clear hc hf os o1 H1 B1
  have c0 := b_cell B2.out 0
  have c1 := b_cell B2.out 1
  simp only [List.getElem?_toArray, List.getElem?_cons_zero, List.getElem?_cons_succ] at c0 c1
  go_wp2_with fail
  go_ret
  exact ⟨rfl, H2, R2, o2⟩
end Go.Proofs.Ytjfhghimldjcfaa
