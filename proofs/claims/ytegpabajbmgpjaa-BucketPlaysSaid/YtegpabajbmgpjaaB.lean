/-
  The contracts of the reference's functions: New, Fill, Take, over the same numbers.
-/
import Derived.Test.YtegpabajbmgpjaaA
import Derived.Lib.MinMax
import Derived.Deep.CutBlock
import Derived.Deep.DeepCutAuto
namespace Go.Proofs.Ytegpabajbmgpjaa
open Go.RowKit

theorem between_any (n lo hi r : Int) (w : World) (hr : r = if n < lo then lo else if hi < n then hi else n) :
    Calls Try.prog 15 #[.int .i64 n, .int .i64 lo, .int .i64 hi] w fun e w' => e = .returned (.int .i64 r) ∧ w = w' := by
  have HR := hid hr
  clear hr
  by_cases h1 : n < lo
  · go_enter Try.func15, Try.ntmps15
    go_wp2
    go_ret
    exact ⟨ret_i (by rw [HR.out]; (repeat' split) <;> omega), rfl⟩
  · by_cases h2 : hi < n
    · go_enter Try.func15, Try.ntmps15
      go_wp2
      go_ret
      exact ⟨ret_i (by rw [HR.out]; (repeat' split) <;> omega), rfl⟩
    · go_enter Try.func15, Try.ntmps15
      go_wp2
      go_ret
      exact ⟨ret_i (by rw [HR.out]; (repeat' split) <;> omega), rfl⟩

/-- The reference's bucket, as a value. -/
def Agg (r u t a : Int) : Value := .agg #[.int .i64 r, .int .i64 u, .int .i64 t, .int .i64 a]

theorem refNew_any (x y : Int) (w : World) :
    Calls Try.prog 9 #[.int .i64 x, .int .i64 y] w fun e w' => e = .returned (Agg (clip x) (clip y) (clip y) 0) ∧ Below w.heap.size w w' := by
  go_enter Try.func9, Try.ntmps9
  go_wp2_with fail
  refine (between_any y 0 1048576 (clip y) _ (by unfold clip; split <;> (try split) <;> omega)).mono ?_
  rintro e w1 ⟨rfl, rfl⟩
  go_wp2_with fail
  refine (between_any x 0 1048576 (clip x) _ (by unfold clip; split <;> (try split) <;> omega)).mono ?_
  rintro e w1 ⟨rfl, rfl⟩
  go_wp2_with fail
  exact bodyPost_ret (v := Agg (clip x) (clip y) (clip y) 0) (by simp [results, Try.results9, go_sem, Agg]) rfl ⟨rfl, (Below.refl _ _).alloc (Nat.le_refl _) _⟩

theorem refFill_any (r u t a now : Int) (w : World) (o : Ok r u t a) :
    Calls Try.prog 10 #[Agg r u t a, .int .i64 now] w fun e w' => e = .returned (Agg r u (tokOf r u t a now) (nowOf a now)) ∧ Below w.heap.size w w' := by
  unfold Agg
  have hk := ok_next o now
  obtain ⟨h1, h2, h3, h4, h5, h6, h7, h8⟩ := o
  have hn : a ≤ nowOf a now := by unfold nowOf; omega
  have hm := mul_bd h1 h2 (show 0 ≤ nowOf a now - a by omega) (by have := hk.a1; omega)
  have hnd : nowOf a now = if now < a then a else if 1099511627776 < now then 1099511627776 else now := by unfold nowOf; split <;> (try split) <;> omega
  have htd : tokOf r u t a now = if t + r * (nowOf a now - a) < 0 then 0 else if u < t + r * (nowOf a now - a) then u else t + r * (nowOf a now - a) := by unfold tokOf; split <;> (try split) <;> omega
  have HN := hid hnd
  have HT := hid htd
  have k1 := hk.a1
  clear hnd htd hk
  go_enter Try.func10, Try.ntmps10
  go_wp2_with fail
  refine (between_any now a 1099511627776 (nowOf a now) _ HN.out).mono ?_
  rintro e w1 ⟨rfl, rfl⟩
  go_wp2_with fail
  refine (between_any (t + r * (nowOf a now - a)) 0 u (tokOf r u t a now) _ HT.out).mono ?_
  rintro e w1 ⟨rfl, rfl⟩
  go_wp2_with fail
  refine bodyPost_ret (v := Agg r u (tokOf r u t a now) (nowOf a now)) (by simp [results, Try.results10, go_sem, Agg]) rfl ⟨rfl, ?_⟩
  exact ((Below.refl _ _).alloc (Nat.le_refl _) _).alloc (by simp) _

/-- The world under a name, with what is known of it. -/
theorem fold {F : World → Prop} {P : Program} {c : Code} {Q : Exit → Act → World → Prop} {a : Act} {W : World} (hf : F W) (h : ∀ W', F W' → Code.wp P c Q a W') : Code.wp P c Q a W := h W hf
theorem foldC {F : World → Prop} {P : Program} {f : FuncId} {vs : Array Value} {Q : World → Ending → World → Prop} {W : World} (hf : F W) (h : ∀ W', F W' → Calls P f vs W' (Q W')) : Calls P f vs W (Q W) := h W hf
theorem st {B : Nat} {a w : World} (b i : Nat) (h : Below B a w) (hp : B ≤ b) (u : Value) : Below B a (w.setCell ⟨b, i, none⟩ u) := h.setCell hp u

set_option maxHeartbeats 400000 in
theorem refTake_neg (r u t a now n : Int) (w : World) (o : Ok r u t a) (h0 : n < 0) :
    Calls Try.prog 12 #[Agg r u t a, .int .i64 now, .int .i64 n] w fun e w' => e = .returned (.tuple #[Agg r u (tokOf r u t a now) (nowOf a now), .bool false]) ∧ Below w.heap.size w w' := by
  have hk := ok_next o now
  have b1 := hk.t0
  have b2 := hk.tu
  have b3 := hk.u1
  clear hk
  unfold Agg
  go_enter Try.func12, Try.ntmps12
  go_wp2_with fail
  have g0 := b_alloc (b_new w (.cells #[.int .i64 r, .int .i64 u, .int .i64 t, .int .i64 a] 27)) (.cells #[.int .i64 0, .int .i64 0, .int .i64 0, .int .i64 0] 27)
  have g1 := b_new (w.alloc (.cells #[.int .i64 r, .int .i64 u, .int .i64 t, .int .i64 a] 27)) (.cells #[.int .i64 0, .int .i64 0, .int .i64 0, .int .i64 0] 27)
  have l0 := ((Below.refl w.heap.size w).alloc (Nat.le_refl _) (.cells #[.int .i64 r, .int .i64 u, .int .i64 t, .int .i64 a] 27)).alloc (by simp) (.cells #[.int .i64 0, .int .i64 0, .int .i64 0, .int .i64 0] 27)
  rw [World.size_alloc] at g1
  generalize ((w.alloc (.cells #[.int .i64 r, .int .i64 u, .int .i64 t, .int .i64 a] 27)).alloc (.cells #[.int .i64 0, .int .i64 0, .int .i64 0, .int .i64 0] 27)) = W at *
  refine (refFill_any r u t a now _ o).mono ?_
  rintro e w1 ⟨rfl, hb⟩
  have q0 := b_below hb g0 (b_lt g0)
  have q1 := b_below hb g1 (b_lt g1)
  have l1 := l0.trans (hb.mono l0.size)
  clear hb g0 g1 l0
  have c0 := b_cell q0 0
  have c1 := b_cell q0 1
  have c2 := b_cell q0 2
  have c3 := b_cell q0 3
  have d0 := b_cell q1 0
  have d1 := b_cell q1 1
  have d2 := b_cell q1 2
  have d3 := b_cell q1 3
  have f0 := b_free q0 0
  have f1 := b_free q0 1
  have f2 := b_free q0 2
  have f3 := b_free q0 3
  have e0 := b_free q1 0
  have e1 := b_free q1 1
  have e2 := b_free q1 2
  have e3 := b_free q1 3
  simp at c0 c1 c2 c3 d0 d1 d2 d3
  have Q0 := hid q0
  have Q1 := hid q1
  clear q0 q1
  unfold Agg
  go_wp2_with fail
  refine bodyPost_ret (v := .tuple #[Agg r u (tokOf r u t a now) (nowOf a now), .bool false]) (by simp [results, Try.results12, go_sem, Agg, d0, d1, d2, d3]) rfl ⟨rfl, ?_⟩
  repeat (first | (with_reducible exact l1) | (with_reducible refine st _ _ ?_ (Nat.le_refl _) _) | (with_reducible refine st _ _ ?_ (Nat.le_succ _) _))

set_option maxHeartbeats 400000 in
theorem refTake_gt (r u t a now n : Int) (w : World) (o : Ok r u t a) (h0 : 0 ≤ n) (hn : tokOf r u t a now < n) :
    Calls Try.prog 12 #[Agg r u t a, .int .i64 now, .int .i64 n] w fun e w' => e = .returned (.tuple #[Agg r u (tokOf r u t a now) (nowOf a now), .bool false]) ∧ Below w.heap.size w w' := by
  have hk := ok_next o now
  have b1 := hk.t0
  have b2 := hk.tu
  have b3 := hk.u1
  clear hk
  unfold Agg
  go_enter Try.func12, Try.ntmps12
  go_wp2_with fail
  have g0 := b_alloc (b_new w (.cells #[.int .i64 r, .int .i64 u, .int .i64 t, .int .i64 a] 27)) (.cells #[.int .i64 0, .int .i64 0, .int .i64 0, .int .i64 0] 27)
  have g1 := b_new (w.alloc (.cells #[.int .i64 r, .int .i64 u, .int .i64 t, .int .i64 a] 27)) (.cells #[.int .i64 0, .int .i64 0, .int .i64 0, .int .i64 0] 27)
  have l0 := ((Below.refl w.heap.size w).alloc (Nat.le_refl _) (.cells #[.int .i64 r, .int .i64 u, .int .i64 t, .int .i64 a] 27)).alloc (by simp) (.cells #[.int .i64 0, .int .i64 0, .int .i64 0, .int .i64 0] 27)
  rw [World.size_alloc] at g1
  generalize ((w.alloc (.cells #[.int .i64 r, .int .i64 u, .int .i64 t, .int .i64 a] 27)).alloc (.cells #[.int .i64 0, .int .i64 0, .int .i64 0, .int .i64 0] 27)) = W at *
  refine (refFill_any r u t a now _ o).mono ?_
  rintro e w1 ⟨rfl, hb⟩
  have q0 := b_below hb g0 (b_lt g0)
  have q1 := b_below hb g1 (b_lt g1)
  have l1 := l0.trans (hb.mono l0.size)
  clear hb g0 g1 l0
  have c0 := b_cell q0 0
  have c1 := b_cell q0 1
  have c2 := b_cell q0 2
  have c3 := b_cell q0 3
  have d0 := b_cell q1 0
  have d1 := b_cell q1 1
  have d2 := b_cell q1 2
  have d3 := b_cell q1 3
  have f0 := b_free q0 0
  have f1 := b_free q0 1
  have f2 := b_free q0 2
  have f3 := b_free q0 3
  have e0 := b_free q1 0
  have e1 := b_free q1 1
  have e2 := b_free q1 2
  have e3 := b_free q1 3
  simp at c0 c1 c2 c3 d0 d1 d2 d3
  have Q0 := hid q0
  have Q1 := hid q1
  clear q0 q1
  unfold Agg
  go_wp2_with fail
  refine bodyPost_ret (v := .tuple #[Agg r u (tokOf r u t a now) (nowOf a now), .bool false]) (by simp [results, Try.results12, go_sem, Agg, d0, d1, d2, d3]) rfl ⟨rfl, ?_⟩
  repeat (first | (with_reducible exact l1) | (with_reducible refine st _ _ ?_ (Nat.le_refl _) _) | (with_reducible refine st _ _ ?_ (Nat.le_succ _) _))

set_option maxHeartbeats 400000 in
theorem refTake_yes (r u t a now n : Int) (w : World) (o : Ok r u t a) (h0 : 0 ≤ n) (hn : n ≤ tokOf r u t a now) :
    Calls Try.prog 12 #[Agg r u t a, .int .i64 now, .int .i64 n] w fun e w' => e = .returned (.tuple #[Agg r u (tokOf r u t a now - n) (nowOf a now), .bool true]) ∧ Below w.heap.size w w' := by
  have hk := ok_next o now
  have b1 := hk.t0
  have b2 := hk.tu
  have b3 := hk.u1
  clear hk
  unfold Agg
  go_enter Try.func12, Try.ntmps12
  go_wp2_with fail
  have g0 := b_alloc (b_new w (.cells #[.int .i64 r, .int .i64 u, .int .i64 t, .int .i64 a] 27)) (.cells #[.int .i64 0, .int .i64 0, .int .i64 0, .int .i64 0] 27)
  have g1 := b_new (w.alloc (.cells #[.int .i64 r, .int .i64 u, .int .i64 t, .int .i64 a] 27)) (.cells #[.int .i64 0, .int .i64 0, .int .i64 0, .int .i64 0] 27)
  have l0 := ((Below.refl w.heap.size w).alloc (Nat.le_refl _) (.cells #[.int .i64 r, .int .i64 u, .int .i64 t, .int .i64 a] 27)).alloc (by simp) (.cells #[.int .i64 0, .int .i64 0, .int .i64 0, .int .i64 0] 27)
  rw [World.size_alloc] at g1
  generalize ((w.alloc (.cells #[.int .i64 r, .int .i64 u, .int .i64 t, .int .i64 a] 27)).alloc (.cells #[.int .i64 0, .int .i64 0, .int .i64 0, .int .i64 0] 27)) = W at *
  refine (refFill_any r u t a now _ o).mono ?_
  rintro e w1 ⟨rfl, hb⟩
  have q0 := b_below hb g0 (b_lt g0)
  have q1 := b_below hb g1 (b_lt g1)
  have l1 := l0.trans (hb.mono l0.size)
  clear hb g0 g1 l0
  have c0 := b_cell q0 0
  have c1 := b_cell q0 1
  have c2 := b_cell q0 2
  have c3 := b_cell q0 3
  have d0 := b_cell q1 0
  have d1 := b_cell q1 1
  have d2 := b_cell q1 2
  have d3 := b_cell q1 3
  have f0 := b_free q0 0
  have f1 := b_free q0 1
  have f2 := b_free q0 2
  have f3 := b_free q0 3
  have e0 := b_free q1 0
  have e1 := b_free q1 1
  have e2 := b_free q1 2
  have e3 := b_free q1 3
  simp at c0 c1 c2 c3 d0 d1 d2 d3
  have Q0 := hid q0
  have Q1 := hid q1
  clear q0 q1
  unfold Agg
  go_upto_region 4 with (fail)
  refine fold (F := fun W' => W'.heap[w.heap.size]? = some (.cells #[.int .i64 r, .int .i64 u, .int .i64 (tokOf r u t a now), .int .i64 (nowOf a now)] 27 (0, 0)) ∧ W'.heap[w.heap.size + 1]? = some (.cells #[.int .i64 0, .int .i64 0, .int .i64 0, .int .i64 0] 27 (0, 0)) ∧ Below w.heap.size w W') ⟨b_set (b_set (b_set (b_set Q0.out 0 _) 1 _) 2 _) 3 _, b_far (b_far (b_far (b_far Q1.out (by simp) _) (by simp) _) (by simp) _) (by simp) _, st _ _ (st _ _ (st _ _ (st _ _ l1 (Nat.le_refl _) _) (Nat.le_refl _) _) (Nat.le_refl _) _) (Nat.le_refl _) _⟩ ?_
  clear c0 c1 c2 c3 d0 d1 d2 d3 f0 f1 f2 f3 e0 e1 e2 e3 Q0 Q1 l1
  rintro W' ⟨q0, q1, l1⟩
  have c0 := b_cell q0 0
  have c1 := b_cell q0 1
  have c2 := b_cell q0 2
  have c3 := b_cell q0 3
  have d0 := b_cell q1 0
  have d1 := b_cell q1 1
  have d2 := b_cell q1 2
  have d3 := b_cell q1 3
  have f2 := b_free q0 2
  have e0 := b_free q1 0
  have e1 := b_free q1 1
  have e2 := b_free q1 2
  have e3 := b_free q1 3
  simp at c0 c1 c2 c3 d0 d1 d2 d3
  clear q0 q1
  go_wp2_with fail
  refine bodyPost_ret (v := .tuple #[Agg r u (tokOf r u t a now - n) (nowOf a now), .bool true]) (by simp [results, Try.results12, go_sem, Agg, d0, d1, d2, d3]) rfl ⟨rfl, ?_⟩
  repeat (first | (with_reducible exact l1) | (with_reducible refine st _ _ ?_ (Nat.le_refl _) _) | (with_reducible refine st _ _ ?_ (Nat.le_succ _) _))

theorem refTake_any (r u t a now n : Int) (w : World) (o : Ok r u t a) :
    Calls Try.prog 12 #[Agg r u t a, .int .i64 now, .int .i64 n] w fun e w' => e = .returned (.tuple #[Agg r u (tookOf r u t a now n) (nowOf a now), .bool (tookB r u t a now n)]) ∧ Below w.heap.size w w' := by
  unfold tookB tookOf
  by_cases hc : 0 ≤ n ∧ n ≤ tokOf r u t a now
  · rw [if_pos hc, decide_eq_true hc]
    exact refTake_yes r u t a now n w o hc.1 hc.2
  · rw [if_neg hc, decide_eq_false hc]
    by_cases h0 : n < 0
    · exact refTake_neg r u t a now n w o h0
    · exact refTake_gt r u t a now n w o (by omega) (by omega)
end Go.Proofs.Ytegpabajbmgpjaa
