/-
  The reference's clock: its list as a row; without, ahead.
-/
import Derived.Test.YtjfhghimldjcfaaG
namespace Go.Proofs.Ytjfhghimldjcfaa
open Go.RowKit

theorem infoRDue : (Try.prog.info? 45).map (fun i => (i.zero, i.size, i.bytes)) = some (some (.agg #[.int .i64 0, .int .i64 0]), 2, 16) := by kernel_rfl
/-- The cells of a list of the reference's: number, moment. -/
def ds : List (Int × Int) → List Value
  | [] => []
  | d :: S => .int .i64 d.2 :: .int .i64 d.1 :: ds S
theorem ds_len : ∀ S, (ds S).length = S.length * 2
  | [] => rfl
  | d :: S => by simp [ds, ds_len S]; omega
theorem ds_app : ∀ S T, ds (S ++ T) = ds S ++ ds T
  | [], T => rfl
  | d :: S, T => by simp [ds, ds_app S T]
theorem ds_get : ∀ (S : List (Int × Int)) (j : Nat) (d : Int × Int), S[j]? = some d → (ds S)[j * 2]? = some (.int .i64 d.2) ∧ (ds S)[j * 2 + 1]? = some (.int .i64 d.1)
  | [], j, d, h => by simp at h
  | x :: S, 0, d, h => by simp at h; subst h; simp [ds]
  | x :: S, j + 1, d, h => by
    have := ds_get S j d (by simpa using h)
    have e1 : (j + 1) * 2 = j * 2 + 1 + 1 := by omega
    rw [e1]
    simpa [ds] using this
/-- A slice of the reference's, which the call owns. -/
def OwnD (w : World) (base : Nat) (A : Option Addr) (c : Nat) (S : List (Int × Int)) : Prop := w.ownsRow base 45 2 (.slice A S.length c) S.length (ds S)
theorem OwnD.blk {w : World} {base : Nat} {A : Option Addr} {c : Nat} {S : List (Int × Int)} (h : OwnD w base A c S) : ∀ i, ab A i → base ≤ i ∧ i < w.heap.size := by
  rintro i ⟨a, ha, rfl⟩
  rcases h.2 with ⟨hv, h0⟩ | ⟨g, cap, cur, hv, hb, hg, hn, hcm, hcs, hx⟩
  · simp only [Value.slice.injEq] at hv
    rw [ha] at hv; exact absurd hv.1 (by simp)
  · simp only [Value.slice.injEq] at hv
    rw [ha] at hv
    obtain ⟨he, _⟩ := hv
    cases he
    exact ⟨hb, b_lt hg⟩
theorem OwnD.keep {T : Nat → Prop} {w w' : World} {base : Nat} {A : Option Addr} {c : Nat} {S : List (Int × Int)} (h : OwnD w base A c S) (o : Only T w w') (hs : ∀ i, ab A i → ¬ T i) : OwnD w' base A c S := by
  refine ⟨h.1, ?_⟩
  rcases h.2 with hv | ⟨g, cap, cur, hv, hb, hg, r⟩
  · exact .inl hv
  · simp only [Value.slice.injEq] at hv
    obtain ⟨rfl, h2, rfl⟩ := hv
    exact .inr ⟨g, c, cur, rfl, hb, o.keep hg (hs _ ⟨_, rfl, rfl⟩), r⟩
theorem OwnD.mono {w : World} {base base' : Nat} {A : Option Addr} {c : Nat} {S : List (Int × Int)} (h : OwnD w base A c S) (hb : base' ≤ base) : OwnD w base' A c S :=
  ⟨h.1, h.2.imp (fun h => h) (fun ⟨g, cap, cur, hv, h1, r⟩ => ⟨g, cap, cur, hv, Nat.le_trans hb h1, r⟩)⟩
theorem OwnD.at_ {w : World} {base : Nat} {A : Option Addr} {c : Nat} {S : List (Int × Int)} (h : OwnD w base A c S) (j : Nat) (hj : j < S.length) : ∃ g, A = some ⟨g, 0, none⟩ ∧ g < w.heap.size ∧ w.cell? ⟨g, j * 2, none⟩ = some (.int .i64 (S.getD j (0, 0)).2) ∧ w.cell? ⟨g, j * 2 + 1, none⟩ = some (.int .i64 (S.getD j (0, 0)).1) := by
  rcases h.2 with ⟨hv, h0⟩ | ⟨g, cap, cur, hv, hb, hg, hn, hcm, hcs, hx⟩
  · omega
  · simp only [Value.slice.injEq] at hv
    obtain ⟨rfl, _, rfl⟩ := hv
    have hd : S[j]? = some (S.getD j (0, 0)) := by simp [hj]
    obtain ⟨c0, c1⟩ := ds_get S j _ hd
    refine ⟨g, rfl, b_lt hg, ?_, ?_⟩
    · rw [b_cell hg, ← c0, ← hx, List.getElem?_take_of_lt (by omega)]; simp
    · rw [b_cell hg, ← c1, ← hx, List.getElem?_take_of_lt (by omega)]; simp
theorem OwnD.cap {w : World} {base : Nat} {A : Option Addr} {c : Nat} {S : List (Int × Int)} (h : OwnD w base A c S) : S.length ≤ c ∧ c ≤ maxLen := by
  rcases h.2 with ⟨hv, h0⟩ | ⟨g, cap, cur, hv, hb, hg, hn, hcm, hcs, hx⟩
  · simp only [Value.slice.injEq] at hv; exact ⟨by omega, by rw [hv.2.2]; simp [maxLen]⟩
  · simp only [Value.slice.injEq] at hv
    obtain ⟨_, _, rfl⟩ := hv
    exact ⟨hn, hcm⟩
/-- append(out, d). -/
theorem app_d {ops : Array Oper} {rest : List Oper} {o : Oper} {a : Act} {Q : Exit → Act → World → Prop} {W : World} (hgd : o.guard = none) (s x : Operand)
    (ho : o.op = .call { callee := .builtin .append, args := #[s, x], argTypes := #[26, 26] })
    (base n cap : Nat) (A : Option Addr) (S : List (Int × Int)) (y0 y1 : Int) (hq : S.length = n) (hs : a.eval s = .slice A n cap) (hx : a.eval x = .slice (some ⟨W.heap.size, 0, none⟩) 1 1)
    (HO : OwnD W base A cap S) (hbase : base ≤ W.heap.size) (hl : n ≤ 1000000)
    (h : ∀ A' cap' w1, Hid (OwnD w1 base A' cap' (S ++ [(y1, y0)])) → Hid (∀ i, ab A' i → ab A i ∨ W.heap.size ≤ i) → Only (ab A) W w1 → wpList Try.prog ops Q rest (a.put o.dst (.slice A' (n + 1) cap')) w1) :
    wpList Try.prog ops Q (o :: rest) a (W.alloc (.cells #[.int .i64 y0, .int .i64 y1] 45)) := by
  subst hq
  obtain ⟨i0, hi, hz0, hz1, hz2⟩ := info_parts infoRDue
  have hO1 : OwnD (W.alloc (.cells #[.int .i64 y0, .int .i64 y1] 45)) base A cap S := HO.keep (T := fun _ => False) ((Only.refl _ W).alloc _) (fun _ _ h => h)
  refine wpList_append_own_at _ hgd s x 26 ho base 45 i0 (.agg #[.int .i64 0, .int .i64 0]) 2 16 Try.underlying26 hi hz0 hz1 hz2 rfl (by omega) _ _ _ hs hO1 ⟨W.heap.size, 0, none⟩ 1 1 [.int .i64 y0, .int .i64 y1] hx rfl (World.news_of_block (heap_alloc_new W _)) (fun u hu => by simp at hu; rcases hu with rfl | rfl <;> rfl) (by unfold maxLen; omega) (by omega) (by simp; omega) ?_
  intro v' w1 hown hgr hiff hat
  have hO : Only (ab A) W w1 := ((Only.refl _ W).alloc _).grown hgr (fun k hk => by
    cases A with
    | none => simp [Value.ownBlock] at hk
    | some aA => simp [Value.ownBlock] at hk; exact .inl ⟨aA, rfl, hk⟩)
  have hown' : w1.ownsRow base 45 2 v' (S ++ [(y1, y0)]).length (ds (S ++ [(y1, y0)])) := by
    have e1 : (S ++ [(y1, y0)]).length = S.length + 1 := by simp
    have e2 : ds (S ++ [(y1, y0)]) = ds S ++ [.int .i64 y0, .int .i64 y1] := by rw [ds_app]; rfl
    rw [e1, e2]; exact hown
  rcases hown.2 with ⟨_, h0⟩ | ⟨g, cap', cur, rfl, hb, hg, hn, hcm, hcs, hxx⟩
  · omega
  · refine h (some ⟨g, 0, none⟩) cap' w1 (by unfold OwnD; rw [List.length_append] at hown' ⊢; exact hown') (hid ?_) hO
    rintro i ⟨b, hb', rfl⟩
    cases hb'
    rcases hat with hat | hat
    · cases A with
      | none => simp [Value.ownBlock] at hat
      | some aA => simp [Value.ownBlock] at hat; exact .inl ⟨aA, rfl, hat.symm⟩
    · simp [Value.ownBlock] at hat
      exact .inr (by show W.heap.size ≤ g; omega)

def DV (d : Int × Int) : Value := .agg #[.int .i64 d.2, .int .i64 d.1]
theorem two_rows (w : World) (o1 o2 : Obj) : ((w.alloc o1).alloc o2).heap[w.heap.size]? = some o1 ∧ ((w.alloc o1).alloc o2).heap[w.heap.size + 1]? = some o2 := by
  refine ⟨b_alloc (b_new w o1) _, ?_⟩
  have := b_new (w.alloc o1) o2
  simpa using this
theorem ahead_any (d e : Int × Int) (w : World) : Calls Try.prog 22 #[DV d, DV e] w fun r w' => r = .returned (.bool (decide (dlt d e))) ∧ Only (fun _ => False) w w' := by
  obtain ⟨d1, d2⟩ := d
  obtain ⟨e1, e2⟩ := e
  unfold DV
  simp only
  go_enter Try.func22, Try.ntmps22
  have oo : Only (fun _ => False) w ((w.alloc (.cells #[.int .i64 d2, .int .i64 d1] 45)).alloc (.cells #[.int .i64 e2, .int .i64 e1] 45)) := ((Only.refl _ _).alloc _).alloc _
  by_cases h1 : d1 < e1
  · go_wp2_with fail
    go_ret
    exact ⟨by simp [dlt, h1], oo⟩
  · by_cases h2 : d1 = e1
    · subst h2
      go_wp2_with fail
      go_ret
      exact ⟨by simp [dlt], oo⟩
    · go_wp2_with fail
      go_ret
      have hnd : ¬ dlt (d1, d2) (e1, e2) := by unfold dlt; simp only; omega
      exact ⟨by rw [decide_eq_false hnd]; rfl, oo⟩
end Go.Proofs.Ytjfhghimldjcfaa
