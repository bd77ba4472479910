/-
  The clock's Pass.
-/
import Derived.Test.YtjfhghimldjcfaaD
import Derived.Maps.AppendAt
import Derived.Laws.AppendOwnNone
namespace Go.Proofs.Ytjfhghimldjcfaa
open Go.RowKit

theorem infoInt : (Try.prog.info? 3).map (fun i => (i.zero, i.size, i.bytes)) = some (some (.int .i64 0), 1, 8) := by kernel_rfl
def i64s (q : List Int) : List Value := q.map (.int .i64)
/-- A slice of ints that the call owns. -/
def OwnI (w : World) (base : Nat) (A : Option Addr) (c : Nat) (q : List Int) : Prop := w.ownsRow base 3 1 (.slice A q.length c) q.length (i64s q)
theorem OwnI.blk {w : World} {base : Nat} {A : Option Addr} {c : Nat} {q : List Int} (h : OwnI w base A c q) : ∀ i, ab A i → base ≤ i ∧ i < w.heap.size := by
  rintro i ⟨a, ha, rfl⟩
  rcases h.2 with ⟨hv, h0⟩ | ⟨g, cap, cur, hv, hb, hg, hn, hcm, hcs, hx⟩
  · simp only [Value.slice.injEq] at hv
    rw [ha] at hv; exact absurd hv.1 (by simp)
  · simp only [Value.slice.injEq] at hv
    rw [ha] at hv
    obtain ⟨he, _⟩ := hv
    cases he
    exact ⟨hb, b_lt hg⟩
theorem OwnI.keep {S : Nat → Prop} {w w' : World} {base : Nat} {A : Option Addr} {c : Nat} {q : List Int} (h : OwnI w base A c q) (o : Only S w w') (hs : ∀ i, ab A i → ¬ S i) : OwnI w' base A c q := by
  refine ⟨h.1, ?_⟩
  rcases h.2 with hv | ⟨g, cap, cur, hv, hb, hg, r⟩
  · exact .inl hv
  · simp only [Value.slice.injEq] at hv
    obtain ⟨rfl, h2, rfl⟩ := hv
    exact .inr ⟨g, c, cur, rfl, hb, o.keep hg (hs _ ⟨_, rfl, rfl⟩), r⟩
theorem OwnI.elems {w : World} {base : Nat} {A : Option Addr} {c : Nat} {q : List Int} (h : OwnI w base A c q) : Elems w A q.length (fun i => .int .i64 (q.getD i 0)) := by
  intro hp
  rcases h.2 with ⟨hv, h0⟩ | ⟨g, cap, cur, hv, hb, hg, hn, hcm, hcs, hx⟩
  · omega
  · simp only [Value.slice.injEq] at hv
    obtain ⟨rfl, _, rfl⟩ := hv
    refine ⟨g, 0, rfl, b_lt hg, fun i hi => ?_⟩
    have h1 : (i64s q)[i]? = some (.int .i64 (q.getD i 0)) := by simp [i64s, hi]
    rw [b_cell hg, Nat.zero_add, ← h1, ← hx, Nat.mul_one, List.getElem?_take_of_lt hi]
    simp
theorem OwnI.cap {w : World} {base : Nat} {A : Option Addr} {c : Nat} {q : List Int} (h : OwnI w base A c q) : q.length ≤ c := by
  rcases h.2 with ⟨hv, h0⟩ | ⟨g, cap, cur, hv, hb, hg, hn, hcm, hcs, hx⟩
  · omega
  · simp only [Value.slice.injEq] at hv
    omega
/-- append(out, x) of one int. -/
theorem app_i {ops : Array Oper} {rest : List Oper} {o : Oper} {a : Act} {Q : Exit → Act → World → Prop} {W : World} (hgd : o.guard = none) (s x : Operand)
    (ho : o.op = .call { callee := .builtin .append, args := #[s, x], argTypes := #[31, 31] })
    (base n cap : Nat) (A : Option Addr) (q : List Int) (y : Int) (hq : q.length = n) (hs : a.eval s = .slice A n cap) (hx : a.eval x = .slice (some ⟨W.heap.size, 0, none⟩) 1 1)
    (HO : OwnI W base A cap q) (hbase : base ≤ W.heap.size) (hl : n ≤ 1000000)
    (h : ∀ A' cap' w1, Hid (OwnI w1 base A' cap' (q ++ [y])) → Hid (∀ i, ab A' i → ab A i ∨ W.heap.size ≤ i) → Only (ab A) W w1 → wpList Try.prog ops Q rest (a.put o.dst (.slice A' (n + 1) cap')) w1) :
    wpList Try.prog ops Q (o :: rest) a (W.alloc (.cells #[.int .i64 y] 3)) := by
  subst hq
  obtain ⟨i0, hi, hz0, hz1, hz2⟩ := info_parts infoInt
  have hO1 : OwnI (W.alloc (.cells #[.int .i64 y] 3)) base A cap q := HO.keep (S := fun _ => False) ((Only.refl _ W).alloc _) (fun _ _ h => h)
  refine wpList_append_own_at _ hgd s x 31 ho base 3 i0 (.int .i64 0) 1 8 Try.underlying31 hi hz0 hz1 hz2 rfl (by omega) _ _ _ hs hO1 ⟨W.heap.size, 0, none⟩ 1 1 [.int .i64 y] hx rfl (World.news_of_block (heap_alloc_new W _)) (fun u hu => by simp at hu; subst hu; rfl) (by unfold maxLen; omega) (by omega) (by simp; omega) ?_
  intro v' w1 hown hgr hiff hat
  have hO : Only (ab A) W w1 := ((Only.refl _ W).alloc _).grown hgr (fun k hk => by
    cases A with
    | none => simp [Value.ownBlock] at hk
    | some aA => simp [Value.ownBlock] at hk; exact .inl ⟨aA, rfl, hk⟩)
  have hown' : w1.ownsRow base 3 1 v' (q ++ [y]).length (i64s (q ++ [y])) := by
    have e1 : (q ++ [y]).length = q.length + 1 := by simp
    have e2 : i64s (q ++ [y]) = i64s q ++ [.int .i64 y] := by simp [i64s]
    rw [e1, e2]; exact hown
  rcases hown.2 with ⟨_, h0⟩ | ⟨g, cap', cur, rfl, hb, hg, hn, hcm, hcs, hxx⟩
  · omega
  · refine h (some ⟨g, 0, none⟩) cap' w1 (by unfold OwnI; rw [List.length_append] at hown' ⊢; exact hown') (hid ?_) hO
    rintro i ⟨b, hb', rfl⟩
    cases hb'
    rcases hat with hat | hat
    · cases A with
      | none => simp [Value.ownBlock] at hat
      | some aA => simp [Value.ownBlock] at hat; exact .inl ⟨aA, rfl, hat.symm⟩
    · simp [Value.ownBlock] at hat
      exact .inr (by show W.heap.size ≤ g; omega)

theorem tw_app {p : Int × Int → Bool} {T : List (Int × Int)} : ∀ {D : List (Int × Int)}, (∀ d ∈ D, p d = true) → (∀ d T', T = d :: T' → p d = false) → (D ++ T).takeWhile p = D ∧ (D ++ T).dropWhile p = T
  | [], _, hT => by
    cases T with
    | nil => exact ⟨rfl, rfl⟩
    | cons d T' => simp [hT d T' rfl]
  | d :: D, hD, hT => by
    have h1 := hD d (List.mem_cons_self ..)
    have h2 := tw_app (D := D) (fun x hx => hD x (List.mem_cons_of_mem _ hx)) hT
    simp [h1, h2.1, h2.2]
def due (now : Int) (d : Int × Int) : Bool := decide (d.1 ≤ now)
def slen (v : Value) : Nat := match v with | .slice _ n _ => n | _ => 0
end Go.Proofs.Ytjfhghimldjcfaa
