/-
  What the rounds of RingPlays want beside the state: bytes that one may write over; calls behind a draw.
-/
import Derived.Test.YtcehabcbmhjcmaaQ
namespace Go.Proofs.Ytcehabcbmhjcmaa
open Go.RowKit

/-- m bytes in a block of one's own, which is no older than base. -/
def W8 (w : World) (base : Nat) (A : Option Addr) (m : Nat) : Prop :=
  0 < m → ∃ g cs t, A = some ⟨g, 0, none⟩ ∧ base ≤ g ∧ w.heap[g]? = some (.cells cs t (0, 0)) ∧ ∀ i, i < m → ∃ x : Int, cs[i]? = some (.int .u8 x)
theorem OwnB.w8 {w : World} {base : Nat} {A : Option Addr} {c m : Nat} {q : List Int} (h : OwnB w base A c q) (hm : q.length = m) : W8 w base A m := by
  subst hm
  intro hp
  rcases h.2 with ⟨hv, h0⟩ | ⟨g, cap, cur, hv, hb, hg, hn, hcm, hcs, hx⟩
  · omega
  · simp only [Value.slice.injEq] at hv
    obtain ⟨rfl, _, rfl⟩ := hv
    refine ⟨g, cur, _, rfl, hb, hg, fun i hi => ?_⟩
    have h1 := u8s_get q i hi
    rw [← hx, Nat.mul_one, List.getElem?_take_of_lt hi] at h1
    exact ⟨_, by simpa using h1⟩
theorem W8.at_ {w : World} {base : Nat} {A : Option Addr} {m : Nat} (h : W8 w base A m) (i : Nat) (hi : i < m) : ∃ g x, A = some ⟨g, 0, none⟩ ∧ base ≤ g ∧ g < w.heap.size ∧ w.cell? ⟨g, i, none⟩ = some (.int .u8 x) ∧ w.frozen? ⟨g, i, none⟩ = false := by
  obtain ⟨g, cs, t, rfl, hb, hg, hx⟩ := h (by omega)
  obtain ⟨x, hx⟩ := hx i hi
  exact ⟨g, x, rfl, hb, b_lt hg, (b_cell hg i).trans hx, b_free hg i⟩
theorem W8.set {w : World} {base g : Nat} {m : Nat} (h : W8 w base (some ⟨g, 0, none⟩) m) (i : Nat) (y : Int) : W8 (w.setCell ⟨g, i, none⟩ (.int .u8 y)) base (some ⟨g, 0, none⟩) m := by
  intro hp
  obtain ⟨g', cs, t, e, hb, hg, hx⟩ := h hp
  cases e
  refine ⟨g, _, t, rfl, hb, b_set hg i _, fun j hj => ?_⟩
  obtain ⟨x, hx⟩ := hx j hj
  rw [Array.getElem?_setIfInBounds]
  have hl := (Array.getElem?_eq_some_iff.1 hx).1
  by_cases hij : i = j
  · subst hij; exact ⟨y, by simp [hl]⟩
  · exact ⟨x, by simpa [hij] using hx⟩
theorem W8.keep {S : Nat → Prop} {w w' : World} {base : Nat} {A : Option Addr} {m : Nat} (h : W8 w base A m) (o : Only S w w') (hs : ∀ i, S i → i < base) : W8 w' base A m := by
  intro hp
  obtain ⟨g, cs, t, e, hb, hg, hx⟩ := h hp
  exact ⟨g, cs, t, e, hb, o.keep hg (fun s => by have := hs _ s; omega), hx⟩

section
variable {W w w1 : World} {mb n : Nat} {rb : Nat → Nat} {L : Nat → List Int} {M H P : Int} {G : Nat → Prop}
theorem ls_take_at (k r : Nat) (l : List Int) (x : Int) (m : Nat) (H' : Int) (h : Hid (Ls W w mb n rb L M H P G)) (o : Only (fun _ => False) w w1) (hk : k < n) (hr : rb k = r) (hl : L k = l) (hm : (m : Int) = min (max x 0) (l.length : Int)) (hlH : (l.length : Int) ≤ H) (eH : H - m = H') :
    Calls Try.prog 11 #[.pointer (some ⟨r, 0, none⟩), .int .i64 x] w1 fun e w' => ∃ A c, e = .returned (.slice A m c) ∧ Hid (OwnB w' w.heap.size A c (l.take m)) ∧ Hid (Ls W w' mb n rb (upd L k (l.drop m)) M H' P G) ∧ Only G w w' :=
  (ls_take k r l x m H' (hid (h.out.same o (fun _ h => h.elim))) hk hr hl hm hlH eH).mono fun _ _ ⟨A, c, h1, h2, h3, h4⟩ => ⟨A, c, h1, hid ⟨h2.out.1, h2.out.2.imp id (fun ⟨g, cap, cur, e1, e2, e3⟩ => ⟨g, cap, cur, e1, Nat.le_trans o.size e2, e3⟩)⟩, h3, (o.mono (fun _ h => h.elim)).trans h4⟩
theorem ls_peek_at (k r : Nat) (l : List Int) (x : Int) (m : Nat) (h : Hid (Ls W w mb n rb L M H P G)) (o : Only (fun _ => False) w w1) (hk : k < n) (hr : rb k = r) (hl : L k = l) (hm : (m : Int) = min (max x 0) (l.length : Int)) (hlH : (l.length : Int) ≤ H) :
    Calls Try.prog 15 #[.pointer (some ⟨r, 0, none⟩), .int .i64 x] w1 fun e w' => ∃ A c, e = .returned (.slice A m c) ∧ Hid (OwnB w' w.heap.size A c (l.take m)) ∧ Only (fun _ => False) w w' :=
  (ls_peek k r l x m (hid (h.out.same o (fun _ h => h.elim))) hk hr hl hm hlH).mono fun _ _ ⟨A, c, h1, h2, h3, h4⟩ => ⟨A, c, h1, hid ⟨h2.out.1, h2.out.2.imp id (fun ⟨g, cap, cur, e1, e2, e3⟩ => ⟨g, cap, cur, e1, Nat.le_trans o.size e2, e3⟩)⟩, o.trans h4⟩
end

/-- What a Put does: b says whether there is room. -/
def PutAs (b : Bool) (M H P : Int) (L : Nat → List Int) (k : Nat) (bs : List Int) (n : Nat) (H' P' : Int) (L' : Nat → List Int) : Prop :=
  (b = true ∧ H + n ≤ M ∧ H' = H + n ∧ P' = max P (H + n) ∧ L' = upd L k (L k ++ bs)) ∨ (b = false ∧ M - H < n ∧ H' = H ∧ P' = P ∧ L' = L)
theorem putAs (M H P : Int) (L : Nat → List Int) (k : Nat) (bs : List Int) (n : Nat) : ∃ b H' P' L', PutAs b M H P L k bs n H' P' L' := by
  by_cases h : H + n ≤ M
  · exact ⟨true, _, _, _, .inl ⟨rfl, h, rfl, rfl, rfl⟩⟩
  · exact ⟨false, _, _, _, .inr ⟨rfl, by omega, rfl, rfl, rfl⟩⟩
theorem PutAs.sum {b : Bool} {M H P : Int} {L : Nat → List Int} {k : Nat} {bs : List Int} {n : Nat} {H' P' : Int} {L' : Nat → List Int} (h : PutAs b M H P L k bs n H' P' L') (hb : bs.length = n) (hk : k < 3) (hs : ((L 0).length : Int) + (L 1).length + (L 2).length = H) : ((L' 0).length : Int) + (L' 1).length + (L' 2).length = H' := by
  rcases h with ⟨_, _, rfl, _, rfl⟩ | ⟨_, _, rfl, _, rfl⟩
  · match k, hk with
    | 0, _ => simp [upd]; omega
    | 1, _ => simp [upd]; omega
    | 2, _ => simp [upd]; omega
  · exact hs
theorem put3_any (b : Bool) (H P M H' P' : Int) (Z : Nat → Prop) (v : Value) (ls ls' : Nat → List Int) (k : Nat) (bs : List Int) (Ab : Option Addr) (nb cb : Nat) (w : World) (hp : PutAs b M H P ls k bs nb H' P' ls') (ok : MOk M H P) (hk : k < 3) (hb : bs.length = nb) (hl : (ls k).length ≤ H)
    (hZ : ∀ i, Z i → i < w.heap.size) (hR : RefR w Z v ls) (hB : Elems w Ab nb (B8 bs)) :
    Calls Try.prog 17 #[XV H P M v, .int .i64 (k : Int), .slice Ab nb cb] w fun e w' => ∃ v', e = .returned (.tuple #[XV H' P' M v', .bool b]) ∧ Hid (RefR w' (fun i => Z i ∨ (w.heap.size ≤ i ∧ i < w'.heap.size)) v' ls') ∧ Only (fun _ => False) w w' := by
  rcases hp with ⟨rfl, hr, rfl, rfl, rfl⟩ | ⟨rfl, hr, rfl, rfl, rfl⟩
  · exact put3_yes H P M Z v ls k bs Ab nb cb w ok hk hb hr hl hZ hR hB
  · obtain ⟨g, c, hv⟩ := hR.form
    refine (put3_no _ _ M v k Ab nb cb w ok ⟨_, _, _, hv⟩ hr).mono ?_
    rintro e w' ⟨rfl, o⟩
    obtain ⟨g', c', X, e', hg, hrow, hx⟩ := hR.keep o (fun _ _ h => h)
    exact ⟨v, rfl, hid ⟨g', c', X, e', .inl hg, hrow, fun i hi => by
      obtain ⟨A, cc, h1, h2, h3, h4⟩ := hx i hi
      exact ⟨A, cc, h1, h2, h3, fun a ha => .inl (h4 a ha)⟩⟩, o⟩
section
variable {W w : World} {mb n : Nat} {rb : Nat → Nat} {L L' : Nat → List Int} {M H P H' P' : Int} {G : Nat → Prop}
theorem ls_put_any (b : Bool) (k r m : Nat) (bs : List Int) (A : Option Addr) (c : Nat) (hp : PutAs b M H P L k bs m H' P' L') (h : Hid (Ls W w mb n rb L M H P G)) (hm : bs.length = m) (hk : k < n) (hr : rb k = r) (hlH : ((L k).length : Int) ≤ H) (hbc : m ≤ c)
    (hsrc : Elems w A m (B8 bs)) (hsep : 0 < m → ∀ a, A = some a → ¬ G a.block) :
    Calls Try.prog 10 #[.pointer (some ⟨r, 0, none⟩), .slice A m c] w fun e w' => ∃ G', e = .returned (.bool b) ∧ Hid (Ls W w' mb n rb L' M H' P' G') ∧ Hid (∀ i, G' i → G i ∨ w.heap.size ≤ i) ∧ Only G w w' := by
  rcases hp with ⟨rfl, hr', rfl, rfl, rfl⟩ | ⟨rfl, hr', rfl, rfl, rfl⟩
  · exact ls_putm k r m _ bs A c _ _ h hm hk hr rfl (by omega) hlH hbc hsrc hsep rfl rfl
  · subst hm
    refine (ls_putno k r bs A c h hk hr hr').mono ?_
    rintro e w' ⟨rfl, rfl⟩
    exact ⟨G, rfl, h, hid (fun _ h => .inl h), Only.refl _ _⟩
end
end Go.Proofs.Ytcehabcbmhjcmaa
