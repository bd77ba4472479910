/-
  Slices of bytes: SameBytes, a part of a slice, append of a slice.
-/
import Derived.Test.YtcehabcbmhjcmaaW
import Derived.Maps.AppendAt
import Derived.Laws.AppendOwnNone
namespace Go.Proofs.Ytcehabcbmhjcmaa
open Go.RowKit

def B8 (q : List Int) (i : Nat) : Value := .int .u8 (q.getD i 0)
theorem Elems.only {S : Nat → Prop} {w w' : World} {A : Option Addr} {n : Nat} {V : Nat → Value} (h : Elems w A n V) (o : Only S w w') (hs : ∀ a, A = some a → ¬ S a.block) : Elems w' A n V := by
  intro hn
  obtain ⟨b, off, e, hl, hc⟩ := h hn
  exact ⟨b, off, e, Nat.lt_of_lt_of_le hl o.size, fun j hj => (o.cell (p := ⟨b, off + j, none⟩) hl (hs ⟨b, off, none⟩ e)).trans (hc j hj)⟩
theorem Elems.same {w w' : World} {A : Option Addr} {n : Nat} {V : Nat → Value} (h : Elems w A n V) (o : Only (fun _ => False) w w') : Elems w' A n V := h.only o (fun _ _ h => h)
theorem Elems.head {w : World} {A : Option Addr} {n m : Nat} {V : Nat → Value} (h : Elems w A n V) (hm : m ≤ n) : Elems w A m V := by
  intro hn
  obtain ⟨b, off, e, hl, hc⟩ := h (by omega)
  exact ⟨b, off, e, hl, fun j hj => hc j (by omega)⟩

set_option maxHeartbeats 1000000 in
theorem same_any (q : List Int) (A B : Option Addr) (n cA cB : Nat) (w : World) (hA : Elems w A n (B8 q)) (hB : Elems w B n (B8 q)) (hl : n ≤ 1099511627776) :
    Calls Try.prog 14 #[.slice A n cA, .slice B n cB] w fun e w' => e = .returned (.bool true) ∧ Only (fun _ => False) w w' := by
  have HA := hid hA
  have HB := hid hB
  clear hA hB
  go_enter Try.func14, Try.ntmps14
  go_wp2_with fail
  go_loopw [5] (fun iv wr => ∃ k, k ≤ n ∧ iv = .int .i64 (k : Int) ∧ Only (fun _ => False) w wr) (fun iv _ => n - (intOf iv).toNat)
  case atStart => exact ⟨0, Nat.zero_le _, rfl, Only.refl _ _⟩
  case round =>
    obtain ⟨k, hk, rfl, o⟩ := hrel
    by_cases hlt : k < n
    · obtain ⟨ba, oa, rfl, ca⟩ := (HA.out.same o).at_ k hlt
      obtain ⟨bb, ob, rfl, cb⟩ := (HB.out.same o).at_ k hlt
      unfold B8 at ca cb
      go_wp2_with fail
      go_quiet (fail)
      go_wp2_with fail
      go_roundw
      case rel => exact ⟨k + 1, by omega, by simp, Only.drewN o _⟩
      case measure => simp [intOf]; omega
    · obtain rfl : k = n := by omega
      go_wp2_with fail
      go_ret
      exact ⟨rfl, o⟩
theorem same_any2 (q : List Int) (A B : Option Addr) (n n' cA cB : Nat) (w : World) (hn : n = n') (hA : Elems w A n (B8 q)) (hB : Elems w B n' (B8 q)) (hl : n ≤ 1099511627776) :
    Calls Try.prog 14 #[.slice A n cA, .slice B n' cB] w fun e w' => e = .returned (.bool true) ∧ Only (fun _ => False) w w' := by
  subst hn
  exact same_any q A B n cA cB w hA hB hl
theorem OwnB.elems' {w : World} {base : Nat} {A : Option Addr} {c n : Nat} {q : List Int} (h : OwnB w base A c q) (hn : q.length = n) : Elems w A n (B8 q) := by
  subst hn
  exact h.elems

theorem run_h (A : Option Addr) (n c k : Nat) (h : k ≤ c) (W : World) :
    (Instr.slice 22 (.slice A n c) none (some (.int .i64 (k : Int))) none).run Try.prog W = .ok (.slice A k c) W := by
  have ht : Try.prog.underlying 22 = some (.slice (Try.prog.elem 22)) := by rw [elem22, Try.underlying22]
  rw [run_slice_h (P := Try.prog) W 22 A n c ht .i64 (k : Int) (by omega) (by omega), elem22, size5]
  simp only [Result.andThen, sliced, Int.toNat_natCast, Nat.sub_zero, Nat.zero_mul]
  cases A <;> simp [Addr.add_zero']
theorem run_h' (A : Option Addr) (n c k : Nat) (h : k ≤ c) (W : World) :
    (Instr.sliceAt 22 (.slice A n c) none (some (.int .i64 (k : Int))) none).run Try.prog W = .ok (.slice A k c) W := by
  have ht : Try.prog.underlying 22 = some (.slice (Try.prog.elem 22)) := by rw [elem22, Try.underlying22]
  rw [run_sliceAt_slice W 22 _ _ _ _ ht]
  exact run_h A n c k h W

/-- append(out, xs...) of bytes. -/
theorem app_b {ops : Array Oper} {rest : List Oper} {o : Oper} {a : Act} {Q : Exit → Act → World → Prop} {W : World} (hgd : o.guard = none) (s x : Operand)
    (ho : o.op = .call { callee := .builtin .append, args := #[s, x], argTypes := #[22, 22] })
    (base n m cap c : Nat) (A S : Option Addr) (q r : List Int) (hq : q.length = n) (hr : r.length = m) (hs : a.eval s = .slice A n cap) (hx : a.eval x = .slice S m c)
    (HO : OwnB W base A cap q) (HS : Elems W S m (B8 r)) (hnil : S = none → c = 0 ∧ m = 0) (hbase : base ≤ W.heap.size) (hl : n + m ≤ 140737488355328)
    (h : ∀ A' cap' w1, Hid (OwnB w1 base A' cap' (q ++ r)) → Only (fun i => ∃ a, A = some a ∧ a.block = i) W w1 → Hid (∀ a', A' = some a' → (∃ a, A = some a ∧ a.block = a'.block) ∨ W.heap.size ≤ a'.block) → wpList Try.prog ops Q rest (a.put o.dst (.slice A' (n + m) cap')) w1) :
    wpList Try.prog ops Q (o :: rest) a W := by
  subst hq hr
  obtain ⟨i0, hi, hzz⟩ := Option.map_eq_some_iff.1 info5
  simp only [Prod.mk.injEq] at hzz
  obtain ⟨hz0, hz1, hz2⟩ := hzz
  cases S with
  | none =>
    obtain ⟨rfl, hm⟩ := hnil rfl
    obtain rfl : r = [] := List.eq_nil_of_length_eq_zero hm
    refine wpList_append_own_none hgd s x 22 ho base 5 i0 1 Try.underlying22 hi _ _ _ hs HO hx ?_
    exact h A cap W (by rw [List.append_nil]; exact HO) (Only.refl _ _) (fun a' ha => .inl ⟨a', ha, rfl⟩)
  | some ad =>
    refine wpList_append_own_at W hgd s x 22 ho base 5 i0 (.int .u8 0) 1 1 Try.underlying22 hi hz0 hz1 hz2 rfl (by omega) _ _ _ hs HO ad r.length c (u8s r) hx (by rw [u8s_len]; omega) (fun j u hu => ?_) (fun u hu => ?_) (by unfold maxLen; omega) (by omega) hbase ?_
    · have hj : j < r.length := by have := (List.getElem?_eq_some_iff.1 hu).1; rwa [u8s_len] at this
      obtain ⟨b, off, e, hb, hc⟩ := HS (by omega)
      cases e
      rw [Go.WideShapes.add_plain, hc j hj, ← hu, u8s_get r j hj]
      rfl
    · obtain ⟨z, _, rfl⟩ := List.mem_map.1 hu
      rfl
    · intro v' w1 hown hgr hiff hat
      have hO : Only (fun i => ∃ a, A = some a ∧ a.block = i) W w1 := (Only.refl _ _).grown hgr (fun k hk => by
        cases A with
        | none => simp [Value.ownBlock] at hk
        | some aA => simp [Value.ownBlock] at hk; exact .inl ⟨aA, rfl, hk⟩)
      have hown' : w1.ownsRow base 5 1 v' (q ++ r).length (u8s (q ++ r)) := by rw [List.length_append, u8s_append]; exact hown
      rcases hown.2 with ⟨rfl, h0⟩ | ⟨g, cap', cur, rfl, hb, hg, hn, hcm, hcs, hxx⟩
      · have h2 := h none 0 w1 (by unfold OwnB; rw [List.length_append, h0]; rw [List.length_append, h0] at hown'; exact hown') hO (fun a' ha => by cases ha)
        rwa [h0] at h2
      · refine h (some ⟨g, 0, none⟩) cap' w1 (by unfold OwnB; rw [List.length_append] at hown' ⊢; exact hown') hO (fun a' ha => ?_)
        cases ha
        rcases hat with hat | hat
        · cases A with
          | none => simp [Value.ownBlock] at hat
          | some aA => simp [Value.ownBlock] at hat; exact .inl ⟨aA, rfl, hat.symm⟩
        · simp [Value.ownBlock] at hat
          exact .inr (by show W.heap.size ≤ g; omega)

theorem Elems.congr {w : World} {A : Option Addr} {n : Nat} {V V' : Nat → Value} (h : Elems w A n V) (hv : ∀ i, i < n → V i = V' i) : Elems w A n V' := by
  intro hn
  obtain ⟨b, off, e, hl, hc⟩ := h hn
  exact ⟨b, off, e, hl, fun j hj => by rw [hc j hj, hv j hj]⟩
theorem OwnB.keepb {S : Nat → Prop} {w w' : World} {base : Nat} {A : Option Addr} {c : Nat} {q : List Int} (h : OwnB w base A c q) (o : Only S w w') (hs : ∀ a, A = some a → ¬ S a.block) : OwnB w' base A c q := by
  refine ⟨h.1, ?_⟩
  rcases h.2 with hv | ⟨g, cap, cur, hv, hb, hg, r⟩
  · exact .inl hv
  · simp only [Value.slice.injEq] at hv
    obtain ⟨rfl, h2, rfl⟩ := hv
    exact .inr ⟨g, c, cur, rfl, hb, o.keep hg (hs _ rfl), r⟩
theorem OwnB.nil {w : World} {base : Nat} {A : Option Addr} {c : Nat} {q : List Int} (h : OwnB w base A c q) (hA : A = none) : c = 0 ∧ q.length = 0 := by
  subst hA
  rcases h.2 with ⟨hv, h0⟩ | ⟨g, cap, cur, hv, _⟩
  · simp only [Value.slice.injEq] at hv; exact ⟨hv.2.2, h0⟩
  · simp at hv
section
variable {W w : World} {mb n : Nat} {rb : Nat → Nat} {L : Nat → List Int} {M H P : Int} {G : Nat → Prop}
theorem ls_putm (k r m : Nat) (l bs : List Int) (A : Option Addr) (c : Nat) (H' P' : Int) (h : Hid (Ls W w mb n rb L M H P G)) (hm : bs.length = m) (hk : k < n) (hr : rb k = r) (hl : L k = l) (hroom : (m : Int) ≤ M - H) (hlH : (l.length : Int) ≤ H) (hbc : m ≤ c)
    (hsrc : Elems w A m (B8 bs)) (hsep : 0 < m → ∀ a, A = some a → ¬ G a.block) (eH : H + m = H') (eP : max P H' = P') :
    Calls Try.prog 10 #[.pointer (some ⟨r, 0, none⟩), .slice A m c] w fun e w' => ∃ G', e = .returned (.bool true) ∧ Hid (Ls W w' mb n rb (upd L k (l ++ bs)) M H' P' G') ∧ Hid (∀ i, G' i → G i ∨ w.heap.size ≤ i) ∧ Only G w w' := by
  subst hm
  exact ls_put k r l bs A c H' P' h hk hr hl hroom hlH hbc hsrc hsep eH eP
theorem ls_lenn (k r m : Nat) (h : Hid (Ls W w mb n rb L M H P G)) (hk : k < n) (hr : rb k = r) (hm : (L k).length = m) :
    Calls Try.prog 13 #[.pointer (some ⟨r, 0, none⟩)] w fun e w' => e = .returned (.int .i64 (m : Int)) ∧ w = w' := hm ▸ ls_len k r _ h hk hr rfl
end
end Go.Proofs.Ytcehabcbmhjcmaa
