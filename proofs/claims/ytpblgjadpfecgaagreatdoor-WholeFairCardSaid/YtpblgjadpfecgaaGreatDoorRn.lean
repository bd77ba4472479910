/-
  Several rings of one meter: the contracts in one state.
-/
import Derived.Test.YtpblgjadpfecgaaGreatDoorRu
namespace Go.Proofs.YtpblgjadpfecgaaGreatDoor.Rg
open Go.RowKit

def upd {α : Type} (f : Nat → α) (k : Nat) (v : α) : Nat → α := fun i => if i = k then v else f i
theorem upd_at {α : Type} (f : Nat → α) (k : Nat) (v : α) : upd f k v k = v := if_pos rfl
theorem upd_ne {α : Type} (f : Nat → α) {k i : Nat} (v : α) (h : i ≠ k) : upd f k v i = f i := if_neg h

/-- n rings of one meter in block mb; every block of theirs lies in G. -/
structure RsF (w : World) (mb : Nat) (n : Nat) (rb : Nat → Nat) (L : Nat → List Int) (M H P : Int) (G : Nat → Prop) (F : Nat → Nat → Prop) : Prop where
  ring : ∀ k, k < n → Ring w (rb k) mb (L k) (F k)
  sub : ∀ k i, k < n → F k i → G i
  mbG : G mb
  nm : ∀ k i, k < n → F k i → i ≠ mb
  dis : ∀ k k' i, k < n → k' < n → F k i → F k' i → k = k'
  lt : ∀ i, G i → i < w.heap.size
  met : MAt w mb M H P
  ok : MOk M H P
def Rs (w : World) (mb : Nat) (n : Nat) (rb : Nat → Nat) (L : Nat → List Int) (M H P : Int) (G : Nat → Prop) : Prop := ∃ F, RsF w mb n rb L M H P G F

theorem Rs.keep {S : Nat → Prop} {w w' : World} {mb n : Nat} {rb : Nat → Nat} {L : Nat → List Int} {M H P : Int} {G : Nat → Prop} (h : Rs w mb n rb L M H P G) (o : Only S w w') (hs : ∀ i, G i → ¬ S i) : Rs w' mb n rb L M H P G := by
  obtain ⟨F, h⟩ := h
  exact ⟨F, fun k hk => (h.ring k hk).keep o (fun i hi => hs i (h.sub k i hk hi)), h.sub, h.mbG, h.nm, h.dis, fun i hi => Nat.lt_of_lt_of_le (h.lt i hi) o.size, h.met.keep o (hs _ h.mbG), h.ok⟩
theorem Rs.lt {w : World} {mb n : Nat} {rb : Nat → Nat} {L : Nat → List Int} {M H P : Int} {G : Nat → Prop} (h : Rs w mb n rb L M H P G) : ∀ i, G i → i < w.heap.size := by
  obtain ⟨F, h⟩ := h; exact h.lt
theorem Rs.same {S : Nat → Prop} {w w' : World} {mb n : Nat} {rb : Nat → Nat} {L : Nat → List Int} {M H P : Int} {G : Nat → Prop} (h : Rs w mb n rb L M H P G) (o : Only S w w') (hs : ∀ i, S i → w.heap.size ≤ i) : Rs w' mb n rb L M H P G :=
  h.keep o (fun i hi s => by have := h.lt i hi; have := hs i s; omega)
theorem Rs.okM {w : World} {mb n : Nat} {rb : Nat → Nat} {L : Nat → List Int} {M H P : Int} {G : Nat → Prop} (h : Rs w mb n rb L M H P G) : MOk M H P := by
  obtain ⟨F, h⟩ := h; exact h.ok

theorem RsF.step {w w' : World} {mb n k : Nat} {rb : Nat → Nat} {L : Nat → List Int} {M H P H' P' : Int} {G : Nat → Prop} {F : Nat → Nat → Prop} {l' : List Int} {Fk : Nat → Prop} (h : RsF w mb n rb L M H P G F) (hk : k < n) (hR : Ring w' (rb k) mb l' Fk)
    (hF : ∀ i, Fk i → F k i ∨ w.heap.size ≤ i) (hlt : ∀ i, Fk i → i < w'.heap.size) (hM : MAt w' mb M H' P') (ok : MOk M H' P') (o : Only (fun i => F k i ∨ i = mb) w w') :
    Rs w' mb n rb (upd L k l') M H' P' (fun i => G i ∨ Fk i) := by
  refine ⟨upd F k Fk, fun j hj => ?_, fun j i hj hi => ?_, .inl h.mbG, fun j i hj hi => ?_, fun j j' i hj hj' hi hi' => ?_, fun i hi => hi.elim (fun hi => Nat.lt_of_lt_of_le (h.lt i hi) o.size) (hlt i), hM, ok⟩
  · rcases Nat.decEq j k with hne | rfl
    · rw [upd_ne _ _ hne, upd_ne _ _ hne]
      refine (h.ring j hj).keep o (fun i hi hs => hs.elim (fun hs => hne (h.dis j k i hj hk hi hs)) (fun e => h.nm j i hj hi e))
    · rw [upd_at, upd_at]; exact hR
  · rcases Nat.decEq j k with hne | rfl
    · rw [upd_ne _ _ hne] at hi; exact .inl (h.sub j i hj hi)
    · rw [upd_at] at hi; exact .inr hi
  · rcases Nat.decEq j k with hne | rfl
    · rw [upd_ne _ _ hne] at hi; exact h.nm j i hj hi
    · rw [upd_at] at hi
      rcases hF i hi with hi | hi
      · exact h.nm _ i hj hi
      · have := h.lt _ h.mbG; omega
  · rcases Nat.decEq j k with hne | rfl
    · rw [upd_ne _ _ hne] at hi
      rcases Nat.decEq j' k with hne' | rfl
      · rw [upd_ne _ _ hne'] at hi'; exact h.dis j j' i hj hj' hi hi'
      · rw [upd_at] at hi'
        rcases hF i hi' with hi' | hi'
        · exact h.dis j _ i hj hj' hi hi'
        · have := h.lt _ (h.sub j i hj hi); omega
    · rw [upd_at] at hi
      rcases Nat.decEq j' j with hne' | rfl
      · rw [upd_ne _ _ hne'] at hi'
        rcases hF i hi with hi | hi
        · exact h.dis _ j' i hj hj' hi hi'
        · have := h.lt _ (h.sub j' i hj' hi'); omega
      · rfl

theorem Ring.ltF {w : World} {rb mb : Nat} {l : List Int} {F : Nat → Prop} (h : Ring w rb mb l F) : ∀ i, F i → i < w.heap.size := by
  obtain ⟨A, cap, ss, hR⟩ := h; exact hR.lt

section
variable {w : World} {mb n : Nat} {rb : Nat → Nat} {L : Nat → List Int} {M H P : Int} {G : Nat → Prop}

theorem rs_meter (m : Int) (M : Int) (w : World) (h0 : -9223372036854775808 ≤ m) (h1 : m ≤ 9223372036854775807) (e : mclip m = M) (rb : Nat → Nat) (L : Nat → List Int) :
    Calls Tryz.prog 15 #[.int .i64 m] w fun e w' => e = .returned (.pointer (some ⟨w.heap.size, 0, none⟩)) ∧ Hid (Rs w' w.heap.size 0 rb L M 0 0 (· = w.heap.size)) ∧ Only (fun _ => False) w w' := by
  refine (new_any m w h0 h1).mono ?_
  rintro e w' ⟨rfl, rfl⟩
  have hb := mclip_bd m
  refine ⟨rfl, ⟨fun _ _ => False, fun k hk => absurd hk (by omega), fun k i hk => absurd hk (by omega), rfl, fun k i hk => absurd hk (by omega), fun k k' i hk => absurd hk (by omega), fun i hi => ?_, ?_, ?_⟩, (Only.refl _ _).alloc _⟩
  · subst hi; simp
  · subst e; exact b_new w _
  · subst e; exact ⟨by omega, hb.1, hb.2, by omega⟩

theorem rs_new (h : Hid (Rs w mb n rb L M H P G)) :
    Calls Tryz.prog 49 #[.pointer (some ⟨mb, 0, none⟩)] w fun e w' => e = .returned (.pointer (some ⟨w.heap.size, 0, none⟩)) ∧ Hid (Rs w' mb (n + 1) (upd rb n w.heap.size) (upd L n []) M H P (fun i => G i ∨ i = w.heap.size)) ∧ Only (fun _ => False) w w' := by
  refine (ringNew_any mb w).mono ?_
  rintro e w' ⟨rfl, hR, o⟩
  obtain ⟨F, h⟩ := h.out
  have hR := hR.out
  have hs := hR.ltF _ rfl
  refine ⟨rfl, ⟨upd F n (· = w.heap.size), fun j hj => ?_, fun j i hj hi => ?_, .inl h.mbG, fun j i hj hi => ?_, fun j j' i hj hj' hi hi' => ?_, fun i hi => hi.elim (fun hi => Nat.lt_of_lt_of_le (h.lt i hi) o.size) (fun e => e ▸ hs), h.met.keep o (fun h => h), h.ok⟩, o⟩
  · rcases Nat.decEq j n with hne | rfl
    · rw [upd_ne _ _ hne, upd_ne _ _ hne, upd_ne _ _ hne]
      exact (h.ring j (by omega)).keep o (fun i hi hs => hs)
    · rw [upd_at, upd_at, upd_at]; exact hR
  · rcases Nat.decEq j n with hne | rfl
    · rw [upd_ne _ _ hne] at hi; exact .inl (h.sub j i (by omega) hi)
    · rw [upd_at] at hi; exact .inr hi
  · rcases Nat.decEq j n with hne | rfl
    · rw [upd_ne _ _ hne] at hi; exact h.nm j i (by omega) hi
    · rw [upd_at] at hi; have := h.lt _ h.mbG; omega
  · rcases Nat.decEq j n with hne | rfl
    · rw [upd_ne _ _ hne] at hi
      rcases Nat.decEq j' n with hne' | rfl
      · rw [upd_ne _ _ hne'] at hi'; exact h.dis j j' i (by omega) (by omega) hi hi'
      · rw [upd_at] at hi'; have := h.lt _ (h.sub j i (by omega) hi); omega
    · rw [upd_at] at hi
      rcases Nat.decEq j' j with hne' | rfl
      · rw [upd_ne _ _ hne'] at hi'; have := h.lt _ (h.sub j' i (by omega) hi'); omega
      · rfl

theorem rs_put (k r : Nat) (l bs : List Int) (A : Option Addr) (c : Nat) (H' P' : Int) (h : Hid (Rs w mb n rb L M H P G)) (hk : k < n) (hr : rb k = r) (hl : L k = l) (hroom : (bs.length : Int) ≤ M - H) (hlH : (l.length : Int) ≤ H) (hbc : bs.length ≤ c)
    (hsrc : Elems w A bs.length (fun i => .int .u8 (bs.getD i 0))) (hsep : 0 < bs.length → ∀ a, A = some a → ¬ G a.block) (eH : H + bs.length = H') (eP : max P H' = P') :
    Calls Tryz.prog 51 #[.pointer (some ⟨r, 0, none⟩), .slice A bs.length c] w fun e w' => ∃ G', e = .returned (.bool true) ∧ Hid (Rs w' mb n rb (upd L k (l ++ bs)) M H' P' G') ∧ Hid (∀ i, G' i → G i ∨ w.heap.size ≤ i) ∧ Only G w w' := by
  obtain ⟨F, h⟩ := h.out
  subst hr hl eH eP
  refine (ringPut_yes (rb k) mb (L k) bs (F k) A c M H P w (h.ring k hk) h.met h.ok (fun hi => h.nm k _ hk hi rfl) hroom hlH hbc hsrc (fun hp a ha => ⟨fun hi => hsep hp a ha (h.sub k _ hk hi), fun e => hsep hp a ha (e ▸ h.mbG)⟩)).mono ?_
  rintro e w' ⟨F', rfl, hR, hF, hM, o⟩
  have ok := h.ok
  refine ⟨_, rfl, h.step hk hR.out hF hR.out.ltF hM.out ⟨by have := ok.h0; omega, by omega, ok.m1, by have := ok.p0; omega⟩ o, fun i hi => ?_, o.mono (fun i hi => hi.elim (h.sub k i hk) (fun e => e ▸ h.mbG))⟩
  rcases hi with hi | hi
  · exact .inl hi
  · exact (hF i hi).elim (fun hi => .inl (h.sub k i hk hi)) .inr

theorem rs_putno (k r : Nat) (bs : List Int) (A : Option Addr) (c : Nat) (h : Hid (Rs w mb n rb L M H P G)) (hk : k < n) (hr : rb k = r) (hno : M - H < bs.length) :
    Calls Tryz.prog 51 #[.pointer (some ⟨r, 0, none⟩), .slice A bs.length c] w fun e w' => e = .returned (.bool false) ∧ w' = w := by
  obtain ⟨F, h⟩ := h.out
  subst hr
  exact ringPut_no (rb k) mb (L k) bs (F k) A c M H P w (h.ring k hk) h.met h.ok hno

theorem rs_take (k r : Nat) (l : List Int) (x : Int) (m : Nat) (H' : Int) (h : Hid (Rs w mb n rb L M H P G)) (hk : k < n) (hr : rb k = r) (hl : L k = l) (hm : (m : Int) = min (max x 0) (l.length : Int)) (hlH : (l.length : Int) ≤ H) (eH : H - m = H') :
    Calls Tryz.prog 99 #[.pointer (some ⟨r, 0, none⟩), .int .i64 x] w fun e w' => ∃ A c, e = .returned (.slice A m c) ∧ Hid (OwnB w' w.heap.size A c (l.take m)) ∧ Hid (Rs w' mb n rb (upd L k (l.drop m)) M H' P G) ∧ Only G w w' := by
  obtain ⟨F, h⟩ := h.out
  subst hr hl eH
  refine (ringTake_any (rb k) mb (L k) (F k) x m M H P w (h.ring k hk) h.met h.ok (fun hi => h.nm k _ hk hi rfl) hm hlH).mono ?_
  rintro e w' ⟨A, c, rfl, hO, hR, hM, o⟩
  have ok := h.ok
  refine ⟨A, c, rfl, hO, ?_, o.mono (fun i hi => hi.elim (h.sub k i hk) (fun e => e ▸ h.mbG))⟩
  have := h.step hk hR.out (fun i hi => .inl hi) hR.out.ltF hM.out ⟨by omega, by have := ok.hm; omega, ok.m1, ok.p0⟩ o
  rwa [show (fun i => G i ∨ F k i) = G from funext fun i => propext ⟨fun hi => hi.elim id (h.sub k i hk), .inl⟩] at this

theorem rs_drop (k r : Nat) (l : List Int) (H' : Int) (h : Hid (Rs w mb n rb L M H P G)) (hk : k < n) (hr : rb k = r) (hl : L k = l) (hlH : (l.length : Int) ≤ H) (eH : H - l.length = H') :
    Calls Tryz.prog 171 #[.pointer (some ⟨r, 0, none⟩)] w fun e w' => e = .returned (.int .i64 (l.length : Int)) ∧ Hid (Rs w' mb n rb (upd L k []) M H' P G) ∧ Only G w w' := by
  obtain ⟨F, h⟩ := h.out
  subst hr hl eH
  refine (ringDrop_any (rb k) mb (L k) (F k) M H P w (h.ring k hk) h.met h.ok (fun hi => h.nm k _ hk hi rfl) hlH).mono ?_
  rintro e w' ⟨rfl, hR, hM, o⟩
  have ok := h.ok
  refine ⟨rfl, ?_, o.mono (fun i hi => hi.elim (h.sub k i hk) (fun e => e ▸ h.mbG))⟩
  have := h.step hk hR.out (fun i hi => .inl hi) hR.out.ltF hM.out ⟨by omega, by have := ok.hm; omega, ok.m1, ok.p0⟩ o
  rwa [show (fun i => G i ∨ F k i) = G from funext fun i => propext ⟨fun hi => hi.elim id (h.sub k i hk), .inl⟩] at this

theorem rs_len (k r : Nat) (l : List Int) (h : Hid (Rs w mb n rb L M H P G)) (hk : k < n) (hr : rb k = r) (hl : L k = l) :
    Calls Tryz.prog 65 #[.pointer (some ⟨r, 0, none⟩)] w fun e w' => e = .returned (.int .i64 (l.length : Int)) ∧ w = w' := by
  obtain ⟨F, h⟩ := h.out
  subst hr hl
  exact ringLen_any (rb k) mb (L k) (F k) w (h.ring k hk)

theorem rs_peek (k r : Nat) (l : List Int) (x : Int) (m : Nat) (h : Hid (Rs w mb n rb L M H P G)) (hk : k < n) (hr : rb k = r) (hl : L k = l) (hm : (m : Int) = min (max x 0) (l.length : Int)) (hlH : (l.length : Int) ≤ H) :
    Calls Tryz.prog 64 #[.pointer (some ⟨r, 0, none⟩), .int .i64 x] w fun e w' => ∃ A c, e = .returned (.slice A m c) ∧ Hid (OwnB w' w.heap.size A c (l.take m)) ∧ Hid (Rs w' mb n rb L M H P G) ∧ Only (fun _ => False) w w' := by
  have hh := h.out
  obtain ⟨F, h⟩ := h.out
  subst hr hl
  have ok := h.ok
  refine (peek_any (rb k) mb (L k) (F k) x m w (h.ring k hk) hm (by have := ok.hm; have := ok.m1; omega)).mono ?_
  rintro e w' ⟨A, c, rfl, hO, o⟩
  exact ⟨A, c, rfl, hO, hh.same o (fun _ h => h.elim), o⟩

theorem rs_held (h : Hid (Rs w mb n rb L M H P G)) :
    Calls Tryz.prog 31 #[.pointer (some ⟨mb, 0, none⟩)] w fun e w' => e = .returned (.int .i64 H) ∧ w = w' := by
  obtain ⟨F, h⟩ := h.out
  exact held_any mb M H P w h.met h.ok
theorem Rs.drewN (h : Rs w mb n rb L M H P G) (m : Nat) : Rs (w.drewN m) mb n rb L M H P G := h.keep (S := fun _ => False) ((Only.refl _ _).drewN m) (fun _ _ h => h)
theorem Rs.alloc (h : Rs w mb n rb L M H P G) (o : Obj) : Rs (w.alloc o) mb n rb L M H P G := h.keep (S := fun _ => False) ((Only.refl _ _).alloc o) (fun _ _ h => h)
end

theorem elems_row {w : World} {g : Nat} {l : List Int} {t : TypeId} {fr : Nat × Nat} (h : w.heap[g]? = some (.cells (u8s l).toArray t fr)) : Elems w (some ⟨g, 0, none⟩) l.length (fun i => .int .u8 (l.getD i 0)) := by
  intro _
  refine ⟨g, 0, rfl, b_lt h, fun i hi => ?_⟩
  have := cell_of_row w g (0 + i) _ _ _ h
  rw [this, Nat.zero_add, List.getElem?_toArray]
  exact u8s_get l i hi

/-- The rings lie in what is new since W; nothing that was is other. -/
structure Ls (W w : World) (mb n : Nat) (rb : Nat → Nat) (L : Nat → List Int) (M H P : Int) (G : Nat → Prop) : Prop where
  rs : Hid (Rs w mb n rb L M H P G)
  new : Hid (∀ i, G i → W.heap.size ≤ i)
  o : Only (fun _ => False) W w
theorem Ls.step {W w w' : World} {mb n n' : Nat} {rb rb' : Nat → Nat} {L L' : Nat → List Int} {M H P M' H' P' : Int} {G G' S : Nat → Prop} (h : Ls W w mb n rb L M H P G) (hr : Hid (Rs w' mb n' rb' L' M' H' P' G')) (o : Only S w w') (hS : ∀ i, S i → G i ∨ W.heap.size ≤ i) (hG : ∀ i, G' i → G i ∨ W.heap.size ≤ i) :
    Ls W w' mb n' rb' L' M' H' P' G' :=
  ⟨hr, hid (fun i hi => (hG i hi).elim (h.new.out i) id), h.o.trans' o (fun i hi => .inr ((hS i hi).elim (h.new.out i) id))⟩
theorem Ls.same {W w w' : World} {mb n : Nat} {rb : Nat → Nat} {L : Nat → List Int} {M H P : Int} {G S : Nat → Prop} (h : Ls W w mb n rb L M H P G) (o : Only S w w') (hS : ∀ i, S i → w.heap.size ≤ i) : Ls W w' mb n rb L M H P G :=
  h.step (hid (h.rs.out.same o hS)) o (fun i hi => .inr (Nat.le_trans h.o.size (hS i hi))) (fun _ h => .inl h)
theorem Ls.size {W w : World} {mb n : Nat} {rb : Nat → Nat} {L : Nat → List Int} {M H P : Int} {G : Nat → Prop} (h : Ls W w mb n rb L M H P G) : W.heap.size ≤ w.heap.size := h.o.size
theorem Ls.lt {W w : World} {mb n : Nat} {rb : Nat → Nat} {L : Nat → List Int} {M H P : Int} {G : Nat → Prop} (h : Ls W w mb n rb L M H P G) : ∀ i, G i → i < w.heap.size := h.rs.out.lt
theorem Ls.alloc {W w : World} {mb n : Nat} {rb : Nat → Nat} {L : Nat → List Int} {M H P : Int} {G : Nat → Prop} (h : Ls W w mb n rb L M H P G) (o : Obj) : Ls W (w.alloc o) mb n rb L M H P G := h.same (S := fun _ => False) ((Only.refl _ _).alloc o) (fun _ h => h.elim)
theorem Ls.drewN {W w : World} {mb n : Nat} {rb : Nat → Nat} {L : Nat → List Int} {M H P : Int} {G : Nat → Prop} (h : Ls W w mb n rb L M H P G) (k : Nat) : Ls W (w.drewN k) mb n rb L M H P G := h.same (S := fun _ => False) ((Only.refl _ _).drewN k) (fun _ h => h.elim)
theorem Ls.below {W w : World} {mb n : Nat} {rb : Nat → Nat} {L : Nat → List Int} {M H P : Int} {G : Nat → Prop} (h : Ls W w mb n rb L M H P G) : Below W.heap.size W w := h.o.to_below (fun _ h => h.elim)

section
variable {W w : World} {mb n : Nat} {rb : Nat → Nat} {L : Nat → List Int} {M H P : Int} {G : Nat → Prop}
theorem ls_meter (m : Int) (M : Int) (W w : World) (hW : Only (fun _ => False) W w) (h0 : -9223372036854775808 ≤ m) (h1 : m ≤ 9223372036854775807) (e : mclip m = M) :
    Calls Tryz.prog 15 #[.int .i64 m] w fun e w' => e = .returned (.pointer (some ⟨w.heap.size, 0, none⟩)) ∧ Hid (Ls W w' w.heap.size 0 (fun _ => 0) (fun _ => []) M 0 0 (· = w.heap.size)) ∧ Only (fun _ => False) w w' :=
  (rs_meter m M w h0 h1 e _ _).mono fun _ _ ⟨h1, h2, h3⟩ => ⟨h1, ⟨h2, hid (fun _ hi => hi ▸ hW.size), hW.trans h3⟩, h3⟩
theorem ls_new (h : Hid (Ls W w mb n rb L M H P G)) :
    Calls Tryz.prog 49 #[.pointer (some ⟨mb, 0, none⟩)] w fun e w' => e = .returned (.pointer (some ⟨w.heap.size, 0, none⟩)) ∧ Hid (Ls W w' mb (n + 1) (upd rb n w.heap.size) (upd L n []) M H P (fun i => G i ∨ i = w.heap.size)) ∧ Only (fun _ => False) w w' :=
  (rs_new h.out.rs).mono fun _ _ ⟨h1, h2, h3⟩ => ⟨h1, h.out.step h2 h3 (fun _ h => h.elim) (fun _ hi => hi.elim .inl (fun e => .inr (e ▸ h.out.size))), h3⟩
theorem ls_put (k r : Nat) (l bs : List Int) (A : Option Addr) (c : Nat) (H' P' : Int) (h : Hid (Ls W w mb n rb L M H P G)) (hk : k < n) (hr : rb k = r) (hl : L k = l) (hroom : (bs.length : Int) ≤ M - H) (hlH : (l.length : Int) ≤ H) (hbc : bs.length ≤ c)
    (hsrc : Elems w A bs.length (fun i => .int .u8 (bs.getD i 0))) (hsep : 0 < bs.length → ∀ a, A = some a → ¬ G a.block) (eH : H + bs.length = H') (eP : max P H' = P') :
    Calls Tryz.prog 51 #[.pointer (some ⟨r, 0, none⟩), .slice A bs.length c] w fun e w' => ∃ G', e = .returned (.bool true) ∧ Hid (Ls W w' mb n rb (upd L k (l ++ bs)) M H' P' G') ∧ Hid (∀ i, G' i → G i ∨ w.heap.size ≤ i) ∧ Only G w w' :=
  (rs_put k r l bs A c H' P' h.out.rs hk hr hl hroom hlH hbc hsrc hsep eH eP).mono fun _ _ ⟨G', h1, h2, h3, h4⟩ => ⟨G', h1, h.out.step h2 h4 (fun _ h => .inl h) (fun i hi => (h3.out i hi).elim .inl (fun hh => .inr (Nat.le_trans h.out.size hh))), h3, h4⟩
/-- The same, of a row that the caller has just laid. -/
theorem ls_putrow (k r : Nat) (l bs : List Int) (c : Nat) (H' P' : Int) (t : TypeId) (fr : Nat × Nat) (h : Hid (Ls W w mb n rb L M H P G)) (hk : k < n) (hr : rb k = r) (hl : L k = l) (hroom : (bs.length : Int) ≤ M - H) (hlH : (l.length : Int) ≤ H) (hbc : bs.length ≤ c)
    (eH : H + bs.length = H') (eP : max P H' = P') :
    Calls Tryz.prog 51 #[.pointer (some ⟨r, 0, none⟩), .slice (some ⟨w.heap.size, 0, none⟩) bs.length c] (w.alloc (.cells (u8s bs).toArray t fr)) fun e w' => ∃ G', e = .returned (.bool true) ∧ Hid (Ls W w' mb n rb (upd L k (l ++ bs)) M H' P' G') ∧ Hid (∀ i, G' i → G i ∨ w.heap.size ≤ i) ∧ Only G w w' :=
  (ls_put k r l bs _ c H' P' (hid (h.out.alloc _)) hk hr hl hroom hlH hbc (elems_row (b_new _ _)) (fun _ a ha => by cases ha; intro hg; have := h.out.lt _ hg; simp at this) eH eP).mono fun _ _ ⟨G', h1, h2, h3, h4⟩ => ⟨G', h1, h2, hid (fun i hi => (h3.out i hi).elim .inl (fun hh => .inr (by simp at hh; omega))), ((Only.refl _ _).alloc _).trans h4⟩
theorem ls_putno (k r : Nat) (bs : List Int) (A : Option Addr) (c : Nat) (h : Hid (Ls W w mb n rb L M H P G)) (hk : k < n) (hr : rb k = r) (hno : M - H < bs.length) :
    Calls Tryz.prog 51 #[.pointer (some ⟨r, 0, none⟩), .slice A bs.length c] w fun e w' => e = .returned (.bool false) ∧ w' = w := rs_putno k r bs A c h.out.rs hk hr hno
theorem ls_putnorow (k r : Nat) (bs : List Int) (c : Nat) (t : TypeId) (fr : Nat × Nat) (h : Hid (Ls W w mb n rb L M H P G)) (hk : k < n) (hr : rb k = r) (hno : M - H < bs.length) :
    Calls Tryz.prog 51 #[.pointer (some ⟨r, 0, none⟩), .slice (some ⟨w.heap.size, 0, none⟩) bs.length c] (w.alloc (.cells (u8s bs).toArray t fr)) fun e w' => e = .returned (.bool false) ∧ Hid (Ls W w' mb n rb L M H P G) ∧ Only (fun _ => False) w w' :=
  (ls_putno k r bs _ c (hid (h.out.alloc _)) hk hr hno).mono fun _ _ ⟨h1, h2⟩ => ⟨h1, h2 ▸ hid (h.out.alloc _), h2 ▸ (Only.refl _ _).alloc _⟩
theorem ls_take (k r : Nat) (l : List Int) (x : Int) (m : Nat) (H' : Int) (h : Hid (Ls W w mb n rb L M H P G)) (hk : k < n) (hr : rb k = r) (hl : L k = l) (hm : (m : Int) = min (max x 0) (l.length : Int)) (hlH : (l.length : Int) ≤ H) (eH : H - m = H') :
    Calls Tryz.prog 99 #[.pointer (some ⟨r, 0, none⟩), .int .i64 x] w fun e w' => ∃ A c, e = .returned (.slice A m c) ∧ Hid (OwnB w' w.heap.size A c (l.take m)) ∧ Hid (Ls W w' mb n rb (upd L k (l.drop m)) M H' P G) ∧ Only G w w' :=
  (rs_take k r l x m H' h.out.rs hk hr hl hm hlH eH).mono fun _ _ ⟨A, c, h1, h2, h3, h4⟩ => ⟨A, c, h1, h2, h.out.step h3 h4 (fun _ h => .inl h) (fun _ h => .inl h), h4⟩
theorem ls_drop (k r : Nat) (l : List Int) (H' : Int) (h : Hid (Ls W w mb n rb L M H P G)) (hk : k < n) (hr : rb k = r) (hl : L k = l) (hlH : (l.length : Int) ≤ H) (eH : H - l.length = H') :
    Calls Tryz.prog 171 #[.pointer (some ⟨r, 0, none⟩)] w fun e w' => e = .returned (.int .i64 (l.length : Int)) ∧ Hid (Ls W w' mb n rb (upd L k []) M H' P G) ∧ Only G w w' :=
  (rs_drop k r l H' h.out.rs hk hr hl hlH eH).mono fun _ _ ⟨h1, h3, h4⟩ => ⟨h1, h.out.step h3 h4 (fun _ h => .inl h) (fun _ h => .inl h), h4⟩
theorem ls_len (k r : Nat) (l : List Int) (h : Hid (Ls W w mb n rb L M H P G)) (hk : k < n) (hr : rb k = r) (hl : L k = l) :
    Calls Tryz.prog 65 #[.pointer (some ⟨r, 0, none⟩)] w fun e w' => e = .returned (.int .i64 (l.length : Int)) ∧ w = w' := rs_len k r l h.out.rs hk hr hl
theorem ls_peek (k r : Nat) (l : List Int) (x : Int) (m : Nat) (h : Hid (Ls W w mb n rb L M H P G)) (hk : k < n) (hr : rb k = r) (hl : L k = l) (hm : (m : Int) = min (max x 0) (l.length : Int)) (hlH : (l.length : Int) ≤ H) :
    Calls Tryz.prog 64 #[.pointer (some ⟨r, 0, none⟩), .int .i64 x] w fun e w' => ∃ A c, e = .returned (.slice A m c) ∧ Hid (OwnB w' w.heap.size A c (l.take m)) ∧ Hid (Ls W w' mb n rb L M H P G) ∧ Only (fun _ => False) w w' :=
  (rs_peek k r l x m h.out.rs hk hr hl hm hlH).mono fun _ _ ⟨A, c, h1, h2, _, h4⟩ => ⟨A, c, h1, h2, h.out.same h4 (fun _ h => h.elim), h4⟩
theorem ls_held (h : Hid (Ls W w mb n rb L M H P G)) : Calls Tryz.prog 31 #[.pointer (some ⟨mb, 0, none⟩)] w fun e w' => e = .returned (.int .i64 H) ∧ w = w' := rs_held h.out.rs
end

theorem OwnB.elems {w : World} {base : Nat} {A : Option Addr} {c : Nat} {q : List Int} (h : OwnB w base A c q) : Elems w A q.length (fun i => .int .u8 (q.getD i 0)) := by
  intro hp
  rcases h.2 with ⟨hv, h0⟩ | ⟨g, cap, cur, hv, hb, hg, hn, hcm, hcs, hx⟩
  · omega
  · simp only [Value.slice.injEq] at hv
    obtain ⟨rfl, _, rfl⟩ := hv
    refine ⟨g, 0, rfl, b_lt hg, fun i hi => ?_⟩
    rw [b_cell hg, Nat.zero_add, ← u8s_get q i hi, ← hx, Nat.mul_one, List.getElem?_take_of_lt hi]
    simp
theorem OwnB.blk {w : World} {base : Nat} {A : Option Addr} {c : Nat} {q : List Int} (h : OwnB w base A c q) (a : Addr) (ha : A = some a) : base ≤ a.block ∧ a.block < w.heap.size := by
  rcases h.2 with ⟨hv, h0⟩ | ⟨g, cap, cur, hv, hb, hg, hn, hcm, hcs, hx⟩
  · simp only [Value.slice.injEq] at hv
    rw [ha] at hv; exact absurd hv.1 (by simp)
  · simp only [Value.slice.injEq] at hv
    rw [ha] at hv
    obtain ⟨he, _⟩ := hv
    cases he
    exact ⟨hb, b_lt hg⟩
theorem OwnB.cap {w : World} {base : Nat} {A : Option Addr} {c : Nat} {q : List Int} (h : OwnB w base A c q) : q.length ≤ c := by
  rcases h.2 with ⟨hv, h0⟩ | ⟨g, cap, cur, hv, hb, hg, hn, hcm, hcs, hx⟩
  · omega
  · simp only [Value.slice.injEq] at hv
    omega
end Go.Proofs.YtpblgjadpfecgaaGreatDoor.Rg
