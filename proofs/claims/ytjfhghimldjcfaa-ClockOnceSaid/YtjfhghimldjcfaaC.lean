/-
  The clock's clean.
-/
import Derived.Test.YtjfhghimldjcfaaB
namespace Go.Proofs.Ytjfhghimldjcfaa
open Go.RowKit

theorem Ck0.pop {w w' : World} {cb mb : Nat} {A : Option Addr} {cap n nm : Nat} {q q' : Nat → Int × Int} {now : Int} {f : Int → Option Int} (h : Ck0 w cb mb A cap (n + 1) nm q now f) (hq : QAt w' ⟨cb, 1, none⟩ A n cap q') (hh : HeapQ q' n)
    (hm : ∀ x, MemQ x q (n + 1) ↔ MemQ x q' n ∨ x = q 0) (hr : Rowed w w' ⟨cb, 1, none⟩ (.slice A n cap)) (o : Only (fun i => ab A i ∨ i = cb) w w') (h0 : f (q 0).2 ≠ some (q 0).1) : Ck0 w' cb mb A cap n nm q' now f :=
  ⟨hid (hr rfl _ _ h.row.out), hq.row, hh, h.map.keep o (fun hs => hs.elim h.ne.2.2 (fun e => h.ne.1 e.symm)), fun k t e => by
    rcases (hm (t, k)).1 (h.sub k t e) with hh | hh
    · exact hh
    · exact absurd (by rw [← hh]; exact e) h0, fun d hd => h.wf d ((hm d).2 (.inl hd)), h.ok, h.nowb, h.ne⟩

set_option maxHeartbeats 2000000 in
theorem clean_any {w : World} {cb mb : Nat} {A : Option Addr} {now : Int} {S : List (Int × Int)} {N : Nat} (h : Hid (Ck w cb mb A now S N)) (hN : N ≤ 1000000) :
    Calls Try.prog 19 #[.pointer (some ⟨cb, 0, none⟩)] w fun e w' => e = .returned (.tuple #[]) ∧ Hid (CkC w' cb mb A now S N) ∧ Only (fp cb mb A) w w' := by
  obtain ⟨cap, n, nm, q, f, h1, h2, h3, h4⟩ := h.out
  have HL := hid h2
  have H1 := hid h1
  clear h h1 h2
  go_enter Try.func19, Try.ntmps19
  go_wp2_with fail
  go_loopw [] (fun wr => ∃ (n : Nat) (q : Nat → Int × Int), Hid (Ck0 wr cb mb A cap n nm q now f) ∧ n ≤ N ∧ Only (fp cb mb A) w wr) (fun wr => qlen wr cb)
  case atStart => exact ⟨n, q, H1, h3, Only.refl _ _⟩
  case round =>
    clear H1 h3 q n
    obtain ⟨n, q, HC, h3, o⟩ := hrel
    have c0 := b_cell HC.out.row.out 0
    have c1 := b_cell HC.out.row.out 1
    have c2 := b_cell HC.out.row.out 2
    simp only [List.getElem?_toArray, List.getElem?_cons_zero, List.getElem?_cons_succ] at c0 c1 c2
    by_cases hn : n = 0
    · subst hn
      go_wp2_with fail
      go_returns
      refine ⟨rfl, hid ⟨cap, 0, nm, q, f, HC.out, HL.out, h3, h4, fun _ => HL.out.none (fun k => ?_), fun h => by omega⟩, o⟩
      cases hk : f k with
      | none => rfl
      | some t => obtain ⟨x, hx, _⟩ := HC.out.sub k t hk; omega
    · have hpos : 0 < n := by omega
      obtain ⟨g, rfl, hg⟩ := HC.out.qr.at_ 0 hpos
      obtain ⟨d0, d1⟩ := HC.out.qr.cells 0 hpos
      rw [Nat.zero_mul] at d0 d1
      rw [Nat.zero_add] at d1
      obtain ⟨t0, ht0⟩ : ∃ t0, (q 0).1 = t0 := ⟨_, rfl⟩
      obtain ⟨k0, hk0⟩ : ∃ k0, (q 0).2 = k0 := ⟨_, rfl⟩
      have hkw : I64 k0 := hk0 ▸ (HC.out.wf (q 0) ⟨0, hpos, rfl⟩).2
      rw [ht0] at d0
      rw [hk0] at d1
      have l1 := HC.out.map.look hkw
      have l2 := HC.out.map.look0 hkw wr.drew rfl
      obtain ⟨tv, htv⟩ : ∃ tv, (f k0).getD 0 = tv := ⟨_, rfl⟩
      obtain ⟨bv, hbv⟩ : ∃ bv, (f k0).isSome = bv := ⟨_, rfl⟩
      rw [htv, hbv] at l1 l2
      have hln := HC.out.qr.len
      obtain ⟨hl1, hl2⟩ := hln
      unfold maxLen at hl2
      have hcases : (bv = true ∧ tv = t0 ∧ f k0 = some t0) ∨ (bv = true ∧ ¬ tv = t0 ∧ f k0 ≠ some t0) ∨ (bv = false ∧ f k0 ≠ some t0) := by
        cases hf : f k0 with
        | none => rw [hf] at hbv; exact .inr (.inr ⟨hbv.symm, by simp⟩)
        | some t =>
          rw [hf] at hbv htv
          have htv' : t = tv := htv
          by_cases h : t = t0
          · exact .inl ⟨hbv.symm, htv' ▸ h, by rw [h]⟩
          · exact .inr (.inl ⟨hbv.symm, htv' ▸ h, fun e => h (by injection e)⟩)
      have HK0 := hid hk0
      have HT0 := hid ht0
      clear htv hbv hk0 ht0
      rcases hcases with ⟨rfl, rfl, hf⟩ | ⟨rfl, htv, hf⟩ | ⟨rfl, hf⟩
      · have HF := hid hf
        clear hf
        go_upto_region 1 with (fail)
        go_region
        go_wp2_with fail
        go_returns
        have hfirst : ∃ S', S = q 0 :: S' := HL.out.first (by rw [HK0.out, HT0.out]; exact HF.out) (fun k t e hd => by
          obtain ⟨x, hx, hqx⟩ := HC.out.sub k t e
          exact heap_min HC.out.heap x hx (by rw [hqx]; exact hd))
        exact ⟨rfl, hid ⟨cap, n, nm, q, f, HC.out.keep (S := fun _ => False) ((Only.refl _ _).drew) (fun _ _ h => h), HL.out, h3, h4, fun h => by omega, fun _ => hfirst⟩, o.drew⟩
      all_goals
        have HF := hid hf
        clear hf
        go_upto_region 1 with (fail)
        go_region
        clear l1 l2
        have HC2 : Hid (Ck0 wr.drew cb mb (some ⟨g, 0, none⟩) cap n nm q now f) := hid (HC.out.keep (S := fun _ => False) ((Only.refl _ _).drew) (fun _ _ h => h))
        go_wp2_with fail
        obtain ⟨m, rfl⟩ : ∃ m, n = m + 1 := ⟨n - 1, by omega⟩
        refine (hpop_any ⟨cb, 1, none⟩ _ m cap q _ HC2.out.q HC2.out.heap (by omega)).mono ?_
        rintro e w1 ⟨q', d, rfl, HQ1, hh1, hm1, hr1, o1⟩
        have HC3 := hid (HC2.out.pop HQ1.out hh1 hm1 hr1.out o1 (by rw [HK0.out, HT0.out]; exact HF.out))
        have o2 := o.drew.trans' o1 (fun i hi => .inl (hi.elim (fun h => .inr (.inr h)) .inl))
        clear HQ1 hh1 hm1 hr1
        go_wp2_with fail
        go_roundw
        case rel => exact ⟨m, q', HC3, by omega, o2⟩
        case measure => rw [qlen_of HC3.out, qlen_of HC.out]; omega
end Go.Proofs.Ytjfhghimldjcfaa
