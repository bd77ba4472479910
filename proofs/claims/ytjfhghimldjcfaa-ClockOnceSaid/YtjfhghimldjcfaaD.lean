/-
  The clock's Drop, Next, Set.
-/
import Derived.Test.YtjfhghimldjcfaaC
namespace Go.Proofs.Ytjfhghimldjcfaa
open Go.RowKit

def hasS (S : List (Int × Int)) (id : Int) : Bool := S.any (fun d => decide (d.2 = id))
theorem hasS_iff (S : List (Int × Int)) (id : Int) : hasS S id = true ↔ ∃ t, (t, id) ∈ S := by
  simp only [hasS, List.any_eq_true, decide_eq_true_eq]
  constructor
  · rintro ⟨⟨t, k⟩, h, rfl⟩; exact ⟨t, h⟩
  · rintro ⟨t, h⟩; exact ⟨_, h, rfl⟩
theorem Lists.has {S : List (Int × Int)} {f : Int → Option Int} (h : Lists S f) (id : Int) : (f id).isSome = hasS S id := by
  rw [Bool.eq_iff_iff, hasS_iff]
  cases hf : f id with
  | none => simp; intro t ht; rw [(h.2 id t).2 ht] at hf; cases hf
  | some t => simp; exact ⟨t, (h.2 id t).1 hf⟩

set_option maxHeartbeats 1000000 in
theorem cdrop_any {w : World} {cb mb : Nat} {A : Option Addr} {now : Int} {S : List (Int × Int)} {N : Nat} (id : Int) (hid' : I64 id) (h : Hid (Ck w cb mb A now S N)) :
    Calls Try.prog 15 #[.pointer (some ⟨cb, 0, none⟩), .int .i64 id] w fun e w' => e = .returned (.bool (hasS S id)) ∧ Hid (Ck w' cb mb A now (rem id S) N) ∧ Only (fp cb mb A) w w' := by
  obtain ⟨cap, n, nm, q, f, h1, h2, h3, h4⟩ := h.out
  have HL := hid h2
  have HC := hid h1
  clear h h1 h2
  have c2 := b_cell HC.out.row.out 2
  simp only [List.getElem?_toArray, List.getElem?_cons_zero, List.getElem?_cons_succ] at c2
  have l1 := HC.out.map.look hid'
  rw [HL.out.has id] at l1
  obtain ⟨tv, htv⟩ : ∃ tv, (f id).getD 0 = tv := ⟨_, rfl⟩
  rw [htv] at l1
  clear htv
  have hI := hid hid'
  clear hid'
  go_enter Try.func15, Try.ntmps15
  go_wp2_with (first | (at_delete; refine del_own _ rfl _ _ rfl mb nm f id rfl rfl HC.out.map hI.out ?_; intro w1 hm1 o1) | fail)
  clear l1
  go_wp2_with fail
  go_ret
  refine ⟨rfl, hid ⟨cap, n, nm, q, updf f id none, ⟨hid (o1.keep HC.out.row.out HC.out.ne.1), HC.out.qr.keep o1 (fun a ha e => HC.out.ne.2.2 ⟨a, ha, e⟩), HC.out.heap, hm1.out, fun k t e => ?_, HC.out.wf, fun k t e => ?_, HC.out.nowb, HC.out.ne⟩, HL.out.rem id, h3, h4⟩, o1.mono (fun i hi => .inr (.inl hi))⟩
  all_goals
    by_cases hk : k = id
    · subst hk; rw [updf_at] at e; cases e
    · rw [updf_ne _ _ hk] at e
      first
        | exact HC.out.sub k t e
        | exact HC.out.ok k t e

def nextAt (S : List (Int × Int)) : Int := (S.head?.map (·.1)).getD 0
set_option maxHeartbeats 1000000 in
theorem next_any {w : World} {cb mb : Nat} {A : Option Addr} {now : Int} {S : List (Int × Int)} {N : Nat} (h : Hid (Ck w cb mb A now S N)) (hN : N ≤ 1000000) :
    Calls Try.prog 16 #[.pointer (some ⟨cb, 0, none⟩)] w fun e w' => e = .returned (.tuple #[.int .i64 (nextAt S), .bool (!S.isEmpty)]) ∧ Hid (Ck w' cb mb A now S N) ∧ Only (fp cb mb A) w w' := by
  go_enter Try.func16, Try.ntmps16
  go_wp2_with fail
  refine (clean_any h hN).mono ?_
  rintro e w1 ⟨rfl, H1, o1⟩
  obtain ⟨cap, n, nm, q, f, h1, h2, h3, h4, h5, h6⟩ := H1.out
  have c1 := b_cell h1.row.out 1
  simp only [List.getElem?_toArray, List.getElem?_cons_zero, List.getElem?_cons_succ] at c1
  have H2 := hid H1.out.ck
  have HC := hid h1
  clear h1 h2 H1 h
  by_cases hn : n = 0
  · subst hn
    obtain rfl := h5 rfl
    clear h5 h6
    go_wp2_with fail
    go_ret2
    exact ⟨rfl, H2, o1⟩
  · have hpos : 0 < n := by omega
    obtain ⟨S', rfl⟩ := h6 hpos
    clear h5 h6
    obtain ⟨g, rfl, hg⟩ := HC.out.qr.at_ 0 hpos
    obtain ⟨d0, d1⟩ := HC.out.qr.cells 0 hpos
    rw [Nat.zero_mul] at d0
    have hln := HC.out.qr.len
    obtain ⟨hl1, hl2⟩ := hln
    unfold maxLen at hl2
    obtain ⟨t0, ht0⟩ : ∃ t0, (q 0).1 = t0 := ⟨_, rfl⟩
    rw [ht0] at d0
    have HT := hid ht0
    clear d1 ht0
    go_wp2_with fail
    go_ret2
    exact ⟨by simp [nextAt, HT.out], H2, o1⟩

set_option maxHeartbeats 1000000 in
theorem cset_any {w : World} {cb mb : Nat} {A : Option Addr} {now : Int} {S : List (Int × Int)} {N : Nat} (id at_ : Int) (hid' : I64 id) (hat : I64 at_) (h : Hid (Ck w cb mb A now S N)) (hN : N < 1000000) :
    Calls Try.prog 12 #[.pointer (some ⟨cb, 0, none⟩), .int .i64 id, .int .i64 at_] w fun e w' => ∃ A', e = .returned (.tuple #[]) ∧ Hid (Ck w' cb mb A' now (ins (min at_ 1099511627776, id) (rem id S)) (N + 1)) ∧ Hid (∀ i, ab A' i → ab A i ∨ w.heap.size ≤ i) ∧ Only (fp cb mb A) w w' := by
  obtain ⟨cap, n, nm, q, f, h1, h2, h3, h4⟩ := h.out
  have HL := hid h2
  have HC := hid h1
  have hck := h
  clear h h1 h2
  have c1 := b_cell HC.out.row.out 1
  have c2 := b_cell HC.out.row.out 2
  simp only [List.getElem?_toArray, List.getElem?_cons_zero, List.getElem?_cons_succ] at c1 c2
  have l1 := HC.out.map.look hid'
  obtain ⟨c, hc⟩ : ∃ c, min at_ 1099511627776 = c := ⟨_, rfl⟩
  have hcI : I64 c := by unfold I64 at *; omega
  have hcm : c ≤ 1099511627776 := by omega
  obtain ⟨tv, htv⟩ : ∃ tv, (f id).getD 0 = tv := ⟨_, rfl⟩
  obtain ⟨bv, hbv⟩ : ∃ bv, (f id).isSome = bv := ⟨_, rfl⟩
  rw [htv, hbv] at l1
  rw [hc]
  have hcases : (bv = true ∧ tv = c ∧ f id = some c) ∨ (bv = true ∧ ¬ tv = c) ∨ bv = false := by
    cases hf : f id with
    | none => rw [hf] at hbv; exact .inr (.inr hbv.symm)
    | some t =>
      rw [hf] at hbv htv
      have htv' : t = tv := htv
      by_cases h : t = c
      · exact .inl ⟨hbv.symm, htv' ▸ h, by rw [h]⟩
      · exact .inr (.inl ⟨hbv.symm, htv' ▸ h⟩)
  have hI := hid hid'
  have hCI := hid hcI
  clear hid' hcI htv hbv
  go_enter Try.func12, Try.ntmps12
  rcases hcases with ⟨rfl, rfl, hf⟩ | ⟨rfl, htv⟩ | rfl
  · have HF := hid hf
    clear hf
    go_wp2_with fail
    go_returns
    refine ⟨A, rfl, hid ?_, hid (fun i hi => .inl hi), Only.refl _ _⟩
    rw [HL.out.set_same HF.out]
    exact hck.out.mono (by omega)
  all_goals
    go_wp2_with (first | (at_mapUpdate; refine upd_own _ rfl _ _ _ rfl mb nm f id c rfl rfl rfl HC.out.map hI.out hCI.out (by omega) ?_; intro w1 hm1 o1) | fail)
    clear l1
    have HQ1 : Hid (QAt w1 ⟨cb, 1, none⟩ A n cap q) := hid ⟨(o1.cell (p := ⟨cb, 1, none⟩) HC.out.q.lt HC.out.ne.1).trans HC.out.q.cell, Nat.lt_of_lt_of_le HC.out.q.lt o1.size, HC.out.qr.keep o1 (fun a ha e => HC.out.ne.2.2 ⟨a, ha, e⟩), HC.out.ne.2.1, (World.frozen?_of_block (o1.block cb HC.out.q.lt HC.out.ne.1)).trans HC.out.q.free⟩
    go_wp2_with fail
    refine (hpush_any ⟨cb, 1, none⟩ A n cap q (c, id) _ HQ1.out HC.out.heap (by omega)).mono ?_
    rintro e w2 ⟨A', cap', q', rfl, HQ2, hh2, hm2, hA2, hr2, o2⟩
    have HM2 := hid hm2
    have HH2 := hid hh2
    clear hh2 hm2
    go_wp2_with fail
    go_returns
    have hrow1 := o1.keep HC.out.row.out HC.out.ne.1
    have hsz := HC.out.lt
    have o1s := o1.size
    refine ⟨A', rfl, hid ⟨cap', n + 1, nm + 1, q', updf f id (some c), ⟨hid (hr2.out rfl _ _ hrow1), HQ2.out.row, HH2.out, hm1.out.keep o2 ?_, fun k t e => ?_, fun d hd => ?_, fun k t e => ?_, HC.out.nowb, ⟨HC.out.ne.1, HQ2.out.ne, fun hb => ?_⟩⟩, HL.out.set id c, by omega, by omega⟩, hid (fun i hi => (hA2.out i hi).imp (fun h => h) (fun h => by omega)), (o1.mono (fun i hi => .inr (.inl hi))).trans (o2.mono (fun i hi => hi.elim (fun h => .inr (.inr h)) .inl))⟩
    · rintro (hb | hb)
      · exact HC.out.ne.2.2 hb
      · exact HC.out.ne.1 hb.symm
    · by_cases hk : k = id
      · subst hk; rw [updf_at] at e; cases e; exact (HM2.out _).2 (.inr rfl)
      · rw [updf_ne _ _ hk] at e; exact (HM2.out _).2 (.inl (HC.out.sub k t e))
    · rcases (HM2.out d).1 hd with hd | rfl
      · exact HC.out.wf d hd
      · exact ⟨hCI.out, hI.out⟩
    · by_cases hk : k = id
      · subst hk; rw [updf_at] at e; cases e; exact hcm
      · rw [updf_ne _ _ hk] at e; exact HC.out.ok k t e
    · rcases hA2.out mb hb with hb | hb
      · exact HC.out.ne.2.2 hb
      · have := hsz mb (.inr (.inl rfl)); omega
end Go.Proofs.Ytjfhghimldjcfaa
