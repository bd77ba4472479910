/-
  The clock's Pass: the walk.
-/
import Derived.Test.YtjfhghimldjcfaaE
namespace Go.Proofs.Ytjfhghimldjcfaa
open Go.RowKit

def ids (S : List (Int × Int)) : List Int := S.map (·.2)
theorem ids_len (S : List (Int × Int)) : (ids S).length = S.length := by simp [ids]
/-- The time behind n ticks. -/
def passed (now n : Int) : Int := min (now + min (max n 0) 1099511627776) 1099511627776

theorem Ck0.del {w w' : World} {cb mb : Nat} {A : Option Addr} {cap n nm : Nat} {q : Nat → Int × Int} {now : Int} {f : Int → Option Int} {k0 : Int} (h : Ck0 w cb mb A cap n nm q now f) (hm : MapI w' mb nm (updf f k0 none)) (o : Only (· = mb) w w') : Ck0 w' cb mb A cap n nm q now (updf f k0 none) := by
  refine ⟨hid (o.keep h.row.out h.ne.1), h.qr.keep o (fun a ha e => h.ne.2.2 ⟨a, ha, e⟩), h.heap, hm, fun k t e => ?_, h.wf, fun k t e => ?_, h.nowb, h.ne⟩
  all_goals
    by_cases hk : k = k0
    · subst hk; rw [updf_at] at e; cases e
    · rw [updf_ne _ _ hk] at e
      first
        | exact h.sub k t e
        | exact h.ok k t e

set_option maxHeartbeats 4000000 in
theorem pass_any {w : World} {cb mb : Nat} {A : Option Addr} {now : Int} {S : List (Int × Int)} {N : Nat} (x : Int) (hx : I64 x) (h : Hid (Ck w cb mb A now S N)) (hN : N ≤ 1000000) (hSN : S.length ≤ 1000000) :
    Calls Try.prog 11 #[.pointer (some ⟨cb, 0, none⟩), .int .i64 x] w fun e w' => ∃ B c, e = .returned (.slice B (S.takeWhile (due (passed now x))).length c) ∧ Hid (OwnI w' w.heap.size B c (ids (S.takeWhile (due (passed now x))))) ∧ Hid (Ck w' cb mb A (passed now x) (S.dropWhile (due (passed now x))) N) ∧ Only (fp cb mb A) w w' := by
  obtain ⟨cap, n, nm, q, f, h1, h2, h3, h4⟩ := h.out
  have HL := hid h2
  have HC := hid h1
  have hfp := hid h1.lt
  have hnow := h1.nowb
  obtain ⟨hnow0, hnow1⟩ := hnow
  clear h h1 h2
  have c0 := b_cell HC.out.row.out 0
  have y0 := b_free HC.out.row.out 0
  simp only [List.getElem?_toArray, List.getElem?_cons_zero] at c0
  unfold passed
  obtain ⟨x0, x1⟩ := hx
  obtain ⟨dn, hdn⟩ : ∃ dn, min (max x 0) 1099511627776 = dn := ⟨_, rfl⟩
  have hdn0 : 0 ≤ dn := by omega
  have hdn1 : dn ≤ 1099511627776 := by omega
  rw [hdn]
  obtain ⟨nw, hnw⟩ : ∃ nw, min (now + dn) 1099511627776 = nw := ⟨_, rfl⟩
  have hnw0 : 0 ≤ nw ∧ nw ≤ 1099511627776 := by omega
  rw [hnw]
  go_enter Try.func11, Try.ntmps11
  go_upto_region 2 with (fail)
  have os := o_put (Only.refl _ w) (b := cb) 0 (.int .i64 nw)
  refine fold (F := fun W' => Hid (Ck W' cb mb A nw S N) ∧ Only (fp cb mb A) w W') ⟨hid ⟨cap, n, nm, q, f, ⟨hid (b_set HC.out.row.out 0 _), HC.out.qr.keep os (fun a ha e => HC.out.ne.2.1 ⟨a, ha, e⟩), HC.out.heap, HC.out.map.keep os (fun e => HC.out.ne.1 e.symm), HC.out.sub, HC.out.wf, HC.out.ok, hnw0, HC.out.ne⟩, HL.out, h3, h4⟩, os.mono (fun i hi => .inl hi)⟩ ?_
  rintro w1 ⟨H1, o1⟩
  have HNW := hid (⟨hdn, hnw, hnw0, hdn0, hdn1⟩ : _ ∧ _ ∧ _ ∧ _ ∧ _)
  clear HC HL c0 y0 hdn hnw hdn0 hdn1 os hnow0 hnow1 h3 h4 n nm q f cap
  go_wp2_with fail
  refine (clean_any H1 hN).mono ?_
  rintro e w2 ⟨rfl, H2, o2⟩
  have o12 := o1.trans o2
  clear H1 o1 o2
  go_wp2_with fail
  go_loopw [5] (fun ov wr => ∃ (D T : List (Int × Int)) (B : Option Addr) (c : Nat), ov = .slice B D.length c ∧ Hid (S = D ++ T) ∧ Hid (∀ d ∈ D, due nw d = true) ∧ Hid (CkC wr cb mb A nw T N) ∧ Hid (OwnI wr w.heap.size B c (ids D)) ∧ Only (fp cb mb A) w wr) (fun ov _ => S.length - slen ov)
  case atStart => exact ⟨[], S, none, 0, rfl, hid rfl, hid (fun d hd => by cases hd), H2, hid ⟨rfl, .inl ⟨rfl, rfl⟩⟩, o12⟩
  case round =>
    clear H2 o12
    obtain ⟨D, T, B, c, rfl, hS, hD, HT, HO, o⟩ := hrel
    obtain ⟨cap, n, nm, q, f, h1, h2, h3, h4, h5, h6⟩ := HT.out
    have HC := hid h1
    have HL := hid h2
    have hDlen : D.length ≤ 1000000 := by have := congrArg List.length hS.out; rw [List.length_append] at this; omega
    have c0 := b_cell HC.out.row.out 0
    have c1 := b_cell HC.out.row.out 1
    have c2 := b_cell HC.out.row.out 2
    simp only [List.getElem?_toArray, List.getElem?_cons_zero, List.getElem?_cons_succ] at c0 c1 c2
    have hDl : (ids D).length = D.length := ids_len D
    have HDL := hid hDl
    have hB : Hid (∀ i, ab B i → w.heap.size ≤ i) := hid (fun i hi => (HO.out.blk i (by exact hi)).1)
    clear h1 h2 hDl
    by_cases hn : n = 0
    · subst hn
      obtain rfl := h5 rfl
      clear h5 h6
      go_upto_region 4 with (fail)
      go_region
      go_wp2_with fail
      go_ret
      have htw := tw_app (p := due nw) (T := []) hD.out (fun d T' e => by cases e)
      rw [hS.out, htw.1, htw.2]
      exact ⟨B, c, rfl, HO, hid (HT.out.ck.keep (T := fun _ => False) ((Only.refl _ _).drew) (fun _ _ h => h)), o.drew⟩
    · have hpos : 0 < n := by omega
      obtain ⟨T', rfl⟩ := h6 hpos
      clear h5 h6
      obtain ⟨g, rfl, hg⟩ := HC.out.qr.at_ 0 hpos
      obtain ⟨d0, d1⟩ := HC.out.qr.cells 0 hpos
      rw [Nat.zero_mul] at d0 d1
      rw [Nat.zero_add] at d1
      have hkw := (HC.out.wf (q 0) ⟨0, hpos, rfl⟩).2
      have hln := HC.out.qr.len
      obtain ⟨hl1, hl2⟩ := hln
      unfold maxLen at hl2
      obtain ⟨dd, hdd⟩ : ∃ dd, q 0 = dd := ⟨_, rfl⟩
      rw [hdd] at HT HL hS hkw d0 d1
      obtain ⟨t0, k0⟩ := dd
      simp only at d0 d1 hkw
      by_cases hle : t0 ≤ nw
      · have hD2 : Hid (∀ d ∈ D ++ [(t0, k0)], due nw d = true) := hid (fun d hd => by
          rcases List.mem_append.1 hd with hd | hd
          · exact hD.out d hd
          · rw [List.mem_singleton.1 hd]; simp [due, hle])
        have hkk := hid hkw
        clear hkw hdd
        go_upto_region 4 with (fail)
        go_region
        have HC2 : Hid (Ck0 wr.drew cb mb (some ⟨g, 0, none⟩) cap n nm q nw f) := hid (HC.out.keep (S := fun _ => False) ((Only.refl _ _).drew) (fun _ _ h => h))
        have HO2 : Hid (OwnI wr.drew w.heap.size B c (ids D)) := hid (HO.out.keep (S := fun _ => False) ((Only.refl _ _).drew) (fun _ _ h => h))
        have o2 := o.drew
        clear HC HO o HT
        go_upto_region 8 with ((first | (at_delete; refine del_own _ rfl _ _ rfl mb nm f k0 rfl rfl HC2.out.map hkk.out ?_; intro w3 hm3 o3) | fail))
        have H3 : Hid (Ck w3 cb mb (some ⟨g, 0, none⟩) nw T' N) := hid ⟨cap, n, nm, q, _, HC2.out.del hm3.out o3, HL.out.tail, h3, h4⟩
        have hmbw := hfp.out mb (.inr (.inl rfl))
        have HO3 : Hid (OwnI w3 w.heap.size B c (ids D)) := hid (HO2.out.keep o3 (fun i hi e => by have := hB.out i hi; omega))
        have o23 := o2.trans (o3.mono (fun i hi => .inr (.inl hi)))
        clear HC2 HO2 o2 o3 hm3 HL c0 c1 c2 d0 d1
        go_wp2_with (first | (at_builtin; refine app_i rfl _ _ rfl w.heap.size D.length c B (ids D) k0 HDL.out rfl rfl HO3.out o23.size hDlen ?_; intro B' c' w4 hO4 hB4 o4) | fail)
        have H4 := hid (H3.out.keep o4 (fun i hi hb => by have := hB.out i hb; have := hfp.out i hi; omega))
        have o24 := o23.trans' o4 (fun i hi => .inr (hB.out i hi))
        have hs3 := o23.size
        clear H3 HO3 o23 o4
        refine (clean_any H4 hN).mono ?_
        rintro e w5 ⟨rfl, H5, o5⟩
        have HO5 : Hid (OwnI w5 w.heap.size B' c' (ids (D ++ [(t0, k0)]))) := hid (by
          have := hO4.out.keep o5 (fun i hi hf => by have := hfp.out i hf; have := (hO4.out.blk i hi).1; omega)
          simpa [ids] using this)
        have o25 := o24.trans o5
        have hS2 : Hid (S = (D ++ [(t0, k0)]) ++ T') := hid (by rw [hS.out]; simp)
        clear H4 hO4 o24 o5 hS hD
        go_wp2_with fail
        go_roundw
        case rel => exact ⟨D ++ [(t0, k0)], T', B', c', by simp, hS2, hD2, H5, HO5, o25⟩
        case measure =>
          have h1 := congrArg List.length hS2.out
          simp at h1
          simp [slen]
          omega
      · go_upto_region 4 with (fail)
        go_region
        go_wp2_with fail
        go_ret
        have htw := tw_app (p := due nw) (T := (t0, k0) :: T') hD.out (fun d T'' e => by cases e; simp [due]; omega)
        rw [hS.out, htw.1, htw.2]
        exact ⟨B, c, rfl, HO, hid (HT.out.ck.keep (T := fun _ => False) ((Only.refl _ _).drew) (fun _ _ h => h)), o.drew⟩
end Go.Proofs.Ytjfhghimldjcfaa
