/-
  Decode of the package chunk.
-/
import Derived.Test.YtpblgjadpfecgaaGreatDoorU
import Derived.Test.YtpblgjadpfecgaaGreatDoorFa
import Derived.IntWalk
import Derived.Lib.IndexLaws
import Derived.Lib.Bytealg
set_option linter.unusedSimpArgs false
set_option linter.unusedVariables false
namespace Go.Proofs.YtpblgjadpfecgaaGreatDoor
open Go.RowKit

set_option maxRecDepth 100000 in
set_option maxHeartbeats 1000000 in
theorem trailer_any (g : Nat) (A : Option Addr) (n c : Nat) (b : List UInt8) (at_ : Nat) (w : World) (more : Bool) (F : Nat) (H : Rd w g A n c b at_ more) (hn : n ≤ 1000000000) (hG : Gl w) (hg : 6 ≤ g) (hF : (b.drop at_).length < F) :
    Calls Tryz.prog 280 #[.pointer (some ⟨g, 0, none⟩)] w fun e w' => ∃ at' more', e = .returned (.int .i64 (trailGo F 0 at_ (b.drop at_)).1) ∧ Rd w' g A n c b at' more' ∧
      ((trailGo F 0 at_ (b.drop at_)).1 = 0 → more' = (trailGo F 0 at_ (b.drop at_)).2.1 ∧ (more' = false → at' = (trailGo F 0 at_ (b.drop at_)).2.2)) ∧ Only (fun i => i = g) w w' := by
  obtain ⟨X, hX⟩ : ∃ X, trailGo F 0 at_ (b.drop at_) = X := ⟨_, rfl⟩
  rw [hX]
  have hbl := hid H.bs.len
  go_enter Tryz.func280, Tryz.ntmps280
  go_wp2_with fail
  go_loopw [3] (fun nv wr => ∃ (k a f : Nat) (m : Bool), k ≤ 40 ∧ nv = .int .i64 (k : Int) ∧ Rd wr g A n c b a m ∧ Hid ((b.drop a).length < f) ∧ Hid (trailGo f k a (b.drop a) = X) ∧ Only (fun i => i = g) w wr) (fun nv _ => 41 - (intOf nv).toNat)
  case atStart => exact ⟨0, at_, F, more, by omega, rfl, H, hid hF, hid hX, Only.refl _ _⟩
  case round =>
    clear H hF hX
    obtain ⟨k, a, f, m, hk, rfl, H, hf, hX, O⟩ := hrel
    obtain ⟨f, rfl⟩ : ∃ f', f = f' + 1 := ⟨f - 1, by have := hf.out; omega⟩
    have hGo := hX.out
    unfold trailGo at hGo
    have hL := rline_any g A n c b a m wr H hn
    have hcl := cutF_le (b.drop a) 256
    obtain ⟨x, hx⟩ : ∃ x, cutF (b.drop a) 256 = x := ⟨_, rfl⟩
    rw [hx] at hGo hL hcl
    obtain ⟨s, q, er⟩ := x
    simp only [] at hGo hL hcl
    have hdl : (b.drop a).length = n - a := by rw [List.length_drop, hbl.out]
    rw [hdl] at hcl
    have hf' := hf.out
    rw [hdl] at hf'
    have hle := H.le
    obtain ⟨q1, q2, q3, q4, q5, q6⟩ := hcl
    clear hx hdl hf hX
    replace hGo := hid hGo
    replace q2 := hid q2
    replace q4 := hid q4
    go_wp2_with fail
    refine hL.mono ?_
    rintro e w1 ⟨rfl, H1, O1⟩
    clear hL H
    have hGw := hG.g hg (O.trans O1)
    replace O1 := O.trans O1
    clear O
    by_cases her : er = 0
    case neg =>
      have her' : (er != 0) = true := by simpa using her
      have hres : Hid (X = (er, false, a)) := hid (by rw [← hGo.out, if_pos her])
      replace her := hid her
      replace H1 := hid H1
      clear hGo
      go_wp2_with fail
      go_ret
      exact ⟨_, _, by rw [hres.out]; rfl, H1.out, fun h => absurd h (by rw [hres.out]; exact her.out), O1⟩
    subst her
    have hGo2 := hGo.out
    rw [if_neg (by simp)] at hGo2
    clear hGo
    by_cases hq : q = 0
    · subst hq
      rw [if_pos rfl] at hGo2
      have hres : Hid (X = (0, true, a)) := hid hGo2.symm
      simp only [decide_true, Bool.and_self, Nat.add_zero] at H1
      obtain ⟨⟨c0, c1, c2⟩, f0, f1, f2⟩ := cells3 H1.row
      clear hGo2
      replace H1 := hid H1
      go_wp2_with fail
      go_ret
      exact ⟨_, _, by rw [hres.out]; rfl, H1.out, fun _ => by rw [hres.out]; exact ⟨rfl, fun h => by cases h⟩, O1⟩
    rw [if_neg hq] at hGo2
    have hq2 := q2.out hq
    rw [show decide (q = 0) = false by simpa using hq, Bool.false_and] at H1
    obtain ⟨⟨c0, c1, c2⟩, f0, f1, f2⟩ := cells3 H1.row
    by_cases hs : s = []
    · subst hs
      rw [if_pos rfl] at hGo2
      have hres : Hid (X = (0, false, a + q)) := hid hGo2.symm
      clear hGo2
      replace H1 := hid H1
      have hse : ((B []).toList == ([] : List UInt8)) = true := by rw [not_empty]; rfl
      go_wp2_with fail
      go_ret
      exact ⟨_, _, by rw [hres.out]; rfl, H1.out, fun _ => by rw [hres.out]; exact ⟨rfl, fun _ => rfl⟩, O1⟩
    rw [if_neg hs] at hGo2
    have hse : ((B s).toList == ([] : List UInt8)) = false := by
      rw [not_empty]
      cases s with
      | nil => exact absurd rfl hs
      | cons x t => rfl
    have hse2 : s.isEmpty = false := by
      cases s with
      | nil => exact absurd rfl hs
      | cons x t => rfl
    have hsz : (B s).size < 4294967281 := by rw [B_size]; omega
    replace hs := hid hs
    have hP : parseV s = match parseF s with
      | none => (([], []), 20)
      | some p => (p, 0) := rfl
    have hpar := parse_any (B s) hsz w1 hGw
    rw [show (B s).data.toList = s from rfl] at hpar
    replace hGo2 := hid hGo2
    replace H1 := hid H1
    go_wp2_with fail
    refine hpar.mono ?_
    rintro e w2 ⟨rfl, O2⟩
    clear hpar
    replace H1 := hid (H1.out.same O2)
    replace O1 := O1.trans' O2 (fun _ h => h.elim)
    have hGo3 := hGo2.out
    clear hGo2 c0 c1 c2 f0 f1 f2
    cases hpf : parseF s with
    | none =>
      rw [hpf] at hGo3 hP
      simp only [] at hGo3 hP
      rw [hP]
      have hres : Hid (X = (20, false, a)) := hid hGo3.symm
      clear hGo3 hP hpf
      replace O1 := hid (O1.alloc (.cells #[.string (B []), .string (B [])] 197))
      replace H1 := hid (H1.out.same ((Only.refl _ _).alloc (.cells #[.string (B []), .string (B [])] 197)))
      go_wp2_with fail
      go_ret
      exact ⟨_, _, by rw [hres.out]; rfl, H1.out, fun h => absurd h (by rw [hres.out]; simp), O1.out⟩
    | some p =>
      rw [hpf] at hGo3 hP
      simp only [] at hGo3 hP
      rw [hP]
      clear hP hpf
      replace O1 := hid (O1.alloc (.cells #[.string (B p.1), .string (B p.2)] 197))
      replace H1 := hid (H1.out.same ((Only.refl _ _).alloc (.cells #[.string (B p.1), .string (B p.2)] 197)))
      by_cases hk40 : k = 40
      · subst hk40
        rw [if_pos rfl] at hGo3
        have hres : Hid (X = (3, false, a)) := hid hGo3.symm
        clear hGo3
        go_wp2_with fail
        go_ret
        exact ⟨_, _, by rw [hres.out]; rfl, H1.out, fun h => absurd h (by rw [hres.out]; simp), O1.out⟩
      · rw [if_neg hk40, List.drop_drop] at hGo3
        have hf2 : Hid ((b.drop (a + q)).length < f) := hid (by rw [List.length_drop, hbl.out]; omega)
        have hk' : ((k : Int) == 40) = false := by rw [beq_eq_false_iff_ne]; omega
        have hkl : k ≤ 39 := by omega
        replace hGo3 := hid hGo3
        replace hk40 := hid hk40
        go_wp2_with fail
        go_roundw
        case rel => exact ⟨k + 1, a + q, f, false, by omega, by simp, H1.out, hf2, hGo3, O1.out⟩
        case measure => simp [intOf]; omega

theorem dig_bd (c : UInt8) : dig c < 16 := by
  unfold dig
  have h1 := Lib.indexByte_ge hexes (lowC c)
  rcases Int.lt_or_le (Lib.indexByte hexes (lowC c)) 0 with h | h
  · omega
  · obtain ⟨o, ho⟩ := Int.eq_ofNat_of_zero_le h
    have h2 := (Lib.indexByte_some ho).1
    have h3 := (List.getElem?_eq_some_iff.1 h2).1
    have h4 : hexes.length = 16 := rfl
    omega
theorem numGo_nn : ∀ (l : List UInt8) (i : Nat) (v r : Int), 0 ≤ v → v < 16 ^ (min i 15) → numGo 16 15 i v l = some r → 0 ≤ r
  | [], i, v, r, h0, _, h => by
    unfold numGo at h
    cases h
    exact h0
  | c :: t, i, v, r, h0, h1, h => by
    unfold numGo at h
    split at h
    · cases h
    · rename_i hd
      have hb := dig_bd c
      by_cases hi : i < 15
      · rw [if_pos hi] at h
        have hm1 : min i 15 = i := by omega
        have hm2 : min (i + 1) 15 = i + 1 := by omega
        rw [hm1] at h1
        have hp : (16 : Int) ^ i ≤ 16 ^ 14 := by
          have : (16 : Nat) ^ i ≤ 16 ^ 14 := Nat.pow_le_pow_right (by decide) (by omega)
          exact_mod_cast this
        have e14 : (16 : Int) ^ 14 = 72057594037927936 := by decide
        have w1 : wrap64 (v * ((16 : Nat) : Int)) = v * 16 := IntWalk.wrap64_in _ (by omega)
        have w2 : wrap64 (v * 16 + dig c) = v * 16 + dig c := IntWalk.wrap64_in _ (by omega)
        rw [w1, w2] at h
        refine numGo_nn t (i + 1) _ r (by omega) ?_ h
        rw [hm2, Int.pow_succ]
        omega
      · rw [if_neg hi] at h
        refine numGo_nn t (i + 1) v r h0 ?_ h
        rw [show min (i + 1) 15 = min i 15 by omega]
        exact h1
theorem number_nn (l : List UInt8) : 0 ≤ (number 16 15 l).1 := by
  unfold number
  split
  · simp
  · rename_i n h
    have := numGo_nn l 0 0 n (by simp) (by simp) h
    split
    · simp
    · exact this
theorem sizeF_bd (r : List UInt8) : 0 ≤ (sizeF r).1 ∧ (sizeF r).2.2.2 ≤ r.length ∧ 0 ≤ (sizeF r).2.1 ∧ (sizeF r).2.1 ≤ 30 := by
  have h1 := cutF_le r 256
  unfold sizeF
  split
  · exact ⟨by simp, h1.1, h1.2.2.2.2.1, by have := h1.2.2.2.2.2; simp only; omega⟩
  · split
    · simp
    · split
      · exact ⟨number_nn _, h1.1, by simp, by simp⟩
      · exact ⟨by simp, h1.1, by simp, by simp⟩

set_option maxRecDepth 100000 in
set_option maxHeartbeats 2000000 in
theorem decode_any (A : Option Addr) (n c : Nat) (b : List UInt8) (w : World) (hB : Bs w A n c b) (hA : ∀ i, ab A i → i < w.heap.size) (hn : n ≤ 1000000000) (hG : Gl w) :
    Calls Tryz.prog 217 #[.slice A n c, .int .i64 4096] w fun e w' => ∃ A' c', e = .returned (.tuple #[.slice A' (decF b).1.length c', .int .i64 ((decF b).2.1 : Int), .int .i64 (decF b).2.2]) ∧ OwnB w' w.heap.size A' c' (decF b).1 ∧ Only (fun _ => False) w w' := by
  obtain ⟨X, hX⟩ : ∃ X, decF b = X := ⟨_, rfl⟩
  rw [hX]
  unfold decF at hX
  replace hX := hid hX
  have hbl := hid hB.len
  have hG6 := hG.size
  obtain ⟨g, hg⟩ : ∃ g, w.heap.size = g := ⟨_, rfl⟩
  have hg6 : 6 ≤ g := by omega
  obtain ⟨w1, hw1⟩ : ∃ w1, w.alloc (.cells #[.slice A n c, .int .i64 0, .bool false] 376) = w1 := ⟨_, rfl⟩
  have O1 : Only (fun _ => False) w w1 := by rw [← hw1]; exact (Only.refl _ w).alloc _
  have H1 : Rd w1 g A n c b 0 false := by
    refine ⟨by rw [← hw1, ← hg]; exact b_new _ _, hB.same O1, Nat.zero_le _, fun i hi e => ?_⟩
    have := hA i hi
    omega
  have hs1 : w1.heap.size = g + 1 := by rw [← hw1]; simp; omega
  replace hB := hid hB
  go_enter Tryz.func217, Tryz.ntmps217
  go_upto_region 2 with (fail)
  clear hw1
  go_wp2_with fail
  have hO0 : OwnB (w1.alloc (.cells #[] 5)) (g + 1) (some ⟨w1.heap.size, 0, none⟩) 0 [] :=
    ⟨rfl, .inr ⟨w1.heap.size, #[], (0, 0), rfl, by omega, b_new _ _, .inr rfl, Nat.le_refl _, by decide, rfl, rfl⟩⟩
  have O2 : Only (fun _ => False) w1 (w1.alloc (.cells #[] 5)) := (Only.refl _ _).alloc _
  replace H1 := H1.same O2
  replace O1 := O1.trans O2
  clear O2
  rw [hs1] at hO0
  generalize w1.alloc (.cells #[] 5) = w2 at H1 O1 hO0 ⊢
  clear hs1 w1
  go_loopw [8, 9] (fun lv ov wr => ∃ (left a k f c' : Nat) (A' : Option Addr) (out : List UInt8) (m : Bool), lv = .int .i64 (left : Int) ∧ ov = .slice A' k c' ∧ left ≤ 4096 ∧ Rd wr g A n c b a m ∧ OwnB wr (g + 1) A' c' out ∧ Hid (out.length = k) ∧ Hid ((b.drop a).length < f) ∧ Hid (decGo f left a out (b.drop a) = X) ∧ k + left ≤ 4096 ∧ Only (fun _ => False) w wr) (fun lv _ _ => (intOf lv).toNat)
  case atStart => exact ⟨4096, 0, 0, b.length + 1, 0, _, [], false, rfl, rfl, by omega, H1, hO0, hid rfl, hid (by simp), hid (by rw [List.drop_zero]; exact hX.out), by omega, O1⟩
  case round =>
    clear H1 hX hO0 O1
    obtain ⟨left, a, k, f, c', A', out, m, rfl, rfl, hleft, H, HO, hk, hf, hX, hkl, O⟩ := hrel
    obtain ⟨f, rfl⟩ : ∃ f', f = f' + 1 := ⟨f - 1, by have := hf.out; omega⟩
    have hGo := hX.out
    unfold decGo at hGo
    have hS := rsize_any g A n c b a m wr H hn (hG.same O) hg6
    have hbd := sizeF_bd (b.drop a)
    obtain ⟨x, hx⟩ : ∃ x, sizeF (b.drop a) = x := ⟨_, rfl⟩
    rw [hx] at hGo hS hbd
    obtain ⟨z, er, mo, q⟩ := x
    simp only [] at hGo hS hbd
    have hdl : (b.drop a).length = n - a := by rw [List.length_drop, hbl.out]
    have hf' := hf.out
    rw [hdl] at hf' hbd
    have hle := H.le
    obtain ⟨z0, q1, er0, er1⟩ := hbd
    have hblk : ∀ i, ab A' i → i ≠ g := fun i hi e => by have := (HO.blk i hi).1; omega
    have hgs : g < wr.heap.size := b_lt H.row
    clear hx hf hX
    replace hGo := hid hGo
    replace hblk := hid hblk
    go_wp2_with fail
    refine hS.mono ?_
    rintro e w1 ⟨rfl, H1, O1⟩
    clear hS H
    have HO1 := hid (Own.keep HO O1 hblk.out)
    replace O1 := O.trans' O1 (fun i hi => .inr (by omega))
    clear O HO
    by_cases her : er = 0
    case neg =>
      have her' : (er != 0) = true := by simpa using her
      have hres : Hid (X = ([], 0, er)) := hid (by rw [← hGo.out, if_pos her])
      replace her := hid her
      clear hGo
      go_wp2_with fail
      go_ret3
      exact ⟨none, 0, by rw [hres.out]; rfl, by rw [hres.out]; exact Own.nil _ _ _ _, O1⟩
    subst her
    have hGo2 := hGo.out
    rw [if_neg (by simp)] at hGo2
    clear hGo
    obtain ⟨⟨c0, c1, c2⟩, f0, f1, f2⟩ := cells3 H1.row
    cases mo
    case true =>
      rw [if_pos rfl] at hGo2
      have hres : Hid (X = ([], 0, 0)) := hid hGo2.symm
      clear hGo2
      replace H1 := hid H1
      go_wp2_with fail
      go_ret3
      exact ⟨none, 0, by rw [hres.out]; rfl, by rw [hres.out]; exact Own.nil _ _ _ _, O1⟩
    rw [if_neg (by simp)] at hGo2
    by_cases hz : z = 0
    · subst hz
      rw [if_pos rfl, List.drop_drop] at hGo2
      have hT := trailer_any g A n c b (a + q) w1 false ((b.drop a).length + 1) H1 hn (hG.same O1) hg6 (by rw [List.length_drop, hdl, hbl.out]; omega)
      obtain ⟨y, hy⟩ : ∃ y, trailGo ((b.drop a).length + 1) 0 (a + q) (b.drop (a + q)) = y := ⟨_, rfl⟩
      rw [hy] at hT hGo2
      obtain ⟨te, tm, ta⟩ := y
      simp only [] at hT hGo2
      clear hy
      replace H1 := hid H1
      replace hGo2 := hid hGo2
      go_wp2_with fail
      refine hT.mono ?_
      rintro e w2 ⟨at', more', rfl, H2, hte, O2⟩
      clear hT c0 c1 c2 f0 f1 f2
      have HO2 := hid (Own.keep HO1.out O2 hblk.out)
      replace O1 := O1.trans' O2 (fun i hi => .inr (by omega))
      clear O2
      by_cases her : te = 0
      case neg =>
        have her' : (te != 0) = true := by simpa using her
        have hres : Hid (X = ([], 0, te)) := hid (by rw [← hGo2.out, if_pos her])
        replace her := hid her
        replace hte := hid hte
        clear hGo2
        go_wp2_with fail
        go_ret3
        exact ⟨none, 0, by rw [hres.out]; rfl, by rw [hres.out]; exact Own.nil _ _ _ _, O1⟩
      subst her
      obtain ⟨rfl, hat⟩ := hte rfl
      have hGo3 := hGo2.out
      rw [if_neg (by simp)] at hGo3
      clear hGo2
      obtain ⟨⟨c0, c1, c2⟩, f0, f1, f2⟩ := cells3 H2.row
      cases more'
      case true =>
        rw [if_pos rfl] at hGo3
        have hres : Hid (X = ([], 0, 0)) := hid hGo3.symm
        clear hGo3 hat
        replace H2 := hid H2
        go_wp2_with fail
        go_ret3
        exact ⟨none, 0, by rw [hres.out]; rfl, by rw [hres.out]; exact Own.nil _ _ _ _, O1⟩
      rw [if_neg (by simp)] at hGo3
      obtain rfl := hat rfl
      have hres : Hid (X = (out, at', 0)) := hid hGo3.symm
      clear hGo3 hat
      replace H2 := hid H2
      go_upto_region 18 with (fail)
      go_quiet (fail)
      go_wp2_with fail
      go_ret3
      exact ⟨A', c', by rw [hres.out, hk.out]; rfl, by rw [hres.out]; exact Own.weak (Own.same HO2.out (Only.drewN (Only.refl _ _) nq)) (by omega), O1.drewN nq⟩
    rw [if_neg hz] at hGo2
    have hzb : (z == 0) = false := by simpa using hz
    by_cases hzl : (left : Int) < z
    · rw [if_pos hzl] at hGo2
      have hres : Hid (X = ([], 0, 2)) := hid hGo2.symm
      clear hGo2
      replace H1 := hid H1
      replace hz := hid hz
      go_wp2_with fail
      go_ret3
      exact ⟨none, 0, by rw [hres.out]; rfl, by rw [hres.out]; exact Own.nil _ _ _ _, O1⟩
    rw [if_neg hzl] at hGo2
    obtain ⟨d, rfl⟩ := Int.eq_ofNat_of_zero_le z0
    rw [Int.toNat_natCast, List.drop_drop] at hGo2
    have hD := rdata_any g A n c b (a + q) w1 d H1 hn (by omega) (b_lt H1.row)
    have hdl2 := dataF_len (b.drop (a + q)) d
    obtain ⟨y, hy⟩ : ∃ y, dataF (b.drop (a + q)) d = y := ⟨_, rfl⟩
    rw [hy] at hD hGo2 hdl2
    obtain ⟨dt, de, dm, dq⟩ := y
    simp only [] at hD hGo2 hdl2
    have hdr : (b.drop (a + q)).length = n - (a + q) := by rw [List.length_drop, hbl.out]
    clear hy
    replace hz := hid hz
    have hd0 : 0 < d := by have := hz.out; omega
    have hle1 := H1.le
    replace H1 := hid H1
    replace hGo2 := hid hGo2
    replace hdl2 := hid hdl2
    go_wp2_with fail
    refine hD.mono ?_
    rintro e w2 ⟨A2, c2', rfl, HB2, hA2, H2, O2⟩
    clear hD c0 c1 c2 f0 f1 f2
    have HO2 := hid (Own.keep HO1.out O2 hblk.out)
    replace O1 := O1.trans' O2 (fun i hi => .inr (by omega))
    have hw2 := O2.size
    clear O2 HO1
    replace HB2 := hid HB2
    replace hA2 := hid hA2
    by_cases her : de = 0
    case neg =>
      have her' : (de != 0) = true := by simpa using her
      have hres : Hid (X = ([], 0, de)) := hid (by rw [← hGo2.out, if_pos her])
      replace her := hid her
      clear hGo2
      replace H2 := hid H2
      go_wp2_with fail
      go_ret3
      exact ⟨none, 0, by rw [hres.out]; rfl, by rw [hres.out]; exact Own.nil _ _ _ _, O1⟩
    subst her
    have hGo3 := hGo2.out
    rw [if_neg (by simp)] at hGo3
    clear hGo2
    obtain ⟨⟨c0, c1, c2⟩, f0, f1, f2⟩ := cells3 H2.row
    cases dm
    case true =>
      rw [if_pos rfl] at hGo3
      have hres : Hid (X = ([], 0, 0)) := hid hGo3.symm
      clear hGo3
      replace H2 := hid H2
      go_wp2_with fail
      go_ret3
      exact ⟨none, 0, by rw [hres.out]; rfl, by rw [hres.out]; exact Own.nil _ _ _ _, O1⟩
    rw [if_neg (by simp)] at hGo3
    obtain ⟨h1, h2, h3⟩ := hdl2.out.1 rfl rfl
    rw [hdr] at h1
    have hdt : dt.length = d := by rw [h2, List.length_take, hdr]; omega
    have hX2 : Hid (decGo f (left - d) (a + q + (d + 2)) (out ++ dt) (b.drop (a + q + (d + 2))) = X) := hid (by
      rw [List.drop_drop, show a + (q + (d + 2)) = a + q + (d + 2) by omega] at hGo3
      exact hGo3)
    have hf2 : Hid ((b.drop (a + q + (d + 2))).length < f) := hid (by rw [List.length_drop, hbl.out]; omega)
    rw [hdt] at HB2
    rw [hdt]
    subst h3
    clear hGo3 hdl2 h2
    have hnil := hid HB2.out.nil
    have hrow2 := hid HB2.out.row
    replace hdt := hid hdt
    have hlow : ∀ i, ab A' i → g + 1 ≤ i := fun i hi => (HO2.out.blk i hi).1
    have hw2s : g + 1 ≤ w2.heap.size := b_lt H2.row
    replace hlow := hid hlow
    replace H2 := hid H2
    go_wp2_with (first | (at_builtin; refine app_bb rfl _ _ rfl (g + 1) k c' d c2' A' A2 out dt hk.out hdt.out rfl rfl HO2.out hrow2.out hnil.out hw2s (by omega) ?_; intro A3 c3 w3 h3 h3' o3) | fail)
    have H3 : Rd w3 g A n c b (a + q + (d + 2)) false := ⟨o3.keep H2.out.row (fun h => by have := hlow.out _ h; omega), H2.out.bs.keep o3 (fun i hi h => by have h1 := hlow.out _ h; have h2 := hA i hi; omega), H2.out.le, H2.out.ne⟩
    have O3 := O1.trans' o3 (fun i hi => .inr (by have := hlow.out i hi; omega))
    have e1 : (left : Int) - (d : Int) = ((left - d : Nat) : Int) := by omega
    go_roundw
    case rel => exact ⟨left - d, a + q + (d + 2), k + d, f, c3, A3, out ++ dt, false, by rw [e1], rfl, by omega, H3, h3.out, hid (by rw [List.length_append, hk.out, hdt.out]), hf2, hX2, by omega, O3⟩
    case measure => simp [intOf]; omega
end Go.Proofs.YtpblgjadpfecgaaGreatDoor
