/-
  The walk of ClockSplit.
-/
import Derived.Test.YtjfhghimldjcfaaEndsW
namespace Go.Proofs.Ytjfhghimldjcfaa
open Go.RowKit

theorem OwnI.none' {w : World} {base c : Nat} {q : List Int} (h : OwnI w base none c q) : c = 0 ∧ q = [] := by
  rcases h.2 with ⟨hv, h0⟩ | ⟨g, cap, cur, hv, _⟩
  · simp only [Value.slice.injEq] at hv; exact ⟨hv.2.2, List.eq_nil_of_length_eq_zero h0⟩
  · simp at hv
/-- append(out, xs...) of ints. -/
theorem app_is {ops : Array Oper} {rest : List Oper} {o : Oper} {a : Act} {Q : Exit → Act → World → Prop} {W : World} (hgd : o.guard = none) (s x : Operand)
    (ho : o.op = .call { callee := .builtin .append, args := #[s, x], argTypes := #[31, 31] })
    (base base' n m cap c : Nat) (A S : Option Addr) (q r : List Int) (hq : q.length = n) (hr : r.length = m) (hs : a.eval s = .slice A n cap) (hx : a.eval x = .slice S m c)
    (HO : OwnI W base A cap q) (HS : OwnI W base' S c r) (hbase : base ≤ W.heap.size) (hl : n + m ≤ 1000000)
    (h : ∀ A' cap' w1, Hid (OwnI w1 base A' cap' (q ++ r)) → Hid (∀ i, ab A' i → ab A i ∨ W.heap.size ≤ i) → Only (ab A) W w1 → wpList Try.prog ops Q rest (a.put o.dst (.slice A' (n + m) cap')) w1) :
    wpList Try.prog ops Q (o :: rest) a W := by
  subst hq hr
  obtain ⟨i0, hi, hz0, hz1, hz2⟩ := info_parts infoInt
  cases S with
  | none =>
    obtain ⟨rfl, rfl⟩ := HS.none'
    refine wpList_append_own_none hgd s x 31 ho base 3 i0 1 Try.underlying31 hi _ _ _ hs HO hx ?_
    exact h A cap W (by rw [List.append_nil]; exact HO) (hid (fun i hi => .inl hi)) (Only.refl _ _)
  | some ad =>
    have he := HS.elems
    refine wpList_append_own_at W hgd s x 31 ho base 3 i0 (.int .i64 0) 1 8 Try.underlying31 hi hz0 hz1 hz2 rfl (by omega) _ _ _ hs HO ad r.length c (i64s r) hx (by simp [i64s]) (fun j u hu => ?_) (fun u hu => ?_) (by unfold maxLen; omega) (by omega) hbase ?_
    · have hj : j < r.length := by have := (List.getElem?_eq_some_iff.1 hu).1; simpa [i64s] using this
      obtain ⟨b, off, e, hb, hc⟩ := he (by omega)
      cases e
      rw [Go.WideShapes.add_plain, hc j hj, ← hu]
      simp [i64s, hj]
    · obtain ⟨z, _, rfl⟩ := List.mem_map.1 hu
      rfl
    · intro v' w1 hown hgr hiff hat
      have hO : Only (ab A) W w1 := (Only.refl _ W).grown hgr (fun k hk => by
        cases A with
        | none => simp [Value.ownBlock] at hk
        | some aA => simp [Value.ownBlock] at hk; exact .inl ⟨aA, rfl, hk⟩)
      have hown' : w1.ownsRow base 3 1 v' (q ++ r).length (i64s (q ++ r)) := by
        have e2 : i64s (q ++ r) = i64s q ++ i64s r := by simp [i64s]
        rw [List.length_append, e2]; exact hown
      rcases hown.2 with ⟨rfl, h0⟩ | ⟨g, cap', cur, rfl, hb, hg, hn, hcm, hcs, hxx⟩
      · have h2 := h none 0 w1 (by unfold OwnI; rw [List.length_append, h0]; rw [List.length_append, h0] at hown'; exact hown') (hid (fun i ⟨b, hb, _⟩ => by cases hb)) hO
        rwa [h0] at h2
      · refine h (some ⟨g, 0, none⟩) cap' w1 (by unfold OwnI; rw [List.length_append] at hown' ⊢; exact hown') (hid ?_) hO
        rintro i ⟨b, hb', rfl⟩
        cases hb'
        rcases hat with hat | hat
        · cases A with
          | none => simp [Value.ownBlock] at hat
          | some aA => simp [Value.ownBlock] at hat; exact .inl ⟨aA, rfl, hat.symm⟩
        · simp [Value.ownBlock] at hat
          exact .inr (by show W.heap.size ≤ g; omega)

theorem tw_two {p q : Int × Int → Bool} (h : ∀ d, p d = true → q d = true) : ∀ S : List (Int × Int), S.takeWhile p ++ (S.dropWhile p).takeWhile q = S.takeWhile q ∧ (S.dropWhile p).dropWhile q = S.dropWhile q
  | [] => ⟨rfl, rfl⟩
  | d :: S => by
    by_cases hp : p d = true
    · have ih := tw_two h S
      simp [hp, h d hp, ih.1, ih.2]
    · simp [hp]
theorem due_mono {t u : Int} (h : t ≤ u) (d : Int × Int) : due t d = true → due u d = true := by simp only [due, decide_eq_true_eq]; omega

set_option maxHeartbeats 8000000 in
theorem split_walk (A0 : Option Addr) (n c0 : Nat) (f : Nat → Int) (A1 : Option Addr) (m c1 : Nat) (p : Nat → Int) (w : World) (h1 : n ≤ c0 ∧ c0 ≤ maxLen) (he : Elems w A0 c0 (fun i => .int .i64 (f i))) (h2 : m ≤ c1 ∧ c1 ≤ maxLen) (hp : Elems w A1 c1 (fun i => .int .i64 (p i))) :
    Calls Try.prog 6 #[.slice A0 n c0, .slice A1 m c1] w fun e w' => e = .returned (.bool true) ∧ Below w.heap.size w w' := by
  obtain ⟨h11, h12⟩ := h1
  obtain ⟨h21, h22⟩ := h2
  unfold maxLen at h12 h22
  have HE := hid he
  have HP := hid hp
  clear he hp
  go_enter Try.func6, Try.ntmps6
  go_wp2_with fail
  refine (cs_new w w (Only.refl _ _)).mono ?_
  rintro e w1 ⟨rfl, H1, o1⟩
  go_wp2_with fail
  refine (cs_new w w1 o1).mono ?_
  rintro e wd ⟨rfl, D1, o1'⟩
  have H1' := hid (H1.out.same o1')
  have O1 := o1.trans o1'
  have hdis1 : Hid (∀ i, (w.heap.size ≤ i ∧ i < w1.heap.size) → ¬ (w1.heap.size ≤ i ∧ i < wd.heap.size)) := hid (fun i h1 h2 => by omega)
  clear H1 o1'
  obtain ⟨cb, hcb⟩ : ∃ cb, w.heap.size + 1 = cb := ⟨_, rfl⟩
  obtain ⟨db, hdb⟩ : ∃ db, w1.heap.size + 1 = db := ⟨_, rfl⟩
  rw [hcb] at H1' ⊢
  rw [hdb] at D1 ⊢
  clear hcb hdb
  go_wp2_with fail
  refine (alive_any _).mono ?_
  rintro e w2 ⟨rfl, o2⟩
  have H2 := hid (H1'.out.same o2)
  have D2 := hid (D1.out.same o2)
  have O2 := O1.trans o2
  clear H1' D1 o2 O1 o1
  have hguard : 60 < n ∨ (n ≤ 60 ∧ 30 < m) ∨ (n ≤ 60 ∧ m ≤ 30 ∧ m = 0) ∨ (n ≤ 60 ∧ m ≤ 30 ∧ 0 < m) := by omega
  rcases hguard with hg | ⟨hg1, hg2⟩ | ⟨hg1, hg2, rfl⟩ | ⟨hn, hm, hm0⟩
  · go_wp2_with fail
    go_ret
    exact ⟨rfl, O2.to_below (fun _ h => h.elim)⟩
  · go_wp2_with fail
    go_ret
    exact ⟨rfl, O2.to_below (fun _ h => h.elim)⟩
  · go_wp2_with fail
    go_ret
    exact ⟨rfl, O2.to_below (fun _ h => h.elim)⟩
  · have hm1 : ¬ m = 0 := by omega
    have hm2 : ((m : Int) == 0) = false := by simp; omega
    have hm3 : ¬ (60 : Int) < (n : Int) := by omega
    have hm4 : ¬ (30 : Int) < (m : Int) := by omega
    go_wp2_with fail
    go_loopw [45] (fun iv wr => ∃ (k : Nat) (S : List (Int × Int)) (G D : Nat → Prop), k ≤ n ∧ iv = .int .i64 (k : Int) ∧ S.length = k ∧ Hid (∀ d ∈ S, 0 ≤ d.1 ∧ 0 ≤ d.2 ∧ d.2 < k) ∧ Hid (Cs w wr cb 0 S k G) ∧ Hid (Cs w wr db 0 S k D) ∧ Hid (∀ i, G i → ¬ D i) ∧ Only (fun _ => False) w wr) (fun iv _ => n - (intOf iv).toNat)
    case atStart => exact ⟨0, [], _, _, Nat.zero_le _, rfl, rfl, hid (fun d hd => by cases hd), H2, D2, hdis1, O2⟩
    case round =>
      clear H2 D2 O2 hdis1
      obtain ⟨k, S, G, D, hk, rfl, hl, hd, H, HD, hdis, O⟩ := hrel
      by_cases hlt : k < n
      · obtain ⟨b, off, rfl, hc⟩ := (HE.out.only' O (fun _ _ h => h)).at_ k (by omega)
        obtain ⟨t, ht⟩ : ∃ t, f k % 512 = t := ⟨_, rfl⟩
        have ht0 : 0 ≤ t ∧ t < 512 := by omega
        have hrem : rem (k : Int) S = S := rem_new (fun d hd' e => by have := (hd.out d hd').2.2; omega)
        have hmt : min t 1099511627776 = t := by omega
        have HMT := hid hmt
        have HREM := hid hrem
        clear hmt hrem
        go_wp2_with fail
        refine (cs_set k t (i64_of (by omega)) (i64_of (by omega)) H (by omega)).mono ?_
        rintro e w3 ⟨G3, rfl, H3, hG3, o3⟩
        rw [HMT.out, HREM.out] at H3
        have HD3 := hid (HD.out.keep o3 (fun i hi hg => hdis.out i hg hi))
        have O3 := O.trans' o3 (fun i hi => .inr (H.out.new i hi))
        have hdis3 : Hid (∀ i, G3 i → ¬ D i) := hid (fun i hi hd' => (hG3.out i hi).elim (fun hg => hdis.out i hg hd') (fun hg => by have := HD.out.lt i hd'; omega))
        clear H HD o3 O hdis
        go_wp2_with fail
        refine (cs_set k t (i64_of (by omega)) (i64_of (by omega)) HD3 (by omega)).mono ?_
        rintro e w4 ⟨D4, rfl, HD4, hD4, o4⟩
        rw [HMT.out, HREM.out] at HD4
        have H4 := hid (H3.out.keep o4 (fun i hi hg => hdis3.out i hi hg))
        have O4 := O3.trans' o4 (fun i hi => .inr (HD3.out.new i hi))
        have hdis4 : Hid (∀ i, G3 i → ¬ D4 i) := hid (fun i hi hd' => (hD4.out i hd').elim (fun hg => hdis3.out i hi hg) (fun hg => by have := H3.out.lt i hi; omega))
        have hd4 : Hid (∀ d ∈ ins (t, (k : Int)) S, 0 ≤ d.1 ∧ 0 ≤ d.2 ∧ d.2 < ((k + 1 : Nat) : Int)) := hid (fun d hd' => by
          rcases (mem_ins _ _ _).1 hd' with rfl | hd'
          · exact ⟨ht0.1, by simp only; omega, by simp only; omega⟩
          · have := hd.out d hd'; exact ⟨this.1, this.2.1, by omega⟩)
        have hl4 : (ins (t, (k : Int)) S).length = k + 1 := by rw [ins_len, hl]
        clear H3 HD3 O3 o4 hdis3 hd hG3 hD4
        go_wp2_with fail
        go_roundw
        case rel => exact ⟨k + 1, _, G3, D4, by omega, by simp, hl4, hd4, H4, HD4, hdis4, O4⟩
        case measure => simp [intOf]; omega
      · obtain rfl : k = n := by omega
        have hstart : S.takeWhile (due (-1)) = [] ∧ S.dropWhile (due (-1)) = S := by
          have := tw_app (p := due (-1)) (D := []) (T := S) (fun d hd => by cases hd) (fun d T' e => by have := (hd.out d (by rw [e]; exact List.mem_cons_self ..)).1; simp [due]; omega)
          exact this
        have HST := hid hstart
        clear hstart hd
        obtain ⟨wo, rfl⟩ : ∃ wo : World, wo = wr := ⟨_, rfl⟩
        have hGlt := hid H.out.lt
        have hDlt := hid HD.out.lt
        have hwo := O.size
        go_upto_region 14 with (fail)
        have oA : Only (fun _ => False) wo (wo.alloc (.cells #[] 3)) := (Only.refl _ wo).alloc _
        have HA := hid (H.out.same oA)
        have HDA := hid (HD.out.same oA)
        have OA := O.trans oA
        have HOA : Hid (OwnI (wo.alloc (.cells #[] 3)) wo.heap.size (some ⟨wo.heap.size, 0, none⟩) 0 []) := hid (World.ownsRow_made wo #[] 0 (Nat.le_refl _) (by simp [maxLen]) rfl)
        clear H HD O oA
        go_wp2_with fail
        go_loopw [9, 10, 64] (fun gv tv iv wq => ∃ (j : Nat) (tot th : Int) (B : Option Addr) (c g : Nat), j ≤ m ∧ iv = .int .i64 (j : Int) ∧ tv = .int .i64 tot ∧ gv = .slice B g c ∧ 0 ≤ tot ∧ tot ≤ 63 * (j : Int) ∧ ((j = 0 ∧ th = -1 ∧ tot = 0) ∨ (0 < j ∧ th = tot)) ∧ Hid ((S.takeWhile (due th)).length = g) ∧ Hid (Cs w wq cb tot (S.dropWhile (due th)) k G) ∧ Hid (Cs w wq db 0 S k D) ∧ Hid (OwnI wq wo.heap.size B c (ids (S.takeWhile (due th)))) ∧ Only (fun _ => False) w wq ∧ Hid (wo.heap.size ≤ wq.heap.size)) (fun _ _ iv _ => m - (intOf iv).toNat)
        case atStart => exact ⟨0, 0, -1, _, 0, 0, Nat.zero_le _, rfl, rfl, rfl, by omega, by omega, .inl ⟨rfl, rfl, rfl⟩, hid (by rw [HST.out.1]; rfl), hid (by rw [HST.out.2]; exact HA.out), HDA, hid (by rw [HST.out.1]; exact HOA.out), OA, hid (by simp)⟩
        case round =>
          clear HA HDA OA HOA HST
          obtain ⟨j, tot, th, B, c, g, hj, rfl, rfl, rfl, ht0, ht1, hth, hg, H, HD, HO, O, HSZ⟩ := hrel
          have hgS : Hid (g ≤ k) := hid (by rw [← hg.out, ← hl]; exact (List.takeWhile_sublist _).length_le)
          have hdl : Hid ((S.dropWhile (due th)).length ≤ k) := hid (by rw [← hl]; exact (List.dropWhile_sublist _).length_le)
          have hBG : Hid (∀ i, ab B i → ¬ G i ∧ ¬ D i) := hid (fun i hi => by have := (HO.out.blk i hi).1; exact ⟨fun hx => by have := hGlt.out i hx; omega, fun hx => by have := hDlt.out i hx; omega⟩)
          by_cases hlt2 : j < m
          · obtain ⟨b, off, rfl, hc⟩ := (HP.out.only' O (fun _ _ h => h)).at_ j (by omega)
            obtain ⟨x, hx⟩ : ∃ x, p j % 64 = x := ⟨_, rfl⟩
            have hx0 : 0 ≤ x ∧ x < 64 := by omega
            obtain ⟨nw, hnw⟩ : ∃ nw, tot + x = nw := ⟨_, rfl⟩
            have hps : passed tot x = nw := by unfold passed; omega
            have hthn : th ≤ nw := by omega
            have htwo := tw_two (due_mono hthn) S
            obtain ⟨T, hT⟩ : ∃ T, (S.dropWhile (due th)).takeWhile (due nw) = T := ⟨_, rfl⟩
            obtain ⟨tl, htl⟩ : ∃ tl, T.length = tl := ⟨_, rfl⟩
            rw [hT] at htwo
            have hlen : (S.takeWhile (due nw)).length = g + tl := by rw [← htwo.1, List.length_append, hg.out, htl]
            have hidl : (ids (S.takeWhile (due th))).length = g := by rw [ids_len, hg.out]
            have hidT : (ids T).length = tl := by rw [ids_len, htl]
            have hgl : g + tl ≤ 1000000 := by
              have := (List.takeWhile_sublist (p := due nw) (l := S)).length_le
              omega
            have HX := hid (⟨htwo, hT, htl, hlen, hps, hidl, hidT⟩ : _ ∧ _ ∧ _ ∧ _ ∧ _ ∧ _ ∧ _)
            clear htwo hT htl hlen hps hidl hidT
            go_wp2_with fail
            refine (cs_pass x (i64_of (by omega)) H (by omega) (by have := hdl.out; omega) nw T (S.dropWhile (due nw)) tl HX.out.2.2.2.2.1 HX.out.2.1 HX.out.1.2 HX.out.2.2.1).mono ?_
            rintro e w3 ⟨B3, c3, rfl, HO3, H3, o3⟩
            have HD3 := hid (HD.out.keep o3 (fun i hi hg' => hdis.out i hg' hi))
            have HB3 := hid (HO.out.keep o3 (fun i hi => (hBG.out i hi).1))
            have O3 := O.trans' o3 (fun i hi => .inr (H.out.new i hi))
            have hs3 : wo.heap.size ≤ w3.heap.size := Nat.le_trans HSZ.out o3.size
            clear H HD HO O o3
            go_wp2_with (first | (at_builtin; refine app_is rfl _ _ rfl wo.heap.size _ g tl c c3 B B3 (ids (S.takeWhile (due th))) (ids T) HX.out.2.2.2.2.2.1 HX.out.2.2.2.2.2.2 rfl rfl HB3.out HO3.out hs3 hgl ?_; intro B4 c4 w4 hO4 hB4 o4) | fail)
            have H4 := hid (H3.out.keep o4 (fun i hi hb => (hBG.out i hb).1 hi))
            have HD4 := hid (HD3.out.keep o4 (fun i hi hb => (hBG.out i hb).2 hi))
            have O4 := O3.trans' o4 (fun i hi => .inr (by have := (HB3.out.blk i hi).1; omega))
            have HO4 : Hid (OwnI w4 wo.heap.size B4 c4 (ids (S.takeWhile (due nw)))) := hid (by rw [← HX.out.1.1]; simpa [ids] using hO4.out)
            have hsz4 : Hid (wo.heap.size ≤ w4.heap.size) := hid (Nat.le_trans hs3 o4.size)
            clear H3 HD3 HB3 HO3 O3 o4 hO4
            go_roundw
            case rel => exact ⟨j + 1, nw, nw, B4, c4, g + tl, by omega, by simp, rfl, rfl, by omega, by omega, .inr ⟨by omega, rfl⟩, hid HX.out.2.2.2.1, H4, HD4, HO4, O4, hsz4⟩
            case measure => simp [intOf]; omega
          · obtain rfl : j = m := by omega
            obtain rfl : th = tot := by omega
            have hps : passed 0 th = th := by unfold passed; omega
            have HPS := hid hps
            clear hps
            go_wp2_with fail
            refine (cs_pass th (i64_of (by omega)) HD (by omega) (by omega) th _ _ g HPS.out rfl rfl hg.out).mono ?_
            rintro e w3 ⟨B3, c3, rfl, HO3, HD3, o3⟩
            have H3 := hid (H.out.keep o3 (fun i hi hd' => hdis.out i hi hd'))
            have HB3 := hid (HO.out.keep o3 (fun i hi => (hBG.out i hi).2))
            have O3 := O.trans' o3 (fun i hi => .inr (HD.out.new i hi))
            have hB3 : Hid (∀ i, ab B3 i → ¬ G i ∧ ¬ D i) := hid (fun i hi => by have := (HO3.out.blk i hi).1; exact ⟨fun hx => by have := H.out.lt i hx; omega, fun hx => by have := HD.out.lt i hx; omega⟩)
            clear H HD HO O o3
            obtain ⟨na, hna⟩ : ∃ na, nextAt (S.dropWhile (due th)) = na := ⟨_, rfl⟩
            obtain ⟨be, hbe⟩ : ∃ be, (!(S.dropWhile (due th)).isEmpty) = be := ⟨_, rfl⟩
            have HN := hid (⟨hna, hbe⟩ : _ ∧ _)
            clear hna hbe
            go_wp2_with fail
            refine (cs_next H3 (by omega)).mono ?_
            rintro e w4 ⟨rfl, H4, o4⟩
            rw [HN.out.1, HN.out.2]
            have HD4 := hid (HD3.out.keep o4 (fun i hi hg' => hdis.out i hg' hi))
            have HB4 := hid (HB3.out.keep o4 (fun i hi => (hBG.out i hi).1))
            have HO4 := hid (HO3.out.keep o4 (fun i hi => (hB3.out i hi).1))
            have O4 := O3.trans' o4 (fun i hi => .inr (H3.out.new i hi))
            clear H3 HD3 HB3 HO3 O3 o4
            go_wp2_with fail
            refine (cs_next HD4 (by omega)).mono ?_
            rintro e w5 ⟨rfl, HD5, o5⟩
            rw [HN.out.1, HN.out.2]
            have H5 := hid (H4.out.keep o5 (fun i hi hd' => hdis.out i hi hd'))
            have HB5 := hid (HB4.out.keep o5 (fun i hi => (hBG.out i hi).2))
            have HO5 := hid (HO4.out.keep o5 (fun i hi => (hB3.out i hi).2))
            have O5 := O4.trans' o5 (fun i hi => .inr (HD4.out.new i hi))
            clear H4 HD4 HB4 HO4 O4 o5
            go_wp2_with fail
            refine (cs_now H5).mono ?_
            rintro e w6 ⟨rfl, rfl⟩
            go_wp2_with fail
            refine (cs_now HD5).mono ?_
            rintro e w6 ⟨rfl, rfl⟩
            have hgl : g ≤ 1000000 := by have := hgS.out; omega
            go_wp2_with fail
            refine (sameI (ids (S.takeWhile (due th))) _ _ g g _ _ _ rfl (HB5.out.el (by rw [ids_len, hg.out])) (HO5.out.el (by rw [ids_len, hg.out])) hgl).mono ?_
            rintro e w6 ⟨rfl, o6⟩
            have O6 := O5.trans o6
            clear H5 HD5 HB5 HO5 O5 o6
            go_wp2_with fail
            go_ret
            exact ⟨rfl, O6.to_below (fun _ h => h.elim)⟩
end Go.Proofs.Ytjfhghimldjcfaa
