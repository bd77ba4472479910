/-
  The walk of ClockOnce.
-/
import Derived.Test.YtjfhghimldjcfaaSplitW
import Derived.Test.YtjfhghimldjcfaaV
import Derived.Maps.RangeWalk
namespace Go.Proofs.Ytjfhghimldjcfaa
open Go.RowKit Go.ChangeMaps Go.Maps

theorem MapI.look1 {w : World} {b n : Nat} {f : Int → Option Int} (h : MapI w b n f) {k t : Int} (hk : I64 k) (ht : f k = some t) :
    (Instr.lookup 47 (.map (some b)) (.int .i64 k) false).run Try.prog w = .ok (.int .i64 t) w := by
  obtain ⟨D, h, r⟩ := h
  obtain ⟨r1, r2⟩ := r k
  obtain ⟨c, hrun, hc, _⟩ := h.lookup_int lawK Try.underlying47 Try.underlying2 (zeroE w) (keyI hk)
  rw [r2 t ht] at hc
  simp only [DataW.lit.injEq, Lit.int.injEq, true_and] at hc
  rw [hrun, ← hc]
theorem MapI.size0 {w : World} {b n : Nat} {f : Int → Option Int} (hf : ∀ k, f k = none) {D : DataW Unit} (h : w.ownsMap Try.prog 3 (plainElem Try.prog 2) b n D) (r : ∀ k, has D (.int .i64 k) = (f k).isSome) : size D = 0 := by
  obtain ⟨es, clock, hb, F, hs, rfl⟩ := h
  have hk := fit_keys F
  cases hes : es.toList with
  | nil => rw [size_eq, length_sorted]; simp
  | cons x l =>
    exfalso
    have hx : WideElems.rg Try.prog 3 (plainElem (H := Unit) Try.prog 2) x ∈ es.toList.map (WideElems.rg Try.prog 3 (plainElem (H := Unit) Try.prog 2)) := List.mem_map.2 ⟨x, by rw [hes]; exact List.mem_cons_self .., rfl⟩
    obtain ⟨v, hv⟩ := hk _ hx
    obtain ⟨z, _, hz, _⟩ := Maps.keyOf_int_inv Try.underlying3 hv
    have h1 := r z
    rw [hf z, has_eq] at h1
    simp only [Option.isSome_none] at h1
    rw [List.any_eq_false] at h1
    refine h1 _ (mem_sorted.2 hx) ?_
    rw [hz]
    simp [Lit.sameKey]
/-- append(out, xs...) of ints that came in. -/
theorem app_el {ops : Array Oper} {rest : List Oper} {o : Oper} {a : Act} {Q : Exit → Act → World → Prop} {W : World} (hgd : o.guard = none) (s x : Operand)
    (ho : o.op = .call { callee := .builtin .append, args := #[s, x], argTypes := #[31, 31] })
    (base n m cap c : Nat) (A S : Option Addr) (q r : List Int) (hq : q.length = n) (hr : r.length = m) (hs : a.eval s = .slice A n cap) (hx : a.eval x = .slice S m c)
    (HO : OwnI W base A cap q) (he : Elems W S m (V64 r)) (hnil : S = none → c = 0 ∧ m = 0) (hbase : base ≤ W.heap.size) (hl : n + m ≤ 1000000)
    (h : ∀ A' cap' w1, Hid (OwnI w1 base A' cap' (q ++ r)) → Hid (∀ i, ab A' i → ab A i ∨ W.heap.size ≤ i) → Only (ab A) W w1 → wpList Try.prog ops Q rest (a.put o.dst (.slice A' (n + m) cap')) w1) :
    wpList Try.prog ops Q (o :: rest) a W := by
  subst hq hr
  obtain ⟨i0, hi, hz0, hz1, hz2⟩ := info_parts infoInt
  cases S with
  | none =>
    obtain ⟨rfl, hm⟩ := hnil rfl
    obtain rfl : r = [] := List.eq_nil_of_length_eq_zero hm
    refine wpList_append_own_none hgd s x 31 ho base 3 i0 1 Try.underlying31 hi _ _ _ hs HO hx ?_
    exact h A cap W (by rw [List.append_nil]; exact HO) (hid (fun i hi => .inl hi)) (Only.refl _ _)
  | some ad =>
    refine wpList_append_own_at W hgd s x 31 ho base 3 i0 (.int .i64 0) 1 8 Try.underlying31 hi hz0 hz1 hz2 rfl (by omega) _ _ _ hs HO ad r.length c (i64s r) hx (by simp [i64s]) (fun j u hu => ?_) (fun u hu => ?_) (by unfold maxLen; omega) (by omega) hbase ?_
    · have hj : j < r.length := by have := (List.getElem?_eq_some_iff.1 hu).1; simpa [i64s] using this
      obtain ⟨b, off, e, hb, hc⟩ := he (by omega)
      cases e
      rw [Go.WideShapes.add_plain, hc j hj, ← hu]
      simp [i64s, V64, hj]
    · obtain ⟨z, _, rfl⟩ := List.mem_map.1 hu
      rfl
    · intro v' w1 hown hgr hiff hat
      have hO : Only (ab A) W w1 := (Only.refl _ W).grown hgr (fun k hk => by
        cases A with
        | none => simp [Value.ownBlock] at hk
        | some aA => simp [Value.ownBlock] at hk; exact .inl ⟨aA, rfl, hk⟩)
      have hown' : w1.ownsRow base 3 1 v' (q ++ r).length (i64s (q ++ r)) := by
        have e2 : i64s (q ++ r) = i64s q ++ i64s r := by simp [i64s]
        rw [List.length_append, e2]; exact hown
      rcases hown.2 with ⟨rfl, h0⟩ | ⟨g, cap', cur, rfl, hb, hg, hn, hcm, hcs, hxx⟩
      · have h2 := h none 0 w1 (by unfold OwnI; rw [List.length_append, h0]; rw [List.length_append, h0] at hown'; exact hown') (hid (fun i ⟨b, hb, _⟩ => by cases hb)) hO
        rwa [h0] at h2
      · refine h (some ⟨g, 0, none⟩) cap' w1 (by unfold OwnI; rw [List.length_append] at hown' ⊢; exact hown') (hid ?_) hO
        rintro i ⟨b, hb', rfl⟩
        cases hb'
        rcases hat with hat | hat
        · cases A with
          | none => simp [Value.ownBlock] at hat
          | some aA => simp [Value.ownBlock] at hat; exact .inl ⟨aA, rfl, hat.symm⟩
        · simp [Value.ownBlock] at hat
          exact .inr (by show W.heap.size ≤ g; omega)

/-- The clock and the law's own map hold the same. -/
structure OSt (w wr : World) (cb lb : Nat) (now : Int) (S : List (Int × Int)) (N : Nat) (G : Nat → Prop) (f : Int → Option Int) : Prop where
  cs : Hid (Cs w wr cb now S N G)
  mp : MapI wr lb N f
  li : Lists S f
  lb : ¬ G lb ∧ w.heap.size ≤ lb
  o : Only (fun _ => False) w wr
theorem OSt.keep {T : Nat → Prop} {w wr w' : World} {cb lb : Nat} {now : Int} {S : List (Int × Int)} {N : Nat} {G : Nat → Prop} {f : Int → Option Int} (h : OSt w wr cb lb now S N G f) (o : Only T wr w') (hs : ∀ i, T i → ¬ G i ∧ i ≠ lb ∧ w.heap.size ≤ i) : OSt w w' cb lb now S N G f :=
  ⟨hid (h.cs.out.keep o (fun i hi ht => (hs i ht).1 hi)), h.mp.keep o (fun ht => (hs _ ht).2.1 rfl), h.li, h.lb, h.o.trans' o (fun i hi => .inr (hs i hi).2.2)⟩

set_option maxHeartbeats 8000000 in
set_option maxRecDepth 100000 in
theorem once_walk (A0 : Option Addr) (n c0 : Nat) (f0 : Nat → Int) (A1 : Option Addr) (nd c1 : Nat) (f1 : Nat → Int) (A2 : Option Addr) (np c2 : Nat) (f2 : Nat → Int) (w : World) (h0 : n ≤ c0 ∧ c0 ≤ maxLen) (h1 : nd ≤ c1 ∧ c1 ≤ maxLen) (h2 : np ≤ c2 ∧ c2 ≤ maxLen)
    (e0 : Elems w A0 c0 (fun i => .int .i64 (f0 i))) (e1 : Elems w A1 c1 (fun i => .int .i64 (f1 i))) (e2 : Elems w A2 c2 (fun i => .int .i64 (f2 i))) (hnil : A2 = none → c2 = 0) :
    Calls Try.prog 4 #[.slice A0 n c0, .slice A1 nd c1, .slice A2 np c2] w fun e w' => e = .returned (.bool true) ∧ Below w.heap.size w w' := by
  obtain ⟨h01, h02⟩ := h0
  obtain ⟨h11, h12⟩ := h1
  obtain ⟨h21, h22⟩ := h2
  unfold maxLen at h02 h12 h22
  have E0 := hid e0
  have E1 := hid e1
  have E2 := hid e2
  have HNIL := hid hnil
  clear e0 e1 e2 hnil
  go_enter Try.func4, Try.ntmps4
  go_wp2_with fail
  refine (cs_new w w (Only.refl _ _)).mono ?_
  rintro e w1 ⟨rfl, H1, o1⟩
  go_wp2_with fail
  refine (alive_any _).mono ?_
  rintro e w2 ⟨rfl, o2⟩
  have H2 := hid (H1.out.same o2)
  have O2 := o1.trans o2
  obtain ⟨cb, hcb⟩ : ∃ cb, w.heap.size + 1 = cb := ⟨_, rfl⟩
  rw [hcb] at H2 ⊢
  have hs2 := O2.size
  clear H1 o1 o2 hcb
  have hguard : 50 < n ∨ (n ≤ 50 ∧ 50 < np) ∨ (n ≤ 50 ∧ np ≤ 50) := by omega
  rcases hguard with hg | ⟨hg1, hg2⟩ | ⟨hn, hnp⟩
  · go_wp2_with fail
    go_ret
    exact ⟨rfl, O2.to_below (fun _ h => h.elim)⟩
  · go_wp2_with fail
    go_ret
    exact ⟨rfl, O2.to_below (fun _ h => h.elim)⟩
  · have hm3 : ¬ (50 : Int) < (n : Int) := by omega
    have hm4 : ¬ (50 : Int) < (np : Int) := by omega
    have hmm := @run_makeMap Try.prog
    go_upto_region 7 with (fail)
    clear hmm
    refine fold (F := fun W' => ∃ G, Hid (OSt w W' cb w2.heap.size 0 [] 0 G (fun _ => none))) ⟨_, hid ⟨hid (H2.out.same ((Only.refl _ _).alloc _)), mapI_new w2, ⟨List.Pairwise.nil, fun k t => by simp⟩, ⟨fun hg => by have := H2.out.lt _ hg; omega, hs2⟩, O2.trans ((Only.refl _ _).alloc _)⟩⟩ ?_
    clear H2 O2 hs2
    rintro w3 ⟨G3, S3⟩
    obtain ⟨lb, hlb⟩ : ∃ lb, w2.heap.size = lb := ⟨_, rfl⟩
    rw [hlb] at S3 ⊢
    clear hlb
    go_wp2_with fail
    go_loopw [42] (fun iv wr => ∃ (k : Nat) (S : List (Int × Int)) (G : Nat → Prop) (f : Int → Option Int), k ≤ n ∧ iv = .int .i64 (k : Int) ∧ Hid (OSt w wr cb lb 0 S k G f) ∧ Hid (∀ d ∈ S, 0 ≤ d.1 ∧ d.1 ≤ 255) ∧ S.length ≤ k) (fun iv _ => n - (intOf iv).toNat)
    case atStart => exact ⟨0, [], G3, _, Nat.zero_le _, rfl, S3, hid (fun d hd => by cases hd), Nat.le_refl _⟩
    case round =>
      clear S3
      obtain ⟨k, S, G, f, hk, rfl, HS, hd, hSl⟩ := hrel
      by_cases hlt : k < n
      · obtain ⟨b, off, rfl, hc⟩ := (E0.out.only' HS.out.o (fun _ _ h => h)).at_ k (by omega)
        obtain ⟨t, ht⟩ : ∃ t, f0 k % 256 = t := ⟨_, rfl⟩
        have ht0 : 0 ≤ t ∧ t < 256 := by omega
        have hkI : Hid (I64 (k : Int)) := hid (i64_of (by omega))
        have htI : Hid (I64 t) := hid (i64_of (by omega))
        go_upto_region 11 with ((first | (at_mapUpdate; refine upd_own _ rfl _ _ _ rfl lb k f (k : Int) t rfl rfl rfl HS.out.mp hkI.out htI.out (by omega) ?_; intro w4 hm4' o4) | fail))
        have H4 := hid (HS.out.cs.out.keep o4 (fun i hi e => HS.out.lb.1 (e ▸ hi)))
        have O4 := HS.out.o.trans' o4 (fun i hi => .inr (hi ▸ HS.out.lb.2))
        have l2 := hm4'.out.look1 hkI.out (updf_at f (k : Int) (some t))
        clear o4
        go_wp2_with fail
        refine (cs_set k t hkI.out htI.out H4 (by omega)).mono ?_
        rintro e w5 ⟨G5, rfl, H5, hG5, o5⟩
        have hmt : min t 1099511627776 = t := by omega
        rw [hmt] at H5
        have hlb4 : lb < w4.heap.size := hm4'.out.lt
        have hst : Hid (OSt w w5 cb lb 0 (ins (t, (k : Int)) (rem (k : Int) S)) (k + 1) G5 (updf f (k : Int) (some t))) := hid ⟨H5, hm4'.out.keep o5 HS.out.lb.1, HS.out.li.set _ _, ⟨fun hg => (hG5.out _ hg).elim HS.out.lb.1 (fun hg => by omega), HS.out.lb.2⟩, O4.trans' o5 (fun i hi => .inr (H4.out.new i hi))⟩
        have hd5 : Hid (∀ d ∈ ins (t, (k : Int)) (rem (k : Int) S), 0 ≤ d.1 ∧ d.1 ≤ 255) := hid (fun d hd' => by
          rcases (mem_ins _ _ _).1 hd' with rfl | hd'
          · exact ⟨ht0.1, by simp only; omega⟩
          · exact hd.out d ((mem_rem _ _ _).1 hd').1)
        have hl5 : (ins (t, (k : Int)) (rem (k : Int) S)).length ≤ k + 1 := by
          rw [ins_len]; have h := List.length_filter_le (fun d : Int × Int => decide (d.2 ≠ (k : Int))) S; unfold rem; omega
        clear HS H4 O4 l2 hmt hd
        go_wp2_with fail
        go_roundw
        case rel => exact ⟨k + 1, _, G5, _, by omega, by simp, hst, hd5, hl5⟩
        case measure => simp [intOf]; omega
      · obtain rfl : k = n := by omega
        go_wp2_with fail
        go_loopw [60] (fun iv wr => ∃ (j : Nat) (S : List (Int × Int)) (f : Int → Option Int), j ≤ nd ∧ iv = .int .i64 (j : Int) ∧ Hid (OSt w wr cb lb 0 S k G f) ∧ Hid (∀ d ∈ S, 0 ≤ d.1 ∧ d.1 ≤ 255) ∧ S.length ≤ k) (fun iv _ => nd - (intOf iv).toNat)
        case atStart => exact ⟨0, S, f, Nat.zero_le _, rfl, HS, hd, hSl⟩
        case round =>
          clear HS hd hSl
          obtain ⟨j, S, f, hj, rfl, HS, hd, hSl⟩ := hrel
          by_cases hlt2 : j < nd
          · obtain ⟨b, off, rfl, hc⟩ := (E1.out.only' HS.out.o (fun _ _ h => h)).at_ j (by omega)
            by_cases hk0 : k = 0
            · subst hk0
              go_wp2_with fail
              go_roundw
              case rel => exact ⟨j + 1, S, f, by omega, by simp, HS, hd, hSl⟩
              case measure => simp [intOf]; omega
            · have hkp : (0 : Int) < (k : Int) := by omega
              have hkz : ¬ (k : Int) = 0 := by omega
              obtain ⟨x, hx⟩ : ∃ x, f1 j % 1024 % (k : Int) = x := ⟨_, rfl⟩
              have hx0 : 0 ≤ x ∧ x < (k : Int) := by rw [← hx]; exact ⟨Int.emod_nonneg _ hkz, Int.emod_lt_of_pos _ hkp⟩
              have hxI : Hid (I64 x) := hid (i64_of (by omega))
              have l1 := HS.out.mp.look hxI.out
              rw [HS.out.li.has x] at l1
              obtain ⟨tv, htv⟩ : ∃ tv, (f x).getD 0 = tv := ⟨_, rfl⟩
              obtain ⟨bv, hbv⟩ : ∃ bv, hasS S x = bv := ⟨_, rfl⟩
              rw [htv, hbv] at l1
              have HBV := hid hbv
              clear htv hbv
              go_wp2_with fail
              refine (cs_drop x hxI.out HS.out.cs).mono ?_
              rintro e w5 ⟨rfl, H5, o5⟩
              rw [HBV.out]
              have hm5 := hid (HS.out.mp.keep o5 HS.out.lb.1)
              have O5 := HS.out.o.trans' o5 (fun i hi => .inr (HS.out.cs.out.new i hi))
              clear l1
              go_wp2_with (first | (at_delete; refine del_own _ rfl _ _ rfl lb k f x rfl rfl hm5.out hxI.out ?_; intro w6 hm6 o6) | fail)
              have hst : Hid (OSt w w6 cb lb 0 (rem x S) k G (updf f x none)) := hid ⟨hid (H5.out.keep o6 (fun i hi e => HS.out.lb.1 (e ▸ hi))), hm6.out, HS.out.li.rem x, HS.out.lb, O5.trans' o6 (fun i hi => .inr (hi ▸ HS.out.lb.2))⟩
              have hd6 : Hid (∀ d ∈ rem x S, 0 ≤ d.1 ∧ d.1 ≤ 255) := hid (fun d hd' => hd.out d ((mem_rem _ _ _).1 hd').1)
              have hl6 : (rem x S).length ≤ k := by have h := List.length_filter_le (fun d : Int × Int => decide (d.2 ≠ x)) S; unfold rem; omega
              clear HS H5 O5 o5 o6 hm5 hm6 hd
              go_wp2_with fail
              go_roundw
              case rel => exact ⟨j + 1, _, _, by omega, by simp, hst, hd6, hl6⟩
              case measure => simp [intOf]; omega
          · obtain rfl : j = nd := by omega
            clear hlt2 hlt
            obtain ⟨wo, rfl⟩ : ∃ wo : World, wo = wr := ⟨_, rfl⟩
            obtain ⟨r2, hr2⟩ : ∃ r2, (List.range np).map f2 = r2 := ⟨_, rfl⟩
            have hr2l : r2.length = np := by rw [← hr2]; simp
            have HP : Hid (Elems wo A2 np (V64 r2)) := hid (by
              have h := E2.out.only' HS.out.o (fun _ _ h => h)
              intro hp
              obtain ⟨b, off, e, hb, hc⟩ := h (by omega)
              refine ⟨b, off, e, hb, fun j hj => ?_⟩
              rw [hc j (by omega), ← hr2]
              simp [V64, hj])
            have HR2 := hid hr2l
            have hGlt := hid HS.out.cs.out.lt
            have hlbw := HS.out.mp.lt
            clear hr2 hr2l
            go_wp2_with (first
              | (at_builtin; refine app_el rfl _ _ rfl wo.heap.size 0 np 0 c2 (some ⟨wo.heap.size, 0, none⟩) A2 [] r2 rfl HR2.out rfl rfl (World.ownsRow_made wo #[] 0 (Nat.le_refl _) (by simp [maxLen]) rfl) (HP.out.only' ((Only.refl (fun _ => False) wo).alloc (.cells #[] 3)) (fun _ _ h => h)) (fun h => ⟨HNIL.out h, by have := HNIL.out h; omega⟩) (by simp) (by omega) ?_; intro B4 c4 w4 hO4 hB4 o4)
              | (at_builtin; refine app_i rfl _ _ rfl wo.heap.size np c4 B4 ([] ++ r2) 255 (by rw [List.nil_append, HR2.out]) rfl rfl hO4.out (Nat.le_trans (by simp) o4.size) (by omega) ?_; intro B5 c5 w5 hO5 hB5 o5)
              | fail)
            have o45 : Only (fun i => wo.heap.size ≤ i) wo w5 := ((((Only.refl _ wo).alloc (.cells #[] 3)).mono (fun _ (h : wo.heap.size ≤ _) => h)).trans (o4.mono (fun i hi => by obtain ⟨a, ha, e⟩ := hi; cases ha; exact Nat.le_of_eq e))).trans (o5.mono (fun i hi => (hO4.out.blk i hi).1))
            have S5 := hid (HS.out.keep o45 (fun i hi => ⟨fun hg => by have := hGlt.out i hg; omega, by omega, by have := HS.out.o.size; omega⟩))
            have hs5 : Hid (wo.heap.size ≤ w5.heap.size) := hid o45.size
            obtain ⟨L, hL⟩ : ∃ L, [] ++ r2 ++ [255] = L := ⟨_, rfl⟩
            rw [hL] at hO5
            have hLl : L.length = np + 1 := by rw [← hL]; simp [HR2.out]
            have hLlast : L.getD np 0 = 255 := by rw [← hL]; simp [← HR2.out]
            have HL := hid (⟨hLl, hLlast⟩ : _ ∧ _)
            have hwo : Hid (w.heap.size ≤ wo.heap.size) := hid HS.out.o.size
            clear HS HP hO4 hB4 hB5 o4 o5 o45 hL hLl hLlast
            go_loopw [92] (fun iv wq => ∃ (j : Nat) (now : Int) (S : List (Int × Int)) (f : Int → Option Int), j ≤ np + 1 ∧ iv = .int .i64 (j : Int) ∧ Hid (OSt w wq cb lb now S k G f) ∧ Hid (∀ d ∈ S, 0 ≤ d.1 ∧ d.1 ≤ 255) ∧ S.length ≤ k ∧ 0 ≤ now ∧ now ≤ 255 * (j : Int) ∧ (j = np + 1 → S = []) ∧ Hid (OwnI wq wo.heap.size B5 c5 L) ∧ Hid (wo.heap.size ≤ wq.heap.size)) (fun iv _ => np + 1 - (intOf iv).toNat)
            case atStart => exact ⟨0, 0, S, f, Nat.zero_le _, rfl, S5, hd, hSl, by omega, by omega, fun h => by omega, hO5, hs5⟩
            case round =>
              clear S5 hO5 hs5 hd hSl S f
              obtain ⟨wq, rfl⟩ : ∃ wq : World, wq = wr := ⟨_, rfl⟩
              obtain ⟨j, now, S, f, hj, rfl, HS, hd, hSl, hn0, hn1, hend, HO, hsz⟩ := hrel
              by_cases hlt3 : j < np + 1
              · obtain ⟨b, off, rfl, hc⟩ := (HO.out.el HL.out.1).at_ j hlt3
                unfold V64 at hc
                obtain ⟨y, hy⟩ : ∃ y, L.getD j 0 % 256 = y := ⟨_, rfl⟩
                have hy0 : 0 ≤ y ∧ y < 256 := by omega
                have hylast : j = np → y = 255 := fun e => by rw [← hy, e, HL.out.2]; rfl
                obtain ⟨v, hv⟩ : ∃ v, L.getD j 0 = v := ⟨_, rfl⟩
                rw [hv] at hc hy
                obtain ⟨nw, hnw⟩ : ∃ nw, now + y = nw := ⟨_, rfl⟩
                have hps : passed now y = nw := by unfold passed; omega
                obtain ⟨T, hT⟩ : ∃ T, S.takeWhile (due nw) = T := ⟨_, rfl⟩
                obtain ⟨T', hT'⟩ : ∃ T', S.dropWhile (due nw) = T' := ⟨_, rfl⟩
                obtain ⟨tl, htl⟩ : ∃ tl, T.length = tl := ⟨_, rfl⟩
                have hsplit : T ++ T' = S := by rw [← hT, ← hT']; exact List.takeWhile_append_dropWhile
                have hfil := fil_srt (now := nw) HS.out.li.1
                rw [hT, hT'] at hfil
                have hdueT : ∀ z ∈ T, z.1 ≤ nw := fun z hz => by
                  rw [← hfil.1] at hz
                  have := (List.mem_filter.1 hz).2
                  simpa [due] using this
                have hlateT : ∀ z ∈ T', nw < z.1 := fun z hz => by
                  rw [← hfil.2] at hz
                  have := (List.mem_filter.1 hz).2
                  simpa [late, due] using this
                have hTS : tl ≤ k := by rw [← htl, ← hT]; exact Nat.le_trans (List.takeWhile_sublist _).length_le hSl
                have hT'S : T'.length ≤ k := by rw [← hT']; exact Nat.le_trans (List.dropWhile_sublist _).length_le hSl
                have hd' : Hid (∀ d ∈ T', 0 ≤ d.1 ∧ d.1 ≤ 255) := hid (fun z hz => hd.out z (by rw [← hsplit]; exact List.mem_append_right _ hz))
                have hend' : j = np → T' = [] := fun e => by
                  cases hT0 : T' with
                  | nil => rfl
                  | cons z l =>
                    have hz : z ∈ T' := by rw [hT0]; exact List.mem_cons_self ..
                    have h1 := hlateT z hz
                    have h2 := (hd'.out z hz).2
                    have h3 := hylast e
                    omega
                have HX := hid (⟨hps, hT, hT', htl, hsplit, hdueT, hlateT, hend'⟩ : _ ∧ _ ∧ _ ∧ _ ∧ _ ∧ _ ∧ _ ∧ _)
                have hnw0 : 0 ≤ nw ∧ nw ≤ 255 * ((j + 1 : Nat) : Int) := by omega
                clear hps hT hT' htl hsplit hfil hdueT hlateT hend' hylast hnw hv hd hend
                go_wp2_with fail
                refine (cs_pass y (i64_of (by omega)) HS.out.cs (by omega) (by omega) nw T T' tl HX.out.1 HX.out.2.1 HX.out.2.2.1 HX.out.2.2.2.1).mono ?_
                rintro e w6 ⟨B6, c6, rfl, HO6, H6, o6⟩
                have hgb : Hid (∀ i, G i → i < wo.heap.size) := hGlt
                have hIS : Hid (∀ d ∈ S, I64 d.2) := hid (fun d hd => (HS.out.cs.out.wf d hd).2)
                have M6 := hid (HS.out.mp.keep o6 HS.out.lb.1)
                have HO5 := hid (HO.out.keep o6 (fun i hi hg => by have := (HO.out.blk i hi).1; have := hgb.out i hg; omega))
                have O6 := HS.out.o.trans' o6 (fun i hi => .inr (HS.out.cs.out.new i hi))
                have L6 : Hid (Lists (S.drop 0) f) := hid HS.out.li
                have hlbG := HS.out.lb
                have hlbG' := hid hlbG
                have hsz6 : Hid (wo.heap.size ≤ w6.heap.size) := hid (Nat.le_trans hsz.out o6.size)
                have hb6 : Hid (∀ i, ab B6 i → wo.heap.size ≤ i) := hid (fun i hi => Nat.le_trans hsz.out (HO6.out.blk i hi).1)
                clear HS HO o6 hlbG
                go_wp2_with fail
                go_loopw [101] (fun iv wz => ∃ (i : Nat) (f' : Int → Option Int), i ≤ tl ∧ iv = .int .i64 (i : Int) ∧ Hid (Cs w wz cb nw T' k G) ∧ Hid (MapI wz lb k f') ∧ Hid (Lists (S.drop i) f') ∧ Hid (OwnI wz wq.heap.size B6 c6 (ids T)) ∧ Hid (OwnI wz wo.heap.size (some ⟨b, off, none⟩) c5 L) ∧ Only (fun _ => False) w wz ∧ Hid (wo.heap.size ≤ wz.heap.size)) (fun iv _ => tl - (intOf iv).toNat)
                case atStart => exact ⟨0, f, Nat.zero_le _, rfl, H6, M6, L6, HO6, HO5, O6, hsz6⟩
                case round =>
                  clear H6 M6 L6 HO6 HO5 O6 hsz6 hsz
                  obtain ⟨i, f', hi, rfl, H6, M6, L6, HO6, HO5, O6, hsz6⟩ := hrel
                  by_cases hlt4 : i < tl
                  · obtain ⟨b6, off6, rfl, hc6⟩ := (HO6.out.el (by rw [ids_len, HX.out.2.2.2.1])).at_ i hlt4
                    unfold V64 at hc6
                    obtain ⟨z, hz⟩ : ∃ z, T.getD i (0, 0) = z := ⟨_, rfl⟩
                    have hiT : i < T.length := by rw [HX.out.2.2.2.1]; exact hlt4
                    have hzT : z ∈ T := by rw [← hz, List.getD_eq_getElem?_getD, List.getElem?_eq_getElem hiT]; exact List.getElem_mem _
                    have hid6 : (ids T).getD i 0 = z.2 := by rw [← hz]; simp [ids, hiT]
                    have hdrop : S.drop i = z :: S.drop (i + 1) := by
                      rw [← HX.out.2.2.2.2.1, List.drop_append_of_le_length (by omega), List.drop_append_of_le_length (by omega)]
                      rw [← List.cons_append, ← hz, List.getD_eq_getElem?_getD, List.getElem?_eq_getElem hiT, Option.getD_some, ← List.drop_eq_getElem_cons hiT]
                    obtain ⟨z1, z2⟩ := z
                    rw [hid6] at hc6
                    simp only at hc6
                    have hLL := L6.out
                    rw [hdrop] at hLL
                    have hf' : f' z2 = some z1 := hLL.head
                    have hI : Hid (I64 z2) := hid (by
                      exact hIS.out _ (by rw [← HX.out.2.2.2.2.1]; exact List.mem_append_left _ hzT))
                    have l1 := M6.out.look hI.out
                    rw [hf'] at l1
                    simp only [Option.getD_some, Option.isSome_some] at l1
                    have hle : z1 ≤ nw := HX.out.2.2.2.2.2.1 _ hzT
                    have hLT := hid hLL.tail
                    clear hz hid6 hdrop hLL hzT L6
                    go_wp2_with fail
                    refine (cs_now H6).mono ?_
                    rintro e w7 ⟨rfl, rfl⟩
                    clear l1
                    have hlbb := hlbG'.out
                    go_wp2_with (first | (at_delete; refine del_own _ rfl _ _ rfl lb k f' z2 rfl rfl M6.out hI.out ?_; intro w8 hm8 o8) | fail)
                    have H8 := hid (H6.out.keep o8 (fun i hi e => hlbb.1 (e ▸ hi)))
                    have HO8 := hid (HO6.out.keep o8 (fun i hi e => by have := hb6.out i hi; omega))
                    have HO58 := hid (HO5.out.keep o8 (fun i hi e => by have := (HO5.out.blk i hi).1; omega))
                    have O8 := O6.trans' o8 (fun i hi => .inr (hi ▸ hlbb.2))
                    have hsz8 : Hid (wo.heap.size ≤ w8.heap.size) := hid (Nat.le_trans hsz6.out o8.size)
                    clear H6 M6 HO6 HO5 O6 o8 hsz6
                    go_wp2_with fail
                    go_roundw
                    case rel => exact ⟨i + 1, _, by omega, by simp, H8, hm8, hLT, HO8, HO58, O8, hsz8⟩
                    case measure => simp [intOf]; omega
                  · obtain rfl : i = tl := by omega
                    have hLT : Hid (Lists T' f') := hid (by
                      have h := L6.out
                      rw [← HX.out.2.2.2.2.1, ← HX.out.2.2.2.1, List.drop_append_of_le_length (Nat.le_refl _), List.drop_length, List.nil_append] at h
                      exact h)
                    obtain ⟨D, hown, hrd⟩ := M6.out
                    have HRD := hid hrd
                    clear L6 HO6 hrd
                    go_wp2_with (first | (at_range; refine wpList_range_own _ rfl _ _ rfl 3 2 lawK Try.underlying47 _ lb k D rfl hown ?_; intro w8 hrg hg8 hs8) | fail)
                    go_frame
                    have o8 : Only (fun _ => False) wr w8 := ⟨hg8.os, hg8.tape, hg8.output, hg8.size, fun i hi _ => hg8.block i hi (by simp)⟩
                    have H8 := hid (H6.out.same o8)
                    have HO8 := hid (HO5.out.keep o8 (fun _ _ h => h))
                    have O8 := O6.trans o8
                    have HRG := hid hrg
                    have hsz8 : Hid (wo.heap.size ≤ w8.heap.size) := hid (Nat.le_trans hsz6.out o8.size)
                    obtain ⟨rb, hrb⟩ : ∃ rb, wr.heap.size = rb := ⟨_, rfl⟩
                    rw [hrb] at HRG ⊢
                    have hrbw : Hid (wo.heap.size ≤ rb) := hid (hrb ▸ hsz6.out)
                    have hrbB : Hid (∀ i, ab (some ⟨b, off, none⟩) i → i ≠ rb) := hid (fun i hi e => by have := (HO5.out.blk i hi).2; omega)
                    clear H6 HO5 O6 o8 hrg hg8 hs8 hown M6 hsz6 hrb
                    go_loopw [] (fun wv => ∃ (left : Lit → Bool) (cnt : Nat), Hid (wv.ranges Try.prog 3 (plainElem Try.prog 2) lb rb k D left cnt) ∧ Hid (Cs w wv cb nw T' k G) ∧ Hid (OwnI wv wo.heap.size (some ⟨b, off, none⟩) c5 L) ∧ Only (fun _ => False) w wv ∧ Hid (wo.heap.size ≤ wv.heap.size)) (fun wv => wv.rangeLeft lb rb)
                    case atStart => exact ⟨_, _, HRG, H8, HO8, O8, hsz8⟩
                    case round =>
                      clear HRG H8 HO8 O8 hsz8
                      obtain ⟨left, cnt, HRG, H8, HO8, O8, hsz8⟩ := hrel
                      have hrg := HRG.out
                      have HM := hid hrg.owns
                      have hleq := hid hrg.left_eq
                      go_wp2_with (first | (at_next; refine wpList_next_ranges_ii _ rfl _ rfl 3 2 .i64 .i64 lawK Try.underlying3 Try.underlying2 lb rb k D _ _ rfl hrg ?_ ?_) | fail)
                      · intro _ _
                        clear hrg
                        go_wp2_with fail
                        go_roundw
                        case rel => exact ⟨j + 1, nw, T', f', by omega, by simp, hid ⟨H8, ⟨D, HM.out, HRD.out⟩, hLT.out, hlbG'.out, O8⟩, hd', hT'S, hnw0.1, hnw0.2, fun e => HX.out.2.2.2.2.2.2.2 (by omega), HO8, hsz8⟩
                        case measure => simp [intOf]; omega
                      · intro x c w9 cnt9 hwx hwc hlx hat hrg9 hlt9 hg9 hs9 hen
                        clear hrg
                        have hfx : f' x = some c := by
                          have h1 := has_true_of_atKey hat
                          rw [(HRD.out x).1] at h1
                          obtain ⟨t, ht⟩ := Option.isSome_iff_exists.1 h1
                          have h2 := (HRD.out x).2 t ht
                          rw [hat] at h2
                          simp only [DataW.lit.injEq, Lit.int.injEq, true_and] at h2
                          rw [ht, h2]
                        have hgt : nw < c := HX.out.2.2.2.2.2.2.1 _ ((hLT.out.2 x c).1 hfx)
                        have o9 : Only (· = rb) wr w9 := only_grown hg9
                        have hwr' := hrbw.out
                        have hwo' := hwo.out
                        have H9 := hid (H8.out.keep o9 (fun i hi e => by have := hGlt.out i hi; omega))
                        have HO9 := hid (HO8.out.keep o9 (fun i hi e => hrbB.out i hi e))
                        have O9 := O8.trans' o9 (fun i hi => .inr (by omega))
                        have hsz9 : Hid (wo.heap.size ≤ w9.heap.size) := hid (Nat.le_trans hsz8.out o9.size)
                        have HRG9 := hid hrg9
                        have hgt' : ¬ c ≤ nw := by omega
                        clear hrg9 hg9 hs9 hat hlx hwx hwc H8 HO8 O8 o9 hfx hsz8
                        go_wp2_with fail
                        refine (cs_now H9).mono ?_
                        rintro e w10 ⟨rfl, rfl⟩
                        go_wp2_with fail
                        go_roundw
                        case rel => exact ⟨_, cnt9, HRG9, H9, HO9, O9, hsz9⟩
                        case measure => rw [HRG9.out.left_eq, hleq.out]; exact hlt9
              · obtain rfl : j = np + 1 := by omega
                obtain rfl := hend rfl
                obtain ⟨D, hown, hrd⟩ := HS.out.mp
                have hfn : ∀ x, f x = none := fun x => by
                  cases hx : f x with
                  | none => rfl
                  | some t => have := (HS.out.li.2 x t).1 hx; cases this
                have hz : ((size D : Nat) : Int) = 0 := by rw [MapI.size0 hfn hown (fun x => (hrd x).1)]; rfl
                have HRD := hid hrd
                have O9 := HS.out.o
                clear hrd hfn
                go_wp2_with (first | (at_len; refine wpList_len_own _ rfl _ _ rfl 3 2 Try.underlying47 _ lb k D rfl hown ?_; rw [hz]) | fail)
                go_ret
                exact ⟨rfl, O9.to_below (fun _ h => h.elim)⟩
end Go.Proofs.Ytjfhghimldjcfaa
