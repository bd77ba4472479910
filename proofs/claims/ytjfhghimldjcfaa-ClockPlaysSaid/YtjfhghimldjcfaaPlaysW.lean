/-
  The walk of ClockPlays.
-/
import Derived.Test.YtjfhghimldjcfaaV
import Derived.Test.YtjfhghimldjcfaaEndsW
import Derived.BigQuiet
namespace Go.Proofs.Ytjfhghimldjcfaa
open Go.RowKit

/-- A round's state: the clock and the reference hold the same. -/
structure CPt (w wr : World) (cb xb : Nat) (now : Int) (S : List (Int × Int)) (N : Nat) (A : Option Addr) (c : Nat) (G : Nat → Prop) : Prop where
  cs : Hid (Cs w wr cb now S N G)
  xr : Hid (wr.heap[xb]? = some (.cells #[.int .i64 now, .slice A S.length c] 28 (0, 0)))
  od : Hid (OwnD wr 0 A c S)
  sep : Hid (∀ i, ab A i → ¬ G i ∧ i ≠ xb ∧ i < wr.heap.size)
  gx : Hid (¬ G xb ∧ w.heap.size ≤ xb)
  len : S.length ≤ N
  o : Only (fun _ => False) w wr
theorem CPt.same {T : Nat → Prop} {w wr w' : World} {cb xb : Nat} {now : Int} {S : List (Int × Int)} {N : Nat} {A : Option Addr} {c : Nat} {G : Nat → Prop} (h : CPt w wr cb xb now S N A c G) (o : Only T wr w') (hs : ∀ i, T i → ¬ G i ∧ i ≠ xb ∧ ¬ ab A i ∧ w.heap.size ≤ i) : CPt w w' cb xb now S N A c G :=
  ⟨hid (h.cs.out.keep o (fun i hi ht => (hs i ht).1 hi)), hid (o.keep h.xr.out (fun ht => (hs _ ht).2.1 rfl)), hid (h.od.out.keep o (fun i hi ht => (hs i ht).2.2.1 hi)), hid (fun i hi => ⟨(h.sep.out i hi).1, (h.sep.out i hi).2.1, Nat.lt_of_lt_of_le (h.sep.out i hi).2.2 o.size⟩), h.gx, h.len, h.o.trans' o (fun i hi => .inr (hs i hi).2.2.2)⟩
theorem CPt.same0 {w wr w' : World} {cb xb : Nat} {now : Int} {S : List (Int × Int)} {N : Nat} {A : Option Addr} {c : Nat} {G : Nat → Prop} (h : CPt w wr cb xb now S N A c G) (o : Only (fun _ => False) wr w') : CPt w w' cb xb now S N A c G := h.same o (fun _ h => h.elim)
/-- The clock alone goes on. -/
theorem CPt.clock {w wr w' : World} {cb xb : Nat} {now : Int} {S : List (Int × Int)} {N : Nat} {A : Option Addr} {c : Nat} {G G' : Nat → Prop} (h : CPt w wr cb xb now S N A c G) (hc : Cs w w' cb now S N G') (hG : ∀ i, G' i → G i ∨ wr.heap.size ≤ i) (o : Only G wr w') : CPt w w' cb xb now S N A c G' := by
  have hx := b_lt h.xr.out
  refine ⟨hid hc, hid (o.keep h.xr.out h.gx.out.1), hid (h.od.out.keep o (fun i hi => (h.sep.out i hi).1)), hid (fun i hi => ?_), hid ⟨fun hg => (hG _ hg).elim h.gx.out.1 (fun h => by omega), h.gx.out.2⟩, h.len, h.o.trans' o (fun i hi => .inr (h.cs.out.new i hi))⟩
  obtain ⟨h1, h2, h3⟩ := h.sep.out i hi
  exact ⟨fun hg => (hG i hg).elim h1 (fun hg => by omega), h2, Nat.lt_of_lt_of_le h3 o.size⟩
/-- The clock holds (now, S), the reference (now', S'). -/
structure CP2 (w wr : World) (cb xb : Nat) (now : Int) (S : List (Int × Int)) (N : Nat) (now' : Int) (S' : List (Int × Int)) (A : Option Addr) (c : Nat) (G : Nat → Prop) : Prop where
  cs : Hid (Cs w wr cb now S N G)
  xr : Hid (wr.heap[xb]? = some (.cells #[.int .i64 now', .slice A S'.length c] 28 (0, 0)))
  od : Hid (OwnD wr 0 A c S')
  sep : Hid (∀ i, ab A i → ¬ G i ∧ i ≠ xb ∧ i < wr.heap.size)
  gx : Hid (¬ G xb ∧ w.heap.size ≤ xb)
  o : Only (fun _ => False) w wr
theorem CP2.put {w wb : World} {cb xb : Nat} {now : Int} {S : List (Int × Int)} {N : Nat} {now' : Int} {S' : List (Int × Int)} {A : Option Addr} {c m : Nat} {G : Nat → Prop} {v0 v1 : Value} (hc : Cs w wb cb now S N G) (gx : ¬ G xb ∧ w.heap.size ≤ xb) (row : wb.heap[xb]? = some (.cells #[v0, v1] 28 (0, 0))) (od : OwnD wb 0 A c S') (hm : S'.length = m)
    (sep : ∀ i, ab A i → ¬ G i ∧ i ≠ xb ∧ i < wb.heap.size) (o : Only (fun _ => False) w wb) : CP2 w ((wb.setCell ⟨xb, 0, none⟩ (.int .i64 now')).setCell ⟨xb, 1, none⟩ (.slice A m c)) cb xb now S N now' S' A c G := by
  have oo : Only (· = xb) wb ((wb.setCell ⟨xb, 0, none⟩ (.int .i64 now')).setCell ⟨xb, 1, none⟩ (.slice A m c)) := o_put (o_put (Only.refl _ _) _ _) _ _
  subst hm
  exact ⟨hid (hc.keep oo (fun i hi e => gx.1 (e ▸ hi))), hid (b_set (b_set row 0 _) 1 _), hid (od.keep oo (fun i hi => (sep i hi).2.1)), hid (fun i hi => ⟨(sep i hi).1, (sep i hi).2.1, Nat.lt_of_lt_of_le (sep i hi).2.2 oo.size⟩), hid gx, o.trans' oo (fun i hi => .inr (hi ▸ gx.2))⟩
theorem CP2.fin {w wr w' : World} {cb xb : Nat} {now : Int} {S : List (Int × Int)} {N N' : Nat} {now' : Int} {S' : List (Int × Int)} {A : Option Addr} {c : Nat} {G G' : Nat → Prop} (h : CP2 w wr cb xb now S N now' S' A c G) (hc : Cs w w' cb now' S' N' G') (hG : ∀ i, G' i → G i ∨ wr.heap.size ≤ i) (o : Only G wr w') (len : S'.length ≤ N') : CPt w w' cb xb now' S' N' A c G' := by
  have hx := b_lt h.xr.out
  refine ⟨hid hc, hid (o.keep h.xr.out h.gx.out.1), hid (h.od.out.keep o (fun i hi => (h.sep.out i hi).1)), hid (fun i hi => ?_), hid ⟨fun hg => (hG _ hg).elim h.gx.out.1 (fun h => by omega), h.gx.out.2⟩, len, h.o.trans' o (fun i hi => .inr (h.cs.out.new i hi))⟩
  obtain ⟨h1, h2, h3⟩ := h.sep.out i hi
  exact ⟨fun hg => (hG i hg).elim h1 (fun hg => by omega), h2, Nat.lt_of_lt_of_le h3 o.size⟩
theorem CP2.eq {w wr : World} {cb xb : Nat} {now : Int} {S : List (Int × Int)} {N : Nat} {A : Option Addr} {c : Nat} {G : Nat → Prop} (h : CP2 w wr cb xb now S N now S A c G) (len : S.length ≤ N) : CPt w wr cb xb now S N A c G := ⟨h.cs, h.xr, h.od, h.sep, h.gx, len, h.o⟩
theorem now_cell (cb : Nat) (x : Int) (w : World) (c0 : w.cell? ⟨cb, 0, none⟩ = some (.int .i64 x)) :
    Calls Try.prog 17 #[.pointer (some ⟨cb, 0, none⟩)] w fun e w' => e = .returned (.int .i64 x) ∧ w = w' := by
  go_enter Try.func17, Try.ntmps17
  go_wp2_with fail
  go_ret
  exact ⟨rfl, rfl⟩
theorem Cs.cell0 {W w : World} {cb : Nat} {now : Int} {S : List (Int × Int)} {N : Nat} {G : Nat → Prop} (h : Cs W w cb now S N G) : w.cell? ⟨cb, 0, none⟩ = some (.int .i64 now) := by
  obtain ⟨mb, A, ⟨cap, n, nm, q, f, h1, _⟩, _⟩ := h
  rw [b_cell h1.row.out]; rfl
theorem Cs.bound {W w : World} {cb : Nat} {now : Int} {S : List (Int × Int)} {N M : Nat} {G : Nat → Prop} (h : Cs W w cb now S N G) (hm : N ≤ M) : Cs W w cb now S M G := by
  obtain ⟨mb, A, h1, r⟩ := h
  exact ⟨mb, A, h1.mono hm, r⟩

set_option maxHeartbeats 8000000 in
set_option maxRecDepth 100000 in
theorem plays_walk (A0 : Option Addr) (len cap : Nat) (kd nn at_ : Nat → Int) (w : World) (hlc : len ≤ cap) (hcm : cap ≤ maxLen) (hw : ∀ i, I64 (nn i) ∧ I64 (at_ i))
    (hel : 0 < cap → ∃ b off, A0 = some ⟨b, off, none⟩ ∧ b < w.heap.size ∧ ∀ i, i < cap → w.cell? ⟨b, off + i * 3, none⟩ = some (.int .i64 (kd i)) ∧ w.cell? ⟨b, off + i * 3 + 1, none⟩ = some (.int .i64 (nn i)) ∧ w.cell? ⟨b, off + i * 3 + 2, none⟩ = some (.int .i64 (at_ i))) :
    Calls Try.prog 3 #[.slice A0 len cap] w fun e w' => e = .returned (.bool true) ∧ Below w.heap.size w w' := by
  unfold maxLen at hcm
  have HE := hid hel
  have HW := hid hw
  clear hel hw
  go_enter Try.func3, Try.ntmps3
  go_wp2_with fail
  refine (cs_new w w (Only.refl _ _)).mono ?_
  rintro e w1 ⟨rfl, H1, o1⟩
  go_wp2_with fail
  refine (alive_any _).mono ?_
  rintro e w2 ⟨rfl, o2⟩
  have H2 := hid (H1.out.same o2)
  have O2 := o1.trans o2
  have hs12 := o2.size
  obtain ⟨cb, hcb⟩ : ∃ cb, w.heap.size + 1 = cb := ⟨_, rfl⟩
  rw [hcb] at H2 ⊢
  clear H1 o1 o2 hcb
  by_cases hn : len ≤ 300
  · go_upto_region 7 with (fail)
    refine fold (F := fun W' => ∃ G, Hid (CPt w W' cb w2.heap.size 0 [] 0 none 0 G)) ⟨_, hid ⟨hid (H2.out.same ((Only.refl _ _).alloc _)), hid (b_new w2 _), hid ⟨rfl, .inl ⟨rfl, rfl⟩⟩, hid (fun i hi => by obtain ⟨a, ha, _⟩ := hi; cases ha), hid ⟨fun hg => by have := H2.out.lt _ hg; omega, O2.size⟩, Nat.le_refl _, O2.trans ((Only.refl _ _).alloc _)⟩⟩ ?_
    clear H2 O2 hs12
    rintro w3 ⟨G3, S3⟩
    obtain ⟨xb, hxb⟩ : ∃ xb, w2.heap.size = xb := ⟨_, rfl⟩
    rw [hxb] at S3 ⊢
    clear hxb
    go_wp2_with fail
    go_loopw [27] (fun iv wr => ∃ (k : Nat) (now : Int) (S : List (Int × Int)) (A : Option Addr) (c : Nat) (G : Nat → Prop), k ≤ len ∧ iv = .int .i64 (k : Int) ∧ Hid (CPt w wr cb xb now S k A c G)) (fun iv _ => len - (intOf iv).toNat)
    case atStart => exact ⟨0, 0, [], none, 0, G3, Nat.zero_le _, rfl, S3⟩
    case round =>
      clear S3
      obtain ⟨k, now, S, A, c, G, hk, rfl, HS⟩ := hrel
      by_cases hlt : k < len
      · obtain ⟨ba, oa, rfl, hba, hcell⟩ := HE.out (by omega)
        obtain ⟨c0, c1, c2⟩ := hcell k (by omega)
        have hob := HS.out.o
        have C0 := (hob.cell (p := ⟨ba, oa + k * 3, none⟩) hba (fun h => h)).trans c0
        have C1 := (hob.cell (p := ⟨ba, oa + k * 3 + 1, none⟩) hba (fun h => h)).trans c1
        have C2 := (hob.cell (p := ⟨ba, oa + k * 3 + 2, none⟩) hba (fun h => h)).trans c2
        clear c0 c1 c2 hcell
        have hI := HW.out k
        obtain ⟨hI1, hI2⟩ := hI
        have HI1 := hid hI1
        have HI2 := hid hI2
        clear hI1 hI2
        have HGW : Hid ((∀ i, G i → i < wr.heap.size) ∧ (∀ i, ab A i → i < wr.heap.size) ∧ xb < wr.heap.size) := hid ⟨HS.out.cs.out.lt, fun i hi => (HS.out.sep.out i hi).2.2, b_lt HS.out.xr.out⟩
        have hwr := hob.size
        go_upto_region 10 with (fail)
        refine fold (F := fun W' => Hid (CPt w W' cb xb now S k A c G) ∧ Hid (W'.heap[wr.heap.size]? = some (.cells #[.int .i64 (kd k), .int .i64 (nn k), .int .i64 (at_ k)] 30 (0, 0)))) ⟨hid (HS.out.same0 ((Only.refl _ _).alloc _)), hid (b_new wr _)⟩ ?_
        clear C0 C1 C2 hob HS hba
        rintro w9 ⟨S9, B9⟩
        have b0 := b_cell B9.out 0
        have b1 := b_cell B9.out 1
        have b2 := b_cell B9.out 2
        simp only [List.getElem?_toArray, List.getElem?_cons_zero, List.getElem?_cons_succ] at b0 b1 b2
        generalize kd k = kind at *
        generalize nn k = x at *
        generalize at_ k = tt at *
        obtain ⟨n, hnn⟩ : ∃ n, S.length = n := ⟨_, rfl⟩
        have hxr := S9.out.xr.out
        rw [hnn] at hxr
        have HXR := hid hxr
        have x0 := b_cell HXR.out 0
        have x1 := b_cell HXR.out 1
        have y0 := b_free HXR.out 0
        have y1 := b_free HXR.out 1
        simp only [List.getElem?_toArray, List.getElem?_cons_zero, List.getElem?_cons_succ] at x0 x1
        have hnk : n ≤ k := by have := S9.out.len; omega
        have hxl := b_lt HXR.out
        have HNN := hid hnn
        have hbl := b_lt B9.out
        clear hxr hnn
        have hkinds : kind = 1 ∨ kind = 2 ∨ kind = 3 ∨ kind = 4 ∨ (¬ kind = 1 ∧ ¬ kind = 2 ∧ ¬ kind = 3 ∧ ¬ kind = 4) := by omega
        rcases hkinds with rfl | rfl | rfl | rfl | hkn
        case' inl =>
          obtain ⟨nw, hnw⟩ : ∃ nw, passed now x = nw := ⟨_, rfl⟩
          obtain ⟨T, hT⟩ : ∃ T, S.takeWhile (due nw) = T := ⟨_, rfl⟩
          obtain ⟨T', hT'⟩ : ∃ T', S.dropWhile (due nw) = T' := ⟨_, rfl⟩
          have hfil : S.filter (due nw) = T ∧ S.filter (late nw) = T' := by
            obtain ⟨f, hf⟩ := S9.out.cs.out.srt
            have h := fil_srt (now := nw) hf.1
            rw [hT, hT'] at h
            exact h
          have hTl : T'.length ≤ n := by rw [← hT', ← HNN.out]; exact (List.dropWhile_sublist _).length_le
          have hnb' := S9.out.cs.out.nowb
          have HX := hid (⟨hnw, hT, hT', hfil.1, hfil.2⟩ : _ ∧ _ ∧ _ ∧ _ ∧ _)
          clear hnw hT hT' hfil
          go_wp2_with fail
          refine (rpass_any now S x A n c 0 _ hnb' HNN.out S9.out.od.out (by omega)).mono ?_
          rintro e wa ⟨A', m, c', B, g, cB, rfl, hm, hg, hA, hI, oa⟩
          rw [HX.out.1]
          rw [HX.out.1, HX.out.2.2.2.2] at hm hA
          rw [HX.out.1, HX.out.2.2.2.1] at hg hI
          have HM := hid (⟨hm, hg⟩ : _ ∧ _)
          clear hm hg
          unfold RC
          go_upto_region 13 with (fail)
          have sa := oa.size
          have oA : Only (fun _ => False) wa (wa.alloc (.cells #[.int .i64 nw, .slice A' m c'] 28)) := (Only.refl _ wa).alloc _
          refine fold (F := fun W' => ∃ nb, nb = wa.heap.size ∧ Hid (W'.heap[nb]? = some (.cells #[.int .i64 nw, .slice A' m c'] 28 (0, 0))) ∧ Hid (OwnD W' w9.heap.size A' c' T') ∧ Hid (OwnI W' w9.heap.size B cB (ids T)) ∧ Only (fun _ => False) w9 W') ⟨_, rfl, hid (b_new wa _), hid (hA.out.keep oA (fun _ _ h => h)), hid (hI.out.keep oA (fun _ _ h => h)), oa.trans oA⟩ ?_
          rintro wb ⟨nb, hnb, NBR, HA, HI, ob⟩
          rw [← hnb]
          rw [← hnb] at sa
          clear hnb hA oA oa
          have XR := hid (ob.keep HXR.out (fun h => h))
          have BR := hid (ob.keep B9.out (fun h => h))
          have sb := b_lt NBR.out
          have nx : xb ≠ nb := by omega
          clear x0 x1 y0 y1 b0 b1 b2
          have e0 := b_cell NBR.out 0
          have e1 := b_cell NBR.out 1
          have y0 := b_free XR.out 0
          have y1 := b_free XR.out 1
          have w0 := b_cell XR.out 0
          have w1' := b_cell XR.out 1
          simp only [List.getElem?_toArray, List.getElem?_cons_zero, List.getElem?_cons_succ] at e0 e1 w0 w1'
          go_upto_region 14 with (fail)
          have hAb : ∀ i, ab A' i → w9.heap.size ≤ i ∧ i < wb.heap.size := fun i hi => HA.out.blk i hi
          refine fold (F := fun W' => Hid (CP2 w W' cb xb now S k nw T' A' c' G) ∧ Hid (OwnI W' w9.heap.size B cB (ids T)) ∧ Hid (W'.heap[wr.heap.size]? = some (.cells #[.int .i64 _, .int .i64 x, .int .i64 tt] 30 (0, 0)))) ⟨hid (CP2.put (S9.out.cs.out.same ob) S9.out.gx.out XR.out (HA.out.mono (Nat.zero_le _)) HM.out.1 (fun i hi => ⟨fun hg => by have := hAb i hi; have := S9.out.cs.out.lt i hg; omega, fun e => by have := hAb i hi; omega, (hAb i hi).2⟩) (S9.out.o.trans ob)), hid (HI.out.keep (o_put (o_put (Only.refl _ wb) (b := xb) 0 (.int .i64 nw)) 1 (.slice A' m c')) (fun i hi e => by have := (HI.out.blk i hi).1; omega)), hid ((o_put (o_put (Only.refl _ wb) (b := xb) 0 (.int .i64 nw)) 1 (.slice A' m c')).keep BR.out (by have := HGW.out.2.2; omega))⟩ ?_
          rintro wc ⟨MC, HI2, BC⟩
          have b1 := b_cell BC.out 1
          simp only [List.getElem?_toArray, List.getElem?_cons_zero, List.getElem?_cons_succ] at b1
          clear HA XR BR sb nx e0 e1 y0 y1 w0 w1' NBR BC ob hAb
          clear HI hI
          have hkg : g ≤ 100000 := by rw [← HM.out.2, ← HX.out.2.1]; have := (List.takeWhile_sublist (p := due nw) (l := S)).length_le; have := HNN.out; omega
          have hBG : Hid (∀ i, ab B i → ¬ G i) := hid (fun i hi hg => by have := (HI2.out.blk i hi).1; have := S9.out.cs.out.lt i hg; omega)
          go_wp2_with fail
          refine (cs_pass x HI1.out MC.out.cs (by omega) (by have := HNN.out; omega) nw T T' g HX.out.1 HX.out.2.1 HX.out.2.2.1 HM.out.2).mono ?_
          rintro e wd ⟨B3, c3, rfl, HO3, H3, o3⟩
          have SD := hid (MC.out.fin (H3.out.bound (by omega : k ≤ k + 1)) (fun _ h => .inl h) o3 (by omega))
          have HID := hid (HI2.out.keep o3 (fun i hi hg => hBG.out i hi hg))
          clear MC H3 o3 HI2
          go_wp2_with fail
          refine (sameI (ids T) _ _ g g _ _ _ rfl (HO3.out.el (by rw [ids_len, HM.out.2])) (HID.out.el (by rw [ids_len, HM.out.2])) (by omega)).mono ?_
          rintro e we ⟨rfl, oe⟩
          have SE := hid (SD.out.same0 oe)
          clear SD HO3 HID oe hBG
          go_upto_region 28 with (fail)
          have S10 : Hid (∃ now S A c G, CPt w we cb xb now S (k + 1) A c G) := hid ⟨_, _, _, _, _, SE.out⟩
          clear SE b1 HM HX
        case' inr.inl =>
          go_wp2_with fail
          refine (cs_set x tt HI1.out HI2.out S9.out.cs (by omega)).mono ?_
          rintro e wa ⟨G', rfl, H3, hG3, o3⟩
          obtain ⟨S2, hS2⟩ : ∃ S2, ins (min tt 1099511627776, x) (rem x S) = S2 := ⟨_, rfl⟩
          rw [hS2] at H3
          have hS2l : S2.length ≤ k + 1 := by rw [← hS2, ins_len]; have h := List.length_filter_le (fun d : Int × Int => decide (d.2 ≠ x)) S; have := HNN.out; unfold rem; omega
          have HS2 := hid hS2
          have XR := hid (o3.keep HXR.out S9.out.gx.out.1)
          have BR := hid (o3.keep B9.out (fun hg => by have := HGW.out.1 _ hg; omega))
          have HD3 := hid (S9.out.od.out.keep o3 (fun i hi => (S9.out.sep.out i hi).1))
          have O3 := S9.out.o.trans' o3 (fun i hi => .inr (S9.out.cs.out.new i hi))
          have hg3 : Hid (¬ G' xb ∧ ∀ i, ab A i → ¬ G' i) := hid ⟨fun hg => (hG3.out _ hg).elim S9.out.gx.out.1 (fun hg => by omega), fun i hi hg => (hG3.out i hg).elim (S9.out.sep.out i hi).1 (fun hg => by have := (S9.out.sep.out i hi).2.2; omega)⟩
          clear x0 x1 y0 y1 b0 b1 b2 o3 hS2 hG3
          have x0 := b_cell XR.out 0
          have x1 := b_cell XR.out 1
          have b1 := b_cell BR.out 1
          have b2 := b_cell BR.out 2
          simp only [List.getElem?_toArray, List.getElem?_cons_zero, List.getElem?_cons_succ] at x0 x1 b1 b2
          go_wp2_with fail
          refine (rset_any now S x tt A n c 0 _ HNN.out HD3.out (by omega)).mono ?_
          rintro e wb ⟨A', m, c', rfl, hm, hA, ob⟩
          rw [HS2.out] at hm hA
          unfold RC
          have HM := hid hm
          have H4 := hid (H3.out.same ob)
          have XR4 := hid (ob.keep XR.out (fun h => h))
          have O4 := O3.trans ob
          have hAb : ∀ i, ab A' i → wa.heap.size ≤ i ∧ i < wb.heap.size := fun i hi => hA.out.blk i hi
          have hxa := b_lt XR.out
          have hGlt := hid H3.out.lt
          clear hm x0 x1 b1 b2 XR BR H3 HD3 ob O3
          have y0 := b_free XR4.out 0
          have y1 := b_free XR4.out 1
          have w0 := b_cell XR4.out 0
          have w1' := b_cell XR4.out 1
          simp only [List.getElem?_toArray, List.getElem?_cons_zero, List.getElem?_cons_succ] at w0 w1'
          go_upto_region 28 with (fail)
          refine fold (F := fun W' => Hid (CPt w W' cb xb now S2 (k + 1) A' c' G')) (hid ((CP2.put H4.out ⟨hg3.out.1, S9.out.gx.out.2⟩ XR4.out (hA.out.mono (Nat.zero_le _)) HM.out (fun i hi => ⟨fun hg => by have := hAb i hi; have := hGlt.out i hg; omega, fun e => by have := hAb i hi; omega, (hAb i hi).2⟩) O4).eq hS2l)) ?_
          rintro wc SC
          have S10 : Hid (∃ now S A c G, CPt w wc cb xb now S (k + 1) A c G) := hid ⟨_, _, _, _, _, SC.out⟩
          clear SC H4 XR4 O4 hAb hxa hGlt y0 y1 w0 w1' hA hg3 HS2 HM
        case' inr.inr.inl =>
          have hrl : (rem x S).length ≤ n := by rw [← HNN.out]; exact List.length_filter_le _ _
          go_wp2_with fail
          refine (rdrop_any now S x A n c 0 _ HNN.out S9.out.od.out (by omega)).mono ?_
          rintro e wa ⟨A', m, c', rfl, hm, hA, oa⟩
          obtain ⟨hs, hhs⟩ : ∃ hs, hasS S x = hs := ⟨_, rfl⟩
          rw [hhs]
          have HHS := hid hhs
          have HM := hid hm
          clear hm hhs
          unfold RC
          go_upto_region 21 with (fail)
          have sa := oa.size
          have oA : Only (fun _ => False) wa (wa.alloc (.cells #[.int .i64 now, .slice A' m c'] 28)) := (Only.refl _ wa).alloc _
          refine fold (F := fun W' => ∃ nb, nb = wa.heap.size ∧ Hid (W'.heap[nb]? = some (.cells #[.int .i64 now, .slice A' m c'] 28 (0, 0))) ∧ Hid (OwnD W' w9.heap.size A' c' (rem x S)) ∧  Only (fun _ => False) w9 W') ⟨_, rfl, hid (b_new wa _), hid (hA.out.keep oA (fun _ _ h => h)),  oa.trans oA⟩ ?_
          rintro wb ⟨nb, hnb, NBR, HA,  ob⟩
          rw [← hnb]
          rw [← hnb] at sa
          clear hnb hA oA oa
          have XR := hid (ob.keep HXR.out (fun h => h))
          have BR := hid (ob.keep B9.out (fun h => h))
          have sb := b_lt NBR.out
          have nx : xb ≠ nb := by omega
          clear x0 x1 y0 y1 b0 b1 b2
          have e0 := b_cell NBR.out 0
          have e1 := b_cell NBR.out 1
          have y0 := b_free XR.out 0
          have y1 := b_free XR.out 1
          have w0 := b_cell XR.out 0
          have w1' := b_cell XR.out 1
          simp only [List.getElem?_toArray, List.getElem?_cons_zero, List.getElem?_cons_succ] at e0 e1 w0 w1'
          go_upto_region 22 with (fail)
          have hAb : ∀ i, ab A' i → w9.heap.size ≤ i ∧ i < wb.heap.size := fun i hi => HA.out.blk i hi
          refine fold (F := fun W' => Hid (CP2 w W' cb xb now S k now (rem x S) A' c' G) ∧  Hid (W'.heap[wr.heap.size]? = some (.cells #[.int .i64 _, .int .i64 x, .int .i64 tt] 30 (0, 0)))) ⟨hid (CP2.put (S9.out.cs.out.same ob) S9.out.gx.out XR.out (HA.out.mono (Nat.zero_le _)) HM.out (fun i hi => ⟨fun hg => by have := hAb i hi; have := S9.out.cs.out.lt i hg; omega, fun e => by have := hAb i hi; omega, (hAb i hi).2⟩) (S9.out.o.trans ob)),  hid ((o_put (o_put (Only.refl _ wb) (b := xb) 0 (.int .i64 now)) 1 (.slice A' m c')).keep BR.out (by have := HGW.out.2.2; omega))⟩ ?_
          rintro wc ⟨MC,  BC⟩
          have b1 := b_cell BC.out 1
          simp only [List.getElem?_toArray, List.getElem?_cons_zero, List.getElem?_cons_succ] at b1
          clear HA XR BR sb nx e0 e1 y0 y1 w0 w1' NBR BC ob hAb
          go_wp2_with fail
          refine (cs_drop x HI1.out MC.out.cs).mono ?_
          rintro e wd ⟨rfl, H3, o3⟩
          rw [HHS.out]
          have SD := hid (MC.out.fin (H3.out.bound (by omega : k ≤ k + 1)) (fun _ h => .inl h) o3 (by omega))
          clear MC H3 o3
          go_upto_region 28 with (fail)
          have S10 : Hid (∃ now S A c G, CPt w wd cb xb now S (k + 1) A c G) := hid ⟨_, _, _, _, _, SD.out⟩
          clear SD b1 HM HHS
        case' inr.inr.inr.inl =>
          obtain ⟨hnw0, hnw1⟩ := S9.out.cs.out.nowb
          obtain ⟨mx, hmx⟩ : ∃ mx, min (max tt 0) 2199023255552 = mx := ⟨_, rfl⟩
          have hmx0 : 0 ≤ mx ∧ mx ≤ 2199023255552 := by omega
          obtain ⟨at2, hat2⟩ : ∃ at2, mx + now = at2 := ⟨_, rfl⟩
          have hatI : Hid (I64 at2) := hid ⟨by omega, by omega⟩
          go_wp2_with fail
          refine (cs_set x at2 HI1.out hatI.out S9.out.cs (by omega)).mono ?_
          rintro e wa ⟨G', rfl, H3, hG3, o3⟩
          obtain ⟨S2, hS2⟩ : ∃ S2, ins (min at2 1099511627776, x) (rem x S) = S2 := ⟨_, rfl⟩
          rw [hS2] at H3
          have hS2l : S2.length ≤ k + 1 := by rw [← hS2, ins_len]; have h := List.length_filter_le (fun d : Int × Int => decide (d.2 ≠ x)) S; have := HNN.out; unfold rem; omega
          have HS2 := hid hS2
          have XR := hid (o3.keep HXR.out S9.out.gx.out.1)
          have BR := hid (o3.keep B9.out (fun hg => by have := HGW.out.1 _ hg; omega))
          have HD3 := hid (S9.out.od.out.keep o3 (fun i hi => (S9.out.sep.out i hi).1))
          have O3 := S9.out.o.trans' o3 (fun i hi => .inr (S9.out.cs.out.new i hi))
          have hg3 : Hid (¬ G' xb ∧ ∀ i, ab A i → ¬ G' i) := hid ⟨fun hg => (hG3.out _ hg).elim S9.out.gx.out.1 (fun hg => by omega), fun i hi hg => (hG3.out i hg).elim (S9.out.sep.out i hi).1 (fun hg => by have := (S9.out.sep.out i hi).2.2; omega)⟩
          clear x0 x1 y0 y1 b0 b1 b2 o3 hS2 hG3
          have x0 := b_cell XR.out 0
          have x1 := b_cell XR.out 1
          have b1 := b_cell BR.out 1
          have b2 := b_cell BR.out 2
          simp only [List.getElem?_toArray, List.getElem?_cons_zero, List.getElem?_cons_succ] at x0 x1 b1 b2
          go_wp2_with fail
          refine (rset_any now S x at2 A n c 0 _ HNN.out HD3.out (by omega)).mono ?_
          rintro e wb ⟨A', m, c', rfl, hm, hA, ob⟩
          rw [HS2.out] at hm hA
          unfold RC
          have HM := hid hm
          have H4 := hid (H3.out.same ob)
          have XR4 := hid (ob.keep XR.out (fun h => h))
          have O4 := O3.trans ob
          have hAb : ∀ i, ab A' i → wa.heap.size ≤ i ∧ i < wb.heap.size := fun i hi => hA.out.blk i hi
          have hxa := b_lt XR.out
          have hGlt := hid H3.out.lt
          clear hm x0 x1 b1 b2 XR BR H3 HD3 ob O3
          have y0 := b_free XR4.out 0
          have y1 := b_free XR4.out 1
          have w0 := b_cell XR4.out 0
          have w1' := b_cell XR4.out 1
          simp only [List.getElem?_toArray, List.getElem?_cons_zero, List.getElem?_cons_succ] at w0 w1'
          go_upto_region 28 with (fail)
          refine fold (F := fun W' => Hid (CPt w W' cb xb now S2 (k + 1) A' c' G')) (hid ((CP2.put H4.out ⟨hg3.out.1, S9.out.gx.out.2⟩ XR4.out (hA.out.mono (Nat.zero_le _)) HM.out (fun i hi => ⟨fun hg => by have := hAb i hi; have := hGlt.out i hg; omega, fun e => by have := hAb i hi; omega, (hAb i hi).2⟩) O4).eq hS2l)) ?_
          rintro wc SC
          have S10 : Hid (∃ now S A c G, CPt w wc cb xb now S (k + 1) A c G) := hid ⟨_, _, _, _, _, SC.out⟩
          clear SC H4 XR4 O4 hAb hxa hGlt y0 y1 w0 w1' hA hg3 HS2 HM
        case' inr.inr.inr.inr =>
          obtain ⟨hn1, hn2, hn3, hn4⟩ := hkn
          have hb1' : (kind == 1) = false := by simp [hn1]
          have hb2' : (kind == 2) = false := by simp [hn2]
          have hb3' : (kind == 3) = false := by simp [hn3]
          have hb4' : (kind == 4) = false := by simp [hn4]
          go_upto_region 28 with (fail)
          have S10 : Hid (∃ now S A c G, CPt w w9 cb xb now S (k + 1) A c G) := hid ⟨now, S, A, c, G, ⟨hid (S9.out.cs.out.bound (by omega)), S9.out.xr, S9.out.od, S9.out.sep, S9.out.gx, by have := S9.out.len; omega, S9.out.o⟩⟩
        all_goals
          try clear x0 x1 y0 y1 b0 b1 b2
          clear S9 B9 HXR hxl HNN hbl HGW
          obtain ⟨now, S, A, c, G, SS⟩ := S10.out
          have HS := hid SS
          clear SS S10
          go_wp2_with fail
          refine (cs_next HS.out.cs (by omega)).mono ?_
          rintro e w20 ⟨rfl, H20, o20⟩
          have HS2 := hid (HS.out.clock H20.out (fun _ h => .inl h) o20)
          clear HS H20 o20
          have cc := HS2.out.cs.out.cell0
          obtain ⟨n, hnn⟩ : ∃ n, S.length = n := ⟨_, rfl⟩
          have hxr := HS2.out.xr.out
          rw [hnn] at hxr
          have x0 := b_cell hxr 0
          have x1 := b_cell hxr 1
          simp only [List.getElem?_toArray, List.getElem?_cons_zero, List.getElem?_cons_succ] at x0 x1
          clear hxr
          cases S with
          | nil =>
            obtain rfl : n = 0 := hnn.symm
            have e1 : nextAt [] = 0 := rfl
            have e2 : (!([] : List (Int × Int)).isEmpty) = false := rfl
            rw [e1, e2]
            clear e1 e2 hnn
            go_upto_region 29 with (fail)
            go_quiet ((go_at_call 17; exact Calls.quiet_of_same ((now_cell cb now _ (by exact cc)).mono fun _ _ ⟨h1, h2⟩ => ⟨h1, h2.symm⟩)))
            go_wp2_with fail
            go_roundw
            case rel => exact ⟨k + 1, now, [], A, c, G, by omega, by simp, hid (HS2.out.same0 ((Only.refl _ _).drewN _))⟩
            case measure => simp [intOf]; omega
          | cons d S' =>
            obtain ⟨ga, rfl, hga, _, d1⟩ := HS2.out.od.out.at_ 0 (by simp)
            have e1 : nextAt (d :: S') = d.1 := rfl
            have e2 : (!(d :: S').isEmpty) = true := rfl
            rw [e1, e2]
            have hpos : 0 < n := by rw [← hnn]; simp
            rw [Nat.zero_mul, Nat.zero_add] at d1
            obtain ⟨t0, ht0⟩ : ∃ t0, d.1 = t0 := ⟨_, rfl⟩
            have e3 : ((d :: S').getD 0 (0, 0)).1 = t0 := ht0
            rw [e3] at d1
            rw [ht0]
            have hnz : ¬ n = 0 := by omega
            clear e1 e2 e3 ht0 hnn
            go_upto_region 29 with (fail)
            go_quiet ((go_at_call 17; exact Calls.quiet_of_same ((now_cell cb now _ (by exact cc)).mono fun _ _ ⟨h1, h2⟩ => ⟨h1, h2.symm⟩)))
            go_wp2_with fail
            go_roundw
            case rel => exact ⟨k + 1, now, d :: S', _, c, G, by omega, by simp, hid (HS2.out.same0 ((Only.refl _ _).drewN _))⟩
            case measure => simp [intOf]; omega
      · obtain rfl : k = len := by omega
        go_wp2_with fail
        go_ret
        exact ⟨rfl, HS.out.o.to_below (fun _ h => h.elim)⟩
  · go_wp2_with fail
    go_ret
    exact ⟨rfl, O2.to_below (fun _ h => h.elim)⟩
end Go.Proofs.Ytjfhghimldjcfaa
