/-
  WholeScrubs: slices of slices of fields; the walk.
-/
import Derived.Test.YtafljoiblfhioaaGreatDoorSao
import Derived.Test.YtafljoiblfhioaaGreatDoorSai
namespace Go.Proofs.YtafljoiblfhioaaGreatDoor
open Go.RowKit

theorem size39 (W : World) : (sizeOf 39).run Tryz.prog W = .ok 2 W := by simp [go_sem]
theorem elem25 : Tryz.prog.elem 25 = 39 := by kernel_rfl
theorem und25 : Tryz.prog.underlying 25 = some (.slice (Tryz.prog.elem 25)) := by rw [elem25]; exact Tryz.underlying25
def dropR (A : Option Addr) (cap k : Nat) : Option Addr := if cap = k then A else A.map (·.add (k * 2))
theorem runf_h' (A : Option Addr) (n c k : Nat) (h : k ≤ c) (W : World) :
    (Instr.sliceAt 25 (.slice A n c) none (some (.int .i64 (k : Int))) none).run Tryz.prog W = .ok (.slice A k c) W := by
  rw [run_sliceAt_slice W 25 _ _ _ _ und25]
  rw [run_slice_h (P := Tryz.prog) W 25 A n c und25 .i64 (k : Int) (by omega) (by omega), elem25, size39]
  simp only [Result.andThen, sliced, Int.toNat_natCast, Nat.sub_zero, Nat.zero_mul]
  cases A <;> simp [Addr.add_zero']
theorem runf_l' (A : Option Addr) (n c k : Nat) (h : k ≤ n) (W : World) :
    (Instr.sliceAt 25 (.slice A n c) (some (.int .i64 (k : Int))) none none).run Tryz.prog W = .ok (.slice (dropR A c k) (n - k) (c - k)) W := by
  rw [run_sliceAt_slice W 25 _ _ _ _ und25]
  rw [run_slice_l (P := Tryz.prog) W 25 A n c und25 .i64 (k : Int) (by omega) (by omega), elem25, size39]
  simp only [Result.andThen, sliced, dropR, Int.toNat_natCast]
theorem fV_drop : ∀ (l : List FD) (k : Nat), fV (l.drop k) = (fV l).drop (k * 2)
  | [], k => by simp [fV]
  | p :: t, 0 => rfl
  | p :: t, k + 1 => by
    rw [List.drop_succ_cons, fV_drop t k, show (k + 1) * 2 = k * 2 + 1 + 1 by omega]
    rfl
theorem Row.restF {w : World} {A : Option Addr} {l : List FD} (h : Row w A (fV l)) (c k : Nat) (hk : l.length ≤ c) : Row w (dropR A c k) (fV (l.drop k)) := by
  intro hne
  have hlt : k < l.length := by
    rcases Nat.lt_or_ge k l.length with h | h
    · exact h
    · rw [List.drop_eq_nil_of_le h] at hne
      exact absurd rfl hne
  obtain ⟨b, off, rfl, hb, hc⟩ := h (by
    intro h0
    rw [fV_drop, h0] at hne
    simp at hne)
  refine ⟨b, off + k * 2, ?_, hb, fun j u hu => ?_⟩
  · unfold dropR
    rw [if_neg (by omega), Option.map_some, Go.WideShapes.add_plain]
  · rw [fV_drop, List.getElem?_drop] at hu
    rw [Nat.add_assoc]
    exact hc _ _ hu
theorem Row.takeF {w : World} {A : Option Addr} {l : List FD} (h : Row w A (fV l)) (k : Nat) : Row w A (fV (l.take k)) := by
  have e : fV l = fV (l.take k) ++ fV (l.drop k) := by rw [← fV_app, List.take_append_drop]
  rw [e] at h
  exact h.left
theorem dropR_nil {A : Option Addr} {n c k : Nat} (h : A = none → n = 0 ∧ c = 0) : dropR A c k = none → n - k = 0 ∧ c - k = 0 := by
  intro hd
  cases A with
  | none =>
    obtain ⟨rfl, rfl⟩ := h rfl
    exact ⟨by omega, by omega⟩
  | some a =>
    unfold dropR at hd
    split at hd <;> simp at hd
theorem more_small : ∀ a ∈ moreL, ∀ f ∈ a, f.1.length ≤ 100 ∧ f.2.length ≤ 100 := by decide

set_option maxRecDepth 100000 in
set_option maxHeartbeats 4000000 in
theorem scrubs_walk (A : Option Addr) (n c : Nat) (b : List UInt8) (x : CM) (at_ which : Int) (w : World) (hB : Bs w A n c b) (hA : ∀ i, ab A i → i < w.heap.size) (hX : x.Ok w) (hSn : x.SA = none → x.set.length = 0 ∧ x.sc = 0) (hDn : x.DA = none → x.drop.length = 0)
    (hG : Gl w) :
    Calls Tryz.prog 3 #[.slice A n c, .agg x.row, .int .i64 at_, .int .i64 which] w fun e w' => e = .returned (.bool true) ∧ Only (fun _ => False) w w' := by
  have hchk := fun W (o : Only (fun _ => False) w W) => check_any x W (hX.same o)
  obtain ⟨z, hz⟩ : ∃ z, checkF x.cf = z := ⟨_, rfl⟩
  rw [hz] at hchk
  have hcs : z = 0 → x.set.length ≤ 16 ∧ ∀ f ∈ x.set, keptF f.1 = false ∧ f.1.length ≤ 100 ∧ f.2.length ≤ 1000 := fun h => check_set (c := x.cf) (by rw [hz]; exact h)
  have hcd : z = 0 → x.drop.length ≤ 16 ∧ ∀ s ∈ x.drop, s.length ≤ 100 := fun h => check_drop (c := x.cf) (by rw [hz]; exact h)
  have hT := hX.sets
  have hD := hX.drops
  clear hz hX
  obtain ⟨us, rs, set, drop, U, uc, R, rc, SA, sc, DA, dc, t1, t2, t3, t4⟩ := x
  unfold CM.row at hchk ⊢
  simp only at hchk hcs hcd hT hD hSn hDn ⊢
  obtain ⟨nu, hnu⟩ : ∃ n, us.length = n := ⟨_, rfl⟩
  obtain ⟨nr, hnr⟩ : ∃ n, rs.length = n := ⟨_, rfl⟩
  obtain ⟨ns, hns⟩ : ∃ n, set.length = n := ⟨_, rfl⟩
  obtain ⟨nd, hnd⟩ : ∃ n, drop.length = n := ⟨_, rfl⟩
  rw [hnu, hnr, hns, hnd] at hchk ⊢
  rw [hns] at hcs hSn
  rw [hnd] at hcd hDn
  clear hnu hnr us rs
  replace hns := hid hns
  replace hnd := hid hnd
  replace hcs := hid hcs
  replace hcd := hid hcd
  replace hchk := hid hchk
  replace hSn := hid hSn
  replace hDn := hid hDn
  go_enter Tryz.func3, Tryz.ntmps3
  go_upto_region 1 with (fail)
  have H5 := b_new w (.cells #[.slice U nu uc, .slice R nr rc, .slice SA ns sc, .slice DA nd dc, .int .i64 t1, .int .i64 t2, .int .i64 t3, .int .i64 t4] 28)
  have O1 := (Only.refl (fun _ => False) w).alloc (.cells #[.slice U nu uc, .slice R nr rc, .slice SA ns sc, .slice DA nd dc, .int .i64 t1, .int .i64 t2, .int .i64 t3, .int .i64 t4] 28)
  generalize w.alloc (.cells #[.slice U nu uc, .slice R nr rc, .slice SA ns sc, .slice DA nd dc, .int .i64 t1, .int .i64 t2, .int .i64 t3, .int .i64 t4] 28) = w1 at *
  obtain ⟨g5, hg5⟩ : ∃ g, w.heap.size = g := ⟨_, rfl⟩
  rw [hg5] at H5 ⊢
  replace hg5 := hid hg5
  go_wp2_with fail
  refine (soundScrub_any w1 (hG.same O1)).mono ?_
  rintro e w2 ⟨rfl, O2⟩
  replace H5 := O2.keep H5 (fun h => h)
  replace O2 := O1.trans O2
  clear O1
  go_wp2_with fail
  refine (sound_any w2 (hG.same O2)).mono ?_
  rintro e w3 ⟨rfl, O3⟩
  replace H5 := O3.keep H5 (fun h => h)
  replace O3 := O2.trans O3
  clear O2
  by_cases h3 : 3000 < n
  · have h3i : (3000 : Int) < n := by omega
    go_wp2_with fail
    go_ret
    exact ⟨rfl, O3⟩
  have h3i : ¬ (3000 : Int) < n := by omega
  obtain ⟨b0, b1, b2, b3, b4, b5, b6, b7⟩ := cells8 H5
  go_wp2_with fail
  refine (hchk.out w3 O3).mono ?_
  rintro e w4 ⟨rfl, O4⟩
  replace H5 := O4.keep H5 (fun h => h)
  replace O4 := O3.trans O4
  clear O3 b0 b1 b2 b3 b4 b5 b6 b7 hchk h3i
  by_cases hz : z = 0
  case neg =>
    have hzb : (z != 0) = true := by simpa using hz
    go_wp2_with fail
    go_ret
    exact ⟨rfl, O4⟩
  obtain ⟨hs1, hs2⟩ := hcs.out hz
  obtain ⟨hd1, hd2⟩ := hcd.out hz
  clear hcs hcd
  subst hz
  replace hs2 := hid hs2
  replace hd2 := hid hd2
  have hBn := hB.len
  have hreq := request_any A n c b w4 (hB.same O4) (fun i hi => Nat.lt_of_lt_of_le (hA i hi) O4.size) (by omega) (hG.same O4)
  obtain ⟨hf1, hf2⟩ := req_fine b
  obtain ⟨X, hX⟩ : ∃ X, requestF b = X := ⟨_, rfl⟩
  rw [hX] at hreq hf1 hf2
  clear hX
  obtain ⟨⟨m, t, mi⟩, fs, body, rn, st⟩ := X
  simp only [] at hreq hf1 hf2
  obtain ⟨nf, hnf⟩ : ∃ n, fs.length = n := ⟨_, rfl⟩
  obtain ⟨nb, hnb⟩ : ∃ n, body.length = n := ⟨_, rfl⟩
  rw [hnf, hnb] at hreq
  rw [hnb] at hf2
  replace hnf := hid hnf
  replace hnb := hid hnb
  replace hf1 := hid hf1
  replace hBn := hid hBn
  go_wp2_with fail
  refine hreq.mono ?_
  rintro e w5 ⟨F, cf, D, cd, rfl, HF, HD, O5⟩
  have H5' := O5.keep H5 (fun h => h)
  have O6 := O4.trans O5
  have hFr := hid HF.row
  have hFc : Hid (nf ≤ cf) := hid (by rw [← hnf.out]; exact HF.cap.1)
  have hFn : Hid (F = none → nf = 0 ∧ cf = 0) := hid (fun h => by
    obtain ⟨_, h' | ⟨g, _, _, h', _⟩⟩ := HF
    · exact ⟨by rw [← hnf.out]; exact h'.2.1, h'.2.2⟩
    · rw [h] at h'; cases h')
  have hDr : Bs w5 D nb cd body := OwnB.bs' HD hnb.out
  replace hDr := hid hDr
  clear HF HD O5 H5 hreq O4
  go_upto_region 6 with (fail)
  have OA := (Only.refl (fun _ => False) w5).alloc (.cells #[.string (B m), .string (B t), .int .i64 mi, .slice F nf cf, .slice D nb cd] 33)
  have H9 := b_new w5 (.cells #[.string (B m), .string (B t), .int .i64 mi, .slice F nf cf, .slice D nb cd] 33)
  generalize w5.alloc (.cells #[.string (B m), .string (B t), .int .i64 mi, .slice F nf cf, .slice D nb cd] 33) = w6 at *
  obtain ⟨g9, hg9⟩ : ∃ g, w5.heap.size = g := ⟨_, rfl⟩
  rw [hg9] at H9 ⊢
  clear hg9
  have H5 := OA.keep H5' (fun h => h)
  replace O6 := O6.trans OA
  replace hFr := hid (hFr.out.same OA)
  replace hDr := hid (hDr.out.same OA)
  clear OA H5'
  by_cases hrn : rn = 0
  · have hrn1 : ((rn : Int) == 0) = true := by simp [hrn]
    have hrn2 : (rn : Int) = 0 := by omega
    go_wp2_with fail
    go_ret
    exact ⟨rfl, O6⟩
  have hrn1 : ((rn : Int) == 0) = false := by simp [hrn]
  have hrn2 : ¬ (rn : Int) = 0 := by omega
  have hfn : nf ≤ 40 := by rw [← hnf.out]; exact hf1.out.1
  have hbn : nb ≤ 10000 := by have := hBn.out; omega
  have hsetK : ∀ f ∈ set, keptF f.1 = false := fun f hf => (hs2.out f hf).1
  have hsetS : SmallF set := ⟨by rw [hns.out]; omega, fun f hf => by have := hs2.out f hf; omega⟩
  have hdropS : SmallS drop := ⟨by rw [hnd.out]; omega, fun f hf => by have := hd2.out f hf; omega⟩
  have sr : ∀ (fs' : List FD) (k : Nat) (mn : Int) (AF : Option Addr) (cF : Nat) (AB : Option Addr) (cB : Nat) (W : World), fs'.length = k → Row W AF (fV fs') → SmallF fs' → k ≤ 1000 → Bs W AB nb cB body → Only (fun _ => False) w W →
      Calls Tryz.prog 8 #[.agg #[.string (B m), .string (B t), .int .i64 mn, .slice AF k cF, .slice AB nb cB], .agg #[.slice U nu uc, .slice R nr rc, .slice SA ns sc, .slice DA nd dc, .int .i64 t1, .int .i64 t2, .int .i64 t3, .int .i64 t4], .string ⟨#[104]⟩, .string (B t)] W (fun e w' => ∃ A' c' A2 c2, e = .returned (.agg #[.string (B m), .string (B t), .int .i64 1, .slice A' (scrubF m fs' nb set drop [104]).length c', .slice A2 nb c2]) ∧ OwnF w' W.heap.size A' c' (scrubF m fs' nb set drop [104]) ∧ OwnB w' W.heap.size A2 c2 body ∧ Only (fun _ => False) W w') := by
    intro fs' k mn AF cF AB cB W hk hR hS h48 hBs oW
    have h := sreq_any (B m) (B t) mn fs' AF cF body AB cB U R nu uc nr rc set SA sc drop DA dc t1 t2 t3 t4 ⟨#[104]⟩ (B t) W hR hS (by omega) (by rw [hnb.out]; exact hBs) (by rw [hnb.out]; omega) (hT.same oW) (by rw [hns.out]; exact hSn.out) hsetS (by rw [hns.out]; omega) (hD.same oW) (by rw [hnd.out]; exact hDn.out) hdropS (by rw [hnd.out]; omega) (hG.same oW)
    rw [hnb.out, hns.out, hnd.out, hk] at h
    exact h
  have hL := scrub_small m fs nb set drop [104] 40 (by rw [hnf.out]; omega) (fun p hp => by have := hf1.out.2 p hp; omega) (by rw [hns.out]; omega) (fun p hp => by have := hs2.out p hp; omega) hbn (by decide)
  have htw := scrub_twice m fs nb set drop [104] hsetK
  have hmo := fun i add (ha : add ∈ moreL) (hz : ∀ f ∈ fs, zzF f.1 = false) => scrub_more m fs i nb set drop [104] add ha hz
  have sr1 := sr fs nf mi F cf D cd w6 hnf.out hFr.out hf1.out.small (by omega) hDr.out O6
  obtain ⟨L, hLe⟩ : ∃ L, scrubF m fs nb set drop [104] = L := ⟨_, rfl⟩
  rw [hLe] at hL htw sr1
  simp only [hLe] at hmo
  obtain ⟨nl, hnl⟩ : ∃ n, L.length = n := ⟨_, rfl⟩
  rw [hnl] at hL sr1
  obtain ⟨hL1, hL2⟩ := hL
  have hLS : SmallF L := small_of (k := 58) (by decide) (by omega) hL2
  replace sr := hid sr
  replace hnl := hid hnl
  replace htw := hid htw
  replace hmo := hid hmo
  replace hLS := hid hLS
  clear hLe hL2 hsetK hsetS hdropS hs2 hd2 hD hDn
  replace hT := hid hT
  obtain ⟨b0, b1, b2, b3, b4, b5, b6, b7⟩ := cells8 H5
  obtain ⟨⟨a0, a1, a2, a3, a4⟩, _⟩ := cells5 H9
  replace sr1 := hid sr1
  go_wp2_with fail
  refine sr1.out.mono ?_
  rintro e w7 ⟨A1, c1, D1, d1, rfl, HL1, HB1, O7⟩
  clear sr1 a0 a1 a2 a3 a4 b0 b1 b2 b3 b4 b5 b6 b7
  have hA1 := hid HL1.row
  have hD1 := hid (OwnB.bs' HB1 hnb.out)
  replace H5 := O7.keep H5 (fun h => h)
  replace H9 := O7.keep H9 (fun h => h)
  replace hFr := hid (hFr.out.same O7)
  replace hDr := hid (hDr.out.same O7)
  replace O7 := O6.trans O7
  clear HL1 HB1 O6
  go_upto_region 9 with (fail)
  have OA := (Only.refl (fun _ => False) w7).alloc (.cells #[.string (B m), .string (B t), .int .i64 1, .slice A1 nl c1, .slice D1 nb d1] 33)
  have H12 := b_new w7 (.cells #[.string (B m), .string (B t), .int .i64 1, .slice A1 nl c1, .slice D1 nb d1] 33)
  generalize w7.alloc (.cells #[.string (B m), .string (B t), .int .i64 1, .slice A1 nl c1, .slice D1 nb d1] 33) = w8 at *
  obtain ⟨g12, hg12⟩ : ∃ g, w7.heap.size = g := ⟨_, rfl⟩
  rw [hg12] at H12 ⊢
  clear hg12
  replace H5 := OA.keep H5 (fun h => h)
  replace H9 := OA.keep H9 (fun h => h)
  replace hFr := hid (hFr.out.same OA)
  replace hDr := hid (hDr.out.same OA)
  replace hA1 := hid (hA1.out.same OA)
  replace hD1 := hid (hD1.out.same OA)
  have O8 := O7.trans OA
  clear O7 OA
  obtain ⟨b0, b1, b2, b3, b4, b5, b6, b7⟩ := cells8 H5
  obtain ⟨⟨a0, a1, a2, a3, a4⟩, _⟩ := cells5 H9
  obtain ⟨⟨k0, k1, k2, k3, k4⟩, _⟩ := cells5 H12
  have sr2 := sr.out L nl 1 A1 c1 D1 d1 w8 hnl.out hA1.out hLS.out (by omega) hD1.out O8
  rw [htw.out, hnl.out] at sr2
  replace sr2 := hid sr2
  go_wp2_with fail
  refine sr2.out.mono ?_
  rintro e w9 ⟨A2, c2, D2, d2, rfl, HL2, HB2, O9⟩
  clear sr2 a0 a1 a2 a3 a4 b0 b1 b2 b3 b4 b5 b6 b7 k0 k1 k2 k3 k4 htw
  have hA2 := hid HL2.row
  have hD2 := hid (OwnB.bs' HB2 hnb.out)
  replace H5 := O9.keep H5 (fun h => h)
  replace H9 := O9.keep H9 (fun h => h)
  replace H12 := O9.keep H12 (fun h => h)
  replace hFr := hid (hFr.out.same O9)
  replace hDr := hid (hDr.out.same O9)
  replace hA1 := hid (hA1.out.same O9)
  replace hD1 := hid (hD1.out.same O9)
  replace O9 := O8.trans O9
  clear HL2 HB2 O8
  go_upto_region 10 with (fail)
  have OA := (Only.refl (fun _ => False) w9).alloc (.cells #[.string (B m), .string (B t), .int .i64 1, .slice A2 nl c2, .slice D2 nb d2] 33)
  have H13 := b_new w9 (.cells #[.string (B m), .string (B t), .int .i64 1, .slice A2 nl c2, .slice D2 nb d2] 33)
  generalize w9.alloc (.cells #[.string (B m), .string (B t), .int .i64 1, .slice A2 nl c2, .slice D2 nb d2] 33) = w10 at *
  obtain ⟨g13, hg13⟩ : ∃ g, w9.heap.size = g := ⟨_, rfl⟩
  rw [hg13] at H13 ⊢
  clear hg13
  have sm := same_req (B m) (B t) 1 L body A1 A2 D1 D2 c1 c2 d1 d2 w10 (hA1.out.same OA) (hA2.out.same OA) (by rw [hnl.out]; omega) (by rw [hnb.out]; exact hD1.out.same OA) (by rw [hnb.out]; exact hD2.out.same OA)
  rw [hnl.out, hnb.out] at sm
  replace H5 := OA.keep H5 (fun h => h)
  replace H9 := OA.keep H9 (fun h => h)
  replace H12 := OA.keep H12 (fun h => h)
  replace hFr := hid (hFr.out.same OA)
  replace hDr := hid (hDr.out.same OA)
  replace hA1 := hid (hA1.out.same OA)
  replace hD1 := hid (hD1.out.same OA)
  have O10 := O9.trans OA
  clear O9 OA hA2 hD2
  obtain ⟨⟨k0, k1, k2, k3, k4⟩, _⟩ := cells5 H12
  obtain ⟨⟨l0, l1, l2, l3, l4⟩, _⟩ := cells5 H13
  replace sm := hid sm
  go_wp2_with fail
  refine sm.out.mono ?_
  rintro e w11 ⟨rfl, O11⟩
  clear sm k0 k1 k2 k3 k4 l0 l1 l2 l3 l4 H13
  replace H5 := O11.keep H5 (fun h => h)
  replace H9 := O11.keep H9 (fun h => h)
  replace H12 := O11.keep H12 (fun h => h)
  replace hFr := hid (hFr.out.same O11)
  replace hDr := hid (hDr.out.same O11)
  replace hA1 := hid (hA1.out.same O11)
  replace hD1 := hid (hD1.out.same O11)
  replace O11 := O10.trans O11
  clear O10
  go_upto_region 12 with (fail)
  go_upto_region 13 with (fail)
  obtain ⟨w12, e12, q12, hTab, hgt⟩ := tab_ex w11
  rw [e12]
  clear e12
  obtain ⟨gt, hgt0⟩ : ∃ g, w11.heap.size + 1 + 1 + 1 + 1 + 1 + 1 + 1 + 1 + 1 = g := ⟨_, rfl⟩
  rw [hgt0] at hTab hgt ⊢
  clear hgt0
  replace H5 := q12.keep H5 (fun h => h)
  replace H9 := q12.keep H9 (fun h => h)
  replace H12 := q12.keep H12 (fun h => h)
  replace hFr := hid (hFr.out.same q12)
  replace hDr := hid (hDr.out.same q12)
  replace hA1 := hid (hA1.out.same q12)
  replace hD1 := hid (hD1.out.same q12)
  have O12 := O11.trans q12
  clear O11 q12
  obtain ⟨jw, hjw, hjw1⟩ : ∃ j : Nat, which % 1024 = (j : Int) ∧ j < 1024 := ⟨(which % 1024).toNat, by omega, by omega⟩
  obtain ⟨j, hj, hj9⟩ : ∃ j : Nat, Int.tmod (jw : Int) 9 = (j : Int) ∧ j < 9 := ⟨jw % 9, by rw [Int.tmod_eq_emod_of_nonneg (by omega)]; omega, by omega⟩
  have hj9i : (j : Int) < 9 := by omega
  have hj0i : (0 : Int) ≤ j := by omega
  obtain ⟨ga, ka, add, T1, hadd, T3, T4, T5⟩ := hTab j hj9
  replace hadd := hid hadd
  replace T3 := hid T3
  replace T4 := hid T4
  replace hTab := hid hTab
  go_upto_region 14 with (fail)
  obtain ⟨N, hN⟩ : ∃ N, nf + ns = N := ⟨_, rfl⟩
  have hTs := hid (hT.out.same O12)
  go_cut [90, 91, 92] from 84 to 92 (fun s90 s91 s92 wc => ∃ (Az : Option Addr) (cz : Nat), s90 = .slice Az N cz ∧ s91 = .int .i64 (N : Int) ∧ s92 = .int .i64 0 ∧ Hid (Row wc Az (fV (fs ++ set))) ∧ Only (fun _ => False) w12 wc)
  case first =>
    have OE := ((Only.refl (fun _ => False) w12).alloc (.cells #[] 39)).drew
    have HE := hid (own_empty (Nat.le_refl _) (b_drew (b_new w12 (.cells #[] 39))))
    have hFe := hid (hFr.out.same OE)
    have hle := OE.size
    have r1 := b_cell H9 3
    have r2 := b_cell H5 2
    have r3 := b_cell (b_alloc H9 (.cells #[] 39)) 3
    have r4 := b_cell (b_alloc H5 (.cells #[] 39)) 2
    clear sr hmo hA1 hD1 T1 hLS
    go_region_law (first
      | (refine step_ff rfl _ _ rfl w12.heap.size 0 0 nf cf (some ⟨w12.heap.size, 0, none⟩) F [] fs rfl hnf.out rfl rfl HE.out hFe.out hFn.out hle (by omega) ?_; intro A3 c3 w13 h3 h3' o3; have o3' := OE.trans' o3 (fun i hi => .inr (by obtain ⟨a, ha, e⟩ := hi; cases ha; simp only at e; omega)); have r5 := b_cell (o3'.keep H5 (fun h => h)) 2)
      | (refine step_ff rfl _ _ rfl w12.heap.size nf c3 ns sc A3 SA ([] ++ fs) set (by rw [List.nil_append]; exact hnf.out) hns.out rfl rfl h3.out (hTs.out.same o3') hSn.out o3'.size (by omega) ?_; intro A4 c4 w14 h4 h4' o4; have o4' := o3'.trans' o4 (fun i hi => .inr (h3.out.blk i hi).1)))
    all_goals
      go_wp2_with fail
      go_meet
      exact ⟨A4, c4, by first | rfl | (rw [← hN]; rfl), by first | rfl | (simp [← hN]; done) | (rw [← hN]; rfl), rfl, hid h4.out.row, o4'⟩
  case rest =>
    obtain ⟨Az, cz, rfl, rfl, rfl, hZ, OZ⟩ := hcut
    replace H5 := OZ.keep H5 (fun h => h)
    replace H9 := OZ.keep H9 (fun h => h)
    replace H12 := OZ.keep H12 (fun h => h)
    replace hFr := hid (hFr.out.same OZ)
    replace hDr := hid (hDr.out.same OZ)
    replace hA1 := hid (hA1.out.same OZ)
    replace hD1 := hid (hD1.out.same OZ)
    replace T3 := hid (T3.out.same OZ)
    have OC := O12.trans OZ
    clear OZ O12 hTs T1 hTab hgt
    go_wp2_with fail
    go_loopw [92] (fun iv wr => ∃ k : Nat, k ≤ N ∧ iv = .int .i64 (k : Int) ∧ Hid (∀ i, i < k → ∀ f, (fs ++ set)[i]? = some f → zzF f.1 = false) ∧ Only (fun _ => False) wc wr) (fun iv _ => N - (intOf iv).toNat)
    case atStart => exact ⟨0, by omega, rfl, hid (by omega), Only.refl _ _⟩
    case round =>
      obtain ⟨k, hk, rfl, hz, OR⟩ := hrel
      by_cases hlt : k < N
      · obtain ⟨q, hq⟩ : ∃ q, (fs ++ set)[k]? = some q := ⟨_, List.getElem?_eq_getElem (by rw [List.length_append, hnf.out, hns.out, hN]; exact hlt)⟩
        obtain ⟨bz, oz, rfl, hbz, z0, z1⟩ := fld_at (hZ.out.same OR) k q hq
        have OQ := (Only.refl (fun _ => False) wr).alloc (.cells #[.string (B q.1), .string (B q.2)] 39)
        have HQ := b_new wr (.cells #[.string (B q.1), .string (B q.2)] 39)
        replace hq := hid hq
        go_upto_region 17 with (fail)
        generalize wr.alloc (.cells #[.string (B q.1), .string (B q.2)] 39) = wq at *
        obtain ⟨d0, d1, _, _⟩ := cells2 HQ
        have OQ2 := OR.trans OQ
        clear z0 z1 HQ OQ
        have hbr : (q.1 == ([90, 90, 45, 49] : List UInt8)) = true ∨ ((q.1 == ([90, 90, 45, 49] : List UInt8)) = false ∧ (q.1 == ([122, 122, 45, 49] : List UInt8)) = true) ∨ ((q.1 == ([90, 90, 45, 49] : List UInt8)) = false ∧ (q.1 == ([122, 122, 45, 49] : List UInt8)) = false ∧ (q.1 == ([90, 122, 45, 49] : List UInt8)) = true) ∨ ((q.1 == ([90, 90, 45, 49] : List UInt8)) = false ∧ (q.1 == ([122, 122, 45, 49] : List UInt8)) = false ∧ (q.1 == ([90, 122, 45, 49] : List UInt8)) = false ∧ (q.1 == ([122, 90, 45, 49] : List UInt8)) = true) ∨ ((q.1 == ([90, 90, 45, 49] : List UInt8)) = false ∧ (q.1 == ([122, 122, 45, 49] : List UInt8)) = false ∧ (q.1 == ([90, 122, 45, 49] : List UInt8)) = false ∧ (q.1 == ([122, 90, 45, 49] : List UInt8)) = false) := by
          cases (q.1 == ([90, 90, 45, 49] : List UInt8)) <;> cases (q.1 == ([122, 122, 45, 49] : List UInt8)) <;> cases (q.1 == ([90, 122, 45, 49] : List UInt8)) <;> cases (q.1 == ([122, 90, 45, 49] : List UInt8)) <;> simp
        rcases hbr with h1 | ⟨h1, h2⟩ | ⟨h1, h2, h3⟩ | ⟨h1, h2, h3, h4⟩ | ⟨h1, h2, h3, h4⟩
        case inr.inr.inr.inr =>
          have hzq : zzF q.1 = false := by unfold zzF; rw [h1, h2, h3, h4]; rfl
          have hz' : Hid (∀ i, i < k + 1 → ∀ f, (fs ++ set)[i]? = some f → zzF f.1 = false) := hid (by
            intro i hi f hf
            by_cases hik : i = k
            · subst hik
              rw [hq.out] at hf
              cases hf
              exact hzq
            · exact hz.out i (by omega) f hf)
          clear hzq
          go_wp2_with fail
          go_roundw
          case rel => exact ⟨k + 1, by omega, by simp, hz', OQ2⟩
          case measure => simp [intOf]; omega
        all_goals
          go_wp2_with fail
          go_ret
          exact ⟨rfl, OC.trans OQ2⟩
      · have hall : ∀ f ∈ fs, zzF f.1 = false := fun f hf => by
          obtain ⟨i, hi, rfl⟩ := List.mem_iff_getElem.1 (List.mem_append_left set hf)
          exact hz.out i (by rw [List.length_append, hnf.out, hns.out, hN] at hi; omega) _ (List.getElem?_eq_getElem hi)
        have hni : ¬ (k : Int) < N := by omega
        replace hall := hid hall
        clear hz hZ
        have O20 := OC.trans OR
        replace H5 := OR.keep H5 (fun h => h)
        replace H9 := OR.keep H9 (fun h => h)
        replace H12 := OR.keep H12 (fun h => h)
        replace hFr := hid (hFr.out.same OR)
        replace hDr := hid (hDr.out.same OR)
        replace hA1 := hid (hA1.out.same OR)
        replace hD1 := hid (hD1.out.same OR)
        replace T3 := hid (T3.out.same OR)
        clear OR OC
        obtain ⟨pa, hpa, hpa1⟩ : ∃ j : Nat, at_ % 1024 = (j : Int) ∧ j < 1024 := ⟨(at_ % 1024).toNat, by omega, by omega⟩
        obtain ⟨i, hi, hin⟩ : ∃ i : Nat, Int.tmod (pa : Int) ((nf : Int) + 1) = (i : Int) ∧ i ≤ nf := ⟨pa % (nf + 1), by rw [Int.tmod_eq_emod_of_nonneg (by omega)]; exact (Int.natCast_emod pa (nf + 1)).symm, by have := Nat.mod_lt pa (show 0 < nf + 1 by omega); omega⟩
        obtain ⟨⟨a0, a1, a2, a3, a4⟩, _⟩ := cells5 H9
        go_upto_region 22 with (fail)
        have OA := (Only.refl (fun _ => False) wr).alloc (.cells #[.string (B m), .string (B t), .int .i64 mi, .slice F nf cf, .slice D nb cd] 33)
        have H19 := b_new wr (.cells #[.string (B m), .string (B t), .int .i64 mi, .slice F nf cf, .slice D nb cd] 33)
        have hs19 : wr.heap.size < (wr.alloc (.cells #[.string (B m), .string (B t), .int .i64 mi, .slice F nf cf, .slice D nb cd] 33)).heap.size := by simp
        generalize wr.alloc (.cells #[.string (B m), .string (B t), .int .i64 mi, .slice F nf cf, .slice D nb cd] 33) = w21 at *
        have hl5 := b_lt H5
        have hl9 := b_lt H9
        have hl12 := b_lt H12
        obtain ⟨g19, hg19⟩ : ∃ g, wr.heap.size = g := ⟨_, rfl⟩
        have hwrg : wr.heap.size ≤ g19 := by omega
        rw [hg19] at H19 hs19 hl5 hl9 hl12 ⊢
        clear hg19 a0 a1 a2 a3 a4
        have H5w := hid H5
        have H9w := hid H9
        have H12w := hid H12
        have hA1w := hA1
        have hD1w := hD1
        have hDrw := hDr
        have OAk := hid OA
        have O20k := hid O20
        replace H5 := OA.keep H5 (fun h => h)
        replace H9 := OA.keep H9 (fun h => h)
        replace H12 := OA.keep H12 (fun h => h)
        replace hFr := hid (hFr.out.same OA)
        replace hDr := hid (hDr.out.same OA)
        replace hA1 := hid (hA1.out.same OA)
        replace hD1 := hid (hD1.out.same OA)
        replace T3 := hid (T3.out.same OA)
        have O21 := O20.trans OA
        clear O20 OA
        have hcf : nf ≤ cf := hFc.out
        have x1 := runf_h' F nf cf i (by omega)
        have x2 := runf_l' F nf cf i (by omega)
        obtain ⟨M, hM⟩ : ∃ M, i + ka + (nf - i) = M := ⟨_, rfl⟩
        have hM2 : M ≤ 42 := by omega
        go_cut [] from 123 to 136 (fun wc2 => ∃ (Ax : Option Addr) (cx : Nat), Hid (wc2.heap[g19]? = some (.cells #[.string (B m), .string (B t), .int .i64 mi, .slice Ax M cx, .slice D nb cd] 33 (0, 0))) ∧ Hid (Row wc2 Ax (fV (fs.take i ++ (add ++ fs.drop i)))) ∧ Only (fun k => k = g19) w21 wc2)
        case first =>
          have OE := ((Only.refl (fun _ => False) w21).alloc (.cells #[] 39)).drew
          have HE := hid (own_empty (Nat.le_refl _) (b_drew (b_new w21 (.cells #[] 39))))
          have hFe1 := hid ((hFr.out.takeF i).same OE)
          have hFe2 := hid (hFr.out.restF cf i (by rw [hnf.out]; exact hcf))
          have hFn2 := hid (dropR_nil (k := i) hFn.out)
          have hle := OE.size
          have r1 := b_cell H9 3
          have r2 := b_cell (b_alloc H9 (.cells #[] 39)) 3
          have htl : Hid ((fs.take i).length = i) := hid (by rw [List.length_take, hnf.out]; omega)
          have hdl : Hid ((fs.drop i).length = nf - i) := hid (by rw [List.length_drop, hnf.out])
          clear sr hmo hA1 hD1 hLS
          go_region_law (first
            | (refine step_ff rfl _ _ rfl w21.heap.size 0 0 i cf (some ⟨w21.heap.size, 0, none⟩) F [] (fs.take i) rfl htl.out rfl rfl HE.out hFe1.out (fun h => ⟨by have := hFn.out h; omega, (hFn.out h).2⟩) hle (by omega) ?_; intro A3 c3 w13 h3 h3' o3; have o3' := OE.trans' o3 (fun i hi => .inr (by obtain ⟨a, ha, e⟩ := hi; cases ha; simp only at e; omega)); have r3 := b_cell (o3'.keep H9 (fun h => h)) 3)
            | (refine step_ff rfl _ _ rfl w21.heap.size i c3 ka ka A3 (some ⟨ga, 0, none⟩) ([] ++ fs.take i) add htl.out hadd.out rfl rfl h3.out (T3.out.same o3') (fun h => by cases h) o3'.size (by omega) ?_; intro A4 c4 w14 h4 h4' o4; have o4' := o3'.trans' o4 (fun i hi => .inr (h3.out.blk i hi).1); have r4 := b_cell (o4'.keep H9 (fun h => h)) 3)
            | (refine step_ff rfl _ _ rfl w21.heap.size (i + ka) c4 (nf - i) (cf - i) A4 (dropR F cf i) ([] ++ fs.take i ++ add) (fs.drop i) (by rw [List.length_append, hadd.out]; exact congrArg (· + ka) htl.out) hdl.out rfl rfl h4.out (hFe2.out.same o4') hFn2.out o4'.size (by omega) ?_; intro A5 c5 w15 h5 h5' o5; have o5' := o4'.trans' o5 (fun i hi => .inr (h4.out.blk i hi).1); have H15 := o5'.keep H19 (fun h => h); have r5 := b_cell H15 3; have r6 := b_free H15 3))
          all_goals
            go_wp2_with fail
            have hk5 := h5.out.blk
            have oS := (Only.refl (fun k => k = g19) w15).setCell (p := ⟨g19, 3, none⟩) (.inl rfl) (.slice A5 M c5)
            have hr5 := h5.out.row.keep oS (fun k hk e => by have := (hk5 k hk).1; omega)
            have hl5e : [] ++ fs.take i ++ add ++ fs.drop i = fs.take i ++ (add ++ fs.drop i) := by simp only [List.nil_append, List.append_assoc]
            rw [hl5e] at hr5
            have HS15 := b_set H15 3 (.slice A5 M c5)
            have oS2 := (o5'.mono' (T := fun k => k = g19) (fun i hi => hi.elim)).trans oS
            go_meet
            exact ⟨A5, c5, hid HS15, hid hr5, oS2⟩
        case rest =>
          obtain ⟨Ax, cx, H19x, hRx, OX⟩ := hcut
          have OY := OAk.out.trans' OX (fun k hk => .inr (by omega))
          replace H5 := OY.keep H5w.out (fun h => h)
          replace H9 := OY.keep H9w.out (fun h => h)
          replace H12 := OY.keep H12w.out (fun h => h)
          replace hA1 := hid (hA1w.out.same OY)
          replace hD1 := hid (hD1w.out.same OY)
          replace hDr := hid (hDrw.out.same OY)
          have OW := O20k.out.trans OY
          have hMl : (fs.take i ++ (add ++ fs.drop i)).length = M := by
            rw [List.length_append, List.length_append, List.length_take, List.length_drop, hnf.out, hadd.out, ← hM]
            omega
          have hMs : SmallF (fs.take i ++ (add ++ fs.drop i)) := ⟨by rw [hMl]; omega, fun q hq => by
            rcases List.mem_append.1 hq with hq | hq
            · have := hf1.out.2 q (List.mem_of_mem_take hq); omega
            · rcases List.mem_append.1 hq with hq | hq
              · have := more_small add T4.out q hq; omega
              · have := hf1.out.2 q (List.mem_of_mem_drop hq); omega⟩
          have hS1 := (Only.refl (fun _ => False) wc).drew
          have sr3 := sr.out (fs.take i ++ (add ++ fs.drop i)) M mi Ax cx D cd wc.drew hMl (hRx.out.same hS1) hMs (by omega) (hDr.out.same hS1) (OW.trans hS1)
          rw [hmo.out i add T4.out hall.out, hnl.out] at sr3
          have H19 := H19x.out
          have hlx := b_lt H19
          have hly := b_lt H5
          have hlz := b_lt H9
          have hlu := b_lt H12
          obtain ⟨⟨a0, a1, a2, a3, a4⟩, _⟩ := cells5 H19
          obtain ⟨b0, b1, b2, b3, b4, b5, b6, b7⟩ := cells8 H5
          obtain ⟨⟨_, k1, _, _, _⟩, _⟩ := cells5 H9
          obtain ⟨⟨l0, l1, l2, l3, l4⟩, _⟩ := cells5 H12
          replace a0 := cell_all hlx _ _ a0
          replace a1 := cell_all hlx _ _ a1
          replace a2 := cell_all hlx _ _ a2
          replace a3 := cell_all hlx _ _ a3
          replace a4 := cell_all hlx _ _ a4
          replace b0 := cell_all hly _ _ b0
          replace b1 := cell_all hly _ _ b1
          replace b2 := cell_all hly _ _ b2
          replace b3 := cell_all hly _ _ b3
          replace b4 := cell_all hly _ _ b4
          replace b5 := cell_all hly _ _ b5
          replace b6 := cell_all hly _ _ b6
          replace b7 := cell_all hly _ _ b7
          replace k1 := cell_all hlz _ _ k1
          replace l0 := cell_all hlu _ _ l0
          replace l1 := cell_all hlu _ _ l1
          replace l2 := cell_all hlu _ _ l2
          replace l3 := cell_all hlu _ _ l3
          replace l4 := cell_all hlu _ _ l4
          replace sr3 := hid sr3
          replace hMl := hid hMl
          clear H5 H9 H12 H19 H19x hRx hMs hDr OX hmo sr hall H5w H9w H12w hA1w hD1w hDrw OAk O20k OY O21 x1 x2 hFr hFn hFc T3 T4 hadd
          go_upto_region 23 with (fail)
          go_region_held3 (fun w' => Only (fun _ => False) wc w') (repeat (first | assumption | refine Only.drew ?_))
            (first
              | (go_at_call 8; refine sr3.out.mono ?_; rintro e w30 ⟨A6, c6, D6, d6, rfl, HL6, HB6, o30⟩; have o31 := hS1.trans o30; have hR6 := hid HL6.row; have hD6 := hid (OwnB.bs' HB6 hnb.out); have sm3 := same_req (B m) (B t) 1 L body A6 A1 D6 D1 c6 c1 d6 d1 w30 hR6.out (hA1.out.same o31) (by rw [hnl.out]; omega) (by rw [hnb.out]; exact hD6.out) (by rw [hnb.out]; exact hD1.out.same o31))
              | (go_at_call 9; rw [hnl.out, hnb.out] at sm3; refine sm3.mono ?_; rintro e w31 ⟨rfl, o32⟩; have o33 := o31.trans o32))
          all_goals
            go_wp2_with fail
            go_ret
            exact ⟨rfl, OW.trans o33⟩
end Go.Proofs.YtafljoiblfhioaaGreatDoor
