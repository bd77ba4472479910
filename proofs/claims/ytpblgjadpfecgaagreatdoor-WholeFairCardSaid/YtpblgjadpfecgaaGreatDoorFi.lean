/-
  A record of the log is written.
-/
import Derived.Test.YtpblgjadpfecgaaGreatDoorFg
set_option linter.unusedSimpArgs false
set_option linter.unusedVariables false
namespace Go.Proofs.YtpblgjadpfecgaaGreatDoor
open Go.RowKit

theorem dec_short (n : Nat) : (Lib.decDigits n).length ≤ n + 1 := by
  induction n using Nat.strongRecOn with
  | _ n ih =>
    rw [Lib.decDigits]
    split
    · simp
    · rw [List.length_append]
      have := ih (n / 10) (by omega)
      simp only [List.length_cons, List.length_nil]
      omega
/-- The words of a record of a request that was told 404. -/
def entP (seq conn : Nat) (m t : List UInt8) : List (List UInt8) := [Lib.decDigits seq, [48], [48], Lib.decDigits conn, m, t, [52, 48, 52], [48], [52, 53]]
def jn (k : Nat) : Nat := if k ≤ 4 then k else k + 2
/-- Its line. -/
def entB (seq conn : Nat) (m t : List UInt8) : List UInt8 := Lib.join (entP seq conn m t) [32] ++ [10]
theorem entB_len (seq conn : Nat) (m t : List UInt8) (hq : seq ≤ 1000000) (hc : conn ≤ 1000000) (hm : m.length ≤ 20) (ht : t.length ≤ 512) : (Lib.join (entP seq conn m t) [32]).length ≤ 3000000 := by
  have h1 := dec_short seq
  have h2 := dec_short conn
  unfold entP
  rw [Lib.join_cons]
  simp only [Lib.joinTail, List.map_cons, List.map_nil, List.flatten_cons, List.flatten_nil, List.length_append, List.length_cons, List.length_nil]
  omega
theorem mapB (l : List (List UInt8)) : (l.map B).map (·.data.toList) = l := by
  rw [List.map_map]
  show l.map (fun x => x) = l
  simp
theorem fin7 {k : Nat} (h : k < 7) : k = 0 ∨ k = 1 ∨ k = 2 ∨ k = 3 ∨ k = 4 ∨ k = 5 ∨ k = 6 := by omega

set_option maxRecDepth 100000 in
set_option maxHeartbeats 8000000 in
theorem ewrite_404 (seq conn : Nat) (m t : ByteArray) (w : World) (hq : 1 ≤ seq ∧ seq ≤ 1000000) (hc : 1 ≤ conn ∧ conn ≤ 1000000) (hm : token m.data.toList = true ∧ m.size ≤ 20) (ht : target t.data.toList = true ∧ t.size ≤ 512) (hG : Gl w) :
    Calls Tryz.prog 54 #[entV seq 0 0 conn m t 404 0 45] w fun e w' => ∃ A c, e = .returned (.tuple #[.slice A (entB seq conn m.data.toList t.data.toList).length c, .int .i64 0]) ∧ OwnB w' w.heap.size A c (entB seq conn m.data.toList t.data.toList) ∧ Only (fun _ => False) w w' := by
  have hnum := fun W => numbers_any seq 0 0 conn m t 404 0 45 W
  have hright := fun W => right_404 seq conn m t W (by omega) (by omega) hm ht
  have i0 := num_at0 seq 0 0 conn 404 0 45
  have i1 := num_at1 seq 0 0 conn 404 0 45
  have i2 := num_at2 seq 0 0 conn 404 0 45
  have i3 := num_at3 seq 0 0 conn 404 0 45
  have i4 := num_at4 seq 0 0 conn 404 0 45
  have i5 := num_at5 seq 0 0 conn 404 0 45
  have i6 := num_at6 seq 0 0 conn 404 0 45
  unfold numV at i0 i1 i2 i3 i4 i5 i6
  unfold entV numV at hnum
  unfold entV at hright ⊢
  have d404 : Lib.decDigits 404 = [52, 48, 52] := by decide +kernel
  have d45 : Lib.decDigits 45 = [52, 53] := by decide +kernel
  have d0 : Lib.decDigits 0 = [48] := by decide +kernel
  have T0 := fun (W : World) (h : Gl W) => text_any 0 (by omega) W h
  have T404 := fun (W : World) (h : Gl W) => text_any 404 (by omega) W h
  have T45 := fun (W : World) (h : Gl W) => text_any 45 (by omega) W h
  have Tseq := fun (W : World) (h : Gl W) => text_any seq (by omega) W h
  have Tconn := fun (W : World) (h : Gl W) => text_any conn (by omega) W h
  rw [d0] at T0
  rw [d404] at T404
  rw [d45] at T45
  clear d0 d404 d45
  obtain ⟨wb, hwb⟩ : ∃ wb, w.alloc (.cells #[.int .i64 seq, .int .i64 0, .int .i64 0, .int .i64 conn, .string m, .string t, .int .i64 404, .int .i64 0, .int .i64 45] 43) = wb := ⟨_, rfl⟩
  have O0 : Only (fun _ => False) w wb := by rw [← hwb]; exact (Only.refl _ w).alloc _
  have hb : wb.heap[w.heap.size]? = some (.cells #[.int .i64 seq, .int .i64 0, .int .i64 0, .int .i64 conn, .string m, .string t, .int .i64 404, .int .i64 0, .int .i64 45] 43) := by rw [← hwb]; exact b_new _ _
  obtain ⟨g, hg⟩ : ∃ g, w.heap.size = g := ⟨_, rfl⟩
  rw [hg] at hb
  have hgl := b_lt hb
  have c0 := b_cell hb 0
  have c1 := b_cell hb 1
  have c2 := b_cell hb 2
  have c3 := b_cell hb 3
  have c4 := b_cell hb 4
  have c5 := b_cell hb 5
  have c6 := b_cell hb 6
  have c7 := b_cell hb 7
  have c8 := b_cell hb 8
  simp only [List.getElem?_toArray, List.getElem?_cons_zero, List.getElem?_cons_succ] at c0 c1 c2 c3 c4 c5 c6 c7 c8
  have kc := fun (s : ByteArray) w => run_bytes_of_string (P := Tryz.prog) w 9 30 5 s Tryz.underlying9 Tryz.underlying30 Tryz.underlying5
  replace kc := hid kc
  replace hnum := hid hnum
  replace hright := hid hright
  replace T0 := hid T0
  replace T404 := hid T404
  replace T45 := hid T45
  replace Tseq := hid Tseq
  replace Tconn := hid Tconn
  go_enter Tryz.func54, Tryz.ntmps54
  go_upto_region 1 with (fail)
  clear hwb
  replace hg := hid hg
  go_wp2_with fail
  refine (hright.out wb).mono ?_
  rintro e w1 ⟨rfl, O1⟩
  replace c0 := (O1.cell (p := ⟨g, 0, none⟩) hgl (fun h => h)).trans c0
  replace c1 := (O1.cell (p := ⟨g, 1, none⟩) hgl (fun h => h)).trans c1
  replace c2 := (O1.cell (p := ⟨g, 2, none⟩) hgl (fun h => h)).trans c2
  replace c3 := (O1.cell (p := ⟨g, 3, none⟩) hgl (fun h => h)).trans c3
  replace c4 := (O1.cell (p := ⟨g, 4, none⟩) hgl (fun h => h)).trans c4
  replace c5 := (O1.cell (p := ⟨g, 5, none⟩) hgl (fun h => h)).trans c5
  replace c6 := (O1.cell (p := ⟨g, 6, none⟩) hgl (fun h => h)).trans c6
  replace c7 := (O1.cell (p := ⟨g, 7, none⟩) hgl (fun h => h)).trans c7
  replace c8 := (O1.cell (p := ⟨g, 8, none⟩) hgl (fun h => h)).trans c8
  replace hgl := Nat.lt_of_lt_of_le hgl O1.size
  replace O1 := O0.trans O1
  clear hb O0
  go_wp2_with fail
  refine (hnum.out w1).mono ?_
  rintro e w2 ⟨rfl, O2⟩
  replace c4 := (O2.cell (p := ⟨g, 4, none⟩) hgl (fun h => h)).trans c4
  replace c5 := (O2.cell (p := ⟨g, 5, none⟩) hgl (fun h => h)).trans c5
  replace hgl := Nat.lt_of_lt_of_le hgl O2.size
  replace O2 := O1.trans O2
  clear c0 c1 c2 c3 c6 c7 c8 O1 hnum hright wb w1
  obtain ⟨b2, hb2⟩ : ∃ b2, w2.heap.size = b2 := ⟨_, rfl⟩
  have hgl0 := hgl
  rw [hb2] at hgl
  have hb6 : 6 ≤ b2 := by have := hG.size; have := O2.size; omega
  have hb0 : w.heap.size ≤ b2 := by have := O2.size; omega
  replace hb2 := hid hb2
  go_wp2_with fail
  go_loopw [4, 12] (fun ov iv wr => ∃ (k : Nat) (A : Option Addr) (c : Nat), k ≤ 7 ∧ ov = .slice A (jn k) c ∧ iv = .int .i64 (k : Int) ∧ OwnS wr b2 A c ((entP seq conn m.data.toList t.data.toList).take (jn k)) ∧ Only (fun _ => False) w2 wr) (fun _ iv _ => 7 - (intOf iv).toNat)
  case atStart => exact ⟨0, none, 0, by omega, rfl, rfl, Own.nil _ _ _ _, Only.refl _ _⟩
  case round =>
    obtain ⟨k, A, c, hk, rfl, rfl, HO, O⟩ := hrel
    replace c4 := (O.cell (p := ⟨g, 4, none⟩) hgl0 (fun h => h)).trans c4
    replace c5 := (O.cell (p := ⟨g, 5, none⟩) hgl0 (fun h => h)).trans c5
    have hOs : b2 ≤ wr.heap.size := by have := O.size; have := hb2.out; omega
    have hGr := hG.same (O2.trans O)
    by_cases hlt : k < 7
    · rcases fin7 hlt with rfl | rfl | rfl | rfl | rfl | rfl | rfl
      · replace HO := hid (show Own wr b2 9 1 A 0 c (sV ((entP seq conn m.data.toList t.data.toList).take 0)) from HO)
        show Code.wp _ _ _ _ _
        go_wp2_with fail
        refine (Tseq.out _ (hGr.same ((Only.refl _ wr).alloc _))).mono ?_
        rintro e w3 ⟨rfl, O3⟩
        have P3 := ((Only.refl (fun _ => False) wr).alloc _).trans O3
        have HO3 := hid (Own.same HO.out P3)
        have hs3 : b2 ≤ w3.heap.size := by have := P3.size; omega
        clear O3
        go_wp2_with (first | (at_builtin; refine app_s rfl _ _ rfl b2 0 c A ((entP seq conn m.data.toList t.data.toList).take 0) (B (Lib.decDigits seq)) rfl rfl rfl HO3.out hs3 (by omega) ?_; intro A3 c3 w4 h3 h3' o3) | fail)
        have hbl := HO3.out.blk
        go_roundw
        case rel => exact ⟨1, A3, c3, by omega, rfl, rfl, h3.out, (O.trans P3).trans' o3 (fun i hi => .inr (by have := (hbl i hi).1; have := hb2.out; omega))⟩
        case measure => simp [intOf]
      · replace HO := hid (show Own wr b2 9 1 A 1 c (sV ((entP seq conn m.data.toList t.data.toList).take 1)) from HO)
        show Code.wp _ _ _ _ _
        go_wp2_with fail
        refine (T0.out _ (hGr.same ((Only.refl _ wr).alloc _))).mono ?_
        rintro e w3 ⟨rfl, O3⟩
        have P3 := ((Only.refl (fun _ => False) wr).alloc _).trans O3
        have HO3 := hid (Own.same HO.out P3)
        have hs3 : b2 ≤ w3.heap.size := by have := P3.size; omega
        clear O3
        go_wp2_with (first | (at_builtin; refine app_s rfl _ _ rfl b2 1 c A ((entP seq conn m.data.toList t.data.toList).take 1) (B ([48])) rfl rfl rfl HO3.out hs3 (by omega) ?_; intro A3 c3 w4 h3 h3' o3) | fail)
        have hbl := HO3.out.blk
        go_roundw
        case rel => exact ⟨2, A3, c3, by omega, rfl, rfl, h3.out, (O.trans P3).trans' o3 (fun i hi => .inr (by have := (hbl i hi).1; have := hb2.out; omega))⟩
        case measure => simp [intOf]
      · replace HO := hid (show Own wr b2 9 1 A 2 c (sV ((entP seq conn m.data.toList t.data.toList).take 2)) from HO)
        show Code.wp _ _ _ _ _
        go_wp2_with fail
        refine (T0.out _ (hGr.same ((Only.refl _ wr).alloc _))).mono ?_
        rintro e w3 ⟨rfl, O3⟩
        have P3 := ((Only.refl (fun _ => False) wr).alloc _).trans O3
        have HO3 := hid (Own.same HO.out P3)
        have hs3 : b2 ≤ w3.heap.size := by have := P3.size; omega
        clear O3
        go_wp2_with (first | (at_builtin; refine app_s rfl _ _ rfl b2 2 c A ((entP seq conn m.data.toList t.data.toList).take 2) (B ([48])) rfl rfl rfl HO3.out hs3 (by omega) ?_; intro A3 c3 w4 h3 h3' o3) | fail)
        have hbl := HO3.out.blk
        go_roundw
        case rel => exact ⟨3, A3, c3, by omega, rfl, rfl, h3.out, (O.trans P3).trans' o3 (fun i hi => .inr (by have := (hbl i hi).1; have := hb2.out; omega))⟩
        case measure => simp [intOf]
      · replace HO := hid (show Own wr b2 9 1 A 3 c (sV ((entP seq conn m.data.toList t.data.toList).take 3)) from HO)
        show Code.wp _ _ _ _ _
        go_wp2_with fail
        refine (Tconn.out _ (hGr.same ((Only.refl _ wr).alloc _))).mono ?_
        rintro e w3 ⟨rfl, O3⟩
        have P3 := ((Only.refl (fun _ => False) wr).alloc _).trans O3
        have HO3 := hid (Own.same HO.out P3)
        have hs3 : b2 ≤ w3.heap.size := by have := P3.size; omega
        clear O3
        go_wp2_with (first | (at_builtin; refine app_s rfl _ _ rfl b2 3 c A ((entP seq conn m.data.toList t.data.toList).take 3) (B (Lib.decDigits conn)) rfl rfl rfl HO3.out hs3 (by omega) ?_; intro A3 c3 w4 h3 h3' o3) | fail)
        have hbl := HO3.out.blk
        go_roundw
        case rel => exact ⟨4, A3, c3, by omega, rfl, rfl, h3.out, (O.trans P3).trans' o3 (fun i hi => .inr (by have := (hbl i hi).1; have := hb2.out; omega))⟩
        case measure => simp [intOf]
      · replace HO := hid (show Own wr b2 9 1 A 4 c (sV ((entP seq conn m.data.toList t.data.toList).take 4)) from HO)
        show Code.wp _ _ _ _ _
        have d4 : ∀ o, (wr.alloc o).cell? ⟨g, 4, none⟩ = some (.string m) := fun o => (((Only.refl (fun _ => False) wr).alloc o).cell (p := ⟨g, 4, none⟩) (Nat.lt_of_lt_of_le hgl hOs) (fun h => h)).trans c4
        have d5 : ∀ o, (wr.alloc o).cell? ⟨g, 5, none⟩ = some (.string t) := fun o => (((Only.refl (fun _ => False) wr).alloc o).cell (p := ⟨g, 5, none⟩) (Nat.lt_of_lt_of_le hgl hOs) (fun h => h)).trans c5
        go_wp2_with (first | (at_builtin; refine app_ss rfl _ _ rfl b2 4 c 2 2 A (some ⟨wr.heap.size + 1, 0, none⟩) ((entP seq conn m.data.toList t.data.toList).take 4) [m.data.toList, t.data.toList] rfl rfl rfl rfl (Own.same HO.out (((Only.refl _ wr).alloc _).alloc _)) (row_of (l := sV [m.data.toList, t.data.toList]) (two_new wr _ _)) (by intro h; cases h) (by simp; omega) (by omega) ?_; intro A2 c2 w3 h2 h2' o2; have n0 : w3.cell? ⟨wr.heap.size, 0, none⟩ = some (.int .i64 404) := b_cell (o2.keep (b_alloc (b_new wr (.cells #[.int .i64 404, .int .i64 0, .int .i64 999] 184)) _) (fun hA => Nat.lt_irrefl _ (HO.out.blk _ hA).2)) 0) | fail)
        have hbl2 := HO.out.blk
        have Q3 := (((Only.refl (ab A) wr).alloc _).alloc _).trans o2
        have hG3 := hGr.hold Q3 (fun i hi hA => by have := (hbl2 i hA).1; omega)
        have O3 := O.trans' Q3 (fun i hi => .inr (by have := (hbl2 i hi).1; have := hb2.out; omega))
        have hs3 : b2 ≤ w3.heap.size := by have := Q3.size; omega
        clear Q3 o2
        refine (T404.out w3 hG3).mono ?_
        rintro e w4 ⟨rfl, O4⟩
        have HO4 := hid (Own.same (show Own w3 b2 9 1 A2 6 c2 (sV ((entP seq conn m.data.toList t.data.toList).take 6)) from h2.out) O4)
        have hs4 : b2 ≤ w4.heap.size := by have := O4.size; omega
        have O4' := O3.trans O4
        clear O4 O3 h2
        go_wp2_with (first | (at_builtin; refine app_s rfl _ _ rfl b2 6 c2 A2 ((entP seq conn m.data.toList t.data.toList).take 6) (B ([52, 48, 52])) rfl rfl rfl HO4.out hs4 (by omega) ?_; intro A3 c3 w5 h3 h3' o3) | fail)
        have hbl := HO4.out.blk
        go_roundw
        case rel => exact ⟨5, A3, c3, by omega, rfl, rfl, h3.out, O4'.trans' o3 (fun i hi => .inr (by have := (hbl i hi).1; have := hb2.out; omega))⟩
        case measure => simp [intOf]
      · replace HO := hid (show Own wr b2 9 1 A 7 c (sV ((entP seq conn m.data.toList t.data.toList).take 7)) from HO)
        show Code.wp _ _ _ _ _
        go_wp2_with fail
        refine (T0.out _ (hGr.same ((Only.refl _ wr).alloc _))).mono ?_
        rintro e w3 ⟨rfl, O3⟩
        have P3 := ((Only.refl (fun _ => False) wr).alloc _).trans O3
        have HO3 := hid (Own.same HO.out P3)
        have hs3 : b2 ≤ w3.heap.size := by have := P3.size; omega
        clear O3
        go_wp2_with (first | (at_builtin; refine app_s rfl _ _ rfl b2 7 c A ((entP seq conn m.data.toList t.data.toList).take 7) (B ([48])) rfl rfl rfl HO3.out hs3 (by omega) ?_; intro A3 c3 w4 h3 h3' o3) | fail)
        have hbl := HO3.out.blk
        go_roundw
        case rel => exact ⟨6, A3, c3, by omega, rfl, rfl, h3.out, (O.trans P3).trans' o3 (fun i hi => .inr (by have := (hbl i hi).1; have := hb2.out; omega))⟩
        case measure => simp [intOf]
      · replace HO := hid (show Own wr b2 9 1 A 8 c (sV ((entP seq conn m.data.toList t.data.toList).take 8)) from HO)
        show Code.wp _ _ _ _ _
        go_wp2_with fail
        refine (T45.out _ (hGr.same ((Only.refl _ wr).alloc _))).mono ?_
        rintro e w3 ⟨rfl, O3⟩
        have P3 := ((Only.refl (fun _ => False) wr).alloc _).trans O3
        have HO3 := hid (Own.same HO.out P3)
        have hs3 : b2 ≤ w3.heap.size := by have := P3.size; omega
        clear O3
        go_wp2_with (first | (at_builtin; refine app_s rfl _ _ rfl b2 8 c A ((entP seq conn m.data.toList t.data.toList).take 8) (B ([52, 53])) rfl rfl rfl HO3.out hs3 (by omega) ?_; intro A3 c3 w4 h3 h3' o3) | fail)
        have hbl := HO3.out.blk
        go_roundw
        case rel => exact ⟨7, A3, c3, by omega, rfl, rfl, h3.out, (O.trans P3).trans' o3 (fun i hi => .inr (by have := (hbl i hi).1; have := hb2.out; omega))⟩
        case measure => simp [intOf]
    · obtain rfl : k = 7 := by omega
      replace HO : Own wr b2 9 1 A 9 c (sV (entP seq conn m.data.toList t.data.toList)) := HO
      obtain ⟨ga, rfl, hga1, hga2⟩ := HO.some_of (by omega)
      have hcap := HO.cap.1
      have hrow := HO.row
      have hlen := entB_len seq conn m.data.toList t.data.toList hq.2 hc.2 (by simpa using hm.2) (by simpa using ht.2)
      have hbytes : entB seq conn m.data.toList t.data.toList = (B (Lib.join (entP seq conn m.data.toList t.data.toList) [32]) ++ ⟨#[10]⟩ : ByteArray).data.toList := by
        unfold entB
        rw [show (⟨#[10]⟩ : ByteArray) = B [10] from rfl, ← B_app]
      have hj := Tryz.strings_Join ga 0 c ((entP seq conn m.data.toList t.data.toList).map B) ⟨#[32]⟩ wr (fun j x hx => by
        obtain ⟨y, hy, rfl⟩ := List.getElem?_eq_some_iff.1 hx |> fun ⟨h1, h2⟩ => (⟨_, List.getElem?_eq_getElem (by simpa using h1), by simpa using h2.symm⟩ : ∃ y, (entP seq conn m.data.toList t.data.toList)[j]? = some y ∧ x = B y)
        obtain ⟨b, off, e, _, hc⟩ := str_at hrow j _ hy
        cases e
        exact hc) hga2 (by simp [entP]) (by simpa [entP] using hcap) (by
          rw [mapB]
          show (Lib.join _ [32]).length ≤ _
          omega)
      rw [mapB] at hj
      have e9 : ((entP seq conn m.data.toList t.data.toList).map B).length = 9 := rfl
      rw [e9] at hj
      replace hj : Calls Tryz.prog 95 #[.slice (some ⟨ga, 0, none⟩) 9 c, .string ⟨#[32]⟩] wr fun e w' => e = .returned (.string (B (Lib.join (entP seq conn m.data.toList t.data.toList) [32]))) ∧ Below wr.heap.size wr w' := hj
      have hqs : (B (Lib.join (entP seq conn m.data.toList t.data.toList) [32])).size ≤ 3000000 := hlen
      obtain ⟨q, hqd⟩ : ∃ q, B (Lib.join (entP seq conn m.data.toList t.data.toList) [32]) = q := ⟨_, rfl⟩
      rw [hqd] at hj hqs hbytes
      have hq2 : (q ++ ⟨#[10]⟩ : ByteArray).size = q.size + 1 := by rw [ByteArray.size_append]; rfl
      clear hlen e9 hqd hrow HO hcap i0 i1 i2 i3 i4 i5 i6 T0 T404 T45 Tseq Tconn
      have kq := kc.out (q ++ ⟨#[10]⟩)
      replace hbytes := hid hbytes
      replace hj := hid hj
      have hQ := O2.trans O
      show Code.wp _ _ _ _ _
      go_wp2_with fail
      refine hj.out.mono ?_
      rintro e w3 ⟨rfl, O3⟩
      replace O3 : Only (fun _ => False) wr w3 := Only.of_below O3
      go_wp2_with fail
      have hcap1 := grownCap_ge w3 (q.size + 1) 0 5
      have hcap2 := grownCap_le_maxLen w3 (q.size + 1) 0 5 (by unfold maxLen; omega)
      generalize grownCap w3 (q.size + 1) 0 5 = cap at hcap1 hcap2 ⊢
      have hs3 := O3.size
      have hO := own_conv w3 (q ++ ⟨#[10]⟩) w.heap.size cap (by omega) (by omega) hcap2
      go_returns
      refine ⟨some ⟨w3.heap.size, 0, none⟩, cap, ?_, ?_, ?_⟩
      · rw [hbytes.out]
        simp only [Array.length_toList]
        show _ = Ending.returned (.tuple #[.slice _ (q ++ ⟨#[10]⟩ : ByteArray).size _, _])
        rw [hq2]
        rfl
      · rw [hbytes.out]
        exact Own.same hO ((Only.refl _ _).drew)
      · exact ((hQ.trans O3).alloc _).drew
end Go.Proofs.YtpblgjadpfecgaaGreatDoor
