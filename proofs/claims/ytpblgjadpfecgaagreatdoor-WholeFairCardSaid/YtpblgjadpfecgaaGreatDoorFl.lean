/-
  What is written: Line, RequestLine, write, WriteRequest.
-/
import Derived.Test.YtpblgjadpfecgaaGreatDoorK1
import Derived.Laws.Concat
set_option linter.unusedSimpArgs false
set_option linter.unusedVariables false
namespace Go.Proofs.YtpblgjadpfecgaaGreatDoor
open Go.RowKit

def lineF (p : FD) : List UInt8 := p.1 ++ [58, 32] ++ p.2 ++ [13, 10]
theorem line_any (n v : ByteArray) (hn : n.size ≤ 4294967281) (hv : v.size ≤ 4294967281) (w : World) : Calls Tryz.prog 148 #[.agg #[.string n, .string v]] w fun e w' => e = .returned (.string (B (lineF (n.data.toList, v.data.toList)))) ∧ Only (fun _ => False) w w' := by
  have hs1 : ((n ++ ⟨#[58, 32]⟩ : ByteArray)).size = n.size + 2 := by rw [ByteArray.size_append]; rfl
  have hs2 : ((n ++ ⟨#[58, 32]⟩ ++ v : ByteArray)).size = n.size + 2 + v.size := by rw [ByteArray.size_append, hs1]
  have hr : B (lineF (n.data.toList, v.data.toList)) = n ++ ⟨#[58, 32]⟩ ++ v ++ ⟨#[13, 10]⟩ := by
    unfold lineF
    rw [B_app, B_app, B_app]
  replace hr := hid hr
  go_enter Tryz.func148, Tryz.ntmps148
  go_wp2_with fail
  go_ret
  exact ⟨by rw [hr.out]; rfl, (Only.refl _ w).alloc _⟩

def writeF (first : List UInt8) (fs : List FD) (body : List UInt8) : List UInt8 := first ++ fs.flatMap lineF ++ [13, 10] ++ body
theorem lines_take (fs : List FD) (k : Nat) (p : FD) (hp : fs[k]? = some p) : (fs.take (k + 1)).flatMap lineF = (fs.take k).flatMap lineF ++ lineF p := by
  rw [List.take_add_one, hp]
  simp [List.flatMap_append]
theorem lines_len (fs : List FD) (M : Nat) (h : ∀ p ∈ fs, p.1.length + p.2.length + 4 ≤ M) : (fs.flatMap lineF).length ≤ fs.length * M := by
  induction fs with
  | nil => simp
  | cons p t ih =>
    have h1 := h p (by simp)
    have h3 := ih (fun q hq => h q (by simp [hq]))
    simp only [List.flatMap_cons, List.length_append, List.length_cons, Nat.succ_mul, lineF, List.length_nil] at h3 ⊢
    omega

set_option maxRecDepth 100000 in
set_option maxHeartbeats 1000000 in
theorem write_any (first : ByteArray) (fs : List FD) (body : List UInt8) (A C : Option Addr) (c d : Nat) (w : World) (hf : first.size ≤ 4294967281) (hR : Row w A (fV fs)) (hS : SmallF fs) (h48 : fs.length ≤ 1000)
    (hB : Row w C (bV body)) (hC : C = none → body.length = 0 ∧ d = 0) (hbl : body.length ≤ 4294967281) :
    Calls Tryz.prog 90 #[.string first, .slice A fs.length c, .slice C body.length d] w fun e w' => ∃ A' c', e = .returned (.slice A' (writeF first.data.toList fs body).length c') ∧ OwnB w' w.heap.size A' c' (writeF first.data.toList fs body) ∧ Only (fun _ => False) w w' := by
  have kc := fun w => run_bytes_of_string (P := Tryz.prog) w 9 30 5 first Tryz.underlying9 Tryz.underlying30 Tryz.underlying5
  obtain ⟨n, hnn⟩ : ∃ n, fs.length = n := ⟨_, rfl⟩
  obtain ⟨bl, hbb⟩ : ∃ bl, body.length = bl := ⟨_, rfl⟩
  rw [hnn] at h48 ⊢
  rw [hbb] at hC hbl ⊢
  replace hnn := hid hnn
  replace hbb := hid hbb
  replace hS := hid hS
  replace hC := hid hC
  go_enter Tryz.func90, Tryz.ntmps90
  go_wp2_with fail
  have hcap1 := grownCap_ge w first.size 0 5
  have hcap2 := grownCap_le_maxLen w first.size 0 5 (by unfold maxLen; omega)
  generalize grownCap w first.size 0 5 = cap at hcap1 hcap2 ⊢
  clear kc
  have H0 := own_conv w first w.heap.size cap (Nat.le_refl _) hcap1 hcap2
  have O0 := (Only.refl (fun _ => False) w).alloc (.cells (bytesRow first cap) 5 ((bytesRow first cap).size, (bytesRow first cap).size + 1))
  replace H0 : OwnB ((w.alloc (.cells (bytesRow first cap) 5 ((bytesRow first cap).size, (bytesRow first cap).size + 1))).drew) w.heap.size (some ⟨w.heap.size, 0, none⟩) cap first.data.toList := Own.same H0 ((Only.refl _ _).drew)
  replace O0 := O0.drew
  generalize (w.alloc (.cells (bytesRow first cap) 5 ((bytesRow first cap).size, (bytesRow first cap).size + 1))).drew = w1 at H0 O0 ⊢
  have hw0 := O0.size
  go_loopw [7, 14] (fun ov iv wr => ∃ (k m : Nat) (A' : Option Addr) (c' : Nat), k ≤ n ∧ ov = .slice A' m c' ∧ iv = .int .i64 (k : Int) ∧ Hid ((first.data.toList ++ (fs.take k).flatMap lineF).length = m) ∧ OwnB wr w.heap.size A' c' (first.data.toList ++ (fs.take k).flatMap lineF) ∧ Only (fun _ => False) w wr) (fun _ iv _ => n - (intOf iv).toNat)
  case atStart => exact ⟨0, first.size, _, cap, by omega, rfl, rfl, hid (by simp), by simpa using H0, O0⟩
  case round =>
    clear H0 O0 hw0 hcap1 hcap2
    obtain ⟨k, m, A', c', hk, rfl, rfl, hm, HO, O⟩ := hrel
    have hml : m ≤ 4294967281 + 1000 * 8589934592 := by
      rw [← hm.out, List.length_append]
      have h1 := lines_len (fs.take k) 8589934592 (fun p hp => by have := hS.out.2 p (List.mem_of_mem_take hp); omega)
      have h2 : (fs.take k).length ≤ 1000 := by rw [List.length_take]; omega
      have h3 : first.data.toList.length = first.size := by simp
      have h4 : (fs.take k).length * 8589934592 ≤ 1000 * 8589934592 := Nat.mul_le_mul_right _ h2
      omega
    by_cases hlt : k < n
    · obtain ⟨p, hp⟩ : ∃ p, fs[k]? = some p := ⟨_, List.getElem?_eq_getElem (by rw [hnn.out]; exact hlt)⟩
      obtain ⟨b, off, rfl, hb, c0, c1⟩ := fld_at (hR.same O) k p hp
      have hpm := hS.out.2 p (List.mem_of_getElem? hp)
      have hgt := lines_take fs k p hp
      have hz1 : (B p.1).size ≤ 4294967281 := by simp [ByteArray.size]; omega
      have hz2 : (B p.2).size ≤ 4294967281 := by simp [ByteArray.size]; omega
      have hz3 : (B (lineF p)).size ≤ 8589934600 := by simp [ByteArray.size, lineF]; omega
      replace hpm := hid hpm
      replace hgt := hid hgt
      go_wp2_with fail
      refine (line_any _ _ hz1 hz2 _).mono ?_
      rintro e w2 ⟨rfl, O2'⟩
      rw [show lineF ((B p.1).data.toList, (B p.2).data.toList) = lineF p from rfl]
      have O2 := ((Only.refl (fun _ => False) wr).alloc (.cells #[.string (B p.1), .string (B p.2)] 197)).trans O2'
      clear O2'
      have HO2 := hid (Own.same HO O2)
      have hs2 := Nat.le_trans O.size O2.size
      have hgt' : Hid (first.data.toList ++ (fs.take (k + 1)).flatMap lineF = (first.data.toList ++ (fs.take k).flatMap lineF) ++ (B (lineF p)).data.toList) := hid (by rw [hgt.out, List.append_assoc])
      obtain ⟨q, hq⟩ : ∃ q, B (lineF p) = q := ⟨_, rfl⟩
      rw [hq] at hgt' hz3 ⊢
      clear hq hgt
      go_wp2_with (first | (at_builtin; refine app_bs rfl _ _ rfl w.heap.size m c' A' _ q hm.out rfl rfl HO2.out hs2 (by omega) ?_; intro A3 c3 w3 h3 h3' o3) | fail)
      have hbl := HO2.out.blk
      have O3 := (O.trans O2).trans' o3 (fun i hi => .inr (hbl i hi).1)
      go_roundw
      case rel => exact ⟨k + 1, m + q.size, A3, c3, by omega, rfl, by simp, hid (by rw [hgt'.out, List.length_append, hm.out]; simp), by rw [hgt'.out]; exact h3.out, O3⟩
      case measure => simp [intOf]; omega
    · have hk' : k = n := by omega
      subst hk'
      have hfull : fs.take k = fs := by rw [List.take_of_length_le (by rw [hnn.out]; exact Nat.le_refl _)]
      rw [hfull] at hm HO
      clear hfull
      have hsw := O.size
      replace HO := hid HO
      go_upto_region 7 with (fail)
      have hbk := HO.out.blk
      replace hbk := hid hbk
      replace hB := hid hB
      go_wp2_with (first
        | (at_builtin; refine app_bs rfl _ _ rfl w.heap.size m c' A' _ ⟨#[13, 10]⟩ hm.out rfl rfl HO.out hsw (by show m + 2 ≤ _; omega) ?_; intro A3 c3 w3 h3 h3' o3; have O3 := hid (O.trans' o3 (fun i hi => .inr (hbk.out i hi).1)))
        | (at_builtin; refine app_bb rfl _ _ rfl w.heap.size (m + 2) c3 bl d A3 C _ body (by rw [List.length_append, hm.out]; rfl) hbb.out rfl rfl h3.out (hB.out.same O3.out) hC.out O3.out.size (by omega) ?_; intro A4 c4 w4 h4 h4' o4)
        | fail)
      have O4 := O3.out.trans' o4 (fun i hi => .inr (h3.out.blk i hi).1)
      have hlen : (writeF first.data.toList fs body).length = m + 2 + bl := by
        unfold writeF
        rw [List.length_append, List.length_append, hm.out, hbb.out]
        rfl
      go_ret
      exact ⟨A4, c4, by rw [hlen]; rfl, h4.out, O4⟩
end Go.Proofs.YtpblgjadpfecgaaGreatDoor
