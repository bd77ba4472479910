/-
  Slices of bytes that are read: their cuts. Encode of the package chunk.
-/
import Derived.Test.YtnijoifiliaebaaGreatDoorM1
namespace Go.Proofs.YtnijoifiliaebaaGreatDoor
open Go.RowKit

theorem size5 (W : World) : (sizeOf 5).run Tryz.prog W = .ok 1 W := by simp [go_sem]
theorem elem24 : Tryz.prog.elem 24 = 5 := by kernel_rfl
theorem und24 : Tryz.prog.underlying 24 = some (.slice (Tryz.prog.elem 24)) := by rw [elem24]; exact Tryz.underlying24
def dropA (A : Option Addr) (cap k : Nat) : Option Addr := if cap = k then A else A.map (·.add k)
theorem run_h (A : Option Addr) (n c k : Nat) (h : k ≤ c) (W : World) :
    (Instr.slice 24 (.slice A n c) none (some (.int .i64 (k : Int))) none).run Tryz.prog W = .ok (.slice A k c) W := by
  rw [run_slice_h (P := Tryz.prog) W 24 A n c und24 .i64 (k : Int) (by omega) (by omega), elem24, size5]
  simp only [Result.andThen, sliced, Int.toNat_natCast, Nat.sub_zero, Nat.zero_mul]
  cases A <;> simp [Addr.add_zero']
theorem run_h' (A : Option Addr) (n c k : Nat) (h : k ≤ c) (W : World) :
    (Instr.sliceAt 24 (.slice A n c) none (some (.int .i64 (k : Int))) none).run Tryz.prog W = .ok (.slice A k c) W := by
  rw [run_sliceAt_slice W 24 _ _ _ _ und24]
  exact run_h A n c k h W
theorem run_l (A : Option Addr) (n c k : Nat) (h : k ≤ n) (W : World) :
    (Instr.slice 24 (.slice A n c) (some (.int .i64 (k : Int))) none none).run Tryz.prog W = .ok (.slice (dropA A c k) (n - k) (c - k)) W := by
  rw [run_slice_l (P := Tryz.prog) W 24 A n c und24 .i64 (k : Int) (by omega) (by omega), elem24, size5]
  simp only [Result.andThen, sliced, dropA, Int.toNat_natCast, Nat.mul_one]
theorem run_l' (A : Option Addr) (n c k : Nat) (h : k ≤ n) (W : World) :
    (Instr.sliceAt 24 (.slice A n c) (some (.int .i64 (k : Int))) none none).run Tryz.prog W = .ok (.slice (dropA A c k) (n - k) (c - k)) W := by
  rw [run_sliceAt_slice W 24 _ _ _ _ und24]
  exact run_l A n c k h W
theorem run_lh (A : Option Addr) (n c k m : Nat) (h : k ≤ m) (hm : m ≤ c) (W : World) :
    (Instr.slice 24 (.slice A n c) (some (.int .i64 (k : Int))) (some (.int .i64 (m : Int))) none).run Tryz.prog W = .ok (.slice (dropA A c k) (m - k) (c - k)) W := by
  rw [run_slice_lh (P := Tryz.prog) W 24 A n c und24 .i64 .i64 (k : Int) (m : Int) (by omega) (by omega) (by omega), elem24, size5]
  simp only [Result.andThen, sliced, dropA, Int.toNat_natCast, Nat.mul_one]
theorem run_lh' (A : Option Addr) (n c k m : Nat) (h : k ≤ m) (hm : m ≤ c) (W : World) :
    (Instr.sliceAt 24 (.slice A n c) (some (.int .i64 (k : Int))) (some (.int .i64 (m : Int))) none).run Tryz.prog W = .ok (.slice (dropA A c k) (m - k) (c - k)) W := by
  rw [run_sliceAt_slice W 24 _ _ _ _ und24]
  exact run_lh A n c k m h hm W

/-- The slice of n bytes at A holds l. -/
structure Bs (w : World) (A : Option Addr) (n c : Nat) (l : List UInt8) : Prop where
  len : l.length = n
  le : n ≤ c
  row : Row w A (bV l)
  nil : A = none → n = 0 ∧ c = 0
section
variable {w w' : World} {A : Option Addr} {n c : Nat} {l : List UInt8}
theorem Bs.same (h : Bs w A n c l) (o : Only (fun _ => False) w w') : Bs w' A n c l := ⟨h.len, h.le, h.row.same o, h.nil⟩
theorem Bs.keep {S : Nat → Prop} (h : Bs w A n c l) (o : Only S w w') (hs : ∀ i, ab A i → ¬ S i) : Bs w' A n c l := ⟨h.len, h.le, h.row.keep o hs, h.nil⟩
theorem Bs.take (h : Bs w A n c l) (k : Nat) (hk : k ≤ n) : Bs w A k c (l.take k) :=
  ⟨by rw [List.length_take, h.len]; omega, Nat.le_trans hk h.le, by have := h.row.take k; simpa [bV, List.map_take] using this, fun e => by obtain ⟨h1, h2⟩ := h.nil e; omega⟩
theorem Bs.drop (h : Bs w A n c l) (k : Nat) (hk : k ≤ n) : Bs w (dropA A c k) (n - k) (c - k) (l.drop k) := by
  have hle := h.le
  refine ⟨by rw [List.length_drop, h.len], by omega, fun hne => ?_, fun e => ?_⟩
  · have hkn : k < n := by
      rcases Nat.lt_or_ge k n with h1 | h1
      · exact h1
      · exfalso
        apply hne
        rw [List.drop_of_length_le (by rw [h.len]; exact h1)]
        rfl
    obtain ⟨b, off, rfl, _⟩ := h.row (by intro e; have := congrArg List.length e; rw [bV_len, h.len] at this; simp at this; omega)
    have := h.row.drop k
    have e1 : dropA (some ⟨b, off, none⟩) c k = some ⟨b, off + k, none⟩ := by
      unfold dropA
      rw [if_neg (by omega)]
      simp [Go.WideShapes.add_plain]
    rw [e1]
    have e2 : bV (l.drop k) = (bV l).drop k := by simp [bV, List.map_drop]
    rw [e2] at hne ⊢
    exact this hne
  · have : A = none := by
      unfold dropA at e
      split at e
      · exact e
      · simpa using e
    obtain ⟨h1, h2⟩ := h.nil this
    omega
theorem Bs.at_ (h : Bs w A n c l) (k : Nat) (p : UInt8) (hp : l[k]? = some p) : ∃ b off, A = some ⟨b, off, none⟩ ∧ b < w.heap.size ∧ w.cell? ⟨b, off + k, none⟩ = some (.int .u8 (p.toNat : Int)) := byt_at h.row k p hp
theorem Bs.empty (w : World) : Bs w none 0 0 [] := ⟨rfl, Nat.le_refl _, Row.nil _ _, fun _ => ⟨rfl, rfl⟩⟩
theorem OwnB.bs {base : Nat} (h : OwnB w base A c l) : Bs w A l.length c l := ⟨rfl, h.cap.1, h.row, fun e => by
  subst e
  rcases h.2 with ⟨_, h1, h2⟩ | ⟨g, cur, fz, h1, _⟩
  · exact ⟨h1, h2⟩
  · cases h1⟩
theorem OwnB.bs' {base n : Nat} (h : OwnB w base A c l) (hn : l.length = n) : Bs w A n c l := by subst hn; exact h.bs
end

def lenOfV : Value → Nat
  | .slice _ n _ => n
  | _ => 0
@[simp] theorem lenOfV_slice (A : Option Addr) (n c : Nat) : lenOfV (.slice A n c) = n := rfl
/-- The pieces of at most so many bytes. -/
def chunks (size : Nat) : Nat → List UInt8 → List (List UInt8)
  | 0, _ => []
  | f + 1, l => if l.isEmpty then [] else l.take size :: chunks size f (l.drop size)
def chunkB (p : List UInt8) : List UInt8 := hexT p.length ++ [13, 10] ++ p ++ [13, 10]
def encF (size : Nat) (l : List UInt8) : List UInt8 := (chunks size l.length l).flatMap chunkB ++ [48, 13, 10, 13, 10]
theorem chunks_nil (size f : Nat) : chunks size f [] = [] := by cases f <;> rfl
theorem chunks_fuel (size : Nat) (hs : 0 < size) : ∀ (f f' : Nat) (l : List UInt8), l.length ≤ f → l.length ≤ f' → chunks size f l = chunks size f' l
  | 0, f', l, h, _ => by
    obtain rfl : l = [] := List.eq_nil_of_length_eq_zero (by omega)
    rw [chunks_nil, chunks_nil]
  | f + 1, 0, l, _, h => by
    obtain rfl : l = [] := List.eq_nil_of_length_eq_zero (by omega)
    rw [chunks_nil, chunks_nil]
  | f + 1, f' + 1, l, h, h' => by
    unfold chunks
    cases hl : l.isEmpty
    · have : 0 < l.length := by cases l with
        | nil => simp at hl
        | cons => simp
      rw [chunks_fuel size hs f f' (l.drop size) (by simp; omega) (by simp; omega)]
    · rfl
theorem chunks_step (size : Nat) (hs : 0 < size) (l : List UInt8) (hl : 0 < l.length) : chunks size l.length l = l.take size :: chunks size (l.drop size).length (l.drop size) := by
  obtain ⟨f, hf⟩ : ∃ f, l.length = f + 1 := ⟨l.length - 1, by omega⟩
  rw [hf]
  conv => lhs; unfold chunks
  have : l.isEmpty = false := by cases l with
    | nil => simp at hl
    | cons => rfl
  rw [this]
  simp only [Bool.false_eq_true, if_false]
  rw [chunks_fuel size hs f _ (l.drop size) (by simp; omega) (Nat.le_refl _)]
theorem hexT_len : ∀ (k n : Nat), n ≤ k → (hexT n).length ≤ n + 1
  | 0, n, h => by
    rw [hexT, if_pos (by omega)]
    simp
  | k + 1, n, h => by
    rw [hexT]
    split
    · simp
    · have := hexT_len k (n / 16) (by omega)
      rw [List.length_append]
      simp only [List.length_cons, List.length_nil]
      omega

theorem chunkB_len (p : List UInt8) (h : 0 < p.length) : (chunkB p).length ≤ 7 * p.length := by
  have := hexT_len _ p.length (Nat.le_refl _)
  simp only [chunkB, List.length_append, List.length_cons, List.length_nil]
  omega

set_option maxRecDepth 100000 in
set_option maxHeartbeats 2000000 in
theorem encode_any (size : Nat) (body : List UInt8) (A : Option Addr) (n c : Nat) (w : World) (hG : Gl w) (hB : Bs w A n c body) (hn : n ≤ 100000) (hs0 : 1 ≤ size) (hs1 : size ≤ 9223372036854775807) :
    Calls Tryz.prog 14 #[.slice A n c, .int .i64 (size : Int)] w fun e w' => ∃ A' c', e = .returned (.slice A' (encF size body).length c') ∧ OwnB w' w.heap.size A' c' (encF size body) ∧ Only (fun _ => False) w w' := by
  obtain ⟨X, hX⟩ : ∃ X, (chunks size body.length body).flatMap chunkB = X := ⟨_, rfl⟩
  have hE : encF size body = X ++ [48, 13, 10, 13, 10] := by unfold encF; rw [hX]
  rw [hE]
  replace hE := hid hE
  replace hX := hid hX
  have hmx : max (size : Int) 1 = size := by omega
  go_enter Tryz.func14, Tryz.ntmps14
  go_wp2_with fail
  go_loopw [0, 5] (fun bv ov wr => ∃ (m d k : Nat) (A' C : Option Addr) (c' : Nat) (r pre : List UInt8), bv = .slice C m d ∧ ov = .slice A' k c' ∧ m ≤ n ∧ Bs w C m d r ∧ Hid (pre.length = k) ∧ Hid (k + 7 * m ≤ 7 * n) ∧ Hid (pre ++ (chunks size r.length r).flatMap chunkB = X) ∧ OwnB wr w.heap.size A' c' pre ∧ Only (fun _ => False) w wr) (fun bv _ _ => lenOfV bv)
  case atStart => exact ⟨n, c, 0, none, A, 0, body, [], rfl, rfl, Nat.le_refl _, hB, rfl, hid (by omega), hX, Own.nil _ _ _ _, Only.refl _ _⟩
  case round =>
    obtain ⟨m, d, k, A', C, c', r, pre, rfl, rfl, hmn, HB, hk, hkm, hpre, HO, O⟩ := hrel
    have hrl := HB.len
    by_cases hm0 : 0 < m
    · obtain ⟨q, hq1, hq2, hq3, hq4, hq5⟩ : ∃ q : Nat, min (size : Int) (m : Int) = (q : Int) ∧ 0 < q ∧ q ≤ m ∧ r.take size = r.take q ∧ r.drop size = r.drop q := by
        by_cases h : (m : Int) < (size : Int)
        · exact ⟨m, by omega, hm0, Nat.le_refl _, by rw [List.take_of_length_le (by omega), List.take_of_length_le (by omega)], by rw [List.drop_of_length_le (by omega), List.drop_of_length_le (by omega)]⟩
        · exact ⟨size, by omega, hs0, by omega, rfl, rfl⟩
      have hst := chunks_step size hs0 r (by omega)
      rw [hq4, hq5] at hst
      have hcb := chunkB_len (r.take q) (by rw [List.length_take]; omega)
      have htl : (r.take q).length = q := by rw [List.length_take]; omega
      have hpre' : Hid (((pre ++ (hexT q ++ [13, 10])) ++ r.take q ++ [13, 10]) ++ (chunks size (r.drop q).length (r.drop q)).flatMap chunkB = X) := hid (by
        have hcbe : chunkB (r.take q) = hexT q ++ [13, 10] ++ r.take q ++ [13, 10] := by unfold chunkB; rw [htl]
        rw [← hpre.out, hst, List.flatMap_cons, hcbe]
        simp only [List.append_assoc])
      rw [htl] at hcb
      have hql := hexT_len _ q (Nat.le_refl _)
      obtain ⟨z, hz⟩ : ∃ z, (hexT q).length + 2 = z := ⟨_, rfl⟩
      have hzz : z + q + 2 ≤ 7 * q := by
        unfold chunkB at hcb
        simp only [List.length_append, htl, List.length_cons, List.length_nil] at hcb
        omega
      have hkm' : Hid (k + z + q + 2 + 7 * (m - q) ≤ 7 * n) := hid (by have := hkm.out; omega)
      have hkz : k + z + q + 2 ≤ 800000 := by have := hkm.out; omega
      obtain ⟨s, hs⟩ : ∃ s, B (hexT q) ++ ⟨#[13, 10]⟩ = s := ⟨_, rfl⟩
      have hsd : s.data.toList = hexT q ++ [13, 10] := by rw [← hs]; simp [ByteArray.data_append]
      have hss : s.size = z := by rw [← hs, ← hz, ByteArray.size_append]; rfl
      have p1 : ∀ w, (Op.stringOp .add (B (hexT q)) ⟨#[13, 10]⟩).run Tryz.prog w = .ok (.string s) w := fun w => by
        rw [← hs]
        exact run_string_add_sum w _ _ (by rw [B_size]; show _ + 2 ≤ _; omega)
      have htake := hid (HB.take q hq3)
      have hdrop := hid (HB.drop q hq3)
      have hd := HB.le
      have hfin : Hid ((pre ++ s.data.toList ++ r.take q).length = k + z + q) := hid (by
        rw [List.length_append, List.length_append, htl, hk.out, hsd, List.length_append]
        simp only [List.length_cons, List.length_nil]
        omega)
      have hfin0 : Hid ((pre ++ s.data.toList).length = k + z) := hid (by
        rw [List.length_append, hk.out, hsd, List.length_append]
        simp only [List.length_cons, List.length_nil]
        omega)
      have sl1 := run_h C m d q (by omega)
      have sl1' := run_h' C m d q (by omega)
      have sl2 := run_l C m d q hq3
      have sl2' := run_l' C m d q hq3
      clear hst hq4 hq5 hcb hql hz hs htl hrl HB
      replace hsd := hid hsd
      replace hpre := hid hpre
      have hbk := hid (Own.blk HO)
      have HOw := HO
      clear HO
      replace HOw := hid HOw
      have hG1 := hid (hG.same O)
      have hO := hid O
      clear O
      go_wp2_with fail
      refine (hexText_any q (by omega) wr hG1.out).mono ?_
      rintro e w1 ⟨rfl, O1⟩
      have HO1 := hid (Own.same HOw.out O1)
      have O01 := hid (hO.out.trans O1)
      clear O1
      go_wp2_with (first
        | (at_builtin; refine app_bs rfl _ _ rfl w.heap.size k c' A' pre s hk.out rfl rfl HO1.out O01.out.size (by omega) ?_; intro A3 c3 w3 h3 h3' o3; have O3 := hid (O01.out.trans' o3 (fun i hi => .inr (hbk.out i hi).1)); rw [hss])
        | (at_builtin; refine app_bb rfl _ _ rfl w.heap.size (k + z) c3 q d A3 C _ (r.take q) hfin0.out htake.out.len rfl rfl h3.out (htake.out.same O3.out).row htake.out.nil O3.out.size (by omega) ?_; intro A4 c4 w4 h4 h4' o4; have O4 := hid (O3.out.trans' o4 (fun i hi => .inr (h3.out.blk i hi).1)))
        | (at_builtin; refine app_bs rfl _ _ rfl w.heap.size (k + z + q) c4 A4 _ ⟨#[13, 10]⟩ hfin.out rfl rfl h4.out O4.out.size (by show _ + 2 ≤ _; omega) ?_; intro A5 c5 w5 h5 h5' o5; have O5 := hid (O4.out.trans' o5 (fun i hi => .inr (h4.out.blk i hi).1)))
        | fail)
      go_roundw
      case rel =>
        have e5 : pre ++ s.data.toList ++ r.take q ++ [13, 10] = (pre ++ (hexT q ++ [13, 10])) ++ r.take q ++ [13, 10] := by rw [hsd.out]
        refine ⟨m - q, d - q, k + z + q + 2, A5, _, c5, r.drop q, _, rfl, rfl, by omega, hdrop.out, ?_, hkm', hpre', ?_, O5.out⟩
        · rw [← e5, List.length_append, hfin.out]; rfl
        · rw [← e5]; exact h5.out
      case measure => simp; omega
    · have hm0' : m = 0 := by omega
      subst hm0'
      have hr0 : r = [] := List.eq_nil_of_length_eq_zero hrl
      have hpX : Hid (pre = X) := hid (by rw [← hpre.out, hr0]; simp [chunks])
      rw [hpX.out] at HO hk
      have hkb := hkm.out
      replace HO := hid HO
      have hOs := O.size
      go_upto_region 9 with (fail)
      go_wp2_with (first | (at_builtin; refine app_bs rfl _ _ rfl w.heap.size k c' A' X ⟨#[48, 13, 10, 13, 10]⟩ hk.out rfl rfl HO.out hOs (by show _ + 5 ≤ _; omega) ?_; intro A3 c3 w3 h3 h3' o3) | fail)
      have O3 := O.trans' o3 (fun i hi => .inr (HO.out.blk i hi).1)
      go_ret
      exact ⟨A3, c3, by rw [hk.out]; rfl, h3.out, O3⟩
end Go.Proofs.YtnijoifiliaebaaGreatDoor
