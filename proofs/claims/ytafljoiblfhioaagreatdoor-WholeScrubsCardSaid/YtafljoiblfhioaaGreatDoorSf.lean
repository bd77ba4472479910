/-
  sameReq at requests that are the same; Fits of the package route.
-/
import Derived.Test.YtafljoiblfhioaaGreatDoorSe
namespace Go.Proofs.YtafljoiblfhioaaGreatDoor
open Go.RowKit

set_option maxRecDepth 100000 in
set_option maxHeartbeats 1000000 in
theorem fits_any (p t : ByteArray) (hp : p.size < 4294967281) (ht : t.size < 4294967281) (w : World) (hG : Gl w) :
    Calls Tryz.prog 30 #[.string p, .string t] w fun e w' => e = .returned (.bool (fitsF p.data.toList t.data.toList)) ∧ ∃ k, w' = w.drewN k := by
  obtain ⟨m, hm⟩ := hG.max
  have hF : fitsF p.data.toList t.data.toList = (Lib.hasPrefix (Lib.cut t.data.toList [63]).1 p.data.toList && ((Lib.trimPrefix (Lib.cut t.data.toList [63]).1 p.data.toList).isEmpty || (Lib.hasSuffix p.data.toList [47] || (Lib.trimPrefix (Lib.cut t.data.toList [63]).1 p.data.toList).head? == some 47))) := rfl
  replace hF := hid hF
  go_enter Tryz.func30, Tryz.ntmps30
  go_wp2_with fail
  refine (Tryz.strings_Cut t ⟨#[63]⟩ m w ht hm).mono ?_
  rintro e w1 ⟨rfl, k1, rfl⟩
  rw [show (⟨#[63]⟩ : ByteArray).data.toList = [63] from rfl]
  obtain ⟨w1, hw1⟩ : ∃ x, w.drewN k1 = x := ⟨_, rfl⟩
  rw [hw1]
  have O1 : ∃ k, w1 = w.drewN k := ⟨k1, hw1.symm⟩
  clear hw1
  replace O1 := hid O1
  generalize (Lib.cut t.data.toList [63]).1 = x at *
  generalize (Lib.cut t.data.toList [63]).2.1 = x2 at *
  generalize (Lib.cut t.data.toList [63]).2.2 = x3 at *
  go_wp2_with fail
  refine (Tryz.strings_CutPrefix ⟨x.toArray⟩ p w1).mono ?_
  rintro e w2 ⟨rfl, rfl⟩
  rw [show (⟨x.toArray⟩ : ByteArray).data.toList = x from rfl]
  generalize Lib.trimPrefix x p.data.toList = r at *
  generalize Lib.hasPrefix x p.data.toList = b0 at *
  cases b0
  · go_wp2_with fail
    go_ret
    exact ⟨by rw [hF.out]; rfl, O1.out⟩
  · cases r with
    | nil =>
      go_wp2_with fail
      go_ret
      exact ⟨by rw [hF.out]; rfl, O1.out⟩
    | cons c r =>
      go_wp2_with fail
      refine (Tryz.strings_HasSuffix p ⟨#[47]⟩ w2 (by omega)).mono ?_
      rintro e w3 ⟨rfl, rfl⟩
      rw [show (⟨#[47]⟩ : ByteArray).data.toList = [47] from rfl]
      generalize Lib.hasSuffix p.data.toList [47] = b2 at *
      cases b2
      · go_wp2_with fail
        go_ret
        refine ⟨?_, O1.out⟩
        rw [hF.out]
        show Ending.returned (Value.bool ((c.toNat : Int) == 47)) = Ending.returned (Value.bool (some c == some 47))
        refine rb ?_
        simp only [beq_iff_eq, Option.some.injEq]
        constructor
        · intro h
          exact UInt8.toNat_inj.1 (by rw [show (47 : UInt8).toNat = 47 from rfl]; omega)
        · rintro rfl
          rfl
      · go_wp2_with fail
        go_ret
        exact ⟨by rw [hF.out]; rfl, O1.out⟩
theorem fld_neq (a b : ByteArray) (w : World) : (binOp .neq 39 (.agg #[.string a, .string b]) (.agg #[.string a, .string b])).run Tryz.prog w = .ok (.bool false) w := by
  have hS : Tryz.prog.underlying 39 = some (.struct (Tryz.prog.fieldsOf 39)) := by kernel_rfl
  have hp : Tryz.prog.stoodInHeld 39 = false := by kernel_rfl
  have u3 := Tryz.underlying9
  have a3 := Tryz.isAgg9
  have z3 := Tryz.sizeOf9
  rw [run_neq_struct, show (10000 : Nat) = 9999 + 1 from rfl, run_equalIn_agg w 9999 39 _ _ hS hp]
  simp only [Program.fieldsOf, Tryz.underlying39]
  go_simp
theorem two (w : World) (a b : Obj) : ∃ w2, (w.alloc a).alloc b = w2 ∧ w2.heap[w.heap.size]? = some a ∧ w2.heap[w.heap.size + 1]? = some b ∧ Only (fun _ => False) w w2 := by
  refine ⟨_, rfl, b_alloc (b_new w a) b, ?_, ((Only.refl _ w).alloc a).alloc b⟩
  have h := b_new (w.alloc a) b
  rw [show (w.alloc a).heap.size = w.heap.size + 1 by simp] at h
  exact h
set_option maxRecDepth 100000 in
set_option maxHeartbeats 1000000 in
theorem same_req (m t : ByteArray) (mi : Int) (fs : List FD) (body : List UInt8) (A1 A2 B1 B2 : Option Addr) (c1 c2 d1 d2 : Nat) (w : World) (h1 : Row w A1 (fV fs)) (h2 : Row w A2 (fV fs)) (h48 : fs.length ≤ 1000000) (h3 : Bs w B1 body.length d1 body) (h4 : Bs w B2 body.length d2 body) :
    Calls Tryz.prog 9 #[.agg #[.string m, .string t, .int .i64 mi, .slice A1 fs.length c1, .slice B1 body.length d1], .agg #[.string m, .string t, .int .i64 mi, .slice A2 fs.length c2, .slice B2 body.length d2]] w fun e w' => e = .returned (.bool true) ∧ Only (fun _ => False) w w' := by
  go_enter Tryz.func9, Tryz.ntmps9
  go_upto_region 1 with (fail)
  obtain ⟨w2, e2, H0, H1, O2⟩ := two w (.cells #[.string m, .string t, .int .i64 mi, .slice A1 fs.length c1, .slice B1 body.length d1] 33) (.cells #[.string m, .string t, .int .i64 mi, .slice A2 fs.length c2, .slice B2 body.length d2] 33)
  rw [e2]
  clear e2
  replace h1 := h1.same O2
  replace h2 := h2.same O2
  have k3 := (h3.same O2).str
  have k4 := (h4.same O2).str
  obtain ⟨⟨a0, a1, a2, a3, a4⟩, _⟩ := cells5 H0
  obtain ⟨⟨b0, b1, b2, b3, b4⟩, _⟩ := cells5 H1
  obtain ⟨nb, hnb⟩ : ∃ n, body.length = n := ⟨_, rfl⟩
  obtain ⟨n, hnn⟩ : ∃ n, fs.length = n := ⟨_, rfl⟩
  rw [hnb] at k3 k4 a4 b4 H0 H1 ⊢
  rw [hnn] at a3 b3 h48 H0 H1 ⊢
  clear hnb
  replace hnn := hid hnn
  clear H0 H1
  go_wp2_with fail
  go_loopw [46] (fun iv wr => ∃ k : Nat, k ≤ n ∧ iv = .int .i64 (k : Int) ∧ Only (fun _ => False) w2 wr) (fun iv _ => n - (intOf iv).toNat)
  case atStart => exact ⟨0, by omega, rfl, Only.refl _ _⟩
  case round =>
    obtain ⟨k, hk, rfl, O⟩ := hrel
    by_cases hlt : k < n
    · obtain ⟨p, hp⟩ : ∃ p, fs[k]? = some p := ⟨_, List.getElem?_eq_getElem (by rw [hnn.out]; exact hlt)⟩
      obtain ⟨x1, o1, rfl, hb1, c1, c2⟩ := fld_at (h1.same O) k p hp
      obtain ⟨x2, o2, rfl, hb2, c3, c4⟩ := fld_at (h2.same O) k p hp
      have a3' := (O.cell (p := ⟨w.heap.size, 3, none⟩) (cell_lt a3) (fun h => h)).trans a3
      have b3' := (O.cell (p := ⟨w.heap.size + 1, 3, none⟩) (cell_lt b3) (fun h => h)).trans b3
      have hne := fun W => fld_neq (B p.1) (B p.2) W
      replace hp := hid hp
      clear a0 a1 a2 a3 a4 b0 b1 b2 b3 b4 k3 k4
      go_upto_region 6 with (fail)
      go_quiet (fail)
      have O' := O.drewN nq
      clear hne c1 c2 c3 c4 a3' b3'
      go_wp2_with fail
      go_roundw
      case rel => exact ⟨k + 1, by omega, by simp, O'⟩
      case measure => simp [intOf]; omega
    · go_wp2_with fail
      go_ret
      exact ⟨rfl, O2.trans O⟩
end Go.Proofs.YtafljoiblfhioaaGreatDoor
