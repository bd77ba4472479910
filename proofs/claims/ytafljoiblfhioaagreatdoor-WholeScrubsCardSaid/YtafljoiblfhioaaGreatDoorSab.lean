/-
  Match of the package route, where there is one route.
-/
import Derived.Test.YtafljoiblfhioaaGreatDoorSaa
namespace Go.Proofs.YtafljoiblfhioaaGreatDoor
open Go.RowKit

set_option maxRecDepth 100000 in
set_option maxHeartbeats 1000000 in
theorem match_one (r : RtD) (t : ByteArray) (A : Option Addr) (c : Nat) (w : World) (hR : Row w A (rV [r])) (hr : r.1.length < 4294967281) (ht : t.size < 4294967281) (hf : fitsF r.1 t.data.toList = true) (hG : Gl w) :
    Calls Tryz.prog 11 #[.slice A 1 c, .string t] w fun e w' => e = .returned (.int .i64 0) ∧ Only (fun _ => False) w w' := by
  obtain ⟨b, off, rfl, hb, d0, d1, d2⟩ := rt_at hR 0 r rfl
  rw [Nat.zero_mul, Nat.add_zero] at d0 d1 d2
  have hc := fun W (hg : Gl W) => fits_any (B r.1) t (by simpa [ByteArray.size] using hr) ht W hg
  rw [show (B r.1).data.toList = r.1 from rfl, hf] at hc
  clear hf
  go_enter Tryz.func11, Tryz.ntmps11
  go_wp2_with fail
  refine wp_loop_rounds 2 ?_
  rw [rounds_succ]
  go_upto_region 5 with (fail)
  have H := b_new w (.cells #[.string (B r.1), .string (B r.2.1), .string (B r.2.2)] 54)
  have OA := (Only.refl (fun _ => False) w).alloc (.cells #[.string (B r.1), .string (B r.2.1), .string (B r.2.2)] 54)
  generalize w.alloc (.cells #[.string (B r.1), .string (B r.2.1), .string (B r.2.2)] 54) = w2 at *
  obtain ⟨e0, _, _⟩ := cells3' H
  have hGb := hG.same OA
  have hwl : w.heap.size < w2.heap.size := b_lt H
  clear d0 d1 d2 H
  replace hc := hid hc
  generalize w.heap.size = g at *
  go_quiet ((go_at_call 30; exact Calls.quiet_of (hc.out _ (hGb.same (by exact ⟨rfl, rfl, rfl, Nat.le_refl _, fun _ _ _ => rfl⟩)))))
  have O := OA.drewN nq
  clear hc
  go_wp2_with fail
  rw [rounds_succ]
  go_wp2_with fail
  go_ret
  exact ⟨rfl, O⟩
end Go.Proofs.YtafljoiblfhioaaGreatDoor
