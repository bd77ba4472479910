/-
  The latch: sync.Once's parts, after the kit's worked example Lazy.
-/
import Derived.Test.YtmgjeinjifjaaaaV
import Derived.Defers
import Derived.Laws.Pointers
import Derived.RegionTactic
import Derived.RegionCalls
import Derived.ChangeAlike
import Derived.Laws.NewBlocks
namespace Go.Proofs.Ytmgjeinjifjaaaa
open Go.RowKit

theorem disable (w : World) : (callFunc 40 #[]).run Try.prog w = .ok (.value (.tuple #[])) w := run_call_mark0 Try.func40 (by kernel_rfl) (by kernel_rfl) (by kernel_rfl) .disable (by kernel_rfl) w
theorem enable (w : World) : (callFunc 42 #[]).run Try.prog w = .ok (.value (.tuple #[])) w := run_call_mark0 Try.func42 (by kernel_rfl) (by kernel_rfl) (by kernel_rfl) .enable (by kernel_rfl) w
theorem acquire (a : Addr) (w : World) : (callFunc 43 #[.pointer (some a)]).run Try.prog w = .ok (.value (.tuple #[])) w := run_call_marked Try.func43 (by kernel_rfl) (by kernel_rfl) (by kernel_rfl) .acquire (by kernel_rfl) a w
theorem releaseMerge (a : Addr) (w : World) : (callFunc 45 #[.pointer (some a)]).run Try.prog w = .ok (.value (.tuple #[])) w := run_call_marked Try.func45 (by kernel_rfl) (by kernel_rfl) (by kernel_rfl) .releaseMerge (by kernel_rfl) a w

theorem store_deferred (a : Addr) (x : Value) (u : FrameMode) (w : World) (hc : w.cell? a = some x) (hz : w.frozen? a = false) :
    CallsD Try.prog 29 #[.pointer (some a), .bool true] u w fun e u' w' => u' = u ∧ (e = .returned (.tuple #[]) ∧ w' = w.drew.setCell a (.int .u32 1)) := by
  have hc' : w.drew.cell? a = some x := by go_simp
  have hz' : w.drew.frozen? a = false := by go_simp
  have hst := run_call_store (P := Try.prog) Try.func34 (by kernel_rfl) (by kernel_rfl) (by kernel_rfl) (by kernel_rfl) (k := .u32) (y := 1) hc' hz'
  go_enter_d Try.func29, Try.ntmps29
  go_wp2
  go_region_calls
  all_goals (go_end0; exact ⟨rfl, rfl⟩)

theorem store_any (a : Addr) (x : Value) (w : World) (hc : w.cell? a = some x) (hz : w.frozen? a = false) :
    Calls Try.prog 29 #[.pointer (some a), .bool true] w fun e w' => e = .returned (.tuple #[]) ∧ w' = w.drew.setCell a (.int .u32 1) := by
  have hc' : w.drew.cell? a = some x := by go_simp
  have hz' : w.drew.frozen? a = false := by go_simp
  have hst := run_call_store (P := Try.prog) Try.func34 (by kernel_rfl) (by kernel_rfl) (by kernel_rfl) (by kernel_rfl) (k := .u32) (y := 1) hc' hz'
  go_enter Try.func29, Try.ntmps29
  go_wp2
  go_region_calls
  all_goals (go_end0; exact ⟨rfl, rfl⟩)

theorem unlock_deferred (a : Addr) (u : FrameMode) (w : World) (hc : w.cell? a = some (.int .i32 1)) (hz : w.frozen? a = false) :
    CallsD Try.prog 37 #[.pointer (some a)] u w fun e u' w' => u' = u ∧ (e = .returned (.tuple #[]) ∧ w' = w.setCell a (.int .i32 0)) := by
  have hd := disable
  have he := enable
  have hr := releaseMerge
  have hadd := run_call_add (P := Try.prog) Try.func46 (by kernel_rfl) (by kernel_rfl) (by kernel_rfl) .i32 (by kernel_rfl) (y := -1) (s := 0) hc hz (by simp [go_sem]; rfl)
  have hcv := run_convert_to_unsafe (P := Try.prog) (src := 80) (dst := 84) Try.underlying80 Try.underlying84 (by kernel_rfl) hc
  go_enter_d Try.func37, Try.ntmps37
  go_wp2
  go_end0
  go_wp2
  go_end0
  exact ⟨rfl, rfl⟩

theorem lock_free (a : Addr) (w : World) (hc : w.cell? a = some (.int .i32 0)) (hz : w.frozen? a = false) :
    Calls Try.prog 36 #[.pointer (some a)] w fun e w' => e = .returned (.tuple #[]) ∧ w' = w.setCell a (.int .i32 1) := by
  have hd := disable
  have he := enable
  have ha := acquire
  have hcas := run_call_cas_hit (P := Try.prog) Try.func41 (by kernel_rfl) (by kernel_rfl) (by kernel_rfl) .i32 (by kernel_rfl) (y := 1) hc hz
  have hc' : (w.setCell a (.int .i32 1)).cell? a = some (.int .i32 1) := World.cell?_setCell_same w a _ hc
  have hcv := run_convert_to_unsafe (P := Try.prog) (src := 80) (dst := 84) Try.underlying80 Try.underlying84 (by kernel_rfl) hc'
  go_enter Try.func36, Try.ntmps36
  go_wp2
  first | go_end0 | (simp only [Exit.inBlock, Exit.then]; refine bodyPost_ret (results_none rfl _ _ _) rfl ?_) | refine bodyPost_ret (results_none rfl _ _ _) rfl ?_
  go_wp2
  go_end0
  exact ⟨rfl, rfl⟩

/-- A latch in block b: done, the lock's state, closed. -/
def LAt (w : World) (b : Nat) (d s c : Int) : Prop := w.heap[b]? = some (.cells #[.int .u32 d, .int .i32 s, .int .u32 0, .int .u32 c] 54 (0, 0))
theorem LAt.c0 {w : World} {b : Nat} {d s c : Int} (h : LAt w b d s c) : w.cell? ⟨b, 0, none⟩ = some (.int .u32 d) := b_cell h 0
theorem LAt.c1 {w : World} {b : Nat} {d s c : Int} (h : LAt w b d s c) : w.cell? ⟨b, 1, none⟩ = some (.int .i32 s) := b_cell h 1
theorem LAt.c3 {w : World} {b : Nat} {d s c : Int} (h : LAt w b d s c) : w.cell? ⟨b, 3, none⟩ = some (.int .u32 c) := b_cell h 3
theorem LAt.free {w : World} {b : Nat} {d s c : Int} (h : LAt w b d s c) (i : Nat) : w.frozen? ⟨b, i, none⟩ = false := b_free h i
theorem LAt.s0 {w : World} {b : Nat} {d s c : Int} (h : LAt w b d s c) (x : Int) : LAt (w.setCell ⟨b, 0, none⟩ (.int .u32 x)) b x s c := b_set h 0 _
theorem LAt.s1 {w : World} {b : Nat} {d s c : Int} (h : LAt w b d s c) (x : Int) : LAt (w.setCell ⟨b, 1, none⟩ (.int .i32 x)) b d x c := b_set h 1 _
theorem LAt.s3 {w : World} {b : Nat} {d s c : Int} (h : LAt w b d s c) (x : Int) : LAt (w.setCell ⟨b, 3, none⟩ (.int .u32 x)) b d s x := b_set h 3 _

theorem closed_any (b : Nat) (d s c : Int) (w : World) (h : Hid (LAt w b d s c)) (r : Bool) (hr : r = (c != 0)) :
    Calls Try.prog 18 #[.pointer (some ⟨b, 0, none⟩)] w fun e w' => e = .returned (.bool r) ∧ w = w' := by
  subst hr
  have hl := run_call_load (P := Try.prog) Try.func32 (by kernel_rfl) (by kernel_rfl) (by kernel_rfl) .u32 (by kernel_rfl) h.out.c3
  go_enter Try.func18, Try.ntmps18
  go_wp2_with (first | (go_at_call 26; go_in))
  go_ret
  exact ⟨rfl, rfl⟩

set_option maxRecDepth 100000 in
set_option maxHeartbeats 1600000 in
/-- doSlow, not yet done, the lock free: whatever the closure does, then it is done and the lock is free. -/
theorem slow_any (b : Nat) (c : Int) (p1 p2 p3 : Value) (R : World → Prop) (w : World) (h : Hid (LAt w b 0 0 c))
    (hcl : ∀ w1, w1 = w.setCell ⟨b, 1, none⟩ (.int .i32 1) → Calls Try.prog 28 #[p1, p2, p3] w1 fun e w2 => e = .returned (.tuple #[]) ∧ Hid (LAt w2 b 0 1 1) ∧ R w2) :
    Calls Try.prog 33 #[.pointer (some ⟨b, 0, none⟩), .func (.func 28) #[] #[p1, p2, p3]] w fun e w' => e = .returned (.tuple #[]) ∧ ∃ w2, Hid (LAt w2 b 0 1 1) ∧ R w2 ∧ w' = (w2.drew.setCell ⟨b, 0, none⟩ (.int .u32 1)).setCell ⟨b, 1, none⟩ (.int .i32 0) := by
  have hc1 := h.out.c1
  have hf1 := h.out.free 1
  have h1 := hid (h.out.s1 1)
  have hl := run_call_load (P := Try.prog) Try.func32 (by kernel_rfl) (by kernel_rfl) (by kernel_rfl) .u32 (by kernel_rfl) h1.out.c0
  have hnot : ∀ (x : Bool) (w : World), (Op.unary .not (.bool x)).run Try.prog w = .ok (.bool (!x)) w := fun _ _ => rfl
  go_enter_defers Try.func33, Try.ntmps33
  go_wp2_with (first | (go_at_call 36; refine (lock_free ⟨b, 1, none⟩ _ hc1 hf1).mono ?_; rintro e w' ⟨rfl, rfl⟩) | (go_at_call 26; go_in) | (go_at_call 28; refine (hcl _ rfl).mono ?_; rintro e w2 ⟨rfl, h2, hR⟩))
  refine leaves_cons (f := 29) (args := #[.pointer (some ⟨b, 0, none⟩), .bool true]) (by simp) (by simp [go_sem]) ?_
  refine (store_deferred ⟨b, 0, none⟩ (.int .u32 0) .returning _ h2.out.c0 (h2.out.free 0)).mono ?_
  rintro e u' w'' ⟨rfl, rfl, rfl⟩
  have h3 : LAt (w2.drew.setCell ⟨b, 0, none⟩ (.int .u32 1)) b 1 1 1 := LAt.s0 (w := w2.drew) h2.out 1
  refine leaves_cons (f := 37) (args := #[.pointer (some ⟨b, 1, none⟩)]) (by simp [settle]) (by simp [go_sem]) ?_
  refine (unlock_deferred ⟨b, 1, none⟩ _ _ h3.c1 (h3.free 1)).mono ?_
  rintro e u' w'' ⟨rfl, rfl, rfl⟩
  simp [Leaves, settle, results, Try.results33]
  exact ⟨w2, h2, hR, rfl⟩

set_option maxRecDepth 100000 in
set_option maxHeartbeats 1600000 in
theorem do_first (b : Nat) (c : Int) (p1 p2 p3 : Value) (R : World → Prop) (w : World) (h : Hid (LAt w b 0 0 c))
    (hcl : ∀ w1, w1 = w.setCell ⟨b, 1, none⟩ (.int .i32 1) → Calls Try.prog 28 #[p1, p2, p3] w1 fun e w2 => e = .returned (.tuple #[]) ∧ Hid (LAt w2 b 0 1 1) ∧ R w2) :
    Calls Try.prog 27 #[.pointer (some ⟨b, 0, none⟩), .func (.func 28) #[] #[p1, p2, p3]] w fun e w' => e = .returned (.tuple #[]) ∧ ∃ w2, Hid (LAt w2 b 0 1 1) ∧ R w2 ∧ w' = (w2.drew.setCell ⟨b, 0, none⟩ (.int .u32 1)).setCell ⟨b, 1, none⟩ (.int .i32 0) := by
  have hl := run_call_load (P := Try.prog) Try.func32 (by kernel_rfl) (by kernel_rfl) (by kernel_rfl) .u32 (by kernel_rfl) h.out.c0
  have hnot : ∀ (x : Bool) (w : World), (Op.unary .not (.bool x)).run Try.prog w = .ok (.bool (!x)) w := fun _ _ => rfl
  go_enter Try.func27, Try.ntmps27
  go_wp2_with (first | (go_at_call 33; refine (slow_any b c p1 p2 p3 R _ h hcl).mono ?_; rintro e w' ⟨rfl, w2, h2, hR, rfl⟩) | (go_at_call 26; go_in))
  go_end0
  exact ⟨rfl, w2, h2, hR, rfl⟩

theorem do_done (b : Nat) (c : Int) (fv : Value) (w : World) (h : Hid (LAt w b 1 0 c)) :
    Calls Try.prog 27 #[.pointer (some ⟨b, 0, none⟩), fv] w fun e w' => e = .returned (.tuple #[]) ∧ w' = w := by
  have hl := run_call_load (P := Try.prog) Try.func32 (by kernel_rfl) (by kernel_rfl) (by kernel_rfl) .u32 (by kernel_rfl) h.out.c0
  have hnot : ∀ (x : Bool) (w : World), (Op.unary .not (.bool x)).run Try.prog w = .ok (.bool (!x)) w := fun _ _ => rfl
  go_enter Try.func27, Try.ntmps27
  go_wp2
  go_end0
  exact ⟨rfl, rfl⟩

theorem neq_nil_nil (w : World) : (binOp .neq 1 .nilFunc .nilFunc).run Try.prog w = .ok (.bool false) w := by rfl
theorem neq_fn_nil (f : Nat) (cap : Array Value) (w : World) : (binOp .neq 1 (.func (.func f) #[] cap) .nilFunc).run Try.prog w = .ok (.bool true) w := by rfl
end Go.Proofs.Ytmgjeinjifjaaaa
