/-
  The statement RingTwo, proved: whatever the input, the law returns true and its arguments read as before. This text: the row's frame, after the kit's own shell; the walk is in YtcehabcbmhjcmaaTwoW. Conditions: none.
-/
import Derived.Test.YtcehabcbmhjcmaaRows
import Derived.Test.YtcehabcbmhjcmaaTwoW
import Derived.WalkKit
import Derived.ProofKit
import Derived.OpenShut
import Derived.ShutString
import Derived.ChangeOld
import Derived.Below
namespace Go.Proofs.Ytcehabcbmhjcmaa.ringTwo
open Go.ChangeShapes Go.WideShapes Go.ChangeAt Go.RowKit
open Go.ChangeMaps (open_string shut_string)
set_option linter.unusedVariables false

theorem own : ownKnob Try.prog.godebug = none := by kernel_rfl
theorem laidOut : laidOutB Try.prog = true := by kernel_rfl

theorem walk {H : Type} {enc : TypeId × Value → H} {base : Nat} (w : World) (v0 : Value) (d0 : DataW H) (p0 : List MemPlace) (y0 : Value.okWide Try.prog w .any base 34 v0) (r0 : DataW.Trod enc Try.prog w 0 (fun _ => true) true 34 v0 d0 p0) (v1 : Value) (d1 : DataW H) (p1 : List MemPlace) (y1 : Value.okWide Try.prog w .any base 35 v1) (r1 : DataW.Trod enc Try.prog w 0 (fun _ => true) true 35 v1 d1 p1) :
    Calls Try.prog 4 #[v0, v1] w fun e w' => e = .returned (.bool true) ∧ Below w.heap.size w w' := by
  obtain ⟨A0, n0, c0, V, rfl, h01, h02, h03, _, h05⟩ := open_one Try.underlying34 (by kernel_rfl) y0 r0
  obtain ⟨A1, n1, c1, f1, rfl, h11, h12, h13, _⟩ := open_bools Try.underlying35 Try.underlying4 (by kernel_rfl) y1 r1
  obtain ⟨PA, pn, pc, pf, hV⟩ := pick_bytes Try.underlying22 Try.underlying5 (by kernel_rfl) h05
  exact two_walk A0 n0 c0 V PA pn pc pf A1 n1 c1 f1 w ⟨h01, h02⟩ ⟨h11, h12⟩ h03 hV h13

set_option maxRecDepth 100000 in
theorem lifted (os : Os) (started : os.Started) (H : Type) (enc : TypeId × Value → H) :
    ReturnsInHanded {} Try.checked os 4 .any (Rows.ringTwoSpec.pre6 enc Try.prog Try.f4 Rows.ringTwoRow.domain false) (Rows.ringTwoSpec.post enc Try.prog Try.f4 false true false false) := by
  refine returnsInHanded_of_change (C := Try.checked) own started (by kernel_rfl) Try.func4
    (ChangeSpec.witness6 (enc := enc) (C := Try.checked) false ⟨#[], #[.slice none 0 0, .slice none 0 0], []⟩ 8 (by kernel_rfl) (by kernel_rfl) (by kernel_rfl) (by kernel_rfl)) ?_
  intro W base args ds gs before hval0 hW hcnd _
  have hval : ∀ (j : Nat) t v, Try.f4.params[j]? = some t → args[j]? = some v → Value.okWide Try.prog W .any base t v := hval0
  have hW' := hW
  obtain ⟨p, q, hA0, hV, rfl, hfz, hnd⟩ := hW
  have hA : DataW.TrodAll enc Try.prog W 0 (fun _ => true) true Try.f4.params.toList args.toList ds p := hA0
  rw [Try.params4] at hA hval
  obtain ⟨v0, vs0, d0, ds0, p0, q0, hargs, rfl, rfl, h0, r0⟩ := trodAll_cons hA
  obtain ⟨v1, vs1, d1, ds1, p1, q1, rfl, rfl, rfl, h1, r1⟩ := trodAll_cons r0
  obtain ⟨rfl, rfl, rfl⟩ := trodAll_nil r1
  obtain rfl : args = #[v0, v1] := by cases args; simp_all
  obtain ⟨rfl, rfl⟩ := trodVars_none hV
  have k0 := h0
  have y0 := hval 0 34 v0 rfl rfl
  have lt0 : ∀ x ∈ p0, x.block < W.heap.size := by obtain ⟨m, hm⟩ := k0; exact DataW.trod_lt m _ _ _ hm
  have k1 := h1
  have y1 := hval 1 35 v1 rfl rfl
  have lt1 : ∀ x ∈ p1, x.block < W.heap.size := by obtain ⟨m, hm⟩ := k1; exact DataW.trod_lt m _ _ _ hm
  clear hA0 hval0
  refine (walk (H := H) (enc := enc) (base := base) W v0 d0 p0 y0 h0 v1 d1 p1 y1 h1).mono fun e W' ⟨he, bel⟩ => ?_
  subst he
  exact ⟨_, rfl, _, _, _, [], _, [], hW', trodAll_mk1 (shut_bool Try.underlying4 _), (trodAll_cons_mk (Below.trod laidOut (by kernel_rfl) (of_decide_eq_true (by kernel_rfl)) k0 bel lt0) (trodAll_cons_mk (Below.trod laidOut (by kernel_rfl) (of_decide_eq_true (by kernel_rfl)) k1 bel lt1) trodAll_mk0)), rfl, bel.frame _, fun h => by cases h⟩

theorem over : Rows.ringTwoRow.holds Try.pinned (OpenSpec.ofChange Rows.ringTwoSpec) :=
  OpenClaim.holds_of_wide 4 Try.f4 rfl rfl rfl rfl rfl rfl rfl ⟨rfl, rfl, rfl, rfl, rfl⟩ rfl rfl rfl rfl rfl (by kernel_rfl) Try.func4 (by kernel_rfl)
    (of_decide_eq_true (by kernel_rfl)) (by unfold Func.isWrapper; first | (rw [if_pos (by decide +kernel)]; kernel_rfl) | (rw [if_neg (by decide +kernel)]; exact ⟨rfl, rfl⟩))
    (fun os started H enc _ => lifted os started H enc)

end Go.Proofs.Ytcehabcbmhjcmaa.ringTwo
namespace Go.Proofs.Ytcehabcbmhjcmaa
/-- The statement. -/
theorem ringTwo_holds : Rows.RingTwoSaid := ringTwo.over
#print axioms ringTwo_holds
end Go.Proofs.Ytcehabcbmhjcmaa
