/-
  The statement ClockOnce, proved: whatever the input, the law returns true and its arguments read as before. This text: the row's frame, after the kit's own shell; the walk is in YtjfhghimldjcfaaOnceW. Conditions: none.
-/
import Derived.Test.YtjfhghimldjcfaaRows
import Derived.Test.YtjfhghimldjcfaaOnceW
import Derived.WalkKit
import Derived.ProofKit
import Derived.OpenShut
import Derived.ShutString
import Derived.ChangeOld
import Derived.Below
namespace Go.Proofs.Ytjfhghimldjcfaa.clockOnce
open Go.ChangeShapes Go.WideShapes Go.ChangeAt Go.RowKit
open Go.ChangeMaps (open_string shut_string)
set_option linter.unusedVariables false

theorem own : ownKnob Try.prog.godebug = none := by kernel_rfl
theorem laidOut : laidOutB Try.prog = true := by kernel_rfl

theorem walk {H : Type} {enc : TypeId × Value → H} {base : Nat} (w : World) (v0 : Value) (d0 : DataW H) (p0 : List MemPlace) (y0 : Value.okWide Try.prog w .any base 31 v0) (r0 : DataW.Trod enc Try.prog w 0 (fun _ => true) true 31 v0 d0 p0) (v1 : Value) (d1 : DataW H) (p1 : List MemPlace) (y1 : Value.okWide Try.prog w .any base 31 v1) (r1 : DataW.Trod enc Try.prog w 0 (fun _ => true) true 31 v1 d1 p1) (v2 : Value) (d2 : DataW H) (p2 : List MemPlace) (y2 : Value.okWide Try.prog w .any base 31 v2) (r2 : DataW.Trod enc Try.prog w 0 (fun _ => true) true 31 v2 d2 p2) :
    Calls Try.prog 4 #[v0, v1, v2] w fun e w' => e = .returned (.bool true) ∧ Below w.heap.size w w' := by
  obtain ⟨A0, n0, c0, f0, rfl, h01, h02, h03, _, _⟩ := open_nums Try.underlying31 Try.underlying3 (by kernel_rfl) y0 r0
  obtain ⟨A1, n1, c1, f1, rfl, h11, h12, h13, _, _⟩ := open_nums Try.underlying31 Try.underlying3 (by kernel_rfl) y1 r1
  obtain ⟨A2, n2, c2, f2, rfl, h21, h22, h23, h24, _⟩ := open_nums Try.underlying31 Try.underlying3 (by kernel_rfl) y2 r2
  exact once_walk A0 n0 c0 f0 A1 n1 c1 f1 A2 n2 c2 f2 w ⟨h01, h02⟩ ⟨h11, h12⟩ ⟨h21, h22⟩ h03 h13 h23 h24

set_option maxRecDepth 100000 in
theorem lifted (os : Os) (started : os.Started) (H : Type) (enc : TypeId × Value → H) :
    ReturnsInHanded {} Try.checked os 4 .any (Rows.clockOnceSpec.pre6 enc Try.prog Try.f4 Rows.clockOnceRow.domain false) (Rows.clockOnceSpec.post enc Try.prog Try.f4 false true false false) := by
  refine returnsInHanded_of_change (C := Try.checked) own started (by kernel_rfl) Try.func4
    (ChangeSpec.witness6 (enc := enc) (C := Try.checked) false ⟨#[], #[.slice none 0 0, .slice none 0 0, .slice none 0 0], []⟩ 8 (by kernel_rfl) (by kernel_rfl) (by kernel_rfl) (by kernel_rfl)) ?_
  intro W base args ds gs before hval0 hW hcnd _
  have hval : ∀ (j : Nat) t v, Try.f4.params[j]? = some t → args[j]? = some v → Value.okWide Try.prog W .any base t v := hval0
  have hW' := hW
  obtain ⟨p, q, hA0, hV, rfl, hfz, hnd⟩ := hW
  have hA : DataW.TrodAll enc Try.prog W 0 (fun _ => true) true Try.f4.params.toList args.toList ds p := hA0
  rw [Try.params4] at hA hval
  obtain ⟨v0, vs0, d0, ds0, p0, q0, hargs, rfl, rfl, h0, r0⟩ := trodAll_cons hA
  obtain ⟨v1, vs1, d1, ds1, p1, q1, rfl, rfl, rfl, h1, r1⟩ := trodAll_cons r0
  obtain ⟨v2, vs2, d2, ds2, p2, q2, rfl, rfl, rfl, h2, r2⟩ := trodAll_cons r1
  obtain ⟨rfl, rfl, rfl⟩ := trodAll_nil r2
  obtain rfl : args = #[v0, v1, v2] := by cases args; simp_all
  obtain ⟨rfl, rfl⟩ := trodVars_none hV
  have k0 := h0
  have y0 := hval 0 31 v0 rfl rfl
  have lt0 : ∀ x ∈ p0, x.block < W.heap.size := by obtain ⟨m, hm⟩ := k0; exact DataW.trod_lt m _ _ _ hm
  have k1 := h1
  have y1 := hval 1 31 v1 rfl rfl
  have lt1 : ∀ x ∈ p1, x.block < W.heap.size := by obtain ⟨m, hm⟩ := k1; exact DataW.trod_lt m _ _ _ hm
  have k2 := h2
  have y2 := hval 2 31 v2 rfl rfl
  have lt2 : ∀ x ∈ p2, x.block < W.heap.size := by obtain ⟨m, hm⟩ := k2; exact DataW.trod_lt m _ _ _ hm
  clear hA0 hval0
  refine (walk (H := H) (enc := enc) (base := base) W v0 d0 p0 y0 h0 v1 d1 p1 y1 h1 v2 d2 p2 y2 h2).mono fun e W' ⟨he, bel⟩ => ?_
  subst he
  exact ⟨_, rfl, _, _, _, [], _, [], hW', trodAll_mk1 (shut_bool Try.underlying4 _), (trodAll_cons_mk (Below.trod laidOut (by kernel_rfl) (of_decide_eq_true (by kernel_rfl)) k0 bel lt0) (trodAll_cons_mk (Below.trod laidOut (by kernel_rfl) (of_decide_eq_true (by kernel_rfl)) k1 bel lt1) (trodAll_cons_mk (Below.trod laidOut (by kernel_rfl) (of_decide_eq_true (by kernel_rfl)) k2 bel lt2) trodAll_mk0))), rfl, bel.frame _, fun h => by cases h⟩

theorem over : Rows.clockOnceRow.holds Try.pinned (OpenSpec.ofChange Rows.clockOnceSpec) :=
  OpenClaim.holds_of_wide 4 Try.f4 rfl rfl rfl rfl rfl rfl rfl ⟨rfl, rfl, rfl, rfl, rfl⟩ rfl rfl rfl rfl rfl (by kernel_rfl) Try.func4 (by kernel_rfl)
    (of_decide_eq_true (by kernel_rfl)) (by unfold Func.isWrapper; first | (rw [if_pos (by decide +kernel)]; kernel_rfl) | (rw [if_neg (by decide +kernel)]; exact ⟨rfl, rfl⟩))
    (fun os started H enc _ => lifted os started H enc)

end Go.Proofs.Ytjfhghimldjcfaa.clockOnce
namespace Go.Proofs.Ytjfhghimldjcfaa
/-- The statement. -/
theorem clockOnce_holds : Rows.ClockOnceSaid := clockOnce.over
#print axioms clockOnce_holds
end Go.Proofs.Ytjfhghimldjcfaa
