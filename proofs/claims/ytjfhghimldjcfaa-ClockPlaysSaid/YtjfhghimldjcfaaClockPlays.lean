/-
  The statement ClockPlays, proved: whatever the input, the law returns true and its arguments read as before. This text: the row's frame, after the kit's own shell; the walk is in YtjfhghimldjcfaaPlaysW. Conditions: none.
-/
import Derived.Test.YtjfhghimldjcfaaRows
import Derived.Test.YtjfhghimldjcfaaPlaysW
import Derived.WalkKit
import Derived.ProofKit
import Derived.OpenShut
import Derived.ShutString
import Derived.ChangeOld
import Derived.Below
namespace Go.Proofs.Ytjfhghimldjcfaa.clockPlays
open Go.ChangeShapes Go.WideShapes Go.ChangeAt Go.RowKit
open Go.ChangeMaps (open_string shut_string)
set_option linter.unusedVariables false

theorem own : ownKnob Try.prog.godebug = none := by kernel_rfl
theorem laidOut : laidOutB Try.prog = true := by kernel_rfl

theorem walk {H : Type} {enc : TypeId × Value → H} {base : Nat} (w : World) (v0 : Value) (d0 : DataW H) (p0 : List MemPlace) (y0 : Value.okWide Try.prog w .any base 22 v0) (r0 : DataW.Trod enc Try.prog w 0 (fun _ => true) true 22 v0 d0 p0) :
    Calls Try.prog 3 #[v0] w fun e w' => e = .returned (.bool true) ∧ Below w.heap.size w w' := by
  obtain ⟨A, n, c, V, rfl, hl, hc, hA, hcell, hread⟩ := open_structs Try.underlying22 Try.underlying30 (by kernel_rfl) (by kernel_rfl) (by decide) y0 r0
  obtain ⟨kd, hkd, _⟩ := pick_int (V := fun i => V i 0) Try.underlying3 (fun i hi => hread i 0 _ hi rfl)
  obtain ⟨nn, hnn, wnn⟩ := pick_int (V := fun i => V i 1) Try.underlying3 (fun i hi => hread i 1 _ hi rfl)
  obtain ⟨tt, htt, wtt⟩ := pick_int (V := fun i => V i 2) Try.underlying2 (fun i hi => hread i 2 _ hi rfl)
  refine plays_walk A n c kd nn tt w hl hc (fun i => ⟨bounds_i64 (wnn i), bounds_i64 (wtt i)⟩) (fun hp => ?_)
  obtain ⟨b, off, e, hb, hx⟩ := hcell hp
  refine ⟨b, off, e, hb, fun i hi => ⟨?_, ?_, ?_⟩⟩
  · have h := hx i 0 hi (by decide)
    rw [hkd i hi] at h
    exact h
  · have h := hx i 1 hi (by decide)
    rw [hnn i hi] at h
    simpa [Nat.add_assoc] using h
  · have h := hx i 2 hi (by decide)
    rw [htt i hi] at h
    simpa [Nat.add_assoc] using h

set_option maxRecDepth 100000 in
theorem lifted (os : Os) (started : os.Started) (H : Type) (enc : TypeId × Value → H) :
    ReturnsInHanded {} Try.checked os 3 .any (Rows.clockPlaysSpec.pre6 enc Try.prog Try.f3 Rows.clockPlaysRow.domain false) (Rows.clockPlaysSpec.post enc Try.prog Try.f3 false true false false) := by
  refine returnsInHanded_of_change (C := Try.checked) own started (by kernel_rfl) Try.func3
    (ChangeSpec.witness6 (enc := enc) (C := Try.checked) false ⟨#[], #[.slice none 0 0], []⟩ 8 (by kernel_rfl) (by kernel_rfl) (by kernel_rfl) (by kernel_rfl)) ?_
  intro W base args ds gs before hval0 hW hcnd _
  have hval : ∀ (j : Nat) t v, Try.f3.params[j]? = some t → args[j]? = some v → Value.okWide Try.prog W .any base t v := hval0
  have hW' := hW
  obtain ⟨p, q, hA0, hV, rfl, hfz, hnd⟩ := hW
  have hA : DataW.TrodAll enc Try.prog W 0 (fun _ => true) true Try.f3.params.toList args.toList ds p := hA0
  rw [Try.params3] at hA hval
  obtain ⟨v0, vs0, d0, ds0, p0, q0, hargs, rfl, rfl, h0, r0⟩ := trodAll_cons hA
  obtain ⟨rfl, rfl, rfl⟩ := trodAll_nil r0
  obtain rfl : args = #[v0] := by cases args; simp_all
  obtain ⟨rfl, rfl⟩ := trodVars_none hV
  have k0 := h0
  have y0 := hval 0 22 v0 rfl rfl
  have lt0 : ∀ x ∈ p0, x.block < W.heap.size := by obtain ⟨m, hm⟩ := k0; exact DataW.trod_lt m _ _ _ hm
  clear hA0 hval0
  refine (walk (H := H) (enc := enc) (base := base) W v0 d0 p0 y0 h0).mono fun e W' ⟨he, bel⟩ => ?_
  subst he
  exact ⟨_, rfl, _, _, _, [], _, [], hW', trodAll_mk1 (shut_bool Try.underlying4 _), (trodAll_cons_mk (Below.trod laidOut (by kernel_rfl) (of_decide_eq_true (by kernel_rfl)) k0 bel lt0) trodAll_mk0), rfl, bel.frame _, fun h => by cases h⟩

theorem over : Rows.clockPlaysRow.holds Try.pinned (OpenSpec.ofChange Rows.clockPlaysSpec) :=
  OpenClaim.holds_of_wide 3 Try.f3 rfl rfl rfl rfl rfl rfl rfl ⟨rfl, rfl, rfl, rfl, rfl⟩ rfl rfl rfl rfl rfl (by kernel_rfl) Try.func3 (by kernel_rfl)
    (of_decide_eq_true (by kernel_rfl)) (by unfold Func.isWrapper; first | (rw [if_pos (by decide +kernel)]; kernel_rfl) | (rw [if_neg (by decide +kernel)]; exact ⟨rfl, rfl⟩))
    (fun os started H enc _ => lifted os started H enc)

end Go.Proofs.Ytjfhghimldjcfaa.clockPlays
namespace Go.Proofs.Ytjfhghimldjcfaa
/-- The statement. -/
theorem clockPlays_holds : Rows.ClockPlaysSaid := clockPlays.over
#print axioms clockPlays_holds
end Go.Proofs.Ytjfhghimldjcfaa
