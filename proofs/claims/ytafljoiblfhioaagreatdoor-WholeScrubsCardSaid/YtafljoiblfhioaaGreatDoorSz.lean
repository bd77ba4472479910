/-
  Sets of texts: map[string]bool that a call makes.
-/
import Derived.Test.YtafljoiblfhioaaGreatDoorSy
import Derived.Maps.OwnOps
import Derived.Maps.OwnSet
import Derived.Maps.Views
import Derived.OpenShut
namespace Go.Proofs.YtafljoiblfhioaaGreatDoor
open Go.RowKit Go.Maps Go.ChangeMaps

theorem lawS : Keyed Tryz.prog 9 := string_keyed Tryz.underlying9
def bR : Value → Option (DataW Unit × List MemPlace)
  | .bool b => some (.lit (.bool b), [])
  | _ => none
theorem keyS {s : ByteArray} (h : s.size ≤ 9223372036854775807) : keyOf Tryz.prog 9 (.string s) = some (.string s.data.toList) := WideMaps.keyOf_string_mk Tryz.underlying9 (by unfold maxLen; omega)
theorem isKeyS (x : List UInt8) : WideAt.IsKeyLit (.string x) := by trivial
theorem zeroB (w : World) : (zeroValue 4).run Tryz.prog w = .ok (.bool false) w := by kernel_rfl

/-- The map in block b holds these keys, each with true. -/
def SetM (w : World) (b n : Nat) (ks : List (List UInt8)) : Prop :=
  ∃ D : DataW Unit, w.ownsMap Tryz.prog 9 bR b n D ∧ size D = ks.length ∧ ∀ s, has D (.string s) = ks.contains s ∧ (ks.contains s = true → D.atKey (.string s) (.lit (.bool false)) = .lit (.bool true))
theorem SetM.keep {S : Nat → Prop} {w w' : World} {b n : Nat} {ks : List (List UInt8)} (h : SetM w b n ks) (o : Only S w w') (hs : ¬ S b) : SetM w' b n ks := by
  obtain ⟨D, ⟨es, clock, hb, r1⟩, r⟩ := h
  exact ⟨D, ⟨es, clock, o.keep hb hs, r1⟩, r⟩
theorem SetM.lt {w : World} {b n : Nat} {ks : List (List UInt8)} (h : SetM w b n ks) : b < w.heap.size := by
  obtain ⟨D, h, _⟩ := h
  exact h.lt
theorem setM_new (w : World) : SetM (w.alloc (.map #[] 0)) w.heap.size 0 [] :=
  ⟨_, World.ownsMap_made w _ _ _, rfl, fun s => ⟨rfl, fun h => by cases h⟩⟩
theorem setM_of {w : World} {b : Nat} (hb : w.heap[b]? = some (.map #[] 0)) : SetM w b 0 [] := by
  obtain ⟨D, ⟨es, clock, hb', r1⟩, r⟩ := setM_new w
  have e := (b_new w (.map #[] 0)).symm.trans hb'
  injection e with e
  injection e with e1 e2
  subst e1 e2
  exact ⟨D, ⟨_, _, hb, r1⟩, r⟩
theorem only_grown {w w' : World} {b : Nat} (h : w.grownBy w' (some b)) : Only (· = b) w w' :=
  (Only.refl _ w).grown h (fun k hk => by cases hk; exact .inl rfl)

section
variable {ops : Array Oper} {rest : List Oper} {o : Oper} {a : Act} {Q : Exit → Act → World → Prop}
/-- m[k] = true. -/
theorem set_put (w : World) (hg : o.guard = none) (m x v : Operand) (hop : o.op = Op.mapUpdate 50 m x v)
    (b n : Nat) (ks : List (List UInt8)) (s : ByteArray) (hm : a.eval m = .map (some b)) (hx : a.eval x = .string s) (hv : a.eval v = .bool true) (h : SetM w b n ks) (hs : s.size ≤ 9223372036854775807) (hn : n < 9223372036854775807)
    (hK : ∀ w', Hid (SetM w' b (n + 1) (addK ks s.data.toList)) → Only (· = b) w w' → wpList Tryz.prog ops Q rest (a.put o.dst undef) w') : wpList Tryz.prog ops Q (o :: rest) a w := by
  obtain ⟨D, h, hz, r⟩ := h
  refine wpList_mapUpdate_own w hg m x v _ hop 9 4 lawS Tryz.underlying50 bR b n D hm h (by unfold maxLen; omega) (.string s) (.bool true) (.string s.data.toList) hx hv (keyS hs) (.lit (.bool true)) [] rfl ?_
  have hD : IsMap D := h.isMap
  have hT : Tidy D := h.tidy lawS
  intro w' h' hgr
  refine hK w' ⟨_, h', ?_, fun j => ?_⟩ (only_grown hgr)
  · rw [size_put hT, (r _).1, hz]
    unfold addK
    cases ks.contains s.data.toList <;> simp
  · have hadd : (addK ks s.data.toList).contains j = (ks.contains j || j == s.data.toList) := by
      unfold addK
      cases hc : ks.contains s.data.toList
      · simp only [Bool.false_eq_true, if_false]
        rw [Bool.eq_iff_iff]
        simp
      · simp only [if_true]
        cases hj : (j == s.data.toList)
        · simp
        · rw [beq_iff_eq] at hj
          subst hj
          rw [hc]; rfl
    by_cases hj : j = s.data.toList
    · subst hj
      rw [has_put_same hD (isKeyS _), atKey_put_same hD (isKeyS _), hadd]
      simp
    · have hne : (Lit.string j) ≠ (Lit.string s.data.toList) := fun e => hj (by injection e)
      rw [has_put_other hne, atKey_put_other hne, hadd, show (j == s.data.toList) = false by simpa using hj, Bool.or_false]
      exact r j
/-- len(m). -/
theorem set_len (w : World) (hg : o.guard = none) (m : Operand) (hop : o.op = Op.call { callee := Callee.builtin Builtin.len, args := #[m], argTypes := #[50] })
    (b n : Nat) (ks : List (List UInt8)) (hm : a.eval m = .map (some b)) (h : SetM w b n ks) (hK : wpList Tryz.prog ops Q rest (a.put o.dst (.int .i64 ks.length)) w) : wpList Tryz.prog ops Q (o :: rest) a w := by
  obtain ⟨D, h, hz, r⟩ := h
  refine wpList_len_own w hg m _ hop 9 4 Tryz.underlying50 bR b n D hm h ?_
  rw [hz]
  exact hK
end
theorem SetM.len {w : World} {b n : Nat} {ks : List (List UInt8)} (h : SetM w b n ks) (ty : TypeId) : (Builtin.len_ #[50] ty #[.map (some b)]).run Tryz.prog w = .ok (.int .i64 ks.length) w := by
  obtain ⟨D, h, hz, r⟩ := h
  rw [h.len Tryz.underlying50 ty, hz]
/-- m[k]. -/
theorem SetM.look {w : World} {b n : Nat} {ks : List (List UInt8)} (h : SetM w b n ks) {s : ByteArray} (hs : s.size ≤ 9223372036854775807) :
    (Instr.lookup 50 (.map (some b)) (.string s) false).run Tryz.prog w = .ok (.bool (ks.contains s.data.toList)) w := by
  obtain ⟨D, h, hz, r⟩ := h
  obtain ⟨r1, r2⟩ := r s.data.toList
  obtain ⟨v, ps, hrun, hv⟩ := h.lookup lawS Tryz.underlying50 (zeroB w) (show bR (.bool false) = some (.lit (.bool false), []) from rfl) (keyS hs)
  rw [hrun]
  have hat : D.atKey (.string s.data.toList) (.lit (.bool false)) = .lit (.bool (ks.contains s.data.toList)) := by
    cases hc : ks.contains s.data.toList
    · rw [hc] at r1
      exact atKey_of_not_has r1 _
    · exact r2 hc
  rw [hat] at hv
  cases v <;> simp only [bR, Option.some.injEq, Prod.mk.injEq, DataW.lit.injEq, Lit.bool.injEq, reduceCtorEq] at hv
  rw [hv.1]
end Go.Proofs.YtafljoiblfhioaaGreatDoor
