/-
  The clock's map of int to int64, and sorted lists, in plain words.
-/
import Derived.Test.YtjfhghimldjcfaaH
import Derived.Maps.OwnOps
import Derived.Maps.OwnSet
import Derived.Maps.Views
import Derived.WalkArith
import Derived.OpenShut
namespace Go.Proofs.Ytjfhghimldjcfaa
open Go.RowKit Go.ChangeMaps Go.Maps

theorem lawK : Keyed Try.prog 3 := int_keyed Try.underlying3
theorem zeroE (w : World) : (zeroValue 2).run Try.prog w = .ok (.int .i64 0) w := by kernel_rfl
def I64 (x : Int) : Prop := -9223372036854775808 ≤ x ∧ x ≤ 9223372036854775807
theorem I64.wf {x : Int} (h : I64 x) : (Lit.int .i64 x).wf = true := WalkArith.wf_i64 h
theorem isKey (x : Int) : WideAt.IsKeyLit (.int .i64 x) := by trivial
theorem keyI {x : Int} (h : I64 x) : keyOf Try.prog 3 (.int .i64 x) = some (.int .i64 x) := keyOf_int_mk Try.underlying3 h.wf

def updf (f : Int → Option Int) (k : Int) (v : Option Int) (x : Int) : Option Int := if x = k then v else f x
theorem updf_at (f : Int → Option Int) (k : Int) (v : Option Int) : updf f k v k = v := if_pos rfl
theorem updf_ne (f : Int → Option Int) {k x : Int} (v : Option Int) (h : x ≠ k) : updf f k v x = f x := if_neg h

/-- The map in block b holds f. -/
def MapI (w : World) (b n : Nat) (f : Int → Option Int) : Prop :=
  ∃ D : DataW Unit, w.ownsMap Try.prog 3 (plainElem Try.prog 2) b n D ∧ ∀ k, (has D (.int .i64 k) = (f k).isSome) ∧ ∀ t, f k = some t → D.atKey (.int .i64 k) (.lit (.int .i64 0)) = .lit (.int .i64 t)
theorem MapI.lt {w : World} {b n : Nat} {f : Int → Option Int} (h : MapI w b n f) : b < w.heap.size := by
  obtain ⟨D, h, _⟩ := h; exact h.lt
theorem MapI.mono {w : World} {b n m : Nat} {f : Int → Option Int} (h : MapI w b n f) (hm : n ≤ m) : MapI w b m f := by
  obtain ⟨D, h, r⟩ := h; exact ⟨D, h.mono hm, r⟩
theorem MapI.keep {S : Nat → Prop} {w w' : World} {b n : Nat} {f : Int → Option Int} (h : MapI w b n f) (o : Only S w w') (hs : ¬ S b) : MapI w' b n f := by
  obtain ⟨D, ⟨es, clock, hb, r1⟩, r⟩ := h
  exact ⟨D, ⟨es, clock, o.keep hb hs, r1⟩, r⟩
theorem mapI_new (w : World) : MapI (w.alloc (.map #[] 0)) w.heap.size 0 (fun _ => none) :=
  ⟨_, World.ownsMap_made w _ _ _, fun k => ⟨rfl, fun t h => by cases h⟩⟩
/-- What a look-up gives. -/
theorem MapI.look {w : World} {b n : Nat} {f : Int → Option Int} (h : MapI w b n f) {k : Int} (hk : I64 k) :
    (Instr.lookup 47 (.map (some b)) (.int .i64 k) true).run Try.prog w = .ok (.tuple #[.int .i64 ((f k).getD 0), .bool (f k).isSome]) w := by
  obtain ⟨D, h, r⟩ := h
  obtain ⟨r1, r2⟩ := r k
  obtain ⟨v, ps, hrun, hv⟩ := h.look_ok lawK Try.underlying47 (zeroE w) (plainElem_int Try.underlying2 (by decide)) (keyI hk)
  obtain ⟨c, rfl, hc, _⟩ := plainElem_int_inv Try.underlying2 hv
  have hc' := congrArg Prod.fst hc
  simp only at hc'
  rw [hrun, r1]
  cases hf : f k with
  | some t =>
    rw [r2 t hf] at hc'
    simp only [DataW.lit.injEq, Lit.int.injEq, true_and] at hc'
    rw [← hc']; rfl
  | none =>
    rw [hf] at r1
    rw [atKey_of_not_has r1] at hc'
    simp only [DataW.lit.injEq, Lit.int.injEq, true_and] at hc'
    rw [← hc']; rfl
theorem MapI.look0 {w : World} {b n : Nat} {f : Int → Option Int} (h : MapI w b n f) {k : Int} (hk : I64 k) (W : World) (hW : W.heap = w.heap) :
    (Instr.lookup 47 (.map (some b)) (.int .i64 k) true).run Try.prog W = .ok (.tuple #[.int .i64 ((f k).getD 0), .bool (f k).isSome]) W := by
  refine MapI.look (w := W) (n := n) ?_ hk
  obtain ⟨D, ⟨es, clock, hb, r1⟩, r⟩ := h
  exact ⟨D, ⟨es, clock, by rw [hW]; exact hb, r1⟩, r⟩
theorem only_turned {w w' : World} {b : Nat} (h : w.mapTurned w' b) : Only (· = b) w w' :=
  (Only.refl _ w).grown h.grown (fun k hk => by cases hk; exact .inl rfl)
theorem only_grown {w w' : World} {b : Nat} (h : w.grownBy w' (some b)) : Only (· = b) w w' :=
  (Only.refl _ w).grown h (fun k hk => by cases hk; exact .inl rfl)

/-- delete(m, k), at the operation. -/
theorem del_own (w : World) {ops : Array Oper} {rest : List Oper} {o : Oper} {a : Act} {Q : Exit → Act → World → Prop} (hg : o.guard = none) (m x : Operand)
    (hop : o.op = Op.call { callee := Callee.builtin Builtin.delete, args := #[m, x], argTypes := #[47, 3] }) (b n : Nat) (f : Int → Option Int) (k : Int) (hm : a.eval m = .map (some b)) (hx : a.eval x = .int .i64 k) (h : MapI w b n f) (hk : I64 k)
    (hK : ∀ w', Hid (MapI w' b n (updf f k none)) → Only (· = b) w w' → wpList Try.prog ops Q rest (a.put o.dst (.tuple #[])) w') : wpList Try.prog ops Q (o :: rest) a w := by
  obtain ⟨D, h, r⟩ := h
  refine wpList_delete_own w hg m x _ _ hop 2 lawK Try.underlying47 _ b n D hm h (.int .i64 k) (.int .i64 k) hx (keyI hk) ?_
  intro w' h' ht
  refine hK w' ⟨_, h', fun j => ?_⟩ (only_turned ht)
  by_cases hj : j = k
  · subst hj
    rw [updf_at]
    exact ⟨has_del_same, fun t e => by cases e⟩
  · have hne : (Lit.int .i64 j) ≠ (Lit.int .i64 k) := fun e => hj (by injection e)
    rw [updf_ne _ _ hj, has_del_other hne]
    exact ⟨(r j).1, fun t e => by rw [atKey_del_other hne]; exact (r j).2 t e⟩
/-- m[k] = v, at the operation. -/
theorem upd_own (w : World) {ops : Array Oper} {rest : List Oper} {o : Oper} {a : Act} {Q : Exit → Act → World → Prop} (hg : o.guard = none) (m x v : Operand) (hop : o.op = Op.mapUpdate 47 m x v)
    (b n : Nat) (f : Int → Option Int) (k t : Int) (hm : a.eval m = .map (some b)) (hx : a.eval x = .int .i64 k) (hv : a.eval v = .int .i64 t) (h : MapI w b n f) (hk : I64 k) (ht : I64 t) (hn : n ≤ 1000000)
    (hK : ∀ w', Hid (MapI w' b (n + 1) (updf f k (some t))) → Only (· = b) w w' → wpList Try.prog ops Q rest (a.put o.dst undef) w') : wpList Try.prog ops Q (o :: rest) a w := by
  obtain ⟨D, h, r⟩ := h
  refine wpList_mapUpdate_own w hg m x v _ hop 3 2 lawK Try.underlying47 _ b n D hm h (by unfold maxLen; omega) (.int .i64 k) (.int .i64 t) (.int .i64 k) hx hv (keyI hk) (.lit (.int .i64 t)) [] (plainElem_int Try.underlying2 ht.wf) ?_
  have hD : IsMap D := h.isMap
  intro w' h' hgr
  refine hK w' ⟨_, h', fun j => ?_⟩ (only_grown hgr)
  by_cases hj : j = k
  · subst hj
    rw [updf_at, has_put_same hD (isKey j), atKey_put_same hD (isKey j)]
    exact ⟨rfl, fun t' e => by cases e; rfl⟩
  · have hne : (Lit.int .i64 j) ≠ (Lit.int .i64 k) := fun e => hj (by injection e)
    rw [updf_ne _ _ hj, has_put_other hne, atKey_put_other hne]
    exact r j

/-! ### sorted lists -/
def Srt (S : List (Int × Int)) : Prop := S.Pairwise dlt
def ins (d : Int × Int) : List (Int × Int) → List (Int × Int)
  | [] => [d]
  | x :: l => if dlt d x then d :: x :: l else x :: ins d l
def rem (id : Int) (S : List (Int × Int)) : List (Int × Int) := S.filter (fun d => d.2 ≠ id)
theorem mem_ins (d x : Int × Int) : ∀ l, x ∈ ins d l ↔ x = d ∨ x ∈ l
  | [] => by simp [ins]
  | y :: l => by
    unfold ins
    split
    · simp
    · simp only [List.mem_cons, mem_ins d x l]
      constructor
      · rintro (h | h | h) <;> simp [h]
      · rintro (h | h | h) <;> simp [h]
theorem dlt_trans {a b c : Int × Int} (h1 : dlt a b) (h2 : dlt b c) : dlt a c := by unfold dlt at *; omega
theorem dlt_irr (a : Int × Int) : ¬ dlt a a := by unfold dlt; omega
theorem dlt_tri {a b : Int × Int} (h1 : ¬ dlt a b) (h2 : a ≠ b) : dlt b a := by
  unfold dlt at *
  have : a.1 ≠ b.1 ∨ a.2 ≠ b.2 := by
    by_cases h : a.1 = b.1
    · exact .inr (fun e => h2 (Prod.ext h e))
    · exact .inl h
  omega
theorem ins_srt (d : Int × Int) : ∀ l, Srt l → (∀ x ∈ l, x ≠ d) → Srt (ins d l)
  | [], _, _ => by simp [ins, Srt]
  | y :: l, h, hn => by
    have h' := List.pairwise_cons.1 h
    unfold ins
    split
    · rename_i hd
      exact List.pairwise_cons.2 ⟨fun x hx => by
        rcases List.mem_cons.1 hx with rfl | hx
        · exact hd
        · exact dlt_trans hd (h'.1 x hx), h⟩
    · rename_i hd
      refine List.pairwise_cons.2 ⟨fun x hx => ?_, ins_srt d l h'.2 (fun x hx => hn x (List.mem_cons_of_mem _ hx))⟩
      rcases (mem_ins d x l).1 hx with rfl | hx
      · exact dlt_tri hd (fun e => hn y (List.mem_cons_self ..) e.symm)
      · exact h'.1 x hx
theorem rem_srt (id : Int) {S : List (Int × Int)} (h : Srt S) : Srt (rem id S) := List.Pairwise.filter _ h
theorem mem_rem (id : Int) (S : List (Int × Int)) (d : Int × Int) : d ∈ rem id S ↔ d ∈ S ∧ d.2 ≠ id := by simp [rem]
theorem srt_ext : ∀ {l m : List (Int × Int)}, Srt l → Srt m → (∀ d, d ∈ l ↔ d ∈ m) → l = m
  | [], [], _, _, _ => rfl
  | [], b :: m, _, _, h => by have := (h b).2 (List.mem_cons_self ..); cases this
  | a :: l, [], _, _, h => by have := (h a).1 (List.mem_cons_self ..); cases this
  | a :: l, b :: m, h1, h2, h => by
    have p1 := List.pairwise_cons.1 h1
    have p2 := List.pairwise_cons.1 h2
    have hab : a = b := by
      rcases List.mem_cons.1 ((h a).1 (List.mem_cons_self ..)) with e | ha
      · exact e
      · rcases List.mem_cons.1 ((h b).2 (List.mem_cons_self ..)) with e | hb
        · exact e.symm
        · exact absurd (p1.1 b hb) (dlt_asymm (p2.1 a ha))
    subst hab
    rw [srt_ext p1.2 p2.2 (fun d => ?_)]
    constructor
    · intro hd
      rcases List.mem_cons.1 ((h d).1 (List.mem_cons_of_mem _ hd)) with rfl | hd'
      · exact absurd (p1.1 _ hd) (dlt_irr _)
      · exact hd'
    · intro hd
      rcases List.mem_cons.1 ((h d).2 (List.mem_cons_of_mem _ hd)) with rfl | hd'
      · exact absurd (p2.1 _ hd) (dlt_irr _)
      · exact hd'
/-- S lists f. -/
def Lists (S : List (Int × Int)) (f : Int → Option Int) : Prop := Srt S ∧ ∀ k t, f k = some t ↔ (t, k) ∈ S
theorem Lists.rem {S : List (Int × Int)} {f : Int → Option Int} (h : Lists S f) (id : Int) : Lists (rem id S) (updf f id none) := by
  refine ⟨rem_srt id h.1, fun k t => ?_⟩
  rw [mem_rem]
  by_cases hk : k = id
  · subst hk; rw [updf_at]; simp
  · rw [updf_ne _ _ hk, h.2 k t]; simp [hk]
theorem Lists.set {S : List (Int × Int)} {f : Int → Option Int} (h : Lists S f) (id c : Int) : Lists (ins (c, id) (Go.Proofs.Ytjfhghimldjcfaa.rem id S)) (updf f id (some c)) := by
  refine ⟨ins_srt _ _ (rem_srt id h.1) (fun x hx e => ((mem_rem id S x).1 hx).2 (by rw [e])), fun k t => ?_⟩
  rw [mem_ins, mem_rem]
  by_cases hk : k = id
  · subst hk
    rw [updf_at]
    simp [eq_comm]
  · rw [updf_ne _ _ hk, h.2 k t]
    simp [hk]
theorem Lists.set_same {S : List (Int × Int)} {f : Int → Option Int} (h : Lists S f) {id c : Int} (e : f id = some c) : ins (c, id) (Go.Proofs.Ytjfhghimldjcfaa.rem id S) = S := by
  have h2 := h.set id c
  refine srt_ext h2.1 h.1 (fun d => ?_)
  obtain ⟨t, k⟩ := d
  rw [← h2.2 k t, ← h.2 k t]
  by_cases hk : k = id
  · subst hk; rw [updf_at, e]
  · rw [updf_ne _ _ hk]
theorem Lists.tail {d : Int × Int} {S : List (Int × Int)} {f : Int → Option Int} (h : Lists (d :: S) f) : Lists S (updf f d.2 none) := by
  have p := List.pairwise_cons.1 h.1
  refine ⟨p.2, fun k t => ?_⟩
  by_cases hk : k = d.2
  · subst hk
    rw [updf_at]
    constructor
    · intro e; cases e
    intro hm
    have e1 := (h.2 d.2 t).2 (List.mem_cons_of_mem _ hm)
    have e2 := (h.2 d.2 d.1).2 (List.mem_cons_self ..)
    rw [e1] at e2
    cases e2
    exact absurd (p.1 _ hm) (dlt_irr _)
  · rw [updf_ne _ _ hk, h.2 k t]
    constructor
    · intro hm
      rcases List.mem_cons.1 hm with e | hm
      · exact absurd (by rw [← e]) hk
      · exact hm
    · exact List.mem_cons_of_mem _
theorem Lists.head {d : Int × Int} {S : List (Int × Int)} {f : Int → Option Int} (h : Lists (d :: S) f) : f d.2 = some d.1 := (h.2 d.2 d.1).2 (List.mem_cons_self ..)
/-- The one that stands in f and behind none of f stands first. -/
theorem Lists.first {S : List (Int × Int)} {f : Int → Option Int} (h : Lists S f) {d : Int × Int} (hd : f d.2 = some d.1) (hm : ∀ k t, f k = some t → ¬ dlt (t, k) d) : ∃ S', S = d :: S' := by
  cases S with
  | nil => have := (h.2 d.2 d.1).1 hd; cases this
  | cons x S' =>
    refine ⟨S', ?_⟩
    rcases List.mem_cons.1 ((h.2 d.2 d.1).1 hd) with e | hin
    · have e' : d = x := e
      rw [e']
    · have p := List.pairwise_cons.1 h.1
      exact absurd (p.1 _ hin) (hm x.2 x.1 h.head)
theorem Lists.none {S : List (Int × Int)} {f : Int → Option Int} (h : Lists S f) (hn : ∀ k, f k = none) : S = [] := by
  cases S with
  | nil => rfl
  | cons x S' => have := h.head; rw [hn] at this; cases this
end Go.Proofs.Ytjfhghimldjcfaa
