/-
  append, at the walk: bytes and a string; bytes; texts; fields.
-/
import Derived.Test.YtafljoiblfhioaaGreatDoorE
namespace Go.Proofs.YtafljoiblfhioaaGreatDoor
open Go.RowKit

def bV (l : List UInt8) : List Value := l.map byteV
def sV (ss : List (List UInt8)) : List Value := ss.map fun s => .string (B s)
/-- A field: its name, its value. -/
abbrev FD := List UInt8 × List UInt8
def fV : List FD → List Value
  | [] => []
  | p :: t => .string (B p.1) :: .string (B p.2) :: fV t
theorem bV_app (a b : List UInt8) : bV (a ++ b) = bV a ++ bV b := by simp [bV]
theorem sV_app (a b : List (List UInt8)) : sV (a ++ b) = sV a ++ sV b := by simp [sV]
theorem fV_app : ∀ (a b : List FD), fV (a ++ b) = fV a ++ fV b
  | [], _ => rfl
  | p :: t, b => by simp [fV, fV_app t b]
theorem bV_len (a : List UInt8) : (bV a).length = a.length := by simp [bV]
theorem sV_len (a : List (List UInt8)) : (sV a).length = a.length := by simp [sV]
theorem fV_len : ∀ (a : List FD), (fV a).length = a.length * 2
  | [] => rfl
  | p :: t => by simp [fV, fV_len t]; omega
theorem bV_at (l : List UInt8) (i : Nat) (c : UInt8) (h : l[i]? = some c) : (bV l)[i]? = some (byteV c) := by simp [bV, h]
theorem sV_at (l : List (List UInt8)) (i : Nat) (c : List UInt8) (h : l[i]? = some c) : (sV l)[i]? = some (.string (B c)) := by simp [sV, h]
theorem fV_at : ∀ (l : List FD) (i : Nat) (c : FD), l[i]? = some c → (fV l)[i * 2]? = some (.string (B c.1)) ∧ (fV l)[i * 2 + 1]? = some (.string (B c.2))
  | p :: t, 0, c, h => by
    simp at h
    subst h
    exact ⟨rfl, rfl⟩
  | p :: t, i + 1, c, h => by
    have := fV_at t i c (by simpa using h)
    rw [show (i + 1) * 2 = i * 2 + 1 + 1 by omega]
    simpa [fV] using this
theorem bV_one (l : List UInt8) : ∀ u ∈ bV l, u.oneCell' = true := by
  intro u hu
  obtain ⟨b, _, rfl⟩ := List.mem_map.1 hu
  rfl
theorem sV_one (l : List (List UInt8)) : ∀ u ∈ sV l, u.oneCell' = true := by
  intro u hu
  obtain ⟨b, _, rfl⟩ := List.mem_map.1 hu
  rfl
theorem fV_one : ∀ (l : List FD), ∀ u ∈ fV l, u.oneCell' = true
  | [], u, h => by cases h
  | p :: t, u, h => by
    simp only [fV, List.mem_cons] at h
    rcases h with rfl | rfl | h
    · rfl
    · rfl
    · exact fV_one t u h
theorem strCells_bV (s : ByteArray) : Lib.strCells s = bV s.data.toList := rfl

theorem info_u8 : (Tryz.prog.info? 5).map (fun i => (i.zero, i.size, i.bytes)) = some (some (.int .u8 0), 1, 1) := by kernel_rfl
theorem info_str : (Tryz.prog.info? 9).map (fun i => (i.zero, i.size, i.bytes)) = some (some (.string ⟨#[]⟩), 1, 16) := by kernel_rfl
theorem info_fld : (Tryz.prog.info? 39).map (fun i => (i.zero, i.size, i.bytes)) = some (some (.agg #[.string ⟨#[]⟩, .string ⟨#[]⟩]), 2, 32) := by kernel_rfl
theorem info_split {P : Program} {e : TypeId} {z : Value} {a b : Nat} (h : (P.info? e).map (fun i => (i.zero, i.size, i.bytes)) = some (some z, a, b)) : ∃ i, P.info? e = some i ∧ i.zero = some z ∧ i.size = a ∧ i.bytes = b := by
  obtain ⟨i0, hi, hzz⟩ := Option.map_eq_some_iff.1 h
  simp only [Prod.mk.injEq] at hzz
  exact ⟨i0, hi, hzz.1, hzz.2.1, hzz.2.2⟩

/-- Bytes that the call owns, texts, fields. -/
def OwnB (w : World) (base : Nat) (A : Option Addr) (c : Nat) (l : List UInt8) : Prop := Own w base 5 1 A l.length c (bV l)
def OwnS (w : World) (base : Nat) (A : Option Addr) (c : Nat) (l : List (List UInt8)) : Prop := Own w base 9 1 A l.length c (sV l)
def OwnF (w : World) (base : Nat) (A : Option Addr) (c : Nat) (l : List FD) : Prop := Own w base 39 2 A l.length c (fV l)

section
variable {ops : Array Oper} {rest : List Oper} {o : Oper} {a : Act} {Q : Exit → Act → World → Prop} {W : World}

/-- append(out, s...), s a string. -/
theorem app_bs (hgd : o.guard = none) (sl x : Operand) (ho : o.op = .call { callee := .builtin .append, args := #[sl, x], argTypes := #[22, 9] })
    (base n cap : Nat) (A : Option Addr) (l : List UInt8) (s : ByteArray) (hl : l.length = n) (hs : a.eval sl = .slice A n cap) (hx : a.eval x = .string s)
    (HO : OwnB W base A cap l) (hbase : base ≤ W.heap.size) (hb : n + s.size ≤ 140737488355328)
    (h : ∀ A' cap' w1, Hid (OwnB w1 base A' cap' (l ++ s.data.toList)) → Hid (∀ i, ab A' i → ab A i ∨ W.heap.size ≤ i) → Only (ab A) W w1 → wpList Tryz.prog ops Q rest (a.put o.dst (.slice A' (n + s.size) cap')) w1) :
    wpList Tryz.prog ops Q (o :: rest) a W := by
  subst hl
  obtain ⟨i0, hi, hz0, hz1, hz2⟩ := info_split info_u8
  refine wpList_plain hgd fun K hK => ?_
  obtain ⟨A', c', w', hr, h2, h3, h4⟩ := run_app_str (P := Tryz.prog) W base 22 9 o.type 5 i0 Tryz.underlying22 Tryz.underlying9 hi hz0 hz1 hz2 A _ cap _ HO s hb hbase
  unfold Oper.wp execOp
  simp only [ho, resolve, invoke, builtin, Sem.run_bind, Sem.run_pure, Result.andThen_ok, List.map_toArray, List.map_cons, List.map_nil, hs, hx, hr]
  refine hK _ _ (h A' c' w' ?_ h4 h3)
  have e : (l ++ s.data.toList).length = l.length + s.size := by simp
  unfold OwnB Hid
  rw [e, bV_app]
  exact h2

/-- append(out, xs...). -/
theorem app_rows (hgd : o.guard = none) (sl x : Operand) (t e : TypeId) (z : Value) (k by_ : Nat) (ht : Tryz.prog.underlying t = some (.slice e)) (hinf : (Tryz.prog.info? e).map (fun i => (i.zero, i.size, i.bytes)) = some (some z, k, by_)) (hzk : z.cells.size = k) (hk : 0 < k) (hby : 0 < by_)
    (ho : o.op = .call { callee := .builtin .append, args := #[sl, x], argTypes := #[t, t] })
    (base n cap m c : Nat) (A S : Option Addr) (xs news : List Value) (hs : a.eval sl = .slice A n cap) (hx : a.eval x = .slice S m c)
    (HO : Own W base e k A n cap xs) (HS : Row W S news) (hln : news.length = m * k) (h1 : ∀ u ∈ news, u.oneCell' = true) (hnil : S = none → m = 0 ∧ c = 0) (hbase : base ≤ W.heap.size) (hb : (n + m) * by_ ≤ 140737488355328)
    (h : ∀ A' cap' w1, Own w1 base e k A' (n + m) cap' (xs ++ news) → Hid (∀ i, ab A' i → ab A i ∨ W.heap.size ≤ i) → Only (ab A) W w1 → wpList Tryz.prog ops Q rest (a.put o.dst (.slice A' (n + m) cap')) w1) :
    wpList Tryz.prog ops Q (o :: rest) a W := by
  obtain ⟨i0, hi, hz0, hz1, hz2⟩ := info_split hinf
  refine wpList_plain hgd fun K hK => ?_
  have h63 : n + m ≤ maxLen := by
    have : n + m ≤ (n + m) * by_ := Nat.le_mul_of_pos_right _ hby
    unfold maxLen
    omega
  obtain ⟨A', c', w', hr, h2, h3, h4⟩ := run_app_row (P := Tryz.prog) W base t o.type e i0 z k by_ ht hi hz0 hz1 hz2 hzk hk A n cap xs HO S m c news hln HS hnil h1 h63 hb hbase
  unfold Oper.wp execOp
  simp only [ho, resolve, invoke, builtin, Sem.run_bind, Sem.run_pure, Result.andThen_ok, List.map_toArray, List.map_cons, List.map_nil, hs, hx, hr]
  exact hK _ _ (h A' c' w' h2 h4 h3)

/-- append(out, xs...) of bytes. -/
theorem app_bb (hgd : o.guard = none) (sl x : Operand) (ho : o.op = .call { callee := .builtin .append, args := #[sl, x], argTypes := #[22, 22] })
    (base n cap m c : Nat) (A S : Option Addr) (l r : List UInt8) (hl : l.length = n) (hr : r.length = m) (hs : a.eval sl = .slice A n cap) (hx : a.eval x = .slice S m c)
    (HO : OwnB W base A cap l) (HS : Row W S (bV r)) (hnil : S = none → m = 0 ∧ c = 0) (hbase : base ≤ W.heap.size) (hb : n + m ≤ 140737488355328)
    (h : ∀ A' cap' w1, Hid (OwnB w1 base A' cap' (l ++ r)) → Hid (∀ i, ab A' i → ab A i ∨ W.heap.size ≤ i) → Only (ab A) W w1 → wpList Tryz.prog ops Q rest (a.put o.dst (.slice A' (n + m) cap')) w1) :
    wpList Tryz.prog ops Q (o :: rest) a W := by
  subst hl hr
  refine app_rows hgd sl x 22 5 (.int .u8 0) 1 1 Tryz.underlying22 info_u8 rfl (by omega) (by omega) ho base _ cap _ c A S _ _ hs hx HO HS (by rw [bV_len]; omega) (bV_one r) hnil hbase (by omega) ?_
  intro A' cap' w1 h2 h3 h4
  refine h A' cap' w1 ?_ h3 h4
  unfold OwnB Hid
  rw [List.length_append, bV_app]
  exact h2

/-- append(out, xs...) of texts. -/
theorem app_ss (hgd : o.guard = none) (sl x : Operand) (ho : o.op = .call { callee := .builtin .append, args := #[sl, x], argTypes := #[26, 26] })
    (base n cap m c : Nat) (A S : Option Addr) (l r : List (List UInt8)) (hl : l.length = n) (hr : r.length = m) (hs : a.eval sl = .slice A n cap) (hx : a.eval x = .slice S m c)
    (HO : OwnS W base A cap l) (HS : Row W S (sV r)) (hnil : S = none → m = 0 ∧ c = 0) (hbase : base ≤ W.heap.size) (hb : n + m ≤ 8796093022208)
    (h : ∀ A' cap' w1, Hid (OwnS w1 base A' cap' (l ++ r)) → Hid (∀ i, ab A' i → ab A i ∨ W.heap.size ≤ i) → Only (ab A) W w1 → wpList Tryz.prog ops Q rest (a.put o.dst (.slice A' (n + m) cap')) w1) :
    wpList Tryz.prog ops Q (o :: rest) a W := by
  subst hl hr
  refine app_rows hgd sl x 26 9 (.string ⟨#[]⟩) 1 16 Tryz.underlying26 info_str rfl (by omega) (by omega) ho base _ cap _ c A S _ _ hs hx HO HS (by rw [sV_len]; omega) (sV_one r) hnil hbase (by omega) ?_
  intro A' cap' w1 h2 h3 h4
  refine h A' cap' w1 ?_ h3 h4
  unfold OwnS Hid
  rw [List.length_append, sV_app]
  exact h2

/-- append(out, s), one text, which lies in a new block. -/
theorem app_s (hgd : o.guard = none) (sl x : Operand) (ho : o.op = .call { callee := .builtin .append, args := #[sl, x], argTypes := #[26, 26] })
    (base n cap : Nat) (A : Option Addr) (l : List (List UInt8)) (s : ByteArray) (hl : l.length = n) (hs : a.eval sl = .slice A n cap) (hx : a.eval x = .slice (some ⟨W.heap.size, 0, none⟩) 1 1)
    (HO : OwnS W base A cap l) (hbase : base ≤ W.heap.size) (hb : n + 1 ≤ 8796093022208)
    (h : ∀ A' cap' w1, Hid (OwnS w1 base A' cap' (l ++ [s.data.toList])) → Hid (∀ i, ab A' i → ab A i ∨ W.heap.size ≤ i) → Only (ab A) W w1 → wpList Tryz.prog ops Q rest (a.put o.dst (.slice A' (n + 1) cap')) w1) :
    wpList Tryz.prog ops Q (o :: rest) a (W.alloc (.cells #[.string s] 9)) := by
  have O1 : Only (fun _ => False) W (W.alloc (.cells #[.string s] 9)) := (Only.refl _ W).alloc _
  refine app_ss hgd sl x ho base n cap 1 1 A (some ⟨W.heap.size, 0, none⟩) l [s.data.toList] hl rfl hs hx (Own.same HO O1) ?_ (fun h => by cases h) (Nat.le_trans hbase O1.size) hb ?_
  · intro _
    refine ⟨W.heap.size, 0, rfl, by simp, fun j u hu => ?_⟩
    rw [b_cell (b_new W _), Nat.zero_add]
    simpa [sV] using hu
  · intro A' cap' w1 h2 h3 h4
    refine h A' cap' w1 h2 (hid fun i hi => ?_) ((O1.mono (T := ab A) (fun _ h => h.elim)).trans h4)
    rcases h3.out i hi with h | h
    · exact .inl h
    · simp at h
      exact .inr (by omega)

/-- append(fs, f), one field, which lies in a new block. -/
theorem app_f (hgd : o.guard = none) (sl x : Operand) (ho : o.op = .call { callee := .builtin .append, args := #[sl, x], argTypes := #[25, 25] })
    (base n cap : Nat) (A : Option Addr) (l : List FD) (s v : ByteArray) (hl : l.length = n) (hs : a.eval sl = .slice A n cap) (hx : a.eval x = .slice (some ⟨W.heap.size, 0, none⟩) 1 1)
    (HO : OwnF W base A cap l) (hbase : base ≤ W.heap.size) (hb : n + 1 ≤ 4398046511104)
    (h : ∀ A' cap' w1, Hid (OwnF w1 base A' cap' (l ++ [(s.data.toList, v.data.toList)])) → Hid (∀ i, ab A' i → ab A i ∨ W.heap.size ≤ i) → Only (ab A) W w1 → wpList Tryz.prog ops Q rest (a.put o.dst (.slice A' (n + 1) cap')) w1) :
    wpList Tryz.prog ops Q (o :: rest) a (W.alloc (.cells #[.string s, .string v] 39)) := by
  have O1 : Only (fun _ => False) W (W.alloc (.cells #[.string s, .string v] 39)) := (Only.refl _ W).alloc _
  subst hl
  refine app_rows hgd sl x 25 39 (.agg #[.string ⟨#[]⟩, .string ⟨#[]⟩]) 2 32 Tryz.underlying25 info_fld rfl (by omega) (by omega) ho base _ cap 1 1 A (some ⟨W.heap.size, 0, none⟩) _ (fV [(s.data.toList, v.data.toList)]) hs hx (Own.same HO O1) ?_ rfl (fV_one _) (fun h => by cases h) (Nat.le_trans hbase O1.size) (by omega) ?_
  · intro _
    refine ⟨W.heap.size, 0, rfl, by simp, fun j u hu => ?_⟩
    rw [b_cell (b_new W _), Nat.zero_add]
    simpa [fV] using hu
  · intro A' cap' w1 h2 h3 h4
    refine h A' cap' w1 ?_ (hid fun i hi => ?_) ((O1.mono (T := ab A) (fun _ h => h.elim)).trans h4)
    · unfold OwnF Hid
      rw [List.length_append, fV_app]
      exact h2
    · rcases h3.out i hi with h | h
      · exact .inl h
      · simp at h
        exact .inr (by omega)
end
end Go.Proofs.YtafljoiblfhioaaGreatDoor
