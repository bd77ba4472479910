/-
  A cell: what is told, a fresh job, what is forgotten.
-/
import Derived.Test.YtpblgjadpfecgaaGreatDoorFd
import Derived.Deep.RegionLaw
import Derived.Deep.AppendLies
set_option linter.unusedSimpArgs false
set_option linter.unusedVariables false
namespace Go.Proofs.YtpblgjadpfecgaaGreatDoor
open Go.RowKit Go.Maps

theorem cell_lt0 {w : World} {a : Addr} {v : Value} (h : w.cell? a = some v) : a.block < w.heap.size := by
  unfold World.cell? at h
  by_cases hb : a.block < w.heap.size
  · exact hb
  · rw [Array.getElem?_eq_none (by omega)] at h
    simp at h
theorem cell_all {w : World} {b : Nat} (hb : b < w.heap.size) (i : Nat) (v : Value) (h : w.cell? ⟨b, i, none⟩ = some v) : ∀ W, Only (fun _ => False) w W → W.cell? ⟨b, i, none⟩ = some v := fun _ o => (o.cell (p := ⟨b, i, none⟩) hb (fun h => h)).trans h
theorem free_all {w : World} {g : Nat} {t : TypeId} {cs : Array Value} (h : w.heap[g]? = some (.cells cs t (0, 0))) (i : Nat) : ∀ W, Only (fun _ => False) w W → W.frozen? ⟨g, i, none⟩ = false := fun _ o => b_free (o.keep h (fun h => h)) i
/-- append(xs, ys...), at a step of a region that draws its order. -/
theorem step_rows {ops : Array Oper} {o : Oper} {a : Act} {W : World} {K : Act → World → Prop} {Q : Exit → Act → World → Prop} {E : Prop} (hgd : o.guard = none) (sl x : Operand) (t e : TypeId) (z : Value) (k by_ : Nat) (ht : Tryz.prog.underlying t = some (.slice e)) (hinf : (Tryz.prog.info? e).map (fun i => (i.zero, i.size, i.bytes)) = some (some z, k, by_)) (hzk : z.cells.size = k) (hk : 0 < k) (hby : 0 < by_)
    (ho : o.op = .call { callee := .builtin .append, args := #[sl, x], argTypes := #[t, t] })
    (base n cap m c : Nat) (A S : Option Addr) (xs news : List Value) (hs : a.eval sl = .slice A n cap) (hx : a.eval x = .slice S m c)
    (HO : Own W base e k A n cap xs) (HS : Row W S news) (hln : news.length = m * k) (h1 : ∀ u ∈ news, u.oneCell' = true) (hnil : S = none → m = 0 ∧ c = 0) (hbase : base ≤ W.heap.size) (hb : (n + m) * by_ ≤ 140737488355328)
    (h : ∀ A' cap' w1, Hid (Own w1 base e k A' (n + m) cap' (xs ++ news)) → Hid (∀ i, ab A' i → ab A i ∨ W.heap.size ≤ i) → Only (ab A) W w1 → K (a.put o.dst (.slice A' (n + m) cap')) w1) :
    if Region.wanted o (yielded ops a.tmps) = true then Oper.wp Tryz.prog o a W K Q else E := by
  have hw : Region.wanted o (yielded ops a.tmps) = true := by simp [Region.wanted, hgd]
  rw [if_pos hw]
  obtain ⟨i0, hi, hz0, hz1, hz2⟩ := info_split hinf
  have h63 : n + m ≤ maxLen := by
    have : n + m ≤ (n + m) * by_ := Nat.le_mul_of_pos_right _ hby
    unfold maxLen
    omega
  obtain ⟨A', c', w', hr, h2, h3, h4⟩ := run_app_row (P := Tryz.prog) W base t o.type e i0 z k by_ ht hi hz0 hz1 hz2 hzk hk A n cap xs HO S m c news hln HS hnil h1 h63 hb hbase
  unfold Oper.wp execOp
  simp only [ho, resolve, invoke, builtin, Sem.run_bind, Sem.run_pure, Result.andThen_ok, List.map_toArray, List.map_cons, List.map_nil, hs, hx, hr]
  exact h A' c' w' h2 (hid h4) h3
theorem info_out : (Tryz.prog.info? 40).map (fun i => (i.zero, i.size, i.bytes)) = some (some (.agg #[.int .i64 0, .int .i64 0, .string ⟨#[]⟩, .int .i64 0, .string ⟨#[]⟩, .slice none 0 0]), 6, 80) := by kernel_rfl
/-- What lies in a block that has just been laid. -/
theorem row_of {W : World} {g : Nat} {l : List Value} {t : TypeId} {f : Nat × Nat} (H : W.heap[g]? = some (.cells l.toArray t f)) : Row W (some ⟨g, 0, none⟩) l := by
  intro _
  refine ⟨g, 0, rfl, b_lt H, fun j u hu => ?_⟩
  rw [b_cell' H, Nat.zero_add]
  simpa using hu

theorem two_new (w : World) (a b : Obj) : ((w.alloc a).alloc b).heap[w.heap.size + 1]? = some b := by
  have := b_new (w.alloc a) b
  simpa using this

section
variable {w : World} {d : CellD} {s : St} {G : Nat → Prop}
theorem CellIn.c0 (h : CellIn w d s G) : w.cell? ⟨d.cb, 0, none⟩ = some (.string sT) := b_cell h.row 0
theorem CellIn.c1 (h : CellIn w d s G) : w.cell? ⟨d.cb, 1, none⟩ = some (.slice (some ⟨d.hk, 0, none⟩) 1 d.hc) := b_cell h.row 1
theorem CellIn.c3 (h : CellIn w d s G) : w.cell? ⟨d.cb, 3, none⟩ = some (.int .i64 4) := b_cell h.row 3
theorem CellIn.c8 (h : CellIn w d s G) : w.cell? ⟨d.cb, 8, none⟩ = some (.pointer (some ⟨d.mb, 0, none⟩)) := b_cell h.row 8
theorem CellIn.c9 (h : CellIn w d s G) : w.cell? ⟨d.cb, 9, none⟩ = some (.map (some d.cm)) := b_cell h.row 9
theorem CellIn.c10 (h : CellIn w d s G) : w.cell? ⟨d.cb, 10, none⟩ = some (.map (some d.jm)) := b_cell h.row 10
theorem CellIn.c14 (h : CellIn w d s G) : w.cell? ⟨d.cb, 14, none⟩ = some (.pointer (some ⟨d.bb, 0, none⟩)) := b_cell h.row 14
theorem CellIn.c15 (h : CellIn w d s G) : w.cell? ⟨d.cb, 15, none⟩ = some (.pointer (some ⟨d.kb, 0, none⟩)) := b_cell h.row 15
theorem CellIn.c16 (h : CellIn w d s G) : w.cell? ⟨d.cb, 16, none⟩ = some (.pointer (some ⟨d.rb, 0, none⟩)) := b_cell h.row 16
theorem CellIn.c18 (h : CellIn w d s G) : w.cell? ⟨d.cb, 18, none⟩ = some (.slice none 0 0) := b_cell h.row 18
theorem CellIn.c25 (h : CellIn w d s G) : w.cell? ⟨d.cb, 25, none⟩ = some (.int .i64 s.seq) := b_cell h.row 25
theorem CellIn.c26 (h : CellIn w d s G) : w.cell? ⟨d.cb, 26, none⟩ = some (.slice s.OA s.os.length s.oc) := b_cell h.row 26
theorem CellIn.cf (h : CellIn w d s G) (i : Nat) : w.frozen? ⟨d.cb, i, none⟩ = false := b_free h.row i
theorem CellIn.k0 (h : CellIn w d s G) : w.cell? ⟨d.kb, 0, none⟩ = some (.int .i64 0) := b_cell h.clk 0
end

/-- The time. -/
theorem now_any {w : World} {d : CellD} {s : St} {G : Nat → Prop} (h : Hid (CellIn w d s G)) :
    Calls Tryz.prog 55 #[.pointer (some ⟨d.kb, 0, none⟩)] w fun e w' => e = .returned (.int .i64 0) ∧ w' = w := by
  have h0 := h.out.k0
  go_enter Tryz.func55, Tryz.ntmps55
  go_wp2_with fail
  go_ret
  exact ⟨rfl, rfl⟩

/-- What has been done is handed out. -/
theorem told_any {w : World} {d : CellD} {s : St} {G : Nat → Prop} (h : Hid (CellIn w d s G)) :
    Calls Tryz.prog 29 #[.pointer (some ⟨d.cb, 0, none⟩)] w fun e w' => e = .returned (.slice s.OA s.os.length s.oc) ∧ Hid (Turn w w' d s { s with OA := none, oc := 0, os := [] } G G) := by
  have h1 := h.out.c26
  have hf := h.out.cf 26
  go_enter Tryz.func29, Tryz.ntmps29
  go_wp2_with fail
  go_ret
  refine ⟨rfl, hid (Turn.own (seq' := s.seq) h.out ((Only.refl (· = d.cb) w).setCell (p := ⟨d.cb, 26, none⟩) (.inl rfl) _) ?_ (Own.nil _ _ _ _) (fun i hi => by obtain ⟨b, hb, _⟩ := hi; cases hb))⟩
  exact b_set h.out.row 26 _

set_option maxHeartbeats 1000000 in
/-- Something more is told. -/
theorem out_any {w : World} {d : CellD} {s : St} {G : Nat → Prop} (kind conn : Int) (A : Option Addr) (n c : Nat) (h : Hid (CellIn w d s G)) (hos : s.os.length ≤ 1000000) :
    Calls Tryz.prog 28 #[.pointer (some ⟨d.cb, 0, none⟩), .agg #[.int .i64 kind, .int .i64 conn, .string ⟨#[]⟩, .int .i64 0, .string ⟨#[]⟩, .slice A n c]] w fun e w' => ∃ OA' oc', e = .returned (.tuple #[]) ∧ Hid (Turn w w' d s { s with OA := OA', oc := oc', os := s.os ++ [(kind, conn, A, n, c)] } G G) := by
  have h0 := h.out.c0
  have h26 := h.out.c26
  have hf := h.out.cf 26
  have hcl := b_lt h.out.row
  have hne : ¬ ab s.OA d.cb := fun hi => (h.out.t7 hi).ne h.out.t1 (by decide) rfl
  have HO := hid h.out.outs
  obtain ⟨N, hN⟩ : ∃ N, s.os.length = N := ⟨_, rfl⟩
  rw [hN] at h26 HO hos
  replace hN := hid hN
  generalize hcb : d.cb = cb at h0 h26 hf hcl hne ⊢
  replace hcb := hid hcb
  go_enter Tryz.func28, Tryz.ntmps28
  go_upto_region 2 with (fail)
  go_region_law (first | (refine step_rows (by rfl) _ _ 31 40 _ 6 80 Tryz.underlying31 info_out rfl (by omega) (by omega) (by rfl) 0 N s.oc 1 1 s.OA (some ⟨w.heap.size + 1, 0, none⟩) (oV s.os) (oV [(kind, conn, A, n, c)]) (by rfl) (by rfl) (by exact Own.same HO.out (((Only.refl _ w).alloc _).alloc _).drew) (by exact row_of (l := oV [(kind, conn, A, n, c)]) (b_drew (two_new w _ _))) (by rfl) (oV_one _) (by intro h; cases h) (by omega) (by omega) ?_; intro OA' oc' w2 HO2 hA2 O2; have OO := ((((Only.refl _ w).alloc _).alloc _).drew).trans O2; have h26' := (OO.cell hcl hne).trans h26; have hf' := (World.frozen?_of_block (OO.block cb hcl hne)).trans hf))
  all_goals
    go_end0
    refine ⟨OA', oc', rfl, hid (Turn.out (seq' := s.seq) h.out OO ((Only.refl (· = d.cb) w2).setCell (p := ⟨cb, 26, none⟩) (.inl hcb.out.symm) _) ?_ ?_ (fun i hi => (hA2.out i hi).imp id (fun hh => Nat.le_trans (by simp; omega) hh)))⟩
    · have := b_set (OO.keep (hcb.out ▸ h.out.row) hne) 26 (.slice OA' (N + 1) oc')
      rw [hcb.out, this]
      unfold cellRow
      simp only [List.length_append, List.length_cons, List.length_nil, hN.out]
      rfl
    · rw [List.length_append, hN.out, oV_app]
      exact HO2.out

set_option maxRecDepth 100000 in
/-- A fresh job. -/
theorem fresh_any {w : World} {d : CellD} {s : St} {G : Nat → Prop} (id : Int) (m t : ByteArray) (h : Hid (CellIn w d s G)) :
    Calls Tryz.prog 27 #[.pointer (some ⟨d.cb, 0, none⟩), .int .i64 id, .string m, .string t] w fun e w' => ∃ j r1 r2, e = .returned (.pointer (some ⟨j, 0, none⟩)) ∧ w.heap.size ≤ j ∧
      w'.heap[j]? = some (.cells #[.int .i64 id, .string m, .string t, .int .i64 0, .bool false, .string ⟨#[]⟩, .slice none 0 0, .pointer (some ⟨r1, 0, none⟩), .pointer (some ⟨r2, 0, none⟩), .bool false, .int .i64 0, .int .i64 0, .string ⟨#[]⟩] 147 (0, 0)) ∧ Only (fun _ => False) w w' := by
  have h8 := h.out.c8
  have h15 := h.out.c15
  have hcl := b_lt h.out.row
  have hnow := fun (W : World) (o : Only (fun _ => False) w W) => now_any (hid (h.out.same o (fun _ h => h.elim)))
  generalize d.cb = cb at h8 h15 hcl ⊢
  replace hnow := hid hnow
  replace h8 := cell_all hcl _ _ h8
  replace h15 := cell_all hcl _ _ h15
  have O0 := Only.refl (fun _ => False) w
  go_enter Tryz.func27, Tryz.ntmps27
  go_upto_region 1 with (fail)
  go_region_held3 (fun w' => Only (fun _ => False) w w') (repeat (first | assumption | refine Only.drew ?_ | refine Only.alloc ?_ _))
    (first | (go_at_call 55; refine (hnow.out _ (by exact ⟨rfl, rfl, rfl, Nat.le_refl _, fun _ _ _ => rfl⟩)).mono ?_; rintro e w1 ⟨rfl, rfl⟩) | (go_at_call 49; refine (Rg.ringNew_any d.mb w1).mono ?_; rintro e w2 ⟨rfl, R2, O2⟩; have P2 := P1.trans O2) | (go_at_call 49; refine (Rg.ringNew_any d.mb w.drew).mono ?_; rintro e w1 ⟨rfl, R1, O1⟩; have P1 := O0.drew.trans O1))
  go_wp2_with fail
  go_ret
  refine ⟨w2.heap.size, w.heap.size, w1.heap.size, rfl, ?_, ?_, ?_⟩
  · exact P2.size
  · exact b_new w2 _
  · assumption

theorem zeroJ (w : World) : (zeroValue 77).run Tryz.prog w = .ok (.pointer none) w := by kernel_rfl
/-- No job is there. -/
theorem jobs_look {w : World} {b : Nat} (hb : w.heap[b]? = some (.map #[] 0)) {x : Int} (h0 : -9223372036854775808 ≤ x) (h1 : x ≤ 9223372036854775807) :
    (Instr.lookup 52 (.map (some b)) (.int .i64 x) false).run Tryz.prog w = .ok (.pointer none) w := by
  obtain ⟨D, h, hz, _, hno⟩ := mapC_of hb (fun _ => 0)
  have hh : has D (.int .i64 x) = false := by
    cases hc : has D (.int .i64 x) with
    | false => rfl
    | true =>
      obtain ⟨k, hk, _⟩ := (hno x).1 hc
      omega
  obtain ⟨v, ps, hrun, hv⟩ := h.lookup lawK Tryz.underlying52 (zeroJ w) (show cR (.pointer none) = some (.lit (.bool false), []) from rfl) (keyI h0 h1)
  rw [hrun]
  have hat : D.atKey (.int .i64 x) (.lit (.bool false)) = .lit (.bool false) := atKey_of_not_has hh _
  rw [hat] at hv
  unfold cR at hv
  split at hv
  · simp at hv
  · rfl
  · cases hv

/-- A job of which nothing is known is forgotten. -/
theorem forget_any {w : World} {d : CellD} {s : St} {G : Nat → Prop} (j : Nat) (id : Int) (h : Hid (CellIn w d s G)) (hj : w.cell? ⟨j, 0, none⟩ = some (.int .i64 id)) (h0 : -9223372036854775808 ≤ id) (h1 : id ≤ 9223372036854775807) :
    Calls Tryz.prog 113 #[.pointer (some ⟨d.cb, 0, none⟩), .pointer (some ⟨j, 0, none⟩)] w fun e w' => e = .returned (.tuple #[]) ∧ Only (fun _ => False) w w' := by
  have h10 := h.out.c10
  have hjb := h.out.job
  have hcl := b_lt h.out.row
  have hl : ∀ W, Only (fun _ => False) w W → (Instr.lookup 52 (.map (some d.jm)) (.int .i64 id) false).run Tryz.prog W = .ok (.pointer none) W := fun W o => jobs_look (o.keep hjb (fun h => h)) h0 h1
  clear hjb
  generalize d.cb = cb at h10 hcl ⊢
  have hjl := cell_lt0 hj
  replace h10 := cell_all hcl _ _ h10
  replace hj := cell_all hjl _ _ hj
  have O0 := Only.refl (fun _ => False) w
  go_enter Tryz.func113, Tryz.ntmps113
  go_upto_region 0 with (fail)
  have hq : ∀ W, (binOp BinOp.neq 77 (.pointer none) (.pointer (some ⟨j, 0, none⟩))).run Tryz.prog W = .ok (.bool true) W := fun W => by kernel_rfl
  have hl1 := hl w.drew O0.drew
  have j1 := hj w.drew O0.drew
  have c1 := h10 w.drew O0.drew
  replace hl := hid hl
  replace hj := hid hj
  replace h10 := hid h10
  go_region
  go_wp2_with fail
  refine bodyPost_ret (results_none rfl _ _ _) rfl ?_
  exact ⟨rfl, O0.drew⟩

/-- How much is held. -/
theorem heldc_any {w : World} {d : CellD} {s : St} {G : Nat → Prop} (h : Hid (CellIn w d s G)) :
    Calls Tryz.prog 8 #[.pointer (some ⟨d.cb, 0, none⟩)] w fun e w' => e = .returned (.int .i64 s.H) ∧ w' = w := by
  have h8 := h.out.c8
  have hh := Rg.rs_held h.out.rs
  go_enter Tryz.func8, Tryz.ntmps8
  go_wp2_with fail
  refine hh.mono ?_
  rintro e w1 ⟨rfl, rfl⟩
  go_wp2_with fail
  go_ret
  exact ⟨rfl, rfl⟩

theorem zeroX (w : World) : (zeroValue 71).run Tryz.prog w = .ok (.pointer none) w := by kernel_rfl
/-- What the connections' map gives. -/
theorem MapC.look {w : World} {b n : Nat} {xb : Nat → Nat} (h : MapC w b n xb) (k : Nat) (hk : k < n) (hb : n ≤ 1000) :
    (Instr.lookup 51 (.map (some b)) (.int .i64 (k + 1)) false).run Tryz.prog w = .ok (.pointer (some ⟨xb k, 0, none⟩)) w := by
  obtain ⟨D, h1, h2, h3, h4⟩ := h
  have hat := h3 k hk
  obtain ⟨v, ps, hrun, hv⟩ := h1.lookup lawK Tryz.underlying51 (zeroX w) (show cR (.pointer none) = some (.lit (.bool false), []) from rfl) (keyI (x := (k : Int) + 1) (by omega) (by omega))
  rw [hrun]
  rw [hat] at hv
  unfold cR at hv
  split at hv
  · simp only [Option.some.injEq, Prod.mk.injEq, DataW.agg.injEq, List.cons.injEq, DataW.lit.injEq, Lit.int.injEq, true_and, and_true] at hv
    obtain ⟨⟨h1, h2⟩, _⟩ := hv
    rw [Int.ofNat_inj.1 h1, Int.ofNat_inj.1 h2]
  · simp at hv
  · cases hv
theorem MapC.look2 {w : World} {b n : Nat} {xb : Nat → Nat} (h : MapC w b n xb) (k : Nat) (hk : k < n) (hb : n ≤ 1000) :
    (Instr.lookup 51 (.map (some b)) (.int .i64 (k + 1)) true).run Tryz.prog w = .ok (.tuple #[.pointer (some ⟨xb k, 0, none⟩), .bool true]) w := by
  obtain ⟨D, h1, h2, h3, h4⟩ := h
  have hat := h3 k hk
  have hhas := (h4 ((k : Int) + 1)).2 ⟨k, hk, rfl⟩
  obtain ⟨v, ps, hrun, hv⟩ := h1.look_ok lawK Tryz.underlying51 (zeroX w) (show cR (.pointer none) = some (.lit (.bool false), []) from rfl) (keyI (x := (k : Int) + 1) (by omega) (by omega))
  rw [hrun, hhas]
  rw [hat] at hv
  unfold cR at hv
  split at hv
  · simp only [Option.some.injEq, Prod.mk.injEq, DataW.agg.injEq, List.cons.injEq, DataW.lit.injEq, Lit.int.injEq, true_and, and_true] at hv
    obtain ⟨⟨h1, h2⟩, _⟩ := hv
    rw [Int.ofNat_inj.1 h1, Int.ofNat_inj.1 h2]
  · simp at hv
  · cases hv
theorem MapC.len {w : World} {b n : Nat} {xb : Nat → Nat} (h : MapC w b n xb) (ty : TypeId) : (Builtin.len_ #[51] ty #[.map (some b)]).run Tryz.prog w = .ok (.int .i64 n) w := by
  obtain ⟨D, h1, h2, _⟩ := h
  rw [h1.len Tryz.underlying51 ty, h2]
/-- One more connection is put in. -/
theorem mapc_put {ops : Array Oper} {rest : List Oper} {o : Oper} {a : Act} {Q : Exit → Act → World → Prop} (w : World) (hg : o.guard = none) (m x v : Operand) (hop : o.op = Op.mapUpdate 51 m x v)
    (b n : Nat) (xb : Nat → Nat) (hm : a.eval m = .map (some b)) (hx : a.eval x = .int .i64 (n + 1)) (hv : a.eval v = .pointer (some ⟨xb n, 0, none⟩)) (h : MapC w b n xb) (hn : n ≤ 1000)
    (hK : ∀ w', Hid (MapC w' b (n + 1) xb) → Only (· = b) w w' → wpList Tryz.prog ops Q rest (a.put o.dst undef) w') : wpList Tryz.prog ops Q (o :: rest) a w := by
  obtain ⟨D, h, hz, r1, r2⟩ := h
  refine wpList_mapUpdate_own w hg m x v _ hop 3 71 lawK Tryz.underlying51 cR b n D hm h (by unfold maxLen; omega) (.int .i64 (n + 1)) (.pointer (some ⟨xb n, 0, none⟩)) (.int .i64 (n + 1)) hx hv (keyI (by omega) (by omega)) (.agg [.lit (.int .i64 (xb n)), .lit (.int .i64 (0 : Nat))]) [] rfl ?_
  have hD : IsMap D := h.isMap
  have hT : Tidy D := h.tidy lawK
  have hno : has D (.int .i64 (n + 1)) = false := by
    cases hc : has D (.int .i64 (n + 1)) with
    | false => rfl
    | true =>
      obtain ⟨k, hk, e⟩ := (r2 _).1 hc
      omega
  intro w' h' hgr
  refine hK w' ⟨_, h', ?_, fun k hk => ?_, fun j => ?_⟩ (by
    exact (Only.refl _ w).grown hgr (fun k hk => by cases hk; exact .inl rfl))
  · rw [size_put hT, hno, hz]; rfl
  · rcases Nat.decEq k n with hne | rfl
    · have hne' : (Lit.int .i64 ((k : Int) + 1)) ≠ (Lit.int .i64 ((n : Int) + 1)) := fun e => hne (by injection e with _ e; omega)
      rw [atKey_put_other hne']
      exact r1 k (by omega)
    · rw [atKey_put_same hD (isKeyI _)]
  · by_cases hj : j = (n : Int) + 1
    · subst hj
      rw [has_put_same hD (isKeyI _)]
      exact ⟨fun _ => ⟨n, by omega, rfl⟩, fun _ => rfl⟩
    · have hne' : (Lit.int .i64 j) ≠ (Lit.int .i64 ((n : Int) + 1)) := fun e => hj (by injection e)
      rw [has_put_other hne', r2 j]
      constructor
      · rintro ⟨k, hk, e⟩; exact ⟨k, by omega, e⟩
      · rintro ⟨k, hk, e⟩; exact ⟨k, by omega, e⟩
end Go.Proofs.YtpblgjadpfecgaaGreatDoor
