/-
  take of the package conf: up, route, set.
-/
import Derived.Test.YtafljoiblfhioaaGreatDoorSad
import Derived.Deep.RegionLaw
import Derived.Deep.AppendLies
namespace Go.Proofs.YtafljoiblfhioaaGreatDoor
open Go.RowKit

theorem info_up : (Tryz.prog.info? 52).map (fun i => (i.zero, i.size, i.bytes)) = some (some (.agg #[.string ⟨#[]⟩, .slice none 0 0]), 2, 40) := by kernel_rfl
theorem info_route : (Tryz.prog.info? 54).map (fun i => (i.zero, i.size, i.bytes)) = some (some (.agg #[.string ⟨#[]⟩, .string ⟨#[]⟩, .string ⟨#[]⟩]), 3, 48) := by kernel_rfl

/-- append(nil, x), at a step of a region that draws its order. -/
theorem step_nil {ops : Array Oper} {o : Oper} {a : Act} {W : World} {K : Act → World → Prop} {Q : Exit → Act → World → Prop} {E : Prop} (hgd : o.guard = none) (sl x : Operand) (t e : TypeId) (z : Value) (size bytes : Nat) (ht : Tryz.prog.underlying t = some (.slice e))
    (hi0 : (Tryz.prog.info? e).map (fun i => (i.zero, i.size, i.bytes)) = some (some z, size, bytes)) (hzs : z.cells.size = size) (hsz : 0 < size) (hby : bytes ≤ 1000) (ho : o.op = .call { callee := .builtin .append, args := #[sl, x], argTypes := #[t, t] })
    (hs : a.eval sl = .slice none 0 0) (g : Nat) (hx : a.eval x = .slice (some ⟨g, 0, none⟩) 1 1) (news : List Value) (hl : news.length = size) (h1 : ∀ u ∈ news, u.oneCell' = true) (hg : W.heap[g]? = some (.cells news.toArray e (0, 0)))
    (h : ∀ b cap w1, Hid (Row w1 (some ⟨b, 0, none⟩) news) → W.heap.size ≤ b → Only (fun _ => False) W w1 → K (a.put o.dst (.slice (some ⟨b, 0, none⟩) 1 cap)) w1) :
    if Region.wanted o (yielded ops a.tmps) = true then Oper.wp Tryz.prog o a W K Q else E := by
  have hw : Region.wanted o (yielded ops a.tmps) = true := by simp [Region.wanted, hgd]
  rw [if_pos hw]
  obtain ⟨i0, hi, hz0, hz1, hz2⟩ := info_split hi0
  have HS : Row W (some ⟨g, 0, none⟩) news := by
    intro _
    refine ⟨g, 0, rfl, b_lt hg, fun j u hu => ?_⟩
    rw [b_cell hg, Nat.zero_add]
    simpa using hu
  obtain ⟨A', c', w', hr, h2, h3, h4⟩ := run_app_row (P := Tryz.prog) W W.heap.size t o.type e i0 z size bytes ht hi hz0 hz1 hz2 hzs hsz none 0 0 [] (Own.nil W _ e size) (some ⟨g, 0, none⟩) 1 1 news (by omega) HS (fun h => by cases h) h1 (by unfold maxLen; omega) (by omega) (Nat.le_refl _)
  rw [Nat.zero_add] at hr h2
  obtain ⟨b, rfl, hb1, hb2⟩ := Own.some_of h2 (by omega)
  unfold Oper.wp execOp
  simp only [ho, resolve, invoke, builtin, Sem.run_bind, Sem.run_pure, Result.andThen_ok, List.map_toArray, List.map_cons, List.map_nil, hs, hx, hr]
  exact h b c' w' (by have := h2.row; rw [List.nil_append] at this; exact this) hb1 (h3.mono (fun i hi => by obtain ⟨a, ha, _⟩ := hi; cases ha))

section
variable {ops : Array Oper} {rest : List Oper} {o : Oper} {a : Act} {Q : Exit → Act → World → Prop} {W : World}
/-- append(nil, x). -/
theorem app_nil (hgd : o.guard = none) (sl x : Operand) (t e : TypeId) (z : Value) (size bytes : Nat) (ht : Tryz.prog.underlying t = some (.slice e))
    (hi0 : (Tryz.prog.info? e).map (fun i => (i.zero, i.size, i.bytes)) = some (some z, size, bytes)) (hzs : z.cells.size = size) (hsz : 0 < size) (hby0 : 0 < bytes) (hby : bytes ≤ 1000) (ho : o.op = .call { callee := .builtin .append, args := #[sl, x], argTypes := #[t, t] })
    (hs : a.eval sl = .slice none 0 0) (g : Nat) (hx : a.eval x = .slice (some ⟨g, 0, none⟩) 1 1) (news : List Value) (hl : news.length = size) (h1 : ∀ u ∈ news, u.oneCell' = true) (hg : W.heap[g]? = some (.cells news.toArray e (0, 0)))
    (h : ∀ b cap w1, Hid (Row w1 (some ⟨b, 0, none⟩) news) → W.heap.size ≤ b → Only (fun _ => False) W w1 → wpList Tryz.prog ops Q rest (a.put o.dst (.slice (some ⟨b, 0, none⟩) 1 cap)) w1) :
    wpList Tryz.prog ops Q (o :: rest) a W := by
  have HS : Row W (some ⟨g, 0, none⟩) news := by
    intro _
    refine ⟨g, 0, rfl, b_lt hg, fun j u hu => ?_⟩
    rw [b_cell hg, Nat.zero_add]
    simpa using hu
  refine app_rows hgd sl x t e z size bytes ht hi0 hzs hsz hby0 ho W.heap.size 0 0 1 1 none (some ⟨g, 0, none⟩) [] news hs hx (Own.nil W _ e size) HS (by omega) h1 (fun h => by cases h) (Nat.le_refl _) (by omega) ?_
  intro A' c' w' h2 h3 h4
  rw [Nat.zero_add] at h2
  obtain ⟨b, rfl, hb1, hb2⟩ := Own.some_of h2 (by omega)
  rw [Nat.zero_add]
  exact h b c' w' (by have := h2.row; rw [List.nil_append] at this; exact this) hb1 (h4.mono (fun i hi => by obtain ⟨a, ha, _⟩ := hi; cases ha))
end
section
variable (g : Nat) (w : World)
/-- What holds in all worlds in which nothing that was there has turned. -/
theorem grow_all (w : World) : (∀ W, Only (fun _ => False) w W → Only (fun _ => False) w W.drew) ∧ (∀ W o, Only (fun _ => False) w W → Only (fun _ => False) w (W.alloc o)) := ⟨fun _ h => h.drew, fun _ o h => h.alloc o⟩
theorem cell_all {w : World} {b : Nat} (hb : b < w.heap.size) (i : Nat) (v : Value) (h : w.cell? ⟨b, i, none⟩ = some v) : ∀ W, Only (fun _ => False) w W → W.cell? ⟨b, i, none⟩ = some v := fun _ o => (o.cell (p := ⟨b, i, none⟩) hb (fun h => h)).trans h
/-- In all worlds in which no block has turned but g. -/
theorem cell_but {w : World} {b g : Nat} (hb : b < w.heap.size) (hne : b ≠ g) (i : Nat) (v : Value) (h : w.cell? ⟨b, i, none⟩ = some v) : ∀ W, Only (fun k => k = g) w W → W.cell? ⟨b, i, none⟩ = some v := fun _ o => (o.cell (p := ⟨b, i, none⟩) hb hne).trans h
theorem free_all {w : World} {g : Nat} {t : TypeId} {cs : Array Value} (h : w.heap[g]? = some (.cells cs t (0, 0))) (i : Nat) : ∀ W, Only (fun _ => False) w W → W.frozen? ⟨g, i, none⟩ = false := fun _ o => b_free (o.keep h (fun h => h)) i
end

set_option maxRecDepth 100000 in
set_option maxHeartbeats 1000000 in
theorem take_set (g : Nat) (a0 a1 a3 a4 a5 a6 a7 : Value) (w : World) (hG : Gl w)
    (hrow : w.heap[g]? = some (.cells #[a0, a1, .slice none 0 0, a3, a4, a5, a6, a7] 28 (0, 0))) :
    Calls Tryz.prog 29 #[.pointer (some ⟨g, 0, none⟩), .string ⟨#[115, 101, 116]⟩, .string ⟨#[88, 32, 121]⟩] w fun e w' => e = .returned (.bool true) ∧ Only (fun i => i = g) w w' ∧
      ∃ b c, w.heap.size ≤ b ∧ w'.heap[g]? = some (.cells #[a0, a1, .slice (some ⟨b, 0, none⟩) 1 c, a3, a4, a5, a6, a7] 28 (0, 0)) ∧ Row w' (some ⟨b, 0, none⟩) (fV [([88], [121])]) := by
  go_enter Tryz.func29, Tryz.ntmps29
  go_wp2_with fail
  refine (strSplit_any 32 _ (by decide) w hG).mono ?_
  rintro e w1 ⟨A, c, rfl, HP, O1⟩
  generalize splitC 32 _ = sp at *
  clear HP
  have hG1 := hG.same O1
  obtain ⟨m, hm⟩ := hG1.max
  go_wp2_with fail
  refine (Tryz.strings_Cut ⟨#[88, 32, 121]⟩ ⟨#[32]⟩ m w1 (by decide) hm).mono ?_
  rintro e w2 ⟨rfl, k, rfl⟩
  rw [show Lib.cut (⟨#[88, 32, 121]⟩ : ByteArray).data.toList (⟨#[32]⟩ : ByteArray).data.toList = ([88], [121], true) by decide]
  have O := O1.drewN k
  have H2 := O.keep hrow (fun h => h)
  have hwl := O.size
  generalize w1.drewN k = w2 at *
  clear hrow O1 hG hm hG1
  obtain ⟨c0, c1, c2, c3, c4, c5, c6, c7⟩ := cells8 H2
  have hgl := b_lt H2
  have q1 := cell_all hgl 2 _ c2
  have q2 := free_all H2 2
  obtain ⟨q3, q4⟩ := grow_all w2
  have q5 := Only.refl (fun _ => False) w2
  clear c0 c1 c2 c3 c4 c5 c6 c7
  go_upto_region 13 with (fail)
  go_wp2_with (first | (at_builtin; refine app_nil rfl _ _ 25 39 _ 2 32 Tryz.underlying25 info_fld rfl (by omega) (by omega) (by omega) rfl rfl _ rfl [.string ⟨#[88]⟩, .string ⟨#[121]⟩] rfl (by decide) (b_new _ _) ?_; intro bn cn w3 h3 hb3 o3; have q6 := (q5.alloc _).trans o3) | fail)
  have H3 := q6.keep H2 (fun h => h)
  have HS := b_set H3 2 (.slice (some ⟨bn, 0, none⟩) 1 cn)
  have OS := ((O.trans q6).mono' (T := fun i => i = g) (fun i hi => hi.elim)).setCell (p := ⟨g, 2, none⟩) (.inl rfl) (.slice (some ⟨bn, 0, none⟩) 1 cn)
  have hbw : w2.heap.size < bn := by
    have : (w2.alloc (.cells #[.string ⟨#[88]⟩, .string ⟨#[121]⟩] 39)).heap.size = w2.heap.size + 1 := by simp
    omega
  have hrow3 := h3.out.keep ((Only.refl (fun i => i = g) w3).setCell (p := ⟨g, 2, none⟩) (.inl rfl) (.slice (some ⟨bn, 0, none⟩) 1 cn)) (fun i hi => by obtain ⟨a, ha, e⟩ := hi; cases ha; simp only at e; omega)
  clear q1 q2 q3 q4 q5 q6 H2 H3 h3 o3
  go_ret
  exact ⟨rfl, OS, bn, cn, by omega, HS, hrow3⟩
end Go.Proofs.YtafljoiblfhioaaGreatDoor
