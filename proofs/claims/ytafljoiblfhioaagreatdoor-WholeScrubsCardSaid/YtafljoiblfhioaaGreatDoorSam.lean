/-
  take of the package conf: up.
-/
import Derived.Test.YtafljoiblfhioaaGreatDoorSae
namespace Go.Proofs.YtafljoiblfhioaaGreatDoor
open Go.RowKit

set_option maxRecDepth 100000 in
set_option maxHeartbeats 8000000 in
theorem take_up (g : Nat) (a1 a2 a3 a4 a5 a6 a7 : Value) (w : World) (hG : Gl w)
    (hrow : w.heap[g]? = some (.cells #[.slice none 0 0, a1, a2, a3, a4, a5, a6, a7] 28 (0, 0))) :
    Calls Tryz.prog 29 #[.pointer (some ⟨g, 0, none⟩), .string ⟨#[117, 112]⟩, .string ⟨#[117, 32, 97]⟩] w fun e w' => e = .returned (.bool true) ∧ Only (fun i => i = g) w w' ∧
      ∃ b c A2 c2, w.heap.size ≤ b ∧ w'.heap[g]? = some (.cells #[.slice (some ⟨b, 0, none⟩) 1 c, a1, a2, a3, a4, a5, a6, a7] 28 (0, 0)) ∧ Row w' (some ⟨b, 0, none⟩) (uV [(([117], [[97]]), A2, c2)]) ∧ Row w' A2 (sV [[97]]) ∧ (∀ i, ab A2 i → w.heap.size ≤ i) := by
  have heC : ∀ args w, (callFunc 19 args).run Tryz.prog w = .ok (.enter 19 args) w := Go.Proofs.enters_of Tryz.func19 (by kernel_rfl) rfl
  go_enter Tryz.func29, Tryz.ntmps29
  go_wp2_with fail
  refine (strSplit_any 32 _ (by decide) w hG).mono ?_
  rintro e w2 ⟨A, c, rfl, HP, O⟩
  rw [show splitC 32 (⟨#[117, 32, 97]⟩ : ByteArray).data.toList = [[117], [97]] by decide] at HP ⊢
  obtain ⟨gp, rfl, hgp1, hgp⟩ := Own.some_of HP (by decide)
  have HR := HP.row
  have hcap := (Own.cap HP).1
  have p0 : w2.cell? ⟨gp, 0, none⟩ = some (.string ⟨#[117]⟩) := by obtain ⟨b, off, e, _, hc⟩ := str_at HR 0 _ rfl; cases e; exact hc
  have p1 : w2.cell? ⟨gp, 1, none⟩ = some (.string ⟨#[97]⟩) := by obtain ⟨b, off, e, _, hc⟩ := str_at HR 1 _ rfl; cases e; exact hc
  have HR1 : Row w2 (some ⟨gp, 1, none⟩) (sV [[97]]) := by
    intro _
    refine ⟨gp, 1, rfl, hgp, fun j u hu => ?_⟩
    match j, hu with
    | 0, hu =>
      simp only [sV, List.map_cons, List.map_nil, List.getElem?_cons_zero, Option.some.injEq] at hu
      rw [← hu]
      exact p1
    | j + 1, hu => simp [sV] at hu
  simp only [List.length_cons, List.length_nil, Nat.zero_add, Nat.reduceAdd] at hcap ⊢
  have hc1 : ¬ c = 1 := by omega
  have H2 := O.keep hrow (fun h => h)
  have hwl := O.size
  have hg0 := b_lt hrow
  clear hrow hG HP HR p1
  obtain ⟨c0, c1, c2, c3, c4, c5, c6, c7⟩ := cells8 H2
  have hgl := b_lt H2
  have hcl := fun W (o : Only (fun _ => False) w2 W) => sclone_any (some ⟨gp, 1, none⟩) 1 (c - 1) [[97]] W rfl (HR1.same o) (fun h => by cases h) (by decide)
  replace hcl := hid hcl
  clear c1 c2 c3 c4 c5 c6 c7
  replace HR1 := hid HR1
  go_upto_region 4 with (fail)
  go_region_law (first
    | (refine step_callx (by rfl) 19 _ _ (by rfl) heC _ (by rfl) (fun r W' => ∃ A2 c2, r = .slice A2 1 c2 ∧ OwnS W' w2.heap.size A2 c2 [[97]] ∧ Only (fun _ => False) w2 W') ((hcl.out _ (by exact ⟨rfl, rfl, rfl, Nat.le_refl _, fun _ _ _ => rfl⟩)).mono (fun e W' h => by obtain ⟨A2, c2, h1, h2, h3⟩ := h; exact ⟨_, h1, A2, c2, rfl, h2, ⟨h3.os, h3.tape, h3.output, h3.size, h3.block⟩⟩)) ?_; rintro _ w3 ⟨A2, k2, rfl, HC, O3⟩; have H3 := O3.keep H2 (fun h => h); have r1 := b_cell H3 0; have r2 := (O3.cell (p := ⟨gp, 0, none⟩) hgp (fun h => h)).trans p0; have r3 := b_cell (b_alloc H3 (.cells #[.string ⟨#[117]⟩, .slice A2 1 k2] 52)) 0)
    | (refine step_nil rfl _ _ 23 52 _ 2 40 Tryz.underlying23 info_up rfl (by omega) (by omega) rfl rfl _ rfl [.string ⟨#[117]⟩, .slice A2 1 k2] rfl (by intro u hu; simp at hu; rcases hu with rfl | rfl <;> rfl) (b_new _ _) ?_; intro bn cn w4 h4 hb4 o4; have q6 := ((Only.refl (fun _ => False) w3).alloc (.cells #[.string ⟨#[117]⟩, .slice A2 1 k2] 52)).trans o4; have H4 := q6.keep H3 (fun h => h); have q7 := b_cell H4 0; have q8 := b_free H4 0))
  all_goals
    have HS := b_set H4 0 (.slice (some ⟨bn, 0, none⟩) 1 cn)
    have OS := (((O.trans O3).trans q6).mono' (T := fun i => i = g) (fun i hi => hi.elim)).setCell (p := ⟨g, 0, none⟩) (.inl rfl) (.slice (some ⟨bn, 0, none⟩) 1 cn)
    have hs3 : w2.heap.size ≤ w3.heap.size := O3.size
    have hbw : w3.heap.size ≤ bn := Nat.le_trans ((Only.refl (fun _ => False) w3).alloc (.cells #[.string ⟨#[117]⟩, .slice A2 1 k2] 52)).size hb4
    have oS := (Only.refl (fun i => i = g) w4).setCell (p := ⟨g, 0, none⟩) (.inl rfl) (.slice (some ⟨bn, 0, none⟩) 1 cn)
    have hrow4 := h4.out.keep oS (fun i hi => by obtain ⟨a, ha, e⟩ := hi; cases ha; simp only at e; omega)
    have hbl := HC.blk
    have hA2 := (HC.row.same q6).keep oS (fun i hi e => by have := (hbl i hi).1; omega)
    have hA3 : ∀ i, ab A2 i → w.heap.size ≤ i := fun i hi => by have := (hbl i hi).1; omega
    clear r1 r2 r3 q6 q7 q8 H2 H3 H4 h4 o4 oS p0 hbl HC c0
    go_wp2_with fail
    go_ret
    have hbw2 : w.heap.size ≤ bn := by omega
    first | exact ⟨rfl, OS, bn, hbw2, ⟨cn, HS⟩, A2, ⟨k2, hrow4⟩, hA2, hA3⟩ | exact ⟨rfl, OS, bn, hbw2, ⟨cn, HS⟩, A2, k2, hrow4, hA2, hA3⟩ | exact ⟨rfl, OS, bn, cn, A2, k2, hbw2, HS, hrow4, hA2, hA3⟩
end Go.Proofs.YtafljoiblfhioaaGreatDoor
