/-
  take of the package conf: route.
-/
import Derived.Test.YtafljoiblfhioaaGreatDoorSae
namespace Go.Proofs.YtafljoiblfhioaaGreatDoor
open Go.RowKit

set_option maxRecDepth 100000 in
set_option maxHeartbeats 8000000 in
theorem take_route (g : Nat) (a0 a2 a3 a4 a5 a6 a7 : Value) (w : World) (hG : Gl w)
    (hrow : w.heap[g]? = some (.cells #[a0, .slice none 0 0, a2, a3, a4, a5, a6, a7] 28 (0, 0))) :
    Calls Tryz.prog 29 #[.pointer (some ⟨g, 0, none⟩), .string ⟨#[114, 111, 117, 116, 101]⟩, .string ⟨#[47, 97, 32, 117, 32, 47, 110]⟩] w fun e w' => e = .returned (.bool true) ∧ Only (fun i => i = g) w w' ∧
      ∃ b c, w.heap.size ≤ b ∧ w'.heap[g]? = some (.cells #[a0, .slice (some ⟨b, 0, none⟩) 1 c, a2, a3, a4, a5, a6, a7] 28 (0, 0)) ∧ Row w' (some ⟨b, 0, none⟩) (rV [([47, 97], [117], [47, 110])]) := by
  go_enter Tryz.func29, Tryz.ntmps29
  go_wp2_with fail
  refine (strSplit_any 32 _ (by decide) w hG).mono ?_
  rintro e w2 ⟨A, c, rfl, HP, O⟩
  rw [show splitC 32 (⟨#[47, 97, 32, 117, 32, 47, 110]⟩ : ByteArray).data.toList = [[47, 97], [117], [47, 110]] by decide] at HP ⊢
  obtain ⟨gp, rfl, hgp1, hgp⟩ := Own.some_of HP (by decide)
  have HR := HP.row
  have hcap := (Own.cap HP).1
  have p0 : w2.cell? ⟨gp, 0, none⟩ = some (.string ⟨#[47, 97]⟩) := by obtain ⟨b, off, e, _, hc⟩ := str_at HR 0 _ rfl; cases e; exact hc
  have p1 : w2.cell? ⟨gp, 1, none⟩ = some (.string ⟨#[117]⟩) := by obtain ⟨b, off, e, _, hc⟩ := str_at HR 1 _ rfl; cases e; exact hc
  have p2 : w2.cell? ⟨gp, 2, none⟩ = some (.string ⟨#[47, 110]⟩) := by obtain ⟨b, off, e, _, hc⟩ := str_at HR 2 _ rfl; cases e; exact hc
  simp only [List.length_cons, List.length_nil, Nat.zero_add, Nat.reduceAdd] at hcap ⊢
  have H2 := O.keep hrow (fun h => h)
  have hwl := O.size
  have hg0 := b_lt hrow
  clear hrow hG HP HR
  obtain ⟨c0, c1, c2, c3, c4, c5, c6, c7⟩ := cells8 H2
  have hgl := b_lt H2
  have q5 := Only.refl (fun _ => False) w2
  have q6' := q5.alloc (.cells #[.string ⟨#[47, 97]⟩, .string ⟨#[117]⟩, .string ⟨#[47, 110]⟩] 54)
  have q1 := (q6'.cell (p := ⟨g, 1, none⟩) hgl (fun h => h)).trans c1
  clear c0 c2 c3 c4 c5 c6 c7 q6'
  go_upto_region 9 with (fail)
  go_region_law (refine step_nil rfl _ _ 24 54 _ 3 48 Tryz.underlying24 info_route rfl (by omega) (by omega) rfl rfl _ rfl [.string ⟨#[47, 97]⟩, .string ⟨#[117]⟩, .string ⟨#[47, 110]⟩] rfl (by decide) (b_drew (b_new _ _)) ?_; intro bn cn w3 h3 hb3 o3; have q6 := ((q5.alloc _).drew).trans o3; have H3 := q6.keep H2 (fun h => h); have q7 := b_cell H3 1; have q8 := b_free H3 1)
  all_goals
    have HS := b_set H3 1 (.slice (some ⟨bn, 0, none⟩) 1 cn)
    have OS := ((O.trans q6).mono' (T := fun i => i = g) (fun i hi => hi.elim)).setCell (p := ⟨g, 1, none⟩) (.inl rfl) (.slice (some ⟨bn, 0, none⟩) 1 cn)
    have hbw : w2.heap.size ≤ bn := Nat.le_trans ((q5.alloc _).drew).size hb3
    have hrow3 := h3.out.keep ((Only.refl (fun i => i = g) w3).setCell (p := ⟨g, 1, none⟩) (.inl rfl) (.slice (some ⟨bn, 0, none⟩) 1 cn)) (fun i hi => by obtain ⟨a, ha, e⟩ := hi; cases ha; simp only at e; omega)
    clear q1 q5 q6 q7 q8 H2 H3 h3 o3 p0 p1 p2
    go_wp2_with fail
    go_ret
    exact ⟨rfl, OS, bn, cn, by omega, HS, hrow3⟩
end Go.Proofs.YtafljoiblfhioaaGreatDoor
