/-
  soundScrub: a request is led and scrubbed.
-/
import Derived.Test.YtafljoiblfhioaaGreatDoorSaf
import Derived.Test.YtafljoiblfhioaaGreatDoorSab
import Derived.Test.YtafljoiblfhioaaGreatDoorSah
namespace Go.Proofs.YtafljoiblfhioaaGreatDoor
open Go.RowKit

set_option maxRecDepth 100000 in
set_option maxHeartbeats 2000000 in
theorem soundScrub_any (w : World) (hG : Gl w) : Calls Tryz.prog 4 #[] w fun e w' => e = .returned (.bool true) ∧ Only (fun _ => False) w w' := by
  go_enter Tryz.func4, Tryz.ntmps4
  go_wp2_with fail
  refine (read_ex _ rfl w hG).mono ?_
  rintro e w1 ⟨x, rfl, hcf, hX, hSn, hDn, O1⟩
  obtain ⟨us, rs, set, drop, U, uc, R, rc, SA, sc, DA, dc, t1, t2, t3, t4⟩ := x
  unfold CM.cf exConf at hcf
  simp only [CF.mk.injEq] at hcf
  obtain ⟨hus, rfl, rfl, rfl, rfl, rfl, rfl, rfl⟩ := hcf
  have hul : us.length = 1 := by
    have := congrArg List.length hus
    simpa using this
  have hR := hX.rts
  have hS := hX.sets
  have hD := hX.drops
  simp only at hR hS hD hSn hDn
  clear hX hus
  unfold CM.row
  simp only [hul, List.length_cons, List.length_nil, Nat.zero_add]
  have O2 := O1.alloc (.cells #[.slice U 1 uc, .slice R 1 rc, .slice SA 1 sc, .slice DA 0 dc, .int .i64 1, .int .i64 0, .int .i64 1, .int .i64 0] 28)
  have Oa := (Only.refl (fun _ => False) w1).alloc (.cells #[.slice U 1 uc, .slice R 1 rc, .slice SA 1 sc, .slice DA 0 dc, .int .i64 1, .int .i64 0, .int .i64 1, .int .i64 0] 28)
  have H1 := b_new w1 (.cells #[.slice U 1 uc, .slice R 1 rc, .slice SA 1 sc, .slice DA 0 dc, .int .i64 1, .int .i64 0, .int .i64 1, .int .i64 0] 28)
  go_upto_region 2 with (fail)
  generalize w1.alloc (.cells #[.slice U 1 uc, .slice R 1 rc, .slice SA 1 sc, .slice DA 0 dc, .int .i64 1, .int .i64 0, .int .i64 1, .int .i64 0] 28) = w2 at *
  replace hR := hR.same Oa
  replace hS := hS.same Oa
  replace hD := hD.same Oa
  obtain ⟨b0, b1, b2, b3, b4, b5, b6, b7⟩ := cells8 H1
  have hm := match_one ([47, 97], [117], [47, 110]) ⟨#[47, 97, 47, 98]⟩ R rc w2 hR (by decide) (by decide) (by decide) (hG.same O2)
  clear Oa O1 hul us
  replace hR := hid hR
  replace hS := hid hS
  replace hD := hid hD
  replace hSn := hid hSn
  replace hDn := hid hDn
  obtain ⟨g, hg⟩ : ∃ g, w1.heap.size = g := ⟨_, rfl⟩
  rw [hg] at H1 b0 b1 b2 b3 b4 b5 b6 b7 ⊢
  clear hg
  go_wp2_with fail
  refine hm.mono ?_
  rintro e w3 ⟨rfl, O3⟩
  clear b0 b1 b2 b3 b4 b5 b6 b7 hm
  replace H1 := O3.keep H1 (fun h => h)
  replace O2 := O2.trans O3
  have hS3 := hid (hS.out.same O3)
  have hD3 := hid (hD.out.same O3)
  clear O3 hS hD hR
  have HF := b_new w3 (.cells #[.string ⟨#[84, 69]⟩, .string ⟨#[122]⟩] 39)
  have OA := (Only.refl (fun _ => False) w3).alloc (.cells #[.string ⟨#[84, 69]⟩, .string ⟨#[122]⟩] 39)
  have H4 := b_alloc H1 (.cells #[.string ⟨#[84, 69]⟩, .string ⟨#[122]⟩] 39)
  have hs := sreq_any ⟨#[71, 69, 84]⟩ ⟨#[47, 97, 47, 98]⟩ 0 [([84, 69], [122])] (some ⟨w3.heap.size, 0, none⟩) 1 [] none 0 U R 1 uc 1 rc [([88], [121])] SA sc [] DA dc 1 0 1 0 ⟨#[104]⟩ ⟨#[47, 110, 47, 98]⟩ _ (row_new HF rfl) ⟨by decide, by decide⟩ (by decide) (Bs.empty _) (by decide) (hS3.out.same OA) hSn.out ⟨by decide, by decide⟩ (by decide) (hD3.out.same OA) hDn.out ⟨by decide, by decide⟩ (by decide) (hG.same (O2.trans OA))
  rw [show scrubF (⟨#[71, 69, 84]⟩ : ByteArray).data.toList [([84, 69], [122])] ([] : List UInt8).length [([88], [121])] [] (⟨#[104]⟩ : ByteArray).data.toList = [(sHost, [104]), ([88], [121])] by decide] at hs
  simp only [List.length_cons, List.length_nil, Nat.zero_add, Nat.reduceAdd] at hs
  obtain ⟨b0, b1, b2, b3, b4, b5, b6, b7⟩ := cells8 H4
  replace hs := hid hs
  replace O2 := O2.trans OA
  clear H1 HF OA
  go_wp2_with fail
  refine hs.out.mono ?_
  rintro e w5 ⟨A', c', A2, c2, rfl, HO, _, O5⟩
  obtain ⟨ga, rfl, hga1, hga⟩ := Own.some_of HO (by decide)
  have hcap := (Own.cap HO).1
  obtain ⟨bx, off, e, _, d1, _⟩ := fld_at HO.row 1 _ rfl
  cases e
  replace O2 := O2.trans O5
  clear O5 HO hs hS3 hD3 b0 b1 b2 b3 b4 b5 b6 b7 H4
  go_upto_region 5 with (fail)
  have HB := b_new w5 (.cells #[.string ⟨#[71, 69, 84]⟩, .string ⟨#[47, 110, 47, 98]⟩, .int .i64 1, .slice (some ⟨ga, 0, none⟩) 2 c', .slice A2 0 c2] 33)
  have OB := (Only.refl (fun _ => False) w5).alloc (.cells #[.string ⟨#[71, 69, 84]⟩, .string ⟨#[47, 110, 47, 98]⟩, .int .i64 1, .slice (some ⟨ga, 0, none⟩) 2 c', .slice A2 0 c2] 33)
  generalize w5.alloc (.cells #[.string ⟨#[71, 69, 84]⟩, .string ⟨#[47, 110, 47, 98]⟩, .int .i64 1, .slice (some ⟨ga, 0, none⟩) 2 c', .slice A2 0 c2] 33) = w6 at *
  obtain ⟨⟨a0, a1, a2, a3, a4⟩, _⟩ := cells5 HB
  have d2 : w6.cell? ⟨ga, 2, none⟩ = some (.string ⟨#[88]⟩) := (OB.cell (p := ⟨ga, 2, none⟩) hga (fun h => h)).trans d1
  have OF := O2.trans OB
  clear d1 HB O2 OB
  go_wp2_with fail
  go_ret
  exact ⟨rfl, OF⟩
end Go.Proofs.YtafljoiblfhioaaGreatDoor
