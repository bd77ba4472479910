/-
  The walk of MeterPlays.
-/
import Derived.Test.YtmgjeinjifjaaaaB
import Derived.Test.YtmgjeinjifjaaaaS
namespace Go.Proofs.Ytmgjeinjifjaaaa
open Go.RowKit

/-- The reference's meter in block b. -/
def RAt (w : World) (b : Nat) (H P M : Int) : Prop := w.heap[b]? = some (.cells #[.int .i64 H, .int .i64 P, .int .i64 M] 28 (0, 0))
theorem RAt.cells {w : World} {b : Nat} {H P M : Int} (h : RAt w b H P M) : w.cell? ⟨b, 0, none⟩ = some (.int .i64 H) ∧ w.cell? ⟨b, 1, none⟩ = some (.int .i64 P) ∧ w.cell? ⟨b, 2, none⟩ = some (.int .i64 M) := ⟨b_cell h 0, b_cell h 1, b_cell h 2⟩
theorem RAt.frees {w : World} {b : Nat} {H P M : Int} (h : RAt w b H P M) : w.frozen? ⟨b, 0, none⟩ = false ∧ w.frozen? ⟨b, 1, none⟩ = false ∧ w.frozen? ⟨b, 2, none⟩ = false := ⟨b_free h 0, b_free h 1, b_free h 2⟩
theorem RAt.put {w : World} {b : Nat} {H P M : Int} (h : RAt w b H P M) (x y z : Int) : RAt (((w.setCell ⟨b, 0, none⟩ (.int .i64 x)).setCell ⟨b, 1, none⟩ (.int .i64 y)).setCell ⟨b, 2, none⟩ (.int .i64 z)) b x y z := b_set (b_set (b_set h 0 _) 1 _) 2 _
theorem RAt.keep' {S : Nat → Prop} {w w' : World} {b : Nat} {H P M : Int} (h : RAt w b H P M) (o : Only S w w') (hs : ¬ S b) : RAt w' b H P M := o.keep h hs
theorem far3 {w : World} {g b : Nat} {o : Obj} (h : w.heap[g]? = some o) (hne : g ≠ b) (x y z : Value) : (((w.setCell ⟨b, 0, none⟩ x).setCell ⟨b, 1, none⟩ y).setCell ⟨b, 2, none⟩ z).heap[g]? = some o := b_far (b_far (b_far h hne _) hne _) hne _
theorem below3 {B : Nat} {a w : World} {b : Nat} (h : Below B a w) (hp : B ≤ b) (x y z : Value) : Below B a (((w.setCell ⟨b, 0, none⟩ x).setCell ⟨b, 1, none⟩ y).setCell ⟨b, 2, none⟩ z) := st _ _ (st _ _ (st _ _ h hp _) hp _) hp _

/-- What the rest of a round needs: both meters agree. -/
def Agree (w0 : World) (mb : Nat) (M H P : Int) (w : World) : Prop := Hid (MAt w w0.heap.size M H P) ∧ Hid (RAt w mb H P M) ∧ Below w0.heap.size w0 w

set_option maxHeartbeats 2000000 in
theorem plays_walk (a0 : Int) (A : Option Addr) (len cap : Nat) (f : Nat → Int) (A2 : Option Addr) (len2 cap2 : Nat) (g : Nat → Bool) (i0 : Int64 a0) (w : World) (hlc : len ≤ cap) (hcm : cap ≤ maxLen) (hel : Elems w A cap (fun i => .int .i64 (f i))) (hf : ∀ i, Int64 (f i))
    (hlc2 : len2 ≤ cap2) (_hcm2 : cap2 ≤ maxLen) (hel2 : Elems w A2 cap2 (fun i => .bool (g i))) :
    Calls Try.prog 3 #[.int .i64 a0, .slice A len cap, .slice A2 len2 cap2] w fun e w' => e = .returned (.bool true) ∧ Below w.heap.size w w' := by
  obtain ⟨p0, q0⟩ := i0
  unfold maxLen at hcm _hcm2
  have HE := hid hel
  have HE2 := hid hel2
  have HF := hid hf
  clear hel hf hel2
  go_enter Try.func3, Try.ntmps3
  go_wp2_with fail
  refine (new_any a0 _ p0 q0).mono ?_
  rintro e w1 ⟨rfl, rfl⟩
  have H8 : Hid (MAt (w.alloc (.cells #[.int .i64 (mclip a0), .int .i64 0, .int .i64 0] 61)) w.heap.size (mclip a0) 0 0) := b_new w _
  have l8 := (Below.refl w.heap.size w).alloc (Nat.le_refl _) (.cells #[.int .i64 (mclip a0), .int .i64 0, .int .i64 0] 61)
  generalize (w.alloc (.cells #[.int .i64 (mclip a0), .int .i64 0, .int .i64 0] 61)) = w1 at *
  go_wp2_with fail
  refine (alive_any _).mono ?_
  rintro e w2 ⟨rfl, l9⟩
  have H10 := hid (show MAt w2 _ _ _ _ from b_below l9 H8.out (b_lt H8.out))
  have l10 := l8.trans (l9.mono l8.size)
  clear l9 l8 H8
  go_wp2_with fail
  refine (refNew_any a0 _).mono ?_
  rintro e w3 ⟨rfl, l3⟩
  have H11 := hid (show MAt w3 _ _ _ _ from b_below l3 H10.out (b_lt H10.out))
  have l11 := l10.trans (l3.mono l10.size)
  clear l3 l10 H10
  unfold Agg
  go_upto_region 5 with (fail)
  have R12 := hid (show RAt _ _ _ _ _ from b_new w3 (.cells #[.int .i64 0, .int .i64 0, .int .i64 (mclip a0)] 28))
  have H12 := hid (show MAt _ _ _ _ _ from b_alloc H11.out (.cells #[.int .i64 0, .int .i64 0, .int .i64 (mclip a0)] 28))
  have l12 := l11.alloc l11.size (.cells #[.int .i64 0, .int .i64 0, .int .i64 (mclip a0)] 28)
  have hne : w.heap.size < w3.heap.size := b_lt H11.out
  obtain ⟨mb, hmb⟩ : ∃ mb, mb = w3.heap.size := ⟨_, rfl⟩
  rw [← hmb] at R12 hne ⊢
  clear hmb l11 H11
  generalize (w3.alloc (.cells #[.int .i64 0, .int .i64 0, .int .i64 (mclip a0)] 28)) = w4 at *
  obtain ⟨km0, km1⟩ := mclip_bd a0
  generalize mclip a0 = M at *
  clear p0 q0
  go_wp2_with fail
  go_loopw [27] (fun iv wr => ∃ (k : Nat) (H P : Int), k ≤ len ∧ iv = .int .i64 (k : Int) ∧ 0 ≤ H ∧ H ≤ P ∧ P ≤ M ∧ Agree w mb M H P wr) (fun iv _ => len - (intOf iv).toNat)
  case atStart => exact ⟨0, 0, 0, Nat.zero_le _, rfl, Int.le_refl _, Int.le_refl _, km0, H12, R12, l12⟩
  case round =>
    obtain ⟨k, H, P, hk, rfl, h0, hP, hM, HM, HR, hl⟩ := hrel
    clear H12 R12 l12
    by_cases hlt : k < len
    · obtain ⟨ab, aoff, rfl, hcell⟩ := (HE.out.below hl).at_ k (by omega)
      obtain ⟨n0, n1⟩ := HF.out k
      have ok : MOk M H P := ⟨h0, by omega, km1, by omega⟩
      obtain ⟨m0, m1, m2⟩ := HR.out.cells
      obtain ⟨f0, f1, f2⟩ := HR.out.frees
      generalize f k = n at *
      by_cases hk2 : k < len2
      · obtain ⟨ab2, aoff2, rfl, hcell2⟩ := (HE2.out.below hl).at_ k (by omega)
        generalize g k = q at *
        cases q with
        | true =>
          by_cases htk : 0 ≤ n ∧ n ≤ M - H
          · obtain ⟨t0, t1⟩ := htk
            go_wp2_with fail
            refine (refTake_yes H P M n _ ok t0 t1).mono ?_
            rintro e w5 ⟨rfl, l5⟩
            clear m0 m1 m2 f0 f1 f2
            have HM5 := hid (show MAt w5 _ _ _ _ from b_below l5 HM.out (b_lt HM.out))
            have HR5 := hid (show RAt w5 _ _ _ _ from b_below l5 HR.out (b_lt HR.out))
            have l6 := hl.trans (l5.mono hl.size)
            clear HM HR hl l5
            unfold Agg
            go_upto_region 10 with (fail)
            have HM6 := hid (show MAt _ _ _ _ _ from b_alloc HM5.out (.cells #[.int .i64 (H + n), .int .i64 (max P (H + n)), .int .i64 M] 28))
            have HR6 := hid (show RAt _ _ _ _ _ from b_alloc HR5.out (.cells #[.int .i64 (H + n), .int .i64 (max P (H + n)), .int .i64 M] 28))
            have HX6 := hid (show RAt _ _ _ _ _ from b_new w5 (.cells #[.int .i64 (H + n), .int .i64 (max P (H + n)), .int .i64 M] 28))
            have l7 := l6.alloc l6.size (.cells #[.int .i64 (H + n), .int .i64 (max P (H + n)), .int .i64 M] 28)
            clear HM5 HR5 l6
            generalize (w5.alloc (.cells #[.int .i64 (H + n), .int .i64 (max P (H + n)), .int .i64 M] 28)) = w6 at *
            obtain ⟨m0, m1, m2⟩ := HR6.out.cells
            obtain ⟨f0, f1, f2⟩ := HR6.out.frees
            obtain ⟨x0, x1, x2⟩ := HX6.out.cells
            go_upto_region 11 with (fail)
            clear m0 m1 m2 f0 f1 f2 x0 x1 x2
            refine fold (F := fun W' => Hid (MAt W' w.heap.size M H P) ∧ Hid (RAt W' mb (H + n) (max P (H + n)) M) ∧ Below w.heap.size w W') ⟨far3 HM6.out (by omega) _ _ _, HR6.out.put _ _ _, below3 l7 (by omega) _ _ _⟩ ?_
            clear HM6 HR6 HX6 l7
            rintro w7 ⟨HM, HR, hl⟩
            go_wp2_with fail
            refine (take_y _ M H P n (H + n) (max P (H + n)) _ HM ok ⟨t0, t1⟩ rfl rfl).mono ?_
            rintro e w8 ⟨rfl, HM8, o8⟩
            have HR8 := hid (HR.out.keep' o8 (by omega))
            have l8 := below_only hl o8 (Nat.le_refl _) (Nat.le_refl _)
            clear HM HR hl o8
            obtain ⟨m0, m1, m2⟩ := HR8.out.cells
            have ok8 : MOk M (H + n) (max P (H + n)) := ⟨by omega, by omega, by omega, by omega⟩
            go_upto_region 17 with (fail)
            go_quiet ((first | (go_at_call 15; exact Calls.quiet_of_same ((held_any _ M (H + n) (max P (H + n)) _ (by exact HM8) ok8).mono fun _ _ ⟨h1, h2⟩ => ⟨h1, h2.symm⟩)) | (go_at_call 16; exact Calls.quiet_of_same ((peak_any _ M (H + n) (max P (H + n)) _ (by exact HM8)).mono fun _ _ ⟨h1, h2⟩ => ⟨h1, h2.symm⟩)) | (go_at_call 17; exact Calls.quiet_of (room_any _ M (H + n) (max P (H + n)) _ (by exact HM8) ok8))))
            go_wp2_with fail
            go_roundw
            case rel => exact ⟨k + 1, (H + n), (max P (H + n)), by omega, by go_num, by omega, by omega, by omega, HM8, HR8, bl_drewN l8 _⟩
            case measure => simp [intOf]; omega
          · have htn : n < 0 ∨ M - H < n := by omega
            have HT := hid htn
            clear htk htn
            go_wp2_with fail
            refine (refTake_no H P M n _ ok HT.out).mono ?_
            rintro e w5 ⟨rfl, l5⟩
            clear m0 m1 m2 f0 f1 f2
            have HM5 := hid (show MAt w5 _ _ _ _ from b_below l5 HM.out (b_lt HM.out))
            have HR5 := hid (show RAt w5 _ _ _ _ from b_below l5 HR.out (b_lt HR.out))
            have l6 := hl.trans (l5.mono hl.size)
            clear HM HR hl l5
            unfold Agg
            go_upto_region 10 with (fail)
            have HM6 := hid (show MAt _ _ _ _ _ from b_alloc HM5.out (.cells #[.int .i64 H, .int .i64 P, .int .i64 M] 28))
            have HR6 := hid (show RAt _ _ _ _ _ from b_alloc HR5.out (.cells #[.int .i64 H, .int .i64 P, .int .i64 M] 28))
            have HX6 := hid (show RAt _ _ _ _ _ from b_new w5 (.cells #[.int .i64 H, .int .i64 P, .int .i64 M] 28))
            have l7 := l6.alloc l6.size (.cells #[.int .i64 H, .int .i64 P, .int .i64 M] 28)
            clear HM5 HR5 l6
            generalize (w5.alloc (.cells #[.int .i64 H, .int .i64 P, .int .i64 M] 28)) = w6 at *
            obtain ⟨m0, m1, m2⟩ := HR6.out.cells
            obtain ⟨f0, f1, f2⟩ := HR6.out.frees
            obtain ⟨x0, x1, x2⟩ := HX6.out.cells
            go_upto_region 11 with (fail)
            clear m0 m1 m2 f0 f1 f2 x0 x1 x2
            refine fold (F := fun W' => Hid (MAt W' w.heap.size M H P) ∧ Hid (RAt W' mb H P M) ∧ Below w.heap.size w W') ⟨far3 HM6.out (by omega) _ _ _, HR6.out.put _ _ _, below3 l7 (by omega) _ _ _⟩ ?_
            clear HM6 HR6 HX6 l7
            rintro w7 ⟨HM, HR, hl⟩
            go_wp2_with fail
            refine (take_n _ M H P n _ HM ok HT.out).mono ?_
            rintro e w8 ⟨rfl, HM8, o8⟩
            have HR8 := hid (HR.out.keep' o8 (by omega))
            have l8 := below_only hl o8 (Nat.le_refl _) (Nat.le_refl _)
            clear HM HR hl o8
            obtain ⟨m0, m1, m2⟩ := HR8.out.cells
            have ok8 : MOk M H P := ⟨by omega, by omega, by omega, by omega⟩
            go_upto_region 17 with (fail)
            go_quiet ((first | (go_at_call 15; exact Calls.quiet_of_same ((held_any _ M H P _ (by exact HM8) ok8).mono fun _ _ ⟨h1, h2⟩ => ⟨h1, h2.symm⟩)) | (go_at_call 16; exact Calls.quiet_of_same ((peak_any _ M H P _ (by exact HM8)).mono fun _ _ ⟨h1, h2⟩ => ⟨h1, h2.symm⟩)) | (go_at_call 17; exact Calls.quiet_of (room_any _ M H P _ (by exact HM8) ok8))))
            go_wp2_with fail
            go_roundw
            case rel => exact ⟨k + 1, H, P, by omega, by go_num, by omega, by omega, by omega, HM8, HR8, bl_drewN l8 _⟩
            case measure => simp [intOf]; omega
        | false =>
          have hg : 0 ≤ min (max n 0) H ∧ min (max n 0) H ≤ H := by omega
          obtain ⟨x, hx⟩ : ∃ x, x = min (max n 0) H := ⟨_, rfl⟩
          rw [← hx] at hg
          obtain ⟨g0, g1⟩ := hg
          have Hg := hid hx
          clear hx
          go_wp2_with fail
          refine (refGive_any H P M n x _ ok Hg.out).mono ?_
          rintro e w5 ⟨rfl, l5⟩
          clear m0 m1 m2 f0 f1 f2
          have HM5 := hid (show MAt w5 _ _ _ _ from b_below l5 HM.out (b_lt HM.out))
          have HR5 := hid (show RAt w5 _ _ _ _ from b_below l5 HR.out (b_lt HR.out))
          have l6 := hl.trans (l5.mono hl.size)
          clear HM HR hl l5
          unfold Agg
          go_upto_region 14 with (fail)
          have HM6 := hid (show MAt _ _ _ _ _ from b_alloc HM5.out (.cells #[.int .i64 (H - x), .int .i64 P, .int .i64 M] 28))
          have HR6 := hid (show RAt _ _ _ _ _ from b_alloc HR5.out (.cells #[.int .i64 (H - x), .int .i64 P, .int .i64 M] 28))
          have HX6 := hid (show RAt _ _ _ _ _ from b_new w5 (.cells #[.int .i64 (H - x), .int .i64 P, .int .i64 M] 28))
          have l7 := l6.alloc l6.size (.cells #[.int .i64 (H - x), .int .i64 P, .int .i64 M] 28)
          clear HM5 HR5 l6
          generalize (w5.alloc (.cells #[.int .i64 (H - x), .int .i64 P, .int .i64 M] 28)) = w6 at *
          obtain ⟨m0, m1, m2⟩ := HR6.out.cells
          obtain ⟨f0, f1, f2⟩ := HR6.out.frees
          obtain ⟨x0, x1, x2⟩ := HX6.out.cells
          go_upto_region 15 with (fail)
          clear m0 m1 m2 f0 f1 f2 x0 x1 x2
          refine fold (F := fun W' => Hid (MAt W' w.heap.size M H P) ∧ Hid (RAt W' mb (H - x) P M) ∧ Below w.heap.size w W') ⟨far3 HM6.out (by omega) _ _ _, HR6.out.put _ _ _, below3 l7 (by omega) _ _ _⟩ ?_
          clear HM6 HR6 HX6 l7
          rintro w7 ⟨HM, HR, hl⟩
          go_wp2_with fail
          refine (give_d _ M H P n x (H - x) _ HM ok n0 n1 Hg.out.symm rfl).mono ?_
          rintro e w8 ⟨rfl, HM8, o8⟩
          have HR8 := hid (HR.out.keep' o8 (by omega))
          have l8 := below_only hl o8 (Nat.le_refl _) (Nat.le_refl _)
          clear HM HR hl o8
          obtain ⟨m0, m1, m2⟩ := HR8.out.cells
          have ok8 : MOk M (H - x) P := ⟨by omega, by omega, by omega, by omega⟩
          go_upto_region 17 with (fail)
          go_quiet ((first | (go_at_call 15; exact Calls.quiet_of_same ((held_any _ M (H - x) P _ (by exact HM8) ok8).mono fun _ _ ⟨h1, h2⟩ => ⟨h1, h2.symm⟩)) | (go_at_call 16; exact Calls.quiet_of_same ((peak_any _ M (H - x) P _ (by exact HM8)).mono fun _ _ ⟨h1, h2⟩ => ⟨h1, h2.symm⟩)) | (go_at_call 17; exact Calls.quiet_of (room_any _ M (H - x) P _ (by exact HM8) ok8))))
          go_wp2_with fail
          go_roundw
          case rel => exact ⟨k + 1, (H - x), P, by omega, by go_num, by omega, by omega, by omega, HM8, HR8, bl_drewN l8 _⟩
          case measure => simp [intOf]; omega
      · have hg : 0 ≤ min (max n 0) H ∧ min (max n 0) H ≤ H := by omega
        obtain ⟨x, hx⟩ : ∃ x, x = min (max n 0) H := ⟨_, rfl⟩
        rw [← hx] at hg
        obtain ⟨g0, g1⟩ := hg
        have Hg := hid hx
        clear hx
        go_wp2_with fail
        refine (refGive_any H P M n x _ ok Hg.out).mono ?_
        rintro e w5 ⟨rfl, l5⟩
        clear m0 m1 m2 f0 f1 f2
        have HM5 := hid (show MAt w5 _ _ _ _ from b_below l5 HM.out (b_lt HM.out))
        have HR5 := hid (show RAt w5 _ _ _ _ from b_below l5 HR.out (b_lt HR.out))
        have l6 := hl.trans (l5.mono hl.size)
        clear HM HR hl l5
        unfold Agg
        go_upto_region 14 with (fail)
        have HM6 := hid (show MAt _ _ _ _ _ from b_alloc HM5.out (.cells #[.int .i64 (H - x), .int .i64 P, .int .i64 M] 28))
        have HR6 := hid (show RAt _ _ _ _ _ from b_alloc HR5.out (.cells #[.int .i64 (H - x), .int .i64 P, .int .i64 M] 28))
        have HX6 := hid (show RAt _ _ _ _ _ from b_new w5 (.cells #[.int .i64 (H - x), .int .i64 P, .int .i64 M] 28))
        have l7 := l6.alloc l6.size (.cells #[.int .i64 (H - x), .int .i64 P, .int .i64 M] 28)
        clear HM5 HR5 l6
        generalize (w5.alloc (.cells #[.int .i64 (H - x), .int .i64 P, .int .i64 M] 28)) = w6 at *
        obtain ⟨m0, m1, m2⟩ := HR6.out.cells
        obtain ⟨f0, f1, f2⟩ := HR6.out.frees
        obtain ⟨x0, x1, x2⟩ := HX6.out.cells
        go_upto_region 15 with (fail)
        clear m0 m1 m2 f0 f1 f2 x0 x1 x2
        refine fold (F := fun W' => Hid (MAt W' w.heap.size M H P) ∧ Hid (RAt W' mb (H - x) P M) ∧ Below w.heap.size w W') ⟨far3 HM6.out (by omega) _ _ _, HR6.out.put _ _ _, below3 l7 (by omega) _ _ _⟩ ?_
        clear HM6 HR6 HX6 l7
        rintro w7 ⟨HM, HR, hl⟩
        go_wp2_with fail
        refine (give_d _ M H P n x (H - x) _ HM ok n0 n1 Hg.out.symm rfl).mono ?_
        rintro e w8 ⟨rfl, HM8, o8⟩
        have HR8 := hid (HR.out.keep' o8 (by omega))
        have l8 := below_only hl o8 (Nat.le_refl _) (Nat.le_refl _)
        clear HM HR hl o8
        obtain ⟨m0, m1, m2⟩ := HR8.out.cells
        have ok8 : MOk M (H - x) P := ⟨by omega, by omega, by omega, by omega⟩
        go_upto_region 17 with (fail)
        go_quiet ((first | (go_at_call 15; exact Calls.quiet_of_same ((held_any _ M (H - x) P _ (by exact HM8) ok8).mono fun _ _ ⟨h1, h2⟩ => ⟨h1, h2.symm⟩)) | (go_at_call 16; exact Calls.quiet_of_same ((peak_any _ M (H - x) P _ (by exact HM8)).mono fun _ _ ⟨h1, h2⟩ => ⟨h1, h2.symm⟩)) | (go_at_call 17; exact Calls.quiet_of (room_any _ M (H - x) P _ (by exact HM8) ok8))))
        go_wp2_with fail
        go_roundw
        case rel => exact ⟨k + 1, (H - x), P, by omega, by go_num, by omega, by omega, by omega, HM8, HR8, bl_drewN l8 _⟩
        case measure => simp [intOf]; omega
    · go_wp2_with fail
      go_ret
      exact ⟨rfl, hl⟩
end Go.Proofs.Ytmgjeinjifjaaaa
