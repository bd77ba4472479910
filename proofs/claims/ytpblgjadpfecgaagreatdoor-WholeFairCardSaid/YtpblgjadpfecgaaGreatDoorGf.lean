/-
  The log's record is read again.
-/
import Derived.Test.YtpblgjadpfecgaaGreatDoorFi
import Derived.Test.YtpblgjadpfecgaaGreatDoorP1
import Derived.BigRegion
import Derived.Lib.SmallJoins
import Derived.Deep.RegionHeld3
set_option linter.unusedSimpArgs false
set_option linter.unusedVariables false
namespace Go.Proofs.YtpblgjadpfecgaaGreatDoor
open Go.RowKit

def exL : List UInt8 := [49, 32, 48, 32, 48, 32, 49, 32, 71, 69, 84, 32, 47, 32, 52, 48, 52, 32, 48, 32, 52, 53]
def exW : List (List UInt8) := [[49], [48], [48], [49], [71, 69, 84], [47], [52, 48, 52], [48], [52, 53]]
theorem ex_split : splitC 32 exL = exW := by decide +kernel
theorem ex_entB : entB 1 1 [71, 69, 84] [47] = exL ++ [10] := by decide +kernel
def exN : Nat → Nat
  | 0 => 1
  | 3 => 1
  | 6 => 404
  | 8 => 45
  | _ => 0
def exNL : Nat → List Int
  | 0 => []
  | k + 1 => if k = 4 ∨ k = 5 then exNL k else exNL k ++ [(exN k : Int)]
theorem ex_num : ∀ k, k < 9 → k ≠ 4 → k ≠ 5 → ∃ w, exW[k]? = some w ∧ number 10 18 w = ((exN k : Int), true) ∧ Lib.decDigits (exN k) = w ∧ w.length ≤ 3 := by
  intro k hk h4 h5
  rcases (by omega : k = 0 ∨ k = 1 ∨ k = 2 ∨ k = 3 ∨ k = 6 ∨ k = 7 ∨ k = 8) with rfl | rfl | rfl | rfl | rfl | rfl | rfl
  all_goals exact ⟨_, rfl, by decide +kernel, by decide +kernel, by decide⟩
theorem load9 {W : World} {g : Nat} {t : TypeId} {fr : Nat × Nat} {a b c d e f i j k : Value} (h : W.heap[g]? = some (.cells #[a, b, c, d, e, f, i, j, k] t fr)) : (loadVar 43 ⟨g, 0, none⟩).run Tryz.prog W = .ok (.agg #[a, b, c, d, e, f, i, j, k]) W :=
  run_loadVar_row W g t _ _ fr _ h Tryz.underlying43 rfl (by kernel_rfl)
theorem ret_ent {fn : Func} {R : Ending → World → Prop} {tmps : Array Value} {W : World} (hf : fn.results = #[.cell 2 43, .tmp 3]) {g : Nat} {t : TypeId} {fr : Nat × Nat} {a b c d e f i j k v : Value}
    (hrow : W.heap[g]? = some (.cells #[a, b, c, d, e, f, i, j, k] t fr)) (h2 : tmps.getD 2 undef = .pointer (some ⟨g, 0, none⟩)) (h3 : tmps.getD 3 undef = v) (hR : R (.returned (.tuple #[.agg #[a, b, c, d, e, f, i, j, k], v])) W) : bodyPost Tryz.prog fn R .ret ⟨tmps, []⟩ W :=
  bodyPost_ret (v := .tuple #[.agg #[a, b, c, d, e, f, i, j, k], v]) (by
    rw [results_cell_tmp hf]
    simp only
    rw [h2, h3]
    simp [asAddr, load9 hrow]) rfl hR
theorem info_i64 : (Tryz.prog.info? 2).map (fun i => (i.zero, i.size, i.bytes)) = some (some (.int .i64 0), 1, 8) := by kernel_rfl

/-- bytes.CutSuffix: a line's end. -/
theorem cut_ex (A : Option Addr) (c b2 : Nat) (w : World) (hB : Bs w A 23 c (exL ++ [10])) (h2 : w.cell? ⟨b2, 0, none⟩ = some (.int .u8 10)) :
    Calls Tryz.prog 43 #[.slice A 23 c, .slice (some ⟨b2, 0, none⟩) 1 1] w fun e w' => e = .returned (.tuple #[.slice A 22 c, .bool true]) ∧ w' = w := by
  obtain ⟨b, off, rfl, hb, hc⟩ := hB.row (by simp [bV, exL])
  refine (Tryz.bytes_CutSuffix b off 23 c b2 0 1 1 [49, 32, 48, 32, 48, 32, 49, 32, 71, 69, 84, 32, 47, 32, 52, 48, 52, 32, 48, 32, 52, 53, 10] [10] w rfl rfl hB.le (by decide) (fun i hi => ?_) (fun i hi => ?_)).mono ?_
  · have hh := hc i (.int .u8 (([49, 32, 48, 32, 48, 32, 49, 32, 71, 69, 84, 32, 47, 32, 52, 48, 52, 32, 48, 32, 52, 53, 10] : List Int).getD i 0)) (by
      have : ∀ i, i < 23 → (bV (exL ++ [10]))[i]? = some (.int .u8 (([49, 32, 48, 32, 48, 32, 49, 32, 71, 69, 84, 32, 47, 32, 52, 48, 52, 32, 48, 32, 52, 53, 10] : List Int).getD i 0)) := by
        intro i hi
        rcases (by omega : i = 0 ∨ i = 1 ∨ i = 2 ∨ i = 3 ∨ i = 4 ∨ i = 5 ∨ i = 6 ∨ i = 7 ∨ i = 8 ∨ i = 9 ∨ i = 10 ∨ i = 11 ∨ i = 12 ∨ i = 13 ∨ i = 14 ∨ i = 15 ∨ i = 16 ∨ i = 17 ∨ i = 18 ∨ i = 19 ∨ i = 20 ∨ i = 21 ∨ i = 22) with rfl | rfl | rfl | rfl | rfl | rfl | rfl | rfl | rfl | rfl | rfl | rfl | rfl | rfl | rfl | rfl | rfl | rfl | rfl | rfl | rfl | rfl | rfl <;> rfl
      exact this i hi)
    exact hh
  · obtain rfl : i = 0 := by omega
    exact h2
  · rintro e w' ⟨rfl, rfl⟩
    refine ⟨?_, rfl⟩
    rfl
end Go.Proofs.YtpblgjadpfecgaaGreatDoor
/-
  entry.Read at a record of the example.
-/
namespace Go.Proofs.YtpblgjadpfecgaaGreatDoor
open Go.RowKit

def eZ : Array Value := #[.int .i64 0, .int .i64 0, .int .i64 0, .int .i64 0, .string ⟨#[]⟩, .string ⟨#[]⟩, .int .i64 0, .int .i64 0, .int .i64 0]
def RdI (wc : World) (fv iv : Value) (wr : World) : Prop := ∃ (k : Nat) (A : Option Addr) (c : Nat), k ≤ 9 ∧ fv = .slice A (exNL k).length c ∧ iv = .int .i64 (k : Int) ∧ Hid (Own wr wc.heap.size 2 1 A (exNL k).length c ((exNL k).map (Value.int .i64))) ∧ Hid (Only (fun _ => False) wc wr)
set_option maxRecDepth 100000 in
set_option maxHeartbeats 4000000 in
theorem eread_ex (A : Option Addr) (c : Nat) (w : World) (hB : Bs w A 23 c (exL ++ [10])) (hG : Gl w) :
    Calls Tryz.prog 12 #[.slice A 23 c] w fun e w' => e = .returned (.tuple #[entV 1 0 0 1 ⟨#[71, 69, 84]⟩ ⟨#[47]⟩ 404 0 45, .int .i64 0]) ∧ Only (fun _ => False) w w' := by
  have hbn := two_new w (.cells eZ 43) (.cells #[.int .u8 10] 5 (1, 2))
  have Ob := ((Only.refl (fun _ => False) w).alloc (.cells eZ 43)).alloc (.cells #[.int .u8 10] 5 (1, 2))
  have hrz := b_alloc (b_new w (.cells eZ 43)) (.cells #[.int .u8 10] 5 (1, 2))
  have hcx := cut_ex A c (w.heap.size + 1) ((w.alloc (.cells eZ 43)).alloc (.cells #[.int .u8 10] 5 (1, 2))) (hB.same Ob) (b_cell hbn 0)
  have hst := ((hB.same Ob).take 22 (by decide)).str
  have ht : List.take 22 (exL ++ ([10] : List UInt8)) = exL := rfl
  rw [ht] at hst
  have hsp := strSplit_any 32 (B exL) (by decide) ((w.alloc (.cells eZ 43)).alloc (.cells #[.int .u8 10] 5 (1, 2))) (hG.same Ob)
  rw [show (B exL).data.toList = exL from rfl, ex_split, show exW.length = 9 from rfl] at hsp
  unfold eZ at hcx hst hsp hrz
  replace hcx := hid hcx
  replace hsp := hid hsp
  replace hB := hid hB
  replace hG := hid hG
  replace hrz := hid hrz
  replace hbn := hid hbn
  have kc := fun (w : World) (C : Array Value) (n c g : Nat) (hg : g = w.heap.size) => Joins.run_convert_bytes_const_at (P := Tryz.prog) w 30 5 C n c g hg Tryz.underlying30 Tryz.underlying5
  go_enter Tryz.func12, Tryz.ntmps12
  go_wp2_with (first | (go_at_call 43; refine hcx.out.mono ?_; rintro e w1 ⟨rfl, rfl⟩) | (go_at_call 44; refine hsp.out.mono ?_; rintro e w2 ⟨WA, wc, rfl, hW, O2⟩) | fail)
  have O02 := Ob.trans O2
  have hG2 := hG.out.same O02
  have hr2 := O2.keep hrz.out (fun h => h)
  have hWr := hW.row
  obtain ⟨rz, hrz0⟩ : ∃ rz, w.heap.size = rz := ⟨_, rfl⟩
  have hrzn : w.heap.size ≤ rz := by omega
  rw [hrz0] at hr2 ⊢
  replace hG2 := hid hG2
  replace hr2 := hid hr2
  replace hWr := hid hWr
  replace O02 := hid O02
  clear hrz hbn hrz0 Ob hst hcx hsp hB hG hW O2 ht kc
  go_wp2_with fail
  go_loopw [7, 33] (fun fv iv wr => RdI w2 fv iv wr) (fun _ iv _ => 9 - (intOf iv).toNat)
  case atStart => exact ⟨0, none, 0, Nat.zero_le _, rfl, rfl, hid (Own.nil _ _ _ _), hid (Only.refl _ _)⟩
  case round =>
    unfold RdI at hrel
    obtain ⟨k, NA, nc, hk, rfl, rfl, HN, O⟩ := hrel
    by_cases hlt : k < 9
    · have hlt' : (k : Int) < 9 := by omega
      have hkk : k + 1 ≤ 9 := by omega
      by_cases h45 : k = 4 ∨ k = 5
      · have hnl : exNL (k + 1) = exNL k := if_pos h45
        obtain ⟨wk, hwk⟩ : ∃ wk, exW[k]? = some wk := ⟨_, List.getElem?_eq_getElem hlt⟩
        obtain ⟨b, off, rfl, hb, hc⟩ := str_at (hWr.out.same O.out) k wk hwk
        replace hwk := hid hwk
        replace hnl := hid hnl
        rcases h45 with rfl | rfl
        · go_wp2_with fail
          go_roundw
          case rel => exact ⟨5, NA, nc, by omega, by rw [hnl.out], rfl, by rw [hnl.out]; exact HN, O⟩
          case measure => simp [intOf]
        · go_wp2_with fail
          go_roundw
          case rel => exact ⟨6, NA, nc, by omega, by rw [hnl.out], rfl, by rw [hnl.out]; exact HN, O⟩
          case measure => simp [intOf]
      · have hnl : exNL (k + 1) = exNL k ++ [(exN k : Int)] := if_neg h45
        have hk4 : ((k : Int) == 4) = false := by rw [beq_eq_false_iff_ne]; omega
        have hk5 : ((k : Int) == 5) = false := by rw [beq_eq_false_iff_ne]; omega
        obtain ⟨wk, hwk, hnum, hdec, hwl⟩ := ex_num k hlt (fun e => h45 (.inl e)) (fun e => h45 (.inr e))
        obtain ⟨b, off, rfl, hb, hc⟩ := str_at (hWr.out.same O.out) k wk hwk
        have hde := fun (W : World) => decimal_any (B wk) (by show wk.length ≤ _; omega) W
        rw [show (B wk).data.toList = wk from rfl, hnum] at hde
        have hen : exN k ≤ 1000 := by unfold exN; split <;> omega
        have htx := fun (W : World) (o : Only (fun _ => False) w2 W) => text_any (exN k) (by omega) W (hG2.out.same o)
        rw [hdec] at htx
        have hnn : (exNL k).length ≤ 9 := by
          rcases (by omega : k = 0 ∨ k = 1 ∨ k = 2 ∨ k = 3 ∨ k = 4 ∨ k = 5 ∨ k = 6 ∨ k = 7 ∨ k = 8) with rfl | rfl | rfl | rfl | rfl | rfl | rfl | rfl | rfl <;> decide
        obtain ⟨en, hene⟩ : ∃ en, exN k = en := ⟨_, rfl⟩
        obtain ⟨nl, hnle⟩ : ∃ nl, (exNL k).length = nl := ⟨_, rfl⟩
        rw [hene] at hde htx hen hnl
        rw [hnle] at hnn HN ⊢
        have hbs := O.out.size
        replace hde := hid hde
        replace htx := hid htx
        replace hwk := hid hwk
        replace hnum := hid hnum
        replace hdec := hid hdec
        replace hnl := hid hnl
        replace hene := hid hene
        replace hnle := hid hnle
        go_wp2_with (first | (go_at_call 45; refine (hde.out _).mono ?_; rintro e w4 ⟨rfl, O4⟩) | (go_at_call 46; refine (htx.out _ (O.out.trans O4)).mono ?_; rintro e w5 ⟨rfl, O5⟩; have O45 := O4.trans O5; have hb5 := O45.size) | (at_builtin; refine app_rows rfl _ _ 92 2 (.int .i64 0) 1 8 Tryz.underlying92 info_i64 rfl (by omega) (by omega) rfl w2.heap.size nl nc 1 1 NA (some ⟨w5.heap.size, 0, none⟩) ((exNL k).map (Value.int .i64)) [.int .i64 (en : Int)] rfl rfl (Own.same HN.out (O45.alloc _)) (row_of (l := [.int .i64 (en : Int)]) (b_new w5 _)) (by rfl) (by intro u hu; rw [List.mem_singleton] at hu; subst hu; rfl) (by intro h; cases h) (by simp; omega) (by omega) ?_; intro A6 c6 w6 h6 h6' o6) | fail)
        go_roundw
        case rel => exact ⟨k + 1, A6, c6, by omega, by rw [hnl.out, List.length_append, hnle.out]; rfl, rfl, by rw [hnl.out, List.length_append, hnle.out, List.map_append]; exact hid h6, hid (((O.out.trans O45).alloc _).trans' o6 (fun j hj => .inr (HN.out.blk j hj).1))⟩
        case measure => simp [intOf]; omega
    · obtain rfl : k = 9 := by omega
      rw [show (exNL 9).length = 7 from rfl] at HN ⊢
      obtain ⟨nb, rfl, hnb0, hnb⟩ := HN.out.some_of (by decide)
      obtain ⟨b, off, rfl, hb, hc⟩ := (hWr.out.same O.out) (by simp [sV, exW])
      have nrow := HN.out.row
      obtain ⟨nb', no, e, _, nc'⟩ := nrow (by simp [exNL])
      cases e
      have n0 := nc' 0 (.int .i64 1) rfl
      have n1 := nc' 1 (.int .i64 0) rfl
      have n2 := nc' 2 (.int .i64 0) rfl
      have n3 := nc' 3 (.int .i64 1) rfl
      have n4 := nc' 4 (.int .i64 404) rfl
      have n5 := nc' 5 (.int .i64 0) rfl
      have n6 := nc' 6 (.int .i64 45) rfl
      have w4 := hc 4 (.string ⟨#[71, 69, 84]⟩) rfl
      have w5 := hc 5 (.string ⟨#[47]⟩) rfl
      simp only [Nat.zero_add] at n0 n1 n2 n3 n4 n5 n6
      replace n0 := cell_all hnb _ _ n0
      replace n1 := cell_all hnb _ _ n1
      replace n2 := cell_all hnb _ _ n2
      replace n3 := cell_all hnb _ _ n3
      replace n4 := cell_all hnb _ _ n4
      replace n5 := cell_all hnb _ _ n5
      replace n6 := cell_all hnb _ _ n6
      replace w4 := cell_all hb _ _ w4
      replace w5 := cell_all hb _ _ w5
      have P0 := Only.refl (fun _ => False) wr
      have hrr := O.out.keep hr2.out (fun h => h)
      replace hrr := hid hrr
      clear nc' hc nrow
      go_upto_region 15 with (fail)
      go_region_held3 (fun w' => Only (fun _ => False) wr w') (repeat (first | assumption | refine Only.drew ?_ | refine Only.alloc ?_ _)) (fail)
      have HE := b_drew (b_new wr (.cells #[.int .i64 1, .int .i64 0, .int .i64 0, .int .i64 1, .string ⟨#[71, 69, 84]⟩, .string ⟨#[47]⟩, .int .i64 404, .int .i64 0, .int .i64 45] 43))
      have Od := ((Only.refl (fun _ => False) wr).alloc (.cells #[.int .i64 1, .int .i64 0, .int .i64 0, .int .i64 1, .string ⟨#[71, 69, 84]⟩, .string ⟨#[47]⟩, .int .i64 404, .int .i64 0, .int .i64 45] 43)).drew
      obtain ⟨eb, heb⟩ : ∃ eb, wr.heap.size = eb := ⟨_, rfl⟩
      have hre : rz ≠ eb := by have := b_lt hrr.out; omega
      rw [heb] at HE ⊢
      generalize (wr.alloc (.cells #[.int .i64 1, .int .i64 0, .int .i64 0, .int .i64 1, .string ⟨#[71, 69, 84]⟩, .string ⟨#[47]⟩, .int .i64 404, .int .i64 0, .int .i64 45] 43)).drew = wd at HE Od ⊢
      have HZ := Od.keep hrr.out (fun h => h)
      have OO := (O02.out.trans O.out).trans Od
      have hri := fun (W : World) => right_404 1 1 ⟨#[71, 69, 84]⟩ ⟨#[47]⟩ W (by decide) (by decide) ⟨by decide +kernel, by decide⟩ ⟨by decide +kernel, by decide⟩
      unfold entV at hri
      replace hri := hid hri
      obtain ⟨d0, d1, d2, d3, d4, d5, d6, d7, d8⟩ : wd.cell? ⟨eb, 0, none⟩ = some (.int .i64 1) ∧ wd.cell? ⟨eb, 1, none⟩ = some (.int .i64 0) ∧ wd.cell? ⟨eb, 2, none⟩ = some (.int .i64 0) ∧ wd.cell? ⟨eb, 3, none⟩ = some (.int .i64 1) ∧ wd.cell? ⟨eb, 4, none⟩ = some (.string ⟨#[71, 69, 84]⟩) ∧ wd.cell? ⟨eb, 5, none⟩ = some (.string ⟨#[47]⟩) ∧ wd.cell? ⟨eb, 6, none⟩ = some (.int .i64 404) ∧ wd.cell? ⟨eb, 7, none⟩ = some (.int .i64 0) ∧ wd.cell? ⟨eb, 8, none⟩ = some (.int .i64 45) := ⟨b_cell HE 0, b_cell HE 1, b_cell HE 2, b_cell HE 3, b_cell HE 4, b_cell HE 5, b_cell HE 6, b_cell HE 7, b_cell HE 8⟩
      replace HE := hid HE
      replace HZ := hid HZ
      replace OO := hid OO
      clear n0 n1 n2 n3 n4 n5 n6 w4 w5 HN Od O hrr hr2 hWr hG2 O02 heb P0
      go_upto_region 18 with (first | (go_at_call 47; refine (hri.out _).mono ?_; rintro e wx ⟨rfl, Ox⟩) | fail)
      have HEx := Ox.keep HE.out (fun h => h)
      have HZx := Ox.keep HZ.out (fun h => h)
      have OX := OO.out.trans Ox
      clear d0 d1 d2 d3 d4 d5 d6 d7 d8 HE HZ OO Ox hri
      refine wp_region_lit ?_
      refine wpList_load_row rfl 43 (.tmp 12) rfl eb rfl 43 #[.int .i64 1, .int .i64 0, .int .i64 0, .int .i64 1, .string ⟨#[71, 69, 84]⟩, .string ⟨#[47]⟩, .int .i64 404, .int .i64 0, .int .i64 45] (0, 0) _ HEx Tryz.underlying43 rfl (by kernel_rfl) ?_
      refine wpList_store_row rfl 43 (.tmp 2) (.tmp 95) rfl rz #[.int .i64 1, .int .i64 0, .int .i64 0, .int .i64 1, .string ⟨#[71, 69, 84]⟩, .string ⟨#[47]⟩, .int .i64 404, .int .i64 0, .int .i64 45] rfl rfl 43 _ HZx (by kernel_rfl) rfl (by simp [Value.oneCell']) ?_
      simp only [Act.put, List.setIfInBounds_toArray, List.set_cons_zero, List.set_cons_succ]
      have HF := hid (setRow_heap wx rz _ #[.int .i64 1, .int .i64 0, .int .i64 0, .int .i64 1, .string ⟨#[71, 69, 84]⟩, .string ⟨#[47]⟩, .int .i64 404, .int .i64 0, .int .i64 45] _ _ HZx)
      have oF : Only (fun i => i = rz) wx (wx.setRow rz #[.int .i64 1, .int .i64 0, .int .i64 0, .int .i64 1, .string ⟨#[71, 69, 84]⟩, .string ⟨#[47]⟩, .int .i64 404, .int .i64 0, .int .i64 45]) := only_setRow wx rz _ rfl
      clear HEx HZx
      generalize wx.setRow rz #[.int .i64 1, .int .i64 0, .int .i64 0, .int .i64 1, .string ⟨#[71, 69, 84]⟩, .string ⟨#[47]⟩, .int .i64 404, .int .i64 0, .int .i64 45] = wf at *
      replace OX := hid OX
      replace oF := hid oF
      go_wp2_with fail
      refine ret_ent (v := .int .i64 0) Tryz.results12 HF.out ?_ ?_ ?_
      · rfl
      · rfl
      · exact ⟨rfl, OX.out.trans' oF.out (fun i hi => .inr (by omega))⟩
end Go.Proofs.YtpblgjadpfecgaaGreatDoor
