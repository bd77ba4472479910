/-
  Read of the package conf, at the example's text.
-/
import Derived.Test.YtafljoiblfhioaaGreatDoorSal
import Derived.Test.YtafljoiblfhioaaGreatDoorSam
namespace Go.Proofs.YtafljoiblfhioaaGreatDoor
open Go.RowKit

theorem Only.set8 {S : Nat → Prop} {w W : World} (h : Only S w W) {g : Nat} (hg : S g ∨ w.heap.size ≤ g) (a b c d e f i j : Value) :
    Only S w ((((((((W.setCell ⟨g, 0, none⟩ a).setCell ⟨g, 1, none⟩ b).setCell ⟨g, 2, none⟩ c).setCell ⟨g, 3, none⟩ d).setCell ⟨g, 4, none⟩ e).setCell ⟨g, 5, none⟩ f).setCell ⟨g, 6, none⟩ i).setCell ⟨g, 7, none⟩ j) := by
  have h5 := h.set5 hg a b c d e
  generalize (((((W.setCell ⟨g, 0, none⟩ a).setCell ⟨g, 1, none⟩ b).setCell ⟨g, 2, none⟩ c).setCell ⟨g, 3, none⟩ d).setCell ⟨g, 4, none⟩ e) = W5 at *
  have h6 := h5.setCell (p := ⟨g, 5, none⟩) hg f
  generalize W5.setCell ⟨g, 5, none⟩ f = W6 at *
  have h7 := h6.setCell (p := ⟨g, 6, none⟩) hg i
  generalize W6.setCell ⟨g, 6, none⟩ i = W7 at *
  exact h7.setCell (p := ⟨g, 7, none⟩) hg j
theorem set8_row {W : World} {g : Nat} {t : TypeId} {x0 x1 x2 x3 x4 x5 x6 x7 : Value} (h : W.heap[g]? = some (.cells #[x0, x1, x2, x3, x4, x5, x6, x7] t (0, 0))) (a b c d e f i j : Value) :
    ((((((((W.setCell ⟨g, 0, none⟩ a).setCell ⟨g, 1, none⟩ b).setCell ⟨g, 2, none⟩ c).setCell ⟨g, 3, none⟩ d).setCell ⟨g, 4, none⟩ e).setCell ⟨g, 5, none⟩ f).setCell ⟨g, 6, none⟩ i).setCell ⟨g, 7, none⟩ j).heap[g]? = some (.cells #[a, b, c, d, e, f, i, j] t (0, 0)) := by
  have h1 := b_set h 0 a
  simp only [List.setIfInBounds_toArray, List.set_cons_zero] at h1
  generalize W.setCell ⟨g, 0, none⟩ a = W1 at *
  have h2 := b_set h1 1 b
  simp only [List.setIfInBounds_toArray, List.set_cons_zero, List.set_cons_succ] at h2
  generalize W1.setCell ⟨g, 1, none⟩ b = W2 at *
  have h3 := b_set h2 2 c
  simp only [List.setIfInBounds_toArray, List.set_cons_zero, List.set_cons_succ] at h3
  generalize W2.setCell ⟨g, 2, none⟩ c = W3 at *
  have h4 := b_set h3 3 d
  simp only [List.setIfInBounds_toArray, List.set_cons_zero, List.set_cons_succ] at h4
  generalize W3.setCell ⟨g, 3, none⟩ d = W4 at *
  have h5 := b_set h4 4 e
  simp only [List.setIfInBounds_toArray, List.set_cons_zero, List.set_cons_succ] at h5
  generalize W4.setCell ⟨g, 4, none⟩ e = W5 at *
  have h6 := b_set h5 5 f
  simp only [List.setIfInBounds_toArray, List.set_cons_zero, List.set_cons_succ] at h6
  generalize W5.setCell ⟨g, 5, none⟩ f = W6 at *
  have h7 := b_set h6 6 i
  simp only [List.setIfInBounds_toArray, List.set_cons_zero, List.set_cons_succ] at h7
  generalize W6.setCell ⟨g, 6, none⟩ i = W7 at *
  have h8 := b_set h7 7 j
  simp only [List.setIfInBounds_toArray, List.set_cons_zero, List.set_cons_succ] at h8
  exact h8
theorem load_conf {W : World} {g : Nat} {t : TypeId} {fr : Nat × Nat} {a b c d e f i j : Value} (h : W.heap[g]? = some (.cells #[a, b, c, d, e, f, i, j] t fr)) : (loadVar 28 ⟨g, 0, none⟩).run Tryz.prog W = .ok (.agg #[a, b, c, d, e, f, i, j]) W :=
  run_loadVar_row W g t _ _ fr _ h Tryz.underlying28 rfl (by kernel_rfl)
/-- A return of a configuration and a number. -/
theorem ret_conf1 {fn : Func} {R : Ending → World → Prop} {tmps : Array Value} {W : World} (hf : fn.results = #[.cell 2 28, .tmp 3]) {g : Nat} {t : TypeId} {fr : Nat × Nat} {a b c d e f i j v : Value}
    (hrow : W.heap[g]? = some (.cells #[a, b, c, d, e, f, i, j] t fr)) (h2 : tmps.getD 2 undef = .pointer (some ⟨g, 0, none⟩)) (h3 : tmps.getD 3 undef = v) (hR : R (.returned (.tuple #[.agg #[a, b, c, d, e, f, i, j], v])) W) : bodyPost Tryz.prog fn R .ret ⟨tmps, []⟩ W :=
  bodyPost_ret (v := .tuple #[.agg #[a, b, c, d, e, f, i, j], v]) (by
    rw [results_cell_tmp hf]
    simp only
    rw [h2, h3]
    simp [asAddr, load_conf hrow]) rfl hR
def exCM (A2 : Option Addr) (k2 b0 c0 b1 c1 b2 c2 : Nat) : CM := ⟨[(([117], [[97]]), A2, k2)], [([47, 97], [117], [47, 110])], [([88], [121])], [], some ⟨b0, 0, none⟩, c0, some ⟨b1, 0, none⟩, c1, some ⟨b2, 0, none⟩, c2, none, 0, 1, 0, 1, 0⟩
theorem info_conf : (Tryz.prog.info? 28).map (·.size) = some 8 := by kernel_rfl
theorem exCM_one (A2 : Option Addr) (k2 b0 c0 b1 c1 b2 c2 : Nat) : (exCM A2 k2 b0 c0 b1 c1 b2 c2).row.all (·.oneCell') = true := by
  rw [Array.all_eq_true_iff_forall_mem]
  intro v hv
  simp only [exCM, CM.row, List.mem_toArray, List.mem_cons, List.not_mem_nil, or_false] at hv
  rcases hv with rfl | rfl | rfl | rfl | rfl | rfl | rfl | rfl <;> rfl
theorem exCM_ok (A2 : Option Addr) (k2 b0 c0 b1 c1 b2 c2 : Nat) (w : World) (R0 : Row w (some ⟨b0, 0, none⟩) (uV [(([117], [[97]]), A2, k2)])) (RA : Row w A2 (sV [[97]])) (R1 : Row w (some ⟨b1, 0, none⟩) (rV [([47, 97], [117], [47, 110])])) (R2 : Row w (some ⟨b2, 0, none⟩) (fV [([88], [121])])) : (exCM A2 k2 b0 c0 b1 c1 b2 c2).Ok w :=
  ⟨R0, fun u hu => by
    have hu' : u ∈ [((([117], [[97]]), A2, k2) : UpM)] := hu
    rw [List.mem_singleton] at hu'
    subst hu'
    exact ⟨RA, show ([117] : List UInt8).length ≤ 9223372036854775807 by decide, show ([[97]] : List (List UInt8)).length ≤ 9223372036854775807 by decide, show ∀ s ∈ ([[97]] : List (List UInt8)), s.length ≤ 9223372036854775807 by decide⟩, R1,
    show ∀ r ∈ ([([47, 97], [117], [47, 110])] : List RtD), r.1.length ≤ 9223372036854775807 ∧ r.2.1.length ≤ 9223372036854775807 ∧ r.2.2.length ≤ 9223372036854775807 by decide, R2,
    show ∀ f ∈ ([([88], [121])] : List FD), f.1.length ≤ 9223372036854775807 by decide, Row.nil _ _, (fun s hs => by cases hs), show 1 ≤ 9223372036854775807 by decide, show 1 ≤ 9223372036854775807 by decide, show 1 ≤ 9223372036854775807 by decide, show 0 ≤ 9223372036854775807 by decide⟩
theorem scut_any (s : ByteArray) (hs : s.size < 4294967281) (w : World) (hG : Gl w) (a b : List UInt8) (ok : Bool) (hp : Lib.cut s.data.toList [32] = (a, b, ok)) :
    Calls Tryz.prog 26 #[.string s, .string ⟨#[32]⟩] w fun e w' => e = .returned (.tuple #[.string ⟨a.toArray⟩, .string ⟨b.toArray⟩, .bool ok]) ∧ Only (fun _ => False) w w' := by
  obtain ⟨m, hm⟩ := hG.max
  refine (Tryz.strings_Cut s ⟨#[32]⟩ m w hs hm).mono ?_
  rintro e w2 ⟨rfl, k, rfl⟩
  rw [show (⟨#[32]⟩ : ByteArray).data.toList = [32] from rfl, hp]
  exact ⟨rfl, (Only.refl _ w).drewN k⟩
theorem words_cell {w : World} {b off : Nat} (hR : Row w (some ⟨b, off, none⟩) (sV wordsL)) : ∀ j, j < (wordsL.map B).length → w.cell? ⟨b, off + j, none⟩ = some (.string ((wordsL.map B).getD j ByteArray.empty)) := by
  intro j hj
  have hj8 : j < wordsL.length := by simpa using hj
  obtain ⟨b', off', e, _, hc⟩ := str_at hR j _ (List.getElem?_eq_getElem hj8)
  cases e
  rw [hc]
  congr 2
  rw [List.getD_eq_getElem?_getD, List.getElem?_map, List.getElem?_eq_getElem hj8]
  rfl
theorem has_word (b off c : Nat) (x : ByteArray) (w : World) (hR : Row w (some ⟨b, off, none⟩) (sV wordsL)) (hx : Lib.containsS ((wordsL.map B).take 8) x = true) :
    Calls Tryz.prog 27 #[.slice (some ⟨b, off, none⟩) 8 c, .string x] w fun e w' => e = .returned (.bool true) ∧ w' = w := by
  have h := Tryz.slices_Contains_string b off 8 c (wordsL.map B) x w (by decide) (by decide) (words_cell hR)
  rw [hx] at h
  exact h
theorem idx_word (b off c : Nat) (x : ByteArray) (w : World) (hR : Row w (some ⟨b, off, none⟩) (sV wordsL)) (i : Int) (hx : Lib.idxOfS ((wordsL.map B).take 8) x = i) :
    Calls Tryz.prog 28 #[.slice (some ⟨b, off, none⟩) 8 c, .string x] w fun e w' => e = .returned (.int .i64 i) ∧ w' = w := by
  have h := Tryz.slices_Index_string b off 8 c (wordsL.map B) x w (by decide) (by decide) (words_cell hR)
  rw [hx] at h
  exact h

set_option maxRecDepth 100000 in
set_option maxHeartbeats 4000000 in
theorem read_ex (s : ByteArray) (hs : s.data.toList = exText) (w : World) (hG : Gl w) :
    Calls Tryz.prog 10 #[.string s] w fun e w' => ∃ x : CM, e = .returned (.tuple #[.agg x.row, .int .i64 0]) ∧ x.cf = exConf ∧ x.Ok w' ∧ (x.SA = none → x.set.length = 0 ∧ x.sc = 0) ∧ (x.DA = none → x.drop.length = 0) ∧ Only (fun _ => False) w w' := by
  have hsz : s.size = 60 := by
    have : s.size = s.data.toList.length := rfl
    rw [this, hs]
    rfl
  go_enter Tryz.func10, Tryz.ntmps10
  go_upto_region 1 with (fail)
  have HB := b_new w (.cells #[.slice none 0 0, .slice none 0 0, .slice none 0 0, .slice none 0 0, .int .i64 0, .int .i64 0, .int .i64 0, .int .i64 0] 28)
  have O1 := (Only.refl (fun _ => False) w).alloc (.cells #[.slice none 0 0, .slice none 0 0, .slice none 0 0, .slice none 0 0, .int .i64 0, .int .i64 0, .int .i64 0, .int .i64 0] 28)
  generalize w.alloc (.cells #[.slice none 0 0, .slice none 0 0, .slice none 0 0, .slice none 0 0, .int .i64 0, .int .i64 0, .int .i64 0, .int .i64 0] 28) = w1 at *
  obtain ⟨g2, hg2⟩ : ∃ g, w.heap.size = g := ⟨_, rfl⟩
  rw [hg2] at HB ⊢
  replace hs := hid hs
  go_wp2_with fail
  refine (strSplit_any 10 s (by omega) w1 (hG.same O1)).mono ?_
  rintro e w2 ⟨A, cl, rfl, HP, O2⟩
  have hsp : splitC 10 s.data.toList = [[117, 112, 32, 117, 32, 97], [114, 111, 117, 116, 101, 32, 47, 97, 32, 117, 32, 47, 110], [115, 101, 116, 32, 88, 32, 121], [116, 111, 116, 97, 108, 32, 49], [116, 114, 105, 101, 115, 32, 48], [102, 97, 105, 108, 115, 32, 49], [99, 111, 111, 108, 32, 48], []] := by rw [hs.out]; decide
  rw [hsp] at HP ⊢
  clear hsp
  obtain ⟨gl, rfl, hgl1, hgl⟩ := Own.some_of HP (by decide)
  have HR := HP.row
  have hcap := (Own.cap HP).1
  replace HP := HP.blk
  have l0 : w2.cell? ⟨gl, 0, none⟩ = some (.string ⟨#[117, 112, 32, 117, 32, 97]⟩) := by obtain ⟨b, off, e, _, hc⟩ := str_at HR 0 _ rfl; cases e; exact hc
  have l1 : w2.cell? ⟨gl, 1, none⟩ = some (.string ⟨#[114, 111, 117, 116, 101, 32, 47, 97, 32, 117, 32, 47, 110]⟩) := by obtain ⟨b, off, e, _, hc⟩ := str_at HR 1 _ rfl; cases e; exact hc
  have l2 : w2.cell? ⟨gl, 2, none⟩ = some (.string ⟨#[115, 101, 116, 32, 88, 32, 121]⟩) := by obtain ⟨b, off, e, _, hc⟩ := str_at HR 2 _ rfl; cases e; exact hc
  have l3 : w2.cell? ⟨gl, 3, none⟩ = some (.string ⟨#[116, 111, 116, 97, 108, 32, 49]⟩) := by obtain ⟨b, off, e, _, hc⟩ := str_at HR 3 _ rfl; cases e; exact hc
  have l4 : w2.cell? ⟨gl, 4, none⟩ = some (.string ⟨#[116, 114, 105, 101, 115, 32, 48]⟩) := by obtain ⟨b, off, e, _, hc⟩ := str_at HR 4 _ rfl; cases e; exact hc
  have l5 : w2.cell? ⟨gl, 5, none⟩ = some (.string ⟨#[102, 97, 105, 108, 115, 32, 49]⟩) := by obtain ⟨b, off, e, _, hc⟩ := str_at HR 5 _ rfl; cases e; exact hc
  have l6 : w2.cell? ⟨gl, 6, none⟩ = some (.string ⟨#[99, 111, 111, 108, 32, 48]⟩) := by obtain ⟨b, off, e, _, hc⟩ := str_at HR 6 _ rfl; cases e; exact hc
  have l7 : w2.cell? ⟨gl, 7, none⟩ = some (.string ⟨#[]⟩) := by obtain ⟨b, off, e, _, hc⟩ := str_at HR 7 _ rfl; cases e; exact hc
  have O := O1.trans O2
  have HB2 := O2.keep HB (fun h => h)
  simp only [List.length_cons, List.length_nil, Nat.zero_add, Nat.reduceAdd] at hcap ⊢
  clear HR HP O1 O2 HB
  go_wp2_with fail
  refine (words_any w2).mono ?_
  rintro e w3 ⟨A, cw, rfl, HW, ⟨gw, rfl⟩, O3⟩
  have hgwl := HW.lt (by decide) gw ⟨_, rfl, rfl⟩
  have hgl3 := Nat.lt_of_lt_of_le hgl O3.size
  replace HB2 := O3.keep HB2 (fun h => h)
  replace l0 := (O3.cell (p := ⟨gl, 0, none⟩) hgl (fun h => h)).trans l0
  replace l1 := (O3.cell (p := ⟨gl, 1, none⟩) hgl (fun h => h)).trans l1
  replace l2 := (O3.cell (p := ⟨gl, 2, none⟩) hgl (fun h => h)).trans l2
  replace l3 := (O3.cell (p := ⟨gl, 3, none⟩) hgl (fun h => h)).trans l3
  replace l4 := (O3.cell (p := ⟨gl, 4, none⟩) hgl (fun h => h)).trans l4
  replace l5 := (O3.cell (p := ⟨gl, 5, none⟩) hgl (fun h => h)).trans l5
  replace l6 := (O3.cell (p := ⟨gl, 6, none⟩) hgl (fun h => h)).trans l6
  replace O := O.trans O3
  clear O3 l7
  have hG3 := hG.same O
  have Q : Only (fun _ => False) w3 w3 := Only.refl _ _
  replace HW := hid HW
  go_wp2_with fail
  refine wp_loop_rounds 8 ?_
  -- the first loop, line 0
  rw [rounds_succ]
  have lk := (Q.cell (p := ⟨gl, 0, none⟩) hgl3 (fun h => h)).trans l0
  go_wp2_with fail
  refine (scut_any ⟨#[117, 112, 32, 117, 32, 97]⟩ (by decide) _ (hG3.same Q) [117, 112] [117, 32, 97] true (by decide)).mono ?_
  rintro e wn ⟨rfl, On⟩
  replace Q := Q.trans On
  clear lk On
  go_wp2_with fail
  refine (has_word gw 0 cw _ _ (HW.out.same Q) (by decide)).mono ?_
  rintro e wn2 ⟨rfl, rfl⟩
  go_wp2_with fail
  -- the first loop, line 1
  rw [rounds_succ]
  have lk := (Q.cell (p := ⟨gl, 1, none⟩) hgl3 (fun h => h)).trans l1
  go_wp2_with fail
  refine (scut_any ⟨#[114, 111, 117, 116, 101, 32, 47, 97, 32, 117, 32, 47, 110]⟩ (by decide) _ (hG3.same Q) [114, 111, 117, 116, 101] [47, 97, 32, 117, 32, 47, 110] true (by decide)).mono ?_
  rintro e wn ⟨rfl, On⟩
  replace Q := Q.trans On
  clear lk On
  go_wp2_with fail
  refine (has_word gw 0 cw _ _ (HW.out.same Q) (by decide)).mono ?_
  rintro e wn2 ⟨rfl, rfl⟩
  go_wp2_with fail
  -- the first loop, line 2
  rw [rounds_succ]
  have lk := (Q.cell (p := ⟨gl, 2, none⟩) hgl3 (fun h => h)).trans l2
  go_wp2_with fail
  refine (scut_any ⟨#[115, 101, 116, 32, 88, 32, 121]⟩ (by decide) _ (hG3.same Q) [115, 101, 116] [88, 32, 121] true (by decide)).mono ?_
  rintro e wn ⟨rfl, On⟩
  replace Q := Q.trans On
  clear lk On
  go_wp2_with fail
  refine (has_word gw 0 cw _ _ (HW.out.same Q) (by decide)).mono ?_
  rintro e wn2 ⟨rfl, rfl⟩
  go_wp2_with fail
  -- the first loop, line 3
  rw [rounds_succ]
  have lk := (Q.cell (p := ⟨gl, 3, none⟩) hgl3 (fun h => h)).trans l3
  go_wp2_with fail
  refine (scut_any ⟨#[116, 111, 116, 97, 108, 32, 49]⟩ (by decide) _ (hG3.same Q) [116, 111, 116, 97, 108] [49] true (by decide)).mono ?_
  rintro e wn ⟨rfl, On⟩
  replace Q := Q.trans On
  clear lk On
  go_wp2_with fail
  refine (has_word gw 0 cw _ _ (HW.out.same Q) (by decide)).mono ?_
  rintro e wn2 ⟨rfl, rfl⟩
  go_wp2_with fail
  -- the first loop, line 4
  rw [rounds_succ]
  have lk := (Q.cell (p := ⟨gl, 4, none⟩) hgl3 (fun h => h)).trans l4
  go_wp2_with fail
  refine (scut_any ⟨#[116, 114, 105, 101, 115, 32, 48]⟩ (by decide) _ (hG3.same Q) [116, 114, 105, 101, 115] [48] true (by decide)).mono ?_
  rintro e wn ⟨rfl, On⟩
  replace Q := Q.trans On
  clear lk On
  go_wp2_with fail
  refine (has_word gw 0 cw _ _ (HW.out.same Q) (by decide)).mono ?_
  rintro e wn2 ⟨rfl, rfl⟩
  go_wp2_with fail
  -- the first loop, line 5
  rw [rounds_succ]
  have lk := (Q.cell (p := ⟨gl, 5, none⟩) hgl3 (fun h => h)).trans l5
  go_wp2_with fail
  refine (scut_any ⟨#[102, 97, 105, 108, 115, 32, 49]⟩ (by decide) _ (hG3.same Q) [102, 97, 105, 108, 115] [49] true (by decide)).mono ?_
  rintro e wn ⟨rfl, On⟩
  replace Q := Q.trans On
  clear lk On
  go_wp2_with fail
  refine (has_word gw 0 cw _ _ (HW.out.same Q) (by decide)).mono ?_
  rintro e wn2 ⟨rfl, rfl⟩
  go_wp2_with fail
  -- the first loop, line 6
  rw [rounds_succ]
  have lk := (Q.cell (p := ⟨gl, 6, none⟩) hgl3 (fun h => h)).trans l6
  go_wp2_with fail
  refine (scut_any ⟨#[99, 111, 111, 108, 32, 48]⟩ (by decide) _ (hG3.same Q) [99, 111, 111, 108] [48] true (by decide)).mono ?_
  rintro e wn ⟨rfl, On⟩
  replace Q := Q.trans On
  clear lk On
  go_wp2_with fail
  refine (has_word gw 0 cw _ _ (HW.out.same Q) (by decide)).mono ?_
  rintro e wn2 ⟨rfl, rfl⟩
  go_wp2_with fail
  rw [rounds_succ]
  go_upto_region 16 with (fail)
  have H := b_new wn2 (.cells #[.slice none 0 0, .slice none 0 0, .slice none 0 0, .slice none 0 0, .int .i64 0, .int .i64 0, .int .i64 0, .int .i64 0] 28)
  have QM := Q.alloc (.cells #[.slice none 0 0, .slice none 0 0, .slice none 0 0, .slice none 0 0, .int .i64 0, .int .i64 0, .int .i64 0, .int .i64 0] 28)
  have hQs := Q.size
  obtain ⟨g, hg⟩ : ∃ g, wn2.heap.size = g := ⟨_, rfl⟩
  generalize wn2.alloc (.cells #[.slice none 0 0, .slice none 0 0, .slice none 0 0, .slice none 0 0, .int .i64 0, .int .i64 0, .int .i64 0, .int .i64 0] 28) = wM at *
  rw [hg] at H hQs ⊢
  have HWM := hid (HW.out.same QM)
  have hgM := b_lt H
  have HBM := hid (QM.keep HB2 (fun h => h))
  have hg2l := b_lt HB2
  have hGM := hG3.same QM
  have hgg := Nat.le_trans hG3.size hQs
  have OM := hid (O.trans QM)
  have hglM := Nat.lt_of_lt_of_le hgl3 QM.size
  have m0 := hid ((QM.cell (p := ⟨gl, 0, none⟩) hgl3 (fun h => h)).trans l0)
  have m1 := hid ((QM.cell (p := ⟨gl, 1, none⟩) hgl3 (fun h => h)).trans l1)
  have m2 := hid ((QM.cell (p := ⟨gl, 2, none⟩) hgl3 (fun h => h)).trans l2)
  have m3 := hid ((QM.cell (p := ⟨gl, 3, none⟩) hgl3 (fun h => h)).trans l3)
  have m4 := hid ((QM.cell (p := ⟨gl, 4, none⟩) hgl3 (fun h => h)).trans l4)
  have m5 := hid ((QM.cell (p := ⟨gl, 5, none⟩) hgl3 (fun h => h)).trans l5)
  have m6 := hid ((QM.cell (p := ⟨gl, 6, none⟩) hgl3 (fun h => h)).trans l6)
  have P : Only (fun i => i = g) wM wM := Only.refl _ _
  have e1 : ¬ gl = g := by omega
  have e2 : ¬ gw = g := by omega
  have e3 : ¬ g2 = g := by omega
  have hwg : w.heap.size ≤ g := by omega
  have hgwM := HWM.out.lt (by decide)
  clear l0 l1 l2 l3 l4 l5 l6 O Q QM HW HB2 hG3 hQs hgl3 hgl hgl1 hgwl
  go_wp2_with fail
  refine wp_loop_rounds 8 ?_
  -- the second loop, line 0
  rw [rounds_succ]
  have lk := (P.cell (p := ⟨gl, 0, none⟩) hglM e1).trans m0.out
  go_wp2_with fail
  refine (scut_any ⟨#[117, 112, 32, 117, 32, 97]⟩ (by decide) _ (hGM.g hgg P) [117, 112] [117, 32, 97] true (by decide)).mono ?_
  rintro e wn ⟨rfl, On⟩
  replace P := P.trans' On (fun i hi => hi.elim)
  replace H := On.keep H (fun h => h)
  clear lk On
  go_wp2_with fail
  refine (idx_word gw 0 cw _ _ (HWM.out.keep P (fun i hi => by obtain ⟨a, ha, e⟩ := hi; cases ha; simp only at e; omega)) 0 (by decide)).mono ?_
  rintro e wn2 ⟨rfl, rfl⟩
  go_wp2_with fail
  have hgx := b_lt H
  refine (take_up g _ _ _ _ _ _ _ _ (hGM.g hgg P) H).mono ?_
  rintro e wk ⟨rfl, Ok, b0, c0, A2, k2, hb0, Hn, R0, RA, hA2⟩
  have n0 : Hid (∀ i, ab (some (⟨b0, 0, none⟩ : Addr)) i → ¬ i = g) := hid (fun i hi => by obtain ⟨a, ha, e⟩ := hi; cases ha; simp only at e; omega)
  have nA : Hid (∀ i, ab A2 i → ¬ i = g) := hid (fun i hi => by have := hA2 i hi; omega)
  have tA : Hid (∀ i, ab A2 i → g < i) := hid (fun i hi => by have := hA2 i hi; omega)
  have t0 : Hid (g < b0) := hid (by omega)
  replace R0 := hid R0
  replace RA := hid RA
  clear hA2 hb0 hgx
  replace P := P.trans Ok
  replace H := Hn
  clear Ok Hn
  go_wp2_with fail
  -- the second loop, line 1
  rw [rounds_succ]
  have lk := (P.cell (p := ⟨gl, 1, none⟩) hglM e1).trans m1.out
  go_wp2_with fail
  refine (scut_any ⟨#[114, 111, 117, 116, 101, 32, 47, 97, 32, 117, 32, 47, 110]⟩ (by decide) _ (hGM.g hgg P) [114, 111, 117, 116, 101] [47, 97, 32, 117, 32, 47, 110] true (by decide)).mono ?_
  rintro e wn ⟨rfl, On⟩
  replace P := P.trans' On (fun i hi => hi.elim)
  replace H := On.keep H (fun h => h)
  replace R0 := hid (R0.out.same On)
  replace RA := hid (RA.out.same On)
  clear lk On
  go_wp2_with fail
  refine (idx_word gw 0 cw _ _ (HWM.out.keep P (fun i hi => by obtain ⟨a, ha, e⟩ := hi; cases ha; simp only at e; omega)) 1 (by decide)).mono ?_
  rintro e wn2 ⟨rfl, rfl⟩
  go_wp2_with fail
  have hgx := b_lt H
  refine (take_route g _ _ _ _ _ _ _ _ (hGM.g hgg P) H).mono ?_
  rintro e wk ⟨rfl, Ok, b1, c1, hb, Hn, R1⟩
  have n1 : Hid (∀ i, ab (some (⟨b1, 0, none⟩ : Addr)) i → ¬ i = g) := hid (fun i hi => by obtain ⟨a, ha, e⟩ := hi; cases ha; simp only at e; omega)
  have t1 : Hid (g < b1) := hid (by omega)
  replace R1 := hid R1
  clear hb hgx
  replace R0 := hid (R0.out.keep Ok n0.out)
  replace RA := hid (RA.out.keep Ok nA.out)
  replace P := P.trans Ok
  replace H := Hn
  clear Ok Hn
  go_wp2_with fail
  -- the second loop, line 2
  rw [rounds_succ]
  have lk := (P.cell (p := ⟨gl, 2, none⟩) hglM e1).trans m2.out
  go_wp2_with fail
  refine (scut_any ⟨#[115, 101, 116, 32, 88, 32, 121]⟩ (by decide) _ (hGM.g hgg P) [115, 101, 116] [88, 32, 121] true (by decide)).mono ?_
  rintro e wn ⟨rfl, On⟩
  replace P := P.trans' On (fun i hi => hi.elim)
  replace H := On.keep H (fun h => h)
  replace R0 := hid (R0.out.same On)
  replace RA := hid (RA.out.same On)
  replace R1 := hid (R1.out.same On)
  clear lk On
  go_wp2_with fail
  refine (idx_word gw 0 cw _ _ (HWM.out.keep P (fun i hi => by obtain ⟨a, ha, e⟩ := hi; cases ha; simp only at e; omega)) 2 (by decide)).mono ?_
  rintro e wn2 ⟨rfl, rfl⟩
  go_wp2_with fail
  have hgx := b_lt H
  refine (take_set g _ _ _ _ _ _ _ _ (hGM.g hgg P) H).mono ?_
  rintro e wk ⟨rfl, Ok, b2, c2, hb, Hn, R2⟩
  have n2 : Hid (∀ i, ab (some (⟨b2, 0, none⟩ : Addr)) i → ¬ i = g) := hid (fun i hi => by obtain ⟨a, ha, e⟩ := hi; cases ha; simp only at e; omega)
  have t2 : Hid (g < b2) := hid (by omega)
  replace R2 := hid R2
  clear hb hgx
  replace R0 := hid (R0.out.keep Ok n0.out)
  replace RA := hid (RA.out.keep Ok nA.out)
  replace R1 := hid (R1.out.keep Ok n1.out)
  replace P := P.trans Ok
  replace H := Hn
  clear Ok Hn
  go_wp2_with fail
  -- the second loop, line 3
  rw [rounds_succ]
  have lk := (P.cell (p := ⟨gl, 3, none⟩) hglM e1).trans m3.out
  go_wp2_with fail
  refine (scut_any ⟨#[116, 111, 116, 97, 108, 32, 49]⟩ (by decide) _ (hGM.g hgg P) [116, 111, 116, 97, 108] [49] true (by decide)).mono ?_
  rintro e wn ⟨rfl, On⟩
  replace P := P.trans' On (fun i hi => hi.elim)
  replace H := On.keep H (fun h => h)
  replace R0 := hid (R0.out.same On)
  replace RA := hid (RA.out.same On)
  replace R1 := hid (R1.out.same On)
  replace R2 := hid (R2.out.same On)
  clear lk On
  go_wp2_with fail
  refine (idx_word gw 0 cw _ _ (HWM.out.keep P (fun i hi => by obtain ⟨a, ha, e⟩ := hi; cases ha; simp only at e; omega)) 4 (by decide)).mono ?_
  rintro e wn2 ⟨rfl, rfl⟩
  go_wp2_with fail
  refine (take_num g _ _ _ _ _ _ _ _ ⟨#[116, 111, 116, 97, 108]⟩ ⟨#[49]⟩ 1 4 _ (hGM.g hgg P) hgg (by decide) (by decide +kernel) (by decide +kernel) (by decide) (by decide) H).mono ?_
  rintro e wk ⟨rfl, Ok, Hn⟩
  simp only [List.setIfInBounds_toArray, List.set_cons_zero, List.set_cons_succ] at Hn
  replace R0 := hid (R0.out.keep Ok n0.out)
  replace RA := hid (RA.out.keep Ok nA.out)
  replace R1 := hid (R1.out.keep Ok n1.out)
  replace R2 := hid (R2.out.keep Ok n2.out)
  replace P := P.trans Ok
  replace H := Hn
  clear Ok Hn
  go_wp2_with fail
  -- the second loop, line 4
  rw [rounds_succ]
  have lk := (P.cell (p := ⟨gl, 4, none⟩) hglM e1).trans m4.out
  go_wp2_with fail
  refine (scut_any ⟨#[116, 114, 105, 101, 115, 32, 48]⟩ (by decide) _ (hGM.g hgg P) [116, 114, 105, 101, 115] [48] true (by decide)).mono ?_
  rintro e wn ⟨rfl, On⟩
  replace P := P.trans' On (fun i hi => hi.elim)
  replace H := On.keep H (fun h => h)
  replace R0 := hid (R0.out.same On)
  replace RA := hid (RA.out.same On)
  replace R1 := hid (R1.out.same On)
  replace R2 := hid (R2.out.same On)
  clear lk On
  go_wp2_with fail
  refine (idx_word gw 0 cw _ _ (HWM.out.keep P (fun i hi => by obtain ⟨a, ha, e⟩ := hi; cases ha; simp only at e; omega)) 5 (by decide)).mono ?_
  rintro e wn2 ⟨rfl, rfl⟩
  go_wp2_with fail
  refine (take_num g _ _ _ _ _ _ _ _ ⟨#[116, 114, 105, 101, 115]⟩ ⟨#[48]⟩ 0 5 _ (hGM.g hgg P) hgg (by decide) (by decide +kernel) (by decide +kernel) (by decide) (by decide) H).mono ?_
  rintro e wk ⟨rfl, Ok, Hn⟩
  simp only [List.setIfInBounds_toArray, List.set_cons_zero, List.set_cons_succ] at Hn
  replace R0 := hid (R0.out.keep Ok n0.out)
  replace RA := hid (RA.out.keep Ok nA.out)
  replace R1 := hid (R1.out.keep Ok n1.out)
  replace R2 := hid (R2.out.keep Ok n2.out)
  replace P := P.trans Ok
  replace H := Hn
  clear Ok Hn
  go_wp2_with fail
  -- the second loop, line 5
  rw [rounds_succ]
  have lk := (P.cell (p := ⟨gl, 5, none⟩) hglM e1).trans m5.out
  go_wp2_with fail
  refine (scut_any ⟨#[102, 97, 105, 108, 115, 32, 49]⟩ (by decide) _ (hGM.g hgg P) [102, 97, 105, 108, 115] [49] true (by decide)).mono ?_
  rintro e wn ⟨rfl, On⟩
  replace P := P.trans' On (fun i hi => hi.elim)
  replace H := On.keep H (fun h => h)
  replace R0 := hid (R0.out.same On)
  replace RA := hid (RA.out.same On)
  replace R1 := hid (R1.out.same On)
  replace R2 := hid (R2.out.same On)
  clear lk On
  go_wp2_with fail
  refine (idx_word gw 0 cw _ _ (HWM.out.keep P (fun i hi => by obtain ⟨a, ha, e⟩ := hi; cases ha; simp only at e; omega)) 6 (by decide)).mono ?_
  rintro e wn2 ⟨rfl, rfl⟩
  go_wp2_with fail
  refine (take_num g _ _ _ _ _ _ _ _ ⟨#[102, 97, 105, 108, 115]⟩ ⟨#[49]⟩ 1 6 _ (hGM.g hgg P) hgg (by decide) (by decide +kernel) (by decide +kernel) (by decide) (by decide) H).mono ?_
  rintro e wk ⟨rfl, Ok, Hn⟩
  simp only [List.setIfInBounds_toArray, List.set_cons_zero, List.set_cons_succ] at Hn
  replace R0 := hid (R0.out.keep Ok n0.out)
  replace RA := hid (RA.out.keep Ok nA.out)
  replace R1 := hid (R1.out.keep Ok n1.out)
  replace R2 := hid (R2.out.keep Ok n2.out)
  replace P := P.trans Ok
  replace H := Hn
  clear Ok Hn
  go_wp2_with fail
  -- the second loop, line 6
  rw [rounds_succ]
  have lk := (P.cell (p := ⟨gl, 6, none⟩) hglM e1).trans m6.out
  go_wp2_with fail
  refine (scut_any ⟨#[99, 111, 111, 108, 32, 48]⟩ (by decide) _ (hGM.g hgg P) [99, 111, 111, 108] [48] true (by decide)).mono ?_
  rintro e wn ⟨rfl, On⟩
  replace P := P.trans' On (fun i hi => hi.elim)
  replace H := On.keep H (fun h => h)
  replace R0 := hid (R0.out.same On)
  replace RA := hid (RA.out.same On)
  replace R1 := hid (R1.out.same On)
  replace R2 := hid (R2.out.same On)
  clear lk On
  go_wp2_with fail
  refine (idx_word gw 0 cw _ _ (HWM.out.keep P (fun i hi => by obtain ⟨a, ha, e⟩ := hi; cases ha; simp only at e; omega)) 7 (by decide)).mono ?_
  rintro e wn2 ⟨rfl, rfl⟩
  go_wp2_with fail
  refine (take_num g _ _ _ _ _ _ _ _ ⟨#[99, 111, 111, 108]⟩ ⟨#[48]⟩ 0 7 _ (hGM.g hgg P) hgg (by decide) (by decide +kernel) (by decide +kernel) (by decide) (by decide) H).mono ?_
  rintro e wk ⟨rfl, Ok, Hn⟩
  simp only [List.setIfInBounds_toArray, List.set_cons_zero, List.set_cons_succ] at Hn
  replace R0 := hid (R0.out.keep Ok n0.out)
  replace RA := hid (RA.out.keep Ok nA.out)
  replace R1 := hid (R1.out.keep Ok n1.out)
  replace R2 := hid (R2.out.keep Ok n2.out)
  replace P := P.trans Ok
  replace H := Hn
  clear Ok Hn
  go_wp2_with fail
  rw [rounds_succ]
  have HX := exCM_ok A2 k2 b0 c0 b1 c1 b2 c2 wk R0.out RA.out R1.out R2.out
  have hck := check_any _ _ HX
  rw [show checkF (exCM A2 k2 b0 c0 b1 c1 b2 c2).cf = 0 from ex_check] at hck
  obtain ⟨d0, d1, d2, d3, d4, d5, d6, d7⟩ := cells8 H
  replace HX := hid HX
  go_wp2_with fail
  refine hck.mono ?_
  rintro e wc ⟨rfl, Oc⟩
  clear hck d0 d1 d2 d3 d4 d5 d6 d7
  have HB := Oc.keep (P.keep HBM.out e3) (fun h => h)
  replace H := Oc.keep H (fun h => h)
  have OF := ((OM.out.trans' P (fun i hi => .inr (by omega))).trans Oc)
  have HXc := HX.out.same Oc
  obtain ⟨d0, d1, d2, d3, d4, d5, d6, d7⟩ := cells8 H
  replace HXc := hid HXc
  replace OF := hid OF
  clear HX P R0 RA R1 R2 n0 n1 n2 nA hGM
  go_upto_region 34 with (fail)
  have HC : wc.heap[g]? = some (.cells (exCM A2 k2 b0 c0 b1 c1 b2 c2).row 28 (0, 0)) := H
  refine wp_region_lit ?_
  refine wpList_load_row rfl 28 (.tmp 11) rfl g rfl 28 (exCM A2 k2 b0 c0 b1 c1 b2 c2).row (0, 0) _ HC Tryz.underlying28 rfl info_conf ?_
  refine wpList_store_row rfl 28 (.tmp 2) (.tmp 116) rfl g2 (exCM A2 k2 b0 c0 b1 c1 b2 c2).row rfl rfl 28 _ HB info_conf rfl (exCM_one ..) ?_
  simp only [Act.put, List.setIfInBounds_toArray, List.set_cons_zero, List.set_cons_succ]
  have HF := hid (setRow_heap wc g2 _ (exCM A2 k2 b0 c0 b1 c1 b2 c2).row _ _ HB)
  have oF : Only (fun i => i = g2) wc (wc.setRow g2 (exCM A2 k2 b0 c0 b1 c1 b2 c2).row) := only_setRow wc g2 _ rfl
  clear H HB HC d0 d1 d2 d3 d4 d5 d6 d7
  generalize wc.setRow g2 (exCM A2 k2 b0 c0 b1 c1 b2 c2).row = wf at *
  go_step
  go_simp
  go_step
  go_step
  go_step
  go_step
  go_step
  have HF' : wf.heap[g2]? = some (.cells #[.slice (some ⟨b0, 0, none⟩) 1 c0, .slice (some ⟨b1, 0, none⟩) 1 c1, .slice (some ⟨b2, 0, none⟩) 1 c2, .slice none 0 0, .int .i64 1, .int .i64 0, .int .i64 1, .int .i64 0] 28 (0, 0)) := HF.out
  have n4 : ∀ b, g < b → ∀ i, ab (some (⟨b, 0, none⟩ : Addr)) i → ¬ i = g2 := fun b hb i hi => by obtain ⟨a, ha, e⟩ := hi; cases ha; simp only at e; omega
  have HXF : (exCM A2 k2 b0 c0 b1 c1 b2 c2).Ok wf := exCM_ok A2 k2 b0 c0 b1 c1 b2 c2 wf (HXc.out.ups.keep oF (n4 b0 t0.out)) ((HXc.out.aims _ (List.mem_singleton.2 rfl)).1.keep oF (fun i hi e => by have := tA.out i hi; omega)) (HXc.out.rts.keep oF (n4 b1 t1.out)) (HXc.out.sets.keep oF (n4 b2 t2.out))
  refine ret_conf1 (v := .int .i64 0) Tryz.results10 HF' ?_ ?_ ?_
  · rfl
  · rfl
  · exact ⟨exCM A2 k2 b0 c0 b1 c1 b2 c2, rfl, rfl, HXF, (fun h => by cases h), fun _ => rfl, OF.out.trans' oF (fun i hi => .inr (by omega))⟩
end Go.Proofs.YtafljoiblfhioaaGreatDoor
