/-
  The walk of MeterLatch.
-/
import Derived.Test.YtmgjeinjifjaaaaLb
import Derived.Test.YtmgjeinjifjaaaaM
namespace Go.Proofs.Ytmgjeinjifjaaaa
open Go.RowKit

theorem fold' {F : World → Prop} {P : Program} {c : Code} {Q : Exit → Act → World → Prop} {a : Act} {W : World} (hf : F W) (h : ∀ W', F W' → Code.wp P c Q a W') : Code.wp P c Q a W := h W hf

theorem count_any (g : Nat) (z : Int) (b : Nat) (hz : 0 ≤ z ∧ z ≤ 1000) (w1 : World) (_ : Hid (LAt w1 b 0 1 0)) (hg : w1.heap[g]? = some (.cells #[.int .i64 z] 3 (0, 0))) :
    Calls Try.prog 19 #[.pointer (some ⟨g, 0, none⟩)] w1 fun e w2 => e = .returned (.tuple #[]) ∧ w2.heap[g]? = some (.cells #[.int .i64 (z + 1)] 3 (0, 0)) ∧ Only (· = g) w1 w2 := by
  obtain ⟨hz0, hz1⟩ := hz
  have c := b_cell hg 0
  have f := b_free hg 0
  simp only [List.getElem?_toArray, List.getElem?_cons_zero] at c
  have HG := hid hg
  clear hg
  go_enter Try.func19, Try.ntmps19
  go_wp2
  go_end0
  exact ⟨rfl, b_set HG.out 0 _, o_put (Only.refl _ _) 0 _⟩

theorem look_any (b g : Nat) (w1 : World) (h : Hid (LAt w1 b 0 1 0)) (hg : w1.heap[g]? = some (.cells #[.bool false] 4 (0, 0))) :
    Calls Try.prog 21 #[.pointer (some ⟨b, 0, none⟩), .pointer (some ⟨g, 0, none⟩)] w1 fun e w2 => e = .returned (.tuple #[]) ∧ w2.heap[g]? = some (.cells #[.bool false] 4 (0, 0)) ∧ Only (· = g) w1 w2 := by
  have c := b_cell hg 0
  have f := b_free hg 0
  simp only [List.getElem?_toArray, List.getElem?_cons_zero] at c
  have HG := hid hg
  clear hg
  go_enter Try.func21, Try.ntmps21
  go_wp2_with fail
  refine (closed_any b 0 1 0 _ h false rfl).mono ?_
  rintro e w2 ⟨rfl, rfl⟩
  go_wp2_with fail
  go_end0
  exact ⟨rfl, b_set HG.out 0 _, o_put (Only.refl _ _) 0 _⟩

/-- Behind k calls. -/
def LSt (w : World) (l cn : Nat) (no : Bool) (k : Nat) (fi : Int) (wr : World) : Prop :=
  ∃ c : Int, ((k = 0 ∧ LAt wr l 0 0 0 ∧ fi = 0 ∧ c = 0) ∨ (0 < k ∧ LAt wr l 1 0 1 ∧ fi = 1 ∧ c = if no then 0 else 1)) ∧ wr.heap[cn]? = some (.cells #[.int .i64 c] 3 (0, 0)) ∧ Only (fun _ => False) w wr

set_option maxRecDepth 100000 in
set_option maxHeartbeats 1600000 in
theorem latch_walk (a0 : Int) (no : Bool) (w : World) :
    Calls Try.prog 7 #[.int .i64 a0, .bool no] w fun e w' => e = .returned (.bool true) ∧ Below w.heap.size w w' := by
  have hmf : ∀ (fn : Fn) (first cap : Array Value) (w : World), (Instr.makeFunc fn first cap).run Try.prog w = .ok (.func fn first cap) w := fun _ _ _ _ => rfl
  obtain ⟨x, hx⟩ : ∃ x : Nat, a0 % 32 = (x : Int) := ⟨(a0 % 32).toNat, by omega⟩
  have hx1 : x < 32 := by omega
  go_enter Try.func7, Try.ntmps7
  go_upto_region 2 with (fail)
  refine fold' (F := fun W' => Hid (LAt W' w.heap.size 0 0 0) ∧ Only (fun _ => False) w W') ⟨hid (b_new w _), (Only.refl _ _).alloc _⟩ ?_
  rintro w1 ⟨H1, o1⟩
  go_wp2_with fail
  refine (alive_any _).mono ?_
  rintro e w2 ⟨rfl, l2⟩
  have H2 := hid (show LAt w2 _ 0 0 0 from b_below l2 H1.out (b_lt H1.out))
  have o2 := o1.trans (Only.of_below l2)
  clear H1 o1 l2
  go_wp2_with fail
  refine (closed_any _ 0 0 0 _ H2 false rfl).mono ?_
  rintro e w3 ⟨rfl, rfl⟩
  go_upto_region 6 with (fail)
  have hlc : w.heap.size < w2.heap.size := b_lt H2.out
  refine fold' (F := fun W' => Hid (LAt W' w.heap.size 0 0 0) ∧ Hid (W'.heap[w2.heap.size]? = some (.cells #[.int .i64 0] 3 (0, 0))) ∧ Only (fun _ => False) w W') ⟨hid (b_alloc H2.out _), hid (b_new w2 _), o2.alloc _⟩ ?_
  clear H2 o2
  rintro w4 ⟨H4, C4, o4⟩
  go_wp2_with fail
  go_loopw [7, 8] (fun fv iv wr => ∃ (k : Nat) (fi : Int), k ≤ x ∧ iv = .int .i64 (k : Int) ∧ fv = .int .i64 fi ∧ Hid (LSt w w.heap.size w2.heap.size no k fi wr)) (fun _ iv _ => x - (intOf iv).toNat)
  case atStart => exact ⟨0, 0, Nat.zero_le _, rfl, rfl, hid ⟨0, .inl ⟨rfl, H4.out, rfl, rfl⟩, C4.out, o4⟩⟩
  case round =>
    obtain ⟨k, fi, hk, rfl, rfl, HS⟩ := hrel
    clear H4 C4 o4
    obtain ⟨c, hS, hC, o⟩ := HS.out
    have HC := hid hC
    clear HS hC
    by_cases hlt : k < x
    · rcases hS with ⟨rfl, hL, rfl, rfl⟩ | ⟨hk0, hL, rfl, hc⟩
      · have HL := hid hL
        clear hL
        cases no
        · go_wp2_with fail
          refine (close_1 w.heap.size _ _ _ _ (.int .i64 (0 + 1)) _ HL HC.out (by omega) (fun w1 h1 h2 => count_any _ 0 _ (by omega) w1 h1 h2)).mono ?_
          rintro e w5 ⟨rfl, H5, C5, o5⟩
          have o6 : Only (fun _ => False) w w5 := o.trans' o5 (fun i hi => by have := o.size; omega)
          have S6 : Hid (LSt w w.heap.size w2.heap.size false 1 1 w5) := hid ⟨1, .inr ⟨by omega, H5.out, rfl, rfl⟩, C5.out, o6⟩
          clear HL HC o o5 o6
          go_wp2_with fail
          refine (closed_any _ 1 0 1 _ H5 true rfl).mono ?_
          rintro e w6 ⟨rfl, rfl⟩
          go_wp2_with fail
          go_roundw
          case rel => exact ⟨1, 1, by omega, by simp, by simp, S6⟩
          case measure => simp [intOf]; omega
        · go_wp2_with fail
          refine (close_nil w.heap.size _ HL).mono ?_
          rintro e w5 ⟨rfl, H5, o5⟩
          have o6 : Only (fun _ => False) w w5 := o.trans' o5 (fun i hi => by have := o.size; omega)
          have S6 : Hid (LSt w w.heap.size w2.heap.size true 1 1 w5) := hid ⟨0, .inr ⟨by omega, H5.out, rfl, rfl⟩, o5.keep HC.out (by omega), o6⟩
          clear HL HC o o5 o6
          go_wp2_with fail
          refine (closed_any _ 1 0 1 _ H5 true rfl).mono ?_
          rintro e w6 ⟨rfl, rfl⟩
          go_wp2_with fail
          go_roundw
          case rel => exact ⟨1, 1, by omega, by simp, by simp, S6⟩
          case measure => simp [intOf]; omega
      · have HL := hid hL
        have HN : Hid (∀ w5, LAt w5 w.heap.size 1 0 1 → w5.heap[w2.heap.size]? = some (.cells #[.int .i64 c] 3 (0, 0)) → Only (fun _ => False) w w5 → LSt w w.heap.size w2.heap.size no (k + 1) 1 w5) := hid (fun w5 a b o => ⟨c, .inr ⟨by omega, a, rfl, hc⟩, b, o⟩)
        clear hL hc
        have hk1 : ((k : Int) == 0) = false := by simp; omega
        cases no
        all_goals
          go_wp2_with fail
          refine (close_done w.heap.size _ _ 1 _ HL).mono ?_
          rintro e w5 ⟨rfl, H5, o5⟩
          have S6 := hid (HN.out w5 H5.out (o5.keep HC.out (fun h => h)) (o.trans o5))
          clear HL HC o o5 HN
          go_wp2_with fail
          refine (closed_any _ 1 0 1 _ H5 true rfl).mono ?_
          rintro e w6 ⟨rfl, rfl⟩
          go_wp2_with fail
          go_roundw
          case rel =>
            exact ⟨k + 1, 1, by omega, by simp, rfl, S6⟩
          case measure => simp [intOf]; omega
    · obtain rfl : k = x := by omega
      have hfin : Hid (fi = if k = 0 then 0 else 1) ∧ Hid (c = if k = 0 then 0 else if no then 0 else 1) := by
        rcases hS with ⟨h1, _, h3, h4⟩ | ⟨h1, _, h3, h4⟩
        · exact ⟨hid (by rw [h3, if_pos h1]), hid (by rw [h4, if_pos h1])⟩
        · exact ⟨hid (by rw [h3, if_neg (Nat.ne_of_gt h1)]), hid (by rw [h4, if_neg (Nat.ne_of_gt h1)])⟩
      obtain ⟨hfi, hc⟩ := hfin
      clear hS
      have hcl := b_lt HC.out
      go_upto_region 21 with (fail)
      obtain ⟨ob, hob⟩ : ∃ ob, ob = wr.heap.size := ⟨_, rfl⟩
      rw [← hob] at hcl ⊢
      refine fold' (F := fun W' => Hid (LAt W' ob 0 0 0) ∧ Hid (W'.heap[ob + 1]? = some (.cells #[.bool false] 4 (0, 0))) ∧ Hid (W'.heap[w2.heap.size]? = some (.cells #[.int .i64 c] 3 (0, 0))) ∧ Only (fun _ => False) w W') ⟨hid ?_, hid ?_, hid (b_alloc (b_alloc HC.out _) _), (o.alloc _).alloc _⟩ ?_
      · subst hob; exact b_alloc (b_new wr _) _
      · subst hob
        have := b_new (wr.alloc (.cells #[.int .u32 0, .int .i32 0, .int .u32 0, .int .u32 0] 54)) (.cells #[.bool false] 4)
        simpa using this
      have ho : w.heap.size ≤ ob := by rw [hob]; exact o.size
      clear HC o hob
      rintro w5 ⟨HL, HB, HC, o⟩
      go_wp2_with fail
      refine (close_2 ob _ (ob + 1) _ _ (.bool false) _ HL HB.out (by omega) (fun w1 h1 h2 => look_any _ _ w1 h1 h2)).mono ?_
      rintro e w6 ⟨rfl, H6, B6, o6⟩
      have C6 := hid (o6.keep HC.out (by omega))
      have o7 : Only (fun _ => False) w w6 := o.trans' o6 (fun i hi => by omega)
      have b6 := b_cell B6.out 0
      have c6 := b_cell C6.out 0
      simp only [List.getElem?_toArray, List.getElem?_cons_zero] at b6 c6
      clear HL HB HC o o6
      go_wp2_with fail
      refine (closed_any _ 1 0 1 _ H6 true rfl).mono ?_
      rintro e w7 ⟨rfl, rfl⟩
      by_cases hk0 : k = 0
      · obtain rfl : fi = 0 := by rw [hfi.out, if_pos hk0]
        obtain rfl : c = 0 := by rw [hc.out, if_pos hk0]
        have hmn : min (k : Int) 1 = 0 := by omega
        clear hk0 hfi hc
        cases no <;> (go_wp2_with fail; go_ret; exact ⟨rfl, o7.to_below (fun _ h => h.elim)⟩)
      · obtain rfl : fi = 1 := by rw [hfi.out, if_neg hk0]
        have hmn : min (k : Int) 1 = 1 := by omega
        cases no
        · obtain rfl : c = 1 := by rw [hc.out, if_neg hk0]; rfl
          clear hk0 hfi hc
          go_wp2_with fail
          go_ret
          exact ⟨rfl, o7.to_below (fun _ h => h.elim)⟩
        · obtain rfl : c = 0 := by rw [hc.out, if_neg hk0]; rfl
          clear hk0 hfi hc
          go_wp2_with fail
          go_ret
          exact ⟨rfl, o7.to_below (fun _ h => h.elim)⟩
end Go.Proofs.Ytmgjeinjifjaaaa
