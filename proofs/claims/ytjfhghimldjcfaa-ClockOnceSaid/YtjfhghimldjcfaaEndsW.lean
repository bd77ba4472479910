/-
  The walk of ClockEnds.
-/
import Derived.Test.YtjfhghimldjcfaaG
import Derived.Test.YtjfhghimldjcfaaM
namespace Go.Proofs.Ytjfhghimldjcfaa
open Go.RowKit

theorem ins_len (d : Int × Int) : ∀ l, (ins d l).length = l.length + 1
  | [] => rfl
  | x :: l => by
    unfold ins
    split
    · rfl
    · simp [ins_len d l]
theorem rem_new {id : Int} {S : List (Int × Int)} (h : ∀ d ∈ S, d.2 ≠ id) : rem id S = S := List.filter_eq_self.2 (fun d hd => by simpa using h d hd)
theorem tw_all {p : Int × Int → Bool} {S : List (Int × Int)} (h : ∀ d ∈ S, p d = true) : S.takeWhile p = S ∧ S.dropWhile p = [] := by
  have := tw_app (p := p) (D := S) (T := []) h (fun d T' e => by cases e)
  simpa using this

set_option maxHeartbeats 4000000 in
theorem ends_walk (a0 : Int) (i0 : I64 a0) (A0 : Option Addr) (n c0 : Nat) (f : Nat → Int) (w : World) (h1 : n ≤ c0) (h2 : c0 ≤ maxLen) (he : Elems w A0 c0 (fun i => .int .i64 (f i))) (hf : ∀ i, I64 (f i)) :
    Calls Try.prog 5 #[.int .i64 a0, .slice A0 n c0] w fun e w' => e = .returned (.bool true) ∧ Below w.heap.size w w' := by
  unfold maxLen at h2
  have HE := hid he
  have HF := hid hf
  have I0 := hid i0
  clear he hf i0
  go_enter Try.func5, Try.ntmps5
  go_wp2_with fail
  refine (cs_new w w (Only.refl _ _)).mono ?_
  rintro e w1 ⟨rfl, H1, o1⟩
  go_wp2_with fail
  refine (alive_any _).mono ?_
  rintro e w2 ⟨rfl, o2⟩
  have H2 := hid (H1.out.same o2)
  have O2 := o1.trans o2
  clear H1 o1 o2
  by_cases hn : n ≤ 100
  · go_wp2_with fail
    go_loopw [27] (fun iv wr => ∃ (k : Nat) (S : List (Int × Int)) (G : Nat → Prop), k ≤ n ∧ iv = .int .i64 (k : Int) ∧ S.length = k ∧ Hid (∀ d ∈ S, 0 ≤ d.2 ∧ d.2 < k) ∧ Hid (Cs w wr (w.heap.size + 1) 0 S k G) ∧ Only (fun _ => False) w wr) (fun iv _ => n - (intOf iv).toNat)
    case atStart => exact ⟨0, [], _, Nat.zero_le _, rfl, rfl, hid (fun d hd => by cases hd), H2, O2⟩
    case round =>
      clear H2 O2
      obtain ⟨k, S, G, hk, rfl, hl, hd, H, O⟩ := hrel
      by_cases hlt : k < n
      · obtain ⟨b, off, rfl, hc⟩ := (HE.out.only' O (fun _ _ h => h)).at_ k (by omega)
        go_wp2_with fail
        refine (cs_set k (f k) (i64_of (by omega)) (HF.out k) H (by omega)).mono ?_
        rintro e w3 ⟨G3, rfl, H3, _, o3⟩
        have O3 := O.trans' o3 (fun i hi => .inr (H.out.new i hi))
        have hrem : rem (k : Int) S = S := rem_new (fun d hd' e => by have := (hd.out d hd').2; omega)
        rw [hrem] at H3
        have hd3 : Hid (∀ d ∈ ins (min (f k) 1099511627776, (k : Int)) S, 0 ≤ d.2 ∧ d.2 < ((k + 1 : Nat) : Int)) := hid (fun d hd' => by
          rcases (mem_ins _ _ _).1 hd' with rfl | hd'
          · exact ⟨by simp only; omega, by simp only; omega⟩
          · have := hd.out d hd'; exact ⟨this.1, by omega⟩)
        have hl3 : (ins (min (f k) 1099511627776, (k : Int)) S).length = k + 1 := by rw [ins_len, hl]
        clear H hd O o3 hrem
        go_wp2_with fail
        go_roundw
        case rel => exact ⟨k + 1, _, G3, by omega, by simp, hl3, hd3, H3, O3⟩
        case measure => simp [intOf]; omega
      · obtain rfl : k = n := by omega
        have hsplit := List.takeWhile_append_dropWhile (p := due (passed 0 a0)) (l := S)
        obtain ⟨T, hT⟩ : ∃ T, S.takeWhile (due (passed 0 a0)) = T := ⟨_, rfl⟩
        obtain ⟨T', hT'⟩ : ∃ T', S.dropWhile (due (passed 0 a0)) = T' := ⟨_, rfl⟩
        rw [hT, hT'] at hsplit
        have hsum : T.length + T'.length = k := by rw [← hl, ← hsplit, List.length_append]
        obtain ⟨n1, hn1⟩ : ∃ n1, passed 0 a0 = n1 := ⟨_, rfl⟩
        rw [hn1] at hT hT'
        obtain ⟨tl, htl⟩ : ∃ tl, T.length = tl := ⟨_, rfl⟩
        obtain ⟨tl', htl'⟩ : ∃ tl', T'.length = tl' := ⟨_, rfl⟩
        rw [htl, htl'] at hsum
        have HX := hid (⟨hT, hT', hn1, htl, htl'⟩ : _ ∧ _ ∧ _ ∧ _ ∧ _)
        clear hT hT' hn1 htl htl' hsplit hd
        go_wp2_with fail
        refine (cs_pass a0 I0.out H (by omega) (by omega) n1 T T' tl HX.out.2.2.1 HX.out.1 HX.out.2.1 HX.out.2.2.2.1).mono ?_
        rintro e w3 ⟨B3, c3, rfl, _, H3, o3⟩
        have O3 := O.trans' o3 (fun i hi => .inr (H.out.new i hi))
        clear H O o3
        have hp2 : passed n1 4611686018427387904 = 1099511627776 := by have := H3.out.nowb; unfold passed; omega
        have hall := tw_all (p := due 1099511627776) (S := T') (fun d hd => by have := H3.out.mx d hd; simp [due, this])
        have HALL := hid hall
        have HP2 := hid hp2
        clear hall hp2
        go_wp2_with fail
        refine (cs_pass 4611686018427387904 ⟨by omega, by omega⟩ H3 (by omega) (by have := HX.out.2.2.2.2; omega) 1099511627776 T' [] tl' HP2.out HALL.out.1 HALL.out.2 HX.out.2.2.2.2).mono ?_
        rintro e w4 ⟨B4, c4, rfl, _, H4, o4⟩
        have O4 := O3.trans' o4 (fun i hi => .inr (H3.out.new i hi))
        clear H3 O3 o4
        have hsumI : (tl : Int) + (tl' : Int) = (k : Int) := by omega
        go_wp2_with fail
        refine (cs_now H4).mono ?_
        rintro e w5 ⟨rfl, rfl⟩
        go_wp2_with fail
        refine (cs_set 5 4611686018427387904 (i64_of (by omega)) ⟨by omega, by omega⟩ H4 (by omega)).mono ?_
        rintro e w5 ⟨G5, rfl, H5, _, o5⟩
        have O5 := O4.trans' o5 (fun i hi => .inr (H4.out.new i hi))
        have e5 : ins (min 4611686018427387904 1099511627776, 5) (rem 5 []) = [((1099511627776 : Int), (5 : Int))] := by decide
        rw [e5] at H5
        clear H4 O4 o5 e5
        go_wp2_with fail
        refine (cs_next H5 (by omega)).mono ?_
        rintro e w6 ⟨rfl, H6, o6⟩
        have O6 := O5.trans' o6 (fun i hi => .inr (H5.out.new i hi))
        have en : nextAt [((1099511627776 : Int), (5 : Int))] = 1099511627776 := by decide
        have ee : (!List.isEmpty [((1099511627776 : Int), (5 : Int))]) = true := by decide
        rw [en, ee]
        clear H5 O5 o6 en ee
        go_wp2_with fail
        refine (cs_pass 0 (i64_of (by omega)) H6 (by omega) (by decide) 1099511627776 [(1099511627776, 5)] [] 1 (by decide) (by decide) (by decide) (by decide)).mono ?_
        rintro e w7 ⟨B7, c7, rfl, HO7, H7, o7⟩
        have O7 := O6.trans' o7 (fun i hi => .inr (H6.out.new i hi))
        have hb7 : Hid (∀ i, ab B7 i → ¬ G5 i) := hid (fun i hi hg => by have := (HO7.out.blk i hi).1; have := H6.out.lt i hg; omega)
        clear H6 O6 o7
        go_wp2_with fail
        refine (cs_next H7 (by omega)).mono ?_
        rintro e w8 ⟨rfl, H8, o8⟩
        have O8 := O7.trans' o8 (fun i hi => .inr (H7.out.new i hi))
        have HE8 : Hid (Elems w8 B7 1 (V64 [5])) := hid ((show Elems w7 B7 1 (V64 [5]) from HO7.out.el rfl).only' o8 hb7.out)
        have en : nextAt [] = 0 := by decide
        have ee : (!List.isEmpty ([] : List (Int × Int))) = false := by decide
        rw [en, ee]
        clear H7 O7 o8 HO7 hb7 en ee
        go_wp2_with fail
        refine (sameI [5] _ _ 1 1 _ _ _ rfl (HE8.out.only' ((Only.refl (fun _ => False) w8).alloc (.cells #[.int .i64 5] 3)) (fun _ _ h => h)) (elems_i (l := [5]) (b_new w8 _) 1 rfl) (by omega)).mono ?_
        rintro e w9 ⟨rfl, o9⟩
        have o89 := ((Only.refl (fun _ => False) w8).alloc (.cells #[.int .i64 5] 3)).trans o9
        have H9 := hid (H8.out.same o89)
        have O9 := O8.trans o89
        clear H8 HE8 o9 o89 O8
        go_wp2_with fail
        refine (cs_pass 1 (i64_of (by omega)) H9 (by omega) (by decide) 1099511627776 [] [] 0 (by decide) (by decide) (by decide) (by decide)).mono ?_
        rintro e w10 ⟨B10, c10, rfl, _, H10, o10⟩
        have O10 := O9.trans' o10 (fun i hi => .inr (H9.out.new i hi))
        clear H9 O9 o10
        go_wp2_with fail
        refine (cs_now H10).mono ?_
        rintro e w11 ⟨rfl, rfl⟩
        go_wp2_with fail
        go_ret
        exact ⟨rfl, O10.to_below (fun _ h => h.elim)⟩
  · go_wp2_with fail
    go_ret
    exact ⟨rfl, O2.to_below (fun _ h => h.elim)⟩
end Go.Proofs.Ytjfhghimldjcfaa
