/-
  A clock in one state; SameInts; the example.
-/
import Derived.Test.YtjfhghimldjcfaaF
namespace Go.Proofs.Ytjfhghimldjcfaa
open Go.RowKit

/-- A clock that is newer than W; its blocks lie in G. -/
def Cs (W w : World) (cb : Nat) (now : Int) (S : List (Int × Int)) (N : Nat) (G : Nat → Prop) : Prop :=
  ∃ mb A, Ck w cb mb A now S N ∧ (∀ i, fp cb mb A i → G i) ∧ (∀ i, G i → W.heap.size ≤ i) ∧ ∀ i, G i → i < w.heap.size
section
variable {W w : World} {cb : Nat} {now : Int} {S : List (Int × Int)} {N : Nat} {G : Nat → Prop}
theorem Cs.keep {T : Nat → Prop} {w' : World} (h : Cs W w cb now S N G) (o : Only T w w') (hs : ∀ i, G i → ¬ T i) : Cs W w' cb now S N G := by
  obtain ⟨mb, A, h1, h2, h3, h4⟩ := h
  exact ⟨mb, A, h1.keep o (fun i hi => hs i (h2 i hi)), h2, h3, fun i hi => Nat.lt_of_lt_of_le (h4 i hi) o.size⟩
theorem Cs.same {w' : World} (h : Cs W w cb now S N G) (o : Only (fun _ => False) w w') : Cs W w' cb now S N G := h.keep o (fun _ _ h => h)
theorem Cs.lt (h : Cs W w cb now S N G) : ∀ i, G i → i < w.heap.size := by obtain ⟨mb, A, h1, h2, h3, h4⟩ := h; exact h4
theorem Cs.new (h : Cs W w cb now S N G) : ∀ i, G i → W.heap.size ≤ i := by obtain ⟨mb, A, h1, h2, h3, h4⟩ := h; exact h3
theorem Cs.srt (h : Cs W w cb now S N G) : ∃ f, Lists S f := by
  obtain ⟨mb, A, ⟨cap, n, nm, q, f, h1, h2, _⟩, _⟩ := h
  exact ⟨f, h2⟩
theorem Cs.mx (h : Cs W w cb now S N G) : ∀ d ∈ S, d.1 ≤ 1099511627776 := by
  obtain ⟨mb, A, ⟨cap, n, nm, q, f, h1, h2, _⟩, _⟩ := h
  exact fun d hd => h1.ok d.2 d.1 ((h2.2 d.2 d.1).2 hd)
theorem Cs.wf (h : Cs W w cb now S N G) : ∀ d ∈ S, I64 d.1 ∧ I64 d.2 := by
  obtain ⟨mb, A, ⟨cap, n, nm, q, f, h1, h2, _⟩, _⟩ := h
  exact fun d hd => h1.wf d (h1.sub d.2 d.1 ((h2.2 d.2 d.1).2 hd))
theorem Cs.nowb (h : Cs W w cb now S N G) : 0 ≤ now ∧ now ≤ 1099511627776 := by
  obtain ⟨mb, A, ⟨cap, n, nm, q, f, h1, h2, _⟩, _⟩ := h
  exact h1.nowb
theorem cs_new (W w : World) (o : Only (fun _ => False) W w) :
    Calls Try.prog 7 #[] w fun e w' => e = .returned (.pointer (some ⟨w.heap.size + 1, 0, none⟩)) ∧ Hid (Cs W w' (w.heap.size + 1) 0 [] 0 (fun i => w.heap.size ≤ i ∧ i < w'.heap.size)) ∧ Only (fun _ => False) w w' := by
  refine (cnew_any w).mono ?_
  rintro e w' ⟨rfl, h, o'⟩
  have hs := o.size
  refine ⟨rfl, hid ⟨_, _, h.out, fun i hi => ⟨?_, h.out.lt i hi⟩, fun i hi => by omega, fun i hi => hi.2⟩, o'⟩
  rcases hi with rfl | rfl | ⟨b, hb, _⟩
  · omega
  · omega
  · cases hb
theorem cs_now (h : Hid (Cs W w cb now S N G)) : Calls Try.prog 17 #[.pointer (some ⟨cb, 0, none⟩)] w fun e w' => e = .returned (.int .i64 now) ∧ w = w' := by
  obtain ⟨mb, A, h1, _⟩ := h.out
  exact now_any (hid h1)
theorem cs_drop (id : Int) (hI : I64 id) (h : Hid (Cs W w cb now S N G)) :
    Calls Try.prog 15 #[.pointer (some ⟨cb, 0, none⟩), .int .i64 id] w fun e w' => e = .returned (.bool (hasS S id)) ∧ Hid (Cs W w' cb now (rem id S) N G) ∧ Only G w w' := by
  obtain ⟨mb, A, h1, h2, h3, h4⟩ := h.out
  refine (cdrop_any id hI (hid h1)).mono ?_
  rintro e w' ⟨rfl, h', o⟩
  exact ⟨rfl, hid ⟨mb, A, h'.out, h2, h3, fun i hi => Nat.lt_of_lt_of_le (h4 i hi) o.size⟩, o.mono h2⟩
theorem cs_next (h : Hid (Cs W w cb now S N G)) (hN : N ≤ 1000000) :
    Calls Try.prog 16 #[.pointer (some ⟨cb, 0, none⟩)] w fun e w' => e = .returned (.tuple #[.int .i64 (nextAt S), .bool (!S.isEmpty)]) ∧ Hid (Cs W w' cb now S N G) ∧ Only G w w' := by
  obtain ⟨mb, A, h1, h2, h3, h4⟩ := h.out
  refine (next_any (hid h1) hN).mono ?_
  rintro e w' ⟨rfl, h', o⟩
  exact ⟨rfl, hid ⟨mb, A, h'.out, h2, h3, fun i hi => Nat.lt_of_lt_of_le (h4 i hi) o.size⟩, o.mono h2⟩
theorem cs_set (id a : Int) (hI : I64 id) (hA : I64 a) (h : Hid (Cs W w cb now S N G)) (hN : N < 1000000) :
    Calls Try.prog 12 #[.pointer (some ⟨cb, 0, none⟩), .int .i64 id, .int .i64 a] w fun e w' => ∃ G', e = .returned (.tuple #[]) ∧ Hid (Cs W w' cb now (ins (min a 1099511627776, id) (rem id S)) (N + 1) G') ∧ Hid (∀ i, G' i → G i ∨ w.heap.size ≤ i) ∧ Only G w w' := by
  obtain ⟨mb, A, h1, h2, h3, h4⟩ := h.out
  have hb := h1.lt
  refine (cset_any id a hI hA (hid h1) hN).mono ?_
  rintro e w' ⟨A', rfl, h', hA', o⟩
  have hW : W.heap.size ≤ w.heap.size := by
    have e1 := h3 _ (h2 cb (.inl rfl))
    have e2 := h4 _ (h2 cb (.inl rfl))
    omega
  refine ⟨fun i => G i ∨ (w.heap.size ≤ i ∧ i < w'.heap.size), rfl, hid ⟨mb, A', h'.out, fun i hi => ?_, fun i hi => ?_, fun i hi => ?_⟩, hid (fun i hi => hi.imp (fun h => h) (fun h => h.1)), o.mono h2⟩
  · have hl := h'.out.lt i hi
    rcases hi with rfl | rfl | hi
    · exact .inl (h2 _ (.inl rfl))
    · exact .inl (h2 _ (.inr (.inl rfl)))
    · rcases hA'.out i hi with hi | hi
      · exact .inl (h2 _ (.inr (.inr hi)))
      · exact .inr ⟨hi, hl⟩
  · rcases hi with hi | hi
    · exact h3 i hi
    · omega
  · rcases hi with hi | hi
    · exact Nat.lt_of_lt_of_le (h4 i hi) o.size
    · exact hi.2
theorem cs_pass (x : Int) (hx : I64 x) (h : Hid (Cs W w cb now S N G)) (hN : N ≤ 1000000) (hS : S.length ≤ 1000000) (nw : Int) (T T' : List (Int × Int)) (m : Nat) (hnw : passed now x = nw) (hT : S.takeWhile (due nw) = T) (hT' : S.dropWhile (due nw) = T') (hm : T.length = m) :
    Calls Try.prog 11 #[.pointer (some ⟨cb, 0, none⟩), .int .i64 x] w fun e w' => ∃ B c, e = .returned (.slice B m c) ∧ Hid (OwnI w' w.heap.size B c (ids T)) ∧ Hid (Cs W w' cb nw T' N G) ∧ Only G w w' := by
  obtain ⟨mb, A, h1, h2, h3, h4⟩ := h.out
  subst hnw hT hT' hm
  refine (pass_any x hx (hid h1) hN hS).mono ?_
  rintro e w' ⟨B, c, rfl, hO, h', o⟩
  exact ⟨B, c, rfl, hO, hid ⟨mb, A, h'.out, h2, h3, fun i hi => Nat.lt_of_lt_of_le (h4 i hi) o.size⟩, o.mono h2⟩
end

def V64 (q : List Int) (i : Nat) : Value := .int .i64 (q.getD i 0)
theorem OwnI.el {w : World} {base : Nat} {A : Option Addr} {c n : Nat} {q : List Int} (h : OwnI w base A c q) (hn : q.length = n) : Elems w A n (V64 q) := by
  subst hn; exact h.elems
theorem Elems.only' {T : Nat → Prop} {w w' : World} {A : Option Addr} {n : Nat} {V : Nat → Value} (h : Elems w A n V) (o : Only T w w') (hs : ∀ i, ab A i → ¬ T i) : Elems w' A n V := by
  intro hn
  obtain ⟨b, off, e, hl, hc⟩ := h hn
  exact ⟨b, off, e, Nat.lt_of_lt_of_le hl o.size, fun j hj => (o.cell (p := ⟨b, off + j, none⟩) hl (hs b ⟨_, e, rfl⟩)).trans (hc j hj)⟩
theorem elems_i {w : World} {g : Nat} {l : List Int} {t : TypeId} {fr : Nat × Nat} (h : w.heap[g]? = some (.cells (i64s l).toArray t fr)) (n : Nat) (hn : l.length = n) : Elems w (some ⟨g, 0, none⟩) n (V64 l) := by
  intro _
  refine ⟨g, 0, rfl, b_lt h, fun i hi => ?_⟩
  rw [b_cell h, Nat.zero_add, List.getElem?_toArray]
  simp [i64s, V64, hn, hi]
set_option maxHeartbeats 1000000 in
theorem sameI (q : List Int) (A B : Option Addr) (n m cA cB : Nat) (w : World) (hn : n = m) (hA : Elems w A n (V64 q)) (hB : Elems w B m (V64 q)) (hl : n ≤ 1000000) :
    Calls Try.prog 10 #[.slice A n cA, .slice B m cB] w fun e w' => e = .returned (.bool true) ∧ Only (fun _ => False) w w' := by
  subst hn
  have HA := hid hA
  have HB := hid hB
  clear hA hB
  go_enter Try.func10, Try.ntmps10
  go_wp2_with fail
  go_loopw [5] (fun iv wr => ∃ k : Nat, k ≤ n ∧ iv = .int .i64 (k : Int) ∧ Only (fun _ => False) w wr) (fun iv _ => n - (intOf iv).toNat)
  case atStart => exact ⟨0, Nat.zero_le _, rfl, Only.refl _ _⟩
  case round =>
    obtain ⟨k, hk, rfl, o⟩ := hrel
    by_cases hlt : k < n
    · obtain ⟨ba, oa, rfl, ca⟩ := (HA.out.only' o (fun _ _ h => h)).at_ k hlt
      obtain ⟨bb, ob, rfl, cb⟩ := (HB.out.only' o (fun _ _ h => h)).at_ k hlt
      unfold V64 at ca cb
      go_wp2_with fail
      go_quiet (fail)
      go_wp2_with fail
      go_roundw
      case rel => exact ⟨k + 1, by omega, by simp, Only.drewN o _⟩
      case measure => simp [intOf]; omega
    · obtain rfl : k = n := by omega
      go_wp2_with fail
      go_ret
      exact ⟨rfl, o⟩

theorem i64_of {x : Int} (h : -1000000 ≤ x ∧ x ≤ 1000000) : I64 x := ⟨by omega, by omega⟩
set_option maxHeartbeats 4000000 in
theorem alive_any (w : World) : Calls Try.prog 8 #[] w fun e w' => e = .returned (.bool true) ∧ Only (fun _ => False) w w' := by
  go_enter Try.func8, Try.ntmps8
  go_wp2_with fail
  refine (cs_new w w (Only.refl _ _)).mono ?_
  rintro e w1 ⟨rfl, H1, o1⟩
  have hG1 : Hid (∀ i, (w.heap.size ≤ i ∧ i < w1.heap.size) → w.heap.size ≤ i) := hid (fun i h => h.1)
  generalize hG : (fun i => w.heap.size ≤ i ∧ i < w1.heap.size) = G1 at *
  clear hG
  go_wp2_with fail
  refine (cs_set 2 5 (i64_of (by omega)) (i64_of (by omega)) H1 (by omega)).mono ?_
  rintro e w2 ⟨G2, rfl, H2, _, o2⟩
  have O2 := o1.trans' o2 (fun i hi => .inr (H1.out.new i hi))
  clear H1 o1 o2
  go_wp2_with fail
  refine (cs_set 1 5 (i64_of (by omega)) (i64_of (by omega)) H2 (by omega)).mono ?_
  rintro e w3 ⟨G3, rfl, H3, _, o3⟩
  have O3 := O2.trans' o3 (fun i hi => .inr (H2.out.new i hi))
  clear H2 O2 o3
  go_wp2_with fail
  refine (cs_set 3 4 (i64_of (by omega)) (i64_of (by omega)) H3 (by omega)).mono ?_
  rintro e w4 ⟨G4, rfl, H4, _, o4⟩
  have O4 := O3.trans' o4 (fun i hi => .inr (H3.out.new i hi))
  have e4 : ins (min 4 1099511627776, 3) (rem 3 (ins (min 5 1099511627776, 1) (rem 1 (ins (min 5 1099511627776, 2) (rem 2 []))))) = [((4 : Int), (3 : Int)), (5, 1), (5, 2)] := by decide
  rw [e4] at H4
  clear H3 O3 o4 e4
  go_wp2_with fail
  refine (cs_next H4 (by omega)).mono ?_
  rintro e w5 ⟨rfl, H5, o5⟩
  have O5 := O4.trans' o5 (fun i hi => .inr (H4.out.new i hi))
  clear H4 O4 o5
  have en : nextAt [((4 : Int), (3 : Int)), (5, 1), (5, 2)] = 4 := by decide
  have ee : (!List.isEmpty [((4 : Int), (3 : Int)), (5, 1), (5, 2)]) = true := by decide
  rw [en, ee]
  clear en ee
  go_wp2_with fail
  refine (cs_pass 4 (i64_of (by omega)) H5 (by omega) (by decide) 4 [(4, 3)] [(5, 1), (5, 2)] 1 (by decide) (by decide) (by decide) (by decide)).mono ?_
  rintro e w6 ⟨B6, c6, rfl, HO6, H6, o6⟩
  have O6 := O5.trans' o6 (fun i hi => .inr (H5.out.new i hi))
  clear H5 O5 o6
  go_wp2_with fail
  refine (sameI [3] _ _ 1 1 _ _ _ rfl ((show Elems w6 B6 1 (V64 [3]) from HO6.out.el rfl).only' ((Only.refl (fun _ => False) w6).alloc (.cells #[.int .i64 3] 3)) (fun _ _ h => h)) (elems_i (l := [3]) (b_new w6 _) 1 rfl) (by omega)).mono ?_
  rintro e w7 ⟨rfl, o7⟩
  have o67 := ((Only.refl (fun _ => False) w6).alloc (.cells #[.int .i64 3] 3)).trans o7
  have H7 := hid (H6.out.same o67)
  have O7 := O6.trans o67
  clear H6 HO6 o7 o67 O6
  go_wp2_with fail
  refine (cs_pass 1 (i64_of (by omega)) H7 (by omega) (by decide) 5 [(5, 1), (5, 2)] [] 2 (by decide) (by decide) (by decide) (by decide)).mono ?_
  rintro e w8 ⟨B8, c8, rfl, HO8, H8, o8⟩
  have O8 := O7.trans' o8 (fun i hi => .inr (H7.out.new i hi))
  clear H7 O7 o8
  go_wp2_with fail
  refine (sameI [1, 2] _ _ 2 2 _ _ _ rfl ((show Elems w8 B8 2 (V64 [1, 2]) from HO8.out.el rfl).only' ((Only.refl (fun _ => False) w8).alloc (.cells #[.int .i64 1, .int .i64 2] 3)) (fun _ _ h => h)) (elems_i (l := [1, 2]) (b_new w8 _) 2 rfl) (by omega)).mono ?_
  rintro e w9 ⟨rfl, o9⟩
  have o89 := ((Only.refl (fun _ => False) w8).alloc (.cells #[.int .i64 1, .int .i64 2] 3)).trans o9
  have H9 := hid (H8.out.same o89)
  have O9 := O8.trans o89
  clear H8 HO8 o9 o89 O8
  go_wp2_with fail
  refine (cs_pass 9 (i64_of (by omega)) H9 (by omega) (by decide) 14 [] [] 0 (by decide) (by decide) (by decide) (by decide)).mono ?_
  rintro e w10 ⟨B10, c10, rfl, HO10, H10, o10⟩
  have O10 := O9.trans' o10 (fun i hi => .inr (H9.out.new i hi))
  clear H9 O9 o10 HO10
  go_wp2_with fail
  refine (cs_now H10).mono ?_
  rintro e w11 ⟨rfl, rfl⟩
  go_wp2_with fail
  refine (cs_drop 1 (i64_of (by omega)) H10).mono ?_
  rintro e w12 ⟨rfl, H12, o12⟩
  have O12 := O10.trans' o12 (fun i hi => .inr (H10.out.new i hi))
  have eh : hasS [] 1 = false := by decide
  rw [eh]
  clear H10 O10 o12 eh
  go_wp2_with fail
  go_ret
  exact ⟨rfl, O12⟩
end Go.Proofs.Ytjfhghimldjcfaa
