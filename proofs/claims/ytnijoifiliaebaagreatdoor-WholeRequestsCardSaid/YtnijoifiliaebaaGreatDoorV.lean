/-
  The plain law, second part: bodies, requests.
-/
import Derived.Test.YtnijoifiliaebaaGreatDoorQ
namespace Go.Proofs.YtnijoifiliaebaaGreatDoor
open Go.RowKit

def hexT3 (n : Nat) : List UInt8 := if n < 16 then [hexD n] else if n < 256 then [hexD (n / 16), hexD (n % 16)] else [hexD (n / 256), hexD (n / 16 % 16), hexD (n % 16)]
theorem hexT_three (n : Nat) (h : n < 4096) : hexT n = hexT3 n := by
  unfold hexT3
  split
  · rename_i h1
    rw [hexT, if_pos h1]
  · rename_i h1
    rw [hexT, if_neg h1]
    split
    · rename_i h2
      rw [hexT, if_pos (by omega)]
      rfl
    · rename_i h2
      rw [hexT, if_neg (by omega), hexT, if_pos (by omega)]
      simp only [List.cons_append, List.nil_append]
      rw [show n / 16 / 16 = n / 256 by omega]
/-- A size's line. -/
def hexOK (n : Nat) : Bool := (Lib.cut (hexT3 n) [59]).1 == hexT3 n && (Lib.cut (hexT3 n) [59]).2.1 == [] && Lib.trimRightS (hexT3 n) blanks == hexT3 n && number 16 15 (hexT3 n) == ((n : Int), true) && (hexT3 n).all (fun c => c != 10 && c != 13) && decide ((hexT3 n).length ≤ 3)
theorem hexOK_all : ∀ k : Fin 1001, hexOK k.val = true := by decide +kernel
theorem hex_ok (n : Nat) (h : n ≤ 1000) : (Lib.cut (hexT n) [59]).1 = hexT n ∧ (Lib.cut (hexT n) [59]).2.1 = [] ∧ Lib.trimRightS (hexT n) blanks = hexT n ∧ number 16 15 (hexT n) = ((n : Int), true) ∧ NoNL (hexT n) ∧ (hexT n).length ≤ 3 := by
  rw [hexT_three n (by omega)]
  have := hexOK_all ⟨n, by omega⟩
  unfold hexOK at this
  simp only [Bool.and_eq_true, beq_iff_eq, decide_eq_true_eq] at this
  obtain ⟨⟨⟨⟨⟨h1, h2⟩, h3⟩, h4⟩, h5⟩, h6⟩ := this
  refine ⟨h1, h2, h3, h4, fun c hc => ?_, h6⟩
  have := List.all_eq_true.1 h5 c hc
  simpa using this
theorem sizeF_line (n : Nat) (rest : List UInt8) (h : n ≤ 1000) : sizeF (hexT n ++ 13 :: 10 :: rest) = ((n : Int), 0, false, (hexT n).length + 2) := by
  obtain ⟨h1, h2, h3, h4, h5, h6⟩ := hex_ok n h
  unfold sizeF
  rw [cut_line 256 (hexT n) rest h5 (by omega)]
  simp only []
  rw [h1, h2, h3, h4, if_neg (by decide), if_neg (by omega), if_pos (by simp)]
theorem sizeF_part (n : Nat) (rest : List UInt8) (k : Nat) (h : n ≤ 1000) (hk : k < (hexT n).length + 2) : sizeF ((hexT n ++ 13 :: 10 :: rest).take k) = (0, 0, true, 0) := by
  obtain ⟨h1, h2, h3, h4, h5, h6⟩ := hex_ok n h
  unfold sizeF
  rw [cut_part 256 (hexT n) rest k h5 (by omega) hk]
  simp
theorem dataF_whole (p rest : List UInt8) : dataF (p ++ 13 :: 10 :: rest) p.length = (p, 0, false, p.length + 2) := by
  unfold dataF
  have e0 : (p ++ 13 :: 10 :: rest)[p.length]? = some 13 := by simp
  have e1 : (p ++ 13 :: 10 :: rest)[p.length + 1]? = some 10 := by
    rw [List.getElem?_append_right (by omega)]
    simp
  rw [e0, e1, if_neg (by simp), if_neg (by simp), List.take_left]
theorem dataF_part (p rest : List UInt8) (k : Nat) (hk : k < p.length + 2) : dataF ((p ++ 13 :: 10 :: rest).take k) p.length = ([], 0, true, 0) := by
  unfold dataF
  have hl : ((p ++ 13 :: 10 :: rest).take k).length = k := by rw [List.length_take]; simp; omega
  rw [hl, if_neg, if_pos hk]
  rintro (⟨h1, h2⟩ | ⟨h1, h2⟩)
  · apply h2
    rw [List.getElem?_take_of_lt h1]
    simp
  · omega

/-- Pieces of a body. -/
def Pieces (ps : List (List UInt8)) : Prop := ∀ p ∈ ps, 1 ≤ p.length ∧ p.length ≤ 1000
def lastB : List UInt8 := [48, 13, 10, 13, 10]
theorem hexT_zero : hexT 0 = [48] := by rw [hexT, if_pos (by omega)]; rfl
theorem chunk_eq (p rest : List UInt8) : chunkB p ++ rest = hexT p.length ++ 13 :: 10 :: (p ++ 13 :: 10 :: rest) := by
  unfold chunkB; simp
theorem chunkB_size (p : List UInt8) : (chunkB p).length = (hexT p.length).length + 2 + (p.length + 2) := by
  unfold chunkB
  simp only [List.length_append, List.length_cons, List.length_nil]
  omega
theorem dropA2 (a b : List UInt8) : (a ++ 13 :: 10 :: b).drop (a.length + 2) = b := by
  rw [← List.drop_drop, List.drop_left]
  rfl
theorem takeA2 (a b : List UInt8) (j : Nat) : (a ++ 13 :: 10 :: b).take (a.length + 2 + j) = a ++ 13 :: 10 :: b.take j := by
  rw [Nat.add_assoc, List.take_length_add_append, Nat.add_comm 2 j]
  rfl
theorem decGo_whole (rest : List UInt8) : ∀ (ps : List (List UInt8)) (f left at_ : Nat) (out : List UInt8), Pieces ps → ps.length < f → ps.flatten.length ≤ left →
    decGo f left at_ out (ps.flatMap chunkB ++ (lastB ++ rest)) = (out ++ ps.flatten, at_ + (ps.flatMap chunkB).length + 5, 0)
  | [], f + 1, left, at_, out, _, _, _ => by
    have e : ([] : List (List UInt8)).flatMap chunkB ++ (lastB ++ rest) = hexT 0 ++ 13 :: 10 :: (13 :: 10 :: rest) := by rw [hexT_zero]; rfl
    have hs := sizeF_line 0 (13 :: 10 :: rest) (by omega)
    have hd : (hexT 0 ++ 13 :: 10 :: (13 :: 10 :: rest)).drop ((hexT 0).length + 2) = 13 :: 10 :: rest := dropA2 _ _
    have hz : (hexT 0).length = 1 := by rw [hexT_zero]; rfl
    have ht : ∀ f, trailGo (f + 1) 0 (at_ + 3) (13 :: 10 :: rest) = (0, false, at_ + 5) := by
      intro f
      have hc := cut_line 256 [] rest (fun c hc => by cases hc) (by simp)
      rw [List.nil_append] at hc
      unfold trailGo
      rw [hc]
      simp
    unfold decGo
    rw [e, hs]
    simp only []
    rw [hd, hz, ht]
    simp
  | p :: ps, f + 1, left, at_, out, hp, hf, hl => by
    obtain ⟨hp1, hp2⟩ := hp p (by simp)
    have e : (p :: ps).flatMap chunkB ++ (lastB ++ rest) = hexT p.length ++ 13 :: 10 :: (p ++ 13 :: 10 :: (ps.flatMap chunkB ++ (lastB ++ rest))) := by
      rw [List.flatMap_cons, List.append_assoc, chunk_eq]
    have hs := sizeF_line p.length (p ++ 13 :: 10 :: (ps.flatMap chunkB ++ (lastB ++ rest))) hp2
    have hd := dropA2 (hexT p.length) (p ++ 13 :: 10 :: (ps.flatMap chunkB ++ (lastB ++ rest)))
    have hD := dataF_whole p (ps.flatMap chunkB ++ (lastB ++ rest))
    simp only [List.length_cons] at hf
    rw [List.flatten_cons, List.length_append] at hl
    have hd2 : (hexT p.length ++ 13 :: 10 :: (p ++ 13 :: 10 :: (ps.flatMap chunkB ++ (lastB ++ rest)))).drop ((hexT p.length).length + 2 + (p.length + 2)) = ps.flatMap chunkB ++ (lastB ++ rest) := by
      rw [← List.drop_drop, hd, dropA2]
    unfold decGo
    rw [e, hs]
    simp only [Int.toNat_natCast]
    rw [hd, hD, hd2]
    simp only []
    rw [if_neg (by decide), if_neg (by decide), if_neg (by omega), if_neg (by omega), if_neg (by decide), if_neg (by decide)]
    rw [decGo_whole rest ps f (left - p.length) _ (out ++ p) (fun x hx => hp x (by simp [hx])) (by omega) (by omega)]
    rw [List.flatMap_cons, List.length_append, chunkB_size, List.flatten_cons]
    simp only [List.append_assoc]
    congr 2
    omega
theorem decGo_part (rest : List UInt8) : ∀ (ps : List (List UInt8)) (f left at_ k : Nat) (out : List UInt8), Pieces ps → k < f → ps.flatten.length ≤ left → k < (ps.flatMap chunkB).length + 5 →
    decGo f left at_ out ((ps.flatMap chunkB ++ (lastB ++ rest)).take k) = ([], 0, 0)
  | [], f + 1, left, at_, k, out, _, _, _, hk => by
    have e : ([] : List (List UInt8)).flatMap chunkB ++ (lastB ++ rest) = hexT 0 ++ 13 :: 10 :: (13 :: 10 :: rest) := by rw [hexT_zero]; rfl
    have hz : (hexT 0).length = 1 := by rw [hexT_zero]; rfl
    simp only [List.flatMap_nil, List.length_nil] at hk
    by_cases h1 : k < (hexT 0).length + 2
    · unfold decGo
      rw [e, sizeF_part 0 _ k (by omega) h1]
      simp
    · obtain ⟨j, rfl⟩ : ∃ j, k = (hexT 0).length + 2 + j := ⟨k - ((hexT 0).length + 2), by omega⟩
      have hs := sizeF_line 0 ((13 :: 10 :: rest).take j) (by omega)
      have hd : (hexT 0 ++ 13 :: 10 :: (13 :: 10 :: rest).take j).drop ((hexT 0).length + 2) = (13 :: 10 :: rest).take j := dropA2 _ _
      have ht : ∀ f, trailGo (f + 1) 0 (at_ + 3) ((13 :: 10 :: rest).take j) = (0, true, at_ + 3) := by
        intro f
        have hc := cut_part 256 [] rest j (fun c hc => by cases hc) (by simp) (by simp; omega)
        rw [List.nil_append] at hc
        unfold trailGo
        rw [hc]
        simp
      unfold decGo
      rw [e, takeA2, hs]
      simp only []
      rw [hd, hz, ht]
      simp
  | p :: ps, f + 1, left, at_, k, out, hp, hf, hl, hk => by
    obtain ⟨hp1, hp2⟩ := hp p (by simp)
    have e : (p :: ps).flatMap chunkB ++ (lastB ++ rest) = hexT p.length ++ 13 :: 10 :: (p ++ 13 :: 10 :: (ps.flatMap chunkB ++ (lastB ++ rest))) := by
      rw [List.flatMap_cons, List.append_assoc, chunk_eq]
    rw [List.flatten_cons, List.length_append] at hl
    rw [List.flatMap_cons, List.length_append, chunkB_size] at hk
    by_cases h1 : k < (hexT p.length).length + 2
    · unfold decGo
      rw [e, sizeF_part p.length _ k hp2 h1]
      simp
    obtain ⟨j, rfl⟩ : ∃ j, k = (hexT p.length).length + 2 + j := ⟨k - ((hexT p.length).length + 2), by omega⟩
    by_cases h2 : j < p.length + 2
    · have hs := sizeF_line p.length ((p ++ 13 :: 10 :: (ps.flatMap chunkB ++ (lastB ++ rest))).take j) hp2
      have hD := dataF_part p (ps.flatMap chunkB ++ (lastB ++ rest)) j h2
      unfold decGo
      rw [e, takeA2, hs]
      simp only [Int.toNat_natCast]
      rw [dropA2, hD]
      simp only []
      rw [if_neg (by decide), if_neg (by decide), if_neg (by omega), if_neg (by omega), if_neg (by decide)]
      rfl
    obtain ⟨i, rfl⟩ : ∃ i, j = p.length + 2 + i := ⟨j - (p.length + 2), by omega⟩
    have e2 := takeA2 p (ps.flatMap chunkB ++ (lastB ++ rest)) i
    have hs := sizeF_line p.length (p ++ 13 :: 10 :: (ps.flatMap chunkB ++ (lastB ++ rest)).take i) hp2
    have hd := dropA2 (hexT p.length) (p ++ 13 :: 10 :: (ps.flatMap chunkB ++ (lastB ++ rest)).take i)
    have hD := dataF_whole p ((ps.flatMap chunkB ++ (lastB ++ rest)).take i)
    have hd2 : (hexT p.length ++ 13 :: 10 :: (p ++ 13 :: 10 :: (ps.flatMap chunkB ++ (lastB ++ rest)).take i)).drop ((hexT p.length).length + 2 + (p.length + 2)) = (ps.flatMap chunkB ++ (lastB ++ rest)).take i := by
      rw [← List.drop_drop, hd, dropA2]
    unfold decGo
    rw [e, takeA2, e2, hs]
    simp only [Int.toNat_natCast]
    rw [hd, hD, hd2]
    simp only []
    rw [if_neg (by decide), if_neg (by decide), if_neg (by omega), if_neg (by omega), if_neg (by decide), if_neg (by decide)]
    exact decGo_part rest ps f (left - p.length) _ i (out ++ p) (fun x hx => hp x (by simp [hx])) (by omega) (by omega) (by omega)

theorem chunks_pieces (size : Nat) (hs : 1 ≤ size) : ∀ (f : Nat) (l : List UInt8), l.length ≤ f → l.length ≤ 1000 → Pieces (chunks size f l) ∧ (chunks size f l).flatten = l
  | 0, l, h, _ => by
    obtain rfl : l = [] := List.eq_nil_of_length_eq_zero (by omega)
    exact ⟨fun p hp => by simp [chunks] at hp, rfl⟩
  | f + 1, l, h, h2 => by
    unfold chunks
    cases hl : l.isEmpty
    · have hpos : 0 < l.length := by cases l with
        | nil => simp at hl
        | cons => simp
      obtain ⟨h3, h4⟩ := chunks_pieces size hs f (l.drop size) (by simp; omega) (by simp; omega)
      simp only [Bool.false_eq_true, if_false]
      refine ⟨fun p hp => ?_, by rw [List.flatten_cons, h4, List.take_append_drop]⟩
      rcases List.mem_cons.1 hp with rfl | hp
      · rw [List.length_take]; omega
      · exact h3 p hp
    · simp only [if_true]
      rw [List.isEmpty_iff] at hl
      subst hl
      exact ⟨fun p hp => by simp at hp, rfl⟩
theorem encF_len (size : Nat) (l : List UInt8) : (encF size l).length = ((chunks size l.length l).flatMap chunkB).length + 5 := by
  unfold encF
  rw [List.length_append]
  rfl
theorem flat_ge (ps : List (List UInt8)) : ps.length ≤ (ps.flatMap chunkB).length := by
  induction ps with
  | nil => simp
  | cons p ps ih =>
    have : 1 ≤ (chunkB p).length := by rw [chunkB_size]; omega
    rw [List.flatMap_cons, List.length_append, List.length_cons]
    omega
theorem decF_whole (size : Nat) (l rest : List UInt8) (hs : 1 ≤ size) (hl : l.length ≤ 1000) : decF (encF size l ++ rest) = (l, (encF size l).length, 0) := by
  obtain ⟨h1, h2⟩ := chunks_pieces size hs l.length l (Nat.le_refl _) hl
  have hg := flat_ge (chunks size l.length l)
  unfold decF
  have e : encF size l ++ rest = (chunks size l.length l).flatMap chunkB ++ (lastB ++ rest) := by unfold encF lastB; rw [List.append_assoc]
  rw [encF_len, e, decGo_whole rest _ _ 4096 0 [] h1 (by rw [List.length_append]; omega) (by rw [h2]; omega), h2]
  simp
theorem decF_part (size : Nat) (l rest : List UInt8) (k : Nat) (hs : 1 ≤ size) (hl : l.length ≤ 1000) (hk : k < (encF size l).length) : decF ((encF size l ++ rest).take k) = ([], 0, 0) := by
  obtain ⟨h1, h2⟩ := chunks_pieces size hs l.length l (Nat.le_refl _) hl
  have e : encF size l ++ rest = (chunks size l.length l).flatMap chunkB ++ (lastB ++ rest) := by unfold encF lastB; rw [List.append_assoc]
  rw [encF_len] at hk
  have hn : ((encF size l ++ rest).take k).length = k := by rw [List.length_take, List.length_append, encF_len]; omega
  unfold decF
  rw [hn, e]
  exact decGo_part rest _ _ 4096 0 k [] h1 (by omega) (by rw [h2]; omega) hk

/-- Digits of a length. -/
def decOK (n : Nat) : Bool := number 10 18 (Lib.decDigits n) == ((n : Int), true) && splitF (Lib.decDigits n) == [Lib.decDigits n] && right sCL (Lib.decDigits n) && decide ((Lib.decDigits n).length ≤ 4)
theorem decOK_all : ∀ k : Fin 1001, decOK k.val = true := by decide +kernel
theorem dec_ok (n : Nat) (h : n ≤ 1000) : number 10 18 (Lib.decDigits n) = ((n : Int), true) ∧ splitF (Lib.decDigits n) = [Lib.decDigits n] ∧ right sCL (Lib.decDigits n) = true ∧ (Lib.decDigits n).length ≤ 4 := by
  have := decOK_all ⟨n, by omega⟩
  unfold decOK at this
  simp only [Bool.and_eq_true, beq_iff_eq, decide_eq_true_eq] at this
  exact ⟨this.1.1.1, this.1.1.2, this.1.2, this.2⟩

def sHost0 : List UInt8 := [104, 111, 115, 116]
def sh1 : List UInt8 := [104]
/-- The name of a field that tells neither the host nor the body's length. -/
def Other (n : List UInt8) : Prop := fold n ≠ [104, 111, 115, 116] ∧ fold n ≠ [99, 111, 110, 116, 101, 110, 116, 45, 108, 101, 110, 103, 116, 104] ∧ fold n ≠ [116, 114, 97, 110, 115, 102, 101, 114, 45, 101, 110, 99, 111, 100, 105, 110, 103]
theorem same_no {n name : List UInt8} (h : fold n ≠ fold name) : same n name = false := by
  unfold same
  have : (fold n == fold name) = false := by simpa using h
  rw [this, Bool.and_false]
theorem other_host {n : List UInt8} (h : Other n) : same n sHost = false := same_no (by rw [show fold sHost = [104, 111, 115, 116] by decide]; exact h.1)
theorem other_cl {n : List UInt8} (h : Other n) : same n sCL = false := same_no (by rw [show fold sCL = [99, 111, 110, 116, 101, 110, 116, 45, 108, 101, 110, 103, 116, 104] by decide]; exact h.2.1)
theorem other_te {n : List UInt8} (h : Other n) : same n sTE = false := same_no (by rw [show fold sTE = [116, 114, 97, 110, 115, 102, 101, 114, 45, 101, 110, 99, 111, 100, 105, 110, 103] by decide]; exact h.2.2)
/-- The three fields of a request. -/
def fsC (f : FD) : List FD := [(sHost0, sh1), f, (sTE, sChunked)]
def fsN (f : FD) (n : Nat) : List FD := [(sHost0, sh1), f, (sCL, Lib.decDigits n)]
theorem host_h : hostF sh1 = (sh1, true) := by decide +kernel
theorem hosts_fs (f : FD) (h : Other f.1) (x : FD) (hx : same x.1 sHost = false) : hostsF 1 [(sHost0, sh1), f, x] = true := by
  have e : getF [(sHost0, sh1), f, x] sHost = [sh1] := by
    unfold getF
    rw [List.filter_cons_of_pos (by decide), List.filter_cons_of_neg (by rw [other_host h]; decide), List.filter_cons_of_neg (by rw [hx]; decide)]
    rfl
  unfold hostsF
  rw [e]
  simp only []
  rw [host_h]
  rfl
theorem frame_C (f : FD) (h : Other f.1) : frameF (fsC f) 1 = (0, true, 0) := by
  have e1 : getF (fsC f) sCL = [] := by
    unfold getF fsC
    rw [List.filter_cons_of_neg (by decide), List.filter_cons_of_neg (by rw [other_cl h]; decide), List.filter_cons_of_neg (by decide)]
    rfl
  have e2 : getF (fsC f) sTE = [sChunked] := by
    unfold getF fsC
    rw [List.filter_cons_of_neg (by decide), List.filter_cons_of_neg (by rw [other_te h]; decide), List.filter_cons_of_pos (by decide)]
    rfl
  have e3 : chunkedF (fsC f) = true := by
    unfold chunkedF listF
    rw [e2]
    decide +kernel
  unfold frameF
  rw [e1, e2, e3]
  simp
theorem frame_N (f : FD) (n : Nat) (h : Other f.1) (hn : n ≤ 1000) : frameF (fsN f n) 1 = ((n : Int), false, 0) := by
  obtain ⟨d1, d2, d3, _⟩ := dec_ok n hn
  have e1 : getF (fsN f n) sCL = [Lib.decDigits n] := by
    unfold getF fsN
    rw [List.filter_cons_of_neg (by decide), List.filter_cons_of_neg (by rw [other_cl h]; decide), List.filter_cons_of_pos (p := fun p : FD => same p.1 sCL) (a := (sCL, Lib.decDigits n)) (show same sCL sCL = true by decide)]
    rfl
  have e2 : getF (fsN f n) sTE = [] := by
    unfold getF fsN
    rw [List.filter_cons_of_neg (by decide), List.filter_cons_of_neg (by rw [other_te h]; decide), List.filter_cons_of_neg (p := fun p : FD => same p.1 sTE) (a := (sCL, Lib.decDigits n)) (show ¬ same sCL sTE = true by decide)]
    rfl
  have e3 : lengthF (fsN f n) = ((n : Int), true) := by
    unfold lengthF listF
    rw [e1]
    simp only [List.flatMap_cons, List.flatMap_nil, List.append_nil]
    rw [d2]
    unfold lenGo
    rw [d1]
    simp [lenGo]
  unfold frameF
  rw [e1, e2, e3]
  simp
  omega

/-- What a request is made of. -/
structure AskOK (m t : List UInt8) (f : FD) (body : List UInt8) : Prop where
  hm : token m = true
  hm2 : m.length ≤ 20
  ht : target t = true
  ht2 : t.head? = some 47
  ht3 : t.length ≤ 301
  hf : right f.1 f.2 = true
  hf2 : f.1.length + f.2.length ≤ 1000
  ho : Other f.1
  hb : body.length ≤ 1000
theorem lineR_len (m t : List UInt8) : (lineR m t).length = m.length + t.length + 10 := by
  unfold lineR v11
  simp only [List.length_append, List.length_cons, List.length_nil]
  omega
theorem lineF_len (p : FD) : (lineF p).length = p.1.length + p.2.length + 4 := by
  unfold lineF
  simp only [List.length_append, List.length_cons, List.length_nil]
  omega
section
variable {m t : List UInt8} {f : FD} {body : List UInt8}
theorem AskOK.headC (h : AskOK m t f body) : HeadOK m t (fsC f) := by
  refine ⟨h.hm, h.hm2, h.ht, h.ht2, by have := h.ht3; omega, ?_, by simp [fsC], ?_⟩
  · intro p hp
    simp only [fsC, List.mem_cons, List.not_mem_nil, or_false] at hp
    rcases hp with rfl | rfl | rfl
    · decide
    · exact h.hf
    · decide
  · have h1 := h.hm2
    have h2 := h.ht3
    have h3 := h.hf2
    rw [headB_len, lineR_len]
    unfold fsC
    simp only [List.flatMap_cons, List.flatMap_nil, List.append_nil, List.length_append, lineF_len]
    have a1 : sHost0.length = 4 := rfl
    have a2 : sh1.length = 1 := rfl
    have a3 : sTE.length = 17 := rfl
    have a4 : sChunked.length = 7 := rfl
    omega
theorem AskOK.headN (h : AskOK m t f body) (n : Nat) (hn : n ≤ 1000) : HeadOK m t (fsN f n) := by
  obtain ⟨d1, d2, d3, d4⟩ := dec_ok n hn
  refine ⟨h.hm, h.hm2, h.ht, h.ht2, by have := h.ht3; omega, ?_, by simp [fsN], ?_⟩
  · intro p hp
    simp only [fsN, List.mem_cons, List.not_mem_nil, or_false] at hp
    rcases hp with rfl | rfl | rfl
    · decide
    · exact h.hf
    · exact d3
  · have h1 := h.hm2
    have h2 := h.ht3
    have h3 := h.hf2
    rw [headB_len, lineR_len]
    unfold fsN
    simp only [List.flatMap_cons, List.flatMap_nil, List.append_nil, List.length_append, lineF_len]
    have a1 : sHost0.length = 4 := rfl
    have a2 : sh1.length = 1 := rfl
    have a3 : sCL.length = 14 := rfl
    omega
/-- The fields of a request, its body as it is written. -/
def askFs (f : FD) (body : List UInt8) (size : Int) : List FD := if 0 < size then fsC f else fsN f body.length
def askBody (body : List UInt8) (size : Int) : List UInt8 := if 0 < size then encF size.toNat body else body
/-- A request's bytes. -/
def askB (m t : List UInt8) (f : FD) (body : List UInt8) (size : Int) : List UInt8 := writeF (reqLineF m t 1) (askFs f body size) (askBody body size)
theorem askB_eq (m t : List UInt8) (f : FD) (body : List UInt8) (size : Int) : askB m t f body size = headB m t (askFs f body size) ++ askBody body size := by
  unfold askB writeF headB
  rw [reqLine_eq]
  simp
theorem openF_whole {m t : List UInt8} {fs : List FD} (h : HeadOK m t fs) (hh : hostsF 1 fs = true) (rest : List UInt8) (a : Int) (b : Bool) (hfr : frameF fs 1 = (a, b, 0)) :
    openF (headB m t fs ++ rest) = ((m, t, 1), fs, (headB m t fs).length, a, b, 0) := by
  have hpos : (headB m t fs).length ≠ 0 := by rw [headB_len]; omega
  unfold openF
  rw [headF_whole h rest]
  simp only []
  rw [if_neg hpos, hh, if_neg (by decide), hfr]
theorem openF_part {m t : List UInt8} {fs : List FD} (h : HeadOK m t fs) (rest : List UInt8) (k : Nat) (hk : k < (headB m t fs).length) :
    openF ((headB m t fs ++ rest).take k) = (rl0, [], 0, 0, false, 0) := by
  have := headF_part h rest k hk
  unfold openF
  rw [this]
  simp
theorem request_whole (h : AskOK m t f body) (size : Int) (rest : List UInt8) :
    requestF (askB m t f body size ++ rest) = ((m, t, 1), askFs f body size, body, (askB m t f body size).length, 0) := by
  have hb := h.hb
  rw [askB_eq, List.append_assoc, List.length_append]
  unfold askFs askBody
  by_cases hs : 0 < size
  · rw [if_pos hs, if_pos hs]
    have hO := openF_whole h.headC (hosts_fs f h.ho _ (by decide)) (encF size.toNat body ++ rest) 0 true (frame_C f h.ho)
    have hpos : (headB m t (fsC f)).length ≠ 0 := by rw [headB_len]; omega
    have hD := decF_whole size.toNat body rest (by omega) hb
    have hel : (encF size.toNat body).length ≠ 0 := by rw [encF_len]; omega
    have hB : bodyF (encF size.toNat body ++ rest) (0 : Int).toNat true = (body, ((encF size.toNat body).length : Int), 0) := by
      unfold bodyF
      rw [hD]
      simp [hel]
    unfold requestF
    rw [hO]
    simp only []
    rw [if_neg (by simp; exact List.ne_nil_of_length_pos (by omega)), List.drop_left, hB]
    simp only [Int.toNat_natCast]
    rw [if_neg (by omega)]
  · rw [if_neg hs, if_neg hs]
    have hO := openF_whole (h.headN body.length hb) (hosts_fs f h.ho _ (show same sCL sHost = false by decide)) (body ++ rest) _ false (frame_N f body.length h.ho hb)
    have hpos : (headB m t (fsN f body.length)).length ≠ 0 := by rw [headB_len]; omega
    have hB : bodyF (body ++ rest) ((body.length : Int)).toNat false = (body, (body.length : Int), 0) := by
      unfold bodyF
      rw [if_pos rfl, Int.toNat_natCast, if_neg (by rw [List.length_append]; omega), List.take_left]
    unfold requestF
    rw [hO]
    simp only []
    rw [if_neg (by simp; exact List.ne_nil_of_length_pos (by omega)), List.drop_left, hB]
    simp only [Int.toNat_natCast]
    rw [if_neg (by omega)]
theorem request_part (h : AskOK m t f body) (size : Int) (rest : List UInt8) (k : Nat) (hk : k < (askB m t f body size).length) :
    (requestF ((askB m t f body size ++ rest).take k)).2.2.2 = (0, 0) := by
  have hb := h.hb
  rw [askB_eq] at hk ⊢
  rw [List.append_assoc]
  rw [List.length_append] at hk
  have hH : HeadOK m t (askFs f body size) := by
    unfold askFs
    split
    · exact h.headC
    · exact h.headN _ hb
  by_cases h1 : k < (headB m t (askFs f body size)).length
  · unfold requestF
    rw [openF_part hH _ k h1]
    simp
  obtain ⟨j, rfl⟩ : ∃ j, k = (headB m t (askFs f body size)).length + j := ⟨k - (headB m t (askFs f body size)).length, by omega⟩
  rw [List.take_length_add_append]
  have hpos : (headB m t (askFs f body size)).length ≠ 0 := by rw [headB_len]; omega
  unfold askFs askBody at *
  by_cases hs : 0 < size
  · rw [if_pos hs] at hk hpos ⊢
    rw [if_pos hs] at hk ⊢
    have hO := openF_whole h.headC (hosts_fs f h.ho _ (by decide)) ((encF size.toNat body ++ rest).take j) 0 true (frame_C f h.ho)
    have hD := decF_part size.toNat body rest j (by omega) hb (by omega)
    have hB : bodyF ((encF size.toNat body ++ rest).take j) (0 : Int).toNat true = ([], -1, 0) := by
      unfold bodyF
      rw [hD]
      simp
    unfold requestF
    rw [hO]
    simp only []
    rw [if_neg (by simp; exact List.ne_nil_of_length_pos (by omega)), List.drop_left, hB]
    rfl
  · rw [if_neg hs] at hk hpos ⊢
    rw [if_neg hs] at hk ⊢
    have hO := openF_whole (h.headN body.length hb) (hosts_fs f h.ho _ (show same sCL sHost = false by decide)) ((body ++ rest).take j) _ false (frame_N f body.length h.ho hb)
    have hB : bodyF ((body ++ rest).take j) ((body.length : Int)).toNat false = ([], -1, 0) := by
      unfold bodyF
      rw [if_pos rfl, Int.toNat_natCast, if_pos (by rw [List.length_take]; omega)]
    unfold requestF
    rw [hO]
    simp only []
    rw [if_neg (by simp; exact List.ne_nil_of_length_pos (by omega)), List.drop_left, hB]
    rfl
theorem request_nil : (requestF []).2.2.2 = (0, 0) := by decide +kernel
end
end Go.Proofs.YtnijoifiliaebaaGreatDoor
