/-
  The plain law: requests written are read as just these; what isn't whole isn't read. First part: lines, fields, heads.
-/
import Derived.Test.YtnijoifiliaebaaGreatDoorT
namespace Go.Proofs.YtnijoifiliaebaaGreatDoor
open Go.RowKit

/-- No line feed, no carriage return. -/
def NoNL (l : List UInt8) : Prop := ∀ c ∈ l, c ≠ 10 ∧ c ≠ 13
theorem NoNL.tail {c : UInt8} {l : List UInt8} (h : NoNL (c :: l)) : NoNL l := fun d hd => h d (by simp [hd])
theorem NoNL.app {a b : List UInt8} (h : NoNL a) (k : NoNL b) : NoNL (a ++ b) := fun c hc => by
  rcases List.mem_append.1 hc with hc | hc
  · exact h c hc
  · exact k c hc
theorem noNL_all (p : UInt8 → Bool) (h10 : p 10 = false) (h13 : p 13 = false) {l : List UInt8} (h : l.all p = true) : NoNL l := by
  intro c hc
  have := List.all_eq_true.1 h c hc
  refine ⟨?_, ?_⟩
  · intro e
    rw [e, h10] at this
    cases this
  · intro e
    rw [e, h13] at this
    cases this

theorem cutGo_line (most : Nat) (whole rest : List UInt8) : ∀ (l : List UInt8) (i : Nat), NoNL l → i + l.length ≤ most → cutGo most whole i (l ++ 13 :: 10 :: rest) = (whole.take (i + l.length), i + l.length + 2, 0)
  | [], i, _, _ => by
    rw [List.nil_append, cutGo_cons, if_neg (by decide), if_pos rfl]
    simp
  | c :: l, i, h, hm => by
    have hc := h c (by simp)
    simp only [List.length_cons] at hm
    rw [List.cons_append, cutGo_cons, if_neg hc.1, if_neg hc.2, if_neg (by omega), cutGo_line most whole rest l (i + 1) h.tail (by omega)]
    simp only [List.length_cons]
    rw [show i + 1 + l.length = i + (l.length + 1) by omega]
theorem cut_line (most : Nat) (l rest : List UInt8) (h : NoNL l) (hm : l.length ≤ most) : cutF (l ++ 13 :: 10 :: rest) most = (l, l.length + 2, 0) := by
  unfold cutF
  rw [cutGo_line most _ rest l 0 h (by omega), Nat.zero_add, List.take_left]
theorem cutGo_part (most : Nat) (whole : List UInt8) : ∀ (l : List UInt8) (i : Nat), NoNL l → i + l.length ≤ most → cutGo most whole i l = ([], 0, 0)
  | [], i, _, _ => cutGo_nil _ _ _
  | c :: l, i, h, hm => by
    have hc := h c (by simp)
    simp only [List.length_cons] at hm
    rw [cutGo_cons, if_neg hc.1, if_neg hc.2, if_neg (by omega), cutGo_part most whole l (i + 1) h.tail (by omega)]
theorem cutGo_part13 (most : Nat) (whole : List UInt8) : ∀ (l : List UInt8) (i : Nat), NoNL l → i + l.length ≤ most → cutGo most whole i (l ++ [13]) = ([], 0, 0)
  | [], i, _, _ => by
    rw [List.nil_append, cutGo_cons, if_neg (by decide), if_pos rfl]
  | c :: l, i, h, hm => by
    have hc := h c (by simp)
    simp only [List.length_cons] at hm
    rw [List.cons_append, cutGo_cons, if_neg hc.1, if_neg hc.2, if_neg (by omega), cutGo_part13 most whole l (i + 1) h.tail (by omega)]
/-- A line that isn't whole. -/
theorem cut_part (most : Nat) (l rest : List UInt8) (k : Nat) (h : NoNL l) (hm : l.length ≤ most) (hk : k < l.length + 2) : cutF ((l ++ 13 :: 10 :: rest).take k) most = ([], 0, 0) := by
  unfold cutF
  by_cases h1 : k ≤ l.length
  · rw [List.take_append_of_le_length h1]
    refine cutGo_part most _ _ 0 (fun c hc => h c (List.mem_of_mem_take hc)) ?_
    simp
    omega
  · have : k = l.length + 1 := by omega
    subst this
    have e : (l ++ 13 :: 10 :: rest).take (l.length + 1) = l ++ [13] := by
      rw [List.take_append, List.take_of_length_le (by omega)]
      simp
    rw [e]
    exact cutGo_part13 most _ l 0 h (by omega)

theorem token_no (c : UInt8) (hc : tokC c = false) {l : List UInt8} (h : token l = true) : c ∉ l := by
  intro hm
  unfold token at h
  rw [Bool.and_eq_true] at h
  have := List.all_eq_true.1 h.2 c hm
  rw [hc] at this
  cases this
theorem target_no (c : UInt8) (hc : tgtC c = false) {l : List UInt8} (h : target l = true) : c ∉ l := by
  intro hm
  unfold target at h
  rw [Bool.and_eq_true] at h
  have := List.all_eq_true.1 h.2 c hm
  rw [hc] at this
  cases this
theorem token_nl {l : List UInt8} (h : token l = true) : NoNL l := by
  unfold token at h
  rw [Bool.and_eq_true] at h
  exact noNL_all tokC (by decide) (by decide) h.2
theorem target_nl {l : List UInt8} (h : target l = true) : NoNL l := by
  unfold target at h
  rw [Bool.and_eq_true] at h
  exact noNL_all tgtC (by decide) (by decide) h.2

/-- The line of a request. -/
def lineR (m t : List UInt8) : List UInt8 := m ++ 32 :: (t ++ 32 :: v11)
theorem dec1 : Lib.decDigits 1 = [49] := by decide +kernel
theorem reqLine_eq (m t : List UInt8) : reqLineF m t 1 = lineR m t ++ [13, 10] := by
  unfold reqLineF lineR
  rw [dec1]
  simp [v11]
theorem reqF_line (m t : List UInt8) (hm : token m = true) (hm2 : m.length ≤ 20) (ht : target t = true) (ht2 : t.head? = some 47) (ht3 : t.length ≤ 512) : reqF (lineR m t) = ((m, t, 1), 0) := by
  unfold reqF lineR
  rw [splitC_app 32 _ m (token_no 32 (by decide) hm), splitC_app 32 _ t (target_no 32 (by decide) ht), splitC_no 32 v11 (by decide)]
  have hT : targetF m t = true := by unfold targetF; rw [ht, ht2]; rfl
  simp only []
  rw [if_neg (by rw [hm, hT]; simp only [Bool.true_eq_false, or_false]; omega), if_neg (by omega), if_neg (by decide), if_neg (by decide)]
  rfl

theorem index_split (c : UInt8) (a b : List UInt8) (h : c ∉ a) : Lib.index (a ++ c :: b) [c] = (a.length : Int) := by
  have occ : ∀ (l : List UInt8) (j : Nat), Lib.occAt l [c] j = true ↔ l[j]? = some c := by
    intro l j
    unfold Lib.occAt
    rw [← List.head?_drop]
    cases l.drop j with
    | nil => simp
    | cons x t => simp [List.isPrefixOf]; exact eq_comm
  have hat : (a ++ c :: b)[a.length]? = some c := by simp
  rcases Lib.index_spec (a ++ c :: b) [c] with ⟨h1, h2⟩ | ⟨i, h1, h2, h3, h4⟩
  · exfalso
    have := h2 a.length (by simp)
    rw [(occ _ _).2 hat] at this
    cases this
  · have h5 := (occ _ _).1 h3
    have : i = a.length := by
      rcases Nat.lt_trichotomy i a.length with hl | hl | hl
      · exfalso
        rw [List.getElem?_append_left hl] at h5
        exact h (List.mem_of_getElem? h5)
      · exact hl
      · exfalso
        have := h4 a.length hl
        rw [(occ _ _).2 hat] at this
        cases this
    rw [h1, this]
theorem cut_at (c : UInt8) (a b : List UInt8) (h : c ∉ a) : Lib.cut (a ++ c :: b) [c] = (a, b, true) := by
  unfold Lib.cut
  rw [index_split c a b h, if_pos (by omega)]
  simp only [Int.toNat_natCast, List.length_cons, List.length_nil, Nat.zero_add]
  rw [List.take_left, List.drop_append]
  simp
theorem trim_blank (v : List UInt8) : trim (32 :: v) = trim v := by
  unfold trim Lib.trimS
  have e : Lib.trimRightS (32 :: v) blanks = if (Lib.trimRightS v blanks).isEmpty then [] else 32 :: Lib.trimRightS v blanks := by
    unfold Lib.trimRightS
    rw [List.reverse_cons, List.dropWhile_append]
    cases hd : (v.reverse.dropWhile (blanks.contains ·)) with
    | nil => rfl
    | cons x t => simp
  rw [e]
  split
  · rename_i h
    rw [List.isEmpty_iff] at h
    rw [h]
  · unfold Lib.trimLeftS
    rw [List.dropWhile_cons, if_pos (by decide)]

theorem right_parts {n v : List UInt8} (h : right n v = true) : n.length ≤ 100 ∧ token n = true ∧ v.length ≤ 1000 ∧ v.all valC = true ∧ trim v = v := by
  unfold right at h
  simp only [Bool.and_eq_true, decide_eq_true_eq, beq_iff_eq] at h
  exact ⟨h.1, h.2.1, h.2.2.1, h.2.2.2.1, h.2.2.2.2⟩
/-- A field's line without its end. -/
def lineT (p : FD) : List UInt8 := p.1 ++ 58 :: 32 :: p.2
theorem lineF_eq (p : FD) : lineF p = lineT p ++ [13, 10] := by simp [lineF, lineT]
theorem lineT_nl (p : FD) (h : right p.1 p.2 = true) : NoNL (lineT p) := by
  obtain ⟨_, h1, _, h2, _⟩ := right_parts h
  refine (token_nl h1).app ?_
  intro c hc
  simp only [List.mem_cons] at hc
  rcases hc with rfl | rfl | hc
  · decide
  · decide
  · exact noNL_all valC (by decide) (by decide) h2 c hc
theorem lineT_len (p : FD) (h : right p.1 p.2 = true) : (lineT p).length ≤ 1102 ∧ lineT p ≠ [] := by
  obtain ⟨h0, h1, h3, h2, _⟩ := right_parts h
  refine ⟨by simp [lineT]; omega, by simp [lineT]⟩
theorem parseF_line (p : FD) (h : right p.1 p.2 = true) : parseF (lineT p) = some p := by
  obtain ⟨_, h1, _, _, h4⟩ := right_parts h
  unfold parseF lineT
  rw [cut_at 58 p.1 _ (token_no 58 (by decide) h1)]
  simp only []
  rw [trim_blank, h4, h]
  simp

/-- Fields that are right. -/
def Rights (fs : List FD) : Prop := ∀ p ∈ fs, right p.1 p.2 = true
theorem headGo_fields (full : Bool) (q : RL) (rest : List UInt8) : ∀ (fs : List FD) (f at_ : Nat) (acc : List FD), Rights fs → 0 < at_ → fs.length < f → acc.length + fs.length ≤ 40 →
    headGo full f at_ q acc (fs.flatMap lineF ++ 13 :: 10 :: rest) = (q, acc ++ fs, at_ + (fs.flatMap lineF).length + 2, 0)
  | [], f + 1, at_, acc, _, hat, _, _ => by
    have hc := cut_line 2048 [] rest (fun c hc => by cases hc) (by simp)
    rw [List.nil_append] at hc
    unfold headGo
    rw [List.flatMap_nil, List.nil_append, hc]
    simp only [List.length_nil]
    rw [if_neg (by decide), if_neg (by decide), if_neg (by omega)]
    simp
  | p :: fs, f + 1, at_, acc, hr, hat, hf, ha => by
    have hp := hr p (by simp)
    have hl := lineT_len p hp
    have e : (p :: fs).flatMap lineF ++ 13 :: 10 :: rest = lineT p ++ 13 :: 10 :: (fs.flatMap lineF ++ 13 :: 10 :: rest) := by
      rw [List.flatMap_cons, lineF_eq]; simp
    have hc := cut_line 2048 (lineT p) (fs.flatMap lineF ++ 13 :: 10 :: rest) (lineT_nl p hp) (by omega)
    simp only [List.length_cons] at hf ha
    unfold headGo
    rw [e, hc]
    simp only []
    rw [if_neg (by decide), if_neg (by omega), if_neg (by omega), if_neg hl.2, parseF_line p hp]
    simp only []
    rw [if_neg (by omega)]
    have e2 : (lineT p ++ 13 :: 10 :: (fs.flatMap lineF ++ 13 :: 10 :: rest)).drop ((lineT p).length + 2) = fs.flatMap lineF ++ 13 :: 10 :: rest := by
      rw [← List.drop_drop, List.drop_left]
      rfl
    rw [e2, headGo_fields full q rest fs f (at_ + ((lineT p).length + 2)) (acc ++ [p]) (fun x hx => hr x (by simp [hx])) (by omega) (by omega) (by rw [List.length_append]; simp only [List.length_cons, List.length_nil]; omega)]
    have e3 : ((p :: fs).flatMap lineF).length = (lineT p).length + 2 + (fs.flatMap lineF).length := by
      rw [List.flatMap_cons, List.length_append, lineF_eq, List.length_append]
      simp
    rw [e3]
    simp only [List.append_assoc, List.cons_append, List.nil_append]
    congr 3
    omega
/-- Fields that aren't whole. -/
theorem headGo_part (q : RL) (rest : List UInt8) : ∀ (fs : List FD) (f at_ k : Nat) (acc : List FD), Rights fs → 0 < at_ → k < f → acc.length + fs.length ≤ 40 → k < (fs.flatMap lineF).length + 2 →
    headGo false f at_ q acc ((fs.flatMap lineF ++ 13 :: 10 :: rest).take k) = (q, [], 0, 0)
  | [], f + 1, at_, k, acc, _, hat, _, _, hk => by
    have hc := cut_part 2048 [] rest k (fun c hc => by cases hc) (by simp) (by simpa using hk)
    rw [List.nil_append] at hc
    unfold headGo
    rw [List.flatMap_nil, List.nil_append, hc]
    simp
  | p :: fs, f + 1, at_, k, acc, hr, hat, hf, ha, hk => by
    have hp := hr p (by simp)
    have hl := lineT_len p hp
    have e : (p :: fs).flatMap lineF ++ 13 :: 10 :: rest = lineT p ++ 13 :: 10 :: (fs.flatMap lineF ++ 13 :: 10 :: rest) := by
      rw [List.flatMap_cons, lineF_eq]; simp
    have e3 : ((p :: fs).flatMap lineF).length = (lineT p).length + 2 + (fs.flatMap lineF).length := by
      rw [List.flatMap_cons, List.length_append, lineF_eq, List.length_append]
      simp
    rw [e3] at hk
    simp only [List.length_cons] at hf ha
    by_cases h1 : k < (lineT p).length + 2
    · have hc := cut_part 2048 (lineT p) (fs.flatMap lineF ++ 13 :: 10 :: rest) k (lineT_nl p hp) (by omega) h1
      unfold headGo
      rw [e, hc]
      simp
    · obtain ⟨j, rfl⟩ : ∃ j, k = (lineT p).length + 2 + j := ⟨k - ((lineT p).length + 2), by omega⟩
      have e4 : (lineT p ++ 13 :: 10 :: (fs.flatMap lineF ++ 13 :: 10 :: rest)).take ((lineT p).length + 2 + j) = lineT p ++ 13 :: 10 :: (fs.flatMap lineF ++ 13 :: 10 :: rest).take j := by
        rw [Nat.add_assoc, List.take_length_add_append, Nat.add_comm 2 j]
        rfl
      have hc := cut_line 2048 (lineT p) ((fs.flatMap lineF ++ 13 :: 10 :: rest).take j) (lineT_nl p hp) (by omega)
      unfold headGo
      rw [e, e4, hc]
      simp only []
      rw [if_neg (by decide), if_neg (by omega), if_neg (by omega), if_neg hl.2, parseF_line p hp]
      simp only []
      rw [if_neg (by omega)]
      have e2 : (lineT p ++ 13 :: 10 :: (fs.flatMap lineF ++ 13 :: 10 :: rest).take j).drop ((lineT p).length + 2) = (fs.flatMap lineF ++ 13 :: 10 :: rest).take j := by
        rw [← List.drop_drop, List.drop_left]
        rfl
      rw [e2, headGo_part q rest fs f (at_ + ((lineT p).length + 2)) j (acc ++ [p]) (fun x hx => hr x (by simp [hx])) (by omega) (by omega) (by rw [List.length_append]; simp only [List.length_cons, List.length_nil]; omega) (by omega)]

/-- A request's head. -/
def headB (m t : List UInt8) (fs : List FD) : List UInt8 := lineR m t ++ 13 :: 10 :: (fs.flatMap lineF ++ [13, 10])
structure HeadOK (m t : List UInt8) (fs : List FD) : Prop where
  hm : token m = true
  hm2 : m.length ≤ 20
  ht : target t = true
  ht2 : t.head? = some 47
  ht3 : t.length ≤ 512
  hfs : Rights fs
  hn : fs.length ≤ 40
  hlen : (headB m t fs).length ≤ 2048
section
variable {m t : List UInt8} {fs : List FD}
theorem HeadOK.nl (h : HeadOK m t fs) : NoNL (lineR m t) := by
  refine (token_nl h.hm).app ?_
  intro c hc
  simp only [List.mem_cons, List.mem_append] at hc
  rcases hc with rfl | hc | rfl | hc
  · decide
  · exact target_nl h.ht c hc
  · decide
  · exact (show NoNL v11 by unfold NoNL v11; decide) c hc
theorem HeadOK.line (h : HeadOK m t fs) : (lineR m t).length ≤ 2048 := by
  have := h.hlen
  unfold headB at this
  rw [List.length_append] at this
  omega
theorem headB_len (m t : List UInt8) (fs : List FD) : (headB m t fs).length = (lineR m t).length + 2 + ((fs.flatMap lineF).length + 2) := by
  unfold headB
  simp only [List.length_append, List.length_cons, List.length_nil]
  omega
theorem headGo_first (full : Bool) (f : Nat) (h : HeadOK m t fs) (rest : List UInt8) : headGo full (f + 1) 0 rl0 [] (lineR m t ++ 13 :: 10 :: rest) = headGo full f ((lineR m t).length + 2) (m, t, 1) [] rest := by
  conv => lhs; unfold headGo
  rw [cut_line 2048 (lineR m t) rest h.nl h.line]
  simp only []
  rw [if_neg (by decide), if_neg (by omega), if_pos (c := True) trivial, reqF_line m t h.hm h.hm2 h.ht h.ht2 h.ht3]
  simp only []
  rw [if_pos (c := True) trivial]
  have e2 : (lineR m t ++ 13 :: 10 :: rest).drop ((lineR m t).length + 2) = rest := by
    rw [← List.drop_drop, List.drop_left]
    rfl
  rw [e2, Nat.zero_add]
theorem headF_whole (h : HeadOK m t fs) (rest : List UInt8) : headF (headB m t fs ++ rest) = ((m, t, 1), fs, (headB m t fs).length, 0) := by
  have hl := h.hlen
  have hn := headB_len m t fs
  have hfl : fs.length ≤ (fs.flatMap lineF).length := by
    clear h hl hn
    induction fs with
    | nil => simp
    | cons p fs ih =>
      have : 1 ≤ (lineF p).length := by simp [lineF]; omega
      rw [List.flatMap_cons, List.length_append, List.length_cons]
      omega
  unfold headF
  rw [List.take_append, List.take_of_length_le hl]
  generalize rest.take (2048 - (headB m t fs).length) = r2
  have e : headB m t fs ++ r2 = lineR m t ++ 13 :: 10 :: (fs.flatMap lineF ++ 13 :: 10 :: r2) := by
    unfold headB
    simp
  rw [e, headGo_first _ _ h, ]
  obtain ⟨f, hf⟩ : ∃ f, (headB m t fs ++ rest).length = f + 1 := ⟨(headB m t fs ++ rest).length - 1, by rw [List.length_append]; omega⟩
  rw [headGo_fields _ _ r2 fs _ _ [] h.hfs (by omega) (by rw [List.length_append]; omega) (by simpa using h.hn), hn]
  simp only [List.nil_append]
  congr 3
theorem headF_part (h : HeadOK m t fs) (rest : List UInt8) (k : Nat) (hk : k < (headB m t fs).length) : (headF ((headB m t fs ++ rest).take k)).2.2 = (0, 0) := by
  have hl := h.hlen
  have hn := headB_len m t fs
  have hlen : ((headB m t fs ++ rest).take k).length = k := by rw [List.length_take, List.length_append]; omega
  unfold headF
  rw [hlen, List.take_of_length_le (by omega), decide_eq_false (by omega)]
  have e : headB m t fs ++ rest = lineR m t ++ 13 :: 10 :: (fs.flatMap lineF ++ 13 :: 10 :: rest) := by
    unfold headB
    simp
  rw [e]
  by_cases h1 : k < (lineR m t).length + 2
  · unfold headGo
    rw [cut_part 2048 _ _ k h.nl h.line h1]
    simp
  · obtain ⟨j, rfl⟩ : ∃ j, k = (lineR m t).length + 2 + j := ⟨k - ((lineR m t).length + 2), by omega⟩
    have e4 : (lineR m t ++ 13 :: 10 :: (fs.flatMap lineF ++ 13 :: 10 :: rest)).take ((lineR m t).length + 2 + j) = lineR m t ++ 13 :: 10 :: (fs.flatMap lineF ++ 13 :: 10 :: rest).take j := by
      rw [Nat.add_assoc, List.take_length_add_append, Nat.add_comm 2 j]
      rfl
    rw [e4, headGo_first _ _ h]
    rw [headGo_part _ rest fs _ _ j [] h.hfs (by omega) (by omega) (by simpa using h.hn) (by omega)]
end
end Go.Proofs.YtnijoifiliaebaaGreatDoor
