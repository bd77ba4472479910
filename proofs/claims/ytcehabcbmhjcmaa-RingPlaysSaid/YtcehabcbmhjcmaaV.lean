/-
  append on a ring's array of segments.
-/
import Derived.Test.YtcehabcbmhjcmaaT
import Derived.ArgAppend
import Derived.Laws.CopyOwn
namespace Go.Proofs.Ytcehabcbmhjcmaa
open Go.RowKit

theorem info66 : (Try.prog.info? 66).map (fun i => (i.zero, i.size, i.bytes)) = some (some (.pointer none), 1, 8) := by kernel_rfl

theorem segs_app {ops : Array Oper} {rest : List Oper} {o : Oper} {a : Act} {Q : Exit → Act → World → Prop} {W : World} (hgd : o.guard = none) (s x : Operand)
    (ho : o.op = .call { callee := .builtin .append, args := #[s, x], argTypes := #[59, 59] })
    (A : Option Addr) (cap p xb n : Nat) (ps : List Nat) (hn : ps.length = n) (hs : a.eval s = .slice A n cap) (hx : a.eval x = .slice (some ⟨xb, 0, none⟩) 1 1)
    (hS : SegsAt W A cap ps) (hxb : W.heap[xb]? = some (.cells #[ptr p] 66 (0, 0))) (hl : (n + 1) * 8 ≤ 140737488355328)
    (h : ∀ A' cap' W', SegsAt W' A' cap' (ps ++ [p]) → Only (ablock A) W W' → (∀ i, ablock A' i → ablock A i ∨ W.heap.size ≤ i) → wpList Try.prog ops Q rest (a.put o.dst (.slice A' (n + 1) cap')) W') :
    wpList Try.prog ops Q (o :: rest) a W := by
  subst hn
  obtain ⟨i0, hi, hz0, hz1, hz2⟩ := info_parts info66
  have hnews : ∀ j u, ([ptr p] : List Value)[j]? = some u → W.cell? ((⟨xb, 0, none⟩ : Addr).add j) = some u := by
    intro j u hu
    have hj : j = 0 := by
      have := (List.getElem?_eq_some_iff.1 hu).1
      simp at this
      exact this
    subst hj
    rw [Go.WideShapes.add_plain, b_cell hxb]
    simpa using hu
  -- what is owned in a new block reads as the list
  have grown : ∀ (v' : Value) (w' : World), (∃ olds : List Value, olds.length = ps.length ∧ (∀ (i q : Nat), ps[i]? = some q → olds[i]? = some (ptr q)) ∧ w'.ownsRow W.heap.size 66 1 v' (ps.length + 1) (olds ++ [ptr p])) → W.grownBy w' none → wpList Try.prog ops Q rest (a.put o.dst v') w' := by
    rintro v' w' ⟨olds, hol, holds, hown⟩ hg
    rcases hown.2 with ⟨_, h0⟩ | ⟨g, c', cur, rfl, hb, hgg, hle, hcm, hcs, htake⟩
    · omega
    · refine h (some ⟨g, 0, none⟩) c' w' (.inr ⟨g, 0, cur, rfl, hgg, by simpa using hle, hcm, by omega, fun i q hq => ?_⟩) ((Only.refl _ _).grown hg (fun k hk => by cases hk)) (fun i hi => .inr ?_)
      · rw [Nat.mul_one] at htake
        have hi : i < ps.length + 1 := by have := (List.getElem?_eq_some_iff.1 hq).1; simpa using this
        have e : cur.toList[i]? = (olds ++ [ptr p])[i]? := by rw [← htake, List.getElem?_take_of_lt hi]
        rw [Nat.zero_add, ← Array.getElem?_toList, e]
        by_cases hc : i < ps.length
        · rw [List.getElem?_append_left (by omega)]
          rw [List.getElem?_append_left hc] at hq
          exact holds i q hq
        · obtain rfl : i = ps.length := by omega
          rw [List.getElem?_append_right (by omega), hol, Nat.sub_self]
          rw [List.getElem?_append_right (by omega), Nat.sub_self] at hq
          simp at hq
          simp [hq]
      · have : g = i := hi
        omega
  rcases hS with ⟨rfl, rfl, rfl⟩ | ⟨g, off, cur, rfl, hg, h1, h2, h3, hc⟩
  · refine wpList_append_grows W hgd s x 59 ho 66 i0 (.pointer none) 1 8 Try.underlying59 hi hz0 hz1 hz2 rfl (by omega) none 0 0 [] hs (fun _ => ⟨rfl, rfl⟩) rfl (fun b hb => by cases hb) ⟨xb, 0, none⟩ 1 1 [ptr p] hx rfl hnews (by simp [ptr]; rfl) (by omega) (by simp [maxLen]) (by omega) ?_
    intro v' w' hown hgr
    exact grown v' w' ⟨[], rfl, fun i q hq => by simp at hq, hown⟩ hgr
  · obtain ⟨olds, hol, holds⟩ : ∃ olds : List Value, olds.length = ps.length ∧ ∀ (i q : Nat), ps[i]? = some q → olds[i]? = some (ptr q) := ⟨ps.map ptr, by simp, fun i q hq => by simp [hq]⟩
    have hmem : ∀ j u, olds[j]? = some u → W.cell? ⟨g, off + j, none⟩ = some u := by
      intro j u hu
      have hj : j < ps.length := by rw [← hol]; exact (List.getElem?_eq_some_iff.1 hu).1
      have e := holds j ps[j] (List.getElem?_eq_getElem hj)
      rw [b_cell hg, hc j ps[j] (List.getElem?_eq_getElem hj), ← e, hu]
    refine wpList_append_arg W hgd s x 59 ho 66 i0 (.pointer none) 1 8 Try.underlying59 hi hz0 hz1 hz2 rfl (by omega) g off ps.length cap olds hs (by omega) hmem ⟨xb, 0, none⟩ 1 1 [ptr p] hx rfl hnews (by simp [ptr]; rfl) ?_ (by unfold maxLen at h2 ⊢; omega) hl ?_ ?_
    · intro hr j hj
      simp at hj
      subst hj
      rw [b_cell hg]
      refine ⟨?_, b_free hg _⟩
      simp
      omega
    · intro hr
      refine h (some ⟨g, off, none⟩) cap _ (.inr ⟨g, off, cur.setIfInBounds (off + ps.length * 1) (ptr p), rfl, b_set hg _ _, by simpa using hr, h2, by simpa using h3, fun i q hq => ?_⟩) ((Only.refl _ _).setCell (p := ⟨g, off + ps.length * 1, none⟩) (.inl rfl) _) (fun i hi => .inl hi)
      by_cases hc' : i < ps.length
      · rw [List.getElem?_append_left hc'] at hq
        rw [Array.getElem?_setIfInBounds_ne (by omega)]
        exact hc i q hq
      · have hi : i < ps.length + 1 := by have := (List.getElem?_eq_some_iff.1 hq).1; simpa using this
        obtain rfl : i = ps.length := by omega
        rw [List.getElem?_append_right (by omega), Nat.sub_self] at hq
        simp at hq
        subst hq
        rw [Nat.mul_one, Array.getElem?_setIfInBounds_self_of_lt (by omega)]
    · intro hr v' w' hown hgr
      exact grown v' w' ⟨olds, hol, holds, hown⟩ hgr

theorem segRow_splice (c : List Int) (f t : Nat) (xs : List Int) (h : c.length = 64) (hx : t + xs.length ≤ 64) :
    (segRow c f t).take t ++ (u8s xs ++ (segRow c f t).drop (t + (u8s xs).length)) = segRow (splice c t xs) f t := by
  unfold segRow splice
  rw [u8s_len, List.take_append_of_le_length (by rw [u8s_len, h]; omega), List.drop_append_of_le_length (by rw [u8s_len, h]; omega), u8s_append, u8s_append]
  unfold u8s
  rw [List.map_take, List.map_drop]
  simp only [List.append_assoc]

/-- copy into a segment's row. -/
theorem step_copy1 {ops : Array Oper} {o : Oper} {a : Act} {W : World} {K : Act → World → Prop} {Q : Exit → Act → World → Prop} {E : Prop} (hgd : o.guard = none) (d s : Operand)
    (ho : o.op = .call { callee := .builtin .copy, args := #[d, s], argTypes := #[22, 22] })
    (p f t : Nat) (c : List Int) (xs : List Int) (dCap sLen sCap : Nat) (A : Option Addr) (hd : a.eval d = .slice (some ⟨p, t, none⟩) (64 - t) dCap) (hs : a.eval s = .slice A sLen sCap)
    (hin : SegIn W ⟨p, c, f, t⟩) (hc : c.length = 64) (ht : t ≤ 64) (hk : xs.length = min (64 - t) sLen)
    (hsrc : ∃ ad, A = some ad ∧ ∀ j v, (u8s xs)[j]? = some v → W.cell? (ad.add j) = some v)
    (h : ∀ W', SegIn W' ⟨p, splice c t xs, f, t⟩ → Only (· = p) W W' → K (a.put o.dst (.int .i64 (xs.length : Int))) W') :
    if Region.wanted o (yielded ops a.tmps) = true then Oper.wp Try.prog o a W K Q else E := by
  have hw : Region.wanted o (yielded ops a.tmps) = true := by simp [Region.wanted, hgd]
  rw [if_pos hw]
  obtain ⟨ad, rfl, hcell⟩ := hsrc
  have hrun := run_copy_row (P := Try.prog) W 22 22 o.type 5 p t (64 - t) dCap ad sLen sCap (segRow c f t).toArray 65 (u8s xs) Try.underlying22 (by kernel_rfl) hin (by rw [u8s_len, hk]; exact Nat.min_comm _ _) hcell (by rw [u8s_len]; simp [segRow_len c f t hc]; omega) (by
    intro v hv
    obtain ⟨x, _, rfl⟩ := List.mem_map.1 hv
    rfl)
  unfold Oper.wp
  simp [execOp, ho, resolve, invoke, builtin, hd, hs, hrun, Result.andThen]
  have hx : t + xs.length ≤ 64 := by omega
  have e := segRow_splice c f t xs hc hx
  rw [u8s_len] at e ⊢
  refine h _ ?_ ?_
  · have := setRow_heap W p _ ((segRow c f t).take t ++ (u8s xs ++ (segRow c f t).drop (t + xs.length))).toArray 65 (0, 0) hin
    unfold SegIn
    rw [← e]
    exact this
  · exact ⟨rfl, rfl, rfl, by simp [World.setRow], fun i hi hne => setRow_other W p i _ hne⟩

/-- A ring whose last segment has room (it may be empty). -/
structure RingLast (w : World) (rb mb : Nat) (nn : Nat) (F : Nat → Prop) (A : Option Addr) (cap : Nat) (a : List Seg) (s : Seg) : Prop where
  row : w.heap[rb]? = some (.cells #[ptr mb, .slice A (a.length + 1) cap, .int .i64 (nn : Int)] 61 (0, 0))
  segs : SegsAt w A cap (a.map Seg.b ++ [s.b])
  each : ∀ x ∈ a, x.Ok ∧ SegIn w x
  last : SegIn w s
  len : s.c.length = 64
  ft : s.f ≤ s.t
  room : s.t < 64
  nodup : (a.map Seg.b ++ [s.b]).Nodup
  own : F rb
  ownA : ∀ i, ablock A i → F i
  ownS : ∀ x ∈ a, F x.b
  ownL : F s.b
  lt : ∀ i, F i → i < w.heap.size

theorem RingRaw.last {w : World} {rb mb nn : Nat} {F : Nat → Prop} {A : Option Addr} {cap : Nat} {a : List Seg} {s : Seg} (h : RingRaw w rb mb nn F A cap (a ++ [s])) (hr : s.t < 64) : RingLast w rb mb nn F A cap a s := by
  have hs := h.each s (by simp)
  refine ⟨?_, ?_, fun x hx => h.each x (by simp [hx]), hs.2, hs.1.len, Nat.le_of_lt hs.1.ft, hr, ?_, h.own, h.ownA, fun x hx => h.ownS x (by simp [hx]), h.ownS s (by simp), h.lt⟩
  · have := h.row; rwa [List.length_append] at this
  · have := h.segs; rwa [List.map_append] at this
  · have := h.nodup; rwa [List.map_append] at this

theorem RingLast.done {w w' : World} {rb mb nn : Nat} {F : Nat → Prop} {A : Option Addr} {cap : Nat} {a : List Seg} {s s' : Seg} (h : RingLast w rb mb nn F A cap a s) (o : Only (· = s.b) w w') (hb : s'.b = s.b) (hok : s'.Ok) (hin : SegIn w' s') : RingRaw w' rb mb nn F A cap (a ++ [s']) := by
  have n1 : rb ≠ s.b := ty_ne h.row h.last (by decide)
  have hnd : ∀ x ∈ a, x.b ≠ s.b := by
    have := h.nodup
    rw [List.nodup_append] at this
    intro x hx e
    exact this.2.2 _ (List.mem_map_of_mem hx) _ (by simp) e
  refine ⟨?_, ?_, ?_, ?_, h.own, h.ownA, ?_, fun i hi => Nat.lt_of_lt_of_le (h.lt i hi) o.size⟩
  · rw [List.length_append]; exact o.keep h.row n1
  · rw [List.map_append]
    show SegsAt w' A cap (a.map Seg.b ++ [s'.b])
    rw [hb]
    refine h.segs.keep o (fun i hi e => ?_)
    rcases h.segs with ⟨rfl, _, _⟩ | ⟨g, off, cur, rfl, hg, _⟩
    · exact hi
    · have e1 : g = i := hi
      exact ty_ne hg h.last (by decide) (e1.trans e)
  · intro x hx
    rcases List.mem_append.1 hx with hx | hx
    · exact ⟨(h.each x hx).1, (h.each x hx).2.keep o (hnd x hx)⟩
    · simp at hx; subst hx; exact ⟨hok, hin⟩
  · rw [List.map_append]
    show (a.map Seg.b ++ [s'.b]).Nodup
    rw [hb]; exact h.nodup
  · intro x hx
    rcases List.mem_append.1 hx with hx | hx
    · exact h.ownS x hx
    · simp at hx; subst hx; rw [hb]; exact h.ownL

theorem RingLast.same {w w' : World} {rb mb nn : Nat} {F : Nat → Prop} {A : Option Addr} {cap : Nat} {a : List Seg} {s : Seg} (h : RingLast w rb mb nn F A cap a s) (o : Only (fun _ => False) w w') : RingLast w' rb mb nn F A cap a s :=
  ⟨o.keep h.row (fun e => e), h.segs.keep o (fun _ _ e => e), fun x hx => ⟨(h.each x hx).1, (h.each x hx).2.keep o (fun e => e)⟩, h.last.keep o (fun e => e), h.len, h.ft, h.room, h.nodup, h.own, h.ownA, h.ownS, h.ownL, fun i hi => Nat.lt_of_lt_of_le (h.lt i hi) o.size⟩

/-- A new segment behind. -/
theorem RingRaw.fresh {w w2 w' : World} {rb mb nn : Nat} {F : Nat → Prop} {A A' : Option Addr} {cap cap' p : Nat} {ss : List Seg} {c : List Int} (h : RingRaw w rb mb nn F A cap ss) (hc : c.length = 64)
    (o : Only (fun i => ablock A i ∨ i = rb) w w') (hp : w.heap.size ≤ p) (hlast : SegIn w' ⟨p, c, 0, 0⟩) (o2 : Only (· = rb) w2 w') (hsegs : SegsAt w2 A' cap' (ss.map Seg.b ++ [p])) (hA : ∀ i, ablock A' i → ablock A i ∨ w.heap.size ≤ i)
    (hrow : w'.heap[rb]? = some (.cells #[ptr mb, .slice A' (ss.length + 1) cap', .int .i64 (nn : Int)] 61 (0, 0))) :
    RingLast w' rb mb nn (fun i => F i ∨ i = p ∨ ablock A' i) A' cap' ss ⟨p, c, 0, 0⟩ := by
  have hsz := o.size
  have hsegs' : SegsAt w' A' cap' (ss.map Seg.b ++ [p]) := hsegs.keep o2 (fun i hi e => by
    rcases hA i hi with h1 | h1
    · rcases h.segs with ⟨rfl, _, _⟩ | ⟨g, off, cur, rfl, hg, _⟩
      · exact h1
      · have e1 : g = i := h1
        exact ty_ne hg h.row (by decide) (e1.trans e)
    · have := h.lt _ h.own
      omega)
  refine ⟨hrow, hsegs', fun x hx => ?_, hlast, hc, Nat.le_refl _, by show 0 < 64; omega, ?_, .inl h.own, fun i hi => .inr (.inr hi), fun x hx => .inl (h.ownS x hx), .inr (.inl rfl), fun i hi => ?_⟩
  · have := h.each x hx
    refine ⟨this.1, this.2.keep o (fun e => ?_)⟩
    rcases e with e | e
    · rcases h.segs with ⟨rfl, _, _⟩ | ⟨g, off, cur, rfl, hg, _⟩
      · exact e
      · have e1 : g = x.b := e
        exact ty_ne hg this.2 (by decide) e1
    · exact ty_ne this.2 h.row (by decide) e
  · rw [List.nodup_append]
    refine ⟨h.nodup, by simp, fun x hx y hy e => ?_⟩
    simp at hy
    obtain ⟨s, hs, rfl⟩ := List.mem_map.1 hx
    have := h.lt _ (h.ownS s hs)
    omega
  · rcases hi with hi | rfl | hi
    · exact Nat.lt_of_lt_of_le (h.lt i hi) hsz
    · exact b_lt hlast
    · rcases hsegs' with ⟨rfl, _, _⟩ | ⟨g, off, cur, rfl, hg, _⟩
      · exact hi.elim
      · have e1 : g = i := hi
        subst e1
        exact b_lt hg

/-- The cells of a segment that has just been made. -/
def ZS : Array Value := (segRow (List.replicate 64 0) 0 0).toArray
theorem zeroSeg (W : World) : (zeroValue 65).run Try.prog W = .ok (.agg ZS) W := by kernel_rfl
theorem new2 (w : World) (o1 o2 : Obj) : ((w.alloc o1).alloc o2).heap[w.heap.size + 1]? = some o2 := by
  have := b_new (w.alloc o1) o2
  rwa [World.size_alloc] at this

theorem RingRaw.arb {w : World} {rb mb nn : Nat} {F : Nat → Prop} {A : Option Addr} {cap : Nat} {ss : List Seg} (h : RingRaw w rb mb nn F A cap ss) : ¬ ablock A rb := by
  intro hi
  rcases h.segs with ⟨rfl, _, _⟩ | ⟨g, off, cur, rfl, hg, _⟩
  · exact hi
  · exact ty_ne hg h.row (by decide) hi
/-- Nonempty segments are no more than bytes. -/
theorem segs_le (ss : List Seg) (hs : ∀ s ∈ ss, s.Ok) : ss.length ≤ (liveAll ss).length := by
  induction ss with
  | nil => simp
  | cons s r ih =>
    have h1 := ih (fun x hx => hs x (by simp [hx]))
    have h2 := hs s (by simp)
    show r.length + 1 ≤ (s.live ++ liveAll r).length
    rw [List.length_append, live_len h2.len h2.t64]
    have := h2.ft
    omega

/-- The rest of a slice. -/
def dropA (A : Option Addr) (cap k : Nat) : Option Addr := if cap = k then A else A.map (·.add k)
theorem dropA_block {A : Option Addr} {c k : Nat} {a : Addr} (h : dropA A c k = some a) : ∃ a', A = some a' ∧ a'.block = a.block := by
  unfold dropA at h
  split at h
  · exact ⟨a, h, rfl⟩
  · obtain ⟨a', ha, rfl⟩ := Option.map_eq_some_iff.1 h
    refine ⟨a', ha, ?_⟩
    unfold Addr.add
    split <;> rfl
theorem elem22 : Try.prog.elem 22 = 5 := by simp [Program.elem, Try.underlying22]
theorem cut_drop (A : Option Addr) (n c k : Nat) (h : k ≤ n) (W : World) :
    (Instr.slice 22 (.slice A n c) (some (.int .i64 (k : Int))) none none).run Try.prog W = .ok (.slice (dropA A c k) (n - k) (c - k)) W := by
  have ht : Try.prog.underlying 22 = some (.slice (Try.prog.elem 22)) := by rw [elem22, Try.underlying22]
  rw [run_slice_l (P := Try.prog) W 22 A n c ht .i64 (k : Int) (by omega) (by omega), elem22, size5]
  simp only [Result.andThen, sliced, dropA, Int.toNat_natCast, Nat.mul_one]
theorem cut_drop' (A : Option Addr) (n c k : Nat) (h : k ≤ n) (W : World) :
    (Instr.sliceAt 22 (.slice A n c) (some (.int .i64 (k : Int))) none none).run Try.prog W = .ok (.slice (dropA A c k) (n - k) (c - k)) W := by
  have ht : Try.prog.underlying 22 = some (.slice (Try.prog.elem 22)) := by rw [elem22, Try.underlying22]
  rw [run_sliceAt_slice W 22 _ _ _ _ ht]
  exact cut_drop A n c k h W
theorem elems_drop {w : World} {A : Option Addr} {n c k : Nat} {V : Nat → Value} (h : Elems w A n V) (hk : k ≤ n) (hc : n ≤ c) : Elems w (dropA A c k) (n - k) (fun i => V (k + i)) := by
  intro hp
  obtain ⟨b, off, rfl, hb, hcell⟩ := h (by omega)
  refine ⟨b, off + k, ?_, hb, fun j hj => ?_⟩
  · unfold dropA
    rw [if_neg (by omega)]
    simp [Go.WideShapes.add_plain]
  · rw [Nat.add_assoc]; exact hcell (k + j) (by omega)
end Go.Proofs.Ytcehabcbmhjcmaa
