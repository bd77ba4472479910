/-
  Flows: IndexFunc, DeleteFunc, Delete; the place of the next flow.
-/
import Derived.Test.YtpblgjadpfecgaaGreatDoorFp
import Derived.Deep.RegionLaw
set_option linter.unusedSimpArgs false
set_option linter.unusedVariables false
namespace Go.Proofs.YtpblgjadpfecgaaGreatDoor
open Go.RowKit

set_option maxHeartbeats 1000000 in
/-- The first flow that wants nothing. -/
theorem index_zero (A : Option Addr) (n c : Nat) (l : List (Nat × Nat)) (w : World) (hl : l.length = n) (hR : Row w A (gV l)) (hn : n ≤ 1000) (hc : n ≤ c) :
    Calls Tryz.prog 198 #[.slice A n c, .func (.func 197) #[] #[]] w fun e w' => ∃ v : Int, e = .returned (.int .i64 v) ∧ ((v = -1 ∧ ∀ p ∈ l, 0 < p.2) ∨ ∃ k : Nat, v = (k : Int) ∧ k < n ∧ (∀ p ∈ l.take k, 0 < p.2) ∧ ∃ p, l[k]? = some p ∧ p.2 = 0) ∧ Only (fun _ => False) w w' := by
  replace hl := hid hl
  go_enter Tryz.func198, Tryz.ntmps198
  go_wp2_with fail
  go_loopw [8] (fun iv wr => ∃ i : Nat, i ≤ n ∧ iv = .int .i64 (i : Int) ∧ Hid (∀ p ∈ l.take i, 0 < p.2) ∧ Only (fun _ => False) w wr) (fun iv _ => n - (intOf iv).toNat)
  case atStart => exact ⟨0, by omega, rfl, hid (fun p hp => by simp at hp), Only.refl _ _⟩
  case round =>
    obtain ⟨i, hi, rfl, hall, O⟩ := hrel
    by_cases hlt : i < n
    · obtain ⟨p, hp⟩ : ∃ p, l[i]? = some p := ⟨_, List.getElem?_eq_getElem (by rw [hl.out]; exact hlt)⟩
      obtain ⟨b, off, rfl, hbl, c0, c1⟩ := flow_at (hR.same O) i p hp
      have hno := fun W => none_any p.1 p.2 W
      have hin : (i : Int) < n := by omega
      replace hno := hid hno
      replace hp := hid hp
      go_wp2_with fail
      refine (hno.out _).mono ?_
      rintro e w2 ⟨rfl, O2⟩
      by_cases hz : p.2 = 0
      · have hzb : decide (p.2 = 0) = true := decide_eq_true hz
        go_wp2_with fail
        go_ret
        exact ⟨(i : Int), rfl, .inr ⟨i, rfl, hlt, hall.out, p, hp.out, hz⟩, O.trans O2⟩
      · have hzb : decide (p.2 = 0) = false := decide_eq_false hz
        have hall' : Hid (∀ r ∈ l.take (i + 1), 0 < r.2) := hid (fun r hr => by
          rw [List.take_add_one, hp.out] at hr
          simp only [Option.toList_some, List.mem_append, List.mem_singleton] at hr
          rcases hr with hr | rfl
          · exact hall.out r hr
          · omega)
        replace hz := hid hz
        go_wp2_with fail
        go_roundw
        case rel => exact ⟨i + 1, by omega, by simp, hall', O.trans O2⟩
        case measure => simp [intOf]; omega
    · have hie : decide ((i : Int) < n) = false := decide_eq_false (by omega)
      go_wp2_with fail
      go_ret
      exact ⟨-1, rfl, .inl ⟨rfl, fun p hp => hall.out p (by rw [List.take_of_length_le (by rw [hl.out]; omega)]; exact hp)⟩, O⟩

/-- What DeleteFunc has made so far: j looked at, i kept; the row holds cl. -/
structure Kept (l cl : List (Nat × Nat)) (i j : Nat) : Prop where
  len : cl.length = l.length
  pre : cl.take i = (l.take j).filter (fun p => 0 < p.2)
  suf : cl.drop j = l.drop j
  ij : i < j
  jn : j ≤ l.length
theorem filter_all (l : List (Nat × Nat)) (h : ∀ p ∈ l, 0 < p.2) : l.filter (fun p => 0 < p.2) = l := List.filter_eq_self.2 (fun p hp => by simpa using h p hp)
theorem Kept.start {l : List (Nat × Nat)} {k : Nat} {p : Nat × Nat} (hk : ∀ r ∈ l.take k, 0 < r.2) (hp : l[k]? = some p) (hz : p.2 = 0) : Kept l l k (k + 1) := by
  refine ⟨rfl, ?_, rfl, by omega, by have := (List.getElem?_eq_some_iff.1 hp).1; omega⟩
  rw [List.take_add_one, hp, List.filter_append, filter_all _ hk]
  simp [hz]
theorem Kept.ilen {l cl : List (Nat × Nat)} {i j : Nat} (h : Kept l cl i j) : ((l.take j).filter (fun p => 0 < p.2)).length = i := by
  rw [← h.pre, List.length_take]
  have := h.len; have := h.ij; have := h.jn
  omega
theorem Kept.at_ {l cl : List (Nat × Nat)} {i j : Nat} (h : Kept l cl i j) : cl[j]? = l[j]? := by
  have := congrArg (fun (x : List (Nat × Nat)) => x[0]?) h.suf
  simpa [List.getElem?_drop] using this
theorem Kept.skip {l cl : List (Nat × Nat)} {i j : Nat} {p : Nat × Nat} (h : Kept l cl i j) (hp : l[j]? = some p) (hz : p.2 = 0) : Kept l cl i (j + 1) := by
  refine ⟨h.len, ?_, ?_, by have := h.ij; omega, by have := (List.getElem?_eq_some_iff.1 hp).1; omega⟩
  · rw [List.take_add_one, hp, List.filter_append, ← h.pre]
    simp [hz]
  · have := congrArg (List.drop 1) h.suf
    simpa [List.drop_drop, Nat.add_comm] using this
theorem Kept.keep {l cl : List (Nat × Nat)} {i j : Nat} {p : Nat × Nat} (h : Kept l cl i j) (hp : l[j]? = some p) (hz : 0 < p.2) : Kept l (cl.set i p) (i + 1) (j + 1) := by
  have hj := (List.getElem?_eq_some_iff.1 hp).1
  have hil : i < cl.length := by have := h.len; have := h.ij; omega
  refine ⟨by rw [List.length_set]; exact h.len, ?_, ?_, by have := h.ij; omega, by omega⟩
  · rw [List.take_add_one (l := l), hp, List.filter_append, ← h.pre, List.take_add_one, List.getElem?_set_self hil, List.take_set_of_le (Nat.le_refl _)]
    simp [hz]
  · rw [List.drop_set_of_lt (by have := h.ij; omega)]
    have := congrArg (List.drop 1) h.suf
    simpa [List.drop_drop, Nat.add_comm] using this

set_option maxRecDepth 100000 in
set_option maxHeartbeats 4000000 in
/-- Flows that want nothing are struck. -/
theorem delete_zero (g n c : Nat) (l : List (Nat × Nat)) (w : World) (hl : l.length = n) (hF : FR w g c l) (hn : n ≤ 1000) :
    Calls Tryz.prog 196 #[.slice (some ⟨g, 0, none⟩) n c, .func (.func 197) #[] #[]] w fun e w' => e = .returned (.slice (some ⟨g, 0, none⟩) (l.filter (fun p => 0 < p.2)).length c) ∧ FR w' g c (l.filter (fun p => 0 < p.2)) ∧ Only (· = g) w w' := by
  have hc := hF.le
  rw [hl] at hc
  have hix := index_zero (some ⟨g, 0, none⟩) n c l w hl hF.row hn hc
  replace hix := hid hix
  replace hl := hid hl
  replace hF := hid hF
  go_enter Tryz.func196, Tryz.ntmps196
  go_wp2_with fail
  refine hix.out.mono ?_
  rintro e w1 ⟨v, rfl, hv, O1⟩
  rcases hv with ⟨rfl, hall⟩ | ⟨k, rfl, hk, hpre, p0, hp0, hz0⟩
  · replace hall := hid hall
    go_wp2_with fail
    go_ret
    rw [filter_all l hall.out]
    exact ⟨by rw [hl.out]; rfl, hF.out.same O1, O1.mono (fun _ h => h.elim)⟩
  have K0 := Kept.start hpre hp0 hz0
  have hk1 : ((k : Int) == -1) = false := by rw [beq_eq_false_iff_ne]; omega
  replace K0 := hid K0
  replace hpre := hid hpre
  replace hp0 := hid hp0
  replace hz0 := hid hz0
  go_wp2_with fail
  go_loopw [5, 6] (fun iv jv wr => ∃ (i j : Nat) (cl : List (Nat × Nat)), iv = .int .i64 (i : Int) ∧ jv = .int .i64 (j : Int) ∧ Hid (Kept l cl i j) ∧ FR wr g c cl ∧ Only (· = g) w wr) (fun _ jv _ => n - (intOf jv).toNat)
  case atStart => exact ⟨k, k + 1, l, rfl, by simp, K0, hF.out.same O1, O1.mono (fun _ h => h.elim)⟩
  case round =>
    obtain ⟨i, j, cl, rfl, rfl, K, F, O⟩ := hrel
    have hjn := K.out.jn
    have hij := K.out.ij
    rw [hl.out] at hjn
    by_cases hlt : j < n
    · obtain ⟨p, hp⟩ : ∃ p, l[j]? = some p := ⟨_, List.getElem?_eq_getElem (by rw [hl.out]; exact hlt)⟩
      obtain ⟨c0, c1⟩ := F.flow j p (by rw [K.out.at_]; exact hp)
      have hno := fun W => none_any p.1 p.2 W
      have hjn' : (j : Int) < n := by omega
      have hin' : (i : Int) < n := by omega
      have hcl : cl.length = n := by rw [K.out.len]; exact hl.out
      obtain ⟨q, hq⟩ : ∃ q, cl[i]? = some q := ⟨_, List.getElem?_eq_getElem (by omega)⟩
      replace hno := hid hno
      replace hp := hid hp
      replace hq := hid hq
      replace hcl := hid hcl
      go_wp2_with fail
      refine (hno.out _).mono ?_
      rintro e w2 ⟨rfl, O2⟩
      have O2' := ((Only.refl (fun _ => False) wr).alloc (.cells #[.int .i64 (p.1 : Int), .int .i64 (p.2 : Int)] 174)).trans O2
      have V2 := O2.keep (b_new wr (.cells #[.int .i64 (p.1 : Int), .int .i64 (p.2 : Int)] 174)) (fun h => h)
      have v0 : w2.cell? ⟨wr.heap.size, 0, none⟩ = some (.int .i64 (p.1 : Int)) := b_cell V2 0
      have v1 : w2.cell? ⟨wr.heap.size, 1, none⟩ = some (.int .i64 (p.2 : Int)) := b_cell V2 1
      have F2 := F.same O2'
      have On := O.trans (O2'.mono (T := (· = g)) (fun _ h => h.elim))
      replace V2 := hid V2
      clear c0 c1
      by_cases hz : p.2 = 0
      · have hzb : decide (p.2 = 0) = true := decide_eq_true hz
        have K2 := hid (K.out.skip hp.out hz)
        replace hz := hid hz
        go_wp2_with fail
        go_roundw
        case rel => exact ⟨i, j + 1, cl, rfl, by simp, K2, F2, On⟩
        case measure => simp [intOf]; omega
      · have hzb : decide (p.2 = 0) = false := decide_eq_false hz
        have K2 := hid (K.out.keep hp.out (by omega))
        have F3 := F2.set2 i q p hq.out
        obtain ⟨d0, d1⟩ := F2.flow i q hq.out
        have f0 := (F2.room (i * 2) (by omega)).2
        have f1 := (F2.room (i * 2 + 1) (by omega)).2
        have hne : wr.heap.size ≠ g := by have := F.lt; omega
        replace hz := hid hz
        go_wp2_with fail
        go_roundw
        case rel => exact ⟨i + 1, j + 1, cl.set i p, by simp, by simp, K2, F3, (On.setCell (p := ⟨g, i * 2, none⟩) (.inl rfl) _).setCell (p := ⟨g, i * 2 + 1, none⟩) (.inl rfl) _⟩
        case measure => simp [intOf]; omega
    · obtain rfl : j = n := by omega
      have hie : decide ((j : Int) < j) = false := decide_eq_false (by omega)
      have hres : (l.filter (fun p => 0 < p.2)) = cl.take i := by
        rw [K.out.pre, List.take_of_length_le (by rw [hl.out]; omega)]
      have hcl : cl.length = j := by rw [K.out.len]; exact hl.out
      have hcut := fun W => fl_l' (some ⟨g, 0, none⟩) j c i (by omega) W
      rw [dropG_some g c i (by omega)] at hcut
      have hcut2 := fun W => fl_h' (some ⟨g, 0, none⟩) j c i (by omega) W
      have hclr := fun ty => clear_flow wr ty g (i * 2) (j - i) (c - i) (by omega) (fun t ht => F.room (i * 2 + t) (by omega))
      have F4 : FR (wr.setCells g (i * 2) (List.replicate ((j - i) * 2) (.int .i64 0))) g c (cl.take i) := by
        refine F.write _ _ (by rw [List.length_take]; have := F.le; omega) (by rw [List.length_replicate]; omega) (fun t u h1 h2 hu => ?_) (fun t u h hu => ?_)
        · have := (List.getElem?_eq_some_iff.1 hu).1
          rw [gV_len, List.length_take] at this
          omega
        · have e : gV cl = gV (cl.take i) ++ gV (cl.drop i) := by rw [← gV_app, List.take_append_drop]
          rw [e, List.getElem?_append_left (List.getElem?_eq_some_iff.1 hu).1]
          exact hu
      have O4 := O.trans (only_sc (S := (· = g)) g rfl (List.replicate ((j - i) * 2) (.int .i64 0)) (i * 2) wr)
      have hlen : (cl.take i).length = i := by rw [List.length_take]; omega
      replace hres := hid hres
      replace F4 := hid F4
      replace O4 := hid O4
      replace hlen := hid hlen
      replace hcl := hid hcl
      generalize wr.setCells g (i * 2) (List.replicate ((j - i) * 2) (.int .i64 0)) = w4 at hclr F4 O4
      go_wp2_with fail
      go_ret
      rw [hres.out, hlen.out]
      exact ⟨rfl, F4.out, O4.out⟩
end Go.Proofs.YtpblgjadpfecgaaGreatDoor
/-
  Robin: the next flow; one flow is struck; the flows of a round.
-/
namespace Go.Proofs.YtpblgjadpfecgaaGreatDoor
open Go.RowKit

theorem info_flow2 : ∃ i, Tryz.prog.info? 174 = some i ∧ i.size = 2 := by
  obtain ⟨i0, hi, _, hz1, _⟩ := info_split info_flow
  exact ⟨i0, hi, hz1⟩

set_option maxRecDepth 100000 in
set_option maxHeartbeats 2000000 in
/-- One flow is struck. -/
theorem delete_one (g n c i : Nat) (l : List (Nat × Nat)) (w : World) (hl : l.length = n) (hF : FR w g c l) (hi : i < n) (hn : n ≤ 1000) :
    Calls Tryz.prog 132 #[.slice (some ⟨g, 0, none⟩) n c, .int .i64 (i : Int), .int .i64 ((i : Int) + 1)] w fun e w' => e = .returned (.slice (some ⟨g, 0, none⟩) (n - 1) c) ∧ FR w' g c (l.take i ++ l.drop (i + 1)) ∧ Only (· = g) w w' := by
  have hc := hF.le
  rw [hl] at hc
  have hs1 := fun W => fl_lhm' (some ⟨g, 0, none⟩) n c i (i + 1) n (by omega) (by omega) hc W
  have hs2 := fun W => fl_h' (some ⟨g, 0, none⟩) n c i (by omega) W
  have hs3 := fun W => fl_l' (some ⟨g, 0, none⟩) n c (i + 1) (by omega) W
  obtain ⟨ad, had, hadk⟩ := dropG_ex g c (i + 1)
  rw [had] at hs3
  simp only [Int.natCast_add, Int.cast_ofNat_Int] at hs1 hs3
  have hieq : ((i : Int) == (i : Int) + 1) = false := by rw [beq_eq_false_iff_ne]; omega
  obtain ⟨i0, hi0, hz1⟩ := info_flow2
  obtain ⟨news, hnews⟩ : ∃ news, gV (l.drop (i + 1)) = news := ⟨_, rfl⟩
  have hnl : news.length = (n - (i + 1)) * 2 := by rw [← hnews, gV_len, List.length_drop, hl]
  have hncell : ∀ j u, news[j]? = some u → w.drew.cell? (ad.add j) = some u := fun j u hu => by
    have hlt := (List.getElem?_eq_some_iff.1 hu).1
    rw [hadk (by omega), Go.WideShapes.add_plain]
    show w.cell? _ = _
    refine hF.at_ _ _ ?_
    have e : gV l = gV (l.take (i + 1)) ++ gV (l.drop (i + 1)) := by rw [← gV_app, List.take_append_drop]
    rw [e, List.getElem?_append_right (by rw [gV_len, List.length_take]; omega), gV_len, List.length_take, hnews, show (i + 1) * 2 + j - min (i + 1) l.length * 2 = j by rw [Nat.min_eq_left (by omega)]; omega]
    exact hu
  have hn1 : ∀ u ∈ news, u.oneCell' = true := by rw [← hnews]; exact gV_one _
  have hroom : ∀ j, j < news.length → (w.drew.cell? ⟨g, 0 + i * 2 + j, none⟩).isSome = true ∧ w.drew.frozen? ⟨g, 0 + i * 2 + j, none⟩ = false := fun j hj => by
    rw [Nat.zero_add]
    exact hF.room _ (by omega)
  have hlen' : (l.take i ++ l.drop (i + 1)).length = n - 1 := by
    rw [List.length_append, List.length_take, List.length_drop]; omega
  have F5 : FR (w.drew.setCells g (0 + i * 2) news) g c (l.take i ++ l.drop (i + 1)) := by
    rw [Nat.zero_add]
    refine (hF.same ((Only.refl (fun _ => False) w).drew)).write (i * 2) news (by omega) (by omega) (fun j u h1 h2 hu => ?_) (fun j u hj hu => ?_)
    · rw [gV_app, List.getElem?_append_right (by rw [gV_len, List.length_take]; omega), gV_len, List.length_take, hnews, Nat.min_eq_left (by omega)] at hu
      exact hu
    · rcases hj with hj | hj
      · rw [gV_app, List.getElem?_append_left (by rw [gV_len, List.length_take]; omega)] at hu
        have e : gV l = gV (l.take i) ++ gV (l.drop i) := by rw [← gV_app, List.take_append_drop]
        rw [e, List.getElem?_append_left (by rw [gV_len, List.length_take]; omega)]
        exact hu
      · have := (List.getElem?_eq_some_iff.1 hu).1
        rw [gV_len] at this
        omega
  have O5 : Only (· = g) w (w.drew.setCells g (0 + i * 2) news) := ((Only.refl (· = g) w).drew).trans (only_sc (S := (· = g)) g rfl news _ _)
  have hnn : i + (n - (i + 1)) = n - 1 := by omega
  have hs4 := fun W => fl_lh' (some ⟨g, 0, none⟩) (n - 1) c (n - 1) n (by omega) hc W
  rw [dropG_some g c (n - 1) (by omega), show n - (n - 1) = 1 by omega] at hs4
  have hclr := fun (W : World) (h : FR W g c (l.take i ++ l.drop (i + 1))) ty => clear_flow W ty g ((n - 1) * 2) 1 (c - (n - 1)) (by omega) (fun t ht => h.room _ (by omega))
  have F6 : ∀ W, FR W g c (l.take i ++ l.drop (i + 1)) → FR (W.setCells g ((n - 1) * 2) (List.replicate (1 * 2) (.int .i64 0))) g c (l.take i ++ l.drop (i + 1)) := fun W h => by
    refine h.write _ _ h.le (by rw [List.length_replicate]; omega) (fun t u h1 h2 hu => ?_) (fun t u _ hu => hu)
    have := (List.getElem?_eq_some_iff.1 hu).1
    rw [gV_len, hlen'] at this
    omega
  replace hl := hid hl
  replace hF := hid hF
  replace hadk := hid hadk
  replace had := hid had
  replace hnews := hid hnews
  replace hncell := hid hncell
  replace hn1 := hid hn1
  replace hroom := hid hroom
  replace hlen' := hid hlen'
  replace F5 := hid F5
  replace O5 := hid O5
  replace F6 := hid F6
  replace hclr := hid hclr
  go_enter Tryz.func132, Tryz.ntmps132
  go_wp2_with fail
  go_upto_region 5 with (fail)
  go_region_law (refine step_append_room rfl (.tmp 22) (.tmp 25) 172 rfl 174 i0 2 Tryz.underlying172 hi0 hz1 g 0 i c (by rfl) ad (n - (i + 1)) (c - (i + 1)) news (by rfl) hnl hncell.out hn1.out (by omega) hroom.out ?_)
  all_goals
    simp only [Nat.zero_add] at F5 O5
    generalize w.drew.setCells g (i * 2) news = w5 at F5 O5 ⊢
    have hcl := hclr.out w5 F5.out
    have F7 := F6.out w5 F5.out
    have O7 := only_sc (S := (· = g)) g rfl (List.replicate (1 * 2) (.int .i64 0)) ((n - 1) * 2) w5
    generalize w5.setCells g ((n - 1) * 2) (List.replicate (1 * 2) (.int .i64 0)) = w7 at hcl F7 O7
    go_wp2_with fail
    go_ret
    exact ⟨rfl, F7, O5.out.trans O7⟩
end Go.Proofs.YtpblgjadpfecgaaGreatDoor
/-
  Robin: a round.
-/
namespace Go.Proofs.YtpblgjadpfecgaaGreatDoor
open Go.RowKit

/-- The robin's row. -/
def RbAt (w : World) (rb : Nat) (q cr last : Int) (any : Bool) : Prop := w.heap[rb]? = some (.cells #[.int .i64 q, .int .i64 cr, .int .i64 last, .bool any] 120 (0, 0))
theorem RbAt.cells {w : World} {rb : Nat} {q cr last : Int} {any : Bool} (h : RbAt w rb q cr last any) : w.cell? ⟨rb, 0, none⟩ = some (.int .i64 q) ∧ w.cell? ⟨rb, 1, none⟩ = some (.int .i64 cr) ∧ w.cell? ⟨rb, 2, none⟩ = some (.int .i64 last) ∧ w.cell? ⟨rb, 3, none⟩ = some (.bool any) := ⟨b_cell h 0, b_cell h 1, b_cell h 2, b_cell h 3⟩

theorem next1_any (a x : Nat) (bx rb : Nat) (q cr last : Int) (any : Bool) (w : World) (hr : RbAt w rb q cr last any) (hb : w.cell? ⟨bx, 0, none⟩ = some (.pointer (some ⟨rb, 0, none⟩))) :
    Calls Tryz.prog 199 #[.agg #[.int .i64 (a : Int), .int .i64 (x : Int)], .pointer (some ⟨bx, 0, none⟩)] w fun e w' => ∃ b, e = .returned (.bool b) ∧ Only (fun _ => False) w w' := by
  obtain ⟨r0, r1, r2, r3⟩ := hr.cells
  have hrl := b_lt hr
  have hbl := cell_lt0 hb
  have hne : bx ≠ w.heap.size := by have : bx < w.heap.size := hbl; omega
  have hne2 : rb ≠ w.heap.size := by omega
  obtain ⟨w1, hw1⟩ : ∃ w1, w.alloc (.cells #[.int .i64 (a : Int), .int .i64 (x : Int)] 174) = w1 := ⟨_, rfl⟩
  have O1 : Only (fun _ => False) w w1 := by rw [← hw1]; exact (Only.refl _ w).alloc _
  have V1 : w1.heap[w.heap.size]? = some (.cells #[.int .i64 (a : Int), .int .i64 (x : Int)] 174 (0, 0)) := by rw [← hw1]; exact b_new _ _
  have v0 : w1.cell? ⟨w.heap.size, 0, none⟩ = some (.int .i64 (a : Int)) := b_cell V1 0
  replace r2 := (O1.cell (p := ⟨rb, 2, none⟩) hrl (fun h => h)).trans r2
  replace r3 := (O1.cell (p := ⟨rb, 3, none⟩) hrl (fun h => h)).trans r3
  replace hb := (O1.cell (p := ⟨bx, 0, none⟩) hbl (fun h => h)).trans hb
  obtain ⟨g, hg⟩ : ∃ g, w.heap.size = g := ⟨_, rfl⟩
  rw [hg] at v0
  clear hr r0 r1 V1 hbl hrl hne hne2
  cases any with
  | false =>
    go_enter Tryz.func199, Tryz.ntmps199
    go_upto_region 1 with (fail)
    clear hw1 hg
    go_region
    go_wp2_with fail
    go_ret
    exact ⟨_, rfl, O1.drew⟩
  | true =>
    go_enter Tryz.func199, Tryz.ntmps199
    go_upto_region 1 with (fail)
    clear hw1 hg
    go_region_held3 (fun w' => w'.cell? ⟨bx, 0, none⟩ = some (.pointer (some ⟨rb, 0, none⟩)) ∧ w'.cell? ⟨rb, 3, none⟩ = some (.bool true) ∧ w'.cell? ⟨rb, 2, none⟩ = some (.int .i64 last) ∧ w'.cell? ⟨g, 0, none⟩ = some (.int .i64 (a : Int))) (go_keep) (fail)
    go_wp2_with fail
    go_ret
    exact ⟨_, rfl, O1.drew⟩

set_option maxHeartbeats 1000000 in
theorem index_next (A : Option Addr) (n c : Nat) (l : List (Nat × Nat)) (bx rb : Nat) (q cr last : Int) (any : Bool) (w : World) (hl : l.length = n) (hR : Row w A (gV l)) (hn : n ≤ 1000) (hc : n ≤ c) (hr : RbAt w rb q cr last any) (hb : w.cell? ⟨bx, 0, none⟩ = some (.pointer (some ⟨rb, 0, none⟩))) :
    Calls Tryz.prog 198 #[.slice A n c, .func (.func 199) #[] #[.pointer (some ⟨bx, 0, none⟩)]] w fun e w' => ∃ v : Int, e = .returned (.int .i64 v) ∧ -1 ≤ v ∧ v < n ∧ Only (fun _ => False) w w' := by
  have hbl := cell_lt0 hb
  replace hl := hid hl
  replace hr := hid hr
  replace hb := hid hb
  go_enter Tryz.func198, Tryz.ntmps198
  go_wp2_with fail
  go_loopw [8] (fun iv wr => ∃ i : Nat, i ≤ n ∧ iv = .int .i64 (i : Int) ∧ Only (fun _ => False) w wr) (fun iv _ => n - (intOf iv).toNat)
  case atStart => exact ⟨0, by omega, rfl, Only.refl _ _⟩
  case round =>
    obtain ⟨i, hi, rfl, O⟩ := hrel
    by_cases hlt : i < n
    · obtain ⟨p, hp⟩ : ∃ p, l[i]? = some p := ⟨_, List.getElem?_eq_getElem (by rw [hl.out]; exact hlt)⟩
      obtain ⟨b, off, rfl, hbl', c0, c1⟩ := flow_at (hR.same O) i p hp
      have hin : (i : Int) < n := by omega
      have hno := next1_any p.1 p.2 bx rb q cr last any wr (O.keep hr.out (fun h => h)) ((O.cell (p := ⟨bx, 0, none⟩) hbl (fun h => h)).trans hb.out)
      replace hno := hid hno
      go_wp2_with fail
      refine hno.out.mono ?_
      rintro e w2 ⟨bb, rfl, O2⟩
      cases bb
      · go_wp2_with fail
        go_roundw
        case rel => exact ⟨i + 1, by omega, by simp, O.trans O2⟩
        case measure => simp [intOf]; omega
      · go_wp2_with fail
        go_ret
        exact ⟨(i : Int), rfl, by omega, hin, O.trans O2⟩
    · have hie : decide ((i : Int) < n) = false := decide_eq_false (by omega)
      go_wp2_with fail
      go_ret
      exact ⟨-1, rfl, by omega, by omega, O⟩

/-- The place of the next flow. -/
theorem next_any (g n c : Nat) (l : List (Nat × Nat)) (rb : Nat) (q cr last : Int) (any : Bool) (w : World) (hl : l.length = n) (hF : FR w g c l) (h0 : 0 < n) (hn : n ≤ 1000) (hr : RbAt w rb q cr last any) :
    Calls Tryz.prog 131 #[.pointer (some ⟨rb, 0, none⟩), .slice (some ⟨g, 0, none⟩) n c] w fun e w' => ∃ i : Nat, e = .returned (.int .i64 (i : Int)) ∧ i < n ∧ Only (fun _ => False) w w' := by
  have hc := hF.le
  rw [hl] at hc
  have O1 := (Only.refl (fun _ => False) w).alloc (.cells #[.pointer (some ⟨rb, 0, none⟩)] 61)
  have hix := index_next (some ⟨g, 0, none⟩) n c l w.heap.size rb q cr last any _ hl (hF.row.same O1) hn hc (O1.keep hr (fun h => h)) (b_cell (b_new w (.cells #[.pointer (some ⟨rb, 0, none⟩)] 61)) 0)
  replace hix := hid hix
  go_enter Tryz.func131, Tryz.ntmps131
  go_wp2_with fail
  refine hix.out.mono ?_
  rintro e w2 ⟨v, rfl, h1, h2, O2⟩
  obtain ⟨i, hi⟩ : ∃ i : Nat, max v 0 = (i : Int) := ⟨(max v 0).toNat, by omega⟩
  have hin : i < n := by omega
  go_wp2_with fail
  go_ret
  exact ⟨i, rfl, hin, O1.trans O2⟩

/-- The flows that want something. -/
theorem flows_any (A : Option Addr) (n c : Nat) (fs : List (Nat × Nat)) (w : World) (hl : fs.length = n) (hR : Row w A (gV fs)) (hnil : A = none → n = 0 ∧ c = 0) (hn : n < 20) (hu : Up fs) (hb : ∀ p ∈ fs, p.1 ≤ 1000000) :
    Calls Tryz.prog 130 #[.slice A n c] w fun e w' => ∃ A' c', e = .returned (.slice A' (fs.filter (fun p => 0 < p.2)).length c') ∧ ((∃ g, A' = some ⟨g, 0, none⟩ ∧ w.heap.size ≤ g ∧ FR w' g c' (fs.filter (fun p => 0 < p.2))) ∨ fs.filter (fun p => 0 < p.2) = []) ∧ Only (fun _ => False) w w' := by
  have hcl := clone_flow A n c fs w hl hR hnil (by omega)
  replace hcl := hid hcl
  replace hl := hid hl
  replace hu := hid hu
  replace hb := hid hb
  go_enter Tryz.func130, Tryz.ntmps130
  go_wp2_with fail
  refine hcl.out.mono ?_
  rintro e w1 ⟨A', c', rfl, HO, O1⟩
  have hcap := HO.cap.1
  rw [hl.out] at hcap
  have hst := stable_up A' n c' fs w1 hl.out HO.row hu.out hb.out hn hcap
  replace hst := hid hst
  go_wp2_with fail
  refine hst.out.mono ?_
  rintro e w2 ⟨rfl, O2⟩
  have HO2 := Own.same HO O2
  have hcm := compact_up A' n c' fs w2 hl.out HO2.row hu.out (by omega) hcap
  replace hcm := hid hcm
  replace HO2 := hid HO2
  clear HO hst hcl
  go_wp2_with fail
  refine hcm.out.mono ?_
  rintro e w3 ⟨rfl, O3⟩
  have HO3 := Own.same HO2.out O3
  have OO := (O1.trans O2).trans O3
  clear HO2 hcm
  cases fs with
  | nil =>
    have hn0 : n = 0 := hl.out.symm
    subst hn0
    have hdf : Calls Tryz.prog 196 #[.slice A' 0 c', .func (.func 197) #[] #[]] w3 fun e w' => e = .returned (.slice A' 0 c') ∧ Only (fun _ => False) w3 w' := by
      have hix := index_zero A' 0 c' [] w3 rfl (Row.nil _ _) (by omega) (by omega)
      replace hix := hid hix
      go_enter Tryz.func196, Tryz.ntmps196
      go_wp2_with fail
      refine hix.out.mono ?_
      rintro e w4 ⟨v, rfl, hv, O4⟩
      rcases hv with ⟨rfl, _⟩ | ⟨k, _, hk, _⟩
      · go_wp2_with fail
        go_ret
        exact ⟨rfl, O4⟩
      · omega
    replace hdf := hid hdf
    go_wp2_with fail
    refine hdf.out.mono ?_
    rintro e w4 ⟨rfl, O4⟩
    go_wp2_with fail
    go_ret
    exact ⟨A', c', rfl, .inr rfl, OO.trans O4⟩
  | cons p t =>
    obtain ⟨g, rfl, hg1, hg2⟩ := HO3.some_of (by simp)
    have F3 := OwnG.fr HO3
    have hdf := delete_zero g n c' (p :: t) w3 hl.out F3 (by omega)
    replace hdf := hid hdf
    go_wp2_with fail
    refine hdf.out.mono ?_
    rintro e w4 ⟨rfl, F4, O4⟩
    go_wp2_with fail
    go_ret
    exact ⟨_, c', rfl, .inl ⟨g, rfl, hg1, F4⟩, OO.trans' O4 (fun i hi => .inr (by omega))⟩
end Go.Proofs.YtpblgjadpfecgaaGreatDoor
