/-
  The walk of BucketPlays.
-/
import Derived.Test.YtegpabajbmgpjaaFullW
import Derived.Test.YtegpabajbmgpjaaB
import Derived.Test.YtegpabajbmgpjaaS
import Derived.LoopTactic
import Derived.Deep.RegionHeld3
namespace Go.Proofs.Ytegpabajbmgpjaa
open Go.RowKit

/-- The reference's bucket in block b. -/
def Mk (w : World) (b : Nat) (r u t a : Int) : Prop := w.heap[b]? = some (.cells #[.int .i64 r, .int .i64 u, .int .i64 t, .int .i64 a] 27 (0, 0))

/-- The script's elements: three cells each. -/
def Ops (w : World) (A : Option Addr) (n : Nat) (at_ ns : Nat → Int) (lk : Nat → Bool) : Prop :=
  0 < n → ∃ b off, A = some ⟨b, off, none⟩ ∧ b < w.heap.size ∧ ∀ j, j < n → w.cell? ⟨b, off + j * 3, none⟩ = some (.int .i64 (at_ j)) ∧ w.cell? ⟨b, off + j * 3 + 1, none⟩ = some (.int .i64 (ns j)) ∧ w.cell? ⟨b, off + j * 3 + 2, none⟩ = some (.bool (lk j))

/-- The script's element in hand, in block b. -/
def Ow (w : World) (b : Nat) (now n : Int) (q : Bool) : Prop := w.heap[b]? = some (.cells #[.int .i64 now, .int .i64 n, .bool q] 30 (0, 0))
theorem Mk.cells {w : World} {b : Nat} {r u t a : Int} (h : Mk w b r u t a) : w.cell? ⟨b, 0, none⟩ = some (.int .i64 r) ∧ w.cell? ⟨b, 1, none⟩ = some (.int .i64 u) ∧ w.cell? ⟨b, 2, none⟩ = some (.int .i64 t) ∧ w.cell? ⟨b, 3, none⟩ = some (.int .i64 a) := ⟨b_cell h 0, b_cell h 1, b_cell h 2, b_cell h 3⟩
theorem Mk.frees {w : World} {b : Nat} {r u t a : Int} (h : Mk w b r u t a) : w.frozen? ⟨b, 0, none⟩ = false ∧ w.frozen? ⟨b, 1, none⟩ = false ∧ w.frozen? ⟨b, 2, none⟩ = false ∧ w.frozen? ⟨b, 3, none⟩ = false := ⟨b_free h 0, b_free h 1, b_free h 2, b_free h 3⟩
theorem Ow.cells {w : World} {b : Nat} {now n : Int} {q : Bool} (h : Ow w b now n q) : w.cell? ⟨b, 0, none⟩ = some (.int .i64 now) ∧ w.cell? ⟨b, 1, none⟩ = some (.int .i64 n) ∧ w.cell? ⟨b, 2, none⟩ = some (.bool q) := ⟨b_cell h 0, b_cell h 1, b_cell h 2⟩
theorem Mk.put {w : World} {b : Nat} {r u t a : Int} (h : Mk w b r u t a) (r' u' t' a' : Int) : Mk ((((w.setCell ⟨b, 0, none⟩ (.int .i64 r')).setCell ⟨b, 1, none⟩ (.int .i64 u')).setCell ⟨b, 2, none⟩ (.int .i64 t')).setCell ⟨b, 3, none⟩ (.int .i64 a')) b r' u' t' a' :=
  b_set (b_set (b_set (b_set h 0 _) 1 _) 2 _) 3 _
theorem far4 {w : World} {g b : Nat} {o : Obj} (h : w.heap[g]? = some o) (hne : g ≠ b) (x y z v : Value) : ((((w.setCell ⟨b, 0, none⟩ x).setCell ⟨b, 1, none⟩ y).setCell ⟨b, 2, none⟩ z).setCell ⟨b, 3, none⟩ v).heap[g]? = some o :=
  b_far (b_far (b_far (b_far h hne _) hne _) hne _) hne _
theorem below4 {B : Nat} {a w : World} {b : Nat} (h : Below B a w) (hp : B ≤ b) (x y z v : Value) : Below B a ((((w.setCell ⟨b, 0, none⟩ x).setCell ⟨b, 1, none⟩ y).setCell ⟨b, 2, none⟩ z).setCell ⟨b, 3, none⟩ v) := st _ _ (st _ _ (st _ _ (st _ _ h hp _) hp _) hp _) hp _

/-- Tokens, with two cells elsewhere that read as before. -/
theorem tokens_h (b : Nat) (r u t a now t' a' : Int) (w : World) (h : Hid (Bk w b r u t a)) (o : Ok r u t a) (e : tokOf r u t a now = t' ∧ nowOf a now = a') (p1 p2 : Addr) (v1 v2 : Value) (n1 : p1.block ≠ b) (n2 : p2.block ≠ b)
    (c1 : w.cell? p1 = some v1) (c2 : w.cell? p2 = some v2) :
    Calls Try.prog 11 #[.pointer (some ⟨b, 0, none⟩), .int .i64 now] w fun e w' => e = .returned (.int .i64 t') ∧ Hid (Bk w' b r u t' a') ∧ Only (· = b) w w' ∧ w'.cell? p1 = some v1 ∧ w'.cell? p2 = some v2 :=
  (tokens_d b r u t a now t' a' w h o e).mono fun _ _ ⟨h1, h2, h3⟩ => ⟨h1, h2, h3, (h3.cell (World.block_lt_of_cell? w _ c1) n1).trans c1, (h3.cell (World.block_lt_of_cell? w _ c2) n2).trans c2⟩

theorem tok_again {r u t a now : Int} (o : Ok r u t (nowOf a now)) : tokOf r u t (nowOf a now) now = t ∧ nowOf (nowOf a now) now = nowOf a now := by
  by_cases h : now ≤ nowOf a now
  · exact tok_same o h
  · have e : nowOf (nowOf a now) now = nowOf a now := by unfold nowOf at h ⊢; omega
    obtain ⟨h1, h2, h3, h4, h5, h6, h7, h8⟩ := o
    refine ⟨?_, e⟩
    unfold tokOf
    rw [e, Int.sub_self, Int.mul_zero]
    omega
/-- Take, with three cells elsewhere that read as before. -/
theorem take_h (b : Nat) (r u t a now n t' a' : Int) (q : Bool) (w : World) (h : Hid (Bk w b r u t a)) (o : Ok r u t a) (e : tookB r u t a now n = q ∧ tookOf r u t a now n = t' ∧ nowOf a now = a') (p1 p2 p3 : Addr) (v1 v2 v3 : Value) (n1 : p1.block ≠ b) (n2 : p2.block ≠ b) (n3 : p3.block ≠ b)
    (c1 : w.cell? p1 = some v1) (c2 : w.cell? p2 = some v2) (c3 : w.cell? p3 = some v3) :
    Calls Try.prog 13 #[.pointer (some ⟨b, 0, none⟩), .int .i64 now, .int .i64 n] w fun e w' => e = .returned (.bool q) ∧ Hid (Bk w' b r u t' a') ∧ Only (· = b) w w' ∧ w'.cell? p1 = some v1 ∧ w'.cell? p2 = some v2 ∧ w'.cell? p3 = some v3 :=
  (take_d b r u t a now n t' a' q w h o e).mono fun _ _ ⟨h1, h2, h3⟩ => ⟨h1, h2, h3, (h3.cell (World.block_lt_of_cell? w _ c1) n1).trans c1, (h3.cell (World.block_lt_of_cell? w _ c2) n2).trans c2, (h3.cell (World.block_lt_of_cell? w _ c3) n3).trans c3⟩
/-- Tokens, with three cells elsewhere. -/
theorem tokens_h3 (b : Nat) (r u t a now t' a' : Int) (w : World) (h : Hid (Bk w b r u t a)) (o : Ok r u t a) (e : tokOf r u t a now = t' ∧ nowOf a now = a') (p1 p2 p3 : Addr) (v1 v2 v3 : Value) (n1 : p1.block ≠ b) (n2 : p2.block ≠ b) (n3 : p3.block ≠ b)
    (c1 : w.cell? p1 = some v1) (c2 : w.cell? p2 = some v2) (c3 : w.cell? p3 = some v3) :
    Calls Try.prog 11 #[.pointer (some ⟨b, 0, none⟩), .int .i64 now] w fun e w' => e = .returned (.int .i64 t') ∧ Hid (Bk w' b r u t' a') ∧ Only (· = b) w w' ∧ w'.cell? p1 = some v1 ∧ w'.cell? p2 = some v2 ∧ w'.cell? p3 = some v3 :=
  (tokens_d b r u t a now t' a' w h o e).mono fun _ _ ⟨h1, h2, h3⟩ => ⟨h1, h2, h3, (h3.cell (World.block_lt_of_cell? w _ c1) n1).trans c1, (h3.cell (World.block_lt_of_cell? w _ c2) n2).trans c2, (h3.cell (World.block_lt_of_cell? w _ c3) n3).trans c3⟩

set_option maxHeartbeats 1000000 in
theorem plays_walk (a0 a1 : Int) (A : Option Addr) (len cap : Nat) (at_ ns : Nat → Int) (lk : Nat → Bool) (w0 : Int64 a0) (w1 : Int64 a1) (w : World) (hlc : len ≤ cap) (hcm : cap ≤ maxLen) (hel : Ops w A cap at_ ns lk) :
    Calls Try.prog 3 #[.int .i64 a0, .int .i64 a1, .slice A len cap] w fun e w' => e = .returned (.bool true) ∧ Below w.heap.size w w' := by
  obtain ⟨p0, q0⟩ := w0
  obtain ⟨p1, q1⟩ := w1
  unfold maxLen at hcm
  have HE := hid hel
  clear hel
  go_enter Try.func3, Try.ntmps3
  go_wp2_with fail
  refine (new_any a0 a1 _ p0 q0 p1 q1).mono ?_
  rintro e w1 ⟨rfl, rfl⟩
  have H0 : Hid (Bk (w.alloc (.cells #[.int .i64 (clip a0), .int .i64 (clip a1), .int .i64 (clip a1), .int .i64 0] 43)) w.heap.size (clip a0) (clip a1) (clip a1) 0) := b_new w _
  have l0 := (Below.refl w.heap.size w).alloc (Nat.le_refl _) (.cells #[.int .i64 (clip a0), .int .i64 (clip a1), .int .i64 (clip a1), .int .i64 0] 43)
  have ob := ok_new a0 a1
  generalize (w.alloc (.cells #[.int .i64 (clip a0), .int .i64 (clip a1), .int .i64 (clip a1), .int .i64 0] 43)) = w1 at *
  go_wp2_with fail
  refine (alive_any _).mono ?_
  rintro e w2 ⟨rfl, l1⟩
  have H1 := hid (show Bk w2 _ _ _ _ _ from b_below l1 H0.out (b_lt H0.out))
  have l2 := l0.trans (l1.mono l0.size)
  clear l1 l0 H0
  go_wp2_with fail
  refine (refNew_any a0 a1 _).mono ?_
  rintro e w3 ⟨rfl, l3⟩
  have H2 := hid (show Bk w3 _ _ _ _ _ from b_below l3 H1.out (b_lt H1.out))
  have l4 := l2.trans (l3.mono l2.size)
  clear l3 l2 H1
  unfold Agg
  go_upto_region 5 with (fail)
  have M0 := hid (show Mk _ _ _ _ _ _ from b_new w3 (.cells #[.int .i64 (clip a0), .int .i64 (clip a1), .int .i64 (clip a1), .int .i64 0] 27))
  have H3 := hid (show Bk _ _ _ _ _ _ from b_alloc H2.out (.cells #[.int .i64 (clip a0), .int .i64 (clip a1), .int .i64 (clip a1), .int .i64 0] 27))
  have l5 := l4.alloc l4.size (.cells #[.int .i64 (clip a0), .int .i64 (clip a1), .int .i64 (clip a1), .int .i64 0] 27)
  have hne : w.heap.size < w3.heap.size := b_lt H2.out
  obtain ⟨mb, hmb⟩ : ∃ mb, mb = w3.heap.size := ⟨_, rfl⟩
  rw [← hmb] at M0 hne ⊢
  clear hmb l4 H2
  generalize (w3.alloc (.cells #[.int .i64 (clip a0), .int .i64 (clip a1), .int .i64 (clip a1), .int .i64 0] 27)) = w4 at *
  generalize clip a0 = r at *
  generalize clip a1 = u at *
  go_wp2_with fail
  go_loopw [27] (fun i wr => ∃ (k : Nat) (t a : Int), k ≤ len ∧ i = .int .i64 (k : Int) ∧ Ok r u t a ∧ Hid (Bk wr w.heap.size r u t a) ∧ Hid (Mk wr mb r u t a) ∧ Below w.heap.size w wr) (fun i _ => len - (intOf i).toNat)
  case atStart =>
    exact ⟨0, _, _, Nat.zero_le _, rfl, ob, H3, M0, l5⟩
  case round =>
    obtain ⟨k, t, a, hk, rfl, ok, HB, HM, hl⟩ := hrel
    by_cases hlt : k < len
    · obtain ⟨sb, soff, rfl, hsl, hcell⟩ := HE.out (by omega)
      obtain ⟨e0, e1, e2⟩ := hcell k (by omega)
      have c0 := (hl.cell (p := ⟨sb, soff + k * 3, none⟩) hsl).trans e0
      have c1 := (hl.cell (p := ⟨sb, soff + k * 3 + 1, none⟩) hsl).trans e1
      have c2 := (hl.cell (p := ⟨sb, soff + k * 3 + 2, none⟩) hsl).trans e2
      clear e0 e1 e2 hcell
      go_upto_region 8 with (fail)
      generalize at_ k = now at *
      generalize ns k = n at *
      generalize lk k = q at *
      clear c0 c1 c2
      have HO := hid (show Ow _ _ _ _ _ from b_new wr (.cells #[.int .i64 now, .int .i64 n, .bool q] 30))
      have HB1 := hid (show Bk _ _ _ _ _ _ from b_alloc HB.out (.cells #[.int .i64 now, .int .i64 n, .bool q] 30))
      have HM1 := hid (show Mk _ _ _ _ _ _ from b_alloc HM.out (.cells #[.int .i64 now, .int .i64 n, .bool q] 30))
      have l6 := hl.alloc hl.size (.cells #[.int .i64 now, .int .i64 n, .bool q] 30)
      have hm1 : mb < wr.heap.size := b_lt HM.out
      have hm2 : w.heap.size < wr.heap.size := b_lt HB.out
      obtain ⟨o, hob⟩ : ∃ o, o = wr.heap.size := ⟨_, rfl⟩
      rw [← hob] at HO hm1 hm2 ⊢
      clear hob hl HB HM
      generalize (wr.alloc (.cells #[.int .i64 now, .int .i64 n, .bool q] 30)) = w5 at *
      obtain ⟨c0, c1, c2⟩ := HO.out.cells
      obtain ⟨m0, m1, m2, m3⟩ := HM1.out.cells
      have okn := ok_next ok now
      cases q with
      | true =>
        go_wp2_with fail
        refine (refFill_any r u t a now _ ok).mono ?_
        rintro e w6 ⟨rfl, l7⟩
        clear c0 c1 c2 m0 m1 m2 m3
        have HO2 := hid (show Ow w6 _ _ _ _ from b_below l7 HO.out (b_lt HO.out))
        have HB2 := hid (show Bk w6 _ _ _ _ _ from b_below l7 HB1.out (b_lt HB1.out))
        have HM2 := hid (show Mk w6 _ _ _ _ _ from b_below l7 HM1.out (b_lt HM1.out))
        have l8 := l6.trans (l7.mono l6.size)
        clear l7 l6 HO HB1 HM1
        obtain ⟨m0, m1, m2, m3⟩ := HM2.out.cells
        obtain ⟨f0, f1, f2, f3⟩ := HM2.out.frees
        unfold Agg
        go_upto_region 10 with (fail)
        clear m0 m1 m2 m3 f0 f1 f2 f3
        refine fold (F := fun W' => Hid (Ow W' o now n true) ∧ Hid (Bk W' w.heap.size r u t a) ∧ Hid (Mk W' mb r u (tokOf r u t a now) (nowOf a now)) ∧ Below w.heap.size w W') ⟨far4 HO2.out (by omega) _ _ _ _, far4 HB2.out (by omega) _ _ _ _, HM2.out.put _ _ _ _, below4 l8 (by omega) _ _ _ _⟩ ?_
        clear HO2 HB2 HM2 l8
        rintro w7 ⟨HO, HB, HM, hl⟩
        obtain ⟨c0, c1, c2⟩ := HO.out.cells
        obtain ⟨m0, m1, m2, m3⟩ := HM.out.cells
        go_region_held3 (fun w' => w'.cell? ⟨o, 0, none⟩ = some (.int .i64 now) ∧ w'.cell? ⟨mb, 2, none⟩ = some (.int .i64 (tokOf r u t a now))) (go_keep)
          (first | (go_at_call 11; refine (tokens_h _ r u t a now (tokOf r u t a now) (nowOf a now) _ (by exact HB) ok ⟨rfl, rfl⟩ ⟨o, 0, none⟩ ⟨mb, 2, none⟩ (.int .i64 now) (.int .i64 (tokOf r u t a now)) (by simp; omega) (by simp; omega) (by simp [*]) (by simp [*])).mono ?_; rintro e w8 ⟨rfl, HB8, o8, d0, d2⟩))
        clear d0 d2 c0 c1 c2 m0 m1 m2 m3
        have HM8 := hid (show Mk w8 _ _ _ _ _ from o8.keep HM.out (by omega))
        have l9 := below_only (bl_drew hl) o8 (Nat.le_refl _) (Nat.le_refl _)
        clear HO HB HM hl o8
        go_wp2_with fail
        go_roundw
        case rel => exact ⟨k + 1, _, _, by omega, by go_num, okn, HB8, HM8, l9⟩
        case measure => simp [intOf]; omega
      | false =>
        have okt := ok_took ok now n
        go_wp2_with fail
        refine (refTake_any r u t a now n _ ok).mono ?_
        rintro e w6 ⟨rfl, l7⟩
        clear c0 c1 c2 m0 m1 m2 m3
        have HO2 := hid (show Ow w6 _ _ _ _ from b_below l7 HO.out (b_lt HO.out))
        have HB2 := hid (show Bk w6 _ _ _ _ _ from b_below l7 HB1.out (b_lt HB1.out))
        have HM2 := hid (show Mk w6 _ _ _ _ _ from b_below l7 HM1.out (b_lt HM1.out))
        have l8 := l6.trans (l7.mono l6.size)
        clear l7 l6 HO HB1 HM1
        unfold Agg
        generalize hq : tookB r u t a now n = q
        have HQ := hid hq
        clear hq
        go_upto_region 13 with (fail)
        have HO3 := hid (show Ow _ _ _ _ _ from b_alloc HO2.out (.cells #[.int .i64 r, .int .i64 u, .int .i64 (tookOf r u t a now n), .int .i64 (nowOf a now)] 27))
        have HB3 := hid (show Bk _ _ _ _ _ _ from b_alloc HB2.out (.cells #[.int .i64 r, .int .i64 u, .int .i64 (tookOf r u t a now n), .int .i64 (nowOf a now)] 27))
        have HM3 := hid (show Mk _ _ _ _ _ _ from b_alloc HM2.out (.cells #[.int .i64 r, .int .i64 u, .int .i64 (tookOf r u t a now n), .int .i64 (nowOf a now)] 27))
        have HX3 := hid (show Mk _ _ _ _ _ _ from b_new w6 (.cells #[.int .i64 r, .int .i64 u, .int .i64 (tookOf r u t a now n), .int .i64 (nowOf a now)] 27))
        have l9 := l8.alloc l8.size (.cells #[.int .i64 r, .int .i64 u, .int .i64 (tookOf r u t a now n), .int .i64 (nowOf a now)] 27)
        clear HO2 HB2 HM2 l8
        generalize (w6.alloc (.cells #[.int .i64 r, .int .i64 u, .int .i64 (tookOf r u t a now n), .int .i64 (nowOf a now)] 27)) = w7 at *
        obtain ⟨m0, m1, m2, m3⟩ := HM3.out.cells
        obtain ⟨f0, f1, f2, f3⟩ := HM3.out.frees
        obtain ⟨x0, x1, x2, x3⟩ := HX3.out.cells
        go_upto_region 14 with (fail)
        clear m0 m1 m2 m3 f0 f1 f2 f3 x0 x1 x2 x3
        refine fold (F := fun W' => Hid (Ow W' o now n false) ∧ Hid (Bk W' w.heap.size r u t a) ∧ Hid (Mk W' mb r u (tookOf r u t a now n) (nowOf a now)) ∧ Below w.heap.size w W') ⟨far4 HO3.out (by omega) _ _ _ _, far4 HB3.out (by omega) _ _ _ _, HM3.out.put _ _ _ _, below4 l9 (by omega) _ _ _ _⟩ ?_
        clear HO3 HB3 HM3 HX3 l9
        rintro w8 ⟨HO, HB, HM, hl⟩
        obtain ⟨c0, c1, c2⟩ := HO.out.cells
        obtain ⟨m0, m1, m2, m3⟩ := HM.out.cells
        have hqq : (q != q) = false := bne_self_eq_false q
        go_region_held3 (fun w' => w'.cell? ⟨o, 0, none⟩ = some (.int .i64 now) ∧ w'.cell? ⟨o, 1, none⟩ = some (.int .i64 n) ∧ w'.cell? ⟨mb, 2, none⟩ = some (.int .i64 (tookOf r u t a now n))) (go_keep)
          (first | (go_at_call 13; refine (take_h _ r u t a now n (tookOf r u t a now n) (nowOf a now) q _ (by exact HB) ok ⟨HQ.out, rfl, rfl⟩ ⟨o, 0, none⟩ ⟨o, 1, none⟩ ⟨mb, 2, none⟩ (.int .i64 now) (.int .i64 n) (.int .i64 (tookOf r u t a now n)) (by simp; omega) (by simp; omega) (by simp; omega) (by simp [*]) (by simp [*]) (by simp [*])).mono ?_; rintro e w9 ⟨rfl, HB9, o9, d0, d1, d2⟩) | (go_at_call 11; refine (tokens_h3 _ r u (tookOf r u t a now n) (nowOf a now) now (tookOf r u t a now n) (nowOf a now) _ (by exact HB9) okt (tok_again okt) ⟨o, 0, none⟩ ⟨o, 1, none⟩ ⟨mb, 2, none⟩ (.int .i64 now) (.int .i64 n) (.int .i64 (tookOf r u t a now n)) (by simp; omega) (by simp; omega) (by simp; omega) (by simp [*]) (by simp [*]) (by simp [*])).mono ?_; rintro e w10 ⟨rfl, HB10, o10, g0, g1, g2⟩))
        clear d0 d1 d2 g0 g1 g2 c0 c1 c2 m0 m1 m2 m3 hqq
        have HM9 := hid (show Mk w9 _ _ _ _ _ from o9.keep HM.out (by omega))
        have HM10 := hid (show Mk w10 _ _ _ _ _ from o10.keep HM9.out (by omega))
        have l10 := below_only (below_only (bl_drew hl) o9 (Nat.le_refl _) (Nat.le_refl _)) o10 (Nat.le_refl _) (Nat.le_refl _)
        clear HO HB HM hl o9 o10 HB9 HM9
        go_wp2_with fail
        go_roundw
        case rel => exact ⟨k + 1, _, _, by omega, by go_num, okt, HB10, HM10, l10⟩
        case measure => simp [intOf]; omega
    · go_wp2_with fail
      go_ret
      exact ⟨rfl, hl⟩

section
open Go.ChangeShapes Go.WideShapes Go.Deep
variable {H : Type} {enc : TypeId × Value → H} {w : World} {base : Nat} {held : Bool}
theorem open_ops {v : Value} {d : DataW H} {p : List MemPlace} {b0 : Nat} {rc : Reach} (y : Value.okWide Try.prog w rc b0 22 v) (r : DataW.Trod enc Try.prog w base (fun _ => true) held 22 v d p) :
    ∃ (A : Option Addr) (n c : Nat) (at_ ns : Nat → Int) (lk : Nat → Bool), v = .slice A n c ∧ n ≤ c ∧ c ≤ maxLen ∧ Ops w A c at_ ns lk := by
  obtain ⟨A, n, c, V, rfl, h1, h2, _, h4, h5⟩ := open_structs Try.underlying22 Try.underlying30 (by kernel_rfl) (by kernel_rfl) (by decide) y r
  obtain ⟨f0, e0, _⟩ := pick_int (V := fun i => V i 0) Try.underlying2 (fun i hi => h5 i 0 _ hi rfl)
  obtain ⟨f1, e1, _⟩ := pick_int (V := fun i => V i 1) Try.underlying3 (fun i hi => h5 i 1 _ hi rfl)
  obtain ⟨f2, e2⟩ := pick_bool (V := fun i => V i 2) Try.underlying4 (fun i hi => h5 i 2 _ hi rfl)
  refine ⟨A, n, c, f0, f1, f2, rfl, h1, h2, fun h0 => ?_⟩
  obtain ⟨b, off, rfl, hb, hc⟩ := h4 h0
  refine ⟨b, off, rfl, hb, fun j hj => ⟨?_, ?_, ?_⟩⟩
  · rw [← e0 j hj]; exact hc j 0 hj (by decide)
  · rw [← e1 j hj]; exact hc j 1 hj (by decide)
  · rw [← e2 j hj]; exact hc j 2 hj (by decide)
end
end Go.Proofs.Ytegpabajbmgpjaa
