/-
  Request of the package scrub.
-/
import Derived.Test.YtafljoiblfhioaaGreatDoorSd
import Derived.Test.YtafljoiblfhioaaGreatDoorZd
import Derived.Deep.CutBlock
namespace Go.Proofs.YtafljoiblfhioaaGreatDoor
open Go.RowKit

theorem ret_fld {fn : Func} {R : Ending → World → Prop} {tmps : Array Value} {W : World} (hf : fn.results = #[.cell 2 39]) {g : Nat} {t : TypeId} {fr : Nat × Nat} {a b : Value}
    (hrow : W.heap[g]? = some (.cells #[a, b] t fr)) (h2 : tmps.getD 2 undef = .pointer (some ⟨g, 0, none⟩)) (hR : R (.returned (.agg #[a, b])) W) : bodyPost Tryz.prog fn R .ret ⟨tmps, []⟩ W :=
  bodyPost_ret (v := .agg #[a, b]) (results_cell_row hf tmps W g t _ fr _ h2 hrow Tryz.underlying39 rfl (by kernel_rfl)) rfl hR
theorem ret_req {fn : Func} {R : Ending → World → Prop} {tmps : Array Value} {W : World} {p : Tmp} (hf : fn.results = #[.cell p 33]) {g : Nat} {t : TypeId} {fr : Nat × Nat} {a b c d e : Value}
    (hrow : W.heap[g]? = some (.cells #[a, b, c, d, e] t fr)) (h2 : tmps.getD p undef = .pointer (some ⟨g, 0, none⟩)) (hR : R (.returned (.agg #[a, b, c, d, e])) W) : bodyPost Tryz.prog fn R .ret ⟨tmps, []⟩ W :=
  bodyPost_ret (v := .agg #[a, b, c, d, e]) (results_cell_row hf tmps W g t _ fr _ h2 hrow Tryz.underlying33 rfl (by kernel_rfl)) rfl hR

set_option maxRecDepth 100000 in
theorem slength_any (n : Nat) (hn : n ≤ 9223372036854775807) (w : World) (hG : Gl w) : Calls Tryz.prog 22 #[.int .i64 n] w fun e w' => e = .returned (.agg #[.string (B sCL), .string (B (Lib.decDigits n))]) ∧ Only (fun _ => False) w w' := by
  go_enter Tryz.func22, Tryz.ntmps22
  go_wp2_with fail
  have OA : Only (fun _ => False) w (w.alloc (.cells #[.string ⟨#[]⟩, .string ⟨#[]⟩] 39)) := (Only.refl _ w).alloc _
  refine (text_any n hn _ (hG.same OA)).mono ?_
  rintro e w1 ⟨rfl, O1⟩
  have hrow := O1.keep (b_new w (.cells #[.string ⟨#[]⟩, .string ⟨#[]⟩] 39)) (fun h => h)
  have O := OA.trans O1
  clear OA O1
  obtain ⟨c0, c1, f0, f1⟩ := cells2 hrow
  go_wp2_with fail
  exact ret_fld Tryz.results22 (set2_row hrow ..) rfl ⟨rfl, O.set2 (.inr (by omega)) ..⟩

/-- slices.Clone of texts. -/
theorem sclone_any (A : Option Addr) (n c : Nat) (ss : List (List UInt8)) (w : World) (hl : ss.length = n) (hR : Row w A (sV ss)) (hnil : A = none → n = 0) (hn : n ≤ 1000000000) :
    Calls Tryz.prog 19 #[.slice A n c] w fun e w' => ∃ A' c', e = .returned (.slice A' ss.length c') ∧ OwnS w' w.heap.size A' c' ss ∧ Only (fun _ => False) w w' := by
  subst hl
  cases A with
  | none =>
    obtain rfl : ss = [] := List.eq_nil_of_length_eq_zero (hnil rfl)
    refine (Tryz.slices_Clone_string_nil 0 c w).mono ?_
    rintro e w1 ⟨rfl, rfl⟩
    exact ⟨none, 0, rfl, Own.nil _ _ _ _, Only.refl _ _⟩
  | some a =>
    cases ss with
    | nil =>
      refine (Tryz.slices_Clone_string_zero a c w).mono ?_
      rintro e w1 ⟨v, rfl, hv, hne, hb⟩
      obtain ⟨hv0, hv | ⟨g, cap, cur, rfl, hg, hrow, h1, h2, h3, h4⟩⟩ := hv
      · exact absurd hv.1 hne
      · exact ⟨some ⟨g, 0, none⟩, cap, rfl, ⟨hv0, .inr ⟨g, cur, (0, 0), rfl, hg, hrow, .inr rfl, h1, h2, h3, h4⟩⟩, Only.of_below hb⟩
    | cons s t =>
      obtain ⟨b, off, e, _⟩ := hR (by simp [sV])
      cases e
      refine (Tryz.slices_Clone_string b off (s :: t).length c ((s :: t).map B) w (by simp) (by omega) (fun j hj => ?_)).mono ?_
      · have hj' : j < (s :: t).length := by simpa using hj
        obtain ⟨b', off', e, _, hc⟩ := str_at hR j _ (List.getElem?_eq_getElem hj')
        cases e
        rw [hc]
        congr 2
        rw [List.getD_eq_getElem?_getD, List.getElem?_map, List.getElem?_eq_getElem hj']
        rfl
      · rintro e w1 ⟨v, rfl, hv, hne, hb⟩
        have e1 : (((s :: t).map B).take (s :: t).length).map Value.string = sV (s :: t) := by
          rw [List.take_of_length_le (by simp), List.map_map]
          rfl
        rw [e1] at hv
        obtain ⟨hv0, hv | ⟨g, cap, cur, rfl, hg, hrow, h1, h2, h3, h4⟩⟩ := hv
        · exact absurd hv.1 hne
        · exact ⟨some ⟨g, 0, none⟩, cap, rfl, ⟨hv0, .inr ⟨g, cur, (0, 0), rfl, hg, hrow, .inr rfl, h1, h2, h3, h4⟩⟩, Only.of_below hb⟩

section
variable {ops : Array Oper} {rest : List Oper} {o : Oper} {a : Act} {Q : Exit → Act → World → Prop} {W : World}
/-- append(fs, gs...). -/
theorem app_ff (hgd : o.guard = none) (sl x : Operand) (ho : o.op = .call { callee := .builtin .append, args := #[sl, x], argTypes := #[25, 25] })
    (base n cap m c : Nat) (A S : Option Addr) (l r : List FD) (hl : l.length = n) (hr : r.length = m) (hs : a.eval sl = .slice A n cap) (hx : a.eval x = .slice S m c)
    (HO : OwnF W base A cap l) (HS : Row W S (fV r)) (hnil : S = none → m = 0 ∧ c = 0) (hbase : base ≤ W.heap.size) (hb : n + m ≤ 4398046511104)
    (h : ∀ A' cap' w1, Hid (OwnF w1 base A' cap' (l ++ r)) → Hid (∀ i, ab A' i → ab A i ∨ W.heap.size ≤ i) → Only (ab A) W w1 → wpList Tryz.prog ops Q rest (a.put o.dst (.slice A' (n + m) cap')) w1) :
    wpList Tryz.prog ops Q (o :: rest) a W := by
  subst hl hr
  refine app_rows hgd sl x 25 39 (.agg #[.string ⟨#[]⟩, .string ⟨#[]⟩]) 2 32 Tryz.underlying25 info_fld rfl (by omega) (by omega) ho base _ cap _ c A S _ _ hs hx HO HS (fV_len r) (fV_one r) hnil hbase (by omega) ?_
  intro A' cap' w1 h2 h3 h4
  refine h A' cap' w1 ?_ h3 h4
  unfold OwnF Hid
  rw [List.length_append, fV_app]
  exact h2
end

theorem cells8 {W : World} {g : Nat} {t : TypeId} {a b c d e f h i : Value} (H : W.heap[g]? = some (.cells #[a, b, c, d, e, f, h, i] t (0, 0))) : W.cell? ⟨g, 0, none⟩ = some a ∧ W.cell? ⟨g, 1, none⟩ = some b ∧ W.cell? ⟨g, 2, none⟩ = some c ∧ W.cell? ⟨g, 3, none⟩ = some d ∧ W.cell? ⟨g, 4, none⟩ = some e ∧ W.cell? ⟨g, 5, none⟩ = some f ∧ W.cell? ⟨g, 6, none⟩ = some h ∧ W.cell? ⟨g, 7, none⟩ = some i :=
  ⟨b_cell H 0, b_cell H 1, b_cell H 2, b_cell H 3, b_cell H 4, b_cell H 5, b_cell H 6, b_cell H 7⟩

/-- A call of a Go function with one argument, at a step of a region that draws its order; its result is whatever S says. -/
theorem step_callx {ops : Array Oper} {o : Oper} {a : Act} {W : World} {K : Act → World → Prop} {Q : Exit → Act → World → Prop} {E : Prop} (hgd : o.guard = none) (f : FuncId) (x : Operand) (ts : Array TypeId) (ho : o.op = .call { callee := .value (.func f), args := #[x], argTypes := ts })
    (he : ∀ args w, (callFunc f args).run Tryz.prog w = .ok (.enter f args) w) (v : Value) (hx : a.eval x = v) (S : Value → World → Prop) (hc : Calls Tryz.prog f #[v] W fun e w' => ∃ r, e = .returned r ∧ S r w') (h : ∀ r w', S r w' → K (a.put o.dst r) w') :
    if Region.wanted o (yielded ops a.tmps) = true then Oper.wp Tryz.prog o a W K Q else E := by
  have hw : Region.wanted o (yielded ops a.tmps) = true := by simp [Region.wanted, hgd]
  rw [if_pos hw]
  have hr : (execOp a.eval o).run Tryz.prog W = .ok (.enter f #[v]) W := by
    have hfn : a.eval (.func f) = .func (.func f) #[] #[] := rfl
    simp [execOp, ho, resolve, invoke, hfn, hx, Deferred.ofValue, he]
  unfold Oper.wp
  rw [hr, Oper.upon_enter]
  refine hc.mono ?_
  rintro e w' ⟨r, rfl, hs⟩
  exact h r w' hs
/-- What is left at the end, behind the store of the result. -/
theorem sreq_fin {w wz w10 : World} {AL A2 : Option Addr} {cL c2 : Nat} {L : List FD} {body : List UInt8} (hs : w.heap.size + 3 ≤ wz.heap.size) (OW : Only (fun _ => False) w wz) (O10 : Only (fun _ => False) wz w10)
    (HL : OwnF wz (w.heap.size + 3) AL cL L) (HB : OwnB w10 wz.heap.size A2 c2 body) (a b c d e : Value) (w11 : World)
    (h : w11 = (((((w10.setCell ⟨w.heap.size + 1 + 1, 0, none⟩ a).setCell ⟨w.heap.size + 1 + 1, 1, none⟩ b).setCell ⟨w.heap.size + 1 + 1, 2, none⟩ c).setCell ⟨w.heap.size + 1 + 1, 3, none⟩ d).setCell ⟨w.heap.size + 1 + 1, 4, none⟩ e)) :
    OwnF w11 w.heap.size AL cL L ∧ OwnB w11 w.heap.size A2 c2 body ∧ Only (fun _ => False) w w11 := by
  subst h
  have O := (Only.refl (fun i => i = w.heap.size + 1 + 1) w10).set5 (g := w.heap.size + 1 + 1) (.inl rfl) a b c d e
  have HL10 := Own.same HL O10
  refine ⟨Own.weak (Own.keep HL10 O (fun i hi => by have := (HL10.blk i hi).1; omega)) (by omega), Own.weak (Own.keep HB O (fun i hi => by have := (HB.blk i hi).1; omega)) (by omega), (OW.trans O10).set5 (.inr (by omega)) ..⟩

theorem three (w : World) (a b c : Obj) : ∃ w3, ((w.alloc a).alloc b).alloc c = w3 ∧ w3.heap[w.heap.size]? = some a ∧ w3.heap[w.heap.size + 1]? = some b ∧ w3.heap[w.heap.size + 1 + 1]? = some c ∧ Only (fun _ => False) w w3 ∧ w.heap.size + 3 ≤ w3.heap.size := by
  refine ⟨_, rfl, b_alloc (b_alloc (b_new w a) b) c, ?_, ?_, (((Only.refl _ w).alloc a).alloc b).alloc c, by simp⟩
  · have h := b_alloc (b_new (w.alloc a) b) c
    rw [show (w.alloc a).heap.size = w.heap.size + 1 by simp] at h
    exact h
  · have h := b_new ((w.alloc a).alloc b) c
    rw [show ((w.alloc a).alloc b).heap.size = w.heap.size + 1 + 1 by simp] at h
    exact h
theorem gone_take (set : List FD) (k : Nat) (p : FD) (hp : set[k]? = some p) : (set.take (k + 1)).map (·.1) = (set.take k).map (·.1) ++ [p.1] := by
  rw [List.take_add_one, hp]
  simp

set_option maxRecDepth 100000 in
set_option maxHeartbeats 2000000 in
theorem sreq_any (m t : ByteArray) (minor : Int) (fs : List FD) (AF : Option Addr) (cF : Nat) (body : List UInt8) (AB : Option Addr) (cB : Nat) (U R : Option Addr) (un uc rn rc : Nat) (set : List FD) (SA : Option Addr) (sc : Nat) (drop : List (List UInt8)) (DA : Option Addr) (dc : Nat) (t1 t2 t3 t4 : Int) (host target : ByteArray) (w : World)
    (hR : Row w AF (fV fs)) (hS : SmallF fs) (h48 : fs.length ≤ 1000) (hB : Bs w AB body.length cB body) (hb : body.length ≤ 1000000) (hT : Row w SA (fV set)) (hTn : SA = none → set.length = 0 ∧ sc = 0) (hT2 : SmallF set) (hT3 : set.length ≤ 1000)
    (hD : Row w DA (sV drop)) (hDn : DA = none → drop.length = 0) (hD2 : SmallS drop) (hD3 : drop.length ≤ 1000) (hG : Gl w) :
    Calls Tryz.prog 8 #[.agg #[.string m, .string t, .int .i64 minor, .slice AF fs.length cF, .slice AB body.length cB], .agg #[.slice U un uc, .slice R rn rc, .slice SA set.length sc, .slice DA drop.length dc, .int .i64 t1, .int .i64 t2, .int .i64 t3, .int .i64 t4], .string host, .string target] w fun e w' =>
      ∃ A' c' A2 c2, e = .returned (.agg #[.string m, .string target, .int .i64 1, .slice A' (scrubF m.data.toList fs body.length set drop host.data.toList).length c', .slice A2 body.length c2]) ∧
        OwnF w' w.heap.size A' c' (scrubF m.data.toList fs body.length set drop host.data.toList) ∧ OwnB w' w.heap.size A2 c2 body ∧ Only (fun _ => False) w w' := by
  go_enter Tryz.func8, Tryz.ntmps8
  go_upto_region 1 with (fail)
  obtain ⟨w3, e3, H0, H1, H2, O3, hs3⟩ := three w (.cells #[.string m, .string t, .int .i64 minor, .slice AF fs.length cF, .slice AB body.length cB] 33) (.cells #[.slice U un uc, .slice R rn rc, .slice SA set.length sc, .slice DA drop.length dc, .int .i64 t1, .int .i64 t2, .int .i64 t3, .int .i64 t4] 28) (.cells #[.string ⟨#[]⟩, .string ⟨#[]⟩, .int .i64 0, .slice none 0 0, .slice none 0 0] 33)
  rw [e3]
  clear e3
  obtain ⟨b0, b1, b2, b3, b4, b5, b6, b7⟩ := cells8 H1
  obtain ⟨nd, hnd⟩ : ∃ n, drop.length = n := ⟨_, rfl⟩
  obtain ⟨ns, hns⟩ : ∃ n, set.length = n := ⟨_, rfl⟩
  have hcl := sclone_any DA nd dc drop w3 hnd (hD.same O3) (by rw [← hnd]; exact hDn) (by omega)
  rw [hnd] at hcl H1 hD3 ⊢
  rw [hns] at H1 b2 hT3 hTn ⊢
  rw [hnd] at b3
  replace hnd := hid hnd
  replace hns := hid hns
  go_wp2_with fail
  refine hcl.mono ?_
  rintro e w4 ⟨A0, c0, rfl, HO0, O4⟩
  clear hcl b0 b1 b2 b3 b4 b5 b6 b7
  replace H0 := O4.keep H0 (fun h => h)
  replace H1 := O4.keep H1 (fun h => h)
  replace H2 := O4.keep H2 (fun h => h)
  have O34 := O3.trans O4
  have hs4 : w.heap.size + 3 ≤ w4.heap.size := Nat.le_trans hs3 O4.size
  replace HO0 := Own.weak HO0 hs3
  clear O3 O4 hs3
  obtain ⟨_, _, b2, _, _, _, _, _⟩ := cells8 H1
  have hd0 : Hid ((drop ++ (set.take 0).map (·.1)).length = nd) := hid (by rw [← hnd.out]; simp)
  have HO00 : OwnS w4 (w.heap.size + 3) A0 c0 (drop ++ (set.take 0).map (·.1)) := by
    rw [List.take_zero, List.map_nil, List.append_nil]
    exact HO0
  clear HO0
  go_wp2_with fail
  go_loopw [9, 19] (fun ov iv wr => ∃ (k m : Nat) (A' : Option Addr) (c' : Nat), k ≤ ns ∧ m ≤ 1000 + k ∧ ov = .slice A' m c' ∧ iv = .int .i64 (k : Int) ∧ Hid ((drop ++ (set.take k).map (·.1)).length = m) ∧ OwnS wr (w.heap.size + 3) A' c' (drop ++ (set.take k).map (·.1)) ∧ Only (fun _ => False) w wr ∧ Only (fun i => w.heap.size + 3 ≤ i) w4 wr) (fun _ iv _ => ns - (intOf iv).toNat)
  case atStart => exact ⟨0, nd, A0, c0, by omega, by omega, rfl, rfl, hd0, HO00, O34, Only.refl _ _⟩
  case round =>
    obtain ⟨k, l, A', c', hk, hl, rfl, rfl, hm, HO, OW, O⟩ := hrel
    have hws : w.heap.size + 3 ≤ wr.heap.size := Nat.le_trans hs4 O.size
    by_cases hlt : k < ns
    · obtain ⟨p, hp⟩ : ∃ p, set[k]? = some p := ⟨_, List.getElem?_eq_getElem (by rw [hns.out]; exact hlt)⟩
      obtain ⟨b, off, rfl, hb, c1, c2⟩ := fld_at (hT.same OW) k p hp
      have hgt := gone_take set k p hp
      have O1 : Only (fun _ => False) wr (wr.alloc (.cells #[.string (B p.1), .string (B p.2)] 39)) := (Only.refl _ wr).alloc _
      have HO1 := hid (Own.same HO O1)
      have hs1 := Nat.le_trans hws O1.size
      replace hgt := hid hgt
      replace hp := hid hp
      have hgt' : Hid (drop ++ (set.take (k + 1)).map (·.1) = (drop ++ (set.take k).map (·.1)) ++ [(B p.1).data.toList]) := hid (by rw [hgt.out, List.append_assoc])
      have HF := b_new wr (.cells #[.string (B p.1), .string (B p.2)] 39)
      go_upto_region 5 with (fail)
      generalize wr.alloc (.cells #[.string (B p.1), .string (B p.2)] 39) = w2 at *
      obtain ⟨d0, d1, _, _⟩ := cells2 HF
      go_wp2_with (first | (at_builtin; refine app_s rfl _ _ rfl (w.heap.size + 3) l c' A' _ (B p.1) hm.out rfl rfl HO1.out hs1 (by omega) ?_; intro A3 c3 w5 h3 h3' o3) | fail)
      have hbl := HO1.out.blk
      have O5 := (OW.trans O1).trans' o3 (fun i hi => .inr (by have := (hbl i hi).1; omega))
      have O6 := (O.trans' O1 (fun i hi => hi.elim)).trans' o3 (fun i hi => .inl (hbl i hi).1)
      go_roundw
      case rel => exact ⟨k + 1, l + 1, A3, c3, by omega, by omega, rfl, by simp, hid (by rw [hgt'.out, List.length_append, hm.out]; rfl), by rw [hgt'.out]; exact h3.out, O5, O6⟩
      case measure => simp [intOf]; omega
    · obtain rfl : k = ns := by omega
      have hfull : drop ++ (set.take k).map (·.1) = goneF set drop := by rw [List.take_of_length_le (by rw [hns.out]; exact Nat.le_refl _)]; rfl
      rw [hfull] at hm HO
      clear hfull
      have K0 := O.keep H0 (by omega)
      have K1 := O.keep H1 (by omega)
      have K2 := O.keep H2 (by omega)
      clear H0 H1 H2 O HO00 hd0 b2
      obtain ⟨⟨a0, a1, a2, a3, a4⟩, _⟩ := cells5 K0
      obtain ⟨_, _, b2, _, _, _, _, _⟩ := cells8 K1
      obtain ⟨nf, hnf⟩ : ∃ n, fs.length = n := ⟨_, rfl⟩
      have hon := fun W (o : Only (fun _ => False) w W) => onward_any fs AF cF W (hR.same o) hS h48 (hG.same o)
      rw [hnf] at a3 K0 hon ⊢
      replace hnf := hid hnf
      have a3' := b_cell' (b_alloc K0 (.cells #[.string ⟨#[72, 111, 115, 116]⟩, .string host] 39)) 3
      simp only [List.getElem?_toArray, List.getElem?_cons_zero, List.getElem?_cons_succ] at a3'
      clear a0 a1 a2 a3 a4 b2
      have OA := (Only.refl (fun _ => False) wr).alloc (.cells #[.string ⟨#[72, 111, 115, 116]⟩, .string host] 39)
      have HH := b_new wr (.cells #[.string ⟨#[72, 111, 115, 116]⟩, .string host] 39)
      have hon' := hon _ (OW.trans OA)
      clear hon
      obtain ⟨on, hone⟩ : ∃ x, onwardF fs = x := ⟨_, rfl⟩
      rw [hone] at hon'
      have honl : on.length ≤ 1000 := by rw [← hone]; exact Nat.le_trans (List.length_filter_le _ _) h48
      have honm : SmallF on := ⟨by omega, fun p hp => hS.2 p (by rw [← hone] at hp; exact (List.mem_filter.1 hp).1)⟩
      replace hone := hid hone
      obtain ⟨hh, hhe⟩ : ∃ x, wr.heap.size = x := ⟨_, rfl⟩
      rw [hhe] at HH hws
      go_wp2_with fail
      replace hhe := hid hhe
      refine hon'.mono ?_
      rintro e w5 ⟨A5, c5, rfl, HO5, O5⟩
      generalize hv : Value.slice (some ⟨hh, 0, none⟩) 1 1 = sv
      replace hv := hid hv
      replace HH := O5.keep HH (fun h => h)
      have OA5 := OA.trans O5
      replace K0 := OA5.keep K0 (fun h => h)
      replace K1 := OA5.keep K1 (fun h => h)
      replace K2 := OA5.keep K2 (fun h => h)
      have OW5 := OW.trans OA5
      have HG5 := Own.same HO OA5
      clear hon' a3' OA O5 HO OA5
      have HR5 : Row w5 A5 (fV on) := HO5.row
      have hgs : SmallS (goneF set drop) := by
        refine ⟨by unfold goneF; rw [List.length_append, List.length_map, hns.out, hnd.out]; omega, fun x hx => ?_⟩
        unfold goneF at hx
        rcases List.mem_append.1 hx with hx | hx
        · exact hD2.2 x hx
        · obtain ⟨q, hq, rfl⟩ := List.mem_map.1 hx
          exact (hT2.2 q hq).1
      have HR6 : Row w5 A' (sV (goneF set drop)) := HG5.row
      have hwo := without_any on (goneF set drop) A5 A' c5 c' w5 HR5 honm honl HR6 hgs
      rw [hm.out] at hwo
      obtain ⟨nn, hnn⟩ : ∃ n, on.length = n := ⟨_, rfl⟩
      rw [hnn] at hwo honl ⊢
      clear hgs HR5 HR6 HG5 HO5
      obtain ⟨wo, hwoe⟩ : ∃ x, withoutF on (goneF set drop) = x := ⟨_, rfl⟩
      rw [hwoe] at hwo
      have hwol : wo.length ≤ 1000 := by rw [← hwoe]; exact Nat.le_trans (List.length_filter_le _ _) (by omega)
      obtain ⟨nw, hnw⟩ : ∃ n, wo.length = n := ⟨_, rfl⟩
      rw [hnw] at hwo hwol
      replace hnw := hid hnw
      replace hnn := hid hnn
      replace hwoe := hid hwoe
      go_wp2_with fail
      refine hwo.mono ?_
      rintro e w6 ⟨A6, c6, rfl, HO6, O6⟩
      clear hwo honm
      replace HH := O6.keep HH (fun h => h)
      replace K0 := O6.keep K0 (fun h => h)
      replace K1 := O6.keep K1 (fun h => h)
      replace K2 := O6.keep K2 (fun h => h)
      have OW6 := OW5.trans O6
      have hs6 : w.heap.size + 3 ≤ w6.heap.size := Nat.le_trans hws (Nat.le_of_lt (b_lt HH))
      have HOh : OwnF w6 (w.heap.size + 3) (some ⟨hh, 0, none⟩) 1 [(sHost, host.data.toList)] := ⟨rfl, .inr ⟨hh, _, (0, 0), rfl, hws, HH, .inr rfl, Nat.le_refl _, by decide, rfl, rfl⟩⟩
      have HR6 : Row w6 A6 (fV wo) := HO6.row
      have hn6 : A6 = none → nw = 0 ∧ c6 = 0 := fun h => by
        obtain ⟨_, h' | ⟨g, _, _, h', _⟩⟩ := HO6
        · exact ⟨by rw [← hnw.out]; exact h'.2.1, h'.2.2⟩
        · rw [h] at h'; cases h'
      have hhh : hh < w6.heap.size := b_lt HH
      replace hws := hid hws
      replace HOh := hid HOh
      replace HR6 := hid HR6
      clear HO6 O6 OW5 HH O34 hs4
      go_upto_region 8 with (first | (at_builtin; refine app_ff rfl _ _ rfl (w.heap.size + 3) 1 1 nw c6 (some ⟨hh, 0, none⟩) A6 [(sHost, host.data.toList)] wo rfl hnw.out (by exact hv.out.symm) rfl HOh.out HR6.out hn6 hs6 (by omega) ?_; intro A7 c7 w7 h7 h7' o7) | fail)
      have hhw := hws.out
      have hk7 : ∀ i, i < w.heap.size + 3 → ¬ ab (some ⟨hh, 0, none⟩) i := fun i hi ⟨b, hb, e⟩ => by cases hb; simp only at e; omega
      replace K0 := o7.keep K0 (hk7 _ (by omega))
      replace K1 := o7.keep K1 (hk7 _ (by omega))
      replace K2 := o7.keep K2 (hk7 _ (by omega))
      have OW7 := OW6.trans' o7 (fun i hi => .inr (by
        obtain ⟨b, hb, e⟩ := hi
        cases hb
        simp only at e
        omega))
      have hs7 := Nat.le_trans hs6 o7.size
      obtain ⟨n7, hn7⟩ : ∃ n, 1 + nw = n := ⟨_, rfl⟩
      have hn7' : n7 ≤ 1001 := by omega
      have hl7 : Hid (([(sHost, host.data.toList)] ++ wo).length = n7) := hid (by rw [List.length_append, hnw.out]; exact hn7)
      rw [hn7]
      obtain ⟨l7, hl7e⟩ : ∃ x, [(sHost, host.data.toList)] ++ wo = x := ⟨_, rfl⟩
      rw [hl7e] at h7 hl7
      replace hl7e := hid hl7e
      clear hn7 o7 hk7 h7' HOh HR6 hn6 OW6 hs6 hhh hhw hv
      obtain ⟨_, _, b2, _, _, _, _, _⟩ := cells8 K1
      have HT7 := hT.same OW7
      go_upto_block 2 with (first | (at_builtin; refine app_ff rfl _ _ rfl (w.heap.size + 3) n7 c7 k sc A7 SA l7 set hl7.out hns.out rfl rfl h7.out HT7 hTn hs7 (by omega) ?_; intro A8 c8 w8 h8 h8' o8) | fail)
      have hb7 := h7.out.blk
      have hk8 : ∀ i, i < w.heap.size + 3 → ¬ ab A7 i := fun i hi hab => by have := (hb7 i hab).1; omega
      replace K0 := o8.keep K0 (hk8 _ (by omega))
      replace K1 := o8.keep K1 (hk8 _ (by omega))
      replace K2 := o8.keep K2 (hk8 _ (by omega))
      have OW8 := OW7.trans' o8 (fun i hi => .inr (by have := (hb7 i hi).1; omega))
      have hs8 := Nat.le_trans hs7 o8.size
      obtain ⟨n8, hn8⟩ : ∃ n, n7 + k = n := ⟨_, rfl⟩
      have hn8' : n8 ≤ 2001 := by omega
      have hl8 : Hid ((l7 ++ set).length = n8) := hid (by rw [List.length_append, hl7.out, hns.out]; exact hn8)
      rw [hn8]
      have hsc : scrubF m.data.toList fs body.length set drop host.data.toList = (l7 ++ set) ++ (if bodied m.data.toList body.length then [(sCL, Lib.decDigits body.length)] else []) := by
        rw [← hl7e.out, ← hwoe.out, ← hone.out]
        rfl
      obtain ⟨l8, hl8e⟩ : ∃ x, l7 ++ set = x := ⟨_, rfl⟩
      rw [hl8e] at h8 hl8 hsc
      obtain ⟨nb, hnb⟩ : ∃ n, body.length = n := ⟨_, rfl⟩
      rw [hnb] at K0 hB hb hsc
      have hbd : bodied m.data.toList nb = (decide (0 < nb) || ((m.toList == ([80, 79, 83, 84] : List UInt8)) || ((m.toList == ([80, 85, 84] : List UInt8)) || (m.toList == ([80, 65, 84, 67, 72] : List UInt8))))) := by
        rw [ByteArray.toList_eq]
        rfl
      rw [hnb]
      replace hnb := hid hnb
      replace hsc := hid hsc
      replace hbd := hid hbd
      clear hl8e hn8 o8 hk8 h8' h7 hb7 OW7 hs7 b2
      clear hT2 hD hDn hD2 hT hS hR HT7 hD3 hnd hns hTn hT3 hwol hn7' hl7 K1 hl7e hnw hnn hwoe hone hnf hhe honl hm hl OW
      go_cut [12] from 42 to 62 (fun v wx => ∃ (Ax : Option Addr) (cx nx : Nat) (L : List FD), v = .slice Ax nx cx ∧ Hid (L.length = nx) ∧ Hid (scrubF m.data.toList fs body.length set drop host.data.toList = L) ∧ Hid (OwnF wx (w.heap.size + 3) Ax cx L) ∧ Only (fun _ => False) w wx ∧ w.heap.size + 3 ≤ wx.heap.size ∧ Hid (wx.heap[w.heap.size]? = some (.cells #[.string m, .string t, .int .i64 minor, .slice AF nf cF, .slice AB nb cB] 33 (0, 0))) ∧ Hid (wx.heap[w.heap.size + 1 + 1]? = some (.cells #[.string ⟨#[]⟩, .string ⟨#[]⟩, .int .i64 0, .slice none 0 0, .slice none 0 0] 33 (0, 0))))
      case first =>
        obtain ⟨⟨a0, _, _, _, a4⟩, _⟩ := cells5 K0
        have hbr : 0 < nb ∨ (nb = 0 ∧ (m.toList == ([80, 79, 83, 84] : List UInt8)) = true) ∨ (nb = 0 ∧ (m.toList == ([80, 79, 83, 84] : List UInt8)) = false ∧ (m.toList == ([80, 85, 84] : List UInt8)) = true) ∨ (nb = 0 ∧ (m.toList == ([80, 79, 83, 84] : List UInt8)) = false ∧ (m.toList == ([80, 85, 84] : List UInt8)) = false ∧ (m.toList == ([80, 65, 84, 67, 72] : List UInt8)) = true) ∨ (nb = 0 ∧ (m.toList == ([80, 79, 83, 84] : List UInt8)) = false ∧ (m.toList == ([80, 85, 84] : List UInt8)) = false ∧ (m.toList == ([80, 65, 84, 67, 72] : List UInt8)) = false) := by
          by_cases h : 0 < nb
          · exact .inl h
          · have h0 : nb = 0 := by omega
            cases h1 : (m.toList == ([80, 79, 83, 84] : List UInt8)) <;> cases h2 : (m.toList == ([80, 85, 84] : List UInt8)) <;> cases h3 : (m.toList == ([80, 65, 84, 67, 72] : List UInt8)) <;> simp [h0]
        rcases hbr with q0 | ⟨q0, q1⟩ | ⟨q0, q1, q2⟩ | ⟨q0, q1, q2, q3⟩ | ⟨q0, q1, q2, q3⟩
        · have hbt : Hid (bodied m.data.toList nb = true) := hid (by rw [hbd.out]; simp [q0])
          have hsl := slength_any nb (by omega) w8 (hG.same OW8)
          go_upto_region 13 with (fail)
          replace q0 := hid q0
          go_wp2_with fail
          refine hsl.mono ?_
          rintro e w9 ⟨rfl, O9⟩
          clear hsl
          replace K0 := O9.keep K0 (fun h => h)
          replace K2 := O9.keep K2 (fun h => h)
          have HO9 := hid (Own.same h8.out O9)
          have hs9 := Nat.le_trans hs8 O9.size
          have OW9 := OW8.trans O9
          obtain ⟨dd, hdd⟩ : ∃ x, B (Lib.decDigits nb) = x := ⟨_, rfl⟩
          rw [hdd]
          replace hdd := hid hdd
          go_wp2_with (first | (at_builtin; refine app_f rfl _ _ rfl (w.heap.size + 3) n8 c8 A8 l8 _ _ hl8.out rfl rfl HO9.out hs9 (by omega) ?_; intro A10 c10 wx h10 h10' o10) | fail)
          have hb9 := HO9.out.blk
          have hk9 : ∀ i, i < w.heap.size + 3 → ¬ ab A8 i := fun i hi hab => by have := (hb9 i hab).1; omega
          replace K0 := o10.keep K0 (hk9 _ (by omega))
          replace K2 := o10.keep K2 (hk9 _ (by omega))
          have OWx := OW9.trans' o10 (fun i hi => .inr (by have := (hb9 i hi).1; omega))
          have hsx := Nat.le_trans hs9 o10.size
          have hres : Hid (scrubF m.data.toList fs body.length set drop host.data.toList = l8 ++ [((B sCL).data.toList, dd.data.toList)]) := hid (by rw [hnb.out, hsc.out, hbt.out, ← hdd.out]; rfl)
          have hlx : Hid ((l8 ++ [((B sCL).data.toList, dd.data.toList)]).length = n8 + 1) := hid (by rw [List.length_append, hl8.out]; rfl)
          go_meet
          exact ⟨A10, c10, n8 + 1, _, rfl, hlx, hres, h10, OWx, hsx, hid K0, hid K2⟩
        · have hbt : Hid (bodied m.data.toList nb = true) := hid (by rw [hbd.out, q1]; simp)
          have hsl := slength_any nb (by omega) w8 (hG.same OW8)
          go_upto_region 13 with (fail)
          replace q0 := hid q0
          go_wp2_with fail
          refine hsl.mono ?_
          rintro e w9 ⟨rfl, O9⟩
          clear hsl
          replace K0 := O9.keep K0 (fun h => h)
          replace K2 := O9.keep K2 (fun h => h)
          have HO9 := hid (Own.same h8.out O9)
          have hs9 := Nat.le_trans hs8 O9.size
          have OW9 := OW8.trans O9
          obtain ⟨dd, hdd⟩ : ∃ x, B (Lib.decDigits nb) = x := ⟨_, rfl⟩
          rw [hdd]
          replace hdd := hid hdd
          go_wp2_with (first | (at_builtin; refine app_f rfl _ _ rfl (w.heap.size + 3) n8 c8 A8 l8 _ _ hl8.out rfl rfl HO9.out hs9 (by omega) ?_; intro A10 c10 wx h10 h10' o10) | fail)
          have hb9 := HO9.out.blk
          have hk9 : ∀ i, i < w.heap.size + 3 → ¬ ab A8 i := fun i hi hab => by have := (hb9 i hab).1; omega
          replace K0 := o10.keep K0 (hk9 _ (by omega))
          replace K2 := o10.keep K2 (hk9 _ (by omega))
          have OWx := OW9.trans' o10 (fun i hi => .inr (by have := (hb9 i hi).1; omega))
          have hsx := Nat.le_trans hs9 o10.size
          have hres : Hid (scrubF m.data.toList fs body.length set drop host.data.toList = l8 ++ [((B sCL).data.toList, dd.data.toList)]) := hid (by rw [hnb.out, hsc.out, hbt.out, ← hdd.out]; rfl)
          have hlx : Hid ((l8 ++ [((B sCL).data.toList, dd.data.toList)]).length = n8 + 1) := hid (by rw [List.length_append, hl8.out]; rfl)
          go_meet
          exact ⟨A10, c10, n8 + 1, _, rfl, hlx, hres, h10, OWx, hsx, hid K0, hid K2⟩
        · have hbt : Hid (bodied m.data.toList nb = true) := hid (by rw [hbd.out, q2]; simp)
          have hsl := slength_any nb (by omega) w8 (hG.same OW8)
          go_upto_region 13 with (fail)
          replace q0 := hid q0
          go_wp2_with fail
          refine hsl.mono ?_
          rintro e w9 ⟨rfl, O9⟩
          clear hsl
          replace K0 := O9.keep K0 (fun h => h)
          replace K2 := O9.keep K2 (fun h => h)
          have HO9 := hid (Own.same h8.out O9)
          have hs9 := Nat.le_trans hs8 O9.size
          have OW9 := OW8.trans O9
          obtain ⟨dd, hdd⟩ : ∃ x, B (Lib.decDigits nb) = x := ⟨_, rfl⟩
          rw [hdd]
          replace hdd := hid hdd
          go_wp2_with (first | (at_builtin; refine app_f rfl _ _ rfl (w.heap.size + 3) n8 c8 A8 l8 _ _ hl8.out rfl rfl HO9.out hs9 (by omega) ?_; intro A10 c10 wx h10 h10' o10) | fail)
          have hb9 := HO9.out.blk
          have hk9 : ∀ i, i < w.heap.size + 3 → ¬ ab A8 i := fun i hi hab => by have := (hb9 i hab).1; omega
          replace K0 := o10.keep K0 (hk9 _ (by omega))
          replace K2 := o10.keep K2 (hk9 _ (by omega))
          have OWx := OW9.trans' o10 (fun i hi => .inr (by have := (hb9 i hi).1; omega))
          have hsx := Nat.le_trans hs9 o10.size
          have hres : Hid (scrubF m.data.toList fs body.length set drop host.data.toList = l8 ++ [((B sCL).data.toList, dd.data.toList)]) := hid (by rw [hnb.out, hsc.out, hbt.out, ← hdd.out]; rfl)
          have hlx : Hid ((l8 ++ [((B sCL).data.toList, dd.data.toList)]).length = n8 + 1) := hid (by rw [List.length_append, hl8.out]; rfl)
          go_meet
          exact ⟨A10, c10, n8 + 1, _, rfl, hlx, hres, h10, OWx, hsx, hid K0, hid K2⟩
        · have hbt : Hid (bodied m.data.toList nb = true) := hid (by rw [hbd.out, q3]; simp)
          have hsl := slength_any nb (by omega) w8 (hG.same OW8)
          go_upto_region 13 with (fail)
          replace q0 := hid q0
          go_wp2_with fail
          refine hsl.mono ?_
          rintro e w9 ⟨rfl, O9⟩
          clear hsl
          replace K0 := O9.keep K0 (fun h => h)
          replace K2 := O9.keep K2 (fun h => h)
          have HO9 := hid (Own.same h8.out O9)
          have hs9 := Nat.le_trans hs8 O9.size
          have OW9 := OW8.trans O9
          obtain ⟨dd, hdd⟩ : ∃ x, B (Lib.decDigits nb) = x := ⟨_, rfl⟩
          rw [hdd]
          replace hdd := hid hdd
          go_wp2_with (first | (at_builtin; refine app_f rfl _ _ rfl (w.heap.size + 3) n8 c8 A8 l8 _ _ hl8.out rfl rfl HO9.out hs9 (by omega) ?_; intro A10 c10 wx h10 h10' o10) | fail)
          have hb9 := HO9.out.blk
          have hk9 : ∀ i, i < w.heap.size + 3 → ¬ ab A8 i := fun i hi hab => by have := (hb9 i hab).1; omega
          replace K0 := o10.keep K0 (hk9 _ (by omega))
          replace K2 := o10.keep K2 (hk9 _ (by omega))
          have OWx := OW9.trans' o10 (fun i hi => .inr (by have := (hb9 i hi).1; omega))
          have hsx := Nat.le_trans hs9 o10.size
          have hres : Hid (scrubF m.data.toList fs body.length set drop host.data.toList = l8 ++ [((B sCL).data.toList, dd.data.toList)]) := hid (by rw [hnb.out, hsc.out, hbt.out, ← hdd.out]; rfl)
          have hlx : Hid ((l8 ++ [((B sCL).data.toList, dd.data.toList)]).length = n8 + 1) := hid (by rw [List.length_append, hl8.out]; rfl)
          go_meet
          exact ⟨A10, c10, n8 + 1, _, rfl, hlx, hres, h10, OWx, hsx, hid K0, hid K2⟩
        · have hbt : Hid (bodied m.data.toList nb = false) := hid (by rw [hbd.out, q1, q2, q3, q0]; rfl)
          have hres : Hid (scrubF m.data.toList fs body.length set drop host.data.toList = l8) := hid (by rw [hnb.out, hsc.out, hbt.out]; simp)
          go_wp2_with fail
          go_meet
          exact ⟨A8, c8, n8, _, rfl, hl8, hres, h8, OW8, hs8, hid K0, hid K2⟩
      case rest =>
        obtain ⟨Ax, cx, nx, L, rfl, hlx, hres, HL, OWx, hsx, K0x, K2x⟩ := hcut
        clear hbd hsc hl8 h8 OW8 hs8 K0 K2 hn8'
        obtain ⟨⟨a0, _, _, _, a4⟩, _⟩ := cells5 K0x.out
        obtain ⟨_, f0, f1, f2, f3, f4⟩ := cells5 K2x.out
        have hcl := fun W (o : Only (fun _ => False) wc W) => clone_any AB nb cB body W (hB.same (OWx.trans o)) (by omega)
        have heC : ∀ args w, (callFunc 23 args).run Tryz.prog w = .ok (.enter 23 args) w := fun args w => by kernel_rfl
        replace hcl := hid hcl
        go_upto_region 14 with (fail)
        go_region_law (first | (refine step_callx (by rfl) 23 _ _ (by rfl) heC _ (by rfl) (fun r W' => ∃ A2 c2, r = .slice A2 body.length c2 ∧ OwnB W' wc.heap.size A2 c2 body ∧ Only (fun _ => False) wc W') ((hcl.out _ (by exact ⟨rfl, rfl, rfl, Nat.le_refl _, fun _ _ _ => rfl⟩)).mono (fun e W' h => by obtain ⟨A2, c2, h1, h2, h3⟩ := h; exact ⟨_, h1, A2, c2, rfl, h2, ⟨h3.os, h3.tape, h3.output, h3.size, h3.block⟩⟩)) ?_; rintro _ w10 ⟨A2, c2, rfl, HB2, O10⟩; have K0y := O10.keep K0x.out (fun h => h); have K2y := O10.keep K2x.out (fun h => h); obtain ⟨⟨j0, _, _, _, j4⟩, _⟩ := cells5 K0y; obtain ⟨_, g0, g1, g2, g3, g4⟩ := cells5 K2y))
        all_goals
          have hrow := set5_row K2y (.string m) (.string target) (.int .i64 1) (.slice Ax nx cx) (.slice A2 body.length c2)
          have hfin := hid (sreq_fin hsx OWx O10 HL.out HB2 (.string m) (.string target) (.int .i64 1) (.slice Ax nx cx) (.slice A2 body.length c2) _ rfl)
          clear hcl K0y K2y j0 j4 g0 g1 g2 g3 g4 a0 a4 f0 f1 f2 f3 f4 O10 HB2
          go_wp2_with fail
          exact ret_req Tryz.results8 hrow rfl ⟨Ax, cx, A2, c2, by rw [hres.out, hlx.out], by rw [hres.out]; exact hfin.out.1, hfin.out.2.1, hfin.out.2.2⟩
end Go.Proofs.YtafljoiblfhioaaGreatDoor
