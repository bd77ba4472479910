/-
  A new cell.
-/
import Derived.Test.YtpblgjadpfecgaaGreatDoorGa
set_option linter.unusedSimpArgs false
set_option linter.unusedVariables false
namespace Go.Proofs.YtpblgjadpfecgaaGreatDoor
open Go.RowKit Go.Maps

/-- The state of a new cell. -/
def s0 (quota burst : Int) : St := ⟨0, 0, fun _ => 0, fun _ => 0, fun _ => [], quota, 0, 0, fun _ => false, fun _ => 0, 0, burst, 0, 0, false, none, 0, []⟩
structure Made (w1 w : World) (quota burst q : Int) (d : CellD) : Prop where
  rs : Rg.Rs w d.mb 0 (fun _ => 0) (fun _ => []) quota 0 0 (· = d.mb)
  cm : w.heap[d.cm]? = some (.map #[] 0)
  jm : w.heap[d.jm]? = some (.map #[] 0)
  ne : d.jm ≠ d.cm
  bk : Bk.Bk w d.bb 3 burst burst 0
  clk : w.heap[d.kb]? = some (.cells #[.int .i64 0, .slice none 0 0, .map (some d.ka)] 118 (0, 0))
  rob : w.heap[d.rb]? = some (.cells #[.int .i64 q, .int .i64 0, .int .i64 0, .bool false] 120 (0, 0))
  lo : w1.heap.size ≤ d.mb ∧ w1.heap.size ≤ d.cm ∧ w1.heap.size ≤ d.bb ∧ w1.heap.size ≤ d.rb
  fix : d.quota = quota ∧ d.burst = burst ∧ d.q = q
theorem Made.keep {w1 w w' : World} {quota burst q : Int} {d : CellD} (h : Made w1 w quota burst q d) (o : Only (fun _ => False) w w') : Made w1 w' quota burst q d :=
  ⟨h.rs.keep o (fun _ _ h => h), o.keep h.cm (fun h => h), o.keep h.jm (fun h => h), h.ne, o.keep h.bk (fun h => h), o.keep h.clk (fun h => h), o.keep h.rob (fun h => h), h.lo, h.fix⟩
def sl (i : Nat) : Nat := if i = 23 then 2 else i + 7
abbrev arr (x : Nat → Value) : Array Value := #[x 0, x 1, x 2, x 3, x 4, x 5, x 6, x 7, x 8, x 9, x 10, x 11, x 12, x 13, x 14, x 15, x 16, x 17, x 18, x 19, x 20, x 21, x 22, x 23, x 24, x 25, x 26, x 27, x 28, x 29]
/-- What each operation leaves. -/
def nV (w1 : World) (g hk c : Nat) (quota burst q : Int) : Nat → Value → World → Prop
  | 0, v, _ => v = slotV (some ⟨hk, 0, none⟩) c quota burst q
  | 1, v, _ => v = .pointer (some ⟨g, 2, none⟩)
  | 2, v, _ => v = .int .i64 quota
  | 3, v, w => ∃ b, v = .pointer (some ⟨b, 0, none⟩) ∧ Rg.Rs w b 0 (fun _ => 0) (fun _ => []) quota 0 0 (· = b) ∧ w1.heap.size ≤ b
  | 4, v, w => ∃ b, v = .map (some b) ∧ w.heap[b]? = some (.map #[] 0) ∧ w1.heap.size ≤ b
  | 5, v, w => ∃ b, v = .map (some b) ∧ w.heap[b]? = some (.map #[] 0) ∧ w1.heap.size ≤ b
  | 6, v, w => ∃ b, v = .map (some b) ∧ w.heap[b]? = some (.map #[] 0) ∧ w1.heap.size ≤ b
  | 7, v, _ => v = .pointer (some ⟨g, 4, none⟩)
  | 8, v, _ => v = .int .i64 4
  | 9, v, _ => ∃ b, v = .pointer (some ⟨b, 0, none⟩)
  | 10, v, _ => ∃ b, v = .pointer (some ⟨b, 0, none⟩)
  | 11, v, _ => v = .pointer (some ⟨g, 5, none⟩)
  | 12, v, _ => v = .int .i64 3
  | 13, v, _ => v = .pointer (some ⟨g, 6, none⟩)
  | 14, v, _ => v = .int .i64 burst
  | 15, v, w => ∃ b, v = .pointer (some ⟨b, 0, none⟩) ∧ Bk.Bk w b 3 burst burst 0 ∧ w1.heap.size ≤ b
  | 16, v, w => ∃ b ka, v = .pointer (some ⟨b, 0, none⟩) ∧ w.heap[b]? = some (.cells #[.int .i64 0, .slice none 0 0, .map (some ka)] 118 (0, 0))
  | 17, v, _ => v = .pointer (some ⟨g, 7, none⟩)
  | 18, v, _ => v = .int .i64 q
  | 19, v, w => ∃ b, v = .pointer (some ⟨b, 0, none⟩) ∧ w.heap[b]? = some (.cells #[.int .i64 q, .int .i64 0, .int .i64 0, .bool false] 120 (0, 0)) ∧ w1.heap.size ≤ b
  | 20, v, _ => v = confV
  | 21, v, w => ∃ d : CellD, v = .agg (cellRow d (s0 quota burst)) ∧ d.hk = hk ∧ d.hc = c ∧ Made w1 w quota burst q d
  | 22, v, w => ∃ d : CellD, v = .pointer (some ⟨d.cb, 0, none⟩) ∧ w.heap[d.cb]? = some (.cells (cellRow d (s0 quota burst)) 70 (0, 0)) ∧ d.hk = hk ∧ d.hc = c ∧ Made w1 w quota burst q d ∧ w1.heap.size ≤ d.cb
  | 23, v, w => ∃ d : CellD, v = .pointer (some ⟨d.cb, 0, none⟩) ∧ w.heap[d.cb]? = some (.cells (cellRow d (s0 quota burst)) 70 (0, 0)) ∧ d.hk = hk ∧ d.hc = c ∧ Made w1 w quota burst q d ∧ w1.heap.size ≤ d.cb
  | _, _, _ => True
theorem nV_keep {w1 : World} {g hk c : Nat} {quota burst q : Int} {w w' : World} (o : Only (fun _ => False) w w') : ∀ (i : Nat) (v : Value), nV w1 g hk c quota burst q i v w → nV w1 g hk c quota burst q i v w'
  | 0, _, h => h
  | 1, _, h => h
  | 2, _, h => h
  | 3, _, ⟨b, h1, h2, h3⟩ => ⟨b, h1, h2.keep o (fun _ _ h => h), h3⟩
  | 4, _, ⟨b, h1, h2, h3⟩ => ⟨b, h1, o.keep h2 (fun h => h), h3⟩
  | 5, _, ⟨b, h1, h2, h3⟩ => ⟨b, h1, o.keep h2 (fun h => h), h3⟩
  | 6, _, ⟨b, h1, h2, h3⟩ => ⟨b, h1, o.keep h2 (fun h => h), h3⟩
  | 7, _, h => h
  | 8, _, h => h
  | 9, _, h => h
  | 10, _, h => h
  | 11, _, h => h
  | 12, _, h => h
  | 13, _, h => h
  | 14, _, h => h
  | 15, _, ⟨b, h1, h2, h3⟩ => ⟨b, h1, o.keep h2 (fun h => h), h3⟩
  | 16, _, ⟨b, ka, h1, h2⟩ => ⟨b, ka, h1, o.keep h2 (fun h => h)⟩
  | 17, _, h => h
  | 18, _, h => h
  | 19, _, ⟨b, h1, h2, h3⟩ => ⟨b, h1, o.keep h2 (fun h => h), h3⟩
  | 20, _, h => h
  | 21, _, ⟨d, h1, h2, h3, h4⟩ => ⟨d, h1, h2, h3, h4.keep o⟩
  | 22, _, ⟨d, h1, h2, h3, h4, h5, h6⟩ => ⟨d, h1, o.keep h2 (fun h => h), h3, h4, h5.keep o, h6⟩
  | 23, _, ⟨d, h1, h2, h3, h4, h5, h6⟩ => ⟨d, h1, o.keep h2 (fun h => h), h3, h4, h5.keep o, h6⟩
  | _ + 24, _, h => h
structure NI (w1 : World) (g hk c : Nat) (quota burst q : Int) (x : Nat → Value) (listed : Array Bool) (w : World) : Prop where
  one : x 1 = .pointer (some ⟨g, 0, none⟩)
  o : Only (fun _ => False) w1 w
  sz : listed.size = 24
  v : ∀ i, i < 24 → listed.getD i true = true → nV w1 g hk c quota burst q i (x (sl i)) w
  ne : listed.getD 4 true = true → listed.getD 5 true = true → x 11 ≠ x 12
def NInv (w1 : World) (g hk c : Nat) (quota burst q : Int) (listed : Array Bool) (a : Act) (w : World) : Prop := ∃ x : Nat → Value, a = ⟨arr x, []⟩ ∧ NI w1 g hk c quota burst q x listed w
theorem NI.put {w1 : World} {g hk c : Nat} {quota burst q : Int} {x : Nat → Value} {listed : Array Bool} {w w' : World} {i : Nat} {v : Value} (h : NI w1 g hk c quota burst q x listed w) (hi : i < 24) (o : Only (fun _ => False) w w') (hv : nV w1 g hk c quota burst q i v w')
    (hne : (i = 4 → listed.getD 5 true = true → v ≠ x 12) ∧ (i = 5 → listed.getD 4 true = true → x 11 ≠ v)) : NI w1 g hk c quota burst q (Rg.upd x (sl i) v) (listed.setIfInBounds i true) w' where
  one := by
    rw [Rg.upd_ne _ _ (by unfold sl; split <;> omega)]
    exact h.one
  o := h.o.trans o
  sz := by rw [Array.size_setIfInBounds]; exact h.sz
  v := fun j hj hl => by
    by_cases e : i = j
    · subst e
      rw [Rg.upd_at]
      exact hv
    · rw [getD_set_ne true e] at hl
      rw [Rg.upd_ne _ _ (by unfold sl; split <;> split <;> omega)]
      exact nV_keep o _ _ (h.v j hj hl)
  ne := fun h4 h5 => by
    by_cases e4 : i = 4
    · subst e4
      rw [getD_set_ne true (by decide)] at h5
      rw [show sl 4 = 11 from rfl, Rg.upd_at, Rg.upd_ne _ _ (by decide)]
      exact hne.1 rfl h5
    · rw [getD_set_ne true e4] at h4
      by_cases e5 : i = 5
      · subst e5
        rw [show sl 5 = 12 from rfl, Rg.upd_at, Rg.upd_ne _ _ (by decide)]
        exact hne.2 rfl h4
      · rw [getD_set_ne true e5] at h5
        rw [Rg.upd_ne _ _ (by unfold sl; split <;> omega), Rg.upd_ne _ _ (by unfold sl; split <;> omega)]
        exact h.ne h4 h5

theorem made_cell {w w1 W : World} {hk c : Nat} {quota burst q : Int} {d : CellD} {base : Nat} (hG : Gl w) (o : Only (fun _ => False) w W) (hw : w.heap.size ≤ w1.heap.size) (hr : W.heap[d.cb]? = some (.cells (cellRow d (s0 quota burst)) 70 (0, 0))) (m : Made w1 W quota burst q d) (hcb : w1.heap.size ≤ d.cb)
    (hO : OwnS W base (some ⟨hk, 0, none⟩) c [[104]]) (e1 : d.hk = hk) (e2 : d.hc = c) (hb : 1 ≤ burst ∧ burst ≤ 64) : CellIn W d (s0 quota burst) (· = d.mb) := by
  subst e1 e2
  obtain ⟨f1, f2, f3⟩ := m.fix
  have hs := hG.size
  have hmT : OfT W d.mb 103 := by obtain ⟨F, hF⟩ := m.rs; exact ⟨_, _, hF.met⟩
  have hhk : ∃ cs f, W.heap[d.hk]? = some (.cells cs 9 f) ∧ cs[0]? = some (.string ⟨#[104]⟩) := by
    rcases hO.2 with ⟨h, _⟩ | ⟨g, cur, fz, h, _, hg, _, hn, _, hc, ht⟩
    · cases h
    · cases h
      refine ⟨cur, fz, hg, ?_⟩
      have h1 : (cur.toList.take (1 * 1))[0]? = (sV [[104]])[0]? := by rw [← ht]; rfl
      rw [List.getElem?_take_of_lt (by decide)] at h1
      rw [← Array.getElem?_toList, h1]
      rfl
  exact {
    row := hr
    rs := hid m.rs
    con := fun k hk => absurd hk (Nat.not_lt_zero k)
    inj := fun j k hj => absurd hj (Nat.not_lt_zero j)
    map := mapC_of m.cm _
    mn := Nat.le_refl _
    buck := by rw [f2]; exact m.bk
    bok := by rw [f2]; exact ⟨by decide, by decide, by omega, by omega, by show (0 : Int) ≤ burst; omega, by show burst ≤ burst; omega, by decide, by decide⟩
    rob := by rw [f3]; exact m.rob
    clk := m.clk
    job := m.jm
    jc := m.ne
    host := hhk
    hc1 := hO.cap.1
    nG := fun i hi => by
      subst hi
      refine ⟨fun hy => ?_, fun hk => ?_⟩
      · rcases hy with hy | hy | hy | hy | ⟨k, hk, _⟩ | ⟨b, hb, _⟩
        · exact hmT.ne ⟨_, _, hr⟩ (by decide) hy
        · exact hmT.ne ⟨_, _, m.bk⟩ (by decide) hy
        · exact hmT.ne ⟨_, _, m.rob⟩ (by decide) hy
        · exact hmT.nm ⟨_, _, m.cm⟩ hy
        · exact absurd hk (Nat.not_lt_zero k)
        · cases hb
      · rcases hk with hk | hk | hk | hk
        · exact hmT.ne ⟨_, _, m.clk⟩ (by decide) hk
        · exact hmT.nm ⟨_, _, m.jm⟩ hk
        · obtain ⟨cs, f, h1, _⟩ := hhk
          exact hmT.ne ⟨_, _, h1⟩ (by decide) hk
        · have := m.lo.1; omega
    lo := fun i hy => by
      obtain ⟨l1, l2, l3, l4⟩ := m.lo
      rcases hy with hy | hy | hy | hy | ⟨k, hk, _⟩ | ⟨b, hb, _⟩
      · omega
      · omega
      · omega
      · omega
      · exact absurd hk (Nat.not_lt_zero k)
      · cases hb
    gl := hG.same o
    outs := Own.nil _ _ _ _ }
theorem gd {l : Array Bool} {i : Nat} (h : l.getD i false = true) : l.getD i true = true := by
  rw [Array.getD_eq_getD_getElem?] at h ⊢
  cases hx : l[i]? with
  | none => rfl
  | some b => rw [hx] at h; exact h
theorem step_calln {ops : Array Oper} {o : Oper} {a : Act} {W : World} {K : Act → World → Prop} {Q : Exit → Act → World → Prop} {E : Prop} (hgd : o.guard = none) (f : FuncId) (xs : Array Operand) (ts : Array TypeId) (ho : o.op = .call { callee := .value (.func f), args := xs, argTypes := ts })
    (he : ∀ args w, (callFunc f args).run Tryz.prog w = .ok (.enter f args) w) (vs : Array Value) (hx : xs.map a.eval = vs) (S : Value → World → Prop) (hc : Calls Tryz.prog f vs W fun e w' => ∃ r, e = .returned r ∧ S r w') (h : ∀ r w', S r w' → K (a.put o.dst r) w') :
    if Region.wanted o (yielded ops a.tmps) = true then Oper.wp Tryz.prog o a W K Q else E := by
  have hw : Region.wanted o (yielded ops a.tmps) = true := by simp [Region.wanted, hgd]
  rw [if_pos hw]
  have hr : (execOp a.eval o).run Tryz.prog W = .ok (.enter f vs) W := by
    have hfn : a.eval (.func f) = .func (.func f) #[] #[] := rfl
    simp [execOp, ho, resolve, invoke, hfn, hx, Deferred.ofValue, he]
  unfold Oper.wp
  rw [hr, Oper.upon_enter]
  refine hc.mono ?_
  rintro e w' ⟨r, rfl, hs⟩
  exact h r w' hs

set_option maxRecDepth 100000 in
set_option maxHeartbeats 4000000 in
theorem cellNew_any (w : World) (hk c : Nat) (quota burst q : Int) (hR : Row w (some ⟨hk, 0, none⟩) (sV [[104]])) (h1 : 0 ≤ quota ∧ quota ≤ 1000000) (h2 : 1 ≤ burst ∧ burst ≤ 64) (h3 : 1 ≤ q ∧ q ≤ 1048576) (hg6 : Gl w) :
    Calls Tryz.prog 6 #[slotV (some ⟨hk, 0, none⟩) c quota burst q] w fun e w' => ∃ d : CellD, e = .returned (.pointer (some ⟨d.cb, 0, none⟩)) ∧ Hid (CellIn w' d (s0 quota burst) (· = d.mb)) ∧ (d.quota = quota ∧ d.burst = burst ∧ d.q = q) ∧ Hid (∀ i, Zb d (s0 quota burst) (· = d.mb) i → w.heap.size ≤ i) ∧ Only (fun _ => False) w w' := by
  have hcl := fun (W : World) (o : Only (fun _ => False) w W) => sclone_any (some ⟨hk, 0, none⟩) 1 c [[104]] W rfl (hR.same o) (by intro h; cases h) (by omega)
  replace hcl := hid hcl
  unfold slotV
  go_enter Tryz.func6, Tryz.ntmps6
  have hgn := b_new w (.cells #[.string sT, .slice (some ⟨hk, 0, none⟩) 1 c, .int .i64 quota, .int .i64 4, .int .i64 4, .int .i64 3, .int .i64 burst, .int .i64 q] 26)
  have On := (Only.refl (fun _ => False) w).alloc (.cells #[.string sT, .slice (some ⟨hk, 0, none⟩) 1 c, .int .i64 quota, .int .i64 4, .int .i64 4, .int .i64 3, .int .i64 burst, .int .i64 q] 26)
  have hsz : w.heap.size + 1 = (w.alloc (.cells #[.string sT, .slice (some ⟨hk, 0, none⟩) 1 c, .int .i64 quota, .int .i64 4, .int .i64 4, .int .i64 3, .int .i64 burst, .int .i64 q] 26)).heap.size := by rw [World.size_alloc]
  replace hgn := hid hgn
  replace hsz := hid hsz
  go_upto_region 2 with (first | (go_at_call 14; refine (hcl.out _ On).mono ?_; rintro e w0 ⟨A', c', rfl, HO, O0⟩; have hg0 := hid (O0.keep hgn.out (fun h => h)); have c01 := b_cell hg0.out 1; have f01 := b_free hg0.out 1) | fail)
  obtain ⟨g, hg⟩ : ∃ g, w.heap.size = g := ⟨_, rfl⟩
  rw [hg] at hg0 ⊢
  have hg1 := b_set hg0.out 1 (.slice A' 1 c')
  simp only [List.setIfInBounds_toArray, List.set_cons_zero, List.set_cons_succ] at hg1
  have HO1 : OwnS (w0.setCell ⟨g, 1, none⟩ (.slice A' 1 c')) (g + 1) A' c' [[104]] := Own.keep (Own.weak HO (by have := hsz.out; omega)) ((Only.refl (· = g) w0).setCell (p := ⟨g, 1, none⟩) (.inl rfl) _) (fun i hi e => by have := (HO.blk i hi).1; have := hsz.out; omega)
  have O1 : Only (fun _ => False) w (w0.setCell ⟨g, 1, none⟩ (.slice A' 1 c')) := (On.trans O0).setCell (p := ⟨g, 1, none⟩) (.inr (by show w.heap.size ≤ g; omega)) _
  generalize w0.setCell ⟨g, 1, none⟩ (.slice A' 1 c') = w1 at hg1 HO1 O1 ⊢
  obtain ⟨hk1, rfl, hk2, hk3⟩ := Own.some_of HO1 (by decide)
  clear hg0 c01 f01 HO On O0 hcl hgn hsz
  replace hg1 := hid hg1
  refine wp_region_any (by kernel_rfl) ?_
  refine wpAny_inv (NInv w1 g hk1 c' quota burst q) ?step ?done _ _ _ _ (by decide +kernel) ?start
  case start =>
    refine ⟨fun i => ((#[slotV (some ⟨hk, 0, none⟩) c quota burst q, .pointer (some ⟨g, 0, none⟩), .pointer none, .pointer (some ⟨g, 1, none⟩), .slice (some ⟨hk, 0, none⟩) 1 c, .slice (some ⟨hk1, 0, none⟩) 1 c', .pointer (some ⟨g, 1, none⟩)] : Array Value).getD i undef), rfl, rfl, (Only.refl _ _).drew, by simp, fun i hi hl => ?_, fun h4 _ => ?_⟩
    · exfalso; revert hl; simp [hi]
    · exfalso; revert h4; simp
  case done =>
    intro listed a W hr hI
    obtain ⟨x, rfl, hI⟩ := hI
    have hl := all_listed (by decide +kernel) hI.sz hr
    obtain ⟨d, e2, d0, d1, d2, d3, d4⟩ := hI.v 23 (by decide) (hl 23 (by decide))
    simp only [show sl 23 = 2 from rfl] at e2
    have O2 := O1.trans hI.o
    have HO2 := Own.same HO1 hI.o
    replace d0 := hid d0
    have d3' := d3
    replace d3 := hid d3
    replace d3' := hid d3'
    clear hl hI hr
    unfold arr
    rw [e2]
    have hfin := hid (made_cell hg6 O2 O1.size d0.out d3.out d4 HO2 d1 d2 h2)
    replace O2 := hid O2
    have O1s := hid O1.size
    clear O1 HO1 HO2 d0 d3
    go_wp2_with fail
    go_ret
    refine ⟨d, rfl, hfin, d3'.out.fix, hid (fun i hi => ?_), O2.out⟩
    obtain ⟨l1, l2, l3, l4⟩ := d3'.out.lo
    have hs1 := O1s.out
    rcases hi with hi | hy | hy | hy | hy | ⟨k, hk, _⟩ | ⟨b, hb, _⟩
    · omega
    · omega
    · omega
    · omega
    · omega
    · exact absurd hk (Nat.not_lt_zero k)
    · cases hb
  case step =>
    intro listed a W i hi hI
    obtain ⟨x, rfl, hI⟩ := hI
    obtain ⟨hl, o, ho, hd⟩ := mem_ready.1 hi
    have hi24 : i < 24 := (Array.getElem?_eq_some_iff.1 ho).1
    have hx1 := hI.one
    have hgW := hI.o.keep hg1.out (fun h => h)
    have k0 := b_cell hgW 0
    have k1 := b_cell hgW 1
    have k2 := b_cell hgW 2
    have k3 := b_cell hgW 3
    have k4 := b_cell hgW 4
    have k5 := b_cell hgW 5
    have k6 := b_cell hgW 6
    have k7 := b_cell hgW 7
    replace hgW := hid hgW
    replace hd := hid hd
    replace hI := hid hI
    have hmm := @run_makeMap Tryz.prog
    unfold arr
    rcases (by omega : i = 0 ∨ i = 1 ∨ i = 2 ∨ i = 3 ∨ i = 4 ∨ i = 5 ∨ i = 6 ∨ i = 7 ∨ i = 8 ∨ i = 9 ∨ i = 10 ∨ i = 11 ∨ i = 12 ∨ i = 13 ∨ i = 14 ∨ i = 15 ∨ i = 16 ∨ i = 17 ∨ i = 18 ∨ i = 19 ∨ i = 20 ∨ i = 21 ∨ i = 22 ∨ i = 23) with rfl | rfl | rfl | rfl | rfl | rfl | rfl | rfl | rfl | rfl | rfl | rfl | rfl | rfl | rfl | rfl | rfl | rfl | rfl | rfl | rfl | rfl | rfl | rfl
    all_goals cases ho
    all_goals refine wpOp_step rfl (fun K hK => ?_)
    · go_simp
      exact hK _ _ ⟨Rg.upd x (sl 0) (slotV (some ⟨hk1, 0, none⟩) c' quota burst q), by simp [arr, Rg.upd, sl, hx1, slotV], hI.out.put (by decide) (Only.refl _ _) rfl ⟨fun h => absurd h (by decide), fun h => absurd h (by decide)⟩⟩
    · go_simp
      exact hK _ _ ⟨Rg.upd x (sl 1) _, by simp [arr, Rg.upd, sl, hx1], hI.out.put (by decide) (Only.refl _ _) rfl ⟨fun h => absurd h (by decide), fun h => absurd h (by decide)⟩⟩
    · have e8 : x 8 = _ := hI.out.v 1 (by decide) (gd (hd.out ⟨1, .data⟩ (by simp) rfl))
      go_simp
      exact hK _ _ ⟨Rg.upd x (sl 2) _, by simp [arr, Rg.upd, sl, hx1, e8], hI.out.put (by decide) (Only.refl _ _) rfl ⟨fun h => absurd h (by decide), fun h => absurd h (by decide)⟩⟩
    · have e9 : x 9 = _ := hI.out.v 2 (by decide) (gd (hd.out ⟨2, .data⟩ (by simp) rfl))
      refine step_calln rfl 15 _ _ rfl (enters_of Tryz.func15 (by kernel_rfl) rfl) #[.int .i64 quota] (by simp [Act.eval, e9]) (fun r w' => nV w1 g hk1 c' quota burst q 3 r w' ∧ Only (fun _ => False) W w') ?_ ?_
      · exact (Rg.rs_meter quota quota W (by omega) (by omega) (by unfold Rg.mclip; omega) (fun _ => 0) (fun _ => [])).mono (fun e w' h => ⟨_, h.1, ⟨_, rfl, h.2.1, hI.out.o.size⟩, h.2.2⟩)
      · rintro r w' ⟨hv, ho⟩
        exact hK _ _ ⟨Rg.upd x (sl 3) r, rfl, hI.out.put (by decide) ho hv ⟨fun h => absurd h (by decide), fun h => absurd h (by decide)⟩⟩
    · go_simp
      exact hK _ _ ⟨Rg.upd x (sl 4) _, by simp [arr, Rg.upd, sl, hx1], hI.out.put (by decide) ((Only.refl _ _).alloc _) ⟨W.heap.size, rfl, b_new W _, hI.out.o.size⟩ ⟨fun _ h5 e => by obtain ⟨b, hb, hbm, _⟩ := hI.out.v 5 (by decide) h5; rw [show x 12 = _ from hb] at e; cases e; have := b_lt hbm; omega, fun h => absurd h (by decide)⟩⟩
    · go_simp
      exact hK _ _ ⟨Rg.upd x (sl 5) _, by simp [arr, Rg.upd, sl, hx1], hI.out.put (by decide) ((Only.refl _ _).alloc _) ⟨W.heap.size, rfl, b_new W _, hI.out.o.size⟩ ⟨fun h => absurd h (by decide), fun _ h4 e => by obtain ⟨b, hb, hbm, _⟩ := hI.out.v 4 (by decide) h4; rw [show x 11 = _ from hb] at e; cases e; have := b_lt hbm; omega⟩⟩
    · go_simp
      exact hK _ _ ⟨Rg.upd x (sl 6) _, by simp [arr, Rg.upd, sl, hx1], hI.out.put (by decide) ((Only.refl _ _).alloc _) ⟨W.heap.size, rfl, b_new W _, hI.out.o.size⟩ ⟨fun h => absurd h (by decide), fun h => absurd h (by decide)⟩⟩
    · go_simp
      exact hK _ _ ⟨Rg.upd x (sl 7) _, by simp [arr, Rg.upd, sl, hx1], hI.out.put (by decide) (Only.refl _ _) rfl ⟨fun h => absurd h (by decide), fun h => absurd h (by decide)⟩⟩
    · have e14 : x 14 = _ := hI.out.v 7 (by decide) (gd (hd.out ⟨7, .data⟩ (by simp) rfl))
      go_simp
      exact hK _ _ ⟨Rg.upd x (sl 8) _, by simp [arr, Rg.upd, sl, hx1, e14], hI.out.put (by decide) (Only.refl _ _) rfl ⟨fun h => absurd h (by decide), fun h => absurd h (by decide)⟩⟩
    · have e15 : x 15 = _ := hI.out.v 8 (by decide) (gd (hd.out ⟨8, .data⟩ (by simp) rfl))
      refine step_calln rfl 16 _ _ rfl (enters_of Tryz.func16 (by kernel_rfl) rfl) #[.int .i64 4] (by simp [Act.eval, e15]) (fun r w' => nV w1 g hk1 c' quota burst q 9 r w' ∧ Only (fun _ => False) W w') ?_ ?_
      · exact (poolNew_any W 4).mono (fun e w' h => by obtain ⟨b, h1, h2⟩ := h; exact ⟨_, h1, ⟨b, rfl⟩, h2⟩)
      · rintro r w' ⟨hv, ho⟩
        exact hK _ _ ⟨Rg.upd x (sl 9) r, rfl, hI.out.put (by decide) ho hv ⟨fun h => absurd h (by decide), fun h => absurd h (by decide)⟩⟩
    · refine step_calln rfl 17 _ _ rfl (enters_of Tryz.func17 (by kernel_rfl) rfl) #[] (by simp) (fun r w' => nV w1 g hk1 c' quota burst q 10 r w' ∧ Only (fun _ => False) W w') ?_ ?_
      · exact (healthNew_any W).mono (fun e w' h => by obtain ⟨b, h1, h2⟩ := h; exact ⟨_, h1, ⟨b, rfl⟩, h2⟩)
      · rintro r w' ⟨hv, ho⟩
        exact hK _ _ ⟨Rg.upd x (sl 10) r, rfl, hI.out.put (by decide) ho hv ⟨fun h => absurd h (by decide), fun h => absurd h (by decide)⟩⟩
    · go_simp
      exact hK _ _ ⟨Rg.upd x (sl 11) _, by simp [arr, Rg.upd, sl, hx1], hI.out.put (by decide) (Only.refl _ _) rfl ⟨fun h => absurd h (by decide), fun h => absurd h (by decide)⟩⟩
    · have e18 : x 18 = _ := hI.out.v 11 (by decide) (gd (hd.out ⟨11, .data⟩ (by simp) rfl))
      go_simp
      exact hK _ _ ⟨Rg.upd x (sl 12) _, by simp [arr, Rg.upd, sl, hx1, e18], hI.out.put (by decide) (Only.refl _ _) rfl ⟨fun h => absurd h (by decide), fun h => absurd h (by decide)⟩⟩
    · go_simp
      exact hK _ _ ⟨Rg.upd x (sl 13) _, by simp [arr, Rg.upd, sl, hx1], hI.out.put (by decide) (Only.refl _ _) rfl ⟨fun h => absurd h (by decide), fun h => absurd h (by decide)⟩⟩
    · have e20 : x 20 = _ := hI.out.v 13 (by decide) (gd (hd.out ⟨13, .data⟩ (by simp) rfl))
      go_simp
      exact hK _ _ ⟨Rg.upd x (sl 14) _, by simp [arr, Rg.upd, sl, hx1, e20], hI.out.put (by decide) (Only.refl _ _) rfl ⟨fun h => absurd h (by decide), fun h => absurd h (by decide)⟩⟩
    · have e19 : x 19 = _ := hI.out.v 12 (by decide) (gd (hd.out ⟨12, .data⟩ (by simp) rfl))
      have e21 : x 21 = _ := hI.out.v 14 (by decide) (gd (hd.out ⟨14, .data⟩ (by simp) rfl))
      refine step_calln rfl 18 _ _ rfl (enters_of Tryz.func18 (by kernel_rfl) rfl) #[.int .i64 3, .int .i64 burst] (by simp [Act.eval, e19, e21]) (fun r w' => nV w1 g hk1 c' quota burst q 15 r w' ∧ Only (fun _ => False) W w') ?_ ?_
      · exact (Bk.new_any 3 burst W (by omega) (by omega) (by omega) (by omega)).mono (fun e w' h => by obtain ⟨h1, rfl⟩ := h; exact ⟨_, h1, ⟨_, rfl, (by rw [show Bk.clip 3 = 3 from by decide, show Bk.clip burst = burst by unfold Bk.clip; omega]; exact b_new W _), hI.out.o.size⟩, (Only.refl _ _).alloc _⟩)
      · rintro r w' ⟨hv, ho⟩
        exact hK _ _ ⟨Rg.upd x (sl 15) r, rfl, hI.out.put (by decide) ho hv ⟨fun h => absurd h (by decide), fun h => absurd h (by decide)⟩⟩
    · refine step_calln rfl 19 _ _ rfl (enters_of Tryz.func19 (by kernel_rfl) rfl) #[] (by simp) (fun r w' => nV w1 g hk1 c' quota burst q 16 r w' ∧ Only (fun _ => False) W w') ?_ ?_
      · exact (clockNew_any W).mono (fun e w' h => by obtain ⟨b, ka, h1, h2, h3, h4⟩ := h; exact ⟨_, h1, ⟨b, ka, rfl, h2⟩, h4⟩)
      · rintro r w' ⟨hv, ho⟩
        exact hK _ _ ⟨Rg.upd x (sl 16) r, rfl, hI.out.put (by decide) ho hv ⟨fun h => absurd h (by decide), fun h => absurd h (by decide)⟩⟩
    · go_simp
      exact hK _ _ ⟨Rg.upd x (sl 17) _, by simp [arr, Rg.upd, sl, hx1], hI.out.put (by decide) (Only.refl _ _) rfl ⟨fun h => absurd h (by decide), fun h => absurd h (by decide)⟩⟩
    · have e24 : x 24 = _ := hI.out.v 17 (by decide) (gd (hd.out ⟨17, .data⟩ (by simp) rfl))
      go_simp
      exact hK _ _ ⟨Rg.upd x (sl 18) _, by simp [arr, Rg.upd, sl, hx1, e24], hI.out.put (by decide) (Only.refl _ _) rfl ⟨fun h => absurd h (by decide), fun h => absurd h (by decide)⟩⟩
    · have e25 : x 25 = _ := hI.out.v 18 (by decide) (gd (hd.out ⟨18, .data⟩ (by simp) rfl))
      refine step_calln rfl 20 _ _ rfl (enters_of Tryz.func20 (by kernel_rfl) rfl) #[.int .i64 q] (by simp [Act.eval, e25]) (fun r w' => nV w1 g hk1 c' quota burst q 19 r w' ∧ Only (fun _ => False) W w') ?_ ?_
      · obtain ⟨qn, rfl⟩ : ∃ qn : Nat, q = qn := ⟨q.toNat, by omega⟩; exact (robinNew_any W qn (by omega) (by omega)).mono (fun e w' h => ⟨_, h.1, ⟨_, rfl, h.2.1, hI.out.o.size⟩, h.2.2⟩)
      · rintro r w' ⟨hv, ho⟩
        exact hK _ _ ⟨Rg.upd x (sl 19) r, rfl, hI.out.put (by decide) ho hv ⟨fun h => absurd h (by decide), fun h => absurd h (by decide)⟩⟩
    · refine step_calln rfl 21 _ _ rfl (enters_of Tryz.func21 (by kernel_rfl) rfl) #[] (by simp) (fun r w' => nV w1 g hk1 c' quota burst q 20 r w' ∧ Only (fun _ => False) W w') ?_ ?_
      · exact (default_any W).mono (fun e w' h => ⟨_, h.1, rfl, h.2⟩)
      · rintro r w' ⟨hv, ho⟩
        exact hK _ _ ⟨Rg.upd x (sl 20) r, rfl, hI.out.put (by decide) ho hv ⟨fun h => absurd h (by decide), fun h => absurd h (by decide)⟩⟩
    · have e7 : x 7 = _ := hI.out.v 0 (by decide) (gd (hd.out ⟨0, .data⟩ (by simp) rfl))
      obtain ⟨mb, e10, r1, r2⟩ := hI.out.v 3 (by decide) (gd (hd.out ⟨3, .data⟩ (by simp) rfl))
      obtain ⟨cm, e11, m1, m2⟩ := hI.out.v 4 (by decide) (gd (hd.out ⟨4, .data⟩ (by simp) rfl))
      obtain ⟨jm, e12, j1, j2⟩ := hI.out.v 5 (by decide) (gd (hd.out ⟨5, .data⟩ (by simp) rfl))
      obtain ⟨lm, e13, l1, l2⟩ := hI.out.v 6 (by decide) (gd (hd.out ⟨6, .data⟩ (by simp) rfl))
      obtain ⟨pb, e16⟩ := hI.out.v 9 (by decide) (gd (hd.out ⟨9, .data⟩ (by simp) rfl))
      obtain ⟨hb, e17⟩ := hI.out.v 10 (by decide) (gd (hd.out ⟨10, .data⟩ (by simp) rfl))
      obtain ⟨bb, e22, b1, b2⟩ := hI.out.v 15 (by decide) (gd (hd.out ⟨15, .data⟩ (by simp) rfl))
      obtain ⟨rb, e26, q1, q2⟩ := hI.out.v 19 (by decide) (gd (hd.out ⟨19, .data⟩ (by simp) rfl))
      obtain ⟨kb, ka, e23, k1'⟩ := hI.out.v 16 (by decide) (gd (hd.out ⟨16, .data⟩ (by simp) rfl))
      have e27 : x 27 = _ := hI.out.v 20 (by decide) (gd (hd.out ⟨20, .data⟩ (by simp) rfl))
      simp only [show sl 3 = 10 from rfl] at e10
      simp only [show sl 4 = 11 from rfl] at e11
      simp only [show sl 5 = 12 from rfl] at e12
      simp only [show sl 6 = 13 from rfl] at e13
      simp only [show sl 9 = 16 from rfl] at e16
      simp only [show sl 10 = 17 from rfl] at e17
      simp only [show sl 15 = 22 from rfl] at e22
      simp only [show sl 16 = 23 from rfl] at e23
      simp only [show sl 19 = 26 from rfl] at e26
      have hne := hI.out.ne (gd (hd.out ⟨4, .data⟩ (by simp) rfl)) (gd (hd.out ⟨5, .data⟩ (by simp) rfl))
      rw [e11, e12] at hne
      have hne' : jm ≠ cm := fun e => hne (by rw [e])
      replace r1 := hid r1; replace m1 := hid m1; replace j1 := hid j1; replace l1 := hid l1; replace b1 := hid b1; replace q1 := hid q1; replace k1' := hid k1'; clear hne
      unfold slotV at e7; unfold confV at e27
      go_simp
      exact hK _ _ ⟨Rg.upd x (sl 21) (.agg (cellRow ⟨0, mb, cm, jm, lm, pb, hb, bb, kb, rb, hk1, c', ka, quota, burst, q⟩ (s0 quota burst))), by simp [arr, Rg.upd, sl, hx1, e7, e10, e11, e12, e13, e16, e17, e22, e23, e26, e27, cellRow, s0], hI.out.put (by decide) (Only.refl _ _) ⟨⟨0, mb, cm, jm, lm, pb, hb, bb, kb, rb, hk1, c', ka, quota, burst, q⟩, rfl, rfl, rfl, ⟨r1.out, m1.out, j1.out, hne', b1.out, k1'.out, q1.out, ⟨r2, m2, b2, q2⟩, ⟨rfl, rfl, rfl⟩⟩⟩ ⟨fun h => absurd h (by decide), fun h => absurd h (by decide)⟩⟩
    · obtain ⟨d, e28, rfl, rfl, d3⟩ := hI.out.v 21 (by decide) (gd (hd.out ⟨21, .data⟩ (by simp) rfl))
      simp only [show sl 21 = 28 from rfl] at e28
      replace d3 := hid d3
      unfold cellRow s0 at e28
      go_simp
      have hN := b_new W (.cells (cellRow d (s0 quota burst)) 70)
      exact hK _ _ ⟨Rg.upd x (sl 22) (.pointer (some ⟨W.heap.size, 0, none⟩)), by simp [arr, Rg.upd, sl, hx1, e28], hI.out.put (by decide) ((Only.refl _ _).alloc _) ⟨{ d with cb := W.heap.size }, rfl, hN, rfl, rfl, (Made.keep (d := { d with cb := W.heap.size }) ⟨d3.out.rs, d3.out.cm, d3.out.jm, d3.out.ne, d3.out.bk, d3.out.clk, d3.out.rob, d3.out.lo, d3.out.fix⟩ ((Only.refl _ _).alloc _)), hI.out.o.size⟩ ⟨fun h => absurd h (by decide), fun h => absurd h (by decide)⟩⟩
    · have e29 := hI.out.v 22 (by decide) (gd (hd.out ⟨22, .data⟩ (by simp) rfl))
      replace e29 := hid e29
      go_simp
      exact hK _ _ ⟨Rg.upd x (sl 23) (x 29), by simp [arr, Rg.upd, sl, hx1], hI.out.put (by decide) (Only.refl _ _) e29.out ⟨fun h => absurd h (by decide), fun h => absurd h (by decide)⟩⟩
end Go.Proofs.YtpblgjadpfecgaaGreatDoor
