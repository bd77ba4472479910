/-
  A cell: a round.
-/
import Derived.Test.YtpblgjadpfecgaaGreatDoorFv
set_option linter.unusedSimpArgs false
set_option linter.unusedVariables false
namespace Go.Proofs.YtpblgjadpfecgaaGreatDoor
open Go.RowKit Go.Maps

/-- In the middle of the grants. -/
structure Wrt (s si : St) (gs : List (Nat × Nat)) (i : Nat) : Prop where
  n_ : si.n = s.n
  M_ : si.M = s.M
  cr : si.cr = s.cr
  op : Opens si
  wts : ∀ k, k < s.n → wt si k + got (gs.take i) (k + 1) = wt s k
  tots : tot (fsOf s.n (wt si)) + tot (gs.take i) = tot (fsOf s.n (wt s))
  osl : si.os.length = i
  os : ∀ (r : Nat) (g : Nat × Nat), r < i → gs[r]? = some g → ∃ A c, si.os[r]? = some (1, (g.1 : Int), A, g.2, c)
theorem got_one (k n id : Nat) : got [(k, n)] id = if k = id then n else 0 := by simp [got]
theorem take_one {gs : List (Nat × Nat)} {i : Nat} {g : Nat × Nat} (h : gs[i]? = some g) : gs.take (i + 1) = gs.take i ++ [g] := by rw [List.take_add_one, h]; rfl
theorem Wrt.room {s si : St} {gs : List (Nat × Nat)} {i k n q cr cr' : Nat} (h : Wrt s si gs i) (hg : gs[i]? = some (k + 1, n)) (hk : k < s.n) (G : Grants (fsOf s.n (wt s)) q cr cr' gs) : n ≤ wt si k := by
  have h1 := G.le (k + 1)
  rw [got_fsOf _ _ _ hk, got_at gs i _ (k + 1) hg] at h1
  have h2 := h.wts k hk
  simp only [if_true] at h1
  omega
theorem Wrt.step {s si : St} {gs : List (Nat × Nat)} {i k n ga : Nat} {A : Option Addr} {c : Nat} {OA' : Option Addr} {oc' : Nat} (h : Wrt s si gs i) (hg : gs[i]? = some (ga, n)) (hga : ga = k + 1) (hk : k < s.n) (hn : n ≤ wt si k) :
    Wrt s { si.wrote k n with OA := OA', oc := oc', os := si.os ++ [(1, (ga : Int), A, n, c)] } gs (i + 1) where
  n_ := h.n_
  M_ := h.M_
  cr := h.cr
  op := by
    obtain ⟨o1, o2, o3, o4, o5⟩ := (h.op.wrote (k := k) (by rw [h.n_]; exact hk) hn).1
    exact ⟨o1, o2, o3, o4, o5⟩
  wts := fun j hj => by
    have h1 := h.wts j hj
    rw [take_one hg, got_app, got_one, hga]
    show wt (si.wrote k n) j + _ = _
    by_cases e : j = k
    · subst e
      rw [wrote_at, if_pos rfl]
      omega
    · rw [wrote_ne _ _ _ _ e, if_neg (by omega)]
      omega
  tots := by
    have h1 := (h.op.wrote (k := k) (by rw [h.n_]; exact hk) hn).2
    have h2 := h.tots
    rw [h.n_] at h1
    rw [take_one hg, tot_app]
    show tot (fsOf s.n (wt (si.wrote k n))) + (_ + tot [(ga, n)]) = _
    simp only [tot]
    omega
  osl := by
    show (si.os ++ [_]).length = _
    rw [List.length_append, h.osl]
    rfl
  os := fun r g hr hgr => by
    show ∃ A' c', (si.os ++ [(1, (ga : Int), A, n, c)])[r]? = _
    by_cases e : r < i
    · obtain ⟨A', c', h'⟩ := h.os r g e hgr
      exact ⟨A', c', by rw [List.getElem?_append_left (by rw [h.osl]; exact e)]; exact h'⟩
    · obtain rfl : r = i := by omega
      rw [hg] at hgr
      cases hgr
      refine ⟨A, c, ?_⟩
      rw [List.getElem?_append_right (by rw [h.osl]; omega), h.osl, Nat.sub_self]
      rfl
/-- What a round has turned. -/
structure Rnd (s s' : St) (q cr : Nat) (gs : List (Nat × Nat)) : Prop where
  n_ : s'.n = s.n
  M_ : s'.M = s.M
  op : Opens s'
  cr : ∃ cr' : Nat, s'.cr = cr' ∧ Grants (fsOf s.n (wt s)) q cr cr' gs
  tots : tot (fsOf s.n (wt s')) + tot gs = tot (fsOf s.n (wt s))
  osl : s'.os.length = gs.length
  os : ∀ (r : Nat) (g : Nat × Nat), gs[r]? = some g → ∃ A c, s'.os[r]? = some (1, (g.1 : Int), A, g.2, c)

def RI1 (w1 : World) (n b : Nat) (f : Nat → Nat) (fv iv : Value) (wr : World) : Prop :=
  ∃ (i : Nat) (A : Option Addr) (c : Nat), i ≤ n ∧ fv = .slice A i c ∧ iv = .int .i64 (i : Int) ∧ Hid (Own wr b 174 2 A i c (gV (fsOf i f))) ∧ Hid (Only (fun _ => False) w1 wr)
def RI3 (w0 : World) (n : Nat) (iv : Value) (wr : World) : Prop := wr = w0 ∧ ∃ i : Nat, i ≤ n ∧ iv = .int .i64 (i : Int)
def RI2 (w2 : World) (d : CellD) (s : St) (G : Nat → Prop) (gs : List (Nat × Nat)) (iv : Value) (wr : World) : Prop :=
  ∃ (i : Nat) (si : St) (Gi : Nat → Prop), i ≤ gs.length ∧ iv = .int .i64 (i : Int) ∧ Hid (Turn w2 wr d s si G Gi) ∧ Hid (Wrt s si gs i)

set_option maxRecDepth 100000 in
set_option maxHeartbeats 4000000 in
theorem cround_any {w : World} {d : CellD} {s : St} {G : Nat → Prop} (q cr : Nat) (h : Hid (CellIn w d s G)) (ho : Opens s) (hos : s.os = []) (hq : d.q = (q : Int)) (hqb : q ≤ 1048576) (hcr : s.cr = (cr : Int)) (hcrb : cr < 64) :
    Calls Tryz.prog 42 #[.pointer (some ⟨d.cb, 0, none⟩)] w fun e w' => ∃ s' G' gs, e = .returned (.tuple #[]) ∧ Hid (Turn w w' d s s' G G') ∧ Hid (Rnd s s' q cr gs) := by
  have c9 := h.out.c9
  obtain ⟨cb, hcb⟩ : ∃ cb, d.cb = cb := ⟨_, rfl⟩
  obtain ⟨n, hn⟩ : ∃ n, s.n = n := ⟨_, rfl⟩
  have hn4 : n ≤ 4 := by have := ho.n4; omega
  have hso := sorted_any d.cm n w.heap.size s.xb (w.alloc (.cells #[.map (some d.cm)] 51)) (by have := h.out.map.keep ((Only.refl (fun _ => False) w).alloc (.cells #[.map (some d.cm)] 51)) (fun h => h); rw [ho.mn, hn] at this; exact this) (by exact b_cell (b_new w _) 0) (by omega)
  rw [hcb] at c9 ⊢
  replace ho := hid ho
  replace hos := hid hos
  replace hq := hid hq
  replace hcr := hid hcr
  replace hn := hid hn
  replace hcb := hid hcb
  replace hso := hid hso
  go_enter Tryz.func42, Tryz.ntmps42
  go_wp2_with (first | (go_at_call 75; refine (keys_any _ _).mono ?_; rintro e w0 ⟨rfl, rfl⟩) | (go_at_call 74; refine hso.out.mono ?_; rintro e w1 ⟨IA, ic, rfl, hI, hIb, O1⟩) | fail)
  have O01 := ((Only.refl (fun _ => False) w).alloc (.cells #[.map (some d.cm)] 51)).trans O1
  have T1 := Turn.quiet h.out O01
  have C1 := T1.cell
  have hIz : ∀ i, ab IA i → ¬ Zb d s G i ∧ i < w1.heap.size := fun i hi => ⟨fun hz => by
    have h1 := h.out.Zlt i hz
    have h2 := (hIb i hi).1
    have h3 := ((Only.refl (fun _ => False) w).alloc (.cells #[.map (some d.cm)] 51)).size
    omega, (hIb i hi).2⟩
  replace hI := hid hI
  replace hIz := hid hIz
  replace T1 := hid T1
  replace C1 := hid C1
  clear hIb O01 O1 hso c9
  go_wp2_with fail
  go_loopw [3, 18] (fun fv iv wr => RI1 w1 n w1.heap.size (wt s) fv iv wr) (fun _ iv _ => n - (intOf iv).toNat)
  case atStart => exact ⟨0, none, 0, Nat.zero_le _, rfl, rfl, hid (Own.nil _ _ _ _), hid (Only.refl _ _)⟩
  case round =>
    unfold RI1 at hrel
    obtain ⟨i, FA, fc, hi, rfl, rfl, HF, O2⟩ := hrel
    have C2 := C1.out.same O2.out (fun _ h => h.elim)
    by_cases hlt : i < n
    · have hlt' : (i : Int) < n := by omega
      have hin : i < s.n := by have := hn.out; omega
      obtain ⟨id, hid1⟩ : ∃ id : Nat, id = i + 1 := ⟨_, rfl⟩
      have eid : ((i : Int) + 1) = (id : Int) := by omega
      obtain ⟨ib, ioff, rfl, hib, hic⟩ := (hI.out.same O2.out).at_ i (.int .i64 (id : Int)) (by rw [List.getElem?_map, idsL_at hlt, ← eid]; rfl)
      have c9 := C2.c9
      have hlk := C2.map.look i (by have := ho.out.mn; omega) (by have := ho.out.mn; have := ho.out.n4; omega)
      have hwa := want_any i (wt s i) (hid C2) hin rfl (ho.out.len i hin).1
      obtain ⟨x, hx⟩ : ∃ x, s.xb i = x := ⟨_, rfl⟩
      obtain ⟨m, hm⟩ : ∃ m, wt s i = m := ⟨_, rfl⟩
      rw [eid, hx] at hlk
      rw [hx, hm] at hwa
      rw [hcb.out] at c9
      have hbw := O2.out.size
      replace hwa := hid hwa
      replace eid := hid eid
      replace hm := hid hm
      replace hid1 := hid hid1
      replace HF := hid HF
      clear C2 hx
      go_wp2_with (first | (go_at_call 76; refine hwa.out.mono ?_; rintro e w3 ⟨rfl, O3⟩; have hb3 := O3.size) | (at_builtin; refine app_rows rfl _ _ 172 174 (.agg #[.int .i64 0, .int .i64 0]) 2 16 Tryz.underlying172 info_flow rfl (by omega) (by omega) rfl w1.heap.size i fc 1 1 FA (some ⟨w3.heap.size, 0, none⟩) (gV (fsOf i (wt s))) (gV [(id, m)]) rfl rfl (Own.same HF.out.out (O3.alloc _)) (row_of (l := gV [(id, m)]) (b_new w3 _)) (by rfl) (gV_one _) (by intro h; cases h) (by simp; omega) (by omega) ?_; intro A4 c4 w4 h4 h4' o4) | fail)
      go_roundw
      case rel => exact ⟨i + 1, A4, c4, by omega, rfl, rfl, hid (by rw [show gV (fsOf (i + 1) (wt s)) = gV (fsOf i (wt s)) ++ gV [(id, m)] by rw [fsOf_succ, gV_app, hm.out, ← hid1.out]]; exact h4), hid (((O2.out.trans O3).alloc _).trans' o4 (fun j hj => .inr (HF.out.out.blk j hj).1))⟩
      case measure => simp [intOf]; omega
    · obtain rfl : i = n := by omega
      have c9 := C2.c9
      have c16 := C2.c16
      have O12 := O2.out
      rw [hcb.out] at c9 c16
      have hrr := round_rb (fsOf i (wt s)) FA i fc d.rb q cr s.last s.any wr (fsOf_len _ _) HF.out.row (fun e => by
        rcases HF.out.2 with hv | ⟨g, cur, fz, hv, _⟩
        · exact ⟨hv.2.1, hv.2.2⟩
        · rw [hv] at e; cases e) hn4 (up_fsOf _ _) (fun p hp => by obtain ⟨k, hk, rfl⟩ := fsOf_mem hp; show k + 1 ≤ _; omega) (by have := ho.out.small; rw [hn.out] at this; exact this) hqb hcrb (by
          have := C2.rob
          rw [hq.out, hcr.out] at this
          exact this)
      have hZ2 := C2.Zlt
      replace hrr := hid hrr
      replace C2 := hid C2
      replace hZ2 := hid hZ2
      clear C1 HF
      go_wp2_with fail
      refine hrr.out.mono ?_
      rintro e w3 ⟨gs, OA, oc, cr', last', any', rfl, HG, hGr, hR3, O3⟩
      have T3 := (T1.out.trans (Turn.quiet T1.out.cell O12)).trans (Turn.robin C2.out O3 (cr' := cr') (last' := last') (any' := any') (by have := hR3.out; unfold RbAt at this; rw [hq.out]; exact this))
      have C3 := T3.cell
      have hGz : ∀ j, ab OA j → ¬ Zb d { s with cr := cr', last := last', any := any' } G j ∧ j < w3.heap.size := fun j hj => ⟨fun hz => by
        have h1 := hZ2.out j hz
        have h2 := (HG.blk j hj).1
        omega, (HG.blk j hj).2⟩
      have hI3 := (hI.out.same O12).keep O3 (fun j hj e => (hIz.out j hj).1 (by rw [e]; exact .inr (.inr (.inr (.inl rfl)))))
      have hIz3 : ∀ j, ab IA j → ¬ Zb d { s with cr := cr', last := last', any := any' } G j ∧ j < w3.heap.size := fun j hj => ⟨(hIz.out j hj).1, by have := (hIz.out j hj).2; have := O12.size; have := O3.size; omega⟩
      have ho3 : Opens { s with cr := cr', last := last', any := any' } := ⟨ho.out.mn, ho.out.n4, ho.out.len, ho.out.sum, ho.out.small⟩
      have ecr : ({ s with cr := cr', last := last', any := any' } : St).cr = cr' := rfl
      have en : ({ s with cr := cr', last := last', any := any' } : St).n = i := hn.out
      have eM : ({ s with cr := cr', last := last', any := any' } : St).M = s.M := rfl
      have ewt : wt { s with cr := cr', last := last', any := any' } = wt s := rfl
      have eos : ({ s with cr := cr', last := last', any := any' } : St).os = [] := hos.out
      generalize ({ s with cr := cr', last := last', any := any' } : St) = s3 at T3 C3 hGz hIz3 ho3 ecr en eM ewt eos
      have HG3 := HG.row
      replace T3 := hid T3
      have T3' := T3
      replace C3 := hid C3
      replace hGz := hid hGz
      replace hI3 := hid hI3
      replace hIz3 := hid hIz3
      replace ho3 := hid ho3
      replace ecr := hid ecr
      replace en := hid en
      replace eM := hid eM
      replace ewt := hid ewt
      replace eos := hid eos
      replace HG3 := hid HG3
      clear hrr HG hR3 O3 T1 hI hIz ho hos hcr h c9 c16 hZ2 O12 O2 C2
      go_wp2_with fail
      go_loopw [42] (fun iv wr => RI2 w3 d s3 G gs iv wr) (fun iv _ => gs.length - (intOf iv).toNat)
      case atStart => exact ⟨0, s3, G, Nat.zero_le _, rfl, hid (Turn.refl C3.out), hid ⟨rfl, rfl, rfl, ho3.out, fun k hk => by simp [got], by simp [tot], by rw [eos.out]; rfl, fun r g hr => by omega⟩⟩
      case round =>
        unfold RI2 at hrel
        obtain ⟨j, si, Gi, hj, rfl, Ti, Wi⟩ := hrel
        have Ci := Ti.out.cell
        by_cases hlt : j < gs.length
        · have hlt' : (j : Int) < gs.length := by omega
          obtain ⟨g, hg⟩ : ∃ g, gs[j]? = some g := ⟨_, List.getElem?_eq_getElem hlt⟩
          obtain ⟨_, hg64, p, hp, hpg⟩ := hGr.out.each g (List.mem_of_getElem? hg)
          obtain ⟨k, hk, rfl⟩ := fsOf_mem hp
          obtain ⟨ga, gn⟩ := g
          have hga : k + 1 = ga := hpg
          have hga' : ((k : Int) + 1) = (ga : Int) := by omega
          have hks : k < s3.n := by have := en.out; omega
          have hki : k < si.n := by rw [Wi.out.n_]; exact hks
          have hg' : gs[j]? = some (k + 1, gn) := by rw [hg, hga]
          have hroom := Wi.out.room hg' hks (by rw [en.out, ewt.out]; exact hGr.out)
          have HGi := HG3.out.keep Ti.out.only (fun x hx => (hGz.out x hx).1)
          obtain ⟨gb, goff, rfl, hgb, hgc0, hgc1⟩ := flow_at HGi j _ hg
          have hgl : gs.length ≤ 1000000 := by
            have h1 := len_tot gs (fun r hr => (hGr.out.each r hr).1)
            have h2 : tot gs ≤ tot (fsOf i (wt s)) := by have := hGr.out.fin; omega
            have h3 := ho3.out.small
            rw [en.out, ewt.out] at h3
            omega
          have hwop := Wi.out.op
          have hH : wt si k ≤ tot (fsOf si.n (wt si)) := by have := got_le_tot (fsOf si.n (wt si)) (k + 1); rw [got_fsOf _ _ _ hki] at this; exact this
          replace Ti := hid Ti
          replace Ci := hid Ci
          replace Wi := hid Wi
          replace HGi := hid HGi
          replace hg := hid hg
          replace hg' := hid hg'
          replace hwop := hid hwop
          clear hp hpg hga
          go_upto_region 10 with (fail)
          have hbx := b_new wr (.cells #[.int .i64 (ga : Int), .int .i64 (gn : Int)] 178)
          have Oa := (Only.refl (fun _ => False) wr).alloc (.cells #[.int .i64 (ga : Int), .int .i64 (gn : Int)] 178)
          have hbz : ¬ Zb d si Gi wr.heap.size := fun hz => by have := Ci.out.Zlt _ hz; omega
          obtain ⟨bx, hbxe⟩ : ∃ bx, wr.heap.size = bx := ⟨_, rfl⟩
          rw [hbxe] at hbx hbz ⊢
          generalize wr.alloc (.cells #[.int .i64 (ga : Int), .int .i64 (gn : Int)] 178) = wb at hbx Oa ⊢
          have Tb := Turn.quiet Ci.out Oa
          have Cb := Tb.cell
          have c9 := Cb.c9
          have hlk1 := (Cb.map.keep ((Only.refl (fun _ => False) wb).drew) (fun h => h)).look k (by have := hwop.out.mn; omega) (by have := hwop.out.mn; have := hwop.out.n4; omega)
          have hcw := fun (W : World) (o : Only (fun _ => False) wb W) => cwrite_any (w := W) k (wt si k) gn (hid (Cb.same o (fun _ h => h.elim))) hki rfl (hwop.out.len k hki).1 (hwop.out.len k hki).2 hroom (by have := hwop.out.sum; omega)
          have b0 := b_cell hbx 0
          have b1 := b_cell hbx 1
          obtain ⟨x, hx⟩ : ∃ x, si.xb k = x := ⟨_, rfl⟩
          rw [hx] at hcw hlk1
          rw [hga'] at hlk1
          rw [hcb.out] at c9
          replace hcw := hid hcw
          replace Cb := hid Cb
          replace Tb := hid Tb
          replace hbx := hid hbx
          replace hbz := hid hbz
          clear hx hbxe hgc0 hgc1
          go_region_held3 (fun w' => w'.cell? ⟨cb, 9, none⟩ = some (.map (some d.cm)) ∧ w'.cell? ⟨bx, 0, none⟩ = some (.int .i64 (ga : Int)) ∧ w'.cell? ⟨bx, 1, none⟩ = some (.int .i64 (gn : Int))) (go_keep)
            (first
              | (go_at_call 78; refine (hcw.out _ ((Only.refl _ wb).drew)).mono ?_; rintro e w5 ⟨A, c, rfl, T5⟩; have c9' := T5.out.cell.c9; rw [hcb.out] at c9'; have hb5 := hid (T5.out.only.keep hbx.out hbz.out); have b0' := b_cell hb5.out 0; have b1' := b_cell hb5.out 1; have hout := out_any 1 (ga : Int) A gn c (hid T5.out.cell) (show si.os.length ≤ 1000000 by have := Wi.out.osl; omega); rw [hcb.out] at hout; replace hout := hid hout)
              | (go_at_call 28; refine hout.out.mono ?_; rintro e w6 ⟨OA', oc', rfl, T6⟩; have c9'' := T6.out.cell.c9; rw [hcb.out] at c9''; have hb6 := hid ((T5.out.trans T6.out).only.keep hbx.out hbz.out); have b0'' := b_cell hb6.out 0; have b1'' := b_cell hb6.out 1))
          have T56 := Tb.out.trans ((Turn.quiet Cb.out ((Only.refl (fun _ => False) wb).drew)).trans (T5.out.trans T6.out))
          have W6 := Wrt.step (OA' := OA') (oc' := oc') (A := A) (c := c) Wi.out hg.out (by omega) hks hroom
          have T6' := hid (Ti.out.trans T56)
          replace W6 := hid W6
          clear hcw hout T56 T5 T6 b0 b1 c9
          go_wp2_with fail
          go_roundw
          case rel => exact ⟨j + 1, _, Gi, by omega, rfl, T6', W6⟩
          case measure => simp [intOf]; omega
        · obtain rfl : j = gs.length := by omega
          have hIi := hI3.out.keep Ti.out.only (fun x hx => (hIz3.out x hx).1)
          have hni : si.n = i := by rw [Wi.out.n_, en.out]
          have hwop := Wi.out.op
          replace Ti := hid Ti
          replace Ci := hid Ci
          replace Wi := hid Wi
          replace hIi := hid hIi
          replace hni := hid hni
          replace hwop := hid hwop
          clear hI3 hIz3 T3 C3 HG3 hGz
          go_wp2_with fail
          go_loopw [64] (fun iv wq => RI3 wr i iv wq) (fun iv _ => i - (intOf iv).toNat)
          case atStart => exact ⟨rfl, 0, Nat.zero_le _, rfl⟩
          case round =>
            unfold RI3 at hrel
            obtain ⟨rfl, y, hy, rfl⟩ := hrel
            by_cases hlt : y < i
            · have hlt' : (y : Int) < i := by omega
              have hyn : y < si.n := by have := hni.out; omega
              obtain ⟨id, hid1⟩ : ∃ id : Nat, id = y + 1 := ⟨_, rfl⟩
              have eid : ((y : Int) + 1) = (id : Int) := by omega
              obtain ⟨ib, ioff, rfl, hib, hic⟩ := hIi.out.at_ y (.int .i64 (id : Int)) (by rw [List.getElem?_map, idsL_at hlt, ← eid]; rfl)
              have c9 := Ci.out.c9
              have hlk := Ci.out.map.look y (by have := hwop.out.mn; omega) (by have := hwop.out.mn; have := hwop.out.n4; omega)
              have hdn := done_any y Ci hyn
              obtain ⟨x, hx⟩ : ∃ x, si.xb y = x := ⟨_, rfl⟩
              rw [eid, hx] at hlk
              rw [hx] at hdn
              rw [hcb.out] at c9
              replace hdn := hid hdn
              replace eid := hid eid
              replace hid1 := hid hid1
              clear hx
              go_wp2_with (first | (go_at_call 79; refine hdn.out.mono ?_; rintro e w7 ⟨rfl, rfl⟩) | fail)
              go_roundw
              case rel => exact ⟨rfl, y + 1, by omega, rfl⟩
              case measure => simp [intOf]; omega
            · obtain rfl : y = i := by omega
              go_wp2_with fail
              go_end0
              refine ⟨si, Gi, gs, rfl, hid (T3'.out.trans Ti.out), hid ?_⟩
              have W := Wi.out
              refine ⟨by rw [W.n_, en.out]; exact hn.out.symm, by rw [W.M_, eM.out], W.op, ⟨cr', by rw [W.cr, ecr.out], ?_⟩, ?_, W.osl, fun r g h => W.os r g (List.getElem?_eq_some_iff.1 h).1 h⟩
              · rw [hn.out]; exact hGr.out
              · have := W.tots
                rw [List.take_length, en.out, ewt.out] at this
                rw [hn.out]
                exact this
end Go.Proofs.YtpblgjadpfecgaaGreatDoor
/-
  A cell: Do at a round; what is written.
-/
namespace Go.Proofs.YtpblgjadpfecgaaGreatDoor
open Go.RowKit Go.Maps

def evRound : Value := .agg #[.int .i64 11, .int .i64 0, .string ⟨#[]⟩, .int .i64 0, .int .i64 0, .slice none 0 0]
/-- What a round has turned, told. -/
structure Rounded (s s' : St) (q cr : Nat) (gs : List (Nat × Nat)) : Prop where
  n_ : s'.n = s.n
  M_ : s'.M = s.M
  op : Opens s'
  os : s'.os = []
  cr : ∃ cr' : Nat, s'.cr = cr' ∧ Grants (fsOf s.n (wt s)) q cr cr' gs
  tots : tot (fsOf s.n (wt s')) + tot gs = tot (fsOf s.n (wt s))
def Wos (gs : List (Nat × Nat)) (os : List OV) : Prop := os.length = gs.length ∧ ∀ (r : Nat) (g : Nat × Nat), gs[r]? = some g → ∃ A c, os[r]? = some (1, (g.1 : Int), A, g.2, c)

set_option maxRecDepth 100000 in
set_option maxHeartbeats 2000000 in
theorem do_any {w : World} {d : CellD} {s : St} {G : Nat → Prop} (q cr : Nat) (h : Hid (CellIn w d s G)) (ho : Opens s) (hos : s.os = []) (hq : d.q = (q : Int)) (hqb : q ≤ 1048576) (hcr : s.cr = (cr : Int)) (hcrb : cr < 64) :
    Calls Tryz.prog 10 #[.pointer (some ⟨d.cb, 0, none⟩), evRound] w fun e w' => ∃ s' G' gs OA oc os, e = .returned (.slice OA gs.length oc) ∧ Hid (Turn w w' d s s' G G') ∧ Hid (Rounded s s' q cr gs) ∧ Row w' OA (oV os) ∧ Hid (Wos gs os) := by
  unfold evRound
  obtain ⟨cb, hcb⟩ : ∃ cb, d.cb = cb := ⟨_, rfl⟩
  have hrd := fun (W : World) (o : Only (fun _ => False) w W) => cround_any (w := W) q cr (hid (h.out.same o (fun _ h => h.elim))) ho hos hq hqb hcr hcrb
  have h0 := fun (W : World) (o : Only (fun _ => False) w W) => h.out.same o (fun _ h => h.elim)
  have P0 := Only.refl (fun _ => False) w
  rw [hcb] at hrd ⊢
  replace hcb := hid hcb
  replace hrd := hid hrd
  replace h0 := hid h0
  go_enter Tryz.func10, Tryz.ntmps10
  go_upto_region 21 with (fail)
  have P1 := P0.alloc (.cells #[.int .i64 11, .int .i64 0, .string ⟨#[]⟩, .int .i64 0, .int .i64 0, .slice none 0 0] 37)
  generalize w.alloc (.cells #[.int .i64 11, .int .i64 0, .string ⟨#[]⟩, .int .i64 0, .int .i64 0, .slice none 0 0] 37) = w1 at P1 ⊢
  have T1 := Turn.quiet h.out P1
  replace T1 := hid T1
  replace hrd := hid (hrd.out _ P1)
  clear P0 P1 h0
  go_wp2_with fail
  refine hrd.out.mono ?_
  rintro e w2 ⟨s2, G2, gs, rfl, T2, R2⟩
  have htd := told_own (hid T2.out.cell)
  have hl := R2.out.osl
  rw [hcb.out, hl] at htd
  replace htd := hid htd
  replace hl := hid hl
  replace R2 := hid R2
  clear hrd
  go_wp2_with fail
  refine htd.out.mono ?_
  rintro e w3 ⟨rfl, T3, O3⟩
  go_wp2_with fail
  go_ret
  have R := R2.out.out
  have o2 := R.op
  exact ⟨_, G2, gs, s2.OA, s2.oc, s2.os, rfl, hid ((T1.out.trans T2.out).trans T3.out), hid ⟨R.n_, R.M_, ⟨o2.mn, o2.n4, o2.len, o2.sum, o2.small⟩, rfl, R.cr, R.tots⟩, O3.row, hid ⟨hl.out, R.os⟩⟩
end Go.Proofs.YtpblgjadpfecgaaGreatDoor
/-
  What is written.
-/
namespace Go.Proofs.YtpblgjadpfecgaaGreatDoor
open Go.RowKit Go.Maps

def WI (w : World) (gs : List (Nat × Nat)) (nv iv : Value) (wr : World) : Prop := ∃ i : Nat, i ≤ gs.length ∧ nv = .int .i64 (tot (gs.take i) : Nat) ∧ iv = .int .i64 (i : Int) ∧ Hid (Only (fun _ => False) w wr)
set_option maxRecDepth 100000 in
set_option maxHeartbeats 2000000 in
theorem written_any (gs : List (Nat × Nat)) (os : List OV) (OA : Option Addr) (oc : Nat) (w : World) (hR : Row w OA (oV os)) (hw : Hid (Wos gs os)) (ht : tot gs ≤ 1000000) (hl : gs.length ≤ 1000000) :
    Calls Tryz.prog 9 #[.slice OA gs.length oc] w fun e w' => e = .returned (.int .i64 (tot gs : Nat)) ∧ Only (fun _ => False) w w' := by
  replace hR := hid hR
  go_enter Tryz.func9, Tryz.ntmps9
  go_wp2_with fail
  go_loopw [3, 8] (fun nv iv wr => WI w gs nv iv wr) (fun _ iv _ => gs.length - (intOf iv).toNat)
  case atStart => exact ⟨0, Nat.zero_le _, rfl, rfl, hid (Only.refl _ _)⟩
  case round =>
    unfold WI at hrel
    obtain ⟨i, hi, rfl, rfl, O⟩ := hrel
    by_cases hlt : i < gs.length
    · have hlt' : (i : Int) < gs.length := by omega
      obtain ⟨g, hg⟩ : ∃ g, gs[i]? = some g := ⟨_, List.getElem?_eq_getElem hlt⟩
      obtain ⟨ga, gn⟩ := g
      obtain ⟨A, c, ho⟩ := hw.out.2 i _ hg
      obtain ⟨v0, v1, v2, v3, v4, v5⟩ := oV_at os i _ ho
      obtain ⟨b, off, rfl, hb, hc⟩ := (hR.out.same O.out) (fun e => by rw [e] at v0; cases v0)
      have d0 := hc _ _ v0
      have d1 := hc _ _ v1
      have d2 := hc _ _ v2
      have d3 := hc _ _ v3
      have d4 := hc _ _ v4
      have d5 := hc _ _ v5
      simp only [← Nat.add_assoc] at d1 d2 d3 d4 d5
      have hts : tot (gs.take (i + 1)) = tot (gs.take i) + gn := by rw [take_one hg, tot_app]; simp [tot]
      have hle : tot (gs.take (i + 1)) ≤ tot gs := by
        have := tot_app (gs.take (i + 1)) (gs.drop (i + 1))
        rw [List.take_append_drop] at this
        omega
      obtain ⟨t1, ht1⟩ : ∃ t1, tot (gs.take i) = t1 := ⟨_, rfl⟩
      have e1 : ((t1 : Int) + gn) = ((tot (gs.take (i + 1)) : Nat) : Int) := by omega
      rw [ht1]
      have hb1 : tot (gs.take (i + 1)) ≤ 1000000 := by omega
      have hb2 : t1 + gn ≤ 1000000 := by omega
      replace hts := hid hts
      replace hle := hid hle
      replace ht1 := hid ht1
      replace e1 := hid e1
      replace hg := hid hg
      clear v0 v1 v2 v3 v4 v5 hc ho
      go_upto_region 5 with (fail)
      have hbx := b_new wr (.cells #[.int .i64 1, .int .i64 (ga : Int), .string sT, .int .i64 0, .string ⟨#[]⟩, .slice A gn c] 40)
      have Oa := (O.out).alloc (.cells #[.int .i64 1, .int .i64 (ga : Int), .string sT, .int .i64 0, .string ⟨#[]⟩, .slice A gn c] 40)
      generalize wr.alloc (.cells #[.int .i64 1, .int .i64 (ga : Int), .string sT, .int .i64 0, .string ⟨#[]⟩, .slice A gn c] 40) = wb at hbx Oa ⊢
      have b0 := b_cell hbx 0
      have b5 := b_cell hbx 5
      replace hbx := hid hbx
      go_wp2_with fail
      go_roundw
      case rel => exact ⟨i + 1, by omega, by rw [← e1.out], rfl, hid Oa⟩
      case measure => simp [intOf]; omega
    · obtain rfl : i = gs.length := by omega
      go_wp2_with fail
      go_ret
      rw [List.take_length]
      exact ⟨rfl, O.out⟩
end Go.Proofs.YtpblgjadpfecgaaGreatDoor
