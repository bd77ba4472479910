/-
  Robin: Round.
-/
import Derived.Test.YtpblgjadpfecgaaGreatDoorFr
set_option linter.unusedSimpArgs false
set_option linter.unusedVariables false
namespace Go.Proofs.YtpblgjadpfecgaaGreatDoor
open Go.RowKit

def crAt (w : World) (rb : Nat) : Nat := match w.cell? ⟨rb, 1, none⟩ with
  | some (.int .i64 x) => x.toNat
  | _ => 0
theorem RbAt.cr {w : World} {rb : Nat} {q last : Int} {cr : Nat} {any : Bool} (h : RbAt w rb q cr last any) : crAt w rb = cr := by
  unfold crAt
  rw [h.cells.2.1]
  exact Int.toNat_natCast _

/-- What holds in the middle of a round. -/
def RInv (fs : List (Nat × Nat)) (g c1 rb q k0 b2 : Nat) (w2 : World) (lv ov : Value) (wr : World) : Prop := ∃ (l gs : List (Nat × Nat)) (k : Nat) (last' : Int) (any' : Bool) (OA : Option Addr) (oc : Nat), lv = .slice (some ⟨g, 0, none⟩) l.length c1 ∧ ov = .slice OA gs.length oc ∧ Hid (FR wr g c1 l) ∧ Hid (OwnG wr b2 178 OA oc gs) ∧ Hid (RbAt wr rb q (k : Nat) last' any') ∧ Hid (Mid fs l gs k0 k) ∧ Hid (Only (fun i => i = rb ∨ i = g) w2 wr)
theorem len_tot : ∀ (l : List (Nat × Nat)), (∀ r ∈ l, 0 < r.2) → l.length ≤ tot l
  | [], _ => Nat.le_refl _
  | p :: t, h => by
    have := len_tot t (fun r hr => h r (by simp [hr]))
    have := h p (by simp)
    simp only [tot, List.length_cons]
    omega
set_option maxRecDepth 100000 in
set_option maxHeartbeats 4000000 in
theorem round_rb (fs : List (Nat × Nat)) (A : Option Addr) (n c rb q cr : Nat) (last : Int) (any : Bool) (w : World) (hl : fs.length = n) (hR : Row w A (gV fs)) (hnil : A = none → n = 0 ∧ c = 0) (hn : n ≤ 4) (hu : Up fs) (hb : ∀ p ∈ fs, p.1 ≤ 1000000) (hb2 : tot fs ≤ 1000000) (hq : q ≤ 1048576) (hcr : cr < 64) (hr : RbAt w rb q cr last any) :
    Calls Tryz.prog 77 #[.pointer (some ⟨rb, 0, none⟩), .slice A n c] w fun e w' => ∃ gs OA oc cr' last' any', e = .returned (.slice OA gs.length oc) ∧ OwnG w' w.heap.size 178 OA oc gs ∧ Hid (Grants fs q cr cr' gs) ∧ Hid (RbAt w' rb q (cr' : Nat) last' any') ∧ Only (· = rb) w w' := by
  have hfl := flows_any A n c fs w hl hR hnil (by omega) hu hb
  have hrl := b_lt hr
  have hM0 := Mid.start fs cr
  have hM1 := Mid.start fs (cr + q)
  obtain ⟨left0, hleft⟩ : ∃ left0, fs.filter (fun p => 0 < p.2) = left0 := ⟨_, rfl⟩
  rw [hleft] at hfl hM0 hM1
  replace hfl := hid hfl
  replace hleft := hid hleft
  replace hM0 := hid hM0
  replace hM1 := hid hM1
  replace hl := hid hl
  replace hu := hid hu
  replace hb := hid hb
  replace hr := hid hr
  go_enter Tryz.func77, Tryz.ntmps77
  go_wp2_with fail
  refine hfl.out.mono ?_
  rintro e w1 ⟨A1, c1, rfl, hA1, O1⟩
  have hr1 := O1.keep hr.out (fun h => h)
  obtain ⟨r0, r1, r2, r3⟩ := RbAt.cells hr1
  have rf1 := b_free hr1 1
  have rf2 := b_free hr1 2
  have rf3 := b_free hr1 3
  cases left0 with
  | nil =>
    have hr2 := b_set hr1 1 (.int .i64 0)
    simp only [List.length_nil]
    replace hr1 := hid hr1
    replace hr2 := hid hr2
    go_wp2_with fail
    refine wp_loop_rounds 1 ?_
    rw [rounds_succ]
    go_wp2_with fail
    go_ret
    exact ⟨[], none, 0, 0, last, any, rfl, Own.nil _ _ _ _, hid (hM0.out.none rfl), hr2, (O1.mono (T := (· = rb)) (fun _ h => h.elim)).setCell (p := ⟨rb, 1, none⟩) (.inl rfl) _⟩
  | cons p0 t0 =>
    obtain ⟨g, rfl, hg, F1⟩ : ∃ g, A1 = some ⟨g, 0, none⟩ ∧ w.heap.size ≤ g ∧ FR w1 g c1 (p0 :: t0) := by
      rcases hA1 with h | h
      · exact h
      · cases h
    have hlen : (p0 :: t0).length ≤ 4 := by have := hM0.out.len; have := hl.out; omega
    obtain ⟨left, hle⟩ : ∃ left, p0 :: t0 = left := ⟨_, rfl⟩
    rw [hle] at F1 hlen hM1 ⊢
    have hpos : (0 : Int) < left.length := by rw [← hle]; simp
    obtain ⟨k0, hk0⟩ : ∃ k0, cr + q = k0 := ⟨_, rfl⟩
    have hwr : IntKind.i64.wrap ((cr : Int) + q) = (k0 : Int) := by rw [IntWalk.i64_in _ (by omega)]; omega
    rw [hk0] at hM1
    have hr2 : RbAt ((w1.setCell ⟨rb, 1, none⟩ (.int .i64 (k0 : Int))).drew) rb q (k0 : Int) last any := b_drew (b_set hr1 1 _)
    have O2 : Only (· = rb) w ((w1.setCell ⟨rb, 1, none⟩ (.int .i64 (k0 : Int))).drew) := ((O1.mono (T := (· = rb)) (fun _ h => h.elim)).setCell (p := ⟨rb, 1, none⟩) (.inl rfl) _).drew
    have F2 : FR ((w1.setCell ⟨rb, 1, none⟩ (.int .i64 (k0 : Int))).drew) g c1 left := F1.keep ((Only.refl (· = rb) w1).setCell (p := ⟨rb, 1, none⟩) (.inl rfl) _).drew (by omega)
    replace hle := hid hle
    replace hr1 := hid hr1
    replace hr2 := hid hr2
    replace F2 := hid F2
    replace F1 := hid F1
    clear hM0 hfl hA1
    go_upto_region 3 with (fail)
    go_region
    generalize (w1.setCell ⟨rb, 1, none⟩ (.int .i64 (k0 : Int))).drew = w2 at hr2 O2 F2 ⊢
    clear r0 r1 r2 r3 rf1 rf2 rf3 O1 F1 hr1 hwr hpos
    replace hk0 := hid hk0
    obtain ⟨b2, hb2e⟩ : ∃ b2, w2.heap.size = b2 := ⟨_, rfl⟩
    have hgb : g < b2 := by have := F2.out.lt; omega
    have hwb : w.heap.size ≤ b2 := by have := O2.size; omega
    replace hb2e := hid hb2e
    go_wp2_with fail
    generalize (decide (0 < left.length)) = bz
    go_loopw [5, 6] (fun lv ov wr => RInv fs g c1 rb q k0 b2 w2 lv ov wr) (fun _ _ wr => crAt wr rb)
    case atStart => exact ⟨left, [], k0, last, any, none, 0, rfl, rfl, F2, hid (Own.nil _ _ _ _), hr2, hM1, hid (Only.refl _ _)⟩
    case round =>
      unfold RInv at hrel
      obtain ⟨l, gs, k, last', any', OA, oc, rfl, rfl, F, HO, Rb, M, O⟩ := hrel
      obtain ⟨r0, r1, r2, r3⟩ := Rb.out.cells
      have rf1 := b_free Rb.out 1
      have rgne : rb ≠ g := by omega
      have hrlr := b_lt Rb.out
      cases l with
      | nil =>
        have hr3 := b_set Rb.out 1 (.int .i64 0)
        simp only [List.length_nil]
        replace hr3 := hid hr3
        go_wp2_with fail
        go_ret
        have O4 := ((O2.trans' (O.out) (fun i hi => hi.elim .inl (fun e => .inr (by omega)))).setCell (p := ⟨rb, 1, none⟩) (.inl rfl) (.int .i64 0))
        refine ⟨gs, OA, oc, 0, last', any', rfl, ?_, hid ((hk0.out.symm ▸ M.out).done), hr3, O4⟩
        exact Own.weak (Own.keep HO.out ((Only.refl (· = rb) wr).setCell (p := ⟨rb, 1, none⟩) (.inl rfl) _) (fun i hi e => by have := (HO.out.blk i hi).1; omega)) hwb
      | cons pl tl =>
        obtain ⟨l, hle2⟩ : ∃ l, pl :: tl = l := ⟨_, rfl⟩
        have hl0 : 0 < l.length := by rw [← hle2]; simp
        have hlne : l ≠ [] := by rw [← hle2]; simp
        rw [hle2] at F M ⊢
        have hl4 : l.length ≤ 4 := by have := M.out.len; have := hl.out; omega
        have hpos : (0 : Int) < l.length := by omega
        have hnx := next_any g l.length c1 l rb q k last' any' wr rfl F.out hl0 (by omega) Rb.out
        clear hle2
        replace hlne := hid hlne
        replace hnx := hid hnx
        go_wp2_with fail
        refine hnx.out.mono ?_
        rintro e w3 ⟨i, rfl, hi, O3⟩
        have F3 := F.out.same O3
        have Rb3 := O3.keep Rb.out (fun h => h)
        have HO3 := Own.same HO.out O3
        obtain ⟨p, hp⟩ : ∃ p, l[i]? = some p := ⟨_, List.getElem?_eq_getElem hi⟩
        obtain ⟨c0, c1'⟩ := F3.flow i p hp
        obtain ⟨s0, s1, s2, s3⟩ := RbAt.cells Rb3
        have hin : (i : Int) < l.length := by omega
        have hp0 := M.out.pos p (List.mem_of_getElem? hp)
        obtain ⟨m, hm⟩ : ∃ m, m = min p.2 64 := ⟨_, rfl⟩
        have hmin : min (p.2 : Int) 64 = (m : Int) := by omega
        have hm0 : 0 < m := by omega
        have hm64 : m ≤ 64 := by omega
        have hmp : m ≤ p.2 := by omega
        have hptot : p.2 ≤ tot l := by
          rw [tot_at l i p hp]; omega
        have hall := M.out.all
        have hcred := M.out.cred
        clear r0 r1 r2 r3 rf1 hnx
        replace hp := hid hp
        replace hm := hid hm
        have O3' := O.out.trans (O3.mono (T := fun i => i = rb ∨ i = g) (fun _ h => h.elim))
        by_cases hgt : k < m
        · have hgt' : (k : Int) < m := by omega
          replace F3 := hid F3
          replace Rb3 := hid Rb3
          replace HO3 := hid HO3
          go_wp2_with fail
          go_ret
          refine ⟨gs, OA, oc, k, last', any', rfl, ?_, hid ((hk0.out.symm ▸ M.out).stop hlne.out (by omega)), Rb3, O2.trans' O3' (fun i hi => hi.elim .inl (fun e => .inr (by omega)))⟩
          exact Own.weak HO3.out hwb
        have hgt' : ¬ (k : Int) < m := by omega
        have hgl : gs.length ≤ 1000000 := by have := len_tot gs (fun r hr => (M.out.each r hr).1); omega
        have hbg : b2 ≤ w3.heap.size := by have := O3'.size; have := hb2e.out; omega
        have hOAg : ∀ i, ab OA i → b2 ≤ i := fun i hi => (HO3.blk i hi).1
        replace HO3 := hid HO3
        replace Rb3 := hid Rb3
        replace F3 := hid F3
        go_upto_region 11 with (first | (at_builtin; refine app_rows rfl _ _ 175 178 (.agg #[.int .i64 0, .int .i64 0]) 2 16 Tryz.underlying175 info_grant rfl (by omega) (by omega) rfl b2 gs.length oc 1 1 OA (some ⟨w3.heap.size, 0, none⟩) (gV gs) (gV [(p.1, m)]) rfl rfl (Own.same HO3.out ((Only.refl _ w3).alloc _)) (row_of (l := gV [(p.1, m)]) (b_new w3 _)) (by rfl) (gV_one _) (by intro h; cases h) (by simp; omega) (by omega) ?_; intro OA4 oc4 w4 h4 h4' o4) | fail)
        have P4 := ((Only.refl (ab OA) w3).alloc (.cells (gV [(p.1, m)]).toArray 178)).trans o4
        have hnr : ¬ ab OA rb := fun h => by have := hOAg rb h; omega
        have hng : ¬ ab OA g := fun h => by have := hOAg g h; omega
        have Rb4 := P4.keep Rb3.out hnr
        have F4 := F3.out.keep P4 hng
        obtain ⟨e0, e1⟩ := F4.flow i p hp.out
        obtain ⟨t0, t1, t2, t3⟩ := RbAt.cells Rb4
        have tf1 := b_free Rb4 1
        have tf2 := b_free Rb4 2
        have tf3 := b_free Rb4 3
        have ef1 := (F4.room (i * 2 + 1) (by have := F4.le; omega)).2
        obtain ⟨km, hkm⟩ : ∃ km, km = k - m := ⟨_, rfl⟩
        obtain ⟨pm, hpm⟩ : ∃ pm, pm = p.2 - m := ⟨_, rfl⟩
        have hk1 : IntKind.i64.wrap ((k : Int) - m) = (km : Int) := by
          have := hk0.out
          rw [IntWalk.i64_in _ (by omega)]; omega
        have hp1 : IntKind.i64.wrap ((p.2 : Int) - m) = (pm : Int) := by rw [IntWalk.i64_in _ (by omega)]; omega
        have hO4 : Own w4 b2 178 2 OA4 (gs.length + 1) oc4 (gV gs ++ gV [(p.1, m)]) := h4
        have hOA4 : ∀ i, ab OA4 i → b2 ≤ i := fun i hi => (hO4.blk i hi).1
        have O34 : Only (fun i => i = rb ∨ i = g) w2 w4 := O3'.trans' P4 (fun i hi => .inr (by have := hOAg i hi; have := hb2e.out; omega))
        clear c0 c1' s0 s1 s2 s3 o4 P4 h4'
        replace Rb4 := hid Rb4
        replace F4 := hid F4
        replace hO4 := hid hO4
        replace hkm := hid hkm
        replace hpm := hid hpm
        go_upto_region 14 with (fail)
        have Rb5 : RbAt ((((w4.setCell ⟨rb, 2, none⟩ (.int .i64 (p.1 : Int))).setCell ⟨rb, 3, none⟩ (.bool true)).setCell ⟨rb, 1, none⟩ (.int .i64 (km : Int))).setCell ⟨g, i * 2 + 1, none⟩ (.int .i64 (pm : Int))) rb q (km : Int) p.1 true := b_far (b_set (b_set (b_set Rb4.out 2 _) 3 _) 1 _) rgne _
        have o5 := (((Only.refl (· = rb) w4).setCell (p := ⟨rb, 2, none⟩) (.inl rfl) (.int .i64 (p.1 : Int))).setCell (p := ⟨rb, 3, none⟩) (.inl rfl) (.bool true)).setCell (p := ⟨rb, 1, none⟩) (.inl rfl) (.int .i64 (km : Int))
        have F5 := (F4.out.keep o5 (fun e => rgne e.symm)).set1 i p pm hp.out
        have o6 := (o5.mono (T := fun i => i = rb ∨ i = g) (fun _ h => .inl h)).setCell (p := ⟨g, i * 2 + 1, none⟩) (.inl (.inr rfl)) (.int .i64 (pm : Int))
        have O5 := O34.trans o6
        have HO5 := Own.keep hO4.out o6 (fun j hj e => by have := hOA4 j hj; omega)
        generalize (((w4.setCell ⟨rb, 2, none⟩ (.int .i64 (p.1 : Int))).setCell ⟨rb, 3, none⟩ (.bool true)).setCell ⟨rb, 1, none⟩ (.int .i64 (km : Int))).setCell ⟨g, i * 2 + 1, none⟩ (.int .i64 (pm : Int)) = w5 at Rb5 F5 O5 HO5 ⊢
        have hi5 : (l.set i (p.1, pm))[i]? = some (p.1, pm) := List.getElem?_set_self hi
        obtain ⟨y0, y1⟩ := F5.flow i _ hi5
        have hmeas : crAt w5 rb < crAt wr rb := by
          rw [Rb5.cr, Rb.out.cr]
          have := hkm.out
          omega
        have HO5' : OwnG w5 b2 178 OA4 oc4 (gs ++ [(p.1, m)]) := by
          unfold OwnG
          rw [List.length_append, gV_app]
          exact HO5
        clear e0 e1 t0 t1 t2 t3 tf1 tf2 tf3 ef1 hk1 hp1 o5 o6 hO4 Rb4 F4 HO5 HO3 Rb3 F3
        replace Rb5 := hid Rb5
        replace F5 := hid F5
        replace HO5' := hid HO5'
        replace hmeas := hid hmeas
        replace hi5 := hid hi5
        simp only at y1
        by_cases hz : pm = 0
        · subst hz
          have hpe : p.2 = m := by have := hpm.out; omega
          have hdl := delete_one g l.length c1 i (l.set i (p.1, 0)) w5 (List.length_set) F5.out hi (by omega)
          have hlst : (l.set i (p.1, 0)).take i ++ (l.set i (p.1, 0)).drop (i + 1) = l.take i ++ l.drop (i + 1) := by
            rw [List.take_set_of_le (Nat.le_refl _), List.drop_set_of_lt (by omega)]
          have hM5 : Mid fs (l.take i ++ l.drop (i + 1)) (gs ++ [(p.1, m)]) k0 km := by
            have := M.out.full (i := i) (p := p) hp.out (by omega) (by omega)
            rw [hpe] at this
            rw [hkm.out]
            exact this
          have hln : (l.take i ++ l.drop (i + 1)).length = l.length - 1 := by
            rw [List.length_append, List.length_take, List.length_drop]; omega
          rw [hlst] at hdl
          replace hdl := hid hdl
          replace hM5 := hid hM5
          replace hln := hid hln
          go_wp2_with fail
          refine hdl.out.mono ?_
          rintro e w6 ⟨rfl, F6, O6⟩
          have Rb6 := hid (show RbAt w6 rb q (km : Int) p.1 true from O6.keep Rb5.out rgne)
          have HO6 := hid (show OwnG w6 b2 178 OA4 oc4 (gs ++ [(p.1, m)]) from Own.keep HO5'.out O6 (fun j hj e => by have := hOA4 j hj; omega))
          have hm6 : Hid (crAt w6 rb < crAt wr rb) := hid (by rw [Rb6.out.cr]; have := hmeas.out; rw [Rb5.out.cr] at this; exact this)
          replace F6 := hid F6
          go_wp2_with fail
          go_roundw
          case rel =>
            have hR : RInv fs g c1 rb q k0 b2 w2 (.slice (some ⟨g, 0, none⟩) (l.length - 1 : Nat) c1) (.slice OA4 (gs.length + 1) oc4) w6 := ⟨l.take i ++ l.drop (i + 1), gs ++ [(p.1, m)], km, p.1, true, OA4, oc4, by rw [hln.out], by rw [List.length_append]; rfl, F6, HO6, Rb6, hM5, hid (O5.trans (O6.mono (fun _ h => .inr h)))⟩
            exact hR
          case measure => exact hm6.out
        · have hzb : ((pm : Int) == 0) = false := by rw [beq_eq_false_iff_ne]; omega
          have hM5 : Mid fs (l.set i (p.1, pm)) (gs ++ [(p.1, m)]) k0 km := by
            have h1 := hpm.out
            have := M.out.part (i := i) (p := p) (m := m) hp.out (by omega) hm0 hm64 (by omega)
            rw [hkm.out, h1]
            exact this
          replace hM5 := hid hM5
          replace hz := hid hz
          go_wp2_with fail
          go_roundw
          case rel => first | exact ⟨l.set i (p.1, pm), gs ++ [(p.1, m)], km, p.1, true, OA4, oc4, by rw [List.length_set], by rw [List.length_append]; rfl, F5, HO5', Rb5, hM5, hid O5⟩ | exact ⟨_, _, _, ⟨l.set i (p.1, pm), gs ++ [(p.1, m)], km, p.1, true, OA4, oc4, by rw [List.length_set], by rw [List.length_append]; rfl, F5, HO5', Rb5, hM5, hid O5⟩, rfl, rfl, rfl⟩
          case measure => exact hmeas.out
end Go.Proofs.YtpblgjadpfecgaaGreatDoor
