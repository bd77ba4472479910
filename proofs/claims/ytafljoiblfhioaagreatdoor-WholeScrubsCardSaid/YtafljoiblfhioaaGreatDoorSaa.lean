/-
  Check of the package conf.
-/
import Derived.Test.YtafljoiblfhioaaGreatDoorSz
import Derived.Carry
namespace Go.Proofs.YtafljoiblfhioaaGreatDoor
open Go.RowKit Go.Maps

def keysK (l : List (List UInt8)) (k : Nat) : List (List UInt8) := keysF (l.take k)
theorem keysK_step (l : List (List UInt8)) (k : Nat) (p : List UInt8) (h : l[k]? = some p) : keysK l (k + 1) = addK (keysK l k) p := by
  unfold keysK keysF
  rw [List.take_add_one, h]
  simp only [Option.toList_some, List.foldl_append, List.foldl_cons, List.foldl_nil]
theorem keysK_full (l : List (List UInt8)) (k : Nat) (h : l.length ≤ k) : keysK l k = keysF l := by
  unfold keysK
  rw [List.take_of_length_le h]
theorem addK_len (ks : List (List UInt8)) (s : List UInt8) : (addK ks s).length ≤ ks.length + 1 := by
  unfold addK
  split
  · omega
  · simp
theorem keysK_len (l : List (List UInt8)) : ∀ k, (keysK l k).length ≤ k
  | 0 => by simp [keysK, keysF]
  | k + 1 => by
    have ih := keysK_len l k
    by_cases h : k < l.length
    · rw [keysK_step l k _ (List.getElem?_eq_getElem h)]
      have := addK_len (keysK l k) l[k]
      omega
    · rw [keysK_full l (k + 1) (by omega), ← keysK_full l k (by omega)]
      omega

set_option maxRecDepth 100000 in
set_option maxHeartbeats 4000000 in
theorem check_any (x : CM) (w : World) (h : x.Ok w) : Calls Tryz.prog 6 #[.agg x.row] w fun e w' => e = .returned (.int .i64 (checkF x.cf)) ∧ Only (fun _ => False) w w' := by
  have hmany := fun W (o : Only (fun _ => False) w W) => many_any x W (h.same o)
  have hright := fun W (o : Only (fun _ => False) w W) => cright_any x W (h.same o)
  have hF : checkF x.cf = (if manyF x.cf then 3 else if rightF x.cf = false then 1 else if (keysF (x.us.map (·.1.1))).length < x.us.length ∨ (keysF (x.rs.map (·.1))).length < x.rs.length then 72 else if x.rs.any (fun r => !(keysF (x.us.map (·.1.1))).contains r.2.1) then 71 else 0) := by
    unfold checkF lostF CM.cf
    simp only [List.map_map, List.length_map]
    rfl
  obtain ⟨b1, hb1⟩ : ∃ b, manyF x.cf = b := ⟨_, rfl⟩
  obtain ⟨b2, hb2⟩ : ∃ b, rightF x.cf = b := ⟨_, rfl⟩
  rw [hb1, hb2] at hF
  rw [hb1] at hmany
  rw [hb2] at hright
  clear hb1 hb2
  obtain ⟨us, rs, set, drop, U, uc, R, rc, SA, sc, DA, dc, t1, t2, t3, t4⟩ := x
  have hul := h.ul
  have hrl := h.rl
  have hU := h.ups
  have hR := h.rts
  have hrsm := h.rsm
  have husm := fun u hu => (h.aims u hu).2.1
  simp only at hF hul hrl hU hR hrsm husm
  unfold CM.row at hmany hright ⊢
  simp only at hmany hright ⊢
  obtain ⟨nu, hnu⟩ : ∃ n, us.length = n := ⟨_, rfl⟩
  obtain ⟨nr, hnr⟩ : ∃ n, rs.length = n := ⟨_, rfl⟩
  obtain ⟨ns, hns⟩ : ∃ n, set.length = n := ⟨_, rfl⟩
  obtain ⟨nd, hnd⟩ : ∃ n, drop.length = n := ⟨_, rfl⟩
  rw [hnu, hnr, hns, hnd] at hmany hright ⊢
  rw [hnu, hnr] at hF
  rw [hnu] at hul
  rw [hnr] at hrl
  clear hns hnd h
  obtain ⟨un, hun⟩ : ∃ l, us.map (·.1.1) = l := ⟨_, rfl⟩
  obtain ⟨rn, hrn⟩ : ∃ l, rs.map (·.1) = l := ⟨_, rfl⟩
  have hul1 : un.length = nu := by rw [← hun, List.length_map, hnu]
  have hrl1 : rn.length = nr := by rw [← hrn, List.length_map, hnr]
  have hunat : ∀ k (u : UpM), us[k]? = some u → un[k]? = some u.1.1 := fun k u hu => by rw [← hun, List.getElem?_map, hu]; rfl
  have hrnat : ∀ k (r : RtD), rs[k]? = some r → rn[k]? = some r.1 := fun k u hu => by rw [← hrn, List.getElem?_map, hu]; rfl
  rw [hun, hrn] at hF
  clear hun hrn
  replace hF := hid hF
  replace hmany := hid hmany
  replace hright := hid hright
  replace hrsm := hid hrsm
  replace husm := hid husm
  replace hnu := hid hnu
  replace hnr := hid hnr
  replace hul1 := hid hul1
  replace hrl1 := hid hrl1
  replace hunat := hid hunat
  replace hrnat := hid hrnat
  have hmm := @run_makeMap Tryz.prog
  go_enter Tryz.func6, Tryz.ntmps6
  go_upto_region 2 with (fail)
  obtain ⟨w3, e3, H0, H1, H2, O3, hs3⟩ := three w (.cells #[.slice U nu uc, .slice R nr rc, .slice SA ns sc, .slice DA nd dc, .int .i64 t1, .int .i64 t2, .int .i64 t3, .int .i64 t4] 28) (.map #[] 0) (.map #[] 0)
  rw [e3]
  clear e3 hmm
  have HM1 := hid (setM_of H1)
  have HM2 := hid (setM_of H2)
  clear H1 H2
  obtain ⟨g, hg⟩ : ∃ g, w.heap.size = g := ⟨_, rfl⟩
  rw [hg] at H0 HM1 HM2 hs3 ⊢
  replace hg := hid hg
  have ⟨c0, _, _, _, _, _, _, _⟩ := cells8 H0
  have hk0 : keysK un 0 = [] := rfl
  rw [← hk0] at HM1
  clear hk0
  go_wp2_with fail
  go_loopw [15] (fun iv wr => ∃ k : Nat, k ≤ nu ∧ iv = .int .i64 (k : Int) ∧ Hid (SetM wr (g + 1) k (keysK un k)) ∧ Only (fun _ => False) w wr ∧ Only (fun i => i = g + 1) w3 wr) (fun iv _ => nu - (intOf iv).toNat)
  case atStart => exact ⟨0, by omega, rfl, HM1, O3, Only.refl _ _⟩
  case round =>
    clear c0
    obtain ⟨k, hk, rfl, hm, O, O1⟩ := hrel
    by_cases hlt : k < nu
    · obtain ⟨u, hu⟩ : ∃ u, us[k]? = some u := ⟨_, List.getElem?_eq_getElem (by rw [hnu.out]; exact hlt)⟩
      obtain ⟨b, off, rfl, hb, d0, d1⟩ := up_at (hU.same O) k u hu
      have hsz : (B u.1.1).size ≤ 9223372036854775807 := by simpa [ByteArray.size] using husm.out u (List.mem_of_getElem? hu)
      have hst := hid (keysK_step un k u.1.1 (hunat.out k u hu))
      replace hu := hid hu
      go_upto_region 5 with (fail)
      have HF := b_new wr (.cells #[.string (B u.1.1), .slice u.2.1 u.1.2.length u.2.2] 52)
      have O2 := (Only.refl (fun _ => False) wr).alloc (.cells #[.string (B u.1.1), .slice u.2.1 u.1.2.length u.2.2] 52)
      generalize wr.alloc (.cells #[.string (B u.1.1), .slice u.2.1 u.1.2.length u.2.2] 52) = w2 at *
      obtain ⟨e0, e1, _, _⟩ := cells2 HF
      have hm2 := hid (hm.out.keep O2 (fun h => h))
      clear d0 d1 HF H0 hm
      go_wp2_with (first | (at_mapUpdate; refine set_put _ rfl _ _ _ rfl (g + 1) k (keysK un k) (B u.1.1) rfl rfl rfl hm2.out hsz (by omega) ?_; intro w4 h4 o4) | fail)
      have hgw : w.heap.size ≤ g + 1 := by rw [hg.out]; omega
      have O' := (O.trans O2).trans' o4 (fun i hi => .inr (by omega))
      have O1' := (O1.trans' O2 (fun i hi => hi.elim)).trans o4
      rw [show (B u.1.1).data.toList = u.1.1 from rfl, ← hst.out] at h4
      go_roundw
      case rel => exact ⟨k + 1, by omega, by simp, h4, O', O1'⟩
      case measure => simp [intOf]; omega
    · obtain rfl : k = nu := by omega
      rw [keysK_full un k (by rw [hul1.out]; exact Nat.le_refl _)] at hm
      have HK0 := O1.keep H0 (by omega)
      have HM2' := hid (HM2.out.keep O1 (by omega))
      clear HM1 HM2 H0
      have hws : g + 3 ≤ wr.heap.size := Nat.le_trans hs3 O1.size
      clear O1
      generalize hw1 : wr = wa at *
      clear hw1
      have ⟨_, c1, _, _, _, _, _, _⟩ := cells8 HK0
      go_wp2_with fail
      have hL0 : Hid (((rs.take 0).any (fun r => !(keysF un).contains r.2.1)) = false) := hid (by simp)
      have hk0 : keysK rn 0 = [] := rfl
      rw [← hk0] at HM2'
      clear hk0
      go_loopw [7, 26] (fun lv iv wr => ∃ (k : Nat) (lo : Bool), k ≤ nr ∧ lv = .bool lo ∧ iv = .int .i64 (k : Int) ∧ Hid (((rs.take k).any (fun r => !(keysF un).contains r.2.1)) = lo) ∧ Hid (SetM wr (g + 2) k (keysK rn k)) ∧ Only (fun _ => False) w wr ∧ Only (fun i => i = g + 2) wa wr) (fun _ iv _ => nr - (intOf iv).toNat)
      case atStart => exact ⟨0, false, by omega, rfl, rfl, hL0, HM2', O, Only.refl _ _⟩
      case round =>
        clear c1 hL0 HM2' O
        obtain ⟨k', lo, hk', rfl, rfl, hlo, hm', O, O1⟩ := hrel
        by_cases hlt' : k' < nr
        · obtain ⟨u, hu⟩ : ∃ u, rs[k']? = some u := ⟨_, List.getElem?_eq_getElem (by rw [hnr.out]; exact hlt')⟩
          obtain ⟨b, off, rfl, hb, d0, d1, d2⟩ := rt_at (hR.same O) k' u hu
          have hsm := hrsm.out u (List.mem_of_getElem? hu)
          have hsz : (B u.1).size ≤ 9223372036854775807 := by simpa [ByteArray.size] using hsm.1
          have hsz2 : (B u.2.1).size ≤ 9223372036854775807 := by simpa [ByteArray.size] using hsm.2.1
          have hst := hid (keysK_step rn k' u.1 (hrnat.out k' u hu))
          have hlo2 : Hid (((rs.take (k' + 1)).any (fun r => !(keysF un).contains r.2.1)) = (lo || !(keysF un).contains u.2.1)) := hid (by
            rw [List.take_add_one, hu, List.any_append, hlo.out]
            simp)
          replace hu := hid hu
          clear hsm
          go_upto_region 11 with (fail)
          have HF := b_new wr (.cells #[.string (B u.1), .string (B u.2.1), .string (B u.2.2)] 54)
          have O2 := (Only.refl (fun _ => False) wr).alloc (.cells #[.string (B u.1), .string (B u.2.1), .string (B u.2.2)] 54)
          generalize wr.alloc (.cells #[.string (B u.1), .string (B u.2.1), .string (B u.2.2)] 54) = w2 at *
          obtain ⟨e0, e1, e2⟩ := cells3' HF
          have hm2 := hid (hm'.out.keep O2 (fun h => h))
          have hsm2 := hid ((hm.out.keep O1 (by omega)).keep O2 (fun h => h))
          clear d0 d1 d2 HK0 hm'
          have hne : wr.heap.size ≠ g + 2 := by have := O1.size; omega
          go_upto_region 12 with (first | (at_mapUpdate; refine set_put _ rfl _ _ _ rfl (g + 2) k' (keysK rn k') (B u.1) rfl rfl rfl hm2.out hsz (by omega) ?_; intro w4 h4 o4) | fail)
          have hbl : wr.heap.size < w2.heap.size := cell_lt e1
          have j1 := (o4.cell (p := ⟨wr.heap.size, 1, none⟩) hbl (fun e => hne e)).trans e1
          have hl := SetM.look (hsm2.out.keep o4 (by omega)) hsz2
          rw [show (B u.2.1).data.toList = u.2.1 from rfl] at hl
          have hgw : w.heap.size ≤ g + 2 := by rw [hg.out]; omega
          have O' := (O.trans O2).trans' o4 (fun i hi => .inr (by omega))
          have O1' := (O1.trans' O2 (fun i hi => hi.elim)).trans o4
          rw [show (B u.1).data.toList = u.1 from rfl, ← hst.out] at h4
          obtain ⟨cb, hcb⟩ : ∃ b, (keysF un).contains u.2.1 = b := ⟨_, rfl⟩
          rw [hcb] at hl
          replace hlo2 := hid (hlo2.out.trans (by rw [hcb]))
          clear e0 e1 e2 hcb HF hm2 hsm2 o4 O2 hb hbl
          cases lo
          · cases cb
            · go_wp2_with fail
              go_roundw
              case rel => exact ⟨k' + 1, _, by omega, rfl, by simp, hlo2, h4, O', O1'⟩
              case measure => simp [intOf]; omega
            · go_wp2_with fail
              go_roundw
              case rel => exact ⟨k' + 1, _, by omega, rfl, by simp, hlo2, h4, O', O1'⟩
              case measure => simp [intOf]; omega
          · go_wp2_with fail
            go_roundw
            case rel => exact ⟨k' + 1, _, by omega, rfl, by simp, hlo2, h4, O', O1'⟩
            case measure => simp [intOf]; omega
        · obtain rfl : k' = nr := by omega
          rw [keysK_full rn k' (by rw [hrl1.out]; exact Nat.le_refl _)] at hm'
          rw [List.take_of_length_le (by rw [hnr.out]; exact Nat.le_refl _)] at hlo
          have HK := O1.keep HK0 (by omega)
          have hmu := hid (hm.out.keep O1 (by omega))
          clear HK0 hm O1
          have hFl : Hid (checkF _ = _) := hid (hF.out.trans (by rw [hlo.out]))
          clear hF hlo
          obtain ⟨ku, hku⟩ : ∃ n, (keysF un).length = n := ⟨_, rfl⟩
          obtain ⟨kr, hkr⟩ : ∃ n, (keysF rn).length = n := ⟨_, rfl⟩
          have hcl := hmany.out wr O
          clear hmany
          have ⟨c0, c1, c2, c3, c4, c5, c6, c7⟩ := cells8 HK
          replace HK := hid HK
          go_wp2_with fail
          refine hcl.mono ?_
          rintro e w5 ⟨rfl, O5⟩
          clear hcl c0 c1 c2 c3 c4 c5 c6 c7
          cases b1
          · have HK5 := O5.keep HK.out (fun h => h)
            have hcl := hright.out w5 (O.trans O5)
            clear hright
            have ⟨c0, c1, c2, c3, c4, c5, c6, c7⟩ := cells8 HK5
            go_wp2_with fail
            refine hcl.mono ?_
            rintro e w6 ⟨rfl, O6⟩
            clear hcl c0 c1 c2 c3 c4 c5 c6 c7
            cases b2
            · go_wp2_with fail
              go_ret
              exact ⟨by rw [hFl.out]; rfl, (O.trans O5).trans O6⟩
            · have HK6 := O6.keep HK5 (fun h => h)
              have ⟨c0, c1, _, _, _, _, _, _⟩ := cells8 HK6
              have hmu6 := hid ((hmu.out.keep O5 (fun h => h)).keep O6 (fun h => h))
              have hmr6 := hid ((hm'.out.keep O5 (fun h => h)).keep O6 (fun h => h))
              have O' := (O.trans O5).trans O6
              clear HK5 HK6 hmu hm' O O5 O6
              have hl1 := fun ty => SetM.len hmu6.out ty
              have hl2 := fun ty => SetM.len hmr6.out ty
              have hF2 : Hid (checkF _ = (if ku < k ∨ kr < k' then 72 else if lo then 71 else 0)) := hid (hFl.out.trans (by rw [hku, hkr]; rfl))
              rw [hku] at hl1
              rw [hkr] at hl2
              clear hFl hmu6 hmr6 hku hkr
              by_cases p1 : ku < k
              · go_wp2_with fail
                go_ret
                exact ⟨by rw [hF2.out, if_pos (.inl p1)]; rfl, O'⟩
              · by_cases p2 : kr < k'
                · go_wp2_with fail
                  go_ret
                  exact ⟨by rw [hF2.out, if_pos (.inr p2)]; rfl, O'⟩
                · have hF3 : Hid (checkF _ = (if lo then 71 else 0)) := hid (hF2.out.trans (if_neg (by omega)))
                  clear hF2
                  cases lo
                  · go_wp2_with fail
                    go_ret
                    exact ⟨by rw [hF3.out]; rfl, O'⟩
                  · go_wp2_with fail
                    go_ret
                    exact ⟨by rw [hF3.out]; rfl, O'⟩
          · go_wp2_with fail
            go_ret
            exact ⟨by rw [hFl.out]; rfl, O.trans O5⟩
end Go.Proofs.YtafljoiblfhioaaGreatDoor
