/-
  right of the package conf.
-/
import Derived.Test.YtafljoiblfhioaaGreatDoorSx
namespace Go.Proofs.YtafljoiblfhioaaGreatDoor
open Go.RowKit

theorem allp_upto {α : Type} (p : α → Bool) (l : List α) (k : Nat) (h : ∀ i, i < k → ∀ c, l[i]? = some c → p c = true) (hk : l.length ≤ k) : l.all p = true := by
  rw [List.all_eq_true]
  intro x hx
  obtain ⟨i, hi, rfl⟩ := List.mem_iff_getElem.1 hx
  exact h i (by omega) _ (List.getElem?_eq_getElem hi)
theorem allp_not {α : Type} (p : α → Bool) (l : List α) (k : Nat) (c : α) (hc : l[k]? = some c) (h : p c = false) : l.all p = false := by
  rw [List.all_eq_false]
  exact ⟨c, List.mem_of_getElem? hc, by rw [h]; decide⟩
theorem allp_step {α : Type} {p : α → Bool} {l : List α} {k : Nat} {c : α} (hx : ∀ i, i < k → ∀ c, l[i]? = some c → p c = true) (hc : l[k]? = some c) (h : p c = true) : ∀ i, i < k + 1 → ∀ c, l[i]? = some c → p c = true := by
  intro i hi d hd
  by_cases hik : i = k
  · subst hik
    rw [hc] at hd
    cases hd
    exact h
  · exact hx i (by omega) d hd
theorem cells3' {W : World} {g : Nat} {t : TypeId} {a b c : Value} (h : W.heap[g]? = some (.cells #[a, b, c] t (0, 0))) : W.cell? ⟨g, 0, none⟩ = some a ∧ W.cell? ⟨g, 1, none⟩ = some b ∧ W.cell? ⟨g, 2, none⟩ = some c := ⟨b_cell h 0, b_cell h 1, b_cell h 2⟩

set_option maxRecDepth 100000 in
set_option maxHeartbeats 2000000 in
theorem cright_any (x : CM) (w : World) (h : x.Ok w) : Calls Tryz.prog 16 #[.agg x.row] w fun e w' => e = .returned (.bool (rightF x.cf)) ∧ Only (fun _ => False) w w' := by
  have hF : rightF x.cf = (x.us.all (fun u => upF u.1) && (x.rs.all routeF && (x.set.all setF && (x.drop.all dropF && !(numsD x).any numB)))) := by
    unfold rightF CM.cf
    simp only [List.all_map]
    rfl
  have hnum := fun w => numbers_any x w
  have hcn := fun (W : World) (A : Option Addr) (c : Nat) (hR : Row W A (nV (numsD x))) => contains_num 46 rightx_enters numB (numsD x) A c W hR (by show (4 : Nat) ≤ 9223372036854775807; omega) (fun s _ W _ => rightx_any s W)
  obtain ⟨us, rs, set, drop, U, uc, R, rc, SA, sc, DA, dc, t1, t2, t3, t4⟩ := x
  have hup := fun W (o : Only (fun _ => False) w W) (u : UpM) (hu : u ∈ us) => up_any u (h.aims u hu).2.1 (h.aims u hu).2.2.1 (h.aims u hu).2.2.2 W ((h.aims u hu).1.same o)
  have hul := h.ul
  have hrl := h.rl
  have hsl := h.sl
  have hdl := h.dl
  have hU := h.ups
  have hR := h.rts
  have hrsm := h.rsm
  have hS := h.sets
  have hD := h.drops
  have hdsm := h.dsm
  have hssm := h.ssm
  simp only at hF hul hrl hsl hdl hU hR hrsm hS hD hdsm hssm
  unfold CM.row at hnum ⊢
  simp only at hnum ⊢
  obtain ⟨nums, hnums⟩ : ∃ z, numsD (⟨us, rs, set, drop, U, uc, R, rc, SA, sc, DA, dc, t1, t2, t3, t4⟩ : CM) = z := ⟨_, rfl⟩
  rw [hnums] at hnum hcn hF
  have hnl : nums.length = 4 := by rw [← hnums]; rfl
  rw [hnl] at hcn
  clear hnums hnl
  obtain ⟨bn, hbn⟩ : ∃ b, nums.any numB = b := ⟨_, rfl⟩
  rw [hbn] at hF hcn
  clear hbn
  obtain ⟨nu, hnu⟩ : ∃ n, us.length = n := ⟨_, rfl⟩
  obtain ⟨nr, hnr⟩ : ∃ n, rs.length = n := ⟨_, rfl⟩
  obtain ⟨ns, hns⟩ : ∃ n, set.length = n := ⟨_, rfl⟩
  obtain ⟨nd, hnd⟩ : ∃ n, drop.length = n := ⟨_, rfl⟩
  rw [hnu, hnr, hns, hnd] at hnum ⊢
  rw [hnu] at hul
  rw [hnr] at hrl
  rw [hns] at hsl
  rw [hnd] at hdl
  clear h
  replace hF := hid hF
  replace hnum := hid hnum
  replace hcn := hid hcn
  replace hrsm := hid hrsm
  replace hdsm := hid hdsm
  replace hssm := hid hssm
  replace hnu := hid hnu
  replace hnr := hid hnr
  replace hns := hid hns
  replace hnd := hid hnd
  go_enter Tryz.func16, Tryz.ntmps16
  go_upto_region 1 with (fail)
  have H := b_new w (.cells #[.slice U nu uc, .slice R nr rc, .slice SA ns sc, .slice DA nd dc, .int .i64 t1, .int .i64 t2, .int .i64 t3, .int .i64 t4] 28)
  have OA := (Only.refl (fun _ => False) w).alloc (.cells #[.slice U nu uc, .slice R nr rc, .slice SA ns sc, .slice DA nd dc, .int .i64 t1, .int .i64 t2, .int .i64 t3, .int .i64 t4] 28)
  generalize w.alloc (.cells #[.slice U nu uc, .slice R nr rc, .slice SA ns sc, .slice DA nd dc, .int .i64 t1, .int .i64 t2, .int .i64 t3, .int .i64 t4] 28) = w1 at *
  obtain ⟨g, hg⟩ : ∃ g, w.heap.size = g := ⟨_, rfl⟩
  rw [hg] at H
  have ⟨c0, _, _, _, _, _, _, _⟩ := cells8 H
  go_wp2_with fail
  go_loopw [14] (fun iv wr => ∃ k : Nat, k ≤ nu ∧ iv = .int .i64 (k : Int) ∧ Hid (∀ i, i < k → ∀ u, us[i]? = some u → upF u.1 = true) ∧ Only (fun _ => False) w wr ∧ Only (fun _ => False) w1 wr) (fun iv _ => nu - (intOf iv).toNat)
  case atStart => exact ⟨0, by omega, rfl, hid (by omega), OA, Only.refl _ _⟩
  case round =>
    obtain ⟨k, hk, rfl, hx, O, O1⟩ := hrel
    by_cases hlt : k < nu
    · obtain ⟨u, hu⟩ : ∃ u, us[k]? = some u := ⟨_, List.getElem?_eq_getElem (by rw [hnu.out]; exact hlt)⟩
      obtain ⟨b, off, rfl, hb, d0, d1⟩ := up_at (hU.same O) k u hu
      have hc := fun W o => hup W o u (List.mem_of_getElem? hu)
      replace hu := hid hu
      go_upto_region 4 with (fail)
      have HF := b_new wr (.cells #[.string (B u.1.1), .slice u.2.1 u.1.2.length u.2.2] 52)
      have O2 := (Only.refl (fun _ => False) wr).alloc (.cells #[.string (B u.1.1), .slice u.2.1 u.1.2.length u.2.2] 52)
      generalize wr.alloc (.cells #[.string (B u.1.1), .slice u.2.1 u.1.2.length u.2.2] 52) = w2 at *
      obtain ⟨e0, e1, _, _⟩ := cells2 HF
      replace hc := hc _ (O.trans O2)
      clear hup c0 d0 d1 H HF
      go_wp2_with fail
      refine hc.mono ?_
      rintro e w3 ⟨rfl, O3⟩
      clear hc e0 e1
      have O' := O.trans (O2.trans O3)
      have O1' := O1.trans (O2.trans O3)
      clear O O1 O2 O3
      cases hr : upF u.1
      · have hall : Hid (us.all (fun u => upF u.1) = false) := hid (allp_not (fun u : UpM => upF u.1) us k u hu.out hr)
        replace hr := hid hr
        go_wp2_with fail
        go_ret
        exact ⟨by rw [hF.out, hall.out]; rfl, O'⟩
      · have hx' : Hid (∀ i, i < k + 1 → ∀ u, us[i]? = some u → upF u.1 = true) := hid (allp_step (p := fun u : UpM => upF u.1) hx.out hu.out hr)
        replace hr := hid hr
        go_wp2_with fail
        go_roundw
        case rel => exact ⟨k + 1, by omega, by simp, hx', O', O1'⟩
        case measure => simp [intOf]; omega
    · have hall : us.all (fun u => upF u.1) = true := allp_upto (fun u : UpM => upF u.1) us k hx.out (by rw [hnu.out]; omega)
      have hF25 : Hid (rightF _ = _) := hid (hF.out.trans (by rw [hall]))
      clear hF hall hx
      replace hF := hF25
      clear hF25
      have HK25 := O1.keep H (fun h => h)
      have ⟨c0, c1, c2, c3, c4, c5, c6, c7⟩ := cells8 HK25
      clear O1 H
      replace H := HK25
      clear HK25
      generalize hw1 : wr = w25 at *
      clear hw1
      go_wp2_with fail
      go_loopw [25] (fun iv wr => ∃ k : Nat, k ≤ nr ∧ iv = .int .i64 (k : Int) ∧ Hid (∀ i, i < k → ∀ u, rs[i]? = some u → routeF u = true) ∧ Only (fun _ => False) w wr ∧ Only (fun _ => False) w25 wr) (fun iv _ => nr - (intOf iv).toNat)
      case atStart => exact ⟨0, by omega, rfl, hid (by omega), O, Only.refl _ _⟩
      case round =>
        clear c0 c1 c2 c3 c4 c5 c6 c7
        obtain ⟨k, hk, rfl, hx, O, O1⟩ := hrel
        by_cases hlt : k < nr
        · obtain ⟨u, hu⟩ : ∃ u, rs[k]? = some u := ⟨_, List.getElem?_eq_getElem (by rw [hnr.out]; exact hlt)⟩
          obtain ⟨b, off, rfl, hb, d0, d1, d2⟩ := rt_at (hR.same O) k u hu
          have hsm := hrsm.out u (List.mem_of_getElem? hu)
          have hrF : routeF u = (pathF u.1 && pathF u.2.2) := rfl
          have hc1 := fun W => path_any (B u.1) (by simpa [ByteArray.size] using hsm.1) W
          have hc2 := fun W => path_any (B u.2.2) (by simpa [ByteArray.size] using hsm.2.2) W
          rw [show (B u.1).data.toList = u.1 from rfl] at hc1
          rw [show (B u.2.2).data.toList = u.2.2 from rfl] at hc2
          obtain ⟨b1, hb1⟩ : ∃ b, pathF u.1 = b := ⟨_, rfl⟩
          obtain ⟨b2, hb2⟩ : ∃ b, pathF u.2.2 = b := ⟨_, rfl⟩
          rw [hb1, hb2] at hrF
          rw [hb1] at hc1
          rw [hb2] at hc2
          clear hb1 hb2 hsm
          replace hu := hid hu
          replace hrF := hid hrF
          go_upto_region 10 with (fail)
          have HF := b_new wr (.cells #[.string (B u.1), .string (B u.2.1), .string (B u.2.2)] 54)
          have O2 := (Only.refl (fun _ => False) wr).alloc (.cells #[.string (B u.1), .string (B u.2.1), .string (B u.2.2)] 54)
          generalize wr.alloc (.cells #[.string (B u.1), .string (B u.2.1), .string (B u.2.2)] 54) = w2 at *
          obtain ⟨e0, e1, e2⟩ := cells3' HF
          have O' := O.trans O2
          have O1' := O1.trans O2
          clear d0 d1 d2 H HF O O1 O2 hup
          go_wp2_with fail
          refine (hc1 _).mono ?_
          rintro e w3 ⟨rfl, rfl⟩
          clear hc1
          cases b1
          · have hall : Hid (rs.all routeF = false) := hid (allp_not routeF rs k u hu.out (by rw [hrF.out]; rfl))
            go_wp2_with fail
            go_ret
            exact ⟨by rw [hF.out, hall.out]; rfl, O'⟩
          · go_wp2_with fail
            refine (hc2 _).mono ?_
            rintro e w4 ⟨rfl, rfl⟩
            clear hc2
            cases b2
            · have hall : Hid (rs.all routeF = false) := hid (allp_not routeF rs k u hu.out (by rw [hrF.out]; rfl))
              go_wp2_with fail
              go_ret
              exact ⟨by rw [hF.out, hall.out]; rfl, O'⟩
            · have hx' : Hid (∀ i, i < k + 1 → ∀ u, rs[i]? = some u → routeF u = true) := hid (allp_step (p := routeF) hx.out hu.out (by rw [hrF.out]; rfl))
              go_wp2_with fail
              go_roundw
              case rel => exact ⟨k + 1, by omega, by simp, hx', O', O1'⟩
              case measure => simp [intOf]; omega
        · have hall : rs.all routeF = true := allp_upto routeF rs k hx.out (by rw [hnr.out]; omega)
          have hF43 : Hid (rightF _ = _) := hid (hF.out.trans (by rw [hall]))
          clear hF hall hx
          replace hF := hF43
          clear hF43
          have HK43 := O1.keep H (fun h => h)
          have ⟨c0, c1, c2, c3, c4, c5, c6, c7⟩ := cells8 HK43
          clear O1 H
          replace H := HK43
          clear HK43
          generalize hw1 : wr = w43 at *
          clear hw1
          go_wp2_with fail
          go_loopw [43] (fun iv wr => ∃ k : Nat, k ≤ ns ∧ iv = .int .i64 (k : Int) ∧ Hid (∀ i, i < k → ∀ u, set[i]? = some u → setF u = true) ∧ Only (fun _ => False) w wr ∧ Only (fun _ => False) w43 wr) (fun iv _ => ns - (intOf iv).toNat)
          case atStart => exact ⟨0, by omega, rfl, hid (by omega), O, Only.refl _ _⟩
          case round =>
            clear c0 c1 c2 c3 c4 c5 c6 c7
            obtain ⟨k, hk, rfl, hx, O, O1⟩ := hrel
            by_cases hlt : k < ns
            · obtain ⟨u, hu⟩ : ∃ u, set[k]? = some u := ⟨_, List.getElem?_eq_getElem (by rw [hns.out]; exact hlt)⟩
              obtain ⟨b, off, rfl, hb, d0, d1⟩ := fld_at (hS.same O) k u hu
              have hc1 := fun W => set_any (B u.1) (B u.2) (by simpa [ByteArray.size] using hssm.out u (List.mem_of_getElem? hu)) W
              rw [show ((B u.1).data.toList, (B u.2).data.toList) = u from rfl] at hc1
              replace hu := hid hu
              go_upto_region 16 with (fail)
              have HF := b_new wr (.cells #[.string (B u.1), .string (B u.2)] 39)
              have O2 := (Only.refl (fun _ => False) wr).alloc (.cells #[.string (B u.1), .string (B u.2)] 39)
              generalize wr.alloc (.cells #[.string (B u.1), .string (B u.2)] 39) = w2 at *
              obtain ⟨e0, e1, _, _⟩ := cells2 HF
              clear d0 d1 H HF hup
              go_wp2_with fail
              refine (hc1 _).mono ?_
              rintro e w3 ⟨rfl, O3⟩
              clear hc1 e0 e1
              have O' := O.trans (O2.trans O3)
              have O1' := O1.trans (O2.trans O3)
              clear O O1 O2 O3

              cases hr : setF u
              · have hall : Hid (set.all setF = false) := hid (allp_not setF set k u hu.out hr)
                replace hr := hid hr
                go_wp2_with fail
                go_ret
                exact ⟨by rw [hF.out, hall.out]; rfl, O'⟩
              · have hx' : Hid (∀ i, i < k + 1 → ∀ u, set[i]? = some u → setF u = true) := hid (allp_step (p := setF) hx.out hu.out hr)
                replace hr := hid hr
                go_wp2_with fail
                go_roundw
                case rel => exact ⟨k + 1, by omega, by simp, hx', O', O1'⟩
                case measure => simp [intOf]; omega

            · have hall : set.all setF = true := allp_upto setF set k hx.out (by rw [hns.out]; omega)
              have hF54 : Hid (rightF _ = _) := hid (hF.out.trans (by rw [hall]))
              clear hF hall hx
              replace hF := hF54
              clear hF54
              have HK54 := O1.keep H (fun h => h)
              have ⟨c0, c1, c2, c3, c4, c5, c6, c7⟩ := cells8 HK54
              clear O1 H
              replace H := HK54
              clear HK54
              generalize hw1 : wr = w54 at *
              clear hw1
              go_wp2_with fail
              go_loopw [54] (fun iv wr => ∃ k : Nat, k ≤ nd ∧ iv = .int .i64 (k : Int) ∧ Hid (∀ i, i < k → ∀ u, drop[i]? = some u → dropF u = true) ∧ Only (fun _ => False) w wr ∧ Only (fun _ => False) w54 wr) (fun iv _ => nd - (intOf iv).toNat)
              case atStart => exact ⟨0, by omega, rfl, hid (by omega), O, Only.refl _ _⟩
              case round =>
                clear c0 c1 c2 c3 c4 c5 c6 c7
                obtain ⟨k, hk, rfl, hx, O, O1⟩ := hrel
                by_cases hlt : k < nd
                · obtain ⟨u, hu⟩ : ∃ u, drop[k]? = some u := ⟨_, List.getElem?_eq_getElem (by rw [hnd.out]; exact hlt)⟩
                  obtain ⟨b, off, rfl, hb, d0⟩ := str_at (hD.same O) k u hu
                  have hc1 := fun W => drop_any (B u) (by simpa [ByteArray.size] using hdsm.out u (List.mem_of_getElem? hu)) W
                  rw [show (B u).data.toList = u from rfl] at hc1
                  replace hu := hid hu
                  clear hup H
                  go_wp2_with fail
                  refine (hc1 _).mono ?_
                  rintro e w3 ⟨rfl, O3⟩
                  clear hc1 d0
                  have O' := O.trans O3
                  have O1' := O1.trans O3
                  clear O O1 O3

                  cases hr : dropF u
                  · have hall : Hid (drop.all dropF = false) := hid (allp_not dropF drop k u hu.out hr)
                    replace hr := hid hr
                    go_wp2_with fail
                    go_ret
                    exact ⟨by rw [hF.out, hall.out]; rfl, O'⟩
                  · have hx' : Hid (∀ i, i < k + 1 → ∀ u, drop[i]? = some u → dropF u = true) := hid (allp_step (p := dropF) hx.out hu.out hr)
                    replace hr := hid hr
                    go_wp2_with fail
                    go_roundw
                    case rel => exact ⟨k + 1, by omega, by simp, hx', O', O1'⟩
                    case measure => simp [intOf]; omega

                · have hall : drop.all dropF = true := allp_upto dropF drop k hx.out (by rw [hnd.out]; omega)
                  have hFz : Hid (rightF _ = !bn) := hid (hF.out.trans (by simp only [hall, Bool.true_and]))
                  clear hF hall hx hup
                  have HK := O1.keep H (fun h => h)
                  have ⟨c0, c1, c2, c3, c4, c5, c6, c7⟩ := cells8 HK
                  clear O1 H
                  go_wp2_with fail
                  refine (hnum.out _).mono ?_
                  rintro e w5 ⟨A, c, rfl, HN, O5⟩
                  have hcn' := hcn.out _ A c HN
                  clear hnum hcn HN HK c0 c1 c2 c3 c4 c5 c6 c7
                  go_wp2_with fail
                  refine hcn'.mono ?_
                  rintro e w6 ⟨rfl, O6⟩
                  clear hcn'
                  go_wp2_with fail
                  go_ret
                  exact ⟨by rw [hFz.out]; rfl, O.trans (O5.trans O6)⟩
end Go.Proofs.YtafljoiblfhioaaGreatDoor
