/-
  Hop, onward, length of the package scrub; Without of the package field.
-/
import Derived.Test.YtafljoiblfhioaaGreatDoorSc
namespace Go.Proofs.YtafljoiblfhioaaGreatDoor
open Go.RowKit

set_option maxRecDepth 100000 in
set_option maxHeartbeats 1000000 in
theorem hop_any (fs : List FD) (name : ByteArray) (A : Option Addr) (c : Nat) (w : World) (hR : Row w A (fV fs)) (hS : SmallF fs) (h48 : fs.length ≤ 1000) (hn : name.size < 4294967281) (hG : Gl w) :
    Calls Tryz.prog 55 #[.slice A fs.length c, .string name] w fun e w' => e = .returned (.bool (hopF fs name.data.toList)) ∧ Only (fun _ => False) w w' := by
  have hH : hopF fs name.data.toList = (keptF name.data.toList || (Lib.hasPrefix (fold name.data.toList) sOwn || hasF fs sConn name.data.toList)) := rfl
  have hk := fun w => kept_any name (by omega) w
  have hf := fun w => fold_any name (by omega) w
  have hh := fun W (o : Only (fun _ => False) w W) => has_any fs (B sConn) name A c W (hR.same o) hS h48 (by decide) (by omega) (hG.same o)
  rw [show (B sConn).data.toList = sConn from rfl] at hh
  obtain ⟨b0, hb0⟩ : ∃ b, keptF name.data.toList = b := ⟨_, rfl⟩
  obtain ⟨b2, hb2⟩ : ∃ b, hasF fs sConn name.data.toList = b := ⟨_, rfl⟩
  obtain ⟨F, hF⟩ : ∃ F, fold name.data.toList = F := ⟨_, rfl⟩
  rw [hb0] at hk
  rw [hF] at hf
  rw [hb0, hb2, hF] at hH
  rw [hb2] at hh
  clear hb0 hb2 hF
  replace hH := hid hH
  obtain ⟨n, hnn⟩ : ∃ n, fs.length = n := ⟨_, rfl⟩
  rw [hnn] at hh ⊢
  replace hnn := hid hnn
  go_enter Tryz.func55, Tryz.ntmps55
  go_wp2_with fail
  refine (hk _).mono ?_
  rintro e w1 ⟨rfl, O1⟩
  clear hk
  cases b0
  · go_wp2_with fail
    refine (hf _).mono ?_
    rintro e w2 ⟨rfl, O2⟩
    clear hf
    go_wp2_with fail
    refine (Tryz.strings_HasPrefix (B F) ⟨#[120, 45, 116, 111, 108, 108, 98, 97, 114, 45]⟩ w2).mono ?_
    rintro e w3 ⟨rfl, rfl⟩
    have hH' := hH.out
    rw [show (B F).data.toList = F from rfl, show (⟨#[120, 45, 116, 111, 108, 108, 98, 97, 114, 45]⟩ : ByteArray).data.toList = sOwn from rfl]
    obtain ⟨b1, hb1⟩ : ∃ b, Lib.hasPrefix F sOwn = b := ⟨_, rfl⟩
    rw [hb1] at hH' ⊢
    clear hb1 hH
    replace hH := hid hH'
    clear hH'
    have O12 := O1.trans O2
    clear O1 O2
    cases b1
    · have hh' := hh _ O12
      clear hh
      go_wp2_with fail
      refine hh'.mono ?_
      rintro e w4 ⟨rfl, O4⟩
      clear hh'
      go_wp2_with fail
      go_ret
      exact ⟨by rw [hH.out]; rfl, O12.trans O4⟩
    · go_wp2_with fail
      go_ret
      exact ⟨by rw [hH.out]; rfl, O12⟩
  · go_wp2_with fail
    go_ret
    exact ⟨by rw [hH.out]; rfl, O1⟩

theorem filter_take (q : FD → Bool) (fs : List FD) (k : Nat) (p : FD) (hp : fs[k]? = some p) : (fs.take (k + 1)).filter q = (fs.take k).filter q ++ (if q p then [p] else []) := by
  rw [List.take_add_one, hp]
  simp only [Option.toList_some, List.filter_append]
  congr 1
  by_cases h : q p = true
  · simp [h]
  · simp [h]
theorem filter_len (q : FD → Bool) (fs : List FD) (k : Nat) : ((fs.take k).filter q).length ≤ k := by
  refine Nat.le_trans (List.length_filter_le _ _) ?_
  simp
  omega

set_option maxRecDepth 100000 in
set_option maxHeartbeats 1000000 in
theorem onward_any (fs : List FD) (A : Option Addr) (c : Nat) (w : World) (hR : Row w A (fV fs)) (hS : SmallF fs) (h48 : fs.length ≤ 1000) (hG : Gl w) :
    Calls Tryz.prog 21 #[.slice A fs.length c] w fun e w' => ∃ A' c', e = .returned (.slice A' (onwardF fs).length c') ∧ OwnF w' w.heap.size A' c' (onwardF fs) ∧ Only (fun _ => False) w w' := by
  have hop := fun W (o : Only (fun _ => False) w W) (p : FD) (hp : p ∈ fs) => hop_any fs (B p.1) A c W (hR.same o) hS h48 (by have := (hS.2 p hp).1; simp [ByteArray.size]; omega) (hG.same o)
  have hF : onwardF fs = fs.filter (fun f => !hopF fs f.1) := rfl
  obtain ⟨q, hq⟩ : ∃ q : FD → Bool, (fun f => !hopF fs f.1) = q := ⟨_, rfl⟩
  have hqp : ∀ p, q p = !hopF fs p.1 := fun p => by rw [← hq]
  rw [hq] at hF
  clear hq
  rw [hF]
  clear hF
  replace hqp := hid hqp
  have hn6 : fs.length ≤ 1000 := h48
  obtain ⟨n, hnn⟩ : ∃ n, fs.length = n := ⟨_, rfl⟩
  rw [hnn] at hn6 hop ⊢
  replace hnn := hid hnn
  clear h48 hS
  go_enter Tryz.func21, Tryz.ntmps21
  go_wp2_with fail
  go_loopw [3, 8] (fun ov iv wr => ∃ (k m : Nat) (A' : Option Addr) (c' : Nat), k ≤ n ∧ ov = .slice A' m c' ∧ iv = .int .i64 (k : Int) ∧ Hid (((fs.take k).filter q).length = m) ∧ OwnF wr w.heap.size A' c' ((fs.take k).filter q) ∧ Only (fun _ => False) w wr) (fun _ iv _ => n - (intOf iv).toNat)
  case atStart => exact ⟨0, 0, none, 0, by omega, rfl, rfl, rfl, Own.nil _ _ _ _, Only.refl _ _⟩
  case round =>
    obtain ⟨k, m, A', c', hk, rfl, rfl, hm, HO, O⟩ := hrel
    by_cases hlt : k < n
    · obtain ⟨p, hp⟩ : ∃ p, fs[k]? = some p := ⟨_, List.getElem?_eq_getElem (by rw [hnn.out]; exact hlt)⟩
      obtain ⟨b, off, rfl, hb, c0, c1⟩ := fld_at (hR.same O) k p hp
      have hgt := filter_take q fs k p hp
      have O1 : Only (fun _ => False) wr (wr.alloc (.cells #[.string (B p.1), .string (B p.2)] 39)) := (Only.refl _ wr).alloc _
      have hc := hop _ (O.trans O1) p (List.mem_of_getElem? hp)
      replace hgt := hid hgt
      replace hp := hid hp
      go_wp2_with fail
      refine hc.mono ?_
      rintro e w2 ⟨rfl, O2⟩
      have hf := O2.keep (b_new wr (.cells #[.string (B p.1), .string (B p.2)] 39)) (fun h => h)
      have d0 : w2.cell? ⟨wr.heap.size, 0, none⟩ = some (.string (B p.1)) := b_cell hf 0
      have d1 : w2.cell? ⟨wr.heap.size, 1, none⟩ = some (.string (B p.2)) := b_cell hf 1
      have O12 := O1.trans O2
      have HO2 := hid (Own.same HO O12)
      have hs2 := Nat.le_trans O.size O12.size
      have hq1 := hqp.out p
      clear hf O1 O2 hc
      cases hsm : hopF fs p.1
      · rw [hsm] at hq1
        have hgt' : (fs.take (k + 1)).filter q = (fs.take k).filter q ++ [((B p.1).data.toList, (B p.2).data.toList)] := by rw [hgt.out, hq1]; rfl
        have hml : m ≤ k := by rw [← hm.out]; exact filter_len q fs k
        replace hgt' := hid hgt'
        clear hgt hq1 hsm
        go_wp2_with (first | (at_builtin; refine app_f rfl _ _ rfl w.heap.size m c' A' _ (B p.1) (B p.2) hm.out rfl rfl HO2.out hs2 (by omega) ?_; intro A3 c3 w3 h3 h3' o3) | fail)
        have hbl := HO2.out.blk
        have O3 := (O.trans O12).trans' o3 (fun i hi => .inr (hbl i hi).1)
        go_roundw
        case rel => exact ⟨k + 1, m + 1, A3, c3, by omega, rfl, by simp, hid (by rw [hgt'.out, List.length_append, hm.out]; rfl), by rw [hgt'.out]; exact h3.out, O3⟩
        case measure => simp [intOf]; omega
      · rw [hsm] at hq1
        have hgt' : (fs.take (k + 1)).filter q = (fs.take k).filter q := by rw [hgt.out, hq1]; simp
        replace hgt' := hid hgt'
        clear hgt hq1 hsm
        go_wp2_with fail
        go_roundw
        case rel => exact ⟨k + 1, m, A', c', by omega, rfl, by simp, by unfold Hid; rw [hgt'.out]; exact hm.out, by rw [hgt'.out]; exact HO2.out, O.trans O12⟩
        case measure => simp [intOf]; omega
    · have hk' : k = n := by omega
      subst hk'
      have hfull : fs.take k = fs := List.take_of_length_le (by rw [hnn.out]; exact Nat.le_refl _)
      rw [hfull] at hm HO
      clear hfull
      go_wp2_with fail
      go_ret
      exact ⟨A', c', by rw [hm.out]; rfl, HO, O⟩

theorem without1_any (s part : ByteArray) (g : Nat) (hs : s.size ≤ 9223372036854775807) (hp : part.size ≤ 9223372036854775807) (w : World) (h : w.cell? ⟨g, 0, none⟩ = some (.string part)) :
    Calls Tryz.prog 53 #[.string s, .pointer (some ⟨g, 0, none⟩)] w fun e w' => e = .returned (.bool (same s.data.toList part.data.toList)) ∧ Only (fun _ => False) w w' := by
  go_enter Tryz.func53, Tryz.ntmps53
  go_wp2_with fail
  refine (same_any s part hs hp w).mono ?_
  rintro e w1 ⟨rfl, O1⟩
  go_wp2_with fail
  go_ret
  exact ⟨rfl, O1⟩
theorem without1_enters (args : Array Value) (w : World) : (callFunc 53 args).run Tryz.prog w = .ok (.enter 53 args) w := Go.Proofs.enters_of Tryz.func53 (by kernel_rfl) rfl args w

set_option maxRecDepth 100000 in
set_option maxHeartbeats 1000000 in
theorem without_any (fs : List FD) (ns : List (List UInt8)) (A S : Option Addr) (c d : Nat) (w : World) (hR : Row w A (fV fs)) (hS : SmallF fs) (h48 : fs.length ≤ 1000) (hR2 : Row w S (sV ns)) (hS2 : SmallS ns) :
    Calls Tryz.prog 20 #[.slice A fs.length c, .slice S ns.length d] w fun e w' => ∃ A' c', e = .returned (.slice A' (withoutF fs ns).length c') ∧ OwnF w' w.heap.size A' c' (withoutF fs ns) ∧ Only (fun _ => False) w w' := by
  have hop := fun W (o : Only (fun _ => False) w W) (p : FD) (hp : p ∈ fs) (g : Nat) (hg : W.cell? ⟨g, 0, none⟩ = some (.string (B p.1))) =>
    contains_str1 53 without1_enters (.pointer (some ⟨g, 0, none⟩)) (fun n => same n p.1) ns S d W (hR2.same o) (by have := hS2.1; omega)
      (fun s hs W2 OW => without1_any (B s) (B p.1) g (by have := hS2.2 s hs; simp [ByteArray.size]; omega) (by have := (hS.2 p hp).1; simp [ByteArray.size]; omega) W2 ((OW.cell (p := ⟨g, 0, none⟩) (cell_lt hg) (fun h => h)).trans hg))
  have hF : withoutF fs ns = fs.filter (fun f => !ns.any (fun n => same n f.1)) := rfl
  obtain ⟨q, hq⟩ : ∃ q : FD → Bool, (fun f => !ns.any (fun n => same n f.1)) = q := ⟨_, rfl⟩
  have hqp : ∀ p, q p = !ns.any (fun n => same n p.1) := fun p => by rw [← hq]
  rw [hq] at hF
  clear hq
  rw [hF]
  clear hF
  replace hqp := hid hqp
  have hn6 : fs.length ≤ 1000 := h48
  obtain ⟨n, hnn⟩ : ∃ n, fs.length = n := ⟨_, rfl⟩
  rw [hnn] at hn6 ⊢
  replace hnn := hid hnn
  clear h48 hS
  obtain ⟨nn, hns⟩ : ∃ nn, ns.length = nn := ⟨_, rfl⟩
  rw [hns] at hop ⊢
  replace hns := hid hns
  go_enter Tryz.func20, Tryz.ntmps20
  go_wp2_with fail
  go_loopw [5, 10] (fun ov iv wr => ∃ (k m : Nat) (A' : Option Addr) (c' : Nat), k ≤ n ∧ ov = .slice A' m c' ∧ iv = .int .i64 (k : Int) ∧ Hid (((fs.take k).filter q).length = m) ∧ OwnF wr w.heap.size A' c' ((fs.take k).filter q) ∧ Only (fun _ => False) w wr) (fun _ iv _ => n - (intOf iv).toNat)
  case atStart => exact ⟨0, 0, none, 0, by omega, rfl, rfl, rfl, Own.nil _ _ _ _, Only.refl _ _⟩
  case round =>
    obtain ⟨k, m, A', c', hk, rfl, rfl, hm, HO, O⟩ := hrel
    by_cases hlt : k < n
    · obtain ⟨p, hp⟩ : ∃ p, fs[k]? = some p := ⟨_, List.getElem?_eq_getElem (by rw [hnn.out]; exact hlt)⟩
      obtain ⟨b, off, rfl, hb, c0, c1⟩ := fld_at (hR.same O) k p hp
      have hgt := filter_take q fs k p hp
      have O1 : Only (fun _ => False) wr (wr.alloc (.cells #[.string (B p.1), .string (B p.2)] 39)) := (Only.refl _ wr).alloc _
      have hc := hop _ (O.trans O1) p (List.mem_of_getElem? hp) wr.heap.size (b_cell (b_new wr _) 0)
      replace hgt := hid hgt
      replace hp := hid hp
      go_wp2_with fail
      refine hc.mono ?_
      rintro e w2 ⟨rfl, O2⟩
      have hf := O2.keep (b_new wr (.cells #[.string (B p.1), .string (B p.2)] 39)) (fun h => h)
      have d0 : w2.cell? ⟨wr.heap.size, 0, none⟩ = some (.string (B p.1)) := b_cell hf 0
      have d1 : w2.cell? ⟨wr.heap.size, 1, none⟩ = some (.string (B p.2)) := b_cell hf 1
      have O12 := O1.trans O2
      have HO2 := hid (Own.same HO O12)
      have hs2 := Nat.le_trans O.size O12.size
      have hq1 := hqp.out p
      clear hf O1 O2 hc
      cases hsm : (ns.any fun n => same n p.1)
      · rw [hsm] at hq1
        have hgt' : (fs.take (k + 1)).filter q = (fs.take k).filter q ++ [((B p.1).data.toList, (B p.2).data.toList)] := by rw [hgt.out, hq1]; rfl
        have hml : m ≤ k := by rw [← hm.out]; exact filter_len q fs k
        replace hgt' := hid hgt'
        clear hgt hq1 hsm
        go_wp2_with (first | (at_builtin; refine app_f rfl _ _ rfl w.heap.size m c' A' _ (B p.1) (B p.2) hm.out rfl rfl HO2.out hs2 (by omega) ?_; intro A3 c3 w3 h3 h3' o3) | fail)
        have hbl := HO2.out.blk
        have O3 := (O.trans O12).trans' o3 (fun i hi => .inr (hbl i hi).1)
        go_roundw
        case rel => exact ⟨k + 1, m + 1, A3, c3, by omega, rfl, by simp, hid (by rw [hgt'.out, List.length_append, hm.out]; rfl), by rw [hgt'.out]; exact h3.out, O3⟩
        case measure => simp [intOf]; omega
      · rw [hsm] at hq1
        have hgt' : (fs.take (k + 1)).filter q = (fs.take k).filter q := by rw [hgt.out, hq1]; simp
        replace hgt' := hid hgt'
        clear hgt hq1 hsm
        go_wp2_with fail
        go_roundw
        case rel => exact ⟨k + 1, m, A', c', by omega, rfl, by simp, by unfold Hid; rw [hgt'.out]; exact hm.out, by rw [hgt'.out]; exact HO2.out, O.trans O12⟩
        case measure => simp [intOf]; omega
    · have hk' : k = n := by omega
      subst hk'
      have hfull : fs.take k = fs := List.take_of_length_le (by rw [hnn.out]; exact Nat.le_refl _)
      rw [hfull] at hm HO
      clear hfull
      go_wp2_with fail
      go_ret
      exact ⟨A', c', by rw [hm.out]; rfl, HO, O⟩
end Go.Proofs.YtafljoiblfhioaaGreatDoor
