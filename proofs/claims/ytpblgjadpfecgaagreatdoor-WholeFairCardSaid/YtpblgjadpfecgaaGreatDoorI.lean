/-
  The package frame: there, length, chunked, Request.
-/
import Derived.Test.YtpblgjadpfecgaaGreatDoorH
set_option linter.unusedSimpArgs false
set_option linter.unusedVariables false
namespace Go.Proofs.YtpblgjadpfecgaaGreatDoor
open Go.RowKit

def sCL : List UInt8 := [67, 111, 110, 116, 101, 110, 116, 45, 76, 101, 110, 103, 116, 104]
def sTE : List UInt8 := [84, 114, 97, 110, 115, 102, 101, 114, 45, 69, 110, 99, 111, 100, 105, 110, 103]
def sChunked : List UInt8 := [99, 104, 117, 110, 107, 101, 100]

theorem there_any (fs : List FD) (name : ByteArray) (A : Option Addr) (c : Nat) (w : World) (hR : Row w A (fV fs)) (hS : SmallF fs) (hn : name.size < 4294967281) :
    Calls Tryz.prog 239 #[.slice A fs.length c, .string name] w fun e w' => e = .returned (.bool (!(getF fs name.data.toList).isEmpty)) ∧ Only (fun _ => False) w w' := by
  go_enter Tryz.func239, Tryz.ntmps239
  go_wp2_with fail
  refine (get_any fs name A c w hR hS hn).mono ?_
  rintro e w1 ⟨A', c', rfl, HP, O1⟩
  clear HP
  obtain ⟨ps, hps⟩ : ∃ ps, getF fs name.data.toList = ps := ⟨_, rfl⟩
  rw [hps]
  replace hps := hid hps
  go_wp2_with fail
  go_ret
  refine ⟨?_, O1⟩
  rw [hps.out]
  refine rb ?_
  cases ps with
  | nil => simp
  | cons a t => simp

def lenGo : Int → List (List UInt8) → Option Int
  | first, [] => some first
  | first, p :: t => if (number 10 18 p).2 = false ∨ (0 ≤ first ∧ (number 10 18 p).1 ≠ first) then none else lenGo (number 10 18 p).1 t
def lengthF (fs : List FD) : Int × Bool :=
  match lenGo (-1) (listF fs sCL) with
  | none => (0, false)
  | some f => (f, decide (0 ≤ f))

set_option maxRecDepth 100000 in
set_option maxHeartbeats 1000000 in
theorem length_any (fs : List FD) (A : Option Addr) (c : Nat) (w : World) (hR : Row w A (fV fs)) (hS : SmallF fs) (h48 : fs.length ≤ 1000) (hG : Gl w) :
    Calls Tryz.prog 276 #[.slice A fs.length c] w fun e w' => e = .returned (.tuple #[.int .i64 (lengthF fs).1, .bool (lengthF fs).2]) ∧ Only (fun _ => False) w w' := by
  go_enter Tryz.func276, Tryz.ntmps276
  go_wp2_with fail
  refine (list_any fs ⟨#[67, 111, 110, 116, 101, 110, 116, 45, 76, 101, 110, 103, 116, 104]⟩ A c w hR hS h48 (by decide) hG).mono ?_
  rintro e w1 ⟨A, c, rfl, HP, O1⟩
  have hF : lengthF fs = match lenGo (-1) (listF fs sCL) with
    | none => (0, false)
    | some f => (f, decide (0 ≤ f)) := rfl
  have hln : listF fs sCL = listF fs (⟨#[67, 111, 110, 116, 101, 110, 116, 45, 76, 101, 110, 103, 116, 104]⟩ : ByteArray).data.toList := rfl
  have hsmall : ∀ p ∈ listF fs sCL, p.length < 4294967281 := by
    intro p hp
    obtain ⟨v, hv, hp⟩ := List.mem_flatMap.1 hp
    have h1 := (getF_small fs sCL hS).2 v hv
    have h2 := splitF_mem v p hp
    omega
  have hcount : (listF fs sCL).length ≤ 4294967281000 := by
    refine Nat.le_trans (flat_len _ 4294967281 (getF_small fs sCL hS).2) ?_
    have := getF_len fs sCL
    omega
  rw [← hln] at HP ⊢
  clear hln
  obtain ⟨ps, hps⟩ : ∃ ps, listF fs sCL = ps := ⟨_, rfl⟩
  rw [hps] at HP hF hsmall hcount ⊢
  clear hps
  replace hF := hid hF
  replace hsmall := hid hsmall
  have HR : Row w1 A (sV ps) := HP.row
  clear HP
  obtain ⟨n, hnn⟩ : ∃ n, ps.length = n := ⟨_, rfl⟩
  rw [hnn] at hcount ⊢
  replace hnn := hid hnn
  go_wp2_with fail
  go_loopw [5, 14] (fun fv iv wr => ∃ (k : Nat) (f : Int), k ≤ n ∧ fv = .int .i64 f ∧ iv = .int .i64 (k : Int) ∧ Hid (lenGo f (ps.drop k) = lenGo (-1) ps) ∧ Only (fun _ => False) w1 wr) (fun _ iv _ => n - (intOf iv).toNat)
  case atStart => exact ⟨0, -1, by omega, rfl, rfl, rfl, Only.refl _ _⟩
  case round =>
    obtain ⟨k, f, hk, rfl, rfl, hgo, O⟩ := hrel
    by_cases hlt : k < n
    · obtain ⟨p, hp⟩ : ∃ p, ps[k]? = some p := ⟨_, List.getElem?_eq_getElem (by rw [hnn.out]; exact hlt)⟩
      obtain ⟨b, off, rfl, hb, c0⟩ := str_at (HR.same O) k p hp
      have hpm := hsmall.out p (List.mem_of_getElem? hp)
      have hz1 : (B p).size ≤ 9223372036854775807 := by simp [ByteArray.size]; omega
      have hd : ps.drop k = p :: ps.drop (k + 1) := by
        have hk' : k < ps.length := by rw [hnn.out]; exact hlt
        rw [List.drop_eq_getElem_cons hk']
        rw [List.getElem?_eq_getElem hk'] at hp
        rw [Option.some.inj hp]
      rw [hd] at hgo
      clear hd
      replace hpm := hid hpm
      go_wp2_with fail
      refine (decimal_any _ hz1 _).mono ?_
      rintro e w2 ⟨rfl, O2⟩
      rw [show (B p).data.toList = p from rfl]
      have hgo' := hgo.out
      rw [lenGo] at hgo'
      generalize (number 10 18 p).1 = z at *
      generalize (number 10 18 p).2 = ok at *
      replace hgo' := hid hgo'
      clear hgo
      cases ok
      · have : Hid (lenGo (-1) ps = none) := hid (by rw [← hgo'.out]; simp)
        go_wp2_with fail
        go_ret2
        exact ⟨by rw [hF.out, this.out]; rfl, O1.trans (O.trans O2)⟩
      · by_cases h0 : 0 ≤ f
        · by_cases h1 : z = f
          · have : Hid (lenGo z (ps.drop (k + 1)) = lenGo (-1) ps) := hid (by rw [← hgo'.out]; simp [h1])
            go_wp2_with fail
            go_roundw
            case rel => exact ⟨k + 1, z, by omega, by simp [h1], by simp, this, O.trans O2⟩
            case measure => simp [intOf]; omega
          · have : Hid (lenGo (-1) ps = none) := hid (by rw [← hgo'.out]; simp [h0, h1])
            go_wp2_with fail
            go_ret2
            exact ⟨by rw [hF.out, this.out]; rfl, O1.trans (O.trans O2)⟩
        · have : Hid (lenGo z (ps.drop (k + 1)) = lenGo (-1) ps) := hid (by rw [← hgo'.out]; simp [h0])
          go_wp2_with fail
          go_roundw
          case rel => exact ⟨k + 1, z, by omega, rfl, by simp, this, O.trans O2⟩
          case measure => simp [intOf]; omega
    · have hN : Hid (lenGo (-1) ps = some f) := hid (by
        rw [← hgo.out, List.drop_of_length_le (by rw [hnn.out]; omega)]
        rfl)
      go_wp2_with fail
      go_ret2
      exact ⟨by rw [hF.out, hN.out]; rfl, O1.trans O⟩

def chunkedF (fs : List FD) : Bool := match listF fs sTE with
  | [p] => same p sChunked
  | _ => false
set_option maxRecDepth 100000 in
theorem chunked_any (fs : List FD) (A : Option Addr) (c : Nat) (w : World) (hR : Row w A (fV fs)) (hS : SmallF fs) (h48 : fs.length ≤ 1000) (hG : Gl w) :
    Calls Tryz.prog 277 #[.slice A fs.length c] w fun e w' => e = .returned (.bool (chunkedF fs)) ∧ Only (fun _ => False) w w' := by
  go_enter Tryz.func277, Tryz.ntmps277
  go_wp2_with fail
  refine (list_any fs ⟨#[84, 114, 97, 110, 115, 102, 101, 114, 45, 69, 110, 99, 111, 100, 105, 110, 103]⟩ A c w hR hS h48 (by decide) hG).mono ?_
  rintro e w1 ⟨A, c, rfl, HP, O1⟩
  have hF : chunkedF fs = match listF fs sTE with
    | [p] => same p sChunked
    | _ => false := rfl
  have hln : listF fs sTE = listF fs (⟨#[84, 114, 97, 110, 115, 102, 101, 114, 45, 69, 110, 99, 111, 100, 105, 110, 103]⟩ : ByteArray).data.toList := rfl
  have hsmall : ∀ p ∈ listF fs sTE, p.length < 4294967281 := by
    intro p hp
    obtain ⟨v, hv, hp⟩ := List.mem_flatMap.1 hp
    have h1 := (getF_small fs sTE hS).2 v hv
    have h2 := splitF_mem v p hp
    omega
  rw [← hln] at HP ⊢
  clear hln
  obtain ⟨ps, hps⟩ : ∃ ps, listF fs sTE = ps := ⟨_, rfl⟩
  rw [hps] at HP hF hsmall ⊢
  clear hps
  replace hF := hid hF
  have HR : Row w1 A (sV ps) := HP.row
  clear HP
  match ps, hF, hsmall, HR with
  | [], hF, _, _ =>
    go_wp2_with fail
    go_ret
    exact ⟨by rw [hF.out]; rfl, O1⟩
  | [p], hF, hsmall, HR =>
    obtain ⟨b, off, rfl, hb, c0⟩ := str_at HR 0 p rfl
    rw [Nat.add_zero] at c0
    have hpm := hsmall p (by simp)
    have hz1 : (B p).size ≤ 9223372036854775807 := by simp [ByteArray.size]; omega
    replace hsmall := hid hsmall
    go_wp2_with fail
    refine (same_any _ ⟨#[99, 104, 117, 110, 107, 101, 100]⟩ hz1 (by decide) _).mono ?_
    rintro e w2 ⟨rfl, O2⟩
    have hF' : Hid (chunkedF fs = same (B p).data.toList (⟨#[99, 104, 117, 110, 107, 101, 100]⟩ : ByteArray).data.toList) := hF
    generalize same (B p).data.toList (⟨#[99, 104, 117, 110, 107, 101, 100]⟩ : ByteArray).data.toList = ok at hF' ⊢
    go_wp2_with fail
    go_ret
    exact ⟨by rw [hF'.out]; rfl, O1.trans O2⟩
  | p :: q :: t, hF, hsmall, _ =>
    have hx : ¬ (((p :: q :: t).length : Nat) : Int) = 1 := by simp only [List.length_cons]; omega
    replace hsmall := hid hsmall
    obtain ⟨n, hn⟩ : ∃ n, (p :: q :: t).length = n := ⟨_, rfl⟩
    rw [hn] at hx ⊢
    clear hn
    go_wp2_with fail
    go_ret
    exact ⟨by rw [hF.out]; rfl, O1⟩

def frameF (fs : List FD) (minor : Int) : Int × Bool × Int :=
  let sized := !(getF fs sCL).isEmpty
  let coded := !(getF fs sTE).isEmpty
  if coded && (sized || minor == 0) then (0, false, 400)
  else if coded && !chunkedF fs then (0, false, 501)
  else if coded then (0, true, 0)
  else if !sized then (0, false, 0)
  else if !(lengthF fs).2 then (0, false, 400)
  else if (lengthF fs).1 > 4096 then (0, false, 413)
  else ((lengthF fs).1, false, 0)
set_option maxRecDepth 100000 in
set_option maxHeartbeats 1000000 in
theorem frame_any (fs : List FD) (minor : Int) (A : Option Addr) (c : Nat) (w : World) (hR : Row w A (fV fs)) (hS : SmallF fs) (h48 : fs.length ≤ 1000) (hG : Gl w) :
    Calls Tryz.prog 216 #[.slice A fs.length c, .int .i64 minor] w fun e w' => e = .returned (.tuple #[.int .i64 (frameF fs minor).1, .bool (frameF fs minor).2.1, .int .i64 (frameF fs minor).2.2]) ∧ Only (fun _ => False) w w' := by
  have hF : frameF fs minor = (let sized := !(getF fs sCL).isEmpty
    let coded := !(getF fs sTE).isEmpty
    if coded && (sized || minor == 0) then (0, false, 400)
    else if coded && !chunkedF fs then (0, false, 501)
    else if coded then (0, true, 0)
    else if !sized then (0, false, 0)
    else if !(lengthF fs).2 then (0, false, 400)
    else if (lengthF fs).1 > 4096 then (0, false, 413)
    else ((lengthF fs).1, false, 0)) := rfl
  replace hF := hid hF
  go_enter Tryz.func216, Tryz.ntmps216
  go_wp2_with fail
  refine (there_any fs ⟨#[67, 111, 110, 116, 101, 110, 116, 45, 76, 101, 110, 103, 116, 104]⟩ A c w hR hS (by decide)).mono ?_
  rintro e w1 ⟨rfl, O1⟩
  go_wp2_with fail
  refine (there_any fs ⟨#[84, 114, 97, 110, 115, 102, 101, 114, 45, 69, 110, 99, 111, 100, 105, 110, 103]⟩ A c w1 (hR.same O1) hS (by decide)).mono ?_
  rintro e w2 ⟨rfl, O2⟩
  have O12 := O1.trans O2
  go_wp2_with fail
  refine (length_any fs A c w2 (hR.same O12) hS h48 (hG.same O12)).mono ?_
  rintro e w3 ⟨rfl, O3⟩
  have O13 := O12.trans O3
  clear O1 O2 O3 O12
  rw [show ([67, 111, 110, 116, 101, 110, 116, 45, 76, 101, 110, 103, 116, 104] : List UInt8) = sCL from rfl, show ([84, 114, 97, 110, 115, 102, 101, 114, 45, 69, 110, 99, 111, 100, 105, 110, 103] : List UInt8) = sTE from rfl]
  have hcc := chunked_any fs A c w3 (hR.same O13) hS h48 (hG.same O13)
  generalize lengthF fs = zz at *
  obtain ⟨z, ok⟩ := zz
  cases hc : (getF fs sTE).isEmpty
  · cases hs : (getF fs sCL).isEmpty
    · have hres : Hid (frameF fs minor = (0, false, 400)) := hid (by rw [hF.out, hc, hs]; simp)
      replace hc := hid hc
      replace hs := hid hs
      go_wp2_with fail
      go_ret3
      exact ⟨by rw [hres.out]; rfl, O13⟩
    · by_cases hm : minor = 0
      · have hres : Hid (frameF fs minor = (0, false, 400)) := hid (by rw [hF.out, hc, hs, hm]; simp)
        replace hc := hid hc
        replace hs := hid hs
        subst hm
        go_wp2_with fail
        go_ret3
        exact ⟨by rw [hres.out]; rfl, O13⟩
      · have hres : Hid (frameF fs minor = if chunkedF fs then (0, true, 0) else (0, false, 501)) := hid (by
          rw [hF.out, hc, hs]
          have : (minor == 0) = false := by simpa using hm
          simp only [this, Bool.not_false, Bool.not_true, Bool.true_and, Bool.or_false, Bool.false_eq_true, if_false, if_true]
          cases chunkedF fs <;> simp)
        replace hc := hid hc
        replace hs := hid hs
        go_wp2_with fail
        refine hcc.mono ?_
        rintro e w4 ⟨rfl, O4⟩
        generalize chunkedF fs = cf at *
        cases cf
        · go_wp2_with fail
          go_ret3
          exact ⟨by rw [hres.out]; rfl, O13.trans O4⟩
        · go_wp2_with fail
          go_ret3
          exact ⟨by rw [hres.out]; rfl, O13.trans O4⟩
  · cases hs : (getF fs sCL).isEmpty
    · cases ok
      · have hres : Hid (frameF fs minor = (0, false, 400)) := hid (by rw [hF.out, hc, hs]; simp)
        replace hc := hid hc
        replace hs := hid hs
        go_wp2_with fail
        go_ret3
        exact ⟨by rw [hres.out]; rfl, O13⟩
      · by_cases hz : z > 4096
        · have hres : Hid (frameF fs minor = (0, false, 413)) := hid (by rw [hF.out, hc, hs]; simp; omega)
          replace hc := hid hc
          replace hs := hid hs
          go_wp2_with fail
          go_ret3
          exact ⟨by rw [hres.out]; rfl, O13⟩
        · have hres : Hid (frameF fs minor = (z, false, 0)) := hid (by rw [hF.out, hc, hs]; simp; omega)
          replace hc := hid hc
          replace hs := hid hs
          go_wp2_with fail
          go_ret3
          exact ⟨by rw [hres.out]; rfl, O13⟩
    · have hres : Hid (frameF fs minor = (0, false, 0)) := hid (by rw [hF.out, hc, hs]; simp)
      replace hc := hid hc
      replace hs := hid hs
      go_wp2_with fail
      go_ret3
      exact ⟨by rw [hres.out]; rfl, O13⟩
end Go.Proofs.YtpblgjadpfecgaaGreatDoor
