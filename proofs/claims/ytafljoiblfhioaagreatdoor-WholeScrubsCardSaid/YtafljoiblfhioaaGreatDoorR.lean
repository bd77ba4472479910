/-
  Request of the package line.
-/
import Derived.Test.YtafljoiblfhioaaGreatDoorP1
import Derived.Laws.ResultCell
import Derived.Laws.Rows
namespace Go.Proofs.YtafljoiblfhioaaGreatDoor
open Go.RowKit

def digitC (c : UInt8) : Bool := 48 ≤ c && c ≤ 57
theorem digit_any (c : UInt8) (w : World) : Calls Tryz.prog 68 #[.int .u8 c.toNat] w fun e w' => e = .returned (.bool (digitC c)) ∧ w = w' := by
  have h : digitC c = (decide ((48 : Int) ≤ c.toNat) && decide ((c.toNat : Int) ≤ 57)) := by
    unfold digitC
    simp only [UInt8.le_iff_toNat_le]
    norm_cast
  rw [h]
  clear h
  generalize (c.toNat : Int) = n
  go_enter Tryz.func68, Tryz.ntmps68
  go_wp2
  all_goals
    go_ret
    refine ⟨rb ?_, rfl⟩
    first | (simp; done) | (simp; omega) | (simp [*]; done) | (simp [*]; omega)

def v10 : List UInt8 := [72, 84, 84, 80, 47, 49, 46, 48]
def v11 : List UInt8 := [72, 84, 84, 80, 47, 49, 46, 49]
def minorF (s : List UInt8) : Int × Bool := if s == v10 then (0, true) else if s == v11 then (1, true) else (0, false)
theorem minor_any (s : ByteArray) (w : World) : Calls Tryz.prog 35 #[.string s] w fun e w' => e = .returned (.tuple #[.int .i64 (minorF s.data.toList).1, .bool (minorF s.data.toList).2]) ∧ w = w' := by
  have h1 : (s.toList == v10) = (s.data.toList == v10) := by rw [ByteArray.toList_eq]
  have h2 : (s.toList == v11) = (s.data.toList == v11) := by rw [ByteArray.toList_eq]
  unfold minorF
  rw [← h1, ← h2]
  clear h1 h2
  unfold v10 v11
  go_enter Tryz.func35, Tryz.ntmps35
  cases h1 : (s.toList == ([72, 84, 84, 80, 47, 49, 46, 48] : List UInt8))
  · cases h2 : (s.toList == ([72, 84, 84, 80, 47, 49, 46, 49] : List UInt8))
    · go_wp2_with fail
      go_ret2
      exact ⟨rfl, rfl⟩
    · go_wp2_with fail
      go_ret2
      exact ⟨rfl, rfl⟩
  · go_wp2_with fail
    go_ret2
    exact ⟨rfl, rfl⟩

def sHTTP : List UInt8 := [72, 84, 84, 80, 47]
def numbered3 : List UInt8 → Bool
  | [a, b, c] => digitC a && (b == 46 && digitC c)
  | _ => false
def numberedF (s : List UInt8) : Bool := Lib.hasPrefix s sHTTP && numbered3 (Lib.trimPrefix s sHTTP)
set_option maxRecDepth 100000 in
theorem numbered_any (s : ByteArray) (w : World) : Calls Tryz.prog 36 #[.string s] w fun e w' => e = .returned (.bool (numberedF s.data.toList)) ∧ w = w' := by
  have hF : numberedF s.data.toList = (Lib.hasPrefix s.data.toList sHTTP && numbered3 (Lib.trimPrefix s.data.toList sHTTP)) := rfl
  replace hF := hid hF
  go_enter Tryz.func36, Tryz.ntmps36
  go_wp2_with fail
  refine (Tryz.strings_CutPrefix s ⟨#[72, 84, 84, 80, 47]⟩ w).mono ?_
  rintro e w1 ⟨rfl, rfl⟩
  rw [show (⟨#[72, 84, 84, 80, 47]⟩ : ByteArray).data.toList = sHTTP from rfl]
  generalize Lib.hasPrefix s.data.toList sHTTP = hp at *
  generalize Lib.trimPrefix s.data.toList sHTTP = r at *
  cases hp
  · go_wp2_with fail
    go_ret
    exact ⟨by rw [hF.out]; rfl, rfl⟩
  match r, hF with
  | [], hF =>
    go_wp2_with fail
    go_ret
    exact ⟨by rw [hF.out]; rfl, rfl⟩
  | [a], hF =>
    go_wp2_with fail
    go_ret
    exact ⟨by rw [hF.out]; rfl, rfl⟩
  | [a, b], hF =>
    go_wp2_with fail
    go_ret
    exact ⟨by rw [hF.out]; rfl, rfl⟩
  | a :: b :: c :: d :: t, hF =>
    have hx : ¬ (((⟨(a :: b :: c :: d :: t).toArray⟩ : ByteArray)).size : Int) = 3 := by
      show ¬ (((a :: b :: c :: d :: t).length : Nat) : Int) = 3
      simp only [List.length_cons]
      omega
    obtain ⟨z, hz⟩ : ∃ z : ByteArray, ⟨(a :: b :: c :: d :: t).toArray⟩ = z := ⟨_, rfl⟩
    rw [hz] at hx ⊢
    clear hz
    go_wp2_with fail
    go_ret
    exact ⟨by rw [hF.out]; rfl, rfl⟩
  | [a, b, c], hF =>
    have hF' : Hid (numberedF s.data.toList = (digitC a && (b == 46 && digitC c))) := hid (by rw [hF.out]; rfl)
    clear hF
    go_wp2_with fail
    refine (digit_any a w1).mono ?_
    rintro e w2 ⟨rfl, rfl⟩
    cases ha : digitC a
    · have hR : Hid (numberedF s.data.toList = false) := hid (by rw [hF'.out, ha]; rfl)
      replace ha := hid ha
      go_wp2_with fail
      go_ret
      exact ⟨by rw [hR.out]; rfl, rfl⟩
    · by_cases hb : b = 46
      · subst hb
        replace ha := hid ha
        go_wp2_with fail
        refine (digit_any c w1).mono ?_
        rintro e w2 ⟨rfl, rfl⟩
        have hR : Hid (numberedF s.data.toList = digitC c) := hid (by rw [hF'.out, ha.out]; simp)
        generalize digitC c = z at *
        go_wp2_with fail
        go_ret
        exact ⟨by rw [hR.out]; rfl, rfl⟩
      · have hR : Hid (numberedF s.data.toList = false) := hid (by
          rw [hF'.out]
          have : (b == 46) = false := by simpa using hb
          rw [this]
          simp)
        have v := u8_ne b 46 hb
        change ¬ (b.toNat : Int) = 46 at v
        replace ha := hid ha
        replace hb := hid hb
        go_wp2_with fail
        go_ret
        exact ⟨by rw [hR.out]; rfl, rfl⟩

def sOPT : List UInt8 := [79, 80, 84, 73, 79, 78, 83]
/-- A request's target. -/
def targetF (m s : List UInt8) : Bool := target s && (s.head? == some 47 || (s == [42] && m == sOPT))
set_option maxRecDepth 100000 in
theorem lineTarget_any (m s : ByteArray) (hs : s.size ≤ 9223372036854775807) (w : World) : Calls Tryz.prog 34 #[.string m, .string s] w fun e w' => e = .returned (.bool (targetF m.data.toList s.data.toList)) ∧ w = w' := by
  have hF : targetF m.data.toList s.data.toList = (target s.data.toList && (s.data.toList.head? == some 47 || (s.toList == [42] && m.toList == ([79, 80, 84, 73, 79, 78, 83] : List UInt8)))) := by
    rw [ByteArray.toList_eq, ByteArray.toList_eq]; rfl
  replace hF := hid hF
  go_enter Tryz.func34, Tryz.ntmps34
  go_wp2_with fail
  refine (target_any s hs w).mono ?_
  rintro e w1 ⟨rfl, rfl⟩
  cases ht : target s.data.toList
  · have hR : Hid (targetF m.data.toList s.data.toList = false) := hid (by rw [hF.out, ht]; rfl)
    replace ht := hid ht
    go_wp2_with fail
    go_ret
    exact ⟨by rw [hR.out]; rfl, rfl⟩
  · have h0 : 0 < s.size := by
      rcases Nat.eq_zero_or_pos s.size with h | h
      · exfalso
        have : s.data.toList = [] := List.eq_nil_of_length_eq_zero (by simpa using h)
        rw [this] at ht
        cases ht
      · exact h
    have h0i : (0 : Int) < s.size := by omega
    have hh : s.data.toList.head? = some s[0] := by rw [List.head?_eq_getElem?]; exact at_str s 0 h0
    rw [hh, ht] at hF
    replace ht := hid ht
    clear hh
    by_cases hc : s[0] = 47
    · have hR : Hid (targetF m.data.toList s.data.toList = true) := hid (by rw [hF.out, hc]; rfl)
      have v := u8_eq s[0] 47 hc
      change (s[0].toNat : Int) = 47 at v
      replace hc := hid hc
      clear hF
      go_wp2_with fail
      go_ret
      exact ⟨by rw [hR.out]; rfl, rfl⟩
    · have hR : Hid (targetF m.data.toList s.data.toList = (s.toList == [42] && m.toList == ([79, 80, 84, 73, 79, 78, 83] : List UInt8))) := hid (by
        rw [hF.out]
        have : (some s[0] == some (47 : UInt8)) = false := by simpa using hc
        rw [this]
        rfl)
      have v := u8_ne s[0] 47 hc
      change ¬ (s[0].toNat : Int) = 47 at v
      replace hc := hid hc
      clear hF
      have vb : ((s[0].toNat : Int) == 47) = false := by simpa using v
      cases h1 : (s.toList == ([42] : List UInt8))
      · have hR2 : Hid (targetF m.data.toList s.data.toList = false) := hid (by rw [hR.out, h1]; rfl)
        clear hR
        go_wp2_with fail
        go_ret
        exact ⟨by rw [hR2.out]; rfl, rfl⟩
      · cases h2 : (m.toList == ([79, 80, 84, 73, 79, 78, 83] : List UInt8))
        · have hR2 : Hid (targetF m.data.toList s.data.toList = false) := hid (by rw [hR.out, h1, h2]; rfl)
          clear hR
          go_wp2_with fail
          go_ret
          exact ⟨by rw [hR2.out]; rfl, rfl⟩
        · have hR2 : Hid (targetF m.data.toList s.data.toList = true) := hid (by rw [hR.out, h1, h2]; rfl)
          clear hR
          go_wp2_with fail
          go_ret
          exact ⟨by rw [hR2.out]; rfl, rfl⟩

/-- A request's line: method, target, minor; a status. -/
def reqF (l : List UInt8) : (List UInt8 × List UInt8 × Int) × Int :=
  match splitC 32 l with
  | [m, t, v] =>
    if 20 < m.length ∨ token m = false ∨ targetF m t = false then (([], [], 0), 400)
    else if 512 < t.length then (([], [], 0), 414)
    else if numberedF v = false then (([], [], 0), 400)
    else if (minorF v).2 = false then (([], [], 0), 505)
    else ((m, t, (minorF v).1), 0)
  | _ => (([], [], 0), 400)
theorem Only.set5 {S : Nat → Prop} {w W : World} (h : Only S w W) {g : Nat} (hg : S g ∨ w.heap.size ≤ g) (a b c d e : Value) :
    Only S w (((((W.setCell ⟨g, 0, none⟩ a).setCell ⟨g, 1, none⟩ b).setCell ⟨g, 2, none⟩ c).setCell ⟨g, 3, none⟩ d).setCell ⟨g, 4, none⟩ e) :=
  ((((h.setCell (p := ⟨g, 0, none⟩) hg a).setCell (p := ⟨g, 1, none⟩) hg b).setCell (p := ⟨g, 2, none⟩) hg c).setCell (p := ⟨g, 3, none⟩) hg d).setCell (p := ⟨g, 4, none⟩) hg e
theorem set5_row {W : World} {g : Nat} {t : TypeId} {x0 x1 x2 x3 x4 : Value} (h : W.heap[g]? = some (.cells #[x0, x1, x2, x3, x4] t (0, 0))) (a b c d e : Value) :
    (((((W.setCell ⟨g, 0, none⟩ a).setCell ⟨g, 1, none⟩ b).setCell ⟨g, 2, none⟩ c).setCell ⟨g, 3, none⟩ d).setCell ⟨g, 4, none⟩ e).heap[g]? = some (.cells #[a, b, c, d, e] t (0, 0)) :=
  b_set (b_set (b_set (b_set (b_set h 0 a) 1 b) 2 c) 3 d) 4 e
theorem load_req {W : World} {g : Nat} {t : TypeId} {fr : Nat × Nat} {a b c d e : Value} (h : W.heap[g]? = some (.cells #[a, b, c, d, e] t fr)) : (loadVar 33 ⟨g, 0, none⟩).run Tryz.prog W = .ok (.agg #[a, b, c, d, e]) W :=
  run_loadVar_row W g t _ _ fr _ h Tryz.underlying33 rfl (by kernel_rfl)
/-- A return of a request and a number. -/
theorem ret_req1 {fn : Func} {R : Ending → World → Prop} {tmps : Array Value} {W : World} (hf : fn.results = #[.cell 2 33, .tmp 3]) {g : Nat} {t : TypeId} {fr : Nat × Nat} {a b c d e v : Value}
    (hrow : W.heap[g]? = some (.cells #[a, b, c, d, e] t fr)) (h2 : tmps.getD 2 undef = .pointer (some ⟨g, 0, none⟩)) (h3 : tmps.getD 3 undef = v) (hR : R (.returned (.tuple #[.agg #[a, b, c, d, e], v])) W) : bodyPost Tryz.prog fn R .ret ⟨tmps, []⟩ W :=
  bodyPost_ret (v := .tuple #[.agg #[a, b, c, d, e], v]) (by
    rw [results_cell_tmp hf]
    simp only
    rw [h2, h3]
    simp [asAddr, load_req hrow]) rfl hR
def reqV (x : List UInt8 × List UInt8 × Int) : Value := .agg #[.string (B x.1), .string (B x.2.1), .int .i64 x.2.2, .slice none 0 0, .slice none 0 0]
set_option maxRecDepth 100000 in
set_option maxHeartbeats 1000000 in
theorem req_any (s : ByteArray) (hs : s.size < 4294967281) (w : World) (hG : Gl w) :
    Calls Tryz.prog 13 #[.string s] w fun e w' => e = .returned (.tuple #[reqV (reqF s.data.toList).1, .int .i64 (reqF s.data.toList).2]) ∧ Only (fun _ => False) w w' := by
  have hF : reqF s.data.toList = (match splitC 32 s.data.toList with
    | [m, t, v] =>
      if 20 < m.length ∨ token m = false ∨ targetF m t = false then (([], [], 0), 400)
      else if 512 < t.length then (([], [], 0), 414)
      else if numberedF v = false then (([], [], 0), 400)
      else if (minorF v).2 = false then (([], [], 0), 505)
      else ((m, t, (minorF v).1), 0)
    | _ => (([], [], 0), 400)) := rfl
  have hsl : s.data.toList.length = s.size := by simp
  have hln := splitC_len 32 s.data.toList
  rw [hsl] at hln
  clear hsl
  go_enter Tryz.func13, Tryz.ntmps13
  go_wp2_with fail
  have O0 : Only (fun _ => False) w (w.alloc (.cells #[.string ⟨#[]⟩, .string ⟨#[]⟩, .int .i64 0, .slice none 0 0, .slice none 0 0] 33)) := (Only.refl _ w).alloc _
  refine (strSplit_any 32 s hs _ (hG.same O0)).mono ?_
  rintro e w1 ⟨A, c, rfl, HP, O1⟩
  obtain ⟨ps, hps⟩ : ∃ ps, splitC 32 s.data.toList = ps := ⟨_, rfl⟩
  rw [hps] at HP hF hln ⊢
  clear hps
  have HR : Row w1 A (sV ps) := HP.row
  have hnew : ∀ i, ab A i → i ≠ w.heap.size := fun i hi => by
    have := (HP.blk i hi).1
    simp at this
    omega
  replace hnew := hid hnew
  clear HP
  replace hF := hid hF
  have O01 := O0.trans O1
  have hrow := O1.keep (b_new w (.cells #[.string ⟨#[]⟩, .string ⟨#[]⟩, .int .i64 0, .slice none 0 0, .slice none 0 0] 33)) (fun h => h)
  obtain ⟨g, hg⟩ : ∃ g, w.heap.size = g := ⟨_, rfl⟩
  rw [hg] at hrow ⊢
  have hgl := b_lt hrow
  have c0 := b_cell hrow 0
  have c1 := b_cell hrow 1
  have c2 := b_cell hrow 2
  have c3 := b_cell hrow 3
  have c4 := b_cell hrow 4
  have f0 := b_free hrow 0
  have f1 := b_free hrow 1
  have f2 := b_free hrow 2
  have f3 := b_free hrow 3
  have f4 := b_free hrow 4
  simp only [List.getElem?_toArray, List.getElem?_cons_zero, List.getElem?_cons_succ] at c0 c1 c2 c3 c4
  clear O0 O1
  by_cases h3 : ps.length = 3
  case neg =>
    have hx : ¬ ((ps.length : Nat) : Int) = 3 := by omega
    have hres : Hid (reqF s.data.toList = (([], [], 0), 400)) := hid (by
      rw [hF.out]
      match ps, h3 with
      | [], _ => rfl
      | [_], _ => rfl
      | [_, _], _ => rfl
      | _ :: _ :: _ :: _ :: _, _ => rfl
      | [_, _, _], h => exact absurd rfl h)
    generalize ps.length = n at *
    have hbx : decide (¬ (n : Int) = 3) = true := by simpa using hx
    have hbx2 : ((n : Int) != 3) = true := by simpa using hx
    go_upto_region 2 with (fail)
    go_quiet (fail)
    go_wp2_with fail
    exact ret_req1 Tryz.results13 (set5_row (b_drewN hrow nq) ..) rfl rfl ⟨by rw [hres.out]; rfl, (O01.drewN nq).set5 (.inr (by omega)) ..⟩
  case pos =>
    match ps, h3 with
    | [m, t, v], _ =>
    obtain ⟨l1, l2, l3⟩ : m.length ≤ s.size ∧ t.length ≤ s.size ∧ v.length ≤ s.size := ⟨hln.2 m (by simp), hln.2 t (by simp), hln.2 v (by simp)⟩
    obtain ⟨b, off, e, hb, r0⟩ := str_at HR 0 m rfl
    have hbg : b ≠ g := by rw [← hg]; exact hnew.out b ⟨_, e, rfl⟩
    have hgb : g ≠ b := fun h => hbg h.symm
    obtain ⟨b', off', e', _, r1⟩ := str_at HR 1 t rfl
    rw [e] at e'
    cases e'
    obtain ⟨b', off', e', _, r2⟩ := str_at HR 2 v rfl
    rw [e] at e'
    cases e'
    subst e
    rw [Nat.add_zero] at r0
    clear HR hln h3
    obtain ⟨mb, hmb⟩ : ∃ mb, B m = mb := ⟨_, rfl⟩
    obtain ⟨tb, htb⟩ : ∃ tb, B t = tb := ⟨_, rfl⟩
    obtain ⟨vb, hvb⟩ : ∃ vb, B v = vb := ⟨_, rfl⟩
    rw [hmb] at r0
    rw [htb] at r1
    rw [hvb] at r2
    obtain rfl : m = mb.data.toList := by rw [← hmb]
    obtain rfl : t = tb.data.toList := by rw [← htb]
    obtain rfl : v = vb.data.toList := by rw [← hvb]
    clear hmb htb hvb
    replace hF := hF.out
    simp only [] at hF
    rw [show mb.data.toList.length = mb.size by simp, show tb.data.toList.length = tb.size by simp] at hF
    rw [show mb.data.toList.length = mb.size by simp] at l1
    rw [show tb.data.toList.length = tb.size by simp] at l2
    rw [show vb.data.toList.length = vb.size by simp] at l3
    have hm1 : mb.size ≤ 9223372036854775807 := by omega
    have ht1 : tb.size ≤ 9223372036854775807 := by omega
    have hlen : (((List.length [mb.data.toList, tb.data.toList, vb.data.toList] : Nat) : Int)) = 3 := rfl
    rw [show List.length [mb.data.toList, tb.data.toList, vb.data.toList] = 3 from rfl]
    clear hlen
    by_cases h20 : 20 < mb.size
    · have hres : Hid (reqF s.data.toList = (([], [], 0), 400)) := hid (by rw [hF, if_pos (.inl h20)])
      have hd : decide (20 < (mb.size : Int)) = true := by simp; omega
      clear hF
      go_upto_region 2 with (fail)
      go_quiet (fail)
      go_wp2_with fail
      exact ret_req1 Tryz.results13 (set5_row (b_drewN hrow nq) ..) rfl rfl ⟨by rw [hres.out]; rfl, (O01.drewN nq).set5 (.inr (by omega)) ..⟩
    have hd : decide (20 < (mb.size : Int)) = false := by simp; omega
    cases d1 : token mb.data.toList
    · have hres : Hid (reqF s.data.toList = (([], [], 0), 400)) := hid (by rw [hF, if_pos (.inr (.inl d1))])
      clear hF
      go_upto_region 2 with (fail)
      go_quiet ((go_at_call 33; exact Calls.quiet_of_same ((token_any mb hm1 _).mono fun _ _ ⟨h1, h2⟩ => ⟨h1, h2.symm⟩)))
      go_wp2_with fail
      exact ret_req1 Tryz.results13 (set5_row (b_drewN hrow nq) ..) rfl rfl ⟨by rw [hres.out]; rfl, (O01.drewN nq).set5 (.inr (by omega)) ..⟩
    cases d2 : targetF mb.data.toList tb.data.toList
    · have hres : Hid (reqF s.data.toList = (([], [], 0), 400)) := hid (by rw [hF, if_pos (.inr (.inr d2))])
      clear hF
      go_upto_region 2 with (fail)
      go_quiet ((first | (go_at_call 33; exact Calls.quiet_of_same ((token_any mb hm1 _).mono fun _ _ ⟨h1, h2⟩ => ⟨h1, h2.symm⟩)) | (go_at_call 34; exact Calls.quiet_of_same ((lineTarget_any mb tb ht1 _).mono fun _ _ ⟨h1, h2⟩ => ⟨h1, h2.symm⟩))))
      go_wp2_with fail
      exact ret_req1 Tryz.results13 (set5_row (b_drewN hrow nq) ..) rfl rfl ⟨by rw [hres.out]; rfl, (O01.drewN nq).set5 (.inr (by omega)) ..⟩
    rw [if_neg (by simp [d1, d2]; omega)] at hF
    replace hF := hid hF
    go_upto_region 2 with (fail)
    go_quiet ((first | (go_at_call 33; exact Calls.quiet_of_same ((token_any mb hm1 _).mono fun _ _ ⟨h1, h2⟩ => ⟨h1, h2.symm⟩)) | (go_at_call 34; exact Calls.quiet_of_same ((lineTarget_any mb tb ht1 _).mono fun _ _ ⟨h1, h2⟩ => ⟨h1, h2.symm⟩))))
    have O2 := O01.drewN nq
    replace hrow := b_drewN hrow nq
    replace d1 := hid d1
    replace d2 := hid d2
    go_wp2_with fail
    refine (minor_any vb _).mono ?_
    rintro e w2 ⟨rfl, rfl⟩
    by_cases h512 : 512 < tb.size
    · have hres : Hid (reqF s.data.toList = (([], [], 0), 414)) := hid (by rw [hF.out, if_pos h512])
      clear hF
      go_wp2_with fail
      exact ret_req1 Tryz.results13 (set5_row hrow ..) rfl rfl ⟨by rw [hres.out]; rfl, O2.set5 (.inr (by omega)) ..⟩
    have hF2 := hF.out
    rw [if_neg h512] at hF2
    replace hF2 := hid hF2
    clear hF
    go_wp2_with fail
    refine (numbered_any vb _).mono ?_
    rintro e w2 ⟨rfl, rfl⟩
    cases d3 : numberedF vb.data.toList
    · have hres : Hid (reqF s.data.toList = (([], [], 0), 400)) := hid (by rw [hF2.out, if_pos d3])
      clear hF2
      go_wp2_with fail
      exact ret_req1 Tryz.results13 (set5_row hrow ..) rfl rfl ⟨by rw [hres.out]; rfl, O2.set5 (.inr (by omega)) ..⟩
    have hF3 := hF2.out
    rw [if_neg (by rw [d3]; decide)] at hF3
    clear hF2
    cases d4 : (minorF vb.data.toList).2
    · have hres : Hid (reqF s.data.toList = (([], [], 0), 505)) := hid (by rw [hF3, if_pos d4])
      clear hF3
      go_wp2_with fail
      exact ret_req1 Tryz.results13 (set5_row hrow ..) rfl rfl ⟨by rw [hres.out]; rfl, O2.set5 (.inr (by omega)) ..⟩
    rw [if_neg (by rw [d4]; decide)] at hF3
    replace hF3 := hid hF3
    generalize (minorF vb.data.toList).1 = z at *
    go_upto_region 11 with (fail)
    go_region_held3 (fun w' => w'.cell? ⟨b, off, none⟩ = some (.string mb) ∧ w'.cell? ⟨b, off + 1, none⟩ = some (.string tb)) (go_keep) (fail)
    go_wp2_with fail
    exact ret_req1 Tryz.results13 (set5_row (b_drewN hrow 1) ..) rfl rfl ⟨by rw [hF3.out]; rfl, (O2.drewN 1).set5 (.inr (by omega)) ..⟩
end Go.Proofs.YtafljoiblfhioaaGreatDoor
