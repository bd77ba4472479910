/-
  Kept of the package conf; ContainsFunc over strings; Has of the package field; Hop of the package scrub.
-/
import Derived.Test.YtpblgjadpfecgaaGreatDoorSa
set_option linter.unusedSimpArgs false
set_option linter.unusedVariables false
namespace Go.Proofs.YtpblgjadpfecgaaGreatDoor
open Go.RowKit

theorem kept_eq (F : List UInt8) : keptL.contains F = (F == ([104, 111, 115, 116] : List UInt8) || (F == ([99, 111, 110, 116, 101, 110, 116, 45, 108, 101, 110, 103, 116, 104] : List UInt8) || (F == ([116, 114, 97, 110, 115, 102, 101, 114, 45, 101, 110, 99, 111, 100, 105, 110, 103] : List UInt8) || (F == ([99, 111, 110, 110, 101, 99, 116, 105, 111, 110] : List UInt8) || (F == ([107, 101, 101, 112, 45, 97, 108, 105, 118, 101] : List UInt8) || (F == ([112, 114, 111, 120, 121, 45, 99, 111, 110, 110, 101, 99, 116, 105, 111, 110] : List UInt8) || (F == ([116, 101] : List UInt8) || (F == ([116, 114, 97, 105, 108, 101, 114] : List UInt8) || (F == ([117, 112, 103, 114, 97, 100, 101] : List UInt8) || (F == ([101, 120, 112, 101, 99, 116] : List UInt8) || (F == ([118, 105, 97] : List UInt8)))))))))))) := by
  unfold keptL
  simp only [List.contains_cons, List.contains_nil, Bool.or_false]
set_option maxRecDepth 100000 in
set_option maxHeartbeats 4000000 in
theorem kept_any (s : ByteArray) (hs : s.size ≤ 9223372036854775807) (w : World) : Calls Tryz.prog 295 #[.string s] w fun e w' => e = .returned (.bool (keptF s.data.toList)) ∧ Only (fun _ => False) w w' := by
  have hF := kept_eq (fold s.data.toList)
  have hK : keptF s.data.toList = keptL.contains (fold s.data.toList) := rfl
  rw [← hK] at hF
  clear hK
  obtain ⟨F, hFF⟩ : ∃ F, fold s.data.toList = F := ⟨_, rfl⟩
  rw [hFF] at hF
  have hf := fun w => fold_any s hs w
  rw [hFF] at hf
  clear hFF
  replace hF := hid hF
  go_enter Tryz.func295, Tryz.ntmps295
  go_wp2_with fail
  refine (hf _).mono ?_
  rintro e w1 ⟨rfl, O1⟩
  clear hf
  cases h0 : (F == ([104, 111, 115, 116] : List UInt8))
  case true =>
    have hR : keptF s.data.toList = true := by rw [hF.out, h0]; simp
    replace hR := hid hR
    clear hF
    go_wp2_with fail
    go_ret
    exact ⟨by rw [hR.out]; rfl, O1⟩
  cases h1 : (F == ([99, 111, 110, 116, 101, 110, 116, 45, 108, 101, 110, 103, 116, 104] : List UInt8))
  case true =>
    have hR : keptF s.data.toList = true := by rw [hF.out, h0, h1]; simp
    replace hR := hid hR
    clear hF
    go_wp2_with fail
    go_ret
    exact ⟨by rw [hR.out]; rfl, O1⟩
  cases h2 : (F == ([116, 114, 97, 110, 115, 102, 101, 114, 45, 101, 110, 99, 111, 100, 105, 110, 103] : List UInt8))
  case true =>
    have hR : keptF s.data.toList = true := by rw [hF.out, h0, h1, h2]; simp
    replace hR := hid hR
    clear hF
    go_wp2_with fail
    go_ret
    exact ⟨by rw [hR.out]; rfl, O1⟩
  cases h3 : (F == ([99, 111, 110, 110, 101, 99, 116, 105, 111, 110] : List UInt8))
  case true =>
    have hR : keptF s.data.toList = true := by rw [hF.out, h0, h1, h2, h3]; simp
    replace hR := hid hR
    clear hF
    go_wp2_with fail
    go_ret
    exact ⟨by rw [hR.out]; rfl, O1⟩
  cases h4 : (F == ([107, 101, 101, 112, 45, 97, 108, 105, 118, 101] : List UInt8))
  case true =>
    have hR : keptF s.data.toList = true := by rw [hF.out, h0, h1, h2, h3, h4]; simp
    replace hR := hid hR
    clear hF
    go_wp2_with fail
    go_ret
    exact ⟨by rw [hR.out]; rfl, O1⟩
  cases h5 : (F == ([112, 114, 111, 120, 121, 45, 99, 111, 110, 110, 101, 99, 116, 105, 111, 110] : List UInt8))
  case true =>
    have hR : keptF s.data.toList = true := by rw [hF.out, h0, h1, h2, h3, h4, h5]; simp
    replace hR := hid hR
    clear hF
    go_wp2_with fail
    go_ret
    exact ⟨by rw [hR.out]; rfl, O1⟩
  cases h6 : (F == ([116, 101] : List UInt8))
  case true =>
    have hR : keptF s.data.toList = true := by rw [hF.out, h0, h1, h2, h3, h4, h5, h6]; simp
    replace hR := hid hR
    clear hF
    go_wp2_with fail
    go_ret
    exact ⟨by rw [hR.out]; rfl, O1⟩
  cases h7 : (F == ([116, 114, 97, 105, 108, 101, 114] : List UInt8))
  case true =>
    have hR : keptF s.data.toList = true := by rw [hF.out, h0, h1, h2, h3, h4, h5, h6, h7]; simp
    replace hR := hid hR
    clear hF
    go_wp2_with fail
    go_ret
    exact ⟨by rw [hR.out]; rfl, O1⟩
  cases h8 : (F == ([117, 112, 103, 114, 97, 100, 101] : List UInt8))
  case true =>
    have hR : keptF s.data.toList = true := by rw [hF.out, h0, h1, h2, h3, h4, h5, h6, h7, h8]; simp
    replace hR := hid hR
    clear hF
    go_wp2_with fail
    go_ret
    exact ⟨by rw [hR.out]; rfl, O1⟩
  cases h9 : (F == ([101, 120, 112, 101, 99, 116] : List UInt8))
  case true =>
    have hR : keptF s.data.toList = true := by rw [hF.out, h0, h1, h2, h3, h4, h5, h6, h7, h8, h9]; simp
    replace hR := hid hR
    clear hF
    go_wp2_with fail
    go_ret
    exact ⟨by rw [hR.out]; rfl, O1⟩
  cases h10 : (F == ([118, 105, 97] : List UInt8))
  case true =>
    have hR : keptF s.data.toList = true := by rw [hF.out, h0, h1, h2, h3, h4, h5, h6, h7, h8, h9, h10]; simp
    replace hR := hid hR
    clear hF
    go_wp2_with fail
    go_ret
    exact ⟨by rw [hR.out]; rfl, O1⟩
  have hR : keptF s.data.toList = false := by rw [hF.out, h0, h1, h2, h3, h4, h5, h6, h7, h8, h9, h10]; rfl
  replace hR := hid hR
  clear hF
  go_wp2_with fail
  go_ret
  exact ⟨by rw [hR.out]; rfl, O1⟩

set_option maxRecDepth 100000 in
set_option maxHeartbeats 1000000 in
/-- IndexFunc over strings, at whatever function whose calls turn nothing. -/
theorem index_str1 (K : FuncId) (eg : ∀ args w, (callFunc K args).run Tryz.prog w = .ok (.enter K args) w) (lb : Value) (p : List UInt8 → Bool) (ss : List (List UInt8)) (A : Option Addr) (c : Nat) (w : World) (hR : Row w A (sV ss)) (hn : ss.length ≤ 9223372036854775807)
    (hf : ∀ s ∈ ss, ∀ W, Only (fun _ => False) w W → Calls Tryz.prog K #[.string (B s), lb] W fun e w' => e = .returned (.bool (p s)) ∧ Only (fun _ => False) W w') :
    Calls Tryz.prog 284 #[.slice A ss.length c, .func (.func K) #[] #[lb]] w fun e w' => ∃ z : Int, e = .returned (.int .i64 z) ∧ (decide (0 ≤ z) = ss.any p) ∧ Only (fun _ => False) w w' := by
  obtain ⟨n, hnn⟩ : ∃ n, ss.length = n := ⟨_, rfl⟩
  rw [hnn] at hn ⊢
  replace hnn := hid hnn
  go_enter Tryz.func284, Tryz.ntmps284
  go_wp2_with fail
  go_loopw [8] (fun iv wr => ∃ k : Nat, k ≤ n ∧ iv = .int .i64 (k : Int) ∧ Hid (∀ i, i < k → ∀ s, ss[i]? = some s → p s = false) ∧ Only (fun _ => False) w wr) (fun iv _ => n - (intOf iv).toNat)
  case atStart => exact ⟨0, by omega, rfl, hid (by omega), Only.refl _ _⟩
  case round =>
    obtain ⟨k, hk, rfl, hx, O⟩ := hrel
    by_cases hlt : k < n
    · obtain ⟨q, hq⟩ : ∃ q, ss[k]? = some q := ⟨_, List.getElem?_eq_getElem (by rw [hnn.out]; exact hlt)⟩
      obtain ⟨b, off, rfl, hb, c0⟩ := str_at (hR.same O) k q hq
      have hc := fun W O => hf q (List.mem_of_getElem? hq) W O
      replace hq := hid hq
      go_wp2_with fail
      refine (hc _ O).mono ?_
      rintro e w2 ⟨rfl, O2⟩
      have O3 := O.trans O2
      have hx' : p q = false → Hid (∀ i, i < k + 1 → ∀ s, ss[i]? = some s → p s = false) := fun h => hid (by
        intro i hi s hs
        by_cases hik : i = k
        · subst hik
          rw [hq.out] at hs
          cases hs
          exact h
        · exact hx.out i (by omega) s hs)
      have hy : p q = true → Hid (ss.any p = true) := fun h => hid (List.any_eq_true.2 ⟨q, List.mem_of_getElem? hq.out, h⟩)
      clear c0 O2 O hc
      cases hr : p q
      · replace hx' := hx' hr
        clear hy hr
        go_wp2_with fail
        go_roundw
        case rel => exact ⟨k + 1, by omega, by simp, hx', O3⟩
        case measure => simp [intOf]; omega
      · replace hy := hy hr
        clear hx' hr
        go_wp2_with fail
        go_ret
        exact ⟨k, rfl, by rw [hy.out]; simp, O3⟩
    · have hall : Hid (ss.any p = false) := hid (by
        rw [List.any_eq_false]
        intro s hs
        obtain ⟨i, hi, rfl⟩ := List.mem_iff_getElem.1 hs
        rw [hx.out i (by rw [hnn.out] at hi; omega) _ (List.getElem?_eq_getElem hi)]
        decide)
      clear hx
      go_wp2_with fail
      go_ret
      exact ⟨-1, rfl, by rw [hall.out]; rfl, O⟩
theorem contains_str1 (K : FuncId) (eg : ∀ args w, (callFunc K args).run Tryz.prog w = .ok (.enter K args) w) (lb : Value) (p : List UInt8 → Bool) (ss : List (List UInt8)) (A : Option Addr) (c : Nat) (w : World) (hR : Row w A (sV ss)) (hn : ss.length ≤ 9223372036854775807)
    (hf : ∀ s ∈ ss, ∀ W, Only (fun _ => False) w W → Calls Tryz.prog K #[.string (B s), lb] W fun e w' => e = .returned (.bool (p s)) ∧ Only (fun _ => False) W w') :
    Calls Tryz.prog 221 #[.slice A ss.length c, .func (.func K) #[] #[lb]] w fun e w' => e = .returned (.bool (ss.any p)) ∧ Only (fun _ => False) w w' := by
  have hi := index_str1 K eg lb p ss A c w hR hn hf
  clear hf
  go_enter Tryz.func221, Tryz.ntmps221
  go_wp2_with fail
  refine hi.mono ?_
  rintro e w1 ⟨z, rfl, hz, O1⟩
  replace hz := hid hz
  go_wp2_with fail
  go_ret
  exact ⟨by rw [← hz.out]; rfl, O1⟩

set_option maxRecDepth 100000 in
set_option maxHeartbeats 1000000 in
/-- IndexFunc over strings, at whatever function whose calls turn nothing. -/
theorem index_str0 (K : FuncId) (eg : ∀ args w, (callFunc K args).run Tryz.prog w = .ok (.enter K args) w) (p : List UInt8 → Bool) (ss : List (List UInt8)) (A : Option Addr) (c : Nat) (w : World) (hR : Row w A (sV ss)) (hn : ss.length ≤ 9223372036854775807)
    (hf : ∀ s ∈ ss, ∀ W, Only (fun _ => False) w W → Calls Tryz.prog K #[.string (B s)] W fun e w' => e = .returned (.bool (p s)) ∧ Only (fun _ => False) W w') :
    Calls Tryz.prog 284 #[.slice A ss.length c, .func (.func K) #[] #[]] w fun e w' => ∃ z : Int, e = .returned (.int .i64 z) ∧ (decide (0 ≤ z) = ss.any p) ∧ Only (fun _ => False) w w' := by
  obtain ⟨n, hnn⟩ : ∃ n, ss.length = n := ⟨_, rfl⟩
  rw [hnn] at hn ⊢
  replace hnn := hid hnn
  go_enter Tryz.func284, Tryz.ntmps284
  go_wp2_with fail
  go_loopw [8] (fun iv wr => ∃ k : Nat, k ≤ n ∧ iv = .int .i64 (k : Int) ∧ Hid (∀ i, i < k → ∀ s, ss[i]? = some s → p s = false) ∧ Only (fun _ => False) w wr) (fun iv _ => n - (intOf iv).toNat)
  case atStart => exact ⟨0, by omega, rfl, hid (by omega), Only.refl _ _⟩
  case round =>
    obtain ⟨k, hk, rfl, hx, O⟩ := hrel
    by_cases hlt : k < n
    · obtain ⟨q, hq⟩ : ∃ q, ss[k]? = some q := ⟨_, List.getElem?_eq_getElem (by rw [hnn.out]; exact hlt)⟩
      obtain ⟨b, off, rfl, hb, c0⟩ := str_at (hR.same O) k q hq
      have hc := fun W O => hf q (List.mem_of_getElem? hq) W O
      replace hq := hid hq
      go_wp2_with fail
      refine (hc _ O).mono ?_
      rintro e w2 ⟨rfl, O2⟩
      have O3 := O.trans O2
      have hx' : p q = false → Hid (∀ i, i < k + 1 → ∀ s, ss[i]? = some s → p s = false) := fun h => hid (by
        intro i hi s hs
        by_cases hik : i = k
        · subst hik
          rw [hq.out] at hs
          cases hs
          exact h
        · exact hx.out i (by omega) s hs)
      have hy : p q = true → Hid (ss.any p = true) := fun h => hid (List.any_eq_true.2 ⟨q, List.mem_of_getElem? hq.out, h⟩)
      clear c0 O2 O hc
      cases hr : p q
      · replace hx' := hx' hr
        clear hy hr
        go_wp2_with fail
        go_roundw
        case rel => exact ⟨k + 1, by omega, by simp, hx', O3⟩
        case measure => simp [intOf]; omega
      · replace hy := hy hr
        clear hx' hr
        go_wp2_with fail
        go_ret
        exact ⟨k, rfl, by rw [hy.out]; simp, O3⟩
    · have hall : Hid (ss.any p = false) := hid (by
        rw [List.any_eq_false]
        intro s hs
        obtain ⟨i, hi, rfl⟩ := List.mem_iff_getElem.1 hs
        rw [hx.out i (by rw [hnn.out] at hi; omega) _ (List.getElem?_eq_getElem hi)]
        decide)
      clear hx
      go_wp2_with fail
      go_ret
      exact ⟨-1, rfl, by rw [hall.out]; rfl, O⟩
theorem contains_str0 (K : FuncId) (eg : ∀ args w, (callFunc K args).run Tryz.prog w = .ok (.enter K args) w) (p : List UInt8 → Bool) (ss : List (List UInt8)) (A : Option Addr) (c : Nat) (w : World) (hR : Row w A (sV ss)) (hn : ss.length ≤ 9223372036854775807)
    (hf : ∀ s ∈ ss, ∀ W, Only (fun _ => False) w W → Calls Tryz.prog K #[.string (B s)] W fun e w' => e = .returned (.bool (p s)) ∧ Only (fun _ => False) W w') :
    Calls Tryz.prog 221 #[.slice A ss.length c, .func (.func K) #[] #[]] w fun e w' => e = .returned (.bool (ss.any p)) ∧ Only (fun _ => False) w w' := by
  have hi := index_str0 K eg p ss A c w hR hn hf
  clear hf
  go_enter Tryz.func221, Tryz.ntmps221
  go_wp2_with fail
  refine hi.mono ?_
  rintro e w1 ⟨z, rfl, hz, O1⟩
  replace hz := hid hz
  go_wp2_with fail
  go_ret
  exact ⟨by rw [← hz.out]; rfl, O1⟩

theorem has1_any (s part : ByteArray) (g : Nat) (hs : s.size ≤ 9223372036854775807) (hp : part.size ≤ 9223372036854775807) (w : World) (h : w.cell? ⟨g, 0, none⟩ = some (.string part)) :
    Calls Tryz.prog 223 #[.string s, .pointer (some ⟨g, 0, none⟩)] w fun e w' => e = .returned (.bool (same s.data.toList part.data.toList)) ∧ Only (fun _ => False) w w' := by
  go_enter Tryz.func223, Tryz.ntmps223
  go_wp2_with fail
  refine (same_any s part hs hp w).mono ?_
  rintro e w1 ⟨rfl, O1⟩
  go_wp2_with fail
  go_ret
  exact ⟨rfl, O1⟩

theorem has1_enters (args : Array Value) (w : World) : (callFunc 223 args).run Tryz.prog w = .ok (.enter 223 args) w := Go.Proofs.enters_of Tryz.func223 (by kernel_rfl) rfl args w
theorem listF_len (fs : List FD) (name : List UInt8) (M : Nat) (h : ∀ p ∈ fs, p.2.length < M) : (listF fs name).length ≤ fs.length * M := by
  unfold listF
  have h1 := flat_len (getF fs name) M (fun p hp => by
    obtain ⟨q, hq, rfl⟩ := List.mem_map.1 hp
    exact h q (List.mem_filter.1 hq).1)
  exact Nat.le_trans h1 (Nat.mul_le_mul_right _ (getF_len fs name))
theorem listF_mem (fs : List FD) (name s : List UInt8) (M : Nat) (h : ∀ p ∈ fs, p.2.length < M) (hs : s ∈ listF fs name) : s.length < M := by
  unfold listF at hs
  obtain ⟨v, hv, hs⟩ := List.mem_flatMap.1 hs
  obtain ⟨q, hq, rfl⟩ := List.mem_map.1 hv
  exact Nat.lt_of_le_of_lt (splitF_mem _ _ hs) (h q (List.mem_filter.1 hq).1)
theorem cell_lt {w : World} {a : Addr} {v : Value} (h : w.cell? a = some v) : a.block < w.heap.size := by
  unfold World.cell? at h
  by_cases hb : a.block < w.heap.size
  · exact hb
  · rw [Array.getElem?_eq_none (by omega)] at h
    simp at h
/-- Has of the package field. -/
theorem has_any (fs : List FD) (name part : ByteArray) (A : Option Addr) (c : Nat) (w : World) (hR : Row w A (fV fs)) (hS : SmallF fs) (h48 : fs.length ≤ 1000) (hn : name.size < 4294967281) (hp : part.size ≤ 9223372036854775807) (hG : Gl w) :
    Calls Tryz.prog 157 #[.slice A fs.length c, .string name, .string part] w fun e w' => e = .returned (.bool (hasF fs name.data.toList part.data.toList)) ∧ Only (fun _ => False) w w' := by
  have hl := list_any fs name A c _ (hR.same ((Only.refl (fun _ => False) w).alloc (.cells #[.string part] 9))) hS h48 hn (hG.same ((Only.refl (fun _ => False) w).alloc _))
  obtain ⟨ps, hps⟩ : ∃ ps, listF fs name.data.toList = ps := ⟨_, rfl⟩
  have hH : hasF fs name.data.toList part.data.toList = ps.any (fun p => same p part.data.toList) := by unfold hasF; rw [hps]
  have hlen := listF_len fs name.data.toList 4294967281 (fun p hp => (hS.2 p hp).2)
  have hmem := fun s => listF_mem fs name.data.toList s 4294967281 (fun p hp => (hS.2 p hp).2)
  rw [hps] at hl hlen hmem
  clear hps
  replace hH := hid hH
  replace hmem := hid hmem
  have hlen' : ps.length ≤ 9223372036854775807 := by
    have := Nat.mul_le_mul_right 4294967281 h48
    omega
  clear hlen
  have h0 : (w.alloc (.cells #[.string part] 9)).cell? ⟨w.heap.size, 0, none⟩ = some (.string part) := by
    rw [b_cell' (b_new w _) 0]; rfl
  have OA := (Only.refl (fun _ => False) w).alloc (.cells #[.string part] 9)
  have hlt : w.heap.size < (w.alloc (.cells #[.string part] 9)).heap.size := (Array.getElem?_eq_some_iff.1 (b_new w _)).1
  go_enter Tryz.func157, Tryz.ntmps157
  go_wp2_with fail
  refine hl.mono ?_
  rintro e w1 ⟨A', c', rfl, HO, O1⟩
  have h1 := (O1.cell (p := ⟨w.heap.size, 0, none⟩) hlt (fun h => h)).trans h0
  have O := OA.trans O1
  clear hl h0 OA O1 hlt
  have HR : Row w1 A' (sV ps) := HO.row
  clear HO
  have hc := contains_str1 223 has1_enters (.pointer (some ⟨w.heap.size, 0, none⟩)) (fun p => same p part.data.toList) ps A' c' w1 HR hlen' (fun s hs W OW =>
    (has1_any (B s) part w.heap.size (by have := hmem.out s hs; simp [ByteArray.size]; omega) hp W ((OW.cell (cell_lt h1) (fun h => h)).trans h1)).mono (fun _ _ h => h))
  generalize w.heap.size = g at *
  go_wp2_with fail
  refine hc.mono ?_
  rintro e w2 ⟨rfl, O2⟩
  clear hc h1
  obtain ⟨b, hb⟩ : ∃ b, (ps.any fun p => same p part.data.toList) = b := ⟨_, rfl⟩
  rw [hb] at hH ⊢
  go_wp2_with fail
  go_ret
  exact ⟨by rw [hH.out]; rfl, O.trans O2⟩

end Go.Proofs.YtpblgjadpfecgaaGreatDoor
