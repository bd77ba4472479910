/-
  The package http: open, body, Request.
-/
import Derived.Test.YtpblgjadpfecgaaGreatDoorZa
set_option linter.unusedSimpArgs false
set_option linter.unusedVariables false
namespace Go.Proofs.YtpblgjadpfecgaaGreatDoor
open Go.RowKit

theorem frameF_bd (fs : List FD) (minor : Int) : 0 ≤ (frameF fs minor).1 ∧ (frameF fs minor).1 ≤ 4096 := by
  have hl : (lengthF fs).2 = true → 0 ≤ (lengthF fs).1 := by
    unfold lengthF
    split
    · simp
    · simp
  unfold frameF
  simp only []
  split
  · simp
  · split
    · simp
    · split
      · simp
      · split
        · simp
        · split
          · simp
          · split
            · simp
            · rename_i h1 h2
              simp only [Bool.not_eq_true, Bool.not_eq_false'] at h1
              exact ⟨hl (by simpa using h1), by simp only; omega⟩
/-- A return of a request and four values. -/
theorem ret_req4 {fn : Func} {R : Ending → World → Prop} {tmps : Array Value} {W : World} (hf : fn.results = #[.cell 2 149, .tmp 3, .tmp 4, .tmp 5, .tmp 6]) {g : Nat} {t : TypeId} {fr : Nat × Nat} {a b c d e v3 v4 v5 v6 : Value}
    (hrow : W.heap[g]? = some (.cells #[a, b, c, d, e] t fr)) (h2 : tmps.getD 2 undef = .pointer (some ⟨g, 0, none⟩)) (h3 : tmps.getD 3 undef = v3) (h4 : tmps.getD 4 undef = v4) (h5 : tmps.getD 5 undef = v5) (h6 : tmps.getD 6 undef = v6) (hR : R (.returned (.tuple #[.agg #[a, b, c, d, e], v3, v4, v5, v6])) W) : bodyPost Tryz.prog fn R .ret ⟨tmps, []⟩ W :=
  bodyPost_ret (v := .tuple #[.agg #[a, b, c, d, e], v3, v4, v5, v6]) (by
    have h2' : tmps[2]?.getD undef = .pointer (some ⟨g, 0, none⟩) := by simpa using h2
    have h3' : tmps[3]?.getD undef = v3 := by simpa using h3
    have h4' : tmps[4]?.getD undef = v4 := by simpa using h4
    have h5' : tmps[5]?.getD undef = v5 := by simpa using h5
    have h6' : tmps[6]?.getD undef = v6 := by simpa using h6
    simp [results, hf, h2', h3', h4', h5', h6', asAddr, load_req hrow]) rfl hR
theorem ret_req2 {fn : Func} {R : Ending → World → Prop} {tmps : Array Value} {W : World} (hf : fn.results = #[.cell 2 149, .tmp 3, .tmp 4]) {g : Nat} {t : TypeId} {fr : Nat × Nat} {a b c d e v3 v4 : Value}
    (hrow : W.heap[g]? = some (.cells #[a, b, c, d, e] t fr)) (h2 : tmps.getD 2 undef = .pointer (some ⟨g, 0, none⟩)) (h3 : tmps.getD 3 undef = v3) (h4 : tmps.getD 4 undef = v4) (hR : R (.returned (.tuple #[.agg #[a, b, c, d, e], v3, v4])) W) : bodyPost Tryz.prog fn R .ret ⟨tmps, []⟩ W :=
  bodyPost_ret (v := .tuple #[.agg #[a, b, c, d, e], v3, v4]) (by
    have h2' : tmps[2]?.getD undef = .pointer (some ⟨g, 0, none⟩) := by simpa using h2
    have h3' : tmps[3]?.getD undef = v3 := by simpa using h3
    have h4' : tmps[4]?.getD undef = v4 := by simpa using h4
    simp [results, hf, h2', h3', h4', asAddr, load_req hrow]) rfl hR

set_option maxRecDepth 100000 in
set_option maxHeartbeats 2000000 in
theorem open_any (A : Option Addr) (n c : Nat) (b : List UInt8) (w : World) (hB : Bs w A n c b) (hA : ∀ i, ab A i → i < w.heap.size) (hn : n ≤ 1000000000) (hG : Gl w) :
    Calls Tryz.prog 152 #[.slice A n c] w fun e w' => ∃ A' c', e = .returned (.tuple #[.agg #[.string (B (openF b).1.1), .string (B (openF b).1.2.1), .int .i64 (openF b).1.2.2, .slice A' (openF b).2.1.length c', .slice none 0 0], .int .i64 ((openF b).2.2.1 : Int), .int .i64 (openF b).2.2.2.1, .bool (openF b).2.2.2.2.1, .int .i64 (openF b).2.2.2.2.2]) ∧
      OwnF w' w.heap.size A' c' (openF b).2.1 ∧ Only (fun _ => False) w w' := by
  obtain ⟨X, hX⟩ : ∃ X, openF b = X := ⟨_, rfl⟩
  rw [hX]
  unfold openF at hX
  have hG6 := hG.size
  obtain ⟨g, hg⟩ : ∃ g, w.heap.size = g := ⟨_, rfl⟩
  have hg6 : 6 ≤ g := by omega
  obtain ⟨w1, hw1⟩ : ∃ w1, w.alloc (.cells #[.string ⟨#[]⟩, .string ⟨#[]⟩, .int .i64 0, .slice none 0 0, .slice none 0 0] 149) = w1 := ⟨_, rfl⟩
  have O1 : Only (fun _ => False) w w1 := by rw [← hw1]; exact (Only.refl _ w).alloc _
  have hrow : w1.heap[g]? = some (.cells (rlRow rl0) 149 (0, 0)) := by rw [← hw1, ← hg]; exact b_new _ _
  have hH := head_any A n c b g w1 (hB.same O1) (fun i hi e => by have := hA i hi; omega) hn (hG.same O1) hg6 hrow (fun i hi => Nat.lt_of_lt_of_le (hA i hi) O1.size)
  have hok := headF_ok b
  obtain ⟨x, hx⟩ : ∃ x, headF b = x := ⟨_, rfl⟩
  rw [hx] at hX hH hok
  obtain ⟨⟨m, t, minor⟩, fs, at_, code⟩ := x
  simp only [] at hX hH hok
  clear hx
  replace hX := hid hX
  go_enter Tryz.func152, Tryz.ntmps152
  go_upto_region 1 with (fail)
  go_wp2_with fail
  refine hH.mono ?_
  rintro e w2 ⟨A', c', rfl, HO, hrow2, O2⟩
  have hs1 : w1.heap.size = g + 1 := by rw [← hw1]; simp; omega
  clear hH hw1 hrow
  replace O1 := O1.trans' O2 (fun i hi => .inr (by omega))
  rw [hs1] at HO
  clear O2 hs1
  unfold rlRow at hrow2
  simp only [] at hrow2
  obtain ⟨⟨c0, c1, c2, c3, c4⟩, f0, f1, f2, f3, f4⟩ := cells5 hrow2
  have hgw : w.heap.size ≤ g := by omega
  have hne : ∀ i, ab A' i → ¬ i = g := fun i hi e => by have := (HO.blk i hi).1; omega
  have hrow3 : (w2.setCell ⟨g, 3, none⟩ (.slice A' fs.length c')).heap[g]? = some (.cells #[.string (B m), .string (B t), .int .i64 minor, .slice A' fs.length c', .slice none 0 0] 149 (0, 0)) := b_set hrow2 3 _
  have HO3 : OwnF (w2.setCell ⟨g, 3, none⟩ (.slice A' fs.length c')) (g + 1) A' c' fs := Own.keep HO ((Only.refl (fun i => i = g) w2).setCell (p := ⟨g, 3, none⟩) (.inl rfl) _) hne
  have O3 : Only (fun _ => False) w (w2.setCell ⟨g, 3, none⟩ (.slice A' fs.length c')) := O1.setCell (p := ⟨g, 3, none⟩) (.inr hgw) _
  replace hne := hid hne
  go_upto_region 2 with (fail)
  clear c0 c1 c2 c3 c4 f0 f1 f2 f3 f4 hrow2 HO O1
  generalize (w2.setCell ⟨g, 3, none⟩ (.slice A' fs.length c')) = w3 at *
  obtain ⟨⟨c0, c1, c2, c3, c4⟩, f0, f1, f2, f3, f4⟩ := cells5 hrow3
  have HR := hid HO3.row
  have hG3 := hG.same O3
  have hfr := frame_any fs minor A' c' w3 HR.out hok.1.small (by have := hok.1.1; omega) hG3
  have hho := fun vm vt vb => hosts_any vm vt vb minor fs A' c' w3 HR.out hok.1
  by_cases hat : at_ = 0
  · subst hat
    have hres : Hid (X = (rl0, [], 0, 0, false, code)) := hid (by rw [← hX.out, if_pos rfl])
    clear hfr hho hX
    replace HO3 := hid HO3
    go_wp2_with fail
    exact ret_req4 Tryz.results152 (set5_row hrow3 ..) rfl rfl rfl rfl rfl ⟨none, 0, by rw [hres.out]; rfl, by rw [hres.out]; exact Own.nil _ _ _ _, O3.set5 (.inr hgw) ..⟩
  have hati : ((at_ : Int) == 0) = false := by rw [beq_eq_false_iff_ne]; omega
  have hX2 := hX.out
  rw [if_neg hat] at hX2
  replace hat := hid hat
  clear hX
  obtain ⟨k, hk⟩ : ∃ k, fs.length = k := ⟨_, rfl⟩
  rw [hk] at hho hfr hrow3 c3 ⊢
  replace hk := hid hk
  go_wp2_with fail
  refine (hho _ _ _).mono ?_
  rintro e w4 ⟨rfl, O4⟩
  clear hho hfr
  have hfr := frame_any fs minor A' c' w4 (HR.out.same O4) hok.1.small (by have := hok.1.1; omega) (hG3.same O4)
  rw [hk.out] at hfr
  replace O3 := O3.trans O4
  replace hrow3 := O4.keep hrow3 (fun h => h)
  replace HO3 := hid (Own.same HO3 O4)
  clear O4 c0 c1 c2 c3 c4 f0 f1 f2 f3 f4
  obtain ⟨⟨c0, c1, c2, c3, c4⟩, f0, f1, f2, f3, f4⟩ := cells5 hrow3
  cases hh : hostsF minor fs
  · have hres : Hid (X = (rl0, [], 0, 0, false, 400)) := hid (by rw [← hX2, if_pos hh])
    clear hfr hX2
    replace hh := hid hh
    go_wp2_with fail
    exact ret_req4 Tryz.results152 (set5_row hrow3 ..) rfl rfl rfl rfl rfl ⟨none, 0, by rw [hres.out]; rfl, by rw [hres.out]; exact Own.nil _ _ _ _, O3.set5 (.inr hgw) ..⟩
  rw [if_neg (by rw [hh]; simp)] at hX2
  obtain ⟨y, hy⟩ : ∃ y, frameF fs minor = y := ⟨_, rfl⟩
  rw [hy] at hfr hX2
  obtain ⟨sz, co, cd⟩ := y
  simp only [] at hfr hX2
  have hres : Hid (X = ((m, t, minor), fs, at_, sz, co, cd)) := hid hX2.symm
  clear hX2 hy
  replace hh := hid hh
  go_wp2_with fail
  refine hfr.mono ?_
  rintro e w5 ⟨rfl, O5⟩
  clear hfr
  replace O3 := O3.trans O5
  replace hrow3 := O5.keep hrow3 (fun h => h)
  replace HO3 := hid (Own.same HO3.out O5)
  clear O5 c0 c1 c2 c3 c4 f0 f1 f2 f3 f4
  obtain ⟨⟨c0, c1, c2, c3, c4⟩, f0, f1, f2, f3, f4⟩ := cells5 hrow3
  go_wp2_with fail
  exact ret_req4 Tryz.results152 (set5_row hrow3 ..) rfl rfl rfl rfl rfl ⟨A', c', by rw [hres.out, hk.out]; rfl, by rw [hres.out]; exact Own.weak (Own.keep HO3.out (Only.set5 (S := fun i => i = g) (Only.refl _ w5) (.inl rfl) ..) hne.out) (by omega), O3.set5 (.inr hgw) ..⟩

theorem openF_bd (b : List UInt8) : (openF b).2.2.1 ≤ b.length ∧ 0 ≤ (openF b).2.2.2.1 ∧ (openF b).2.2.2.1 ≤ 4096 := by
  have h1 := (headF_ok b).2
  have h2 := frameF_bd (headF b).2.1 (headF b).1.2.2
  unfold openF
  split
  · simp
  · split
    · simp
    · exact ⟨h1, h2⟩

set_option maxRecDepth 100000 in
set_option maxHeartbeats 2000000 in
theorem body_any (A : Option Addr) (n c : Nat) (b : List UInt8) (size : Nat) (coded : Bool) (w : World) (hB : Bs w A n c b) (hA : ∀ i, ab A i → i < w.heap.size) (hn : n ≤ 1000000000) (hs : size ≤ 1000000000) (hG : Gl w) :
    Calls Tryz.prog 153 #[.slice A n c, .int .i64 (size : Int), .bool coded] w fun e w' => ∃ A' c', e = .returned (.tuple #[.slice A' (bodyF b size coded).1.length c', .int .i64 (bodyF b size coded).2.1, .int .i64 (bodyF b size coded).2.2]) ∧
      OwnB w' w.heap.size A' c' (bodyF b size coded).1 ∧ Only (fun _ => False) w w' := by
  obtain ⟨X, hX⟩ : ∃ X, bodyF b size coded = X := ⟨_, rfl⟩
  rw [hX]
  unfold bodyF at hX
  rw [hB.len] at hX
  have hnc := hB.le
  cases coded
  · rw [if_pos rfl] at hX
    by_cases hlt : n < size
    · rw [if_pos hlt] at hX
      have hres : Hid (X = ([], -1, 0)) := hid hX.symm
      clear hX
      go_enter Tryz.func153, Tryz.ntmps153
      go_wp2_with fail
      go_ret3
      exact ⟨none, 0, by rw [hres.out]; rfl, by rw [hres.out]; exact Own.nil _ _ _ _, Only.refl _ _⟩
    · rw [if_neg hlt] at hX
      have hres : Hid (X = (b.take size, (size : Int), 0)) := hid hX.symm
      clear hX
      have hc := clone_any A size c (b.take size) w (hB.take size (by omega)) hs
      have hl2 : (b.take size).length = size := by rw [List.length_take, hB.len]; omega
      obtain ⟨l2, hl⟩ : ∃ l2, b.take size = l2 := ⟨_, rfl⟩
      rw [hl] at hres hc hl2
      rw [hl2] at hc
      replace hl2 := hid hl2
      clear hl
      have sl := run_h A n c size (by omega)
      have sl' := run_h' A n c size (by omega)
      replace hB := hid hB
      go_enter Tryz.func153, Tryz.ntmps153
      go_wp2_with fail
      refine hc.mono ?_
      rintro e w1 ⟨A', c', rfl, HO, O1⟩
      clear hc sl sl'
      replace HO := hid HO
      go_wp2_with fail
      go_ret3
      exact ⟨A', c', by rw [hres.out, hl2.out]; rfl, by rw [hres.out]; exact HO.out, O1⟩
  · rw [if_neg (by simp)] at hX
    have hd := decode_any A n c b w hB hA hn hG
    obtain ⟨y, hy⟩ : ∃ y, decF b = y := ⟨_, rfl⟩
    rw [hy] at hd hX
    obtain ⟨out, k, er⟩ := y
    simp only [] at hd hX
    clear hy
    replace hX := hid hX
    replace hB := hid hB
    go_enter Tryz.func153, Tryz.ntmps153
    go_wp2_with fail
    refine hd.mono ?_
    rintro e w1 ⟨A', c', rfl, HO, O1⟩
    clear hd
    replace HO := hid HO
    by_cases h2 : er = 2
    · subst h2
      have hres : Hid (X = ([], -1, 413)) := hid (by rw [← hX.out, if_pos rfl])
      clear hX
      go_wp2_with fail
      go_ret3
      exact ⟨none, 0, by rw [hres.out]; rfl, by rw [hres.out]; exact Own.nil _ _ _ _, O1⟩
    have hX2 := hX.out
    rw [if_neg h2] at hX2
    clear hX
    have h2b : (er == 2) = false := by simpa using h2
    replace h2 := hid h2
    by_cases h0 : er = 0
    case neg =>
      have hres : Hid (X = ([], -1, 400)) := hid (by rw [← hX2, if_pos h0])
      have h0b : (er != 0) = true := by simpa using h0
      clear hX2
      replace h0 := hid h0
      go_wp2_with fail
      go_ret3
      exact ⟨none, 0, by rw [hres.out]; rfl, by rw [hres.out]; exact Own.nil _ _ _ _, O1⟩
    subst h0
    rw [if_neg (by simp)] at hX2
    by_cases hk : k = 0
    · subst hk
      have hres : Hid (X = ([], -1, 0)) := hid (by rw [← hX2, if_pos rfl])
      clear hX2
      go_wp2_with fail
      go_ret3
      exact ⟨none, 0, by rw [hres.out]; rfl, by rw [hres.out]; exact Own.nil _ _ _ _, O1⟩
    · rw [if_neg hk] at hX2
      have hres : Hid (X = (out, (k : Int), 0)) := hid hX2.symm
      have hkb : ((k : Int) == 0) = false := by rw [beq_eq_false_iff_ne]; omega
      clear hX2
      replace hk := hid hk
      go_wp2_with fail
      go_ret3
      exact ⟨A', c', by rw [hres.out]; rfl, by rw [hres.out]; exact HO.out, O1⟩

theorem trailGo_bd : ∀ (f n at_ : Nat) (r : List UInt8), (trailGo f n at_ r).2.2 ≤ at_ + r.length
  | 0, n, at_, r => by simp [trailGo]
  | f + 1, n, at_, r => by
    have h := (cutF_le r 256).1
    unfold trailGo
    split
    · simp
    · split
      · simp
      · split
        · simp only; omega
        · split
          · simp
          · split
            · simp
            · have := trailGo_bd f (n + 1) (at_ + (cutF r 256).2.1) (r.drop (cutF r 256).2.1)
              rw [List.length_drop] at this
              omega
theorem decGo_bd : ∀ (f left at_ : Nat) (out r : List UInt8), (decGo f left at_ out r).2.1 ≤ at_ + r.length
  | 0, left, at_, out, r => by simp [decGo]
  | f + 1, left, at_, out, r => by
    have h := (sizeF_bd r).2.1
    have ht := trailGo_bd (r.length + 1) 0 (at_ + (sizeF r).2.2.2) (r.drop (sizeF r).2.2.2)
    rw [List.length_drop] at ht
    unfold decGo
    split
    · simp
    · split
      · simp
      · split
        · split
          · simp
          · split
            · simp
            · simp only; omega
        · split
          · simp
          · split
            · simp
            · split
              · simp
              · rename_i h1 h2
                have hd := (dataF_len (r.drop (sizeF r).2.2.2) (sizeF r).1.toNat).1 (by simpa using h1) (by simpa using h2)
                have := decGo_bd f (left - (sizeF r).1.toNat) (at_ + (sizeF r).2.2.2 + ((sizeF r).1.toNat + 2)) (out ++ (dataF (r.drop (sizeF r).2.2.2) (sizeF r).1.toNat).1) (r.drop ((sizeF r).2.2.2 + ((sizeF r).1.toNat + 2)))
                rw [List.length_drop] at this hd
                omega
theorem bodyF_bd (b : List UInt8) (size : Nat) (coded : Bool) : ((bodyF b size coded).2.1 = -1 ∨ 0 ≤ (bodyF b size coded).2.1) ∧ (bodyF b size coded).2.1 ≤ b.length := by
  have hd := decGo_bd (b.length + 1) 4096 0 [] b
  have hd2 : (decF b).2.1 ≤ b.length := by unfold decF; omega
  unfold bodyF
  split
  · split
    · (simp; try omega)
    · (simp; try omega)
  · split
    · (simp; try omega)
    · split
      · (simp; try omega)
      · split
        · (simp; try omega)
        · (simp; try omega)

set_option maxRecDepth 100000 in
set_option maxHeartbeats 2000000 in
theorem request_any (A : Option Addr) (n c : Nat) (b : List UInt8) (w : World) (hB : Bs w A n c b) (hA : ∀ i, ab A i → i < w.heap.size) (hn : n ≤ 1000000000) (hG : Gl w) :
    Calls Tryz.prog 96 #[.slice A n c] w fun e w' => ∃ F cf D cd, e = .returned (.tuple #[.agg #[.string (B (requestF b).1.1), .string (B (requestF b).1.2.1), .int .i64 (requestF b).1.2.2, .slice F (requestF b).2.1.length cf, .slice D (requestF b).2.2.1.length cd], .int .i64 ((requestF b).2.2.2.1 : Int), .int .i64 (requestF b).2.2.2.2]) ∧
      OwnF w' w.heap.size F cf (requestF b).2.1 ∧ OwnB w' w.heap.size D cd (requestF b).2.2.1 ∧ Only (fun _ => False) w w' := by
  obtain ⟨X, hX⟩ : ∃ X, requestF b = X := ⟨_, rfl⟩
  rw [hX]
  unfold requestF at hX
  obtain ⟨wb, hwb⟩ : ∃ wb, w.alloc (.cells #[.string ⟨#[]⟩, .string ⟨#[]⟩, .int .i64 0, .slice none 0 0, .slice none 0 0] 149) = wb := ⟨_, rfl⟩
  have O1 : Only (fun _ => False) w wb := by rw [← hwb]; exact (Only.refl _ w).alloc _
  have hrow : wb.heap[w.heap.size]? = some (.cells #[.string ⟨#[]⟩, .string ⟨#[]⟩, .int .i64 0, .slice none 0 0, .slice none 0 0] 149 (0, 0)) := by rw [← hwb]; exact b_new _ _
  have hsz : wb.heap.size = w.heap.size + 1 := by rw [← hwb]; simp
  obtain ⟨g, hg⟩ : ∃ g, w.heap.size = g := ⟨_, rfl⟩
  rw [hg] at hrow hsz
  have hO := open_any A n c b wb (hB.same O1) (fun i hi => Nat.lt_of_lt_of_le (hA i hi) O1.size) hn (hG.same O1)
  have hbd := openF_bd b
  obtain ⟨x, hx⟩ : ∃ x, openF b = x := ⟨_, rfl⟩
  rw [hx] at hX hO hbd
  obtain ⟨⟨m, t, minor⟩, fs, at_, sz, co, cd⟩ := x
  simp only [] at hX hO hbd
  rw [hB.len] at hbd
  obtain ⟨b1, b2, b3⟩ := hbd
  clear hx
  replace hX := hid hX
  have hnc := hB.le
  go_enter Tryz.func96, Tryz.ntmps96
  go_upto_region 1 with (fail)
  go_wp2_with fail
  refine hO.mono ?_
  rintro e w2 ⟨F, cf, rfl, HF, O2⟩
  clear hO hwb
  replace hrow := O2.keep hrow (fun h => h)
  replace O1 := O1.trans O2
  have hF1 : OwnF w2 (g + 1) F cf fs := by rw [hsz] at HF; exact HF
  clear O2 HF hsz
  obtain ⟨k, hk⟩ : ∃ k, fs.length = k := ⟨_, rfl⟩
  rw [hk]
  replace hk := hid hk
  go_upto_region 2 with (fail)
  have hnew := b_new w2 (.cells #[.string (B m), .string (B t), .int .i64 minor, .slice F k cf, .slice none 0 0] 149)
  have hgl := b_lt hrow
  replace hrow := b_alloc hrow (.cells #[.string (B m), .string (B t), .int .i64 minor, .slice F k cf, .slice none 0 0] 149)
  have O3 := O1.alloc (.cells #[.string (B m), .string (B t), .int .i64 minor, .slice F k cf, .slice none 0 0] 149)
  have hFb := hF1.blk
  have HF3 : OwnF (w2.alloc (.cells #[.string (B m), .string (B t), .int .i64 minor, .slice F k cf, .slice none 0 0] 149)) (g + 1) F cf fs := Own.same hF1 ((Only.refl _ _).alloc _)
  have hsz3 : (w2.alloc (.cells #[.string (B m), .string (B t), .int .i64 minor, .slice F k cf, .slice none 0 0] 149)).heap.size = w2.heap.size + 1 := by simp
  clear O1 hF1
  generalize w2.alloc (.cells #[.string (B m), .string (B t), .int .i64 minor, .slice F k cf, .slice none 0 0] 149) = w3 at *
  obtain ⟨g2, hg2⟩ : ∃ g2, w2.heap.size = g2 := ⟨_, rfl⟩
  rw [hg2] at hnew hgl hFb hsz3 ⊢
  clear hg2 w2
  have hne : g ≠ g2 := by omega
  have hne2 : g2 ≠ g := by omega
  have hgw : w.heap.size ≤ g := by omega
  replace hFb := hid hFb
  replace HF3 := hid HF3
  obtain ⟨⟨c0, c1, c2, c3, c4⟩, f0, f1, f2, f3, f4⟩ := cells5 hrow
  by_cases hat : at_ = 0
  · subst hat
    have hres : Hid (X = (rl0, [], [], 0, cd)) := hid (by rw [← hX.out, if_pos (.inl rfl)])
    clear hX
    replace hnew := hid hnew
    go_wp2_with fail
    exact ret_req2 Tryz.results96 (set5_row hrow ..) rfl rfl rfl ⟨none, 0, none, 0, by rw [hres.out]; rfl, by rw [hres.out]; exact Own.nil _ _ _ _, by rw [hres.out]; exact Own.nil _ _ _ _, O3.set5 (.inr hgw) ..⟩
  have hati : ((at_ : Int) == 0) = false := by rw [beq_eq_false_iff_ne]; omega
  by_cases hcd : cd = 0
  case neg =>
    have hres : Hid (X = (rl0, [], [], 0, cd)) := hid (by rw [← hX.out, if_pos (.inr hcd)])
    have hcdb : (cd != 0) = true := by simpa using hcd
    clear hX
    replace hat := hid hat
    replace hcd := hid hcd
    replace hnew := hid hnew
    go_wp2_with fail
    exact ret_req2 Tryz.results96 (set5_row hrow ..) rfl rfl rfl ⟨none, 0, none, 0, by rw [hres.out]; rfl, by rw [hres.out]; exact Own.nil _ _ _ _, by rw [hres.out]; exact Own.nil _ _ _ _, O3.set5 (.inr hgw) ..⟩
  subst hcd
  have hX2 := hX.out
  rw [if_neg (by simp; exact hat)] at hX2
  clear hX
  replace hat := hid hat
  obtain ⟨z, rfl⟩ := Int.eq_ofNat_of_zero_le b2
  rw [Int.toNat_natCast] at hX2
  have hBd := (hB.same O3).drop at_ b1
  have hAd : ∀ i, ab (dropA A c at_) i → i < w3.heap.size := by
    rintro i ⟨a, h, rfl⟩
    unfold dropA at h
    split at h
    · exact Nat.lt_of_lt_of_le (hA _ ⟨_, h, rfl⟩) O3.size
    · obtain ⟨a0, h0, rfl⟩ := Option.map_eq_some_iff.1 h
      have := hA a0.block ⟨_, h0, rfl⟩
      have e : (a0.add at_).block = a0.block := by unfold Addr.add; split <;> rfl
      rw [e]
      exact Nat.lt_of_lt_of_le this O3.size
  have hbody := body_any (dropA A c at_) (n - at_) (c - at_) (b.drop at_) z co w3 hBd hAd (by omega) (by omega) (hG.same O3)
  have hbb := bodyF_bd (b.drop at_) z co
  obtain ⟨y, hy⟩ : ∃ y, bodyF (b.drop at_) z co = y := ⟨_, rfl⟩
  rw [hy] at hbody hX2 hbb
  obtain ⟨bd, bn, bc⟩ := y
  simp only [] at hbody hX2 hbb
  clear hy hBd hAd
  obtain ⟨hbb, hbk0⟩ := hbb
  rw [List.length_drop, hB.len] at hbk0
  have sl := run_l A n c at_ b1
  have sl' := run_l' A n c at_ b1
  replace hX2 := hid hX2
  replace hB := hid hB
  replace hbb := hid hbb
  obtain ⟨bl, hbl⟩ : ∃ bl, bd.length = bl := ⟨_, rfl⟩
  rw [hbl] at hbody
  replace hbl := hid hbl
  replace hnew := hid hnew
  go_wp2_with fail
  refine hbody.mono ?_
  rintro e w4 ⟨D, cdd, rfl, HD, O4⟩
  clear hbody sl sl' c0 c1 c2 c3 c4 f0 f1 f2 f3 f4
  have hrow4 := O4.keep hrow (fun h => h)
  have hnew4 := O4.keep hnew.out (fun h => h)
  have HF4 := hid (Own.same HF3.out O4)
  have O5 := O3.trans O4
  have hDb := hid HD.blk
  replace HD := hid HD
  clear O3 O4 hrow hnew HF3
  obtain ⟨⟨c0, c1, c2, c3, c4⟩, f0, f1, f2, f3, f4⟩ := cells5 hrow4
  by_cases hneg : bn < 0
  · have hres : Hid (X = (rl0, [], [], 0, bc)) := hid (by rw [← hX2.out, if_pos hneg])
    clear hX2
    replace hnew4 := hid hnew4
    go_wp2_with fail
    exact ret_req2 Tryz.results96 (set5_row hrow4 ..) rfl rfl rfl ⟨none, 0, none, 0, by rw [hres.out]; rfl, by rw [hres.out]; exact Own.nil _ _ _ _, by rw [hres.out]; exact Own.nil _ _ _ _, O5.set5 (.inr hgw) ..⟩
  obtain ⟨bk, rfl⟩ := Int.eq_ofNat_of_zero_le (show 0 ≤ bn by omega)
  have hres : Hid (X = ((m, t, minor), fs, bd, at_ + bk, 0)) := hid (by rw [← hX2.out, if_neg hneg, Int.toNat_natCast])
  clear hX2 hneg hbb
  obtain ⟨⟨d0, d1, d2, d3, d4⟩, e0, e1, e2, e3, e4⟩ := cells5 hnew4
  have hbk : (bk : Int) ≤ 1000000000 := by omega
  clear hbk0
  go_wp2_with fail
  have oS : Only (fun i => i = g ∨ i = g2) w4 ((((((w4.setCell ⟨g2, 4, none⟩ (.slice D bl cdd)).setCell ⟨g, 0, none⟩ (.string (B m))).setCell ⟨g, 1, none⟩ (.string (B t))).setCell ⟨g, 2, none⟩ (.int .i64 minor)).setCell ⟨g, 3, none⟩ (.slice F k cf)).setCell ⟨g, 4, none⟩ (.slice D bl cdd)) :=
    ((Only.refl (fun i => i = g ∨ i = g2) w4).setCell (p := ⟨g2, 4, none⟩) (.inl (.inr rfl)) _).set5 (.inl (.inl rfl)) ..
  exact ret_req2 Tryz.results96 (set5_row (b_far (p := ⟨g2, 4, none⟩) hrow4 hne _) ..) rfl rfl rfl ⟨F, cf, D, cdd, by rw [hres.out, hk.out, hbl.out]; rfl,
    by rw [hres.out]; exact Own.weak (Own.keep HF4.out oS (fun i hi h => by have := hFb.out i hi; omega)) (by omega),
    by rw [hres.out]; exact Own.weak (Own.keep HD.out oS (fun i hi h => by have := (hDb.out i hi).1; omega)) (by omega),
    (O5.setCell (p := ⟨g2, 4, none⟩) (.inr (by show _ ≤ g2; omega)) _).set5 (.inr hgw) ..⟩
end Go.Proofs.YtpblgjadpfecgaaGreatDoor
