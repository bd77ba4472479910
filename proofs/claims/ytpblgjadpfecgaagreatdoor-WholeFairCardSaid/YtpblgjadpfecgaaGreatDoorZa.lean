/-
  The package http: hosts, head.
-/
import Derived.Test.YtpblgjadpfecgaaGreatDoorY
import Derived.BigQuiet
set_option linter.unusedSimpArgs false
set_option linter.unusedVariables false
namespace Go.Proofs.YtpblgjadpfecgaaGreatDoor
open Go.RowKit

theorem clone_any (A : Option Addr) (n c : Nat) (l : List UInt8) (w : World) (h : Bs w A n c l) (hn : n ≤ 1000000000) :
    Calls Tryz.prog 38 #[.slice A n c] w fun e w' => ∃ A' c', e = .returned (.slice A' l.length c') ∧ OwnB w' w.heap.size A' c' l ∧ Only (fun _ => False) w w' := by
  have hl := h.len
  cases A with
  | none =>
    obtain ⟨h1, h2⟩ := h.nil rfl
    subst h1
    obtain rfl : l = [] := List.eq_nil_of_length_eq_zero hl
    refine (Tryz.bytes_Clone_nil 0 c w).mono ?_
    rintro e w1 ⟨rfl, rfl⟩
    exact ⟨none, 0, rfl, Own.nil _ _ _ _, Only.refl _ _⟩
  | some a =>
    refine (Tryz.bytes_Clone_at a n c (l.map (fun x => (x.toNat : Int))) w (by simpa using hl) (by omega) (fun i hi => ?_)).mono ?_
    · obtain ⟨b, off, e, _, hc⟩ := h.at_ i _ (List.getElem?_eq_getElem (by omega))
      cases e
      rw [Go.WideShapes.add_plain, hc]
      congr 2
      rw [List.getD_eq_getElem?_getD, List.getElem?_map, List.getElem?_eq_getElem (by omega)]
      rfl
    · rintro e w1 ⟨v, rfl, hv, hne, hb⟩
      have e1 : (l.map (fun x => (x.toNat : Int))).map (Value.int .u8) = bV l := by simp [bV, byteV]
      rw [e1] at hv
      obtain ⟨hv0, hv | ⟨g, cap, cur, rfl, hg, hrow, h1, h2, h3, h4⟩⟩ := hv
      · exact absurd hv.1 hne
      · subst hl
        exact ⟨some ⟨g, 0, none⟩, cap, rfl, ⟨hv0, .inr ⟨g, cur, (0, 0), rfl, hg, hrow, .inr rfl, h1, h2, h3, h4⟩⟩, Only.of_below hb⟩

/-- Fields of a length that every function takes. -/
def Fine (fs : List FD) : Prop := fs.length ≤ 40 ∧ ∀ p ∈ fs, p.1.length ≤ 100 ∧ p.2.length ≤ 1000
theorem Fine.small {fs : List FD} (h : Fine fs) : SmallF fs := ⟨by have := h.1; omega, fun p hp => by have := h.2 p hp; omega⟩

set_option maxRecDepth 100000 in
set_option maxHeartbeats 1000000 in
theorem hosts_any (vm vt vb : Value) (minor : Int) (fs : List FD) (A : Option Addr) (c : Nat) (w : World) (hR : Row w A (fV fs)) (hS : Fine fs) :
    Calls Tryz.prog 215 #[.agg #[vm, vt, .int .i64 minor, .slice A fs.length c, vb]] w fun e w' => e = .returned (.bool (hostsF minor fs)) ∧ Only (fun _ => False) w w' := by
  have hF : hostsF minor fs = match getF fs sHost with
    | [] => minor == 0
    | v :: t => (hostF v).2 && t.isEmpty := rfl
  have hget := fun w (hR : Row w A (fV fs)) => get_any fs ⟨#[72, 111, 115, 116]⟩ A c w hR hS.small (by decide)
  rw [show (⟨#[72, 111, 115, 116]⟩ : ByteArray).data.toList = sHost from rfl] at hget
  have hsm := getF_small fs sHost hS.small
  obtain ⟨n, hn⟩ : ∃ n, fs.length = n := ⟨_, rfl⟩
  rw [hn] at hget ⊢
  obtain ⟨w1, hw1⟩ : ∃ w1, w.alloc (.cells #[vm, vt, .int .i64 minor, .slice A n c, vb] 149) = w1 := ⟨_, rfl⟩
  have O1 : Only (fun _ => False) w w1 := by rw [← hw1]; exact (Only.refl _ w).alloc _
  have hrow : w1.heap[w.heap.size]? = some (.cells #[vm, vt, .int .i64 minor, .slice A n c, vb] 149 (0, 0)) := by rw [← hw1]; exact b_new _ _
  obtain ⟨⟨_, _, c2, c3, _⟩, _⟩ := cells5 hrow
  obtain ⟨ps, hps⟩ : ∃ ps, getF fs sHost = ps := ⟨_, rfl⟩
  rw [hps] at hF hsm
  simp only [hps] at hget
  have hgt := hget w1 (hR.same O1)
  replace hF := hid hF
  replace hget := hid hget
  clear hps hn
  obtain ⟨g, hg⟩ : ∃ g, w.heap.size = g := ⟨_, rfl⟩
  rw [hg] at hrow c2 c3
  go_enter Tryz.func215, Tryz.ntmps215
  go_upto_region 1 with (fail)
  clear hw1 hg
  go_wp2_with fail
  refine hgt.mono ?_
  rintro e w2 ⟨A2, c2', rfl, HO, O2⟩
  replace O1 := O1.trans O2
  replace hrow := O2.keep hrow (fun h => h)
  clear hgt O2 c2 c3
  obtain ⟨⟨_, _, c2, c3, _⟩, _⟩ := cells5 hrow
  have HR := HO.row
  clear HO
  match ps, hF, hsm, HR with
  | [], hF, _, _ =>
    go_wp2_with fail
    go_ret
    exact ⟨by rw [hF.out]; rfl, O1⟩
  | v :: t, hF, hsm, HR =>
    obtain ⟨b, off, rfl, hb, r0⟩ := str_at HR 0 v rfl
    rw [Nat.add_zero] at r0
    have hz : (B v).size < 4294967281 := by rw [B_size]; exact hsm.2 v (by simp)
    have hlen : ¬ (((v :: t).length : Nat) : Int) = 0 := by simp only [List.length_cons]; omega
    have hl1 : ((((v :: t).length : Nat) : Int) == 1) = t.isEmpty := by
      cases t with
      | nil => rfl
      | cons x r => rw [beq_eq_false_iff_ne.2 (by simp only [List.length_cons]; omega)]; rfl
    have hl0 : 0 < (v :: t).length := by simp
    replace hsm := hid hsm
    generalize (v :: t).length = k at *
    go_wp2_with fail
    refine (host_any (B v) hz _).mono ?_
    rintro e w3 ⟨rfl, O3⟩
    rw [show (B v).data.toList = v from rfl]
    replace O1 := O1.trans O3
    generalize hostF v = hv at *
    obtain ⟨h1, ok⟩ := hv
    simp only []
    replace hF := hid hF.out
    cases ok
    · go_wp2_with fail
      go_ret
      exact ⟨by rw [hF.out]; rfl, O1⟩
    · generalize t.isEmpty = te at *
      cases te
      · go_wp2_with fail
        go_ret
        exact ⟨by rw [hF.out]; rfl, O1⟩
      · have hl2 : (k : Int) = 1 := by simpa using hl1
        obtain rfl : k = 1 := by omega
        clear hl1 hl2
        go_wp2_with fail
        go_ret
        exact ⟨by rw [hF.out]; rfl, O1⟩

theorem parseF_right (l : List UInt8) (p : FD) (h : parseF l = some p) : right p.1 p.2 = true := by
  unfold parseF at h
  split at h
  · rename_i hc
    cases h
    exact hc.2
  · cases h
theorem headGo_ok (full : Bool) : ∀ (f at_ : Nat) (q : RL) (fs : List FD) (r : List UInt8), Rights fs → fs.length ≤ 40 →
    Rights (headGo full f at_ q fs r).2.1 ∧ (headGo full f at_ q fs r).2.1.length ≤ 40 ∧ (headGo full f at_ q fs r).2.2.1 ≤ at_ + r.length
  | 0, at_, q, fs, r, hr, hl => by
    unfold headGo
    exact ⟨(fun p hp => by cases hp), by simp, by simp⟩
  | f + 1, at_, q, fs, r, hr, hl => by
    have hn : ∀ (x : RL) (y : Int) , Rights ((x, ([] : List FD), (0 : Nat), y) : RL × List FD × Nat × Int).2.1 ∧ ((x, ([] : List FD), (0 : Nat), y) : RL × List FD × Nat × Int).2.1.length ≤ 40 ∧ ((x, ([] : List FD), (0 : Nat), y) : RL × List FD × Nat × Int).2.2.1 ≤ at_ + r.length := fun x y => ⟨(fun p hp => by cases hp), by simp, by simp⟩
    have hc := (cutF_le r 2048).1
    unfold headGo
    split
    · exact hn _ _
    · split
      · exact hn _ _
      · split
        · split
          · obtain ⟨h1, h2, h3⟩ := headGo_ok full f (at_ + (cutF r 2048).2.1) (reqF (cutF r 2048).1).1 fs (r.drop (cutF r 2048).2.1) hr hl
            exact ⟨h1, h2, by rw [List.length_drop] at h3; omega⟩
          · exact hn _ _
        · split
          · exact ⟨hr, hl, by simp only; omega⟩
          · split
            · exact hn _ _
            · rename_i p hp
              split
              · exact hn _ _
              · obtain ⟨h1, h2, h3⟩ := headGo_ok full f (at_ + (cutF r 2048).2.1) q (fs ++ [p]) (r.drop (cutF r 2048).2.1) (fun x hx => by
                  rcases List.mem_append.1 hx with hx | hx
                  · exact hr x hx
                  · rw [List.mem_singleton] at hx; rw [hx]; exact parseF_right _ _ hp) (by rw [List.length_append]; simp only [List.length_cons, List.length_nil]; omega)
                exact ⟨h1, h2, by rw [List.length_drop] at h3; omega⟩
theorem headF_ok (b : List UInt8) : Fine (headF b).2.1 ∧ (headF b).2.2.1 ≤ b.length := by
  obtain ⟨h1, h2, h3⟩ := headGo_ok (decide (2048 ≤ b.length)) (b.length + 1) 0 rl0 [] (b.take 2048) (fun p hp => by cases hp) (by simp)
  refine ⟨⟨h2, fun p hp => ?_⟩, ?_⟩
  · have := right_parts (h1 p hp)
    exact ⟨this.1, this.2.2.1⟩
  · unfold headF
    rw [List.length_take] at h3
    omega

def rlRow (q : RL) : Array Value := #[.string (B q.1), .string (B q.2.1), .int .i64 q.2.2, .slice none 0 0, .slice none 0 0]
set_option maxRecDepth 100000 in
set_option maxHeartbeats 1000000 in
/-- What the head's first line is given to. -/
theorem first_any (s : ByteArray) (hs : s.size < 4294967281) (g : Nat) (q : RL) (w : World) (hG : Gl w) (hrow : w.heap[g]? = some (.cells (rlRow q) 149 (0, 0))) :
    Calls Tryz.prog 213 #[.string s, .pointer (some ⟨g, 0, none⟩)] w fun e w' => e = .returned (.int .i64 (reqF s.data.toList).2) ∧ w'.heap[g]? = some (.cells (rlRow (reqF s.data.toList).1) 149 (0, 0)) ∧ Only (fun i => i = g) w w' := by
  have hreq := req_any s hs w hG
  obtain ⟨x, hx⟩ : ∃ x, reqF s.data.toList = x := ⟨_, rfl⟩
  rw [hx] at hreq ⊢
  clear hx
  obtain ⟨⟨m, t, z⟩, code⟩ := x
  unfold reqV at hreq
  simp only [] at hreq ⊢
  go_enter Tryz.func213, Tryz.ntmps213
  go_wp2_with fail
  refine hreq.mono ?_
  rintro e w1 ⟨rfl, O1⟩
  clear hreq
  have hrow1 := O1.keep hrow (fun h => h)
  have hgl := b_lt hrow1
  go_upto_region 2 with (fail)
  have hnew := b_new w1 (.cells #[.string (B m), .string (B t), .int .i64 z, .slice none 0 0, .slice none 0 0] 149)
  have O2 := (O1.mono (T := fun i => i = g) (fun _ h => h.elim)).alloc (.cells #[.string (B m), .string (B t), .int .i64 z, .slice none 0 0, .slice none 0 0] 149)
  have hrow2 := b_alloc hrow1 (.cells #[.string (B m), .string (B t), .int .i64 z, .slice none 0 0, .slice none 0 0] 149)
  generalize w1.alloc (.cells #[.string (B m), .string (B t), .int .i64 z, .slice none 0 0, .slice none 0 0] 149) = w3 at *
  obtain ⟨g2, hg2⟩ : ∃ g2, w1.heap.size = g2 := ⟨_, rfl⟩
  rw [hg2] at hnew hgl ⊢
  have hne : g ≠ g2 := by omega
  have hne2 : g2 ≠ g := by omega
  clear hg2 hrow1 hrow
  unfold rlRow at hrow2
  obtain ⟨⟨c0, c1, c2, _, _⟩, f0, f1, f2, _, _⟩ := cells5 hrow2
  obtain ⟨⟨d0, d1, d2, _, _⟩, _⟩ := cells5 hnew
  go_region_held3 (fun w' => w'.cell? ⟨g2, 0, none⟩ = some (.string (B m)) ∧ w'.cell? ⟨g2, 1, none⟩ = some (.string (B t)) ∧ w'.cell? ⟨g2, 2, none⟩ = some (.int .i64 z)) (go_keep) (fail)
  go_wp2_with fail
  go_ret
  exact ⟨rfl, b_set (b_set (b_set hrow2 0 _) 1 _) 2 _, (((O2.setCell (p := ⟨g, 0, none⟩) (.inl rfl) _).setCell (p := ⟨g, 1, none⟩) (.inl rfl) _).setCell (p := ⟨g, 2, none⟩) (.inl rfl) _).drew⟩

set_option maxRecDepth 100000 in
set_option maxHeartbeats 2000000 in
theorem head_any (A : Option Addr) (n c : Nat) (b : List UInt8) (g : Nat) (w : World) (hB : Bs w A n c b) (hA : ∀ i, ab A i → i ≠ g) (hn : n ≤ 1000000000) (hG : Gl w) (hg6 : 6 ≤ g) (hrow : w.heap[g]? = some (.cells (rlRow rl0) 149 (0, 0))) (hA2 : ∀ i, ab A i → i < w.heap.size) :
    Calls Tryz.prog 178 #[.slice A n c, .func (.func 213) #[] #[.pointer (some ⟨g, 0, none⟩)]] w fun e w' => ∃ A' c', e = .returned (.tuple #[.slice A' (headF b).2.1.length c', .int .i64 ((headF b).2.2.1 : Int), .int .i64 (headF b).2.2.2]) ∧
      OwnF w' w.heap.size A' c' (headF b).2.1 ∧ w'.heap[g]? = some (.cells (rlRow (headF b).1) 149 (0, 0)) ∧ Only (fun i => i = g) w w' := by
  obtain ⟨X, hX⟩ : ∃ X, headF b = X := ⟨_, rfl⟩
  rw [hX]
  unfold headF at hX
  rw [hB.len] at hX
  have hnc := hB.le
  obtain ⟨nb, hnb, hnb2⟩ : ∃ nb : Nat, min (n : Int) 2048 = (nb : Int) ∧ nb = min n 2048 := ⟨min n 2048, by omega, rfl⟩
  have hBb := hB.take nb (by omega)
  have hbt : b.take nb = b.take 2048 := by
    rw [hnb2]
    rcases Nat.le_total n 2048 with h | h
    · rw [Nat.min_eq_left h, List.take_of_length_le (by rw [hB.len]; exact Nat.le_refl _), List.take_of_length_le (by rw [hB.len]; exact h)]
    · rw [Nat.min_eq_right h]
  rw [hbt] at hBb
  obtain ⟨bb, hbb⟩ : ∃ bb, b.take 2048 = bb := ⟨_, rfl⟩
  rw [hbb] at hX hBb
  have hbl := hid hBb.len
  have hgs := b_lt hrow
  have slb := run_h A n c nb (by omega)
  have slb' := run_h' A n c nb (by omega)
  have hnb3 : nb ≤ n := by omega
  have hnb4 : nb ≤ c := by omega
  have hstart : Hid ((bb.drop 0).length < n + 1) := hid (by rw [List.drop_zero, hbl.out]; omega)
  replace hX := hid hX
  replace hnb2 := hid hnb2
  replace hB := hid hB
  clear hbt hbb
  go_enter Tryz.func178, Tryz.ntmps178
  go_wp2_with fail
  clear hnb slb slb'
  go_loopw [7, 9] (fun fv av wr => ∃ (a k f c' : Nat) (A' : Option Addr) (fs : List FD) (q : RL), fv = .slice A' k c' ∧ av = .int .i64 (a : Int) ∧ a ≤ nb ∧ OwnF wr w.heap.size A' c' fs ∧ Hid (fs.length = k) ∧ k ≤ 40 ∧ Hid ((bb.drop a).length < f) ∧ Hid (headGo (decide (2048 ≤ n)) f a q fs (bb.drop a) = X) ∧ Hid (wr.heap[g]? = some (.cells (rlRow q) 149 (0, 0))) ∧ Only (fun i => i = g) w wr) (fun _ av _ => nb - (intOf av).toNat)
  case atStart => exact ⟨0, 0, n + 1, 0, none, [], rl0, rfl, rfl, by omega, Own.nil _ _ _ _, rfl, by omega, hstart, hid (by rw [List.drop_zero]; exact hX.out), hid hrow, Only.refl _ _⟩
  case round =>
    clear hX hstart hrow
    obtain ⟨a, k, f, c', A', fs, q, rfl, rfl, hanb, HO, hk, hk40, hf, hX, hrow, O⟩ := hrel
    obtain ⟨f, rfl⟩ : ∃ f', f = f' + 1 := ⟨f - 1, by have := hf.out; omega⟩
    have hGo := hX.out
    unfold headGo at hGo
    have hBa := (hBb.keep O hA).drop a hanb
    have hcut := cut_any (bb.drop a) 2048 (dropA A c a) (nb - a) (c - a) wr hBa (by omega) (by omega)
    have hcl := cutF_le (bb.drop a) 2048
    have hdl : (bb.drop a).length = nb - a := by rw [List.length_drop, hbl.out]
    have hf' := hf.out
    rw [hdl] at hcl hf'
    obtain ⟨x, hx⟩ : ∃ x, cutF (bb.drop a) 2048 = x := ⟨_, rfl⟩
    rw [hx] at hGo hcut hcl
    obtain ⟨s, d, er⟩ := x
    simp only [] at hGo hcut hcl
    obtain ⟨d1, d2, d3, d4, d5, d6⟩ := hcl
    clear hx hf hX hBa
    replace hGo := hid hGo
    replace d2 := hid d2
    replace d4 := hid d4
    have hblk := hid HO.blk
    have sl1 := run_l A nb c a hanb
    have sl1' := run_l' A nb c a hanb
    replace HO := hid HO
    go_wp2_with fail
    refine hcut.mono ?_
    rintro e w1 ⟨rfl, rfl⟩
    clear hcut sl1 sl1'
    by_cases h20 : er = 20
    · subst h20
      have hres : Hid (X = (q, [], 0, 400)) := hid (by rw [← hGo.out, if_pos rfl])
      clear hGo
      go_wp2_with fail
      go_ret3
      exact ⟨none, 0, by rw [hres.out]; rfl, by rw [hres.out]; exact Own.nil _ _ _ _, by rw [hres.out]; exact hrow.out, O⟩
    have hGo2 := hGo.out
    rw [if_neg h20] at hGo2
    clear hGo
    have h20b : (er == 20) = false := by simpa using h20
    replace h20 := hid h20
    by_cases hd : d = 0
    · subst hd
      rw [if_pos rfl] at hGo2
      by_cases hfull : 2048 ≤ n
      · rw [decide_eq_true hfull, if_pos rfl] at hGo2
        have hres : Hid (X = (q, [], 0, 431)) := hid hGo2.symm
        have hfi : (2048 : Int) ≤ n := by omega
        clear hGo2
        go_wp2_with fail
        go_ret3
        exact ⟨none, 0, by rw [hres.out]; rfl, by rw [hres.out]; exact Own.nil _ _ _ _, by rw [hres.out]; exact hrow.out, O⟩
      · rw [decide_eq_false hfull, if_neg (by decide)] at hGo2
        have hres : Hid (X = (q, [], 0, 0)) := hid hGo2.symm
        have hfi : ¬ (2048 : Int) ≤ n := by omega
        clear hGo2
        go_wp2_with fail
        go_ret3
        exact ⟨none, 0, by rw [hres.out]; rfl, by rw [hres.out]; exact Own.nil _ _ _ _, by rw [hres.out]; exact hrow.out, O⟩
    rw [if_neg hd] at hGo2
    have hdi : ((d : Int) == 0) = false := by rw [beq_eq_false_iff_ne]; omega
    have hd2 := d2.out hd
    replace hd := hid hd
    have hsz : (B s).size < 4294967281 := by rw [B_size]; omega
    have hGr := hG.g hg6 O
    have hdrop : Hid ((bb.drop (a + d)).length < f) := hid (by rw [List.length_drop, hbl.out]; omega)
    by_cases ha : a = 0
    · subst ha
      rw [if_pos rfl] at hGo2
      have hfst := first_any (B s) hsz g q wr hGr hrow.out
      rw [show (B s).data.toList = s from rfl] at hfst
      generalize reqF s = rq at *
      obtain ⟨q', code⟩ := rq
      simp only [] at hGo2 hfst
      replace hGo2 := hid hGo2
      go_wp2_with fail
      refine hfst.mono ?_
      rintro e w2 ⟨rfl, hrow2, O2⟩
      clear hfst hrow
      have HO2 := hid (Own.keep HO.out O2 (fun i hi e => by have := (hblk.out i hi).1; omega))
      replace O := O.trans O2
      clear O2 HO
      by_cases hc : code = 0
      · subst hc
        have hGo3 := hGo2.out
        rw [if_pos rfl, Nat.zero_add, List.drop_drop] at hGo3
        clear hGo2
        rw [Nat.zero_add] at hdrop hGo3
        go_wp2_with fail
        go_roundw
        case rel => exact ⟨d, k, f, c', A', fs, q', rfl, by simp, by omega, HO2.out, hk, hk40, hdrop, hid hGo3, hid hrow2, O⟩
        case measure => simp [intOf]; omega
      · have hcb : (code != 0) = true := by simpa using hc
        have hres : Hid (X = (q', [], 0, code)) := hid (by rw [← hGo2.out, if_neg hc])
        clear hGo2
        replace hc := hid hc
        go_wp2_with fail
        go_ret3
        exact ⟨none, 0, by rw [hres.out]; rfl, by rw [hres.out]; exact Own.nil _ _ _ _, by rw [hres.out]; exact hrow2, O⟩
    rw [if_neg ha] at hGo2
    have hai : ((a : Int) == 0) = false := by rw [beq_eq_false_iff_ne]; omega
    replace ha := hid ha
    by_cases hs : s = []
    · subst hs
      rw [if_pos rfl] at hGo2
      have hres : Hid (X = (q, fs, a + d, 0)) := hid hGo2.symm
      have hse : ((B []).toList == ([] : List UInt8)) = true := by rw [not_empty]; rfl
      clear hGo2
      go_wp2_with fail
      go_ret3
      exact ⟨A', c', by rw [hres.out, hk.out]; rfl, by rw [hres.out]; exact HO.out, by rw [hres.out]; exact hrow.out, O⟩
    rw [if_neg hs] at hGo2
    have hse : ((B s).toList == ([] : List UInt8)) = false := by
      rw [not_empty]
      cases s with
      | nil => exact absurd rfl hs
      | cons x t => rfl
    have hse2 : s.isEmpty = false := by
      cases s with
      | nil => exact absurd rfl hs
      | cons x t => rfl
    replace hs := hid hs
    have hP : parseV s = match parseF s with
      | none => (([], []), 20)
      | some p => (p, 0) := rfl
    have hpar := parse_any (B s) hsz wr hGr
    rw [show (B s).data.toList = s from rfl] at hpar
    replace hGo2 := hid hGo2
    go_wp2_with fail
    refine hpar.mono ?_
    rintro e w2 ⟨rfl, O2⟩
    clear hpar
    replace hrow := hid (O2.keep hrow.out (fun h => h))
    replace HO := hid (Own.same HO.out O2)
    replace O := O.trans' O2 (fun _ h => h.elim)
    have hGo3 := hGo2.out
    clear hGo2 O2
    cases hpf : parseF s with
    | none =>
      rw [hpf] at hGo3 hP
      simp only [] at hGo3 hP
      rw [hP]
      have hres : Hid (X = (q, [], 0, 400)) := hid hGo3.symm
      clear hGo3 hP hpf
      replace O := hid (O.alloc (.cells #[.string (B []), .string (B [])] 197))
      replace hrow := hid (b_alloc hrow.out (.cells #[.string (B []), .string (B [])] 197))
      go_wp2_with fail
      go_ret3
      exact ⟨none, 0, by rw [hres.out]; rfl, by rw [hres.out]; exact Own.nil _ _ _ _, by rw [hres.out]; exact hrow.out, O.out⟩
    | some p =>
      rw [hpf] at hGo3 hP
      simp only [] at hGo3 hP
      rw [hP]
      clear hP hpf
      replace HO := hid (Own.same HO.out ((Only.refl _ _).alloc (.cells #[.string (B p.1), .string (B p.2)] 197)))
      replace O := hid (O.alloc (.cells #[.string (B p.1), .string (B p.2)] 197))
      replace hrow := hid (b_alloc hrow.out (.cells #[.string (B p.1), .string (B p.2)] 197))
      have hnew := b_new w2 (.cells #[.string (B p.1), .string (B p.2)] 197)
      go_upto_region 20 with (fail)
      generalize w2.alloc (.cells #[.string (B p.1), .string (B p.2)] 197) = w3 at *
      generalize w2.heap.size = g4 at *
      obtain ⟨e0, e1, _, _⟩ := cells2 hnew
      by_cases hfk : k = 40
      · subst hfk
        rw [if_pos hk.out] at hGo3
        have hres : Hid (X = (q, [], 0, 431)) := hid hGo3.symm
        clear hGo3
        go_wp2_with fail
        go_ret3
        exact ⟨none, 0, by rw [hres.out]; rfl, by rw [hres.out]; exact Own.nil _ _ _ _, by rw [hres.out]; exact hrow.out, O.out⟩
      · rw [if_neg (by rw [hk.out]; exact hfk), List.drop_drop] at hGo3
        have hkb : ((k : Int) == 40) = false := by rw [beq_eq_false_iff_ne]; omega
        have hk39 : k ≤ 39 := by omega
        replace hGo3 := hid hGo3
        replace hfk := hid hfk
        have hws := O.out.size
        go_wp2_with (first | (at_builtin; refine app_f rfl _ _ rfl w.heap.size k c' A' fs (B p.1) (B p.2) hk.out rfl rfl HO.out hws (by omega) ?_; intro A3 c3 w4 h3 h3' o3) | fail)
        have hbl2 := HO.out.blk
        have O3 := O.out.trans' o3 (fun i hi => .inr (hbl2 i hi).1)
        have hrow3 := o3.keep hrow.out (fun h => by have := (hbl2 g h).1; omega)
        go_roundw
        case rel => exact ⟨a + d, k + 1, f, c3, A3, fs ++ [p], q, rfl, by simp, by omega, h3.out, hid (by rw [List.length_append, hk.out]; rfl), by omega, hdrop, hGo3, hid hrow3, O3⟩
        case measure => simp [intOf]; omega
end Go.Proofs.YtpblgjadpfecgaaGreatDoor
