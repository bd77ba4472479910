/-
  The rows of upstreams and routes; many of the package conf; Name of the package table; up of the package conf.
-/
import Derived.Test.YtafljoiblfhioaaGreatDoorSf
namespace Go.Proofs.YtafljoiblfhioaaGreatDoor
open Go.RowKit

/-- An upstream, and where its aims lie. -/
abbrev UpM := (List UInt8 × List (List UInt8)) × Option Addr × Nat
abbrev RtD := List UInt8 × List UInt8 × List UInt8
def uV : List UpM → List Value
  | [] => []
  | u :: t => .string (B u.1.1) :: .slice u.2.1 u.1.2.length u.2.2 :: uV t
def rV : List RtD → List Value
  | [] => []
  | r :: t => .string (B r.1) :: .string (B r.2.1) :: .string (B r.2.2) :: rV t
theorem uV_len : ∀ (a : List UpM), (uV a).length = a.length * 2
  | [] => rfl
  | x :: t => by simp only [uV, List.length_cons, uV_len t]; omega
theorem rV_len : ∀ (a : List RtD), (rV a).length = a.length * 3
  | [] => rfl
  | x :: t => by simp only [rV, List.length_cons, rV_len t]; omega
theorem uV_app : ∀ (a b : List UpM), uV (a ++ b) = uV a ++ uV b
  | [], _ => rfl
  | x :: t, b => by simp only [List.cons_append, uV, uV_app t b]
theorem rV_app : ∀ (a b : List RtD), rV (a ++ b) = rV a ++ rV b
  | [], _ => rfl
  | x :: t, b => by simp only [List.cons_append, rV, rV_app t b]
theorem uV_at : ∀ (l : List UpM) (i : Nat) (c : UpM), l[i]? = some c → (uV l)[i * 2]? = some (.string (B c.1.1)) ∧ (uV l)[i * 2 + 1]? = some (.slice c.2.1 c.1.2.length c.2.2)
  | [], i, c, h => by simp at h
  | x :: t, 0, c, h => by
    simp at h
    subst h
    exact ⟨rfl, rfl⟩
  | x :: t, i + 1, c, h => by
    have := uV_at t i c (by simpa using h)
    rw [show (i + 1) * 2 = i * 2 + 2 by omega]
    simpa [uV] using this
theorem rV_at : ∀ (l : List RtD) (i : Nat) (c : RtD), l[i]? = some c → (rV l)[i * 3]? = some (.string (B c.1)) ∧ (rV l)[i * 3 + 1]? = some (.string (B c.2.1)) ∧ (rV l)[i * 3 + 2]? = some (.string (B c.2.2))
  | [], i, c, h => by simp at h
  | x :: t, 0, c, h => by
    simp at h
    subst h
    exact ⟨rfl, rfl, rfl⟩
  | x :: t, i + 1, c, h => by
    have := rV_at t i c (by simpa using h)
    rw [show (i + 1) * 3 = i * 3 + 3 by omega]
    simpa [rV] using this
theorem up_at {w : World} {A : Option Addr} {us : List UpM} (h : Row w A (uV us)) (k : Nat) (p : UpM) (hp : us[k]? = some p) :
    ∃ b off, A = some ⟨b, off, none⟩ ∧ b < w.heap.size ∧ w.cell? ⟨b, off + k * 2, none⟩ = some (.string (B p.1.1)) ∧ w.cell? ⟨b, off + k * 2 + 1, none⟩ = some (.slice p.2.1 p.1.2.length p.2.2) := by
  obtain ⟨hp1, hp2⟩ := uV_at us k p hp
  obtain ⟨b, off, rfl, hb, c0⟩ := h.at_ _ _ hp1
  obtain ⟨b', off', e, _, c1⟩ := h.at_ _ _ hp2
  cases e
  exact ⟨b, off, rfl, hb, c0, c1⟩
theorem rt_at {w : World} {A : Option Addr} {rs : List RtD} (h : Row w A (rV rs)) (k : Nat) (p : RtD) (hp : rs[k]? = some p) :
    ∃ b off, A = some ⟨b, off, none⟩ ∧ b < w.heap.size ∧ w.cell? ⟨b, off + k * 3, none⟩ = some (.string (B p.1)) ∧ w.cell? ⟨b, off + k * 3 + 1, none⟩ = some (.string (B p.2.1)) ∧ w.cell? ⟨b, off + k * 3 + 2, none⟩ = some (.string (B p.2.2)) := by
  obtain ⟨hp1, hp2, hp3⟩ := rV_at rs k p hp
  obtain ⟨b, off, rfl, hb, c0⟩ := h.at_ _ _ hp1
  obtain ⟨b', off', e, _, c1⟩ := h.at_ _ _ hp2
  cases e
  obtain ⟨b', off', e, _, c2⟩ := h.at_ _ _ hp3
  cases e
  exact ⟨b, off, rfl, hb, c0, c1, c2⟩
/-- Upstreams whose aims lie there. -/
def AimsAt (w : World) (us : List UpM) : Prop := ∀ u ∈ us, Row w u.2.1 (sV u.1.2) ∧ u.1.1.length ≤ 9223372036854775807 ∧ u.1.2.length ≤ 9223372036854775807 ∧ ∀ s ∈ u.1.2, s.length ≤ 9223372036854775807
theorem AimsAt.same {w w' : World} {us : List UpM} (h : AimsAt w us) (o : Only (fun _ => False) w w') : AimsAt w' us := fun u hu => ⟨(h u hu).1.same o, (h u hu).2⟩

set_option maxRecDepth 100000 in
theorem many1_any (u : UpM) (hu : u.1.2.length ≤ 9223372036854775807) (w : World) : Calls Tryz.prog 39 #[.agg #[.string (B u.1.1), .slice u.2.1 u.1.2.length u.2.2]] w fun e w' => e = .returned (.bool (upMany u.1)) ∧ Only (fun _ => False) w w' := by
  have hF : upMany u.1 = (decide (u.1.2.length < 1) || decide (8 < u.1.2.length)) := rfl
  obtain ⟨n, hn⟩ : ∃ n, u.1.2.length = n := ⟨_, rfl⟩
  rw [hn] at hF hu ⊢
  clear hn
  have O := (Only.refl (fun _ => False) w).alloc (.cells #[.string (B u.1.1), .slice u.2.1 n u.2.2] 52)
  replace hF := hid hF
  go_enter Tryz.func39, Tryz.ntmps39
  by_cases h1 : n < 1
  · go_wp2_with fail
    go_ret
    exact ⟨by rw [hF.out]; first | (simp [h1]; done) | (simp [h1]; omega), O⟩
  · by_cases h2 : 8 < n
    · go_wp2_with fail
      go_ret
      exact ⟨by rw [hF.out]; first | (simp [h1, h2]; done) | (simp [h1, h2]; omega), O⟩
    · go_wp2_with fail
      go_ret
      exact ⟨by rw [hF.out]; first | (simp [h1, h2]; done) | (simp [h1, h2]; omega), O⟩
set_option maxRecDepth 100000 in
set_option maxHeartbeats 1000000 in
/-- IndexFunc over upstreams, at whatever function whose calls turn nothing. -/
theorem index_up (K : FuncId) (eg : ∀ args w, (callFunc K args).run Tryz.prog w = .ok (.enter K args) w) (p : UpM → Bool) (ss : List UpM) (A : Option Addr) (c : Nat) (w : World) (hR : Row w A (uV ss)) (hn : ss.length ≤ 9223372036854775807)
    (hf : ∀ s ∈ ss, ∀ W, Only (fun _ => False) w W → Calls Tryz.prog K #[.agg #[.string (B s.1.1), .slice s.2.1 s.1.2.length s.2.2]] W fun e w' => e = .returned (.bool (p s)) ∧ Only (fun _ => False) W w') :
    Calls Tryz.prog 70 #[.slice A ss.length c, .func (.func K) #[] #[]] w fun e w' => ∃ z : Int, e = .returned (.int .i64 z) ∧ (decide (0 ≤ z) = ss.any p) ∧ Only (fun _ => False) w w' := by
  obtain ⟨n, hnn⟩ : ∃ n, ss.length = n := ⟨_, rfl⟩
  rw [hnn] at hn ⊢
  replace hnn := hid hnn
  go_enter Tryz.func70, Tryz.ntmps70
  go_wp2_with fail
  go_loopw [8] (fun iv wr => ∃ k : Nat, k ≤ n ∧ iv = .int .i64 (k : Int) ∧ Hid (∀ i, i < k → ∀ s, ss[i]? = some s → p s = false) ∧ Only (fun _ => False) w wr) (fun iv _ => n - (intOf iv).toNat)
  case atStart => exact ⟨0, by omega, rfl, hid (by omega), Only.refl _ _⟩
  case round =>
    obtain ⟨k, hk, rfl, hx, O⟩ := hrel
    by_cases hlt : k < n
    · obtain ⟨q, hq⟩ : ∃ q, ss[k]? = some q := ⟨_, List.getElem?_eq_getElem (by rw [hnn.out]; exact hlt)⟩
      obtain ⟨b, off, rfl, hb, c0, c1⟩ := up_at (hR.same O) k q hq
      have hc := fun W O => hf q (List.mem_of_getElem? hq) W O
      replace hq := hid hq
      go_wp2_with fail
      refine (hc _ O).mono ?_
      rintro e w2 ⟨rfl, O2⟩
      have O3 := O.trans O2
      have hx' : p q = false → Hid (∀ i, i < k + 1 → ∀ s, ss[i]? = some s → p s = false) := fun h => hid (by
        intro i hi s hs
        by_cases hik : i = k
        · subst hik
          rw [hq.out] at hs
          cases hs
          exact h
        · exact hx.out i (by omega) s hs)
      have hy : p q = true → Hid (ss.any p = true) := fun h => hid (List.any_eq_true.2 ⟨q, List.mem_of_getElem? hq.out, h⟩)
      clear c0 c1 O2 O hc
      cases hr : p q
      · replace hx' := hx' hr
        clear hy hr
        go_wp2_with fail
        go_roundw
        case rel => exact ⟨k + 1, by omega, by simp, hx', O3⟩
        case measure => simp [intOf]; omega
      · replace hy := hy hr
        clear hx' hr
        go_wp2_with fail
        go_ret
        exact ⟨k, rfl, by rw [hy.out]; simp, O3⟩
    · have hall : Hid (ss.any p = false) := hid (by
        rw [List.any_eq_false]
        intro s hs
        obtain ⟨i, hi, rfl⟩ := List.mem_iff_getElem.1 hs
        rw [hx.out i (by rw [hnn.out] at hi; omega) _ (List.getElem?_eq_getElem hi)]
        decide)
      clear hx
      go_wp2_with fail
      go_ret
      exact ⟨-1, rfl, by rw [hall.out]; rfl, O⟩
theorem contains_up (K : FuncId) (eg : ∀ args w, (callFunc K args).run Tryz.prog w = .ok (.enter K args) w) (p : UpM → Bool) (ss : List UpM) (A : Option Addr) (c : Nat) (w : World) (hR : Row w A (uV ss)) (hn : ss.length ≤ 9223372036854775807)
    (hf : ∀ s ∈ ss, ∀ W, Only (fun _ => False) w W → Calls Tryz.prog K #[.agg #[.string (B s.1.1), .slice s.2.1 s.1.2.length s.2.2]] W fun e w' => e = .returned (.bool (p s)) ∧ Only (fun _ => False) W w') :
    Calls Tryz.prog 38 #[.slice A ss.length c, .func (.func K) #[] #[]] w fun e w' => e = .returned (.bool (ss.any p)) ∧ Only (fun _ => False) w w' := by
  have hi := index_up K eg p ss A c w hR hn hf
  clear hf
  go_enter Tryz.func38, Tryz.ntmps38
  go_wp2_with fail
  refine hi.mono ?_
  rintro e w1 ⟨z, rfl, hz, O1⟩
  replace hz := hid hz
  go_wp2_with fail
  go_ret
  exact ⟨by rw [← hz.out]; rfl, O1⟩


theorem many1_enters (args : Array Value) (w : World) : (callFunc 39 args).run Tryz.prog w = .ok (.enter 39 args) w := Go.Proofs.enters_of Tryz.func39 (by kernel_rfl) rfl args w

/-- A configuration, and where its parts lie. -/
structure CM where
  us : List UpM
  rs : List RtD
  set : List FD
  drop : List (List UInt8)
  U : Option Addr
  uc : Nat
  R : Option Addr
  rc : Nat
  SA : Option Addr
  sc : Nat
  DA : Option Addr
  dc : Nat
  total : Int
  tries : Int
  fails : Int
  cool : Int
def CM.cf (x : CM) : CF := ⟨x.us.map (·.1), x.rs, x.set, x.drop, x.total, x.tries, x.fails, x.cool⟩
def CM.row (x : CM) : Array Value := #[.slice x.U x.us.length x.uc, .slice x.R x.rs.length x.rc, .slice x.SA x.set.length x.sc, .slice x.DA x.drop.length x.dc, .int .i64 x.total, .int .i64 x.tries, .int .i64 x.fails, .int .i64 x.cool]
structure CM.Ok (w : World) (x : CM) : Prop where
  ups : Row w x.U (uV x.us)
  aims : AimsAt w x.us
  rts : Row w x.R (rV x.rs)
  rsm : ∀ r ∈ x.rs, r.1.length ≤ 9223372036854775807 ∧ r.2.1.length ≤ 9223372036854775807 ∧ r.2.2.length ≤ 9223372036854775807
  sets : Row w x.SA (fV x.set)
  ssm : ∀ f ∈ x.set, f.1.length ≤ 9223372036854775807
  drops : Row w x.DA (sV x.drop)
  dsm : ∀ s ∈ x.drop, s.length ≤ 9223372036854775807
  ul : x.us.length ≤ 9223372036854775807
  rl : x.rs.length ≤ 9223372036854775807
  sl : x.set.length ≤ 9223372036854775807
  dl : x.drop.length ≤ 9223372036854775807
theorem CM.Ok.same {w w' : World} {x : CM} (h : x.Ok w) (o : Only (fun _ => False) w w') : x.Ok w' :=
  ⟨h.ups.same o, h.aims.same o, h.rts.same o, h.rsm, h.sets.same o, h.ssm, h.drops.same o, h.dsm, h.ul, h.rl, h.sl, h.dl⟩

set_option maxRecDepth 100000 in
set_option maxHeartbeats 1000000 in
theorem many_any (x : CM) (w : World) (h : x.Ok w) : Calls Tryz.prog 15 #[.agg x.row] w fun e w' => e = .returned (.bool (manyF x.cf)) ∧ Only (fun _ => False) w w' := by
  have hF : manyF x.cf = (x.us.any (fun u => upMany u.1) || (decide (16 < x.us.length) || (decide (32 < x.rs.length) || (decide (16 < x.set.length) || decide (16 < x.drop.length))))) := by
    unfold manyF CM.cf
    simp only [List.any_map, List.length_map]
    rfl
  obtain ⟨us, rs, set, drop, U, uc, R, rc, SA, sc, DA, dc, t1, t2, t3, t4⟩ := x
  have hc := fun W (o : Only (fun _ => False) w W) => contains_up 39 many1_enters (fun u => upMany u.1) us U uc W (h.ups.same o) h.ul (fun u hu W _ => many1_any u (h.aims u hu).2.2.1 W)
  have hu := h.ul
  have hr := h.rl
  have hs := h.sl
  have hd := h.dl
  simp only at hF hu hr hs hd
  unfold CM.row
  simp only
  obtain ⟨nu, hnu⟩ : ∃ n, us.length = n := ⟨_, rfl⟩
  obtain ⟨nr, hnr⟩ : ∃ n, rs.length = n := ⟨_, rfl⟩
  obtain ⟨ns, hns⟩ : ∃ n, set.length = n := ⟨_, rfl⟩
  obtain ⟨nd, hnd⟩ : ∃ n, drop.length = n := ⟨_, rfl⟩
  rw [hnu, hnr, hns, hnd] at hF ⊢
  rw [hnu] at hu hc
  rw [hnr] at hr
  rw [hns] at hs
  rw [hnd] at hd
  clear hnu hnr hns hnd h
  obtain ⟨b0, hb0⟩ : ∃ b, (us.any fun u => upMany u.1) = b := ⟨_, rfl⟩
  rw [hb0] at hF hc
  clear hb0
  replace hF := hid hF
  go_enter Tryz.func15, Tryz.ntmps15
  go_upto_region 1 with (fail)
  have H := b_new w (.cells #[.slice U nu uc, .slice R nr rc, .slice SA ns sc, .slice DA nd dc, .int .i64 t1, .int .i64 t2, .int .i64 t3, .int .i64 t4] 28)
  have OA := (Only.refl (fun _ => False) w).alloc (.cells #[.slice U nu uc, .slice R nr rc, .slice SA ns sc, .slice DA nd dc, .int .i64 t1, .int .i64 t2, .int .i64 t3, .int .i64 t4] 28)
  replace hc := hc _ OA
  generalize w.alloc (.cells #[.slice U nu uc, .slice R nr rc, .slice SA ns sc, .slice DA nd dc, .int .i64 t1, .int .i64 t2, .int .i64 t3, .int .i64 t4] 28) = w1 at *
  obtain ⟨c0, c1, c2, c3, _, _, _, _⟩ := cells8 H
  go_wp2_with fail
  refine hc.mono ?_
  rintro e w2 ⟨rfl, O2⟩
  clear c0 c1 c2 c3 hc
  obtain ⟨c0, c1, c2, c3, _, _, _, _⟩ := cells8 (O2.keep H (fun h => h))
  have O := OA.trans O2
  clear OA O2 H
  cases b0
  · by_cases h1 : 16 < nu
    · go_wp2_with fail
      go_ret
      exact ⟨by rw [hF.out]; simp [h1], O⟩
    · by_cases h2 : 32 < nr
      · go_wp2_with fail
        go_ret
        exact ⟨by rw [hF.out]; simp [h1, h2], O⟩
      · by_cases h3 : 16 < ns
        · go_wp2_with fail
          go_ret
          exact ⟨by rw [hF.out]; simp [h1, h2, h3], O⟩
        · by_cases h4 : 16 < nd
          · go_wp2_with fail
            go_ret
            exact ⟨by rw [hF.out]; first | (simp [h1, h2, h3, h4]; done) | (simp [h1, h2, h3, h4]; omega), O⟩
          · go_wp2_with fail
            go_ret
            exact ⟨by rw [hF.out]; first | (simp [h1, h2, h3, h4]; done) | (simp [h1, h2, h3, h4]; omega), O⟩
  · go_wp2_with fail
    go_ret
    exact ⟨by rw [hF.out]; rfl, O⟩
end Go.Proofs.YtafljoiblfhioaaGreatDoor
