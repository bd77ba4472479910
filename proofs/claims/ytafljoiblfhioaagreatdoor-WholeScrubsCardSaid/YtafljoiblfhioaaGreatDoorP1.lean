/-
  Cut of the package line.
-/
import Derived.Test.YtafljoiblfhioaaGreatDoorN
namespace Go.Proofs.YtafljoiblfhioaaGreatDoor
open Go.RowKit

/-- The line with which bytes begin: the line, how many bytes it takes, an error's number. -/
def cutGo (most : Nat) (whole : List UInt8) : Nat → List UInt8 → List UInt8 × Nat × Int
  | _, [] => ([], 0, 0)
  | i, c :: t =>
    if c = 10 then ([], 0, 20)
    else if c = 13 then
      match t with
      | [] => ([], 0, 0)
      | d :: _ => if d = 10 then (whole.take i, i + 2, 0) else ([], 0, 20)
    else if most ≤ i then ([], 0, 2)
    else cutGo most whole (i + 1) t
theorem cutGo_cons (most : Nat) (whole : List UInt8) (i : Nat) (c : UInt8) (t : List UInt8) : cutGo most whole i (c :: t) =
    if c = 10 then (([], 0, 20) : List UInt8 × Nat × Int)
    else if c = 13 then
      match t with
      | [] => ([], 0, 0)
      | d :: _ => if d = 10 then (whole.take i, i + 2, 0) else ([], 0, 20)
    else if most ≤ i then ([], 0, 2)
    else cutGo most whole (i + 1) t := by
  rw [cutGo.eq_def]
theorem cutGo_nil (most : Nat) (whole : List UInt8) (i : Nat) : cutGo most whole i [] = ([], 0, 0) := by rw [cutGo.eq_def]
def cutF (b : List UInt8) (most : Nat) : List UInt8 × Nat × Int := cutGo most b 0 b

theorem u8_eq (c : UInt8) (k : UInt8) (h : c = k) : (c.toNat : Int) = (k.toNat : Int) := by rw [h]
theorem u8_ne (c : UInt8) (k : UInt8) (h : ¬ c = k) : ¬ (c.toNat : Int) = (k.toNat : Int) := fun e => h (UInt8.toNat_inj.1 (by omega))
theorem Bs.str {w : World} {A : Option Addr} {n c : Nat} {l : List UInt8} (h : Bs w A n c l) : (convert 22 9 (.slice A n c)).run Tryz.prog w = .ok (.string (B l)) w := by
  have hl := h.len
  subst hl
  cases A with
  | none =>
    obtain ⟨h1, _⟩ := h.nil rfl
    obtain rfl : l = [] := List.eq_nil_of_length_eq_zero h1
    rw [run_convert_bytes_string w 22 9 5 none _ _ Tryz.underlying22 Tryz.underlying5 Tryz.underlying9]
    rfl
  | some a =>
    refine run_convert_bytes_back w 22 9 5 a c l Tryz.underlying22 Tryz.underlying5 Tryz.underlying9 (fun j hj => ?_)
    obtain ⟨b, off, e, _, hc⟩ := h.at_ j _ (List.getElem?_eq_getElem hj)
    cases e
    rw [Go.WideShapes.add_plain]
    exact hc

set_option maxRecDepth 100000 in
set_option maxHeartbeats 2000000 in
theorem cut_any (b : List UInt8) (most : Nat) (A : Option Addr) (n c : Nat) (w : World) (hB : Bs w A n c b) (hn : n ≤ 1000000000) (hm : most ≤ 1000000000) :
    Calls Tryz.prog 76 #[.slice A n c, .int .i64 (most : Int)] w fun e w' => e = .returned (.tuple #[.string (B (cutF b most).1), .int .i64 ((cutF b most).2.1 : Int), .int .i64 (cutF b most).2.2]) ∧ w = w' := by
  obtain ⟨X, hX⟩ : ∃ X, cutF b most = X := ⟨_, rfl⟩
  rw [hX]
  have hmx : max (most : Int) 0 = most := by omega
  have hlen := hid hB.len
  have hle := hB.le
  go_enter Tryz.func76, Tryz.ntmps76
  go_wp2_with fail
  go_loopw [11] (fun iv wr => ∃ k : Nat, k ≤ n ∧ iv = .int .i64 (k : Int) ∧ wr = w ∧ Hid (cutGo most b k (b.drop k) = X)) (fun iv _ => n - (intOf iv).toNat)
  case atStart => exact ⟨0, by omega, rfl, rfl, hX⟩
  case round =>
    obtain ⟨k, hk, rfl, rfl, hgo⟩ := hrel
    by_cases hlt : k < n
    · obtain ⟨p, hp⟩ : ∃ p, b[k]? = some p := ⟨_, List.getElem?_eq_getElem (by rw [hlen.out]; exact hlt)⟩
      obtain ⟨g, off, rfl, hb, c0⟩ := hB.at_ k p hp
      have hd : b.drop k = p :: b.drop (k + 1) := by
        have hk' : k < b.length := by rw [hlen.out]; exact hlt
        rw [List.drop_eq_getElem_cons hk']
        rw [List.getElem?_eq_getElem hk'] at hp
        rw [Option.some.inj hp]
      have hgo' := hgo.out
      rw [hd, cutGo_cons] at hgo'
      clear hd hgo
      by_cases h10 : p = 10
      · rw [if_pos h10] at hgo'
        have v := u8_eq p 10 h10
        change (p.toNat : Int) = 10 at v
        replace hgo' := hid hgo'
        replace h10 := hid h10
        rw [v] at c0
        clear v
        go_wp2_with fail
        go_ret3
        exact ⟨by rw [← hgo'.out]; rfl, rfl⟩
      · rw [if_neg h10] at hgo'
        have v10 := u8_ne p 10 h10
        change ¬ (p.toNat : Int) = 10 at v10
        replace h10 := hid h10
        by_cases h13 : p = 13
        · rw [if_pos h13] at hgo'
          have v := u8_eq p 13 h13
          change (p.toNat : Int) = 13 at v
          replace h13 := hid h13
          rw [v] at c0
          clear v v10
          by_cases hk1 : k + 1 < n
          · obtain ⟨q, hq⟩ : ∃ q, b[k + 1]? = some q := ⟨_, List.getElem?_eq_getElem (by rw [hlen.out]; exact hk1)⟩
            obtain ⟨g', off', e, _, c1⟩ := hB.at_ (k + 1) q hq
            cases e
            have hd : b.drop (k + 1) = q :: b.drop (k + 1 + 1) := by
              have hk' : k + 1 < b.length := by rw [hlen.out]; exact hk1
              rw [List.drop_eq_getElem_cons hk']
              rw [List.getElem?_eq_getElem hk'] at hq
              rw [Option.some.inj hq]
            rw [hd] at hgo'
            clear hd
            simp only at hgo'
            by_cases hq10 : q = 10
            · rw [if_pos hq10] at hgo'
              have v := u8_eq q 10 hq10
              change (q.toNat : Int) = 10 at v
              replace hq10 := hid hq10
              rw [v] at c1
              clear v
              replace hgo' := hid hgo'
              have sl := run_h (some ⟨g, off, none⟩) n c k (by omega)
              have sl' := run_h' (some ⟨g, off, none⟩) n c k (by omega)
              have st := (hB.take k (by omega)).str
              go_wp2_with fail
              go_ret3
              exact ⟨by rw [← hgo'.out]; rfl, rfl⟩
            · rw [if_neg hq10] at hgo'
              have v := u8_ne q 10 hq10
              change ¬ (q.toNat : Int) = 10 at v
              replace hq10 := hid hq10
              replace hgo' := hid hgo'
              generalize (q.toNat : Int) = vq at *
              have vb : (vq != 10) = true := by simpa using v
              go_wp2_with fail
              go_ret3
              exact ⟨by rw [← hgo'.out]; rfl, rfl⟩
          · have hd : b.drop (k + 1) = [] := List.drop_of_length_le (by rw [hlen.out]; omega)
            rw [hd] at hgo'
            simp only at hgo'
            replace hgo' := hid hgo'
            have hkn : (k : Int) + 1 = n := by omega
            go_wp2_with fail
            go_ret3
            exact ⟨by rw [← hgo'.out]; rfl, rfl⟩
        · rw [if_neg h13] at hgo'
          have v13 := u8_ne p 13 h13
          change ¬ (p.toNat : Int) = 13 at v13
          replace h13 := hid h13
          generalize (p.toNat : Int) = v at *
          by_cases hmk : most ≤ k
          · rw [if_pos hmk] at hgo'
            replace hgo' := hid hgo'
            go_wp2_with fail
            go_ret3
            exact ⟨by rw [← hgo'.out]; rfl, rfl⟩
          · rw [if_neg hmk] at hgo'
            replace hgo' := hid hgo'
            go_wp2_with fail
            go_roundw
            case rel => exact ⟨k + 1, by omega, by simp, by simp, hgo'⟩
            case measure => simp [intOf]; omega
    · have hd : b.drop k = [] := List.drop_of_length_le (by rw [hlen.out]; omega)
      rw [hd, cutGo_nil] at hgo
      go_wp2_with fail
      go_ret3
      exact ⟨by rw [← hgo.out]; rfl, rfl⟩
end Go.Proofs.YtafljoiblfhioaaGreatDoor
