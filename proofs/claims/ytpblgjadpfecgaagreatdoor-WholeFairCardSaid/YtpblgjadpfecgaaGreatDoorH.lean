/-
  Split of the package sign; List of the package field.
-/
import Derived.Test.YtpblgjadpfecgaaGreatDoorE
import Derived.Lib.LaidTab
import Derived.Lib.SplitLaws
set_option linter.unusedSimpArgs false
set_option linter.unusedVariables false
namespace Go.Proofs.YtpblgjadpfecgaaGreatDoor
open Go.RowKit

/-- What the package variables hold that the code reads. -/
structure Gl (w : World) : Prop where
  max : ∃ m, w.cell? ⟨0, 0, none⟩ = some (.int .i64 m)
  size : 6 ≤ w.heap.size
  pow : Lib.TabIs Tryz.prog w "internal/strconv.uint64pow10" .u64 Lib.pow10Tab
  tab : w.cell? ⟨5, 15, none⟩ = some (.int .u8 4)
theorem pow_glob : Tryz.prog.globalNamed "internal/strconv.uint64pow10" = some 1 := by kernel_rfl
theorem Gl.same {w w' : World} (h : Gl w) (o : Only (fun _ => False) w w') : Gl w' := by
  obtain ⟨m, hm⟩ := h.max
  have hs := h.size
  exact ⟨⟨m, (o.cell (by show 0 < _; omega) (fun h => h)).trans hm⟩, Nat.le_trans hs o.size, by
    have hp := h.pow
    unfold Lib.TabIs World.var? at hp ⊢
    rw [pow_glob] at hp ⊢
    simp only [Option.bind_some] at hp ⊢
    rw [o.block 1 (by omega) (fun h => h)]
    exact hp, (o.cell (by show 5 < _; omega) (fun h => h)).trans h.tab⟩

/-- The pieces between the bytes c. -/
def splitC (c : UInt8) : List UInt8 → List (List UInt8)
  | [] => [[]]
  | x :: t => if x = c then [] :: splitC c t else match splitC c t with
    | [] => [[x]]
    | p :: r => (x :: p) :: r
theorem splitC_no (c : UInt8) : ∀ (a : List UInt8), c ∉ a → splitC c a = [a]
  | [], _ => rfl
  | x :: t, h => by
    simp only [List.mem_cons, not_or] at h
    rw [splitC, if_neg (fun e => h.1 e.symm), splitC_no c t h.2]
theorem splitC_app (c : UInt8) (b : List UInt8) : ∀ (a : List UInt8), c ∉ a → splitC c (a ++ c :: b) = a :: splitC c b
  | [], _ => by simp [splitC]
  | x :: t, h => by
    simp only [List.mem_cons, not_or] at h
    rw [List.cons_append, splitC, if_neg (fun e => h.1 e.symm), splitC_app c b t h.2]
theorem occ_one (c : UInt8) (l : List UInt8) (j : Nat) : Lib.occAt l [c] j = true ↔ l[j]? = some c := by
  unfold Lib.occAt
  rw [← List.head?_drop]
  cases l.drop j with
  | nil => simp
  | cons x t => simp [List.isPrefixOf]; exact eq_comm
theorem split_one (c : UInt8) : ∀ (n : Nat) (l : List UInt8), l.length ≤ n → Lib.split l [c] = splitC c l
  | 0, l, h => by
    obtain rfl : l = [] := List.eq_nil_of_length_eq_zero (by omega)
    rfl
  | n + 1, l, h => by
    unfold Lib.split
    rcases Lib.index_spec l [c] with ⟨h1, h2⟩ | ⟨i, h1, h2, h3, h4⟩
    · rw [Lib.count_miss h1, splitC_no]
      · rfl
      · intro hc
        obtain ⟨j, hj, e⟩ := List.mem_iff_getElem.1 hc
        have := h2 j (by omega)
        have h5 := (occ_one c l j).2 (by rw [List.getElem?_eq_getElem hj, e])
        rw [this] at h5
        cases h5
    · have h5 := (occ_one c l i).1 h3
      have hi : i < l.length := (List.getElem?_eq_some_iff.1 h5).1
      have e : l = l.take i ++ c :: l.drop (i + 1) := by
        have h6 := (List.getElem?_eq_some_iff.1 h5).2
        conv => lhs; rw [← List.take_append_drop i l, List.drop_eq_getElem_cons hi, h6]
      have hno : c ∉ l.take i := by
        intro hc
        obtain ⟨j, hj, e2⟩ := List.mem_iff_getElem.1 hc
        have hj' : j < i := by simp at hj; omega
        have h7 := h4 j hj'
        have h8 := (occ_one c l j).2 (by rw [List.getElem?_eq_getElem (by omega), ← e2]; simp)
        rw [h7] at h8
        cases h8
      rw [Lib.count_hit (by simp) h1, Nat.add_comm 1]
      unfold Lib.splitK
      rw [if_neg (by rw [h1]; simp), h1]
      have ih := split_one c n (l.drop (i + 1)) (by simp; omega)
      unfold Lib.split at ih
      simp only [Int.toNat_natCast, Nat.add_zero, List.length_cons, List.length_nil, Nat.zero_add]
      rw [ih]
      conv => rhs; rw [e, splitC_app c _ _ hno]
theorem splitC_len (c : UInt8) : ∀ (l : List UInt8), (splitC c l).length ≤ l.length + 1 ∧ ∀ p ∈ splitC c l, p.length ≤ l.length
  | [] => by simp [splitC]
  | x :: t => by
    obtain ⟨h1, h2⟩ := splitC_len c t
    unfold splitC
    split
    · refine ⟨by simp; omega, fun p hp => ?_⟩
      simp only [List.mem_cons] at hp
      rcases hp with rfl | hp
      · simp
      · have := h2 p hp; simp; omega
    · cases hs : splitC c t with
      | nil => simp
      | cons q r =>
        rw [hs] at h1 h2
        refine ⟨by simp at h1 ⊢; omega, fun p hp => ?_⟩
        simp only [List.mem_cons] at hp
        rcases hp with rfl | hp
        · have := h2 q (by simp); simp; omega
        · have := h2 p (by simp [hp]); simp; omega

def keepS (ps : List (List UInt8)) : List (List UInt8) := (ps.map trim).filter (fun s => !s.isEmpty)
def splitF (l : List UInt8) : List (List UInt8) := keepS (splitC 44 l)

theorem keepS_take (ps : List (List UInt8)) (k : Nat) (p : List UInt8) (hp : ps[k]? = some p) : keepS (ps.take (k + 1)) = keepS (ps.take k) ++ (if (trim p).isEmpty then [] else [trim p]) := by
  unfold keepS
  rw [List.take_add_one, hp]
  simp only [Option.toList_some, List.map_append, List.filter_append, List.map_cons, List.map_nil]
  congr 1
  cases h : (trim p).isEmpty <;> simp [h]
theorem keepS_len (ps : List (List UInt8)) : (keepS ps).length ≤ ps.length := by
  unfold keepS
  refine Nat.le_trans (List.length_filter_le _ _) ?_
  simp
theorem trim_len (l : List UInt8) : (trim l).length ≤ l.length := by
  have hd : ∀ (q : List UInt8) (f : UInt8 → Bool), (q.dropWhile f).length ≤ q.length := fun q f => (List.dropWhile_sublist f).length_le
  unfold trim Lib.trimS Lib.trimRightS Lib.trimLeftS
  refine Nat.le_trans (hd _ _) ?_
  rw [List.length_reverse]
  refine Nat.le_trans (hd _ _) ?_
  simp
theorem splitF_len (l : List UInt8) : (splitF l).length ≤ l.length + 1 := Nat.le_trans (keepS_len _) (splitC_len 44 l).1
theorem splitF_mem (l p : List UInt8) (h : p ∈ splitF l) : p.length ≤ l.length := by
  obtain ⟨q, hq, rfl⟩ := List.mem_map.1 (List.mem_filter.1 h).1
  exact Nat.le_trans (trim_len q) ((splitC_len 44 l).2 q hq)

theorem split_rows (c : UInt8) (s : ByteArray) : (Lib.splitB ⟨#[c]⟩ 0 (Lib.countB s ⟨#[c]⟩) s).map Value.string = sV (splitC c s.data.toList) := by
  rw [← split_one c _ _ (Nat.le_refl _)]
  have h := Lib.splitB_data ⟨#[c]⟩ 0 (Lib.countB s ⟨#[c]⟩) s
  have e : Lib.splitK [c] 0 (Lib.countB s ⟨#[c]⟩) s.data.toList = Lib.split s.data.toList [c] := rfl
  have h' : (Lib.splitB ⟨#[c]⟩ 0 (Lib.countB s ⟨#[c]⟩) s).map (·.data.toList) = Lib.split s.data.toList [c] := h.trans e
  unfold sV
  rw [← h', List.map_map]
  apply List.map_congr_left
  intro x _
  rfl
theorem split_count (c : UInt8) (s : ByteArray) : Lib.countB s ⟨#[c]⟩ + 1 = (splitC c s.data.toList).length := by
  have h := split_rows c s
  have := congrArg List.length h
  rw [List.length_map, sV_len, Lib.splitB_all ⟨#[c]⟩ (Nat.le_refl 1) 0 _ s rfl] at this
  exact this
/-- strings.Split at one byte. -/
theorem strSplit_any (c : UInt8) (s : ByteArray) (hs : s.size < 4294967281) (w : World) (hG : Gl w) :
    Calls Tryz.prog 44 #[.string s, .string ⟨#[c]⟩] w fun e w' => ∃ A' c', e = .returned (.slice A' (splitC c s.data.toList).length c') ∧ OwnS w' w.heap.size A' c' (splitC c s.data.toList) ∧ Only (fun _ => False) w w' := by
  obtain ⟨m, hm⟩ := hG.max
  refine (Tryz.strings_Split s ⟨#[c]⟩ m w hs hm (Nat.le_refl 1)).mono ?_
  rintro e w1 ⟨rfl, rfl⟩
  have hc := split_count c s
  have hle := (splitC_len c s.data.toList).1
  rw [show s.data.toList.length = s.size by simp] at hle
  refine ⟨_, _, by rw [hc], ⟨by rw [sV_len]; omega, .inr ⟨w.heap.size, _, (0, 0), rfl, Nat.le_refl _, b_new _ _, .inr rfl, Nat.le_refl _, by unfold maxLen; omega, ?_, ?_⟩⟩, (Only.refl _ w).alloc _⟩
  · rw [split_rows, List.size_toArray, sV_len]; omega
  · rw [split_rows, List.take_of_length_le (by simp [sV_len])]

theorem empty_list (l : List UInt8) : (l == ([] : List UInt8)) = l.isEmpty := by cases l <;> rfl

set_option maxRecDepth 100000 in
set_option maxHeartbeats 1000000 in
/-- Split of the package sign. -/
theorem split_any (s : ByteArray) (hs : s.size < 4294967281) (w : World) (hG : Gl w) :
    Calls Tryz.prog 285 #[.string s] w fun e w' => ∃ A' c', e = .returned (.slice A' (splitF s.data.toList).length c') ∧ OwnS w' w.heap.size A' c' (splitF s.data.toList) ∧ Only (fun _ => False) w w' := by
  have hs' : s.data.toList.length < 4294967281 := by simpa using hs
  go_enter Tryz.func285, Tryz.ntmps285
  go_wp2_with fail
  refine (strSplit_any 44 s hs w hG).mono ?_
  rintro e w1 ⟨A, c, rfl, HP, O1⟩
  obtain ⟨ps, hps⟩ : ∃ ps, splitC 44 s.data.toList = ps := ⟨_, rfl⟩
  have hF : splitF s.data.toList = keepS ps := by unfold splitF; rw [hps]
  have hpl := splitC_len 44 s.data.toList
  rw [hps] at HP hpl ⊢
  replace hF := hid hF
  clear hps
  have HR : Row w1 A (sV ps) := HP.row
  have hps1 : ps.length ≤ 4294967281 := by have := hpl.1; omega
  have hps2 : ∀ p ∈ ps, p.length < 4294967281 := fun p hp => by have := hpl.2 p hp; omega
  replace hps2 := hid hps2
  clear hpl HP hs'
  have hs1 := O1.size
  obtain ⟨n, hnn⟩ : ∃ n, ps.length = n := ⟨_, rfl⟩
  rw [hnn] at hps1 ⊢
  replace hnn := hid hnn
  go_wp2_with fail
  go_loopw [3, 9] (fun ov iv wr => ∃ (k m : Nat) (A' : Option Addr) (c' : Nat), k ≤ n ∧ ov = .slice A' m c' ∧ iv = .int .i64 (k : Int) ∧ Hid ((keepS (ps.take k)).length = m) ∧ OwnS wr w1.heap.size A' c' (keepS (ps.take k)) ∧ Only (fun _ => False) w1 wr) (fun _ iv _ => n - (intOf iv).toNat)
  case atStart => exact ⟨0, 0, none, 0, by omega, rfl, rfl, rfl, Own.nil _ _ _ _, Only.refl _ _⟩
  case round =>
    obtain ⟨k, m, A', c', hk, rfl, rfl, hm, HO, O⟩ := hrel
    by_cases hlt : k < n
    · obtain ⟨p, hp⟩ : ∃ p, ps[k]? = some p := ⟨_, List.getElem?_eq_getElem (by rw [hnn.out]; exact hlt)⟩
      obtain ⟨b, off, rfl, hb, c0⟩ := str_at (HR.same O) k p hp
      have hpm := hps2.out p (List.mem_of_getElem? hp)
      have hgt := keepS_take ps k p hp
      have hz1 : (B p).size ≤ 9223372036854775807 := by simp [ByteArray.size]; omega
      replace hpm := hid hpm
      replace hgt := hid hgt
      go_wp2_with fail
      refine (trim_any _ hz1 _).mono ?_
      rintro e w2 ⟨rfl, O2⟩
      rw [show (B p).data.toList = p from rfl]
      have HO2 := hid (Own.same HO O2)
      have hs2 := Nat.le_trans O.size O2.size
      have het := empty_list (trim p)
      cases hsm : (trim p).isEmpty
      · have hgt' : keepS (ps.take (k + 1)) = keepS (ps.take k) ++ [(B (trim p)).data.toList] := by rw [hgt.out, hsm]; rfl
        rw [hsm] at het
        have hml : m ≤ k := by
          rw [← hm.out]
          refine Nat.le_trans (keepS_len _) ?_
          simp
          omega
        replace hsm := hid hsm
        replace hgt' := hid hgt'
        go_wp2_with (first | (at_builtin; refine app_s rfl _ _ rfl w1.heap.size m c' A' _ (B (trim p)) hm.out rfl rfl HO2.out hs2 (by omega) ?_; intro A3 c3 w3 h3 h3' o3) | fail)
        have hbl := HO2.out.blk
        have O3 := (O.trans O2).trans' o3 (fun i hi => .inr (hbl i hi).1)
        go_roundw
        case rel => exact ⟨k + 1, m + 1, A3, c3, by omega, rfl, by simp, hid (by rw [hgt'.out, List.length_append, hm.out]; rfl), by rw [hgt'.out]; exact h3.out, O3⟩
        case measure => simp [intOf]; omega
      · have hgt' : keepS (ps.take (k + 1)) = keepS (ps.take k) := by rw [hgt.out, hsm]; simp
        rw [hsm] at het
        replace hsm := hid hsm
        go_wp2_with fail
        go_roundw
        case rel => exact ⟨k + 1, m, A', c', by omega, rfl, by simp, by unfold Hid; rw [hgt']; exact hm.out, by rw [hgt']; exact HO2.out, O.trans O2⟩
        case measure => simp [intOf]; omega
    · have hk' : k = n := by omega
      subst hk'
      have hfull : keepS (ps.take k) = keepS ps := by rw [List.take_of_length_le (by rw [hnn.out]; exact Nat.le_refl _)]
      rw [hfull] at hm HO
      clear hfull
      go_wp2_with fail
      go_ret
      exact ⟨A', c', by rw [hF.out, hm.out]; rfl, by rw [hF.out]; exact Own.weak HO hs1, O1.trans O⟩

def listF (fs : List FD) (name : List UInt8) : List (List UInt8) := (getF fs name).flatMap splitF
theorem flat_take (ps : List (List UInt8)) (k : Nat) (p : List UInt8) (hp : ps[k]? = some p) : (ps.take (k + 1)).flatMap splitF = (ps.take k).flatMap splitF ++ splitF p := by
  rw [List.take_add_one, hp]
  simp [List.flatMap_append]
theorem flat_len (ps : List (List UInt8)) (M : Nat) (h : ∀ p ∈ ps, p.length < M) : (ps.flatMap splitF).length ≤ ps.length * M := by
  induction ps with
  | nil => simp
  | cons p t ih =>
    have h1 := splitF_len p
    have h2 := h p (by simp)
    have h3 := ih (fun q hq => h q (by simp [hq]))
    simp only [List.flatMap_cons, List.length_append, List.length_cons, Nat.succ_mul]
    omega

set_option maxRecDepth 100000 in
set_option maxHeartbeats 1000000 in
theorem list_any (fs : List FD) (name : ByteArray) (A : Option Addr) (c : Nat) (w : World) (hR : Row w A (fV fs)) (hS : SmallF fs) (h48 : fs.length ≤ 1000) (hn : name.size < 4294967281) (hG : Gl w) :
    Calls Tryz.prog 222 #[.slice A fs.length c, .string name] w fun e w' => ∃ A' c', e = .returned (.slice A' (listF fs name.data.toList).length c') ∧ OwnS w' w.heap.size A' c' (listF fs name.data.toList) ∧ Only (fun _ => False) w w' := by
  go_enter Tryz.func222, Tryz.ntmps222
  go_wp2_with fail
  refine (get_any fs name A c w hR hS hn).mono ?_
  rintro e w1 ⟨A, c, rfl, HP, O1⟩
  have hsm := getF_small fs name.data.toList hS
  have hgl := getF_len fs name.data.toList
  have hF : listF fs name.data.toList = (getF fs name.data.toList).flatMap splitF := rfl
  obtain ⟨ps, hps⟩ : ∃ ps, getF fs name.data.toList = ps := ⟨_, rfl⟩
  rw [hps] at HP hsm hgl hF ⊢
  replace hF := hid hF
  clear hps
  have HR : Row w1 A (sV ps) := HP.row
  have hps1 : ps.length ≤ 1000 := by omega
  have hps2 := hid hsm.2
  clear hsm hgl HP
  have hG1 := hG.same O1
  have hs1 := O1.size
  obtain ⟨n, hnn⟩ : ∃ n, ps.length = n := ⟨_, rfl⟩
  rw [hnn] at hps1 ⊢
  replace hnn := hid hnn
  go_wp2_with fail
  go_loopw [5, 12] (fun ov iv wr => ∃ (k m : Nat) (A' : Option Addr) (c' : Nat), k ≤ n ∧ ov = .slice A' m c' ∧ iv = .int .i64 (k : Int) ∧ Hid (((ps.take k).flatMap splitF).length = m) ∧ OwnS wr w1.heap.size A' c' ((ps.take k).flatMap splitF) ∧ Only (fun _ => False) w1 wr) (fun _ iv _ => n - (intOf iv).toNat)
  case atStart => exact ⟨0, 0, none, 0, by omega, rfl, rfl, rfl, Own.nil _ _ _ _, Only.refl _ _⟩
  case round =>
    obtain ⟨k, m, A', c', hk, rfl, rfl, hm, HO, O⟩ := hrel
    by_cases hlt : k < n
    · obtain ⟨p, hp⟩ : ∃ p, ps[k]? = some p := ⟨_, List.getElem?_eq_getElem (by rw [hnn.out]; exact hlt)⟩
      obtain ⟨b, off, rfl, hb, c0⟩ := str_at (HR.same O) k p hp
      have hpm := hps2.out p (List.mem_of_getElem? hp)
      have hgt := flat_take ps k p hp
      have hz1 : (B p).size < 4294967281 := by simp [ByteArray.size]; omega
      have hml : m + (splitF p).length ≤ 8796093022208 := by
        rw [← hm.out, ← List.length_append, ← hgt]
        refine Nat.le_trans (flat_len _ 4294967281 (fun q hq => hps2.out q (List.mem_of_mem_take hq))) ?_
        have : (ps.take (k + 1)).length ≤ 1000 := by rw [List.length_take]; have := hnn.out; omega
        omega
      replace hpm := hid hpm
      replace hgt := hid hgt
      go_wp2_with fail
      refine (split_any _ hz1 _ (hG1.same O)).mono ?_
      rintro e w2 ⟨A2, c2, rfl, H2, O2⟩
      rw [show (B p).data.toList = p from rfl] at H2 ⊢
      have HO2 := hid (Own.same HO O2)
      have HR2 : Hid (Row w2 A2 (sV (splitF p))) := hid H2.row
      have hnil2 : Hid (A2 = none → (splitF p).length = 0 ∧ c2 = 0) := hid (by
        rintro rfl
        rcases H2.2 with ⟨_, h1, h2⟩ | ⟨g, cur, fz, h1, _⟩
        · exact ⟨h1, h2⟩
        · cases h1)
      clear H2
      have hs2 := Nat.le_trans O.size O2.size
      obtain ⟨q, hq⟩ : ∃ q, splitF p = q := ⟨_, rfl⟩
      rw [hq] at HR2 hnil2 hgt hml ⊢
      clear hq
      obtain ⟨mq, hmq⟩ : ∃ mq, q.length = mq := ⟨_, rfl⟩
      rw [hmq] at hnil2 hml ⊢
      replace hmq := hid hmq
      go_wp2_with (first | (at_builtin; refine app_ss rfl _ _ rfl w1.heap.size m c' mq c2 A' A2 _ q hm.out hmq.out rfl rfl HO2.out HR2.out hnil2.out hs2 hml ?_; intro A3 c3 w3 h3 h3' o3) | fail)
      have hbl := HO2.out.blk
      have O3 := (O.trans O2).trans' o3 (fun i hi => .inr (hbl i hi).1)
      go_roundw
      case rel => exact ⟨k + 1, m + mq, A3, c3, by omega, rfl, by simp, hid (by rw [hgt.out, List.length_append, hm.out, hmq.out]), by rw [hgt.out]; exact h3.out, O3⟩
      case measure => simp [intOf]; omega
    · have hk' : k = n := by omega
      subst hk'
      have hfull : ps.take k = ps := by rw [List.take_of_length_le (by rw [hnn.out]; exact Nat.le_refl _)]
      rw [hfull] at hm HO
      clear hfull
      go_wp2_with fail
      go_ret
      exact ⟨A', c', by rw [hF.out, hm.out]; rfl, by rw [hF.out]; exact Own.weak HO hs1, O1.trans O⟩
end Go.Proofs.YtpblgjadpfecgaaGreatDoor
