/-
  What a new cell is made of.
-/
import Derived.Test.YtpblgjadpfecgaaGreatDoorFx
import Derived.Test.YtpblgjadpfecgaaGreatDoorM
set_option linter.unusedSimpArgs false
set_option linter.unusedVariables false
namespace Go.Proofs.YtpblgjadpfecgaaGreatDoor
open Go.RowKit Go.Maps


/-- slices.Clone of texts. -/
theorem sclone_any (A : Option Addr) (n c : Nat) (ss : List (List UInt8)) (w : World) (hl : ss.length = n) (hR : Row w A (sV ss)) (hnil : A = none → n = 0) (hn : n ≤ 1000000000) :
    Calls Tryz.prog 14 #[.slice A n c] w fun e w' => ∃ A' c', e = .returned (.slice A' ss.length c') ∧ OwnS w' w.heap.size A' c' ss ∧ Only (fun _ => False) w w' := by
  subst hl
  cases A with
  | none =>
    obtain rfl : ss = [] := List.eq_nil_of_length_eq_zero (hnil rfl)
    refine (Tryz.slices_Clone_string_nil 0 c w).mono ?_
    rintro e w1 ⟨rfl, rfl⟩
    exact ⟨none, 0, rfl, Own.nil _ _ _ _, Only.refl _ _⟩
  | some a =>
    cases ss with
    | nil =>
      refine (Tryz.slices_Clone_string_zero a c w).mono ?_
      rintro e w1 ⟨v, rfl, hv, hne, hb⟩
      obtain ⟨hv0, hv | ⟨g, cap, cur, rfl, hg, hrow, h1, h2, h3, h4⟩⟩ := hv
      · exact absurd hv.1 hne
      · exact ⟨some ⟨g, 0, none⟩, cap, rfl, ⟨hv0, .inr ⟨g, cur, (0, 0), rfl, hg, hrow, .inr rfl, h1, h2, h3, h4⟩⟩, Only.of_below hb⟩
    | cons s t =>
      obtain ⟨b, off, e, _⟩ := hR (by simp [sV])
      cases e
      refine (Tryz.slices_Clone_string b off (s :: t).length c ((s :: t).map B) w (by simp) (by omega) (fun j hj => ?_)).mono ?_
      · have hj' : j < (s :: t).length := by simpa using hj
        obtain ⟨b', off', e, _, hc⟩ := str_at hR j _ (List.getElem?_eq_getElem hj')
        cases e
        rw [hc]
        congr 2
        rw [List.getD_eq_getElem?_getD, List.getElem?_map, List.getElem?_eq_getElem hj']
        rfl
      · rintro e w1 ⟨v, rfl, hv, hne, hb⟩
        have e1 : (((s :: t).map B).take (s :: t).length).map Value.string = sV (s :: t) := by
          rw [List.take_of_length_le (by simp), List.map_map]
          rfl
        rw [e1] at hv
        obtain ⟨hv0, hv | ⟨g, cap, cur, rfl, hg, hrow, h1, h2, h3, h4⟩⟩ := hv
        · exact absurd hv.1 hne
        · exact ⟨some ⟨g, 0, none⟩, cap, rfl, ⟨hv0, .inr ⟨g, cur, (0, 0), rfl, hg, hrow, .inr rfl, h1, h2, h3, h4⟩⟩, Only.of_below hb⟩

theorem load8 {W : World} {g : Nat} {tt t : TypeId} {fr : Nat × Nat} {a b c d e f i j : Value} (h : W.heap[g]? = some (.cells #[a, b, c, d, e, f, i, j] t fr)) (hu : ∃ ts, Tryz.prog.underlying tt = some (.struct ts)) (hi : (Tryz.prog.info? tt).map (·.size) = some 8) : (loadVar tt ⟨g, 0, none⟩).run Tryz.prog W = .ok (.agg #[a, b, c, d, e, f, i, j]) W := by
  obtain ⟨ts, hu⟩ := hu
  exact run_loadVar_row W g t _ _ fr _ h hu rfl hi
theorem ret8 {fn : Func} {R : Ending → World → Prop} {tmps : Array Value} {W : World} {p : Tmp} {tt : TypeId} (hf : fn.results = #[.cell p tt]) {g : Nat} {t : TypeId} {fr : Nat × Nat} {a b c d e f i j : Value}
    (hrow : W.heap[g]? = some (.cells #[a, b, c, d, e, f, i, j] t fr)) {ts : _} (hu : Tryz.prog.underlying tt = some (.struct ts)) (hi : (Tryz.prog.info? tt).map (·.size) = some 8) (h2 : tmps.getD p undef = .pointer (some ⟨g, 0, none⟩)) (hR : R (.returned (.agg #[a, b, c, d, e, f, i, j])) W) : bodyPost Tryz.prog fn R .ret ⟨tmps, []⟩ W :=
  bodyPost_ret (v := .agg #[a, b, c, d, e, f, i, j]) (results_cell_row hf tmps W g t _ fr _ h2 hrow hu rfl hi) rfl hR
def confV : Value := .agg #[.slice none 0 0, .slice none 0 0, .slice none 0 0, .slice none 0 0, .int .i64 100, .int .i64 1, .int .i64 3, .int .i64 50]
theorem default_any (w : World) : Calls Tryz.prog 21 #[] w fun e w' => e = .returned confV ∧ Only (fun _ => False) w w' := by
  go_enter Tryz.func21, Tryz.ntmps21
  go_wp2_with fail
  exact ret8 Tryz.results21 (b_new w _) Tryz.underlying67 (by kernel_rfl) rfl ⟨rfl, (Only.refl _ w).alloc _⟩
theorem poolNew_any (w : World) (x : Int) : Calls Tryz.prog 16 #[.int .i64 x] w fun e w' => ∃ b, e = .returned (.pointer (some ⟨b, 0, none⟩)) ∧ Only (fun _ => False) w w' := by
  have hmm := @run_makeMap Tryz.prog
  go_enter Tryz.func16, Tryz.ntmps16
  go_wp2_with fail
  go_ret
  exact ⟨_, rfl, ((Only.refl _ w).alloc _).alloc _⟩
theorem healthNew_any (w : World) : Calls Tryz.prog 17 #[] w fun e w' => ∃ b, e = .returned (.pointer (some ⟨b, 0, none⟩)) ∧ Only (fun _ => False) w w' := by
  have hmm := @run_makeMap Tryz.prog
  go_enter Tryz.func17, Tryz.ntmps17
  go_wp2_with fail
  go_ret
  exact ⟨_, rfl, ((((Only.refl _ w).alloc _).alloc _).alloc _).alloc _⟩
theorem clockNew_any (w : World) : Calls Tryz.prog 19 #[] w fun e w' => ∃ b ka, e = .returned (.pointer (some ⟨b, 0, none⟩)) ∧ w'.heap[b]? = some (.cells #[.int .i64 0, .slice none 0 0, .map (some ka)] 118 (0, 0)) ∧ w.heap.size ≤ b ∧ Only (fun _ => False) w w' := by
  have hmm := @run_makeMap Tryz.prog
  go_enter Tryz.func19, Tryz.ntmps19
  go_wp2_with fail
  go_ret
  have h1 := b_new (w.alloc (.map #[] 0)) (.cells #[.int .i64 0, .slice none 0 0, .map (some w.heap.size)] 118)
  rw [World.size_alloc] at h1
  exact ⟨w.heap.size + 1, w.heap.size, rfl, h1, by omega, ((Only.refl _ w).alloc _).alloc _⟩
theorem robinNew_any (w : World) (q : Nat) (h1 : 1 ≤ q) (h2 : q ≤ 1048576) : Calls Tryz.prog 20 #[.int .i64 (q : Int)] w fun e w' => e = .returned (.pointer (some ⟨w.heap.size, 0, none⟩)) ∧ w'.heap[w.heap.size]? = some (.cells #[.int .i64 (q : Int), .int .i64 0, .int .i64 0, .bool false] 120 (0, 0)) ∧ Only (fun _ => False) w w' := by
  go_enter Tryz.func20, Tryz.ntmps20
  have e1 : max (q : Int) 1 = (q : Int) := by omega
  have e2 : min (q : Int) 1048576 = (q : Int) := by omega
  go_wp2_with fail
  go_ret
  exact ⟨rfl, b_new _ _, (Only.refl _ w).alloc _⟩
def slotV (A : Option Addr) (c : Nat) (quota burst q : Int) : Value := .agg #[.string sT, .slice A 1 c, .int .i64 quota, .int .i64 4, .int .i64 4, .int .i64 3, .int .i64 burst, .int .i64 q]
theorem slotOf_any (w : World) (x y z quota burst q : Int) (h1 : 256 + x % 65536 = quota) (h2 : 1 + z % 64 = burst) (h3 : 1 + y % 1024 = q) : Calls Tryz.prog 5 #[.int .i64 x, .int .i64 y, .int .i64 z] w fun e w' => e = .returned (slotV (some ⟨w.heap.size + 1, 0, none⟩) 1 quota burst q) ∧ w'.heap[w.heap.size + 1]? = some (.cells #[.string ⟨#[104]⟩] 9) ∧ Only (fun _ => False) w w' := by
  subst h1 h2 h3
  go_enter Tryz.func5, Tryz.ntmps5
  go_wp2_with fail
  have hr := b_alloc (b_new w (.cells #[.string ⟨#[116]⟩, .slice (some ⟨w.heap.size + 1, 0, none⟩) 1 1, .int .i64 (256 + x % 65536), .int .i64 4, .int .i64 4, .int .i64 3, .int .i64 (1 + z % 64), .int .i64 (1 + y % 1024)] 26)) (.cells #[.string ⟨#[104]⟩] 9)
  refine ret8 Tryz.results5 hr Tryz.underlying26 (by kernel_rfl) rfl ⟨rfl, ?_, ((Only.refl _ w).alloc _).alloc _⟩
  have h := b_new (w.alloc (.cells #[.string ⟨#[116]⟩, .slice (some ⟨w.heap.size + 1, 0, none⟩) 1 1, .int .i64 (256 + x % 65536), .int .i64 4, .int .i64 4, .int .i64 3, .int .i64 (1 + z % 64), .int .i64 (1 + y % 1024)] 26)) (.cells #[.string ⟨#[104]⟩] 9)
  rw [World.size_alloc] at h
  exact h
end Go.Proofs.YtpblgjadpfecgaaGreatDoor
/-
  A region that draws its order, by an invariant: each operation once.
-/
namespace Go.Proofs.YtpblgjadpfecgaaGreatDoor
open Go.RowKit Go.Maps

section
def unl : List Bool → Nat
  | [] => 0
  | b :: t => (if b then 0 else 1) + unl t
theorem unl_set : ∀ (l : List Bool) (i : Nat), l[i]? = some false → unl (l.set i true) + 1 = unl l
  | [], i, h => by simp at h
  | b :: t, 0, h => by
    simp at h
    subst h
    simp [unl]
    omega
  | b :: t, i + 1, h => by
    have := unl_set t i (by simpa using h)
    simp only [List.set_cons_succ, unl]
    omega
theorem unl_zero : ∀ (l : List Bool) (i : Nat), unl l = 0 → l[i]? ≠ some false
  | [], i, _ => by simp
  | b :: t, 0, h => by
    cases b with
    | true => simp
    | false => simp [unl] at h
  | b :: t, i + 1, h => by
    have := unl_zero t i (by simp only [unl] at h; omega)
    simpa using this
theorem getD_false {l : Array Bool} {i : Nat} (h : l.getD i true = false) : l.toList[i]? = some false := by
  rw [Array.getD_eq_getD_getElem?] at h
  rw [Array.getElem?_toList]
  cases hx : l[i]? with
  | none => rw [hx] at h; cases h
  | some b => rw [hx] at h; cases b with
    | true => cases h
    | false => rfl
theorem wpAny_inv {P : Program} {ops : Array Oper} {Q : Exit → Act → World → Prop} {md : Region.Mode} (Inv : Array Bool → Act → World → Prop)
    (hstep : ∀ listed a w i, i ∈ Region.ready md ops listed → Inv listed a w → wpOp P ops Q i (fun a' w' => Inv (listed.setIfInBounds i true) a' w') a w)
    (hdone : ∀ listed a w, Region.ready md ops listed = [] → Inv listed a w → Q .normal a w) :
    ∀ (fuel : Nat) (listed : Array Bool) (a : Act) (w : World), unl listed.toList ≤ fuel → Inv listed a w → wpAny P md ops Q fuel listed a w
  | 0, listed, a, w, hf, h => by
    have hr : Region.ready md ops listed = [] := by
      cases hc : Region.ready md ops listed with
      | nil => rfl
      | cons i t =>
        have hi : i ∈ Region.ready md ops listed := by rw [hc]; simp
        exact absurd (getD_false (mem_ready.1 hi).1) (unl_zero _ _ (by omega))
    exact ⟨hr, hdone listed a w hr h⟩
  | fuel + 1, listed, a, w, hf, h => ⟨fun hr => hdone listed a w hr h, fun i hi => wpOp_mono (fun a' w' h' => wpAny_inv Inv hstep hdone fuel _ a' w' (by
      have h1 := unl_set _ _ (getD_false (mem_ready.1 hi).1)
      rw [Array.toList_setIfInBounds]
      omega) h') (hstep listed a w i hi h)⟩
/-- Where each operation waits for earlier ones alone: at the end all are listed. -/
theorem all_listed {md : Region.Mode} {ops : Array Oper} {listed : Array Bool} (hlow : ops.toList.zipIdx.all (fun p => p.1.after.all (fun e => decide (e.on < p.2))) = true) (hs : listed.size = ops.size) (hr : Region.ready md ops listed = []) : ∀ i, i < ops.size → listed.getD i true = true := by
  intro i
  induction i using Nat.strongRecOn with
  | _ i ih =>
    intro hi
    cases hc : listed.getD i true with
    | true => rfl
    | false =>
      have hm : i ∈ Region.ready md ops listed := by
        refine mem_ready.2 ⟨hc, ops[i], Array.getElem?_eq_getElem hi, fun e he _ => ?_⟩
        have h1 := List.all_eq_true.1 hlow (ops[i], i) (by
          rw [List.mem_zipIdx_iff_getElem?]
          simp [Array.getElem?_eq_getElem hi])
        have h2 := Array.all_eq_true_iff_forall_mem.1 h1 e he
        have h3 : e.on < i := by simpa using h2
        have h4 := ih e.on h3 (by omega)
        have h5 : e.on < listed.size := by omega
        simp only [Array.getD_eq_getD_getElem?, Array.getElem?_eq_getElem h5, Option.getD_some] at h4 ⊢
        exact h4
      rw [hr] at hm
      cases hm
end
end Go.Proofs.YtpblgjadpfecgaaGreatDoor
